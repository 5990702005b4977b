/- Each operation of the evaluator agrees with the model's run of it. -/
import Derived.Test.YtacciadcmiiimaaSyVec
namespace Go.Sx
open Go.RowKit
section
variable {P : Program} {I : World → Prop} {S : Sigs} {F : FEnv} {E : Env} {ν : Nat → DV}

theorem Off.plus_spec (o : Off) (k : Nat) : (o.plus k).val ν = o.val ν + k ∧ (o.good ν → (o.plus k).good ν) := by
  cases o with
  | c n => exact ⟨rfl, id⟩
  | s b ix sz len => exact ⟨by simp [Off.plus, Off.val]; omega, id⟩
  | v b ix sz a => exact ⟨by simp [Off.plus, Off.val]; omega, id⟩
  | d b ix sz len ix2 sz2 len2 => exact ⟨by simp [Off.plus, Off.val]; omega, id⟩

theorem boundsOk_sat {ix : A} {len : Nat} : M.sat F ν (boundsOk ix len) (fun _ => 0 ≤ ix.int ν ∧ ix.int ν < len) := by
  unfold boundsOk
  refine sat_bind (sat_emit (Q := fun r => r.bool ν = decide (ix.int ν ≥ 0)) fun r h => A.bool_of_den h) fun r hr => ?_
  refine sat_bind (sat_owe (Q := fun _ => 0 ≤ ix.int ν) fun h => by rw [hr] at h; simpa using h) fun _ h0 => ?_
  refine sat_bind (sat_emit (Q := fun r => r.bool ν = decide (ix.int ν < (len : Int))) fun r h => A.bool_of_den h) fun r hr => ?_
  exact sat_owe fun h => by rw [hr] at h; exact ⟨h0, by simpa using h⟩

theorem evIndexAddr_sat {t : TypeId} {x ix : Lf} (hx : x.good ν) : M.sat F ν (evIndexAddr P t x ix) (fun l => l.good ν ∧ ∀ (ρ : Nat → Loc) (w : World),
    (Instr.indexAt t (x.conc ν ρ) (ix.conc ν ρ)).run P w = .ok (l.conc ν ρ) w) := by
  unfold evIndexAddr
  refine sat_bind (sat_lift (Q := fun k => tk P t = some k) fun a h => h) fun k hk => ?_
  split
  · rename_i len elem blk off ki a
    have hu := tk_arr hk
    refine sat_bind (sat_lift (Q := fun k => tsize P elem = some k) fun a h => h) fun sz hs => ?_
    have run : ∀ (ρ : Nat → Loc) (w : World), 0 ≤ a.int ν → a.int ν < len →
        (Instr.indexAt t ((Lf.p blk off).conc ν ρ) ((Lf.i ki a).conc ν ρ)).run P w = .ok (.pointer (some ⟨(ρ blk).blk, (ρ blk).off + off.val ν + (a.int ν).toNat * sz, none⟩)) w := fun ρ w h0 h1 => by
      simp [Instr.indexAt, asIntOf, Lf.conc, run_underlying hu, Instr.sureAddr, h0, h1, run_size hs, addr_add]
    split
    · rename_i n
      refine sat_ite (fun h => ?_) (fun _ => sat_fail)
      refine sat_pure ⟨(Off.plus_spec off _).2 hx, fun ρ w => ?_⟩
      rw [run ρ w h.1 h.2]
      simp [Lf.conc, (Off.plus_spec (ν := ν) off _).1, Nat.add_assoc]
    · split
      · rename_i o
        refine sat_bind boundsOk_sat fun _ hb => sat_pure ⟨hb, fun ρ w => ?_⟩
        rw [run ρ w hb.1 hb.2]
        simp [Lf.conc, Off.val, Nat.add_assoc]
      · rename_i o ix0 sz0 len0
        refine sat_bind boundsOk_sat fun _ hb => sat_pure ⟨⟨hx, hb⟩, fun ρ w => ?_⟩
        rw [run ρ w hb.1 hb.2]
        simp [Lf.conc, Off.val, Nat.add_assoc]
      · exact sat_fail
  · rename_i len elem g off ki a
    have hu := tk_arr hk
    refine sat_bind (sat_lift (Q := fun k => tsize P elem = some k) fun a h => h) fun sz hs => ?_
    have run : ∀ (ρ : Nat → Loc) (w : World), 0 ≤ a.int ν → a.int ν < len →
        (Instr.indexAt t ((Lf.gp g off).conc ν ρ) ((Lf.i ki a).conc ν ρ)).run P w = .ok (.pointer (some ⟨g, off.val ν + (a.int ν).toNat * sz, none⟩)) w := fun ρ w h0 h1 => by
      simp [Instr.indexAt, asIntOf, Lf.conc, run_underlying hu, Instr.sureAddr, h0, h1, run_size hs, addr_add]
    split
    · rename_i n
      refine sat_ite (fun h => ?_) (fun _ => sat_fail)
      refine sat_pure ⟨(Off.plus_spec off _).2 hx, fun ρ w => ?_⟩
      rw [run ρ w h.1 h.2]
      simp [Lf.conc, (Off.plus_spec (ν := ν) off _).1]
    · split
      · rename_i o
        refine sat_bind boundsOk_sat fun _ hb => sat_pure ⟨hb, fun ρ w => ?_⟩
        rw [run ρ w hb.1 hb.2]
        simp [Lf.conc, Off.val]
      · exact sat_fail
  · exact sat_fail

theorem evIndex_sat {t : TypeId} {x : List Lf} {ix : Lf} (hx : ∀ l ∈ x, Lf.good ν l) : M.sat F ν (evIndex P t x ix) (fun v => v.good ν ∧ ∀ (ρ : Nat → Loc) (w : World),
    (Instr.index t (.agg (x.map (Lf.conc ν ρ)).toArray) (ix.conc ν ρ)).run P w = .ok (v.conc ν ρ) w) := by
  unfold evIndex
  refine sat_bind (sat_lift (Q := fun k => tk P t = some k) fun a h => h) fun k hk => ?_
  split
  · rename_i len elem ki a
    have hu := tk_arr hk
    refine sat_bind (sat_lift (Q := fun k => tk P elem = some k) fun a h => h) fun ke hke => ?_
    refine sat_bind (sat_lift (Q := fun k => tsize P elem = some k) fun a h => h) fun sz hs => ?_
    have run : ∀ (ρ : Nat → Loc) (w : World), 0 ≤ a.int ν → a.int ν < len →
        (Instr.index t (.agg (x.map (Lf.conc ν ρ)).toArray) ((Lf.i ki a).conc ν ρ)).run P w = (part elem (x.map (Lf.conc ν ρ)).toArray ((a.int ν).toNat * sz)).run P w := fun ρ w h0 h1 => by
      simp [Instr.index, asIntOf, Lf.conc, run_underlying hu, h0, h1, run_size hs]
    split
    · rename_i n
      refine sat_ite (fun h => ?_) (fun _ => sat_fail)
      refine sat_mono (partOf_sat hx) fun v hv => ⟨hv.1, fun ρ w => ?_⟩
      rw [run ρ w h.1 h.2]
      exact hv.2 ρ w
    · refine sat_bind boundsOk_sat fun _ hb => ?_
      refine sat_ite (fun ha => ?_) (fun ha => ?_)
      · refine sat_bind (selAgg_sat hb.1 hb.2 sz 0) fun xs hxs => sat_pure ⟨V1.good_agg.2 hxs.2.1, fun ρ w => ?_⟩
        rw [run ρ w hb.1 hb.2]
        simp only [part, Sem.run_bind, run_isAgg hke, ha, Result.andThen_ok, if_true, run_size hs, Sem.run_pure, V1.conc]
        congr 2
        apply Array.ext'
        rw [Array.toList_extract, List.extract_eq_take_drop]
        apply List.ext_getElem?
        intro j
        rw [List.getElem?_take]
        by_cases hj : j < sz
        · obtain ⟨u, y, h1, h2, h3⟩ := hxs.2.2 ρ j hj
          rw [nth_map_some] at h2
          rw [if_pos (by omega), List.getElem?_drop]
          simp only [List.getElem?_map, h1, Option.map_some]
          rw [show (A.int ν a).toNat * sz + j = 0 + j + (A.int ν a).toNat * sz from by omega, h2]
          simp [h3]
        · rw [if_neg (by omega)]
          simp only [List.getElem?_map]
          rw [List.getElem?_eq_none (by have := hxs.1; omega)]
          rfl
      · refine sat_bind (sat_lift (Q := fun row => rowCells (x.map some) 0 sz len = some row) fun a h => h) fun row hrow => ?_
        obtain ⟨h1, h2⟩ := rowCells_spec hrow
        refine sat_bind (selLeaf_sat h1 hb.1 hb.2) fun u hu' => sat_pure ⟨V1.good_one.2 hu'.1, fun ρ w => ?_⟩
        rw [run ρ w hb.1 hb.2]
        obtain ⟨y, hy, he⟩ := hu'.2 ρ
        rw [← h2 _ (by have := hb.1; have := hb.2; omega), nth_map_some, Nat.zero_add] at hy
        simp [part, run_isAgg hke, ha, hy, V1.conc, he]
  · exact sat_fail

theorem evField_sat {t : TypeId} {x : List Lf} {f : Nat} (hx : ∀ l ∈ x, Lf.good ν l) : M.sat F ν (evField P t x f) (fun v => v.good ν ∧ ∀ (ρ : Nat → Loc) (w : World),
    (Instr.field t (.agg (x.map (Lf.conc ν ρ)).toArray) f).run P w = .ok (v.conc ν ρ) w) := by
  unfold evField
  refine sat_bind (sat_lift (Q := fun k => tk P t = some k) fun a h => h) fun k hk => ?_
  split
  · rename_i fs
    obtain ⟨fl, hu, hfs⟩ := tk_struct hk
    refine sat_bind (sat_lift (Q := fun fd => fs[f]? = some fd) fun a h => h) fun fd hfd => ?_
    subst hfs
    rw [List.getElem?_map] at hfd
    obtain ⟨g, hg, rfl⟩ := Option.map_eq_some_iff.1 hfd
    refine sat_mono (partOf_sat hx) fun v hv => ⟨hv.1, fun ρ w => ?_⟩
    have hg' : fl[f]? = some g := by simpa using hg
    simp only [Instr.field, Sem.run_bind, run_underlying hu, Result.andThen_ok, hg', asAgg, Sem.run_pure]
    exact hv.2 ρ w
  · exact sat_fail

theorem evFieldAddr_sat {t : TypeId} {x : Lf} {f : Nat} (hx : x.good ν) : M.sat F ν (evFieldAddr P t x f) (fun l => l.good ν ∧ ∀ (ρ : Nat → Loc) (w : World),
    (Instr.fieldAt t (x.conc ν ρ) f).run P w = .ok (l.conc ν ρ) w) := by
  unfold evFieldAddr
  refine sat_bind (sat_lift (Q := fun k => tk P t = some k) fun a h => h) fun k hk => ?_
  split
  · rename_i fs blk off
    obtain ⟨fl, hu, hfs⟩ := tk_struct hk
    refine sat_bind (sat_lift (Q := fun fd => fs[f]? = some fd) fun a h => h) fun fd hfd => ?_
    refine sat_bind (sat_lift (Q := fun k => tsize P fd.2 = some k) fun a h => h) fun sz hs => ?_
    refine sat_ite (fun _ => sat_fail) (fun hz => ?_)
    have hz' : sz ≠ 0 := fun h => hz (by subst h; rfl)
    subst hfs
    rw [List.getElem?_map] at hfd
    obtain ⟨g, hg, rfl⟩ := Option.map_eq_some_iff.1 hfd
    refine sat_pure ⟨(Off.plus_spec off _).2 hx, fun ρ w => ?_⟩
    have hg' : fl[f]? = some g := by simpa using hg
    simp [Instr.fieldAt, run_underlying hu, hg', Lf.conc, Instr.sureAddr, fieldPlace, run_size hs, hz', addr_add, (Off.plus_spec (ν := ν) off _).1, Nat.add_assoc]
  · rename_i fs gl off
    obtain ⟨fl, hu, hfs⟩ := tk_struct hk
    refine sat_bind (sat_lift (Q := fun fd => fs[f]? = some fd) fun a h => h) fun fd hfd => ?_
    refine sat_bind (sat_lift (Q := fun k => tsize P fd.2 = some k) fun a h => h) fun sz hs => ?_
    refine sat_ite (fun _ => sat_fail) (fun hz => ?_)
    have hz' : sz ≠ 0 := fun h => hz (by subst h; rfl)
    subst hfs
    rw [List.getElem?_map] at hfd
    obtain ⟨g, hg, rfl⟩ := Option.map_eq_some_iff.1 hfd
    refine sat_pure ⟨(Off.plus_spec off _).2 hx, fun ρ w => ?_⟩
    have hg' : fl[f]? = some g := by simpa using hg
    simp [Instr.fieldAt, run_underlying hu, hg', Lf.conc, Instr.sureAddr, fieldPlace, run_size hs, hz', addr_add, (Off.plus_spec (ν := ν) off _).1]
  · exact sat_fail

theorem rdAll_spec {ρ : Nat → Loc} {r : RS} {a : Act} {ctx : Ctx} (h : ARel ν ρ r a) (hc : CtxOk ctx a) : ∀ {xs : List Operand} {vs : List V}, rdAll r ctx xs = some vs → xs.map a.eval = vs.map (V.conc ν ρ)
  | [], vs, hv => by simp [rdAll] at hv; subst hv; rfl
  | x :: xs, vs, hv => by
    simp only [rdAll] at hv
    cases h1 : rd r ctx x with
    | none => simp [h1] at hv
    | some v =>
      simp only [h1] at hv
      cases h2 : rdAll r ctx xs with
      | none => simp [h2] at hv
      | some vs' =>
        simp only [h2, Option.some.injEq] at hv
        subst hv
        simp only [List.map_cons, (rd_spec h hc h1).2, rdAll_spec h hc h2]

theorem evPick_sat {r : RS} {ctx : Ctx} {c a b : Operand} : M.sat F ν (evPick r ctx c a b) (fun v => ∀ ρ act, ARel ν ρ r act → CtxOk ctx act →
    v.good ν ∧ ∃ t : Bool, act.eval c = .bool t ∧ (if t then act.eval a else act.eval b) = v.conc ν ρ) := by
  unfold evPick
  split
  · rename_i hc
    refine sat_lift fun v hv ρ act har hctx => ?_
    have h1 := (rd_spec har hctx hc).2
    have h2 := rd_spec har hctx hv
    exact ⟨h2.1, true, h1, h2.2⟩
  · rename_i hc
    refine sat_lift fun v hv ρ act har hctx => ?_
    have h1 := (rd_spec har hctx hc).2
    have h2 := rd_spec har hctx hv
    exact ⟨h2.1, false, h1, h2.2⟩
  · rename_i x _ _ hc
    refine sat_bind (sat_lift (Q := fun va => rd r (match c with | .tmp t => ((t, true) :: ctx, (t, false) :: ctx) | _ => (ctx, ctx)).1 a = some va) fun v h => h) fun va hva => ?_
    refine sat_bind (sat_lift (Q := fun vb => rd r (match c with | .tmp t => ((t, true) :: ctx, (t, false) :: ctx) | _ => (ctx, ctx)).2 b = some vb) fun v h => h) fun vb hvb => ?_
    refine sat_mono mergeOrFail_sat fun v hv ρ act har hctx => ?_
    have h1 := (rd_spec har hctx hc).2
    have h1' : act.eval c = .bool (x.bool ν) := h1
    have hsl : ∀ t, c = .tmp t → act.tmps[t]? = some (.bool (x.bool ν)) := by
      intro t ht
      subst ht
      exact (slot_spec har hctx (show r.slot ctx t = some _ from hc)).2
    cases hx : x.bool ν with
    | true =>
      have hca : CtxOk (match c with | .tmp t => ((t, true) :: ctx, (t, false) :: ctx) | _ => (ctx, ctx)).1 act := by
        split
        · intro p hp
          rcases List.mem_cons.1 hp with rfl | h
          · rw [hsl _ rfl, hx]
          · exact hctx p h
        · exact hctx
      have h2 := rd_spec har hca hva
      have h3 := hv.1 hx
      exact ⟨h3.2 h2.1, true, by rw [h1', hx], by simp only [if_true]; rw [h3.1 ρ]; exact h2.2⟩
    | false =>
      have hcb : CtxOk (match c with | .tmp t => ((t, true) :: ctx, (t, false) :: ctx) | _ => (ctx, ctx)).2 act := by
        split
        · intro p hp
          rcases List.mem_cons.1 hp with rfl | h
          · rw [hsl _ rfl, hx]
          · exact hctx p h
        · exact hctx
      have h2 := rd_spec har hcb hvb
      have h3 := hv.2 hx
      exact ⟨h3.2 h2.1, false, by rw [h1', hx], by simp only [Bool.false_eq_true, if_false]; rw [h3.1 ρ]; exact h2.2⟩
  · exact sat_fail

theorem Lf.conc_scalar {l : Lf} (h : l.scalar = true) (ρ ρ' : Nat → Loc) : l.conc ν ρ = l.conc ν ρ' := by
  cases l <;> first | rfl | cases h
theorem V1.conc_scalar {v : V1} (h : v.cells.all Lf.scalar = true) (ρ ρ' : Nat → Loc) : v.conc ν ρ = v.conc ν ρ' := by
  cases v with
  | one l => exact Lf.conc_scalar (by simpa [V1.cells] using h) ρ ρ'
  | agg l =>
    simp only [V1.conc]
    congr 2
    exact List.map_congr_left fun y hy => Lf.conc_scalar (List.all_eq_true.1 h y hy) ρ ρ'

/-- The operation's run, as the evaluator tells it. -/
theorem rdParts_spec {ρ : Nat → Loc} {r : RS} {a : Act} {ctx : Ctx} (h : ARel ν ρ r a) (hc : CtxOk ctx a) : ∀ {xs : List (Nat × Operand)} {vs : List (Nat × V1)}, rdParts r ctx xs = some vs →
    xs.map (fun p => (p.1, a.eval p.2)) = vs.map (fun p => (p.1, p.2.conc ν ρ)) ∧ ∀ p ∈ vs, p.2.good ν
  | [], vs, hv => by simp [rdParts] at hv; subst hv; exact ⟨rfl, fun p hp => by cases hp⟩
  | x :: xs, vs, hv => by
    simp only [rdParts] at hv
    split at hv
    · rename_i v h1
      split at hv
      · cases hv
      · rename_i vs' h2
        cases hv
        have e1 := rd_spec h hc h1
        have e2 := rdParts_spec h hc h2
        refine ⟨by simp only [List.map_cons, e2.1, e1.2]; rfl, fun p hp => ?_⟩
        rcases List.mem_cons.1 hp with rfl | hp
        · exact e1.1
        · exact e2.2 p hp
    · cases hv

theorem run_mapM_sizes {f : Field → Nat × TypeId} (hf : ∀ d, f d = (d.offset, d.type)) (w : World) : ∀ (l : List Field) (places : List (Nat × Nat)),
    allSome (fun f : Nat × TypeId => (tsize P f.2).map fun n => (f.1, n)) (l.map f) = some places →
    (l.mapM fun (d : Field) => (do pure (d.offset, ← sizeOf d.type) : Sem (Nat × Nat))).run P w = .ok places w
  | [], places, h => by simp [allSome] at h; subst h; simp
  | d :: l, places, h => by
    simp only [List.map_cons, allSome, hf] at h
    split at h
    · cases h
    · rename_i b hb
      split at h
      · cases h
      · rename_i r hr
        cases h
        obtain ⟨n, hn, rfl⟩ := Option.map_eq_some_iff.1 hb
        simp only [List.mapM_cons, Sem.run_bind, run_size hn, Result.andThen_ok, Sem.run_pure, run_mapM_sizes hf w l r hr]

theorem evBuild_spec {t : TypeId} {ps : List (Nat × V1)} {r : List Lf} (h : evBuild P t ps = some r) (hg : ∀ p ∈ ps, p.2.good ν) : (∀ x ∈ r, Lf.good ν x) ∧ ∀ (ρ : Nat → Loc) (w : World),
    (Instr.build t (ps.map fun p => (p.1, p.2.conc ν ρ)).toArray).run P w = .ok (.agg (r.map (Lf.conc ν ρ)).toArray) w := by
  unfold evBuild at h
  split at h
  · cases h
  · rename_i z hz
    unfold zeroCells at hz
    split at hz
    · cases hz
    · rename_i i hi
      split at hz
      · cases hz
      · rename_i zv hzv
        have hzs := ofLeaves_spec (ν := ν) hz
        have hzero : ∀ w, (zeroValue t).run P w = .ok zv w := fun w => by simp [zeroValue, typeInfo, hi, hzv]
        have hin : ∀ ρ, zv.cells.toList = z.map (Lf.conc ν ρ) := fun ρ => (hzs.2 ρ).symm
        split at h
        · rename_i fs hk
          obtain ⟨fl, hu, hfs⟩ := tk_struct hk
          split at h
          · cases h
          · rename_i places hpl
            refine ⟨fillC_good _ _ _ hzs.1 hg h, fun ρ w => ?_⟩
            obtain ⟨B, hB, hB2⟩ := fillC_spec (ν := ν) (ρ := ρ) (place' := fun i => places.toArray[i]?) (fun i => by simp) ps z r zv.cells (hin ρ) h
            subst hfs
            have hm := run_mapM_sizes (P := P) (fun _ => rfl) w fl.toList places hpl
            simp only [Instr.build, Sem.run_bind, hzero, Result.andThen_ok, run_underlying hu, Array.mapM_eq_mapM_toList, Sem.run_map, hm]
            rw [hB, ← hB2]
            rfl
        · rename_i len elem hk
          have hu := tk_arr hk
          split at h
          · cases h
          · rename_i sz hs
            refine ⟨fillC_good _ _ _ hzs.1 hg h, fun ρ w => ?_⟩
            obtain ⟨B, hB, hB2⟩ := fillC_spec (ν := ν) (ρ := ρ) (place' := fun i => some (i * sz, sz)) (fun i => rfl) ps z r zv.cells (hin ρ) h
            simp only [Instr.build, Sem.run_bind, hzero, Result.andThen_ok, run_underlying hu, run_size hs, Sem.run_pure, hB]
            rw [← hB2]
        · cases h

theorem rdAll_good {ρ : Nat → Loc} {r : RS} {a : Act} {ctx : Ctx} (h : ARel ν ρ r a) (hc : CtxOk ctx a) : ∀ {xs : List Operand} {vs : List V}, rdAll r ctx xs = some vs → ∀ v ∈ vs, V.good ν v
  | [], vs, hv => by simp [rdAll] at hv; subst hv; intro v hv; cases hv
  | x :: xs, vs, hv => by
    simp only [rdAll] at hv
    cases h1 : rd r ctx x with
    | none => simp [h1] at hv
    | some v =>
      simp only [h1] at hv
      cases h2 : rdAll r ctx xs with
      | none => simp [h2] at hv
      | some vs' =>
        simp only [h2, Option.some.injEq] at hv
        subst hv
        intro u hu
        rcases List.mem_cons.1 hu with rfl | hu
        · exact (rd_spec h hc h1).1
        · exact rdAll_good h hc h2 u hu

theorem evStore_sat {r : RS} {ctx : Ctx} {o : Oper} {t : TypeId} {x y : Operand} (hop : o.op = .store t x y) : M.sat F ν (evStore P r ctx t x y) (fun hp' => ∀ ρ a, ARel ν ρ r a → CtxOk ctx a →
  ∀ w, HS E ν ρ r.st.hp w → ∃ w', (execOp a.eval o).run P w = .ok .skip w' ∧ HS E ν ρ hp' w') := by
  unfold evStore
  refine sat_bind (sat_lift (Q := fun v => rd r ctx x = some v) fun a h => h) fun v hv => ?_
  refine sat_bind (sat_lift (Q := fun v => rd r ctx y = some v) fun a h => h) fun u hu => ?_
  split
  · rename_i b off v1
    refine sat_bind (sat_lift (Q := fun k => tsize P t = some k) fun a h => h) fun sz hs => ?_
    refine sat_bind (sat_lift (Q := fun bk => nth r.st.hp b = some bk) fun a h => h) fun bk hbk => ?_
    split
    · rename_i cs
      refine sat_ite (fun hcond => ?_) (fun _ => sat_fail)
      simp only [Bool.and_eq_true] at hcond
      obtain ⟨hlen, hok⟩ := hcond
      have hlen := Nat.eq_of_beq_eq_true hlen
      by_cases hg : off.good ν
      · refine sat_bind (storeCellsAt_desc hg) fun cs' hd => sat_pure fun ρ a ha hc w hw => ?_
        have h1 := rd_spec ha hc hv
        have h2 := rd_spec ha hc hu
        have hb0 : CBlk ν ρ w (ρ b) true cs := hw.heap.blk b _ hbk
        have hst := CBlk.store (P := P) hb0 hd h2.1 (by simpa using hok)
        have hcells : (a.eval y).cells.toList = v1.cells.map (Lf.conc ν ρ) := by
          rw [h2.2]
          cases v1 with
          | one l =>
            have h1 : (l.conc ν ρ).oneCell' = true := Lf.ok_conc (by simpa [V1.cells] using hok) ρ
            simp only [V.conc, V1.conc, V1.cells, cells_one h1, List.map_cons, List.map_nil]
          | agg l => simp [V.conc, V1.conc, V1.cells, Value.cells]
        have hsz : (a.eval y).cells.size = sz := by
          rw [← Array.length_toList, hcells]; simpa using hlen
        refine ⟨_, ?_, hw.upd (w' := w.setCells (ρ b).blk ((ρ b).off + off.val ν) (v1.cells.map (Lf.conc ν ρ))) hbk rfl rfl hst.2 hb0.nil (setCells_size _ _ _ _) (setCells_os _ _ _ _).1 (setCells_os _ _ _ _).2.1 (setCells_os _ _ _ _).2.2 (fun k hk => setCells_block _ _ _ _ k hk)⟩
        simp [execOp, hop, h1.2, V.conc, V1.conc, Lf.conc, Instr.storeAt, Instr.sureAddr, storeVar, run_size hs, hsz, hcells, hst.1]
      · refine sat_bind sat_true fun v _ => sat_pure fun ρ a ha hc => ?_
        exact absurd ((rd_spec ha hc hv).1 (.p b off) (by simp [V1.cells])) hg
    · rename_i ts q
      refine sat_ite (fun hcond => ?_) (fun _ => sat_fail)
      simp only [Bool.and_eq_true] at hcond
      obtain ⟨hlen, hpos⟩ := hcond
      have hlen := Nat.eq_of_beq_eq_true hlen
      have hpos : 0 < sz := Nat.le_of_ble_eq_true hpos
      have hne : v1.cells ≠ [] := fun e => by rw [e] at hlen; simp at hlen; omega
      by_cases hg : off.good ν
      · refine sat_bind (storeRow_sat (P := P) (E := E) hg hne) fun q' hd => sat_pure fun ρ a ha hc w hw => ?_
        have h1 := rd_spec ha hc hv
        have h2 := rd_spec ha hc hu
        have hb0 : VRel E w (ρ b) true ts (q.cells ν) := hw.heap.blk b _ hbk
        obtain ⟨d1, d2, d3, d4⟩ := hd ρ w (ρ b) hb0
        have hcells : (a.eval y).cells.toList = v1.cells.map (Lf.conc ν ρ) := by
          rw [h2.2, show (V.s v1).conc ν ρ = v1.conc ν ρ from rfl, V1.cells_conc (List.all_eq_true.2 d2) ρ]
        have hsz : (a.eval y).cells.size = sz := by
          rw [← Array.length_toList, hcells]; simpa using hlen
        refine ⟨_, ?_, hw.upd (w' := w.setCells (ρ b).blk ((ρ b).off + off.val ν) (v1.cells.map (Lf.conc ν ρ))) (nb := .v true ts q') hbk rfl rfl d4 d1 (setCells_size _ _ _ _) (setCells_os _ _ _ _).1 (setCells_os _ _ _ _).2.1 (setCells_os _ _ _ _).2.2 (fun k hk => setCells_block _ _ _ _ k hk)⟩
        simp [execOp, hop, h1.2, V.conc, V1.conc, Lf.conc, Instr.storeAt, Instr.sureAddr, storeVar, run_size hs, hsz, hcells, d3]
      · refine sat_bind sat_true fun v _ => sat_pure fun ρ a ha hc => ?_
        exact absurd ((rd_spec ha hc hv).1 (.p b off) (by simp [V1.cells])) hg
    · exact sat_fail
  · exact sat_fail

theorem evStore_at {r : RS} {ctx : Ctx} {t : TypeId} {x y : Operand} {b : Nat} {off : Off} (hx : rd r ctx x = some (.s (.one (.p b off)))) : M.sat F ν (evStore P r ctx t x y) (fun hp' => ∀ j, j ≠ b → nth hp' j = nth r.st.hp j) := by
  unfold evStore
  refine sat_bind (sat_lift (Q := fun v => rd r ctx x = some v) fun a h => h) fun v hv => ?_
  refine sat_bind sat_true fun u _ => ?_
  rw [hx] at hv
  cases hv
  split
  · rename_i b' off' v1 he
    cases he
    refine sat_bind sat_true fun sz _ => sat_bind sat_true fun bk _ => ?_
    split
    · exact sat_ite (fun _ => sat_bind sat_true fun _ _ => sat_pure fun j hj => nth_setNth_ne _ _ _ _ (Ne.symm hj)) (fun _ => sat_fail)
    · exact sat_ite (fun _ => sat_bind sat_true fun _ _ => sat_pure fun j hj => nth_setNth_ne _ _ _ _ (Ne.symm hj)) (fun _ => sat_fail)
    · exact sat_fail
  · exact sat_fail

theorem leafOpt_spec {ρ : Nat → Loc} {r : RS} {a : Act} {ctx : Ctx} (h : ARel ν ρ r a) (hc : CtxOk ctx a) {x : Option Operand} {l : Option Lf} (hl : leafOpt r ctx x = some l) : x.map a.eval = l.map (Lf.conc ν ρ) := by
  unfold leafOpt at hl
  split at hl
  · cases hl; rfl
  · split at hl
    · rename_i hrd
      cases hl
      simp only [Option.map_some]
      rw [(rd_spec h hc hrd).2]
      rfl
    · cases hl

theorem capOf_spec (ρ : Nat → Loc) : ∀ {vs : List V} {bs : List Nat}, allSome capOf vs = some bs → vs.map (V.conc ν ρ) = bs.map fun b => Value.pointer (some ⟨(ρ b).blk, (ρ b).off + 0, none⟩)
  | [], bs, h => by simp [allSome] at h; subst h; rfl
  | v :: l, bs, h => by
    simp only [allSome] at h
    cases hf : capOf v with
    | none => simp [hf] at h
    | some b =>
      simp only [hf] at h
      cases hr : allSome capOf l with
      | none => simp [hr] at h
      | some r =>
        simp only [hr, Option.some.injEq] at h
        subst h
        unfold capOf at hf
        split at hf
        · cases hf
          simp only [List.map_cons]
          rw [capOf_spec ρ hr]
          rfl
        · cases hf
theorem fnOf_spec {ρ : Nat → Loc} {r : RS} {a : Act} {ctx : Ctx} (h : ARel ν ρ r a) (hc : CtxOk ctx a) {x : Operand} {f : Nat} {bs : List Nat} (hf : fnOf (rd r ctx x) = some (f, bs)) :
    a.eval x = .func (.func f) #[] (capsConc ρ bs) := by
  unfold fnOf at hf
  split at hf
  · rename_i g u v hrd
    split at hf
    · rename_i hc2
      cases hf
      simp only [Bool.and_eq_true] at hc2
      rw [(rd_spec h hc hrd).2]
      simp only [V.conc, V1.conc, Lf.conc]
      rw [Array.eq_empty_of_size_eq_zero (Nat.eq_of_beq_eq_true hc2.1), Array.eq_empty_of_size_eq_zero (Nat.eq_of_beq_eq_true hc2.2)]
      rfl
    · cases hf
  · rename_i g u hrd
    cases hf
    exact (rd_spec h hc hrd).2
  · cases hf

theorem evOp_sat {K : Nat} (hS : SigsOK P I K S F) (hE : E.Ok K) {r : RS} {ctx : Ctx} {o : Oper} : M.sat F ν (evOp P S r ctx o.op) (fun res => ∀ ρ a, ARel ν ρ r a → CtxOk ctx a →
    ORok P I E ν ρ r.st.hp (execOp a.eval o) res) := by
  cases hop : o.op <;> simp only [evOp]
  case move x =>
    refine sat_bind (sat_lift (Q := fun v => rd r ctx x = some v) fun a h => h) fun v hv => sat_pure fun ρ a ha hc => ?_
    have := rd_spec ha hc hv
    exact ORok.now this.1 fun w _ => by simp [execOp, hop, this.2]
  case assign x =>
    refine sat_bind (sat_lift (Q := fun v => rd r ctx x = some v) fun a h => h) fun v hv => sat_pure fun ρ a ha hc => ?_
    have := rd_spec ha hc hv
    exact ORok.now this.1 fun w _ => by simp [execOp, hop, this.2]
  case pick c x y =>
    refine sat_bind evPick_sat fun v hv => sat_pure fun ρ a ha hc => ?_
    obtain ⟨hg, t, h1, h2⟩ := hv ρ a ha hc
    exact ORok.now hg fun w _ => by simp [execOp, hop, h1, asBool, ← h2]
  case build t parts =>
    refine sat_bind (sat_lift (Q := fun v => rdParts r ctx parts.toList = some v) fun a h => h) fun ps hps => ?_
    refine sat_bind (sat_lift (Q := fun v => evBuild P t ps = some v) fun a h => h) fun cs hcs => sat_pure fun ρ a ha hc => ?_
    have h1 := rdParts_spec ha hc hps
    have h2 := evBuild_spec hcs h1.2
    refine ORok.now (V1.good_agg.2 h2.1) fun w _ => ?_
    have h3 : (parts.map fun (p : Nat × Operand) => (p.1, a.eval p.2)) = (ps.map fun p => (p.1, p.2.conc ν ρ)).toArray := by
      apply Array.ext'
      simpa using h1.1
    have h4 := h2.2 ρ w
    rw [← h3] at h4
    simp only [execOp, hop, V.conc, V1.conc]
    simp [h4]
  case alloc t =>
    refine sat_bind (sat_lift (Q := fun v => zeroCells P t = some v) fun a h => h) fun cs hcs => ?_
    obtain ⟨i, z, hi, hz, hzg, hzc⟩ := zeroCells_spec (ν := ν) hcs
    have hlt0 : ∀ n, cs.all (Lf.lt n) = true := fun n => by
      unfold zeroCells at hcs
      rw [hi] at hcs
      simp only [hz] at hcs
      obtain ⟨_, h2⟩ := allSome_spec hcs
      refine List.all_eq_true.2 fun x hx => ?_
      obtain ⟨j, hj, rfl⟩ := List.mem_iff_getElem.1 hx
      obtain ⟨v, _, hv⟩ := h2 j _ (List.getElem?_eq_getElem hj)
      unfold ofLeaf at hv
      split at hv <;> first | (cases hv; rfl) | (rw [← Option.some.inj hv]; rfl) | cases hv
    have hrun : ∀ (o' : Act) (w : World), (execOp o'.eval o).run P w = .ok (.value (.pointer (some ⟨w.heap.size, 0, none⟩))) (w.alloc (.cells z.cells t)) := fun o' w => by
      simp [execOp, hop, Instr.alloc, zeroValue, typeInfo, hi, hz, newVar, newRow]
    refine sat_ite (fun hn => sat_ite (fun hlt => ?_) (fun _ => sat_fail)) (fun hn => ?_)
    · refine sat_bind (sat_pull2 fun w => matCells_sat (E := E) (w := w) _ _ _) fun q hq => ?_
      unfold newBlk
      refine sat_ite (fun hc => ?_) (fun _ => sat_fail)
      simp only [Bool.and_eq_true] at hc
      refine sat_pure fun ρ a ha hcx w hw _ => ?_
      obtain ⟨h1, h2, h3, h4, ρ', h5, h6, h7⟩ := hq w ρ hw hlt (hlt0 _) hzg
      have hnew := h6.new hc.1 hc.2 h3 t
      rw [h7, ← hzc ρ] at hnew
      refine .inl ⟨.pointer (some ⟨w.heap.size, 0, none⟩), w.alloc (.cells z.cells t), hrun a w, _, fun j hj => by rw [ext_lt (by omega), h5 j hj], hnew, fun u hu => ?_⟩
      cases hu
      exact ⟨V1.good_one.2 trivial, by simp [V.conc, V1.conc, Lf.conc, ext_same, Off.val]⟩
    · unfold newBlk
      refine sat_ite (fun hc => ?_) (fun _ => sat_fail)
      simp only [Bool.and_eq_true] at hc
      refine sat_pure fun ρ a ha hcx w hw _ => ?_
      have hnew := hw.new hc.1 hc.2 hzg t
      rw [← hzc ρ] at hnew
      refine .inl ⟨.pointer (some ⟨w.heap.size, 0, none⟩), w.alloc (.cells z.cells t), hrun a w, _, fun j hj => ext_lt hj, hnew, fun u hu => ?_⟩
      cases hu
      exact ⟨V1.good_one.2 trivial, by simp [V.conc, V1.conc, Lf.conc, ext_same, Off.val]⟩
  case box t x =>
    refine sat_bind (sat_lift (Q := fun v => rd r ctx x = some v) fun a h => h) fun v hv => ?_
    split
    · rename_i v1
      refine sat_ite (fun hok => ?_) (fun _ => sat_fail)
      unfold newBlk
      refine sat_ite (fun hc => ?_) (fun _ => sat_fail)
      simp only [Bool.and_eq_true] at hc
      refine sat_pure fun ρ a ha hcx w hw _ => ?_
      have := rd_spec ha hcx hv
      have hcell : (a.eval x).cells = (v1.cells.map (Lf.conc ν ρ)).toArray := by
        rw [this.2]
        cases v1 with
        | one l =>
          have h1 : (l.conc ν ρ).oneCell' = true := Lf.ok_conc (by simpa [V1.cells] using hok) ρ
          exact cells_one h1
        | agg l => rfl
      refine .inl ⟨.pointer (some ⟨w.heap.size, 0, none⟩), w.alloc (.cells (v1.cells.map (Lf.conc ν ρ)).toArray t), ?_, _, fun j hj => ext_lt hj, hw.new hc.1 hc.2 this.1 t, fun u hu => ?_⟩
      · simp [execOp, hop, Instr.box, newVar, newRow, hcell]
      · cases hu
        exact ⟨V1.good_one.2 trivial, by simp [V.conc, V1.conc, Lf.conc, ext_same, Off.val]⟩
    · exact sat_fail
  case load t x =>
    refine sat_bind (sat_lift (Q := fun v => rd r ctx x = some v) fun a h => h) fun v hv => ?_
    split
    · rename_i b off
      refine sat_bind (sat_lift (Q := fun k => tk P t = some k) fun a h => h) fun k hk => ?_
      refine sat_bind (sat_lift (Q := fun k => tsize P t = some k) fun a h => h) fun sz hs => ?_
      refine sat_bind (sat_lift (Q := fun bk => nth r.st.hp b = some bk) fun a h => h) fun bk hbk => ?_
      split
      · rename_i o cs
        by_cases hg : off.good ν
        · refine sat_bind (loadCells_sat (own := o) hk hs hg) fun v hl => sat_pure fun ρ a ha hc w hw _ => ?_
          have hr := rd_spec ha hc hv
          have := hl ρ w (ρ b) (hw.heap.blk b _ hbk)
          exact ⟨this.1, .inl (by simp [execOp, hop, hr.2, V.conc, V1.conc, Lf.conc, Instr.loadAt, Instr.sureAddr, this.2])⟩
        · refine sat_bind sat_true fun v _ => sat_pure fun ρ a ha hc w hw _ => ?_
          exact absurd ((rd_spec ha hc hv).1 (.p b off) (by simp [V1.cells])) hg
      · rename_i o ts q
        by_cases hg : off.good ν
        · refine sat_bind (loadRow_sat (E := E) hk hs hg) fun v hl => sat_pure fun ρ a ha hc w hw _ => ?_
          have hr := rd_spec ha hc hv
          have := hl.2 ρ w (ρ b) o (hw.heap.blk b _ hbk)
          exact ⟨hl.1, .inl (by simp [execOp, hop, hr.2, V.conc, V1.conc, Lf.conc, Instr.loadAt, Instr.sureAddr, this])⟩
        · refine sat_bind sat_true fun v _ => sat_pure fun ρ a ha hc w hw _ => ?_
          exact absurd ((rd_spec ha hc hv).1 (.p b off) (by simp [V1.cells])) hg
    · rename_i g off
      refine sat_bind (sat_lift (Q := fun k => tk P t = some k) fun a h => h) fun k hk => ?_
      refine sat_bind (sat_lift (Q := fun k => tsize P t = some k) fun a h => h) fun sz hs => ?_
      refine sat_bind (sat_lift (Q := fun cs => assoc S.gs g = some cs) fun a h => h) fun cs hcs => ?_
      by_cases hg : off.good ν
      · refine sat_bind (loadCells_sat (own := false) hk hs hg) fun v hl => sat_ite (fun hsc => sat_pure fun ρ a ha hc w hw hI => ?_) (fun _ => sat_fail)
        have hr := rd_spec ha hc hv
        obtain ⟨hg1, hg2⟩ := hS.globs g cs hcs w hI
        have hb : CBlk ν (fun _ => ⟨g, 0, false, 0, 0⟩) w ⟨g, 0, false, 0, 0⟩ false (cs.map some) := ⟨rfl, hg1, fun i l hi => by
          rw [nth_map_some] at hi
          have := hg2 i l hi ν (fun _ => ⟨g, 0, false, 0, 0⟩)
          simpa using this, fun h => by cases h⟩
        have := hl (fun _ => ⟨g, 0, false, 0, 0⟩) w _ hb
        have hconc : v.conc ν (fun _ => ⟨g, 0, false, 0, 0⟩) = v.conc ν ρ := V1.conc_scalar hsc _ _
        have h2 := this.2
        rw [hconc] at h2
        simp only [Nat.zero_add] at h2
        have hev : a.eval x = .pointer (some ⟨g, off.val ν, none⟩) := hr.2
        have h3 : (execOp a.eval o).run P w = ((loadVar t ⟨g, off.val ν, none⟩).run P w).andThen fun v w' => .ok (.value v) w' := by
          simp [execOp, hop, hev, Instr.loadAt, Instr.sureAddr]
        exact ⟨this.1, .inl (by rw [h3, h2]; rfl)⟩
      · refine sat_bind sat_true fun v _ => sat_ite (fun _ => sat_pure fun ρ a ha hc w hw _ => ?_) (fun _ => sat_fail)
        exact absurd ((rd_spec ha hc hv).1 (.gp g off) (by simp [V1.cells])) hg
    · exact sat_fail
  case store t x y =>
    refine sat_bind (evStore_sat (E := E) hop) fun hp' h => sat_pure fun ρ a ha hc w hw _ => ?_
    obtain ⟨w', h1, h2⟩ := h ρ a ha hc w hw
    exact .inr (.inl ⟨w', h1, ρ, fun _ _ => rfl, h2, fun u hu => by cases hu⟩)
  case nilCheck x =>
    refine sat_bind (sat_lift (Q := fun v => rd r ctx x = some v) fun a h => h) fun v hv => ?_
    split
    · refine sat_pure fun ρ a ha hc => ?_
      have := rd_spec ha hc hv
      exact ORok.now this.1 fun w _ => by simp [execOp, hop, this.2, V.conc, V1.conc, Lf.conc]
    · refine sat_pure fun ρ a ha hc => ?_
      have := rd_spec ha hc hv
      exact ORok.now this.1 fun w _ => by simp [execOp, hop, this.2, V.conc, V1.conc, Lf.conc]
    · exact sat_fail
  case binOp op t x y yt =>
    refine sat_bind (sat_lift (Q := fun v => rd r ctx x = some v) fun a h => h) fun v hv => ?_
    refine sat_bind (sat_lift (Q := fun v => rd r ctx y = some v) fun a h => h) fun u hu => ?_
    by_cases hg : v.good ν ∧ u.good ν
    · refine sat_bind (evBinV_sat hg.1 hg.2) fun z hz => sat_pure fun ρ a ha hc => ?_
      have h1 := rd_spec ha hc hv
      have h2 := rd_spec ha hc hu
      refine ORok.now hz.1 fun w _ => ?_
      have := hz.2 ρ w x y
      simp [execOp, hop, h1.2, h2.2, this.1, this.2]
    · refine sat_bind sat_true fun z _ => sat_pure fun ρ a ha hc => ?_
      exact absurd ⟨(rd_spec ha hc hv).1, (rd_spec ha hc hu).1⟩ hg
  case unOp op t x =>
    refine sat_bind (sat_lift (Q := fun v => rd r ctx x = some v) fun a h => h) fun v hv => ?_
    split
    · rename_i l
      refine sat_bind (sat_pull fun ρ (w : World) => evUn_sat (P := P) (ρ := ρ) (w := w)) fun z hz => sat_pure fun ρ a ha hc => ?_
      have h1 := rd_spec ha hc hv
      refine ORok.now (V1.good_one.2 hz.1) fun w _ => ?_
      have := hz.2 ρ w
      simp only [V.conc, V1.conc] at h1 ⊢
      simp [execOp, hop, h1.2, this]
    · exact sat_fail
  case convert s d x =>
    refine sat_bind (sat_lift (Q := fun v => rd r ctx x = some v) fun a h => h) fun v hv => ?_
    split
    · rename_i l
      refine sat_bind (sat_pull fun ρ (w : World) => evConv_sat (P := P) (ρ := ρ) (w := w)) fun z hz => sat_pure fun ρ a ha hc => ?_
      have h1 := rd_spec ha hc hv
      refine ORok.now (V1.good_one.2 hz.1) fun w _ => ?_
      have := hz.2 ρ w
      simp only [V.conc, V1.conc] at h1 ⊢
      simp [execOp, hop, h1.2, this]
    · exact sat_fail
  case fieldAddr t x f =>
    refine sat_bind (sat_lift (Q := fun v => rd r ctx x = some v) fun a h => h) fun v hv => ?_
    split
    · rename_i l
      by_cases hg : l.good ν
      · refine sat_bind (evFieldAddr_sat hg) fun z hz => sat_pure fun ρ a ha hc => ?_
        have h1 := rd_spec ha hc hv
        refine ORok.now (V1.good_one.2 hz.1) fun w _ => ?_
        have := hz.2 ρ w
        simp only [V.conc, V1.conc] at h1 ⊢
        simp [execOp, hop, h1.2, this]
      · refine sat_bind sat_true fun z _ => sat_pure fun ρ a ha hc => ?_
        exact absurd (V1.good_one.1 (rd_spec ha hc hv).1) hg
    · exact sat_fail
  case field t x f =>
    refine sat_bind (sat_lift (Q := fun v => rd r ctx x = some v) fun a h => h) fun v hv => ?_
    split
    · rename_i l
      by_cases hg : ∀ y ∈ l, Lf.good ν y
      · refine sat_bind (evField_sat hg) fun z hz => sat_pure fun ρ a ha hc => ?_
        have h1 := rd_spec ha hc hv
        refine ORok.now hz.1 fun w _ => ?_
        have := hz.2 ρ w
        simp only [V.conc, V1.conc] at h1 ⊢
        simp [execOp, hop, h1.2, this]
        rfl
      · refine sat_bind sat_true fun z _ => sat_pure fun ρ a ha hc => ?_
        exact absurd (V1.good_agg.1 (rd_spec ha hc hv).1) hg
    · exact sat_fail
  case indexAddr t x ix =>
    refine sat_bind (sat_lift (Q := fun v => rd r ctx x = some v) fun a h => h) fun v hv => ?_
    refine sat_bind (sat_lift (Q := fun v => rd r ctx ix = some v) fun a h => h) fun u hu => ?_
    split
    · rename_i b i
      refine sat_bind (evIndexRow_sat (E := E)) fun z hz => sat_pure fun ρ a ha hc w hw _ => ?_
      have h1 := rd_spec ha hc hv
      have h2 := rd_spec ha hc hu
      refine ⟨V1.good_one.2 hz.1, .inl ?_⟩
      have := hz.2 ρ w w hw
      simp only [V.conc, V1.conc] at h1 h2 ⊢
      simp only [Lf.conc] at h1
      simp [execOp, hop, h1.2, h2.2, this]
    · rename_i l i _
      by_cases hg : l.good ν
      · refine sat_bind (evIndexAddr_sat hg) fun z hz => sat_pure fun ρ a ha hc => ?_
        have h1 := rd_spec ha hc hv
        have h2 := rd_spec ha hc hu
        refine ORok.now (V1.good_one.2 hz.1) fun w _ => ?_
        have := hz.2 ρ w
        simp only [V.conc, V1.conc] at h1 h2 ⊢
        simp [execOp, hop, h1.2, h2.2, this]
      · refine sat_bind sat_true fun z _ => sat_pure fun ρ a ha hc => ?_
        exact absurd (V1.good_one.1 (rd_spec ha hc hv).1) hg
    · exact sat_fail
  case index t x ix =>
    refine sat_bind (sat_lift (Q := fun v => rd r ctx x = some v) fun a h => h) fun v hv => ?_
    refine sat_bind (sat_lift (Q := fun v => rd r ctx ix = some v) fun a h => h) fun u hu => ?_
    split
    · rename_i l i
      by_cases hg : ∀ y ∈ l, Lf.good ν y
      · refine sat_bind (evIndex_sat hg) fun z hz => sat_pure fun ρ a ha hc => ?_
        have h1 := rd_spec ha hc hv
        have h2 := rd_spec ha hc hu
        refine ORok.now hz.1 fun w _ => ?_
        have := hz.2 ρ w
        simp only [V.conc, V1.conc] at h1 h2 ⊢
        simp [execOp, hop, h1.2, h2.2, this]
        rfl
      · refine sat_bind sat_true fun z _ => sat_pure fun ρ a ha hc => ?_
        exact absurd (V1.good_agg.1 (rd_spec ha hc hv).1) hg
    · rename_i s ki i
      refine sat_bind (sat_lift (Q := fun d => tk0 P t = some d) fun a h => h) fun d hd => ?_
      split
      · refine sat_bind boundsOk_sat fun _ hb => ?_
        refine sat_bind (sat_emit (Q := fun r => r.int ν = ((s.data.toList.map fun b => A.z b.toNat).map (A.int ν)).getD (i.int ν).toNat 0) fun r h => A.int_of_den h) fun q hq => sat_pure fun ρ a ha hc => ?_
        have h1 := rd_spec ha hc hv
        have h2 := rd_spec ha hc hu
        refine ORok.now (V1.good_one.2 trivial) fun w _ => ?_
        have hlt : (i.int ν).toNat < s.size := by omega
        have h3 : s[(i.int ν).toNat]? = some s[(i.int ν).toNat] := by
          rw [getElem?_pos]
        have h4 : q.int ν = (s[(i.int ν).toNat]).toNat := by
          rw [hq, List.map_map, List.getD_eq_getElem?_getD, List.getElem?_map]
          have : s.data.toList[(i.int ν).toNat]? = some s[(i.int ν).toNat] := by
            rw [Array.getElem?_toList]
            exact Array.getElem?_eq_getElem hlt
          rw [this]
          rfl
        simp only [V.conc, V1.conc, Lf.conc] at h1 h2 ⊢
        simp [execOp, hop, h1.2, h2.2, Instr.index, asIntOf, run_underlying hd, hb.1, h3, h4]
      · exact sat_fail
    · exact sat_fail
  case extract x n =>
    refine sat_bind (sat_lift (Q := fun v => rd r ctx x = some v) fun a h => h) fun v hv => ?_
    split
    · rename_i l
      refine sat_bind (sat_lift (Q := fun u => l[n]? = some u) fun a h => h) fun u hu => sat_pure fun ρ a ha hc => ?_
      have h1 := rd_spec ha hc hv
      refine ORok.now (V.good_s.2 (h1.1 u (List.mem_of_getElem? hu))) fun w _ => ?_
      simp [execOp, hop, h1.2, V.conc, Instr.extract, hu]
    · exact sat_fail
  case makeFunc fn first cap =>
    split
    · rename_i f
      refine sat_bind (sat_lift (Q := fun vs => rdAll r ctx cap.toList = some vs) fun a h => h) fun vs hvs => ?_
      refine sat_bind (sat_lift (Q := fun bs => allSome capOf vs = some bs) fun a h => h) fun bs hbs => ?_
      refine sat_ite (fun he => sat_pure fun ρ a ha hc => ?_) (fun _ => sat_fail)
      have h1 := rdAll_spec ha hc hvs
      have h2 := capOf_spec (ν := ν) ρ hbs
      have h3 : cap.map a.eval = capsConc ρ bs := by
        apply Array.ext'
        rw [Array.toList_map, h1, h2]; simp [capsConc]
      have h4 : first = #[] := by simpa using he
      refine ORok.now (V1.good_one.2 trivial) fun w _ => ?_
      simp [execOp, hop, Instr.makeFunc, h3, h4, V.conc, V1.conc, Lf.conc]
    · exact sat_fail
  case call c =>
    split
    · rename_i x hf
      refine sat_bind (sat_lift (Q := fun p => fnOf (rd r ctx x) = some p) fun a h => h) fun ⟨f, bs⟩ hfn => ?_
      refine sat_bind (sat_lift (Q := fun vs => rdAll r ctx c.args.toList = some vs) fun a h => h) fun vs hvs => ?_
      refine sat_mono (evCall_sat (E := E) hS hE) fun z hz ρ a ha hc => ?_
      have h1 := rdAll_spec ha hc hvs
      have h0 := fnOf_spec ha hc hfn
      have h2 : c.args.map a.eval ++ capsConc ρ bs = ((vs ++ bs.map fun b => V.s (.one (.p b (.c 0)))).map (V.conc ν ρ)).toArray := by
        apply Array.ext'
        simp only [Array.toList_append, Array.toList_map, h1, capsConc, List.map_append, List.map_map]
        rfl
      have hgv : ∀ v ∈ vs ++ bs.map fun b => V.s (.one (.p b (.c 0))), V.good ν v := fun v hv => by
        rcases List.mem_append.1 hv with hv | hv
        · exact rdAll_good ha hc hvs v hv
        · obtain ⟨b, _, rfl⟩ := List.mem_map.1 hv
          exact V.good_s.2 (V1.good_one.2 trivial)
      generalize vs ++ bs.map (fun b => V.s (.one (.p b (.c 0)))) = us at *
      have h5 : ∀ w, (callFunc f (us.map (V.conc ν ρ)).toArray).run P w = .ok (.enter f (us.map (V.conc ν ρ)).toArray) w → (execOp a.eval o).run P w = .ok (.enter f (us.map (V.conc ν ρ)).toArray) w := fun w h4 => by
        rw [← h2] at h4 ⊢
        simp [execOp, hop, resolve, hf, h0, Deferred.ofValue, invoke]
        exact h4
      cases z with
      | val v =>
        intro w hw hI
        obtain ⟨h3, h4, h6⟩ := hz ρ w hgv hw hI
        exact ⟨h4, .inr ⟨f, _, h5 w h3, h6⟩⟩
      | hp v hp' =>
        intro w hw hI
        obtain ⟨h3, h4⟩ := hz ρ w hgv hw hI
        exact .inr (.inr ⟨f, _, h5 w h3, h4.mono fun e w' ⟨x, he, ρ', k1, k2, k3⟩ => ⟨x, he, ρ', k1, k2, fun u hu => ⟨(k3 u hu).1, by rw [(k3 u hu).2]⟩⟩⟩)
    · rename_i b hf
      refine sat_bind (sat_lift (Q := fun vs => rdAll r ctx c.args.toList = some vs) fun a h => h) fun vs hvs => ?_
      have hargs : ∀ ρ a, ARel ν ρ r a → CtxOk ctx a → c.args.map a.eval = (vs.map (V.conc ν ρ)).toArray := fun ρ a ha hc => by
        apply Array.ext'
        simpa using rdAll_spec ha hc hvs
      split
      · rename_i k x k' y
        refine sat_ite (fun hk => ?_) (fun _ => sat_fail)
        have := kEq_eq hk; subst this
        split
        · refine sat_pure fun ρ a ha hc => ORok.now (V1.good_one.2 trivial) fun w _ => ?_
          simp [execOp, hop, resolve, hf, hargs ρ a ha hc, invoke, builtin, Builtin.max_, Builtin.max2, V.conc, V1.conc, Lf.conc, List.foldlM]
        · refine sat_bind (sat_emit (Q := fun r => r.bool ν = decide (y.int ν > x.int ν)) fun r h => A.bool_of_den h) fun q hq => ?_
          refine sat_bind mkIteI_sat fun z hz => sat_pure fun ρ a ha hc => ORok.now (V1.good_one.2 trivial) fun w _ => ?_
          rw [hq] at hz
          simp [execOp, hop, resolve, hf, hargs ρ a ha hc, invoke, builtin, Builtin.max_, Builtin.max2, V.conc, V1.conc, Lf.conc, List.foldlM, hz]
      · rename_i k x k' y
        refine sat_ite (fun hk => ?_) (fun _ => sat_fail)
        have := kEq_eq hk; subst this
        split
        · refine sat_pure fun ρ a ha hc => ORok.now (V1.good_one.2 trivial) fun w _ => ?_
          simp [execOp, hop, resolve, hf, hargs ρ a ha hc, invoke, builtin, Builtin.min_, Builtin.min2, V.conc, V1.conc, Lf.conc, List.foldlM]
        · refine sat_bind (sat_emit (Q := fun r => r.bool ν = decide (y.int ν < x.int ν)) fun r h => A.bool_of_den h) fun q hq => ?_
          refine sat_bind mkIteI_sat fun z hz => sat_pure fun ρ a ha hc => ORok.now (V1.good_one.2 trivial) fun w _ => ?_
          rw [hq] at hz
          simp [execOp, hop, resolve, hf, hargs ρ a ha hc, invoke, builtin, Builtin.min_, Builtin.min2, V.conc, V1.conc, Lf.conc, List.foldlM, hz]
      · rename_i v
        refine sat_bind (sat_lift (Q := fun t => c.argTypes[0]? = some t) fun a h => h) fun t ht => ?_
        refine sat_bind (evLen_sat (E := E)) fun z hz => sat_pure fun ρ a ha hc w hw _ => ⟨hz.1, .inl ?_⟩
        have := hz.2 ρ w w o.type c.argTypes ht hw
        simp [execOp, hop, resolve, hf, hargs ρ a ha hc, invoke, builtin, this]
      · rename_i s x
        refine sat_bind (sat_lift (Q := fun t => c.argTypes[0]? = some t) fun a h => h) fun t ht => ?_
        refine sat_bind (sat_lift (Q := fun t => c.argTypes[1]? = some t) fun a h => h) fun tx htx => ?_
        refine sat_mono (evAppend_sat (E := E)) fun z hz ρ a ha hc => ?_
        refine NewRow.run (y := Builtin.append_ c.argTypes o.type #[s.conc ν ρ, x.conc ν ρ]) (fun w v w' h => ?_) (fun w hw => ?_)
        · simp [execOp, hop, resolve, hf, hargs ρ a ha hc, invoke, builtin, h]
        · obtain ⟨v, w', h1, h2⟩ := hz ρ w o.type hw
          refine ⟨v, w', ?_, h2⟩
          rw [← h1]
          simp only [Builtin.append_, ht, htx, List.getElem?_toArray, List.getElem?_cons_zero, List.getElem?_cons_succ]
      · exact sat_fail
    · exact sat_fail
  case buildSlice t len parts =>
    refine sat_bind (sat_lift (Q := fun v => rdParts r ctx parts.toList = some v) fun a h => h) fun ps hps => ?_
    by_cases hg : ∀ p ∈ ps, p.2.good ν
    · refine sat_mono (evBuildSlice_sat (E := E) hg) fun z hz ρ a ha hc => ?_
      have h1 := rdParts_spec ha hc hps
      have h3 : (parts.map fun (p : Nat × Operand) => (p.1, a.eval p.2)) = (ps.map fun p => (p.1, p.2.conc ν ρ)).toArray := by
        apply Array.ext'
        simpa using h1.1
      refine NewRow.run (y := Instr.buildSlice t len (ps.map fun p => (p.1, p.2.conc ν ρ)).toArray) (fun w v w' h => ?_) (hz ρ)
      rw [← h3] at h
      simp only [execOp, hop]
      simp [h]
    · refine sat_mono sat_true fun z _ ρ a ha hc => ?_
      exact absurd (rdParts_spec ha hc hps).2 hg
  case makeSlice t l c =>
    refine sat_bind (sat_lift (Q := fun v => rd r ctx l = some v) fun a h => h) fun v hv => ?_
    refine sat_bind (sat_lift (Q := fun v => rd r ctx c = some v) fun a h => h) fun u hu => ?_
    split
    · rename_i x y
      refine sat_mono (evMake_sat (E := E)) fun z hz ρ a ha hc => ?_
      have h1 := rd_spec ha hc hv
      have h2 := rd_spec ha hc hu
      refine NewRow.run (y := Instr.makeSlice t (x.conc ν ρ) (y.conc ν ρ)) (fun w v w' h => ?_) (hz ρ)
      simp only [V.conc, V1.conc] at h1 h2
      simp [execOp, hop, h1.2, h2.2, h]
    · exact sat_fail
  case slice t x low high max =>
    split
    · exact sat_fail
    · refine sat_bind (sat_lift (Q := fun v => rd r ctx x = some v) fun a h => h) fun v hv => ?_
      refine sat_bind (sat_lift (Q := fun v => leafOpt r ctx low = some v) fun a h => h) fun lo hlo => ?_
      refine sat_bind (sat_lift (Q := fun v => leafOpt r ctx high = some v) fun a h => h) fun hi hhi => ?_
      refine sat_mono (evSlice_sat (E := E)) fun z hz ρ a ha hc => ?_
      have h1 := rd_spec ha hc hv
      refine NewRow.run (y := Instr.sliceAt t (v.conc ν ρ) (lo.map (Lf.conc ν ρ)) (hi.map (Lf.conc ν ρ)) none) (fun w v w' h => ?_) (hz ρ)
      rw [← leafOpt_spec ha hc hlo, ← leafOpt_spec ha hc hhi] at h
      simp [execOp, hop, h1.2, h]
  all_goals exact sat_fail
end
end Go.Sx
