/- Operations on rows agree with the model. -/
import Derived.Test.YtacciadcmiiimaaSyHeap
import Derived.Deep.AppendSrc
import Derived.Laws.MakeOwn
namespace Go.Sx
open Go.RowKit
section
variable {P : Program} {I : World → Prop} {S : Sigs} {F : FEnv} {E : Env} {ν : Nat → DV}

theorem tk_slice {t : TypeId} {e : Nat} (h : tk P t = some (.slice e)) : P.underlying t = some (.slice e) := by
  obtain ⟨d, hd, hk⟩ := tk_spec h
  cases d <;> simp [tkOf] at hk
  subst hk
  exact hd
theorem rowAt_spec {hp : List (Option Blk)} {b : Nat} {r : Bool × List LT × A} (h : rowAt hp b = some r) : nth hp b = some (.v r.1 r.2.1 r.2.2) := by
  unfold rowAt at h
  split at h
  · rename_i hb
    cases h
    exact hb
  · cases h
theorem row_rel {hp : List (Option Blk)} {b : Nat} {r : Bool × List LT × A} (h : rowAt hp b = some r) {ρ : Nat → Loc} {w : World} (hw : HS E ν ρ hp w) : VRel E w (ρ b) r.1 r.2.1 (r.2.2.cells ν) :=
  hw.heap.blk b _ (rowAt_spec h)
theorem VRel.elems {w : World} {r : Loc} {o : Bool} {ts : List LT} {xs : List DV} (h : VRel E w r o ts xs) : xs.length / ts.length = r.len := by
  rw [h.len]; exact Nat.mul_div_cancel _ h.pos

theorem oweLeA_sat {a b : A} : M.sat F ν (oweLeA a b) (fun _ => a.int ν ≤ b.int ν) := by
  unfold oweLeA
  split
  · exact sat_ite (fun h => sat_pure (by simpa using h)) (fun _ => sat_fail)
  · refine sat_bind (sat_emit (Q := fun r => r.bool ν = decide (a.int ν ≤ b.int ν)) fun r h => A.bool_of_den h) fun r hr => ?_
    exact sat_owe fun h => by rw [hr] at h; simpa using h

theorem evLen_sat {hp : List (Option Blk)} {t : TypeId} {v : V} : M.sat F ν (evLen P hp t v) (fun u => u.good ν ∧ ∀ ρ w w1 ty (ts : Array TypeId), ts[0]? = some t → HS E ν ρ hp w →
    (Builtin.len_ ts ty #[v.conc ν ρ]).run P w1 = .ok (u.conc ν ρ) w1) := by
  unfold evLen
  refine sat_bind (sat_lift (Q := fun k => P.underlying t = some k) fun a h => h) fun k hk => ?_
  split
  · rename_i e b
    refine sat_bind (sat_lift (Q := fun r => rowAt hp b = some r) fun a h => h) fun r hr => ?_
    refine sat_bind (sat_emit (Q := fun q => q.int ν = ((r.2.2.cells ν).length / r.2.1.length : Nat)) fun q h => A.int_of_den h) fun q hq => sat_pure ⟨V1.good_one.2 trivial, fun ρ w w1 ty ts hts hw => ?_⟩
    have hl := (row_rel hr hw).elems
    simp [Builtin.len_, hts, run_underlying hk, V.conc, V1.conc, Lf.conc, Loc.slice, goInt, hq, hl]
  · refine sat_pure ⟨V1.good_one.2 trivial, fun ρ w w1 ty ts hts hw => ?_⟩
    simp [Builtin.len_, hts, run_underlying hk, V.conc, V1.conc, Lf.conc, goInt]
  · refine sat_pure ⟨V1.good_one.2 trivial, fun ρ w w1 ty ts hts hw => ?_⟩
    simp [Builtin.len_, hts, run_underlying hk, V.conc, V1.conc, Lf.conc, goInt]
  · refine sat_pure ⟨V1.good_one.2 trivial, fun ρ w w1 ty ts hts hw => ?_⟩
    simp [Builtin.len_, hts, run_underlying hk, V.conc, V1.conc, Lf.conc, goInt]
  · exact sat_fail

theorem lt_div_mul {i n s : Nat} (h : i < n / s) : (i + 1) * s ≤ n := by
  have : (i + 1) * s ≤ n / s * s := Nat.mul_le_mul_right _ h
  exact Nat.le_trans this (Nat.div_mul_le_self n s)

theorem evIndexRow_sat {hp : List (Option Blk)} {t : TypeId} {b : Nat} {ix : Lf} : M.sat F ν (evIndexRow P hp t b ix) (fun l => l.good ν ∧ ∀ ρ w w1, HS E ν ρ hp w →
    (Instr.indexAt t (ρ b).slice (ix.conc ν ρ)).run P w1 = .ok (l.conc ν ρ) w1) := by
  unfold evIndexRow
  refine sat_bind (sat_lift (Q := fun k => tk P t = some k) fun a h => h) fun k hk => ?_
  split
  · rename_i elem ki i
    have hu := tk_slice hk
    refine sat_bind (sat_lift (Q := fun k => tsize P elem = some k) fun a h => h) fun sz hs => ?_
    refine sat_bind (sat_lift (Q := fun r => rowAt hp b = some r) fun a h => h) fun r hr => ?_
    refine sat_ite (fun hc => ?_) (fun _ => sat_fail)
    have hc := Nat.eq_of_beq_eq_true hc
    refine sat_bind oweGe0_sat fun _ h0 => ?_
    refine sat_bind (sat_emit (Q := fun q => q.int ν = ((r.2.2.cells ν).length / r.2.1.length : Nat)) fun q h => A.int_of_den h) fun n hn => ?_
    refine sat_bind (sat_emit (Q := fun q => q.bool ν = decide (i.int ν < n.int ν)) fun q h => A.bool_of_den h) fun q hq => ?_
    refine sat_bind (sat_owe (Q := fun _ => i.int ν < n.int ν) fun h => by rw [hq] at h; simpa using h) fun _ hlt => sat_pure ⟨⟨h0, ?_⟩, fun ρ w w1 hw => ?_⟩
    · rw [hn] at hlt
      rw [hc]
      exact lt_div_mul (by omega)
    · have hv := row_rel hr hw
      rw [hn, hv.elems] at hlt
      have hnil : (ρ b).nil = false := by
        cases hx : (ρ b).nil with
        | false => rfl
        | true => have := (hv.nil hx).1; omega
      simp [Instr.indexAt, asIntOf, Lf.conc, Loc.slice, hnil, run_underlying hu, h0, hlt, run_size hs, addr_add, Off.val]
  · exact sat_fail

/-! ### Loads -/
theorem sameRow_sat {sz : Nat} {ix a0 a : A} (h0 : 0 ≤ ix.int ν) (h1 : ((ix.int ν).toNat + 1) * sz ≤ (a0.cells ν).length) : M.sat F ν (sameRow sz ix a0 a) (fun _ => ((ix.int ν).toNat + 1) * sz ≤ (a.cells ν).length) := by
  unfold sameRow
  refine sat_ite (fun h => sat_pure ?_) (fun _ => ?_)
  · have := A.beq_den h ν
    rwa [show A.cells ν a = A.cells ν a0 from by simp [A.cells, this]]
  · refine sat_bind (sat_emit (Q := fun q => q.int ν = ((a.cells ν).length / sz : Nat)) fun q h => A.int_of_den h) fun n hn => ?_
    refine sat_bind (sat_emit (Q := fun q => q.bool ν = decide (ix.int ν < n.int ν)) fun q h => A.bool_of_den h) fun q hq => ?_
    exact sat_owe fun h => by
      rw [hq, hn] at h
      exact lt_div_mul (by have := of_decide_eq_true h; omega)

/-- A cell of an element. -/
theorem VRel.at {w : World} {r : Loc} {o : Bool} {ts : List LT} {xs : List DV} (h : VRel E w r o ts xs) {i j : Nat} (hj : j < ts.length) (hi : (i + 1) * ts.length ≤ xs.length) :
    ∃ v, w.cell? ⟨r.blk, r.off + (j + i * ts.length), none⟩ = some v ∧ CRel E (ts.getD j .bool) (xs.getD (i * ts.length + j) default) v := by
  have hlt : i * ts.length + j < xs.length := by rw [Nat.add_mul] at hi; omega
  obtain ⟨v, h1, h2⟩ := h.cell _ hlt
  rw [Nat.mul_comm i, Nat.mul_add_mod, Nat.mod_eq_of_lt hj] at h2
  refine ⟨v, ?_, by rw [Nat.mul_comm i]; exact h2⟩
  rw [← h1]
  congr 2
  omega

theorem rowLeaf_sat {ts : List LT} {a ix : A} {j : Nat} (hj : j < ts.length) (hl : ((ix.int ν).toNat + 1) * ts.length ≤ (a.cells ν).length) :
    M.sat F ν (rowLeaf ts.length j a ix (ts.getD j .bool)) (fun x => x.good ν ∧ ∀ (ρ : Nat → Loc) (w : World) (r : Loc) o, VRel E w r o ts (a.cells ν) →
      w.cell? ⟨r.blk, r.off + (j + (ix.int ν).toNat * ts.length), none⟩ = some (x.conc ν ρ)) := by
  cases ht : ts.getD j .bool with
  | int k =>
    unfold rowLeaf
    refine sat_bind (sat_emit (Q := fun q => q.int ν = ((a.cells ν).getD ((ix.int ν).toNat * ts.length + j) default).toI) fun q h => A.int_of_den h) fun q hq => sat_pure ⟨trivial, fun ρ w r o hv => ?_⟩
    obtain ⟨v, h1, h2⟩ := hv.at hj hl
    rw [ht] at h2
    rw [h1]
    cases h2
    simp [Lf.conc, hq]
  | bool =>
    unfold rowLeaf
    refine sat_bind (sat_emit (Q := fun q => q.bool ν = ((a.cells ν).getD ((ix.int ν).toNat * ts.length + j) default).toB) fun q h => A.bool_of_den h) fun q hq => sat_pure ⟨trivial, fun ρ w r o hv => ?_⟩
    obtain ⟨v, h1, h2⟩ := hv.at hj hl
    rw [ht] at h2
    rw [h1]
    cases h2
    simp [Lf.conc, hq]
  | vec us => exact sat_fail

theorem rowLeaves_sat {ts : List LT} {a ix : A} (hl : ((ix.int ν).toNat + 1) * ts.length ≤ (a.cells ν).length) : ∀ (n j : Nat), j + n ≤ ts.length →
    M.sat F ν (rowLeaves ts a ix j n) (fun xs => xs.length = n ∧ (∀ x ∈ xs, Lf.good ν x) ∧ ∀ i x, xs[i]? = some x → ∀ (ρ : Nat → Loc) (w : World) (r : Loc) o, VRel E w r o ts (a.cells ν) →
      w.cell? ⟨r.blk, r.off + (j + i + (ix.int ν).toNat * ts.length), none⟩ = some (x.conc ν ρ))
  | 0, j, _ => sat_pure ⟨rfl, fun x hx => (by cases hx), fun i x h => (by simp at h)⟩
  | n + 1, j, hj => by
    unfold rowLeaves
    refine sat_bind (rowLeaf_sat (E := E) (show j < ts.length by omega) hl) fun x hx => sat_bind (rowLeaves_sat hl n (j + 1) (by omega)) fun r hr => sat_pure ⟨by simp [hr.1], fun y hy => ?_, fun i y hi => ?_⟩
    · rcases List.mem_cons.1 hy with rfl | hy
      · exact hx.1
      · exact hr.2.1 y hy
    · cases i with
      | zero => simp at hi; subst hi; exact hx.2
      | succ i =>
        have := hr.2.2 i y (by simpa using hi)
        rwa [show j + 1 + i = j + (i + 1) from by omega] at this

theorem loadRow_sat {t : TypeId} {k : TK} {sz : Nat} {ts : List LT} {a : A} {off : Off} (hk : tk P t = some k) (hs : tsize P t = some sz) (hg : off.good ν) :
    M.sat F ν (loadRow ts a off (isAggT k) sz) (fun v => v.good ν ∧ ∀ (ρ : Nat → Loc) (w : World) (r : Loc) o, VRel E w r o ts (a.cells ν) → (loadVar t ⟨r.blk, r.off + off.val ν, none⟩).run P w = .ok (v.conc ν ρ) w) := by
  unfold loadRow
  split
  · rename_i base ix sz' a0
    refine sat_ite (fun hc => ?_) (fun _ => sat_fail)
    simp only [Bool.and_eq_true] at hc
    have h1 := Nat.eq_of_beq_eq_true hc.1
    have h2 := Nat.le_of_ble_eq_true hc.2
    subst h1
    refine sat_bind (sameRow_sat hg.1 hg.2) fun _ hl => ?_
    refine sat_ite (fun ha => ?_) (fun ha => ?_)
    · refine sat_bind (rowLeaves_sat (E := E) hl sz base h2) fun xs hxs => sat_pure ⟨V1.good_agg.2 hxs.2.1, fun ρ w r o hv => ?_⟩
      refine run_loadVar_agg hk ha hs (by simpa using hxs.1) fun i v hi => ?_
      rw [List.getElem?_map] at hi
      obtain ⟨l, hl', rfl⟩ := Option.map_eq_some_iff.1 hi
      have := hxs.2.2 i l hl' ρ w r o hv
      rw [← this]
      simp only [Off.val]
      congr 2
      omega
    · refine sat_ite (fun hb => ?_) (fun _ => sat_fail)
      have hb : base < ts.length := Nat.le_of_ble_eq_true hb
      refine sat_bind (rowLeaf_sat (E := E) hb hl) fun x hx => sat_pure ⟨V1.good_one.2 hx.1, fun ρ w r o hv => ?_⟩
      exact run_loadVar_one hk ha (hx.2 ρ w r o hv)
  · exact sat_fail

/-! ### Stores -/
def overD : List DV → Nat → List DV → List DV
  | l, _, [] => l
  | l, p, v :: vs => overD (l.set p v) (p + 1) vs
theorem overD_len : ∀ (vs l : List DV) (p : Nat), (overD l p vs).length = l.length
  | [], _, _ => rfl
  | v :: vs, l, p => by rw [overD, overD_len vs]; simp
theorem overD_out : ∀ (vs l : List DV) (p i : Nat), (i < p ∨ p + vs.length ≤ i) → (overD l p vs)[i]? = l[i]?
  | [], _, _, _, _ => rfl
  | v :: vs, l, p, i, h => by
    simp only [List.length_cons] at h
    rw [overD, overD_out vs _ _ i (by omega), List.getElem?_set_ne (by omega)]
theorem overD_in : ∀ (vs l : List DV) (p k : Nat), k < vs.length → p + k < l.length → (overD l p vs)[p + k]? = vs[k]?
  | [], _, _, _, h, _ => by simp at h
  | v :: vs, l, p, 0, _, h2 => by
    simp only [overD, Nat.add_zero] at h2 ⊢
    rw [overD_out vs _ _ p (by omega), List.getElem?_set_self (by simpa using h2)]
    rfl
  | v :: vs, l, p, k + 1, h1, h2 => by
    rw [overD, show p + (k + 1) = p + 1 + k from by omega, overD_in vs _ (p + 1) k (by simpa using h1) (by simp; omega)]
    rfl

theorem leafAs_spec {t : LT} {x : Lf} {a : A} (h : leafAs t x = some a) : x.good ν ∧ x.ok = true ∧ ∀ ρ, CRel E t (nrm (leafTy t) (a.den ν)) (x.conc ν ρ) := by
  unfold leafAs at h
  split at h
  · split at h
    · rename_i hk
      have := kEq_eq hk; subst this
      cases h
      exact ⟨trivial, rfl, fun ρ => .int _ (.i _)⟩
    · cases h
  · cases h
    exact ⟨trivial, rfl, fun ρ => .bool (.b _)⟩
  · cases h

theorem putLeaves_sat {ts : List LT} {ix : A} : ∀ (xs : List Lf) (j : Nat) (a : A),
    M.sat F ν (putLeaves ts ix j a xs) (fun a' => ∃ vs : List DV, vs.length = xs.length ∧ a'.cells ν = overD (a.cells ν) ((ix.int ν).toNat * ts.length + j) vs ∧ (∀ x ∈ xs, x.good ν ∧ x.ok = true) ∧
      ∀ i x v, xs[i]? = some x → vs[i]? = some v → ∀ ρ, CRel E (ts.getD (j + i) .bool) v (x.conc ν ρ))
  | [], j, a => sat_pure ⟨[], rfl, rfl, fun x hx => (by cases hx), fun i x v h => (by simp at h)⟩
  | x :: xs, j, a => by
    unfold putLeaves
    refine sat_bind (sat_lift (Q := fun v => leafAs (ts.getD j .bool) x = some v) fun a h => h) fun v hv => ?_
    refine sat_bind (sat_emit (Q := fun q => q.cells ν = (a.cells ν).set ((ix.int ν).toNat * ts.length + j) (nrm (leafTy (ts.getD j .bool)) (v.den ν))) fun q h => A.cells_of_den h) fun q hq => ?_
    refine sat_mono (putLeaves_sat xs (j + 1) q) fun a' ⟨vs, h1, h2, h3, h4⟩ => ⟨nrm (leafTy (ts.getD j .bool)) (v.den ν) :: vs, by simp [h1], ?_, ?_, ?_⟩
    · rw [h2, hq]
      rfl
    · intro y hy
      rcases List.mem_cons.1 hy with rfl | hy
      · have := leafAs_spec (E := E) (ν := ν) hv
        exact ⟨this.1, this.2.1⟩
      · exact h3 y hy
    · intro i y u hi hu ρ
      cases i with
      | zero => simp at hi hu; subst hi; subst hu; exact (leafAs_spec hv).2.2 ρ
      | succ i =>
        have := h4 i y u (by simpa using hi) (by simpa using hu) ρ
        rwa [show j + 1 + i = j + (i + 1) from by omega] at this

theorem storeRow_sat {ts : List LT} {a : A} {off : Off} {xs : List Lf} (hg : off.good ν) (hne : xs ≠ []) :
    M.sat F ν (storeRow ts a off xs) (fun a' => ∀ (ρ : Nat → Loc) (w : World) (r : Loc), VRel E w r true ts (a.cells ν) → r.nil = false ∧ (∀ x ∈ xs, x.ok = true) ∧
      (storeCells ⟨r.blk, r.off + off.val ν, none⟩ (xs.map (Lf.conc ν ρ))).run P w = .ok () (w.setCells r.blk (r.off + off.val ν) (xs.map (Lf.conc ν ρ))) ∧
      VRel E (w.setCells r.blk (r.off + off.val ν) (xs.map (Lf.conc ν ρ))) r true ts (a'.cells ν)) := by
  unfold storeRow
  split
  · rename_i base ix sz' a0
    refine sat_ite (fun hc => ?_) (fun _ => sat_fail)
    simp only [Bool.and_eq_true] at hc
    have h1 := Nat.eq_of_beq_eq_true hc.1
    have h2 := Nat.le_of_ble_eq_true hc.2
    subst h1
    refine sat_bind (sameRow_sat hg.1 hg.2) fun _ hl => ?_
    refine sat_mono (putLeaves_sat (E := E) xs base a) fun a' ⟨vs, k1, k2, k3, k4⟩ ρ w r hv => ?_
    have hpos : 0 < xs.length := by cases xs with | nil => exact absurd rfl hne | cons x xs => simp
    have hcap : ((ix.int ν).toNat + 1) * ts.length ≤ r.cap * ts.length := by
      have := hv.len
      have h3 : r.len * ts.length ≤ r.cap * ts.length := Nat.mul_le_mul_right _ hv.cap
      omega
    have hnil : r.nil = false := by
      cases hx : r.nil with
      | false => rfl
      | true =>
        have := (hv.nil hx).2
        rw [this, Nat.zero_mul] at hcap
        have := hv.pos
        rw [Nat.add_mul] at hcap
        omega
    rw [Nat.add_mul, Nat.one_mul] at hl hcap
    rw [Nat.add_comm] at k2
    have hmod : ∀ k, k < xs.length → (base + (ix.int ν).toNat * ts.length + k) % ts.length = base + k := fun k hk => by
      rw [show base + (ix.int ν).toNat * ts.length + k = ts.length * (ix.int ν).toNat + (base + k) from by rw [Nat.mul_comm]; omega, Nat.mul_add_mod, Nat.mod_eq_of_lt (by omega)]
    have hroom : base + (ix.int ν).toNat * ts.length + xs.length ≤ (a.cells ν).length := by omega
    have hroom2 : base + (ix.int ν).toNat * ts.length + xs.length ≤ r.cap * ts.length := by omega
    simp only [Off.val]
    generalize base + (ix.int ν).toNat * ts.length = p at *
    have hex : ∀ k, k < xs.length → (w.cell? ⟨r.blk, r.off + p + k, none⟩).isSome = true ∧ w.frozen? ⟨r.blk, r.off + p + k, none⟩ = false := fun k hk => by
      have := hv.own rfl hnil (p + k) (by omega)
      rwa [← Nat.add_assoc] at this
    refine ⟨hnil, fun x hx => (k3 x hx).2, ?_, ?_⟩
    · have := run_storeCells_cells (P := P) r.blk (r.off + p) (xs.map (Lf.conc ν ρ)) 0 w (by simpa using fun k hk => (hex k hk).1) (by simpa using fun k hk => (hex k hk).2)
        (fun v hv => by obtain ⟨l, hl, rfl⟩ := List.mem_map.1 hv; exact Lf.ok_conc (k3 l hl).2 ρ)
      simpa using this
    · have hlen : (a'.cells ν).length = (a.cells ν).length := by rw [k2, overD_len]
      refine ⟨hv.nil, fun e => by rw [setCells_size]; exact hv.lt e, hv.pos, by rw [hlen]; exact hv.len, hv.cap, fun i hi => ?_, fun _ e i hi => ?_⟩
      · rw [hlen] at hi
        by_cases hin : p ≤ i ∧ i < p + xs.length
        · obtain ⟨k, hk⟩ : ∃ k, i = p + k := ⟨i - p, by omega⟩
          have hkl : k < xs.length := by omega
          have e1 := World.cell?_setCells_in r.blk (xs.map (Lf.conc ν ρ)) (r.off + p) w (by simpa using fun k hk => (hex k hk).1) k (by simpa using hkl)
          refine ⟨(xs[k]).conc ν ρ, ?_, ?_⟩
          · rw [hk, ← Nat.add_assoc, e1]
            simp
          · have e2 := overD_in vs (a.cells ν) p k (by omega) (by omega)
            have hkv : k < vs.length := by omega
            have e3 : (a'.cells ν).getD i default = vs[k] := by
              subst hk
              rw [List.getD_eq_getElem?_getD, k2, e2, List.getElem?_eq_getElem hkv]
              rfl
            have e4 := k4 k xs[k] vs[k] (List.getElem?_eq_getElem hkl) (List.getElem?_eq_getElem hkv) ρ
            rw [e3, hk, hmod k hkl]
            exact e4
        · obtain ⟨v, g1, g2⟩ := hv.cell i hi
          refine ⟨v, ?_, ?_⟩
          · rw [World.cell?_setCells_out _ _ _ _ _ (fun _ _ => by simp; omega)]
            exact g1
          · have : (a'.cells ν).getD i default = (a.cells ν).getD i default := by
              rw [List.getD_eq_getElem?_getD, List.getD_eq_getElem?_getD, k2, overD_out vs _ _ i (by omega)]
            rw [this]
            exact g2
      · rw [World.frozen?_setCells]
        have := hv.own rfl e i hi
        refine ⟨?_, this.2⟩
        by_cases hi2 : p ≤ i ∧ i < p + xs.length
        · obtain ⟨k, hk⟩ : ∃ k, i = p + k := ⟨i - p, by omega⟩
          have hkl : k < xs.length := by omega
          have e1 := World.cell?_setCells_in r.blk (xs.map (Lf.conc ν ρ)) (r.off + p) w (by simpa using fun k hk => (hex k hk).1) k (by simpa using hkl)
          rw [hk, ← Nat.add_assoc, e1]
          rfl
        · rw [World.cell?_setCells_out _ _ _ _ _ (fun _ _ => by simp; omega)]
          exact this.1
  · exact sat_fail

/-! ### Rows made anew -/
/-- What an operation that makes a row comes to. -/
def NewRow (E : Env) (ν : Nat → DV) (ρ : Nat → Loc) (hp : List (Option Blk)) (v : Value) (w' : World) : OR → Prop
  | .hp (some u) hp' => u.good ν ∧ ∃ ρ' : Nat → Loc, (∀ j, j < hp.length → ρ' j = ρ j) ∧ HS E ν ρ' hp' w' ∧ v = u.conc ν ρ'
  | _ => False
theorem NewRow.run {ρ : Nat → Loc} {hp : List (Option Blk)} {x : Sem Next} {y : Sem Value} {z : OR} (hx : ∀ w v w', y.run P w = .ok v w' → x.run P w = .ok (.value v) w')
    (h : ∀ w, HS E ν ρ hp w → ∃ v w', y.run P w = .ok v w' ∧ NewRow E ν ρ hp v w' z) : ORok P I E ν ρ hp x z := by
  cases z with
  | val v => intro w hw _; obtain ⟨_, _, _, h2⟩ := h w hw; exact h2.elim
  | hp v hp' =>
    intro w hw _
    obtain ⟨u, w', h1, h2⟩ := h w hw
    cases v with
    | none => exact h2.elim
    | some v =>
      obtain ⟨g, ρ', h3, h4, h5⟩ := h2
      exact .inl ⟨u, w', hx w u w' h1, ρ', h3, h4, fun q hq => by cases hq; exact ⟨g, by rw [h5]⟩⟩
theorem NewRow.mk {ρ : Nat → Loc} {hp hp1 : List (Option Blk)} {w' : World} {v : Value} {bk : Blk} {r : Loc} (hl : hp1.length = hp.length) (hv : v = r.slice) (h : HS E ν (ext ρ hp.length r) (hp1 ++ [some bk]) w') :
    NewRow E ν ρ hp v w' (.hp (some (.s (.one (.vec hp.length)))) (hp1 ++ [some bk])) :=
  ⟨V1.good_one.2 trivial, ext ρ hp.length r, fun j hj => ext_lt hj, h, by rw [hv]; simp [V.conc, V1.conc, Lf.conc, ext_same]⟩

/-! Slices -/
def boundIs (x : Option Value) (d n : Nat) : Prop := (x = none ∧ n = d) ∨ ∃ k, x = some (.int k n)
theorem run_sliceBounds {b : Bool} {len cap l h : Nat} {lo hi : Option Value} (hlo : boundIs lo 0 l) (hhi : boundIs hi len h) (h1 : l ≤ h) (h2 : h ≤ cap) (h3 : len ≤ cap) (w : World) :
    (Instr.sliceBounds b len cap lo hi none).run P w = .ok (l, h, cap) w := by
  rcases hlo with ⟨rfl, rfl⟩ | ⟨k, rfl⟩ <;> rcases hhi with ⟨rfl, rfl⟩ | ⟨k', rfl⟩ <;> simp [Instr.sliceBounds, Instr.sliceBound, asIntOf, h1, h2, Int.ofNat_le]

theorem run_slice_row {t : TypeId} {e sz : Nat} (ht : P.underlying t = some (.slice e)) (hs : tsize P e = some sz) {r : Loc} {lo hi : Option Value} {l h : Nat} (hlo : boundIs lo 0 l) (hhi : boundIs hi r.len h) (h1 : l ≤ h) (h2 : h ≤ r.len) (h3 : r.len ≤ r.cap) (w : World) :
    (Instr.sliceAt t r.slice lo hi none).run P w = .ok (Loc.slice ⟨r.blk, if r.cap = l then r.off else r.off + l * sz, r.nil, h - l, r.cap - l⟩) w := by
  have hb := run_sliceBounds (P := P) (b := true) (cap := r.cap) hlo hhi h1 (by omega) h3 w
  simp only [Instr.sliceAt, Instr.slice, Loc.slice, Sem.run_bind, run_underlying ht, Result.andThen_ok, hb, run_size hs, Sem.run_pure]
  cases r.nil
  · by_cases hc : r.cap = l <;> simp [hc, addr_add]
  · simp
theorem run_slice_arr {t : TypeId} {n e sz : Nat} (ht : P.underlying t = some (.array n e)) (hs : tsize P e = some sz) {b o : Nat} {lo hi : Option Value} {l h : Nat} (hlo : boundIs lo 0 l) (hhi : boundIs hi n h) (h1 : l ≤ h) (h2 : h ≤ n) (w : World) :
    (Instr.sliceAt t (.pointer (some ⟨b, o, none⟩)) lo hi none).run P w = .ok (Loc.slice ⟨b, if n = l then o else o + l * sz, false, h - l, n - l⟩) w := by
  have hb := run_sliceBounds (P := P) (b := false) (cap := n) hlo hhi h1 h2 (Nat.le_refl _) w
  simp only [Instr.sliceAt, Loc.slice, Sem.run_bind, run_underlying ht, Result.andThen_ok, hb, run_size hs, Sem.run_pure, Instr.sureAddr]
  by_cases hc : n = l <;> simp [hc, addr_add]

theorem VRel.cut {w : World} {r : Loc} {o : Bool} {ts : List LT} {xs : List DV} (hv : VRel E w r o ts xs) {l h : Nat} (h1 : l ≤ h) (h2 : h ≤ r.len) :
    VRel E w ⟨r.blk, if r.cap = l then r.off else r.off + l * ts.length, r.nil, h - l, r.cap - l⟩ o ts ((xs.take (h * ts.length)).drop (l * ts.length)) := by
  have hle : h * ts.length ≤ xs.length := by rw [hv.len]; exact Nat.mul_le_mul_right _ h2
  have hlen : ((xs.take (h * ts.length)).drop (l * ts.length)).length = (h - l) * ts.length := by
    rw [List.length_drop, List.length_take, Nat.min_eq_left hle, Nat.sub_mul]
  have hcap := hv.cap
  refine ⟨fun hn => ?_, hv.lt, hv.pos, hlen, by show h - l ≤ r.cap - l; omega, fun i hi => ?_, fun ho hn i hi => ?_⟩
  · have := hv.nil hn
    exact ⟨by show h - l = 0; omega, by show r.cap - l = 0; omega⟩
  · rw [hlen] at hi
    have hlh : l < h := by
      rcases Nat.lt_or_ge l h with h | h
      · exact h
      · rw [Nat.sub_eq_zero_of_le h, Nat.zero_mul] at hi; omega
    rw [Nat.sub_mul] at hi
    obtain ⟨v, e1, e2⟩ := hv.cell (l * ts.length + i) (by omega)
    refine ⟨v, ?_, ?_⟩
    · show w.cell? ⟨r.blk, (if r.cap = l then r.off else r.off + l * ts.length) + i, none⟩ = some v
      rw [if_neg (by omega), ← e1]
      congr 2
      omega
    · have e3 : ((xs.take (h * ts.length)).drop (l * ts.length)).getD i default = xs.getD (l * ts.length + i) default := by
        simp only [List.getD_eq_getElem?_getD]
        rw [List.getElem?_drop, List.getElem?_take_of_lt (by omega)]
      rw [e3]
      have e4 : (l * ts.length + i) % ts.length = i % ts.length := by rw [Nat.mul_comm l, Nat.mul_add_mod]
      rw [← e4]
      exact e2
  · have hi : i < (r.cap - l) * ts.length := hi
    have hlc : l < r.cap := by
      rcases Nat.lt_or_ge l r.cap with h | h
      · exact h
      · rw [Nat.sub_eq_zero_of_le h, Nat.zero_mul] at hi; omega
    have hle2 : l * ts.length ≤ r.cap * ts.length := Nat.mul_le_mul_right _ (by omega)
    rw [Nat.sub_mul] at hi
    have := hv.own ho hn (l * ts.length + i) (by omega)
    show (w.cell? ⟨r.blk, (if r.cap = l then r.off else r.off + l * ts.length) + i, none⟩).isSome = true ∧ w.frozen? ⟨r.blk, (if r.cap = l then r.off else r.off + l * ts.length) + i, none⟩ = false
    rw [if_neg (by omega), Nat.add_assoc]
    exact this

theorem cutHigh_sat {sz : Nat} {a : A} {high : Option Lf} (hd : (a.cells ν).length % sz = 0) : M.sat F ν (cutHigh sz a high) (fun q => ∃ h : Nat, h ≤ (a.cells ν).length / sz ∧ q.2.int ν = h ∧ q.1.cells ν = (a.cells ν).take (h * sz) ∧
    ∀ ρ : Nat → Loc, boundIs (high.map (Lf.conc ν ρ)) ((a.cells ν).length / sz) h) := by
  unfold cutHigh
  split
  · refine sat_bind (sat_emit (Q := fun q => q.int ν = ((a.cells ν).length / sz : Nat)) fun q h => A.int_of_den h) fun n hn => sat_pure ⟨_, Nat.le_refl _, hn, ?_, fun ρ => .inl ⟨rfl, rfl⟩⟩
    rw [Nat.div_mul_cancel (Nat.dvd_of_mod_eq_zero hd), List.take_length]
  · rename_i k h
    refine sat_bind oweGe0_sat fun _ h0 => ?_
    refine sat_bind (sat_emit (Q := fun q => q.int ν = ((a.cells ν).length / sz : Nat)) fun q h => A.int_of_den h) fun n hn => ?_
    refine sat_bind oweLeA_sat fun _ h1 => ?_
    refine sat_bind (sat_emit (Q := fun q => q.cells ν = (a.cells ν).take ((h.int ν).toNat * sz)) fun q h => A.cells_of_den h) fun q hq => sat_pure ⟨(h.int ν).toNat, by omega, by show h.int ν = ((h.int ν).toNat : Int); omega, hq, fun ρ => .inr ⟨k, ?_⟩⟩
    simp [Lf.conc, Int.toNat_of_nonneg h0]
  · exact sat_fail
theorem cutLow_sat {sz : Nat} {a n : A} {low : Option Lf} {h : Nat} (hn : n.int ν = h) : M.sat F ν (cutLow sz a n low) (fun q => ∃ l : Nat, l ≤ h ∧ q.cells ν = (a.cells ν).drop (l * sz) ∧ ∀ ρ : Nat → Loc, boundIs (low.map (Lf.conc ν ρ)) 0 l) := by
  unfold cutLow
  split
  · exact sat_pure ⟨0, Nat.zero_le _, by simp, fun ρ => .inl ⟨rfl, rfl⟩⟩
  · rename_i k l
    refine sat_bind oweGe0_sat fun _ h0 => sat_bind oweLeA_sat fun _ h1 => ?_
    refine sat_emit fun q hq => ⟨(l.int ν).toNat, by omega, A.cells_of_den hq, fun ρ => .inr ⟨k, ?_⟩⟩
    simp [Lf.conc, Int.toNat_of_nonneg h0]
  · exact sat_fail

/-- Known cells as a row. -/
theorem rowLits_spec {ts : List LT} : ∀ {cs : List (Option Lf)} {i : Nat} {r : List Ty × List A}, rowLits ts i cs = some r → r.1.length = cs.length ∧ r.2.length = cs.length ∧
    ∀ j, j < cs.length → ∃ x, nth cs j = some x ∧ x.ok = true ∧ x.good ν ∧ ∀ ρ, CRel E (ts.getD ((i + j) % ts.length) .bool) ((nrmZ r.1 (r.2.map (A.den ν))).getD j default) (x.conc ν ρ)
  | [], i, r, h => by simp [rowLits] at h; subst h; exact ⟨rfl, rfl, fun j hj => by simp at hj⟩
  | c :: cs, i, r, h => by
    simp only [rowLits] at h
    cases c with
    | none => simp at h
    | some x =>
      simp only [Option.bind_some] at h
      cases hx : leafAs (ts.getD (i % ts.length) .bool) x with
      | none => simp only [hx] at h; cases h
      | some a =>
        simp only [hx] at h
        cases hr : rowLits ts (i + 1) cs with
        | none => simp only [hr] at h; cases h
        | some r' =>
          simp only [hr, Option.some.injEq] at h
          subst h
          obtain ⟨h1, h2, h3⟩ := rowLits_spec hr
          refine ⟨by simp [h1], by simp [h2], fun j hj => ?_⟩
          cases j with
          | zero =>
            have := leafAs_spec (E := E) (ν := ν) hx
            exact ⟨x, rfl, this.2.1, this.1, fun ρ => this.2.2 ρ⟩
          | succ j =>
            obtain ⟨y, k1, k2, k3, k4⟩ := h3 j (by simpa using hj)
            refine ⟨y, k1, k2, k3, fun ρ => ?_⟩
            have := k4 ρ
            rw [show i + 1 + j = i + (j + 1) from by omega] at this
            exact this
theorem nrmZ_len : ∀ {ts : List Ty} {ds : List DV}, ts.length = ds.length → (nrmZ ts ds).length = ds.length
  | [], [], _ => rfl
  | t :: ts, d :: ds, h => by simp [nrmZ, nrmZ_len (show ts.length = ds.length by simpa using h)]
  | [], _ :: _, h => by simp at h
  | _ :: _, [], h => by simp at h

theorem kindsOf_len : ∀ {l : List Lf} {ts : List LT}, kindsOf l = some ts → ts.length = l.length
  | [], ts, h => by simp [kindsOf] at h; subst h; rfl
  | .i k a :: l, ts, h => by
    simp only [kindsOf] at h
    obtain ⟨r, hr, rfl⟩ := Option.map_eq_some_iff.1 h
    simp [kindsOf_len hr]
  | .b a :: l, ts, h => by
    simp only [kindsOf] at h
    obtain ⟨r, hr, rfl⟩ := Option.map_eq_some_iff.1 h
    simp [kindsOf_len hr]
  | .p _ _ :: _, _, h => by simp [kindsOf] at h
  | .gp _ _ :: _, _, h => by simp [kindsOf] at h
  | .nilp :: _, _, h => by simp [kindsOf] at h
  | .vec _ :: _, _, h => by simp [kindsOf] at h
  | .fnp _ _ :: _, _, h => by simp [kindsOf] at h
  | .v _ :: _, _, h => by simp [kindsOf] at h

/-- Cells of a block as a row. -/
theorem CBlk.row {ρ : Nat → Loc} {w : World} {r : Loc} {o : Bool} {cs : List (Option Lf)} (h : CBlk ν ρ w r o cs) {ts : List LT} {q : List Ty × List A} (hq : rowLits ts 0 cs = some q) {n : Nat} (hn : cs.length = n * ts.length) (hpos : 0 < ts.length) :
    VRel E w ⟨r.blk, r.off, false, n, n⟩ o ts (nrmZ q.1 (q.2.map (A.den ν))) := by
  obtain ⟨h1, h2, h3⟩ := rowLits_spec (E := E) (ν := ν) hq
  have hl : (nrmZ q.1 (q.2.map (A.den ν))).length = cs.length := by rw [nrmZ_len (by simp [h1, h2]), List.length_map, h2]
  refine ⟨fun e => (by cases e), fun _ => h.lt, hpos, by rw [hl, hn], Nat.le_refl _, fun i hi => ?_, fun ho _ i hi => h.own ho i (by rw [hn]; exact hi)⟩
  rw [hl] at hi
  obtain ⟨x, k1, _, _, k4⟩ := h3 i hi
  rw [Nat.zero_add] at k4
  exact ⟨_, (h.cell i x k1).2, k4 ρ⟩

theorem evSlice_sat {hp : List (Option Blk)} {t : TypeId} {x : V} {low high : Option Lf} : M.sat F ν (evSlice P hp t x low high) (fun z => ∀ ρ w, HS E ν ρ hp w →
    ∃ v w', (Instr.sliceAt t (x.conc ν ρ) (low.map (Lf.conc ν ρ)) (high.map (Lf.conc ν ρ)) none).run P w = .ok v w' ∧ NewRow E ν ρ hp v w' z) := by
  unfold evSlice
  refine sat_bind (sat_lift (Q := fun k => tk P t = some k) fun a h => h) fun k hk => ?_
  split
  · rename_i elem b
    refine sat_bind (sat_lift (Q := fun k => tsize P elem = some k) fun a h => h) fun sz hs => ?_
    refine sat_bind (sat_lift (Q := fun r => rowAt hp b = some r) fun a h => h) fun r hr => ?_
    refine sat_ite (fun hc => ?_) (fun _ => sat_fail)
    simp only [Bool.and_eq_true] at hc
    have h1 := Nat.eq_of_beq_eq_true hc.1
    have hlt := hc.2
    subst h1
    by_cases hd : (r.2.2.cells ν).length % r.2.1.length = 0
    · refine sat_bind (cutHigh_sat hd) fun q ⟨h, k1, k2, k3, k4⟩ => sat_bind (cutLow_sat k2) fun q2 ⟨l, m1, m2, m3⟩ => sat_pure fun ρ w hw => ?_
      have hv := row_rel hr hw
      rw [hv.elems] at k1 k4
      have hrun := run_slice_row (P := P) (tk_slice hk) hs (r := ρ b) (m3 ρ) (k4 ρ) m1 k1 hv.cap w
      have hv2 := hv.cut m1 k1
      rw [← k3, ← m2] at hv2
      refine ⟨_, w, hrun, NewRow.mk (by split <;> simp [setNth_length]) rfl ?_⟩
      have hbk := rowAt_spec hr
      cases ho : r.1 with
      | true =>
        rw [ho] at hv2 hbk
        simp only [if_true]
        have hk1 := (hw.kill b).push (w' := w) (bk := .v true r.2.1 q2) (r := ⟨(ρ b).blk, if (ρ b).cap = l then (ρ b).off else (ρ b).off + l * r.2.1.length, (ρ b).nil, h - l, (ρ b).cap - l⟩) (hpLt_kill hlt) (Below.refl _ w) hv2
          (fun j b' hj _ hn1 hn2 => (hw.heap.apart b j _ b' hbk rfl (nth_kill hj).2 (Ne.symm (nth_kill hj).1) hn1 hn2).symm) (by
            rcases hw.old b _ hbk with h | h | h | h
            · exact .inl h
            · exact .inr (.inl h)
            · exact .inr (.inr (.inl h))
            · cases h.1)
        rw [setNth_length] at hk1
        exact hk1
      | false =>
        rw [ho] at hv2 hbk
        simp only [Bool.false_eq_true, if_false]
        refine hw.push (w' := w) (bk := .v false r.2.1 q2) hlt (Below.refl _ w) hv2 (fun j b' hj hor hn1 hn2 => ?_) (by
          rcases hw.old b _ hbk with h | h | h | h
          · exact .inl h
          · exact .inr (.inl h)
          · exact .inr (.inr (.inl h))
          · exact .inr (.inr (.inr ⟨rfl, h.2⟩)))
        rcases hor with hor | hor
        · cases hor
        · by_cases hjb : j = b
          · subst hjb
            rw [hbk] at hj
            cases hj
            cases hor
          · exact hw.heap.apart j b b' _ hj hor hbk hjb hn2 hn1
    · refine sat_bind sat_true fun q _ => sat_bind sat_true fun q2 _ => sat_pure fun ρ w hw => ?_
      have hv := row_rel hr hw
      exact absurd (by rw [hv.len]; exact Nat.mul_mod_left _ _) hd
  · rename_i n elem b
    refine sat_bind (sat_lift (Q := fun bk => nth hp b = some bk) fun a h => h) fun bk hbk => ?_
    split
    · rename_i o cs
      refine sat_bind (sat_lift (Q := fun k => tsize P elem = some k) fun a h => h) fun sz hs => ?_
      refine sat_bind sat_true fun z _ => ?_
      refine sat_bind sat_true fun ts _ => ?_
      refine sat_bind (sat_lift (Q := fun r => rowLits ts 0 cs = some r) fun a h => h) fun r hr => ?_
      refine sat_ite (fun hc => ?_) (fun _ => sat_fail)
      simp only [Bool.and_eq_true] at hc
      obtain ⟨⟨⟨c1, c2⟩, c3⟩, hlt⟩ := hc
      have c1 := Nat.eq_of_beq_eq_true c1
      have c2 : 0 < sz := Nat.le_of_ble_eq_true c2
      have c3 := Nat.eq_of_beq_eq_true c3
      subst c1
      refine sat_bind (sat_emit (Q := fun q => q.cells ν = nrmZ r.1 (r.2.map (A.den ν))) fun q h => A.cells_of_den h) fun q0 hq0 => ?_
      have hlen : (q0.cells ν).length = n * ts.length := by
        obtain ⟨l1, l2, _⟩ := rowLits_spec (E := E) (ν := ν) hr
        rw [hq0, nrmZ_len (by simp [l1, l2]), List.length_map, l2, c3]
      refine sat_bind (cutHigh_sat (by rw [hlen]; exact Nat.mul_mod_left _ _)) fun q ⟨h, k1, k2, k3, k4⟩ => sat_bind (cutLow_sat k2) fun q2 ⟨l, m1, m2, m3⟩ => sat_pure fun ρ w hw => ?_
      rw [hlen, Nat.mul_div_cancel _ c2] at k1 k4
      have hb0 : CBlk ν ρ w (ρ b) o cs := hw.heap.blk b _ hbk
      have hv := hb0.row (E := E) hr c3 c2
      rw [← hq0] at hv
      have hrun := run_slice_arr (P := P) (tk_arr hk) hs (b := (ρ b).blk) (o := (ρ b).off) (m3 ρ) (k4 ρ) m1 k1 w
      have hv2 := hv.cut m1 k1
      rw [← k3, ← m2] at hv2
      refine ⟨_, w, by simpa [V.conc, V1.conc, Lf.conc, Off.val] using hrun, NewRow.mk (setNth_length _ _ _) rfl ?_⟩
      have hk1 := (hw.kill b).push (w' := w) (bk := .v o ts q2) (r := ⟨(ρ b).blk, if n = l then (ρ b).off else (ρ b).off + l * ts.length, false, h - l, n - l⟩) (hpLt_kill hlt) (Below.refl _ w) hv2
          (fun j b' hj hor hn1 hn2 => by
            obtain ⟨hjb, hj⟩ := nth_kill hj
            rcases hor with hor | hor
            · exact (hw.heap.apart b j _ b' hbk hor hj (Ne.symm hjb) hb0.nil hn2).symm
            · exact hw.heap.apart j b b' _ hj hor hbk hjb hn2 hb0.nil) (by
            rcases hw.old b _ hbk with h | h | h | h
            · rw [hb0.nil] at h; cases h
            · exact .inr (.inl h)
            · exact .inr (.inr (.inl h))
            · exact .inr (.inr (.inr h)))
      rw [setNth_length] at hk1
      exact hk1
    · exact sat_fail
  · exact sat_fail

/-! Appends -/
/-- A row's cells, as they stand. -/
def rowVals (w : World) (r : Loc) (n : Nat) : List Value := (List.range n).map fun i => (w.cell? ⟨r.blk, r.off + i, none⟩).getD undef
theorem rowVals_len (w : World) (r : Loc) (n : Nat) : (rowVals w r n).length = n := by simp [rowVals]
theorem CRel.one {t : LT} {d : DV} {v : Value} (h : CRel E t d v) : v.oneCell' = true := by cases h <;> rfl
theorem VRel.vals {w : World} {r : Loc} {o : Bool} {ts : List LT} {xs : List DV} (h : VRel E w r o ts xs) : (∀ (j : Nat) (v : Value), (rowVals w r xs.length)[j]? = some v → w.cell? ⟨r.blk, r.off + j, none⟩ = some v ∧ CRel E (ts.getD (j % ts.length) .bool) (xs.getD j default) v) ∧
    (∀ v ∈ rowVals w r xs.length, v.oneCell' = true) := by
  have key : ∀ (j : Nat) (v : Value), (rowVals w r xs.length)[j]? = some v → w.cell? ⟨r.blk, r.off + j, none⟩ = some v ∧ CRel E (ts.getD (j % ts.length) .bool) (xs.getD j default) v := by
    intro j v hj
    have hl : j < xs.length := by
      have := (List.getElem?_eq_some_iff.1 hj).1
      rwa [rowVals_len] at this
    obtain ⟨u, h1, h2⟩ := h.cell j hl
    unfold rowVals at hj
    rw [List.getElem?_map, List.getElem?_range hl, Option.map_some, h1] at hj
    simp only [Option.getD_some, Option.some.injEq] at hj
    subst hj
    exact ⟨h1, h2⟩
  refine ⟨key, fun v hv => ?_⟩
  obtain ⟨j, hj, rfl⟩ := List.mem_iff_getElem.1 hv
  exact (key j _ (List.getElem?_eq_getElem hj)).2.one

theorem tbytes_spec {t : TypeId} {n : Nat} (h : tbytes P t = some n) : ∃ i, P.info? t = some i ∧ i.bytes = n := by
  unfold tbytes at h
  cases hi : P.info? t with
  | none => simp [hi] at h
  | some i => simp [hi] at h; exact ⟨i, rfl, h⟩
theorem zeroCells_spec {t : TypeId} {z : List Lf} (h : zeroCells P t = some z) : ∃ i v, P.info? t = some i ∧ i.zero = some v ∧ (∀ x ∈ z, x.good ν) ∧ ∀ ρ, v.cells.toList = z.map (Lf.conc ν ρ) := by
  unfold zeroCells at h
  split at h
  · cases h
  · rename_i i hi
    split at h
    · cases h
    · rename_i v hv
      have := ofLeaves_spec (ν := ν) h
      exact ⟨i, v, hi, hv, this.1, fun ρ => (this.2 ρ).symm⟩
theorem rowLim_mul {n by_ : Nat} (h : n ≤ rowLim by_) : n * by_ ≤ 140737488355328 ∧ n ≤ 9223372036854775807 := by
  unfold rowLim at h
  have h1 : n * (by_ + 1) ≤ 70368744177664 := (Nat.le_div_iff_mul_le (by omega)).1 h
  have h2 : n * by_ ≤ n * (by_ + 1) := Nat.mul_le_mul_left _ (by omega)
  have h3 : n ≤ n * (by_ + 1) := Nat.le_mul_of_pos_right _ (by omega)
  exact ⟨by omega, by omega⟩

theorem evAppend_sat {hp : List (Option Blk)} {t tx : TypeId} {s x : V} : M.sat F ν (evAppend P hp t tx s x) (fun z => ∀ ρ w ty, HS E ν ρ hp w →
    ∃ v w', (Builtin.append_ #[t, tx] ty #[s.conc ν ρ, x.conc ν ρ]).run P w = .ok v w' ∧ NewRow E ν ρ hp v w' z) := by
  unfold evAppend
  refine sat_bind (sat_lift (Q := fun k => tk P t = some k) fun a h => h) fun k hk => ?_
  refine sat_bind (sat_lift (Q := fun k => tk P tx = some k) fun a h => h) fun kx hkx => ?_
  split
  · rename_i elem ex b c
    refine sat_bind (sat_lift (Q := fun r => rowAt hp b = some r) fun a h => h) fun r hr => ?_
    refine sat_bind (sat_lift (Q := fun r => rowAt hp c = some r) fun a h => h) fun u hu => ?_
    refine sat_bind (sat_lift (Q := fun z => zeroCells P elem = some z) fun a h => h) fun z hz => ?_
    refine sat_bind (sat_lift (Q := fun k => tsize P elem = some k) fun a h => h) fun sz hs => ?_
    refine sat_bind (sat_lift (Q := fun k => tbytes P elem = some k) fun a h => h) fun by_ hby => ?_
    refine sat_ite (fun hc => ?_) (fun _ => sat_fail)
    simp only [Bool.and_eq_true, Bool.not_eq_true'] at hc
    obtain ⟨⟨⟨⟨⟨c1, c2⟩, c3⟩, c4⟩, c5⟩, hlt⟩ := hc
    have c2 : b ≠ c := fun e => by subst e; rw [Nat.beq_refl] at c2; cases c2
    have c3 := LTs.beq_eq c3
    have c4 := Nat.eq_of_beq_eq_true c4
    have c5 := Nat.eq_of_beq_eq_true c5
    refine sat_bind (sat_emit (Q := fun q => q.cells ν = r.2.2.cells ν ++ u.2.2.cells ν) fun q h => A.cells_of_den h) fun q hq => ?_
    refine sat_bind (sat_emit (Q := fun n => n.int ν = ((q.cells ν).length / sz : Nat)) fun q h => A.int_of_den h) fun n hn => ?_
    refine sat_bind oweLeA_sat fun _ hle => sat_pure fun ρ w ty hw => ?_
    obtain ⟨i, zv, hi, hzv, _, hzc⟩ := zeroCells_spec (ν := ν) hz
    obtain ⟨i1, hi1, hsz⟩ := tsize_spec hs
    obtain ⟨i2, hi2, hbz⟩ := tbytes_spec hby
    rw [hi] at hi1 hi2
    cases hi1
    cases hi2
    have hvb := row_rel hr hw
    have hvc := row_rel hu hw
    rw [← c3] at hvc
    rw [c1] at hvb
    have hsr : i.size = r.2.1.length := by rw [hsz]; exact c4
    have hpos := hvb.pos
    have hqn : (q.cells ν).length = ((ρ b).len + (ρ c).len) * r.2.1.length := by rw [hq, List.length_append, hvb.len, hvc.len, Nat.add_mul]
    have hnn : (ρ b).len + (ρ c).len ≤ rowLim by_ := by
      rw [hn, hqn, c4, Nat.mul_div_cancel _ hpos] at hle
      exact Int.ofNat_le.1 hle
    obtain ⟨hl1, hl2⟩ := rowLim_mul hnn
    rw [← hbz] at hl1
    have hsrc : Src P i.size tx (ρ c).slice (ρ c).len (rowVals w (ρ c) (u.2.2.cells ν).length) w := by
      have hv := hvc.vals
      cases hnil : (ρ c).nil with
      | true =>
        have h0 := hvc.nil hnil
        have : (u.2.2.cells ν).length = 0 := by rw [hvc.len, h0.1, Nat.zero_mul]
        rw [this]
        have := Src.ofNil w (size := i.size) (tk_slice hkx) 0
        simpa [Loc.slice, hnil, h0, rowVals] using this
      | false =>
        have := Src.ofSlice w (size := i.size) (tk_slice hkx) ⟨(ρ c).blk, (ρ c).off, none⟩ (ρ c).len (ρ c).cap (rowVals w (ρ c) (u.2.2.cells ν).length) (by rw [rowVals_len, hvc.len, hsr])
          (fun j v hj => by rw [addr_add]; exact (hv.1 j v hj).1) hv.2
        simpa [Loc.slice, hnil] using this
    have hcl : (u.2.2.cells ν).length = (ρ c).len * r.2.1.length := hvc.len
    -- the new row's cells
    have hcells : ∀ (w' : World) (r' : Loc), (∀ j, j < (r.2.2.cells ν).length → w'.cell? ⟨r'.blk, r'.off + j, none⟩ = w.cell? ⟨(ρ b).blk, (ρ b).off + j, none⟩) →
        (∀ j v, (rowVals w (ρ c) (u.2.2.cells ν).length)[j]? = some v → w'.cell? ⟨r'.blk, r'.off + ((r.2.2.cells ν).length + j), none⟩ = some v) →
        ∀ j, j < (q.cells ν).length → ∃ v, w'.cell? ⟨r'.blk, r'.off + j, none⟩ = some v ∧ CRel E (r.2.1.getD (j % r.2.1.length) .bool) ((q.cells ν).getD j default) v := by
      intro w' r' h1 h2 j hj
      rw [hq, List.length_append] at hj
      rcases Nat.lt_or_ge j (r.2.2.cells ν).length with hj1 | hj1
      · obtain ⟨v, g1, g2⟩ := hvb.cell j hj1
        refine ⟨v, by rw [h1 j hj1]; exact g1, ?_⟩
        have e0 : (r.2.2.cells ν ++ u.2.2.cells ν).getD j default = (r.2.2.cells ν).getD j default := by
          simp only [List.getD_eq_getElem?_getD]
          rw [List.getElem?_append_left hj1]
        rw [hq, e0]
        exact g2
      · obtain ⟨k, rfl⟩ : ∃ k, j = (r.2.2.cells ν).length + k := ⟨j - (r.2.2.cells ν).length, by omega⟩
        have hk : k < (rowVals w (ρ c) (u.2.2.cells ν).length).length := by rw [rowVals_len]; omega
        have g := hvc.vals.1 k _ (List.getElem?_eq_getElem hk)
        refine ⟨_, h2 k _ (List.getElem?_eq_getElem hk), ?_⟩
        have e1 : ((r.2.2.cells ν).length + k) % r.2.1.length = k % r.2.1.length := by rw [hvb.len, Nat.mul_comm, Nat.mul_add_mod]
        have e0 : (r.2.2.cells ν ++ u.2.2.cells ν).getD ((r.2.2.cells ν).length + k) default = (u.2.2.cells ν).getD k default := by
          simp only [List.getD_eq_getElem?_getD]
          rw [List.getElem?_append_right (by omega), Nat.add_sub_cancel_left]
        rw [hq, e1, e0]
        exact g.2
    rcases Nat.lt_or_ge (ρ b).cap ((ρ b).len + (ρ c).len) with hroom | hroom
    · -- there is no room
      have hold : (Builtin.firstCells i.size (ρ b).len (.slice (bif (ρ b).nil then none else some ⟨(ρ b).blk, (ρ b).off, none⟩) (ρ b).len (ρ b).cap)).run P w.drew = .ok (rowVals w (ρ b) (r.2.2.cells ν).length).toArray w.drew := by
        cases hnil : (ρ b).nil with
        | true =>
          have h0 := hvb.nil hnil
          have : (r.2.2.cells ν).length = 0 := by rw [hvb.len, h0.1, Nat.zero_mul]
          rw [this]
          exact run_firstCells_none w.drew _ _ _ _
        | false =>
          exact run_firstCells_some w.drew i.size _ ⟨(ρ b).blk, (ρ b).off, none⟩ _ _ _ (by rw [rowVals_len, hvb.len, hsr]) (fun j v hj => by
            rw [addr_add]
            simpa using (hvb.vals.1 j v hj).1)
      have hrun := run_append_grow_src (P := P) w t tx ty elem i zv (tk_slice hk) hi hzv _ _ _ _ hold (ρ c).slice _ _ hsrc hroom (by omega) (growslice_fits hroom (by omega))
      refine ⟨_, _, hrun, NewRow.mk (r := ⟨w.heap.size, 0, false, (ρ b).len + (ρ c).len, grownCap w ((ρ b).len + (ρ c).len) (ρ b).cap elem⟩) (setNth_length _ _ _) rfl ?_⟩
      have hge := grownCap_ge w ((ρ b).len + (ρ c).len) (ρ b).cap elem
      generalize hcp : grownCap w ((ρ b).len + (ρ c).len) (ρ b).cap elem = cp at *
      generalize hob : (.cells ((rowVals w (ρ b) (r.2.2.cells ν).length ++ rowVals w (ρ c) (u.2.2.cells ν).length).toArray ++ Builtin.zeroCells zv.cells (cp - ((ρ b).len + (ρ c).len))) elem : Obj) = ob
      have hbel : Below w.heap.size w (w.drew.alloc ob) := ⟨rfl, rfl, rfl, by simp, fun k hk => Below.heap_alloc w.drew _ _ hk⟩
      have hnew : ∀ j, (w.drew.alloc ob).cell? ⟨w.heap.size, j, none⟩ = ((rowVals w (ρ b) (r.2.2.cells ν).length ++ rowVals w (ρ c) (u.2.2.cells ν).length).toArray ++ Builtin.zeroCells zv.cells (cp - ((ρ b).len + (ρ c).len)))[j]? := fun j => by
        rw [← hob]
        exact World.cell?_alloc_new w.drew _ _ j
      have hfrz : ∀ j, (w.drew.alloc ob).frozen? ⟨w.heap.size, j, none⟩ = false := fun j => by
        rw [← hob]
        exact World.frozen?_alloc_new w.drew _ _ j
      have hk1 := (hw.kill b).fresh (w' := w.drew.alloc ob) (bk := .v true r.2.1 q) (r := ⟨w.heap.size, 0, false, (ρ b).len + (ρ c).len, cp⟩) (hpLt_kill hlt) hbel
        (⟨fun e => (by cases e), fun _ => by simp, hpos, hqn, hge, fun j hj => ?_, fun _ _ j hj => ?_⟩ : VRel E (w.drew.alloc ob) ⟨w.heap.size, 0, false, (ρ b).len + (ρ c).len, cp⟩ true r.2.1 (q.cells ν)) (.inr (Nat.le_refl _))
      · rw [setNth_length] at hk1
        exact hk1
      · refine hcells (w.drew.alloc ob) ⟨w.heap.size, 0, false, (ρ b).len + (ρ c).len, cp⟩ (fun j hj => ?_) (fun j v hj => ?_) j hj
        · simp only [Nat.zero_add]
          rw [hnew, Array.getElem?_append_left (by simp [rowVals_len]; omega)]
          obtain ⟨v, g1, _⟩ := hvb.cell j hj
          rw [g1, List.getElem?_toArray, List.getElem?_append_left (by rw [rowVals_len]; exact hj)]
          unfold rowVals
          rw [List.getElem?_map, List.getElem?_range hj, Option.map_some, g1]
          rfl
        · have hjl := (List.getElem?_eq_some_iff.1 hj).1
          simp only [Nat.zero_add]
          rw [hnew, Array.getElem?_append_left (by simp [rowVals_len] at hjl ⊢; omega), List.getElem?_toArray, List.getElem?_append_right (by rw [rowVals_len]; omega), rowVals_len, Nat.add_sub_cancel_left]
          exact hj
      · simp only [Nat.zero_add]
        refine ⟨?_, hfrz j⟩
        rw [hnew]
        have hsz2 : ((rowVals w (ρ b) (r.2.2.cells ν).length ++ rowVals w (ρ c) (u.2.2.cells ν).length).toArray ++ Builtin.zeroCells zv.cells (cp - ((ρ b).len + (ρ c).len))).size = cp * r.2.1.length := by
          have hzs : zv.cells.size = r.2.1.length := by
            rw [← Array.length_toList, hzc ρ, List.length_map, ← c5, c4]
          rw [Array.size_append, size_zeroCells, hzs, List.size_toArray, List.length_append, rowVals_len, rowVals_len, hvb.len, hvc.len, ← Nat.add_mul, ← Nat.add_mul]
          congr 1
          omega
        have hj : j < cp * r.2.1.length := hj
        rw [Array.getElem?_eq_getElem (by rw [hsz2]; exact hj)]
        rfl
    · -- there is room
      cases hnil : (ρ b).nil with
      | true =>
        have h0 := hvb.nil hnil
        have hc0 : (ρ c).len = 0 := by omega
        have hr0 : (r.2.2.cells ν).length = 0 := by rw [hvb.len, h0.1, Nat.zero_mul]
        have hq0 : (q.cells ν).length = 0 := by rw [hqn, h0.1, hc0]; simp
        have hun : (u.2.2.cells ν).length = 0 := by rw [hvc.len, hc0, Nat.zero_mul]
        have hrun : (Builtin.append_ #[t, tx] ty #[.slice none 0 0, (ρ c).slice]).run P w = .ok (.slice none 0 0) w := by
          have hlen := hsrc.len w
          have hcel := hsrc.cells
          rw [hc0] at hlen hcel
          simp [Builtin.append_, run_underlying (tk_slice hk), run_underlying (tk_slice hkx), sizeOf, typeInfo, hi, hlen, hcel]
        refine ⟨.slice none 0 0, w, by simpa [V.conc, V1.conc, Lf.conc, Loc.slice, hnil, h0] using hrun, NewRow.mk (r := ⟨0, 0, true, 0, 0⟩) (setNth_length _ _ _) rfl ?_⟩
        have hk1 := (hw.kill b).fresh (w' := w) (bk := .v true r.2.1 q) (r := ⟨0, 0, true, 0, 0⟩) (hpLt_kill hlt) (Below.refl _ w)
          (⟨fun _ => ⟨rfl, rfl⟩, fun e => (by cases e), hpos, by rw [hq0]; simp, Nat.le_refl _, fun j hj => by omega, fun _ e => (by cases e)⟩ : VRel E w ⟨0, 0, true, 0, 0⟩ true r.2.1 (q.cells ν)) (.inl rfl)
        rw [setNth_length] at hk1
        exact hk1
      | false =>
        have hcb : ((ρ b).len + (ρ c).len) * r.2.1.length ≤ (ρ b).cap * r.2.1.length := Nat.mul_le_mul_right _ hroom
        rw [Nat.add_mul] at hcb
        have hlb := hvb.len
        have hex : ∀ j, j < (rowVals w (ρ c) (u.2.2.cells ν).length).length → (w.cell? ⟨(ρ b).blk, (ρ b).off + (r.2.2.cells ν).length + j, none⟩).isSome = true ∧ w.frozen? ⟨(ρ b).blk, (ρ b).off + (r.2.2.cells ν).length + j, none⟩ = false := fun j hj => by
          rw [rowVals_len] at hj
          have := hvb.own rfl hnil ((r.2.2.cells ν).length + j) (by omega)
          rwa [← Nat.add_assoc] at this
        have hrun := run_append_room_src (P := P) w t tx ty elem i (tk_slice hk) hi (ρ b).blk (ρ b).off (ρ b).len (ρ b).cap (ρ c).slice _ _ hsrc hroom (by rw [hsr, ← hlb]; exact fun j hj => (hex j hj).1) (by rw [hsr, ← hlb]; exact fun j hj => (hex j hj).2)
        rw [hsr, ← hlb] at hrun
        refine ⟨_, _, by simpa [V.conc, V1.conc, Lf.conc, Loc.slice, hnil] using hrun, NewRow.mk (r := ⟨(ρ b).blk, (ρ b).off, false, (ρ b).len + (ρ c).len, (ρ b).cap⟩) (setNth_length _ _ _) rfl ?_⟩
        generalize hvs : rowVals w (ρ c) (u.2.2.cells ν).length = vs at *
        have hvl : vs.length = (u.2.2.cells ν).length := by rw [← hvs, rowVals_len]
        have hbk := rowAt_spec hr
        rw [c1] at hbk
        have hkw := hw.killw (w' := w.setCells (ρ b).blk ((ρ b).off + (r.2.2.cells ν).length) vs) hbk rfl hnil (setCells_size _ _ _ _) (setCells_os _ _ _ _).1 (setCells_os _ _ _ _).2.1 (setCells_os _ _ _ _).2.2 (fun k hk => setCells_block _ _ _ _ k hk)
        have hk1 := hkw.push (w' := w.setCells (ρ b).blk ((ρ b).off + (r.2.2.cells ν).length) vs) (bk := .v true r.2.1 q) (r := ⟨(ρ b).blk, (ρ b).off, false, (ρ b).len + (ρ c).len, (ρ b).cap⟩) (hpLt_kill hlt) (Below.refl _ _)
          (⟨fun e => (by cases e), fun _ => by rw [setCells_size]; exact hvb.lt hnil, hpos, hqn, hroom, fun j hj => ?_, fun _ _ j hj => ?_⟩ : VRel E _ ⟨(ρ b).blk, (ρ b).off, false, (ρ b).len + (ρ c).len, (ρ b).cap⟩ true r.2.1 (q.cells ν))
          (fun j b' hj _ hn1 hn2 => (hw.heap.apart b j _ b' hbk rfl (nth_kill hj).2 (Ne.symm (nth_kill hj).1) hnil hn2).symm) (by
            rcases hw.old b _ hbk with h | h | h | h
            · rw [hnil] at h; cases h
            · exact .inr (.inl h)
            · exact .inr (.inr (.inl h))
            · cases h.1)
        · rw [setNth_length] at hk1
          exact hk1
        · refine hcells _ ⟨(ρ b).blk, (ρ b).off, false, (ρ b).len + (ρ c).len, (ρ b).cap⟩ (fun j hj => ?_) (fun j v hj => ?_) j hj
          · exact World.cell?_setCells_out _ _ _ _ _ (fun _ _ => by simp; omega)
          · have hjl := (List.getElem?_eq_some_iff.1 hj).1
            have e1 := World.cell?_setCells_in (ρ b).blk vs ((ρ b).off + (r.2.2.cells ν).length) w (fun k hk => (hex k hk).1) j hjl
            simp only
            rw [← Nat.add_assoc, e1, ← hj, List.getElem?_eq_getElem hjl]
        · have hj : j < (ρ b).cap * r.2.1.length := hj
          rw [World.frozen?_setCells]
          have := hvb.own rfl hnil j hj
          refine ⟨?_, this.2⟩
          by_cases hin : (r.2.2.cells ν).length ≤ j ∧ j < (r.2.2.cells ν).length + vs.length
          · obtain ⟨k, rfl⟩ : ∃ k, j = (r.2.2.cells ν).length + k := ⟨j - (r.2.2.cells ν).length, by omega⟩
            have e1 := World.cell?_setCells_in (ρ b).blk vs ((ρ b).off + (r.2.2.cells ν).length) w (fun k hk => (hex k hk).1) k (by omega)
            simp only
            rw [← Nat.add_assoc, e1]
            rfl
          · rw [World.cell?_setCells_out _ _ _ _ _ (fun _ _ => by simp; omega)]
            exact this.1
  · exact sat_fail

theorem Lf.lt_mono {n m : Nat} (h : n ≤ m) {x : Lf} (hx : x.lt n = true) : x.lt m = true := by
  cases x <;> simp only [Lf.lt, decide_eq_true_eq] at hx ⊢ <;> try omega
  exact List.all_eq_true.2 fun b hb => by have := List.all_eq_true.1 hx b hb; simp only [decide_eq_true_eq] at this ⊢; omega
theorem Blk.lt_mono {n m : Nat} (h : n ≤ m) {x : Blk} (hx : x.lt n = true) : x.lt m = true := by
  cases x with
  | v o ts a => rfl
  | c o cs =>
    refine List.all_eq_true.2 fun y hy => ?_
    have := List.all_eq_true.1 (show cs.all (optAll (Lf.lt n)) = true from hx) y hy
    cases y with
    | none => rfl
    | some l => exact Lf.lt_mono h this
theorem Lf.conc_keep {ρ ρ' : Nat → Loc} {n : Nat} (h : ∀ k, k < n → ρ' k = ρ k) {l : Lf} (hl : l.lt n = true) : l.conc ν ρ' = l.conc ν ρ := by
  cases l <;> simp only [Lf.lt, decide_eq_true_eq] at hl <;> simp only [Lf.conc] <;> first | rw [h _ hl] | rw [capsConc_lt hl h]

/-! Rows made by length, and written out -/
theorem flatten_rep_get {α : Type} (l : List α) (hl : 0 < l.length) : ∀ (n j : Nat), j < n * l.length → (List.replicate n l).flatten[j]? = l[j % l.length]?
  | 0, j, h => by simp at h
  | n + 1, j, h => by
    rw [List.replicate_succ, List.flatten_cons]
    rcases Nat.lt_or_ge j l.length with hj | hj
    · rw [List.getElem?_append_left hj, Nat.mod_eq_of_lt hj]
    · rw [List.getElem?_append_right hj, flatten_rep_get l hl n (j - l.length) (by rw [Nat.succ_mul] at h; omega)]
      congr 1
      exact (Nat.mod_eq_sub_mod hj).symm
theorem flatten_rep_len {α : Type} (l : List α) (n : Nat) : (List.replicate n l).flatten.length = n * l.length := by simp

theorem evMake_sat {hp : List (Option Blk)} {t : TypeId} {l c : Lf} : M.sat F ν (evMake P hp t l c) (fun x => ∀ ρ w, HS E ν ρ hp w →
    ∃ v w', (Instr.makeSlice t (l.conc ν ρ) (c.conc ν ρ)).run P w = .ok v w' ∧ NewRow E ν ρ hp v w' x) := by
  unfold evMake
  refine sat_bind (sat_lift (Q := fun k => tk P t = some k) fun a h => h) fun k hk => ?_
  split
  · rename_i elem kn n km m
    refine sat_bind (sat_lift (Q := fun z => zeroCells P elem = some z) fun a h => h) fun z hz => ?_
    refine sat_bind (sat_lift (Q := fun ts => kindsOf z = some ts) fun a h => h) fun ts hts => ?_
    refine sat_bind (sat_lift (Q := fun r => rowLits ts 0 (z.map some) = some r) fun a h => h) fun r hr => ?_
    refine sat_bind (sat_lift (Q := fun k => tsize P elem = some k) fun a h => h) fun sz hs => ?_
    refine sat_bind (sat_lift (Q := fun k => tbytes P elem = some k) fun a h => h) fun by_ hby => ?_
    refine sat_ite (fun hc => ?_) (fun _ => sat_fail)
    simp only [Bool.and_eq_true] at hc
    obtain ⟨⟨c1, c2⟩, hlt⟩ := hc
    have c1 := Nat.eq_of_beq_eq_true c1
    have c2 : 0 < sz := Nat.le_of_ble_eq_true c2
    refine sat_bind oweGe0_sat fun _ h0 => sat_bind oweLeA_sat fun _ h1 => sat_bind oweLeA_sat fun _ h2 => ?_
    refine sat_bind (sat_emit (Q := fun q => q.cells ν = (List.replicate (n.int ν).toNat (nrmZ r.1 (r.2.map (A.den ν)))).flatten) fun q h => A.cells_of_den h) fun q hq => sat_pure fun ρ w hw => ?_
    obtain ⟨i, zv, hi, hzv, _, hzc⟩ := zeroCells_spec (ν := ν) hz
    obtain ⟨i1, hi1, hsz⟩ := tsize_spec hs
    obtain ⟨i2, hi2, hbz⟩ := tbytes_spec hby
    rw [hi] at hi1 hi2
    cases hi1
    cases hi2
    have htl := kindsOf_len hts
    obtain ⟨l1, l2, l3⟩ := rowLits_spec (E := E) (ν := ν) hr
    have hcl : (nrmZ r.1 (r.2.map (A.den ν))).length = ts.length := by
      rw [nrmZ_len (by simp [l1, l2]), List.length_map, l2, List.length_map, htl]
    have hzs : zv.cells.size = ts.length := by rw [← Array.length_toList, hzc ρ, List.length_map, htl]
    have hst : sz = ts.length := by omega
    have hlim : (m.int ν).toNat ≤ rowLim by_ := by
      have h2 : m.int ν ≤ (rowLim by_ : Int) := h2
      omega
    obtain ⟨q1, q2⟩ := rowLim_mul hlim
    have hb2 : (i.bytes : Int) * m.int ν ≤ 281474976710656 := by
      have e : ((m.int ν).toNat : Int) = m.int ν := Int.toNat_of_nonneg (by omega)
      rw [← e, ← Int.natCast_mul, Nat.mul_comm, hbz]
      omega
    have hrun := run_make (P := P) w t elem i zv (tk_slice hk) hi hzv kn km (n.int ν) (m.int ν) h0 h1 hb2 (by omega)
    generalize hob : (.cells (madeCells zv.cells ((m.int ν).toNat * i.size)) elem : Obj) = ob at *
    have hbel : Below w.heap.size w (w.alloc ob) := ⟨rfl, rfl, rfl, by simp, fun k hk => Below.heap_alloc w _ _ hk⟩
    have hnew : ∀ j, (w.alloc ob).cell? ⟨w.heap.size, j, none⟩ = (madeCells zv.cells ((m.int ν).toNat * i.size))[j]? := fun j => by
      rw [← hob]
      exact World.cell?_alloc_new w _ _ j
    have hfrz : ∀ j, (w.alloc ob).frozen? ⟨w.heap.size, j, none⟩ = false := fun j => by
      rw [← hob]
      exact World.frozen?_alloc_new w _ _ j
    have hget : ∀ j, j < (m.int ν).toNat * ts.length → ∃ x, nth (z.map some) (j % ts.length) = some x ∧ (madeCells zv.cells ((m.int ν).toNat * i.size))[j]? = some (x.conc ν ρ) ∧ CRel E (ts.getD (j % ts.length) .bool) ((nrmZ r.1 (r.2.map (A.den ν))).getD (j % ts.length) default) (x.conc ν ρ) := fun j hj => by
      have hjm : j % ts.length < z.length := by rw [← htl]; exact Nat.mod_lt _ (by omega)
      obtain ⟨x, k1, _, _, k4⟩ := l3 (j % ts.length) (by simpa using hjm)
      have k4 := k4 ρ
      rw [Nat.zero_add, Nat.mod_mod] at k4
      refine ⟨x, k1, ?_, k4⟩
      have hx : z[j % ts.length]? = some x := by rw [nth_map_some] at k1; exact k1
      have hzx : zv.cells[j % zv.cells.size]! = x.conc ν ρ := by
        have : zv.cells.toList[j % ts.length]? = some (x.conc ν ρ) := by rw [hzc ρ, List.getElem?_map, hx]; rfl
        rw [Array.getElem?_toList] at this
        rw [hzs, Array.getElem!_eq_getD, Array.getD_eq_getD_getElem?, this]
        rfl
      unfold madeCells
      rw [Array.getElem?_map, Array.getElem?_range, if_pos (by rw [hsz, hst]; exact hj)]
      simp [hzx]
    refine ⟨_, _, hrun, NewRow.mk (r := ⟨w.heap.size, 0, false, (n.int ν).toNat, (m.int ν).toNat⟩) rfl rfl ?_⟩
    have hnm : (n.int ν).toNat * ts.length ≤ (m.int ν).toNat * ts.length := Nat.mul_le_mul_right _ (by omega)
    refine hw.fresh (w' := w.alloc ob) (bk := .v true ts q) hlt hbel (⟨fun e => (by cases e), fun _ => by simp, by omega, by rw [hq, flatten_rep_len, hcl], by show (n.int ν).toNat ≤ (m.int ν).toNat; omega, fun j hj => ?_, fun _ _ j hj => ?_⟩ : VRel E (w.alloc ob) ⟨w.heap.size, 0, false, (n.int ν).toNat, (m.int ν).toNat⟩ true ts (q.cells ν)) (.inr (Nat.le_refl _))
    · rw [hq, flatten_rep_len, hcl] at hj
      obtain ⟨x, _, k2, k3⟩ := hget j (by omega)
      refine ⟨x.conc ν ρ, by show (w.alloc ob).cell? ⟨w.heap.size, 0 + j, none⟩ = _; rw [Nat.zero_add, hnew]; exact k2, ?_⟩
      have e : (q.cells ν).getD j default = (nrmZ r.1 (r.2.map (A.den ν))).getD (j % ts.length) default := by
        simp only [List.getD_eq_getElem?_getD]
        rw [hq, flatten_rep_get _ (by rw [hcl]; omega) _ _ (by rw [hcl]; exact hj), hcl]
      rw [e]
      exact k3
    · have hj : j < (m.int ν).toNat * ts.length := hj
      obtain ⟨x, _, k2, _⟩ := hget j hj
      show ((w.alloc ob).cell? ⟨w.heap.size, 0 + j, none⟩).isSome = true ∧ (w.alloc ob).frozen? ⟨w.heap.size, 0 + j, none⟩ = false
      rw [Nat.zero_add, hnew, k2]
      exact ⟨rfl, hfrz j⟩
  · exact sat_fail

theorem evBuildSlice_sat {hp : List (Option Blk)} {t : TypeId} {len : Nat} {ps : List (Nat × V1)} (hg : ∀ p ∈ ps, p.2.good ν) : M.sat F ν (evBuildSlice P hp t len ps) (fun x => ∀ ρ w, HS E ν ρ hp w →
    ∃ v w', (Instr.buildSlice t len (ps.map fun p => (p.1, p.2.conc ν ρ)).toArray).run P w = .ok v w' ∧ NewRow E ν ρ hp v w' x) := by
  unfold evBuildSlice
  refine sat_bind (sat_lift (Q := fun k => tk P t = some k) fun a h => h) fun k hk => ?_
  split
  · rename_i elem
    refine sat_bind (sat_lift (Q := fun k => tsize P elem = some k) fun a h => h) fun sz hs => ?_
    refine sat_bind (sat_lift (Q := fun z => zeroCells P elem = some z) fun a h => h) fun z hz => ?_
    refine sat_bind (sat_lift (Q := fun ts => kindsOf z = some ts) fun a h => h) fun ts hts => ?_
    refine sat_bind (sat_lift (Q := fun cs => fillC (fun i => some (i * sz, sz)) (List.replicate len z).flatten ps = some cs) fun a h => h) fun cs hcs => ?_
    refine sat_bind (sat_lift (Q := fun r => rowLits ts 0 (cs.map some) = some r) fun a h => h) fun r hr => ?_
    refine sat_ite (fun hc => ?_) (fun _ => sat_fail)
    simp only [Bool.and_eq_true] at hc
    obtain ⟨⟨⟨c1, c2⟩, c3⟩, hlt⟩ := hc
    have c1 := Nat.eq_of_beq_eq_true c1
    have c2 : 0 < sz := Nat.le_of_ble_eq_true c2
    have c3 := Nat.le_of_ble_eq_true c3
    refine sat_bind (sat_emit (Q := fun q => q.cells ν = nrmZ r.1 (r.2.map (A.den ν))) fun q h => A.cells_of_den h) fun q hq => sat_pure fun ρ w hw => ?_
    obtain ⟨i, zv, hi, hzv, hzg, hzc⟩ := zeroCells_spec (ν := ν) hz
    have htl := kindsOf_len hts
    have hzs : zv.cells.size = sz := by rw [← Array.length_toList, hzc ρ, List.length_map, c1]
    have hinit : ((Array.range (len * sz)).map (zv.cells[· % zv.cells.size]!)).toList = (List.replicate len z).flatten.map (Lf.conc ν ρ) := by
      apply List.ext_getElem?
      intro j
      rw [Array.getElem?_toList, Array.getElem?_map, List.getElem?_map, Array.getElem?_range]
      by_cases hj : j < len * sz
      · obtain ⟨zx, hzj⟩ : ∃ zx, z[j % z.length]? = some zx := ⟨_, List.getElem?_eq_getElem (Nat.mod_lt _ (by omega))⟩
        rw [if_pos hj, flatten_rep_get z (by omega) _ _ (by rw [← c1]; exact hj), hzj]
        have : zv.cells.toList[j % z.length]? = some (zx.conc ν ρ) := by rw [hzc ρ, List.getElem?_map, hzj]; rfl
        rw [Array.getElem?_toList] at this
        simp only [Option.map_some, Option.some.injEq]
        rw [hzs, c1, Array.getElem!_eq_getD, Array.getD_eq_getD_getElem?, this]
        rfl
      · rw [if_neg hj, List.getElem?_eq_none (by rw [flatten_rep_len, ← c1]; omega)]
        rfl
    obtain ⟨B, hB, hB2⟩ := fillC_spec (ν := ν) (ρ := ρ) (place' := fun i => some (i * sz, sz)) (fun i => rfl) ps _ cs _ hinit hcs
    obtain ⟨l1, l2, l3⟩ := rowLits_spec (E := E) (ν := ν) hr
    have hfl : ∀ (ps : List (Nat × V1)) (cs r : List Lf), fillC (fun i => some (i * sz, sz)) cs ps = some r → r.length = cs.length := by
      intro ps
      induction ps with
      | nil => intro cs r h; simp [fillC] at h; rw [h]
      | cons p ps ih =>
        intro cs r h
        simp only [fillC] at h
        split at h
        · rw [ih _ _ h]
          have : ∀ (l cs : List Lf) (o : Nat), (overwrite cs o l).length = cs.length := fun l => by
            induction l with
            | nil => intro cs o; rfl
            | cons c l ih => intro cs o; rw [overwrite, ih]; simp
          exact this _ _ _
        · cases h
    have hcl : cs.length = len * sz := by rw [hfl _ _ _ hcs, flatten_rep_len, c1]
    have hql : (q.cells ν).length = len * sz := by rw [hq, nrmZ_len (by simp [l1, l2]), List.length_map, l2, List.length_map, hcl]
    have hBs : B.size = len * sz := by rw [← Array.length_toList, hB2, List.length_map, hcl]
    have hrun : (Instr.buildSlice t len (ps.map fun p => (p.1, p.2.conc ν ρ)).toArray).run P w = .ok (.slice (some ⟨w.heap.size, 0, none⟩) len len) (w.alloc (.cells B elem)) := by
      have c3' : ¬ (16777216 < len * sz) := by omega
      by_cases h0 : len * sz = 0
      · have hB' : Instr.fill (fun i => some (i * sz, sz)) #[] (ps.map fun p => (p.1, p.2.conc ν ρ)) = some B := by
          have e : ((Array.range (len * sz)).map (zv.cells[· % zv.cells.size]!)) = #[] := by rw [h0]; simp
          rw [e] at hB
          exact hB
        simp [Instr.buildSlice, run_underlying (tk_slice hk), run_size hs, h0, hB', newRow, Array.range_zero']
      · simp [Instr.buildSlice, run_underlying (tk_slice hk), run_size hs, h0, c3', zeroValue, typeInfo, hi, hzv, hB, newRow]
    generalize hob : (.cells B elem : Obj) = ob at *
    have hbel : Below w.heap.size w (w.alloc ob) := ⟨rfl, rfl, rfl, by simp, fun k hk => Below.heap_alloc w _ _ hk⟩
    have hnew : ∀ j, (w.alloc ob).cell? ⟨w.heap.size, j, none⟩ = B[j]? := fun j => by
      rw [← hob]
      exact World.cell?_alloc_new w _ _ j
    have hfrz : ∀ j, (w.alloc ob).frozen? ⟨w.heap.size, j, none⟩ = false := fun j => by
      rw [← hob]
      exact World.frozen?_alloc_new w _ _ j
    have hst : sz = ts.length := by omega
    refine ⟨_, _, hrun, NewRow.mk (r := ⟨w.heap.size, 0, false, len, len⟩) rfl rfl ?_⟩
    refine hw.fresh (w' := w.alloc ob) (bk := .v true ts q) hlt hbel (⟨fun e => (by cases e), fun _ => by simp, by omega, by rw [hql, hst], Nat.le_refl _, fun j hj => ?_, fun _ _ j hj => ?_⟩ : VRel E (w.alloc ob) ⟨w.heap.size, 0, false, len, len⟩ true ts (q.cells ν)) (.inr (Nat.le_refl _))
    · rw [hql] at hj
      obtain ⟨x, k1, _, _, k4⟩ := l3 j (by simpa [hcl] using hj)
      have k4 := k4 ρ
      rw [Nat.zero_add, ← hq] at k4
      refine ⟨x.conc ν ρ, ?_, k4⟩
      show (w.alloc ob).cell? ⟨w.heap.size, 0 + j, none⟩ = _
      rw [Nat.zero_add, hnew, ← Array.getElem?_toList, hB2, List.getElem?_map]
      rw [nth_map_some] at k1
      rw [k1]
      rfl
    · have hj : j < len * ts.length := hj
      show ((w.alloc ob).cell? ⟨w.heap.size, 0 + j, none⟩).isSome = true ∧ (w.alloc ob).frozen? ⟨w.heap.size, 0 + j, none⟩ = false
      rw [Nat.zero_add, hnew, Array.getElem?_eq_getElem (by rw [hBs, hst]; exact hj)]
      exact ⟨rfl, hfrz j⟩
  · exact sat_fail

/-! Rows that are nil -/
theorem isNil_spec {x : Lf} (h : x.isNil = true) : x = .v (.slice none 0 0) := by
  unfold Lf.isNil at h
  split at h
  · rfl
  · cases h
theorem matCells_sat {w : World} : ∀ (lt : List LT) (cs : List Lf) (hp : List (Option Blk)), M.sat F ν (matCells lt cs hp) (fun q => ∀ ρ, HS E ν ρ hp w → hpLt hp = true → (cs.all (Lf.lt hp.length) = true) → (∀ x ∈ cs, x.good ν) →
    hpLt q.2 = true ∧ q.1.all (Lf.lt q.2.length) = true ∧ (∀ x ∈ q.1, x.good ν) ∧ hp.length ≤ q.2.length ∧ ∃ ρ' : Nat → Loc, (∀ j, j < hp.length → ρ' j = ρ j) ∧ HS E ν ρ' q.2 w ∧ q.1.map (Lf.conc ν ρ') = cs.map (Lf.conc ν ρ)) := by
  intro lt cs
  induction cs generalizing lt with
  | nil =>
    intro hp
    have e : matCells lt [] hp = pure ([], hp) := by cases lt <;> rfl
    rw [e]
    exact sat_pure fun ρ hw hlt _ _ => ⟨hlt, rfl, fun x hx => (by cases hx), Nat.le_refl _, ρ, fun _ _ => rfl, hw, rfl⟩
  | cons x l ih =>
    intro hp
    -- a cell that stays
    have keep : ∀ (lt' : List LT), M.sat F ν (do let r ← matCells lt' l hp; pure (x :: r.1, r.2)) (fun q => ∀ ρ, HS E ν ρ hp w → hpLt hp = true → ((x :: l).all (Lf.lt hp.length) = true) → (∀ y ∈ x :: l, Lf.good ν y) →
        hpLt q.2 = true ∧ q.1.all (Lf.lt q.2.length) = true ∧ (∀ x ∈ q.1, Lf.good ν x) ∧ hp.length ≤ q.2.length ∧ ∃ ρ' : Nat → Loc, (∀ j, j < hp.length → ρ' j = ρ j) ∧ HS E ν ρ' q.2 w ∧ q.1.map (Lf.conc ν ρ') = (x :: l).map (Lf.conc ν ρ)) := fun lt' => by
      refine sat_bind (ih lt' hp) fun r hr => sat_pure fun ρ hw hlt hcs hg => ?_
      simp only [List.all_cons, Bool.and_eq_true] at hcs
      obtain ⟨h1, h2, h3, h4, ρ', h5, h6, h7⟩ := hr ρ hw hlt hcs.2 (fun y hy => hg y (List.mem_cons_of_mem _ hy))
      refine ⟨h1, ?_, fun y hy => ?_, h4, ρ', h5, h6, ?_⟩
      · simp only [List.all_cons, Bool.and_eq_true]
        exact ⟨Lf.lt_mono h4 hcs.1, h2⟩
      · rcases List.mem_cons.1 hy with rfl | hy
        · exact hg _ (by simp)
        · exact h3 y hy
      · simp only [List.map_cons]
        rw [h7, Lf.conc_keep h5 hcs.1]
    cases lt with
    | nil => exact sat_pure fun ρ hw hlt hcs hg => ⟨hlt, hcs, hg, Nat.le_refl _, ρ, fun _ _ => rfl, hw, rfl⟩
    | cons t lt' =>
      cases t with
      | int k => exact keep lt'
      | bool => exact keep lt'
      | vec ts =>
        simp only [matCells]
        refine sat_ite (fun hc => ?_) (fun _ => keep lt')
        simp only [Bool.and_eq_true] at hc
        have hx := isNil_spec hc.1
        have hpos : 0 < ts.length := Nat.le_of_ble_eq_true hc.2
        refine sat_bind (sat_emit (Q := fun q => q.cells ν = []) fun q h => A.cells_of_den h) fun q hq => sat_bind (ih lt' (hp ++ [some (.v true ts q)])) fun r hr => sat_pure fun ρ hw hlt hcs hg => ?_
        simp only [List.all_cons, Bool.and_eq_true] at hcs
        have hw1 := hw.fresh (w' := w) (bk := .v true ts q) (r := ⟨0, 0, true, 0, 0⟩) hlt (Below.refl _ w)
          (⟨fun _ => ⟨rfl, rfl⟩, fun e => (by cases e), hpos, by rw [hq]; simp, Nat.le_refl _, fun j hj => by rw [hq] at hj; simp at hj, fun _ e => (by cases e)⟩ : VRel E w ⟨0, 0, true, 0, 0⟩ true ts (q.cells ν)) (.inl rfl)
        have hlt1 : hpLt (hp ++ [some (.v true ts q)]) = true := by
          unfold hpLt at hlt ⊢
          rw [List.all_append, Bool.and_eq_true, List.length_append]
          refine ⟨List.all_eq_true.2 fun y hy => ?_, rfl⟩
          have := List.all_eq_true.1 hlt y hy
          cases y with
          | none => rfl
          | some b => exact Blk.lt_mono (Nat.le_add_right _ _) this
        have hcs1 : l.all (Lf.lt (hp ++ [some (Blk.v true ts q)]).length) = true := by
          refine List.all_eq_true.2 fun y hy => Lf.lt_mono (by simp) (List.all_eq_true.1 hcs.2 y hy)
        obtain ⟨h1, h2, h3, h4, ρ', h5, h6, h7⟩ := hr _ hw1 hlt1 hcs1 (fun y hy => hg y (List.mem_cons_of_mem _ hy))
        rw [List.length_append] at h4 h5
        simp only [List.length_cons, List.length_nil] at h4 h5
        refine ⟨h1, ?_, fun y hy => ?_, by show hp.length ≤ r.2.length; omega, ρ', fun j hj => by rw [h5 j (by omega), ext_lt hj], h6, ?_⟩
        · simp only [List.all_cons, Bool.and_eq_true, Lf.lt, decide_eq_true_eq]
          exact ⟨by omega, h2⟩
        · rcases List.mem_cons.1 hy with rfl | hy
          · trivial
          · exact h3 y hy
        · simp only [List.map_cons, h7]
          rw [hx]
          simp only [Lf.conc]
          rw [h5 _ (by omega), ext_same]
          congr 1
          exact List.map_congr_left fun y hy => Lf.conc_keep (fun j hj => ext_lt hj) (List.all_eq_true.1 hcs.2 y hy)
end
end Go.Sx
