/- Operations on rows agree with the model. -/
import Derived.Test.YthlbgkhbebffaaaR1
import Derived.Deep.AppendSrc
import Derived.Laws.MakeOwn
import Derived.Laws.Externs
import Derived.KernelRfl
namespace Go.Sx
open Go.RowKit
section
variable {P : Program} {I : World → Prop} {S : Sigs} {F : FEnv} {E : Env} {ν : Nat → DV}

theorem tk_slice {t : TypeId} {e : Nat} (h : tk P t = some (.slice e)) : P.underlying t = some (.slice e) := by
  obtain ⟨d, hd, hk⟩ := tk_spec h
  cases d <;> simp [tkOf] at hk
  subst hk
  exact hd
theorem rowAt_spec {hp : List (Option Blk)} {b : Nat} {r : Bool × List LT × A} (h : rowAt hp b = some r) : nth hp b = some (.v r.1 r.2.1 r.2.2) := by
  unfold rowAt at h
  split at h
  · rename_i hb
    cases h
    exact hb
  · cases h
theorem row_rel {hp : List (Option Blk)} {b : Nat} {r : Bool × List LT × A} (h : rowAt hp b = some r) {ρ : Nat → Loc} {w : World} (hw : HS E ν ρ hp w) : VRel E w (ρ b) r.1 r.2.1 (r.2.2.cells ν) :=
  hw.heap.blk b _ (rowAt_spec h)
theorem VRel.elems {w : World} {r : Loc} {o : Bool} {ts : List LT} {xs : List DV} (h : VRel E w r o ts xs) : xs.length / ts.length = r.len := by
  rw [h.len]; exact Nat.mul_div_cancel _ h.pos

theorem oweLeA_sat {a b : A} : M.sat F ν (oweLeA a b) (fun _ => a.int ν ≤ b.int ν) := by
  unfold oweLeA
  split
  · exact sat_ite (fun h => sat_pure (by simpa using h)) (fun _ => sat_fail)
  · refine sat_bind (sat_emit (Q := fun r => r.bool ν = decide (a.int ν ≤ b.int ν)) fun r h => A.bool_of_den h) fun r hr => ?_
    exact sat_owe fun h => by rw [hr] at h; simpa using h

theorem evLen_sat {hp : List (Option Blk)} {t : TypeId} {v : V} : M.sat F ν (evLen P hp t v) (fun u => u.good ν ∧ ∀ ρ w w1 ty (ts : Array TypeId), ts[0]? = some t → HS E ν ρ hp w →
    (Builtin.len_ ts ty #[v.conc ν ρ]).run P w1 = .ok (u.conc ν ρ) w1) := by
  unfold evLen
  refine sat_bind (sat_lift (Q := fun k => P.underlying t = some k) fun a h => h) fun k hk => ?_
  split
  · rename_i e b
    refine sat_bind (sat_lift (Q := fun r => rowAt hp b = some r) fun a h => h) fun r hr => ?_
    refine sat_bind (sat_emit (Q := fun q => q.int ν = ((r.2.2.cells ν).length / r.2.1.length : Nat)) fun q h => A.int_of_den h) fun q hq => sat_pure ⟨V1.good_one.2 trivial, fun ρ w w1 ty ts hts hw => ?_⟩
    have hl := (row_rel hr hw).elems
    simp [Builtin.len_, hts, run_underlying hk, V.conc, V1.conc, Lf.conc, Loc.slice, goInt, hq, hl]
  · refine sat_pure ⟨V1.good_one.2 trivial, fun ρ w w1 ty ts hts hw => ?_⟩
    simp [Builtin.len_, hts, run_underlying hk, V.conc, V1.conc, Lf.conc, goInt]
  · refine sat_pure ⟨V1.good_one.2 trivial, fun ρ w w1 ty ts hts hw => ?_⟩
    simp [Builtin.len_, hts, run_underlying hk, V.conc, V1.conc, Lf.conc, goInt]
  · refine sat_pure ⟨V1.good_one.2 trivial, fun ρ w w1 ty ts hts hw => ?_⟩
    simp [Builtin.len_, hts, run_underlying hk, V.conc, V1.conc, Lf.conc, goInt]
  · exact sat_fail

theorem lt_div_mul {i n s : Nat} (h : i < n / s) : (i + 1) * s ≤ n := by
  have : (i + 1) * s ≤ n / s * s := Nat.mul_le_mul_right _ h
  exact Nat.le_trans this (Nat.div_mul_le_self n s)

theorem evIndexRow_sat {hp : List (Option Blk)} {t : TypeId} {b : Nat} {ix : Lf} : M.sat F ν (evIndexRow P hp t b ix) (fun l => l.good ν ∧ ∀ ρ w w1, HS E ν ρ hp w →
    (Instr.indexAt t (ρ b).slice (ix.conc ν ρ)).run P w1 = .ok (l.conc ν ρ) w1) := by
  unfold evIndexRow
  refine sat_bind (sat_lift (Q := fun k => tk P t = some k) fun a h => h) fun k hk => ?_
  split
  · rename_i elem ki i
    have hu := tk_slice hk
    refine sat_bind (sat_lift (Q := fun k => tsize P elem = some k) fun a h => h) fun sz hs => ?_
    refine sat_bind (sat_lift (Q := fun r => rowAt hp b = some r) fun a h => h) fun r hr => ?_
    refine sat_ite (fun hc => ?_) (fun _ => sat_fail)
    have hc := Nat.eq_of_beq_eq_true hc
    refine sat_bind oweGe0_sat fun _ h0 => ?_
    refine sat_bind (sat_emit (Q := fun q => q.int ν = ((r.2.2.cells ν).length / r.2.1.length : Nat)) fun q h => A.int_of_den h) fun n hn => ?_
    refine sat_bind (sat_emit (Q := fun q => q.bool ν = decide (i.int ν < n.int ν)) fun q h => A.bool_of_den h) fun q hq => ?_
    refine sat_bind (sat_owe (Q := fun _ => i.int ν < n.int ν) fun h => by rw [hq] at h; simpa using h) fun _ hlt => sat_pure ⟨⟨h0, ?_⟩, fun ρ w w1 hw => ?_⟩
    · rw [hn] at hlt
      rw [hc]
      exact lt_div_mul (by omega)
    · have hv := row_rel hr hw
      rw [hn, hv.elems] at hlt
      have hnil : (ρ b).nil = false := by
        cases hx : (ρ b).nil with
        | false => rfl
        | true => have := (hv.nil hx).1; omega
      simp [Instr.indexAt, asIntOf, Lf.conc, Loc.slice, hnil, run_underlying hu, h0, hlt, run_size hs, addr_add, Off.val]
  · exact sat_fail

theorem sameRow_sat {sz : Nat} {ix a0 a : A} (h0 : 0 ≤ ix.int ν) (h1 : ((ix.int ν).toNat + 1) * sz ≤ (a0.cells ν).length) : M.sat F ν (sameRow sz ix a0 a) (fun _ => ((ix.int ν).toNat + 1) * sz ≤ (a.cells ν).length) := by
  unfold sameRow
  refine sat_ite (fun h => sat_pure ?_) (fun _ => ?_)
  · have := A.beq_den h ν
    rwa [show A.cells ν a = A.cells ν a0 from by simp [A.cells, this]]
  · refine sat_bind (sat_emit (Q := fun q => q.int ν = ((a.cells ν).length / sz : Nat)) fun q h => A.int_of_den h) fun n hn => ?_
    refine sat_bind (sat_emit (Q := fun q => q.bool ν = decide (ix.int ν < n.int ν)) fun q h => A.bool_of_den h) fun q hq => ?_
    exact sat_owe fun h => by
      rw [hq, hn] at h
      exact lt_div_mul (by have := of_decide_eq_true h; omega)

theorem VRel.at {w : World} {r : Loc} {o : Bool} {ts : List LT} {xs : List DV} (h : VRel E w r o ts xs) {i j : Nat} (hj : j < ts.length) (hi : (i + 1) * ts.length ≤ xs.length) :
    ∃ v, w.cell? ⟨r.blk, r.off + (j + i * ts.length), none⟩ = some v ∧ CRel E (ts.getD j .bool) (xs.getD (i * ts.length + j) default) v := by
  have hlt : i * ts.length + j < xs.length := by rw [Nat.add_mul] at hi; omega
  obtain ⟨v, h1, h2⟩ := h.cell _ hlt
  rw [Nat.mul_comm i, Nat.mul_add_mod, Nat.mod_eq_of_lt hj] at h2
  refine ⟨v, ?_, by rw [Nat.mul_comm i]; exact h2⟩
  rw [← h1]
  congr 2
  omega

theorem rowLeaf_sat {ts : List LT} {a ix : A} {j : Nat} (hj : j < ts.length) (hl : ((ix.int ν).toNat + 1) * ts.length ≤ (a.cells ν).length) :
    M.sat F ν (rowLeaf ts.length j a ix (ts.getD j .bool)) (fun x => x.good ν ∧ ∀ (ρ : Nat → Loc) (w : World) (r : Loc) o, VRel E w r o ts (a.cells ν) →
      w.cell? ⟨r.blk, r.off + (j + (ix.int ν).toNat * ts.length), none⟩ = some (x.conc ν ρ)) := by
  cases ht : ts.getD j .bool with
  | int k =>
    unfold rowLeaf
    refine sat_bind (sat_emit (Q := fun q => q.int ν = ((a.cells ν).getD ((ix.int ν).toNat * ts.length + j) default).toI) fun q h => A.int_of_den h) fun q hq => sat_pure ⟨trivial, fun ρ w r o hv => ?_⟩
    obtain ⟨v, h1, h2⟩ := hv.at hj hl
    rw [ht] at h2
    rw [h1]
    cases h2
    simp [Lf.conc, hq]
  | bool =>
    unfold rowLeaf
    refine sat_bind (sat_emit (Q := fun q => q.bool ν = ((a.cells ν).getD ((ix.int ν).toNat * ts.length + j) default).toB) fun q h => A.bool_of_den h) fun q hq => sat_pure ⟨trivial, fun ρ w r o hv => ?_⟩
    obtain ⟨v, h1, h2⟩ := hv.at hj hl
    rw [ht] at h2
    rw [h1]
    cases h2
    simp [Lf.conc, hq]
  | vec us => exact sat_fail

theorem rowLeaves_sat {ts : List LT} {a ix : A} (hl : ((ix.int ν).toNat + 1) * ts.length ≤ (a.cells ν).length) : ∀ (n j : Nat), j + n ≤ ts.length →
    M.sat F ν (rowLeaves ts a ix j n) (fun xs => xs.length = n ∧ (∀ x ∈ xs, Lf.good ν x) ∧ ∀ i x, xs[i]? = some x → ∀ (ρ : Nat → Loc) (w : World) (r : Loc) o, VRel E w r o ts (a.cells ν) →
      w.cell? ⟨r.blk, r.off + (j + i + (ix.int ν).toNat * ts.length), none⟩ = some (x.conc ν ρ))
  | 0, j, _ => sat_pure ⟨rfl, fun x hx => (by cases hx), fun i x h => (by simp at h)⟩
  | n + 1, j, hj => by
    unfold rowLeaves
    refine sat_bind (rowLeaf_sat (E := E) (show j < ts.length by omega) hl) fun x hx => sat_bind (rowLeaves_sat hl n (j + 1) (by omega)) fun r hr => sat_pure ⟨by simp [hr.1], fun y hy => ?_, fun i y hi => ?_⟩
    · rcases List.mem_cons.1 hy with rfl | hy
      · exact hx.1
      · exact hr.2.1 y hy
    · cases i with
      | zero => simp at hi; subst hi; exact hx.2
      | succ i =>
        have := hr.2.2 i y (by simpa using hi)
        rwa [show j + 1 + i = j + (i + 1) from by omega] at this

theorem loadRow_sat {t : TypeId} {k : TK} {sz : Nat} {ts : List LT} {a : A} {off : Off} (hk : tk P t = some k) (hs : tsize P t = some sz) (hg : off.good ν) :
    M.sat F ν (loadRow ts a off (isAggT k) sz) (fun v => v.good ν ∧ ∀ (ρ : Nat → Loc) (w : World) (r : Loc) o, VRel E w r o ts (a.cells ν) → (loadVar t ⟨r.blk, r.off + off.val ν, none⟩).run P w = .ok (v.conc ν ρ) w) := by
  unfold loadRow
  split
  · rename_i base ix sz' a0
    refine sat_ite (fun hc => ?_) (fun _ => sat_fail)
    simp only [Bool.and_eq_true] at hc
    have h1 := Nat.eq_of_beq_eq_true hc.1
    have h2 := Nat.le_of_ble_eq_true hc.2
    subst h1
    refine sat_bind (sameRow_sat hg.1 hg.2) fun _ hl => ?_
    refine sat_ite (fun ha => ?_) (fun ha => ?_)
    · refine sat_bind (rowLeaves_sat (E := E) hl sz base h2) fun xs hxs => sat_pure ⟨V1.good_agg.2 hxs.2.1, fun ρ w r o hv => ?_⟩
      refine run_loadVar_agg hk ha hs (by simpa using hxs.1) fun i v hi => ?_
      rw [List.getElem?_map] at hi
      obtain ⟨l, hl', rfl⟩ := Option.map_eq_some_iff.1 hi
      have := hxs.2.2 i l hl' ρ w r o hv
      rw [← this]
      simp only [Off.val]
      congr 2
      omega
    · refine sat_ite (fun hb => ?_) (fun _ => sat_fail)
      have hb : base < ts.length := Nat.le_of_ble_eq_true hb
      refine sat_bind (rowLeaf_sat (E := E) hb hl) fun x hx => sat_pure ⟨V1.good_one.2 hx.1, fun ρ w r o hv => ?_⟩
      exact run_loadVar_one hk ha (hx.2 ρ w r o hv)
  · exact sat_fail

def overD : List DV → Nat → List DV → List DV
  | l, _, [] => l
  | l, p, v :: vs => overD (l.set p v) (p + 1) vs
theorem overD_len : ∀ (vs l : List DV) (p : Nat), (overD l p vs).length = l.length
  | [], _, _ => rfl
  | v :: vs, l, p => by rw [overD, overD_len vs]; simp
theorem overD_out : ∀ (vs l : List DV) (p i : Nat), (i < p ∨ p + vs.length ≤ i) → (overD l p vs)[i]? = l[i]?
  | [], _, _, _, _ => rfl
  | v :: vs, l, p, i, h => by
    simp only [List.length_cons] at h
    rw [overD, overD_out vs _ _ i (by omega), List.getElem?_set_ne (by omega)]
theorem overD_in : ∀ (vs l : List DV) (p k : Nat), k < vs.length → p + k < l.length → (overD l p vs)[p + k]? = vs[k]?
  | [], _, _, _, h, _ => by simp at h
  | v :: vs, l, p, 0, _, h2 => by
    simp only [overD, Nat.add_zero] at h2 ⊢
    rw [overD_out vs _ _ p (by omega), List.getElem?_set_self (by simpa using h2)]
    rfl
  | v :: vs, l, p, k + 1, h1, h2 => by
    rw [overD, show p + (k + 1) = p + 1 + k from by omega, overD_in vs _ (p + 1) k (by simpa using h1) (by simp; omega)]
    rfl

theorem leafAs_spec {t : LT} {x : Lf} {a : A} (h : leafAs t x = some a) : x.good ν ∧ x.ok = true ∧ ∀ ρ, CRel E t (nrm (leafTy t) (a.den ν)) (x.conc ν ρ) := by
  unfold leafAs at h
  split at h
  · split at h
    · rename_i hk
      have := kEq_eq hk; subst this
      cases h
      exact ⟨trivial, rfl, fun ρ => .int _ (.i _)⟩
    · cases h
  · cases h
    exact ⟨trivial, rfl, fun ρ => .bool (.b _)⟩
  · cases h

theorem putLeaves_sat {ts : List LT} {ix : A} : ∀ (xs : List Lf) (j : Nat) (a : A),
    M.sat F ν (putLeaves ts ix j a xs) (fun a' => ∃ vs : List DV, vs.length = xs.length ∧ a'.cells ν = overD (a.cells ν) ((ix.int ν).toNat * ts.length + j) vs ∧ (∀ x ∈ xs, x.good ν ∧ x.ok = true) ∧
      ∀ i x v, xs[i]? = some x → vs[i]? = some v → ∀ ρ, CRel E (ts.getD (j + i) .bool) v (x.conc ν ρ))
  | [], j, a => sat_pure ⟨[], rfl, rfl, fun x hx => (by cases hx), fun i x v h => (by simp at h)⟩
  | x :: xs, j, a => by
    unfold putLeaves
    refine sat_bind (sat_lift (Q := fun v => leafAs (ts.getD j .bool) x = some v) fun a h => h) fun v hv => ?_
    refine sat_bind (sat_emit (Q := fun q => q.cells ν = (a.cells ν).set ((ix.int ν).toNat * ts.length + j) (nrm (leafTy (ts.getD j .bool)) (v.den ν))) fun q h => A.cells_of_den h) fun q hq => ?_
    refine sat_mono (putLeaves_sat xs (j + 1) q) fun a' ⟨vs, h1, h2, h3, h4⟩ => ⟨nrm (leafTy (ts.getD j .bool)) (v.den ν) :: vs, by simp [h1], ?_, ?_, ?_⟩
    · rw [h2, hq]
      rfl
    · intro y hy
      rcases List.mem_cons.1 hy with rfl | hy
      · have := leafAs_spec (E := E) (ν := ν) hv
        exact ⟨this.1, this.2.1⟩
      · exact h3 y hy
    · intro i y u hi hu ρ
      cases i with
      | zero => simp at hi hu; subst hi; subst hu; exact (leafAs_spec hv).2.2 ρ
      | succ i =>
        have := h4 i y u (by simpa using hi) (by simpa using hu) ρ
        rwa [show j + 1 + i = j + (i + 1) from by omega] at this

theorem storeRow_sat {ts : List LT} {a : A} {off : Off} {xs : List Lf} (hg : off.good ν) (hne : xs ≠ []) :
    M.sat F ν (storeRow ts a off xs) (fun a' => ∀ (ρ : Nat → Loc) (w : World) (r : Loc), VRel E w r true ts (a.cells ν) → r.nil = false ∧ (∀ x ∈ xs, x.ok = true) ∧
      (storeCells ⟨r.blk, r.off + off.val ν, none⟩ (xs.map (Lf.conc ν ρ))).run P w = .ok () (w.setCells r.blk (r.off + off.val ν) (xs.map (Lf.conc ν ρ))) ∧
      VRel E (w.setCells r.blk (r.off + off.val ν) (xs.map (Lf.conc ν ρ))) r true ts (a'.cells ν)) := by
  unfold storeRow
  split
  · rename_i base ix sz' a0
    refine sat_ite (fun hc => ?_) (fun _ => sat_fail)
    simp only [Bool.and_eq_true] at hc
    have h1 := Nat.eq_of_beq_eq_true hc.1
    have h2 := Nat.le_of_ble_eq_true hc.2
    subst h1
    refine sat_bind (sameRow_sat hg.1 hg.2) fun _ hl => ?_
    refine sat_mono (putLeaves_sat (E := E) xs base a) fun a' ⟨vs, k1, k2, k3, k4⟩ ρ w r hv => ?_
    have hpos : 0 < xs.length := by cases xs with | nil => exact absurd rfl hne | cons x xs => simp
    have hcap : ((ix.int ν).toNat + 1) * ts.length ≤ r.cap * ts.length := by
      have := hv.len
      have h3 : r.len * ts.length ≤ r.cap * ts.length := Nat.mul_le_mul_right _ hv.cap
      omega
    have hnil : r.nil = false := by
      cases hx : r.nil with
      | false => rfl
      | true =>
        have := (hv.nil hx).2
        rw [this, Nat.zero_mul] at hcap
        have := hv.pos
        rw [Nat.add_mul] at hcap
        omega
    rw [Nat.add_mul, Nat.one_mul] at hl hcap
    rw [Nat.add_comm] at k2
    have hmod : ∀ k, k < xs.length → (base + (ix.int ν).toNat * ts.length + k) % ts.length = base + k := fun k hk => by
      rw [show base + (ix.int ν).toNat * ts.length + k = ts.length * (ix.int ν).toNat + (base + k) from by rw [Nat.mul_comm]; omega, Nat.mul_add_mod, Nat.mod_eq_of_lt (by omega)]
    have hroom : base + (ix.int ν).toNat * ts.length + xs.length ≤ (a.cells ν).length := by omega
    have hroom2 : base + (ix.int ν).toNat * ts.length + xs.length ≤ r.cap * ts.length := by omega
    simp only [Off.val]
    generalize base + (ix.int ν).toNat * ts.length = p at *
    have hex : ∀ k, k < xs.length → (w.cell? ⟨r.blk, r.off + p + k, none⟩).isSome = true ∧ w.frozen? ⟨r.blk, r.off + p + k, none⟩ = false := fun k hk => by
      have := hv.own rfl hnil (p + k) (by omega)
      rwa [← Nat.add_assoc] at this
    refine ⟨hnil, fun x hx => (k3 x hx).2, ?_, ?_⟩
    · have := run_storeCells_cells (P := P) r.blk (r.off + p) (xs.map (Lf.conc ν ρ)) 0 w (by simpa using fun k hk => (hex k hk).1) (by simpa using fun k hk => (hex k hk).2)
        (fun v hv => by obtain ⟨l, hl, rfl⟩ := List.mem_map.1 hv; exact Lf.ok_conc (k3 l hl).2 ρ)
      simpa using this
    · have hlen : (a'.cells ν).length = (a.cells ν).length := by rw [k2, overD_len]
      refine ⟨hv.nil, fun e => by rw [setCells_size]; exact hv.lt e, hv.pos, by rw [hlen]; exact hv.len, hv.cap, fun i hi => ?_, fun _ e i hi => ?_⟩
      · rw [hlen] at hi
        by_cases hin : p ≤ i ∧ i < p + xs.length
        · obtain ⟨k, hk⟩ : ∃ k, i = p + k := ⟨i - p, by omega⟩
          have hkl : k < xs.length := by omega
          have e1 := World.cell?_setCells_in r.blk (xs.map (Lf.conc ν ρ)) (r.off + p) w (by simpa using fun k hk => (hex k hk).1) k (by simpa using hkl)
          refine ⟨(xs[k]).conc ν ρ, ?_, ?_⟩
          · rw [hk, ← Nat.add_assoc, e1]
            simp
          · have e2 := overD_in vs (a.cells ν) p k (by omega) (by omega)
            have hkv : k < vs.length := by omega
            have e3 : (a'.cells ν).getD i default = vs[k] := by
              subst hk
              rw [List.getD_eq_getElem?_getD, k2, e2, List.getElem?_eq_getElem hkv]
              rfl
            have e4 := k4 k xs[k] vs[k] (List.getElem?_eq_getElem hkl) (List.getElem?_eq_getElem hkv) ρ
            rw [e3, hk, hmod k hkl]
            exact e4
        · obtain ⟨v, g1, g2⟩ := hv.cell i hi
          refine ⟨v, ?_, ?_⟩
          · rw [World.cell?_setCells_out _ _ _ _ _ (fun _ _ => by simp; omega)]
            exact g1
          · have : (a'.cells ν).getD i default = (a.cells ν).getD i default := by
              rw [List.getD_eq_getElem?_getD, List.getD_eq_getElem?_getD, k2, overD_out vs _ _ i (by omega)]
            rw [this]
            exact g2
      · rw [World.frozen?_setCells]
        have := hv.own rfl e i hi
        refine ⟨?_, this.2⟩
        by_cases hi2 : p ≤ i ∧ i < p + xs.length
        · obtain ⟨k, hk⟩ : ∃ k, i = p + k := ⟨i - p, by omega⟩
          have hkl : k < xs.length := by omega
          have e1 := World.cell?_setCells_in r.blk (xs.map (Lf.conc ν ρ)) (r.off + p) w (by simpa using fun k hk => (hex k hk).1) k (by simpa using hkl)
          rw [hk, ← Nat.add_assoc, e1]
          rfl
        · rw [World.cell?_setCells_out _ _ _ _ _ (fun _ _ => by simp; omega)]
          exact this.1
  · exact sat_fail

def NewRow (E : Env) (ν : Nat → DV) (ρ : Nat → Loc) (hp : List (Option Blk)) (v : Value) (w' : World) : OR → Prop
  | .hp (some u) hp' => u.good ν ∧ ∃ ρ' : Nat → Loc, (∀ j, j < hp.length → ρ' j = ρ j) ∧ HS E ν ρ' hp' w' ∧ v = u.conc ν ρ'
  | _ => False
theorem NewRow.run {ρ : Nat → Loc} {hp : List (Option Blk)} {x : Sem Next} {y : Sem Value} {z : OR} (hx : ∀ w v w', y.run P w = .ok v w' → x.run P w = .ok (.value v) w')
    (h : ∀ w, HS E ν ρ hp w → ∃ v w', y.run P w = .ok v w' ∧ NewRow E ν ρ hp v w' z) : ORok P I E ν ρ hp x z := by
  cases z with
  | val v => intro w hw _; obtain ⟨_, _, _, h2⟩ := h w hw; exact h2.elim
  | hp v hp' =>
    intro w hw _
    obtain ⟨u, w', h1, h2⟩ := h w hw
    cases v with
    | none => exact h2.elim
    | some v =>
      obtain ⟨g, ρ', h3, h4, h5⟩ := h2
      exact .inl ⟨u, w', hx w u w' h1, ρ', h3, h4, fun q hq => by cases hq; exact ⟨g, by rw [h5]⟩⟩
theorem NewRow.mk {ρ : Nat → Loc} {hp hp1 : List (Option Blk)} {w' : World} {v : Value} {bk : Blk} {r : Loc} (_hl : hp1.length = hp.length) (hv : v = r.slice) (h : HS E ν (ext ρ hp.length r) (hp1 ++ [some bk]) w') :
    NewRow E ν ρ hp v w' (.hp (some (.s (.one (.vec hp.length)))) (hp1 ++ [some bk])) :=
  ⟨V1.good_one.2 trivial, ext ρ hp.length r, fun j hj => ext_lt hj, h, by rw [hv]; simp [V.conc, V1.conc, Lf.conc, ext_same]⟩

def boundIs (x : Option Value) (d n : Nat) : Prop := (x = none ∧ n = d) ∨ ∃ k, x = some (.int k n)
theorem run_sliceBounds {b : Bool} {len cap l h : Nat} {lo hi : Option Value} (hlo : boundIs lo 0 l) (hhi : boundIs hi len h) (h1 : l ≤ h) (h2 : h ≤ cap) (h3 : len ≤ cap) (w : World) :
    (Instr.sliceBounds b len cap lo hi none).run P w = .ok (l, h, cap) w := by
  rcases hlo with ⟨rfl, rfl⟩ | ⟨k, rfl⟩ <;> rcases hhi with ⟨rfl, rfl⟩ | ⟨k', rfl⟩ <;> simp [Instr.sliceBounds, Instr.sliceBound, asIntOf, h1, h2, Int.ofNat_le]

theorem run_slice_row {t : TypeId} {e sz : Nat} (ht : P.underlying t = some (.slice e)) (hs : tsize P e = some sz) {r : Loc} {lo hi : Option Value} {l h : Nat} (hlo : boundIs lo 0 l) (hhi : boundIs hi r.len h) (h1 : l ≤ h) (h2 : h ≤ r.len) (h3 : r.len ≤ r.cap) (w : World) :
    (Instr.sliceAt t r.slice lo hi none).run P w = .ok (Loc.slice ⟨r.blk, if r.cap = l then r.off else r.off + l * sz, r.nil, h - l, r.cap - l⟩) w := by
  have hb := run_sliceBounds (P := P) (b := true) (cap := r.cap) hlo hhi h1 (by omega) h3 w
  simp only [Instr.sliceAt, Instr.slice, Loc.slice, Sem.run_bind, run_underlying ht, Result.andThen_ok, hb, run_size hs, Sem.run_pure]
  cases r.nil
  · by_cases hc : r.cap = l <;> simp [hc, addr_add]
  · simp
theorem run_slice_arr {t : TypeId} {n e sz : Nat} (ht : P.underlying t = some (.array n e)) (hs : tsize P e = some sz) {b o : Nat} {lo hi : Option Value} {l h : Nat} (hlo : boundIs lo 0 l) (hhi : boundIs hi n h) (h1 : l ≤ h) (h2 : h ≤ n) (w : World) :
    (Instr.sliceAt t (.pointer (some ⟨b, o, none⟩)) lo hi none).run P w = .ok (Loc.slice ⟨b, if n = l then o else o + l * sz, false, h - l, n - l⟩) w := by
  have hb := run_sliceBounds (P := P) (b := false) (cap := n) hlo hhi h1 h2 (Nat.le_refl _) w
  simp only [Instr.sliceAt, Loc.slice, Sem.run_bind, run_underlying ht, Result.andThen_ok, hb, run_size hs, Sem.run_pure, Instr.sureAddr]
  by_cases hc : n = l <;> simp [hc, addr_add]

theorem VRel.cut {w : World} {r : Loc} {o : Bool} {ts : List LT} {xs : List DV} (hv : VRel E w r o ts xs) {l h : Nat} (h1 : l ≤ h) (h2 : h ≤ r.len) :
    VRel E w ⟨r.blk, if r.cap = l then r.off else r.off + l * ts.length, r.nil, h - l, r.cap - l⟩ o ts ((xs.take (h * ts.length)).drop (l * ts.length)) := by
  have hle : h * ts.length ≤ xs.length := by rw [hv.len]; exact Nat.mul_le_mul_right _ h2
  have hlen : ((xs.take (h * ts.length)).drop (l * ts.length)).length = (h - l) * ts.length := by
    rw [List.length_drop, List.length_take, Nat.min_eq_left hle, Nat.sub_mul]
  have hcap := hv.cap
  refine ⟨fun hn => ?_, hv.lt, hv.pos, hlen, by show h - l ≤ r.cap - l; omega, fun i hi => ?_, fun ho hn i hi => ?_⟩
  · have := hv.nil hn
    exact ⟨by show h - l = 0; omega, by show r.cap - l = 0; omega⟩
  · rw [hlen] at hi
    have hlh : l < h := by
      rcases Nat.lt_or_ge l h with h | h
      · exact h
      · rw [Nat.sub_eq_zero_of_le h, Nat.zero_mul] at hi; omega
    rw [Nat.sub_mul] at hi
    obtain ⟨v, e1, e2⟩ := hv.cell (l * ts.length + i) (by omega)
    refine ⟨v, ?_, ?_⟩
    · show w.cell? ⟨r.blk, (if r.cap = l then r.off else r.off + l * ts.length) + i, none⟩ = some v
      rw [if_neg (by omega), ← e1]
      congr 2
      omega
    · have e3 : ((xs.take (h * ts.length)).drop (l * ts.length)).getD i default = xs.getD (l * ts.length + i) default := by
        simp only [List.getD_eq_getElem?_getD]
        rw [List.getElem?_drop, List.getElem?_take_of_lt (by omega)]
      rw [e3]
      have e4 : (l * ts.length + i) % ts.length = i % ts.length := by rw [Nat.mul_comm l, Nat.mul_add_mod]
      rw [← e4]
      exact e2
  · have hi : i < (r.cap - l) * ts.length := hi
    have hlc : l < r.cap := by
      rcases Nat.lt_or_ge l r.cap with h | h
      · exact h
      · rw [Nat.sub_eq_zero_of_le h, Nat.zero_mul] at hi; omega
    have hle2 : l * ts.length ≤ r.cap * ts.length := Nat.mul_le_mul_right _ (by omega)
    rw [Nat.sub_mul] at hi
    have := hv.own ho hn (l * ts.length + i) (by omega)
    show (w.cell? ⟨r.blk, (if r.cap = l then r.off else r.off + l * ts.length) + i, none⟩).isSome = true ∧ w.frozen? ⟨r.blk, (if r.cap = l then r.off else r.off + l * ts.length) + i, none⟩ = false
    rw [if_neg (by omega), Nat.add_assoc]
    exact this

theorem cutHigh_sat {sz : Nat} {a : A} {high : Option Lf} (hd : (a.cells ν).length % sz = 0) : M.sat F ν (cutHigh sz a high) (fun q => ∃ h : Nat, h ≤ (a.cells ν).length / sz ∧ q.2.int ν = h ∧ q.1.cells ν = (a.cells ν).take (h * sz) ∧
    ∀ ρ : Nat → Loc, boundIs (high.map (Lf.conc ν ρ)) ((a.cells ν).length / sz) h) := by
  unfold cutHigh
  split
  · refine sat_bind (sat_emit (Q := fun q => q.int ν = ((a.cells ν).length / sz : Nat)) fun q h => A.int_of_den h) fun n hn => sat_pure ⟨_, Nat.le_refl _, hn, ?_, fun ρ => .inl ⟨rfl, rfl⟩⟩
    rw [Nat.div_mul_cancel (Nat.dvd_of_mod_eq_zero hd), List.take_length]
  · rename_i k h
    refine sat_bind oweGe0_sat fun _ h0 => ?_
    refine sat_bind (sat_emit (Q := fun q => q.int ν = ((a.cells ν).length / sz : Nat)) fun q h => A.int_of_den h) fun n hn => ?_
    refine sat_bind oweLeA_sat fun _ h1 => ?_
    refine sat_bind (sat_emit (Q := fun q => q.cells ν = (a.cells ν).take ((h.int ν).toNat * sz)) fun q h => A.cells_of_den h) fun q hq => sat_pure ⟨(h.int ν).toNat, by omega, by show h.int ν = ((h.int ν).toNat : Int); omega, hq, fun ρ => .inr ⟨k, ?_⟩⟩
    simp [Lf.conc, Int.toNat_of_nonneg h0]
  · exact sat_fail
theorem cutLow_sat {sz : Nat} {a n : A} {low : Option Lf} {h : Nat} (hn : n.int ν = h) : M.sat F ν (cutLow sz a n low) (fun q => ∃ l : Nat, l ≤ h ∧ q.cells ν = (a.cells ν).drop (l * sz) ∧ ∀ ρ : Nat → Loc, boundIs (low.map (Lf.conc ν ρ)) 0 l) := by
  unfold cutLow
  split
  · exact sat_pure ⟨0, Nat.zero_le _, by simp, fun ρ => .inl ⟨rfl, rfl⟩⟩
  · rename_i k l
    refine sat_bind oweGe0_sat fun _ h0 => sat_bind oweLeA_sat fun _ h1 => ?_
    refine sat_emit fun q hq => ⟨(l.int ν).toNat, by omega, A.cells_of_den hq, fun ρ => .inr ⟨k, ?_⟩⟩
    simp [Lf.conc, Int.toNat_of_nonneg h0]
  · exact sat_fail

theorem rowLits_spec {ts : List LT} : ∀ {cs : List (Option Lf)} {i : Nat} {r : List Ty × List A}, rowLits ts i cs = some r → r.1.length = cs.length ∧ r.2.length = cs.length ∧
    ∀ j, j < cs.length → ∃ x, nth cs j = some x ∧ x.ok = true ∧ x.good ν ∧ ∀ ρ, CRel E (ts.getD ((i + j) % ts.length) .bool) ((nrmZ r.1 (r.2.map (A.den ν))).getD j default) (x.conc ν ρ)
  | [], i, r, h => by simp [rowLits] at h; subst h; exact ⟨rfl, rfl, fun j hj => by simp at hj⟩
  | c :: cs, i, r, h => by
    simp only [rowLits] at h
    cases c with
    | none => simp at h
    | some x =>
      simp only [Option.bind_some] at h
      cases hx : leafAs (ts.getD (i % ts.length) .bool) x with
      | none => simp only [hx] at h; cases h
      | some a =>
        simp only [hx] at h
        cases hr : rowLits ts (i + 1) cs with
        | none => simp only [hr] at h; cases h
        | some r' =>
          simp only [hr, Option.some.injEq] at h
          subst h
          obtain ⟨h1, h2, h3⟩ := rowLits_spec hr
          refine ⟨by simp [h1], by simp [h2], fun j hj => ?_⟩
          cases j with
          | zero =>
            have := leafAs_spec (E := E) (ν := ν) hx
            exact ⟨x, rfl, this.2.1, this.1, fun ρ => this.2.2 ρ⟩
          | succ j =>
            obtain ⟨y, k1, k2, k3, k4⟩ := h3 j (by simpa using hj)
            refine ⟨y, k1, k2, k3, fun ρ => ?_⟩
            have := k4 ρ
            rw [show i + 1 + j = i + (j + 1) from by omega] at this
            exact this
theorem nrmZ_len : ∀ {ts : List Ty} {ds : List DV}, ts.length = ds.length → (nrmZ ts ds).length = ds.length
  | [], [], _ => rfl
  | t :: ts, d :: ds, h => by simp [nrmZ, nrmZ_len (show ts.length = ds.length by simpa using h)]
  | [], _ :: _, h => by simp at h
  | _ :: _, [], h => by simp at h

theorem kindsOf_len : ∀ {l : List Lf} {ts : List LT}, kindsOf l = some ts → ts.length = l.length
  | [], ts, h => by simp [kindsOf] at h; subst h; rfl
  | .i k a :: l, ts, h => by
    simp only [kindsOf] at h
    obtain ⟨r, hr, rfl⟩ := Option.map_eq_some_iff.1 h
    simp [kindsOf_len hr]
  | .b a :: l, ts, h => by
    simp only [kindsOf] at h
    obtain ⟨r, hr, rfl⟩ := Option.map_eq_some_iff.1 h
    simp [kindsOf_len hr]
  | .p _ _ :: _, _, h => by simp [kindsOf] at h
  | .gp _ _ :: _, _, h => by simp [kindsOf] at h
  | .nilp :: _, _, h => by simp [kindsOf] at h
  | .vec _ :: _, _, h => by simp [kindsOf] at h
  | .fnp _ _ :: _, _, h => by simp [kindsOf] at h
  | .v _ :: _, _, h => by simp [kindsOf] at h

theorem CBlk.row {ρ : Nat → Loc} {w : World} {r : Loc} {o : Bool} {cs : List (Option Lf)} (h : CBlk ν ρ w r o cs) {ts : List LT} {q : List Ty × List A} (hq : rowLits ts 0 cs = some q) {n : Nat} (hn : cs.length = n * ts.length) (hpos : 0 < ts.length) :
    VRel E w ⟨r.blk, r.off, false, n, n⟩ o ts (nrmZ q.1 (q.2.map (A.den ν))) := by
  obtain ⟨h1, h2, h3⟩ := rowLits_spec (E := E) (ν := ν) hq
  have hl : (nrmZ q.1 (q.2.map (A.den ν))).length = cs.length := by rw [nrmZ_len (by simp [h1, h2]), List.length_map, h2]
  refine ⟨fun e => (by cases e), fun _ => h.lt, hpos, by rw [hl, hn], Nat.le_refl _, fun i hi => ?_, fun ho _ i hi => h.own ho i (by rw [hn]; exact hi)⟩
  rw [hl] at hi
  obtain ⟨x, k1, _, _, k4⟩ := h3 i hi
  rw [Nat.zero_add] at k4
  exact ⟨_, (h.cell i x k1).2, k4 ρ⟩

theorem evSlice_sat {hp : List (Option Blk)} {t : TypeId} {x : V} {low high : Option Lf} : M.sat F ν (evSlice P hp t x low high) (fun z => ∀ ρ w, HS E ν ρ hp w →
    ∃ v w', (Instr.sliceAt t (x.conc ν ρ) (low.map (Lf.conc ν ρ)) (high.map (Lf.conc ν ρ)) none).run P w = .ok v w' ∧ NewRow E ν ρ hp v w' z) := by
  unfold evSlice
  refine sat_bind (sat_lift (Q := fun k => tk P t = some k) fun a h => h) fun k hk => ?_
  split
  · rename_i elem b
    refine sat_bind (sat_lift (Q := fun k => tsize P elem = some k) fun a h => h) fun sz hs => ?_
    refine sat_bind (sat_lift (Q := fun r => rowAt hp b = some r) fun a h => h) fun r hr => ?_
    refine sat_ite (fun hc => ?_) (fun _ => sat_fail)
    simp only [Bool.and_eq_true] at hc
    have h1 := Nat.eq_of_beq_eq_true hc.1
    have hlt := hc.2
    subst h1
    by_cases hd : (r.2.2.cells ν).length % r.2.1.length = 0
    · refine sat_bind (cutHigh_sat hd) fun q ⟨h, k1, k2, k3, k4⟩ => sat_bind (cutLow_sat k2) fun q2 ⟨l, m1, m2, m3⟩ => sat_pure fun ρ w hw => ?_
      have hv := row_rel hr hw
      rw [hv.elems] at k1 k4
      have hrun := run_slice_row (P := P) (tk_slice hk) hs (r := ρ b) (m3 ρ) (k4 ρ) m1 k1 hv.cap w
      have hv2 := hv.cut m1 k1
      rw [← k3, ← m2] at hv2
      refine ⟨_, w, hrun, NewRow.mk (by split <;> simp [setNth_length]) rfl ?_⟩
      have hbk := rowAt_spec hr
      cases ho : r.1 with
      | true =>
        rw [ho] at hv2 hbk
        simp only [if_true]
        have hk1 := (hw.kill b).push (w' := w) (bk := .v true r.2.1 q2) (r := ⟨(ρ b).blk, if (ρ b).cap = l then (ρ b).off else (ρ b).off + l * r.2.1.length, (ρ b).nil, h - l, (ρ b).cap - l⟩) (hpLt_kill hlt) (Below.refl _ w) hv2
          (fun j b' hj _ hn1 hn2 => (hw.heap.apart b j _ b' hbk rfl (nth_kill hj).2 (Ne.symm (nth_kill hj).1) hn1 hn2).symm) (by
            rcases hw.old b _ hbk with h | h | h | h
            · exact .inl h
            · exact .inr (.inl h)
            · exact .inr (.inr (.inl h))
            · cases h.1)
        rw [setNth_length] at hk1
        exact hk1
      | false =>
        rw [ho] at hv2 hbk
        simp only [Bool.false_eq_true, if_false]
        refine hw.push (w' := w) (bk := .v false r.2.1 q2) hlt (Below.refl _ w) hv2 (fun j b' hj hor hn1 hn2 => ?_) (by
          rcases hw.old b _ hbk with h | h | h | h
          · exact .inl h
          · exact .inr (.inl h)
          · exact .inr (.inr (.inl h))
          · exact .inr (.inr (.inr ⟨rfl, h.2⟩)))
        rcases hor with hor | hor
        · cases hor
        · by_cases hjb : j = b
          · subst hjb
            rw [hbk] at hj
            cases hj
            cases hor
          · exact hw.heap.apart j b b' _ hj hor hbk hjb hn2 hn1
    · refine sat_bind sat_true fun q _ => sat_bind sat_true fun q2 _ => sat_pure fun ρ w hw => ?_
      have hv := row_rel hr hw
      exact absurd (by rw [hv.len]; exact Nat.mul_mod_left _ _) hd
  · rename_i n elem b
    refine sat_bind (sat_lift (Q := fun bk => nth hp b = some bk) fun a h => h) fun bk hbk => ?_
    split
    · rename_i o cs
      refine sat_bind (sat_lift (Q := fun k => tsize P elem = some k) fun a h => h) fun sz hs => ?_
      refine sat_bind sat_true fun z _ => ?_
      refine sat_bind sat_true fun ts _ => ?_
      refine sat_bind (sat_lift (Q := fun r => rowLits ts 0 cs = some r) fun a h => h) fun r hr => ?_
      refine sat_ite (fun hc => ?_) (fun _ => sat_fail)
      simp only [Bool.and_eq_true] at hc
      obtain ⟨⟨⟨c1, c2⟩, c3⟩, hlt⟩ := hc
      have c1 := Nat.eq_of_beq_eq_true c1
      have c2 : 0 < sz := Nat.le_of_ble_eq_true c2
      have c3 := Nat.eq_of_beq_eq_true c3
      subst c1
      refine sat_bind (sat_emit (Q := fun q => q.cells ν = nrmZ r.1 (r.2.map (A.den ν))) fun q h => A.cells_of_den h) fun q0 hq0 => ?_
      have hlen : (q0.cells ν).length = n * ts.length := by
        obtain ⟨l1, l2, _⟩ := rowLits_spec (E := E) (ν := ν) hr
        rw [hq0, nrmZ_len (by simp [l1, l2]), List.length_map, l2, c3]
      refine sat_bind (cutHigh_sat (by rw [hlen]; exact Nat.mul_mod_left _ _)) fun q ⟨h, k1, k2, k3, k4⟩ => sat_bind (cutLow_sat k2) fun q2 ⟨l, m1, m2, m3⟩ => sat_pure fun ρ w hw => ?_
      rw [hlen, Nat.mul_div_cancel _ c2] at k1 k4
      have hb0 : CBlk ν ρ w (ρ b) o cs := hw.heap.blk b _ hbk
      have hv := hb0.row (E := E) hr c3 c2
      rw [← hq0] at hv
      have hrun := run_slice_arr (P := P) (tk_arr hk) hs (b := (ρ b).blk) (o := (ρ b).off) (m3 ρ) (k4 ρ) m1 k1 w
      have hv2 := hv.cut m1 k1
      rw [← k3, ← m2] at hv2
      refine ⟨_, w, by simpa [V.conc, V1.conc, Lf.conc, Off.val] using hrun, NewRow.mk (setNth_length _ _ _) rfl ?_⟩
      have hk1 := (hw.kill b).push (w' := w) (bk := .v o ts q2) (r := ⟨(ρ b).blk, if n = l then (ρ b).off else (ρ b).off + l * ts.length, false, h - l, n - l⟩) (hpLt_kill hlt) (Below.refl _ w) hv2
          (fun j b' hj hor hn1 hn2 => by
            obtain ⟨hjb, hj⟩ := nth_kill hj
            rcases hor with hor | hor
            · exact (hw.heap.apart b j _ b' hbk hor hj (Ne.symm hjb) hb0.nil hn2).symm
            · exact hw.heap.apart j b b' _ hj hor hbk hjb hn2 hb0.nil) (by
            rcases hw.old b _ hbk with h | h | h | h
            · rw [hb0.nil] at h; cases h
            · exact .inr (.inl h)
            · exact .inr (.inr (.inl h))
            · exact .inr (.inr (.inr h)))
      rw [setNth_length] at hk1
      exact hk1
    · exact sat_fail
  · exact sat_fail

def rowVals (w : World) (r : Loc) (n : Nat) : List Value := (List.range n).map fun i => (w.cell? ⟨r.blk, r.off + i, none⟩).getD undef
theorem rowVals_len (w : World) (r : Loc) (n : Nat) : (rowVals w r n).length = n := by simp [rowVals]
theorem CRel.one {t : LT} {d : DV} {v : Value} (h : CRel E t d v) : v.oneCell' = true := by cases h <;> rfl
theorem VRel.vals {w : World} {r : Loc} {o : Bool} {ts : List LT} {xs : List DV} (h : VRel E w r o ts xs) : (∀ (j : Nat) (v : Value), (rowVals w r xs.length)[j]? = some v → w.cell? ⟨r.blk, r.off + j, none⟩ = some v ∧ CRel E (ts.getD (j % ts.length) .bool) (xs.getD j default) v) ∧
    (∀ v ∈ rowVals w r xs.length, v.oneCell' = true) := by
  have key : ∀ (j : Nat) (v : Value), (rowVals w r xs.length)[j]? = some v → w.cell? ⟨r.blk, r.off + j, none⟩ = some v ∧ CRel E (ts.getD (j % ts.length) .bool) (xs.getD j default) v := by
    intro j v hj
    have hl : j < xs.length := by
      have := (List.getElem?_eq_some_iff.1 hj).1
      rwa [rowVals_len] at this
    obtain ⟨u, h1, h2⟩ := h.cell j hl
    unfold rowVals at hj
    rw [List.getElem?_map, List.getElem?_range hl, Option.map_some, h1] at hj
    simp only [Option.getD_some, Option.some.injEq] at hj
    subst hj
    exact ⟨h1, h2⟩
  refine ⟨key, fun v hv => ?_⟩
  obtain ⟨j, hj, rfl⟩ := List.mem_iff_getElem.1 hv
  exact (key j _ (List.getElem?_eq_getElem hj)).2.one

theorem tbytes_spec {t : TypeId} {n : Nat} (h : tbytes P t = some n) : ∃ i, P.info? t = some i ∧ i.bytes = n := by
  unfold tbytes at h
  cases hi : P.info? t with
  | none => simp [hi] at h
  | some i => simp [hi] at h; exact ⟨i, rfl, h⟩
theorem zeroCells_spec {t : TypeId} {z : List Lf} (h : zeroCells P t = some z) : ∃ i v, P.info? t = some i ∧ i.zero = some v ∧ (∀ x ∈ z, x.good ν) ∧ ∀ ρ, v.cells.toList = z.map (Lf.conc ν ρ) := by
  unfold zeroCells at h
  split at h
  · cases h
  · rename_i i hi
    split at h
    · cases h
    · rename_i v hv
      have := ofLeaves_spec (ν := ν) h
      exact ⟨i, v, hi, hv, this.1, fun ρ => (this.2 ρ).symm⟩
theorem rowLim_mul {n by_ : Nat} (h : n ≤ rowLim by_) : n * by_ ≤ 140737488355328 ∧ n ≤ 9223372036854775807 := by
  unfold rowLim at h
  have h1 : n * (by_ + 1) ≤ 70368744177664 := (Nat.le_div_iff_mul_le (by omega)).1 h
  have h2 : n * by_ ≤ n * (by_ + 1) := Nat.mul_le_mul_left _ (by omega)
  have h3 : n ≤ n * (by_ + 1) := Nat.le_mul_of_pos_right _ (by omega)
  exact ⟨by omega, by omega⟩

theorem evAppend_sat {hp : List (Option Blk)} {t tx : TypeId} {s x : V} : M.sat F ν (evAppend P hp t tx s x) (fun z => ∀ ρ w ty, HS E ν ρ hp w →
    ∃ v w', (Builtin.append_ #[t, tx] ty #[s.conc ν ρ, x.conc ν ρ]).run P w = .ok v w' ∧ NewRow E ν ρ hp v w' z) := by
  unfold evAppend
  refine sat_bind (sat_lift (Q := fun k => tk P t = some k) fun a h => h) fun k hk => ?_
  refine sat_bind (sat_lift (Q := fun k => tk P tx = some k) fun a h => h) fun kx hkx => ?_
  split
  · rename_i elem ex b c
    refine sat_bind (sat_lift (Q := fun r => rowAt hp b = some r) fun a h => h) fun r hr => ?_
    refine sat_bind (sat_lift (Q := fun r => rowAt hp c = some r) fun a h => h) fun u hu => ?_
    refine sat_bind (sat_lift (Q := fun z => zeroCells P elem = some z) fun a h => h) fun z hz => ?_
    refine sat_bind (sat_lift (Q := fun k => tsize P elem = some k) fun a h => h) fun sz hs => ?_
    refine sat_bind (sat_lift (Q := fun k => tbytes P elem = some k) fun a h => h) fun by_ hby => ?_
    refine sat_ite (fun hc => ?_) (fun _ => sat_fail)
    simp only [Bool.and_eq_true, Bool.not_eq_true'] at hc
    obtain ⟨⟨⟨⟨⟨c1, c2⟩, c3⟩, c4⟩, c5⟩, hlt⟩ := hc
    have c2 : b ≠ c := fun e => by subst e; rw [Nat.beq_refl] at c2; cases c2
    have c3 := LTs.beq_eq c3
    have c4 := Nat.eq_of_beq_eq_true c4
    have c5 := Nat.eq_of_beq_eq_true c5
    refine sat_bind (sat_emit (Q := fun q => q.cells ν = r.2.2.cells ν ++ u.2.2.cells ν) fun q h => A.cells_of_den h) fun q hq => ?_
    refine sat_bind (sat_emit (Q := fun n => n.int ν = ((q.cells ν).length / sz : Nat)) fun q h => A.int_of_den h) fun n hn => ?_
    refine sat_bind oweLeA_sat fun _ hle => sat_pure fun ρ w ty hw => ?_
    obtain ⟨i, zv, hi, hzv, _, hzc⟩ := zeroCells_spec (ν := ν) hz
    obtain ⟨i1, hi1, hsz⟩ := tsize_spec hs
    obtain ⟨i2, hi2, hbz⟩ := tbytes_spec hby
    rw [hi] at hi1 hi2
    cases hi1
    cases hi2
    have hvb := row_rel hr hw
    have hvc := row_rel hu hw
    rw [← c3] at hvc
    rw [c1] at hvb
    have hsr : i.size = r.2.1.length := by rw [hsz]; exact c4
    have hpos := hvb.pos
    have hqn : (q.cells ν).length = ((ρ b).len + (ρ c).len) * r.2.1.length := by rw [hq, List.length_append, hvb.len, hvc.len, Nat.add_mul]
    have hnn : (ρ b).len + (ρ c).len ≤ rowLim by_ := by
      rw [hn, hqn, c4, Nat.mul_div_cancel _ hpos] at hle
      exact Int.ofNat_le.1 hle
    obtain ⟨hl1, hl2⟩ := rowLim_mul hnn
    rw [← hbz] at hl1
    have hsrc : Src P i.size tx (ρ c).slice (ρ c).len (rowVals w (ρ c) (u.2.2.cells ν).length) w := by
      have hv := hvc.vals
      cases hnil : (ρ c).nil with
      | true =>
        have h0 := hvc.nil hnil
        have : (u.2.2.cells ν).length = 0 := by rw [hvc.len, h0.1, Nat.zero_mul]
        rw [this]
        have := Src.ofNil w (size := i.size) (tk_slice hkx) 0
        simpa [Loc.slice, hnil, h0, rowVals] using this
      | false =>
        have := Src.ofSlice w (size := i.size) (tk_slice hkx) ⟨(ρ c).blk, (ρ c).off, none⟩ (ρ c).len (ρ c).cap (rowVals w (ρ c) (u.2.2.cells ν).length) (by rw [rowVals_len, hvc.len, hsr])
          (fun j v hj => by rw [addr_add]; exact (hv.1 j v hj).1) hv.2
        simpa [Loc.slice, hnil] using this
    have hcl : (u.2.2.cells ν).length = (ρ c).len * r.2.1.length := hvc.len
    -- the new row's cells
    have hcells : ∀ (w' : World) (r' : Loc), (∀ j, j < (r.2.2.cells ν).length → w'.cell? ⟨r'.blk, r'.off + j, none⟩ = w.cell? ⟨(ρ b).blk, (ρ b).off + j, none⟩) →
        (∀ j v, (rowVals w (ρ c) (u.2.2.cells ν).length)[j]? = some v → w'.cell? ⟨r'.blk, r'.off + ((r.2.2.cells ν).length + j), none⟩ = some v) →
        ∀ j, j < (q.cells ν).length → ∃ v, w'.cell? ⟨r'.blk, r'.off + j, none⟩ = some v ∧ CRel E (r.2.1.getD (j % r.2.1.length) .bool) ((q.cells ν).getD j default) v := by
      intro w' r' h1 h2 j hj
      rw [hq, List.length_append] at hj
      rcases Nat.lt_or_ge j (r.2.2.cells ν).length with hj1 | hj1
      · obtain ⟨v, g1, g2⟩ := hvb.cell j hj1
        refine ⟨v, by rw [h1 j hj1]; exact g1, ?_⟩
        have e0 : (r.2.2.cells ν ++ u.2.2.cells ν).getD j default = (r.2.2.cells ν).getD j default := by
          simp only [List.getD_eq_getElem?_getD]
          rw [List.getElem?_append_left hj1]
        rw [hq, e0]
        exact g2
      · obtain ⟨k, rfl⟩ : ∃ k, j = (r.2.2.cells ν).length + k := ⟨j - (r.2.2.cells ν).length, by omega⟩
        have hk : k < (rowVals w (ρ c) (u.2.2.cells ν).length).length := by rw [rowVals_len]; omega
        have g := hvc.vals.1 k _ (List.getElem?_eq_getElem hk)
        refine ⟨_, h2 k _ (List.getElem?_eq_getElem hk), ?_⟩
        have e1 : ((r.2.2.cells ν).length + k) % r.2.1.length = k % r.2.1.length := by rw [hvb.len, Nat.mul_comm, Nat.mul_add_mod]
        have e0 : (r.2.2.cells ν ++ u.2.2.cells ν).getD ((r.2.2.cells ν).length + k) default = (u.2.2.cells ν).getD k default := by
          simp only [List.getD_eq_getElem?_getD]
          rw [List.getElem?_append_right (by omega), Nat.add_sub_cancel_left]
        rw [hq, e1, e0]
        exact g.2
    rcases Nat.lt_or_ge (ρ b).cap ((ρ b).len + (ρ c).len) with hroom | hroom
    · -- there is no room
      have hold : (Builtin.firstCells i.size (ρ b).len (.slice (bif (ρ b).nil then none else some ⟨(ρ b).blk, (ρ b).off, none⟩) (ρ b).len (ρ b).cap)).run P w.drew = .ok (rowVals w (ρ b) (r.2.2.cells ν).length).toArray w.drew := by
        cases hnil : (ρ b).nil with
        | true =>
          have h0 := hvb.nil hnil
          have : (r.2.2.cells ν).length = 0 := by rw [hvb.len, h0.1, Nat.zero_mul]
          rw [this]
          exact run_firstCells_none w.drew _ _ _ _
        | false =>
          exact run_firstCells_some w.drew i.size _ ⟨(ρ b).blk, (ρ b).off, none⟩ _ _ _ (by rw [rowVals_len, hvb.len, hsr]) (fun j v hj => by
            rw [addr_add]
            simpa using (hvb.vals.1 j v hj).1)
      have hrun := run_append_grow_src (P := P) w t tx ty elem i zv (tk_slice hk) hi hzv _ _ _ _ hold (ρ c).slice _ _ hsrc hroom (by omega) (growslice_fits hroom (by omega))
      refine ⟨_, _, hrun, NewRow.mk (r := ⟨w.heap.size, 0, false, (ρ b).len + (ρ c).len, grownCap w ((ρ b).len + (ρ c).len) (ρ b).cap elem⟩) (setNth_length _ _ _) rfl ?_⟩
      have hge := grownCap_ge w ((ρ b).len + (ρ c).len) (ρ b).cap elem
      generalize hcp : grownCap w ((ρ b).len + (ρ c).len) (ρ b).cap elem = cp at *
      generalize hob : (.cells ((rowVals w (ρ b) (r.2.2.cells ν).length ++ rowVals w (ρ c) (u.2.2.cells ν).length).toArray ++ Builtin.zeroCells zv.cells (cp - ((ρ b).len + (ρ c).len))) elem : Obj) = ob
      have hbel : Below w.heap.size w (w.drew.alloc ob) := ⟨rfl, rfl, rfl, by simp, fun k hk => Below.heap_alloc w.drew _ _ hk⟩
      have hnew : ∀ j, (w.drew.alloc ob).cell? ⟨w.heap.size, j, none⟩ = ((rowVals w (ρ b) (r.2.2.cells ν).length ++ rowVals w (ρ c) (u.2.2.cells ν).length).toArray ++ Builtin.zeroCells zv.cells (cp - ((ρ b).len + (ρ c).len)))[j]? := fun j => by
        rw [← hob]
        exact World.cell?_alloc_new w.drew _ _ j
      have hfrz : ∀ j, (w.drew.alloc ob).frozen? ⟨w.heap.size, j, none⟩ = false := fun j => by
        rw [← hob]
        exact World.frozen?_alloc_new w.drew _ _ j
      have hk1 := (hw.kill b).fresh (w' := w.drew.alloc ob) (bk := .v true r.2.1 q) (r := ⟨w.heap.size, 0, false, (ρ b).len + (ρ c).len, cp⟩) (hpLt_kill hlt) hbel
        (⟨fun e => (by cases e), fun _ => by simp, hpos, hqn, hge, fun j hj => ?_, fun _ _ j hj => ?_⟩ : VRel E (w.drew.alloc ob) ⟨w.heap.size, 0, false, (ρ b).len + (ρ c).len, cp⟩ true r.2.1 (q.cells ν)) (.inr (Nat.le_refl _))
      · rw [setNth_length] at hk1
        exact hk1
      · refine hcells (w.drew.alloc ob) ⟨w.heap.size, 0, false, (ρ b).len + (ρ c).len, cp⟩ (fun j hj => ?_) (fun j v hj => ?_) j hj
        · simp only [Nat.zero_add]
          rw [hnew, Array.getElem?_append_left (by simp [rowVals_len]; omega)]
          obtain ⟨v, g1, _⟩ := hvb.cell j hj
          rw [g1, List.getElem?_toArray, List.getElem?_append_left (by rw [rowVals_len]; exact hj)]
          unfold rowVals
          rw [List.getElem?_map, List.getElem?_range hj, Option.map_some, g1]
          rfl
        · have hjl := (List.getElem?_eq_some_iff.1 hj).1
          simp only [Nat.zero_add]
          rw [hnew, Array.getElem?_append_left (by simp [rowVals_len] at hjl ⊢; omega), List.getElem?_toArray, List.getElem?_append_right (by rw [rowVals_len]; omega), rowVals_len, Nat.add_sub_cancel_left]
          exact hj
      · simp only [Nat.zero_add]
        refine ⟨?_, hfrz j⟩
        rw [hnew]
        have hsz2 : ((rowVals w (ρ b) (r.2.2.cells ν).length ++ rowVals w (ρ c) (u.2.2.cells ν).length).toArray ++ Builtin.zeroCells zv.cells (cp - ((ρ b).len + (ρ c).len))).size = cp * r.2.1.length := by
          have hzs : zv.cells.size = r.2.1.length := by
            rw [← Array.length_toList, hzc ρ, List.length_map, ← c5, c4]
          rw [Array.size_append, size_zeroCells, hzs, List.size_toArray, List.length_append, rowVals_len, rowVals_len, hvb.len, hvc.len, ← Nat.add_mul, ← Nat.add_mul]
          congr 1
          omega
        have hj : j < cp * r.2.1.length := hj
        rw [Array.getElem?_eq_getElem (by rw [hsz2]; exact hj)]
        rfl
    · -- there is room
      cases hnil : (ρ b).nil with
      | true =>
        have h0 := hvb.nil hnil
        have hc0 : (ρ c).len = 0 := by omega
        have hr0 : (r.2.2.cells ν).length = 0 := by rw [hvb.len, h0.1, Nat.zero_mul]
        have hq0 : (q.cells ν).length = 0 := by rw [hqn, h0.1, hc0]; simp
        have hun : (u.2.2.cells ν).length = 0 := by rw [hvc.len, hc0, Nat.zero_mul]
        have hrun : (Builtin.append_ #[t, tx] ty #[.slice none 0 0, (ρ c).slice]).run P w = .ok (.slice none 0 0) w := by
          have hlen := hsrc.len w
          have hcel := hsrc.cells
          rw [hc0] at hlen hcel
          simp [Builtin.append_, run_underlying (tk_slice hk), run_underlying (tk_slice hkx), sizeOf, typeInfo, hi, hlen, hcel]
        refine ⟨.slice none 0 0, w, by simpa [V.conc, V1.conc, Lf.conc, Loc.slice, hnil, h0] using hrun, NewRow.mk (r := ⟨0, 0, true, 0, 0⟩) (setNth_length _ _ _) rfl ?_⟩
        have hk1 := (hw.kill b).fresh (w' := w) (bk := .v true r.2.1 q) (r := ⟨0, 0, true, 0, 0⟩) (hpLt_kill hlt) (Below.refl _ w)
          (⟨fun _ => ⟨rfl, rfl⟩, fun e => (by cases e), hpos, by rw [hq0]; simp, Nat.le_refl _, fun j hj => by omega, fun _ e => (by cases e)⟩ : VRel E w ⟨0, 0, true, 0, 0⟩ true r.2.1 (q.cells ν)) (.inl rfl)
        rw [setNth_length] at hk1
        exact hk1
      | false =>
        have hcb : ((ρ b).len + (ρ c).len) * r.2.1.length ≤ (ρ b).cap * r.2.1.length := Nat.mul_le_mul_right _ hroom
        rw [Nat.add_mul] at hcb
        have hlb := hvb.len
        have hex : ∀ j, j < (rowVals w (ρ c) (u.2.2.cells ν).length).length → (w.cell? ⟨(ρ b).blk, (ρ b).off + (r.2.2.cells ν).length + j, none⟩).isSome = true ∧ w.frozen? ⟨(ρ b).blk, (ρ b).off + (r.2.2.cells ν).length + j, none⟩ = false := fun j hj => by
          rw [rowVals_len] at hj
          have := hvb.own rfl hnil ((r.2.2.cells ν).length + j) (by omega)
          rwa [← Nat.add_assoc] at this
        have hrun := run_append_room_src (P := P) w t tx ty elem i (tk_slice hk) hi (ρ b).blk (ρ b).off (ρ b).len (ρ b).cap (ρ c).slice _ _ hsrc hroom (by rw [hsr, ← hlb]; exact fun j hj => (hex j hj).1) (by rw [hsr, ← hlb]; exact fun j hj => (hex j hj).2)
        rw [hsr, ← hlb] at hrun
        refine ⟨_, _, by simpa [V.conc, V1.conc, Lf.conc, Loc.slice, hnil] using hrun, NewRow.mk (r := ⟨(ρ b).blk, (ρ b).off, false, (ρ b).len + (ρ c).len, (ρ b).cap⟩) (setNth_length _ _ _) rfl ?_⟩
        generalize hvs : rowVals w (ρ c) (u.2.2.cells ν).length = vs at *
        have hvl : vs.length = (u.2.2.cells ν).length := by rw [← hvs, rowVals_len]
        have hbk := rowAt_spec hr
        rw [c1] at hbk
        have hkw := hw.killw (w' := w.setCells (ρ b).blk ((ρ b).off + (r.2.2.cells ν).length) vs) hbk rfl hnil (setCells_size _ _ _ _) (setCells_os _ _ _ _).1 (setCells_os _ _ _ _).2.1 (setCells_os _ _ _ _).2.2 (fun k hk => setCells_block _ _ _ _ k hk)
        have hk1 := hkw.push (w' := w.setCells (ρ b).blk ((ρ b).off + (r.2.2.cells ν).length) vs) (bk := .v true r.2.1 q) (r := ⟨(ρ b).blk, (ρ b).off, false, (ρ b).len + (ρ c).len, (ρ b).cap⟩) (hpLt_kill hlt) (Below.refl _ _)
          (⟨fun e => (by cases e), fun _ => by rw [setCells_size]; exact hvb.lt hnil, hpos, hqn, hroom, fun j hj => ?_, fun _ _ j hj => ?_⟩ : VRel E _ ⟨(ρ b).blk, (ρ b).off, false, (ρ b).len + (ρ c).len, (ρ b).cap⟩ true r.2.1 (q.cells ν))
          (fun j b' hj _ hn1 hn2 => (hw.heap.apart b j _ b' hbk rfl (nth_kill hj).2 (Ne.symm (nth_kill hj).1) hnil hn2).symm) (by
            rcases hw.old b _ hbk with h | h | h | h
            · rw [hnil] at h; cases h
            · exact .inr (.inl h)
            · exact .inr (.inr (.inl h))
            · cases h.1)
        · rw [setNth_length] at hk1
          exact hk1
        · refine hcells _ ⟨(ρ b).blk, (ρ b).off, false, (ρ b).len + (ρ c).len, (ρ b).cap⟩ (fun j hj => ?_) (fun j v hj => ?_) j hj
          · exact World.cell?_setCells_out _ _ _ _ _ (fun _ _ => by simp; omega)
          · have hjl := (List.getElem?_eq_some_iff.1 hj).1
            have e1 := World.cell?_setCells_in (ρ b).blk vs ((ρ b).off + (r.2.2.cells ν).length) w (fun k hk => (hex k hk).1) j hjl
            simp only
            rw [← Nat.add_assoc, e1, ← hj, List.getElem?_eq_getElem hjl]
        · have hj : j < (ρ b).cap * r.2.1.length := hj
          rw [World.frozen?_setCells]
          have := hvb.own rfl hnil j hj
          refine ⟨?_, this.2⟩
          by_cases hin : (r.2.2.cells ν).length ≤ j ∧ j < (r.2.2.cells ν).length + vs.length
          · obtain ⟨k, rfl⟩ : ∃ k, j = (r.2.2.cells ν).length + k := ⟨j - (r.2.2.cells ν).length, by omega⟩
            have e1 := World.cell?_setCells_in (ρ b).blk vs ((ρ b).off + (r.2.2.cells ν).length) w (fun k hk => (hex k hk).1) k (by omega)
            simp only
            rw [← Nat.add_assoc, e1]
            rfl
          · rw [World.cell?_setCells_out _ _ _ _ _ (fun _ _ => by simp; omega)]
            exact this.1
  · exact sat_fail

theorem Lf.lt_mono {n m : Nat} (h : n ≤ m) {x : Lf} (hx : x.lt n = true) : x.lt m = true := by
  cases x <;> simp only [Lf.lt, decide_eq_true_eq] at hx ⊢ <;> try omega
  exact List.all_eq_true.2 fun b hb => by have := List.all_eq_true.1 hx b hb; simp only [decide_eq_true_eq] at this ⊢; omega
theorem Blk.lt_mono {n m : Nat} (h : n ≤ m) {x : Blk} (hx : x.lt n = true) : x.lt m = true := by
  cases x with
  | v o ts a => rfl
  | c o cs =>
    refine List.all_eq_true.2 fun y hy => ?_
    have := List.all_eq_true.1 (show cs.all (optAll (Lf.lt n)) = true from hx) y hy
    cases y with
    | none => rfl
    | some l => exact Lf.lt_mono h this
theorem Lf.conc_keep {ρ ρ' : Nat → Loc} {n : Nat} (h : ∀ k, k < n → ρ' k = ρ k) {l : Lf} (hl : l.lt n = true) : l.conc ν ρ' = l.conc ν ρ := by
  cases l <;> simp only [Lf.lt, decide_eq_true_eq] at hl <;> simp only [Lf.conc] <;> first | rw [h _ hl] | rw [capsConc_lt hl h]

theorem flatten_rep_get {α : Type} (l : List α) (hl : 0 < l.length) : ∀ (n j : Nat), j < n * l.length → (List.replicate n l).flatten[j]? = l[j % l.length]?
  | 0, j, h => by simp at h
  | n + 1, j, h => by
    rw [List.replicate_succ, List.flatten_cons]
    rcases Nat.lt_or_ge j l.length with hj | hj
    · rw [List.getElem?_append_left hj, Nat.mod_eq_of_lt hj]
    · rw [List.getElem?_append_right hj, flatten_rep_get l hl n (j - l.length) (by rw [Nat.succ_mul] at h; omega)]
      congr 1
      exact (Nat.mod_eq_sub_mod hj).symm
theorem flatten_rep_len {α : Type} (l : List α) (n : Nat) : (List.replicate n l).flatten.length = n * l.length := by simp

theorem evMake_sat {hp : List (Option Blk)} {t : TypeId} {l c : Lf} : M.sat F ν (evMake P hp t l c) (fun x => ∀ ρ w, HS E ν ρ hp w →
    ∃ v w', (Instr.makeSlice t (l.conc ν ρ) (c.conc ν ρ)).run P w = .ok v w' ∧ NewRow E ν ρ hp v w' x) := by
  unfold evMake
  refine sat_bind (sat_lift (Q := fun k => tk P t = some k) fun a h => h) fun k hk => ?_
  split
  · rename_i elem kn n km m
    refine sat_bind (sat_lift (Q := fun z => zeroCells P elem = some z) fun a h => h) fun z hz => ?_
    refine sat_bind (sat_lift (Q := fun ts => kindsOf z = some ts) fun a h => h) fun ts hts => ?_
    refine sat_bind (sat_lift (Q := fun r => rowLits ts 0 (z.map some) = some r) fun a h => h) fun r hr => ?_
    refine sat_bind (sat_lift (Q := fun k => tsize P elem = some k) fun a h => h) fun sz hs => ?_
    refine sat_bind (sat_lift (Q := fun k => tbytes P elem = some k) fun a h => h) fun by_ hby => ?_
    refine sat_ite (fun hc => ?_) (fun _ => sat_fail)
    simp only [Bool.and_eq_true] at hc
    obtain ⟨⟨c1, c2⟩, hlt⟩ := hc
    have c1 := Nat.eq_of_beq_eq_true c1
    have c2 : 0 < sz := Nat.le_of_ble_eq_true c2
    refine sat_bind oweGe0_sat fun _ h0 => sat_bind oweLeA_sat fun _ h1 => sat_bind oweLeA_sat fun _ h2 => ?_
    refine sat_bind (sat_emit (Q := fun q => q.cells ν = (List.replicate (n.int ν).toNat (nrmZ r.1 (r.2.map (A.den ν)))).flatten) fun q h => A.cells_of_den h) fun q hq => sat_pure fun ρ w hw => ?_
    obtain ⟨i, zv, hi, hzv, _, hzc⟩ := zeroCells_spec (ν := ν) hz
    obtain ⟨i1, hi1, hsz⟩ := tsize_spec hs
    obtain ⟨i2, hi2, hbz⟩ := tbytes_spec hby
    rw [hi] at hi1 hi2
    cases hi1
    cases hi2
    have htl := kindsOf_len hts
    obtain ⟨l1, l2, l3⟩ := rowLits_spec (E := E) (ν := ν) hr
    have hcl : (nrmZ r.1 (r.2.map (A.den ν))).length = ts.length := by
      rw [nrmZ_len (by simp [l1, l2]), List.length_map, l2, List.length_map, htl]
    have hzs : zv.cells.size = ts.length := by rw [← Array.length_toList, hzc ρ, List.length_map, htl]
    have hst : sz = ts.length := by omega
    have hlim : (m.int ν).toNat ≤ rowLim by_ := by
      have h2 : m.int ν ≤ (rowLim by_ : Int) := h2
      omega
    obtain ⟨q1, q2⟩ := rowLim_mul hlim
    have hb2 : (i.bytes : Int) * m.int ν ≤ 281474976710656 := by
      have e : ((m.int ν).toNat : Int) = m.int ν := Int.toNat_of_nonneg (by omega)
      rw [← e, ← Int.natCast_mul, Nat.mul_comm, hbz]
      omega
    have hrun := run_make (P := P) w t elem i zv (tk_slice hk) hi hzv kn km (n.int ν) (m.int ν) h0 h1 hb2 (by omega)
    generalize hob : (.cells (madeCells zv.cells ((m.int ν).toNat * i.size)) elem : Obj) = ob at *
    have hbel : Below w.heap.size w (w.alloc ob) := ⟨rfl, rfl, rfl, by simp, fun k hk => Below.heap_alloc w _ _ hk⟩
    have hnew : ∀ j, (w.alloc ob).cell? ⟨w.heap.size, j, none⟩ = (madeCells zv.cells ((m.int ν).toNat * i.size))[j]? := fun j => by
      rw [← hob]
      exact World.cell?_alloc_new w _ _ j
    have hfrz : ∀ j, (w.alloc ob).frozen? ⟨w.heap.size, j, none⟩ = false := fun j => by
      rw [← hob]
      exact World.frozen?_alloc_new w _ _ j
    have hget : ∀ j, j < (m.int ν).toNat * ts.length → ∃ x, nth (z.map some) (j % ts.length) = some x ∧ (madeCells zv.cells ((m.int ν).toNat * i.size))[j]? = some (x.conc ν ρ) ∧ CRel E (ts.getD (j % ts.length) .bool) ((nrmZ r.1 (r.2.map (A.den ν))).getD (j % ts.length) default) (x.conc ν ρ) := fun j hj => by
      have hjm : j % ts.length < z.length := by rw [← htl]; exact Nat.mod_lt _ (by omega)
      obtain ⟨x, k1, _, _, k4⟩ := l3 (j % ts.length) (by simpa using hjm)
      have k4 := k4 ρ
      rw [Nat.zero_add, Nat.mod_mod] at k4
      refine ⟨x, k1, ?_, k4⟩
      have hx : z[j % ts.length]? = some x := by rw [nth_map_some] at k1; exact k1
      have hzx : zv.cells[j % zv.cells.size]! = x.conc ν ρ := by
        have : zv.cells.toList[j % ts.length]? = some (x.conc ν ρ) := by rw [hzc ρ, List.getElem?_map, hx]; rfl
        rw [Array.getElem?_toList] at this
        rw [hzs, Array.getElem!_eq_getD, Array.getD_eq_getD_getElem?, this]
        rfl
      unfold madeCells
      rw [Array.getElem?_map, Array.getElem?_range, if_pos (by rw [hsz, hst]; exact hj)]
      simp [hzx]
    refine ⟨_, _, hrun, NewRow.mk (r := ⟨w.heap.size, 0, false, (n.int ν).toNat, (m.int ν).toNat⟩) rfl rfl ?_⟩
    have hnm : (n.int ν).toNat * ts.length ≤ (m.int ν).toNat * ts.length := Nat.mul_le_mul_right _ (by omega)
    refine hw.fresh (w' := w.alloc ob) (bk := .v true ts q) hlt hbel (⟨fun e => (by cases e), fun _ => by simp, by omega, by rw [hq, flatten_rep_len, hcl], by show (n.int ν).toNat ≤ (m.int ν).toNat; omega, fun j hj => ?_, fun _ _ j hj => ?_⟩ : VRel E (w.alloc ob) ⟨w.heap.size, 0, false, (n.int ν).toNat, (m.int ν).toNat⟩ true ts (q.cells ν)) (.inr (Nat.le_refl _))
    · rw [hq, flatten_rep_len, hcl] at hj
      obtain ⟨x, _, k2, k3⟩ := hget j (by omega)
      refine ⟨x.conc ν ρ, by show (w.alloc ob).cell? ⟨w.heap.size, 0 + j, none⟩ = _; rw [Nat.zero_add, hnew]; exact k2, ?_⟩
      have e : (q.cells ν).getD j default = (nrmZ r.1 (r.2.map (A.den ν))).getD (j % ts.length) default := by
        simp only [List.getD_eq_getElem?_getD]
        rw [hq, flatten_rep_get _ (by rw [hcl]; omega) _ _ (by rw [hcl]; exact hj), hcl]
      rw [e]
      exact k3
    · have hj : j < (m.int ν).toNat * ts.length := hj
      obtain ⟨x, _, k2, _⟩ := hget j hj
      show ((w.alloc ob).cell? ⟨w.heap.size, 0 + j, none⟩).isSome = true ∧ (w.alloc ob).frozen? ⟨w.heap.size, 0 + j, none⟩ = false
      rw [Nat.zero_add, hnew, k2]
      exact ⟨rfl, hfrz j⟩
  · exact sat_fail

theorem evBuildSlice_sat {hp : List (Option Blk)} {t : TypeId} {len : Nat} {ps : List (Nat × V1)} (_hg : ∀ p ∈ ps, p.2.good ν) : M.sat F ν (evBuildSlice P hp t len ps) (fun x => ∀ ρ w, HS E ν ρ hp w →
    ∃ v w', (Instr.buildSlice t len (ps.map fun p => (p.1, p.2.conc ν ρ)).toArray).run P w = .ok v w' ∧ NewRow E ν ρ hp v w' x) := by
  unfold evBuildSlice
  refine sat_bind (sat_lift (Q := fun k => tk P t = some k) fun a h => h) fun k hk => ?_
  split
  · rename_i elem
    refine sat_bind (sat_lift (Q := fun k => tsize P elem = some k) fun a h => h) fun sz hs => ?_
    refine sat_bind (sat_lift (Q := fun z => zeroCells P elem = some z) fun a h => h) fun z hz => ?_
    refine sat_bind (sat_lift (Q := fun ts => kindsOf z = some ts) fun a h => h) fun ts hts => ?_
    refine sat_bind (sat_lift (Q := fun cs => fillC (fun i => some (i * sz, sz)) (List.replicate len z).flatten ps = some cs) fun a h => h) fun cs hcs => ?_
    refine sat_bind (sat_lift (Q := fun r => rowLits ts 0 (cs.map some) = some r) fun a h => h) fun r hr => ?_
    refine sat_ite (fun hc => ?_) (fun _ => sat_fail)
    simp only [Bool.and_eq_true] at hc
    obtain ⟨⟨⟨c1, c2⟩, c3⟩, hlt⟩ := hc
    have c1 := Nat.eq_of_beq_eq_true c1
    have c2 : 0 < sz := Nat.le_of_ble_eq_true c2
    have c3 := Nat.le_of_ble_eq_true c3
    refine sat_bind (sat_emit (Q := fun q => q.cells ν = nrmZ r.1 (r.2.map (A.den ν))) fun q h => A.cells_of_den h) fun q hq => sat_pure fun ρ w hw => ?_
    obtain ⟨i, zv, hi, hzv, hzg, hzc⟩ := zeroCells_spec (ν := ν) hz
    have htl := kindsOf_len hts
    have hzs : zv.cells.size = sz := by rw [← Array.length_toList, hzc ρ, List.length_map, c1]
    have hinit : ((Array.range (len * sz)).map (zv.cells[· % zv.cells.size]!)).toList = (List.replicate len z).flatten.map (Lf.conc ν ρ) := by
      apply List.ext_getElem?
      intro j
      rw [Array.getElem?_toList, Array.getElem?_map, List.getElem?_map, Array.getElem?_range]
      by_cases hj : j < len * sz
      · obtain ⟨zx, hzj⟩ : ∃ zx, z[j % z.length]? = some zx := ⟨_, List.getElem?_eq_getElem (Nat.mod_lt _ (by omega))⟩
        rw [if_pos hj, flatten_rep_get z (by omega) _ _ (by rw [← c1]; exact hj), hzj]
        have : zv.cells.toList[j % z.length]? = some (zx.conc ν ρ) := by rw [hzc ρ, List.getElem?_map, hzj]; rfl
        rw [Array.getElem?_toList] at this
        simp only [Option.map_some, Option.some.injEq]
        rw [hzs, c1, Array.getElem!_eq_getD, Array.getD_eq_getD_getElem?, this]
        rfl
      · rw [if_neg hj, List.getElem?_eq_none (by rw [flatten_rep_len, ← c1]; omega)]
        rfl
    obtain ⟨B, hB, hB2⟩ := fillC_spec (ν := ν) (ρ := ρ) (place' := fun i => some (i * sz, sz)) (fun i => rfl) ps _ cs _ hinit hcs
    obtain ⟨l1, l2, l3⟩ := rowLits_spec (E := E) (ν := ν) hr
    have hfl : ∀ (ps : List (Nat × V1)) (cs r : List Lf), fillC (fun i => some (i * sz, sz)) cs ps = some r → r.length = cs.length := by
      intro ps
      induction ps with
      | nil => intro cs r h; simp [fillC] at h; rw [h]
      | cons p ps ih =>
        intro cs r h
        simp only [fillC] at h
        split at h
        · rw [ih _ _ h]
          have : ∀ (l cs : List Lf) (o : Nat), (overwrite cs o l).length = cs.length := fun l => by
            induction l with
            | nil => intro cs o; rfl
            | cons c l ih => intro cs o; rw [overwrite, ih]; simp
          exact this _ _ _
        · cases h
    have hcl : cs.length = len * sz := by rw [hfl _ _ _ hcs, flatten_rep_len, c1]
    have hql : (q.cells ν).length = len * sz := by rw [hq, nrmZ_len (by simp [l1, l2]), List.length_map, l2, List.length_map, hcl]
    have hBs : B.size = len * sz := by rw [← Array.length_toList, hB2, List.length_map, hcl]
    have hrun : (Instr.buildSlice t len (ps.map fun p => (p.1, p.2.conc ν ρ)).toArray).run P w = .ok (.slice (some ⟨w.heap.size, 0, none⟩) len len) (w.alloc (.cells B elem)) := by
      have c3' : ¬ (16777216 < len * sz) := by omega
      by_cases h0 : len * sz = 0
      · have hB' : Instr.fill (fun i => some (i * sz, sz)) #[] (ps.map fun p => (p.1, p.2.conc ν ρ)) = some B := by
          have e : ((Array.range (len * sz)).map (zv.cells[· % zv.cells.size]!)) = #[] := by rw [h0]; simp
          rw [e] at hB
          exact hB
        simp [Instr.buildSlice, run_underlying (tk_slice hk), run_size hs, h0, hB', newRow, Array.range_zero']
      · simp [Instr.buildSlice, run_underlying (tk_slice hk), run_size hs, h0, c3', zeroValue, typeInfo, hi, hzv, hB, newRow]
    generalize hob : (.cells B elem : Obj) = ob at *
    have hbel : Below w.heap.size w (w.alloc ob) := ⟨rfl, rfl, rfl, by simp, fun k hk => Below.heap_alloc w _ _ hk⟩
    have hnew : ∀ j, (w.alloc ob).cell? ⟨w.heap.size, j, none⟩ = B[j]? := fun j => by
      rw [← hob]
      exact World.cell?_alloc_new w _ _ j
    have hfrz : ∀ j, (w.alloc ob).frozen? ⟨w.heap.size, j, none⟩ = false := fun j => by
      rw [← hob]
      exact World.frozen?_alloc_new w _ _ j
    have hst : sz = ts.length := by omega
    refine ⟨_, _, hrun, NewRow.mk (r := ⟨w.heap.size, 0, false, len, len⟩) rfl rfl ?_⟩
    refine hw.fresh (w' := w.alloc ob) (bk := .v true ts q) hlt hbel (⟨fun e => (by cases e), fun _ => by simp, by omega, by rw [hql, hst], Nat.le_refl _, fun j hj => ?_, fun _ _ j hj => ?_⟩ : VRel E (w.alloc ob) ⟨w.heap.size, 0, false, len, len⟩ true ts (q.cells ν)) (.inr (Nat.le_refl _))
    · rw [hql] at hj
      obtain ⟨x, k1, _, _, k4⟩ := l3 j (by simpa [hcl] using hj)
      have k4 := k4 ρ
      rw [Nat.zero_add, ← hq] at k4
      refine ⟨x.conc ν ρ, ?_, k4⟩
      show (w.alloc ob).cell? ⟨w.heap.size, 0 + j, none⟩ = _
      rw [Nat.zero_add, hnew, ← Array.getElem?_toList, hB2, List.getElem?_map]
      rw [nth_map_some] at k1
      rw [k1]
      rfl
    · have hj : j < len * ts.length := hj
      show ((w.alloc ob).cell? ⟨w.heap.size, 0 + j, none⟩).isSome = true ∧ (w.alloc ob).frozen? ⟨w.heap.size, 0 + j, none⟩ = false
      rw [Nat.zero_add, hnew, Array.getElem?_eq_getElem (by rw [hBs, hst]; exact hj)]
      exact ⟨rfl, hfrz j⟩
  · exact sat_fail

theorem isNil_spec {x : Lf} (h : x.isNil = true) : x = .v (.slice none 0 0) := by
  unfold Lf.isNil at h
  split at h
  · rfl
  · cases h
theorem matCells_sat {w : World} : ∀ (lt : List LT) (cs : List Lf) (hp : List (Option Blk)), M.sat F ν (matCells lt cs hp) (fun q => ∀ ρ, HS E ν ρ hp w → hpLt hp = true → (cs.all (Lf.lt hp.length) = true) → (∀ x ∈ cs, x.good ν) →
    hpLt q.2 = true ∧ q.1.all (Lf.lt q.2.length) = true ∧ (∀ x ∈ q.1, x.good ν) ∧ hp.length ≤ q.2.length ∧ ∃ ρ' : Nat → Loc, (∀ j, j < hp.length → ρ' j = ρ j) ∧ HS E ν ρ' q.2 w ∧ q.1.map (Lf.conc ν ρ') = cs.map (Lf.conc ν ρ)) := by
  intro lt cs
  induction cs generalizing lt with
  | nil =>
    intro hp
    have e : matCells lt [] hp = pure ([], hp) := by cases lt <;> rfl
    rw [e]
    exact sat_pure fun ρ hw hlt _ _ => ⟨hlt, rfl, fun x hx => (by cases hx), Nat.le_refl _, ρ, fun _ _ => rfl, hw, rfl⟩
  | cons x l ih =>
    intro hp
    -- a cell that stays
    have keep : ∀ (lt' : List LT), M.sat F ν (do let r ← matCells lt' l hp; pure (x :: r.1, r.2)) (fun q => ∀ ρ, HS E ν ρ hp w → hpLt hp = true → ((x :: l).all (Lf.lt hp.length) = true) → (∀ y ∈ x :: l, Lf.good ν y) →
        hpLt q.2 = true ∧ q.1.all (Lf.lt q.2.length) = true ∧ (∀ x ∈ q.1, Lf.good ν x) ∧ hp.length ≤ q.2.length ∧ ∃ ρ' : Nat → Loc, (∀ j, j < hp.length → ρ' j = ρ j) ∧ HS E ν ρ' q.2 w ∧ q.1.map (Lf.conc ν ρ') = (x :: l).map (Lf.conc ν ρ)) := fun lt' => by
      refine sat_bind (ih lt' hp) fun r hr => sat_pure fun ρ hw hlt hcs hg => ?_
      simp only [List.all_cons, Bool.and_eq_true] at hcs
      obtain ⟨h1, h2, h3, h4, ρ', h5, h6, h7⟩ := hr ρ hw hlt hcs.2 (fun y hy => hg y (List.mem_cons_of_mem _ hy))
      refine ⟨h1, ?_, fun y hy => ?_, h4, ρ', h5, h6, ?_⟩
      · simp only [List.all_cons, Bool.and_eq_true]
        exact ⟨Lf.lt_mono h4 hcs.1, h2⟩
      · rcases List.mem_cons.1 hy with rfl | hy
        · exact hg _ (by simp)
        · exact h3 y hy
      · simp only [List.map_cons]
        rw [h7, Lf.conc_keep h5 hcs.1]
    cases lt with
    | nil => exact sat_pure fun ρ hw hlt hcs hg => ⟨hlt, hcs, hg, Nat.le_refl _, ρ, fun _ _ => rfl, hw, rfl⟩
    | cons t lt' =>
      cases t with
      | int k => exact keep lt'
      | bool => exact keep lt'
      | vec ts =>
        simp only [matCells]
        refine sat_ite (fun hc => ?_) (fun _ => keep lt')
        simp only [Bool.and_eq_true] at hc
        have hx := isNil_spec hc.1
        have hpos : 0 < ts.length := Nat.le_of_ble_eq_true hc.2
        refine sat_bind (sat_emit (Q := fun q => q.cells ν = []) fun q h => A.cells_of_den h) fun q hq => sat_bind (ih lt' (hp ++ [some (.v true ts q)])) fun r hr => sat_pure fun ρ hw hlt hcs hg => ?_
        simp only [List.all_cons, Bool.and_eq_true] at hcs
        have hw1 := hw.fresh (w' := w) (bk := .v true ts q) (r := ⟨0, 0, true, 0, 0⟩) hlt (Below.refl _ w)
          (⟨fun _ => ⟨rfl, rfl⟩, fun e => (by cases e), hpos, by rw [hq]; simp, Nat.le_refl _, fun j hj => by rw [hq] at hj; simp at hj, fun _ e => (by cases e)⟩ : VRel E w ⟨0, 0, true, 0, 0⟩ true ts (q.cells ν)) (.inl rfl)
        have hlt1 : hpLt (hp ++ [some (.v true ts q)]) = true := by
          unfold hpLt at hlt ⊢
          rw [List.all_append, Bool.and_eq_true, List.length_append]
          refine ⟨List.all_eq_true.2 fun y hy => ?_, rfl⟩
          have := List.all_eq_true.1 hlt y hy
          cases y with
          | none => rfl
          | some b => exact Blk.lt_mono (Nat.le_add_right _ _) this
        have hcs1 : l.all (Lf.lt (hp ++ [some (Blk.v true ts q)]).length) = true := by
          refine List.all_eq_true.2 fun y hy => Lf.lt_mono (by simp) (List.all_eq_true.1 hcs.2 y hy)
        obtain ⟨h1, h2, h3, h4, ρ', h5, h6, h7⟩ := hr _ hw1 hlt1 hcs1 (fun y hy => hg y (List.mem_cons_of_mem _ hy))
        rw [List.length_append] at h4 h5
        simp only [List.length_cons, List.length_nil] at h4 h5
        refine ⟨h1, ?_, fun y hy => ?_, by show hp.length ≤ r.2.length; omega, ρ', fun j hj => by rw [h5 j (by omega), ext_lt hj], h6, ?_⟩
        · simp only [List.all_cons, Bool.and_eq_true, Lf.lt, decide_eq_true_eq]
          exact ⟨by omega, h2⟩
        · rcases List.mem_cons.1 hy with rfl | hy
          · trivial
          · exact h3 y hy
        · simp only [List.map_cons, h7]
          rw [hx]
          simp only [Lf.conc]
          rw [h5 _ (by omega), ext_same]
          congr 1
          exact List.map_congr_left fun y hy => Lf.conc_keep (fun j hj => ext_lt hj) (List.all_eq_true.1 hcs.2 y hy)
end
end Go.Sx

namespace Go.Sx
open Go.RowKit
section
variable {P : Program} {F : FEnv} {ν : Nat → DV}

theorem three_lookup (n : String) (hg : Extern.allGenericRows.lookup n = none) (ht : Extern.allTypedRows.lookup n = none) {fn : Func} (hn : fn.name = n) {e : Array Value → Sem Value} (hr : Extern.allRows.lookup n = some e) : Extern.find fn = some e := by
  unfold Extern.find
  simp only [hn, hg, ht, hr]
  rfl
theorem next_none (n : String) (h : Extern.allNextRows.lookup n = none) (h0 : Extern.allNextRows.lookup "" = none) {fn : Func} (hn : fn.name = n) (ho : fn.origin = "") : Extern.findNext fn = none := by
  unfold Extern.findNext
  simp only [hn, ho, h, h0]
  rfl
def addRow : Array Value → Sem Value := fun args => do
  let (x, y, c) ← Extern.MathBitsCarry.three "Add64" args
  pure (Extern.MathBitsCarry.pair ((x + y + c) % Extern.MathBitsCarry.m64) ((x + y + c) / Extern.MathBitsCarry.m64))
def subRow : Array Value → Sem Value := fun args => do
  let (x, y, b) ← Extern.MathBitsCarry.three "Sub64" args
  pure (Extern.MathBitsCarry.pair ((x + Extern.MathBitsCarry.m64 - y - b) % Extern.MathBitsCarry.m64) (if x < y + b then 1 else 0))
theorem three_run (n : String) (x y c : Nat) (hc : ¬ c > 1) (w : World) : (Extern.MathBitsCarry.three n #[.int .u64 x, .int .u64 y, .int .u64 c]).run P w = .ok (x, y, c) w := by
  have : Extern.MathBitsCarry.three n #[.int .u64 x, .int .u64 y, .int .u64 c] = (do
    let c0 ← asInt (.int .u64 (c : Int))
    if c0.toNat > 1 then unsupported (.noEntry ("extern/math/bits." ++ n ++ ": a carry that is neither 0 nor 1"))
    let x0 ← asInt (.int .u64 (x : Int))
    let y0 ← asInt (.int .u64 (y : Int))
    pure (x0.toNat, y0.toNat, c0.toNat)) := rfl
  have h : ∀ x : Nat, asInt (.int .u64 (x : Int)) = pure (x : Int) := fun _ => rfl
  rw [this]
  simp only [h, pure_bind, Int.toNat_natCast, if_neg hc]
  rfl
theorem find_add64 {fn : Func} (hn : fn.name = "math/bits.Add64") : Extern.find fn = some addRow :=
  three_lookup "math/bits.Add64" (by kernel_rfl) (by kernel_rfl) hn (by kernel_rfl)
theorem find_sub64 {fn : Func} (hn : fn.name = "math/bits.Sub64") : Extern.find fn = some subRow :=
  three_lookup "math/bits.Sub64" (by kernel_rfl) (by kernel_rfl) hn (by kernel_rfl)
theorem next_add64 {fn : Func} (hn : fn.name = "math/bits.Add64") (ho : fn.origin = "") : Extern.findNext fn = none :=
  next_none "math/bits.Add64" (by kernel_rfl) (by kernel_rfl) hn ho
theorem next_sub64 {fn : Func} (hn : fn.name = "math/bits.Sub64") (ho : fn.origin = "") : Extern.findNext fn = none :=
  next_none "math/bits.Sub64" (by kernel_rfl) (by kernel_rfl) hn ho

theorem bodyless_spec {f : FuncId} {add : Bool} (h : bodyless P f = some add) : ∃ fn, P.funcs[f]? = some fn ∧ fn.body.isNone = true ∧ fn.origin = "" ∧ fn.name = bif add then "math/bits.Add64" else "math/bits.Sub64" := by
  unfold bodyless at h
  split at h
  · rename_i fn hf
    split at h
    · rename_i hb
      simp only [Bool.and_eq_true, beq_iff_eq] at hb
      refine ⟨fn, hf, hb.1, hb.2, ?_⟩
      split at h
      · rename_i hn; cases h; simpa using hn
      · split at h
        · rename_i hn; cases h; simpa using hn
        · cases h
    · cases h
  · cases h

theorem wrapU (n : Int) : IntKind.wrap .u64 n = n % 18446744073709551616 := by simp [IntKind.wrap, IntKind.signed, IntKind.bits]

theorem oweU_sat {a : A} : M.sat F ν (oweU a) (fun _ => 0 ≤ a.int ν ∧ a.int ν < 18446744073709551616) := by
  unfold oweU
  refine sat_bind (sat_emit (Q := fun r => r.bool ν = decide (a.int ν ≥ 0)) fun r h => A.bool_of_den h) fun q hq => ?_
  refine sat_bind (sat_owe (Q := fun _ => 0 ≤ a.int ν) fun h => by rw [hq] at h; simpa using h) fun _ h0 => ?_
  refine sat_bind (sat_emit (Q := fun r => r.bool ν = decide (a.int ν < 18446744073709551616)) fun r h => A.bool_of_den h) fun q hq => ?_
  exact sat_owe fun h => ⟨h0, by rw [hq] at h; simpa using h⟩

theorem evCarry_sat {add : Bool} {a b q : A} : M.sat F ν (evCarry add a b q) (fun z => ∃ s k : A, z = .val (.t [.one (.i .u64 s), .one (.i .u64 k)]) ∧
    ∀ f, bodyless P f = some add → ∀ w, (callFunc f #[.int .u64 (a.int ν), .int .u64 (b.int ν), .int .u64 (q.int ν)]).run P w = .ok (.value (.tuple #[.int .u64 (s.int ν), .int .u64 (k.int ν)])) w) := by
  unfold evCarry
  refine sat_bind oweU_sat fun _ ha => sat_bind oweU_sat fun _ hb => ?_
  refine sat_bind (sat_emit (Q := fun r => r.bool ν = decide (q.int ν ≥ 0)) fun r h => A.bool_of_den h) fun x hx => ?_
  refine sat_bind (sat_owe (Q := fun _ => 0 ≤ q.int ν) fun h => by rw [hx] at h; simpa using h) fun _ hq0 => ?_
  refine sat_bind (sat_emit (Q := fun r => r.bool ν = decide (q.int ν < 2)) fun r h => A.bool_of_den h) fun x hx => ?_
  refine sat_bind (sat_owe (Q := fun _ => q.int ν < 2) fun h => by rw [hx] at h; simpa using h) fun _ hq1 => ?_
  refine sat_bind (sat_emit (Q := fun r => r.bool ν = (q.int ν == 1)) fun r h => A.bool_of_den h) fun one hone => ?_
  refine sat_bind (sat_emit (Q := fun r => r.int ν = IntKind.wrap .u64 (if add then a.int ν + b.int ν else a.int ν - b.int ν)) fun r h => by cases add <;> exact A.int_of_den h) fun s1 hs1 => ?_
  refine sat_bind (sat_emit (Q := fun r => r.int ν = IntKind.wrap .u64 (if add then s1.int ν + q.int ν else s1.int ν - q.int ν)) fun r h => by cases add <;> exact A.int_of_den h) fun s hs => ?_
  refine sat_bind (sat_emit (Q := fun r => r.bool ν = (if add then decide (s.int ν < a.int ν) else decide (a.int ν < b.int ν))) fun r h => by cases add <;> exact A.bool_of_den h) fun low hlow => ?_
  refine sat_bind (sat_emit (Q := fun r => r.bool ν = (if add then s.int ν == a.int ν else a.int ν == b.int ν)) fun r h => by cases add <;> exact A.bool_of_den h) fun same hsame => ?_
  refine sat_bind (sat_emit (Q := fun r => r.bool ν = (one.bool ν && same.bool ν)) fun r h => A.bool_of_den h) fun both hboth => ?_
  refine sat_bind (sat_emit (Q := fun r => r.bool ν = (low.bool ν || both.bool ν)) fun r h => A.bool_of_den h) fun c hc => ?_
  refine sat_bind (sat_emit (Q := fun r => r.int ν = bif c.bool ν then 1 else 0) fun r h => A.int_of_den h) fun k hk => sat_pure ⟨s, k, rfl, fun f hf w => ?_⟩
  obtain ⟨fn, h1, h2, h3, h4⟩ := bodyless_spec hf
  generalize a.int ν = x at *
  generalize b.int ν = y at *
  generalize q.int ν = z at *
  generalize s.int ν = s at *
  generalize k.int ν = k at *
  generalize s1.int ν = s1 at *
  obtain ⟨X, rfl⟩ := Int.eq_ofNat_of_zero_le ha.1
  obtain ⟨Y, rfl⟩ := Int.eq_ofNat_of_zero_le hb.1
  obtain ⟨Z, rfl⟩ := Int.eq_ofNat_of_zero_le hq0
  have hZ : ¬ Z > 1 := by omega
  rw [hc, hlow, hboth, hone, hsame] at hk
  cases add
  · simp only [cond_false] at h4
    rw [run_callFunc_extern h1 (by rw [h4]; rfl) h2 (next_sub64 h4 h3) (find_sub64 h4)]
    simp only [Bool.false_eq_true, if_false] at hs1 hs hk
    rw [wrapU] at hs1 hs
    unfold subRow
    rw [Sem.run_bind, three_run _ _ _ _ hZ]
    have e1 : s = ((X + 2 ^ 64 - Y - Z : Nat) : Int) % 18446744073709551616 := by omega
    have e2 : k = ((if X < Y + Z then 1 else 0 : Nat) : Int) := by
      rw [hk, Bool.cond_eq_ite]
      simp only [Bool.or_eq_true, decide_eq_true_eq, Bool.and_eq_true, beq_iff_eq]
      split <;> split <;> omega
    simp [e1, e2, Extern.MathBitsCarry.pair, Extern.MathBitsCarry.m64]
  · simp only [cond_true] at h4
    rw [run_callFunc_extern h1 (by rw [h4]; rfl) h2 (next_add64 h4 h3) (find_add64 h4)]
    simp only [if_true] at hs1 hs hk
    rw [wrapU] at hs1 hs
    unfold addRow
    rw [Sem.run_bind, three_run _ _ _ _ hZ]
    have e1 : s = ((X + Y + Z : Nat) : Int) % 18446744073709551616 := by omega
    have e2 : k = (((X + Y + Z) / 18446744073709551616 : Nat) : Int) := by
      rw [hk, Bool.cond_eq_ite]
      simp only [Bool.or_eq_true, decide_eq_true_eq, Bool.and_eq_true, beq_iff_eq]
      split <;> omega
    simp [e1, e2, Extern.MathBitsCarry.pair, Extern.MathBitsCarry.m64]
end
end Go.Sx

namespace Go.Sx
open Go.RowKit
section
variable {P : Program} {I : World → Prop} {S : Sigs} {F : FEnv} {E : Env} {ν : Nat → DV}

theorem Off.plus_spec (o : Off) (k : Nat) : (o.plus k).val ν = o.val ν + k ∧ (o.good ν → (o.plus k).good ν) := by
  cases o with
  | c n => exact ⟨rfl, id⟩
  | s b ix sz len => exact ⟨by simp [Off.plus, Off.val]; omega, id⟩
  | v b ix sz a => exact ⟨by simp [Off.plus, Off.val]; omega, id⟩
  | d b ix sz len ix2 sz2 len2 => exact ⟨by simp [Off.plus, Off.val]; omega, id⟩

theorem boundsOk_sat {ix : A} {len : Nat} : M.sat F ν (boundsOk ix len) (fun _ => 0 ≤ ix.int ν ∧ ix.int ν < len) := by
  unfold boundsOk
  refine sat_bind (sat_emit (Q := fun r => r.bool ν = decide (ix.int ν ≥ 0)) fun r h => A.bool_of_den h) fun r hr => ?_
  refine sat_bind (sat_owe (Q := fun _ => 0 ≤ ix.int ν) fun h => by rw [hr] at h; simpa using h) fun _ h0 => ?_
  refine sat_bind (sat_emit (Q := fun r => r.bool ν = decide (ix.int ν < (len : Int))) fun r h => A.bool_of_den h) fun r hr => ?_
  exact sat_owe fun h => by rw [hr] at h; exact ⟨h0, by simpa using h⟩

theorem evIndexAddr_sat {t : TypeId} {x ix : Lf} (hx : x.good ν) : M.sat F ν (evIndexAddr P t x ix) (fun l => l.good ν ∧ ∀ (ρ : Nat → Loc) (w : World),
    (Instr.indexAt t (x.conc ν ρ) (ix.conc ν ρ)).run P w = .ok (l.conc ν ρ) w) := by
  unfold evIndexAddr
  refine sat_bind (sat_lift (Q := fun k => tk P t = some k) fun a h => h) fun k hk => ?_
  split
  · rename_i len elem blk off ki a
    have hu := tk_arr hk
    refine sat_bind (sat_lift (Q := fun k => tsize P elem = some k) fun a h => h) fun sz hs => ?_
    have run : ∀ (ρ : Nat → Loc) (w : World), 0 ≤ a.int ν → a.int ν < len →
        (Instr.indexAt t ((Lf.p blk off).conc ν ρ) ((Lf.i ki a).conc ν ρ)).run P w = .ok (.pointer (some ⟨(ρ blk).blk, (ρ blk).off + off.val ν + (a.int ν).toNat * sz, none⟩)) w := fun ρ w h0 h1 => by
      simp [Instr.indexAt, asIntOf, Lf.conc, run_underlying hu, Instr.sureAddr, h0, h1, run_size hs, addr_add]
    split
    · rename_i n
      refine sat_ite (fun h => ?_) (fun _ => sat_fail)
      refine sat_pure ⟨(Off.plus_spec off _).2 hx, fun ρ w => ?_⟩
      rw [run ρ w h.1 h.2]
      simp [Lf.conc, (Off.plus_spec (ν := ν) off _).1, Nat.add_assoc]
    · split
      · rename_i o
        refine sat_bind boundsOk_sat fun _ hb => sat_pure ⟨hb, fun ρ w => ?_⟩
        rw [run ρ w hb.1 hb.2]
        simp [Lf.conc, Off.val, Nat.add_assoc]
      · rename_i o ix0 sz0 len0
        refine sat_bind boundsOk_sat fun _ hb => sat_pure ⟨⟨hx, hb⟩, fun ρ w => ?_⟩
        rw [run ρ w hb.1 hb.2]
        simp [Lf.conc, Off.val, Nat.add_assoc]
      · exact sat_fail
  · rename_i len elem g off ki a
    have hu := tk_arr hk
    refine sat_bind (sat_lift (Q := fun k => tsize P elem = some k) fun a h => h) fun sz hs => ?_
    have run : ∀ (ρ : Nat → Loc) (w : World), 0 ≤ a.int ν → a.int ν < len →
        (Instr.indexAt t ((Lf.gp g off).conc ν ρ) ((Lf.i ki a).conc ν ρ)).run P w = .ok (.pointer (some ⟨g, off.val ν + (a.int ν).toNat * sz, none⟩)) w := fun ρ w h0 h1 => by
      simp [Instr.indexAt, asIntOf, Lf.conc, run_underlying hu, Instr.sureAddr, h0, h1, run_size hs, addr_add]
    split
    · rename_i n
      refine sat_ite (fun h => ?_) (fun _ => sat_fail)
      refine sat_pure ⟨(Off.plus_spec off _).2 hx, fun ρ w => ?_⟩
      rw [run ρ w h.1 h.2]
      simp [Lf.conc, (Off.plus_spec (ν := ν) off _).1]
    · split
      · rename_i o
        refine sat_bind boundsOk_sat fun _ hb => sat_pure ⟨hb, fun ρ w => ?_⟩
        rw [run ρ w hb.1 hb.2]
        simp [Lf.conc, Off.val]
      · exact sat_fail
  · exact sat_fail

theorem evIndex_sat {t : TypeId} {x : List Lf} {ix : Lf} (hx : ∀ l ∈ x, Lf.good ν l) : M.sat F ν (evIndex P t x ix) (fun v => v.good ν ∧ ∀ (ρ : Nat → Loc) (w : World),
    (Instr.index t (.agg (x.map (Lf.conc ν ρ)).toArray) (ix.conc ν ρ)).run P w = .ok (v.conc ν ρ) w) := by
  unfold evIndex
  refine sat_bind (sat_lift (Q := fun k => tk P t = some k) fun a h => h) fun k hk => ?_
  split
  · rename_i len elem ki a
    have hu := tk_arr hk
    refine sat_bind (sat_lift (Q := fun k => tk P elem = some k) fun a h => h) fun ke hke => ?_
    refine sat_bind (sat_lift (Q := fun k => tsize P elem = some k) fun a h => h) fun sz hs => ?_
    have run : ∀ (ρ : Nat → Loc) (w : World), 0 ≤ a.int ν → a.int ν < len →
        (Instr.index t (.agg (x.map (Lf.conc ν ρ)).toArray) ((Lf.i ki a).conc ν ρ)).run P w = (part elem (x.map (Lf.conc ν ρ)).toArray ((a.int ν).toNat * sz)).run P w := fun ρ w h0 h1 => by
      simp [Instr.index, asIntOf, Lf.conc, run_underlying hu, h0, h1, run_size hs]
    split
    · rename_i n
      refine sat_ite (fun h => ?_) (fun _ => sat_fail)
      refine sat_mono (partOf_sat hx) fun v hv => ⟨hv.1, fun ρ w => ?_⟩
      rw [run ρ w h.1 h.2]
      exact hv.2 ρ w
    · refine sat_bind boundsOk_sat fun _ hb => ?_
      refine sat_ite (fun ha => ?_) (fun ha => ?_)
      · refine sat_bind (selAgg_sat hb.1 hb.2 sz 0) fun xs hxs => sat_pure ⟨V1.good_agg.2 hxs.2.1, fun ρ w => ?_⟩
        rw [run ρ w hb.1 hb.2]
        simp only [part, Sem.run_bind, run_isAgg hke, ha, Result.andThen_ok, if_true, run_size hs, Sem.run_pure, V1.conc]
        congr 2
        apply Array.ext'
        rw [Array.toList_extract, List.extract_eq_take_drop]
        apply List.ext_getElem?
        intro j
        rw [List.getElem?_take]
        by_cases hj : j < sz
        · obtain ⟨u, y, h1, h2, h3⟩ := hxs.2.2 ρ j hj
          rw [nth_map_some] at h2
          rw [if_pos (by omega), List.getElem?_drop]
          simp only [List.getElem?_map, h1, Option.map_some]
          rw [show (A.int ν a).toNat * sz + j = 0 + j + (A.int ν a).toNat * sz from by omega, h2]
          simp [h3]
        · rw [if_neg (by omega)]
          simp only [List.getElem?_map]
          rw [List.getElem?_eq_none (by have := hxs.1; omega)]
          rfl
      · refine sat_bind (sat_lift (Q := fun row => rowCells (x.map some) 0 sz len = some row) fun a h => h) fun row hrow => ?_
        obtain ⟨h1, h2⟩ := rowCells_spec hrow
        refine sat_bind (selLeaf_sat h1 hb.1 hb.2) fun u hu' => sat_pure ⟨V1.good_one.2 hu'.1, fun ρ w => ?_⟩
        rw [run ρ w hb.1 hb.2]
        obtain ⟨y, hy, he⟩ := hu'.2 ρ
        rw [← h2 _ (by have := hb.1; have := hb.2; omega), nth_map_some, Nat.zero_add] at hy
        simp [part, run_isAgg hke, ha, hy, V1.conc, he]
  · exact sat_fail

theorem evField_sat {t : TypeId} {x : List Lf} {f : Nat} (hx : ∀ l ∈ x, Lf.good ν l) : M.sat F ν (evField P t x f) (fun v => v.good ν ∧ ∀ (ρ : Nat → Loc) (w : World),
    (Instr.field t (.agg (x.map (Lf.conc ν ρ)).toArray) f).run P w = .ok (v.conc ν ρ) w) := by
  unfold evField
  refine sat_bind (sat_lift (Q := fun k => tk P t = some k) fun a h => h) fun k hk => ?_
  split
  · rename_i fs
    obtain ⟨fl, hu, hfs⟩ := tk_struct hk
    refine sat_bind (sat_lift (Q := fun fd => fs[f]? = some fd) fun a h => h) fun fd hfd => ?_
    subst hfs
    rw [List.getElem?_map] at hfd
    obtain ⟨g, hg, rfl⟩ := Option.map_eq_some_iff.1 hfd
    refine sat_mono (partOf_sat hx) fun v hv => ⟨hv.1, fun ρ w => ?_⟩
    have hg' : fl[f]? = some g := by simpa using hg
    simp only [Instr.field, Sem.run_bind, run_underlying hu, Result.andThen_ok, hg', asAgg, Sem.run_pure]
    exact hv.2 ρ w
  · exact sat_fail

theorem evFieldAddr_sat {t : TypeId} {x : Lf} {f : Nat} (hx : x.good ν) : M.sat F ν (evFieldAddr P t x f) (fun l => l.good ν ∧ ∀ (ρ : Nat → Loc) (w : World),
    (Instr.fieldAt t (x.conc ν ρ) f).run P w = .ok (l.conc ν ρ) w) := by
  unfold evFieldAddr
  refine sat_bind (sat_lift (Q := fun k => tk P t = some k) fun a h => h) fun k hk => ?_
  split
  · rename_i fs blk off
    obtain ⟨fl, hu, hfs⟩ := tk_struct hk
    refine sat_bind (sat_lift (Q := fun fd => fs[f]? = some fd) fun a h => h) fun fd hfd => ?_
    refine sat_bind (sat_lift (Q := fun k => tsize P fd.2 = some k) fun a h => h) fun sz hs => ?_
    refine sat_ite (fun _ => sat_fail) (fun hz => ?_)
    have hz' : sz ≠ 0 := fun h => hz (by subst h; rfl)
    subst hfs
    rw [List.getElem?_map] at hfd
    obtain ⟨g, hg, rfl⟩ := Option.map_eq_some_iff.1 hfd
    refine sat_pure ⟨(Off.plus_spec off _).2 hx, fun ρ w => ?_⟩
    have hg' : fl[f]? = some g := by simpa using hg
    simp [Instr.fieldAt, run_underlying hu, hg', Lf.conc, Instr.sureAddr, fieldPlace, run_size hs, hz', addr_add, (Off.plus_spec (ν := ν) off _).1, Nat.add_assoc]
  · rename_i fs gl off
    obtain ⟨fl, hu, hfs⟩ := tk_struct hk
    refine sat_bind (sat_lift (Q := fun fd => fs[f]? = some fd) fun a h => h) fun fd hfd => ?_
    refine sat_bind (sat_lift (Q := fun k => tsize P fd.2 = some k) fun a h => h) fun sz hs => ?_
    refine sat_ite (fun _ => sat_fail) (fun hz => ?_)
    have hz' : sz ≠ 0 := fun h => hz (by subst h; rfl)
    subst hfs
    rw [List.getElem?_map] at hfd
    obtain ⟨g, hg, rfl⟩ := Option.map_eq_some_iff.1 hfd
    refine sat_pure ⟨(Off.plus_spec off _).2 hx, fun ρ w => ?_⟩
    have hg' : fl[f]? = some g := by simpa using hg
    simp [Instr.fieldAt, run_underlying hu, hg', Lf.conc, Instr.sureAddr, fieldPlace, run_size hs, hz', addr_add, (Off.plus_spec (ν := ν) off _).1]
  · exact sat_fail

theorem rdAll_spec {ρ : Nat → Loc} {r : RS} {a : Act} {ctx : Ctx} (h : ARel ν ρ r a) (hc : CtxOk ctx a) : ∀ {xs : List Operand} {vs : List V}, rdAll r ctx xs = some vs → xs.map a.eval = vs.map (V.conc ν ρ)
  | [], vs, hv => by simp [rdAll] at hv; subst hv; rfl
  | x :: xs, vs, hv => by
    simp only [rdAll] at hv
    cases h1 : rd r ctx x with
    | none => simp [h1] at hv
    | some v =>
      simp only [h1] at hv
      cases h2 : rdAll r ctx xs with
      | none => simp [h2] at hv
      | some vs' =>
        simp only [h2, Option.some.injEq] at hv
        subst hv
        simp only [List.map_cons, (rd_spec h hc h1).2, rdAll_spec h hc h2]

theorem evPick_sat {r : RS} {ctx : Ctx} {c a b : Operand} : M.sat F ν (evPick r ctx c a b) (fun v => ∀ ρ act, ARel ν ρ r act → CtxOk ctx act →
    v.good ν ∧ ∃ t : Bool, act.eval c = .bool t ∧ (if t then act.eval a else act.eval b) = v.conc ν ρ) := by
  unfold evPick
  split
  · rename_i hc
    refine sat_lift fun v hv ρ act har hctx => ?_
    have h1 := (rd_spec har hctx hc).2
    have h2 := rd_spec har hctx hv
    exact ⟨h2.1, true, h1, h2.2⟩
  · rename_i hc
    refine sat_lift fun v hv ρ act har hctx => ?_
    have h1 := (rd_spec har hctx hc).2
    have h2 := rd_spec har hctx hv
    exact ⟨h2.1, false, h1, h2.2⟩
  · rename_i x _ _ hc
    refine sat_bind (sat_lift (Q := fun va => rd r (match c with | .tmp t => ((t, true) :: ctx, (t, false) :: ctx) | _ => (ctx, ctx)).1 a = some va) fun v h => h) fun va hva => ?_
    refine sat_bind (sat_lift (Q := fun vb => rd r (match c with | .tmp t => ((t, true) :: ctx, (t, false) :: ctx) | _ => (ctx, ctx)).2 b = some vb) fun v h => h) fun vb hvb => ?_
    refine sat_mono mergeOrFail_sat fun v hv ρ act har hctx => ?_
    have h1 := (rd_spec har hctx hc).2
    have h1' : act.eval c = .bool (x.bool ν) := h1
    have hsl : ∀ t, c = .tmp t → act.tmps[t]? = some (.bool (x.bool ν)) := by
      intro t ht
      subst ht
      exact (slot_spec har hctx (show r.slot ctx t = some _ from hc)).2
    cases hx : x.bool ν with
    | true =>
      have hca : CtxOk (match c with | .tmp t => ((t, true) :: ctx, (t, false) :: ctx) | _ => (ctx, ctx)).1 act := by
        split
        · intro p hp
          rcases List.mem_cons.1 hp with rfl | h
          · rw [hsl _ rfl, hx]
          · exact hctx p h
        · exact hctx
      have h2 := rd_spec har hca hva
      have h3 := hv.1 hx
      exact ⟨h3.2 h2.1, true, by rw [h1', hx], by simp only [if_true]; rw [h3.1 ρ]; exact h2.2⟩
    | false =>
      have hcb : CtxOk (match c with | .tmp t => ((t, true) :: ctx, (t, false) :: ctx) | _ => (ctx, ctx)).2 act := by
        split
        · intro p hp
          rcases List.mem_cons.1 hp with rfl | h
          · rw [hsl _ rfl, hx]
          · exact hctx p h
        · exact hctx
      have h2 := rd_spec har hcb hvb
      have h3 := hv.2 hx
      exact ⟨h3.2 h2.1, false, by rw [h1', hx], by simp only [Bool.false_eq_true, if_false]; rw [h3.1 ρ]; exact h2.2⟩
  · exact sat_fail

theorem Lf.conc_scalar {l : Lf} (h : l.scalar = true) (ρ ρ' : Nat → Loc) : l.conc ν ρ = l.conc ν ρ' := by
  cases l <;> first | rfl | cases h
theorem V1.conc_scalar {v : V1} (h : v.cells.all Lf.scalar = true) (ρ ρ' : Nat → Loc) : v.conc ν ρ = v.conc ν ρ' := by
  cases v with
  | one l => exact Lf.conc_scalar (by simpa [V1.cells] using h) ρ ρ'
  | agg l =>
    simp only [V1.conc]
    congr 2
    exact List.map_congr_left fun y hy => Lf.conc_scalar (List.all_eq_true.1 h y hy) ρ ρ'

theorem rdParts_spec {ρ : Nat → Loc} {r : RS} {a : Act} {ctx : Ctx} (h : ARel ν ρ r a) (hc : CtxOk ctx a) : ∀ {xs : List (Nat × Operand)} {vs : List (Nat × V1)}, rdParts r ctx xs = some vs →
    xs.map (fun p => (p.1, a.eval p.2)) = vs.map (fun p => (p.1, p.2.conc ν ρ)) ∧ ∀ p ∈ vs, p.2.good ν
  | [], vs, hv => by simp [rdParts] at hv; subst hv; exact ⟨rfl, fun p hp => by cases hp⟩
  | x :: xs, vs, hv => by
    simp only [rdParts] at hv
    split at hv
    · rename_i v h1
      split at hv
      · cases hv
      · rename_i vs' h2
        cases hv
        have e1 := rd_spec h hc h1
        have e2 := rdParts_spec h hc h2
        refine ⟨by simp only [List.map_cons, e2.1, e1.2]; rfl, fun p hp => ?_⟩
        rcases List.mem_cons.1 hp with rfl | hp
        · exact e1.1
        · exact e2.2 p hp
    · cases hv

theorem run_mapM_sizes {f : Field → Nat × TypeId} (hf : ∀ d, f d = (d.offset, d.type)) (w : World) : ∀ (l : List Field) (places : List (Nat × Nat)),
    allSome (fun f : Nat × TypeId => (tsize P f.2).map fun n => (f.1, n)) (l.map f) = some places →
    (l.mapM fun (d : Field) => (do pure (d.offset, ← sizeOf d.type) : Sem (Nat × Nat))).run P w = .ok places w
  | [], places, h => by simp [allSome] at h; subst h; simp
  | d :: l, places, h => by
    simp only [List.map_cons, allSome, hf] at h
    split at h
    · cases h
    · rename_i b hb
      split at h
      · cases h
      · rename_i r hr
        cases h
        obtain ⟨n, hn, rfl⟩ := Option.map_eq_some_iff.1 hb
        simp only [List.mapM_cons, Sem.run_bind, run_size hn, Result.andThen_ok, Sem.run_pure, run_mapM_sizes hf w l r hr]

theorem evBuild_spec {t : TypeId} {ps : List (Nat × V1)} {r : List Lf} (h : evBuild P t ps = some r) (hg : ∀ p ∈ ps, p.2.good ν) : (∀ x ∈ r, Lf.good ν x) ∧ ∀ (ρ : Nat → Loc) (w : World),
    (Instr.build t (ps.map fun p => (p.1, p.2.conc ν ρ)).toArray).run P w = .ok (.agg (r.map (Lf.conc ν ρ)).toArray) w := by
  unfold evBuild at h
  split at h
  · cases h
  · rename_i z hz
    unfold zeroCells at hz
    split at hz
    · cases hz
    · rename_i i hi
      split at hz
      · cases hz
      · rename_i zv hzv
        have hzs := ofLeaves_spec (ν := ν) hz
        have hzero : ∀ w, (zeroValue t).run P w = .ok zv w := fun w => by simp [zeroValue, typeInfo, hi, hzv]
        have hin : ∀ ρ, zv.cells.toList = z.map (Lf.conc ν ρ) := fun ρ => (hzs.2 ρ).symm
        split at h
        · rename_i fs hk
          obtain ⟨fl, hu, hfs⟩ := tk_struct hk
          split at h
          · cases h
          · rename_i places hpl
            refine ⟨fillC_good _ _ _ hzs.1 hg h, fun ρ w => ?_⟩
            obtain ⟨B, hB, hB2⟩ := fillC_spec (ν := ν) (ρ := ρ) (place' := fun i => places.toArray[i]?) (fun i => by simp) ps z r zv.cells (hin ρ) h
            subst hfs
            have hm := run_mapM_sizes (P := P) (fun _ => rfl) w fl.toList places hpl
            simp only [Instr.build, Sem.run_bind, hzero, Result.andThen_ok, run_underlying hu, Array.mapM_eq_mapM_toList, Sem.run_map, hm]
            rw [hB, ← hB2]
            rfl
        · rename_i len elem hk
          have hu := tk_arr hk
          split at h
          · cases h
          · rename_i sz hs
            refine ⟨fillC_good _ _ _ hzs.1 hg h, fun ρ w => ?_⟩
            obtain ⟨B, hB, hB2⟩ := fillC_spec (ν := ν) (ρ := ρ) (place' := fun i => some (i * sz, sz)) (fun i => rfl) ps z r zv.cells (hin ρ) h
            simp only [Instr.build, Sem.run_bind, hzero, Result.andThen_ok, run_underlying hu, run_size hs, Sem.run_pure, hB]
            rw [← hB2]
        · cases h

theorem rdAll_good {ρ : Nat → Loc} {r : RS} {a : Act} {ctx : Ctx} (h : ARel ν ρ r a) (hc : CtxOk ctx a) : ∀ {xs : List Operand} {vs : List V}, rdAll r ctx xs = some vs → ∀ v ∈ vs, V.good ν v
  | [], vs, hv => by simp [rdAll] at hv; subst hv; intro v hv; cases hv
  | x :: xs, vs, hv => by
    simp only [rdAll] at hv
    cases h1 : rd r ctx x with
    | none => simp [h1] at hv
    | some v =>
      simp only [h1] at hv
      cases h2 : rdAll r ctx xs with
      | none => simp [h2] at hv
      | some vs' =>
        simp only [h2, Option.some.injEq] at hv
        subst hv
        intro u hu
        rcases List.mem_cons.1 hu with rfl | hu
        · exact (rd_spec h hc h1).1
        · exact rdAll_good h hc h2 u hu

theorem evStore_sat {r : RS} {ctx : Ctx} {o : Oper} {t : TypeId} {x y : Operand} (hop : o.op = .store t x y) : M.sat F ν (evStore P r ctx t x y) (fun hp' => ∀ ρ a, ARel ν ρ r a → CtxOk ctx a →
  ∀ w, HS E ν ρ r.st.hp w → ∃ w', (execOp a.eval o).run P w = .ok .skip w' ∧ HS E ν ρ hp' w') := by
  unfold evStore
  refine sat_bind (sat_lift (Q := fun v => rd r ctx x = some v) fun a h => h) fun v hv => ?_
  refine sat_bind (sat_lift (Q := fun v => rd r ctx y = some v) fun a h => h) fun u hu => ?_
  split
  · rename_i b off v1
    refine sat_bind (sat_lift (Q := fun k => tsize P t = some k) fun a h => h) fun sz hs => ?_
    refine sat_bind (sat_lift (Q := fun bk => nth r.st.hp b = some bk) fun a h => h) fun bk hbk => ?_
    split
    · rename_i cs
      refine sat_ite (fun hcond => ?_) (fun _ => sat_fail)
      simp only [Bool.and_eq_true] at hcond
      obtain ⟨hlen, hok⟩ := hcond
      have hlen := Nat.eq_of_beq_eq_true hlen
      by_cases hg : off.good ν
      · refine sat_bind (storeCellsAt_desc hg) fun cs' hd => sat_pure fun ρ a ha hc w hw => ?_
        have h1 := rd_spec ha hc hv
        have h2 := rd_spec ha hc hu
        have hb0 : CBlk ν ρ w (ρ b) true cs := hw.heap.blk b _ hbk
        have hst := CBlk.store (P := P) hb0 hd h2.1 (by simpa using hok)
        have hcells : (a.eval y).cells.toList = v1.cells.map (Lf.conc ν ρ) := by
          rw [h2.2]
          cases v1 with
          | one l =>
            have h1 : (l.conc ν ρ).oneCell' = true := Lf.ok_conc (by simpa [V1.cells] using hok) ρ
            simp only [V.conc, V1.conc, V1.cells, cells_one h1, List.map_cons, List.map_nil]
          | agg l => simp [V.conc, V1.conc, V1.cells, Value.cells]
        have hsz : (a.eval y).cells.size = sz := by
          rw [← Array.length_toList, hcells]; simpa using hlen
        refine ⟨_, ?_, hw.upd (w' := w.setCells (ρ b).blk ((ρ b).off + off.val ν) (v1.cells.map (Lf.conc ν ρ))) hbk rfl rfl hst.2 hb0.nil (setCells_size _ _ _ _) (setCells_os _ _ _ _).1 (setCells_os _ _ _ _).2.1 (setCells_os _ _ _ _).2.2 (fun k hk => setCells_block _ _ _ _ k hk)⟩
        simp [execOp, hop, h1.2, V.conc, V1.conc, Lf.conc, Instr.storeAt, Instr.sureAddr, storeVar, run_size hs, hsz, hcells, hst.1]
      · refine sat_bind sat_true fun v _ => sat_pure fun ρ a ha hc => ?_
        exact absurd ((rd_spec ha hc hv).1 (.p b off) (by simp [V1.cells])) hg
    · rename_i ts q
      refine sat_ite (fun hcond => ?_) (fun _ => sat_fail)
      simp only [Bool.and_eq_true] at hcond
      obtain ⟨hlen, hpos⟩ := hcond
      have hlen := Nat.eq_of_beq_eq_true hlen
      have hpos : 0 < sz := Nat.le_of_ble_eq_true hpos
      have hne : v1.cells ≠ [] := fun e => by rw [e] at hlen; simp at hlen; omega
      by_cases hg : off.good ν
      · refine sat_bind (storeRow_sat (P := P) (E := E) hg hne) fun q' hd => sat_pure fun ρ a ha hc w hw => ?_
        have h1 := rd_spec ha hc hv
        have h2 := rd_spec ha hc hu
        have hb0 : VRel E w (ρ b) true ts (q.cells ν) := hw.heap.blk b _ hbk
        obtain ⟨d1, d2, d3, d4⟩ := hd ρ w (ρ b) hb0
        have hcells : (a.eval y).cells.toList = v1.cells.map (Lf.conc ν ρ) := by
          rw [h2.2, show (V.s v1).conc ν ρ = v1.conc ν ρ from rfl, V1.cells_conc (List.all_eq_true.2 d2) ρ]
        have hsz : (a.eval y).cells.size = sz := by
          rw [← Array.length_toList, hcells]; simpa using hlen
        refine ⟨_, ?_, hw.upd (w' := w.setCells (ρ b).blk ((ρ b).off + off.val ν) (v1.cells.map (Lf.conc ν ρ))) (nb := .v true ts q') hbk rfl rfl d4 d1 (setCells_size _ _ _ _) (setCells_os _ _ _ _).1 (setCells_os _ _ _ _).2.1 (setCells_os _ _ _ _).2.2 (fun k hk => setCells_block _ _ _ _ k hk)⟩
        simp [execOp, hop, h1.2, V.conc, V1.conc, Lf.conc, Instr.storeAt, Instr.sureAddr, storeVar, run_size hs, hsz, hcells, d3]
      · refine sat_bind sat_true fun v _ => sat_pure fun ρ a ha hc => ?_
        exact absurd ((rd_spec ha hc hv).1 (.p b off) (by simp [V1.cells])) hg
    · exact sat_fail
  · exact sat_fail

theorem evStore_at {r : RS} {ctx : Ctx} {t : TypeId} {x y : Operand} {b : Nat} {off : Off} (hx : rd r ctx x = some (.s (.one (.p b off)))) : M.sat F ν (evStore P r ctx t x y) (fun hp' => ∀ j, j ≠ b → nth hp' j = nth r.st.hp j) := by
  unfold evStore
  refine sat_bind (sat_lift (Q := fun v => rd r ctx x = some v) fun a h => h) fun v hv => ?_
  refine sat_bind sat_true fun u _ => ?_
  rw [hx] at hv
  cases hv
  split
  · rename_i b' off' v1 he
    cases he
    refine sat_bind sat_true fun sz _ => sat_bind sat_true fun bk _ => ?_
    split
    · exact sat_ite (fun _ => sat_bind sat_true fun _ _ => sat_pure fun j hj => nth_setNth_ne _ _ _ _ (Ne.symm hj)) (fun _ => sat_fail)
    · exact sat_ite (fun _ => sat_bind sat_true fun _ _ => sat_pure fun j hj => nth_setNth_ne _ _ _ _ (Ne.symm hj)) (fun _ => sat_fail)
    · exact sat_fail
  · exact sat_fail

theorem leafOpt_spec {ρ : Nat → Loc} {r : RS} {a : Act} {ctx : Ctx} (h : ARel ν ρ r a) (hc : CtxOk ctx a) {x : Option Operand} {l : Option Lf} (hl : leafOpt r ctx x = some l) : x.map a.eval = l.map (Lf.conc ν ρ) := by
  unfold leafOpt at hl
  split at hl
  · cases hl; rfl
  · split at hl
    · rename_i hrd
      cases hl
      simp only [Option.map_some]
      rw [(rd_spec h hc hrd).2]
      rfl
    · cases hl

theorem capOf_spec (ρ : Nat → Loc) : ∀ {vs : List V} {bs : List Nat}, allSome capOf vs = some bs → vs.map (V.conc ν ρ) = bs.map fun b => Value.pointer (some ⟨(ρ b).blk, (ρ b).off + 0, none⟩)
  | [], bs, h => by simp [allSome] at h; subst h; rfl
  | v :: l, bs, h => by
    simp only [allSome] at h
    cases hf : capOf v with
    | none => simp [hf] at h
    | some b =>
      simp only [hf] at h
      cases hr : allSome capOf l with
      | none => simp [hr] at h
      | some r =>
        simp only [hr, Option.some.injEq] at h
        subst h
        unfold capOf at hf
        split at hf
        · cases hf
          simp only [List.map_cons]
          rw [capOf_spec ρ hr]
          rfl
        · cases hf
theorem fnOf_spec {ρ : Nat → Loc} {r : RS} {a : Act} {ctx : Ctx} (h : ARel ν ρ r a) (hc : CtxOk ctx a) {x : Operand} {f : Nat} {bs : List Nat} (hf : fnOf (rd r ctx x) = some (f, bs)) :
    a.eval x = .func (.func f) #[] (capsConc ρ bs) := by
  unfold fnOf at hf
  split at hf
  · rename_i g u v hrd
    split at hf
    · rename_i hc2
      cases hf
      simp only [Bool.and_eq_true] at hc2
      rw [(rd_spec h hc hrd).2]
      simp only [V.conc, V1.conc, Lf.conc]
      rw [Array.eq_empty_of_size_eq_zero (Nat.eq_of_beq_eq_true hc2.1), Array.eq_empty_of_size_eq_zero (Nat.eq_of_beq_eq_true hc2.2)]
      rfl
    · cases hf
  · rename_i g u hrd
    cases hf
    exact (rd_spec h hc hrd).2
  · cases hf

theorem evOp_sat {K : Nat} (hS : SigsOK P I K S F) (hE : E.Ok K) {r : RS} {ctx : Ctx} {o : Oper} : M.sat F ν (evOp P S r ctx o.op) (fun res => ∀ ρ a, ARel ν ρ r a → CtxOk ctx a →
    ORok P I E ν ρ r.st.hp (execOp a.eval o) res) := by
  cases hop : o.op <;> simp only [evOp]
  case move x =>
    refine sat_bind (sat_lift (Q := fun v => rd r ctx x = some v) fun a h => h) fun v hv => sat_pure fun ρ a ha hc => ?_
    have := rd_spec ha hc hv
    exact ORok.now this.1 fun w _ => by simp [execOp, hop, this.2]
  case assign x =>
    refine sat_bind (sat_lift (Q := fun v => rd r ctx x = some v) fun a h => h) fun v hv => sat_pure fun ρ a ha hc => ?_
    have := rd_spec ha hc hv
    exact ORok.now this.1 fun w _ => by simp [execOp, hop, this.2]
  case pick c x y =>
    refine sat_bind evPick_sat fun v hv => sat_pure fun ρ a ha hc => ?_
    obtain ⟨hg, t, h1, h2⟩ := hv ρ a ha hc
    exact ORok.now hg fun w _ => by simp [execOp, hop, h1, asBool, ← h2]
  case build t parts =>
    refine sat_bind (sat_lift (Q := fun v => rdParts r ctx parts.toList = some v) fun a h => h) fun ps hps => ?_
    refine sat_bind (sat_lift (Q := fun v => evBuild P t ps = some v) fun a h => h) fun cs hcs => sat_pure fun ρ a ha hc => ?_
    have h1 := rdParts_spec ha hc hps
    have h2 := evBuild_spec hcs h1.2
    refine ORok.now (V1.good_agg.2 h2.1) fun w _ => ?_
    have h3 : (parts.map fun (p : Nat × Operand) => (p.1, a.eval p.2)) = (ps.map fun p => (p.1, p.2.conc ν ρ)).toArray := by
      apply Array.ext'
      simpa using h1.1
    have h4 := h2.2 ρ w
    rw [← h3] at h4
    simp only [execOp, hop, V.conc, V1.conc]
    simp [h4]
  case alloc t =>
    refine sat_bind (sat_lift (Q := fun v => zeroCells P t = some v) fun a h => h) fun cs hcs => ?_
    obtain ⟨i, z, hi, hz, hzg, hzc⟩ := zeroCells_spec (ν := ν) hcs
    have hlt0 : ∀ n, cs.all (Lf.lt n) = true := fun n => by
      unfold zeroCells at hcs
      rw [hi] at hcs
      simp only [hz] at hcs
      obtain ⟨_, h2⟩ := allSome_spec hcs
      refine List.all_eq_true.2 fun x hx => ?_
      obtain ⟨j, hj, rfl⟩ := List.mem_iff_getElem.1 hx
      obtain ⟨v, _, hv⟩ := h2 j _ (List.getElem?_eq_getElem hj)
      unfold ofLeaf at hv
      split at hv <;> first | (cases hv; rfl) | (rw [← Option.some.inj hv]; rfl) | cases hv
    have hrun : ∀ (o' : Act) (w : World), (execOp o'.eval o).run P w = .ok (.value (.pointer (some ⟨w.heap.size, 0, none⟩))) (w.alloc (.cells z.cells t)) := fun o' w => by
      simp [execOp, hop, Instr.alloc, zeroValue, typeInfo, hi, hz, newVar, newRow]
    refine sat_ite (fun hn => sat_ite (fun hlt => ?_) (fun _ => sat_fail)) (fun hn => ?_)
    · refine sat_bind (sat_pull2 fun w => matCells_sat (E := E) (w := w) _ _ _) fun q hq => ?_
      unfold newBlk
      refine sat_ite (fun hc => ?_) (fun _ => sat_fail)
      simp only [Bool.and_eq_true] at hc
      refine sat_pure fun ρ a ha hcx w hw _ => ?_
      obtain ⟨h1, h2, h3, h4, ρ', h5, h6, h7⟩ := hq w ρ hw hlt (hlt0 _) hzg
      have hnew := h6.new hc.1 hc.2 h3 t
      rw [h7, ← hzc ρ] at hnew
      refine .inl ⟨.pointer (some ⟨w.heap.size, 0, none⟩), w.alloc (.cells z.cells t), hrun a w, _, fun j hj => by rw [ext_lt (by omega), h5 j hj], hnew, fun u hu => ?_⟩
      cases hu
      exact ⟨V1.good_one.2 trivial, by simp [V.conc, V1.conc, Lf.conc, ext_same, Off.val]⟩
    · unfold newBlk
      refine sat_ite (fun hc => ?_) (fun _ => sat_fail)
      simp only [Bool.and_eq_true] at hc
      refine sat_pure fun ρ a ha hcx w hw _ => ?_
      have hnew := hw.new hc.1 hc.2 hzg t
      rw [← hzc ρ] at hnew
      refine .inl ⟨.pointer (some ⟨w.heap.size, 0, none⟩), w.alloc (.cells z.cells t), hrun a w, _, fun j hj => ext_lt hj, hnew, fun u hu => ?_⟩
      cases hu
      exact ⟨V1.good_one.2 trivial, by simp [V.conc, V1.conc, Lf.conc, ext_same, Off.val]⟩
  case box t x =>
    refine sat_bind (sat_lift (Q := fun v => rd r ctx x = some v) fun a h => h) fun v hv => ?_
    split
    · rename_i v1
      refine sat_ite (fun hok => ?_) (fun _ => sat_fail)
      unfold newBlk
      refine sat_ite (fun hc => ?_) (fun _ => sat_fail)
      simp only [Bool.and_eq_true] at hc
      refine sat_pure fun ρ a ha hcx w hw _ => ?_
      have := rd_spec ha hcx hv
      have hcell : (a.eval x).cells = (v1.cells.map (Lf.conc ν ρ)).toArray := by
        rw [this.2]
        cases v1 with
        | one l =>
          have h1 : (l.conc ν ρ).oneCell' = true := Lf.ok_conc (by simpa [V1.cells] using hok) ρ
          exact cells_one h1
        | agg l => rfl
      refine .inl ⟨.pointer (some ⟨w.heap.size, 0, none⟩), w.alloc (.cells (v1.cells.map (Lf.conc ν ρ)).toArray t), ?_, _, fun j hj => ext_lt hj, hw.new hc.1 hc.2 this.1 t, fun u hu => ?_⟩
      · simp [execOp, hop, Instr.box, newVar, newRow, hcell]
      · cases hu
        exact ⟨V1.good_one.2 trivial, by simp [V.conc, V1.conc, Lf.conc, ext_same, Off.val]⟩
    · exact sat_fail
  case load t x =>
    refine sat_bind (sat_lift (Q := fun v => rd r ctx x = some v) fun a h => h) fun v hv => ?_
    split
    · rename_i b off
      refine sat_bind (sat_lift (Q := fun k => tk P t = some k) fun a h => h) fun k hk => ?_
      refine sat_bind (sat_lift (Q := fun k => tsize P t = some k) fun a h => h) fun sz hs => ?_
      refine sat_bind (sat_lift (Q := fun bk => nth r.st.hp b = some bk) fun a h => h) fun bk hbk => ?_
      split
      · rename_i o cs
        by_cases hg : off.good ν
        · refine sat_bind (loadCells_sat (own := o) hk hs hg) fun v hl => sat_pure fun ρ a ha hc w hw _ => ?_
          have hr := rd_spec ha hc hv
          have := hl ρ w (ρ b) (hw.heap.blk b _ hbk)
          exact ⟨this.1, .inl (by simp [execOp, hop, hr.2, V.conc, V1.conc, Lf.conc, Instr.loadAt, Instr.sureAddr, this.2])⟩
        · refine sat_bind sat_true fun v _ => sat_pure fun ρ a ha hc w hw _ => ?_
          exact absurd ((rd_spec ha hc hv).1 (.p b off) (by simp [V1.cells])) hg
      · rename_i o ts q
        by_cases hg : off.good ν
        · refine sat_bind (loadRow_sat (E := E) hk hs hg) fun v hl => sat_pure fun ρ a ha hc w hw _ => ?_
          have hr := rd_spec ha hc hv
          have := hl.2 ρ w (ρ b) o (hw.heap.blk b _ hbk)
          exact ⟨hl.1, .inl (by simp [execOp, hop, hr.2, V.conc, V1.conc, Lf.conc, Instr.loadAt, Instr.sureAddr, this])⟩
        · refine sat_bind sat_true fun v _ => sat_pure fun ρ a ha hc w hw _ => ?_
          exact absurd ((rd_spec ha hc hv).1 (.p b off) (by simp [V1.cells])) hg
    · rename_i g off
      refine sat_bind (sat_lift (Q := fun k => tk P t = some k) fun a h => h) fun k hk => ?_
      refine sat_bind (sat_lift (Q := fun k => tsize P t = some k) fun a h => h) fun sz hs => ?_
      refine sat_bind (sat_lift (Q := fun cs => assoc S.gs g = some cs) fun a h => h) fun cs hcs => ?_
      by_cases hg : off.good ν
      · refine sat_bind (loadCells_sat (own := false) hk hs hg) fun v hl => sat_ite (fun hsc => sat_pure fun ρ a ha hc w hw hI => ?_) (fun _ => sat_fail)
        have hr := rd_spec ha hc hv
        obtain ⟨hg1, hg2⟩ := hS.globs g cs hcs w hI
        have hb : CBlk ν (fun _ => ⟨g, 0, false, 0, 0⟩) w ⟨g, 0, false, 0, 0⟩ false (cs.map some) := ⟨rfl, hg1, fun i l hi => by
          rw [nth_map_some] at hi
          have := hg2 i l hi ν (fun _ => ⟨g, 0, false, 0, 0⟩)
          simpa using this, fun h => by cases h⟩
        have := hl (fun _ => ⟨g, 0, false, 0, 0⟩) w _ hb
        have hconc : v.conc ν (fun _ => ⟨g, 0, false, 0, 0⟩) = v.conc ν ρ := V1.conc_scalar hsc _ _
        have h2 := this.2
        rw [hconc] at h2
        simp only [Nat.zero_add] at h2
        have hev : a.eval x = .pointer (some ⟨g, off.val ν, none⟩) := hr.2
        have h3 : (execOp a.eval o).run P w = ((loadVar t ⟨g, off.val ν, none⟩).run P w).andThen fun v w' => .ok (.value v) w' := by
          simp [execOp, hop, hev, Instr.loadAt, Instr.sureAddr]
        exact ⟨this.1, .inl (by rw [h3, h2]; rfl)⟩
      · refine sat_bind sat_true fun v _ => sat_ite (fun _ => sat_pure fun ρ a ha hc w hw _ => ?_) (fun _ => sat_fail)
        exact absurd ((rd_spec ha hc hv).1 (.gp g off) (by simp [V1.cells])) hg
    · exact sat_fail
  case store t x y =>
    refine sat_bind (evStore_sat (E := E) hop) fun hp' h => sat_pure fun ρ a ha hc w hw _ => ?_
    obtain ⟨w', h1, h2⟩ := h ρ a ha hc w hw
    exact .inr (.inl ⟨w', h1, ρ, fun _ _ => rfl, h2, fun u hu => by cases hu⟩)
  case nilCheck x =>
    refine sat_bind (sat_lift (Q := fun v => rd r ctx x = some v) fun a h => h) fun v hv => ?_
    split
    · refine sat_pure fun ρ a ha hc => ?_
      have := rd_spec ha hc hv
      exact ORok.now this.1 fun w _ => by simp [execOp, hop, this.2, V.conc, V1.conc, Lf.conc]
    · refine sat_pure fun ρ a ha hc => ?_
      have := rd_spec ha hc hv
      exact ORok.now this.1 fun w _ => by simp [execOp, hop, this.2, V.conc, V1.conc, Lf.conc]
    · exact sat_fail
  case binOp op t x y yt =>
    refine sat_bind (sat_lift (Q := fun v => rd r ctx x = some v) fun a h => h) fun v hv => ?_
    refine sat_bind (sat_lift (Q := fun v => rd r ctx y = some v) fun a h => h) fun u hu => ?_
    by_cases hg : v.good ν ∧ u.good ν
    · refine sat_bind (evBinV_sat hg.1 hg.2) fun z hz => sat_pure fun ρ a ha hc => ?_
      have h1 := rd_spec ha hc hv
      have h2 := rd_spec ha hc hu
      refine ORok.now hz.1 fun w _ => ?_
      have := hz.2 ρ w x y
      simp [execOp, hop, h1.2, h2.2, this.1, this.2]
    · refine sat_bind sat_true fun z _ => sat_pure fun ρ a ha hc => ?_
      exact absurd ⟨(rd_spec ha hc hv).1, (rd_spec ha hc hu).1⟩ hg
  case unOp op t x =>
    refine sat_bind (sat_lift (Q := fun v => rd r ctx x = some v) fun a h => h) fun v hv => ?_
    split
    · rename_i l
      refine sat_bind (sat_pull fun ρ (w : World) => evUn_sat (P := P) (ρ := ρ) (w := w)) fun z hz => sat_pure fun ρ a ha hc => ?_
      have h1 := rd_spec ha hc hv
      refine ORok.now (V1.good_one.2 hz.1) fun w _ => ?_
      have := hz.2 ρ w
      simp only [V.conc, V1.conc] at h1 ⊢
      simp [execOp, hop, h1.2, this]
    · exact sat_fail
  case convert s d x =>
    refine sat_bind (sat_lift (Q := fun v => rd r ctx x = some v) fun a h => h) fun v hv => ?_
    split
    · rename_i l
      refine sat_bind (sat_pull fun ρ (w : World) => evConv_sat (P := P) (ρ := ρ) (w := w)) fun z hz => sat_pure fun ρ a ha hc => ?_
      have h1 := rd_spec ha hc hv
      refine ORok.now (V1.good_one.2 hz.1) fun w _ => ?_
      have := hz.2 ρ w
      simp only [V.conc, V1.conc] at h1 ⊢
      simp [execOp, hop, h1.2, this]
    · exact sat_fail
  case fieldAddr t x f =>
    refine sat_bind (sat_lift (Q := fun v => rd r ctx x = some v) fun a h => h) fun v hv => ?_
    split
    · rename_i l
      by_cases hg : l.good ν
      · refine sat_bind (evFieldAddr_sat hg) fun z hz => sat_pure fun ρ a ha hc => ?_
        have h1 := rd_spec ha hc hv
        refine ORok.now (V1.good_one.2 hz.1) fun w _ => ?_
        have := hz.2 ρ w
        simp only [V.conc, V1.conc] at h1 ⊢
        simp [execOp, hop, h1.2, this]
      · refine sat_bind sat_true fun z _ => sat_pure fun ρ a ha hc => ?_
        exact absurd (V1.good_one.1 (rd_spec ha hc hv).1) hg
    · exact sat_fail
  case field t x f =>
    refine sat_bind (sat_lift (Q := fun v => rd r ctx x = some v) fun a h => h) fun v hv => ?_
    split
    · rename_i l
      by_cases hg : ∀ y ∈ l, Lf.good ν y
      · refine sat_bind (evField_sat hg) fun z hz => sat_pure fun ρ a ha hc => ?_
        have h1 := rd_spec ha hc hv
        refine ORok.now hz.1 fun w _ => ?_
        have := hz.2 ρ w
        simp only [V.conc, V1.conc] at h1 ⊢
        simp [execOp, hop, h1.2, this]
        rfl
      · refine sat_bind sat_true fun z _ => sat_pure fun ρ a ha hc => ?_
        exact absurd (V1.good_agg.1 (rd_spec ha hc hv).1) hg
    · exact sat_fail
  case indexAddr t x ix =>
    refine sat_bind (sat_lift (Q := fun v => rd r ctx x = some v) fun a h => h) fun v hv => ?_
    refine sat_bind (sat_lift (Q := fun v => rd r ctx ix = some v) fun a h => h) fun u hu => ?_
    split
    · rename_i b i
      refine sat_bind (evIndexRow_sat (E := E)) fun z hz => sat_pure fun ρ a ha hc w hw _ => ?_
      have h1 := rd_spec ha hc hv
      have h2 := rd_spec ha hc hu
      refine ⟨V1.good_one.2 hz.1, .inl ?_⟩
      have := hz.2 ρ w w hw
      simp only [V.conc, V1.conc] at h1 h2 ⊢
      simp only [Lf.conc] at h1
      simp [execOp, hop, h1.2, h2.2, this]
    · rename_i l i _
      by_cases hg : l.good ν
      · refine sat_bind (evIndexAddr_sat hg) fun z hz => sat_pure fun ρ a ha hc => ?_
        have h1 := rd_spec ha hc hv
        have h2 := rd_spec ha hc hu
        refine ORok.now (V1.good_one.2 hz.1) fun w _ => ?_
        have := hz.2 ρ w
        simp only [V.conc, V1.conc] at h1 h2 ⊢
        simp [execOp, hop, h1.2, h2.2, this]
      · refine sat_bind sat_true fun z _ => sat_pure fun ρ a ha hc => ?_
        exact absurd (V1.good_one.1 (rd_spec ha hc hv).1) hg
    · exact sat_fail
  case index t x ix =>
    refine sat_bind (sat_lift (Q := fun v => rd r ctx x = some v) fun a h => h) fun v hv => ?_
    refine sat_bind (sat_lift (Q := fun v => rd r ctx ix = some v) fun a h => h) fun u hu => ?_
    split
    · rename_i l i
      by_cases hg : ∀ y ∈ l, Lf.good ν y
      · refine sat_bind (evIndex_sat hg) fun z hz => sat_pure fun ρ a ha hc => ?_
        have h1 := rd_spec ha hc hv
        have h2 := rd_spec ha hc hu
        refine ORok.now hz.1 fun w _ => ?_
        have := hz.2 ρ w
        simp only [V.conc, V1.conc] at h1 h2 ⊢
        simp [execOp, hop, h1.2, h2.2, this]
        rfl
      · refine sat_bind sat_true fun z _ => sat_pure fun ρ a ha hc => ?_
        exact absurd (V1.good_agg.1 (rd_spec ha hc hv).1) hg
    · rename_i s ki i
      refine sat_bind (sat_lift (Q := fun d => tk0 P t = some d) fun a h => h) fun d hd => ?_
      split
      · refine sat_bind boundsOk_sat fun _ hb => ?_
        refine sat_bind (sat_emit (Q := fun r => r.int ν = ((s.data.toList.map fun b => A.z b.toNat).map (A.int ν)).getD (i.int ν).toNat 0) fun r h => A.int_of_den h) fun q hq => sat_pure fun ρ a ha hc => ?_
        have h1 := rd_spec ha hc hv
        have h2 := rd_spec ha hc hu
        refine ORok.now (V1.good_one.2 trivial) fun w _ => ?_
        have hlt : (i.int ν).toNat < s.size := by omega
        have h3 : s[(i.int ν).toNat]? = some s[(i.int ν).toNat] := by
          rw [getElem?_pos]
        have h4 : q.int ν = (s[(i.int ν).toNat]).toNat := by
          rw [hq, List.map_map, List.getD_eq_getElem?_getD, List.getElem?_map]
          have : s.data.toList[(i.int ν).toNat]? = some s[(i.int ν).toNat] := by
            rw [Array.getElem?_toList]
            exact Array.getElem?_eq_getElem hlt
          rw [this]
          rfl
        simp only [V.conc, V1.conc, Lf.conc] at h1 h2 ⊢
        simp [execOp, hop, h1.2, h2.2, Instr.index, asIntOf, run_underlying hd, hb.1, h3, h4]
      · exact sat_fail
    · exact sat_fail
  case extract x n =>
    refine sat_bind (sat_lift (Q := fun v => rd r ctx x = some v) fun a h => h) fun v hv => ?_
    split
    · rename_i l
      refine sat_bind (sat_lift (Q := fun u => l[n]? = some u) fun a h => h) fun u hu => sat_pure fun ρ a ha hc => ?_
      have h1 := rd_spec ha hc hv
      refine ORok.now (V.good_s.2 (h1.1 u (List.mem_of_getElem? hu))) fun w _ => ?_
      simp [execOp, hop, h1.2, V.conc, Instr.extract, hu]
    · exact sat_fail
  case makeFunc fn first cap =>
    split
    · rename_i f
      refine sat_bind (sat_lift (Q := fun vs => rdAll r ctx cap.toList = some vs) fun a h => h) fun vs hvs => ?_
      refine sat_bind (sat_lift (Q := fun bs => allSome capOf vs = some bs) fun a h => h) fun bs hbs => ?_
      refine sat_ite (fun he => sat_pure fun ρ a ha hc => ?_) (fun _ => sat_fail)
      have h1 := rdAll_spec ha hc hvs
      have h2 := capOf_spec (ν := ν) ρ hbs
      have h3 : cap.map a.eval = capsConc ρ bs := by
        apply Array.ext'
        rw [Array.toList_map, h1, h2]; simp [capsConc]
      have h4 : first = #[] := by simpa using he
      refine ORok.now (V1.good_one.2 trivial) fun w _ => ?_
      simp [execOp, hop, Instr.makeFunc, h3, h4, V.conc, V1.conc, Lf.conc]
    · exact sat_fail
  case call c =>
    split
    · rename_i x hf
      refine sat_bind (sat_lift (Q := fun p => fnOf (rd r ctx x) = some p) fun a h => h) fun ⟨f, bs⟩ hfn => ?_
      refine sat_bind (sat_lift (Q := fun vs => rdAll r ctx c.args.toList = some vs) fun a h => h) fun vs hvs => ?_
      split
      · rename_i add xa xb xq hbl hbs
        dsimp only at hbl hbs
        subst hbs
        refine sat_mono (evCarry_sat (P := P)) fun z hz ρ a ha hc => ?_
        obtain ⟨s, k, rfl, hr⟩ := hz
        have h1 := rdAll_spec ha hc hvs
        have h0 := fnOf_spec ha hc hfn
        have h2 : c.args.map a.eval = #[.int .u64 (xa.int ν), .int .u64 (xb.int ν), .int .u64 (xq.int ν)] := by
          apply Array.ext'
          rw [Array.toList_map, h1]; rfl
        refine ORok.now (fun u hu => ?_) fun w _ => ?_
        · rcases List.mem_cons.1 hu with rfl | hu
          · exact V1.good_one.2 trivial
          · rcases List.mem_cons.1 hu with rfl | hu
            · exact V1.good_one.2 trivial
            · cases hu
        · have h3 := hr f hbl w
          have h4 : capsConc ρ [] = #[] := rfl
          simp only [execOp, hop, resolve, hf, h0, Deferred.ofValue, invoke, pure_bind, h2, h4, Array.append_empty]
          exact h3
      · exact sat_fail
      · rename_i vs q1 q2 q3 q4
        refine sat_mono (evCall_sat (E := E) hS hE) fun z hz ρ a ha hc => ?_
        have h1 := rdAll_spec ha hc hvs
        have h0 := fnOf_spec ha hc hfn
        have h2 : c.args.map a.eval ++ capsConc ρ bs = ((vs ++ bs.map fun b => V.s (.one (.p b (.c 0)))).map (V.conc ν ρ)).toArray := by
          apply Array.ext'
          simp only [Array.toList_append, Array.toList_map, h1, capsConc, List.map_append, List.map_map]
          rfl
        have hgv : ∀ v ∈ vs ++ bs.map fun b => V.s (.one (.p b (.c 0))), V.good ν v := fun v hv => by
          rcases List.mem_append.1 hv with hv | hv
          · exact rdAll_good ha hc hvs v hv
          · obtain ⟨b, _, rfl⟩ := List.mem_map.1 hv
            exact V.good_s.2 (V1.good_one.2 trivial)
        generalize vs ++ bs.map (fun b => V.s (.one (.p b (.c 0)))) = us at *
        have h5 : ∀ w, (callFunc f (us.map (V.conc ν ρ)).toArray).run P w = .ok (.enter f (us.map (V.conc ν ρ)).toArray) w → (execOp a.eval o).run P w = .ok (.enter f (us.map (V.conc ν ρ)).toArray) w := fun w h4 => by
          rw [← h2] at h4 ⊢
          simp [execOp, hop, resolve, hf, h0, Deferred.ofValue, invoke]
          exact h4
        cases z with
        | val v =>
          intro w hw hI
          obtain ⟨h3, h4, h6⟩ := hz ρ w hgv hw hI
          exact ⟨h4, .inr ⟨f, _, h5 w h3, h6⟩⟩
        | hp v hp' =>
          intro w hw hI
          obtain ⟨h3, h4⟩ := hz ρ w hgv hw hI
          exact .inr (.inr ⟨f, _, h5 w h3, h4.mono fun e w' ⟨x, he, ρ', k1, k2, k3⟩ => ⟨x, he, ρ', k1, k2, fun u hu => ⟨(k3 u hu).1, by rw [(k3 u hu).2]⟩⟩⟩)
    · rename_i b hf
      refine sat_bind (sat_lift (Q := fun vs => rdAll r ctx c.args.toList = some vs) fun a h => h) fun vs hvs => ?_
      have hargs : ∀ ρ a, ARel ν ρ r a → CtxOk ctx a → c.args.map a.eval = (vs.map (V.conc ν ρ)).toArray := fun ρ a ha hc => by
        apply Array.ext'
        simpa using rdAll_spec ha hc hvs
      split
      · rename_i k x k' y
        refine sat_ite (fun hk => ?_) (fun _ => sat_fail)
        have := kEq_eq hk; subst this
        split
        · refine sat_pure fun ρ a ha hc => ORok.now (V1.good_one.2 trivial) fun w _ => ?_
          simp [execOp, hop, resolve, hf, hargs ρ a ha hc, invoke, builtin, Builtin.max_, Builtin.max2, V.conc, V1.conc, Lf.conc, List.foldlM]
        · refine sat_bind (sat_emit (Q := fun r => r.bool ν = decide (y.int ν > x.int ν)) fun r h => A.bool_of_den h) fun q hq => ?_
          refine sat_bind mkIteI_sat fun z hz => sat_pure fun ρ a ha hc => ORok.now (V1.good_one.2 trivial) fun w _ => ?_
          rw [hq] at hz
          simp [execOp, hop, resolve, hf, hargs ρ a ha hc, invoke, builtin, Builtin.max_, Builtin.max2, V.conc, V1.conc, Lf.conc, List.foldlM, hz]
      · rename_i k x k' y
        refine sat_ite (fun hk => ?_) (fun _ => sat_fail)
        have := kEq_eq hk; subst this
        split
        · refine sat_pure fun ρ a ha hc => ORok.now (V1.good_one.2 trivial) fun w _ => ?_
          simp [execOp, hop, resolve, hf, hargs ρ a ha hc, invoke, builtin, Builtin.min_, Builtin.min2, V.conc, V1.conc, Lf.conc, List.foldlM]
        · refine sat_bind (sat_emit (Q := fun r => r.bool ν = decide (y.int ν < x.int ν)) fun r h => A.bool_of_den h) fun q hq => ?_
          refine sat_bind mkIteI_sat fun z hz => sat_pure fun ρ a ha hc => ORok.now (V1.good_one.2 trivial) fun w _ => ?_
          rw [hq] at hz
          simp [execOp, hop, resolve, hf, hargs ρ a ha hc, invoke, builtin, Builtin.min_, Builtin.min2, V.conc, V1.conc, Lf.conc, List.foldlM, hz]
      · rename_i v
        refine sat_bind (sat_lift (Q := fun t => c.argTypes[0]? = some t) fun a h => h) fun t ht => ?_
        refine sat_bind (evLen_sat (E := E)) fun z hz => sat_pure fun ρ a ha hc w hw _ => ⟨hz.1, .inl ?_⟩
        have := hz.2 ρ w w o.type c.argTypes ht hw
        simp [execOp, hop, resolve, hf, hargs ρ a ha hc, invoke, builtin, this]
      · rename_i s x
        refine sat_bind (sat_lift (Q := fun t => c.argTypes[0]? = some t) fun a h => h) fun t ht => ?_
        refine sat_bind (sat_lift (Q := fun t => c.argTypes[1]? = some t) fun a h => h) fun tx htx => ?_
        refine sat_mono (evAppend_sat (E := E)) fun z hz ρ a ha hc => ?_
        refine NewRow.run (y := Builtin.append_ c.argTypes o.type #[s.conc ν ρ, x.conc ν ρ]) (fun w v w' h => ?_) (fun w hw => ?_)
        · simp [execOp, hop, resolve, hf, hargs ρ a ha hc, invoke, builtin, h]
        · obtain ⟨v, w', h1, h2⟩ := hz ρ w o.type hw
          refine ⟨v, w', ?_, h2⟩
          rw [← h1]
          simp only [Builtin.append_, ht, htx, List.getElem?_toArray, List.getElem?_cons_zero, List.getElem?_cons_succ]
      · exact sat_fail
    · exact sat_fail
  case buildSlice t len parts =>
    refine sat_bind (sat_lift (Q := fun v => rdParts r ctx parts.toList = some v) fun a h => h) fun ps hps => ?_
    by_cases hg : ∀ p ∈ ps, p.2.good ν
    · refine sat_mono (evBuildSlice_sat (E := E) hg) fun z hz ρ a ha hc => ?_
      have h1 := rdParts_spec ha hc hps
      have h3 : (parts.map fun (p : Nat × Operand) => (p.1, a.eval p.2)) = (ps.map fun p => (p.1, p.2.conc ν ρ)).toArray := by
        apply Array.ext'
        simpa using h1.1
      refine NewRow.run (y := Instr.buildSlice t len (ps.map fun p => (p.1, p.2.conc ν ρ)).toArray) (fun w v w' h => ?_) (hz ρ)
      rw [← h3] at h
      simp only [execOp, hop]
      simp [h]
    · refine sat_mono sat_true fun z _ ρ a ha hc => ?_
      exact absurd (rdParts_spec ha hc hps).2 hg
  case makeSlice t l c =>
    refine sat_bind (sat_lift (Q := fun v => rd r ctx l = some v) fun a h => h) fun v hv => ?_
    refine sat_bind (sat_lift (Q := fun v => rd r ctx c = some v) fun a h => h) fun u hu => ?_
    split
    · rename_i x y
      refine sat_mono (evMake_sat (E := E)) fun z hz ρ a ha hc => ?_
      have h1 := rd_spec ha hc hv
      have h2 := rd_spec ha hc hu
      refine NewRow.run (y := Instr.makeSlice t (x.conc ν ρ) (y.conc ν ρ)) (fun w v w' h => ?_) (hz ρ)
      simp only [V.conc, V1.conc] at h1 h2
      simp [execOp, hop, h1.2, h2.2, h]
    · exact sat_fail
  case slice t x low high max =>
    split
    · exact sat_fail
    · refine sat_bind (sat_lift (Q := fun v => rd r ctx x = some v) fun a h => h) fun v hv => ?_
      refine sat_bind (sat_lift (Q := fun v => leafOpt r ctx low = some v) fun a h => h) fun lo hlo => ?_
      refine sat_bind (sat_lift (Q := fun v => leafOpt r ctx high = some v) fun a h => h) fun hi hhi => ?_
      refine sat_mono (evSlice_sat (E := E)) fun z hz ρ a ha hc => ?_
      have h1 := rd_spec ha hc hv
      refine NewRow.run (y := Instr.sliceAt t (v.conc ν ρ) (lo.map (Lf.conc ν ρ)) (hi.map (Lf.conc ν ρ)) none) (fun w v w' h => ?_) (hz ρ)
      rw [← leafOpt_spec ha hc hlo, ← leafOpt_spec ha hc hhi] at h
      simp [execOp, hop, h1.2, h]
  all_goals exact sat_fail
end
end Go.Sx

