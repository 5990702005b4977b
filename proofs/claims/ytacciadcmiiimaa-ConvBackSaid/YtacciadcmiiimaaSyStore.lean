/- Stores into a known block. -/
import Derived.Test.YtacciadcmiiimaaSyBlk
namespace Go.Sx
open Go.RowKit
section
variable {P : Program} {F : FEnv} {ν : Nat → DV} {ρ : Nat → Loc} {w : World}

/-- v holds what x holds. -/
def Like (ν : Nat → DV) (v x : Lf) : Prop := (∀ ρ, v.conc ν ρ = x.conc ν ρ) ∧ (x.good ν → v.good ν)
theorem Like.refl (v : Lf) : Like ν v v := ⟨fun _ => rfl, id⟩
theorem Like.trans {a b c : Lf} (h : Like ν a b) (k : Like ν b c) : Like ν a c := ⟨fun ρ => (h.1 ρ).trans (k.1 ρ), fun g => h.2 (k.2 g)⟩

/-- l' tells the cells behind a write of xs from place p on. -/
structure Desc (ν : Nat → DV) (l l' : List (Option Lf)) (p : Nat) (xs : List Lf) : Prop where
  len : l'.length = l.length
  room : xs ≠ [] → p + xs.length ≤ l.length
  inn : ∀ i v, nth l' i = some v → ∀ k x, xs[k]? = some x → i = p + k → Like ν v x
  out : ∀ i v, nth l' i = some v → (i < p ∨ p + xs.length ≤ i) → ∃ old, nth l i = some old ∧ Like ν v old

theorem Desc.nil (l : List (Option Lf)) (p : Nat) : Desc ν l l p [] :=
  ⟨rfl, fun h => absurd rfl h, fun i v _ k x hx => by simp at hx, fun i v hv _ => ⟨v, hv, Like.refl v⟩⟩

theorem Desc.cons {l l1 l2 : List (Option Lf)} {p : Nat} {x : Lf} {xs : List Lf} (h : Desc ν l l1 p [x]) (k : Desc ν l1 l2 (p + 1) xs) : Desc ν l l2 p (x :: xs) := by
  refine ⟨k.len.trans h.len, fun _ => ?_, fun i v hv j y hy hi => ?_, fun i v hv hi => ?_⟩
  · have := h.room (by simp)
    cases xs with
    | nil => simpa using this
    | cons z zs => have := k.room (by simp); rw [h.len] at this; simp at this ⊢; omega
  · cases j with
    | zero =>
      simp at hy; subst hy
      obtain ⟨old, ho, hl⟩ := k.out i v hv (.inl (by omega))
      exact hl.trans (h.inn i old ho 0 _ rfl (by omega))
    | succ j => exact k.inn i v hv j y (by simpa using hy) (by omega)
  · obtain ⟨old, ho, hl⟩ := k.out i v hv (by simp at hi; omega)
    obtain ⟨old2, ho2, hl2⟩ := h.out i old ho (by simp at hi ⊢; omega)
    exact ⟨old2, ho2, hl.trans hl2⟩

theorem putCells_desc : ∀ {l l' : List (Option Lf)} {o : Nat} {xs : List Lf}, putCells l o xs = some l' → Desc ν l l' o xs
  | l, l', o, [], h => by
    have : l' = l := by cases l <;> cases o <;> simp [putCells] at h <;> first | exact h.symm | (subst h; rfl)
    subst this; exact Desc.nil _ _
  | [], l', o, x :: xs, h => by cases o <;> simp [putCells] at h
  | c :: l, l', o + 1, x :: xs, h => by
    simp only [putCells] at h
    obtain ⟨r, hr, rfl⟩ := Option.map_eq_some_iff.1 h
    have ih := putCells_desc hr
    refine ⟨by simp [ih.len], fun _ => by have := ih.room (by simp); simp at this ⊢; omega, fun i v hv k y hy hi => ?_, fun i v hv hi => ?_⟩
    · cases i with
      | zero => omega
      | succ i => exact ih.inn i v hv k y hy (by omega)
    · cases i with
      | zero => exact ⟨v, hv, Like.refl v⟩
      | succ i => exact ih.out i v hv (by simp at hi ⊢; omega)
  | c :: l, l', 0, x :: xs, h => by
    simp only [putCells] at h
    obtain ⟨r, hr, rfl⟩ := Option.map_eq_some_iff.1 h
    have ih := putCells_desc hr
    refine ⟨by simp [ih.len], fun _ => ?_, fun i v hv k y hy hi => ?_, fun i v hv hi => ?_⟩
    · cases xs with
      | nil => simp
      | cons z zs => have := ih.room (by simp); simp at this ⊢; omega
    · cases i with
      | zero =>
        have : k = 0 := by omega
        subst this
        simp at hy; subst hy
        cases hv; exact Like.refl _
      | succ i =>
        cases k with
        | zero => omega
        | succ k => exact ih.inn i v hv k y (by simpa using hy) (by omega)
    · cases i with
      | zero => simp at hi
      | succ i => exact ih.out i v hv (.inr (by simp at hi; omega))

theorem putRow_sat {ix : A} {x : Lf} {sz : Nat} (hsz : 0 < sz) : ∀ (l : List (Option Lf)) (base len j : Nat),
    M.sat F ν (putRow ix x l base sz len j) (fun l' => l'.length = l.length ∧ (∀ k, k < len → base + k * sz < l.length) ∧
      ∀ i v, nth l' i = some v →
        (∃ k, k < len ∧ i = base + k * sz ∧ ∃ old, nth l i = some old ∧ (ix.int ν = ((j + k : Nat) : Int) → Like ν v x) ∧ (ix.int ν ≠ ((j + k : Nat) : Int) → Like ν v old)) ∨
        ((∀ k, k < len → i ≠ base + k * sz) ∧ nth l i = some v))
  | l, base, 0, j => by
    have e : putRow ix x l base sz 0 j = pure l := by cases l <;> cases base <;> rfl
    rw [e]
    exact sat_pure ⟨rfl, fun k hk => absurd hk (by omega), fun i v hv => .inr ⟨fun k hk => absurd hk (by omega), hv⟩⟩
  | [], base, len + 1, j => by
    have e : putRow ix x [] base sz (len + 1) j = M.fail := by cases base <;> rfl
    rw [e]; exact sat_fail
  | c :: l, base + 1, len + 1, j => by
    have e : putRow ix x (c :: l) (base + 1) sz (len + 1) j = (do pure (c :: (← putRow ix x l base sz (len + 1) j))) := rfl
    rw [e]
    refine sat_bind (putRow_sat hsz l base (len + 1) j) fun r hr => sat_pure ?_
    obtain ⟨h1, h2, h3⟩ := hr
    refine ⟨by simp [h1], fun k hk => by have := h2 k hk; simp; omega, fun i v hv => ?_⟩
    cases i with
    | zero => exact .inr ⟨fun k hk => by omega, hv⟩
    | succ i =>
      rcases h3 i v hv with ⟨k, hk, hi, old, ho, ha⟩ | ⟨hn, ho⟩
      · exact .inl ⟨k, hk, by omega, old, ho, ha⟩
      · exact .inr ⟨fun k hk => by have := hn k hk; omega, ho⟩
  | c :: l, 0, len + 1, j => by
    cases c with
    | none =>
      have e : putRow ix x (none :: l) 0 sz (len + 1) j = M.fail := rfl
      rw [e]; exact sat_fail
    | some old =>
      have e : putRow ix x (some old :: l) 0 sz (len + 1) j = (do
        let e ← emit (.eql ix (.z j))
        match ← mergeLf e x old with
        | none => M.fail
        | some y => do pure (some y :: (← putRow ix x l (sz - 1) sz len (j + 1)))) := rfl
      rw [e]
      refine sat_bind (sat_emit (Q := fun r => r.bool ν = (ix.int ν == (j : Int))) fun r h => A.bool_of_den h) fun e he => ?_
      refine sat_bind mergeLf_sat fun o ho => ?_
      split
      · exact sat_fail
      · rename_i y
        have hm := ho y rfl
        refine sat_bind (putRow_sat hsz l (sz - 1) len (j + 1)) fun r hr => sat_pure ?_
        obtain ⟨h1, h2, h3⟩ := hr
        refine ⟨by simp [h1], fun k hk => ?_, fun i v hv => ?_⟩
        · cases k with
          | zero => simp
          | succ k => have := h2 k (by omega); simp [Nat.add_mul]; omega
        · cases i with
          | zero =>
            cases hv
            refine .inl ⟨0, by omega, by omega, old, rfl, fun hj => ?_, fun hj => ?_⟩
            · exact hm.1 (by rw [he]; simpa using hj)
            · exact hm.2 (by rw [he]; simpa using hj)
          | succ i =>
            rcases h3 i v hv with ⟨k, hk, hi, old2, ho2, ha⟩ | ⟨hn, ho2⟩
            · refine .inl ⟨k + 1, by omega, by simp [Nat.add_mul]; omega, old2, ho2, ?_⟩
              have ej : ((j + (k + 1) : Nat) : Int) = ((j + 1 + k : Nat) : Int) := by omega
              rw [ej]; exact ha
            · refine .inr ⟨fun k hk => ?_, ho2⟩
              cases k with
              | zero => omega
              | succ k => have := hn k (by omega); simp [Nat.add_mul]; omega

theorem putRow_desc {ix : A} {x : Lf} {sz base len : Nat} (hsz : 0 < sz) (h0 : 0 ≤ ix.int ν) (h1 : ix.int ν < len) (l : List (Option Lf)) :
    M.sat F ν (putRow ix x l base sz len 0) (fun l' => Desc ν l l' (base + (ix.int ν).toNat * sz) [x]) := by
  refine sat_mono (putRow_sat hsz l base len 0) fun l' ⟨ha, hb, hc⟩ => ?_
  have hix : ix.int ν = (((ix.int ν).toNat : Nat) : Int) := by omega
  have hinj : ∀ k, base + k * sz = base + (ix.int ν).toNat * sz → k = (ix.int ν).toNat := fun k h => Nat.eq_of_mul_eq_mul_right hsz (by omega)
  refine ⟨ha, fun _ => by have := hb (ix.int ν).toNat (by omega); simp; omega, fun i v hv k y hy hi => ?_, fun i v hv hi => ?_⟩
  · have : k = 0 := by have := (List.getElem?_eq_some_iff.1 hy).1; simp at this; omega
    subst this
    simp at hy; subst hy
    rcases hc i v hv with ⟨k, hk, hi', old, ho, h2, h3⟩ | ⟨hn, ho⟩
    · have := hinj k (by omega)
      exact h2 (by omega)
    · exact absurd (by omega) (hn (ix.int ν).toNat (by omega))
  · rcases hc i v hv with ⟨k, hk, hi', old, ho, h2, h3⟩ | ⟨hn, ho⟩
    · refine ⟨old, ho, h3 fun he => ?_⟩
      have : k = (ix.int ν).toNat := by omega
      subst this
      simp at hi; omega
    · exact ⟨v, ho, Like.refl v⟩

theorem putRows_desc {ix : A} {sz len : Nat} (hsz : 0 < sz) (h0 : 0 ≤ ix.int ν) (h1 : ix.int ν < len) : ∀ (xs : List Lf) (l : List (Option Lf)) (base : Nat),
    M.sat F ν (putRows ix xs l base sz len) (fun l' => Desc ν l l' (base + (ix.int ν).toNat * sz) xs)
  | [], l, base => sat_pure (Desc.nil _ _)
  | x :: xs, l, base => by
    unfold putRows
    refine sat_bind (putRow_desc hsz h0 h1 l) fun l1 hl1 => sat_mono (putRows_desc hsz h0 h1 xs l1 (base + 1)) fun l2 hl2 => ?_
    exact Desc.cons hl1 (by rwa [show base + (ix.int ν).toNat * sz + 1 = base + 1 + (ix.int ν).toNat * sz from by omega])

theorem storeCellsAt_desc {cs : List (Option Lf)} {off : Off} {xs : List Lf} (hg : off.good ν) :
    M.sat F ν (storeCellsAt cs off xs) (fun l' => Desc ν cs l' (off.val ν) xs) := by
  unfold storeCellsAt
  split
  · exact sat_lift fun l' h => putCells_desc h
  · exact sat_ite (fun h => putRows_desc (by simpa using h) hg.1 hg.2 _ _ _) (fun _ => sat_fail)
  · exact sat_fail

theorem setCells_size (b : Nat) : ∀ (vs : List Value) (o : Nat) (w : World), (w.setCells b o vs).heap.size = w.heap.size
  | [], _, _ => rfl
  | v :: r, o, w => by rw [World.setCells, setCells_size b r, World.size_setCell]
theorem setCells_block (b : Nat) : ∀ (vs : List Value) (o : Nat) (w : World) (k : Nat), k ≠ b → (w.setCells b o vs).heap[k]? = w.heap[k]?
  | [], _, _, _, _ => rfl
  | v :: r, o, w, k, h => by rw [World.setCells, setCells_block b r _ _ k h]; exact Below.heap_setCell w ⟨b, o, none⟩ v k h
theorem setCells_os (b : Nat) : ∀ (vs : List Value) (o : Nat) (w : World), (w.setCells b o vs).os = w.os ∧ (w.setCells b o vs).tape = w.tape ∧ (w.setCells b o vs).output = w.output
  | [], _, _ => ⟨rfl, rfl, rfl⟩
  | v :: r, o, w => by
    rw [World.setCells]
    exact setCells_os b r (o + 1) _

theorem Lf.ok_conc {l : Lf} (h : l.ok = true) (ρ : Nat → Loc) : (l.conc ν ρ).oneCell' = true := by
  cases l <;> first | rfl | exact h

theorem CBlk.store {r : Loc} {cs cs' : List (Option Lf)} {p : Nat} {xs : List Lf} (h : CBlk ν ρ w r true cs) (hd : Desc ν cs cs' p xs) (hg : ∀ x ∈ xs, x.good ν) (hok : ∀ x ∈ xs, x.ok = true) :
    (storeCells ⟨r.blk, r.off + p, none⟩ (xs.map (Lf.conc ν ρ))).run P w = .ok () (w.setCells r.blk (r.off + p) (xs.map (Lf.conc ν ρ))) ∧
    CBlk ν ρ (w.setCells r.blk (r.off + p) (xs.map (Lf.conc ν ρ))) r true cs' := by
  have hroom : ∀ k, k < xs.length → p + k < cs.length := fun k hk => by
    have := hd.room (by intro e; subst e; simp at hk)
    omega
  have hex : ∀ k, k < xs.length → (w.cell? ⟨r.blk, r.off + p + k, none⟩).isSome = true ∧ w.frozen? ⟨r.blk, r.off + p + k, none⟩ = false := fun k hk => by
    have := h.own rfl (p + k) (hroom k hk)
    rwa [← Nat.add_assoc] at this
  refine ⟨?_, h.nil, ?_, ?_, ?_⟩
  · have := run_storeCells_cells (P := P) r.blk (r.off + p) (xs.map (Lf.conc ν ρ)) 0 w (by simpa using fun k hk => (hex k hk).1) (by simpa using fun k hk => (hex k hk).2)
      (fun v hv => by obtain ⟨l, hl, rfl⟩ := List.mem_map.1 hv; exact Lf.ok_conc (hok l hl) ρ)
    simpa using this
  · rw [setCells_size]; exact h.lt
  · intro i l hl
    by_cases hi : p ≤ i ∧ i < p + xs.length
    · obtain ⟨k, hk⟩ : ∃ k, i = p + k := ⟨i - p, by omega⟩
      have hkl : k < xs.length := by omega
      have hlike := hd.inn i l hl k xs[k] (List.getElem?_eq_getElem hkl) hk
      refine ⟨hlike.2 (hg _ (List.getElem_mem hkl)), ?_⟩
      have := World.cell?_setCells_in r.blk (xs.map (Lf.conc ν ρ)) (r.off + p) w (by simpa using fun k hk => (hex k hk).1) k (by simpa using hkl)
      rw [hk, ← Nat.add_assoc, this, hlike.1 ρ]
      simp
    · obtain ⟨old, ho, hlike⟩ := hd.out i l hl (by omega)
      have := h.cell i old ho
      refine ⟨hlike.2 this.1, ?_⟩
      rw [World.cell?_setCells_out _ _ _ _ _ (fun _ _ => by simp; omega), this.2, hlike.1 ρ]
  · intro _ i hi
    rw [World.frozen?_setCells]
    have hi' : i < cs.length := by have := hd.len; omega
    have := h.own rfl i hi'
    refine ⟨?_, this.2⟩
    by_cases hi2 : p ≤ i ∧ i < p + xs.length
    · obtain ⟨k, hk⟩ : ∃ k, i = p + k := ⟨i - p, by omega⟩
      have hkl : k < xs.length := by omega
      have := World.cell?_setCells_in r.blk (xs.map (Lf.conc ν ρ)) (r.off + p) w (by simpa using fun k hk => (hex k hk).1) k (by simpa using hkl)
      rw [hk, ← Nat.add_assoc, this]
      rfl
    · rw [World.cell?_setCells_out _ _ _ _ _ (fun _ _ => by simp; omega)]
      exact this.1
end
end Go.Sx
