/- The evaluator's arithmetic agrees with the model's. -/
import Derived.Test.YtacciadcmiiimaaSyHoare
import Derived.ChangeKeysEq
namespace Go.Sx
section
variable {P : Program} {F : FEnv} {ν : Nat → DV} {ρ : Nat → Loc} {w : World}

theorem A.z_eq {a : A} {x : Int} (h : a = .z x) : a.int ν = x := by subst h; rfl

theorem evBin_sat {op : BinOp} {k : IntKind} {a b : A} (h1 : op ≠ .shl) (h2 : op ≠ .shr) (t : TypeId) :
    M.sat F ν (evBin op k a b) (fun l => l.good ν ∧ (binOp op t (.int k (a.int ν)) (.int k (b.int ν))).run P w = .ok (l.conc ν ρ) w) := by
  unfold evBin
  split
  all_goals first
    | (refine sat_bind oweNe0_sat fun _ h0 => sat_pure ?_; try simp only [A.int_z] at h0 ⊢
       simp [binOp, Op.intDiv, h0, Lf.conc])
    | (refine sat_bind oweNe0_sat fun _ h0 => sat_bind (sat_emit (Q := fun r => r.int ν = _) fun r h => A.int_of_den h) fun r hr => sat_pure ?_
       simp [binOp, Op.intDiv, h0, Lf.conc, hr])
    | (refine sat_bind (sat_emit (Q := fun r => r.int ν = _) fun r h => A.int_of_den h) fun r hr => sat_pure ?_
       simp [binOp, Op.intArith, Op.intBits, Lf.conc, hr, iland, ilor, ilxor, ilandNot, bitsOf])
    | (refine sat_bind (sat_emit (Q := fun r => r.bool ν = _) fun r h => A.bool_of_den h) fun r hr => sat_pure ?_
       simp [binOp, Op.intCmp, Lf.conc, hr])
    | (refine sat_pure ?_; simp [binOp, Op.intArith, Op.intBits, Op.intCmp, Lf.conc, iland, ilor, ilxor, ilandNot, bitsOf]; done)
    | (refine sat_pure ⟨trivial, ?_⟩; simp [binOp, Op.intCmp, Lf.conc]; rfl)
    | exact sat_fail

theorem evShift_sat {op : BinOp} {k yk : IntKind} {a b : A} (t : TypeId) :
    M.sat F ν (evShift op k a b) (fun l => l.good ν ∧ (binOp op t (.int k (a.int ν)) (.int yk (b.int ν))).run P w = .ok (l.conc ν ρ) w) := by
  unfold evShift
  split
  · refine sat_bind oweGe0_sat fun _ h0 => sat_pure ?_
    try simp only [A.int_z] at h0 ⊢
    simp [binOp, Op.shift, Lf.conc, ishl, Int.not_lt.2 h0]
  · refine sat_bind oweGe0_sat fun _ h0 => sat_pure ?_
    try simp only [A.int_z] at h0 ⊢
    simp [binOp, Op.shift, Lf.conc, ishr, Int.not_lt.2 h0]
  · refine sat_bind oweGe0_sat fun _ h0 => sat_bind (sat_emit (Q := fun r => r.int ν = _) fun r h => A.int_of_den h) fun r hr => sat_pure ?_
    simp [binOp, Op.shift, Lf.conc, ishl, Int.not_lt.2 h0, hr]
  · refine sat_bind oweGe0_sat fun _ h0 => sat_bind (sat_emit (Q := fun r => r.int ν = _) fun r h => A.int_of_den h) fun r hr => sat_pure ?_
    simp [binOp, Op.shift, Lf.conc, ishr, Int.not_lt.2 h0, hr]
  · exact sat_fail

theorem tk_spec {t : TypeId} {k : TK} (h : tk P t = some k) : ∃ d, P.underlying t = some d ∧ tkOf d = k := by
  unfold tk at h
  cases hu : P.underlying t with
  | none => simp [hu] at h
  | some d => simp [hu] at h; exact ⟨d, rfl, h⟩
theorem tk_int {t : TypeId} {k : IntKind} (h : tk P t = some (.int k)) : P.underlying t = some (.int k) := by
  obtain ⟨d, hd, hk⟩ := tk_spec h
  cases d <;> simp [tkOf] at hk
  exact hk ▸ hd
theorem tk_bool {t : TypeId} (h : tk P t = some .bool) : P.underlying t = some .bool := by
  obtain ⟨d, hd, hk⟩ := tk_spec h
  cases d <;> simp [tkOf] at hk
  exact hd
theorem tk_arr {t : TypeId} {n e : Nat} (h : tk P t = some (.arr n e)) : P.underlying t = some (.array n e) := by
  obtain ⟨d, hd, hk⟩ := tk_spec h
  cases d <;> simp [tkOf] at hk
  obtain ⟨rfl, rfl⟩ := hk
  exact hd
theorem tk_struct {t : TypeId} {l : List (Nat × Nat)} (h : tk P t = some (.struct l)) : ∃ fs, P.underlying t = some (.struct fs) ∧ l = fs.toList.map fun f => (f.offset, f.type) := by
  obtain ⟨d, hd, hk⟩ := tk_spec h
  cases d <;> simp [tkOf] at hk
  exact ⟨_, hd, hk.symm⟩

theorem evBoolOp_sat {op : BinOp} {a b : A} (t : TypeId) (ht : P.underlying t = some .bool) :
    M.sat F ν (evBoolOp op a b) (fun l => l.good ν ∧ (binOp op t (.bool (a.bool ν)) (.bool (b.bool ν))).run P w = .ok (l.conc ν ρ) w) := by
  unfold evBoolOp
  split
  · refine sat_pure ?_
    simp [binOp, Op.equal, Op.maxDepth, run_equalIn_bool' w 9999 t _ _ ht, Lf.conc]
  · refine sat_pure ?_
    simp [binOp, Op.equal, Op.maxDepth, run_equalIn_bool' w 9999 t _ _ ht, Lf.conc, bne]
  · refine sat_bind (sat_emit (Q := fun r => r.bool ν = _) fun r h => A.bool_of_den h) fun r hr => sat_pure ?_
    simp [binOp, Op.equal, Op.maxDepth, run_equalIn_bool' w 9999 t _ _ ht, Lf.conc, hr]
  · refine sat_bind (sat_emit (Q := fun r => r.bool ν = _) fun r h => A.bool_of_den h) fun r hr => sat_pure ?_
    simp [binOp, Op.equal, Op.maxDepth, run_equalIn_bool' w 9999 t _ _ ht, Lf.conc, hr, bne]
  · exact sat_fail

theorem evUn_sat {op : UnOp} {x : Lf} : M.sat F ν (evUn op x) (fun l => l.good ν ∧ (Op.unary op (x.conc ν ρ)).run P w = .ok (l.conc ν ρ) w) := by
  unfold evUn
  split
  · exact sat_pure (by simp [Op.unary, Op.intArith, Lf.conc])
  · exact sat_bind (sat_emit (Q := fun r => r.int ν = _) fun r h => A.int_of_den h) fun r hr => sat_pure (by simp [Op.unary, Op.intArith, Lf.conc, hr])
  · exact sat_pure (by simp [Op.unary, Op.intBits, Lf.conc, ilxor, bitsOf])
  · exact sat_bind (sat_emit (Q := fun r => r.int ν = _) fun r h => A.int_of_den h) fun r hr => sat_pure (by simp [Op.unary, Op.intBits, Lf.conc, hr, ilxor, bitsOf])
  · exact sat_bind mkNot_sat fun r hr => sat_pure (by simp [Op.unary, Lf.conc, hr])
  · exact sat_fail

theorem evConv_sat {s d : TypeId} {x : Lf} : M.sat F ν (evConv P s d x) (fun l => l.good ν ∧ (convert s d (x.conc ν ρ)).run P w = .ok (l.conc ν ρ) w) := by
  unfold evConv
  refine sat_bind (R := fun k => tk P s = some k) (sat_lift fun a h => h) fun ks hs => ?_
  refine sat_bind (R := fun k => tk P d = some k) (sat_lift fun a h => h) fun kd hd => ?_
  obtain ⟨ds, hds, _⟩ := tk_spec hs
  split
  · refine sat_pure ?_
    simp [convert, run_underlying hds, run_underlying (tk_int hd), Conv.intToInt, Lf.conc]
  · exact sat_bind (sat_emit (Q := fun r => r.int ν = _) fun r h => A.int_of_den h) fun r hr => sat_pure (by
      simp [convert, run_underlying hds, run_underlying (tk_int hd), Conv.intToInt, Lf.conc, hr])
  · exact sat_fail
end
end Go.Sx
