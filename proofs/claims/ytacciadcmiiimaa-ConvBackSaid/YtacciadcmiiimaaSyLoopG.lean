/- Any loop's function, by its rounds alone: it is none where the rounds never end, or ask for what is not. -/
import Derived.Test.YtacciadcmiiimaaSyTop
namespace Go.Sx

section
variable (w c : List DV → Bool) (nx out : List DV → List DV)

def liter : Nat → List DV → Option (List DV)
  | 0, _ => none
  | n + 1, s => if w s then (if c s then liter n (nx s) else some (out s)) else none
def lcnt : Nat → List DV → Nat
  | 0, _ => 0
  | n + 1, s => if c s then lcnt n (nx s) + 1 else 0

open Classical in
noncomputable def lfuel (s : List DV) : Nat := if h : ∃ n r, liter w c nx out n s = some r then Classical.choose h else 0
noncomputable def loopG (s : List DV) : Option (List DV) := liter w c nx out (lfuel w c nx out s) s

variable {w c : List DV → Bool} {nx out : List DV → List DV}

theorem liter_more : ∀ {n : Nat} {s r : List DV}, liter w c nx out n s = some r → liter w c nx out (n + 1) s = some r
  | 0, _, _, h => by cases h
  | n + 1, s, r, h => by
    simp only [liter] at h
    rw [liter]
    split at h
    · rename_i h1
      rw [if_pos h1]
      split at h
      · rename_i h2
        rw [if_pos h2]
        exact liter_more h
      · rename_i h2
        rw [if_neg h2]
        exact h
    · cases h
theorem liter_le {n m : Nat} {s r : List DV} (hl : n ≤ m) (h : liter w c nx out n s = some r) : liter w c nx out m s = some r := by
  induction hl with
  | refl => exact h
  | step _ ih => exact liter_more ih
theorem liter_one {n m : Nat} {s r r' : List DV} (h : liter w c nx out n s = some r) (h' : liter w c nx out m s = some r') : r = r' := by
  have h1 := liter_le (Nat.le_max_left n m) h
  have h2 := liter_le (Nat.le_max_right n m) h'
  exact Option.some.inj (h1.symm.trans h2)
theorem lcnt_one : ∀ {n m : Nat} {s r r' : List DV}, liter w c nx out n s = some r → liter w c nx out m s = some r' → lcnt c nx n s = lcnt c nx m s
  | 0, _, _, _, _, h, _ => by cases h
  | _ + 1, 0, _, _, _, _, h => by cases h
  | n + 1, m + 1, s, r, r', h, h' => by
    simp only [liter] at h h'
    simp only [lcnt]
    split at h
    · rename_i h1
      rw [if_pos h1] at h'
      split at h
      · rename_i h2
        rw [if_pos h2] at h'
        rw [if_pos h2, if_pos h2, lcnt_one h h']
      · rename_i h2
        rw [if_neg h2, if_neg h2]
    · cases h

theorem loopG_of {n : Nat} {s r : List DV} (h : liter w c nx out n s = some r) : loopG w c nx out s = some r := by
  have he : ∃ n r, liter w c nx out n s = some r := ⟨n, r, h⟩
  unfold loopG lfuel
  rw [dif_pos he]
  obtain ⟨r', hr'⟩ := Classical.choose_spec he
  rw [hr', liter_one hr' h]
theorem loopG_next {s : List DV} (h1 : w s = true) (h2 : c s = true) : loopG w c nx out s = loopG w c nx out (nx s) := by
  cases h : loopG w c nx out (nx s) with
  | some r => exact loopG_of (n := lfuel w c nx out (nx s) + 1) (by simp only [liter, h1, h2, if_true]; exact h)
  | none =>
    cases h' : loopG w c nx out s with
    | none => rfl
    | some r =>
      unfold loopG at h'
      cases hn : lfuel w c nx out s with
      | zero => rw [hn] at h'; cases h'
      | succ n =>
        rw [hn] at h'
        simp only [liter, h1, h2, if_true] at h'
        rw [loopG_of h'] at h
        cases h
theorem loopG_last {s : List DV} (h1 : w s = true) (h2 : c s = false) : loopG w c nx out s = some (out s) := loopG_of (n := 1) (by simp [liter, h1, h2])
theorem loopG_w {s r : List DV} (h : loopG w c nx out s = some r) : w s = true := by
  unfold loopG at h
  cases hn : lfuel w c nx out s with
  | zero => rw [hn] at h; cases h
  | succ n =>
    rw [hn] at h
    simp only [liter] at h
    split at h
    · assumption
    · cases h
noncomputable def lmu (w c : List DV → Bool) (nx out : List DV → List DV) (s : List DV) : Nat := lcnt c nx (lfuel w c nx out s) s
theorem lmu_next {s r : List DV} (h : loopG w c nx out s = some r) (h2 : c s = true) : lmu w c nx out (nx s) < lmu w c nx out s := by
  have h1 := loopG_w h
  have h3 : loopG w c nx out (nx s) = some r := (loopG_next h1 h2).symm.trans h
  unfold lmu
  unfold loopG at h h3
  cases hn : lfuel w c nx out s with
  | zero => rw [hn] at h; cases h
  | succ n =>
    rw [hn] at h
    simp only [liter, h1, h2, if_true] at h
    simp only [lcnt, h2, if_true]
    rw [lcnt_one h3 h]
    omega
end

/-- As the kinds say. -/
def nrmsAt : Nat → List Ty → List DV → List DV
  | _, [], _ => []
  | i, t :: ts, ds => nrm t (ds.getD i default) :: nrmsAt (i + 1) ts ds
def nrms (ts : List Ty) (ds : List DV) : List DV := nrmsAt 0 ts ds

theorem nrmsAt_get : ∀ (i : Nat) (ts : List Ty) (ds : List DV) (j : Nat), (nrmsAt i ts ds)[j]? = ts[j]?.map fun t => nrm t (ds.getD (i + j) default)
  | _, [], _, j => by simp [nrmsAt]
  | i, t :: ts, ds, 0 => by simp [nrmsAt]
  | i, t :: ts, ds, j + 1 => by
    simp only [nrmsAt, List.getElem?_cons_succ]
    rw [nrmsAt_get (i + 1) ts ds j, show i + 1 + j = i + (j + 1) from by omega]
theorem nrms_get (ts : List Ty) (ds : List DV) (j : Nat) : (nrms ts ds)[j]? = ts[j]?.map fun t => nrm t (ds.getD j default) := by
  unfold nrms
  rw [nrmsAt_get, Nat.zero_add]
theorem nrm_nrm (t : Ty) (d : DV) : nrm t (nrm t d) = nrm t d := by cases t <;> rfl
theorem nrm_eq {t : Ty} {d e : DV} (h : nrm t d = nrm t e) : t.eqAt d e := by
  cases t <;> simpa [nrm, Ty.eqAt] using h
theorem nrms_len (ts : List Ty) (ds : List DV) : (nrms ts ds).length = ts.length := by
  have key : ∀ (i : Nat) (ts : List Ty), (nrmsAt i ts ds).length = ts.length := fun i ts => by
    induction ts generalizing i with
    | nil => rfl
    | cons t ts ih => simp [nrmsAt, ih]
  exact key 0 ts
theorem nrms_nrms (ts : List Ty) (ds : List DV) : nrms ts (nrms ts ds) = nrms ts ds := by
  apply List.ext_getElem?
  intro j
  rw [nrms_get, nrms_get]
  cases h : ts[j]? with
  | none => rfl
  | some t =>
    simp only [Option.map_some, Option.some.injEq]
    rw [List.getD_eq_getElem?_getD, nrms_get, h]
    simp [nrm_nrm]
theorem teq_of_get : ∀ {ts : List Ty} {as bs : List DV}, as.length = ts.length → bs.length = ts.length →
    (∀ (j : Nat) (t : Ty), ts[j]? = some t → nrm t (as.getD j default) = nrm t (bs.getD j default)) → TEq ts as bs
  | [], [], [], _, _, _ => trivial
  | t :: ts, a :: as, b :: bs, h1, h2, h => by
    refine ⟨nrm_eq (by simpa using h 0 t rfl), teq_of_get (by simpa using h1) (by simpa using h2) fun j t' ht => ?_⟩
    have := h (j + 1) t' (by simpa using ht)
    simpa using this
  | [], _ :: _, _, h, _, _ => by simp at h
  | [], [], _ :: _, _, h, _ => by simp at h
  | _ :: _, [], _, h, _, _ => by simp at h
  | _ :: _, _ :: _, [], _, h, _ => by simp at h
theorem nrms_teq {ts : List Ty} {as bs : List DV} (h : nrms ts as = nrms ts bs) (h1 : as.length = ts.length) (h2 : bs.length = ts.length) : TEq ts as bs :=
  teq_of_get h1 h2 fun j t ht => by
    have := congrArg (fun l => l[j]?) h
    simp only [nrms_get, ht, Option.map_some, Option.some.injEq] at this
    exact this

/-- Its value as a list of values: does it end, and with what? -/
noncomputable def wrapG (ots : List Ty) (o : Option (List DV)) : List DV := .b o.isSome :: nrms ots (o.getD [])

/-- Any loop is told by its rounds. -/
theorem loop_ok {F : FEnv} {l : LR} {w c : List DV → Bool} {nx out : List DV → List DV} (tys : List Ty)
    (hF : ∀ ds, F l.fid ds = wrapG (.i :: l.ts) (loopG w c nx out (nrms tys ds)))
    (hlen : l.outs.length = l.ts.length + 1)
    (hw : ∀ ν xs, xs.length = l.k → owesB (l.env F ν xs) l.owes = w (nrms tys (l.inv.map ν ++ xs)))
    (hc : ∀ ν xs, xs.length = l.k → l.c.bool (l.env F ν xs) = c (nrms tys (l.inv.map ν ++ xs)))
    (hn : ∀ ν xs, xs.length = l.k → nrms tys (l.inv.map ν ++ l.nx.map (A.den (l.env F ν xs))) = nx (nrms tys (l.inv.map ν ++ xs)))
    (ho : ∀ ν xs, xs.length = l.k → nrms (.i :: l.ts) (l.outs.map (A.den (l.env F ν xs))) = out (nrms tys (l.inv.map ν ++ xs))) : LoopSound F l := by
  refine ⟨fun raw => lmu w c nx out (nrms tys raw), fun ν xs hx hp => ?_⟩
  rw [hF] at hp
  generalize hs : nrms tys (l.inv.map ν ++ xs) = s at *
  cases hl : loopG w c nx out s with
  | none => rw [hl] at hp; cases hp
  | some r =>
    have h1 := loopG_w hl
    refine ⟨owesB_holds (by rw [hw ν xs hx, hs]; exact h1), fun h2 => ?_, fun h2 => ?_⟩
    · rw [hc ν xs hx, hs] at h2
      have h3 := hn ν xs hx
      rw [hs] at h3
      rw [hF, hF, h3, hs, ← loopG_next h1 h2, hl]
      exact ⟨rfl, rfl, by show lmu w c nx out (nrms tys _) < lmu w c nx out (nrms tys _); rw [h3, hs]; exact lmu_next hl h2⟩
    · rw [hc ν xs hx, hs] at h2
      rw [hF, hs, loopG_last h1 h2]
      show TEq _ (nrms (.i :: l.ts) (out s)) _
      refine nrms_teq ?_ (by simp [nrms_len]) (by simpa using hlen)
      rw [nrms_nrms, ho ν xs hx, hs]
      have h4 := ho ν xs hx
      rw [hs] at h4
      rw [← h4, nrms_nrms]
end Go.Sx
