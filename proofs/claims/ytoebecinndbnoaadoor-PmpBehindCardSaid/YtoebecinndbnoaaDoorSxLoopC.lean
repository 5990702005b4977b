/- A loop as a function of its own: the theorem. -/
import Derived.Test.YtoebecinndbnoaaDoorSxLoopB
namespace Go.Sx
open Go.RowKit
section
variable {P : Program} {I : World → Prop} {S : Sigs} {F : FEnv} {W : Nat → Prop} {w0 : World}

theorem obLp_sat {ν : Nat → DV} {l : LR} : M.sat F ν (obLp l) (fun _ => LoopSound F l) := by
  intro n u n' e d h _ hd
  unfold obLp at h
  simp only [Option.some.injEq, Prod.mk.injEq] at h
  obtain ⟨_, _, _, rfl⟩ := h
  exact hd (.lp l) (by simp)
theorem obLps_sat {ν : Nat → DV} : ∀ (ls : List LR), M.sat F ν (obLps ls) (fun _ => ∀ l ∈ ls, LoopSound F l)
  | [] => sat_pure fun l hl => by cases hl
  | l :: r => by
    unfold obLps
    refine sat_bind obLp_sat fun _ h1 => sat_mono (obLps_sat r) fun _ h2 x hx => ?_
    rcases List.mem_cons.1 hx with rfl | hx
    · exact h1
    · exact h2 x hx

theorem beqAs_den {ν : Nat → DV} : ∀ {as bs : List A}, beqAs as bs = true → as.map (A.den ν) = bs.map (A.den ν)
  | [], [], _ => rfl
  | a :: l, b :: l', h => by
    simp only [beqAs, Bool.and_eq_true] at h
    simp [A.beq_den h.1 ν, beqAs_den h.2]
  | [], _ :: _, h => by simp [beqAs] at h
  | _ :: _, [], h => by simp [beqAs] at h
theorem beqAs_len : ∀ {as bs : List A}, beqAs as bs = true → as.length = bs.length
  | [], [], _ => rfl
  | a :: l, b :: l', h => by
    simp only [beqAs, Bool.and_eq_true] at h
    simp [beqAs_len h.2]
  | [], _ :: _, h => by simp [beqAs] at h
  | _ :: _, [], h => by simp [beqAs] at h

/-- What comes of the loop's function at its place. -/
structure AtOK (F : FEnv) (ν : Nat → DV) (D B : List Nat) (sx : St) (l : LR) (args : List A) (ks : List K) (x : X) : Prop where
  pre : ((F l.fid (args.map (A.den ν))).getD 0 default).toB = true
  out : ∃ (z : St) (bs : List A) (ka : A), fitSt D B sx z = some bs ∧ knownLe z.sl sx.sl = true ∧ knownHeap z.hp sx.hp = true ∧
    (∀ (j : Nat) (k : K), ks[j]? = some k → ka.int ν = (j : Int) → x.sel ν = (k, z)) ∧
    (∀ os : List DV, os.length = l.outs.length → (F l.fid (args.map (A.den ν))).drop 1 = os → ∃ h t, os = h :: t ∧ ka.den ν = h ∧ bs.map (A.den ν) = t)

theorem evLoopAt_sat {ν : Nat → DV} {D B : List Nat} {sx : St} {ins : List A} {l : LR} {ks : List K} :
    M.sat F ν (evLoopAt l.fid D B sx ins l ks) (AtOK F ν D B sx l (l.inv.map A.r ++ ins) ks) := by
  unfold evLoopAt
  refine sat_bind (sat_emit (Q := fun r => r.den ν = (F l.fid ((l.inv.map A.r ++ ins).map (A.den ν))).getD 0 default) fun r h => h) fun p hp => ?_
  refine sat_bind (sat_owe (Q := fun _ => p.bool ν = true) fun h => h) fun _ hpre => ?_
  refine sat_bind (callOuts_sat l.outs.length 1) fun os hos => ?_
  refine sat_ite (fun _ => sat_fail) (fun hne => ?_)
  have hout : l.outs ≠ [] := fun h => hne (by rw [h]; rfl)
  cases hfit : fitSt D B sx (fillSt D B os.tail sx) with
  | none => exact sat_fail
  | some bs =>
    refine sat_ite (fun hc => ?_) (fun _ => sat_fail)
    simp only [Bool.and_eq_true] at hc
    refine sat_mono (toX_sat ks 0) fun x hx => ⟨by rw [← hp]; exact hpre, fillSt D B os.tail sx, bs, os.headD default, hfit, hc.1.2, hc.2, fun j k hk hka => hx j k hk (by simpa using hka), fun vs hvl hvs => ?_⟩
    have hbs : bs.map (A.den ν) = os.tail.map (A.den ν) := beqAs_den hc.1.1
    have hall : os.map (A.den ν) = vs := by
      apply List.ext_getElem?
      intro i
      by_cases hi : i < os.length
      · rw [List.getElem?_map, List.getElem?_eq_getElem hi]
        simp only [Option.map_some]
        rw [hos.2 i _ (List.getElem?_eq_getElem hi), ← hvs, List.getElem?_drop]
        have hlen : 1 + i < (F l.fid ((l.inv.map A.r ++ ins).map (A.den ν))).length := by
          have := congrArg List.length hvs
          simp only [List.length_drop] at this
          have := hos.1
          omega
        rw [List.getD_eq_getElem?_getD, List.getElem?_eq_getElem hlen]
        rfl
      · rw [List.getElem?_eq_none (by simpa using hi), List.getElem?_eq_none (by have := hos.1; omega)]
    cases os with
    | nil => exact absurd (List.eq_nil_of_length_eq_zero (by simpa using hos.1.symm)) hout
    | cons o os =>
      simp only [List.map_cons] at hall
      exact ⟨o.den ν, os.map (A.den ν), hall.symm, rfl, by simpa using hbs⟩

theorem idsFrom_den {ν : Nat → DV} (g : Nat → DV) : ∀ (k n j : Nat), (∀ i, i < k → ν (n + i) = g (j + i)) → (idsFrom n k).map (A.den ν) = (List.range' j k).map g
  | 0, _, _, _ => rfl
  | k + 1, n, j, h => by
    rw [List.range'_succ]
    simp only [idsFrom, List.map_cons]
    rw [idsFrom_den g k (n + 1) (j + 1) (fun i hi => by have := h (i + 1) (by omega); rwa [show n + (i + 1) = n + 1 + i from by omega, show j + (i + 1) = j + 1 + i from by omega] at this)]
    have := h 0 (by omega)
    simp only [Nat.add_zero] at this
    rw [show A.den ν (.r n) = ν n from rfl, this]

theorem range_getD (xs : List DV) (k : Nat) (h : xs.length = k) : (List.range' 0 k).map (fun i => xs.getD i default) = xs := by
  apply List.ext_getElem?
  intro i
  by_cases hi : i < k
  · rw [List.getElem?_map, List.getElem?_range' (by omega)]
    simp [List.getElem?_eq_getElem (show i < xs.length from by omega)]
  · rw [List.getElem?_eq_none (by simpa using hi), List.getElem?_eq_none (by omega)]

theorem evSymWith_ok {ν : Nat → DV} {ev : St → M X} {b : Code} {fid : Nat} {D B : List Nat} {sx : St} {k : Nat} {s : St}
    (hev : ∀ (ν' : Nat → DV) (s' : St), M.sat F ν' (ev s') (fun x => ∀ ρ a w, RR ν' W w0 ρ ⟨s', []⟩ a w → b.wp P (XPost ν' W w0 x) a w)) :
    M.sat F ν (evSymWith ev fid D B sx k s) (fun z => ∀ ρ a w, RR ν W w0 ρ ⟨s, []⟩ a w → LoopRun P b (XPost ν W w0 z) a w) := by
  intro n z n' e' d' h hsat hob
  unfold evSymWith at h
  split at h
  · cases h
  rename_i ins hins
  split at h
  · cases h
  rename_i ps hps
  split at h
  · cases h
  rename_i r _ e d hround
  generalize hl : lrOf fid n k e d r (slotTypes D 0 sx.sl ++ heapTypes B 0 sx.hp) = l at h
  have l1 : l.fid = fid := by subst hl; rfl
  have l2 : l.n = n := by subst hl; rfl
  have l3 : l.k = k := by subst hl; rfl
  have l4 : l.nodes = e := by subst hl; rfl
  have l5 : l.owes = ndsOf d := by subst hl; rfl
  have l6 : l.c = r.c := by subst hl; rfl
  have l7 : l.nx = r.nx := by subst hl; rfl
  have l8 : l.outs = r.outs := by subst hl; rfl
  have l9 : l.ts = stTypes D B sx := by subst hl; rfl
  clear hl
  split at h
  rotate_left
  · cases h
  rename_i hchk
  simp only [Bool.and_eq_true] at hchk
  obtain ⟨⟨⟨⟨⟨hb1, hb2⟩, hpsid⟩, hinslen⟩, hwf⟩, hnxlen⟩ := hchk
  have hinslen := Nat.eq_of_beq_eq_true hinslen
  have hnxlen := Nat.eq_of_beq_eq_true hnxlen
  -- what a round says, whatever goes round
  have hrnd : ∀ xs : List DV, xs.length = k → (∀ q ∈ l.owes, Nd.holds (l.env F ν xs) q) → (∀ q ∈ lpsOf d, LoopSound F q) → RoundOK P (l.env F ν xs) W w0 b D B sx r := by
    intro xs hx ho hlp
    obtain ⟨_, _, hS⟩ := LR.env_spec (F := F) (l := l) ν (xs := xs) (by rw [l3]; exact hx) (by rw [l2, l3, l4]; exact hwf)
    refine evRound_sat (hev (l.env F ν xs) sx) (n + k) r _ e d hround (by rw [← l4]; exact hS) ?_
    have key : ∀ (d : List Ob), (∀ q ∈ ndsOf d, Nd.holds (l.env F ν xs) q) → (∀ q ∈ lpsOf d, LoopSound F q) → ∀ q ∈ d, Ob.holds F (l.env F ν xs) q := by
      intro d
      induction d with
      | nil => intro _ _ q hq; cases hq
      | cons o d ih =>
        intro h1 h2 q hq
        cases o with
        | nd o =>
          rcases List.mem_cons.1 hq with rfl | hq
          · exact h1 o (by simp [ndsOf])
          · exact ih (fun q hq => h1 q (by simp [ndsOf, hq])) h2 q hq
        | lp o =>
          rcases List.mem_cons.1 hq with rfl | hq
          · exact h2 o (by simp [lpsOf])
          · exact ih h1 (fun q hq => h2 q (by simp [lpsOf, hq])) q hq
    exact key d (by rw [← l5]; exact ho) hlp
  have hmain : M.sat F ν (lrGo fid D B sx ins d l r.ks) (fun x => (∀ q ∈ lpsOf d, LoopSound F q) ∧ LoopSound F l ∧ AtOK F ν D B sx l (l.inv.map A.r ++ ins) r.ks x) := by
    unfold lrGo
    refine sat_bind (obLps_sat (lpsOf d)) fun _ h1 => sat_bind obLp_sat fun _ h2 => ?_
    rw [← l1]
    exact sat_mono evLoopAt_sat fun x hx => ⟨h1, h2, hx⟩
  obtain ⟨hlps, ⟨μ, hμ⟩, hA⟩ := hmain n z n' e' d' h hsat hob
  intro ρ a w hrr
  have hpsden : ∀ xs : List DV, xs.length = k → ps.map (A.den (l.env F ν xs)) = xs := by
    intro xs hx
    obtain ⟨_, h2, _⟩ := LR.env_spec (F := F) (l := l) ν (xs := xs) (by rw [l3]; exact hx) (by rw [l2, l3, l4]; exact hwf)
    rw [beqAs_den hpsid, idsFrom_den (fun i => xs.getD i default) k n 0 (fun i hi => by rw [← l2, h2 i (by rw [l3]; exact hi)]; simp)]
    exact range_getD xs k hx
  have hold : ∀ xs : List DV, xs.length = k → ∀ i, i < n → l.env F ν xs i = ν i := by
    intro xs hx
    obtain ⟨h1, _, _⟩ := LR.env_spec (F := F) (l := l) ν (xs := xs) (by rw [l3]; exact hx) (by rw [l2, l3, l4]; exact hwf)
    intro i hi; exact h1 i (by rw [l2]; exact hi)
  -- the loop, from a round's head
  have main : ∀ (m : Nat) (xs : List DV), xs.length = k → μ (l.inv.map ν ++ xs) < m → ((F l.fid (l.inv.map ν ++ xs)).getD 0 default).toB = true →
      F l.fid (l.inv.map ν ++ xs) = F l.fid ((l.inv.map A.r ++ ins).map (A.den ν)) →
      ∀ ρ a w, RR (l.env F ν xs) W w0 ρ ⟨sx, []⟩ a w → LoopRun P b (XPost ν W w0 z) a w := by
    intro m
    induction m with
    | zero => intro xs _ h; omega
    | succ m ih =>
      intro xs hx hm hpre hF ρ a w hrr
      obtain ⟨g1, g2, g3⟩ := hμ ν xs (by rw [l3]; exact hx) hpre
      have hr := hrnd xs hx g1 hlps
      refine LoopRun.step (wp_mono (hr.run ρ a w hrr) fun e a' w' hp => ?_)
      obtain ⟨hk', ρ', hr'⟩ := hp
      cases hn : (r.x.sel (l.env F ν xs)).1.isNormal with
      | true =>
        have he := K.is_normal hk' hn
        subst he
        have hc : l.c.bool (l.env F ν xs) = true := by rw [l6, hr.cond, hn]
        obtain ⟨h1, h2, h3⟩ := g2 hc
        obtain ⟨so, h4, h5⟩ := hr.next hn
        have hxs' : (l.nx.map (A.den (l.env F ν xs))).length = k := by rw [l7]; simpa using hnxlen
        refine ih _ hxs' (by omega) h1 (h2.trans hF) ρ' a' w' ?_
        refine RR.fit (n := n) (fun i hi => by rw [hold _ hxs' i hi, hold xs hx i hi]) h5 hps hb1 hb2 (knownLe_refl _) (knownHeap_refl _) (PEq.of_den (fitSt_len h5) ?_) (h4 ρ' a' w' hr')
        rw [hpsden _ hxs', l7]
      | false =>
        have hne := K.is_not hk' hn
        have hc : l.c.bool (l.env F ν xs) = false := by rw [l6, hr.cond, hn]
        have hF2 := g3 hc
        obtain ⟨i, as, h1, h2, hh, t, h3, h4, h5⟩ := hr.out hn
        obtain ⟨zf, bs, ka, f1, f2, f3, f4, f5⟩ := hA.out
        rw [hF] at hF2
        obtain ⟨h6, t6, e6, e7, e8⟩ := f5 _ (by simpa using hF2.len) rfl
        rw [e6, l8, h3, l9] at hF2
        simp only [List.map_cons, TEq, if_true] at hF2
        have hka : ka.int ν = (i : Int) := by
          have : (ka.den ν).toI = (hh.den (l.env F ν xs)).toI := by rw [e7, hF2.1]
          rw [← h4]; simp [A.int, this]
        have hsel := f4 i _ h1 hka
        have hpost : XPost ν W w0 z e a' w' := by
          unfold XPost
          rw [hsel]
          refine ⟨hk', ρ', ?_⟩
          refine RR.fit (n := n) (ν1 := l.env F ν xs) (fun i hi => (hold xs hx i hi).symm) h2 f1 hb1 hb2 f2 f3 ?_ hr'
          exact PEq.trans_teq h5 (by rw [e8]; exact hF2.2)
        cases e <;> first | exact absurd rfl hne | exact hpost
  have hx0 : (ins.map (A.den ν)).length = k := by simpa using hinslen
  have harg : (l.inv.map A.r ++ ins).map (A.den ν) = l.inv.map ν ++ ins.map (A.den ν) := by
    rw [List.map_append, List.map_map]
    rfl
  refine main (μ (l.inv.map ν ++ ins.map (A.den ν)) + 1) (ins.map (A.den ν)) hx0 (by omega) (by rw [← harg]; exact hA.pre) (by rw [harg]) ρ a w ?_
  refine RR.fit (n := n) (fun i hi => hold _ hx0 i hi) hins hps hb1 hb2 (knownLe_refl _) (knownHeap_refl _) (PEq.of_den (fitSt_len hins) ?_) hrr
  rw [hpsden _ hx0]

theorem evSym_ok {ν : Nat → DV} {ev : St → M X} {b : Code} {fid : Nat} {D : List Nat} {s : St}
    (hev : ∀ (ν' : Nat → DV) (s' : St), M.sat F ν' (ev s') (fun x => ∀ ρ a w, RR ν' W w0 ρ ⟨s', []⟩ a w → b.wp P (XPost ν' W w0 x) a w)) :
    M.sat F ν (evSym ev fid D s) (fun z => ∀ ρ a w, RR ν W w0 ρ ⟨s, []⟩ a w → LoopRun P b (XPost ν W w0 z) a w) := by
  intro n z n' e' d' h hsat hob
  unfold evSym at h
  simp only at h
  split at h
  · cases h
  · exact evSymWith_ok hev n z n' e' d' h hsat hob
end
end Go.Sx
