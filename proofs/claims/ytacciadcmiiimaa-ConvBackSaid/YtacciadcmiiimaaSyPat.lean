/- Patterns of states: holes, what fits them, where ways meet. Definitions alone. -/
import Derived.Test.YtacciadcmiiimaaSyDefs
namespace Go.Sx

def optAll {α : Type} (p : α → Bool) : Option α → Bool
  | some x => p x
  | none => true

def nth {α : Type} : List (Option α) → Nat → Option α
  | [], _ => none
  | x :: _, 0 => x
  | _ :: l, n + 1 => nth l n

/-! ### The holes filled -/
def A.inst (ops : List A) : A → A
  | .h j => ops.getD j default
  | a => a
def Off.inst (ops : List A) : Off → Off
  | .c n => .c n
  | .s b ix sz len => .s b (ix.inst ops) sz len
  | .v b ix sz a => .v b (ix.inst ops) sz (a.inst ops)
  | .d b ix sz len ix2 sz2 len2 => .d b (ix.inst ops) sz len (ix2.inst ops) sz2 len2
def Lf.inst (ops : List A) : Lf → Lf
  | .i k a => .i k (a.inst ops)
  | .b a => .b (a.inst ops)
  | .p blk off => .p blk (off.inst ops)
  | .gp g off => .gp g (off.inst ops)
  | x => x
def V1.inst (ops : List A) : V1 → V1
  | .one l => .one (l.inst ops)
  | .agg l => .agg (l.map (Lf.inst ops))
def V.inst (ops : List A) : V → V
  | .s v => .s (v.inst ops)
  | .t l => .t (l.map (V1.inst ops))
def Blk.inst (ops : List A) : Blk → Blk
  | .c o cs => .c o (cs.map (Option.map (Lf.inst ops)))
  | .v o ts a => .v o ts (a.inst ops)
def St.inst (ops : List A) (s : St) : St := ⟨s.sl.map (Option.map (V.inst ops)), s.hp.map (Option.map (Blk.inst ops))⟩

/-! ### The holes' kinds; p: what other operands may be -/
def A.tyOk (p : A → Bool) (tys : List Ty) (t : Ty) : A → Bool
  | .h j => optAll t.beq tys[j]? && decide (j < tys.length)
  | a => p a
def Off.tyOk (p : A → Bool) (tys : List Ty) : Off → Bool
  | .c _ => true
  | .s _ ix _ _ => ix.tyOk p tys .i
  | .v _ ix _ a => ix.tyOk p tys .i && a.tyOk p tys .l
  | .d _ ix _ _ ix2 _ _ => ix.tyOk p tys .i && ix2.tyOk p tys .i
def Lf.tyOk (p : A → Bool) (tys : List Ty) : Lf → Bool
  | .i _ a => a.tyOk p tys .i
  | .b a => a.tyOk p tys .b
  | .p _ off | .gp _ off => off.tyOk p tys
  | _ => true
def V1.tyOk (p : A → Bool) (tys : List Ty) (v : V1) : Bool := v.cells.all (Lf.tyOk p tys)
def V.tyOk (p : A → Bool) (tys : List Ty) : V → Bool
  | .s v => v.tyOk p tys
  | .t l => l.all (V1.tyOk p tys)
def Blk.tyOk (p : A → Bool) (tys : List Ty) : Blk → Bool
  | .c _ cs => cs.all (optAll (Lf.tyOk p tys))
  | .v _ _ a => a.tyOk p tys .l
def St.tyOk (p : A → Bool) (tys : List Ty) (s : St) : Bool := s.sl.all (optAll (V.tyOk p tys)) && s.hp.all (optAll (Blk.tyOk p tys))

/-! ### x says no more than y: its block j is y's block m[j] -/
def rnm (m : List Nat) (j : Nat) : Nat := m.getD j 0
def vBeq : Value → Value → Bool
  | .func (.func f) a b, .func (.func g) c d => Nat.beq f g && Nat.beq a.size 0 && Nat.beq b.size 0 && Nat.beq c.size 0 && Nat.beq d.size 0
  | .slice none 0 0, .slice none 0 0 => true
  | .nilFunc, .nilFunc => true
  | .nilIface, .nilIface => true
  | _, _ => false
def Lf.sub (m : List Nat) : Lf → Lf → Bool
  | .i k a, .i k' a' => kEq k k' && a.beq a'
  | .b a, .b a' => a.beq a'
  | .p k off, .p k' off' => Nat.beq (rnm m k) k' && off.beq off'
  | .gp g off, .gp g' off' => Nat.beq g g' && off.beq off'
  | .nilp, .nilp => true
  | .vec k, .vec k' => Nat.beq (rnm m k) k'
  | .fnp f bs, .fnp g cs => Nat.beq f g && natsEq (bs.map (rnm m)) cs
  | .v x, .v y => vBeq x y
  | _, _ => false
def Lfs.sub (m : List Nat) : List Lf → List Lf → Bool
  | [], [] => true
  | x :: l, y :: l' => x.sub m y && Lfs.sub m l l'
  | _, _ => false
def V1.sub (m : List Nat) : V1 → V1 → Bool
  | .one x, .one y => x.sub m y
  | .agg x, .agg y => Lfs.sub m x y
  | _, _ => false
def V1s.sub (m : List Nat) : List V1 → List V1 → Bool
  | [], [] => true
  | x :: l, y :: l' => x.sub m y && V1s.sub m l l'
  | _, _ => false
def V.sub (m : List Nat) : V → V → Bool
  | .s x, .s y => x.sub m y
  | .t x, .t y => V1s.sub m x y
  | _, _ => false
def slotsSub (m : List Nat) : List (Option V) → List (Option V) → Bool
  | [], [] => true
  | none :: l, _ :: l' => slotsSub m l l'
  | some x :: l, some y :: l' => x.sub m y && slotsSub m l l'
  | _, _ => false
def cellsSub (m : List Nat) : List (Option Lf) → List (Option Lf) → Bool
  | [], _ => true
  | none :: l, l' => cellsSub m l l'.tail
  | some x :: l, some y :: l' => x.sub m y && cellsSub m l l'
  | some _ :: _, _ => false
def LT.beq : LT → LT → Bool
  | .int k, .int k' => kEq k k'
  | .bool, .bool => true
  | .vec [t], .vec [u] => LT.beq t u
  | .vec [t, t2], .vec [u, u2] => LT.beq t u && LT.beq t2 u2
  | _, _ => false
def LTs.beq : List LT → List LT → Bool
  | [], [] => true
  | t :: l, u :: l' => t.beq u && LTs.beq l l'
  | _, _ => false
def Blk.sub (m : List Nat) : Blk → Blk → Bool
  | .c o cs, .c o' cs' => (!o || (o' && Nat.beq cs.length cs'.length)) && cellsSub m cs cs'
  | .v o ts a, .v o' ts' a' => (!o || o') && LTs.beq ts ts' && a.beq a'
  | _, _ => false
def heapSub (m : List Nat) (hp : List (Option Blk)) : Nat → List (Option Blk) → Bool
  | _, [] => true
  | j, none :: l => heapSub m hp (j + 1) l
  | j, some x :: l => (match nth hp (rnm m j) with | some y => x.sub m y | none => false) && heapSub m hp (j + 1) l
/-- Of the blocks from number j on: none but number i stands at place b. -/
def onlyAt (m : List Nat) (i b : Nat) : Nat → List (Option Blk) → Bool
  | _, [] => true
  | j, none :: l => onlyAt m i b (j + 1) l
  | j, some _ :: l => (Nat.beq j i || !Nat.beq (rnm m j) b) && onlyAt m i b (j + 1) l
def apartB (m : List Nat) (all : List (Option Blk)) : Nat → List (Option Blk) → Bool
  | _, [] => true
  | j, none :: l => apartB m all (j + 1) l
  | j, some x :: l => (!x.own || onlyAt m j (rnm m j) 0 all) && apartB m all (j + 1) l
def St.sub (m : List Nat) (x y : St) : Bool := slotsSub m x.sl y.sl && heapSub m y.hp 0 x.hp && apartB m x.hp 0 x.hp
/-- The first n blocks keep their numbers. -/
def keeps (m : List Nat) : Nat → Bool
  | 0 => true
  | n + 1 => keeps m n && Nat.beq (rnm m n) n

/-! ### A guess what fits (it is checked behind) -/
structure Gs where
  hs : List (Nat × A)
  ms : List (Nat × Nat)
def gA (g : Gs) : A → A → Gs
  | .h j, a => ⟨(j, a) :: g.hs, g.ms⟩
  | _, _ => g
def gOff (g : Gs) : Off → Off → Gs
  | .s _ ix _ _, .s _ ix' _ _ => gA g ix ix'
  | .v _ ix _ a, .v _ ix' _ a' => gA (gA g ix ix') a a'
  | .d _ ix _ _ ix2 _ _, .d _ ix' _ _ ix2' _ _ => gA (gA g ix ix') ix2 ix2'
  | _, _ => g
def gLf (g : Gs) : Lf → Lf → Gs
  | .i _ a, .i _ b => gA g a b
  | .b a, .b b => gA g a b
  | .p pb off, .p b off' => gOff ⟨g.hs, (pb, b) :: g.ms⟩ off off'
  | .gp _ off, .gp _ off' => gOff g off off'
  | .fnp _ bs, .fnp _ cs => ⟨g.hs, bs.zip cs ++ g.ms⟩
  | .vec pb, .vec b => ⟨g.hs, (pb, b) :: g.ms⟩
  | _, _ => g
def gLfs (g : Gs) : List Lf → List Lf → Gs
  | x :: l, y :: l' => gLfs (gLf g x y) l l'
  | _, _ => g
def gV1 (g : Gs) : V1 → V1 → Gs
  | .one x, .one y => gLf g x y
  | .agg x, .agg y => gLfs g x y
  | _, _ => g
def gV1s (g : Gs) : List V1 → List V1 → Gs
  | x :: l, y :: l' => gV1s (gV1 g x y) l l'
  | _, _ => g
def gV (g : Gs) : V → V → Gs
  | .s x, .s y => gV1 g x y
  | .t x, .t y => gV1s g x y
  | _, _ => g
def gSlots (g : Gs) : List (Option V) → List (Option V) → Gs
  | some x :: l, some y :: l' => gSlots (gV g x y) l l'
  | _ :: l, _ :: l' => gSlots g l l'
  | _, _ => g
def gCells (g : Gs) : List (Option Lf) → List (Option Lf) → Gs
  | some x :: l, some y :: l' => gCells (gLf g x y) l l'
  | _ :: l, _ :: l' => gCells g l l'
  | _, _ => g
def gBlk (g : Gs) : Blk → Blk → Gs
  | .c _ cs, .c _ cs' => gCells g cs cs'
  | .v _ _ a, .v _ _ a' => gA g a a'
  | _, _ => g
def gHeap (hp : List (Option Blk)) (g : Gs) : Nat → List (Option Blk) → Gs
  | _, [] => g
  | j, none :: l => gHeap hp g (j + 1) l
  | j, some x :: l =>
    match nth hp ((assoc g.ms j).getD j) with
    | some y => gHeap hp (gBlk g x y) (j + 1) l
    | none => gHeap hp g (j + 1) l
def holesOf (g : Gs) (n : Nat) : List A := (List.range n).map fun j => (assoc g.hs j).getD default
def mapOf (g : Gs) (n : Nat) : List Nat := (List.range n).map fun j => (assoc g.ms j).getD j
/-- What fills the n holes, and which blocks these are. -/
def guess (n : Nat) (pat act : St) : List A × List Nat :=
  let g := gHeap act.hp (gSlots ⟨[], []⟩ pat.sl act.sl) 0 pat.hp
  (holesOf g n, mapOf g pat.hp.length)

/-! ### Where ways meet: a pattern of both (it is checked behind) -/
structure Js where
  n : Nat
  tys : List Ty
  nb : Nat
  news : List (Option Blk)
  kills : List Nat
def Js.hole (j : Js) (t : Ty) : A × Js := (.h j.n, ⟨j.n + 1, t :: j.tys, j.nb, j.news, j.kills⟩)
def Js.vec (j : Js) (own : Bool) (ts : List LT) (b1 b2 : Nat) : Lf × Js :=
  (.vec j.nb, ⟨j.n + 1, .l :: j.tys, j.nb + 1, some (.v own ts (.h j.n)) :: j.news, if own then b1 :: b2 :: j.kills else j.kills⟩)
def joinLf (x y : St) (js : Js) (a b : Lf) : Option (Lf × Js) :=
  if a.beq b then some (a, js) else
  match a, b with
  | .i k _, .i k' _ => if kEq k k' then let h := js.hole .i; some (.i k h.1, h.2) else none
  | .b _, .b _ => let h := js.hole .b; some (.b h.1, h.2)
  | .vec b1, .vec b2 =>
    match nth x.hp b1, nth y.hp b2 with
    | some (.v o ts _), some (.v o' ts' _) => if LTs.beq ts ts' then some (js.vec (o && o') ts b1 b2) else none
    | _, _ => none
  | .v u, .v w => if vBeq u w then some (a, js) else none
  | _, _ => none
def joinLfs (x y : St) (js : Js) : List Lf → List Lf → Option (List Lf × Js)
  | [], [] => some ([], js)
  | a :: l, b :: l' =>
    match joinLf x y js a b with
    | none => none
    | some (c, j1) =>
      match joinLfs x y j1 l l' with
      | none => none
      | some (r, j2) => some (c :: r, j2)
  | _, _ => none
def joinV1 (x y : St) (js : Js) : V1 → V1 → Option (V1 × Js)
  | .one a, .one b => (joinLf x y js a b).map fun p => (.one p.1, p.2)
  | .agg a, .agg b => (joinLfs x y js a b).map fun p => (.agg p.1, p.2)
  | _, _ => none
def joinV1s (x y : St) (js : Js) : List V1 → List V1 → Option (List V1 × Js)
  | [], [] => some ([], js)
  | a :: l, b :: l' =>
    match joinV1 x y js a b with
    | none => none
    | some (c, j1) =>
      match joinV1s x y j1 l l' with
      | none => none
      | some (r, j2) => some (c :: r, j2)
  | _, _ => none
def joinV (x y : St) (js : Js) : V → V → Option (V × Js)
  | .s a, .s b => (joinV1 x y js a b).map fun p => (.s p.1, p.2)
  | .t a, .t b => (joinV1s x y js a b).map fun p => (.t p.1, p.2)
  | _, _ => none
def joinSlots (x y : St) (js : Js) : List (Option V) → List (Option V) → List (Option V) × Js
  | some a :: l, some b :: l' =>
    match joinV x y js a b with
    | some (c, j1) => let r := joinSlots x y j1 l l'; (some c :: r.1, r.2)
    | none => let r := joinSlots x y js l l'; (none :: r.1, r.2)
  | _ :: l, _ :: l' => let r := joinSlots x y js l l'; (none :: r.1, r.2)
  | l, _ => (l.map fun _ => none, js)
def joinCells (x y : St) (js : Js) : List (Option Lf) → List (Option Lf) → List (Option Lf) × Js
  | some a :: l, some b :: l' =>
    match joinLf x y js a b with
    | some (c, j1) => let r := joinCells x y j1 l l'; (some c :: r.1, r.2)
    | none => let r := joinCells x y js l l'; (none :: r.1, r.2)
  | _ :: l, _ :: l' => let r := joinCells x y js l l'; (none :: r.1, r.2)
  | l, _ => (l.map fun _ => none, js)
def joinBlk (x y : St) (js : Js) : Blk → Blk → Option (Blk × Js)
  | .c o cs, .c o' cs' => if Nat.beq cs.length cs'.length then let r := joinCells x y js cs cs'; some (.c (o && o') r.1, r.2) else none
  | .v o ts a, .v o' ts' a' =>
    if LTs.beq ts ts' then
      if a.beq a' then some (.v (o && o') ts a, js) else let h := js.hole .l; some (.v (o && o') ts h.1, h.2)
    else none
  | _, _ => none
def joinHeap (x y : St) (js : Js) : List (Option Blk) → List (Option Blk) → List (Option Blk) × Js
  | some a :: l, some b :: l' =>
    match joinBlk x y js a b with
    | some (c, j1) => let r := joinHeap x y j1 l l'; (some c :: r.1, r.2)
    | none => let r := joinHeap x y js l l'; (none :: r.1, r.2)
  | _ :: l, _ :: l' => let r := joinHeap x y js l l'; (none :: r.1, r.2)
  | l, [] => (l.map fun _ => none, js)
  | [], l' => (l'.map fun _ => none, js)
def memN (n : Nat) : List Nat → Bool
  | [] => false
  | x :: l => Nat.beq x n || memN n l
def blank (ks : List Nat) : Nat → List (Option Blk) → List (Option Blk)
  | _, [] => []
  | j, x :: l => (if memN j ks then none else x) :: blank ks (j + 1) l
structure Pat where
  st : St
  tys : List Ty
def joinPat (x y : St) : Pat :=
  let s := joinSlots x y ⟨0, [], max x.hp.length y.hp.length, [], []⟩ x.sl y.sl
  let h := joinHeap x y s.2 x.hp y.hp
  ⟨⟨s.1, blank h.2.kills 0 h.1 ++ h.2.news.reverse⟩, h.2.tys.reverse⟩

/-- What comes out where ways meet, by kinds. -/
def mergeAs (c : A) : List Ty → List A → List A → M (List A)
  | .i :: ts, a :: l, b :: l' => do
    let x ← mkIteI c a b
    let r ← mergeAs c ts l l'
    pure (x :: r)
  | .b :: ts, a :: l, b :: l' => do
    let x ← mkIteB c a b
    let r ← mergeAs c ts l l'
    pure (x :: r)
  | .l :: ts, a :: l, b :: l' => do
    let x ← mkIteL c a b
    let r ← mergeAs c ts l l'
    pure (x :: r)
  | [], [], [] => pure []
  | _, _, _ => M.fail

/-- Two states, one of which is: n0 blocks came in. -/
def mergeSt (n0 : Nat) (c : A) (x y : St) : M St :=
  let p := joinPat x y
  let gx := guess p.tys.length p.st x
  let gy := guess p.tys.length p.st y
  if p.st.tyOk (fun _ => true) p.tys && (p.st.inst gx.1).sub gx.2 x && (p.st.inst gy.1).sub gy.2 y && keeps gx.2 n0 && keeps gy.2 n0 && Nat.ble n0 p.st.hp.length then do
    let ops ← mergeAs c p.tys gx.1 gy.1
    pure (p.st.inst ops)
  else M.fail

/-! ### A round's pattern: slots D go round, and what some end says otherwise -/
def freshLf (s : St) (js : Js) : Lf → Option (Lf × Js)
  | .i k _ => let h := js.hole .i; some (.i k h.1, h.2)
  | .b _ => let h := js.hole .b; some (.b h.1, h.2)
  | .vec b =>
    match nth s.hp b with
    | some (.v o ts _) => some (js.vec o ts b b)
    | _ => none
  | _ => none
def freshLfs (s : St) (js : Js) : List Lf → Option (List Lf × Js)
  | [] => some ([], js)
  | a :: l =>
    match freshLf s js a with
    | none => none
    | some (c, j1) =>
      match freshLfs s j1 l with
      | none => none
      | some (r, j2) => some (c :: r, j2)
def freshV (s : St) (js : Js) : V → Option (V × Js)
  | .s (.one a) => (freshLf s js a).map fun p => (.s (.one p.1), p.2)
  | .s (.agg l) => (freshLfs s js l).map fun p => (.s (.agg p.1), p.2)
  | .t _ => none
def freshSlots (s : St) (D : List Nat) : Nat → Js → List (Option V) → List (Option V) × Js
  | _, js, [] => ([], js)
  | t, js, x :: l =>
    if memN t D then
      match x.bind (freshV s js) with
      | some (y, j1) => let r := freshSlots s D (t + 1) j1 l; (some y :: r.1, r.2)
      | none => let r := freshSlots s D (t + 1) js l; (none :: r.1, r.2)
    else let r := freshSlots s D (t + 1) js l; (x :: r.1, r.2)
def cellsOf : Option Blk → List (Option Lf)
  | some (.c _ cs) => cs
  | _ => []
def sameCell (x : Lf) : Option Lf → Bool
  | some y => x.beq y || (match x, y with | .v u, .v w => vBeq u w | _, _ => false)
  | none => false
def freshCells (s : St) (js : Js) (es : List (List (Option Lf))) : List (Option Lf) → List (Option Lf) × Js
  | [] => ([], js)
  | x :: l =>
    match x with
    | none => let r := freshCells s js (es.map List.tail) l; (none :: r.1, r.2)
    | some a =>
      if es.all (fun e => sameCell a e.head?.join) then let r := freshCells s js (es.map List.tail) l; (some a :: r.1, r.2)
      else
        match freshLf s js a with
        | some (y, j1) => let r := freshCells s j1 (es.map List.tail) l; (some y :: r.1, r.2)
        | none => let r := freshCells s js (es.map List.tail) l; (none :: r.1, r.2)
def freshHeap (s : St) (es : List St) : Nat → Js → List (Option Blk) → List (Option Blk) × Js
  | _, js, [] => ([], js)
  | j, js, x :: l =>
    match x with
    | some (.c o cs) => let u := freshCells s js (es.map fun e => cellsOf (nth e.hp j)) cs; let r := freshHeap s es (j + 1) u.2 l; (some (.c o u.1) :: r.1, r.2)
    | some (.v o ts a) =>
      if es.all (fun e => match nth e.hp j with | some (.v _ _ a') => a.beq a' | _ => false) then let r := freshHeap s es (j + 1) js l; (some (.v o ts a) :: r.1, r.2)
      else let h := js.hole .l; let r := freshHeap s es (j + 1) h.2 l; (some (.v o ts h.1) :: r.1, r.2)
    | none => let r := freshHeap s es (j + 1) js l; (none :: r.1, r.2)
def loopPat (D : List Nat) (es : List St) (s : St) : Pat :=
  let u := freshSlots s D 0 ⟨0, [], s.hp.length, [], []⟩ s.sl
  let h := freshHeap s es 0 u.2 s.hp
  ⟨⟨u.1, blank h.2.kills 0 h.1 ++ h.2.news.reverse⟩, h.2.tys.reverse⟩

end Go.Sx
