/- An evaluator that turns the model's code of a function into a list of plain definitions (one node a value), with joins where ways meet: definitions alone. -/
import Derived.WalkKit
namespace Go.Sx

/-- An operand of a node: an earlier value, or a constant. -/
inductive A where
  | r (id : Nat)
  | z (n : Int)
  | t (b : Bool)
  /-- a hole of a pattern -/
  | h (j : Nat)
  deriving Inhabited

/-- A value: a number, a bool, or the cells of a row. -/
inductive DV where
  | i (n : Int)
  | b (x : Bool)
  | l (xs : List DV)
  deriving Inhabited

abbrev DV.toI : DV → Int
  | .i n => n
  | .b _ => 0
  | .l _ => 0
abbrev DV.toB : DV → Bool
  | .b x => x
  | .i _ => false
  | .l _ => false
abbrev DV.toL : DV → List DV
  | .l x => x
  | .i _ => []
  | .b _ => []

/-- What a value is: a number, a bool, or cells. -/
inductive Ty where
  | i
  | b
  | l
  deriving Inhabited
/-- The value as its kind says. -/
def nrm : Ty → DV → DV
  | .i, d => .i d.toI
  | .b, d => .b d.toB
  | .l, d => .l d.toL
def nrmZ : List Ty → List DV → List DV
  | t :: ts, d :: ds => nrm t d :: nrmZ ts ds
  | _, _ => []
def Ty.beq : Ty → Ty → Bool
  | .i, .i | .b, .b | .l, .l => true
  | _, _ => false
def Ty.eqAt : Ty → DV → DV → Prop
  | .i, d, e => d.toI = e.toI
  | .b, d, e => d.toB = e.toB
  | .l, d, e => d.toL = e.toL

abbrev A.den (ν : Nat → DV) : A → DV
  | .r id => ν id
  | .z n => .i n
  | .t b => .b b
  | .h _ => .i 0
abbrev A.int (ν : Nat → DV) (a : A) : Int := (a.den ν).toI
abbrev A.bool (ν : Nat → DV) (a : A) : Bool := (a.den ν).toB
abbrev A.cells (ν : Nat → DV) (a : A) : List DV := (a.den ν).toL

def A.beq : A → A → Bool
  | .r a, .r b => Nat.beq a b
  | .z a, .z b => decide (a = b)
  | .t a, .t b => a == b
  | .h a, .h b => Nat.beq a b
  | _, _ => false

def kEq : IntKind → IntKind → Bool
  | .i8, .i8 | .i16, .i16 | .i32, .i32 | .i64, .i64 | .u8, .u8 | .u16, .u16 | .u32, .u32 | .u64, .u64 => true
  | _, _ => false

inductive Node where
  | add (k : IntKind) (a b : A)
  | sub (k : IntKind) (a b : A)
  | mul (k : IntKind) (a b : A)
  | land (k : IntKind) (a b : A)
  | lor (k : IntKind) (a b : A)
  | lxor (k : IntKind) (a b : A)
  | landNot (k : IntKind) (a b : A)
  | quo (k : IntKind) (a b : A)
  | rem (k : IntKind) (a b : A)
  | shl (k : IntKind) (a b : A)
  | shr (k : IntKind) (a b : A)
  | eql (a b : A)
  | neq (a b : A)
  | lss (a b : A)
  | leq (a b : A)
  | gtr (a b : A)
  | geq (a b : A)
  | beq (a b : A)
  | bne (a b : A)
  | not (a : A)
  | and (a b : A)
  | or (a b : A)
  | itei (c a b : A)
  | iteb (c a b : A)
  | conv (k : IntKind) (a : A)
  | seli (l : List A) (ix : A)
  | selb (l : List A) (ix : A)
  | call (f : Nat) (args : List A) (j : Nat)
  /-- rows: these cells; how many elements of sz cells; a cell of an element; with a cell of an element anew; one behind the other; the first n elements; without them; n times the same cells; by a bool -/
  | lmk (ts : List Ty) (l : List A)
  | llen (sz : Nat) (a : A)
  | lgeti (sz j : Nat) (a ix : A)
  | lgetb (sz j : Nat) (a ix : A)
  | lgetl (sz j : Nat) (a ix : A)
  | lset (sz j : Nat) (t : Ty) (a ix x : A)
  | lcat (a b : A)
  | ltake (sz : Nat) (a n : A)
  | ldrop (sz : Nat) (a n : A)
  | lrep (n : A) (ts : List Ty) (l : List A)
  | itel (c a b : A)
  deriving Inhabited

/-- The functions that are called: of a number and the values the results. -/
abbrev FEnv := Nat → List DV → List DV

def bitsOf (k : IntKind) (x : Int) : BitVec k.bits := BitVec.ofInt k.bits x
def iland (k : IntKind) (x y : Int) : Int := k.wrap (bitsOf k x &&& bitsOf k y).toNat
def ilor (k : IntKind) (x y : Int) : Int := k.wrap (bitsOf k x ||| bitsOf k y).toNat
def ilxor (k : IntKind) (x y : Int) : Int := k.wrap (bitsOf k x ^^^ bitsOf k y).toNat
def ilandNot (k : IntKind) (x y : Int) : Int := k.wrap (bitsOf k x &&& ~~~ (bitsOf k y)).toNat
def ishl (k : IntKind) (x y : Int) : Int := k.wrap (x * 2 ^ min y.toNat k.bits)
def ishr (k : IntKind) (x y : Int) : Int := x.fdiv (2 ^ min y.toNat k.bits)

def denNode (F : FEnv) (ν : Nat → DV) : Node → DV
  | .add k a b => .i (k.wrap (a.int ν + b.int ν))
  | .sub k a b => .i (k.wrap (a.int ν - b.int ν))
  | .mul k a b => .i (k.wrap (a.int ν * b.int ν))
  | .land k a b => .i (iland k (a.int ν) (b.int ν))
  | .lor k a b => .i (ilor k (a.int ν) (b.int ν))
  | .lxor k a b => .i (ilxor k (a.int ν) (b.int ν))
  | .landNot k a b => .i (ilandNot k (a.int ν) (b.int ν))
  | .quo k a b => .i (k.wrap ((a.int ν).tdiv (b.int ν)))
  | .rem _ a b => .i ((a.int ν).tmod (b.int ν))
  | .shl k a b => .i (ishl k (a.int ν) (b.int ν))
  | .shr k a b => .i (ishr k (a.int ν) (b.int ν))
  | .eql a b => .b (a.int ν == b.int ν)
  | .neq a b => .b (a.int ν != b.int ν)
  | .lss a b => .b (decide (a.int ν < b.int ν))
  | .leq a b => .b (decide (a.int ν ≤ b.int ν))
  | .gtr a b => .b (decide (a.int ν > b.int ν))
  | .geq a b => .b (decide (a.int ν ≥ b.int ν))
  | .beq a b => .b (a.bool ν == b.bool ν)
  | .bne a b => .b (a.bool ν != b.bool ν)
  | .not a => .b (!a.bool ν)
  | .and a b => .b (a.bool ν && b.bool ν)
  | .or a b => .b (a.bool ν || b.bool ν)
  | .itei c a b => .i (bif c.bool ν then a.int ν else b.int ν)
  | .iteb c a b => .b (bif c.bool ν then a.bool ν else b.bool ν)
  | .conv k a => .i (k.wrap (a.int ν))
  | .seli l ix => .i ((l.map (A.int ν)).getD (ix.int ν).toNat 0)
  | .selb l ix => .b ((l.map (A.bool ν)).getD (ix.int ν).toNat false)
  | .call f args j => (F f (args.map (A.den ν))).getD j default
  | .lmk ts l => .l (nrmZ ts (l.map (A.den ν)))
  | .llen sz a => .i ((a.cells ν).length / sz : Nat)
  | .lgeti sz j a ix => .i ((a.cells ν).getD ((ix.int ν).toNat * sz + j) default).toI
  | .lgetb sz j a ix => .b ((a.cells ν).getD ((ix.int ν).toNat * sz + j) default).toB
  | .lgetl sz j a ix => .l ((a.cells ν).getD ((ix.int ν).toNat * sz + j) default).toL
  | .lset sz j t a ix x => .l ((a.cells ν).set ((ix.int ν).toNat * sz + j) (nrm t (x.den ν)))
  | .lcat a b => .l (a.cells ν ++ b.cells ν)
  | .ltake sz a n => .l ((a.cells ν).take ((n.int ν).toNat * sz))
  | .ldrop sz a n => .l ((a.cells ν).drop ((n.int ν).toNat * sz))
  | .lrep n ts l => .l (List.replicate (n.int ν).toNat (nrmZ ts (l.map (A.den ν)))).flatten
  | .itel c a b => .l (bif c.bool ν then a.cells ν else b.cells ν)

/-- A place in a block: a known one, or one of a row by an index. -/
inductive Off where
  | c (n : Nat)
  | s (base : Nat) (ix : A) (sz len : Nat)
  /-- a cell of an element of a row whose cells are a -/
  | v (base : Nat) (ix : A) (sz : Nat) (a : A)
  /-- one of a row of a row -/
  | d (base : Nat) (ix : A) (sz len : Nat) (ix2 : A) (sz2 len2 : Nat)
  deriving Inhabited

def Off.val (ν : Nat → DV) : Off → Nat
  | .c n => n
  | .s base ix sz _ => base + (ix.int ν).toNat * sz
  | .v base ix sz _ => base + (ix.int ν).toNat * sz
  | .d base ix sz _ ix2 sz2 _ => base + (ix.int ν).toNat * sz + (ix2.int ν).toNat * sz2

def Off.plus : Off → Nat → Off
  | .c n, k => .c (n + k)
  | .s b ix sz len, k => .s (b + k) ix sz len
  | .v b ix sz a, k => .v (b + k) ix sz a
  | .d b ix sz len ix2 sz2 len2, k => .d (b + k) ix sz len ix2 sz2 len2

def Off.beq : Off → Off → Bool
  | .c x1, .c y1 => Nat.beq x1 y1
  | .s x1 x2 x3 x4, .s y1 y2 y3 y4 => Nat.beq x1 y1 && x2.beq y2 && Nat.beq x3 y3 && Nat.beq x4 y4
  | .v x1 x2 x3 x4, .v y1 y2 y3 y4 => Nat.beq x1 y1 && x2.beq y2 && Nat.beq x3 y3 && x4.beq y4
  | .d x1 x2 x3 x4 x5 x6 x7, .d y1 y2 y3 y4 y5 y6 y7 => Nat.beq x1 y1 && x2.beq y2 && Nat.beq x3 y3 && Nat.beq x4 y4 && x5.beq y5 && Nat.beq x6 y6 && Nat.beq x7 y7
  | _, _ => false

/-- Where a block lies; of a row also: is it nil, its length and its room. -/
structure Loc where
  blk : Nat
  off : Nat
  nil : Bool
  len : Nat
  cap : Nat
  deriving Inhabited
def Loc.slice (r : Loc) : Value := .slice (bif r.nil then none else some ⟨r.blk, r.off, none⟩) r.len r.cap

/-- What a cell holds. -/
inductive Lf where
  | i (k : IntKind) (a : A)
  | b (a : A)
  | p (blk : Nat) (off : Off)
  | gp (g : Nat) (off : Off)
  | nilp
  /-- a slice: the whole of a row -/
  | vec (blk : Nat)
  /-- a function that bears places: blocks -/
  | fnp (f : Nat) (bs : List Nat)
  | v (x : Value)
  deriving Inhabited

def capsConc (ρ : Nat → Loc) (bs : List Nat) : Array Value := (bs.map fun b => Value.pointer (some ⟨(ρ b).blk, (ρ b).off + 0, none⟩)).toArray
def natsEq : List Nat → List Nat → Bool
  | [], [] => true
  | a :: l, b :: l' => Nat.beq a b && natsEq l l'
  | _, _ => false
def Lf.conc (ν : Nat → DV) (ρ : Nat → Loc) : Lf → Value
  | .i k a => .int k (a.int ν)
  | .b a => .bool (a.bool ν)
  | .p blk off => .pointer (some ⟨(ρ blk).blk, (ρ blk).off + off.val ν, none⟩)
  | .gp g off => .pointer (some ⟨g, off.val ν, none⟩)
  | .nilp => .pointer none
  | .vec blk => (ρ blk).slice
  | .fnp f bs => .func (.func f) #[] (capsConc ρ bs)
  | .v x => x

def Lf.ok : Lf → Bool
  | .v x => x.oneCell'
  | _ => true

/-- Integers and bools. -/
def Lf.scalar : Lf → Bool
  | .i _ _ | .b _ => true
  | _ => false

/-- The blocks that a leaf names lie below a number. -/
def Lf.lt (n : Nat) : Lf → Bool
  | .p blk _ => decide (blk < n)
  | .vec blk => decide (blk < n)
  | .fnp _ bs => bs.all fun b => decide (b < n)
  | _ => true

/-- A value in a slot: one cell, or an aggregate. -/
inductive V1 where
  | one (l : Lf)
  | agg (l : List Lf)
  deriving Inhabited

def V1.conc (ν : Nat → DV) (ρ : Nat → Loc) : V1 → Value
  | .one l => l.conc ν ρ
  | .agg l => .agg (l.map (Lf.conc ν ρ)).toArray
def V1.cells : V1 → List Lf
  | .one l => [l]
  | .agg l => l
def V1.lt (n : Nat) (v : V1) : Bool := v.cells.all (Lf.lt n)

inductive V where
  | s (v : V1)
  | t (l : List V1)
  deriving Inhabited

def V.conc (ν : Nat → DV) (ρ : Nat → Loc) : V → Value
  | .s v => v.conc ν ρ
  | .t l => .tuple (l.map (V1.conc ν ρ)).toArray
def V.lt (n : Nat) : V → Bool
  | .s v => v.lt n
  | .t l => l.all (V1.lt n)

inductive LT where
  | int (k : IntKind)
  | bool
  /-- a row whose elements have such cells -/
  | vec (ts : List LT)
  deriving Inhabited

/-- A block: may it be written; its cells, as far as they are known; or a row: what an element's cells are, and all cells. -/
inductive Blk where
  | c (own : Bool) (cs : List (Option Lf))
  | v (own : Bool) (ts : List LT) (a : A)
  deriving Inhabited
def Blk.own : Blk → Bool
  | .c o _ => o
  | .v o _ _ => o

structure St where
  sl : List (Option V)
  hp : List (Option Blk)
  deriving Inhabited

/-- A premise that is owed: where the way is taken, the value is true. -/
structure Nd where
  path : List (A × Bool)
  a : A
  deriving Inhabited

def Nd.holds (ν : Nat → DV) (n : Nd) : Prop := (∀ c ∈ n.path, c.1.bool ν = c.2) → n.a.bool ν = true

abbrev Em := List (Nat × Node)
def Sat (F : FEnv) (ν : Nat → DV) (e : Em) : Prop := ∀ p ∈ e, ν p.1 = denNode F ν p.2

/-! ### The values of the nodes -/
/-- The value of number i: below n0 by the base; else out of the list (the newest first) of the values up to number n. -/
def look (base : Nat → DV) (n0 : Nat) (vs : List DV) (n i : Nat) : DV :=
  bif Nat.blt i n0 then base i else vs.getD (n - 1 - i) default

/-- All values, the newest first. -/
def evalNodes (F : FEnv) (base : Nat → DV) (n0 : Nat) : Em → List DV → Nat → List DV
  | [], vs, _ => vs
  | (_, x) :: r, vs, n => evalNodes F base n0 r (denNode F (look base n0 vs n) x :: vs) (n + 1)

/-- A loop: a function of its own. n: the numbers below it are the surroundings'; k: so many values go round; inv: the surroundings' numbers that it asks for;
 nodes, owes: a round's; c: does it go on? nx: the next round's values; outs: what comes out. -/
structure LR where
  fid : Nat
  n : Nat
  k : Nat
  inv : List Nat
  nodes : Em
  owes : List Nd
  c : A
  nx : List A
  outs : List A
  ts : List Ty := []
  deriving Inhabited

/-- A round's values. -/
def LR.env (F : FEnv) (l : LR) (ν : Nat → DV) (xs : List DV) : Nat → DV :=
  look ν l.n (evalNodes F ν l.n l.nodes xs.reverse (l.n + l.k)) (l.n + l.k + l.nodes.length)

/-- Alike as the types say. -/
def TEq : List Ty → List DV → List DV → Prop
  | t :: ts, a :: as, b :: bs => t.eqAt a b ∧ TEq ts as bs
  | [], [], [] => True
  | _, _, _ => False

/-- The function fid tells what the loop comes to. -/
def LoopSound (F : FEnv) (l : LR) : Prop :=
  ∃ μ : List DV → Nat, ∀ (ν : Nat → DV) (xs : List DV), xs.length = l.k →
    ((F l.fid (l.inv.map ν ++ xs)).getD 0 default).toB = true →
    (∀ q ∈ l.owes, Nd.holds (l.env F ν xs) q) ∧
    (l.c.bool (l.env F ν xs) = true →
      ((F l.fid (l.inv.map ν ++ l.nx.map (A.den (l.env F ν xs)))).getD 0 default).toB = true ∧
      F l.fid (l.inv.map ν ++ l.nx.map (A.den (l.env F ν xs))) = F l.fid (l.inv.map ν ++ xs) ∧
      μ (l.inv.map ν ++ l.nx.map (A.den (l.env F ν xs))) < μ (l.inv.map ν ++ xs)) ∧
    (l.c.bool (l.env F ν xs) = false → TEq (.i :: l.ts) ((F l.fid (l.inv.map ν ++ xs)).drop 1) (l.outs.map (A.den (l.env F ν xs))))

/-- What is owed: a premise, or a loop's function. -/
inductive Ob where
  | nd (q : Nd)
  | lp (l : LR)
def Ob.holds (F : FEnv) (ν : Nat → DV) : Ob → Prop
  | .nd q => q.holds ν
  | .lp l => LoopSound F l
def Ob.under (c : A) (b : Bool) : Ob → Ob
  | .nd q => .nd ⟨(c, b) :: q.path, q.a⟩
  | .lp l => .lp l

def ndsOf : List Ob → List Nd
  | [] => []
  | .nd q :: l => q :: ndsOf l
  | .lp _ :: l => ndsOf l
def lpsOf : List Ob → List LR
  | [] => []
  | .nd _ :: l => lpsOf l
  | .lp q :: l => q :: lpsOf l

/-- The evaluator's monad: the next number; what was laid; what is owed. -/
def M (α : Type) := Nat → Option (α × Nat × Em × List Ob)
def M.pure {α : Type} (a : α) : M α := fun n => some (a, n, [], [])
def M.bind {α β : Type} (x : M α) (f : α → M β) : M β := fun n =>
  match x n with
  | none => none
  | some (a, n1, e1, d1) =>
    match f a n1 with
    | none => none
    | some (b, n2, e2, d2) => some (b, n2, e1 ++ e2, d1 ++ d2)
instance : Monad M where
  pure := M.pure
  bind := M.bind
def M.fail {α : Type} : M α := fun _ => none
def M.lift {α : Type} (o : Option α) : M α := fun n =>
  match o with
  | none => none
  | some a => some (a, n, [], [])
def emit (x : Node) : M A := fun n => some (.r n, n + 1, [(n, x)], [])
def owe (a : A) : M Unit := fun n => some ((), n, [], [.nd ⟨[], a⟩])
/-- What is owed inside is owed where c is b alone. -/
def under {α : Type} (c : A) (b : Bool) (x : M α) : M α := fun n =>
  match x n with
  | none => none
  | some (a, n1, e, d) => some (a, n1, e, d.map (Ob.under c b))

/-! ### Arithmetic with constants -/
def mkNot : A → M A
  | .t b => pure (.t !b)
  | a => emit (.not a)
def mkAnd : A → A → M A
  | .t true, b => pure b
  | .t false, _ => pure (.t false)
  | a, .t true => pure a
  | _, .t false => pure (.t false)
  | a, b => emit (.and a b)
def mkOr : A → A → M A
  | .t false, b => pure b
  | .t true, _ => pure (.t true)
  | a, .t false => pure a
  | _, .t true => pure (.t true)
  | a, b => emit (.or a b)
def mkIteI (c a b : A) : M A :=
  match c with
  | .t true => pure a
  | .t false => pure b
  | c => if a.beq b then pure a else emit (.itei c a b)
def mkIteB (c a b : A) : M A :=
  match c with
  | .t true => pure a
  | .t false => pure b
  | c => if a.beq b then pure a else
    match a, b with
    | .t true, .t false => pure c
    | .t false, .t true => emit (.not c)
    | .t true, b => emit (.or c b)
    | a, .t false => emit (.and c a)
    | a, b => emit (.iteb c a b)

def mkIteL (c a b : A) : M A :=
  match c with
  | .t true => pure a
  | .t false => pure b
  | c => if a.beq b then pure a else emit (.itel c a b)

def oweNe0 (b : A) : M Unit :=
  match b with
  | .z m => if m = 0 then M.fail else pure ()
  | b => do owe (← emit (.neq b (.z 0)))
def oweGe0 (b : A) : M Unit :=
  match b with
  | .z m => if 0 ≤ m then pure () else M.fail
  | b => do owe (← emit (.geq b (.z 0)))

def evBin (op : BinOp) (k : IntKind) (a b : A) : M Lf :=
  match op, a, b with
  | .add, .z x, .z y => pure (.i k (.z (k.wrap (x + y))))
  | .sub, .z x, .z y => pure (.i k (.z (k.wrap (x - y))))
  | .mul, .z x, .z y => pure (.i k (.z (k.wrap (x * y))))
  | .and, .z x, .z y => pure (.i k (.z (iland k x y)))
  | .or, .z x, .z y => pure (.i k (.z (ilor k x y)))
  | .xor, .z x, .z y => pure (.i k (.z (ilxor k x y)))
  | .andNot, .z x, .z y => pure (.i k (.z (ilandNot k x y)))
  | .eql, .z x, .z y => pure (.b (.t (x == y)))
  | .neq, .z x, .z y => pure (.b (.t (x != y)))
  | .lss, .z x, .z y => pure (.b (.t (decide (x < y))))
  | .leq, .z x, .z y => pure (.b (.t (decide (x ≤ y))))
  | .gtr, .z x, .z y => pure (.b (.t (decide (x > y))))
  | .geq, .z x, .z y => pure (.b (.t (decide (x ≥ y))))
  | .quo, .z x, .z y => do oweNe0 (.z y); pure (.i k (.z (k.wrap (x.tdiv y))))
  | .rem, .z x, .z y => do oweNe0 (.z y); pure (.i k (.z (x.tmod y)))
  | .add, a, b => do pure (.i k (← emit (.add k a b)))
  | .sub, a, b => do pure (.i k (← emit (.sub k a b)))
  | .mul, a, b => do pure (.i k (← emit (.mul k a b)))
  | .and, a, b => do pure (.i k (← emit (.land k a b)))
  | .or, a, b => do pure (.i k (← emit (.lor k a b)))
  | .xor, a, b => do pure (.i k (← emit (.lxor k a b)))
  | .andNot, a, b => do pure (.i k (← emit (.landNot k a b)))
  | .eql, a, b => do pure (.b (← emit (.eql a b)))
  | .neq, a, b => do pure (.b (← emit (.neq a b)))
  | .lss, a, b => do pure (.b (← emit (.lss a b)))
  | .leq, a, b => do pure (.b (← emit (.leq a b)))
  | .gtr, a, b => do pure (.b (← emit (.gtr a b)))
  | .geq, a, b => do pure (.b (← emit (.geq a b)))
  | .quo, a, b => do oweNe0 b; pure (.i k (← emit (.quo k a b)))
  | .rem, a, b => do oweNe0 b; pure (.i k (← emit (.rem k a b)))
  | _, _, _ => M.fail

def evShift (op : BinOp) (k : IntKind) (a b : A) : M Lf :=
  match op, a, b with
  | .shl, .z x, .z y => do oweGe0 (.z y); pure (.i k (.z (ishl k x y)))
  | .shr, .z x, .z y => do oweGe0 (.z y); pure (.i k (.z (ishr k x y)))
  | .shl, a, b => do oweGe0 b; pure (.i k (← emit (.shl k a b)))
  | .shr, a, b => do oweGe0 b; pure (.i k (← emit (.shr k a b)))
  | _, _, _ => M.fail

def evBoolOp (op : BinOp) (a b : A) : M Lf :=
  match op, a, b with
  | .eql, .t x, .t y => pure (.b (.t (x == y)))
  | .neq, .t x, .t y => pure (.b (.t (x != y)))
  | .eql, a, b => do pure (.b (← emit (.beq a b)))
  | .neq, a, b => do pure (.b (← emit (.bne a b)))
  | _, _, _ => M.fail

/-- '==' between the cells of two aggregates whose cells are integers and bools. -/
def evAggEq : List Lf → List Lf → M A
  | [], [] => pure (.t true)
  | .i _ a :: l, .i _ b :: l' => do
    let x ← emit (.eql a b)
    let y ← evAggEq l l'
    mkAnd x y
  | .b a :: l, .b b :: l' => do
    let x ← emit (.beq a b)
    let y ← evAggEq l l'
    mkAnd x y
  | _, _ => M.fail

/-! ### Types -/
inductive TK where
  | int (k : IntKind)
  | bool
  | arr (len elem : Nat)
  | struct (fs : List (Nat × Nat))
  | slice (elem : Nat)
  | ptr (elem : Nat)
  | other
  deriving Inhabited

def tkOf : TypeDesc → TK
  | .int k => .int k
  | .bool => .bool
  | .array len elem => .arr len elem
  | .struct fs => .struct (fs.toList.map fun f => (f.offset, f.type))
  | .slice e => .slice e
  | .pointer e => .ptr e
  | _ => .other

def tk (P : Program) (t : TypeId) : Option TK := (P.underlying t).map tkOf
def tsize (P : Program) (t : TypeId) : Option Nat := (P.info? t).map (·.size)
def isAggT : TK → Bool
  | .arr _ _ | .struct _ => true
  | _ => false

def ofLeaf : Value → Option Lf
  | .int k n => some (.i k (.z n))
  | .bool b => some (.b (.t b))
  | .pointer none => some .nilp
  | .pointer (some _) => none
  | .agg _ => none
  | .tuple _ => none
  | v => some (.v v)

def allSome {α β : Type} (f : α → Option β) : List α → Option (List β)
  | [] => some []
  | a :: l =>
    match f a with
    | none => none
    | some b =>
      match allSome f l with
      | none => none
      | some r => some (b :: r)

def ofConst : Value → Option V1
  | .agg cs => (allSome ofLeaf cs.toList).map .agg
  | v => (ofLeaf v).map .one

def zeroCells (P : Program) (t : TypeId) : Option (List Lf) :=
  match P.info? t with
  | none => none
  | some i =>
    match i.zero with
    | none => none
    | some z => allSome ofLeaf z.cells.toList

/-! ### The signature of a called function (values alone) -/

/-- What a function takes and gives: patterns; the holes are the values, in order. -/
structure Sig where
  ins : List V
  hin : List (Option Blk)
  its : List Ty
  out : V
  hout : List (Option Blk)
  ots : List Ty
  /-- does the first result tell whether the call may be made? -/
  need : Bool
  deriving Inhabited

def Sig.nin (sg : Sig) : Nat := sg.its.length

def wrapResults : List V1 → V
  | [v] => .s v
  | l => .t l

def assoc {α : Type} : List (Nat × α) → Nat → Option α
  | [], _ => none
  | (g, s) :: r, f => if Nat.beq f g then some s else assoc r f

/-- What is known of the surroundings: the called functions; the package-level variables that hold known cells; the loops (by their block's number) that are functions of their own. -/
structure Sigs where
  fs : List (Nat × Sig)
  gs : List (Nat × List Lf)
  ls : List (Nat × Nat)
  /-- so many blocks came in -/
  n0 : Nat := 0
  deriving Inhabited
def Sigs.get (l : Sigs) (f : Nat) : Option Sig := assoc l.fs f

def calleeOk (P : Program) (f : FuncId) : Bool :=
  match P.funcs[f]? with
  | some fn => !(fn.name == "runtime.NumGoroutine") && fn.body.isSome
  | none => false

/-! ### Blocks -/
def St.blk (s : St) (b : Nat) : Option Blk := (s.hp[b]?).join

/-- The cells from a place on. -/
def takeCells : List (Option Lf) → Nat → Nat → Option (List Lf)
  | _, _, 0 => some []
  | [], _, _ + 1 => none
  | _ :: l, o + 1, n + 1 => takeCells l o (n + 1)
  | c :: l, 0, n + 1 =>
    match c with
    | none => none
    | some x =>
      match takeCells l 0 n with
      | none => none
      | some r => some (x :: r)

def cellAt : List (Option Lf) → Nat → Option Lf
  | [], _ => none
  | c :: _, 0 => c
  | _ :: l, n + 1 => cellAt l n

/-- Of a row: the cells at base, base + sz, ..: so many. -/
def rowCells (l : List (Option Lf)) (base sz : Nat) : Nat → Option (List Lf)
  | 0 => some []
  | n + 1 =>
    match cellAt l base with
    | none => none
    | some x =>
      match rowCells l (base + sz) sz n with
      | none => none
      | some r => some (x :: r)

def asInts (k : IntKind) : List Lf → Option (List A)
  | [] => some []
  | .i k' a :: l =>
    if kEq k k' then
      match asInts k l with
      | none => none
      | some r => some (a :: r)
    else none
  | _ :: _ => none
def asBools : List Lf → Option (List A)
  | [] => some []
  | .b a :: l =>
    match asBools l with
    | none => none
    | some r => some (a :: r)
  | _ :: _ => none

/-- One cell of a row, chosen by an index that lies in it. -/
def selLeaf (l : List Lf) (ix : A) : M Lf :=
  match l with
  | .i k _ :: _ => do
    let xs ← M.lift (asInts k l)
    pure (.i k (← emit (.seli xs ix)))
  | .b _ :: _ => do
    let xs ← M.lift (asBools l)
    pure (.b (← emit (.selb xs ix)))
  | _ => M.fail

def selAgg (l : List (Option Lf)) (base sz len : Nat) (ix : A) : Nat → M (List Lf)
  | 0 => pure []
  | n + 1 => do
    let row ← M.lift (rowCells l base sz len)
    let x ← selLeaf row ix
    let r ← selAgg l (base + 1) sz len ix n
    pure (x :: r)

/-- Of rows: a cell of each. -/
def selRows (l : List (Option Lf)) (base sz len : Nat) (ix : A) (sz2 : Nat) : Nat → M (List Lf)
  | 0 => pure []
  | n + 1 => do
    let row ← M.lift (rowCells l base sz len)
    let x ← selLeaf row ix
    let r ← selRows l (base + sz2) sz len ix sz2 n
    pure (x :: r)

def loadCells (cs : List (Option Lf)) (off : Off) (agg : Bool) (size : Nat) : M V1 :=
  match off, agg with
  | .c o, true => do pure (.agg (← M.lift (takeCells cs o size)))
  | .c o, false => do pure (.one (← M.lift (cellAt cs o)))
  | .s base ix sz len, true => do pure (.agg (← selAgg cs base sz len ix size))
  | .s base ix sz len, false => do
    let row ← M.lift (rowCells cs base sz len)
    pure (.one (← selLeaf row ix))
  | .d base ix sz len ix2 sz2 len2, false => do
    let row ← selRows cs base sz len ix sz2 len2
    pure (.one (← selLeaf row ix2))
  | _, _ => M.fail

def putCells : List (Option Lf) → Nat → List Lf → Option (List (Option Lf))
  | l, _, [] => some l
  | [], _, _ :: _ => none
  | c :: l, o + 1, xs => (putCells l o xs).map (c :: ·)
  | _ :: l, 0, x :: xs => (putCells l 0 xs).map (some x :: ·)

def Lf.beq : Lf → Lf → Bool
  | .i x1 x2, .i y1 y2 => kEq x1 y1 && x2.beq y2
  | .b x1, .b y1 => x1.beq y1
  | .p x1 x2, .p y1 y2 => Nat.beq x1 y1 && x2.beq y2
  | .gp x1 x2, .gp y1 y2 => Nat.beq x1 y1 && x2.beq y2
  | .nilp, .nilp => true
  | .vec x, .vec y => Nat.beq x y
  | .fnp f bs, .fnp g cs => Nat.beq f g && natsEq bs cs
  | _, _ => false

/-- Where ways meet: what a cell holds. -/
def mergeLf (c : A) (x y : Lf) : M (Option Lf) :=
  if x.beq y then pure (some x) else
  match x, y with
  | .i k a, .i k' b => if kEq k k' then do pure (some (.i k (← mkIteI c a b))) else pure none
  | .b a, .b b => do pure (some (.b (← mkIteB c a b)))
  | _, _ => pure none

def mergeLfs (c : A) : List Lf → List Lf → M (Option (List Lf))
  | [], [] => pure (some [])
  | x :: l, y :: l' => do
    let a ← mergeLf c x y
    let b ← mergeLfs c l l'
    pure (match a, b with
      | some a, some b => some (a :: b)
      | _, _ => none)
  | _, _ => pure none

def mergeV1 (c : A) (x y : V1) : M (Option V1) :=
  match x, y with
  | .one a, .one b => do pure ((← mergeLf c a b).map .one)
  | .agg a, .agg b => do pure ((← mergeLfs c a b).map .agg)
  | _, _ => pure none

def mergeV1s (c : A) : List V1 → List V1 → M (Option (List V1))
  | [], [] => pure (some [])
  | x :: l, y :: l' => do
    let a ← mergeV1 c x y
    let b ← mergeV1s c l l'
    pure (match a, b with
      | some a, some b => some (a :: b)
      | _, _ => none)
  | _, _ => pure none

def mergeV (c : A) (x y : V) : M (Option V) :=
  match x, y with
  | .s a, .s b => do pure ((← mergeV1 c a b).map .s)
  | .t a, .t b => do pure ((← mergeV1s c a b).map .t)
  | _, _ => pure none

/-- A cell of a row written at an index: each cell of the row is the new one or the old one. -/
def putRow (ix : A) (x : Lf) : List (Option Lf) → (base sz len j : Nat) → M (List (Option Lf))
  | l, _, _, 0, _ => pure l
  | [], _, _, _ + 1, _ => M.fail
  | c :: l, base + 1, sz, len + 1, j => do pure (c :: (← putRow ix x l base sz (len + 1) j))
  | c :: l, 0, sz, len + 1, j =>
    match c with
    | none => M.fail
    | some old => do
      let e ← emit (.eql ix (.z j))
      match ← mergeLf e x old with
      | none => M.fail
      | some y => do pure (some y :: (← putRow ix x l (sz - 1) sz len (j + 1)))

def putRows (ix : A) : List Lf → List (Option Lf) → (base sz len : Nat) → M (List (Option Lf))
  | [], l, _, _, _ => pure l
  | x :: xs, l, base, sz, len => do
    let l1 ← putRow ix x l base sz len 0
    putRows ix xs l1 (base + 1) sz len

def storeCellsAt (cs : List (Option Lf)) (off : Off) (xs : List Lf) : M (List (Option Lf)) :=
  match off with
  | .c o => M.lift (putCells cs o xs)
  | .s base ix sz len => if decide (0 < sz) then putRows ix xs cs base sz len else M.fail
  | _ => M.fail

end Go.Sx
