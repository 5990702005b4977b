/- An evaluator that turns the model's code of a function into a list of plain definitions (one node a value), with joins where ways meet: definitions alone. -/
import Derived.WalkKit
import Derived.ChangeKeysEq
import Derived.Laws.IdiomCopy
namespace Go.Sx

inductive A where
  | r (id : Nat)
  | z (n : Int)
  | t (b : Bool)
  /-- a hole of a pattern -/
  | h (j : Nat)
  deriving Inhabited

inductive DV where
  | i (n : Int)
  | b (x : Bool)
  | l (xs : List DV)
  deriving Inhabited

abbrev DV.toI : DV → Int
  | .i n => n
  | .b _ => 0
  | .l _ => 0
abbrev DV.toB : DV → Bool
  | .b x => x
  | .i _ => false
  | .l _ => false
abbrev DV.toL : DV → List DV
  | .l x => x
  | .i _ => []
  | .b _ => []

inductive Ty where
  | i
  | b
  | l
  deriving Inhabited
def nrm : Ty → DV → DV
  | .i, d => .i d.toI
  | .b, d => .b d.toB
  | .l, d => .l d.toL
def nrmZ : List Ty → List DV → List DV
  | t :: ts, d :: ds => nrm t d :: nrmZ ts ds
  | _, _ => []
def Ty.beq : Ty → Ty → Bool
  | .i, .i | .b, .b | .l, .l => true
  | _, _ => false
def Ty.eqAt : Ty → DV → DV → Prop
  | .i, d, e => d.toI = e.toI
  | .b, d, e => d.toB = e.toB
  | .l, d, e => d.toL = e.toL

abbrev A.den (ν : Nat → DV) : A → DV
  | .r id => ν id
  | .z n => .i n
  | .t b => .b b
  | .h _ => .i 0
abbrev A.int (ν : Nat → DV) (a : A) : Int := (a.den ν).toI
abbrev A.bool (ν : Nat → DV) (a : A) : Bool := (a.den ν).toB
abbrev A.cells (ν : Nat → DV) (a : A) : List DV := (a.den ν).toL

def A.beq : A → A → Bool
  | .r a, .r b => Nat.beq a b
  | .z a, .z b => decide (a = b)
  | .t a, .t b => a == b
  | .h a, .h b => Nat.beq a b
  | _, _ => false

def kEq : IntKind → IntKind → Bool
  | .i8, .i8 | .i16, .i16 | .i32, .i32 | .i64, .i64 | .u8, .u8 | .u16, .u16 | .u32, .u32 | .u64, .u64 => true
  | _, _ => false

inductive Node where
  | add (k : IntKind) (a b : A)
  | sub (k : IntKind) (a b : A)
  | mul (k : IntKind) (a b : A)
  | land (k : IntKind) (a b : A)
  | lor (k : IntKind) (a b : A)
  | lxor (k : IntKind) (a b : A)
  | landNot (k : IntKind) (a b : A)
  | quo (k : IntKind) (a b : A)
  | rem (k : IntKind) (a b : A)
  | shl (k : IntKind) (a b : A)
  | shr (k : IntKind) (a b : A)
  | eql (a b : A)
  | neq (a b : A)
  | lss (a b : A)
  | leq (a b : A)
  | gtr (a b : A)
  | geq (a b : A)
  | beq (a b : A)
  | bne (a b : A)
  | not (a : A)
  | and (a b : A)
  | or (a b : A)
  | itei (c a b : A)
  | iteb (c a b : A)
  | conv (k : IntKind) (a : A)
  | seli (l : List A) (ix : A)
  | selb (l : List A) (ix : A)
  | call (f : Nat) (args : List A) (j : Nat)
  /-- rows: these cells; how many elements of sz cells; a cell of an element; with a cell of an element anew; one behind the other; the first n elements; without them; n times the same cells; by a bool -/
  | lmk (ts : List Ty) (l : List A)
  | llen (sz : Nat) (a : A)
  | lgeti (sz j : Nat) (a ix : A)
  | lgetb (sz j : Nat) (a ix : A)
  | lgetl (sz j : Nat) (a ix : A)
  | lset (sz j : Nat) (t : Ty) (a ix x : A)
  | lcat (a b : A)
  | ltake (sz : Nat) (a n : A)
  | ldrop (sz : Nat) (a n : A)
  | lrep (n : A) (ts : List Ty) (l : List A)
  | itel (c a b : A)
  deriving Inhabited

abbrev FEnv := Nat → List DV → List DV

def bitsOf (k : IntKind) (x : Int) : BitVec k.bits := BitVec.ofInt k.bits x
def iland (k : IntKind) (x y : Int) : Int := k.wrap (bitsOf k x &&& bitsOf k y).toNat
def ilor (k : IntKind) (x y : Int) : Int := k.wrap (bitsOf k x ||| bitsOf k y).toNat
def ilxor (k : IntKind) (x y : Int) : Int := k.wrap (bitsOf k x ^^^ bitsOf k y).toNat
def ilandNot (k : IntKind) (x y : Int) : Int := k.wrap (bitsOf k x &&& ~~~ (bitsOf k y)).toNat
def ishl (k : IntKind) (x y : Int) : Int := k.wrap (x * 2 ^ min y.toNat k.bits)
def ishr (k : IntKind) (x y : Int) : Int := x.fdiv (2 ^ min y.toNat k.bits)

def denNode (F : FEnv) (ν : Nat → DV) : Node → DV
  | .add k a b => .i (k.wrap (a.int ν + b.int ν))
  | .sub k a b => .i (k.wrap (a.int ν - b.int ν))
  | .mul k a b => .i (k.wrap (a.int ν * b.int ν))
  | .land k a b => .i (iland k (a.int ν) (b.int ν))
  | .lor k a b => .i (ilor k (a.int ν) (b.int ν))
  | .lxor k a b => .i (ilxor k (a.int ν) (b.int ν))
  | .landNot k a b => .i (ilandNot k (a.int ν) (b.int ν))
  | .quo k a b => .i (k.wrap ((a.int ν).tdiv (b.int ν)))
  | .rem _ a b => .i ((a.int ν).tmod (b.int ν))
  | .shl k a b => .i (ishl k (a.int ν) (b.int ν))
  | .shr k a b => .i (ishr k (a.int ν) (b.int ν))
  | .eql a b => .b (a.int ν == b.int ν)
  | .neq a b => .b (a.int ν != b.int ν)
  | .lss a b => .b (decide (a.int ν < b.int ν))
  | .leq a b => .b (decide (a.int ν ≤ b.int ν))
  | .gtr a b => .b (decide (a.int ν > b.int ν))
  | .geq a b => .b (decide (a.int ν ≥ b.int ν))
  | .beq a b => .b (a.bool ν == b.bool ν)
  | .bne a b => .b (a.bool ν != b.bool ν)
  | .not a => .b (!a.bool ν)
  | .and a b => .b (a.bool ν && b.bool ν)
  | .or a b => .b (a.bool ν || b.bool ν)
  | .itei c a b => .i (bif c.bool ν then a.int ν else b.int ν)
  | .iteb c a b => .b (bif c.bool ν then a.bool ν else b.bool ν)
  | .conv k a => .i (k.wrap (a.int ν))
  | .seli l ix => .i ((l.map (A.int ν)).getD (ix.int ν).toNat 0)
  | .selb l ix => .b ((l.map (A.bool ν)).getD (ix.int ν).toNat false)
  | .call f args j => (F f (args.map (A.den ν))).getD j default
  | .lmk ts l => .l (nrmZ ts (l.map (A.den ν)))
  | .llen sz a => .i ((a.cells ν).length / sz : Nat)
  | .lgeti sz j a ix => .i ((a.cells ν).getD ((ix.int ν).toNat * sz + j) default).toI
  | .lgetb sz j a ix => .b ((a.cells ν).getD ((ix.int ν).toNat * sz + j) default).toB
  | .lgetl sz j a ix => .l ((a.cells ν).getD ((ix.int ν).toNat * sz + j) default).toL
  | .lset sz j t a ix x => .l ((a.cells ν).set ((ix.int ν).toNat * sz + j) (nrm t (x.den ν)))
  | .lcat a b => .l (a.cells ν ++ b.cells ν)
  | .ltake sz a n => .l ((a.cells ν).take ((n.int ν).toNat * sz))
  | .ldrop sz a n => .l ((a.cells ν).drop ((n.int ν).toNat * sz))
  | .lrep n ts l => .l (List.replicate (n.int ν).toNat (nrmZ ts (l.map (A.den ν)))).flatten
  | .itel c a b => .l (bif c.bool ν then a.cells ν else b.cells ν)

inductive Off where
  | c (n : Nat)
  | s (base : Nat) (ix : A) (sz len : Nat)
  /-- a cell of an element of a row whose cells are a -/
  | v (base : Nat) (ix : A) (sz : Nat) (a : A)
  /-- one of a row of a row -/
  | d (base : Nat) (ix : A) (sz len : Nat) (ix2 : A) (sz2 len2 : Nat)
  deriving Inhabited

def Off.val (ν : Nat → DV) : Off → Nat
  | .c n => n
  | .s base ix sz _ => base + (ix.int ν).toNat * sz
  | .v base ix sz _ => base + (ix.int ν).toNat * sz
  | .d base ix sz _ ix2 sz2 _ => base + (ix.int ν).toNat * sz + (ix2.int ν).toNat * sz2

def Off.plus : Off → Nat → Off
  | .c n, k => .c (n + k)
  | .s b ix sz len, k => .s (b + k) ix sz len
  | .v b ix sz a, k => .v (b + k) ix sz a
  | .d b ix sz len ix2 sz2 len2, k => .d (b + k) ix sz len ix2 sz2 len2

def Off.beq : Off → Off → Bool
  | .c x1, .c y1 => Nat.beq x1 y1
  | .s x1 x2 x3 x4, .s y1 y2 y3 y4 => Nat.beq x1 y1 && x2.beq y2 && Nat.beq x3 y3 && Nat.beq x4 y4
  | .v x1 x2 x3 x4, .v y1 y2 y3 y4 => Nat.beq x1 y1 && x2.beq y2 && Nat.beq x3 y3 && x4.beq y4
  | .d x1 x2 x3 x4 x5 x6 x7, .d y1 y2 y3 y4 y5 y6 y7 => Nat.beq x1 y1 && x2.beq y2 && Nat.beq x3 y3 && Nat.beq x4 y4 && x5.beq y5 && Nat.beq x6 y6 && Nat.beq x7 y7
  | _, _ => false

structure Loc where
  blk : Nat
  off : Nat
  nil : Bool
  len : Nat
  cap : Nat
  deriving Inhabited
def Loc.slice (r : Loc) : Value := .slice (bif r.nil then none else some ⟨r.blk, r.off, none⟩) r.len r.cap

inductive Lf where
  | i (k : IntKind) (a : A)
  | b (a : A)
  | p (blk : Nat) (off : Off)
  | gp (g : Nat) (off : Off)
  | nilp
  /-- a slice: the whole of a row -/
  | vec (blk : Nat)
  /-- a function that bears places: blocks -/
  | fnp (f : Nat) (bs : List Nat)
  | v (x : Value)
  deriving Inhabited

def capsConc (ρ : Nat → Loc) (bs : List Nat) : Array Value := (bs.map fun b => Value.pointer (some ⟨(ρ b).blk, (ρ b).off + 0, none⟩)).toArray
def natsEq : List Nat → List Nat → Bool
  | [], [] => true
  | a :: l, b :: l' => Nat.beq a b && natsEq l l'
  | _, _ => false
def Lf.conc (ν : Nat → DV) (ρ : Nat → Loc) : Lf → Value
  | .i k a => .int k (a.int ν)
  | .b a => .bool (a.bool ν)
  | .p blk off => .pointer (some ⟨(ρ blk).blk, (ρ blk).off + off.val ν, none⟩)
  | .gp g off => .pointer (some ⟨g, off.val ν, none⟩)
  | .nilp => .pointer none
  | .vec blk => (ρ blk).slice
  | .fnp f bs => .func (.func f) #[] (capsConc ρ bs)
  | .v x => x

def Lf.ok : Lf → Bool
  | .v x => x.oneCell'
  | _ => true

def Lf.scalar : Lf → Bool
  | .i _ _ | .b _ => true
  | _ => false

def Lf.lt (n : Nat) : Lf → Bool
  | .p blk _ => decide (blk < n)
  | .vec blk => decide (blk < n)
  | .fnp _ bs => bs.all fun b => decide (b < n)
  | _ => true

inductive V1 where
  | one (l : Lf)
  | agg (l : List Lf)
  deriving Inhabited

def V1.conc (ν : Nat → DV) (ρ : Nat → Loc) : V1 → Value
  | .one l => l.conc ν ρ
  | .agg l => .agg (l.map (Lf.conc ν ρ)).toArray
def V1.cells : V1 → List Lf
  | .one l => [l]
  | .agg l => l
def V1.lt (n : Nat) (v : V1) : Bool := v.cells.all (Lf.lt n)

inductive V where
  | s (v : V1)
  | t (l : List V1)
  deriving Inhabited

def V.conc (ν : Nat → DV) (ρ : Nat → Loc) : V → Value
  | .s v => v.conc ν ρ
  | .t l => .tuple (l.map (V1.conc ν ρ)).toArray
def V.lt (n : Nat) : V → Bool
  | .s v => v.lt n
  | .t l => l.all (V1.lt n)

inductive LT where
  | int (k : IntKind)
  | bool
  /-- a row whose elements have such cells -/
  | vec (ts : List LT)
  deriving Inhabited

inductive Blk where
  | c (own : Bool) (cs : List (Option Lf))
  | v (own : Bool) (ts : List LT) (a : A)
  deriving Inhabited
def Blk.own : Blk → Bool
  | .c o _ => o
  | .v o _ _ => o

structure St where
  sl : List (Option V)
  hp : List (Option Blk)
  deriving Inhabited

structure Nd where
  path : List (A × Bool)
  a : A
  deriving Inhabited

def Nd.holds (ν : Nat → DV) (n : Nd) : Prop := (∀ c ∈ n.path, c.1.bool ν = c.2) → n.a.bool ν = true

abbrev Em := List (Nat × Node)
def Sat (F : FEnv) (ν : Nat → DV) (e : Em) : Prop := ∀ p ∈ e, ν p.1 = denNode F ν p.2

def look (base : Nat → DV) (n0 : Nat) (vs : List DV) (n i : Nat) : DV :=
  bif Nat.blt i n0 then base i else vs.getD (n - 1 - i) default

def evalNodes (F : FEnv) (base : Nat → DV) (n0 : Nat) : Em → List DV → Nat → List DV
  | [], vs, _ => vs
  | (_, x) :: r, vs, n => evalNodes F base n0 r (denNode F (look base n0 vs n) x :: vs) (n + 1)

structure LR where
  fid : Nat
  n : Nat
  k : Nat
  inv : List Nat
  nodes : Em
  owes : List Nd
  c : A
  nx : List A
  outs : List A
  ts : List Ty := []
  deriving Inhabited

def LR.env (F : FEnv) (l : LR) (ν : Nat → DV) (xs : List DV) : Nat → DV :=
  look ν l.n (evalNodes F ν l.n l.nodes xs.reverse (l.n + l.k)) (l.n + l.k + l.nodes.length)

def TEq : List Ty → List DV → List DV → Prop
  | t :: ts, a :: as, b :: bs => t.eqAt a b ∧ TEq ts as bs
  | [], [], [] => True
  | _, _, _ => False

def LoopSound (F : FEnv) (l : LR) : Prop :=
  ∃ μ : List DV → Nat, ∀ (ν : Nat → DV) (xs : List DV), xs.length = l.k →
    ((F l.fid (l.inv.map ν ++ xs)).getD 0 default).toB = true →
    (∀ q ∈ l.owes, Nd.holds (l.env F ν xs) q) ∧
    (l.c.bool (l.env F ν xs) = true →
      ((F l.fid (l.inv.map ν ++ l.nx.map (A.den (l.env F ν xs)))).getD 0 default).toB = true ∧
      F l.fid (l.inv.map ν ++ l.nx.map (A.den (l.env F ν xs))) = F l.fid (l.inv.map ν ++ xs) ∧
      μ (l.inv.map ν ++ l.nx.map (A.den (l.env F ν xs))) < μ (l.inv.map ν ++ xs)) ∧
    (l.c.bool (l.env F ν xs) = false → TEq (.i :: l.ts) ((F l.fid (l.inv.map ν ++ xs)).drop 1) (l.outs.map (A.den (l.env F ν xs))))

inductive Ob where
  | nd (q : Nd)
  | lp (l : LR)
def Ob.holds (F : FEnv) (ν : Nat → DV) : Ob → Prop
  | .nd q => q.holds ν
  | .lp l => LoopSound F l
def Ob.under (c : A) (b : Bool) : Ob → Ob
  | .nd q => .nd ⟨(c, b) :: q.path, q.a⟩
  | .lp l => .lp l

def ndsOf : List Ob → List Nd
  | [] => []
  | .nd q :: l => q :: ndsOf l
  | .lp _ :: l => ndsOf l
def lpsOf : List Ob → List LR
  | [] => []
  | .nd _ :: l => lpsOf l
  | .lp q :: l => q :: lpsOf l

def M (α : Type) := Nat → Option (α × Nat × Em × List Ob)
def M.pure {α : Type} (a : α) : M α := fun n => some (a, n, [], [])
def M.bind {α β : Type} (x : M α) (f : α → M β) : M β := fun n =>
  match x n with
  | none => none
  | some (a, n1, e1, d1) =>
    match f a n1 with
    | none => none
    | some (b, n2, e2, d2) => some (b, n2, e1 ++ e2, d1 ++ d2)
instance : Monad M where
  pure := M.pure
  bind := M.bind
def M.fail {α : Type} : M α := fun _ => none
def M.lift {α : Type} (o : Option α) : M α := fun n =>
  match o with
  | none => none
  | some a => some (a, n, [], [])
def emit (x : Node) : M A := fun n => some (.r n, n + 1, [(n, x)], [])
def owe (a : A) : M Unit := fun n => some ((), n, [], [.nd ⟨[], a⟩])
def under {α : Type} (c : A) (b : Bool) (x : M α) : M α := fun n =>
  match x n with
  | none => none
  | some (a, n1, e, d) => some (a, n1, e, d.map (Ob.under c b))

def mkNot : A → M A
  | .t b => pure (.t !b)
  | a => emit (.not a)
def mkAnd : A → A → M A
  | .t true, b => pure b
  | .t false, _ => pure (.t false)
  | a, .t true => pure a
  | _, .t false => pure (.t false)
  | a, b => emit (.and a b)
def mkIteI (c a b : A) : M A :=
  match c with
  | .t true => pure a
  | .t false => pure b
  | c => if a.beq b then pure a else emit (.itei c a b)
def mkIteB (c a b : A) : M A :=
  match c with
  | .t true => pure a
  | .t false => pure b
  | c => if a.beq b then pure a else
    match a, b with
    | .t true, .t false => pure c
    | .t false, .t true => emit (.not c)
    | .t true, b => emit (.or c b)
    | a, .t false => emit (.and c a)
    | a, b => emit (.iteb c a b)

def mkIteL (c a b : A) : M A :=
  match c with
  | .t true => pure a
  | .t false => pure b
  | c => if a.beq b then pure a else emit (.itel c a b)

def oweNe0 (b : A) : M Unit :=
  match b with
  | .z m => if m = 0 then M.fail else pure ()
  | b => do owe (← emit (.neq b (.z 0)))
def oweGe0 (b : A) : M Unit :=
  match b with
  | .z m => if 0 ≤ m then pure () else M.fail
  | b => do owe (← emit (.geq b (.z 0)))

def evBin (op : BinOp) (k : IntKind) (a b : A) : M Lf :=
  match op, a, b with
  | .add, .z x, .z y => pure (.i k (.z (k.wrap (x + y))))
  | .sub, .z x, .z y => pure (.i k (.z (k.wrap (x - y))))
  | .mul, .z x, .z y => pure (.i k (.z (k.wrap (x * y))))
  | .and, .z x, .z y => pure (.i k (.z (iland k x y)))
  | .or, .z x, .z y => pure (.i k (.z (ilor k x y)))
  | .xor, .z x, .z y => pure (.i k (.z (ilxor k x y)))
  | .andNot, .z x, .z y => pure (.i k (.z (ilandNot k x y)))
  | .eql, .z x, .z y => pure (.b (.t (x == y)))
  | .neq, .z x, .z y => pure (.b (.t (x != y)))
  | .lss, .z x, .z y => pure (.b (.t (decide (x < y))))
  | .leq, .z x, .z y => pure (.b (.t (decide (x ≤ y))))
  | .gtr, .z x, .z y => pure (.b (.t (decide (x > y))))
  | .geq, .z x, .z y => pure (.b (.t (decide (x ≥ y))))
  | .quo, .z x, .z y => do oweNe0 (.z y); pure (.i k (.z (k.wrap (x.tdiv y))))
  | .rem, .z x, .z y => do oweNe0 (.z y); pure (.i k (.z (x.tmod y)))
  | .add, a, b => do pure (.i k (← emit (.add k a b)))
  | .sub, a, b => do pure (.i k (← emit (.sub k a b)))
  | .mul, a, b => do pure (.i k (← emit (.mul k a b)))
  | .and, a, b => do pure (.i k (← emit (.land k a b)))
  | .or, a, b => do pure (.i k (← emit (.lor k a b)))
  | .xor, a, b => do pure (.i k (← emit (.lxor k a b)))
  | .andNot, a, b => do pure (.i k (← emit (.landNot k a b)))
  | .eql, a, b => do pure (.b (← emit (.eql a b)))
  | .neq, a, b => do pure (.b (← emit (.neq a b)))
  | .lss, a, b => do pure (.b (← emit (.lss a b)))
  | .leq, a, b => do pure (.b (← emit (.leq a b)))
  | .gtr, a, b => do pure (.b (← emit (.gtr a b)))
  | .geq, a, b => do pure (.b (← emit (.geq a b)))
  | .quo, a, b => do oweNe0 b; pure (.i k (← emit (.quo k a b)))
  | .rem, a, b => do oweNe0 b; pure (.i k (← emit (.rem k a b)))
  | _, _, _ => M.fail

def evShift (op : BinOp) (k : IntKind) (a b : A) : M Lf :=
  match op, a, b with
  | .shl, .z x, .z y => do oweGe0 (.z y); pure (.i k (.z (ishl k x y)))
  | .shr, .z x, .z y => do oweGe0 (.z y); pure (.i k (.z (ishr k x y)))
  | .shl, a, b => do oweGe0 b; pure (.i k (← emit (.shl k a b)))
  | .shr, a, b => do oweGe0 b; pure (.i k (← emit (.shr k a b)))
  | _, _, _ => M.fail

def evBoolOp (op : BinOp) (a b : A) : M Lf :=
  match op, a, b with
  | .eql, .t x, .t y => pure (.b (.t (x == y)))
  | .neq, .t x, .t y => pure (.b (.t (x != y)))
  | .eql, a, b => do pure (.b (← emit (.beq a b)))
  | .neq, a, b => do pure (.b (← emit (.bne a b)))
  | _, _, _ => M.fail

inductive TK where
  | int (k : IntKind)
  | bool
  | arr (len elem : Nat)
  | struct (fs : List (Nat × Nat))
  | slice (elem : Nat)
  | ptr (elem : Nat)
  | other
  deriving Inhabited

def tkOf : TypeDesc → TK
  | .int k => .int k
  | .bool => .bool
  | .array len elem => .arr len elem
  | .struct fs => .struct (fs.toList.map fun f => (f.offset, f.type))
  | .slice e => .slice e
  | .pointer e => .ptr e
  | _ => .other

def tk (P : Program) (t : TypeId) : Option TK := (P.underlying t).map tkOf
def tsize (P : Program) (t : TypeId) : Option Nat := (P.info? t).map (·.size)
def isAggT : TK → Bool
  | .arr _ _ | .struct _ => true
  | _ => false

def ofLeaf : Value → Option Lf
  | .int k n => some (.i k (.z n))
  | .bool b => some (.b (.t b))
  | .pointer none => some .nilp
  | .pointer (some _) => none
  | .agg _ => none
  | .tuple _ => none
  | v => some (.v v)

def allSome {α β : Type} (f : α → Option β) : List α → Option (List β)
  | [] => some []
  | a :: l =>
    match f a with
    | none => none
    | some b =>
      match allSome f l with
      | none => none
      | some r => some (b :: r)

def ofConst : Value → Option V1
  | .agg cs => (allSome ofLeaf cs.toList).map .agg
  | v => (ofLeaf v).map .one

def zeroCells (P : Program) (t : TypeId) : Option (List Lf) :=
  match P.info? t with
  | none => none
  | some i =>
    match i.zero with
    | none => none
    | some z => allSome ofLeaf z.cells.toList

structure Sig where
  ins : List V
  hin : List (Option Blk)
  its : List Ty
  out : V
  hout : List (Option Blk)
  ots : List Ty
  /-- does the first result tell whether the call may be made? -/
  need : Bool
  deriving Inhabited

def Sig.nin (sg : Sig) : Nat := sg.its.length

def wrapResults : List V1 → V
  | [v] => .s v
  | l => .t l

def assoc {α : Type} : List (Nat × α) → Nat → Option α
  | [], _ => none
  | (g, s) :: r, f => if Nat.beq f g then some s else assoc r f

structure Sigs where
  fs : List (Nat × Sig)
  gs : List (Nat × List Lf)
  ls : List (Nat × Nat)
  /-- so many blocks came in -/
  n0 : Nat := 0
  deriving Inhabited
def Sigs.get (l : Sigs) (f : Nat) : Option Sig := assoc l.fs f

def calleeOk (P : Program) (f : FuncId) : Bool :=
  match P.funcs[f]? with
  | some fn => !(fn.name == "runtime.NumGoroutine") && fn.body.isSome
  | none => false

def St.blk (s : St) (b : Nat) : Option Blk := (s.hp[b]?).join

def takeCells : List (Option Lf) → Nat → Nat → Option (List Lf)
  | _, _, 0 => some []
  | [], _, _ + 1 => none
  | _ :: l, o + 1, n + 1 => takeCells l o (n + 1)
  | c :: l, 0, n + 1 =>
    match c with
    | none => none
    | some x =>
      match takeCells l 0 n with
      | none => none
      | some r => some (x :: r)

def cellAt : List (Option Lf) → Nat → Option Lf
  | [], _ => none
  | c :: _, 0 => c
  | _ :: l, n + 1 => cellAt l n

def rowCells (l : List (Option Lf)) (base sz : Nat) : Nat → Option (List Lf)
  | 0 => some []
  | n + 1 =>
    match cellAt l base with
    | none => none
    | some x =>
      match rowCells l (base + sz) sz n with
      | none => none
      | some r => some (x :: r)

def asInts (k : IntKind) : List Lf → Option (List A)
  | [] => some []
  | .i k' a :: l =>
    if kEq k k' then
      match asInts k l with
      | none => none
      | some r => some (a :: r)
    else none
  | _ :: _ => none
def asBools : List Lf → Option (List A)
  | [] => some []
  | .b a :: l =>
    match asBools l with
    | none => none
    | some r => some (a :: r)
  | _ :: _ => none

def selLeaf (l : List Lf) (ix : A) : M Lf :=
  match l with
  | .i k _ :: _ => do
    let xs ← M.lift (asInts k l)
    pure (.i k (← emit (.seli xs ix)))
  | .b _ :: _ => do
    let xs ← M.lift (asBools l)
    pure (.b (← emit (.selb xs ix)))
  | _ => M.fail

def selAgg (l : List (Option Lf)) (base sz len : Nat) (ix : A) : Nat → M (List Lf)
  | 0 => pure []
  | n + 1 => do
    let row ← M.lift (rowCells l base sz len)
    let x ← selLeaf row ix
    let r ← selAgg l (base + 1) sz len ix n
    pure (x :: r)

def selRows (l : List (Option Lf)) (base sz len : Nat) (ix : A) (sz2 : Nat) : Nat → M (List Lf)
  | 0 => pure []
  | n + 1 => do
    let row ← M.lift (rowCells l base sz len)
    let x ← selLeaf row ix
    let r ← selRows l (base + sz2) sz len ix sz2 n
    pure (x :: r)

def loadCells (cs : List (Option Lf)) (off : Off) (agg : Bool) (size : Nat) : M V1 :=
  match off, agg with
  | .c o, true => do pure (.agg (← M.lift (takeCells cs o size)))
  | .c o, false => do pure (.one (← M.lift (cellAt cs o)))
  | .s base ix sz len, true => do pure (.agg (← selAgg cs base sz len ix size))
  | .s base ix sz len, false => do
    let row ← M.lift (rowCells cs base sz len)
    pure (.one (← selLeaf row ix))
  | .d base ix sz len ix2 sz2 len2, false => do
    let row ← selRows cs base sz len ix sz2 len2
    pure (.one (← selLeaf row ix2))
  | _, _ => M.fail

def putCells : List (Option Lf) → Nat → List Lf → Option (List (Option Lf))
  | l, _, [] => some l
  | [], _, _ :: _ => none
  | c :: l, o + 1, xs => (putCells l o xs).map (c :: ·)
  | _ :: l, 0, x :: xs => (putCells l 0 xs).map (some x :: ·)

def Lf.beq : Lf → Lf → Bool
  | .i x1 x2, .i y1 y2 => kEq x1 y1 && x2.beq y2
  | .b x1, .b y1 => x1.beq y1
  | .p x1 x2, .p y1 y2 => Nat.beq x1 y1 && x2.beq y2
  | .gp x1 x2, .gp y1 y2 => Nat.beq x1 y1 && x2.beq y2
  | .nilp, .nilp => true
  | .vec x, .vec y => Nat.beq x y
  | .fnp f bs, .fnp g cs => Nat.beq f g && natsEq bs cs
  | _, _ => false

def mergeLf (c : A) (x y : Lf) : M (Option Lf) :=
  if x.beq y then pure (some x) else
  match x, y with
  | .i k a, .i k' b => if kEq k k' then do pure (some (.i k (← mkIteI c a b))) else pure none
  | .b a, .b b => do pure (some (.b (← mkIteB c a b)))
  | _, _ => pure none

def mergeLfs (c : A) : List Lf → List Lf → M (Option (List Lf))
  | [], [] => pure (some [])
  | x :: l, y :: l' => do
    let a ← mergeLf c x y
    let b ← mergeLfs c l l'
    pure (match a, b with
      | some a, some b => some (a :: b)
      | _, _ => none)
  | _, _ => pure none

def mergeV1 (c : A) (x y : V1) : M (Option V1) :=
  match x, y with
  | .one a, .one b => do pure ((← mergeLf c a b).map .one)
  | .agg a, .agg b => do pure ((← mergeLfs c a b).map .agg)
  | _, _ => pure none

def mergeV1s (c : A) : List V1 → List V1 → M (Option (List V1))
  | [], [] => pure (some [])
  | x :: l, y :: l' => do
    let a ← mergeV1 c x y
    let b ← mergeV1s c l l'
    pure (match a, b with
      | some a, some b => some (a :: b)
      | _, _ => none)
  | _, _ => pure none

def mergeV (c : A) (x y : V) : M (Option V) :=
  match x, y with
  | .s a, .s b => do pure ((← mergeV1 c a b).map .s)
  | .t a, .t b => do pure ((← mergeV1s c a b).map .t)
  | _, _ => pure none

def putRow (ix : A) (x : Lf) : List (Option Lf) → (base sz len j : Nat) → M (List (Option Lf))
  | l, _, _, 0, _ => pure l
  | [], _, _, _ + 1, _ => M.fail
  | c :: l, base + 1, sz, len + 1, j => do pure (c :: (← putRow ix x l base sz (len + 1) j))
  | c :: l, 0, sz, len + 1, j =>
    match c with
    | none => M.fail
    | some old => do
      let e ← emit (.eql ix (.z j))
      match ← mergeLf e x old with
      | none => M.fail
      | some y => do pure (some y :: (← putRow ix x l (sz - 1) sz len (j + 1)))

def putRows (ix : A) : List Lf → List (Option Lf) → (base sz len : Nat) → M (List (Option Lf))
  | [], l, _, _, _ => pure l
  | x :: xs, l, base, sz, len => do
    let l1 ← putRow ix x l base sz len 0
    putRows ix xs l1 (base + 1) sz len

def storeCellsAt (cs : List (Option Lf)) (off : Off) (xs : List Lf) : M (List (Option Lf)) :=
  match off with
  | .c o => M.lift (putCells cs o xs)
  | .s base ix sz len => if decide (0 < sz) then putRows ix xs cs base sz len else M.fail
  | _ => M.fail

end Go.Sx

namespace Go.Sx

def optAll {α : Type} (p : α → Bool) : Option α → Bool
  | some x => p x
  | none => true

def nth {α : Type} : List (Option α) → Nat → Option α
  | [], _ => none
  | x :: _, 0 => x
  | _ :: l, n + 1 => nth l n

def A.inst (ops : List A) : A → A
  | .h j => ops.getD j default
  | a => a
def Off.inst (ops : List A) : Off → Off
  | .c n => .c n
  | .s b ix sz len => .s b (ix.inst ops) sz len
  | .v b ix sz a => .v b (ix.inst ops) sz (a.inst ops)
  | .d b ix sz len ix2 sz2 len2 => .d b (ix.inst ops) sz len (ix2.inst ops) sz2 len2
def Lf.inst (ops : List A) : Lf → Lf
  | .i k a => .i k (a.inst ops)
  | .b a => .b (a.inst ops)
  | .p blk off => .p blk (off.inst ops)
  | .gp g off => .gp g (off.inst ops)
  | x => x
def V1.inst (ops : List A) : V1 → V1
  | .one l => .one (l.inst ops)
  | .agg l => .agg (l.map (Lf.inst ops))
def V.inst (ops : List A) : V → V
  | .s v => .s (v.inst ops)
  | .t l => .t (l.map (V1.inst ops))
def Blk.inst (ops : List A) : Blk → Blk
  | .c o cs => .c o (cs.map (Option.map (Lf.inst ops)))
  | .v o ts a => .v o ts (a.inst ops)
def St.inst (ops : List A) (s : St) : St := ⟨s.sl.map (Option.map (V.inst ops)), s.hp.map (Option.map (Blk.inst ops))⟩

def A.tyOk (p : A → Bool) (tys : List Ty) (t : Ty) : A → Bool
  | .h j => optAll t.beq tys[j]? && decide (j < tys.length)
  | a => p a
def Off.tyOk (p : A → Bool) (tys : List Ty) : Off → Bool
  | .c _ => true
  | .s _ ix _ _ => ix.tyOk p tys .i
  | .v _ ix _ a => ix.tyOk p tys .i && a.tyOk p tys .l
  | .d _ ix _ _ ix2 _ _ => ix.tyOk p tys .i && ix2.tyOk p tys .i
def Lf.tyOk (p : A → Bool) (tys : List Ty) : Lf → Bool
  | .i _ a => a.tyOk p tys .i
  | .b a => a.tyOk p tys .b
  | .p _ off | .gp _ off => off.tyOk p tys
  | _ => true
def V1.tyOk (p : A → Bool) (tys : List Ty) (v : V1) : Bool := v.cells.all (Lf.tyOk p tys)
def V.tyOk (p : A → Bool) (tys : List Ty) : V → Bool
  | .s v => v.tyOk p tys
  | .t l => l.all (V1.tyOk p tys)
def Blk.tyOk (p : A → Bool) (tys : List Ty) : Blk → Bool
  | .c _ cs => cs.all (optAll (Lf.tyOk p tys))
  | .v _ _ a => a.tyOk p tys .l
def St.tyOk (p : A → Bool) (tys : List Ty) (s : St) : Bool := s.sl.all (optAll (V.tyOk p tys)) && s.hp.all (optAll (Blk.tyOk p tys))

def rnm (m : List Nat) (j : Nat) : Nat := m.getD j 0
def vBeq : Value → Value → Bool
  | .func (.func f) a b, .func (.func g) c d => Nat.beq f g && Nat.beq a.size 0 && Nat.beq b.size 0 && Nat.beq c.size 0 && Nat.beq d.size 0
  | .slice none 0 0, .slice none 0 0 => true
  | .nilFunc, .nilFunc => true
  | .nilIface, .nilIface => true
  | _, _ => false
def Lf.sub (m : List Nat) : Lf → Lf → Bool
  | .i k a, .i k' a' => kEq k k' && a.beq a'
  | .b a, .b a' => a.beq a'
  | .p k off, .p k' off' => Nat.beq (rnm m k) k' && off.beq off'
  | .gp g off, .gp g' off' => Nat.beq g g' && off.beq off'
  | .nilp, .nilp => true
  | .vec k, .vec k' => Nat.beq (rnm m k) k'
  | .fnp f bs, .fnp g cs => Nat.beq f g && natsEq (bs.map (rnm m)) cs
  | .v x, .v y => vBeq x y
  | _, _ => false
def Lfs.sub (m : List Nat) : List Lf → List Lf → Bool
  | [], [] => true
  | x :: l, y :: l' => x.sub m y && Lfs.sub m l l'
  | _, _ => false
def V1.sub (m : List Nat) : V1 → V1 → Bool
  | .one x, .one y => x.sub m y
  | .agg x, .agg y => Lfs.sub m x y
  | _, _ => false
def V1s.sub (m : List Nat) : List V1 → List V1 → Bool
  | [], [] => true
  | x :: l, y :: l' => x.sub m y && V1s.sub m l l'
  | _, _ => false
def V.sub (m : List Nat) : V → V → Bool
  | .s x, .s y => x.sub m y
  | .t x, .t y => V1s.sub m x y
  | _, _ => false
def slotsSub (m : List Nat) : List (Option V) → List (Option V) → Bool
  | [], [] => true
  | none :: l, _ :: l' => slotsSub m l l'
  | some x :: l, some y :: l' => x.sub m y && slotsSub m l l'
  | _, _ => false
def cellsSub (m : List Nat) : List (Option Lf) → List (Option Lf) → Bool
  | [], _ => true
  | none :: l, l' => cellsSub m l l'.tail
  | some x :: l, some y :: l' => x.sub m y && cellsSub m l l'
  | some _ :: _, _ => false
def LT.beq : LT → LT → Bool
  | .int k, .int k' => kEq k k'
  | .bool, .bool => true
  | .vec [t], .vec [u] => LT.beq t u
  | .vec [t, t2], .vec [u, u2] => LT.beq t u && LT.beq t2 u2
  | _, _ => false
def LTs.beq : List LT → List LT → Bool
  | [], [] => true
  | t :: l, u :: l' => t.beq u && LTs.beq l l'
  | _, _ => false
def Blk.sub (m : List Nat) : Blk → Blk → Bool
  | .c o cs, .c o' cs' => (!o || (o' && Nat.beq cs.length cs'.length)) && cellsSub m cs cs'
  | .v o ts a, .v o' ts' a' => (!o || o') && LTs.beq ts ts' && a.beq a'
  | _, _ => false
def heapSub (m : List Nat) (hp : List (Option Blk)) : Nat → List (Option Blk) → Bool
  | _, [] => true
  | j, none :: l => heapSub m hp (j + 1) l
  | j, some x :: l => (match nth hp (rnm m j) with | some y => x.sub m y | none => false) && heapSub m hp (j + 1) l
def onlyAt (m : List Nat) (i b : Nat) : Nat → List (Option Blk) → Bool
  | _, [] => true
  | j, none :: l => onlyAt m i b (j + 1) l
  | j, some _ :: l => (Nat.beq j i || !Nat.beq (rnm m j) b) && onlyAt m i b (j + 1) l
def apartB (m : List Nat) (all : List (Option Blk)) : Nat → List (Option Blk) → Bool
  | _, [] => true
  | j, none :: l => apartB m all (j + 1) l
  | j, some x :: l => (!x.own || onlyAt m j (rnm m j) 0 all) && apartB m all (j + 1) l
def St.sub (m : List Nat) (x y : St) : Bool := slotsSub m x.sl y.sl && heapSub m y.hp 0 x.hp && apartB m x.hp 0 x.hp
def keeps (m : List Nat) : Nat → Bool
  | 0 => true
  | n + 1 => keeps m n && Nat.beq (rnm m n) n

structure Gs where
  hs : List (Nat × A)
  ms : List (Nat × Nat)
def gA (g : Gs) : A → A → Gs
  | .h j, a => ⟨(j, a) :: g.hs, g.ms⟩
  | _, _ => g
def gOff (g : Gs) : Off → Off → Gs
  | .s _ ix _ _, .s _ ix' _ _ => gA g ix ix'
  | .v _ ix _ a, .v _ ix' _ a' => gA (gA g ix ix') a a'
  | .d _ ix _ _ ix2 _ _, .d _ ix' _ _ ix2' _ _ => gA (gA g ix ix') ix2 ix2'
  | _, _ => g
def gLf (g : Gs) : Lf → Lf → Gs
  | .i _ a, .i _ b => gA g a b
  | .b a, .b b => gA g a b
  | .p pb off, .p b off' => gOff ⟨g.hs, (pb, b) :: g.ms⟩ off off'
  | .gp _ off, .gp _ off' => gOff g off off'
  | .fnp _ bs, .fnp _ cs => ⟨g.hs, bs.zip cs ++ g.ms⟩
  | .vec pb, .vec b => ⟨g.hs, (pb, b) :: g.ms⟩
  | _, _ => g
def gLfs (g : Gs) : List Lf → List Lf → Gs
  | x :: l, y :: l' => gLfs (gLf g x y) l l'
  | _, _ => g
def gV1 (g : Gs) : V1 → V1 → Gs
  | .one x, .one y => gLf g x y
  | .agg x, .agg y => gLfs g x y
  | _, _ => g
def gV1s (g : Gs) : List V1 → List V1 → Gs
  | x :: l, y :: l' => gV1s (gV1 g x y) l l'
  | _, _ => g
def gV (g : Gs) : V → V → Gs
  | .s x, .s y => gV1 g x y
  | .t x, .t y => gV1s g x y
  | _, _ => g
def gSlots (g : Gs) : List (Option V) → List (Option V) → Gs
  | some x :: l, some y :: l' => gSlots (gV g x y) l l'
  | _ :: l, _ :: l' => gSlots g l l'
  | _, _ => g
def gCells (g : Gs) : List (Option Lf) → List (Option Lf) → Gs
  | some x :: l, some y :: l' => gCells (gLf g x y) l l'
  | _ :: l, _ :: l' => gCells g l l'
  | _, _ => g
def gBlk (g : Gs) : Blk → Blk → Gs
  | .c _ cs, .c _ cs' => gCells g cs cs'
  | .v _ _ a, .v _ _ a' => gA g a a'
  | _, _ => g
def gHeap (hp : List (Option Blk)) (g : Gs) : Nat → List (Option Blk) → Gs
  | _, [] => g
  | j, none :: l => gHeap hp g (j + 1) l
  | j, some x :: l =>
    match nth hp ((assoc g.ms j).getD j) with
    | some y => gHeap hp (gBlk g x y) (j + 1) l
    | none => gHeap hp g (j + 1) l
def holesOf (g : Gs) (n : Nat) : List A := (List.range n).map fun j => (assoc g.hs j).getD default
def mapOf (g : Gs) (n : Nat) : List Nat := (List.range n).map fun j => (assoc g.ms j).getD j
def guess (n : Nat) (pat act : St) : List A × List Nat :=
  let g := gHeap act.hp (gSlots ⟨[], []⟩ pat.sl act.sl) 0 pat.hp
  (holesOf g n, mapOf g pat.hp.length)

structure Js where
  n : Nat
  tys : List Ty
  nb : Nat
  news : List (Option Blk)
  kills : List Nat
def Js.hole (j : Js) (t : Ty) : A × Js := (.h j.n, ⟨j.n + 1, t :: j.tys, j.nb, j.news, j.kills⟩)
def Js.vec (j : Js) (o o' : Bool) (ts : List LT) (b1 b2 : Nat) : Lf × Js :=
  (.vec j.nb, ⟨j.n + 1, .l :: j.tys, j.nb + 1, some (.v (o && o') ts (.h j.n)) :: j.news, (if o then [b1] else []) ++ (if o' then [b2] else []) ++ j.kills⟩)
def joinLf (x y : St) (js : Js) (a b : Lf) : Option (Lf × Js) :=
  if a.beq b then some (a, js) else
  match a, b with
  | .i k _, .i k' _ => if kEq k k' then let h := js.hole .i; some (.i k h.1, h.2) else none
  | .b _, .b _ => let h := js.hole .b; some (.b h.1, h.2)
  | .vec b1, .vec b2 =>
    match nth x.hp b1, nth y.hp b2 with
    | some (.v o ts _), some (.v o' ts' _) => if LTs.beq ts ts' then some (js.vec o o' ts b1 b2) else none
    | _, _ => none
  | .v u, .v w => if vBeq u w then some (a, js) else none
  | _, _ => none
def joinLfs (x y : St) (js : Js) : List Lf → List Lf → Option (List Lf × Js)
  | [], [] => some ([], js)
  | a :: l, b :: l' =>
    match joinLf x y js a b with
    | none => none
    | some (c, j1) =>
      match joinLfs x y j1 l l' with
      | none => none
      | some (r, j2) => some (c :: r, j2)
  | _, _ => none
def joinV1 (x y : St) (js : Js) : V1 → V1 → Option (V1 × Js)
  | .one a, .one b => (joinLf x y js a b).map fun p => (.one p.1, p.2)
  | .agg a, .agg b => (joinLfs x y js a b).map fun p => (.agg p.1, p.2)
  | _, _ => none
def joinV1s (x y : St) (js : Js) : List V1 → List V1 → Option (List V1 × Js)
  | [], [] => some ([], js)
  | a :: l, b :: l' =>
    match joinV1 x y js a b with
    | none => none
    | some (c, j1) =>
      match joinV1s x y j1 l l' with
      | none => none
      | some (r, j2) => some (c :: r, j2)
  | _, _ => none
def joinV (x y : St) (js : Js) : V → V → Option (V × Js)
  | .s a, .s b => (joinV1 x y js a b).map fun p => (.s p.1, p.2)
  | .t a, .t b => (joinV1s x y js a b).map fun p => (.t p.1, p.2)
  | _, _ => none
def joinSlots (x y : St) (js : Js) : List (Option V) → List (Option V) → List (Option V) × Js
  | some a :: l, some b :: l' =>
    match joinV x y js a b with
    | some (c, j1) => let r := joinSlots x y j1 l l'; (some c :: r.1, r.2)
    | none => let r := joinSlots x y js l l'; (none :: r.1, r.2)
  | _ :: l, _ :: l' => let r := joinSlots x y js l l'; (none :: r.1, r.2)
  | l, _ => (l.map fun _ => none, js)
def joinCells (x y : St) (js : Js) : List (Option Lf) → List (Option Lf) → List (Option Lf) × Js
  | some a :: l, some b :: l' =>
    match joinLf x y js a b with
    | some (c, j1) => let r := joinCells x y j1 l l'; (some c :: r.1, r.2)
    | none => let r := joinCells x y js l l'; (none :: r.1, r.2)
  | _ :: l, _ :: l' => let r := joinCells x y js l l'; (none :: r.1, r.2)
  | l, _ => (l.map fun _ => none, js)
def joinBlk (x y : St) (js : Js) : Blk → Blk → Option (Blk × Js)
  | .c o cs, .c o' cs' => if Nat.beq cs.length cs'.length then let r := joinCells x y js cs cs'; some (.c (o && o') r.1, r.2) else none
  | .v o ts a, .v o' ts' a' =>
    if LTs.beq ts ts' then
      if a.beq a' then some (.v (o && o') ts a, js) else let h := js.hole .l; some (.v (o && o') ts h.1, h.2)
    else none
  | _, _ => none
def joinHeap (x y : St) (js : Js) : List (Option Blk) → List (Option Blk) → List (Option Blk) × Js
  | some a :: l, some b :: l' =>
    match joinBlk x y js a b with
    | some (c, j1) => let r := joinHeap x y j1 l l'; (some c :: r.1, r.2)
    | none => let r := joinHeap x y js l l'; (none :: r.1, r.2)
  | _ :: l, _ :: l' => let r := joinHeap x y js l l'; (none :: r.1, r.2)
  | l, [] => (l.map fun _ => none, js)
  | [], l' => (l'.map fun _ => none, js)
def memN (n : Nat) : List Nat → Bool
  | [] => false
  | x :: l => Nat.beq x n || memN n l
def blank (ks : List Nat) : Nat → List (Option Blk) → List (Option Blk)
  | _, [] => []
  | j, x :: l => (if memN j ks then none else x) :: blank ks (j + 1) l
structure Pat where
  st : St
  tys : List Ty
def joinPat (x y : St) : Pat :=
  let s := joinSlots x y ⟨0, [], max x.hp.length y.hp.length, [], []⟩ x.sl y.sl
  let h := joinHeap x y s.2 x.hp y.hp
  ⟨⟨s.1, blank h.2.kills 0 h.1 ++ h.2.news.reverse⟩, h.2.tys.reverse⟩

def mergeAs (c : A) : List Ty → List A → List A → M (List A)
  | .i :: ts, a :: l, b :: l' => do
    let x ← mkIteI c a b
    let r ← mergeAs c ts l l'
    pure (x :: r)
  | .b :: ts, a :: l, b :: l' => do
    let x ← mkIteB c a b
    let r ← mergeAs c ts l l'
    pure (x :: r)
  | .l :: ts, a :: l, b :: l' => do
    let x ← mkIteL c a b
    let r ← mergeAs c ts l l'
    pure (x :: r)
  | [], [], [] => pure []
  | _, _, _ => M.fail

def mergeSt (n0 : Nat) (c : A) (x y : St) : M St :=
  let p := joinPat x y
  let gx := guess p.tys.length p.st x
  let gy := guess p.tys.length p.st y
  if p.st.tyOk (fun _ => true) p.tys && (p.st.inst gx.1).sub gx.2 x && (p.st.inst gy.1).sub gy.2 y && keeps gx.2 n0 && keeps gy.2 n0 && Nat.ble n0 p.st.hp.length then do
    let ops ← mergeAs c p.tys gx.1 gy.1
    pure (p.st.inst ops)
  else M.fail

def freshLf (s : St) (nf : Bool) (js : Js) : Lf → Option (Lf × Js)
  | .i k _ => let h := js.hole .i; some (.i k h.1, h.2)
  | .b _ => let h := js.hole .b; some (.b h.1, h.2)
  | .vec b =>
    match nth s.hp b with
    | some (.v o ts _) => some (js.vec o (o && !nf) ts b b)
    | _ => none
  | _ => none
def freshLfs (s : St) (js : Js) : List Lf → Option (List Lf × Js)
  | [] => some ([], js)
  | a :: l =>
    match freshLf s false js a with
    | none => none
    | some (c, j1) =>
      match freshLfs s j1 l with
      | none => none
      | some (r, j2) => some (c :: r, j2)
def freshV (s : St) (nf : Bool) (js : Js) : V → Option (V × Js)
  | .s (.one a) => (freshLf s nf js a).map fun p => (.s (.one p.1), p.2)
  | .s (.agg l) => (freshLfs s js l).map fun p => (.s (.agg p.1), p.2)
  | .t _ => none
def endFrozen (es : List St) (t : Nat) : Bool := es.any fun e =>
  match nth e.sl t with
  | some (.s (.one (.vec b))) => (match nth e.hp b with | some (.v o _ _) => !o | _ => false)
  | _ => false
def freshSlots (s : St) (es : List St) (D : List Nat) : Nat → Js → List (Option V) → List (Option V) × Js
  | _, js, [] => ([], js)
  | t, js, x :: l =>
    if memN t D then
      match x.bind (freshV s (endFrozen es t) js) with
      | some (y, j1) => let r := freshSlots s es D (t + 1) j1 l; (some y :: r.1, r.2)
      | none => let r := freshSlots s es D (t + 1) js l; (none :: r.1, r.2)
    else let r := freshSlots s es D (t + 1) js l; (x :: r.1, r.2)
def cellsOf : Option Blk → List (Option Lf)
  | some (.c _ cs) => cs
  | _ => []
def sameCell (x : Lf) : Option Lf → Bool
  | some y => x.beq y || (match x, y with | .v u, .v w => vBeq u w | _, _ => false)
  | none => false
def freshCells (s : St) (js : Js) (es : List (List (Option Lf))) : List (Option Lf) → List (Option Lf) × Js
  | [] => ([], js)
  | x :: l =>
    match x with
    | none => let r := freshCells s js (es.map List.tail) l; (none :: r.1, r.2)
    | some a =>
      if es.all (fun e => sameCell a e.head?.join) then let r := freshCells s js (es.map List.tail) l; (some a :: r.1, r.2)
      else
        match freshLf s false js a with
        | some (y, j1) => let r := freshCells s j1 (es.map List.tail) l; (some y :: r.1, r.2)
        | none => let r := freshCells s js (es.map List.tail) l; (none :: r.1, r.2)
def freshHeap (s : St) (es : List St) : Nat → Js → List (Option Blk) → List (Option Blk) × Js
  | _, js, [] => ([], js)
  | j, js, x :: l =>
    match x with
    | some (.c o cs) => let u := freshCells s js (es.map fun e => cellsOf (nth e.hp j)) cs; let r := freshHeap s es (j + 1) u.2 l; (some (.c o u.1) :: r.1, r.2)
    | some (.v o ts a) =>
      if es.all (fun e => match nth e.hp j with | some (.v _ _ a') => a.beq a' | _ => false) then let r := freshHeap s es (j + 1) js l; (some (.v o ts a) :: r.1, r.2)
      else let h := js.hole .l; let r := freshHeap s es (j + 1) h.2 l; (some (.v o ts h.1) :: r.1, r.2)
    | none => let r := freshHeap s es (j + 1) js l; (none :: r.1, r.2)
def loopPat (D : List Nat) (es : List St) (s : St) : Pat :=
  let u := freshSlots s es D 0 ⟨0, [], s.hp.length, [], []⟩ s.sl
  let h := freshHeap s es 0 u.2 s.hp
  ⟨⟨u.1, blank h.2.kills 0 h.1 ++ h.2.news.reverse⟩, h.2.tys.reverse⟩

end Go.Sx

namespace Go.Sx

structure GE where
  t : Nat
  v : V
  d : Nat
  want : Bool

structure RS where
  st : St
  gl : List GE

def setNth {α : Type} (v : α) : List α → Nat → List α
  | [], _ => []
  | _ :: l, 0 => v :: l
  | x :: l, n + 1 => x :: setNth v l n

def beqB : Bool → Bool → Bool
  | true, b => b
  | false, b => !b

abbrev Ctx := List (Nat × Bool)
def Ctx.has : Ctx → Nat → Bool → Bool
  | [], _, _ => false
  | (d, w) :: r, d', w' => (Nat.beq d d' && beqB w w') || Ctx.has r d' w'

def glFind (ctx : Ctx) (t : Nat) : List GE → Option V
  | [] => none
  | e :: r => if Nat.beq e.t t && ctx.has e.d e.want then some e.v else glFind ctx t r

def Blk.froze : Blk → Blk
  | .c _ cs => .c false cs
  | .v _ ts a => .v false ts a

def RS.slot (r : RS) (ctx : Ctx) (t : Nat) : Option V :=
  match nth r.st.sl t with
  | some v => some v
  | none => glFind ctx t r.gl

def rd (r : RS) (ctx : Ctx) : Operand → Option V
  | .tmp t => r.slot ctx t
  | .const v => (ofConst v).map .s
  | .func f => some (.s (.one (.v (.func (.func f) #[] #[]))))
  | .global g => some (.s (.one (.gp g (.c 0))))

def glEntry (t : Nat) : List GE → Option GE
  | [] => none
  | e :: r => if Nat.beq e.t t then some e else glEntry t r

def guardInfo (r : RS) : Nat → Nat → Bool → Option (Option (Ctx × List (A × Bool)))
  | 0, _, _ => none
  | n + 1, d, want =>
    match nth r.st.sl d with
    | some (.s (.one (.b (.t x)))) => if beqB x want then some (some ([], [])) else some none
    | some (.s (.one (.b a))) => some (some ([(d, want)], [(a, want)]))
    | some _ => none
    | none =>
      match glEntry d r.gl with
      | some e =>
        match e.v with
        | .s (.one (.b a)) =>
          match guardInfo r n e.d e.want with
          | some (some (ctx, cs)) =>
            match a with
            | .t x => if beqB x want then some (some ((d, want) :: ctx, cs)) else some none
            | a => some (some ((d, want) :: ctx, (a, want) :: cs))
          | some none => some none
          | none => none
        | _ => none
      | none => none

def underAll {α : Type} : List (A × Bool) → M α → M α
  | [], x => x
  | (c, b) :: r, x => under c b (underAll r x)

inductive OR where
  | val (v : V)
  /-- and the blocks as they are then: those that were keep their numbers -/
  | hp (v : Option V) (hp : List (Option Blk))

def boundsOk (ix : A) (len : Nat) : M Unit := do
  owe (← emit (.geq ix (.z 0)))
  owe (← emit (.lss ix (.z len)))

def partOf (P : Program) (t : TypeId) (cs : List Lf) (off : Nat) : M V1 := do
  let k ← M.lift (tk P t)
  let sz ← M.lift (tsize P t)
  if isAggT k then
    pure (.agg (← M.lift (takeCells (cs.map some) off sz)))
  else pure (.one (← M.lift (cellAt (cs.map some) off)))

def evEqRow (P : Program) (eq : TypeId → V1 → V1 → M A) (elem : TypeId) (sz : Nat) (xs ys : List Lf) (i : Nat) : Nat → M A
  | 0 => pure (.t true)
  | n + 1 => do
    let a ← partOf P elem xs (i * sz)
    let b ← partOf P elem ys (i * sz)
    let e ← eq elem a b
    let r ← evEqRow P eq elem sz xs ys (i + 1) n
    mkAnd e r
def evEqFields (P : Program) (eq : TypeId → V1 → V1 → M A) (xs ys : List Lf) : List (Nat × Nat) → M A
  | [] => pure (.t true)
  | f :: fs => do
    let a ← partOf P f.2 xs f.1
    let b ← partOf P f.2 ys f.1
    let e ← eq f.2 a b
    let r ← evEqFields P eq xs ys fs
    mkAnd e r

def evEq (P : Program) : Nat → TypeId → V1 → V1 → M A
  | 0, _, _, _ => M.fail
  | d + 1, t, x, y => do
    let k ← M.lift (tk P t)
    match k, x, y with
    | .int _, .one (.i ka a), .one (.i kb b) =>
      if kEq ka kb then
        match a, b with
        | .z m, .z n => pure (.t (m == n))
        | a, b => emit (.eql a b)
      else M.fail
    | .bool, .one (.b a), .one (.b b) =>
      match a, b with
      | .t m, .t n => pure (.t (m == n))
      | a, b => emit (.beq a b)
    | .arr len elem, .agg xs, .agg ys => do
      let sz ← M.lift (tsize P elem)
      evEqRow P (evEq P d) elem sz xs ys 0 len
    | .struct fs, .agg xs, .agg ys =>
      if P.stoodInHeld t then M.fail
      else if (P.fieldsOf t).toList.all (fun f => f.name != "_") then evEqFields P (evEq P d) xs ys fs else M.fail
    | _, _, _ => M.fail

def mergeOrFail (c : A) (x y : V) : M V := do
  match ← mergeV c x y with
  | some v => pure v
  | none => M.fail

def evBinV (P : Program) (op : BinOp) (t : TypeId) (x y : V) : M V :=
  match op, x, y with
  | .shl, .s (.one (.i k a)), .s (.one (.i _ b)) => do pure (.s (.one (← evShift .shl k a b)))
  | .shr, .s (.one (.i k a)), .s (.one (.i _ b)) => do pure (.s (.one (← evShift .shr k a b)))
  | op, .s (.one (.i k a)), .s (.one (.i k' b)) => if kEq k k' then do pure (.s (.one (← evBin op k a b))) else M.fail
  | .eql, .s (.one (.b a)), .s (.one (.b b)) => do
    match ← M.lift (tk P t) with
    | .bool => pure (.s (.one (← evBoolOp .eql a b)))
    | _ => M.fail
  | .neq, .s (.one (.b a)), .s (.one (.b b)) => do
    match ← M.lift (tk P t) with
    | .bool => pure (.s (.one (← evBoolOp .neq a b)))
    | _ => M.fail
  | .eql, .s (.one (.p _ _)), .s (.one .nilp) => do
    match ← M.lift (tk P t) with
    | .ptr _ => pure (.s (.one (.b (.t false))))
    | _ => M.fail
  | .neq, .s (.one (.p _ _)), .s (.one .nilp) => do
    match ← M.lift (tk P t) with
    | .ptr _ => pure (.s (.one (.b (.t true))))
    | _ => M.fail
  | .eql, .s (.one .nilp), .s (.one .nilp) => do
    match ← M.lift (tk P t) with
    | .ptr _ => pure (.s (.one (.b (.t true))))
    | _ => M.fail
  | .neq, .s (.one .nilp), .s (.one .nilp) => do
    match ← M.lift (tk P t) with
    | .ptr _ => pure (.s (.one (.b (.t false))))
    | _ => M.fail
  | .eql, .s (.agg a), .s (.agg b) =>
    if P.eqGuardType P.depth t then M.fail else do pure (.s (.one (.b (← evEq P 8 t (.agg a) (.agg b)))))
  | .neq, .s (.agg a), .s (.agg b) =>
    if P.eqGuardType P.depth t then M.fail else do pure (.s (.one (.b (← mkNot (← evEq P 8 t (.agg a) (.agg b))))))
  | _, _, _ => M.fail

def evUn (op : UnOp) (x : Lf) : M Lf :=
  match op, x with
  | .neg, .i k (.z n) => pure (.i k (.z (k.wrap (0 - n))))
  | .neg, .i k a => do pure (.i k (← emit (.sub k (.z 0) a)))
  | .xor, .i k (.z n) => pure (.i k (.z (ilxor k (if k.signed then -1 else k.max) n)))
  | .xor, .i k a => do pure (.i k (← emit (.lxor k (.z (if k.signed then -1 else k.max)) a)))
  | .not, .b a => do pure (.b (← mkNot a))
  | _, _ => M.fail

def evConv (P : Program) (src dst : TypeId) (x : Lf) : M Lf := do
  let _ ← M.lift (tk P src)
  match ← M.lift (tk P dst), x with
  | .int k, .i _ (.z n) => pure (.i k (.z (k.wrap n)))
  | .int k, .i _ a => do pure (.i k (← emit (.conv k a)))
  | _, _ => M.fail

def evIndexAddr (P : Program) (t : TypeId) (x ix : Lf) : M Lf := do
  match ← M.lift (tk P t), x, ix with
  | .arr len elem, .p blk off, .i _ a => do
    let sz ← M.lift (tsize P elem)
    match a with
    | .z n =>
      if 0 ≤ n ∧ n < len then pure (.p blk (off.plus (n.toNat * sz))) else M.fail
    | a =>
      match off with
      | .c o => do
        boundsOk a len
        pure (.p blk (.s o a sz len))
      | .s o ix0 sz0 len0 => do
        boundsOk a len
        pure (.p blk (.d o ix0 sz0 len0 a sz len))
      | _ => M.fail
  | .arr len elem, .gp g off, .i _ a => do
    let sz ← M.lift (tsize P elem)
    match a with
    | .z n =>
      if 0 ≤ n ∧ n < len then pure (.gp g (off.plus (n.toNat * sz))) else M.fail
    | a =>
      match off with
      | .c o => do
        boundsOk a len
        pure (.gp g (.s o a sz len))
      | _ => M.fail
  | _, _, _ => M.fail

def evIndex (P : Program) (t : TypeId) (x : List Lf) (ix : Lf) : M V1 := do
  match ← M.lift (tk P t), ix with
  | .arr len elem, .i _ a => do
    let k ← M.lift (tk P elem)
    let sz ← M.lift (tsize P elem)
    match a with
    | .z n =>
      if 0 ≤ n ∧ n < len then partOf P elem x (n.toNat * sz) else M.fail
    | a => do
      boundsOk a len
      if isAggT k then pure (.agg (← selAgg (x.map some) 0 sz len a sz))
      else do
        let row ← M.lift (rowCells (x.map some) 0 sz len)
        pure (.one (← selLeaf row a))
  | _, _ => M.fail

def evField (P : Program) (t : TypeId) (x : List Lf) (f : Nat) : M V1 := do
  match ← M.lift (tk P t) with
  | .struct fs => do
    let fd ← M.lift fs[f]?
    partOf P fd.2 x fd.1
  | _ => M.fail

def evFieldAddr (P : Program) (t : TypeId) (x : Lf) (f : Nat) : M Lf := do
  match ← M.lift (tk P t), x with
  | .struct fs, .p blk off => do
    let fd ← M.lift fs[f]?
    let sz ← M.lift (tsize P fd.2)
    if Nat.beq sz 0 then M.fail else pure (.p blk (off.plus fd.1))
  | .struct fs, .gp g off => do
    let fd ← M.lift fs[f]?
    let sz ← M.lift (tsize P fd.2)
    if Nat.beq sz 0 then M.fail else pure (.gp g (off.plus fd.1))
  | _, _ => M.fail

def rdAll (r : RS) (ctx : Ctx) : List Operand → Option (List V)
  | [] => some []
  | x :: xs =>
    match rd r ctx x with
    | none => none
    | some v =>
      match rdAll r ctx xs with
      | none => none
      | some vs => some (v :: vs)

def rdParts (r : RS) (ctx : Ctx) : List (Nat × Operand) → Option (List (Nat × V1))
  | [] => some []
  | x :: xs =>
    match rd r ctx x.2 with
    | some (.s v) =>
      match rdParts r ctx xs with
      | none => none
      | some vs => some ((x.1, v) :: vs)
    | _ => none

def overwrite : List Lf → Nat → List Lf → List Lf
  | cs, _, [] => cs
  | cs, o, c :: l => overwrite (cs.set o c) (o + 1) l
def fillC (place : Nat → Option (Nat × Nat)) : List Lf → List (Nat × V1) → Option (List Lf)
  | cs, [] => some cs
  | cs, p :: rest =>
    match place p.1 with
    | none => none
    | some (o, sz) => if Nat.beq p.2.cells.length sz && Nat.ble (o + p.2.cells.length) cs.length && p.2.cells.all Lf.ok then fillC place (overwrite cs o p.2.cells) rest else none
def evBuild (P : Program) (t : TypeId) (parts : List (Nat × V1)) : Option (List Lf) :=
  match zeroCells P t with
  | none => none
  | some z =>
    match tk P t with
    | some (.struct fs) =>
      match allSome (fun f : Nat × TypeId => (tsize P f.2).map fun n => (f.1, n)) fs with
      | none => none
      | some places => fillC (fun i => places[i]?) z parts
    | some (.arr _ elem) =>
      match tsize P elem with
      | none => none
      | some sz => fillC (fun i => some (i * sz, sz)) z parts
    | _ => none

def Blk.lt (n : Nat) : Blk → Bool
  | .c _ cs => cs.all (optAll (Lf.lt n))
  | .v _ _ _ => true
def Lf.ren (m : List Nat) : Lf → Lf
  | .p k off => .p (rnm m k) off
  | .vec k => .vec (rnm m k)
  | .fnp f bs => .fnp f (bs.map (rnm m))
  | x => x
def V1.ren (m : List Nat) : V1 → V1
  | .one x => .one (x.ren m)
  | .agg l => .agg (l.map (Lf.ren m))
def V.ren (m : List Nat) : V → V
  | .s v => .s (v.ren m)
  | .t l => .t (l.map (V1.ren m))
def Blk.ren (m : List Nat) : Blk → Blk
  | .c o cs => .c o (cs.map (Option.map (Lf.ren m)))
  | .v o ts a => .v o ts a

def callOuts (fid : Nat) (args : List A) : Nat → Nat → M (List A)
  | _, 0 => pure []
  | j, n + 1 => do
    let a ← emit (.call fid args j)
    let r ← callOuts fid args (j + 1) n
    pure (a :: r)

def stays (hin : List (Option Blk)) (j : Nat) : Bool :=
  match nth hin j with
  | some (.c _ _) => true
  | _ => false
def backMap (hin : List (Option Blk)) (m : List Nat) (n : Nat) (k : Nat) : List Nat := (List.range k).map fun j => if stays hin j then rnm m j else n + j
def putBack (hin hout : List (Option Blk)) (m m1 : List Nat) (dem : Bool) : Nat → Nat → List (Option Blk) → List (Option Blk)
  | 0, _, hp => hp
  | k + 1, j, hp =>
    match nth hin j with
    | none => putBack hin hout m m1 dem k (j + 1) hp
    | some x =>
      if x.own then
        let y : Option Blk := if stays hin j then (nth hout j).map (Blk.ren m1) else none
        putBack hin hout m m1 dem k (j + 1) (setNth y hp (rnm m j))
      else if dem then putBack hin hout m m1 dem k (j + 1) (setNth ((nth hp (rnm m j)).map Blk.froze) hp (rnm m j))
      else putBack hin hout m m1 dem k (j + 1) hp
def newBack (hin : List (Option Blk)) (m1 : List Nat) : Nat → List (Option Blk) → List (Option Blk)
  | _, [] => []
  | j, x :: l => (if stays hin j then none else x.map (Blk.ren m1)) :: newBack hin m1 (j + 1) l
def anyFrozen (hin : List (Option Blk)) : Nat → List (Option Blk) → Bool
  | _, [] => false
  | j, x :: l => (match x with | some y => !y.own && !stays hin j | none => false) || anyFrozen hin (j + 1) l

def A.const : A → Bool
  | .z _ | .t _ => true
  | _ => false
def LT.flat : LT → Bool
  | .vec _ => false
  | _ => true
def Blk.flat : Blk → Bool
  | .v _ ts _ => ts.all LT.flat
  | .c _ _ => true
def Lf.easy : Lf → Bool
  | .p _ (.c _) | .gp _ (.c _) => true
  | .p _ _ | .gp _ _ => false
  | _ => true
def V.easy : V → Bool
  | .s v => v.cells.all Lf.easy
  | .t l => l.all fun v => v.cells.all Lf.easy
def Sig.ok (sg : Sig) : Bool :=
  sg.ins.all (V.tyOk A.const sg.its) && sg.hin.all (optAll (Blk.tyOk A.const sg.its)) && sg.out.tyOk A.const sg.ots && sg.hout.all (optAll (Blk.tyOk A.const sg.ots)) &&
  sg.out.lt sg.hout.length && sg.hout.all (optAll (Blk.lt sg.hout.length)) && sg.hout.all (optAll Blk.flat) && sg.out.easy

def evCall (P : Program) (S : Sigs) (f : FuncId) (vs : List V) (hp : List (Option Blk)) : M OR := do
  let sg ← M.lift (S.get f)
  let pat : St := ⟨sg.ins.map some, sg.hin⟩
  let act : St := ⟨vs.map some, hp⟩
  let g := guess sg.nin pat act
  if calleeOk P f && (pat.inst g.1).sub g.2 act && sg.ok && hp.all (optAll (Blk.lt hp.length)) then do
    let j0 ← (if sg.need then do owe (← emit (.call f g.1 0)); pure 1 else pure 0)
    let os ← callOuts f g.1 j0 sg.ots.length
    if sg.hin.all (optAll fun b => !b.own) && sg.hout.isEmpty then pure (.val (sg.out.inst os))
    else
      let m1 := backMap sg.hin g.2 hp.length sg.hout.length
      let ho := (sg.hout.map (Option.map (Blk.inst os)))
      pure (.hp (some ((sg.out.inst os).ren m1)) (putBack sg.hin ho g.2 m1 (anyFrozen sg.hin 0 sg.hout) sg.hin.length 0 hp ++ newBack sg.hin m1 0 ho))
  else M.fail

def bodyless (P : Program) (f : FuncId) : Option Bool :=
  match P.funcs[f]? with
  | some fn => if fn.body.isNone && fn.origin == "" then (if fn.name == "math/bits.Add64" then some true else if fn.name == "math/bits.Sub64" then some false else none) else none
  | none => none
def oweU (a : A) : M Unit := do
  owe (← emit (.geq a (.z 0)))
  owe (← emit (.lss a (.z 18446744073709551616)))
def evCarry (add : Bool) (a b q : A) : M OR := do
  oweU a
  oweU b
  owe (← emit (.geq q (.z 0)))
  owe (← emit (.lss q (.z 2)))
  let one ← emit (.eql q (.z 1))
  let s1 ← emit (if add then .add .u64 a b else .sub .u64 a b)
  let s ← emit (if add then .add .u64 s1 q else .sub .u64 s1 q)
  let low ← emit (if add then .lss s a else .lss a b)
  let same ← emit (if add then .eql s a else .eql a b)
  let both ← emit (.and one same)
  let c ← emit (.or low both)
  let k ← emit (.itei c (.z 1) (.z 0))
  pure (.val (.t [.one (.i .u64 s), .one (.i .u64 k)]))

def evPick (r : RS) (ctx : Ctx) (c a b : Operand) : M V := do
  match rd r ctx c with
  | some (.s (.one (.b (.t true)))) => M.lift (rd r ctx a)
  | some (.s (.one (.b (.t false)))) => M.lift (rd r ctx b)
  | some (.s (.one (.b x))) => do
    let (ca, cb) := match c with
      | .tmp t => ((t, true) :: ctx, (t, false) :: ctx)
      | _ => (ctx, ctx)
    let va ← M.lift (rd r ca a)
    let vb ← M.lift (rd r cb b)
    mergeOrFail x va vb
  | _ => M.fail

def rowAt (hp : List (Option Blk)) (b : Nat) : Option (Bool × List LT × A) :=
  match nth hp b with
  | some (.v o ts a) => some (o, ts, a)
  | _ => none
def tbytes (P : Program) (t : TypeId) : Option Nat := (P.info? t).map (·.bytes)
def hpLt (hp : List (Option Blk)) : Bool := hp.all (optAll (Blk.lt hp.length))
def rowLim (bytes : Nat) : Nat := 70368744177664 / (bytes + 1)
def oweLeA (a b : A) : M Unit :=
  match a, b with
  | .z m, .z n => if m ≤ n then pure () else M.fail
  | a, b => do owe (← emit (.leq a b))
def leafTy : LT → Ty
  | .int _ => .i
  | .bool => .b
  | .vec _ => .l
def leafAs (t : LT) (x : Lf) : Option A :=
  match t, x with
  | .int k, .i k' a => if kEq k k' then some a else none
  | .bool, .b a => some a
  | _, _ => none
def kindsOf : List Lf → Option (List LT)
  | [] => some []
  | .i k _ :: l => (kindsOf l).map (LT.int k :: ·)
  | .b _ :: l => (kindsOf l).map (LT.bool :: ·)
  | _ :: _ => none
def rowLits (ts : List LT) : Nat → List (Option Lf) → Option (List Ty × List A)
  | _, [] => some ([], [])
  | i, c :: cs =>
    match c.bind (leafAs (ts.getD (i % ts.length) .bool)) with
    | none => none
    | some a =>
      match rowLits ts (i + 1) cs with
      | none => none
      | some r => some (leafTy (ts.getD (i % ts.length) .bool) :: r.1, a :: r.2)

def evLen (P : Program) (hp : List (Option Blk)) (t : TypeId) (v : V) : M V := do
  match ← M.lift (P.underlying t), v with
  | .slice _, .s (.one (.vec b)) =>
    let r ← M.lift (rowAt hp b)
    pure (.s (.one (.i .i64 (← emit (.llen r.2.1.length r.2.2)))))
  | .slice _, .s (.one (.v (.slice none 0 0))) => pure (.s (.one (.i .i64 (.z 0))))
  | .string, .s (.one (.v (.string s))) => pure (.s (.one (.i .i64 (.z s.size))))
  | .array n _, _ => pure (.s (.one (.i .i64 (.z n))))
  | _, _ => M.fail

def evIndexRow (P : Program) (hp : List (Option Blk)) (t : TypeId) (b : Nat) (ix : Lf) : M Lf := do
  match ← M.lift (tk P t), ix with
  | .slice elem, .i _ i =>
    let sz ← M.lift (tsize P elem)
    let r ← M.lift (rowAt hp b)
    if Nat.beq sz r.2.1.length then do
      oweGe0 i
      let n ← emit (.llen r.2.1.length r.2.2)
      owe (← emit (.lss i n))
      pure (.p b (.v 0 i sz r.2.2))
    else M.fail
  | _, _ => M.fail

def sameRow (sz : Nat) (ix a0 a : A) : M Unit :=
  if a0.beq a then pure () else do
    let n ← emit (.llen sz a)
    owe (← emit (.lss ix n))
def rowLeaf (sz j : Nat) (a ix : A) : LT → M Lf
  | .int k => do pure (.i k (← emit (.lgeti sz j a ix)))
  | .bool => do pure (.b (← emit (.lgetb sz j a ix)))
  | .vec _ => M.fail
def rowLeaves (ts : List LT) (a ix : A) : Nat → Nat → M (List Lf)
  | _, 0 => pure []
  | j, n + 1 => do
    let x ← rowLeaf ts.length j a ix (ts.getD j .bool)
    let r ← rowLeaves ts a ix (j + 1) n
    pure (x :: r)
def loadRow (ts : List LT) (a : A) (off : Off) (agg : Bool) (size : Nat) : M V1 := do
  match off with
  | .v base ix sz a0 =>
    if Nat.beq sz ts.length && Nat.ble (base + size) sz then do
      sameRow sz ix a0 a
      if agg then do pure (.agg (← rowLeaves ts a ix base size))
      else if Nat.blt base sz then do pure (.one (← rowLeaf ts.length base a ix (ts.getD base .bool)))
      else M.fail
    else M.fail
  | _ => M.fail

def putLeaves (ts : List LT) (ix : A) : Nat → A → List Lf → M A
  | _, a, [] => pure a
  | j, a, x :: l => do
    let v ← M.lift (leafAs (ts.getD j .bool) x)
    let a1 ← emit (.lset ts.length j (leafTy (ts.getD j .bool)) a ix v)
    putLeaves ts ix (j + 1) a1 l
def storeRow (ts : List LT) (a : A) (off : Off) (xs : List Lf) : M A := do
  match off with
  | .v base ix sz a0 =>
    if Nat.beq sz ts.length && Nat.ble (base + xs.length) sz then do
      sameRow sz ix a0 a
      putLeaves ts ix base a xs
    else M.fail
  | _ => M.fail

def evMake (P : Program) (hp : List (Option Blk)) (t : TypeId) (l c : Lf) : M OR := do
  match ← M.lift (tk P t), l, c with
  | .slice elem, .i _ n, .i _ m =>
    let z ← M.lift (zeroCells P elem)
    let ts ← M.lift (kindsOf z)
    let r ← M.lift (rowLits ts 0 (z.map some))
    let sz ← M.lift (tsize P elem)
    let by_ ← M.lift (tbytes P elem)
    if Nat.beq sz z.length && Nat.blt 0 sz && hpLt hp then do
      oweGe0 n
      oweLeA n m
      oweLeA m (.z (rowLim by_))
      let q ← emit (.lrep n r.1 r.2)
      pure (.hp (some (.s (.one (.vec hp.length)))) (hp ++ [some (.v true ts q)]))
    else M.fail
  | _, _, _ => M.fail

def evAppend (P : Program) (hp : List (Option Blk)) (t tx : TypeId) (s x : V) : M OR := do
  match ← M.lift (tk P t), ← M.lift (tk P tx), s, x with
  | .slice elem, .slice _, .s (.one (.vec b)), .s (.one (.vec c)) =>
    let r ← M.lift (rowAt hp b)
    let u ← M.lift (rowAt hp c)
    let z ← M.lift (zeroCells P elem)
    let sz ← M.lift (tsize P elem)
    let by_ ← M.lift (tbytes P elem)
    if r.1 && !Nat.beq b c && LTs.beq r.2.1 u.2.1 && Nat.beq sz r.2.1.length && Nat.beq sz z.length && hpLt hp then do
      let q ← emit (.lcat r.2.2 u.2.2)
      let n ← emit (.llen sz q)
      oweLeA n (.z (rowLim by_))
      pure (.hp (some (.s (.one (.vec hp.length)))) (setNth none hp b ++ [some (.v true r.2.1 q)]))
    else M.fail
  | _, _, _, _ => M.fail

def cutHigh (sz : Nat) (a : A) : Option Lf → M (A × A)
  | none => do
    let n ← emit (.llen sz a)
    pure (a, n)
  | some (.i _ h) => do
    oweGe0 h
    let n ← emit (.llen sz a)
    oweLeA h n
    let q ← emit (.ltake sz a h)
    pure (q, h)
  | _ => M.fail
def cutLow (sz : Nat) (a n : A) : Option Lf → M A
  | none => pure a
  | some (.i _ l) => do
    oweGe0 l
    oweLeA l n
    emit (.ldrop sz a l)
  | _ => M.fail
def leafOpt (r : RS) (ctx : Ctx) : Option Operand → Option (Option Lf)
  | none => some none
  | some x =>
    match rd r ctx x with
    | some (.s (.one l)) => some (some l)
    | _ => none
def evSlice (P : Program) (hp : List (Option Blk)) (t : TypeId) (x : V) (low high : Option Lf) : M OR := do
  match ← M.lift (tk P t), x with
  | .slice elem, .s (.one (.vec b)) =>
    let sz ← M.lift (tsize P elem)
    let r ← M.lift (rowAt hp b)
    if Nat.beq sz r.2.1.length && hpLt hp then do
      let q ← cutHigh sz r.2.2 high
      let q2 ← cutLow sz q.1 q.2 low
      pure (.hp (some (.s (.one (.vec hp.length)))) ((if r.1 then setNth none hp b else hp) ++ [some (.v r.1 r.2.1 q2)]))
    else M.fail
  | .arr n elem, .s (.one (.p b (.c 0))) =>
    match ← M.lift (nth hp b) with
    | .c o cs =>
      let sz ← M.lift (tsize P elem)
      let z ← M.lift (zeroCells P elem)
      let ts ← M.lift (kindsOf z)
      let r ← M.lift (rowLits ts 0 cs)
      if Nat.beq sz ts.length && Nat.blt 0 sz && Nat.beq cs.length (n * sz) && hpLt hp then do
        let q0 ← emit (.lmk r.1 r.2)
        let q ← cutHigh sz q0 high
        let q2 ← cutLow sz q.1 q.2 low
        pure (.hp (some (.s (.one (.vec hp.length)))) (setNth none hp b ++ [some (.v o ts q2)]))
      else M.fail
    | .v _ _ _ => M.fail
  | _, _ => M.fail

def evBuildSlice (P : Program) (hp : List (Option Blk)) (t : TypeId) (len : Nat) (parts : List (Nat × V1)) : M OR := do
  match ← M.lift (tk P t) with
  | .slice elem =>
    let sz ← M.lift (tsize P elem)
    let z ← M.lift (zeroCells P elem)
    let ts ← M.lift (kindsOf z)
    let cs ← M.lift (fillC (fun i => some (i * sz, sz)) (List.replicate len z).flatten parts)
    let r ← M.lift (rowLits ts 0 (cs.map some))
    if Nat.beq sz z.length && Nat.blt 0 sz && Nat.ble (len * sz) 16777216 && hpLt hp then do
      let q ← emit (.lmk r.1 r.2)
      pure (.hp (some (.s (.one (.vec hp.length)))) (hp ++ [some (.v true ts q)]))
    else M.fail
  | _ => M.fail

def Lf.isNil : Lf → Bool
  | .v (.slice none 0 0) => true
  | _ => false
def flatLs (rec : TypeId → Option (List LT)) : List (Nat × Nat) → Option (List LT)
  | [] => some []
  | f :: fs =>
    match rec f.2, flatLs rec fs with
    | some l, some r => some (l ++ r)
    | _, _ => none
def flatL (P : Program) : Nat → TypeId → Option (List LT)
  | 0, _ => none
  | d + 1, t =>
    match tk P t with
    | some (.int k) => some [.int k]
    | some .bool => some [.bool]
    | some (.arr n e) => (flatL P d e).map fun l => (List.replicate n l).flatten
    | some (.struct fs) => flatLs (flatL P d) fs
    | some (.slice e) => (flatL P d e).map fun l => [.vec l]
    | some (.ptr _) => some [.bool]
    | some .other => some [.bool]
    | none => none
def matCells : List LT → List Lf → List (Option Blk) → M (List Lf × List (Option Blk))
  | t :: lt, x :: l, hp =>
    match t with
    | .vec ts =>
      if x.isNil && Nat.blt 0 ts.length then do
        let q ← emit (.lmk [] [])
        let r ← matCells lt l (hp ++ [some (.v true ts q)])
        pure (.vec hp.length :: r.1, r.2)
      else do
        let r ← matCells lt l hp
        pure (x :: r.1, r.2)
    | _ => do
      let r ← matCells lt l hp
      pure (x :: r.1, r.2)
  | _, l, hp => pure (l, hp)

def newBlk (hp : List (Option Blk)) (cs : List Lf) : M OR :=
  if hp.all (optAll (Blk.lt hp.length)) && cs.all (Lf.lt hp.length) then pure (.hp (some (.s (.one (.p hp.length (.c 0))))) (hp ++ [some (.c true (cs.map some))])) else M.fail

def evStore (P : Program) (r : RS) (ctx : Ctx) (t : TypeId) (x y : Operand) : M (List (Option Blk)) := do
  match ← M.lift (rd r ctx x), ← M.lift (rd r ctx y) with
  | .s (.one (.p b off)), .s v => do
    let sz ← M.lift (tsize P t)
    match ← M.lift (nth r.st.hp b) with
    | .c true cs =>
      if Nat.beq v.cells.length sz && v.cells.all Lf.ok then do
        pure (setNth (some (.c true (← storeCellsAt cs off v.cells))) r.st.hp b)
      else M.fail
    | .v true ts a =>
      if Nat.beq v.cells.length sz && Nat.blt 0 sz then do
        pure (setNth (some (.v true ts (← storeRow ts a off v.cells))) r.st.hp b)
      else M.fail
    | _ => M.fail
  | _, _ => M.fail

def capOf : V → Option Nat
  | .s (.one (.p b (.c 0))) => some b
  | _ => none
def fnOf : Option V → Option (Nat × List Nat)
  | some (.s (.one (.v (.func (.func f) a b)))) => if Nat.beq a.size 0 && Nat.beq b.size 0 then some (f, []) else none
  | some (.s (.one (.fnp f bs))) => some (f, bs)
  | _ => none
def tk0 (P : Program) (t : TypeId) : Option TypeDesc := P.underlying t

def evOp (P : Program) (S : Sigs) (r : RS) (ctx : Ctx) (op : Op) : M OR :=
  match op with
  | .move x => do pure (.val (← M.lift (rd r ctx x)))
  | .assign x => do pure (.val (← M.lift (rd r ctx x)))
  | .pick c a b => do pure (.val (← evPick r ctx c a b))
  | .build t parts => do
    let ps ← M.lift (rdParts r ctx parts.toList)
    pure (.val (.s (.agg (← M.lift (evBuild P t ps)))))
  | .alloc t => do
    let z ← M.lift (zeroCells P t)
    if z.any Lf.isNil then
      if hpLt r.st.hp then do
        let q ← matCells ((flatL P 20 t).getD []) z r.st.hp
        newBlk q.2 q.1
      else M.fail
    else newBlk r.st.hp z
  | .box _ x => do
    match ← M.lift (rd r ctx x) with
    | .s v => if v.cells.all Lf.ok then newBlk r.st.hp v.cells else M.fail
    | _ => M.fail
  | .load t x => do
    match ← M.lift (rd r ctx x) with
    | .s (.one (.p blk off)) => do
      let k ← M.lift (tk P t)
      let sz ← M.lift (tsize P t)
      match ← M.lift (nth r.st.hp blk) with
      | .c _ cs => pure (.val (.s (← loadCells cs off (isAggT k) sz)))
      | .v _ ts a => pure (.val (.s (← loadRow ts a off (isAggT k) sz)))
    | .s (.one (.gp g off)) => do
      let k ← M.lift (tk P t)
      let sz ← M.lift (tsize P t)
      let cs ← M.lift (assoc S.gs g)
      let v ← loadCells (cs.map some) off (isAggT k) sz
      if v.cells.all Lf.scalar then pure (.val (.s v)) else M.fail
    | _ => M.fail
  | .store t x y => do pure (.hp none (← evStore P r ctx t x y))
  | .nilCheck x => do
    match ← M.lift (rd r ctx x) with
    | .s (.one (.p b off)) => pure (.val (.s (.one (.p b off))))
    | .s (.one (.fnp f bs)) => pure (.val (.s (.one (.fnp f bs))))
    | _ => M.fail
  | .binOp op t x y _ => do pure (.val (← evBinV P op t (← M.lift (rd r ctx x)) (← M.lift (rd r ctx y))))
  | .unOp op _ x => do
    match ← M.lift (rd r ctx x) with
    | .s (.one l) => pure (.val (.s (.one (← evUn op l))))
    | _ => M.fail
  | .convert a b x => do
    match ← M.lift (rd r ctx x) with
    | .s (.one l) => pure (.val (.s (.one (← evConv P a b l))))
    | _ => M.fail
  | .fieldAddr t x f => do
    match ← M.lift (rd r ctx x) with
    | .s (.one l) => pure (.val (.s (.one (← evFieldAddr P t l f))))
    | _ => M.fail
  | .field t x f => do
    match ← M.lift (rd r ctx x) with
    | .s (.agg l) => pure (.val (.s (← evField P t l f)))
    | _ => M.fail
  | .indexAddr t x ix => do
    match ← M.lift (rd r ctx x), ← M.lift (rd r ctx ix) with
    | .s (.one (.vec b)), .s (.one i) => pure (.val (.s (.one (← evIndexRow P r.st.hp t b i))))
    | .s (.one l), .s (.one i) => pure (.val (.s (.one (← evIndexAddr P t l i))))
    | _, _ => M.fail
  | .buildSlice t len parts => do
    let ps ← M.lift (rdParts r ctx parts.toList)
    evBuildSlice P r.st.hp t len ps
  | .makeSlice t l c => do
    match ← M.lift (rd r ctx l), ← M.lift (rd r ctx c) with
    | .s (.one a), .s (.one b) => evMake P r.st.hp t a b
    | _, _ => M.fail
  | .slice t x low high max => do
    match max with
    | some _ => M.fail
    | none =>
      let v ← M.lift (rd r ctx x)
      let lo ← M.lift (leafOpt r ctx low)
      let hi ← M.lift (leafOpt r ctx high)
      evSlice P r.st.hp t v lo hi
  | .index t x ix => do
    match ← M.lift (rd r ctx x), ← M.lift (rd r ctx ix) with
    | .s (.agg l), .s (.one i) => pure (.val (.s (← evIndex P t l i)))
    | .s (.one (.v (.string s))), .s (.one (.i _ a)) => do
      match ← M.lift (tk0 P t) with
      | .string =>
        boundsOk a s.size
        pure (.val (.s (.one (.i .u8 (← emit (.seli (s.data.toList.map fun b => .z b.toNat) a))))))
      | _ => M.fail
    | _, _ => M.fail
  | .extract x n => do
    match ← M.lift (rd r ctx x) with
    | .t l => pure (.val (.s (← M.lift l[n]?)))
    | _ => M.fail
  | .makeFunc fn first cap =>
    match fn with
    | .func f => do
      let vs ← M.lift (rdAll r ctx cap.toList)
      let bs ← M.lift (allSome capOf vs)
      if first.isEmpty then pure (.val (.s (.one (.fnp f bs)))) else M.fail
    | _ => M.fail
  | .call c =>
    match c.callee with
    | .value x => do
      let (f, bs) ← M.lift (fnOf (rd r ctx x))
      let vs ← M.lift (rdAll r ctx c.args.toList)
      match bodyless P f, vs, bs with
      | some add, [.s (.one (.i .u64 a)), .s (.one (.i .u64 b)), .s (.one (.i .u64 q))], [] => evCarry add a b q
      | some _, _, _ => M.fail
      | none, _, _ => evCall P S f (vs ++ bs.map fun b => .s (.one (.p b (.c 0)))) r.st.hp
    | .builtin b => do
      let vs ← M.lift (rdAll r ctx c.args.toList)
      match b, vs with
      | .max, [.s (.one (.i k a)), .s (.one (.i k' b))] =>
        if kEq k k' then do
          match a, b with
          | .z m, .z n => pure (.val (.s (.one (.i k (.z (if n > m then n else m))))))
          | a, b => do
            let c ← emit (.gtr b a)
            pure (.val (.s (.one (.i k (← mkIteI c b a)))))
        else M.fail
      | .min, [.s (.one (.i k a)), .s (.one (.i k' b))] =>
        if kEq k k' then do
          match a, b with
          | .z m, .z n => pure (.val (.s (.one (.i k (.z (if n < m then n else m))))))
          | a, b => do
            let c ← emit (.lss b a)
            pure (.val (.s (.one (.i k (← mkIteI c b a)))))
        else M.fail
      | .len, [v] => do pure (.val (← evLen P r.st.hp (← M.lift c.argTypes[0]?) v))
      | .append, [s, x] => do evAppend P r.st.hp (← M.lift c.argTypes[0]?) (← M.lift c.argTypes[1]?) s x
      | _, _ => M.fail
    | _ => M.fail
  | _ => M.fail

def glNoGuard (d : Nat) (l : List GE) : Bool := l.all fun e => !Nat.beq e.d d
def glDrop (t : Nat) (l : List GE) : List GE := l.filter fun e => !Nat.beq e.t t

def RS.put (r : RS) (dst : Option Tmp) (v : Option V) : M RS :=
  match dst with
  | none => pure r
  | some d => if glNoGuard d r.gl then pure ⟨⟨setNth v r.st.sl d, r.st.hp⟩, glDrop d r.gl⟩ else M.fail

def RS.putG (r : RS) (dst : Option Tmp) (v : V) (d : Nat) (want : Bool) : M RS :=
  match dst with
  | none => pure r
  | some t =>
    if glNoGuard t r.gl && !Nat.beq t d && decide (t < r.st.sl.length) then pure ⟨⟨setNth none r.st.sl t, r.st.hp⟩, ⟨t, v, d, want⟩ :: glDrop t r.gl⟩ else M.fail

def St.lt (s : St) (n : Nat) : Bool := s.sl.all (optAll (V.lt n)) && s.hp.all (optAll (Blk.lt n))

def stepOR (q : Bool) (r : RS) (dst : Option Tmp) (x : OR) : M RS :=
  match x with
  | .val v => r.put dst (some v)
  | .hp v hp =>
    if !q && (r.st.sl.all (optAll (V.lt r.st.hp.length)) && r.gl.all (fun e => e.v.lt r.st.hp.length)) then RS.put ⟨⟨r.st.sl, hp⟩, r.gl⟩ dst v
    else M.fail

def stepORg (r : RS) (dst : Option Tmp) (d : Nat) (want : Bool) (x : OR) : M RS :=
  match x with
  | .val v => r.putG dst v d want
  | _ => M.fail

def conj : List (A × Bool) → M A
  | [] => pure (.t true)
  | (a, b) :: l => do
    let x ← (if b then pure a else mkNot a)
    let r ← conj l
    mkAnd x r

def stepORgHp (r : RS) (dst : Option Tmp) (d : Nat) (want : Bool) (cs : List (A × Bool)) (n0 : Nat) (v : Option V) (hp : List (Option Blk)) : M RS :=
  if r.st.sl.all (optAll (V.lt r.st.hp.length)) && r.gl.all (fun e => e.v.lt r.st.hp.length) && Nat.ble n0 r.st.hp.length then do
    let c ← conj cs
    let s ← mergeSt r.st.hp.length c ⟨r.st.sl, hp⟩ r.st
    match v with
    | some v => if v.lt 0 then RS.putG ⟨s, r.gl⟩ dst v d want else M.fail
    | none => RS.put ⟨s, r.gl⟩ dst none
  else M.fail

def evOper (P : Program) (S : Sigs) (q : Bool) (ops : List Oper) (r : RS) (o : Oper) : M RS :=
  match o.guard with
  | none => do
    let x ← evOp P S r [] o.op
    stepOR q r o.dst x
  | some (j, want) => do
    let d ← M.lift ((ops[j]?).bind (·.dst))
    match ← M.lift (guardInfo r 8 d want) with
    | none => r.put o.dst none
    | some (ctx, cs) =>
      match ctx with
      | [] => do
        let x ← evOp P S r [] o.op
        stepOR q r o.dst x
      | _ => do
        let x ← underAll cs (evOp P S r ctx o.op)
        match x with
        | .hp v hp => if q then M.fail else stepORgHp r o.dst d want cs S.n0 v hp
        | x => stepORg r o.dst d want x

def evOpers (P : Program) (S : Sigs) (q : Bool) (ops : List Oper) : List Oper → RS → M RS
  | [], r => pure r
  | o :: l, r => do
    let r1 ← evOper P S q ops r o
    evOpers P S q ops l r1

def quietOp : Op → Bool
  | .alloc _ | .box _ _ | .store _ _ _ | .makeSlice _ _ _ | .slice _ _ _ _ _ | .buildSlice _ _ _ => false
  | .call c => match c.callee with
    | .builtin .append => false
    | _ => true
  | _ => true

def waitsAll (o : Oper) (n : Nat) : Bool := (List.range n).all fun i => o.after.any fun e => Region.binds .any e && Nat.beq e.on i
def backB (ops : List Oper) : Bool := ops.zipIdx.all fun p => (p.1.after.all fun e => !Region.binds .any e || Nat.blt e.on p.2) &&
  (match p.1.guard with | some (j, _) => Nat.blt j p.2 | none => true)
def tailB (ops : List Oper) (n : Nat) : Bool := (ops.zipIdx.drop n).all fun p => waitsAll p.1 p.2

def pureOp : Op → Bool
  | .move _ | .assign _ | .nilCheck _ | .binOp _ _ _ _ _ | .unOp _ _ _ | .convert _ _ _ | .fieldAddr _ _ _ | .indexAddr _ _ _ | .load _ _ | .field _ _ _ | .index _ _ _ | .extract _ _ | .pick _ _ _ | .build _ _ => true
  | .call c =>
    match c.callee with
    | .builtin .len => true
    | _ => false
  | _ => false
def quietIn (fx : List Nat) (r : RS) (ctx : Ctx) : Op → Bool
  | .load _ x =>
    match rd r ctx x with
    | some (.s (.one (.p b _))) => !memN b fx
    | _ => true
  | _ => true
def evOpQ (P : Program) (S : Sigs) (fx : List Nat) (r : RS) (ctx : Ctx) (op : Op) : M OR := if quietIn fx r ctx op then evOp P S r ctx op else M.fail
def allocOp : Op → Bool
  | .alloc _ => true
  | _ => false
def evOperM (P : Program) (S : Sigs) (fx : List Nat) (ops : List Oper) (r : RS) (o : Oper) : M RS :=
  if allocOp o.op then (if o.guard.isNone then r.put o.dst (some (.s (.one (.p r.st.hp.length (.c 0))))) else M.fail) else
  match o.guard with
  | none => do
    let x ← evOpQ P S fx r [] o.op
    stepOR true r o.dst x
  | some (j, want) => do
    let d ← M.lift ((ops[j]?).bind (·.dst))
    match ← M.lift (guardInfo r 8 d want) with
    | none => r.put o.dst none
    | some (ctx, cs) =>
      match ctx with
      | [] => do
        let x ← evOpQ P S fx r [] o.op
        stepOR true r o.dst x
      | _ => do
        let x ← underAll cs (evOpQ P S fx r ctx o.op)
        match x with
        | .hp _ _ => M.fail
        | x => stepORg r o.dst d want x
def evOpersM (P : Program) (S : Sigs) (fx : List Nat) (ops : List Oper) : List Oper → RS → M RS
  | [], r => pure r
  | o :: l, r => do
    let r1 ← evOperM P S fx ops r o
    evOpersM P S fx ops l r1
def storeOp : Op → Bool
  | .store _ _ _ => true
  | _ => false
def depsOf (o : Oper) : List Nat := (o.after.toList.filter fun e => Region.binds .any e).map (·.on)
def reachFrom (ops : List Oper) : Nat → List Nat → List Nat
  | 0, l => l
  | n + 1, l => if memN n l then reachFrom ops n ((match ops[n]? with | some o => depsOf o | none => []) ++ l) else reachFrom ops n l
def nop (o : Oper) : Oper := if storeOp o.op then { o with op := .move (.const (.bool false)) } else o
def stateOp (o : Op) : Bool := storeOp o || allocOp o
def nopN (N : Nat) (o : Oper) : Oper :=
  if storeOp o.op then { o with op := .move (.const (.bool false)) } else
  if allocOp o.op then { o with op := .move (.const (.pointer (some ⟨N, 0, none⟩))) } else o
def storeAt (ops : List Oper) : List Nat := (ops.zipIdx.filter fun p => stateOp p.1.op).map (·.2)
def tmpOf : Operand → List Nat
  | .tmp t => [t]
  | _ => []
def storeTmps : Op → List Nat
  | .store _ x y => tmpOf x ++ tmpOf y
  | _ => []
def sub1 (l m : List Nat) : Bool := l.all fun x => memN x m
def sorted : List Nat → Bool
  | a :: b :: l => Nat.blt a b && sorted (b :: l)
  | _ => true
def dstOk (anc : List Nat) (ts : List Nat) (p : Oper × Nat) : Bool :=
  match p.1.dst with
  | some t => !memN t ts || memN p.2 anc
  | none => true
def mixAt (ops : List Oper) (i : Nat) : Bool :=
  match ops[i]? with
  | some o => sub1 ((storeAt ops).filter fun j => Nat.blt j i) (reachFrom ops i (depsOf o)) && ops.zipIdx.all (dstOk (reachFrom ops i (depsOf o)) (storeTmps o.op))
  | none => false
def mixOk (ops : List Oper) : Bool :=
  ops.all (fun o => pureOp o.op || (stateOp o.op && o.guard.isNone && (allocOp o.op || o.dst.isNone))) && sorted (storeAt ops) && (storeAt ops).all (mixAt ops) && ((ops.filter fun o => stateOp o.op).drop 1).all fun o => storeOp o.op
def evStores (P : Program) (S : Sigs) (fx : List Nat) (sl : List (Option V)) (gl : List GE) : List Oper → List (Option Blk) → M (List (Option Blk))
  | [], hp => pure hp
  | o :: l, hp => do
    match o.op with
    | .store t x y =>
      match ← M.lift (rd ⟨⟨sl, hp⟩, gl⟩ [] x) with
      | .s (.one (.p b _)) =>
        if memN b fx then do
          let hp1 ← evStore P ⟨⟨sl, hp⟩, gl⟩ [] t x y
          evStores P S fx sl gl l hp1
        else M.fail
      | _ => M.fail
    | .alloc t =>
      let z ← M.lift (zeroCells P t)
      if memN hp.length fx && !z.any Lf.isNil && hpLt hp && z.all (Lf.lt hp.length) then evStores P S fx sl gl l (hp ++ [some (.c true (z.map some))])
      else M.fail
    | _ => M.fail

def evMixedAt (P : Program) (S : Sigs) (fx : List Nat) (ops : List Oper) (s : St) : M St := do
  if s.sl.all (optAll (V.lt s.hp.length)) && hpLt s.hp then do
    let r ← evOpersM P S fx (ops.map nop) (ops.map nop) ⟨s, []⟩
    let hp ← evStores P S fx r.st.sl r.gl (ops.filter fun o => stateOp o.op) s.hp
    pure ⟨r.st.sl, hp⟩
  else M.fail
def storeTo (r : RS) (o : Oper) : List Nat :=
  match o.op with
  | .store _ x _ =>
    match rd r [] x with
    | some (.s (.one (.p b _))) => [b]
    | _ => []
  | .alloc _ => [r.st.hp.length]
  | _ => []
def evMixed (P : Program) (S : Sigs) (ops : List Oper) (s : St) : M St := fun n =>
  evMixedAt P S (match evOpersM P S [] (ops.map nop) (ops.map nop) ⟨s, []⟩ n with | some (r, _, _, _) => ops.flatMap (storeTo r) | none => []) ops s n

def Lf.eqB : Lf → Lf → Bool
  | .i k a, .i k' a' => kEq k k' && a.beq a'
  | .b a, .b a' => a.beq a'
  | .p q (.c n), .p q' (.c n') => Nat.beq q q' && Nat.beq n n'
  | .nilp, .nilp => true
  | .vec q, .vec q' => Nat.beq q q'
  | _, _ => false
def lfsEqB : List Lf → List Lf → Bool
  | [], [] => true
  | a :: l, b :: l' => a.eqB b && lfsEqB l l'
  | _, _ => false
def V.eqB : V → V → Bool
  | .s (.one a), .s (.one b) => a.eqB b
  | .s (.agg a), .s (.agg b) => lfsEqB a b
  | _, _ => false
def vsEqB : List V → List V → Bool
  | [], [] => true
  | a :: l, b :: l' => a.eqB b && vsEqB l l'
  | _, _ => false
def calleeOf : Op → Option (Operand × List Operand)
  | .call c =>
    match c.callee with
    | .value x => some (x, c.args.toList)
    | _ => none
  | _ => none
def effOp (o : Op) : Bool := allocOp o || (calleeOf o).isSome
def callTmps (o : Op) : List Nat :=
  match calleeOf o with
  | some (x, l) => tmpOf x ++ l.flatMap tmpOf
  | none => []
def nopW (v : Value) (o : Oper) : Oper := if effOp o.op then { o with op := .move (.const v) } else o
def effAt (ops : List Oper) : List Nat := (ops.zipIdx.filter fun p => effOp p.1.op).map (·.2)
def callAt (ops : List Oper) : List Nat := (ops.zipIdx.filter fun p => (calleeOf p.1.op).isSome).map (·.2)
def manyAt (pre : List Oper) (i : Nat) : Bool :=
  match pre[i]? with
  | some o => (!(calleeOf o.op).isSome || sub1 ((callAt pre).filter fun j => Nat.blt j i) (reachFrom pre i (depsOf o))) && pre.zipIdx.all (dstOk (reachFrom pre i (depsOf o)) (callTmps o.op))
  | none => false
def tail2B (ops : List Oper) (n : Nat) : Bool := (ops.zipIdx.drop n).all fun p => (List.range p.2).all fun j => memN j (reachFrom (ops.take (p.2 + 1)) p.2 (depsOf p.1))
def headOp (o : Oper) : Bool := (pureOp o.op && !effOp o.op) || (effOp o.op && o.guard.isNone)
def manyB (ops : List Oper) (n : Nat) : Bool :=
  (ops.take n).all headOp && (effAt (ops.take n)).all (manyAt (ops.take n)) && tail2B ops n && Region.lexB .any ((ops.take n).map (nopW (.bool false))).toArray && backB ops
def frz : Option Blk → Option Blk
  | some b => if b.flat && !b.own then some b else none
  | none => none
def allocZs (P : Program) : List Oper → Option (List (List Lf))
  | [] => some []
  | o :: l =>
    match o.op with
    | .alloc t =>
      match zeroCells P t, allocZs P l with
      | some z, some zs => some (z :: zs)
      | _, _ => none
    | _ => allocZs P l
def Lf.inB (p : Nat → Bool) : Lf → Bool
  | .p q (.c _) => p q
  | .vec q => p q
  | .p _ _ | .gp _ _ | .fnp _ _ => false
  | _ => true
def V.inB (p : Nat → Bool) : V → Bool
  | .s (.one a) => a.inB p
  | .s (.agg l) => l.all (Lf.inB p)
  | .t l => l.all fun v => v.cells.all (Lf.inB p)
def manyOps (P : Program) (S : Sigs) (ops : List Oper) (b0 : Nat) (hc : List (Option Blk)) : List Oper → Nat → RS → List (Option Blk) → M (RS × List (Option Blk) × List (Nat × List V × V))
  | [], _, r, hn => pure (r, hn, [])
  | o :: l, b, r, hn =>
    if allocOp o.op then do
      let v : V := .s (.one (.p b (.c 0)))
      let r1 ← r.put o.dst (some v)
      let z ← manyOps P S ops b0 hc l (b + 1) r1 hn
      pure (z.1, z.2.1, (0, [], v) :: z.2.2)
    else
      match calleeOf o.op with
      | some (x, args) => do
        let (f, bs) ← M.lift (fnOf (rd r [] x))
        let vs ← M.lift (rdAll r [] args)
        if bs.isEmpty then do
          match ← evCall P S f vs (hc ++ hn.map frz) with
          | .val v =>
            if v.easy && v.inB (fun q => Nat.blt q b0) then do
              let r1 ← r.put o.dst (some v)
              let z ← manyOps P S ops b0 hc l b r1 hn
              pure (z.1, z.2.1, (f, vs, v) :: z.2.2)
            else M.fail
          | .hp (some v) hp1 =>
            if v.easy && v.inB (fun q => Nat.blt q b0 || (Nat.ble (hc.length + hn.length) q && Nat.blt q hp1.length)) && Nat.ble (hc.length + hn.length) hp1.length then do
              let r1 ← r.put o.dst (some v)
              let z ← manyOps P S ops b0 hc l b r1 (hn ++ hp1.drop (hc.length + hn.length))
              pure (z.1, z.2.1, (f, vs, v) :: z.2.2)
            else M.fail
          | .hp none _ => M.fail
        else M.fail
      | none => do
        let r1 ← evOper P S true ops r o
        let z ← manyOps P S ops b0 hc l b r1 hn
        pure (z.1, z.2.1, (0, [], default) :: z.2.2)
def argsB (r : RS) : List Oper → List (Nat × List V × V) → Bool
  | [], [] => true
  | o :: l, e :: es =>
    (match calleeOf o.op with
     | some (x, args) =>
       (match fnOf (rd r [] x), rdAll r [] args with
        | some (f, []), some vs => Nat.beq f e.1 && vsEqB vs e.2.1
        | _, _ => false)
     | none => true) && argsB r l es
  | _, _ => false
def evMany (P : Program) (S : Sigs) (ops : List Oper) (n : Nat) (s : St) : M St := do
  if s.sl.all (optAll (V.lt s.hp.length)) && hpLt s.hp then do
    let zs ← M.lift (allocZs P (ops.take n))
    let z ← manyOps P S (ops.take n) s.hp.length ((s.hp ++ zs.map fun _ => none).map frz) (ops.take n) s.hp.length ⟨s, []⟩ []
    if zs.all (fun z => !z.any Lf.isNil && z.all (Lf.lt s.hp.length)) && z.2.1.all (optAll fun b => b.flat && b.lt s.hp.length) && argsB z.1 (ops.take n) z.2.2 then do
      let r2 ← evOpers P S false ops (ops.drop n) ⟨⟨z.1.st.sl, s.hp ++ zs.map (fun z => some (.c true (z.map some))) ++ z.2.1⟩, z.1.gl⟩
      pure r2.st
    else M.fail
  else M.fail
def M.orElse' {α : Type} (x y : M α) : M α := fun n =>
  match x n with
  | some r => some r
  | none => y n

def evRegionA (P : Program) (S : Sigs) (ops : Array Oper) (s : St) : M St :=
  let n := (ops.toList.takeWhile fun o => quietOp o.op).length
  if Region.lexB .any (ops.toList.take n).toArray && tailB ops.toList n then
    if P.follows .mixedOrders && backB ops.toList then do
      let r ← evOpers P S true (ops.toList.take n) (ops.toList.take n) ⟨s, []⟩
      let r2 ← evOpers P S false ops.toList (ops.toList.drop n) r
      pure r2.st
    else M.fail
  else if mixOk ops.toList && P.follows .mixedOrders && Region.lexB .any (ops.toList.map (nopN 0)).toArray && backB ops.toList then evMixed P S ops.toList s
  else M.fail
def evRegionB (P : Program) (S : Sigs) (ops : Array Oper) (s : St) : M St :=
  let n := (ops.toList.takeWhile headOp).length
  if manyB ops.toList n && P.follows .mixedOrders then evMany P S ops.toList n s else M.fail
def intOf : Operand → Option (List Nat)
  | .tmp t => some [t]
  | .const (.int _ _) => some []
  | _ => none
def floatOp (o : Oper) : Option (List Nat) :=
  match o.guard, o.op with
  | none, .binOp op _ x y _ =>
    match op with
    | .add | .sub | .mul =>
      match intOf x, intOf y with
      | some l, some m => some (l ++ m)
      | _, _ => none
    | _ => none
  | _, _ => none
def waitsToo (ops : List Oper) (f : Nat) (df : List Nat) (p : Oper × Nat) : Bool := Nat.blt f p.2 && !memN f (depsOf p.1) && sub1 df (reachFrom ops p.2 (depsOf p.1))
def waitFor (ops : List Oper) (f : Nat) (df : List Nat) : List Oper := ops.zipIdx.map fun p => if waitsToo ops f df p then { p.1 with after := p.1.after.push ⟨f, .chain⟩ } else p.1
def dstIn (ts : List Nat) (o : Oper) : Bool :=
  match o.dst with
  | some t => memN t ts
  | none => false
def floatOk (ops : List Oper) (f : Nat) (o : Oper) (ts : List Nat) : Bool :=
  ops.zipIdx.all fun p => (!dstIn ts p.1 || memN p.2 (depsOf o)) && (Nat.beq p.2 f || memN p.2 (depsOf o) || memN f (depsOf p.1) || o.apart ops.toArray p.1)
def floats (ops : List Oper) : List (Oper × Nat) := ops.zipIdx.filter fun p =>
  match floatOp p.1 with
  | some ts => floatOk ops p.2 p.1 ts && (ops.zipIdx.any fun q => waitsToo ops p.2 (depsOf p.1) q)
  | none => false
def kindOf (sl : List (Option V)) : Operand → Option IntKind
  | .tmp t =>
    match nth sl t with
    | some (.s (.one (.i k _))) => some k
    | _ => none
  | .const (.int k _) => some k
  | _ => none
def floatKinds (sl : List (Option V)) (o : Oper) : Bool :=
  match o.op with
  | .binOp _ _ x y _ =>
    match kindOf sl x, kindOf sl y with
    | some k, some k' => kEq k k'
    | _, _ => false
  | _ => false
def evRegionC (P : Program) (S : Sigs) : Nat → List Oper → St → M St
  | 0, ops, s => (evRegionA P S ops.toArray s).orElse' (evRegionB P S ops.toArray s)
  | n + 1, ops, s => ((evRegionA P S ops.toArray s).orElse' (evRegionB P S ops.toArray s)).orElse'
    (match floats ops with
     | [] => M.fail
     | (o, f) :: _ =>
       match floatOp o with
       | some ts =>
         if floatOk ops f o ts && Region.noSelect ops.toArray && backB ops then do
           let s' ← evRegionC P S n (waitFor ops f (depsOf o)) s
           if floatKinds s'.sl o then pure s' else M.fail
         else M.fail
       | none => M.fail)
def evRegion (P : Program) (S : Sigs) (ops : Array Oper) (draw : Bool) (s : St) : M St :=
  if draw then evRegionC P S ops.toList.length ops.toList s
  else do
    let r ← evOpers P S false ops.toList ops.toList ⟨s, []⟩
    pure r.st

inductive K where
  | normal
  | ret
  | exit (id : Nat)
  | goto (l : Nat)
  deriving Inhabited

inductive X where
  | done (k : K) (s : St)
  | br (c : A) (x y : X)

def K.isNormal : K → Bool
  | .normal => true
  | _ => false

def X.nCond : X → M A
  | .done k _ => pure (.t k.isNormal)
  | .br c x y => do
    let a ← x.nCond
    let b ← y.nCond
    mkIteB c a b

def X.nSt (n0 : Nat) : X → M (Option St)
  | .done k s => pure (if k.isNormal then some s else none)
  | .br c x y => do
    match ← x.nSt n0, ← y.nSt n0 with
    | some a, some b => do pure (some (← mergeSt n0 c a b))
    | some a, none => pure (some a)
    | none, some b => pure (some b)
    | none, none => pure none

def X.kill : X → Option X
  | .done k s => if k.isNormal then none else some (.done k s)
  | .br c x y =>
    match x.kill, y.kill with
    | some a, some b => some (.br c a b)
    | some a, none => some a
    | none, some b => some b
    | none, none => none

def K.inBlock (id : Nat) : K → K
  | .exit i => if Nat.beq i id then .normal else .exit i
  | k => k
def X.inBlock (id : Nat) : X → X
  | .done k s => .done (k.inBlock id) s
  | .br c x y => .br c (x.inBlock id) (y.inBlock id)

def X.noGoto : X → Bool
  | .done k _ => match k with | .goto _ => false | _ => true
  | .br _ x y => x.noGoto && y.noGoto

def X.andThen (n0 : Nat) (x : X) (f : St → M X) : M X := do
  let c ← x.nCond
  match ← x.nSt n0 with
  | none => pure x
  | some s =>
    match x.kill with
    | none => f s
    | some z =>
      match c with
      | .t true => f s
      | c => do
        let y ← under c true (f s)
        pure (.br c y z)

def A.below (n : Nat) : A → Bool
  | .r i => Nat.blt i n
  | _ => true
def Code.dsts : Code → List Tmp
  | .region _ ops _ => ops.toList.filterMap (·.dst)
  | .seq a b => Code.dsts a ++ Code.dsts b
  | .cond _ a b => Code.dsts a ++ Code.dsts b
  | .block _ c => Code.dsts c
  | .loop c => Code.dsts c
  | .scope c => Code.dsts c
  | _ => []

def K.beq : K → K → Bool
  | .normal, .normal => true
  | .ret, .ret => true
  | .exit a, .exit b => Nat.beq a b
  | .goto a, .goto b => Nat.beq a b
  | _, _ => false
def kindIx (k : K) : List K → Option Nat
  | [] => none
  | x :: l => if x.beq k then some 0 else (kindIx k l).map (· + 1)
def X.kinds : X → List K
  | .done k _ => if k.isNormal then [] else [k]
  | .br _ x y => x.kinds ++ (y.kinds.filter fun k => (kindIx k x.kinds).isNone)

def X.couts (n0 : Nat) (p : Pat) (ks : List K) : X → M (List A)
  | .done k s => do
    let i ← M.lift (kindIx k ks)
    let g := guess p.tys.length p.st s
    if (p.st.inst g.1).sub g.2 s && keeps g.2 n0 then pure (.z i :: g.1) else M.fail
  | .br c x y => do
    let a ← x.couts n0 p ks
    let b ← y.couts n0 p ks
    mergeAs c (.i :: p.tys) a b

def K.toX (ka : A) (s : St) : Nat → List K → M X
  | _, [] => M.fail
  | _, [k] => pure (.done k s)
  | i, k :: l => do
    let e ← emit (.eql ka (.z i))
    let r ← K.toX ka s (i + 1) l
    pure (.br e (.done k s) r)

def X.sts : X → List St
  | .done _ s => [s]
  | .br _ x y => x.sts ++ y.sts

def A.ids (n : Nat) : A → List Nat
  | .r i => if Nat.blt i n then [i] else []
  | _ => []
def Node.ops : Node → List A
  | .add _ a b | .sub _ a b | .mul _ a b | .land _ a b | .lor _ a b | .lxor _ a b | .landNot _ a b | .quo _ a b | .rem _ a b | .shl _ a b | .shr _ a b => [a, b]
  | .eql a b | .neq a b | .lss a b | .leq a b | .gtr a b | .geq a b | .beq a b | .bne a b | .and a b | .or a b => [a, b]
  | .not a => [a]
  | .itei c a b | .iteb c a b => [c, a, b]
  | .conv _ a => [a]
  | .seli l ix | .selb l ix => ix :: l
  | .call _ l _ => l
  | .lmk _ l => l
  | .llen _ a => [a]
  | .lgeti _ _ a ix | .lgetb _ _ a ix | .lgetl _ _ a ix => [a, ix]
  | .lset _ _ _ a ix x => [a, ix, x]
  | .lcat a b => [a, b]
  | .ltake _ a n | .ldrop _ a n => [a, n]
  | .lrep n _ l => n :: l
  | .itel c a b => [c, a, b]
def dedupN : List Nat → List Nat
  | [] => []
  | x :: l => let r := dedupN l; if memN x r then r else x :: r

structure Round where
  x : X
  c : A
  nx : List A
  ks : List K
  outs : List A

def fitNx (n0 : Nat) (p : Pat) : Option St → M (List A)
  | none => pure []
  | some so =>
    let g := guess p.tys.length p.st so
    if (p.st.inst g.1).sub g.2 so && keeps g.2 n0 then pure g.1 else M.fail
def roundOut (n0 : Nat) (p : Pat) (x : X) (c : A) (nx : List A) : Option X → M Round
  | none => M.fail
  | some z => do
    let outs ← z.couts n0 p z.kinds
    pure ⟨x, c, nx, z.kinds, outs⟩
def evRound (n0 : Nat) (ev : St → M X) (p : Pat) (sx : St) : M Round := do
  let x ← ev sx
  let c ← x.nCond
  let so ← x.nSt n0
  let nx ← fitNx n0 p so
  roundOut n0 p x c nx x.kill

def Node.refs (n : Nat) (x : Node) : Bool := x.ops.all (A.below n)
def wfNodes (n : Nat) : Em → Bool
  | [] => true
  | (i, x) :: r => Nat.beq i n && x.refs n && wfNodes (n + 1) r
def obLp : LR → M Unit := fun l n => some ((), n, [], [.lp l])
def obLps : List LR → M Unit
  | [] => pure ()
  | l :: r => do obLp l; obLps r

def idsFrom (n : Nat) : Nat → List A
  | 0 => []
  | k + 1 => .r n :: idsFrom (n + 1) k
def evLoopAt (fid : Nat) (p : Pat) (ins : List A) (l : LR) (ks : List K) : M X := do
  let args := l.inv.map A.r ++ ins
  let q ← emit (.call fid args 0)
  owe q
  let os ← callOuts fid args 1 l.outs.length
  if Nat.beq l.outs.length 0 then M.fail else K.toX (os.headD default) (p.st.inst os.tail) 0 ks

def idsOf (n : Nat) (e : Em) (d : List Ob) (r : Round) : List Nat :=
  e.flatMap (fun p => p.2.ops.flatMap (A.ids n)) ++ (ndsOf d).flatMap (fun q => (q.a :: q.path.map (·.1)).flatMap (A.ids n)) ++ (r.c :: (r.nx ++ r.outs)).flatMap (A.ids n)

def lrOf (fid n k : Nat) (e : Em) (d : List Ob) (r : Round) (ts : List Ty) : LR := ⟨fid, n, k, dedupN (idsOf n e d r), e, ndsOf d, r.c, r.nx, r.outs, ts⟩

def lrGo (fid : Nat) (p : Pat) (ins : List A) (d : List Ob) (l : LR) (ks : List K) : M X := do
  obLps (lpsOf d)
  obLp l
  evLoopAt fid p ins l ks

def evSymWith (n0 : Nat) (ev : St → M X) (fid : Nat) (p : Pat) (s : St) : M X := fun n =>
  let k := p.tys.length
  let g := guess k p.st s
  match evRound n0 ev p (p.st.inst (idsFrom n k)) (n + k) with
  | none => none
  | some (r, _, e, d) =>
    if (p.st.inst g.1).sub g.2 s && keeps g.2 n0 && Nat.ble n0 p.st.hp.length && p.st.tyOk (A.below n) p.tys && wfNodes (n + k) e && Nat.beq r.nx.length k then
      lrGo fid p g.1 d (lrOf fid n k e d r p.tys) r.ks n
    else none

def patTry (ev : St → M X) (D : List Nat) (s : St) (n : Nat) : Nat → List St → Pat
  | 0, es => loopPat D es s
  | t + 1, es =>
    let p := loopPat D es s
    match ev (p.st.inst (idsFrom n p.tys.length)) (n + p.tys.length) with
    | none => p
    | some (x, _, _, _) => patTry ev D s n t (x.sts ++ es)

def evSym (n0 : Nat) (ev : St → M X) (fid : Nat) (D : List Nat) (s : St) : M X := fun n =>
  evSymWith n0 ev fid (patTry ev D s n 2 []) s n

def deadC : Code → Bool
  | .region _ ops _ => ops.toList.any fun o => match o.op with | .panic _ => true | _ => false
  | .seq a b => deadC a || (match a with | .region _ _ _ => deadC b | _ => false)
  | .scope c => deadC c
  | _ => false

def evCode (P : Program) (S : Sigs) : Nat → Code → St → M X
  | 0, _, _ => M.fail
  | n + 1, c, s =>
    match c with
    | .skip => pure (.done .normal s)
    | .label _ => pure (.done .normal s)
    | .region _ ops draw => do pure (.done .normal (← evRegion P S ops draw s))
    | .seq x y => do (← evCode P S n x s).andThen S.n0 (evCode P S n y)
    | .cond c x y => do
      match ← M.lift (rd ⟨s, []⟩ [] c) with
      | .s (.one (.b a)) =>
        match a with
        | .t true => evCode P S n x s
        | .t false => evCode P S n y s
        | a =>
          if deadC x then do
            owe (← mkNot a)
            evCode P S n y s
          else if deadC y then do
            owe a
            evCode P S n x s
          else do
            let u ← under a true (evCode P S n x s)
            let v ← under a false (evCode P S n y s)
            pure (.br a u v)
      | _ => M.fail
    | .block id c =>
      match assoc S.ls id with
      | some fid =>
        match c with
        | .loop b => do pure ((← evSym S.n0 (evCode P S n b) fid (Code.dsts b) s).inBlock id)
        | c => do pure ((← evCode P S n c s).inBlock id)
      | none => do pure ((← evCode P S n c s).inBlock id)
    | .loop c => do (← evCode P S n c s).andThen S.n0 (evCode P S n (.loop c))
    | .exit id => pure (.done (.exit id) s)
    | .goto l => pure (.done (.goto l) s)
    | .scope c => do
      let x ← evCode P S n c s
      if x.noGoto then pure x else M.fail
    | .ret => pure (.done .ret s)
    | _ => M.fail

def resOf (P : Program) (s : St) : List ResultVar → M (List V1)
  | [] => pure []
  | .tmp t :: l => do
    match ← M.lift (nth s.sl t) with
    | .s v => do pure (v :: (← resOf P s l))
    | _ => M.fail
  | .cell t ty :: l => do
    match ← M.lift (nth s.sl t) with
    | .s (.one (.p b off)) => do
      let k ← M.lift (tk P ty)
      let sz ← M.lift (tsize P ty)
      match ← M.lift (nth s.hp b) with
      | .c _ cs =>
        let v ← loadCells cs off (isAggT k) sz
        pure (v :: (← resOf P s l))
      | .v _ _ _ => M.fail
    | _ => M.fail

def K.ends : K → Bool
  | .normal | .ret => true
  | _ => false

def X.res (P : Program) (rs : List ResultVar) (keep : Bool) : X → M X
  | .done k s => if k.ends then do
      let vs ← resOf P s rs
      pure (.done .normal ⟨[some (wrapResults vs)], if keep then s.hp else []⟩)
    else M.fail
  | .br c x y => do
    let a ← under c true (x.res P rs keep)
    let b ← under c false (y.res P rs keep)
    pure (.br c a b)

structure Out where
  nodes : Em
  owes : List Nd
  loops : List LR
  outs : List A


def keepsC (hin : List (Option Blk)) (m : List Nat) : Nat → List (Option Blk) → Bool
  | _, [] => true
  | j, _ :: l => (!stays hin j || Nat.beq (rnm m j) j) && keepsC hin m (j + 1) l

def Sig.st0 (sg : Sig) (ntmps : Nat) : St :=
  let ids := idsFrom 0 sg.nin
  let ps := sg.ins.map (V.inst ids)
  ⟨ps.map some ++ List.replicate (ntmps - ps.length) none, sg.hin.map (Option.map (Blk.inst ids))⟩

def evBody (P : Program) (S : Sigs) (fuel : Nat) (c : Code) (rs : List ResultVar) (keep : Bool) (s : St) : M St := do
  let x ← evCode P S fuel c s
  let y ← x.res P rs keep
  let z ← y.nSt S.n0
  match z with
  | some z => pure z
  | none => M.fail

def outOf (sg : Sig) (z : St) (e : Em) (d : List Ob) : Option Out :=
  let p : St := ⟨[some sg.out], sg.hout⟩
  let g := guess sg.ots.length p z
  if (p.inst g.1).sub g.2 z && sg.ok && keepsC sg.hin g.2 0 sg.hout then some ⟨e, ndsOf d, lpsOf d, g.1⟩ else none

def evFn (P : Program) (S : Sigs) (fuel : Nat) (fn : Func) (sg : Sig) : Option Out :=
  match fn.body with
  | none => none
  | some c =>
    if Nat.beq S.n0 sg.hin.length then
      match evBody P S fuel c fn.results.toList (!(sg.hin.isEmpty && sg.hout.isEmpty)) (sg.st0 fn.ntmps) sg.nin with
      | none => none
      | some (z, _, e, d) => outOf sg z e d
    else none

end Go.Sx

namespace Go.Sx

def M.sat {α : Type} (F : FEnv) (ν : Nat → DV) (x : M α) (Q : α → Prop) : Prop :=
  ∀ n a n' e d, x n = some (a, n', e, d) → Sat F ν e → (∀ q ∈ d, Ob.holds F ν q) → Q a

section
variable {α β : Type} {F : FEnv} {ν : Nat → DV}

theorem sat_pure {a : α} {Q : α → Prop} (h : Q a) : M.sat F ν (pure a : M α) Q := by
  intro n b n' e d hx _ _
  change some (a, n, [], []) = some (b, n', e, d) at hx
  simp only [Option.some.injEq, Prod.mk.injEq] at hx
  exact hx.1 ▸ h

theorem sat_bind {x : M α} {f : α → M β} {R : α → Prop} {Q : β → Prop} (hx : M.sat F ν x R) (hf : ∀ a, R a → M.sat F ν (f a) Q) :
    M.sat F ν (x >>= f) Q := by
  intro n b n' e d h hs hd
  change M.bind x f n = _ at h
  unfold M.bind at h
  cases h1 : x n with
  | none => simp [h1] at h
  | some r =>
    obtain ⟨a, n1, e1, d1⟩ := r
    simp only [h1] at h
    cases h2 : f a n1 with
    | none => simp [h2] at h
    | some r2 =>
      obtain ⟨b2, n2, e2, d2⟩ := r2
      simp only [h2, Option.some.injEq, Prod.mk.injEq] at h
      obtain ⟨rfl, rfl, rfl, rfl⟩ := h
      exact hf a (hx n a n1 e1 d1 h1 (fun p hp => hs p (List.mem_append_left _ hp)) (fun q hq => hd q (List.mem_append_left _ hq)))
        n1 b2 n2 e2 d2 h2 (fun p hp => hs p (List.mem_append_right _ hp)) (fun q hq => hd q (List.mem_append_right _ hq))

theorem sat_mono {x : M α} {R Q : α → Prop} (hx : M.sat F ν x R) (h : ∀ a, R a → Q a) : M.sat F ν x Q :=
  fun n a n' e d h1 h2 h3 => h a (hx n a n' e d h1 h2 h3)

theorem sat_and {x : M α} {R Q : α → Prop} (hx : M.sat F ν x R) (hy : M.sat F ν x Q) : M.sat F ν x (fun a => R a ∧ Q a) :=
  fun n a n' e d h1 h2 h3 => ⟨hx n a n' e d h1 h2 h3, hy n a n' e d h1 h2 h3⟩

theorem sat_pull {ι κ : Type} [Inhabited ι] [Inhabited κ] {x : M α} {G : α → Prop} {Q : ι → κ → α → Prop} (h : ∀ i k, M.sat F ν x (fun a => G a ∧ Q i k a)) :
    M.sat F ν x (fun a => G a ∧ ∀ i k, Q i k a) :=
  fun n a n' e d h1 h2 h3 => ⟨(h default default n a n' e d h1 h2 h3).1, fun i k => (h i k n a n' e d h1 h2 h3).2⟩
theorem sat_pull2 {ι : Type} {x : M α} {Q : ι → α → Prop} (h : ∀ i, M.sat F ν x (fun a => Q i a)) : M.sat F ν x (fun a => ∀ i, Q i a) :=
  fun n a n' e d h1 h2 h3 i => h i n a n' e d h1 h2 h3
theorem sat_true {x : M α} : M.sat F ν x (fun _ => True) := fun _ _ _ _ _ _ _ _ => trivial

theorem sat_fail {Q : α → Prop} : M.sat F ν (M.fail : M α) Q := by
  intro n a n' e d h
  change none = _ at h
  cases h

theorem sat_lift {o : Option α} {Q : α → Prop} (h : ∀ a, o = some a → Q a) : M.sat F ν (M.lift o) Q := by
  intro n a n' e d hx _ _
  unfold M.lift at hx
  cases o with
  | none => cases hx
  | some b =>
    simp only [Option.some.injEq, Prod.mk.injEq] at hx
    exact hx.1 ▸ h b rfl

theorem sat_emit {x : Node} {Q : A → Prop} (h : ∀ a : A, a.den ν = denNode F ν x → Q a) : M.sat F ν (emit x) Q := by
  intro n a n' e d hx hs _
  unfold emit at hx
  simp only [Option.some.injEq, Prod.mk.injEq] at hx
  obtain ⟨rfl, rfl, rfl, rfl⟩ := hx
  exact h (.r n) (hs (n, x) (by simp))

theorem sat_owe {a : A} {Q : Unit → Prop} (h : a.bool ν = true → Q ()) : M.sat F ν (owe a) Q := by
  intro n u n' e d hx _ hd
  unfold owe at hx
  simp only [Option.some.injEq, Prod.mk.injEq] at hx
  obtain ⟨_, rfl, rfl, rfl⟩ := hx
  exact h (hd (.nd ⟨[], a⟩) (by simp) (by simp))

theorem sat_under {c : A} {b : Bool} {x : M α} {Q : α → Prop} (h : M.sat F ν x Q) : M.sat F ν (under c b x) (fun a => c.bool ν = b → Q a) := by
  intro n a n' e d hx hs hd hc
  unfold under at hx
  cases h1 : x n with
  | none => simp [h1] at hx
  | some r =>
    obtain ⟨a1, n1, e1, d1⟩ := r
    simp only [h1, Option.some.injEq, Prod.mk.injEq] at hx
    obtain ⟨rfl, rfl, rfl, rfl⟩ := hx
    refine h n a1 n1 e1 d1 h1 hs (fun q hq => ?_)
    have := hd (q.under c b) (List.mem_map.2 ⟨q, hq, rfl⟩)
    cases q with
    | lp l => exact this
    | nd q =>
      intro hp
      exact this (by
        intro p hp'
        rcases List.mem_cons.1 hp' with rfl | h'
        · exact hc
        · exact hp p h')

theorem sat_underAll {cs : List (A × Bool)} {x : M α} {Q : α → Prop} (h : M.sat F ν x Q) :
    M.sat F ν (underAll cs x) (fun a => (∀ c ∈ cs, c.1.bool ν = c.2) → Q a) := by
  induction cs with
  | nil => exact sat_mono h (fun a ha _ => ha)
  | cons p r ih =>
    obtain ⟨c, b⟩ := p
    refine sat_mono (sat_under (c := c) (b := b) ih) ?_
    intro a ha hall
    exact ha (hall (c, b) (by simp)) (fun q hq => hall q (List.mem_cons_of_mem _ hq))

theorem sat_ite {c : Prop} [Decidable c] {x y : M α} {Q : α → Prop} (hx : c → M.sat F ν x Q) (hy : ¬ c → M.sat F ν y Q) : M.sat F ν (if c then x else y) Q := by
  split
  · exact hx ‹_›
  · exact hy ‹_›

end

def Off.good (ν : Nat → DV) : Off → Prop
  | .c _ => True
  | .s _ ix _ len => 0 ≤ ix.int ν ∧ ix.int ν < len
  | .d _ ix _ len ix2 _ len2 => (0 ≤ ix.int ν ∧ ix.int ν < len) ∧ 0 ≤ ix2.int ν ∧ ix2.int ν < len2
  | .v _ ix sz a => 0 ≤ ix.int ν ∧ ((ix.int ν).toNat + 1) * sz ≤ (a.cells ν).length
def Lf.good (ν : Nat → DV) : Lf → Prop
  | .p _ off => off.good ν
  | .gp _ off => off.good ν
  | _ => True
def V1.good (ν : Nat → DV) (v : V1) : Prop := ∀ l ∈ v.cells, Lf.good ν l
def V.good (ν : Nat → DV) : V → Prop
  | .s v => v.good ν
  | .t l => ∀ v ∈ l, V1.good ν v
@[simp] theorem V1.good_one {ν : Nat → DV} {l : Lf} : (V1.one l).good ν ↔ l.good ν := by simp [V1.good, V1.cells]
@[simp] theorem V1.good_agg {ν : Nat → DV} {l : List Lf} : (V1.agg l).good ν ↔ ∀ x ∈ l, x.good ν := by simp [V1.good, V1.cells]
@[simp] theorem V.good_s {ν : Nat → DV} {v : V1} : (V.s v).good ν ↔ v.good ν := Iff.rfl
@[simp] theorem Lf.good_i {ν : Nat → DV} {k : IntKind} {a : A} : (Lf.i k a).good ν := trivial
@[simp] theorem Lf.good_b {ν : Nat → DV} {a : A} : (Lf.b a).good ν := trivial

theorem kEq_eq {a b : IntKind} (h : kEq a b = true) : a = b := by
  cases a <;> cases b <;> simp [kEq] at h <;> rfl

theorem natsEq_eq : ∀ {a b : List Nat}, natsEq a b = true → a = b
  | [], [], _ => rfl
  | x :: l, y :: l', h => by
    simp only [natsEq, Bool.and_eq_true] at h
    rw [Nat.eq_of_beq_eq_true h.1, natsEq_eq h.2]
  | [], _ :: _, h => by simp [natsEq] at h
  | _ :: _, [], h => by simp [natsEq] at h
theorem capsConc_map (ρ : Nat → Loc) (f : Nat → Nat) (bs : List Nat) : capsConc (fun j => ρ (f j)) bs = capsConc ρ (bs.map f) := by simp [capsConc, Function.comp_def]
theorem capsConc_congr {ρ ρ' : Nat → Loc} {bs : List Nat} (h : ∀ b ∈ bs, ρ' b = ρ b) : capsConc ρ' bs = capsConc ρ bs := by
  unfold capsConc
  congr 1
  exact List.map_congr_left fun b hb => by rw [h b hb]
theorem capsConc_lt {ρ ρ' : Nat → Loc} {bs : List Nat} {n : Nat} (hb : (bs.all fun b => decide (b < n)) = true) (h : ∀ k, k < n → ρ' k = ρ k) : capsConc ρ' bs = capsConc ρ bs :=
  capsConc_congr fun b hm => h b (by simpa using List.all_eq_true.1 hb b hm)
theorem A.beq_den {a b : A} (h : a.beq b = true) (ν : Nat → DV) : a.den ν = b.den ν := by
  cases a <;> cases b <;> simp [A.beq] at h
  all_goals (subst h; rfl)

theorem beqB_eq {a b : Bool} (h : beqB a b = true) : a = b := by
  cases a <;> cases b <;> simp [beqB] at h <;> rfl
theorem beqB_ne {a b : Bool} (h : ¬ beqB a b = true) : a ≠ b := by
  cases a <;> cases b <;> simp [beqB] at h ⊢

section
variable {F : FEnv} {ν : Nat → DV}
@[simp] theorem A.int_z (n : Int) : (A.z n).int ν = n := rfl
@[simp] theorem A.bool_t (b : Bool) : (A.t b).bool ν = b := rfl
theorem A.int_of_den {a : A} {n : Int} (h : a.den ν = .i n) : a.int ν = n := by simp [A.int, h, DV.toI]
theorem A.bool_of_den {a : A} {n : Bool} (h : a.den ν = .b n) : a.bool ν = n := by simp [A.bool, h, DV.toB]

theorem A.cells_of_den {a : A} {n : List DV} (h : a.den ν = .l n) : a.cells ν = n := by simp [A.cells, h, DV.toL]

theorem mkNot_sat {a : A} : M.sat F ν (mkNot a) (fun r => r.bool ν = !a.bool ν) := by
  unfold mkNot
  split
  · exact sat_pure rfl
  · exact sat_emit fun r h => A.bool_of_den h

theorem mkAnd_sat {a b : A} : M.sat F ν (mkAnd a b) (fun r => r.bool ν = (a.bool ν && b.bool ν)) := by
  unfold mkAnd
  split
  · exact sat_pure (by simp)
  · exact sat_pure (by simp)
  · exact sat_pure (by simp)
  · exact sat_pure (by simp)
  · exact sat_emit fun r h => A.bool_of_den h

theorem mkIteI_sat {c a b : A} : M.sat F ν (mkIteI c a b) (fun r => r.int ν = bif c.bool ν then a.int ν else b.int ν) := by
  unfold mkIteI
  split
  · exact sat_pure rfl
  · exact sat_pure rfl
  · refine sat_ite (fun h => sat_pure ?_) (fun _ => sat_emit fun r h => A.int_of_den h)
    have := A.beq_den h ν
    simp only [A.int, this]
    cases c.bool ν <;> rfl

theorem mkIteB_sat {c a b : A} : M.sat F ν (mkIteB c a b) (fun r => r.bool ν = bif c.bool ν then a.bool ν else b.bool ν) := by
  unfold mkIteB
  split
  · exact sat_pure rfl
  · exact sat_pure rfl
  · refine sat_ite (fun h => sat_pure ?_) (fun _ => ?_)
    · have := A.beq_den h ν
      simp only [A.bool, this]
      cases (A.den ν c).toB <;> rfl
    · split
      · exact sat_pure (by simp)
      · exact sat_emit fun r h => by rw [A.bool_of_den h]; simp
      · exact sat_emit fun r h => by rw [A.bool_of_den h]; simp
      · exact sat_emit fun r h => by rw [A.bool_of_den h]; simp
      · exact sat_emit fun r h => A.bool_of_den h

theorem mkIteL_sat {c a b : A} : M.sat F ν (mkIteL c a b) (fun r => r.cells ν = bif c.bool ν then a.cells ν else b.cells ν) := by
  unfold mkIteL
  split
  · exact sat_pure rfl
  · exact sat_pure rfl
  · refine sat_ite (fun h => sat_pure ?_) (fun _ => sat_emit fun r h => A.cells_of_den h)
    have := A.beq_den h ν
    simp only [A.cells, this]
    cases c.bool ν <;> rfl

theorem oweNe0_sat {b : A} : M.sat F ν (oweNe0 b) (fun _ => b.int ν ≠ 0) := by
  unfold oweNe0
  split
  · exact sat_ite (fun _ => sat_fail) (fun h => sat_pure (by simpa using h))
  · refine sat_bind (sat_emit (Q := fun r => r.bool ν = (b.int ν != 0)) fun r h => A.bool_of_den h) fun r hr => ?_
    exact sat_owe fun h => by rw [hr] at h; simpa using h

theorem oweGe0_sat {b : A} : M.sat F ν (oweGe0 b) (fun _ => 0 ≤ b.int ν) := by
  unfold oweGe0
  split
  · exact sat_ite (fun h => sat_pure (by simpa using h)) (fun h => sat_fail)
  · refine sat_bind (sat_emit (Q := fun r => r.bool ν = decide (b.int ν ≥ 0)) fun r h => A.bool_of_den h) fun r hr => ?_
    exact sat_owe fun h => by rw [hr] at h; simpa using h
end

end Go.Sx

namespace Go.Sx
section
variable {P : Program} {F : FEnv} {ν : Nat → DV} {ρ : Nat → Loc} {w : World}

theorem evBin_sat {op : BinOp} {k : IntKind} {a b : A} (h1 : op ≠ .shl) (h2 : op ≠ .shr) (t : TypeId) :
    M.sat F ν (evBin op k a b) (fun l => l.good ν ∧ (binOp op t (.int k (a.int ν)) (.int k (b.int ν))).run P w = .ok (l.conc ν ρ) w) := by
  unfold evBin
  split
  all_goals first
    | (refine sat_bind oweNe0_sat fun _ h0 => sat_pure ?_; try simp only [A.int_z] at h0 ⊢
       simp [binOp, Op.intDiv, h0, Lf.conc])
    | (refine sat_bind oweNe0_sat fun _ h0 => sat_bind (sat_emit (Q := fun r => r.int ν = _) fun r h => A.int_of_den h) fun r hr => sat_pure ?_
       simp [binOp, Op.intDiv, h0, Lf.conc, hr])
    | (refine sat_bind (sat_emit (Q := fun r => r.int ν = _) fun r h => A.int_of_den h) fun r hr => sat_pure ?_
       simp [binOp, Op.intArith, Op.intBits, Lf.conc, hr, iland, ilor, ilxor, ilandNot, bitsOf])
    | (refine sat_bind (sat_emit (Q := fun r => r.bool ν = _) fun r h => A.bool_of_den h) fun r hr => sat_pure ?_
       simp [binOp, Op.intCmp, Lf.conc, hr])
    | (refine sat_pure ?_; simp [binOp, Op.intArith, Op.intBits, Op.intCmp, Lf.conc, iland, ilor, ilxor, ilandNot, bitsOf]; done)
    | (refine sat_pure ⟨trivial, ?_⟩; simp [binOp, Op.intCmp, Lf.conc]; rfl)
    | exact sat_fail

theorem evShift_sat {op : BinOp} {k yk : IntKind} {a b : A} (t : TypeId) :
    M.sat F ν (evShift op k a b) (fun l => l.good ν ∧ (binOp op t (.int k (a.int ν)) (.int yk (b.int ν))).run P w = .ok (l.conc ν ρ) w) := by
  unfold evShift
  split
  · refine sat_bind oweGe0_sat fun _ h0 => sat_pure ?_
    try simp only [A.int_z] at h0 ⊢
    simp [binOp, Op.shift, Lf.conc, ishl, Int.not_lt.2 h0]
  · refine sat_bind oweGe0_sat fun _ h0 => sat_pure ?_
    try simp only [A.int_z] at h0 ⊢
    simp [binOp, Op.shift, Lf.conc, ishr, Int.not_lt.2 h0]
  · refine sat_bind oweGe0_sat fun _ h0 => sat_bind (sat_emit (Q := fun r => r.int ν = _) fun r h => A.int_of_den h) fun r hr => sat_pure ?_
    simp [binOp, Op.shift, Lf.conc, ishl, Int.not_lt.2 h0, hr]
  · refine sat_bind oweGe0_sat fun _ h0 => sat_bind (sat_emit (Q := fun r => r.int ν = _) fun r h => A.int_of_den h) fun r hr => sat_pure ?_
    simp [binOp, Op.shift, Lf.conc, ishr, Int.not_lt.2 h0, hr]
  · exact sat_fail

theorem tk_spec {t : TypeId} {k : TK} (h : tk P t = some k) : ∃ d, P.underlying t = some d ∧ tkOf d = k := by
  unfold tk at h
  cases hu : P.underlying t with
  | none => simp [hu] at h
  | some d => simp [hu] at h; exact ⟨d, rfl, h⟩
theorem tk_int {t : TypeId} {k : IntKind} (h : tk P t = some (.int k)) : P.underlying t = some (.int k) := by
  obtain ⟨d, hd, hk⟩ := tk_spec h
  cases d <;> simp [tkOf] at hk
  exact hk ▸ hd
theorem tk_bool {t : TypeId} (h : tk P t = some .bool) : P.underlying t = some .bool := by
  obtain ⟨d, hd, hk⟩ := tk_spec h
  cases d <;> simp [tkOf] at hk
  exact hd
theorem tk_arr {t : TypeId} {n e : Nat} (h : tk P t = some (.arr n e)) : P.underlying t = some (.array n e) := by
  obtain ⟨d, hd, hk⟩ := tk_spec h
  cases d <;> simp [tkOf] at hk
  obtain ⟨rfl, rfl⟩ := hk
  exact hd
theorem tk_struct {t : TypeId} {l : List (Nat × Nat)} (h : tk P t = some (.struct l)) : ∃ fs, P.underlying t = some (.struct fs) ∧ l = fs.toList.map fun f => (f.offset, f.type) := by
  obtain ⟨d, hd, hk⟩ := tk_spec h
  cases d <;> simp [tkOf] at hk
  exact ⟨_, hd, hk.symm⟩

theorem evBoolOp_sat {op : BinOp} {a b : A} (t : TypeId) (ht : P.underlying t = some .bool) :
    M.sat F ν (evBoolOp op a b) (fun l => l.good ν ∧ (binOp op t (.bool (a.bool ν)) (.bool (b.bool ν))).run P w = .ok (l.conc ν ρ) w) := by
  unfold evBoolOp
  split
  · refine sat_pure ?_
    simp [binOp, Op.equal, Op.maxDepth, run_equalIn_bool' w 9999 t _ _ ht, Lf.conc]
  · refine sat_pure ?_
    simp [binOp, Op.equal, Op.maxDepth, run_equalIn_bool' w 9999 t _ _ ht, Lf.conc, bne]
  · refine sat_bind (sat_emit (Q := fun r => r.bool ν = _) fun r h => A.bool_of_den h) fun r hr => sat_pure ?_
    simp [binOp, Op.equal, Op.maxDepth, run_equalIn_bool' w 9999 t _ _ ht, Lf.conc, hr]
  · refine sat_bind (sat_emit (Q := fun r => r.bool ν = _) fun r h => A.bool_of_den h) fun r hr => sat_pure ?_
    simp [binOp, Op.equal, Op.maxDepth, run_equalIn_bool' w 9999 t _ _ ht, Lf.conc, hr, bne]
  · exact sat_fail

theorem evUn_sat {op : UnOp} {x : Lf} : M.sat F ν (evUn op x) (fun l => l.good ν ∧ (Op.unary op (x.conc ν ρ)).run P w = .ok (l.conc ν ρ) w) := by
  unfold evUn
  split
  · exact sat_pure (by simp [Op.unary, Op.intArith, Lf.conc])
  · exact sat_bind (sat_emit (Q := fun r => r.int ν = _) fun r h => A.int_of_den h) fun r hr => sat_pure (by simp [Op.unary, Op.intArith, Lf.conc, hr])
  · exact sat_pure (by simp [Op.unary, Op.intBits, Lf.conc, ilxor, bitsOf])
  · exact sat_bind (sat_emit (Q := fun r => r.int ν = _) fun r h => A.int_of_den h) fun r hr => sat_pure (by simp [Op.unary, Op.intBits, Lf.conc, hr, ilxor, bitsOf])
  · exact sat_bind mkNot_sat fun r hr => sat_pure (by simp [Op.unary, Lf.conc, hr])
  · exact sat_fail

theorem evConv_sat {s d : TypeId} {x : Lf} : M.sat F ν (evConv P s d x) (fun l => l.good ν ∧ (convert s d (x.conc ν ρ)).run P w = .ok (l.conc ν ρ) w) := by
  unfold evConv
  refine sat_bind (R := fun k => tk P s = some k) (sat_lift fun a h => h) fun ks hs => ?_
  refine sat_bind (R := fun k => tk P d = some k) (sat_lift fun a h => h) fun kd hd => ?_
  obtain ⟨ds, hds, _⟩ := tk_spec hs
  split
  · refine sat_pure ?_
    simp [convert, run_underlying hds, run_underlying (tk_int hd), Conv.intToInt, Lf.conc]
  · exact sat_bind (sat_emit (Q := fun r => r.int ν = _) fun r h => A.int_of_den h) fun r hr => sat_pure (by
      simp [convert, run_underlying hds, run_underlying (tk_int hd), Conv.intToInt, Lf.conc, hr])
  · exact sat_fail
end
end Go.Sx

namespace Go.Sx

theorem cellAt_eq (l : List (Option Lf)) (n : Nat) : cellAt l n = nth l n := by
  induction l generalizing n with
  | nil => cases n <;> rfl
  | cons x l ih => cases n with
    | zero => rfl
    | succ n => exact ih n

theorem nth_lt {α : Type} {l : List (Option α)} {n : Nat} {x : α} (h : nth l n = some x) : n < l.length := by
  induction l generalizing n with
  | nil => cases n <;> simp [nth] at h
  | cons y l ih => cases n with
    | zero => simp
    | succ n => simp only [nth] at h; have := ih h; simp; exact this

theorem nth_map_some {α : Type} (l : List α) (n : Nat) : nth (l.map some) n = l[n]? := by
  induction l generalizing n with
  | nil => cases n <;> rfl
  | cons y l ih => cases n with
    | zero => rfl
    | succ n => simpa [nth] using ih n

theorem nth_append {α : Type} (l l' : List (Option α)) (n : Nat) : nth (l ++ l') n = if n < l.length then nth l n else nth l' (n - l.length) := by
  induction l generalizing n with
  | nil => simp
  | cons y l ih => cases n with
    | zero => simp [nth]
    | succ n =>
      simp only [List.cons_append, nth, ih, List.length_cons]
      by_cases h : n < l.length
      · simp [h]
      · simp [h]

theorem setNth_length {α : Type} (v : α) (l : List α) (n : Nat) : (setNth v l n).length = l.length := by
  induction l generalizing n with
  | nil => cases n <;> rfl
  | cons y l ih => cases n with
    | zero => rfl
    | succ n => simp [setNth, ih]

theorem nth_setNth_same {α : Type} (v : Option α) (l : List (Option α)) (n : Nat) : nth (setNth v l n) n = if n < l.length then v else none := by
  induction l generalizing n with
  | nil => cases n <;> simp [setNth, nth]
  | cons y l ih => cases n with
    | zero => simp [setNth, nth]
    | succ n => simp [setNth, nth, ih]

theorem nth_setNth_ne {α : Type} (v : Option α) (l : List (Option α)) (n m : Nat) (h : n ≠ m) : nth (setNth v l n) m = nth l m := by
  induction l generalizing n m with
  | nil => cases n <;> rfl
  | cons y l ih => cases n with
    | zero => cases m with
      | zero => exact absurd rfl h
      | succ m => rfl
    | succ n => cases m with
      | zero => rfl
      | succ m => exact ih n m (fun e => h (by rw [e]))

theorem takeCells_spec {l : List (Option Lf)} {o n : Nat} {xs : List Lf} (h : takeCells l o n = some xs) : xs.length = n ∧ ∀ j, j < n → nth l (o + j) = xs[j]? := by
  induction l generalizing o n xs with
  | nil => cases n with
    | zero => simp [takeCells] at h; subst h; exact ⟨rfl, fun j hj => absurd hj (by omega)⟩
    | succ n => cases o <;> simp [takeCells] at h
  | cons c l ih => cases n with
    | zero => cases o <;> simp [takeCells] at h <;> (subst h; exact ⟨rfl, fun j hj => absurd hj (by omega)⟩)
    | succ n => cases o with
      | succ o =>
        simp only [takeCells] at h
        obtain ⟨h1, h2⟩ := ih h
        refine ⟨h1, fun j hj => ?_⟩
        rw [show o + 1 + j = (o + j) + 1 from by omega]
        exact h2 j hj
      | zero =>
        simp only [takeCells] at h
        cases c with
        | none => simp at h
        | some x =>
          simp only at h
          cases hr : takeCells l 0 n with
          | none => simp [hr] at h
          | some r =>
            simp only [hr, Option.some.injEq] at h
            subst h
            obtain ⟨h1, h2⟩ := ih hr
            refine ⟨by simp [h1], fun j hj => ?_⟩
            cases j with
            | zero => rfl
            | succ j =>
              rw [show 0 + (j + 1) = (0 + j) + 1 from by omega]
              exact h2 j (by omega)

theorem rowCells_spec {l : List (Option Lf)} {sz : Nat} : ∀ {n base : Nat} {xs : List Lf}, rowCells l base sz n = some xs → xs.length = n ∧ ∀ j, j < n → nth l (base + j * sz) = xs[j]?
  | 0, base, xs, h => by simp [rowCells] at h; subst h; exact ⟨rfl, fun j hj => absurd hj (by omega)⟩
  | n + 1, base, xs, h => by
    simp only [rowCells, cellAt_eq] at h
    cases hc : nth l base with
    | none => simp [hc] at h
    | some x =>
      simp only [hc] at h
      cases hr : rowCells l (base + sz) sz n with
      | none => simp [hr] at h
      | some r =>
        simp only [hr, Option.some.injEq] at h
        subst h
        obtain ⟨h1, h2⟩ := rowCells_spec hr
        refine ⟨by simp [h1], fun j hj => ?_⟩
        cases j with
        | zero => simp [hc]
        | succ j =>
          have := h2 j (by omega)
          rw [show base + (j + 1) * sz = base + sz + j * sz from by rw [Nat.add_mul]; omega]
          simpa using this

theorem asInts_spec {k : IntKind} : ∀ {l : List Lf} {xs : List A}, asInts k l = some xs → l = xs.map (Lf.i k)
  | [], xs, h => by simp [asInts] at h; subst h; rfl
  | .i k' a :: l, xs, h => by
    simp only [asInts] at h
    split at h
    · rename_i hk
      have := kEq_eq hk; subst this
      cases hr : asInts k l with
      | none => simp [hr] at h
      | some r => simp only [hr, Option.some.injEq] at h; subst h; rw [asInts_spec hr]; rfl
    · simp at h
  | .b _ :: _, xs, h => by simp [asInts] at h
  | .p _ _ :: _, xs, h => by simp [asInts] at h
  | .gp _ _ :: _, xs, h => by simp [asInts] at h
  | .nilp :: _, xs, h => by simp [asInts] at h
  | .vec _ :: _, xs, h => by simp [asInts] at h
  | .fnp _ _ :: _, xs, h => by simp [asInts] at h
  | .v _ :: _, xs, h => by simp [asInts] at h
theorem asBools_spec : ∀ {l : List Lf} {xs : List A}, asBools l = some xs → l = xs.map Lf.b
  | [], xs, h => by simp [asBools] at h; subst h; rfl
  | .b a :: l, xs, h => by
    simp only [asBools] at h
    cases hr : asBools l with
    | none => simp [hr] at h
    | some r => simp only [hr, Option.some.injEq] at h; subst h; rw [asBools_spec hr]; rfl
  | .i _ _ :: _, xs, h => by simp [asBools] at h
  | .p _ _ :: _, xs, h => by simp [asBools] at h
  | .gp _ _ :: _, xs, h => by simp [asBools] at h
  | .nilp :: _, xs, h => by simp [asBools] at h
  | .vec _ :: _, xs, h => by simp [asBools] at h
  | .fnp _ _ :: _, xs, h => by simp [asBools] at h
  | .v _ :: _, xs, h => by simp [asBools] at h

section
variable {P : Program} {F : FEnv} {ν : Nat → DV} {ρ : Nat → Loc} {w : World}

theorem tsize_spec {t : TypeId} {n : Nat} (h : tsize P t = some n) : ∃ i, P.info? t = some i ∧ i.size = n := by
  unfold tsize at h
  cases hi : P.info? t with
  | none => simp [hi] at h
  | some i => simp [hi] at h; exact ⟨i, rfl, h⟩
theorem run_size {t : TypeId} {n : Nat} (h : tsize P t = some n) (w : World) : (sizeOf t).run P w = .ok n w := by
  obtain ⟨i, hi, hn⟩ := tsize_spec h
  simp [sizeOf, typeInfo, hi, hn]
theorem run_isAgg {t : TypeId} {k : TK} (h : tk P t = some k) (w : World) : (isAgg t).run P w = .ok (isAggT k) w := by
  obtain ⟨d, hd, hk⟩ := tk_spec h
  unfold isAgg
  rw [Sem.run_bind, run_underlying hd w]
  subst hk
  cases d <;> simp [tkOf, isAggT]

theorem selLeaf_sat {l : List Lf} {ix : A} {len : Nat} (hl : l.length = len) (h0 : 0 ≤ ix.int ν) (h1 : ix.int ν < len) :
    M.sat F ν (selLeaf l ix) (fun x => x.good ν ∧ ∀ ρ, ∃ y, l[(ix.int ν).toNat]? = some y ∧ x.conc ν ρ = y.conc ν ρ) := by
  have hlt : (ix.int ν).toNat < l.length := by omega
  unfold selLeaf
  split
  · rename_i k a tl
    generalize hL : Lf.i k a :: tl = L at *
    refine sat_bind (sat_lift (Q := fun xs => L = xs.map (Lf.i k)) fun xs h => asInts_spec h) fun xs hxs => ?_
    refine sat_bind (sat_emit (Q := fun r => r.int ν = _) fun r h => A.int_of_den h) fun r hr => sat_pure ⟨trivial, fun ρ => ?_⟩
    rw [hxs] at hlt ⊢
    simp at hlt
    refine ⟨_, List.getElem?_eq_getElem (by simpa using hlt), ?_⟩
    simp [Lf.conc, hr, List.getD, hlt]
  · rename_i a tl
    generalize hL : Lf.b a :: tl = L at *
    refine sat_bind (sat_lift (Q := fun xs => L = xs.map Lf.b) fun xs h => asBools_spec h) fun xs hxs => ?_
    refine sat_bind (sat_emit (Q := fun r => r.bool ν = _) fun r h => A.bool_of_den h) fun r hr => sat_pure ⟨trivial, fun ρ => ?_⟩
    rw [hxs] at hlt ⊢
    simp at hlt
    refine ⟨_, List.getElem?_eq_getElem (by simpa using hlt), ?_⟩
    simp [Lf.conc, hr, List.getD, hlt]
  · exact sat_fail

theorem selAgg_sat {l : List (Option Lf)} {sz len : Nat} {ix : A} (h0 : 0 ≤ ix.int ν) (h1 : ix.int ν < len) : ∀ (n base : Nat),
    M.sat F ν (selAgg l base sz len ix n) (fun xs => xs.length = n ∧ (∀ x ∈ xs, x.good ν) ∧ ∀ ρ j, j < n → ∃ x y, xs[j]? = some x ∧ nth l (base + j + (ix.int ν).toNat * sz) = some y ∧ x.conc ν ρ = y.conc ν ρ)
  | 0, base => sat_pure ⟨rfl, by simp, fun ρ j hj => absurd hj (by omega)⟩
  | n + 1, base => by
    unfold selAgg
    refine sat_bind (sat_lift (Q := fun row => rowCells l base sz len = some row) fun a h => h) fun row hrow => ?_
    obtain ⟨hlen, hget⟩ := rowCells_spec hrow
    refine sat_bind (selLeaf_sat hlen h0 h1) fun x hx => ?_
    refine sat_bind (selAgg_sat h0 h1 n (base + 1)) fun r hr => sat_pure ?_
    obtain ⟨hr1, hr2, hr3⟩ := hr
    refine ⟨by simp [hr1], ?_, fun ρ j hj => ?_⟩
    · intro y hy
      rcases List.mem_cons.1 hy with rfl | h
      · exact hx.1
      · exact hr2 y h
    · cases j with
      | zero =>
        obtain ⟨y, hy, he⟩ := hx.2 ρ
        refine ⟨x, y, rfl, ?_, he⟩
        rw [Nat.add_zero, hget _ (by omega)]
        exact hy
      | succ j =>
        obtain ⟨x', y', h1', h2', h3'⟩ := hr3 ρ j (by omega)
        refine ⟨x', y', by simpa using h1', ?_, h3'⟩
        rw [show base + (j + 1) = base + 1 + j from by omega]
        exact h2'

theorem extract_take {l : List Lf} {off sz : Nat} {xs : List Lf} (h : takeCells (l.map some) off sz = some xs) (f : Lf → Value) :
    (l.map f).toArray.extract off (off + sz) = (xs.map f).toArray := by
  obtain ⟨h1, h2⟩ := takeCells_spec h
  have hle : off + sz ≤ l.length ∨ sz = 0 := by
    cases sz with
    | zero => exact .inr rfl
    | succ n =>
      left
      have hx := h2 n (by omega)
      have hxs : xs[n]? = some xs[n] := List.getElem?_eq_getElem (by omega)
      rw [hxs] at hx
      have := nth_lt hx
      simp at this
      omega
  apply Array.ext'
  rw [Array.toList_extract, List.extract_eq_take_drop]
  apply List.ext_getElem?
  intro j
  rw [List.getElem?_take]
  by_cases hj : j < sz
  · have hx := h2 j hj
    rw [nth_map_some] at hx
    rw [if_pos (by omega), List.getElem?_drop]
    simp [hx]
  · rw [if_neg (by omega)]
    simp only [List.getElem?_map]
    rw [List.getElem?_eq_none (by omega)]
    rfl

theorem mem_of_take {l : List Lf} {off sz : Nat} {xs : List Lf} (h : takeCells (l.map some) off sz = some xs) {x : Lf} (hx : x ∈ xs) : x ∈ l := by
  obtain ⟨h1, h2⟩ := takeCells_spec h
  obtain ⟨j, hj, rfl⟩ := List.mem_iff_getElem.1 hx
  have := h2 j (by omega)
  rw [nth_map_some, List.getElem?_eq_getElem hj] at this
  exact List.mem_of_getElem? this

theorem partOf_sat {t : TypeId} {cs : List Lf} {off : Nat} (hg : ∀ x ∈ cs, Lf.good ν x) :
    M.sat F ν (partOf P t cs off) (fun v => v.good ν ∧ ∀ ρ w, (part t (cs.map (Lf.conc ν ρ)).toArray off).run P w = .ok (v.conc ν ρ) w) := by
  unfold partOf
  refine sat_bind (sat_lift (Q := fun k => tk P t = some k) fun a h => h) fun k hk => ?_
  refine sat_bind (sat_lift (Q := fun k => tsize P t = some k) fun a h => h) fun sz hs => ?_
  refine sat_ite (fun ha => ?_) (fun ha => ?_)
  · refine sat_bind (sat_lift (Q := fun xs => takeCells (cs.map some) off sz = some xs) fun a h => h) fun xs hxs => sat_pure ⟨?_, fun ρ w => ?_⟩
    · exact V1.good_agg.2 fun x hx => hg x (mem_of_take hxs hx)
    · have hex := extract_take hxs (Lf.conc ν ρ)
      simp only [part, Sem.run_bind, run_isAgg hk, ha, Result.andThen_ok, if_true, run_size hs, Sem.run_pure, V1.conc, hex]
  · refine sat_bind (sat_lift (Q := fun x => cellAt (cs.map some) off = some x) fun a h => h) fun x hx => ?_
    rw [cellAt_eq, nth_map_some] at hx
    refine sat_pure ⟨V1.good_one.2 (hg x (List.mem_of_getElem? hx)), fun ρ w => ?_⟩
    simp [part, run_isAgg hk, ha, hx, V1.conc]

def EqRel (P : Program) (ν : Nat → DV) (d : Nat) (eq : TypeId → V1 → V1 → M A) (F : FEnv) : Prop :=
  ∀ t x y, x.good ν → y.good ν → M.sat F ν (eq t x y) (fun a => ∀ ρ m w, (Op.equalIn (m + d) t (x.conc ν ρ) (y.conc ν ρ)).run P w = .ok (a.bool ν) w)

theorem evEqRow_sat {d : Nat} {eq : TypeId → V1 → V1 → M A} (heq : EqRel P ν d eq F) {elem : TypeId} {sz : Nat} {xs ys : List Lf} (hx : ∀ x ∈ xs, Lf.good ν x) (hy : ∀ x ∈ ys, Lf.good ν x) :
    ∀ (n i : Nat), M.sat F ν (evEqRow P eq elem sz xs ys i n) (fun a => ∀ ρ m w, (Op.eqItems (m + d) elem sz (xs.map (Lf.conc ν ρ)).toArray (ys.map (Lf.conc ν ρ)).toArray (List.range' i n)).run P w = .ok (a.bool ν) w)
  | 0, i => sat_pure (by intro ρ m w; simp [Op.eqItems])
  | n + 1, i => by
    unfold evEqRow
    refine sat_bind (partOf_sat hx) fun a ha => ?_
    refine sat_bind (partOf_sat hy) fun b hb => ?_
    refine sat_bind (heq elem a b ha.1 hb.1) fun e he => ?_
    refine sat_bind (evEqRow_sat heq hx hy n (i + 1)) fun r hr => ?_
    refine sat_mono mkAnd_sat fun q hq ρ m w => ?_
    rw [List.range'_succ]
    simp only [Op.eqItems, Sem.run_bind, ha.2 ρ w, hb.2 ρ w, Result.andThen_ok, he ρ m w, hq]
    cases h : e.bool ν
    · simp
    · simpa using hr ρ m w

theorem evEqFields_sat {d : Nat} {eq : TypeId → V1 → V1 → M A} (heq : EqRel P ν d eq F) {xs ys : List Lf} (hx : ∀ x ∈ xs, Lf.good ν x) (hy : ∀ x ∈ ys, Lf.good ν x) :
    ∀ (fs : List Field), (∀ f ∈ fs, f.name ≠ "_") → M.sat F ν (evEqFields P eq xs ys (fs.map fun f => (f.offset, f.type))) (fun a => ∀ ρ m w, (Op.eqFields (m + d) (xs.map (Lf.conc ν ρ)).toArray (ys.map (Lf.conc ν ρ)).toArray fs).run P w = .ok (a.bool ν) w)
  | [], _ => sat_pure (by intro ρ m w; simp [Op.eqFields])
  | f :: fs, hn => by
    simp only [List.map_cons]
    unfold evEqFields
    refine sat_bind (partOf_sat hx) fun a ha => ?_
    refine sat_bind (partOf_sat hy) fun b hb => ?_
    refine sat_bind (heq f.type a b ha.1 hb.1) fun e he => ?_
    refine sat_bind (evEqFields_sat heq hx hy fs (fun g hg => hn g (List.mem_cons_of_mem _ hg))) fun r hr => ?_
    refine sat_mono mkAnd_sat fun q hq ρ m w => ?_
    have hne : f.name ≠ "_" := hn f (by simp)
    simp only [Op.eqFields, hne, ne_eq, not_false_eq_true, if_true, Sem.run_bind, ha.2 ρ w, hb.2 ρ w, Result.andThen_ok, he ρ m w, hq]
    cases h : e.bool ν
    · simp
    · simpa using hr ρ m w

theorem evEq_sat : ∀ (d : Nat), EqRel P ν d (evEq P d) F
  | 0 => fun t x y _ _ => sat_fail
  | d + 1 => fun t x y hgx hgy => by
    unfold evEq
    refine sat_bind (sat_lift (Q := fun k => tk P t = some k) fun a h => h) fun k hk => ?_
    split
    · rename_i ki ka a kb b
      refine sat_ite (fun hkk => ?_) (fun _ => sat_fail)
      have := kEq_eq hkk; subst this
      have hu := tk_int hk
      split
      · exact sat_pure fun ρ m w => by simp [V1.conc, Lf.conc, ← Nat.add_assoc, run_equalIn_int w _ t _ _ _ _ hu]
      · exact sat_emit fun r h ρ m w => by rw [A.bool_of_den h]; simp [V1.conc, Lf.conc, ← Nat.add_assoc, run_equalIn_int w _ t _ _ _ _ hu]
    · have hu := tk_bool hk
      split
      · exact sat_pure fun ρ m w => by simp [V1.conc, Lf.conc, ← Nat.add_assoc, run_equalIn_bool' w _ t _ _ hu]
      · exact sat_emit fun r h ρ m w => by rw [A.bool_of_den h]; simp [V1.conc, Lf.conc, ← Nat.add_assoc, run_equalIn_bool' w _ t _ _ hu]
    · rename_i len elem xs ys
      have hu := tk_arr hk
      refine sat_bind (sat_lift (Q := fun k => tsize P elem = some k) fun a h => h) fun sz hs => ?_
      obtain ⟨i, hi, hn⟩ := tsize_spec hs
      refine sat_mono (evEqRow_sat (evEq_sat d) (V1.good_agg.1 hgx) (V1.good_agg.1 hgy) len 0) fun a ha ρ m w => ?_
      have hc : P.cellsOf elem = sz := by simp [Program.cellsOf, hi, hn]
      simp only [V1.conc]
      rw [← Nat.add_assoc, run_equalIn_array w (m + d) _ _ hu hi, hc, List.range_eq_range']
      exact ha ρ m w
    · rename_i fs xs ys
      obtain ⟨fl, hu, hfs⟩ := tk_struct hk
      have hfo : P.fieldsOf t = fl := by simp [Program.fieldsOf, hu]
      refine sat_ite (fun _ => sat_fail) (fun hst => ?_)
      refine sat_ite (fun hnm => ?_) (fun _ => sat_fail)
      subst hfs
      rw [hfo] at hnm
      refine sat_mono (evEqFields_sat (evEq_sat d) (V1.good_agg.1 hgx) (V1.good_agg.1 hgy) fl.toList (by
        intro f hf
        have := List.all_eq_true.1 hnm f hf
        simpa using this)) fun a ha ρ m w => ?_
      simp only [V1.conc]
      rw [← Nat.add_assoc, run_equalIn_struct w (m + d) t _ _ (by rw [hfo]; exact hu) (by simpa using hst), hfo]
      exact ha ρ m w
    · exact sat_fail

end
end Go.Sx

