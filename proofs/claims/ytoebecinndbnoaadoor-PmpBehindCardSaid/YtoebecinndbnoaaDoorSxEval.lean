/- The evaluator: operations, regions, code, a whole function. Definitions alone. -/
import Derived.Test.YtoebecinndbnoaaDoorSxDefs
namespace Go.Sx

/-- A value that stands in a slot where a guard holds: slot t, where slot d is the bool want. -/
structure GE where
  t : Nat
  v : V
  d : Nat
  want : Bool

structure RS where
  st : St
  gl : List GE

def nth {α : Type} : List (Option α) → Nat → Option α
  | [], _ => none
  | x :: _, 0 => x
  | _ :: l, n + 1 => nth l n

def setNth {α : Type} (v : α) : List α → Nat → List α
  | [], _ => []
  | _ :: l, 0 => v :: l
  | x :: l, n + 1 => x :: setNth v l n

def beqB : Bool → Bool → Bool
  | true, b => b
  | false, b => !b

abbrev Ctx := List (Nat × Bool)
def Ctx.has : Ctx → Nat → Bool → Bool
  | [], _, _ => false
  | (d, w) :: r, d', w' => (Nat.beq d d' && beqB w w') || Ctx.has r d' w'

def glFind (ctx : Ctx) (t : Nat) : List GE → Option V
  | [] => none
  | e :: r => if Nat.beq e.t t && ctx.has e.d e.want then some e.v else glFind ctx t r

def RS.slot (r : RS) (ctx : Ctx) (t : Nat) : Option V :=
  match nth r.st.sl t with
  | some v => some v
  | none => glFind ctx t r.gl

def rd (r : RS) (ctx : Ctx) : Operand → Option V
  | .tmp t => r.slot ctx t
  | .const v => (ofConst v).map .s
  | .func f => some (.s (.one (.v (.func (.func f) #[] #[]))))
  | .global g => some (.s (.one (.gp g (.c 0))))

/-- What the guards say: where they hold (ctx), and by which bools; none: never. -/
def glEntry (t : Nat) : List GE → Option GE
  | [] => none
  | e :: r => if Nat.beq e.t t then some e else glEntry t r

def guardInfo (r : RS) : Nat → Nat → Bool → Option (Option (Ctx × List (A × Bool)))
  | 0, _, _ => none
  | n + 1, d, want =>
    match nth r.st.sl d with
    | some (.s (.one (.b (.t x)))) => if beqB x want then some (some ([], [])) else some none
    | some (.s (.one (.b a))) => some (some ([(d, want)], [(a, want)]))
    | some _ => none
    | none =>
      match glEntry d r.gl with
      | some e =>
        match e.v with
        | .s (.one (.b a)) =>
          match guardInfo r n e.d e.want with
          | some (some (ctx, cs)) =>
            match a with
            | .t x => if beqB x want then some (some ((d, want) :: ctx, cs)) else some none
            | a => some (some ((d, want) :: ctx, (a, want) :: cs))
          | some none => some none
          | none => none
        | _ => none
      | none => none

def underAll {α : Type} : List (A × Bool) → M α → M α
  | [], x => x
  | (c, b) :: r, x => under c b (underAll r x)

/-- What an operation comes to. -/
inductive OR where
  | val (v : V)
  | new (cs : List Lf)
  | upd (b : Nat) (cs : List (Option Lf))

def boundsOk (ix : A) (len : Nat) : M Unit := do
  owe (← emit (.geq ix (.z 0)))
  owe (← emit (.lss ix (.z len)))

/-- A part of an aggregate's cells. -/
def partOf (P : Program) (t : TypeId) (cs : List Lf) (off : Nat) : M V1 := do
  let k ← M.lift (tk P t)
  let sz ← M.lift (tsize P t)
  if isAggT k then
    pure (.agg (← M.lift (takeCells (cs.map some) off sz)))
  else pure (.one (← M.lift (cellAt (cs.map some) off)))

def evEqRow (P : Program) (eq : TypeId → V1 → V1 → M A) (elem : TypeId) (sz : Nat) (xs ys : List Lf) (i : Nat) : Nat → M A
  | 0 => pure (.t true)
  | n + 1 => do
    let a ← partOf P elem xs (i * sz)
    let b ← partOf P elem ys (i * sz)
    let e ← eq elem a b
    let r ← evEqRow P eq elem sz xs ys (i + 1) n
    mkAnd e r
def evEqFields (P : Program) (eq : TypeId → V1 → V1 → M A) (xs ys : List Lf) : List (Nat × Nat) → M A
  | [] => pure (.t true)
  | f :: fs => do
    let a ← partOf P f.2 xs f.1
    let b ← partOf P f.2 ys f.1
    let e ← eq f.2 a b
    let r ← evEqFields P eq xs ys fs
    mkAnd e r

/-- '==' as the model has it: by the type. -/
def evEq (P : Program) : Nat → TypeId → V1 → V1 → M A
  | 0, _, _, _ => M.fail
  | d + 1, t, x, y => do
    let k ← M.lift (tk P t)
    match k, x, y with
    | .int _, .one (.i ka a), .one (.i kb b) =>
      if kEq ka kb then
        match a, b with
        | .z m, .z n => pure (.t (m == n))
        | a, b => emit (.eql a b)
      else M.fail
    | .bool, .one (.b a), .one (.b b) =>
      match a, b with
      | .t m, .t n => pure (.t (m == n))
      | a, b => emit (.beq a b)
    | .arr len elem, .agg xs, .agg ys => do
      let sz ← M.lift (tsize P elem)
      evEqRow P (evEq P d) elem sz xs ys 0 len
    | .struct fs, .agg xs, .agg ys =>
      if P.stoodInHeld t then M.fail
      else if (P.fieldsOf t).toList.all (fun f => f.name != "_") then evEqFields P (evEq P d) xs ys fs else M.fail
    | _, _, _ => M.fail

def V.one? : V → Option Lf
  | .s (.one l) => some l
  | _ => none

def mergeOrFail (c : A) (x y : V) : M V := do
  match ← mergeV c x y with
  | some v => pure v
  | none => M.fail

def evBinV (P : Program) (op : BinOp) (t : TypeId) (x y : V) : M V :=
  match op, x, y with
  | .shl, .s (.one (.i k a)), .s (.one (.i _ b)) => do pure (.s (.one (← evShift .shl k a b)))
  | .shr, .s (.one (.i k a)), .s (.one (.i _ b)) => do pure (.s (.one (← evShift .shr k a b)))
  | op, .s (.one (.i k a)), .s (.one (.i k' b)) => if kEq k k' then do pure (.s (.one (← evBin op k a b))) else M.fail
  | .eql, .s (.one (.b a)), .s (.one (.b b)) => do
    match ← M.lift (tk P t) with
    | .bool => pure (.s (.one (← evBoolOp .eql a b)))
    | _ => M.fail
  | .neq, .s (.one (.b a)), .s (.one (.b b)) => do
    match ← M.lift (tk P t) with
    | .bool => pure (.s (.one (← evBoolOp .neq a b)))
    | _ => M.fail
  | .eql, .s (.agg a), .s (.agg b) =>
    if P.eqGuardType P.depth t then M.fail else do pure (.s (.one (.b (← evEq P 8 t (.agg a) (.agg b)))))
  | .neq, .s (.agg a), .s (.agg b) =>
    if P.eqGuardType P.depth t then M.fail else do pure (.s (.one (.b (← mkNot (← evEq P 8 t (.agg a) (.agg b))))))
  | _, _, _ => M.fail

def evUn (op : UnOp) (x : Lf) : M Lf :=
  match op, x with
  | .neg, .i k (.z n) => pure (.i k (.z (k.wrap (0 - n))))
  | .neg, .i k a => do pure (.i k (← emit (.sub k (.z 0) a)))
  | .xor, .i k (.z n) => pure (.i k (.z (ilxor k (if k.signed then -1 else k.max) n)))
  | .xor, .i k a => do pure (.i k (← emit (.lxor k (.z (if k.signed then -1 else k.max)) a)))
  | .not, .b a => do pure (.b (← mkNot a))
  | _, _ => M.fail

def evConv (P : Program) (src dst : TypeId) (x : Lf) : M Lf := do
  let _ ← M.lift (tk P src)
  match ← M.lift (tk P dst), x with
  | .int k, .i _ (.z n) => pure (.i k (.z (k.wrap n)))
  | .int k, .i _ a => do pure (.i k (← emit (.conv k a)))
  | _, _ => M.fail

def evIndexAddr (P : Program) (t : TypeId) (x ix : Lf) : M Lf := do
  match ← M.lift (tk P t), x, ix with
  | .arr len elem, .p blk off, .i _ a => do
    let sz ← M.lift (tsize P elem)
    match a with
    | .z n =>
      if 0 ≤ n ∧ n < len then pure (.p blk (off.plus (n.toNat * sz))) else M.fail
    | a =>
      match off with
      | .c o => do
        boundsOk a len
        pure (.p blk (.s o a sz len))
      | _ => M.fail
  | .arr len elem, .gp g off, .i _ a => do
    let sz ← M.lift (tsize P elem)
    match a with
    | .z n =>
      if 0 ≤ n ∧ n < len then pure (.gp g (off.plus (n.toNat * sz))) else M.fail
    | a =>
      match off with
      | .c o => do
        boundsOk a len
        pure (.gp g (.s o a sz len))
      | _ => M.fail
  | _, _, _ => M.fail

def evIndex (P : Program) (t : TypeId) (x : List Lf) (ix : Lf) : M V1 := do
  match ← M.lift (tk P t), ix with
  | .arr len elem, .i _ a => do
    let k ← M.lift (tk P elem)
    let sz ← M.lift (tsize P elem)
    match a with
    | .z n =>
      if 0 ≤ n ∧ n < len then partOf P elem x (n.toNat * sz) else M.fail
    | a => do
      boundsOk a len
      if isAggT k then pure (.agg (← selAgg (x.map some) 0 sz len a sz))
      else do
        let row ← M.lift (rowCells (x.map some) 0 sz len)
        pure (.one (← selLeaf row a))
  | _, _ => M.fail

def evField (P : Program) (t : TypeId) (x : List Lf) (f : Nat) : M V1 := do
  match ← M.lift (tk P t) with
  | .struct fs => do
    let fd ← M.lift fs[f]?
    partOf P fd.2 x fd.1
  | _ => M.fail

def evFieldAddr (P : Program) (t : TypeId) (x : Lf) (f : Nat) : M Lf := do
  match ← M.lift (tk P t), x with
  | .struct fs, .p blk off => do
    let fd ← M.lift fs[f]?
    let sz ← M.lift (tsize P fd.2)
    if Nat.beq sz 0 then M.fail else pure (.p blk (off.plus fd.1))
  | .struct fs, .gp g off => do
    let fd ← M.lift fs[f]?
    let sz ← M.lift (tsize P fd.2)
    if Nat.beq sz 0 then M.fail else pure (.gp g (off.plus fd.1))
  | _, _ => M.fail

def rdAll (r : RS) (ctx : Ctx) : List Operand → Option (List V)
  | [] => some []
  | x :: xs =>
    match rd r ctx x with
    | none => none
    | some v =>
      match rdAll r ctx xs with
      | none => none
      | some vs => some (v :: vs)

def rdParts (r : RS) (ctx : Ctx) : List (Nat × Operand) → Option (List (Nat × V1))
  | [] => some []
  | x :: xs =>
    match rd r ctx x.2 with
    | some (.s v) =>
      match rdParts r ctx xs with
      | none => none
      | some vs => some ((x.1, v) :: vs)
    | _ => none

/-- Cells from number o on, laid over. -/
def overwrite : List Lf → Nat → List Lf → List Lf
  | cs, _, [] => cs
  | cs, o, c :: l => overwrite (cs.set o c) (o + 1) l
def fillC (place : Nat → Option (Nat × Nat)) : List Lf → List (Nat × V1) → Option (List Lf)
  | cs, [] => some cs
  | cs, p :: rest =>
    match place p.1 with
    | none => none
    | some (o, sz) => if Nat.beq p.2.cells.length sz && Nat.ble (o + p.2.cells.length) cs.length && p.2.cells.all Lf.ok then fillC place (overwrite cs o p.2.cells) rest else none
def evBuild (P : Program) (t : TypeId) (parts : List (Nat × V1)) : Option (List Lf) :=
  match zeroCells P t with
  | none => none
  | some z =>
    match tk P t with
    | some (.struct fs) =>
      match allSome (fun f : Nat × TypeId => (tsize P f.2).map fun n => (f.1, n)) fs with
      | none => none
      | some places => fillC (fun i => places[i]?) z parts
    | some (.arr _ elem) =>
      match tsize P elem with
      | none => none
      | some sz => fillC (fun i => some (i * sz, sz)) z parts
    | _ => none

def evCall (P : Program) (S : Sigs) (f : FuncId) (vs : List V) : M V := do
  let sg ← M.lift (S.get f)
  if calleeOk P f then do
    let as ← M.lift (shArgs sg.ps vs)
    if sg.need then do
      owe (← emit (.call f as 0))
      pure (wrapResults (← callShapes f as 1 sg.rs))
    else pure (wrapResults (← callShapes f as 0 sg.rs))
  else M.fail

def evPick (r : RS) (ctx : Ctx) (c a b : Operand) : M V := do
  match rd r ctx c with
  | some (.s (.one (.b (.t true)))) => M.lift (rd r ctx a)
  | some (.s (.one (.b (.t false)))) => M.lift (rd r ctx b)
  | some (.s (.one (.b x))) => do
    let (ca, cb) := match c with
      | .tmp t => ((t, true) :: ctx, (t, false) :: ctx)
      | _ => (ctx, ctx)
    let va ← M.lift (rd r ca a)
    let vb ← M.lift (rd r cb b)
    mergeOrFail x va vb
  | _ => M.fail

def evOp (P : Program) (S : Sigs) (r : RS) (ctx : Ctx) (op : Op) : M OR :=
  match op with
  | .move x => do pure (.val (← M.lift (rd r ctx x)))
  | .assign x => do pure (.val (← M.lift (rd r ctx x)))
  | .pick c a b => do pure (.val (← evPick r ctx c a b))
  | .build t parts => do
    let ps ← M.lift (rdParts r ctx parts.toList)
    pure (.val (.s (.agg (← M.lift (evBuild P t ps)))))
  | .alloc t => do pure (.new (← M.lift (zeroCells P t)))
  | .box _ x => do
    match ← M.lift (rd r ctx x) with
    | .s v => if v.cells.all Lf.ok then pure (.new v.cells) else M.fail
    | _ => M.fail
  | .load t x => do
    match ← M.lift (rd r ctx x) with
    | .s (.one (.p b off)) => do
      let k ← M.lift (tk P t)
      let sz ← M.lift (tsize P t)
      let bk ← M.lift (nth r.st.hp b)
      pure (.val (.s (← loadAt bk off (isAggT k) sz)))
    | .s (.one (.gp g off)) => do
      let k ← M.lift (tk P t)
      let sz ← M.lift (tsize P t)
      let cs ← M.lift (assoc S.gs g)
      let v ← loadAt ⟨false, cs.map some⟩ off (isAggT k) sz
      if v.cells.all Lf.scalar then pure (.val (.s v)) else M.fail
    | _ => M.fail
  | .store t x y => do
    match ← M.lift (rd r ctx x), ← M.lift (rd r ctx y) with
    | .s (.one (.p b off)), .s v => do
      let sz ← M.lift (tsize P t)
      let bk ← M.lift (nth r.st.hp b)
      if bk.own && Nat.beq v.cells.length sz && v.cells.all Lf.ok then do
        pure (.upd b (← storeCellsAt bk.cs off v.cells))
      else M.fail
    | _, _ => M.fail
  | .nilCheck x => do
    match ← M.lift (rd r ctx x) with
    | .s (.one (.p b off)) => pure (.val (.s (.one (.p b off))))
    | _ => M.fail
  | .binOp op t x y _ => do pure (.val (← evBinV P op t (← M.lift (rd r ctx x)) (← M.lift (rd r ctx y))))
  | .unOp op _ x => do
    match ← M.lift (rd r ctx x) with
    | .s (.one l) => pure (.val (.s (.one (← evUn op l))))
    | _ => M.fail
  | .convert a b x => do
    match ← M.lift (rd r ctx x) with
    | .s (.one l) => pure (.val (.s (.one (← evConv P a b l))))
    | _ => M.fail
  | .fieldAddr t x f => do
    match ← M.lift (rd r ctx x) with
    | .s (.one l) => pure (.val (.s (.one (← evFieldAddr P t l f))))
    | _ => M.fail
  | .field t x f => do
    match ← M.lift (rd r ctx x) with
    | .s (.agg l) => pure (.val (.s (← evField P t l f)))
    | _ => M.fail
  | .indexAddr t x ix => do
    match ← M.lift (rd r ctx x), ← M.lift (rd r ctx ix) with
    | .s (.one l), .s (.one i) => pure (.val (.s (.one (← evIndexAddr P t l i))))
    | _, _ => M.fail
  | .index t x ix => do
    match ← M.lift (rd r ctx x), ← M.lift (rd r ctx ix) with
    | .s (.agg l), .s (.one i) => pure (.val (.s (← evIndex P t l i)))
    | _, _ => M.fail
  | .extract x n => do
    match ← M.lift (rd r ctx x) with
    | .t l => pure (.val (.s (← M.lift l[n]?)))
    | _ => M.fail
  | .call c =>
    match c.callee with
    | .value (.func f) => do
      let vs ← M.lift (rdAll r ctx c.args.toList)
      pure (.val (← evCall P S f vs))
    | _ => M.fail
  | _ => M.fail

/-! ### One operation behind the other -/
def glNoGuard (d : Nat) (l : List GE) : Bool := l.all fun e => !Nat.beq e.d d
def glDrop (t : Nat) (l : List GE) : List GE := l.filter fun e => !Nat.beq e.t t

/-- Slot dst turns to v (none: nothing is known of it any more). -/
def RS.put (r : RS) (dst : Option Tmp) (v : Option V) : M RS :=
  match dst with
  | none => pure r
  | some d => if glNoGuard d r.gl then pure ⟨⟨setNth v r.st.sl d, r.st.hp⟩, glDrop d r.gl⟩ else M.fail

def RS.putG (r : RS) (dst : Option Tmp) (v : V) (d : Nat) (want : Bool) : M RS :=
  match dst with
  | none => pure r
  | some t =>
    if glNoGuard t r.gl && !Nat.beq t d && decide (t < r.st.sl.length) then pure ⟨⟨setNth none r.st.sl t, r.st.hp⟩, ⟨t, v, d, want⟩ :: glDrop t r.gl⟩ else M.fail

def optAll {α : Type} (p : α → Bool) : Option α → Bool
  | some x => p x
  | none => true
def Blk.lt (n : Nat) (b : Blk) : Bool := b.cs.all (optAll (Lf.lt n))
def St.lt (s : St) (n : Nat) : Bool := s.sl.all (optAll (V.lt n)) && s.hp.all (optAll (Blk.lt n))

/-- q: values alone (in a region whose order is drawn). -/
def stepOR (q : Bool) (r : RS) (dst : Option Tmp) (x : OR) : M RS :=
  match x with
  | .val v => r.put dst (some v)
  | .new cs =>
    if !q && (r.st.lt r.st.hp.length && r.gl.all (fun e => e.v.lt r.st.hp.length)) && (cs.all (Lf.lt r.st.hp.length)) then
      RS.put ⟨⟨r.st.sl, r.st.hp ++ [some ⟨true, cs.map some⟩]⟩, r.gl⟩ dst (some (.s (.one (.p r.st.hp.length (.c 0)))))
    else M.fail
  | .upd b cs => if q then M.fail else RS.put ⟨⟨r.st.sl, setNth (some ⟨true, cs⟩) r.st.hp b⟩, r.gl⟩ dst none

def stepORg (r : RS) (dst : Option Tmp) (d : Nat) (want : Bool) (x : OR) : M RS :=
  match x with
  | .val v => r.putG dst v d want
  | _ => M.fail

def evOper (P : Program) (S : Sigs) (q : Bool) (ops : List Oper) (r : RS) (o : Oper) : M RS :=
  match o.guard with
  | none => do
    let x ← evOp P S r [] o.op
    stepOR q r o.dst x
  | some (j, want) => do
    let d ← M.lift ((ops[j]?).bind (·.dst))
    match ← M.lift (guardInfo r 8 d want) with
    | none => r.put o.dst none
    | some (ctx, cs) =>
      match ctx with
      | [] => do
        let x ← evOp P S r [] o.op
        stepOR q r o.dst x
      | _ => do
        let x ← underAll cs (evOp P S r ctx o.op)
        stepORg r o.dst d want x

def evOpers (P : Program) (S : Sigs) (q : Bool) (ops : List Oper) : List Oper → RS → M RS
  | [], r => pure r
  | o :: l, r => do
    let r1 ← evOper P S q ops r o
    evOpers P S q ops l r1

/-- Does this operation leave all blocks as they are? -/
def quietOp : Op → Bool
  | .alloc _ | .box _ _ | .store _ _ _ => false
  | _ => true

def waitsAll (o : Oper) (n : Nat) : Bool := (List.range n).all fun i => o.after.any fun e => Region.binds .any e && Nat.beq e.on i
def backB (ops : List Oper) : Bool := ops.zipIdx.all fun p => (p.1.after.all fun e => !Region.binds .any e || Nat.blt e.on p.2) &&
  (match p.1.guard with | some (j, _) => Nat.blt j p.2 | none => true)
/-- The operations from number n on come last, one behind the other. -/
def tailB (ops : List Oper) (n : Nat) : Bool := (ops.zipIdx.drop n).all fun p => waitsAll p.1 p.2

def evRegion (P : Program) (S : Sigs) (ops : Array Oper) (draw : Bool) (s : St) : M St := do
  if draw then
    let n := (ops.toList.takeWhile fun o => quietOp o.op).length
    if P.follows .mixedOrders && Region.lexB .any (ops.toList.take n).toArray && backB ops.toList && tailB ops.toList n then
      let r ← evOpers P S true (ops.toList.take n) (ops.toList.take n) ⟨s, []⟩
      let r2 ← evOpers P S false ops.toList (ops.toList.drop n) r
      pure r2.st
    else M.fail
  else do
    let r ← evOpers P S false ops.toList ops.toList ⟨s, []⟩
    pure r.st

/-! ### Ways out -/
inductive K where
  | normal
  | ret
  | exit (id : Nat)
  | goto (l : Nat)
  deriving Inhabited

inductive X where
  | done (k : K) (s : St)
  | br (c : A) (x y : X)

def K.isNormal : K → Bool
  | .normal => true
  | _ => false

def X.nCond : X → M A
  | .done k _ => pure (.t k.isNormal)
  | .br c x y => do
    let a ← x.nCond
    let b ← y.nCond
    mkIteB c a b

def X.nSt : X → M (Option St)
  | .done k s => pure (if k.isNormal then some s else none)
  | .br c x y => do
    match ← x.nSt, ← y.nSt with
    | some a, some b => do pure (some (← mergeSt c a b))
    | some a, none => pure (some a)
    | none, some b => pure (some b)
    | none, none => pure none

/-- Without the ways that end normally. -/
def X.kill : X → Option X
  | .done k s => if k.isNormal then none else some (.done k s)
  | .br c x y =>
    match x.kill, y.kill with
    | some a, some b => some (.br c a b)
    | some a, none => some a
    | none, some b => some b
    | none, none => none

def K.inBlock (id : Nat) : K → K
  | .exit i => if Nat.beq i id then .normal else .exit i
  | k => k
def X.inBlock (id : Nat) : X → X
  | .done k s => .done (k.inBlock id) s
  | .br c x y => .br c (x.inBlock id) (y.inBlock id)

def X.noGoto : X → Bool
  | .done k _ => match k with | .goto _ => false | _ => true
  | .br _ x y => x.noGoto && y.noGoto

/-- x, and f behind its normal ways. -/
def X.andThen (x : X) (f : St → M X) : M X := do
  let c ← x.nCond
  match ← x.nSt with
  | none => pure x
  | some s =>
    match x.kill with
    | none => f s
    | some z =>
      match c with
      | .t true => f s
      | c => do
        let y ← under c true (f s)
        pure (.br c y z)

/-! ### A loop as a function of its own -/
def Lfs.beq : List Lf → List Lf → Bool
  | [], [] => true
  | a :: l, b :: l' => a.beq b && Lfs.beq l l'
  | _, _ => false
def V1.beq : V1 → V1 → Bool
  | .one a, .one b => a.beq b
  | .agg a, .agg b => Lfs.beq a b
  | _, _ => false
def V1s.beq : List V1 → List V1 → Bool
  | [], [] => true
  | a :: l, b :: l' => a.beq b && V1s.beq l l'
  | _, _ => false
def V.beq : V → V → Bool
  | .s a, .s b => a.beq b
  | .t a, .t b => V1s.beq a b
  | _, _ => false

def A.below (n : Nat) : A → Bool
  | .r i => Nat.blt i n
  | _ => true
def Off.below (n : Nat) : Off → Bool
  | .c _ => true
  | .s _ ix _ _ => ix.below n
def Lf.below (n : Nat) : Lf → Bool
  | .i _ a | .b a => a.below n
  | .p _ off | .gp _ off => off.below n
  | _ => true
def V1.below (n : Nat) (v : V1) : Bool := v.cells.all (Lf.below n)
def V.below (n : Nat) : V → Bool
  | .s v => v.below n
  | .t l => l.all (V1.below n)
def Blk.below (n : Nat) (b : Blk) : Bool := b.cs.all (optAll (Lf.below n))
def St.below (n : Nat) (s : St) : Bool := s.sl.all (optAll (V.below n)) && s.hp.all (optAll (Blk.below n))

def Code.dsts : Code → List Tmp
  | .region _ ops _ => ops.toList.filterMap (·.dst)
  | .seq a b => Code.dsts a ++ Code.dsts b
  | .cond _ a b => Code.dsts a ++ Code.dsts b
  | .block _ c => Code.dsts c
  | .loop c => Code.dsts c
  | .scope c => Code.dsts c
  | _ => []

def memN (n : Nat) : List Nat → Bool
  | [] => false
  | x :: l => Nat.beq x n || memN n l

/-- Leaves that are integers and bools, numbered anew. -/
def freshLf (n : Nat) : Lf → Option Lf
  | .i k _ => some (.i k (.r n))
  | .b _ => some (.b (.r n))
  | _ => none
def freshLfs : Nat → List Lf → Option (List Lf)
  | _, [] => some []
  | n, x :: l =>
    match freshLf n x with
    | none => none
    | some y =>
      match freshLfs (n + 1) l with
      | none => none
      | some r => some (y :: r)
def freshV (n : Nat) : V → Option (V × Nat)
  | .s (.one x) => (freshLf n x).map fun y => (.s (.one y), n + 1)
  | .s (.agg l) => (freshLfs n l).map fun r => (.s (.agg r), n + l.length)
  | .t _ => none

/-- The slots that a round writes are numbered anew, or forgotten. -/
def freshSlots (D : List Nat) : Nat → Nat → List (Option V) → List (Option V) × Nat
  | _, n, [] => ([], n)
  | t, n, x :: l =>
    if memN t D then
      match x.bind (freshV n) with
      | some (y, n1) => let r := freshSlots D (t + 1) n1 l; (some y :: r.1, r.2)
      | none => let r := freshSlots D (t + 1) n l; (none :: r.1, r.2)
    else let r := freshSlots D (t + 1) n l; (x :: r.1, r.2)

def freshCells : Nat → List (Option Lf) → Option (List (Option Lf) × Nat)
  | n, [] => some ([], n)
  | n, x :: l =>
    match x.bind (freshLf n) with
    | none => none
    | some y =>
      match freshCells (n + 1) l with
      | none => none
      | some r => some (some y :: r.1, r.2)

/-- The blocks that a round writes are numbered anew, or forgotten. -/
def freshHeap (B : List Nat) : Nat → Nat → List (Option Blk) → List (Option Blk) × Nat
  | _, n, [] => ([], n)
  | j, n, x :: l =>
    if memN j B then
      match x.bind (fun b => (freshCells n b.cs).map fun r => (Blk.mk b.own r.1, r.2)) with
      | some (y, n1) => let r := freshHeap B (j + 1) n1 l; (some y :: r.1, r.2)
      | none => let r := freshHeap B (j + 1) n l; (none :: r.1, r.2)
    else let r := freshHeap B (j + 1) n l; (x :: r.1, r.2)

/-- The operand of a leaf that is of the pattern's kind. -/
def fitLf : Lf → Lf → Option A
  | .i k _, .i k' a => if kEq k k' then some a else none
  | .b _, .b a => some a
  | _, _ => none
def fitLfs : List Lf → List Lf → Option (List A)
  | [], [] => some []
  | x :: l, y :: l' =>
    match fitLf x y with
    | none => none
    | some a => (fitLfs l l').map (a :: ·)
  | _, _ => none
def fitV : V → V → Option (List A)
  | .s (.one x), .s (.one y) => (fitLf x y).map fun a => [a]
  | .s (.agg x), .s (.agg y) => fitLfs x y
  | _, _ => none
/-- Against the pattern: what goes round, in order; all else is as it was. -/
def fitSlots (D : List Nat) : Nat → List (Option V) → List (Option V) → Option (List A)
  | _, [], [] => some []
  | t, none :: l, _ :: l' => fitSlots D (t + 1) l l'
  | t, some x :: l, some y :: l' =>
    if memN t D then
      match fitV x y with
      | none => none
      | some a => (fitSlots D (t + 1) l l').map (a ++ ·)
    else if x.beq y then fitSlots D (t + 1) l l' else none
  | _, _, _ => none
def fitCells : List (Option Lf) → List (Option Lf) → Option (List A)
  | [], [] => some []
  | some x :: l, some y :: l' =>
    match fitLf x y with
    | none => none
    | some a => (fitCells l l').map (a :: ·)
  | _, _ => none
def sameCells : List (Option Lf) → List (Option Lf) → Bool
  | [], [] => true
  | none :: l, _ :: l' => sameCells l l'
  | some x :: l, some y :: l' => x.beq y && sameCells l l'
  | _, _ => false
def fitHeap (B : List Nat) : Nat → List (Option Blk) → List (Option Blk) → Option (List A)
  | _, [], _ => some []
  | j, none :: l, _ :: l' => fitHeap B (j + 1) l l'
  | j, none :: l, [] => fitHeap B (j + 1) l []
  | j, some x :: l, some y :: l' =>
    if x.own == y.own then
      if memN j B then
        match fitCells x.cs y.cs with
        | none => none
        | some a => (fitHeap B (j + 1) l l').map (a ++ ·)
      else if sameCells x.cs y.cs then fitHeap B (j + 1) l l' else none
    else none
  | _, _, _ => none
def fitSt (D B : List Nat) (x y : St) : Option (List A) :=
  match fitSlots D 0 x.sl y.sl with
  | none => none
  | some a => (fitHeap B 0 x.hp y.hp).map (a ++ ·)

/-- The pattern's leaves that go round, with other operands. -/
def fillLf (a : A) : Lf → Lf
  | .i k _ => .i k a
  | .b _ => .b a
  | x => x
def fillLfs : List A → List Lf → List Lf × List A
  | as, [] => ([], as)
  | as, x :: l => let r := fillLfs as.tail l; (fillLf (as.headD default) x :: r.1, r.2)
def fillV (as : List A) : V → V × List A
  | .s (.one x) => (.s (.one (fillLf (as.headD default) x)), as.tail)
  | .s (.agg l) => let r := fillLfs as l; (.s (.agg r.1), r.2)
  | v => (v, as)
def fillSlots (D : List Nat) : Nat → List A → List (Option V) → List (Option V) × List A
  | _, as, [] => ([], as)
  | t, as, none :: l => let r := fillSlots D (t + 1) as l; (none :: r.1, r.2)
  | t, as, some x :: l =>
    if memN t D then
      let u := fillV as x
      let r := fillSlots D (t + 1) u.2 l
      (some u.1 :: r.1, r.2)
    else let r := fillSlots D (t + 1) as l; (some x :: r.1, r.2)
def fillCells : List A → List (Option Lf) → List (Option Lf) × List A
  | as, [] => ([], as)
  | as, none :: l => let r := fillCells as l; (none :: r.1, r.2)
  | as, some x :: l => let r := fillCells as.tail l; (some (fillLf (as.headD default) x) :: r.1, r.2)
def fillHeap (B : List Nat) : Nat → List A → List (Option Blk) → List (Option Blk) × List A
  | _, as, [] => ([], as)
  | j, as, none :: l => let r := fillHeap B (j + 1) as l; (none :: r.1, r.2)
  | j, as, some x :: l =>
    if memN j B then
      let u := fillCells as x.cs
      let r := fillHeap B (j + 1) u.2 l
      (some ⟨x.own, u.1⟩ :: r.1, r.2)
    else let r := fillHeap B (j + 1) as l; (some x :: r.1, r.2)
def fillSt (D B : List Nat) (as : List A) (x : St) : St :=
  let u := fillSlots D 0 as x.sl
  ⟨u.1, (fillHeap B 0 u.2 x.hp).1⟩

def K.beq : K → K → Bool
  | .normal, .normal => true
  | .ret, .ret => true
  | .exit a, .exit b => Nat.beq a b
  | .goto a, .goto b => Nat.beq a b
  | _, _ => false
def kindIx (k : K) : List K → Option Nat
  | [] => none
  | x :: l => if x.beq k then some 0 else (kindIx k l).map (· + 1)
def X.kinds : X → List K
  | .done k _ => if k.isNormal then [] else [k]
  | .br _ x y => x.kinds ++ (y.kinds.filter fun k => (kindIx k x.kinds).isNone)

/-- What comes out of a round that goes on no more: the way out's number, and what went round. Types: is each an integer? -/
def mergeAs (c : A) : List Bool → List A → List A → M (List A)
  | true :: ts, a :: l, b :: l' => do
    let x ← mkIteI c a b
    let r ← mergeAs c ts l l'
    pure (x :: r)
  | false :: ts, a :: l, b :: l' => do
    let x ← mkIteB c a b
    let r ← mergeAs c ts l l'
    pure (x :: r)
  | [], [], [] => pure []
  | _, _, _ => M.fail
def X.couts (D B : List Nat) (sx : St) (ks : List K) (ts : List Bool) : X → M (List A)
  | .done k s => do
    let i ← M.lift (kindIx k ks)
    let as ← M.lift (fitSt D B sx s)
    pure (.z i :: as)
  | .br c x y => do
    let a ← x.couts D B sx ks ts
    let b ← y.couts D B sx ks ts
    mergeAs c (true :: ts) a b

def isIntLf : Lf → Bool
  | .i _ _ => true
  | _ => false
def slotTypes (D : List Nat) : Nat → List (Option V) → List Bool
  | _, [] => []
  | t, none :: l => slotTypes D (t + 1) l
  | t, some x :: l => (if memN t D then (match x with | .s v => v.cells.map isIntLf | .t _ => []) else []) ++ slotTypes D (t + 1) l
def heapTypes (B : List Nat) : Nat → List (Option Blk) → List Bool
  | _, [] => []
  | j, none :: l => heapTypes B (j + 1) l
  | j, some x :: l => (if memN j B then x.cs.filterMap (fun c => c.map isIntLf) else []) ++ heapTypes B (j + 1) l

def K.toX (ka : A) (s : St) : Nat → List K → M X
  | _, [] => M.fail
  | _, [k] => pure (.done k s)
  | i, k :: l => do
    let e ← emit (.eql ka (.z i))
    let r ← K.toX ka s (i + 1) l
    pure (.br e (.done k s) r)

/-- The blocks of which y does not say what x says. -/
def changed : Nat → List (Option Blk) → List (Option Blk) → List Nat
  | _, [], _ => []
  | j, none :: l, l' => changed (j + 1) l l'.tail
  | j, some x :: l, some y :: l' => if sameCells x.cs y.cs then changed (j + 1) l l' else j :: changed (j + 1) l l'
  | j, some _ :: l, l' => j :: changed (j + 1) l l'.tail
def X.changed (hp : List (Option Blk)) : X → List Nat
  | .done _ s => Sx.changed 0 hp s.hp
  | .br _ x y => x.changed hp ++ y.changed hp

/-- The numbers below n in a list of operands. -/
def A.ids (n : Nat) : A → List Nat
  | .r i => if Nat.blt i n then [i] else []
  | _ => []
def Node.ops : Node → List A
  | .add _ a b | .sub _ a b | .mul _ a b | .land _ a b | .lor _ a b | .lxor _ a b | .landNot _ a b | .quo _ a b | .rem _ a b | .shl _ a b | .shr _ a b => [a, b]
  | .eql a b | .neq a b | .lss a b | .leq a b | .gtr a b | .geq a b | .beq a b | .bne a b | .and a b | .or a b => [a, b]
  | .not a => [a]
  | .itei c a b | .iteb c a b => [c, a, b]
  | .conv _ a => [a]
  | .seli l ix | .selb l ix => ix :: l
  | .call _ l _ => l
def dedupN : List Nat → List Nat
  | [] => []
  | x :: l => let r := dedupN l; if memN x r then r else x :: r

structure Round where
  x : X
  c : A
  nx : List A
  ks : List K
  outs : List A

def fitNx (D B : List Nat) (sx : St) : Option St → M (List A)
  | none => pure []
  | some so => M.lift (fitSt D B sx so)
def roundOut (D B : List Nat) (sx : St) (x : X) (c : A) (nx : List A) : Option X → M Round
  | none => M.fail
  | some z => do
    let outs ← z.couts D B sx z.kinds (slotTypes D 0 sx.sl ++ heapTypes B 0 sx.hp)
    pure ⟨x, c, nx, z.kinds, outs⟩
def evRound (ev : St → M X) (D B : List Nat) (sx : St) : M Round := do
  let x ← ev sx
  let c ← x.nCond
  let so ← x.nSt
  let nx ← fitNx D B sx so
  roundOut D B sx x c nx x.kill

def callOuts (fid : Nat) (args : List A) : Nat → Nat → M (List A)
  | _, 0 => pure []
  | j, n + 1 => do
    let a ← emit (.call fid args j)
    let r ← callOuts fid args (j + 1) n
    pure (a :: r)

def Node.refs (n : Nat) (x : Node) : Bool := x.ops.all (A.below n)
/-- The nodes bear the numbers n, n + 1, .., and each looks back alone. -/
def wfNodes (n : Nat) : Em → Bool
  | [] => true
  | (i, x) :: r => Nat.beq i n && x.refs n && wfNodes (n + 1) r
def obLp : LR → M Unit := fun l n => some ((), n, [], [.lp l])
def obLps : List LR → M Unit
  | [] => pure ()
  | l :: r => do obLp l; obLps r

def idsFrom (n : Nat) : Nat → List A
  | 0 => []
  | k + 1 => .r n :: idsFrom (n + 1) k
def beqAs : List A → List A → Bool
  | [], [] => true
  | a :: l, b :: l' => a.beq b && beqAs l l'
  | _, _ => false

/-- What does not go round looks at the surroundings alone. -/
def belowSlots (D : List Nat) (n : Nat) : Nat → List (Option V) → Bool
  | _, [] => true
  | t, x :: l => (memN t D || optAll (V.below n) x) && belowSlots D n (t + 1) l
def belowHeap (B : List Nat) (n : Nat) : Nat → List (Option Blk) → Bool
  | _, [] => true
  | j, x :: l => (memN j B || optAll (Blk.below n) x) && belowHeap B n (j + 1) l
/-- y is known nowhere where x is not. -/
def knownLe {α β : Type} : List (Option α) → List (Option β) → Bool
  | [], _ => true
  | none :: l, l' => knownLe l l'.tail
  | some _ :: l, some _ :: l' => knownLe l l'
  | some _ :: _, _ => false
def knownCells : List (Option Lf) → List (Option Lf) → Bool
  | [], [] => true
  | none :: l, _ :: l' => knownCells l l'
  | some _ :: l, some _ :: l' => knownCells l l'
  | _, _ => false
def knownHeap : List (Option Blk) → List (Option Blk) → Bool
  | [], _ => true
  | none :: l, l' => knownHeap l l'.tail
  | some y :: l, some x :: l' => (y.own == x.own) && knownCells y.cs x.cs && knownHeap l l'
  | some _ :: _, _ => false

/-- The loop's function at its place: what it is called with, and what it comes to. -/
def evLoopAt (fid : Nat) (D B : List Nat) (sx : St) (ins : List A) (l : LR) (ks : List K) : M X := do
  let args := l.inv.map A.r ++ ins
  let p ← emit (.call fid args 0)
  owe p
  let os ← callOuts fid args 1 l.outs.length
  if Nat.beq l.outs.length 0 then M.fail else
  match fitSt D B sx (fillSt D B os.tail sx) with
  | none => M.fail
  | some bs =>
    if beqAs bs os.tail && knownLe (fillSt D B os.tail sx).sl sx.sl && knownHeap (fillSt D B os.tail sx).hp sx.hp then K.toX (os.headD default) (fillSt D B os.tail sx) 0 ks else M.fail

def idsOf (n : Nat) (e : Em) (d : List Ob) (r : Round) : List Nat :=
  e.flatMap (fun p => p.2.ops.flatMap (A.ids n)) ++ (ndsOf d).flatMap (fun q => (q.a :: q.path.map (·.1)).flatMap (A.ids n)) ++ (r.c :: (r.nx ++ r.outs)).flatMap (A.ids n)

def lrOf (fid n k : Nat) (e : Em) (d : List Ob) (r : Round) (ts : List Bool) : LR := ⟨fid, n, k, dedupN (idsOf n e d r), e, ndsOf d, r.c, r.nx, r.outs, ts⟩

def lrGo (fid : Nat) (D B : List Nat) (sx : St) (ins : List A) (d : List Ob) (l : LR) (ks : List K) : M X := do
  obLps (lpsOf d)
  obLp l
  evLoopAt fid D B sx ins l ks

def evSymWith (ev : St → M X) (fid : Nat) (D B : List Nat) (sx : St) (k : Nat) (s : St) : M X := fun n =>
  match fitSt D B sx s with
  | none => none
  | some ins =>
    match fitSt D B sx sx with
    | none => none
    | some ps =>
      match evRound ev D B sx (n + k) with
      | none => none
      | some (r, _, e, d) =>
        if belowSlots D n 0 sx.sl && belowHeap B n 0 sx.hp && beqAs ps (idsFrom n k) && Nat.beq ins.length k && wfNodes (n + k) e && Nat.beq r.nx.length k then
          lrGo fid D B sx ins d (lrOf fid n k e d r (slotTypes D 0 sx.sl ++ heapTypes B 0 sx.hp)) r.ks n
        else none

def evSym (ev : St → M X) (fid : Nat) (D : List Nat) (s : St) : M X := fun n =>
  let sl := freshSlots D 0 n s.sl
  -- which blocks does a round write?
  match ev ⟨sl.1, s.hp⟩ sl.2 with
  | none => none
  | some (x0, _, _, _) =>
    let B := dedupN (x0.changed s.hp)
    let hp := freshHeap B 0 sl.2 s.hp
    evSymWith ev fid D B ⟨sl.1, hp.1⟩ (hp.2 - n) s n

def evCode (P : Program) (S : Sigs) : Nat → Code → St → M X
  | 0, _, _ => M.fail
  | n + 1, c, s =>
    match c with
    | .skip => pure (.done .normal s)
    | .label _ => pure (.done .normal s)
    | .region _ ops draw => do pure (.done .normal (← evRegion P S ops draw s))
    | .seq x y => do (← evCode P S n x s).andThen (evCode P S n y)
    | .cond c x y => do
      match ← M.lift (rd ⟨s, []⟩ [] c) with
      | .s (.one (.b a)) =>
        match a with
        | .t true => evCode P S n x s
        | .t false => evCode P S n y s
        | a => do
          let u ← under a true (evCode P S n x s)
          let v ← under a false (evCode P S n y s)
          pure (.br a u v)
      | _ => M.fail
    | .block id c =>
      match assoc S.ls id with
      | some fid =>
        match c with
        | .loop b => do pure ((← evSym (evCode P S n b) fid (Code.dsts b) s).inBlock id)
        | c => do pure ((← evCode P S n c s).inBlock id)
      | none => do pure ((← evCode P S n c s).inBlock id)
    | .loop c => do (← evCode P S n c s).andThen (evCode P S n (.loop c))
    | .exit id => pure (.done (.exit id) s)
    | .goto l => pure (.done (.goto l) s)
    | .scope c => do
      let x ← evCode P S n c s
      if x.noGoto then pure x else M.fail
    | .ret => pure (.done .ret s)
    | _ => M.fail

/-! ### A function -/
def resOf (P : Program) (s : St) : List ResultVar → M (List V1)
  | [] => pure []
  | .tmp t :: l => do
    match ← M.lift (nth s.sl t) with
    | .s v => do pure (v :: (← resOf P s l))
    | _ => M.fail
  | .cell t ty :: l => do
    match ← M.lift (nth s.sl t) with
    | .s (.one (.p b off)) => do
      let k ← M.lift (tk P ty)
      let sz ← M.lift (tsize P ty)
      let bk ← M.lift (nth s.hp b)
      let v ← loadAt bk off (isAggT k) sz
      pure (v :: (← resOf P s l))
    | _ => M.fail

def K.ends : K → Bool
  | .normal | .ret => true
  | _ => false

def X.res (P : Program) (rs : List ResultVar) : X → M V
  | .done k s => if k.ends then do pure (wrapResults (← resOf P s rs)) else M.fail
  | .br c x y => do
    let a ← under c true (x.res P rs)
    let b ← under c false (y.res P rs)
    mergeOrFail c a b

/-- The parameters: each leaf an input. -/
def inLeaves : Nat → List LT → List Lf
  | _, [] => []
  | j, t :: ts => t.lf (.r j) :: inLeaves (j + 1) ts
def inShapes : Nat → List Sh → List V
  | _, [] => []
  | j, .one t :: ss => .s (.one (t.lf (.r j))) :: inShapes (j + 1) ss
  | j, .agg ts :: ss => .s (.agg (inLeaves j ts)) :: inShapes (j + ts.length) ss
def nIn (ss : List Sh) : Nat := (ss.map fun s => s.lts.length).sum

def V1.outs (v : V1) (s : Sh) : Option (List A) :=
  match s, v with
  | .one t, .one l => (t.arg l).map fun a => [a]
  | .agg ts, .agg ls => argsOf ts ls
  | _, _ => none
def V1s.outs : List V1 → List Sh → Option (List A)
  | [], [] => some []
  | v :: vs, s :: ss =>
    match V1.outs v s with
    | none => none
    | some a =>
      match V1s.outs vs ss with
      | none => none
      | some r => some (a ++ r)
  | _, _ => none
def V.outs (v : V) (rs : List Sh) : Option (List A) :=
  match v with
  | .s v => V1s.outs [v] rs
  | .t vs => if Nat.beq vs.length 1 then none else V1s.outs vs rs

def ltOf : Lf → Option LT
  | .i k _ => some (.int k)
  | .b _ => some .bool
  | _ => none
/-- The shape of a type whose cells are integers and bools. -/
def shOf (P : Program) (t : TypeId) : Option Sh :=
  match tk P t, zeroCells P t with
  | some k, some cs =>
    match allSome ltOf cs with
    | none => none
    | some l =>
      if isAggT k then some (.agg l) else
      match l with
      | [t] => some (.one t)
      | _ => none
  | _, _ => none
def sigOf (P : Program) (fn : Func) (need : Bool) : Option Sig :=
  match allSome (shOf P) fn.params.toList, allSome (shOf P) fn.resultTypes.toList with
  | some a, some b => some ⟨a, b, need⟩
  | _, _ => none

structure Out where
  nodes : Em
  owes : List Nd
  loops : List LR
  outs : List A


def evFn (P : Program) (S : Sigs) (fuel : Nat) (fn : Func) (sg : Sig) : Option Out :=
  match fn.body with
  | none => none
  | some c =>
    let ps := inShapes 0 sg.ps
    let s : St := ⟨ps.map some ++ List.replicate (fn.ntmps - ps.length) none, []⟩
    match (do (← evCode P S fuel c s).res P fn.results.toList : M V) (nIn sg.ps) with
    | none => none
    | some (v, _, e, d) => (v.outs sg.rs).map fun o => ⟨e, ndsOf d, lpsOf d, o⟩

end Go.Sx
