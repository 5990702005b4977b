/- The evaluator: operations, regions, code, a whole function. Definitions alone. -/
import Derived.Test.YtacciadcmiiimaaSyPat
namespace Go.Sx

/-- A value that stands in a slot where a guard holds: slot t, where slot d is the bool want. -/
structure GE where
  t : Nat
  v : V
  d : Nat
  want : Bool

structure RS where
  st : St
  gl : List GE

def setNth {α : Type} (v : α) : List α → Nat → List α
  | [], _ => []
  | _ :: l, 0 => v :: l
  | x :: l, n + 1 => x :: setNth v l n

def beqB : Bool → Bool → Bool
  | true, b => b
  | false, b => !b

abbrev Ctx := List (Nat × Bool)
def Ctx.has : Ctx → Nat → Bool → Bool
  | [], _, _ => false
  | (d, w) :: r, d', w' => (Nat.beq d d' && beqB w w') || Ctx.has r d' w'

def glFind (ctx : Ctx) (t : Nat) : List GE → Option V
  | [] => none
  | e :: r => if Nat.beq e.t t && ctx.has e.d e.want then some e.v else glFind ctx t r

def Blk.froze : Blk → Blk
  | .c _ cs => .c false cs
  | .v _ ts a => .v false ts a

def RS.slot (r : RS) (ctx : Ctx) (t : Nat) : Option V :=
  match nth r.st.sl t with
  | some v => some v
  | none => glFind ctx t r.gl

def rd (r : RS) (ctx : Ctx) : Operand → Option V
  | .tmp t => r.slot ctx t
  | .const v => (ofConst v).map .s
  | .func f => some (.s (.one (.v (.func (.func f) #[] #[]))))
  | .global g => some (.s (.one (.gp g (.c 0))))

/-- What the guards say: where they hold (ctx), and by which bools; none: never. -/
def glEntry (t : Nat) : List GE → Option GE
  | [] => none
  | e :: r => if Nat.beq e.t t then some e else glEntry t r

def guardInfo (r : RS) : Nat → Nat → Bool → Option (Option (Ctx × List (A × Bool)))
  | 0, _, _ => none
  | n + 1, d, want =>
    match nth r.st.sl d with
    | some (.s (.one (.b (.t x)))) => if beqB x want then some (some ([], [])) else some none
    | some (.s (.one (.b a))) => some (some ([(d, want)], [(a, want)]))
    | some _ => none
    | none =>
      match glEntry d r.gl with
      | some e =>
        match e.v with
        | .s (.one (.b a)) =>
          match guardInfo r n e.d e.want with
          | some (some (ctx, cs)) =>
            match a with
            | .t x => if beqB x want then some (some ((d, want) :: ctx, cs)) else some none
            | a => some (some ((d, want) :: ctx, (a, want) :: cs))
          | some none => some none
          | none => none
        | _ => none
      | none => none

def underAll {α : Type} : List (A × Bool) → M α → M α
  | [], x => x
  | (c, b) :: r, x => under c b (underAll r x)

/-- What an operation comes to. -/
inductive OR where
  | val (v : V)
  /-- and the blocks as they are then: those that were keep their numbers -/
  | hp (v : Option V) (hp : List (Option Blk))

def boundsOk (ix : A) (len : Nat) : M Unit := do
  owe (← emit (.geq ix (.z 0)))
  owe (← emit (.lss ix (.z len)))

/-- A part of an aggregate's cells. -/
def partOf (P : Program) (t : TypeId) (cs : List Lf) (off : Nat) : M V1 := do
  let k ← M.lift (tk P t)
  let sz ← M.lift (tsize P t)
  if isAggT k then
    pure (.agg (← M.lift (takeCells (cs.map some) off sz)))
  else pure (.one (← M.lift (cellAt (cs.map some) off)))

def evEqRow (P : Program) (eq : TypeId → V1 → V1 → M A) (elem : TypeId) (sz : Nat) (xs ys : List Lf) (i : Nat) : Nat → M A
  | 0 => pure (.t true)
  | n + 1 => do
    let a ← partOf P elem xs (i * sz)
    let b ← partOf P elem ys (i * sz)
    let e ← eq elem a b
    let r ← evEqRow P eq elem sz xs ys (i + 1) n
    mkAnd e r
def evEqFields (P : Program) (eq : TypeId → V1 → V1 → M A) (xs ys : List Lf) : List (Nat × Nat) → M A
  | [] => pure (.t true)
  | f :: fs => do
    let a ← partOf P f.2 xs f.1
    let b ← partOf P f.2 ys f.1
    let e ← eq f.2 a b
    let r ← evEqFields P eq xs ys fs
    mkAnd e r

/-- '==' as the model has it: by the type. -/
def evEq (P : Program) : Nat → TypeId → V1 → V1 → M A
  | 0, _, _, _ => M.fail
  | d + 1, t, x, y => do
    let k ← M.lift (tk P t)
    match k, x, y with
    | .int _, .one (.i ka a), .one (.i kb b) =>
      if kEq ka kb then
        match a, b with
        | .z m, .z n => pure (.t (m == n))
        | a, b => emit (.eql a b)
      else M.fail
    | .bool, .one (.b a), .one (.b b) =>
      match a, b with
      | .t m, .t n => pure (.t (m == n))
      | a, b => emit (.beq a b)
    | .arr len elem, .agg xs, .agg ys => do
      let sz ← M.lift (tsize P elem)
      evEqRow P (evEq P d) elem sz xs ys 0 len
    | .struct fs, .agg xs, .agg ys =>
      if P.stoodInHeld t then M.fail
      else if (P.fieldsOf t).toList.all (fun f => f.name != "_") then evEqFields P (evEq P d) xs ys fs else M.fail
    | _, _, _ => M.fail

def V.one? : V → Option Lf
  | .s (.one l) => some l
  | _ => none

def mergeOrFail (c : A) (x y : V) : M V := do
  match ← mergeV c x y with
  | some v => pure v
  | none => M.fail

def evBinV (P : Program) (op : BinOp) (t : TypeId) (x y : V) : M V :=
  match op, x, y with
  | .shl, .s (.one (.i k a)), .s (.one (.i _ b)) => do pure (.s (.one (← evShift .shl k a b)))
  | .shr, .s (.one (.i k a)), .s (.one (.i _ b)) => do pure (.s (.one (← evShift .shr k a b)))
  | op, .s (.one (.i k a)), .s (.one (.i k' b)) => if kEq k k' then do pure (.s (.one (← evBin op k a b))) else M.fail
  | .eql, .s (.one (.b a)), .s (.one (.b b)) => do
    match ← M.lift (tk P t) with
    | .bool => pure (.s (.one (← evBoolOp .eql a b)))
    | _ => M.fail
  | .neq, .s (.one (.b a)), .s (.one (.b b)) => do
    match ← M.lift (tk P t) with
    | .bool => pure (.s (.one (← evBoolOp .neq a b)))
    | _ => M.fail
  | .eql, .s (.one (.p _ _)), .s (.one .nilp) => do
    match ← M.lift (tk P t) with
    | .ptr _ => pure (.s (.one (.b (.t false))))
    | _ => M.fail
  | .neq, .s (.one (.p _ _)), .s (.one .nilp) => do
    match ← M.lift (tk P t) with
    | .ptr _ => pure (.s (.one (.b (.t true))))
    | _ => M.fail
  | .eql, .s (.one .nilp), .s (.one .nilp) => do
    match ← M.lift (tk P t) with
    | .ptr _ => pure (.s (.one (.b (.t true))))
    | _ => M.fail
  | .neq, .s (.one .nilp), .s (.one .nilp) => do
    match ← M.lift (tk P t) with
    | .ptr _ => pure (.s (.one (.b (.t false))))
    | _ => M.fail
  | .eql, .s (.agg a), .s (.agg b) =>
    if P.eqGuardType P.depth t then M.fail else do pure (.s (.one (.b (← evEq P 8 t (.agg a) (.agg b)))))
  | .neq, .s (.agg a), .s (.agg b) =>
    if P.eqGuardType P.depth t then M.fail else do pure (.s (.one (.b (← mkNot (← evEq P 8 t (.agg a) (.agg b))))))
  | _, _, _ => M.fail

def evUn (op : UnOp) (x : Lf) : M Lf :=
  match op, x with
  | .neg, .i k (.z n) => pure (.i k (.z (k.wrap (0 - n))))
  | .neg, .i k a => do pure (.i k (← emit (.sub k (.z 0) a)))
  | .xor, .i k (.z n) => pure (.i k (.z (ilxor k (if k.signed then -1 else k.max) n)))
  | .xor, .i k a => do pure (.i k (← emit (.lxor k (.z (if k.signed then -1 else k.max)) a)))
  | .not, .b a => do pure (.b (← mkNot a))
  | _, _ => M.fail

def evConv (P : Program) (src dst : TypeId) (x : Lf) : M Lf := do
  let _ ← M.lift (tk P src)
  match ← M.lift (tk P dst), x with
  | .int k, .i _ (.z n) => pure (.i k (.z (k.wrap n)))
  | .int k, .i _ a => do pure (.i k (← emit (.conv k a)))
  | _, _ => M.fail

def evIndexAddr (P : Program) (t : TypeId) (x ix : Lf) : M Lf := do
  match ← M.lift (tk P t), x, ix with
  | .arr len elem, .p blk off, .i _ a => do
    let sz ← M.lift (tsize P elem)
    match a with
    | .z n =>
      if 0 ≤ n ∧ n < len then pure (.p blk (off.plus (n.toNat * sz))) else M.fail
    | a =>
      match off with
      | .c o => do
        boundsOk a len
        pure (.p blk (.s o a sz len))
      | .s o ix0 sz0 len0 => do
        boundsOk a len
        pure (.p blk (.d o ix0 sz0 len0 a sz len))
      | _ => M.fail
  | .arr len elem, .gp g off, .i _ a => do
    let sz ← M.lift (tsize P elem)
    match a with
    | .z n =>
      if 0 ≤ n ∧ n < len then pure (.gp g (off.plus (n.toNat * sz))) else M.fail
    | a =>
      match off with
      | .c o => do
        boundsOk a len
        pure (.gp g (.s o a sz len))
      | _ => M.fail
  | _, _, _ => M.fail

def evIndex (P : Program) (t : TypeId) (x : List Lf) (ix : Lf) : M V1 := do
  match ← M.lift (tk P t), ix with
  | .arr len elem, .i _ a => do
    let k ← M.lift (tk P elem)
    let sz ← M.lift (tsize P elem)
    match a with
    | .z n =>
      if 0 ≤ n ∧ n < len then partOf P elem x (n.toNat * sz) else M.fail
    | a => do
      boundsOk a len
      if isAggT k then pure (.agg (← selAgg (x.map some) 0 sz len a sz))
      else do
        let row ← M.lift (rowCells (x.map some) 0 sz len)
        pure (.one (← selLeaf row a))
  | _, _ => M.fail

def evField (P : Program) (t : TypeId) (x : List Lf) (f : Nat) : M V1 := do
  match ← M.lift (tk P t) with
  | .struct fs => do
    let fd ← M.lift fs[f]?
    partOf P fd.2 x fd.1
  | _ => M.fail

def evFieldAddr (P : Program) (t : TypeId) (x : Lf) (f : Nat) : M Lf := do
  match ← M.lift (tk P t), x with
  | .struct fs, .p blk off => do
    let fd ← M.lift fs[f]?
    let sz ← M.lift (tsize P fd.2)
    if Nat.beq sz 0 then M.fail else pure (.p blk (off.plus fd.1))
  | .struct fs, .gp g off => do
    let fd ← M.lift fs[f]?
    let sz ← M.lift (tsize P fd.2)
    if Nat.beq sz 0 then M.fail else pure (.gp g (off.plus fd.1))
  | _, _ => M.fail

def rdAll (r : RS) (ctx : Ctx) : List Operand → Option (List V)
  | [] => some []
  | x :: xs =>
    match rd r ctx x with
    | none => none
    | some v =>
      match rdAll r ctx xs with
      | none => none
      | some vs => some (v :: vs)

def rdParts (r : RS) (ctx : Ctx) : List (Nat × Operand) → Option (List (Nat × V1))
  | [] => some []
  | x :: xs =>
    match rd r ctx x.2 with
    | some (.s v) =>
      match rdParts r ctx xs with
      | none => none
      | some vs => some ((x.1, v) :: vs)
    | _ => none

/-- Cells from number o on, laid over. -/
def overwrite : List Lf → Nat → List Lf → List Lf
  | cs, _, [] => cs
  | cs, o, c :: l => overwrite (cs.set o c) (o + 1) l
def fillC (place : Nat → Option (Nat × Nat)) : List Lf → List (Nat × V1) → Option (List Lf)
  | cs, [] => some cs
  | cs, p :: rest =>
    match place p.1 with
    | none => none
    | some (o, sz) => if Nat.beq p.2.cells.length sz && Nat.ble (o + p.2.cells.length) cs.length && p.2.cells.all Lf.ok then fillC place (overwrite cs o p.2.cells) rest else none
def evBuild (P : Program) (t : TypeId) (parts : List (Nat × V1)) : Option (List Lf) :=
  match zeroCells P t with
  | none => none
  | some z =>
    match tk P t with
    | some (.struct fs) =>
      match allSome (fun f : Nat × TypeId => (tsize P f.2).map fun n => (f.1, n)) fs with
      | none => none
      | some places => fillC (fun i => places[i]?) z parts
    | some (.arr _ elem) =>
      match tsize P elem with
      | none => none
      | some sz => fillC (fun i => some (i * sz, sz)) z parts
    | _ => none

/-! ### A call -/
def Blk.lt (n : Nat) : Blk → Bool
  | .c _ cs => cs.all (optAll (Lf.lt n))
  | .v _ _ _ => true
/-- The blocks renamed. -/
def Lf.ren (m : List Nat) : Lf → Lf
  | .p k off => .p (rnm m k) off
  | .vec k => .vec (rnm m k)
  | .fnp f bs => .fnp f (bs.map (rnm m))
  | x => x
def V1.ren (m : List Nat) : V1 → V1
  | .one x => .one (x.ren m)
  | .agg l => .agg (l.map (Lf.ren m))
def V.ren (m : List Nat) : V → V
  | .s v => .s (v.ren m)
  | .t l => .t (l.map (V1.ren m))
def Blk.ren (m : List Nat) : Blk → Blk
  | .c o cs => .c o (cs.map (Option.map (Lf.ren m)))
  | .v o ts a => .v o ts a

def callOuts (fid : Nat) (args : List A) : Nat → Nat → M (List A)
  | _, 0 => pure []
  | j, n + 1 => do
    let a ← emit (.call fid args j)
    let r ← callOuts fid args (j + 1) n
    pure (a :: r)

/-- A block that came in as cells stands where it stood. -/
def stays (hin : List (Option Blk)) (j : Nat) : Bool :=
  match nth hin j with
  | some (.c _ _) => true
  | _ => false
/-- Where the blocks of what comes back stand: those that came in where they stood, all others behind the n there were. -/
def backMap (hin : List (Option Blk)) (m : List Nat) (n : Nat) (k : Nat) : List Nat := (List.range k).map fun j => if stays hin j then rnm m j else n + j
/-- The blocks that went in, from number j on: those that may be written are none any more, unless they come back. -/
def putBack (hin hout : List (Option Blk)) (m m1 : List Nat) (dem : Bool) : Nat → Nat → List (Option Blk) → List (Option Blk)
  | 0, _, hp => hp
  | k + 1, j, hp =>
    match nth hin j with
    | none => putBack hin hout m m1 dem k (j + 1) hp
    | some x =>
      if x.own then
        let y : Option Blk := if stays hin j then (nth hout j).map (Blk.ren m1) else none
        putBack hin hout m m1 dem k (j + 1) (setNth y hp (rnm m j))
      else if dem then putBack hin hout m m1 dem k (j + 1) (setNth ((nth hp (rnm m j)).map Blk.froze) hp (rnm m j))
      else putBack hin hout m m1 dem k (j + 1) hp
def newBack (hin : List (Option Blk)) (m1 : List Nat) : Nat → List (Option Blk) → List (Option Blk)
  | _, [] => []
  | j, x :: l => (if stays hin j then none else x.map (Blk.ren m1)) :: newBack hin m1 (j + 1) l
/-- Does a block come back that may not be written, and is none of those that went in? -/
def anyFrozen (hin : List (Option Blk)) : Nat → List (Option Blk) → Bool
  | _, [] => false
  | j, x :: l => (match x with | some y => !y.own && !stays hin j | none => false) || anyFrozen hin (j + 1) l

def A.const : A → Bool
  | .z _ | .t _ => true
  | _ => false
def LT.flat : LT → Bool
  | .vec _ => false
  | _ => true
def Blk.flat : Blk → Bool
  | .v _ ts _ => ts.all LT.flat
  | .c _ _ => true
def Lf.easy : Lf → Bool
  | .p _ (.c _) | .gp _ (.c _) => true
  | .p _ _ | .gp _ _ => false
  | _ => true
def V.easy : V → Bool
  | .s v => v.cells.all Lf.easy
  | .t l => l.all fun v => v.cells.all Lf.easy
/-- Is the pattern one? -/
def Sig.ok (sg : Sig) : Bool :=
  sg.ins.all (V.tyOk A.const sg.its) && sg.hin.all (optAll (Blk.tyOk A.const sg.its)) && sg.out.tyOk A.const sg.ots && sg.hout.all (optAll (Blk.tyOk A.const sg.ots)) &&
  sg.out.lt sg.hout.length && sg.hout.all (optAll (Blk.lt sg.hout.length)) && sg.hout.all (optAll Blk.flat) && sg.out.easy

def evCall (P : Program) (S : Sigs) (f : FuncId) (vs : List V) (hp : List (Option Blk)) : M OR := do
  let sg ← M.lift (S.get f)
  let pat : St := ⟨sg.ins.map some, sg.hin⟩
  let act : St := ⟨vs.map some, hp⟩
  let g := guess sg.nin pat act
  if calleeOk P f && (pat.inst g.1).sub g.2 act && sg.ok && hp.all (optAll (Blk.lt hp.length)) then do
    let j0 ← (if sg.need then do owe (← emit (.call f g.1 0)); pure 1 else pure 0)
    let os ← callOuts f g.1 j0 sg.ots.length
    if sg.hin.all (optAll fun b => !b.own) && sg.hout.isEmpty then pure (.val (sg.out.inst os))
    else
      let m1 := backMap sg.hin g.2 hp.length sg.hout.length
      let ho := (sg.hout.map (Option.map (Blk.inst os)))
      pure (.hp (some ((sg.out.inst os).ren m1)) (putBack sg.hin ho g.2 m1 (anyFrozen sg.hin 0 sg.hout) sg.hin.length 0 hp ++ newBack sg.hin m1 0 ho))
  else M.fail

def evPick (r : RS) (ctx : Ctx) (c a b : Operand) : M V := do
  match rd r ctx c with
  | some (.s (.one (.b (.t true)))) => M.lift (rd r ctx a)
  | some (.s (.one (.b (.t false)))) => M.lift (rd r ctx b)
  | some (.s (.one (.b x))) => do
    let (ca, cb) := match c with
      | .tmp t => ((t, true) :: ctx, (t, false) :: ctx)
      | _ => (ctx, ctx)
    let va ← M.lift (rd r ca a)
    let vb ← M.lift (rd r cb b)
    mergeOrFail x va vb
  | _ => M.fail

/-! ### Rows -/
def rowAt (hp : List (Option Blk)) (b : Nat) : Option (Bool × List LT × A) :=
  match nth hp b with
  | some (.v o ts a) => some (o, ts, a)
  | _ => none
def tbytes (P : Program) (t : TypeId) : Option Nat := (P.info? t).map (·.bytes)
def hpLt (hp : List (Option Blk)) : Bool := hp.all (optAll (Blk.lt hp.length))
/-- So many elements of so many bytes may be asked for. -/
def rowLim (bytes : Nat) : Nat := 70368744177664 / (bytes + 1)
def oweLeA (a b : A) : M Unit :=
  match a, b with
  | .z m, .z n => if m ≤ n then pure () else M.fail
  | a, b => do owe (← emit (.leq a b))
def leafTy : LT → Ty
  | .int _ => .i
  | .bool => .b
  | .vec _ => .l
/-- What a cell of a row holds. -/
def leafAs (t : LT) (x : Lf) : Option A :=
  match t, x with
  | .int k, .i k' a => if kEq k k' then some a else none
  | .bool, .b a => some a
  | _, _ => none
/-- The kinds of known cells. -/
def kindsOf : List Lf → Option (List LT)
  | [] => some []
  | .i k _ :: l => (kindsOf l).map (LT.int k :: ·)
  | .b _ :: l => (kindsOf l).map (LT.bool :: ·)
  | _ :: _ => none
/-- Cells as elements of a row, from number i on. -/
def rowLits (ts : List LT) : Nat → List (Option Lf) → Option (List Ty × List A)
  | _, [] => some ([], [])
  | i, c :: cs =>
    match c.bind (leafAs (ts.getD (i % ts.length) .bool)) with
    | none => none
    | some a =>
      match rowLits ts (i + 1) cs with
      | none => none
      | some r => some (leafTy (ts.getD (i % ts.length) .bool) :: r.1, a :: r.2)

def evLen (P : Program) (hp : List (Option Blk)) (t : TypeId) (v : V) : M V := do
  match ← M.lift (P.underlying t), v with
  | .slice _, .s (.one (.vec b)) =>
    let r ← M.lift (rowAt hp b)
    pure (.s (.one (.i .i64 (← emit (.llen r.2.1.length r.2.2)))))
  | .slice _, .s (.one (.v (.slice none 0 0))) => pure (.s (.one (.i .i64 (.z 0))))
  | .string, .s (.one (.v (.string s))) => pure (.s (.one (.i .i64 (.z s.size))))
  | .array n _, _ => pure (.s (.one (.i .i64 (.z n))))
  | _, _ => M.fail

def evIndexRow (P : Program) (hp : List (Option Blk)) (t : TypeId) (b : Nat) (ix : Lf) : M Lf := do
  match ← M.lift (tk P t), ix with
  | .slice elem, .i _ i =>
    let sz ← M.lift (tsize P elem)
    let r ← M.lift (rowAt hp b)
    if Nat.beq sz r.2.1.length then do
      oweGe0 i
      let n ← emit (.llen r.2.1.length r.2.2)
      owe (← emit (.lss i n))
      pure (.p b (.v 0 i sz r.2.2))
    else M.fail
  | _, _ => M.fail

/-- An element that lay in a row of cells a0 lies in one of cells a. -/
def sameRow (sz : Nat) (ix a0 a : A) : M Unit :=
  if a0.beq a then pure () else do
    let n ← emit (.llen sz a)
    owe (← emit (.lss ix n))
def rowLeaf (sz j : Nat) (a ix : A) : LT → M Lf
  | .int k => do pure (.i k (← emit (.lgeti sz j a ix)))
  | .bool => do pure (.b (← emit (.lgetb sz j a ix)))
  | .vec _ => M.fail
/-- So many cells of an element, from number j on. -/
def rowLeaves (ts : List LT) (a ix : A) : Nat → Nat → M (List Lf)
  | _, 0 => pure []
  | j, n + 1 => do
    let x ← rowLeaf ts.length j a ix (ts.getD j .bool)
    let r ← rowLeaves ts a ix (j + 1) n
    pure (x :: r)
def loadRow (ts : List LT) (a : A) (off : Off) (agg : Bool) (size : Nat) : M V1 := do
  match off with
  | .v base ix sz a0 =>
    if Nat.beq sz ts.length && Nat.ble (base + size) sz then do
      sameRow sz ix a0 a
      if agg then do pure (.agg (← rowLeaves ts a ix base size))
      else if Nat.blt base sz then do pure (.one (← rowLeaf ts.length base a ix (ts.getD base .bool)))
      else M.fail
    else M.fail
  | _ => M.fail

/-- A row with cells of an element anew, from number j on. -/
def putLeaves (ts : List LT) (ix : A) : Nat → A → List Lf → M A
  | _, a, [] => pure a
  | j, a, x :: l => do
    let v ← M.lift (leafAs (ts.getD j .bool) x)
    let a1 ← emit (.lset ts.length j (leafTy (ts.getD j .bool)) a ix v)
    putLeaves ts ix (j + 1) a1 l
def storeRow (ts : List LT) (a : A) (off : Off) (xs : List Lf) : M A := do
  match off with
  | .v base ix sz a0 =>
    if Nat.beq sz ts.length && Nat.ble (base + xs.length) sz then do
      sameRow sz ix a0 a
      putLeaves ts ix base a xs
    else M.fail
  | _ => M.fail

def evMake (P : Program) (hp : List (Option Blk)) (t : TypeId) (l c : Lf) : M OR := do
  match ← M.lift (tk P t), l, c with
  | .slice elem, .i _ n, .i _ m =>
    let z ← M.lift (zeroCells P elem)
    let ts ← M.lift (kindsOf z)
    let r ← M.lift (rowLits ts 0 (z.map some))
    let sz ← M.lift (tsize P elem)
    let by_ ← M.lift (tbytes P elem)
    if Nat.beq sz z.length && Nat.blt 0 sz && hpLt hp then do
      oweGe0 n
      oweLeA n m
      oweLeA m (.z (rowLim by_))
      let q ← emit (.lrep n r.1 r.2)
      pure (.hp (some (.s (.one (.vec hp.length)))) (hp ++ [some (.v true ts q)]))
    else M.fail
  | _, _, _ => M.fail

def evAppend (P : Program) (hp : List (Option Blk)) (t tx : TypeId) (s x : V) : M OR := do
  match ← M.lift (tk P t), ← M.lift (tk P tx), s, x with
  | .slice elem, .slice _, .s (.one (.vec b)), .s (.one (.vec c)) =>
    let r ← M.lift (rowAt hp b)
    let u ← M.lift (rowAt hp c)
    let z ← M.lift (zeroCells P elem)
    let sz ← M.lift (tsize P elem)
    let by_ ← M.lift (tbytes P elem)
    if r.1 && !Nat.beq b c && LTs.beq r.2.1 u.2.1 && Nat.beq sz r.2.1.length && Nat.beq sz z.length && hpLt hp then do
      let q ← emit (.lcat r.2.2 u.2.2)
      let n ← emit (.llen sz q)
      oweLeA n (.z (rowLim by_))
      pure (.hp (some (.s (.one (.vec hp.length)))) (setNth none hp b ++ [some (.v true r.2.1 q)]))
    else M.fail
  | _, _, _, _ => M.fail

/-- Up to an end, and from a beginning on. -/
def cutHigh (sz : Nat) (a : A) : Option Lf → M (A × A)
  | none => do
    let n ← emit (.llen sz a)
    pure (a, n)
  | some (.i _ h) => do
    oweGe0 h
    let n ← emit (.llen sz a)
    oweLeA h n
    let q ← emit (.ltake sz a h)
    pure (q, h)
  | _ => M.fail
def cutLow (sz : Nat) (a n : A) : Option Lf → M A
  | none => pure a
  | some (.i _ l) => do
    oweGe0 l
    oweLeA l n
    emit (.ldrop sz a l)
  | _ => M.fail
def leafOpt (r : RS) (ctx : Ctx) : Option Operand → Option (Option Lf)
  | none => some none
  | some x =>
    match rd r ctx x with
    | some (.s (.one l)) => some (some l)
    | _ => none
def evSlice (P : Program) (hp : List (Option Blk)) (t : TypeId) (x : V) (low high : Option Lf) : M OR := do
  match ← M.lift (tk P t), x with
  | .slice elem, .s (.one (.vec b)) =>
    let sz ← M.lift (tsize P elem)
    let r ← M.lift (rowAt hp b)
    if Nat.beq sz r.2.1.length && hpLt hp then do
      let q ← cutHigh sz r.2.2 high
      let q2 ← cutLow sz q.1 q.2 low
      pure (.hp (some (.s (.one (.vec hp.length)))) ((if r.1 then setNth none hp b else hp) ++ [some (.v r.1 r.2.1 q2)]))
    else M.fail
  | .arr n elem, .s (.one (.p b (.c 0))) =>
    match ← M.lift (nth hp b) with
    | .c o cs =>
      let sz ← M.lift (tsize P elem)
      let z ← M.lift (zeroCells P elem)
      let ts ← M.lift (kindsOf z)
      let r ← M.lift (rowLits ts 0 cs)
      if Nat.beq sz ts.length && Nat.blt 0 sz && Nat.beq cs.length (n * sz) && hpLt hp then do
        let q0 ← emit (.lmk r.1 r.2)
        let q ← cutHigh sz q0 high
        let q2 ← cutLow sz q.1 q.2 low
        pure (.hp (some (.s (.one (.vec hp.length)))) (setNth none hp b ++ [some (.v o ts q2)]))
      else M.fail
    | .v _ _ _ => M.fail
  | _, _ => M.fail

/-- The cells of a row that is written out. -/
def evBuildSlice (P : Program) (hp : List (Option Blk)) (t : TypeId) (len : Nat) (parts : List (Nat × V1)) : M OR := do
  match ← M.lift (tk P t) with
  | .slice elem =>
    let sz ← M.lift (tsize P elem)
    let z ← M.lift (zeroCells P elem)
    let ts ← M.lift (kindsOf z)
    let cs ← M.lift (fillC (fun i => some (i * sz, sz)) (List.replicate len z).flatten parts)
    let r ← M.lift (rowLits ts 0 (cs.map some))
    if Nat.beq sz z.length && Nat.blt 0 sz && Nat.ble (len * sz) 16777216 && hpLt hp then do
      let q ← emit (.lmk r.1 r.2)
      pure (.hp (some (.s (.one (.vec hp.length)))) (hp ++ [some (.v true ts q)]))
    else M.fail
  | _ => M.fail

/-! Rows that are nil -/
def Lf.isNil : Lf → Bool
  | .v (.slice none 0 0) => true
  | _ => false
def flatLs (rec : TypeId → Option (List LT)) : List (Nat × Nat) → Option (List LT)
  | [] => some []
  | f :: fs =>
    match rec f.2, flatLs rec fs with
    | some l, some r => some (l ++ r)
    | _, _ => none
/-- The kinds of a type's cells. -/
def flatL (P : Program) : Nat → TypeId → Option (List LT)
  | 0, _ => none
  | d + 1, t =>
    match tk P t with
    | some (.int k) => some [.int k]
    | some .bool => some [.bool]
    | some (.arr n e) => (flatL P d e).map fun l => (List.replicate n l).flatten
    | some (.struct fs) => flatLs (flatL P d) fs
    | some (.slice e) => (flatL P d e).map fun l => [.vec l]
    | some (.ptr _) => some [.bool]
    | some .other => some [.bool]
    | none => none
/-- Cells that are a nil row become rows of no element. -/
def matCells : List LT → List Lf → List (Option Blk) → M (List Lf × List (Option Blk))
  | t :: lt, x :: l, hp =>
    match t with
    | .vec ts =>
      if x.isNil && Nat.blt 0 ts.length then do
        let q ← emit (.lmk [] [])
        let r ← matCells lt l (hp ++ [some (.v true ts q)])
        pure (.vec hp.length :: r.1, r.2)
      else do
        let r ← matCells lt l hp
        pure (x :: r.1, r.2)
    | _ => do
      let r ← matCells lt l hp
      pure (x :: r.1, r.2)
  | _, l, hp => pure (l, hp)

def newBlk (hp : List (Option Blk)) (cs : List Lf) : M OR :=
  if hp.all (optAll (Blk.lt hp.length)) && cs.all (Lf.lt hp.length) then pure (.hp (some (.s (.one (.p hp.length (.c 0))))) (hp ++ [some (.c true (cs.map some))])) else M.fail

def evStore (P : Program) (r : RS) (ctx : Ctx) (t : TypeId) (x y : Operand) : M (List (Option Blk)) := do
  match ← M.lift (rd r ctx x), ← M.lift (rd r ctx y) with
  | .s (.one (.p b off)), .s v => do
    let sz ← M.lift (tsize P t)
    match ← M.lift (nth r.st.hp b) with
    | .c true cs =>
      if Nat.beq v.cells.length sz && v.cells.all Lf.ok then do
        pure (setNth (some (.c true (← storeCellsAt cs off v.cells))) r.st.hp b)
      else M.fail
    | .v true ts a =>
      if Nat.beq v.cells.length sz && Nat.blt 0 sz then do
        pure (setNth (some (.v true ts (← storeRow ts a off v.cells))) r.st.hp b)
      else M.fail
    | _ => M.fail
  | _, _ => M.fail

/-- A place that a function bears. -/
def capOf : V → Option Nat
  | .s (.one (.p b (.c 0))) => some b
  | _ => none
/-- The function that a value is, and what it bears. -/
def fnOf : Option V → Option (Nat × List Nat)
  | some (.s (.one (.v (.func (.func f) a b)))) => if Nat.beq a.size 0 && Nat.beq b.size 0 then some (f, []) else none
  | some (.s (.one (.fnp f bs))) => some (f, bs)
  | _ => none
def tk0 (P : Program) (t : TypeId) : Option TypeDesc := P.underlying t

def evOp (P : Program) (S : Sigs) (r : RS) (ctx : Ctx) (op : Op) : M OR :=
  match op with
  | .move x => do pure (.val (← M.lift (rd r ctx x)))
  | .assign x => do pure (.val (← M.lift (rd r ctx x)))
  | .pick c a b => do pure (.val (← evPick r ctx c a b))
  | .build t parts => do
    let ps ← M.lift (rdParts r ctx parts.toList)
    pure (.val (.s (.agg (← M.lift (evBuild P t ps)))))
  | .alloc t => do
    let z ← M.lift (zeroCells P t)
    if z.any Lf.isNil then
      if hpLt r.st.hp then do
        let q ← matCells ((flatL P 20 t).getD []) z r.st.hp
        newBlk q.2 q.1
      else M.fail
    else newBlk r.st.hp z
  | .box _ x => do
    match ← M.lift (rd r ctx x) with
    | .s v => if v.cells.all Lf.ok then newBlk r.st.hp v.cells else M.fail
    | _ => M.fail
  | .load t x => do
    match ← M.lift (rd r ctx x) with
    | .s (.one (.p blk off)) => do
      let k ← M.lift (tk P t)
      let sz ← M.lift (tsize P t)
      match ← M.lift (nth r.st.hp blk) with
      | .c _ cs => pure (.val (.s (← loadCells cs off (isAggT k) sz)))
      | .v _ ts a => pure (.val (.s (← loadRow ts a off (isAggT k) sz)))
    | .s (.one (.gp g off)) => do
      let k ← M.lift (tk P t)
      let sz ← M.lift (tsize P t)
      let cs ← M.lift (assoc S.gs g)
      let v ← loadCells (cs.map some) off (isAggT k) sz
      if v.cells.all Lf.scalar then pure (.val (.s v)) else M.fail
    | _ => M.fail
  | .store t x y => do pure (.hp none (← evStore P r ctx t x y))
  | .nilCheck x => do
    match ← M.lift (rd r ctx x) with
    | .s (.one (.p b off)) => pure (.val (.s (.one (.p b off))))
    | .s (.one (.fnp f bs)) => pure (.val (.s (.one (.fnp f bs))))
    | _ => M.fail
  | .binOp op t x y _ => do pure (.val (← evBinV P op t (← M.lift (rd r ctx x)) (← M.lift (rd r ctx y))))
  | .unOp op _ x => do
    match ← M.lift (rd r ctx x) with
    | .s (.one l) => pure (.val (.s (.one (← evUn op l))))
    | _ => M.fail
  | .convert a b x => do
    match ← M.lift (rd r ctx x) with
    | .s (.one l) => pure (.val (.s (.one (← evConv P a b l))))
    | _ => M.fail
  | .fieldAddr t x f => do
    match ← M.lift (rd r ctx x) with
    | .s (.one l) => pure (.val (.s (.one (← evFieldAddr P t l f))))
    | _ => M.fail
  | .field t x f => do
    match ← M.lift (rd r ctx x) with
    | .s (.agg l) => pure (.val (.s (← evField P t l f)))
    | _ => M.fail
  | .indexAddr t x ix => do
    match ← M.lift (rd r ctx x), ← M.lift (rd r ctx ix) with
    | .s (.one (.vec b)), .s (.one i) => pure (.val (.s (.one (← evIndexRow P r.st.hp t b i))))
    | .s (.one l), .s (.one i) => pure (.val (.s (.one (← evIndexAddr P t l i))))
    | _, _ => M.fail
  | .buildSlice t len parts => do
    let ps ← M.lift (rdParts r ctx parts.toList)
    evBuildSlice P r.st.hp t len ps
  | .makeSlice t l c => do
    match ← M.lift (rd r ctx l), ← M.lift (rd r ctx c) with
    | .s (.one a), .s (.one b) => evMake P r.st.hp t a b
    | _, _ => M.fail
  | .slice t x low high max => do
    match max with
    | some _ => M.fail
    | none =>
      let v ← M.lift (rd r ctx x)
      let lo ← M.lift (leafOpt r ctx low)
      let hi ← M.lift (leafOpt r ctx high)
      evSlice P r.st.hp t v lo hi
  | .index t x ix => do
    match ← M.lift (rd r ctx x), ← M.lift (rd r ctx ix) with
    | .s (.agg l), .s (.one i) => pure (.val (.s (← evIndex P t l i)))
    | .s (.one (.v (.string s))), .s (.one (.i _ a)) => do
      match ← M.lift (tk0 P t) with
      | .string =>
        boundsOk a s.size
        pure (.val (.s (.one (.i .u8 (← emit (.seli (s.data.toList.map fun b => .z b.toNat) a))))))
      | _ => M.fail
    | _, _ => M.fail
  | .extract x n => do
    match ← M.lift (rd r ctx x) with
    | .t l => pure (.val (.s (← M.lift l[n]?)))
    | _ => M.fail
  | .makeFunc fn first cap =>
    match fn with
    | .func f => do
      let vs ← M.lift (rdAll r ctx cap.toList)
      let bs ← M.lift (allSome capOf vs)
      if first.isEmpty then pure (.val (.s (.one (.fnp f bs)))) else M.fail
    | _ => M.fail
  | .call c =>
    match c.callee with
    | .value x => do
      let (f, bs) ← M.lift (fnOf (rd r ctx x))
      let vs ← M.lift (rdAll r ctx c.args.toList)
      evCall P S f (vs ++ bs.map fun b => .s (.one (.p b (.c 0)))) r.st.hp
    | .builtin b => do
      let vs ← M.lift (rdAll r ctx c.args.toList)
      match b, vs with
      | .max, [.s (.one (.i k a)), .s (.one (.i k' b))] =>
        if kEq k k' then do
          match a, b with
          | .z m, .z n => pure (.val (.s (.one (.i k (.z (if n > m then n else m))))))
          | a, b => do
            let c ← emit (.gtr b a)
            pure (.val (.s (.one (.i k (← mkIteI c b a)))))
        else M.fail
      | .min, [.s (.one (.i k a)), .s (.one (.i k' b))] =>
        if kEq k k' then do
          match a, b with
          | .z m, .z n => pure (.val (.s (.one (.i k (.z (if n < m then n else m))))))
          | a, b => do
            let c ← emit (.lss b a)
            pure (.val (.s (.one (.i k (← mkIteI c b a)))))
        else M.fail
      | .len, [v] => do pure (.val (← evLen P r.st.hp (← M.lift c.argTypes[0]?) v))
      | .append, [s, x] => do evAppend P r.st.hp (← M.lift c.argTypes[0]?) (← M.lift c.argTypes[1]?) s x
      | _, _ => M.fail
    | _ => M.fail
  | _ => M.fail

/-! ### One operation behind the other -/
def glNoGuard (d : Nat) (l : List GE) : Bool := l.all fun e => !Nat.beq e.d d
def glDrop (t : Nat) (l : List GE) : List GE := l.filter fun e => !Nat.beq e.t t

/-- Slot dst turns to v (none: nothing is known of it any more). -/
def RS.put (r : RS) (dst : Option Tmp) (v : Option V) : M RS :=
  match dst with
  | none => pure r
  | some d => if glNoGuard d r.gl then pure ⟨⟨setNth v r.st.sl d, r.st.hp⟩, glDrop d r.gl⟩ else M.fail

def RS.putG (r : RS) (dst : Option Tmp) (v : V) (d : Nat) (want : Bool) : M RS :=
  match dst with
  | none => pure r
  | some t =>
    if glNoGuard t r.gl && !Nat.beq t d && decide (t < r.st.sl.length) then pure ⟨⟨setNth none r.st.sl t, r.st.hp⟩, ⟨t, v, d, want⟩ :: glDrop t r.gl⟩ else M.fail

def St.lt (s : St) (n : Nat) : Bool := s.sl.all (optAll (V.lt n)) && s.hp.all (optAll (Blk.lt n))

/-- q: values alone (in a region whose order is drawn). -/
def stepOR (q : Bool) (r : RS) (dst : Option Tmp) (x : OR) : M RS :=
  match x with
  | .val v => r.put dst (some v)
  | .hp v hp =>
    if !q && (r.st.sl.all (optAll (V.lt r.st.hp.length)) && r.gl.all (fun e => e.v.lt r.st.hp.length)) then RS.put ⟨⟨r.st.sl, hp⟩, r.gl⟩ dst v
    else M.fail

def stepORg (r : RS) (dst : Option Tmp) (d : Nat) (want : Bool) (x : OR) : M RS :=
  match x with
  | .val v => r.putG dst v d want
  | _ => M.fail

def conj : List (A × Bool) → M A
  | [] => pure (.t true)
  | (a, b) :: l => do
    let x ← (if b then pure a else mkNot a)
    let r ← conj l
    mkAnd x r

/-- Where the guard holds the blocks are turned; where it does not they are as they were. -/
def stepORgHp (r : RS) (dst : Option Tmp) (d : Nat) (want : Bool) (cs : List (A × Bool)) (n0 : Nat) (v : Option V) (hp : List (Option Blk)) : M RS :=
  if r.st.sl.all (optAll (V.lt r.st.hp.length)) && r.gl.all (fun e => e.v.lt r.st.hp.length) && Nat.ble n0 r.st.hp.length then do
    let c ← conj cs
    let s ← mergeSt r.st.hp.length c ⟨r.st.sl, hp⟩ r.st
    match v with
    | some v => if v.lt 0 then RS.putG ⟨s, r.gl⟩ dst v d want else M.fail
    | none => RS.put ⟨s, r.gl⟩ dst none
  else M.fail

def evOper (P : Program) (S : Sigs) (q : Bool) (ops : List Oper) (r : RS) (o : Oper) : M RS :=
  match o.guard with
  | none => do
    let x ← evOp P S r [] o.op
    stepOR q r o.dst x
  | some (j, want) => do
    let d ← M.lift ((ops[j]?).bind (·.dst))
    match ← M.lift (guardInfo r 8 d want) with
    | none => r.put o.dst none
    | some (ctx, cs) =>
      match ctx with
      | [] => do
        let x ← evOp P S r [] o.op
        stepOR q r o.dst x
      | _ => do
        let x ← underAll cs (evOp P S r ctx o.op)
        match x with
        | .hp v hp => if q then M.fail else stepORgHp r o.dst d want cs S.n0 v hp
        | x => stepORg r o.dst d want x

def evOpers (P : Program) (S : Sigs) (q : Bool) (ops : List Oper) : List Oper → RS → M RS
  | [], r => pure r
  | o :: l, r => do
    let r1 ← evOper P S q ops r o
    evOpers P S q ops l r1

/-- Does this operation leave all blocks as they are? -/
def quietOp : Op → Bool
  | .alloc _ | .box _ _ | .store _ _ _ | .makeSlice _ _ _ | .slice _ _ _ _ _ | .buildSlice _ _ _ => false
  | .call c => match c.callee with
    | .builtin .append => false
    | _ => true
  | _ => true

def waitsAll (o : Oper) (n : Nat) : Bool := (List.range n).all fun i => o.after.any fun e => Region.binds .any e && Nat.beq e.on i
def backB (ops : List Oper) : Bool := ops.zipIdx.all fun p => (p.1.after.all fun e => !Region.binds .any e || Nat.blt e.on p.2) &&
  (match p.1.guard with | some (j, _) => Nat.blt j p.2 | none => true)
/-- The operations from number n on come last, one behind the other. -/
def tailB (ops : List Oper) (n : Nat) : Bool := (ops.zipIdx.drop n).all fun p => waitsAll p.1 p.2

/-! A region whose order is drawn, with stores among operations that look at no memory. -/
def pureOp : Op → Bool
  | .move _ | .assign _ | .nilCheck _ | .binOp _ _ _ _ _ | .unOp _ _ _ | .convert _ _ _ | .fieldAddr _ _ _ | .indexAddr _ _ _ | .load _ _ | .field _ _ _ | .index _ _ _ | .extract _ _ | .pick _ _ _ | .build _ _ => true
  | .call c =>
    match c.callee with
    | .builtin .len => true
    | _ => false
  | _ => false
/-- It looks at no block that is written. -/
def quietIn (fx : List Nat) (r : RS) (ctx : Ctx) : Op → Bool
  | .load _ x =>
    match rd r ctx x with
    | some (.s (.one (.p b _))) => !memN b fx
    | _ => true
  | _ => true
def evOpQ (P : Program) (S : Sigs) (fx : List Nat) (r : RS) (ctx : Ctx) (op : Op) : M OR := if quietIn fx r ctx op then evOp P S r ctx op else M.fail
def allocOp : Op → Bool
  | .alloc _ => true
  | _ => false
def evOperM (P : Program) (S : Sigs) (fx : List Nat) (ops : List Oper) (r : RS) (o : Oper) : M RS :=
  if allocOp o.op then (if o.guard.isNone then r.put o.dst (some (.s (.one (.p r.st.hp.length (.c 0))))) else M.fail) else
  match o.guard with
  | none => do
    let x ← evOpQ P S fx r [] o.op
    stepOR true r o.dst x
  | some (j, want) => do
    let d ← M.lift ((ops[j]?).bind (·.dst))
    match ← M.lift (guardInfo r 8 d want) with
    | none => r.put o.dst none
    | some (ctx, cs) =>
      match ctx with
      | [] => do
        let x ← evOpQ P S fx r [] o.op
        stepOR true r o.dst x
      | _ => do
        let x ← underAll cs (evOpQ P S fx r ctx o.op)
        match x with
        | .hp _ _ => M.fail
        | x => stepORg r o.dst d want x
def evOpersM (P : Program) (S : Sigs) (fx : List Nat) (ops : List Oper) : List Oper → RS → M RS
  | [], r => pure r
  | o :: l, r => do
    let r1 ← evOperM P S fx ops r o
    evOpersM P S fx ops l r1
def storeOp : Op → Bool
  | .store _ _ _ => true
  | _ => false
/-- What an operation waits for. -/
def depsOf (o : Oper) : List Nat := (o.after.toList.filter fun e => Region.binds .any e).map (·.on)
/-- What those in the list wait for, all along. -/
def reachFrom (ops : List Oper) : Nat → List Nat → List Nat
  | 0, l => l
  | n + 1, l => if memN n l then reachFrom ops n ((match ops[n]? with | some o => depsOf o | none => []) ++ l) else reachFrom ops n l
def nop (o : Oper) : Oper := if storeOp o.op then { o with op := .move (.const (.bool false)) } else o
def stateOp (o : Op) : Bool := storeOp o || allocOp o
/-- Instead of what turns the blocks: a value. -/
def nopN (N : Nat) (o : Oper) : Oper :=
  if storeOp o.op then { o with op := .move (.const (.bool false)) } else
  if allocOp o.op then { o with op := .move (.const (.pointer (some ⟨N, 0, none⟩))) } else o
def storeAt (ops : List Oper) : List Nat := (ops.zipIdx.filter fun p => stateOp p.1.op).map (·.2)
def tmpOf : Operand → List Nat
  | .tmp t => [t]
  | _ => []
def storeTmps : Op → List Nat
  | .store _ x y => tmpOf x ++ tmpOf y
  | _ => []
def sub1 (l m : List Nat) : Bool := l.all fun x => memN x m
def sorted : List Nat → Bool
  | a :: b :: l => Nat.blt a b && sorted (b :: l)
  | _ => true
/-- A store waits for the stores ahead of it, and for all that its operands come from. -/
def dstOk (anc : List Nat) (ts : List Nat) (p : Oper × Nat) : Bool :=
  match p.1.dst with
  | some t => !memN t ts || memN p.2 anc
  | none => true
def mixAt (ops : List Oper) (i : Nat) : Bool :=
  match ops[i]? with
  | some o => sub1 ((storeAt ops).filter fun j => Nat.blt j i) (reachFrom ops i (depsOf o)) && ops.zipIdx.all (dstOk (reachFrom ops i (depsOf o)) (storeTmps o.op))
  | none => false
def mixOk (ops : List Oper) : Bool :=
  ops.all (fun o => pureOp o.op || (stateOp o.op && o.guard.isNone && (allocOp o.op || o.dst.isNone))) && sorted (storeAt ops) && (storeAt ops).all (mixAt ops) && ((ops.filter fun o => stateOp o.op).drop 1).all fun o => storeOp o.op
def evStores (P : Program) (S : Sigs) (fx : List Nat) (sl : List (Option V)) (gl : List GE) : List Oper → List (Option Blk) → M (List (Option Blk))
  | [], hp => pure hp
  | o :: l, hp => do
    match o.op with
    | .store t x y =>
      match ← M.lift (rd ⟨⟨sl, hp⟩, gl⟩ [] x) with
      | .s (.one (.p b _)) =>
        if memN b fx then do
          let hp1 ← evStore P ⟨⟨sl, hp⟩, gl⟩ [] t x y
          evStores P S fx sl gl l hp1
        else M.fail
      | _ => M.fail
    | .alloc t =>
      let z ← M.lift (zeroCells P t)
      if memN hp.length fx && !z.any Lf.isNil && hpLt hp && z.all (Lf.lt hp.length) then evStores P S fx sl gl l (hp ++ [some (.c true (z.map some))])
      else M.fail
    | _ => M.fail

def evMixedAt (P : Program) (S : Sigs) (fx : List Nat) (ops : List Oper) (s : St) : M St := do
  if s.sl.all (optAll (V.lt s.hp.length)) && hpLt s.hp then do
    let r ← evOpersM P S fx (ops.map nop) (ops.map nop) ⟨s, []⟩
    let hp ← evStores P S fx r.st.sl r.gl (ops.filter fun o => stateOp o.op) s.hp
    pure ⟨r.st.sl, hp⟩
  else M.fail
def storeTo (r : RS) (o : Oper) : List Nat :=
  match o.op with
  | .store _ x _ =>
    match rd r [] x with
    | some (.s (.one (.p b _))) => [b]
    | _ => []
  | .alloc _ => [r.st.hp.length]
  | _ => []
/-- The blocks that are written: tried first. -/
def evMixed (P : Program) (S : Sigs) (ops : List Oper) (s : St) : M St := fun n =>
  evMixedAt P S (match evOpersM P S [] (ops.map nop) (ops.map nop) ⟨s, []⟩ n with | some (r, _, _, _) => ops.flatMap (storeTo r) | none => []) ops s n

def evRegion (P : Program) (S : Sigs) (ops : Array Oper) (draw : Bool) (s : St) : M St := do
  if draw then
    let n := (ops.toList.takeWhile fun o => quietOp o.op).length
    if Region.lexB .any (ops.toList.take n).toArray && tailB ops.toList n then
      if P.follows .mixedOrders && backB ops.toList then
        let r ← evOpers P S true (ops.toList.take n) (ops.toList.take n) ⟨s, []⟩
        let r2 ← evOpers P S false ops.toList (ops.toList.drop n) r
        pure r2.st
      else M.fail
    else if mixOk ops.toList && P.follows .mixedOrders && Region.lexB .any (ops.toList.map (nopN 0)).toArray && backB ops.toList then evMixed P S ops.toList s
    else M.fail
  else do
    let r ← evOpers P S false ops.toList ops.toList ⟨s, []⟩
    pure r.st

/-! ### Ways out -/
inductive K where
  | normal
  | ret
  | exit (id : Nat)
  | goto (l : Nat)
  deriving Inhabited

inductive X where
  | done (k : K) (s : St)
  | br (c : A) (x y : X)

def K.isNormal : K → Bool
  | .normal => true
  | _ => false

def X.nCond : X → M A
  | .done k _ => pure (.t k.isNormal)
  | .br c x y => do
    let a ← x.nCond
    let b ← y.nCond
    mkIteB c a b

def X.nSt (n0 : Nat) : X → M (Option St)
  | .done k s => pure (if k.isNormal then some s else none)
  | .br c x y => do
    match ← x.nSt n0, ← y.nSt n0 with
    | some a, some b => do pure (some (← mergeSt n0 c a b))
    | some a, none => pure (some a)
    | none, some b => pure (some b)
    | none, none => pure none

/-- Without the ways that end normally. -/
def X.kill : X → Option X
  | .done k s => if k.isNormal then none else some (.done k s)
  | .br c x y =>
    match x.kill, y.kill with
    | some a, some b => some (.br c a b)
    | some a, none => some a
    | none, some b => some b
    | none, none => none

def K.inBlock (id : Nat) : K → K
  | .exit i => if Nat.beq i id then .normal else .exit i
  | k => k
def X.inBlock (id : Nat) : X → X
  | .done k s => .done (k.inBlock id) s
  | .br c x y => .br c (x.inBlock id) (y.inBlock id)

def X.noGoto : X → Bool
  | .done k _ => match k with | .goto _ => false | _ => true
  | .br _ x y => x.noGoto && y.noGoto

/-- x, and f behind its normal ways. -/
def X.andThen (n0 : Nat) (x : X) (f : St → M X) : M X := do
  let c ← x.nCond
  match ← x.nSt n0 with
  | none => pure x
  | some s =>
    match x.kill with
    | none => f s
    | some z =>
      match c with
      | .t true => f s
      | c => do
        let y ← under c true (f s)
        pure (.br c y z)

/-! ### A loop as a function of its own -/
def A.below (n : Nat) : A → Bool
  | .r i => Nat.blt i n
  | _ => true
def Code.dsts : Code → List Tmp
  | .region _ ops _ => ops.toList.filterMap (·.dst)
  | .seq a b => Code.dsts a ++ Code.dsts b
  | .cond _ a b => Code.dsts a ++ Code.dsts b
  | .block _ c => Code.dsts c
  | .loop c => Code.dsts c
  | .scope c => Code.dsts c
  | _ => []

def K.beq : K → K → Bool
  | .normal, .normal => true
  | .ret, .ret => true
  | .exit a, .exit b => Nat.beq a b
  | .goto a, .goto b => Nat.beq a b
  | _, _ => false
def kindIx (k : K) : List K → Option Nat
  | [] => none
  | x :: l => if x.beq k then some 0 else (kindIx k l).map (· + 1)
def X.kinds : X → List K
  | .done k _ => if k.isNormal then [] else [k]
  | .br _ x y => x.kinds ++ (y.kinds.filter fun k => (kindIx k x.kinds).isNone)

/-- What comes out of a round that goes on no more: the way out's number, and what went round. -/
def X.couts (n0 : Nat) (p : Pat) (ks : List K) : X → M (List A)
  | .done k s => do
    let i ← M.lift (kindIx k ks)
    let g := guess p.tys.length p.st s
    if (p.st.inst g.1).sub g.2 s && keeps g.2 n0 then pure (.z i :: g.1) else M.fail
  | .br c x y => do
    let a ← x.couts n0 p ks
    let b ← y.couts n0 p ks
    mergeAs c (.i :: p.tys) a b

def K.toX (ka : A) (s : St) : Nat → List K → M X
  | _, [] => M.fail
  | _, [k] => pure (.done k s)
  | i, k :: l => do
    let e ← emit (.eql ka (.z i))
    let r ← K.toX ka s (i + 1) l
    pure (.br e (.done k s) r)

def X.sts : X → List St
  | .done _ s => [s]
  | .br _ x y => x.sts ++ y.sts

/-- The numbers below n in a list of operands. -/
def A.ids (n : Nat) : A → List Nat
  | .r i => if Nat.blt i n then [i] else []
  | _ => []
def Node.ops : Node → List A
  | .add _ a b | .sub _ a b | .mul _ a b | .land _ a b | .lor _ a b | .lxor _ a b | .landNot _ a b | .quo _ a b | .rem _ a b | .shl _ a b | .shr _ a b => [a, b]
  | .eql a b | .neq a b | .lss a b | .leq a b | .gtr a b | .geq a b | .beq a b | .bne a b | .and a b | .or a b => [a, b]
  | .not a => [a]
  | .itei c a b | .iteb c a b => [c, a, b]
  | .conv _ a => [a]
  | .seli l ix | .selb l ix => ix :: l
  | .call _ l _ => l
  | .lmk _ l => l
  | .llen _ a => [a]
  | .lgeti _ _ a ix | .lgetb _ _ a ix | .lgetl _ _ a ix => [a, ix]
  | .lset _ _ _ a ix x => [a, ix, x]
  | .lcat a b => [a, b]
  | .ltake _ a n | .ldrop _ a n => [a, n]
  | .lrep n _ l => n :: l
  | .itel c a b => [c, a, b]
def dedupN : List Nat → List Nat
  | [] => []
  | x :: l => let r := dedupN l; if memN x r then r else x :: r

structure Round where
  x : X
  c : A
  nx : List A
  ks : List K
  outs : List A

def fitNx (n0 : Nat) (p : Pat) : Option St → M (List A)
  | none => pure []
  | some so =>
    let g := guess p.tys.length p.st so
    if (p.st.inst g.1).sub g.2 so && keeps g.2 n0 then pure g.1 else M.fail
def roundOut (n0 : Nat) (p : Pat) (x : X) (c : A) (nx : List A) : Option X → M Round
  | none => M.fail
  | some z => do
    let outs ← z.couts n0 p z.kinds
    pure ⟨x, c, nx, z.kinds, outs⟩
def evRound (n0 : Nat) (ev : St → M X) (p : Pat) (sx : St) : M Round := do
  let x ← ev sx
  let c ← x.nCond
  let so ← x.nSt n0
  let nx ← fitNx n0 p so
  roundOut n0 p x c nx x.kill

def Node.refs (n : Nat) (x : Node) : Bool := x.ops.all (A.below n)
/-- The nodes bear the numbers n, n + 1, .., and each looks back alone. -/
def wfNodes (n : Nat) : Em → Bool
  | [] => true
  | (i, x) :: r => Nat.beq i n && x.refs n && wfNodes (n + 1) r
def obLp : LR → M Unit := fun l n => some ((), n, [], [.lp l])
def obLps : List LR → M Unit
  | [] => pure ()
  | l :: r => do obLp l; obLps r

def idsFrom (n : Nat) : Nat → List A
  | 0 => []
  | k + 1 => .r n :: idsFrom (n + 1) k
def beqAs : List A → List A → Bool
  | [], [] => true
  | a :: l, b :: l' => a.beq b && beqAs l l'
  | _, _ => false

/-- The loop's function at its place: what it is called with, and what it comes to. -/
def evLoopAt (fid : Nat) (p : Pat) (ins : List A) (l : LR) (ks : List K) : M X := do
  let args := l.inv.map A.r ++ ins
  let q ← emit (.call fid args 0)
  owe q
  let os ← callOuts fid args 1 l.outs.length
  if Nat.beq l.outs.length 0 then M.fail else K.toX (os.headD default) (p.st.inst os.tail) 0 ks

def idsOf (n : Nat) (e : Em) (d : List Ob) (r : Round) : List Nat :=
  e.flatMap (fun p => p.2.ops.flatMap (A.ids n)) ++ (ndsOf d).flatMap (fun q => (q.a :: q.path.map (·.1)).flatMap (A.ids n)) ++ (r.c :: (r.nx ++ r.outs)).flatMap (A.ids n)

def lrOf (fid n k : Nat) (e : Em) (d : List Ob) (r : Round) (ts : List Ty) : LR := ⟨fid, n, k, dedupN (idsOf n e d r), e, ndsOf d, r.c, r.nx, r.outs, ts⟩

def lrGo (fid : Nat) (p : Pat) (ins : List A) (d : List Ob) (l : LR) (ks : List K) : M X := do
  obLps (lpsOf d)
  obLp l
  evLoopAt fid p ins l ks

def evSymWith (n0 : Nat) (ev : St → M X) (fid : Nat) (p : Pat) (s : St) : M X := fun n =>
  let k := p.tys.length
  let g := guess k p.st s
  match evRound n0 ev p (p.st.inst (idsFrom n k)) (n + k) with
  | none => none
  | some (r, _, e, d) =>
    if (p.st.inst g.1).sub g.2 s && keeps g.2 n0 && Nat.ble n0 p.st.hp.length && p.st.tyOk (A.below n) p.tys && wfNodes (n + k) e && Nat.beq r.nx.length k then
      lrGo fid p g.1 d (lrOf fid n k e d r p.tys) r.ks n
    else none

/-- Which cells go round: tried, and tried again with what the first tries turned. -/
def patTry (ev : St → M X) (D : List Nat) (s : St) (n : Nat) : Nat → List St → Pat
  | 0, es => loopPat D es s
  | t + 1, es =>
    let p := loopPat D es s
    match ev (p.st.inst (idsFrom n p.tys.length)) (n + p.tys.length) with
    | none => p
    | some (x, _, _, _) => patTry ev D s n t (x.sts ++ es)

def evSym (n0 : Nat) (ev : St → M X) (fid : Nat) (D : List Nat) (s : St) : M X := fun n =>
  evSymWith n0 ev fid (patTry ev D s n 2 []) s n

/-- It gives up: such a branch is owed not to be gone. -/
def deadC : Code → Bool
  | .region _ ops _ => ops.toList.any fun o => match o.op with | .panic _ => true | _ => false
  | .seq a b => deadC a || (match a with | .region _ _ _ => deadC b | _ => false)
  | .scope c => deadC c
  | _ => false

def evCode (P : Program) (S : Sigs) : Nat → Code → St → M X
  | 0, _, _ => M.fail
  | n + 1, c, s =>
    match c with
    | .skip => pure (.done .normal s)
    | .label _ => pure (.done .normal s)
    | .region _ ops draw => do pure (.done .normal (← evRegion P S ops draw s))
    | .seq x y => do (← evCode P S n x s).andThen S.n0 (evCode P S n y)
    | .cond c x y => do
      match ← M.lift (rd ⟨s, []⟩ [] c) with
      | .s (.one (.b a)) =>
        match a with
        | .t true => evCode P S n x s
        | .t false => evCode P S n y s
        | a =>
          if deadC x then do
            owe (← mkNot a)
            evCode P S n y s
          else if deadC y then do
            owe a
            evCode P S n x s
          else do
            let u ← under a true (evCode P S n x s)
            let v ← under a false (evCode P S n y s)
            pure (.br a u v)
      | _ => M.fail
    | .block id c =>
      match assoc S.ls id with
      | some fid =>
        match c with
        | .loop b => do pure ((← evSym S.n0 (evCode P S n b) fid (Code.dsts b) s).inBlock id)
        | c => do pure ((← evCode P S n c s).inBlock id)
      | none => do pure ((← evCode P S n c s).inBlock id)
    | .loop c => do (← evCode P S n c s).andThen S.n0 (evCode P S n (.loop c))
    | .exit id => pure (.done (.exit id) s)
    | .goto l => pure (.done (.goto l) s)
    | .scope c => do
      let x ← evCode P S n c s
      if x.noGoto then pure x else M.fail
    | .ret => pure (.done .ret s)
    | _ => M.fail

/-! ### A function -/
def resOf (P : Program) (s : St) : List ResultVar → M (List V1)
  | [] => pure []
  | .tmp t :: l => do
    match ← M.lift (nth s.sl t) with
    | .s v => do pure (v :: (← resOf P s l))
    | _ => M.fail
  | .cell t ty :: l => do
    match ← M.lift (nth s.sl t) with
    | .s (.one (.p b off)) => do
      let k ← M.lift (tk P ty)
      let sz ← M.lift (tsize P ty)
      match ← M.lift (nth s.hp b) with
      | .c _ cs =>
        let v ← loadCells cs off (isAggT k) sz
        pure (v :: (← resOf P s l))
      | .v _ _ _ => M.fail
    | _ => M.fail

def K.ends : K → Bool
  | .normal | .ret => true
  | _ => false

/-- The results alone, each way's, and the blocks if they are asked for. -/
def X.res (P : Program) (rs : List ResultVar) (keep : Bool) : X → M X
  | .done k s => if k.ends then do
      let vs ← resOf P s rs
      pure (.done .normal ⟨[some (wrapResults vs)], if keep then s.hp else []⟩)
    else M.fail
  | .br c x y => do
    let a ← under c true (x.res P rs keep)
    let b ← under c false (y.res P rs keep)
    pure (.br c a b)

structure Out where
  nodes : Em
  owes : List Nd
  loops : List LR
  outs : List A


/-- Of what came in as cells the numbers stay. -/
def keepsC (hin : List (Option Blk)) (m : List Nat) : Nat → List (Option Blk) → Bool
  | _, [] => true
  | j, _ :: l => (!stays hin j || Nat.beq (rnm m j) j) && keepsC hin m (j + 1) l

def Sig.st0 (sg : Sig) (ntmps : Nat) : St :=
  let ids := idsFrom 0 sg.nin
  let ps := sg.ins.map (V.inst ids)
  ⟨ps.map some ++ List.replicate (ntmps - ps.length) none, sg.hin.map (Option.map (Blk.inst ids))⟩

def evBody (P : Program) (S : Sigs) (fuel : Nat) (c : Code) (rs : List ResultVar) (keep : Bool) (s : St) : M St := do
  let x ← evCode P S fuel c s
  let y ← x.res P rs keep
  let z ← y.nSt S.n0
  match z with
  | some z => pure z
  | none => M.fail

def outOf (sg : Sig) (z : St) (e : Em) (d : List Ob) : Option Out :=
  let p : St := ⟨[some sg.out], sg.hout⟩
  let g := guess sg.ots.length p z
  if (p.inst g.1).sub g.2 z && sg.ok && keepsC sg.hin g.2 0 sg.hout then some ⟨e, ndsOf d, lpsOf d, g.1⟩ else none

def evFn (P : Program) (S : Sigs) (fuel : Nat) (fn : Func) (sg : Sig) : Option Out :=
  match fn.body with
  | none => none
  | some c =>
    if Nat.beq S.n0 sg.hin.length then
      match evBody P S fuel c fn.results.toList (!(sg.hin.isEmpty && sg.hout.isEmpty)) (sg.st0 fn.ntmps) sg.nin with
      | none => none
      | some (z, _, e, d) => outOf sg z e d
    else none

end Go.Sx
