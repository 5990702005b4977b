/- An evaluator that turns the model's code of a function into a list of plain definitions (one node a value), with joins where ways meet: definitions alone. -/
import Derived.WalkKit
import Derived.ChangeKeysEq
import Derived.Laws.IdiomCopy
import Derived.MapKept
namespace Go.Sx
inductive A where
 | r (id:Nat)
 | z (n:Int)
 | t (b:Bool)
 /-- a hole of a pattern -/
 | h (j:Nat)
 deriving Inhabited
inductive DV where
 | i (n:Int)
 | b (x:Bool)
 | l (xs:List DV)
 deriving Inhabited
abbrev DV.toI:DV→Int
 | .i n=>n
 | .b _=>0
 | .l _=>0
abbrev DV.toB:DV→Bool
 | .b x=>x
 | .i _=>false
 | .l _=>false
abbrev DV.toL:DV→List DV
 | .l x=>x
 | .i _=>[]
 | .b _=>[]
inductive Ty where
 | i
 | b
 | l
 deriving Inhabited
def nrm:Ty→DV→DV
 | .i,d=>.i d.toI
 | .b,d=>.b d.toB
 | .l,d=>.l d.toL
def nrmZ:List Ty→List DV→List DV
 | t::ts,d::ds=>nrm t d::nrmZ ts ds
 | _,_=>[]
def Ty.beq:Ty→Ty→Bool
 | .i,.i | .b,.b | .l,.l=>true
 | _,_=>false
def Ty.eqAt:Ty→DV→DV→Prop
 | .i,d,e=>d.toI=e.toI
 | .b,d,e=>d.toB=e.toB
 | .l,d,e=>d.toL=e.toL
abbrev A.den (ν:Nat→DV):A→DV
 | .r id=>ν id
 | .z n=>.i n
 | .t b=>.b b
 | .h _=>.i 0
abbrev A.int (ν:Nat→DV) (a:A):Int:=(a.den ν).toI
abbrev A.bool (ν:Nat→DV) (a:A):Bool:=(a.den ν).toB
abbrev A.cells (ν:Nat→DV) (a:A):List DV:=(a.den ν).toL
def A.beq:A→A→Bool
 | .r a,.r b=>Nat.beq a b
 | .z a,.z b=>decide (a=b)
 | .t a,.t b=>a==b
 | .h a,.h b=>Nat.beq a b
 | _,_=>false
def kEq:IntKind→IntKind→Bool
 | .i8,.i8 | .i16,.i16 | .i32,.i32 | .i64,.i64 | .u8,.u8 | .u16,.u16 | .u32,.u32 | .u64,.u64=>true
 | _,_=>false
inductive Node where
 | add (k:IntKind) (a b:A)
 | sub (k:IntKind) (a b:A)
 | mul (k:IntKind) (a b:A)
 | land (k:IntKind) (a b:A)
 | lor (k:IntKind) (a b:A)
 | lxor (k:IntKind) (a b:A)
 | landNot (k:IntKind) (a b:A)
 | quo (k:IntKind) (a b:A)
 | rem (k:IntKind) (a b:A)
 | shl (k:IntKind) (a b:A)
 | shr (k:IntKind) (a b:A)
 | eql (a b:A)
 | neq (a b:A)
 | lss (a b:A)
 | leq (a b:A)
 | gtr (a b:A)
 | geq (a b:A)
 | beq (a b:A)
 | bne (a b:A)
 | not (a:A)
 | and (a b:A)
 | or (a b:A)
 | itei (c a b:A)
 | iteb (c a b:A)
 | conv (k:IntKind) (a:A)
 | seli (l:List A) (ix:A)
 | selb (l:List A) (ix:A)
 | call (f:Nat) (args:List A) (j:Nat)
 /-- rows: these cells; how many elements of sz cells; a cell of an element; with a cell of an element anew; one behind the other; the first n elements; without them; n times the same cells; by a bool -/
 | lmk (ts:List Ty) (l:List A)
 | llen (sz:Nat) (a:A)
 | lgeti (sz j:Nat) (a ix:A)
 | lgetb (sz j:Nat) (a ix:A)
 | lgetl (sz j:Nat) (a ix:A)
 | lset (sz j:Nat) (t:Ty) (a ix x:A)
 | lcat (a b:A)
 | ltake (sz:Nat) (a n:A)
 | ldrop (sz:Nat) (a n:A)
 | lrep (n:A) (ts:List Ty) (l:List A)
 | itel (c a b:A)
 /-- of cells told by a row: the first n, one of them anew; n cells from a place on -/
 | aset (n sz j:Nat) (t:Ty) (a ix x:A)
 | lsub (n sz j:Nat) (a ix:A)
 /-- do the cells tell the same bytes? -/
 | sbeq (a b:A)
 deriving Inhabited
abbrev FEnv:=Nat→List DV→List DV
def zew (k:IntKind) (x:Int):BitVec k.bits:=BitVec.ofInt k.bits x
def zaj (k:IntKind) (x y:Int):Int:=k.wrap (zew k x &&& zew k y).toNat
def ilor (k:IntKind) (x y:Int):Int:=k.wrap (zew k x ||| zew k y).toNat
def zeD (k:IntKind) (x y:Int):Int:=k.wrap (zew k x ^^^ zew k y).toNat
def ziA (k:IntKind) (x y:Int):Int:=k.wrap (zew k x &&& ~~~ (zew k y)).toNat
def ishl (k:IntKind) (x y:Int):Int:=k.wrap (x*2^min y.toNat k.bits)
def ishr (k:IntKind) (x y:Int):Int:=x.fdiv (2^min y.toNat k.bits)
def DV.byte (d:DV):UInt8:=UInt8.ofNat d.toI.toNat
def zhU:List DV→List DV→Bool
 | [],[]=>true
 | x::l,y::l'=>x.byte==y.byte&&zhU l l'
 | _,_=>false
def padN (n:Nat) (l:List DV):List DV:=(List.range n).map fun k=>l.getD k default
def zbf (F:FEnv) (ν:Nat→DV):Node→DV
 | .add k a b=>.i (k.wrap (a.int ν+b.int ν))
 | .sub k a b=>.i (k.wrap (a.int ν-b.int ν))
 | .mul k a b=>.i (k.wrap (a.int ν*b.int ν))
 | .land k a b=>.i (zaj k (a.int ν) (b.int ν))
 | .lor k a b=>.i (ilor k (a.int ν) (b.int ν))
 | .lxor k a b=>.i (zeD k (a.int ν) (b.int ν))
 | .landNot k a b=>.i (ziA k (a.int ν) (b.int ν))
 | .quo k a b=>.i (k.wrap ((a.int ν).tdiv (b.int ν)))
 | .rem _ a b=>.i ((a.int ν).tmod (b.int ν))
 | .shl k a b=>.i (ishl k (a.int ν) (b.int ν))
 | .shr k a b=>.i (ishr k (a.int ν) (b.int ν))
 | .eql a b=>.b (a.int ν==b.int ν)
 | .neq a b=>.b (a.int ν != b.int ν)
 | .lss a b=>.b (decide (a.int ν<b.int ν))
 | .leq a b=>.b (decide (a.int ν≤b.int ν))
 | .gtr a b=>.b (decide (a.int ν>b.int ν))
 | .geq a b=>.b (decide (a.int ν≥b.int ν))
 | .beq a b=>.b (a.bool ν==b.bool ν)
 | .bne a b=>.b (a.bool ν != b.bool ν)
 | .not a=>.b (!a.bool ν)
 | .and a b=>.b (a.bool ν&&b.bool ν)
 | .or a b=>.b (a.bool ν||b.bool ν)
 | .itei c a b=>.i (bif c.bool ν then a.int ν else b.int ν)
 | .iteb c a b=>.b (bif c.bool ν then a.bool ν else b.bool ν)
 | .conv k a=>.i (k.wrap (a.int ν))
 | .seli l ix=>.i ((l.map (A.int ν)).getD (ix.int ν).toNat 0)
 | .selb l ix=>.b ((l.map (A.bool ν)).getD (ix.int ν).toNat false)
 | .call f args j=>(F f (args.map (A.den ν))).getD j default
 | .lmk ts l=>.l (nrmZ ts (l.map (A.den ν)))
 | .llen sz a=>.i ((a.cells ν).length/sz:Nat)
 | .lgeti sz j a ix=>.i ((a.cells ν).getD ((ix.int ν).toNat*sz+j) default).toI
 | .lgetb sz j a ix=>.b ((a.cells ν).getD ((ix.int ν).toNat*sz+j) default).toB
 | .lgetl sz j a ix=>.l ((a.cells ν).getD ((ix.int ν).toNat*sz+j) default).toL
 | .lset sz j t a ix x=>.l ((a.cells ν).set ((ix.int ν).toNat*sz+j) (nrm t (x.den ν)))
 | .lcat a b=>.l (a.cells ν++b.cells ν)
 | .ltake sz a n=>.l ((a.cells ν).take ((n.int ν).toNat*sz))
 | .ldrop sz a n=>.l ((a.cells ν).drop ((n.int ν).toNat*sz))
 | .lrep n ts l=>.l (List.replicate (n.int ν).toNat (nrmZ ts (l.map (A.den ν)))).flatten
 | .itel c a b=>.l (bif c.bool ν then a.cells ν else b.cells ν)
 | .aset n sz j t a ix x=>.l ((padN n (a.cells ν)).set ((ix.int ν).toNat*sz+j) (nrm t (x.den ν)))
 | .lsub n sz j a ix=>.l ((List.range n).map fun k=>(a.cells ν).getD ((ix.int ν).toNat*sz+j+k) default)
 | .sbeq a b=>.b (zhU (a.cells ν) (b.cells ν))
inductive Off where
 | c (n:Nat)
 | s (base:Nat) (ix:A) (sz len:Nat)
 /-- a cell of an element of a row whose cells are a -/
 | v (base:Nat) (ix:A) (sz:Nat) (a:A)
 /-- one of a row of a row -/
 | d (base:Nat) (ix:A) (sz len:Nat) (ix2:A) (sz2 len2:Nat)
 /-- one of a row of cells of an element of a row whose cells are a -/
 | w (base:Nat) (ix:A) (sz:Nat) (a:A) (ix2:A) (sz2 len2:Nat)
 deriving Inhabited
def Off.val (ν:Nat→DV):Off→Nat
 | .c n=>n
 | .s base ix sz _=>base+(ix.int ν).toNat*sz
 | .v base ix sz _=>base+(ix.int ν).toNat*sz
 | .d base ix sz _ ix2 sz2 _=>base+(ix.int ν).toNat*sz+(ix2.int ν).toNat*sz2
 | .w base ix sz _ ix2 sz2 _=>base+(ix.int ν).toNat*sz+(ix2.int ν).toNat*sz2
def Off.plus:Off→Nat→Off
 | .c n,k=>.c (n+k)
 | .s b ix sz len,k=>.s (b+k) ix sz len
 | .v b ix sz a,k=>.v (b+k) ix sz a
 | .d b ix sz len ix2 sz2 len2,k=>.d (b+k) ix sz len ix2 sz2 len2
 | .w b ix sz a ix2 sz2 len2,k=>.w (b+k) ix sz a ix2 sz2 len2
def Off.beq:Off→Off→Bool
 | .c x1,.c y1=>Nat.beq x1 y1
 | .s x1 x2 x3 x4,.s y1 y2 y3 y4=>Nat.beq x1 y1&&x2.beq y2&&Nat.beq x3 y3&&Nat.beq x4 y4
 | .v x1 x2 x3 x4,.v y1 y2 y3 y4=>Nat.beq x1 y1&&x2.beq y2&&Nat.beq x3 y3&&x4.beq y4
 | .d x1 x2 x3 x4 x5 x6 x7,.d y1 y2 y3 y4 y5 y6 y7=>Nat.beq x1 y1&&x2.beq y2&&Nat.beq x3 y3&&Nat.beq x4 y4&&x5.beq y5&&Nat.beq x6 y6&&Nat.beq x7 y7
 | .w x1 x2 x3 x4 x5 x6 x7,.w y1 y2 y3 y4 y5 y6 y7=>Nat.beq x1 y1&&x2.beq y2&&Nat.beq x3 y3&&x4.beq y4&&x5.beq y5&&Nat.beq x6 y6&&Nat.beq x7 y7
 | _,_=>false
structure Loc where
 blk:Nat
 off:Nat
 nil:Bool
 len:Nat
 cap:Nat
 /-- of a row without room: what stands for its place -/
 raw:Option Addr
 deriving Inhabited
def Loc.slice (r:Loc):Value:=.slice (bif r.nil then r.raw else some ⟨r.blk,r.off,none⟩) r.len r.cap
inductive LT where
 | int (k:IntKind)
 | bool
 /-- a row whose elements have such cells -/
 | vec (ts:List LT)
 deriving Inhabited
def LT.feq:LT→LT→Bool
 | .int k,.int k'=>kEq k k'
 | .bool,.bool=>true
 | _,_=>false
def LT.ty:LT→Ty
 | .int _=>.i
 | .bool=>.b
 | .vec _=>.l
inductive Alt where
 | nilp
 | nili
 | p (blk:Nat) (n:Nat)
 | ifp (t:Nat) (blk:Nat)
 deriving Inhabited
inductive Lf where
 | i (k:IntKind) (a:A)
 | b (a:A)
 | p (blk:Nat) (off:Off)
 | gp (g:Nat) (off:Off)
 | nilp
 /-- a slice: the whole of a row -/
 | vec (blk:Nat)
 /-- a number or a bool that stands in a row -/
 | e (t:LT) (a:A) (i:Nat)
 /-- a function that bears places: blocks -/
 | fnp (f:Nat) (bs:List Nat)
 /-- an interface that holds the place where a block begins -/
 | ifp (t:Nat) (blk:Nat)
 /-- a string: its bytes -/
 | str (a:A)
 /-- a map: a block -/
 | mp (blk:Nat)
 /-- one of some, by a number -/
 | alt (a:A) (l:List (Nat×Alt))
 | v (x:Value)
 deriving Inhabited
def zaP:List (Nat×Alt)→Nat→Option Alt
 | [],_=>none
 | x::l,n=>if Nat.beq x.1 n then some x.2 else zaP l n
def Alt.conc (ρ:Nat→Loc):Alt→Value
 | .nilp=>.pointer none
 | .nili=>.nilIface
 | .p q n=>.pointer (some ⟨(ρ q).blk,(ρ q).off+n,none⟩)
 | .ifp t q=>.iface t (.pointer (some ⟨(ρ q).blk,(ρ q).off+0,none⟩))
def Alt.lt (n:Nat):Alt→Bool
 | .p q _=>decide (q<n)
 | .ifp _ q=>decide (q<n)
 | _=>true
def Alt.beq:Alt→Alt→Bool
 | .nilp,.nilp=>true
 | .nili,.nili=>true
 | .p q n,.p q' n'=>Nat.beq q q'&&Nat.beq n n'
 | .ifp t q,.ifp t' q'=>Nat.beq t t'&&Nat.beq q q'
 | _,_=>false
def zhn:List (Nat×Alt)→List (Nat×Alt)→Bool
 | [],[]=>true
 | x::l,y::l'=>Nat.beq x.1 y.1&&x.2.beq y.2&&zhn l l'
 | _,_=>false
def zbk (ρ:Nat→Loc) (l:List (Nat×Alt)) (n:Nat):Value :=
 match zaP l n with
 | some x=>x.conc ρ
 | none=>.pointer none
def zqo (n:Nat) (l:List (Nat×Alt)):Bool:=l.all fun x=>x.2.lt n
def zbd (ρ:Nat→Loc) (bs:List Nat):Array Value:=(bs.map fun b=>Value.pointer (some ⟨(ρ b).blk,(ρ b).off+0,none⟩)).toArray
def ziU:List Nat→List Nat→Bool
 | [],[]=>true
 | a::l,b::l'=>Nat.beq a b&&ziU l l'
 | _,_=>false
def zfC (l:List DV):ByteArray:=⟨(l.map DV.byte).toArray⟩
def Lf.conc (ν:Nat→DV) (ρ:Nat→Loc):Lf→Value
 | .i k a=>.int k (a.int ν)
 | .b a=>.bool (a.bool ν)
 | .p blk off=>.pointer (some ⟨(ρ blk).blk,(ρ blk).off+off.val ν,none⟩)
 | .gp g off=>.pointer (some ⟨g,off.val ν,none⟩)
 | .nilp=>.pointer none
 | .vec blk=>(ρ blk).slice
 | .e (.int k) a j=>.int k ((a.cells ν).getD j default).toI
 | .e _ a j=>.bool ((a.cells ν).getD j default).toB
 | .fnp f bs=>.func (.func f) #[] (zbd ρ bs)
 | .ifp t q=>.iface t (.pointer (some ⟨(ρ q).blk,(ρ q).off+0,none⟩))
 | .str a=>.string (zfC (a.cells ν))
 | .mp q=>.map (some (ρ q).blk)
 | .alt a l=>zbk ρ l (a.int ν).toNat
 | .v x=>x
def Lf.ok:Lf→Bool
 | .v x=>x.oneCell'
 | _=>true
def Lf.scalar:Lf→Bool
 | .i _ _ | .b _ | .e _ _ _=>true
 | _=>false
def Lf.lt (n:Nat):Lf→Bool
 | .p blk _=>decide (blk<n)
 | .vec blk=>decide (blk<n)
 | .fnp _ bs=>bs.all fun b=>decide (b<n)
 | .ifp _ q=>decide (q<n)
 | .mp q=>decide (q<n)
 | .alt _ l=>zqo n l
 | _=>true
inductive V1 where
 | one (l:Lf)
 | agg (l:List Lf)
 deriving Inhabited
def V1.conc (ν:Nat→DV) (ρ:Nat→Loc):V1→Value
 | .one l=>l.conc ν ρ
 | .agg l=>.agg (l.map (Lf.conc ν ρ)).toArray
def V1.cells:V1→List Lf
 | .one l=>[l]
 | .agg l=>l
def V1.lt (n:Nat) (v:V1):Bool:=v.cells.all (Lf.lt n)
inductive V where
 | s (v:V1)
 | t (l:List V1)
 deriving Inhabited
def V.conc (ν:Nat→DV) (ρ:Nat→Loc):V→Value
 | .s v=>v.conc ν ρ
 | .t l=>.tuple (l.map (V1.conc ν ρ)).toArray
def V.lt (n:Nat):V→Bool
 | .s v=>v.lt n
 | .t l=>l.all (V1.lt n)
inductive Blk where
 | c (own:Bool) (cs:List (Option Lf))
 | v (own:Bool) (ts:List LT) (a:A)
 /-- a thing of kind k that holds a -/
 | obj (own:Bool) (k:Nat) (a:A)
 /-- a row that is appended to alone: what it holds is written no more; its spare room, if it has any, is its own; full: it has none -/
 | l (own full:Bool) (ts:List LT) (a:A)
 /-- a map: how many cells a key has (and is it an aggregate?), how many a value; all entries' cells, in some order -/
 | m (own:Bool) (kt vt:Bool×Nat) (cs:List Lf)
 deriving Inhabited
def zdD (k:Nat):Bool:=Nat.ble 1000 k
def kb (k:Nat):Nat:=bif zdD k then k-1000 else k
def Blk.own:Blk→Bool
 | .c o _=>o
 | .v o _ _=>o
 | .obj o _ _=>o
 | .l o _ _ _=>o
 | .m o _ _ _=>o
structure St where
 sl:List (Option V)
 hp:List (Option Blk)
 deriving Inhabited
structure Nd where
 path:List (A×Bool)
 a:A
 deriving Inhabited
def Nd.holds (ν:Nat→DV) (n:Nd):Prop:=(∀ c∈n.path,c.1.bool ν=c.2)→n.a.bool ν=true
abbrev Em:=List (Nat×Node)
def Sat (F:FEnv) (ν:Nat→DV) (e:Em):Prop:=∀ p∈e,ν p.1=zbf F ν p.2
def look (base:Nat→DV) (n0:Nat) (vs:List DV) (n i:Nat):DV :=
 bif Nat.blt i n0 then base i else vs.getD (n-1-i) default
def zaU (F:FEnv) (base:Nat→DV) (n0:Nat):Em→List DV→Nat→List DV
 | [],vs,_=>vs
 | (_,x)::r,vs,n=>zaU F base n0 r (zbf F (look base n0 vs n) x::vs) (n+1)
structure LH where
 mat:List (Nat×List LT):=[]
 fz:List Nat:=[]
 cs:List (Nat×List (Nat×Nat)):=[]
 vs:List Nat:=[]
 deriving Inhabited
structure LR where
 fid:Nat
 n:Nat
 k:Nat
 inv:List Nat
 nodes:Em
 owes:List Nd
 c:A
 nx:List A
 outs:List A
 ts:List Ty:=[]
 lh:LH:={}
 deriving Inhabited
def LR.env (F:FEnv) (l:LR) (ν:Nat→DV) (xs:List DV):Nat→DV :=
 look ν l.n (zaU F ν l.n l.nodes xs.reverse (l.n+l.k)) (l.n+l.k+l.nodes.length)
def TEq:List Ty→List DV→List DV→Prop
 | t::ts,a::as,b::bs=>t.eqAt a b∧TEq ts as bs
 | [],[],[]=>True
 | _,_,_=>False
def zas (F:FEnv) (l:LR):Prop :=
 ∃ μ:List DV→Nat,∀ (ν:Nat→DV) (xs:List DV),xs.length=l.k →
  ((F l.fid (l.inv.map ν++xs)).getD 0 default).toB=true →
  (∀ q∈l.owes,Nd.holds (l.env F ν xs) q) ∧
  (l.c.bool (l.env F ν xs)=true →
   ((F l.fid (l.inv.map ν++l.nx.map (A.den (l.env F ν xs)))).getD 0 default).toB=true ∧
   F l.fid (l.inv.map ν++l.nx.map (A.den (l.env F ν xs)))=F l.fid (l.inv.map ν++xs) ∧
   μ (l.inv.map ν++l.nx.map (A.den (l.env F ν xs)))<μ (l.inv.map ν++xs)) ∧
  (l.c.bool (l.env F ν xs)=false→TEq (.i::l.ts) ((F l.fid (l.inv.map ν++xs)).drop 1) (l.outs.map (A.den (l.env F ν xs))))
inductive Ob where
 | nd (q:Nd)
 | lp (l:LR)
def Ob.holds (F:FEnv) (ν:Nat→DV):Ob→Prop
 | .nd q=>q.holds ν
 | .lp l=>zas F l
def Ob.under (c:A) (b:Bool):Ob→Ob
 | .nd q=>.nd ⟨(c,b)::q.path,q.a⟩
 | .lp l=>.lp l
def zir:List Ob→List Nd
 | []=>[]
 | .nd q::l=>q::zir l
 | .lp _::l=>zir l
def zho:List Ob→List LR
 | []=>[]
 | .nd _::l=>zho l
 | .lp q::l=>q::zho l
def M (α:Type):=Nat→Option (α×Nat×Em×List Ob)
def M.pure {α:Type} (a:α):M α:=fun n=>some (a,n,[],[])
def M.bind {α β:Type} (x:M α) (f:α→M β):M β:=fun n =>
 match x n with
 | none=>none
 | some (a,n1,e1,d1) =>
  match f a n1 with
  | none=>none
  | some (b,n2,e2,d2)=>some (b,n2,e1++e2,d1++d2)
instance:Monad M where
 pure:=M.pure
 bind:=M.bind
def M.fail {α:Type} : M α:=fun _=>none
def M.lift {α:Type} (o:Option α):M α:=fun n =>
 match o with
 | none=>none
 | some a=>some (a,n,[],[])
def emit (x:Node):M A:=fun n=>some (.r n,n+1,[(n,x)],[])
def owe (a:A):M Unit:=fun n=>some ((),n,[],[.nd ⟨[],a⟩])
def under {α:Type} (c:A) (b:Bool) (x:M α):M α:=fun n =>
 match x n with
 | none=>none
 | some (a,n1,e,d)=>some (a,n1,e,d.map (Ob.under c b))
def zoB:A→M A
 | .t b=>pure (.t !b)
 | a=>emit (.not a)
def zsb:A→A→M A
 | .t true,b=>pure b
 | .t false,_=>pure (.t false)
 | a,.t true=>pure a
 | _,.t false=>pure (.t false)
 | a,b=>emit (.and a b)
def zgp (c a b:A):M A :=
 match c with
 | .t true=>pure a
 | .t false=>pure b
 | c=>if a.beq b then pure a else emit (.itei c a b)
def zlf (c a b:A):M A :=
 match c with
 | .t true=>pure a
 | .t false=>pure b
 | c=>if a.beq b then pure a else
  match a,b with
  | .t true,.t false=>pure c
  | .t false,.t true=>emit (.not c)
  | .t true,b=>emit (.or c b)
  | a,.t false=>emit (.and c a)
  | a,b=>emit (.iteb c a b)
def zsc (c a b:A):M A :=
 match c with
 | .t true=>pure a
 | .t false=>pure b
 | c=>if a.beq b then pure a else emit (.itel c a b)
def zlg (b:A):M Unit :=
 match b with
 | .z m=>if m=0 then M.fail else pure ()
 | b=>do owe (←emit (.neq b (.z 0)))
def zeE (b:A):M Unit :=
 match b with
 | .z m=>if 0≤m then pure () else M.fail
 | b=>do owe (←emit (.geq b (.z 0)))
def zw3 (op:BinOp) (k:IntKind) (a b:A):M Lf :=
 match op,a,b with
 | .add,.z x,.z y=>pure (.i k (.z (k.wrap (x+y))))
 | .sub,.z x,.z y=>pure (.i k (.z (k.wrap (x-y))))
 | .mul,.z x,.z y=>pure (.i k (.z (k.wrap (x*y))))
 | .and,.z x,.z y=>pure (.i k (.z (zaj k x y)))
 | .or,.z x,.z y=>pure (.i k (.z (ilor k x y)))
 | .xor,.z x,.z y=>pure (.i k (.z (zeD k x y)))
 | .andNot,.z x,.z y=>pure (.i k (.z (ziA k x y)))
 | .eql,.z x,.z y=>pure (.b (.t (x==y)))
 | .neq,.z x,.z y=>pure (.b (.t (x != y)))
 | .lss,.z x,.z y=>pure (.b (.t (decide (x<y))))
 | .leq,.z x,.z y=>pure (.b (.t (decide (x≤y))))
 | .gtr,.z x,.z y=>pure (.b (.t (decide (x>y))))
 | .geq,.z x,.z y=>pure (.b (.t (decide (x≥y))))
 | .quo,.z x,.z y=>do zlg (.z y);pure (.i k (.z (k.wrap (x.tdiv y))))
 | .rem,.z x,.z y=>do zlg (.z y);pure (.i k (.z (x.tmod y)))
 | .add,a,b=>do pure (.i k (←emit (.add k a b)))
 | .sub,a,b=>do pure (.i k (←emit (.sub k a b)))
 | .mul,a,b=>do pure (.i k (←emit (.mul k a b)))
 | .and,a,b=>do pure (.i k (←emit (.land k a b)))
 | .or,a,b=>do pure (.i k (←emit (.lor k a b)))
 | .xor,a,b=>do pure (.i k (←emit (.lxor k a b)))
 | .andNot,a,b=>do pure (.i k (←emit (.landNot k a b)))
 | .eql,a,b=>do pure (.b (←emit (.eql a b)))
 | .neq,a,b=>do pure (.b (←emit (.neq a b)))
 | .lss,a,b=>do pure (.b (←emit (.lss a b)))
 | .leq,a,b=>do pure (.b (←emit (.leq a b)))
 | .gtr,a,b=>do pure (.b (←emit (.gtr a b)))
 | .geq,a,b=>do pure (.b (←emit (.geq a b)))
 | .quo,a,b=>do zlg b;pure (.i k (←emit (.quo k a b)))
 | .rem,a,b=>do zlg b;pure (.i k (←emit (.rem k a b)))
 | _,_,_=>M.fail
def zl1 (op:BinOp) (k:IntKind) (a b:A):M Lf :=
 match op,a,b with
 | .shl,.z x,.z y=>do zeE (.z y);pure (.i k (.z (ishl k x y)))
 | .shr,.z x,.z y=>do zeE (.z y);pure (.i k (.z (ishr k x y)))
 | .shl,a,b=>do zeE b;pure (.i k (←emit (.shl k a b)))
 | .shr,a,b=>do zeE b;pure (.i k (←emit (.shr k a b)))
 | _,_,_=>M.fail
def ziB (op:BinOp) (a b:A):M Lf :=
 match op,a,b with
 | .eql,.t x,.t y=>pure (.b (.t (x==y)))
 | .neq,.t x,.t y=>pure (.b (.t (x != y)))
 | .eql,a,b=>do pure (.b (←emit (.beq a b)))
 | .neq,a,b=>do pure (.b (←emit (.bne a b)))
 | _,_,_=>M.fail
inductive TK where
 | int (k:IntKind)
 | bool
 | arr (len elem:Nat)
 | struct (fs:List (Nat×Nat))
 | slice (elem:Nat)
 | ptr (elem:Nat)
 | other
 deriving Inhabited
def tkOf:TypeDesc→TK
 | .int k=>.int k
 | .bool=>.bool
 | .array len elem=>.arr len elem
 | .struct fs=>.struct (fs.toList.map fun f=>(f.offset,f.type))
 | .slice e=>.slice e
 | .pointer e=>.ptr e
 | _=>.other
def tk (P:Program) (t:TypeId):Option TK:=(P.underlying t).map tkOf
def zaO (P:Program) (t:TypeId):Option Nat:=(P.info? t).map (·.size)
def zb3:TK→Bool
 | .arr _ _ | .struct _=>true
 | _=>false
def ziV:Value→Option Lf
 | .int k n=>some (.i k (.z n))
 | .bool b=>some (.b (.t b))
 | .pointer none=>some .nilp
 | .pointer (some _)=>none
 | .agg _=>none
 | .tuple _=>none
 | v=>some (.v v)
def zby {α β:Type} (f:α→Option β):List α→Option (List β)
 | []=>some []
 | a::l =>
  match f a with
  | none=>none
  | some b =>
   match zby f l with
   | none=>none
   | some r=>some (b::r)
def zoC:Value→Option V1
 | .agg cs=>(zby ziV cs.toList).map .agg
 | v=>(ziV v).map .one
def zeroCells (P:Program) (t:TypeId):Option (List Lf) :=
 match P.info? t with
 | none=>none
 | some i =>
  match i.zero with
  | none=>none
  | some z=>zby ziV z.cells.toList
structure Sig where
 ins:List V
 hin:List (Option Blk)
 its:List Ty
 out:V
 hout:List (Option Blk)
 ots:List Ty
 /-- does the first result tell whether the call may be made? -/
 need:Bool
 deriving Inhabited
def Sig.nin (sg:Sig):Nat:=sg.its.length
def zdZ:List V1→V
 | [v]=>.s v
 | l=>.t l
def assoc {α:Type} : List (Nat×α)→Nat→Option α
 | [],_=>none
 | (g,s)::r,f=>if Nat.beq f g then some s else assoc r f
structure Sigs where
 fs:List (Nat×Sig)
 gs:List (Nat×List Lf)
 ls:List (Nat×Nat)
 /-- so many blocks came in -/
 n0:Nat:=0
 hs:List (Nat×LH):=[]
 /-- kinds of things that are told apart here -/
 opn:List Nat:=[]
 deriving Inhabited
def Sigs.get (l:Sigs) (f:Nat):Option Sig:=assoc l.fs f
def zqp (P:Program) (f:FuncId):Bool :=
 match P.funcs[f]? with
 | some fn => !(fn.name == "runtime.NumGoroutine") && fn.body.isSome
 | none=>false
def St.blk (s:St) (b:Nat):Option Blk:=(s.hp[b]?).join
def za5:List (Option Lf)→Nat→Nat→Option (List Lf)
 | _,_,0=>some []
 | [],_,_+1=>none
 | _::l,o+1,n+1=>za5 l o (n+1)
 | c::l,0,n+1 =>
  match c with
  | none=>none
  | some x =>
   match za5 l 0 n with
   | none=>none
   | some r=>some (x::r)
def zhV:List (Option Lf)→Nat→Option Lf
 | [],_=>none
 | c::_,0=>c
 | _::l,n+1=>zhV l n
def zbA (l:List (Option Lf)) (base sz:Nat):Nat→Option (List Lf)
 | 0=>some []
 | n+1 =>
  match zhV l base with
  | none=>none
  | some x =>
   match zbA l (base+sz) sz n with
   | none=>none
   | some r=>some (x::r)
def zdb (k:IntKind):List Lf→Option (List A)
 | []=>some []
 | .i k' a::l =>
  if kEq k k' then
   match zdb k l with
   | none=>none
   | some r=>some (a::r)
  else none
 | _::_=>none
def zb4:List Lf→Option (List A)
 | []=>some []
 | .b a::l =>
  match zb4 l with
  | none=>none
  | some r=>some (a::r)
 | _::_=>none
def rowE (t:LT) (a:A) (d:Nat):Nat→List Lf→Bool
 | _,[]=>true
 | i,.e u b j::l=>t.feq u&&b.beq a&&Nat.beq i j&&rowE t a d (i+d) l
 | _,_=>false
def zhp (i0:Nat):List Lf→Nat
 | .e _ _ i1::_=>i1-i0
 | _=>1
def zqq:Lf→M Lf
 | .e (.int k) a i=>do pure (.i k (←emit (.lgeti 1 i a (.z 0))))
 | .e .bool a i=>do pure (.b (←emit (.lgetb 1 i a (.z 0))))
 | x=>pure x
def zeF (l:List Lf) (ix:A):M Lf :=
 match l with
 | .i k _::_=>do
  let xs ←M.lift (zdb k l)
  pure (.i k (←emit (.seli xs ix)))
 | .b _::_=>do
  let xs ←M.lift (zb4 l)
  pure (.b (←emit (.selb xs ix)))
 | .e (.int k) a i0::r =>
  if rowE (.int k) a (zhp i0 r) i0 l then do pure (.i k (←emit (.lgeti (zhp i0 r) i0 a ix))) else M.fail
 | .e .bool a i0::r =>
  if rowE .bool a (zhp i0 r) i0 l then do pure (.b (←emit (.lgetb (zhp i0 r) i0 a ix))) else M.fail
 | _=>M.fail
def zni (l:List (Option Lf)) (base sz len:Nat) (ix:A):Nat→M (List Lf)
 | 0=>pure []
 | n+1=>do
  let row ←M.lift (zbA l base sz len)
  let x ←zeF row ix
  let r ←zni l (base+1) sz len ix n
  pure (x::r)
def zl2 (l:List (Option Lf)) (base sz len:Nat) (ix:A) (sz2:Nat):Nat→M (List Lf)
 | 0=>pure []
 | n+1=>do
  let row ←M.lift (zbA l base sz len)
  let x ←zeF row ix
  let r ←zl2 l (base+sz2) sz len ix sz2 n
  pure (x::r)
def zdE (cs:List (Option Lf)) (off:Off) (agg:Bool) (size:Nat):M V1 :=
 match off,agg with
 | .c o,true=>do pure (.agg (←M.lift (za5 cs o size)))
 | .c o,false=>do pure (.one (←zqq (←M.lift (zhV cs o))))
 | .s base ix sz len,true=>do pure (.agg (←zni cs base sz len ix size))
 | .s base ix sz len,false=>do
  let row ←M.lift (zbA cs base sz len)
  pure (.one (←zeF row ix))
 | .d base ix sz len ix2 sz2 len2,false=>do
  let row ←zl2 cs base sz len ix sz2 len2
  pure (.one (←zeF row ix2))
 | _,_=>M.fail
def zcn:List (Option Lf)→Nat→List Lf→Option (List (Option Lf))
 | l,_,[]=>some l
 | [],_,_::_=>none
 | c::l,o+1,xs=>(zcn l o xs).map (c::·)
 | _::l,0,x::xs=>(zcn l 0 xs).map (some x::·)
def Lf.beq:Lf→Lf→Bool
 | .i x1 x2,.i y1 y2=>kEq x1 y1&&x2.beq y2
 | .b x1,.b y1=>x1.beq y1
 | .p x1 x2,.p y1 y2=>Nat.beq x1 y1&&x2.beq y2
 | .gp x1 x2,.gp y1 y2=>Nat.beq x1 y1&&x2.beq y2
 | .nilp,.nilp=>true
 | .vec x,.vec y=>Nat.beq x y
 | .fnp f bs,.fnp g cs=>Nat.beq f g&&ziU bs cs
 | .ifp t q,.ifp t' q'=>Nat.beq t t'&&Nat.beq q q'
 | .str x,.str y=>x.beq y
 | .mp q,.mp q'=>Nat.beq q q'
 | .alt a l,.alt a' l'=>a.beq a'&&zhn l l'
 | .e t1 a1 j1,.e t2 a2 j2=>t1.feq t2&&a1.beq a2&&Nat.beq j1 j2
 | _,_=>false
def zk4:Lf→Option (A×List (Nat×Alt))
 | .nilp=>some (.z 0,[(0,.nilp)])
 | .v .nilIface=>some (.z 0,[(0,.nili)])
 | .p q (.c n)=>some (.z (1+q*4096+n:Nat),[(1+q*4096+n,.p q n)])
 | .ifp t q=>some (.z (1+t:Nat),[(1+t,.ifp t q)])
 | .alt a l=>some (a,l)
 | _=>none
def zd0:List (Nat×Alt)→List (Nat×Alt)→Option (List (Nat×Alt))
 | [],l'=>some l'
 | x::l,l' =>
  match zd0 l l' with
  | none=>none
  | some r =>
   match zaP r x.1 with
   | none=>some (x::r)
   | some y=>if x.2.beq y then some r else none
def zl3 (c:A) (x y:Lf):M (Option Lf) :=
 if x.beq y then pure (some x) else
 match x,y with
 | .i k a,.i k' b=>if kEq k k' then do pure (some (.i k (←zgp c a b))) else pure none
 | .b a,.b b=>do pure (some (.b (←zlf c a b)))
 | _,_=>pure none
def zl4 (c:A) (x y:Lf):M (Option Lf) :=
 if x.beq y then pure (some x) else
 match x,y with
 | .i k a,.i k' b=>if kEq k k' then do pure (some (.i k (←zgp c a b))) else pure none
 | .b a,.b b=>do pure (some (.b (←zlf c a b)))
 | x,y =>
  match zk4 x,zk4 y with
  | some p,some q =>
   match zd0 p.2 q.2 with
   | some l=>do pure (some (.alt (←zgp c p.1 q.1) l))
   | none=>pure none
  | _,_=>pure none
def ziC (c:A):List Lf→List Lf→M (Option (List Lf))
 | [],[]=>pure (some [])
 | x::l,y::l'=>do
  let a ←zl4 c x y
  let b ←ziC c l l'
  pure (match a,b with
   | some a,some b=>some (a::b)
   | _,_=>none)
 | _,_=>pure none
def zl5 (c:A) (x y:V1):M (Option V1) :=
 match x,y with
 | .one a,.one b=>do pure ((←zl4 c a b).map .one)
 | .agg a,.agg b=>do pure ((←ziC c a b).map .agg)
 | _,_=>pure none
def ziD (c:A):List V1→List V1→M (Option (List V1))
 | [],[]=>pure (some [])
 | x::l,y::l'=>do
  let a ←zl5 c x y
  let b ←ziD c l l'
  pure (match a,b with
   | some a,some b=>some (a::b)
   | _,_=>none)
 | _,_=>pure none
def zsd (c:A) (x y:V):M (Option V) :=
 match x,y with
 | .s a,.s b=>do pure ((←zl5 c a b).map .s)
 | .t a,.t b=>do pure ((←ziD c a b).map .t)
 | _,_=>pure none
def zex (ix:A) (x:Lf):List (Option Lf)→(base sz len j:Nat)→M (List (Option Lf))
 | l,_,_,0,_=>pure l
 | [],_,_,_+1,_=>M.fail
 | c::l,base+1,sz,len+1,j=>do pure (c::(←zex ix x l base sz (len+1) j))
 | c::l,0,sz,len+1,j =>
  match c with
  | none=>M.fail
  | some old=>do
   let e ←emit (.eql ix (.z j))
   match ←zl3 e x old with
   | none=>M.fail
   | some y=>do pure (some y::(←zex ix x l (sz-1) sz len (j+1)))
def zse {α:Type} (p:α→Bool):Option α→Bool
 | some x=>p x
 | none=>false
def zqr (t:LT) (x:Lf):Option A :=
 match t,x with
 | .int k,.i k' a=>if kEq k k' then some a else none
 | .bool,.b a=>some a
 | _,_=>none
def affB (a:A) (P0 J0:Nat):Nat→List (Option Lf)→Bool
 | _,[]=>true
 | p,some (.e _ b j)::l=>(!b.beq a||Nat.beq (j+P0) (p+J0))&&affB a P0 J0 (p+1) l
 | p,_::l=>affB a P0 J0 (p+1) l
def maxE (a:A):List (Option Lf)→Nat
 | []=>0
 | some (.e _ b j)::l=>if b.beq a then max (j+1) (maxE a l) else maxE a l
 | _::l=>maxE a l
def zoD (a a':A):List (Option Lf)→List (Option Lf)
 | []=>[]
 | some (.e t b j)::l=>some (if b.beq a then .e t a' j else .e t b j)::zoD a a' l
 | c::l=>c::zoD a a' l
def putE (ix:A) (x:Lf) (l:List (Option Lf)) (base sz len:Nat):M (List (Option Lf)) :=
 match zbA l base sz len with
 | some (.e t a i0::r) =>
  if rowE t a sz i0 (.e t a i0::r)&&affB a base i0 0 l then do
   let v ←M.lift (zqr t x)
   let a' ←emit (.aset (maxE a l) sz i0 t.ty a ix v)
   pure (zoD a a' l)
  else M.fail
 | _=>zex ix x l base sz len 0
def zl6 (ix:A):List Lf→List (Option Lf)→(base sz len:Nat)→M (List (Option Lf))
 | [],l,_,_,_=>pure l
 | x::xs,l,base,sz,len=>do
  let l1 ←putE ix x l base sz len
  zl6 ix xs l1 (base+1) sz len
def isE:Lf→Bool
 | .e _ _ _=>true
 | _=>false
def zl7:List Lf→List (Option Lf)→Nat→M (List (Option Lf))
 | [],l,_=>pure l
 | x::xs,l,o=>do
  let l1 ←(match zhV l o with
   | some (.e _ _ _)=>if isE x then M.lift (zcn l o [x]) else putE (.z 0) x l o 1 1
   | _=>M.lift (zcn l o [x]))
  zl7 xs l1 (o+1)
def zeG (cs:List (Option Lf)) (off:Off) (xs:List Lf):M (List (Option Lf)) :=
 match off with
 | .c o=>if cs.any (zse isE) then zl7 xs cs o else M.lift (zcn cs o xs)
 | .s base ix sz len=>if decide (0<sz) then zl6 ix xs cs base sz len else M.fail
 | _=>M.fail
def zao {α:Type} (p:α→Bool):Option α→Bool
 | some x=>p x
 | none=>true
def nth {α:Type} : List (Option α)→Nat→Option α
 | [],_=>none
 | x::_,0=>x
 | _::l,n+1=>nth l n
end Go.Sx
namespace Go.Sx
def A.inst (ops:List A):A→A
 | .h j=>ops.getD j default
 | a=>a
def Off.inst (ops:List A):Off→Off
 | .c n=>.c n
 | .s b ix sz len=>.s b (ix.inst ops) sz len
 | .v b ix sz a=>.v b (ix.inst ops) sz (a.inst ops)
 | .d b ix sz len ix2 sz2 len2=>.d b (ix.inst ops) sz len (ix2.inst ops) sz2 len2
 | .w b ix sz a ix2 sz2 len2=>.w b (ix.inst ops) sz (a.inst ops) (ix2.inst ops) sz2 len2
def Lf.inst (ops:List A):Lf→Lf
 | .i k a=>.i k (a.inst ops)
 | .b a=>.b (a.inst ops)
 | .p blk off=>.p blk (off.inst ops)
 | .gp g off=>.gp g (off.inst ops)
 | .e t1 a1 j1=>.e t1 (a1.inst ops) j1
 | .str a=>.str (a.inst ops)
 | .alt a l=>.alt (a.inst ops) l
 | x=>x
def V1.inst (ops:List A):V1→V1
 | .one l=>.one (l.inst ops)
 | .agg l=>.agg (l.map (Lf.inst ops))
def V.inst (ops:List A):V→V
 | .s v=>.s (v.inst ops)
 | .t l=>.t (l.map (V1.inst ops))
def Blk.inst (ops:List A):Blk→Blk
 | .c o cs=>.c o (cs.map (Option.map (Lf.inst ops)))
 | .v o ts a=>.v o ts (a.inst ops)
 | .obj o k a=>.obj o k (a.inst ops)
 | .l o f ts a=>.l o f ts (a.inst ops)
 | .m o kt vt cs=>.m o kt vt (cs.map (Lf.inst ops))
def zap (n:Nat):Nat→List A
 | 0=>[]
 | k+1=>.r n::zap (n+1) k
structure PatD where
 hp:List (Option Blk)
 tys:List Ty
 par:List (Nat×Nat)
 ex:Bool
def zvH (j:Nat):Option Lf→Bool
 | some (.vec n)=>Nat.beq n j
 | _=>false
def zvI (j:Nat):Option Lf→Bool
 | some (.p n (.c m))=>Nat.beq n j&&Nat.beq m 0
 | _=>false
def parB (hp : List (Option Blk)) (j : Nat) (bk : Blk) (q : Nat × Nat) : Bool :=
  Nat.blt q.1 j &&
  (match nth hp q.1 with
   | some (.c _ cs) =>
     (match bk with
      | .v _ _ _ => zvH j (nth cs q.2)
      | .c _ _ => zvI j (nth cs q.2)
      | .obj _ _ _ => zvI j (nth cs q.2)
      | .l _ _ _ _ => zvH j (nth cs q.2)
      | .m _ _ _ _ => false)
   | _ => false)
def zk5 (hp:List (Option Blk)):Nat→List (Option Blk)→List (Nat×Nat)→Bool
 | _,[],_=>true
 | j,some bk::l,q::r=>parB hp j bk q&&zk5 hp (j+1) l r
 | _,_,_=>false
def zyn:Option Blk→Bool
 | some (.c _ _)=>true
 | _=>false
def Blk.kindLt (k:Nat):Blk→Bool
 | .obj _ k' _=>Nat.blt k' k&&!zdD k'
 | _=>true
def Lf.noV0:Lf→Bool
 | .vec n=>!Nat.beq n 0
 | .fnp _ _=>false
 | .ifp _ _=>false
 | .mp _=>false
 | .alt _ _=>false
 | _=>true
def Blk.noV0:Blk→Bool
 | .c _ cs=>cs.all (zao Lf.noV0)
 | .m _ _ _ cs=>cs.all Lf.noV0
 | _=>true
def PatD.ok (p:PatD):Bool:=zyn (nth p.hp 0)&&zk5 p.hp 1 (p.hp.drop 1) p.par&&p.hp.all (zao Blk.noV0)
def Blk.froze:Blk→Blk
 | .c _ cs=>.c false cs
 | .v _ ts a=>.v false ts a
 | .obj _ k a=>.obj false k a
 | .l _ f ts a=>.l false f ts a
 | .m _ kt vt cs=>.m false kt vt cs
def PatD.rd (o:Bool) (p:PatD):PatD:=if o then p else ⟨p.hp.map (Option.map Blk.froze),p.tys,p.par,p.ex⟩
def PatD.ids (p:PatD):PatD:=⟨p.hp.map (Option.map (Blk.inst (zap 0 p.tys.length))),p.tys,p.par,p.ex⟩
end Go.Sx
namespace Go.Sx
def cI (k:IntKind) (j:Nat):Option Lf:=some (.i k (.h j))
def cB (j:Nat):Option Lf:=some (.b (.h j))
def cV (b:Nat):Option Lf:=some (.vec b)
def cP (b:Nat):Option Lf:=some (.p b (.c 0))
def ziE:PatD:=⟨[some (.c true [cI .u64 0,cI .u64 1,cI .u64 2])],[.i,.i,.i],[],true⟩
def zqs:Nat→Nat→List (Option Lf)
 | 0,_=>[]
 | n+1,j=>some (.e (.int .i64) (.h 0) j)::some (.e .bool (.h 0) (j+1))::some (.e .bool (.h 0) (j+2))::some (.e .bool (.h 0) (j+3))::some (.e .bool (.h 0) (j+4))::some (.e .bool (.h 0) (j+5))::zqs n (j+6)
def zw4:PatD:=⟨[some (.c true (List.append (zqs 9 0) [cI .i64 1,cI .i64 2]))],[.l,.i,.i],[],true⟩
def zvJ:PatD:=⟨[some (.c true [cI .u64 0,cI .u64 1,cI .u64 2,cV 1,cV 2,cV 3]),some (.v true [.int .u64] (.h 3)),some (.v true [.int .u64] (.h 4)),some (.v true [.int .u64] (.h 5))],
 [.i,.i,.i,.l,.l,.l],[(0,3),(0,4),(0,5)],true⟩
def zw5:PatD:=⟨[some (.c true [cV 1,cV 2,cB 2,cB 3,cI .u8 4]),some (.l true false [.int .u8] (.h 0)),some (.l true false [.int .u8] (.h 1))],[.l,.l,.b,.b,.i],[(0,0),(0,1)],false⟩
def zvK:PatD:=⟨[some (.c true [cV 1,cV 2,cI .i64 2,cI .u64 3,cI .u64 4,cI .u64 5]),some (.v true [.int .u8] (.h 0)),some (.v true [.int .u8] (.h 1))],[.l,.l,.i,.i,.i,.i],[(0,0),(0,1)],true⟩
def evTs:List LT:=[.int .i64,.int .i64,.int .i64,.int .u64]
def zyo:PatD:=⟨[some (.c true [cP 1,cP 2,cP 3,cP 4,cI .i64 4,cV 5,cB 6]),some (.obj true 0 (.h 0)),some (.obj true 2 (.h 1)),some (.obj true 4 (.h 2)),some (.obj true 6 (.h 3)),some (.v false evTs (.h 5))],
 [.l,.l,.l,.l,.i,.l,.b],[(0,0),(0,1),(0,2),(0,3),(0,5)],false⟩
def zw6:PatD:=⟨[some (.c true [cP 1,cP 2,cP 3,cP 4,cI .i64 4,cV 5,cI .i64 6,cB 7]),some (.obj true 1 (.h 0)),some (.obj true 3 (.h 1)),some (.obj true 5 (.h 2)),some (.obj true 7 (.h 3)),some (.v false evTs (.h 5))],
 [.l,.l,.l,.l,.i,.l,.i,.b],[(0,0),(0,1),(0,2),(0,3),(0,5)],false⟩
def pats:List PatD:=[ziE,ziE,zw4,zvJ,zw5,zvK,zyo,zw6]
end Go.Sx
namespace Go.Sx
def zvL:Nat→Bool
 | 0 | 1=>true
 | k+2=>match pats[k]? with
  | some p=>p.ex
  | none=>false
def Blk.shr:Blk→Bool
 | .obj o k _=>o&&!zvL (kb k)
 | .l o _ _ _=>o
 | _=>false
def Blk.exB:Blk→Bool
 | .obj o k _=>o&&zvL (kb k)
 | .l _ _ _ _=>false
 | b=>b.own
def zfD (k:Nat) (p:PatD):Bool:=p.ok&&p.hp.all (zao (Blk.kindLt k))&&(!p.ex||p.hp.all (zao Blk.exB))
end Go.Sx
namespace Go.Sx
def St.inst (ops:List A) (s:St):St:=⟨s.sl.map (Option.map (V.inst ops)),s.hp.map (Option.map (Blk.inst ops))⟩
def A.tyOk (p:A→Bool) (tys:List Ty) (t:Ty):A→Bool
 | .h j=>zao t.beq tys[j]?&&decide (j<tys.length)
 | a=>p a
def Off.tyOk (p:A→Bool) (tys:List Ty):Off→Bool
 | .c _=>true
 | .s _ ix _ _=>ix.tyOk p tys .i
 | .v _ ix _ a=>ix.tyOk p tys .i&&a.tyOk p tys .l
 | .d _ ix _ _ ix2 _ _=>ix.tyOk p tys .i&&ix2.tyOk p tys .i
 | .w _ ix _ a ix2 _ _=>(ix.tyOk p tys .i&&a.tyOk p tys .l)&&ix2.tyOk p tys .i
def Lf.tyOk (p:A→Bool) (tys:List Ty):Lf→Bool
 | .i _ a=>a.tyOk p tys .i
 | .b a=>a.tyOk p tys .b
 | .p _ off | .gp _ off=>off.tyOk p tys
 | .e _ a1 _=>a1.tyOk p tys .l
 | .str a=>a.tyOk p tys .l
 | .alt a _=>a.tyOk p tys .i
 | _=>true
def V1.tyOk (p:A→Bool) (tys:List Ty) (v:V1):Bool:=v.cells.all (Lf.tyOk p tys)
def V.tyOk (p:A→Bool) (tys:List Ty):V→Bool
 | .s v=>v.tyOk p tys
 | .t l=>l.all (V1.tyOk p tys)
def Blk.tyOk (p:A→Bool) (tys:List Ty):Blk→Bool
 | .c _ cs=>cs.all (zao (Lf.tyOk p tys))
 | .v _ _ a=>a.tyOk p tys .l
 | .obj _ _ a=>a.tyOk p tys .l
 | .l _ _ _ a=>a.tyOk p tys .l
 | .m _ _ _ cs=>cs.all (Lf.tyOk p tys)
def St.tyOk (p:A→Bool) (tys:List Ty) (s:St):Bool:=s.sl.all (zao (V.tyOk p tys))&&s.hp.all (zao (Blk.tyOk p tys))
def beqB':Bool→Bool→Bool
 | true,b=>b
 | false,b=>!b
def rnm (m:List Nat) (j:Nat):Nat:=m.getD j 0
def vBeq:Value→Value→Bool
 | .func (.func f) a b,.func (.func g) c d=>Nat.beq f g&&Nat.beq a.size 0&&Nat.beq b.size 0&&Nat.beq c.size 0&&Nat.beq d.size 0
 | .slice none 0 0,.slice none 0 0=>true
 | .nilFunc,.nilFunc=>true
 | .nilIface,.nilIface=>true
 | _,_=>false
def Alt.ren (m:List Nat):Alt→Alt
 | .p q n=>.p (rnm m q) n
 | .ifp t q=>.ifp t (rnm m q)
 | x=>x
def zhq (m:List Nat) (l:List (Nat×Alt)):List (Nat×Alt):=l.map fun x=>(x.1,x.2.ren m)
def zsf (l l':List (Nat×Alt)):Bool:=l.all fun x=>match zaP l' x.1 with | some y=>x.2.beq y | none=>false
def zsg (m:List Nat) (a:A) (l:List (Nat×Alt)) (y:Lf):Bool :=
 match zk4 y with
 | some q=>(match y,a with
  | .alt _ _,_=>a.beq q.1
  | _,.z n=>(match q.2 with | [x]=>decide (n=(x.1:Int)) | _=>false)
  | _,_=>false)&&zsf q.2 (zhq m l)
 | none=>false
def Lf.sub (m:List Nat):Lf→Lf→Bool
 | .i k a,.i k' a'=>kEq k k'&&a.beq a'
 | .b a,.b a'=>a.beq a'
 | .p k off,.p k' off'=>Nat.beq (rnm m k) k'&&off.beq off'
 | .gp g off,.gp g' off'=>Nat.beq g g'&&off.beq off'
 | .nilp,.nilp=>true
 | .vec k,.vec k'=>Nat.beq (rnm m k) k'
 | .fnp f bs,.fnp g cs=>Nat.beq f g&&ziU (bs.map (rnm m)) cs
 | .ifp t q,.ifp t' q'=>Nat.beq t t'&&Nat.beq (rnm m q) q'
 | .str x,.str y=>x.beq y
 | .mp k,.mp k'=>Nat.beq (rnm m k) k'
 | .alt a l,y=>zsg m a l y
 | .v x,.v y=>vBeq x y
 | .e t1 a1 j1,.e t2 a2 j2=>t1.feq t2&&a1.beq a2&&Nat.beq j1 j2
 | _,_=>false
def Lfs.sub (m:List Nat):List Lf→List Lf→Bool
 | [],[]=>true
 | x::l,y::l'=>x.sub m y&&Lfs.sub m l l'
 | _,_=>false
def V1.sub (m:List Nat):V1→V1→Bool
 | .one x,.one y=>x.sub m y
 | .agg x,.agg y=>Lfs.sub m x y
 | _,_=>false
def V1s.sub (m:List Nat):List V1→List V1→Bool
 | [],[]=>true
 | x::l,y::l'=>x.sub m y&&V1s.sub m l l'
 | _,_=>false
def V.sub (m:List Nat):V→V→Bool
 | .s x,.s y=>x.sub m y
 | .t x,.t y=>V1s.sub m x y
 | _,_=>false
def zbq (m:List Nat):List (Option V)→List (Option V)→Bool
 | [],[]=>true
 | none::l,_::l'=>zbq m l l'
 | some x::l,some y::l'=>x.sub m y&&zbq m l l'
 | _,_=>false
def zdc (m:List Nat):List (Option Lf)→List (Option Lf)→Bool
 | [],_=>true
 | none::l,l'=>zdc m l l'.tail
 | some x::l,some y::l'=>x.sub m y&&zdc m l l'
 | some _::_,_=>false
def zhW:List LT→List LT→Bool
 | [],[]=>true
 | .int k::l,.int k'::l'=>kEq k k'&&zhW l l'
 | .bool::l,.bool::l'=>zhW l l'
 | _,_=>false
def LT.beq:LT→LT→Bool
 | .int k,.int k'=>kEq k k'
 | .bool,.bool=>true
 | .vec l,.vec l'=>zhW l l'
 | _,_=>false
def LTs.beq:List LT→List LT→Bool
 | [],[]=>true
 | t::l,u::l'=>t.beq u&&LTs.beq l l'
 | _,_=>false
def ktB (a b:Bool×Nat):Bool:=beqB' a.1 b.1&&Nat.beq a.2 b.2
def Blk.sub (m:List Nat):Blk→Blk→Bool
 | .c o cs,.c o' cs'=>(!o||(o'&&Nat.beq cs.length cs'.length))&&zdc m cs cs'
 | .v o ts a,.v o' ts' a'=>(!o||o')&&LTs.beq ts ts'&&a.beq a'
 | .obj o k a,.obj o' k' a'=>(!o||o')&&Nat.beq k k'&&a.beq a'
 | .l o f ts a,.l o' f' ts' a'=>(!o||o')&&(!f||f')&&LTs.beq ts ts'&&a.beq a'
 | .l o f ts a,.v o' ts' a'=>(!o||o')&&!f&&LTs.beq ts ts'&&a.beq a'
 | .v o ts a,.l _ _ ts' a'=>!o&&LTs.beq ts ts'&&a.beq a'
 | .m o kt vt cs,.m o' kt' vt' cs'=>(!o||o')&&ktB kt kt'&&ktB vt vt'&&Lfs.sub m cs cs'
 | _,_=>false
def zcS (m:List Nat) (hp:List (Option Blk)):Nat→List (Option Blk)→Bool
 | _,[]=>true
 | j,none::l=>zcS m hp (j+1) l
 | j,some x::l=>(match nth hp (rnm m j) with | some y=>x.sub m y | none=>false)&&zcS m hp (j+1) l
def ziW (m:List Nat) (i b:Nat):Nat→List (Option Blk)→Bool
 | _,[]=>true
 | j,none::l=>ziW m i b (j+1) l
 | j,some _::l=>(Nat.beq j i||!Nat.beq (rnm m j) b)&&ziW m i b (j+1) l
def zhX (m:List Nat) (all:List (Option Blk)):Nat→List (Option Blk)→Bool
 | _,[]=>true
 | j,none::l=>zhX m all (j+1) l
 | j,some x::l=>(!x.own||ziW m j (rnm m j) 0 all)&&zhX m all (j+1) l
def St.sub (m:List Nat) (x y:St):Bool:=zbq m x.sl y.sl&&zcS m y.hp 0 x.hp&&zhX m x.hp 0 x.hp
def zhr (m:List Nat):Nat→Bool
 | 0=>true
 | n+1=>zhr m n&&Nat.beq (rnm m n) n
structure Gs where
 hs:List (Nat×A)
 ms:List (Nat×Nat)
def gA (g:Gs):A→A→Gs
 | .h j,a=>⟨(j,a)::g.hs,g.ms⟩
 | _,_=>g
def gOff (g:Gs):Off→Off→Gs
 | .s _ ix _ _,.s _ ix' _ _=>gA g ix ix'
 | .v _ ix _ a,.v _ ix' _ a'=>gA (gA g ix ix') a a'
 | .d _ ix _ _ ix2 _ _,.d _ ix' _ _ ix2' _ _=>gA (gA g ix ix') ix2 ix2'
 | .w _ ix _ a ix2 _ _,.w _ ix' _ a' ix2' _ _=>gA (gA (gA g ix ix') a a') ix2 ix2'
 | _,_=>g
def zvM (g:Gs) (l':List (Nat×Alt)):List (Nat×Alt)→Gs
 | []=>g
 | x::l =>
  match x.2,zaP l' x.1 with
  | .p q _,some (.p q' _)=>zvM ⟨g.hs,(q,q')::g.ms⟩ l' l
  | .ifp _ q,some (.ifp _ q')=>zvM ⟨g.hs,(q,q')::g.ms⟩ l' l
  | _,_=>zvM g l' l
def gAlt (g:Gs) (a:A) (l:List (Nat×Alt)) (y:Lf):Gs :=
 match zk4 y with
 | some q=>zvM (gA g a q.1) q.2 l
 | none=>g
def gLf (g:Gs):Lf→Lf→Gs
 | .i _ a,.i _ b=>gA g a b
 | .b a,.b b=>gA g a b
 | .p pb off,.p b off'=>gOff ⟨g.hs,(pb,b)::g.ms⟩ off off'
 | .gp _ off,.gp _ off'=>gOff g off off'
 | .fnp _ bs,.fnp _ cs=>⟨g.hs,bs.zip cs++g.ms⟩
 | .ifp _ x,.ifp _ y=>⟨g.hs,(x,y)::g.ms⟩
 | .str x,.str y=>gA g x y
 | .vec pb,.vec b=>⟨g.hs,(pb,b)::g.ms⟩
 | .mp pb,.mp b=>⟨g.hs,(pb,b)::g.ms⟩
 | .alt a l,y=>gAlt g a l y
 | .e _ a _,.e _ b _=>(match a with | .h j=>if (assoc g.hs j).isSome then g else gA g a b | _=>g)
 | _,_=>g
def gLfs (g:Gs):List Lf→List Lf→Gs
 | x::l,y::l'=>gLfs (gLf g x y) l l'
 | _,_=>g
def gV1 (g:Gs):V1→V1→Gs
 | .one x,.one y=>gLf g x y
 | .agg x,.agg y=>gLfs g x y
 | _,_=>g
def gV1s (g:Gs):List V1→List V1→Gs
 | x::l,y::l'=>gV1s (gV1 g x y) l l'
 | _,_=>g
def gV (g:Gs):V→V→Gs
 | .s x,.s y=>gV1 g x y
 | .t x,.t y=>gV1s g x y
 | _,_=>g
def zsh (g:Gs):List (Option V)→List (Option V)→Gs
 | some x::l,some y::l'=>zsh (gV g x y) l l'
 | _::l,_::l'=>zsh g l l'
 | _,_=>g
def zsi (g:Gs):List (Option Lf)→List (Option Lf)→Gs
 | some x::l,some y::l'=>zsi (gLf g x y) l l'
 | _::l,_::l'=>zsi g l l'
 | _,_=>g
def gBlk (g:Gs):Blk→Blk→Gs
 | .c _ cs,.c _ cs'=>zsi g cs cs'
 | .v _ _ a,.v _ _ a'=>gA g a a'
 | .obj _ _ a,.obj _ _ a'=>gA g a a'
 | .l _ _ _ a,.l _ _ _ a'=>gA g a a'
 | .l _ _ _ a,.v _ _ a'=>gA g a a'
 | .v _ _ a,.l _ _ _ a'=>gA g a a'
 | .m _ _ _ cs,.m _ _ _ cs'=>gLfs g cs cs'
 | _,_=>g
def zsj (hp:List (Option Blk)) (g:Gs):Nat→List (Option Blk)→Gs
 | _,[]=>g
 | j,none::l=>zsj hp g (j+1) l
 | j,some x::l =>
  match nth hp ((assoc g.ms j).getD j) with
  | some y=>zsj hp (gBlk g x y) (j+1) l
  | none=>zsj hp g (j+1) l
def zsk (g:Gs) (n:Nat):List A:=(List.range n).map fun j=>(assoc g.hs j).getD default
def zzK (g:Gs) (n:Nat):List Nat:=(List.range n).map fun j=>(assoc g.ms j).getD j
def zd1 (n:Nat) (pat act:St):List A×List Nat :=
 let g0:=zsh ⟨[],[]⟩ pat.sl act.sl
 let g1:=zsj act.hp g0 0 pat.hp
 let g:=zsj act.hp ⟨g0.hs,g1.ms⟩ 0 pat.hp
 (zsk g n,zzK g pat.hp.length)
structure Js where
 n:Nat
 tys:List Ty
 nb:Nat
 news:List (Option Blk)
 kills:List Nat
 gs:List (A×A×Nat)
 /-- things that are told anew: in the one, in the other, their number -/
 ps:List (Nat×Nat×Nat)
def Js.hole (j:Js) (t:Ty):A×Js:=(.h j.n,⟨j.n+1,t::j.tys,j.nb,j.news,j.kills,j.gs,j.ps⟩)
def zwC (a b:A):List (A×A×Nat)→Option Nat
 | []=>none
 | x::l=>if x.1.beq a&&x.2.1.beq b then some x.2.2 else zwC a b l
def Js.grp (j:Js) (a b:A):A×Js :=
 match zwC a b j.gs with
 | some n=>(.h n,j)
 | none=>(.h j.n,⟨j.n+1,.l::j.tys,j.nb,j.news,j.kills,(a,b,j.n)::j.gs,j.ps⟩)
def Js.vec (j:Js) (o o':Bool) (ts:List LT) (b1 b2:Nat):Lf×Js :=
 (.vec j.nb,⟨j.n+1,.l::j.tys,j.nb+1,some (.v (o&&o') ts (.h j.n))::j.news,(if o then [b1] else [])++(if o' then [b2] else [])++j.kills,j.gs,j.ps⟩)
def Js.lvec (j:Js) (o o' f:Bool) (ts:List LT) (b1 b2:Nat):Lf×Js :=
 (.vec j.nb,⟨j.n+1,.l::j.tys,j.nb+1,some (.l (o&&o') f ts (.h j.n))::j.news,(if o then [b1] else [])++(if o' then [b2] else [])++j.kills,j.gs,j.ps⟩)
def zwD (b1 b2:Nat):List (Nat×Nat×Nat)→Option Nat
 | []=>none
 | x::l=>if Nat.beq x.1 b1&&Nat.beq x.2.1 b2 then some x.2.2 else zwD b1 b2 l
def Js.obj (j:Js) (o o':Bool) (k:Nat) (b1 b2:Nat):Lf×Js :=
 match zwD b1 b2 j.ps with
 | some q=>(.p q (.c 0),j)
 | none=>(.p j.nb (.c 0),⟨j.n+1,.l::j.tys,j.nb+1,some (.obj (o&&o') k (.h j.n))::j.news,(if o then [b1] else [])++(if o' then [b2] else [])++j.kills,j.gs,(b1,b2,j.nb)::j.ps⟩)
def zoE (x y:St) (a b:Lf):Option (Bool×Bool×Nat×Nat×Nat) :=
 match a,b with
 | .p b1 (.c 0),.p b2 (.c 0) =>
  match nth x.hp b1,nth y.hp b2 with
  | some (.obj o k _),some (.obj o' k' _)=>if Nat.beq k k' then some (o,o',k,b1,b2) else none
  | _,_=>none
 | _,_=>none
def zw7 (x y:St) (a b:Lf):Option (Bool×Bool×Nat×Nat×Nat) :=
 match a,b with
 | .alt _ [(1,.p b1 0),(0,.nilp)],.alt _ [(1,.p b2 0),(0,.nilp)]=>if Nat.beq b1 b2 then none else zoE x y (.p b1 (.c 0)) (.p b2 (.c 0))
 | _,_=>none
def zsl (x y : St) (js : Js) (a b : Lf) : Option (Lf × Js) :=
  if a.beq b then some (a, js) else
  match a, b with
  | .i k _, .i k' _ => if kEq k k' then let h := js.hole .i; some (.i k h.1, h.2) else none
  | .b _, .b _ => let h := js.hole .b; some (.b h.1, h.2)
  | .vec b1, .vec b2 =>
    match nth x.hp b1, nth y.hp b2 with
    | some (.v o ts _), some (.v o' ts' _) => if LTs.beq ts ts' then some (js.vec o o' ts b1 b2) else none
    | some (.l o f ts _), some (.l o' f' ts' _) => if LTs.beq ts ts' then some (js.lvec o o' (f && f') ts b1 b2) else none
    | some (.l o _ ts _), some (.v o' ts' _) => if LTs.beq ts ts' then some (js.lvec o o' false ts b1 b2) else none
    | some (.v o ts _), some (.l o' _ ts' _) => if LTs.beq ts ts' then some (js.lvec o o' false ts b1 b2) else none
    | _, _ => none
  | .v u, .v w => if vBeq u w then some (a, js) else none
  | .e t1 a1 j1, .e t2 a2 j2 => if t1.feq t2 && Nat.beq j1 j2 then let h := js.grp a1 a2; some (.e t1 h.1 j1, h.2) else none
  | a, b =>
    match zoE x y a b with
    | some (o, o', k, b1, b2) => some (js.obj o o' k b1 b2)
    | none =>
    match zw7 x y a b with
    | some (o, o', k, b1, b2) =>
      let h := js.hole .i
      let r := h.2.obj o o' k b1 b2
      (match r.1 with
       | .p q _ => some (.alt h.1 [(1, .p q 0), (0, .nilp)], r.2)
       | _ => none)
    | none =>
    match zk4 a, zk4 b with
    | some p, some q =>
      match zd0 p.2 q.2 with
      | some l => let h := js.hole .i; some (.alt h.1 l, h.2)
      | none => none
    | _, _ => none
def zoF (x y:St) (js:Js):List Lf→List Lf→Option (List Lf×Js)
 | [],[]=>some ([],js)
 | a::l,b::l' =>
  match zsl x y js a b with
  | none=>none
  | some (c,j1) =>
   match zoF x y j1 l l' with
   | none=>none
   | some (r,j2)=>some (c::r,j2)
 | _,_=>none
def zwE (x y:St) (js:Js):V1→V1→Option (V1×Js)
 | .one a,.one b=>(zsl x y js a b).map fun p=>(.one p.1,p.2)
 | .agg a,.agg b=>(zoF x y js a b).map fun p=>(.agg p.1,p.2)
 | _,_=>none
def zsm (x y:St) (js:Js):List V1→List V1→Option (List V1×Js)
 | [],[]=>some ([],js)
 | a::l,b::l' =>
  match zwE x y js a b with
  | none=>none
  | some (c,j1) =>
   match zsm x y j1 l l' with
   | none=>none
   | some (r,j2)=>some (c::r,j2)
 | _,_=>none
def zzL (x y:St) (js:Js):V→V→Option (V×Js)
 | .s a,.s b=>(zwE x y js a b).map fun p=>(.s p.1,p.2)
 | .t a,.t b=>(zsm x y js a b).map fun p=>(.t p.1,p.2)
 | _,_=>none
def zgq (x y:St) (js:Js):List (Option V)→List (Option V)→List (Option V)×Js
 | some a::l,some b::l' =>
  match zzL x y js a b with
  | some (c,j1)=>let r:=zgq x y j1 l l';(some c::r.1,r.2)
  | none=>let r:=zgq x y js l l';(none::r.1,r.2)
 | _::l,_::l'=>let r:=zgq x y js l l';(none::r.1,r.2)
 | l,_=>(l.map fun _=>none,js)
def zgr (x y:St) (js:Js):List (Option Lf)→List (Option Lf)→List (Option Lf)×Js
 | some a::l,some b::l' =>
  match zsl x y js a b with
  | some (c,j1)=>let r:=zgr x y j1 l l';(some c::r.1,r.2)
  | none=>let r:=zgr x y js l l';(none::r.1,r.2)
 | _::l,_::l'=>let r:=zgr x y js l l';(none::r.1,r.2)
 | l,_=>(l.map fun _=>none,js)
def zw8 (x y:St) (js:Js):Blk→Blk→Option (Blk×Js)
 | .c o cs,.c o' cs'=>if Nat.beq cs.length cs'.length then let r:=zgr x y js cs cs';some (.c (o&&o') r.1,r.2) else none
 | .v o ts a,.v o' ts' a' =>
  if LTs.beq ts ts' then
   if a.beq a' then some (.v (o&&o') ts a,js) else let h:=js.hole .l;some (.v (o&&o') ts h.1,h.2)
  else none
 | .obj o k a,.obj o' k' a' =>
  if Nat.beq k k' then
   if a.beq a' then some (.obj (o&&o') k a,js) else let h:=js.hole .l;some (.obj (o&&o') k h.1,h.2)
  else none
 | .l o f ts a,.l o' f' ts' a' =>
  if LTs.beq ts ts' then
   if a.beq a' then some (.l (o&&o') (f&&f') ts a,js) else let h:=js.hole .l;some (.l (o&&o') (f&&f') ts h.1,h.2)
  else none
 | .m o kt vt cs,.m o' kt' vt' cs'=>if ktB kt kt'&&ktB vt vt' then (zoF x y js cs cs').map fun r=>(.m (o&&o') kt vt r.1,r.2) else none
 | _,_=>none
def ziF (x y:St) (js:Js):List (Option Blk)→List (Option Blk)→List (Option Blk)×Js
 | some a::l,some b::l' =>
  match zw8 x y js a b with
  | some (c,j1)=>let r:=ziF x y j1 l l';(some c::r.1,r.2)
  | none=>let r:=ziF x y js l l';(none::r.1,r.2)
 | _::l,_::l'=>let r:=ziF x y js l l';(none::r.1,r.2)
 | l,[]=>(l.map fun _=>none,js)
 | [],l'=>(l'.map fun _=>none,js)
def memN (n:Nat):List Nat→Bool
 | []=>false
 | x::l=>Nat.beq x n||memN n l
def zw9 (ks:List Nat):Nat→List (Option Blk)→List (Option Blk)
 | _,[]=>[]
 | j,x::l=>(if memN j ks then none else x)::zw9 ks (j+1) l
structure Pat where
 st:St
 tys:List Ty
def zsn (x y:St):Pat :=
 let s:=zgq x y ⟨0,[],max x.hp.length y.hp.length,[],[],[],[]⟩ x.sl y.sl
 let h:=ziF x y s.2 x.hp y.hp
 ⟨⟨s.1,zw9 h.2.kills 0 h.1++h.2.news.reverse⟩,h.2.tys.reverse⟩
def zd2 (c:A):List Ty→List A→List A→M (List A)
 | .i::ts,a::l,b::l'=>do
  let x ←zgp c a b
  let r ←zd2 c ts l l'
  pure (x::r)
 | .b::ts,a::l,b::l'=>do
  let x ←zlf c a b
  let r ←zd2 c ts l l'
  pure (x::r)
 | .l::ts,a::l,b::l'=>do
  let x ←zsc c a b
  let r ←zd2 c ts l l'
  pure (x::r)
 | [],[],[]=>pure []
 | _,_,_=>M.fail
def zfU (n0:Nat) (c:A) (x y:St):M St :=
 let p:=zsn x y
 let gx:=zd1 p.tys.length p.st x
 let gy:=zd1 p.tys.length p.st y
 if p.st.tyOk (fun _=>true) p.tys&&(p.st.inst gx.1).sub gx.2 x&&(p.st.inst gy.1).sub gy.2 y&&zhr gx.2 n0&&zhr gy.2 n0&&Nat.ble n0 p.st.hp.length then do
  let ops ←zd2 c p.tys gx.1 gy.1
  pure (p.st.inst ops)
 else M.fail
def zoG (s:St) (nf:Bool) (js:Js):Lf→Option (Lf×Js)
 | .i k _=>let h:=js.hole .i;some (.i k h.1,h.2)
 | .b _=>let h:=js.hole .b;some (.b h.1,h.2)
 | .vec b =>
  match nth s.hp b with
  | some (.v o ts _)=>some (js.vec o (o&&!nf) ts b b)
  | some (.l o f ts _)=>some (js.lvec o (o&&!nf) f ts b b)
  | _=>none
 | .e t1 a1 j1=>let h:=js.grp a1 a1;some (.e t1 h.1 j1,h.2)
 | a =>
  match zoE s s a a with
  | some (o,o',k,b1,b2)=>some (js.obj o o' k b1 b2)
  | none=>none
def zqt (s:St) (js:Js):List Lf→Option (List Lf×Js)
 | []=>some ([],js)
 | a::l =>
  match zoG s false js a with
  | none=>none
  | some (c,j1) =>
   match zqt s j1 l with
   | none=>none
   | some (r,j2)=>some (c::r,j2)
def zyp (s:St) (nf:Bool) (js:Js):V→Option (V×Js)
 | .s (.one a)=>(zoG s nf js a).map fun p=>(.s (.one p.1),p.2)
 | .s (.agg l)=>(zqt s js l).map fun p=>(.s (.agg p.1),p.2)
 | .t _=>none
def zso (es:List St) (t:Nat):Bool:=es.any fun e =>
 match nth e.sl t with
 | some (.s (.one (.vec b)))=>(match nth e.hp b with | some (.v o _ _)=>!o | _=>false)
 | _=>false
def zfk (s:St) (fz:List Nat) (D:List Nat):Nat→Js→List (Option V)→List (Option V)×Js
 | _,js,[]=>([],js)
 | t,js,x::l =>
  if memN t D then
   match x.bind (zyp s (memN t fz) js) with
   | some (y,j1)=>let r:=zfk s fz D (t+1) j1 l;(some y::r.1,r.2)
   | none=>let r:=zfk s fz D (t+1) js l;(none::r.1,r.2)
  else let r:=zfk s fz D (t+1) js l;(x::r.1,r.2)
def cellsOf:Option Blk→List (Option Lf)
 | some (.c _ cs)=>cs
 | _=>[]
def zvN (x:Lf):Option Lf→Bool
 | some y=>x.beq y||(match x,y with | .v u,.v w=>vBeq u w | _,_=>false)
 | none=>false
def zwF (i:Nat):List (Nat×Nat)→Bool
 | []=>false
 | r::l=>(Nat.ble r.1 i&&Nat.blt i (r.1+r.2))||zwF i l
def zdF (s:St) (rs:List (Nat×Nat)):Nat→Js→List (Option Lf)→List (Option Lf)×Js
 | _,js,[]=>([],js)
 | i,js,x::l =>
  match x with
  | none=>let r:=zdF s rs (i+1) js l;(none::r.1,r.2)
  | some a =>
   if zwF i rs then
    match zoG s false js a with
    | some (y,j1)=>let r:=zdF s rs (i+1) j1 l;(some y::r.1,r.2)
    | none=>let r:=zdF s rs (i+1) js l;(none::r.1,r.2)
   else let r:=zdF s rs (i+1) js l;(some a::r.1,r.2)
def zbB (s:St) (h:LH):Nat→Js→List (Option Blk)→List (Option Blk)×Js
 | _,js,[]=>([],js)
 | j,js,x::l =>
  match x with
  | some (.c o cs) =>
   match assoc h.cs j with
   | none=>let r:=zbB s h (j+1) js l;(some (.c o cs)::r.1,r.2)
   | some rs=>let u:=zdF s rs 0 js cs;let r:=zbB s h (j+1) u.2 l;(some (.c o u.1)::r.1,r.2)
  | some (.v o ts a) =>
   if memN j h.vs then let u:=js.hole .l;let r:=zbB s h (j+1) u.2 l;(some (.v o ts u.1)::r.1,r.2)
   else let r:=zbB s h (j+1) js l;(some (.v o ts a)::r.1,r.2)
  | some (.obj o k a) =>
   if memN j h.vs then let u:=js.hole .l;let r:=zbB s h (j+1) u.2 l;(some (.obj o k u.1)::r.1,r.2)
   else let r:=zbB s h (j+1) js l;(some (.obj o k a)::r.1,r.2)
  | some (.l o f ts a) =>
   if memN j h.vs then let u:=js.hole .l;let r:=zbB s h (j+1) u.2 l;(some (.l o f ts u.1)::r.1,r.2)
   else let r:=zbB s h (j+1) js l;(some (.l o f ts a)::r.1,r.2)
  | some (.m o kt vt cs)=>let r:=zbB s h (j+1) js l;(some (.m o kt vt cs)::r.1,r.2)
  | none=>let r:=zbB s h (j+1) js l;(none::r.1,r.2)
def zsp (D:List Nat) (h:LH) (s:St):Pat :=
 let u:=zfk s h.fz D 0 ⟨0,[],s.hp.length,[],[],[],[]⟩ s.sl
 let h:=zbB s h 0 u.2 s.hp
 ⟨⟨u.1,zw9 h.2.kills 0 h.1++h.2.news.reverse⟩,h.2.tys.reverse⟩
def zxa (i:Nat):List (Nat×Nat)→List (Nat×Nat)
 | (b,n)::l=>if Nat.beq b (i+1) then (i,n+1)::l else (i,1)::(b,n)::l
 | []=>[(i,1)]
def zd3 (es:List (List (Option Lf))):Nat→List (Option Lf)→List (Nat×Nat)
 | _,[]=>[]
 | i,x::l =>
  match x with
  | none=>zd3 (es.map List.tail) (i+1) l
  | some a=>if es.all (fun e=>zvN a e.head?.join) then zd3 (es.map List.tail) (i+1) l else zxa i (zd3 (es.map List.tail) (i+1) l)
def zlh (es:List St):Nat→List (Option Blk)→List (Nat×List (Nat×Nat))×List Nat
 | _,[]=>([],[])
 | j,x::l =>
  let r:=zlh es (j+1) l
  match x with
  | some (.c _ cs) =>
   match zd3 (es.map fun e=>cellsOf (nth e.hp j)) 0 cs with
   | []=>r
   | rs=>((j,rs)::r.1,r.2)
  | some (.v _ _ a)=>if es.all (fun e=>match nth e.hp j with | some (.v _ _ a')=>a.beq a' | _=>false) then r else (r.1,j::r.2)
  | some (.obj _ _ a)=>if es.all (fun e=>match nth e.hp j with | some (.obj _ _ a')=>a.beq a' | _=>false) then r else (r.1,j::r.2)
  | some (.l _ _ _ a)=>if es.all (fun e=>match nth e.hp j with | some (.l _ _ _ a')=>a.beq a' | _=>false) then r else (r.1,j::r.2)
  | some (.m _ _ _ _)=>r
  | none=>r
def zsq (mat:List (Nat×List LT)) (D:List Nat) (es:List St) (s:St):LH :=
 let r:=zlh es 0 s.hp
 ⟨mat,D.filter (zso es),r.1,r.2⟩
end Go.Sx
namespace Go.Sx
structure GE where
 t:Nat
 v:V
 d:Nat
 want:Bool
structure RS where
 st:St
 gl:List GE
def zaw {α:Type} (v:α):List α→Nat→List α
 | [],_=>[]
 | _::l,0=>v::l
 | x::l,n+1=>x::zaw v l n
def beqB:Bool→Bool→Bool
 | true,b=>b
 | false,b=>!b
abbrev Ctx:=List (Nat×Bool)
def Ctx.has:Ctx→Nat→Bool→Bool
 | [],_,_=>false
 | (d,w)::r,d',w'=>(Nat.beq d d'&&beqB w w')||Ctx.has r d' w'
def znj (ctx:Ctx) (t:Nat):List GE→Option V
 | []=>none
 | e::r=>if Nat.beq e.t t&&ctx.has e.d e.want then some e.v else znj ctx t r
def RS.slot (r:RS) (ctx:Ctx) (t:Nat):Option V :=
 match nth r.st.sl t with
 | some v=>some v
 | none=>znj ctx t r.gl
def rd (r:RS) (ctx:Ctx):Operand→Option V
 | .tmp t=>r.slot ctx t
 | .const v=>(zoC v).map .s
 | .func f=>some (.s (.one (.v (.func (.func f) #[] #[]))))
 | .global g=>some (.s (.one (.gp g (.c 0))))
def zhs (t:Nat):List GE→Option GE
 | []=>none
 | e::r=>if Nat.beq e.t t then some e else zhs t r
def zbP (r:RS):Nat→Nat→Bool→Option (Option (Ctx×List (A×Bool)))
 | 0,_,_=>none
 | n+1,d,want =>
  match nth r.st.sl d with
  | some (.s (.one (.b (.t x))))=>if beqB x want then some (some ([],[])) else some none
  | some (.s (.one (.b a)))=>some (some ([(d,want)],[(a,want)]))
  | some (.s (.one (.v (.tuple _))))=>some none
  | some _=>none
  | none =>
   match zhs d r.gl with
   | some e =>
    match e.v with
    | .s (.one (.b a)) =>
     match zbP r n e.d e.want with
     | some (some (ctx,cs)) =>
      match a with
      | .t x=>if beqB x want then some (some ((d,want)::ctx,cs)) else some none
      | a=>some (some ((d,want)::ctx,(a,want)::cs))
     | some none=>some none
     | none=>none
    | _=>none
   | none=>none
def zdd:V:=.s (.one (.v (.tuple #[])))
def zgs {α:Type} : List (A×Bool)→M α→M α
 | [],x=>x
 | (c,b)::r,x=>under c b (zgs r x)
inductive OR where
 | val (v:V)
 /-- and the blocks as they are then: those that were keep their numbers -/
 | hp (v:Option V) (hp:List (Option Blk))
def zde (ix:A) (len:Nat):M Unit:=do
 owe (←emit (.geq ix (.z 0)))
 owe (←emit (.lss ix (.z len)))
def zgt (P:Program) (t:TypeId) (cs:List Lf) (off:Nat):M V1:=do
 let k ←M.lift (tk P t)
 let sz ←M.lift (zaO P t)
 if zb3 k then
  pure (.agg (←M.lift (za5 (cs.map some) off sz)))
 else pure (.one (←zqq (←M.lift (zhV (cs.map some) off))))
def zsr:Lf→Lf→Bool
 | .i k a,.i k' b=>kEq k k'&&a.beq b
 | .b a,.b b=>a.beq b
 | .e (.int k) a i,.e (.int k') b j=>kEq k k'&&a.beq b&&Nat.beq i j
 | .e .bool a i,.e .bool b j=>a.beq b&&Nat.beq i j
 | _,_=>false
def zli:List Lf→List Lf→Bool
 | [],[]=>true
 | x::l,y::l'=>zsr x y&&zli l l'
 | _,_=>false
def zl8 (P:Program) (eq:TypeId→V1→V1→M A) (elem:TypeId) (sz:Nat) (xs ys:List Lf) (i:Nat):Nat→M A
 | 0=>pure (.t true)
 | n+1=>do
  let a ←zgt P elem xs (i*sz)
  let b ←(if zli xs ys then pure a else zgt P elem ys (i*sz))
  let e ←eq elem a b
  let r ←zl8 P eq elem sz xs ys (i+1) n
  zsb e r
def zfl (P:Program) (eq:TypeId→V1→V1→M A) (xs ys:List Lf):List (Nat×Nat)→M A
 | []=>pure (.t true)
 | f::fs=>do
  let a ←zgt P f.2 xs f.1
  let b ←(if zli xs ys then pure a else zgt P f.2 ys f.1)
  let e ←eq f.2 a b
  let r ←zfl P eq xs ys fs
  zsb e r
def evEq (P:Program):Nat→TypeId→V1→V1→M A
 | 0,_,_,_=>M.fail
 | d+1,t,x,y=>do
  let k ←M.lift (tk P t)
  match k,x,y with
  | .int _,.one (.i ka a),.one (.i kb b) =>
   if kEq ka kb then
    match a,b with
    | .z m,.z n=>pure (.t (m==n))
    | a,b=>if a.beq b then pure (.t true) else emit (.eql a b)
   else M.fail
  | .bool,.one (.b a),.one (.b b) =>
   match a,b with
   | .t m,.t n=>pure (.t (m==n))
   | a,b=>if a.beq b then pure (.t true) else emit (.beq a b)
  | .arr len elem,.agg xs,.agg ys=>do
   let sz ←M.lift (zaO P elem)
   zl8 P (evEq P d) elem sz xs ys 0 len
  | .struct fs,.agg xs,.agg ys =>
   if P.stoodInHeld t then M.fail
   else if (P.fieldsOf t).toList.all (fun f => f.name != "_") then zfl P (evEq P d) xs ys fs else M.fail
  | _,_,_=>M.fail
def zfV (c:A) (x y:V):M V:=do
 match ←zsd c x y with
 | some v=>pure v
 | none=>M.fail
def Alt.isNil:Alt→Bool
 | .nilp | .nili=>true
 | _=>false
def zaJ (l:List (Nat×Alt)):Nat :=
 match l.find? (fun x=>x.2.isNil) with
 | some x=>x.1
 | none=>0
def zd4 (iface:Bool) (key:Nat) (l:List (Nat×Alt)):Bool:=l.all fun x =>
 match x.2,iface with
 | .nilp,false=>Nat.beq x.1 key
 | .nili,true=>Nat.beq x.1 key
 | .p _ _,false=>!Nat.beq x.1 key
 | .ifp _ _,true=>!Nat.beq x.1 key
 | _,_=>false
def ziX (iface:Bool) (neg:Bool) (a:A) (l:List (Nat×Alt)):M Lf :=
 if zd4 iface (zaJ l) l then do
  let c ←emit (if neg then .neq a (.z (zaJ l)) else .eql a (.z (zaJ l)))
  pure (.b c)
 else M.fail
def zss (a:A) (q:Nat):List (Nat×Alt)→M A
 | []=>M.fail
 | [x] =>
  match x.2 with
  | .p q' n=>if Nat.beq q q' then pure (.z n) else M.fail
  | _=>M.fail
 | x::l =>
  match x.2 with
  | .p q' n =>
   if Nat.beq q q' then do
    let c ←emit (.eql a (.z x.1))
    let r ←zss a q l
    zgp c (.z n) r
   else M.fail
  | _=>M.fail
def zhY:List (Nat×Alt)→Nat
 | []=>0
 | x::l =>
  match x.2 with
  | .p _ n=>max (n+1) (zhY l)
  | _=>zhY l
def zl9 (a:A) (l:List (Nat×Alt)):M Lf :=
 if zd4 false (zaJ l) l then do
  let c ←emit (.neq a (.z (zaJ l)))
  owe c
  match l.filter fun x=>!x.2.isNil with
  | []=>M.fail
  | x::r =>
   match x.2 with
   | .p q _=>do
    let ix ←zss a q (x::r)
    pure (.p q (.s 0 ix 1 (zhY (x::r))))
   | _=>M.fail
 else M.fail
def strA:Lf→M A
 | .str a=>pure a
 | .v (.string s)=>emit (.lmk (s.data.toList.map fun _=>.i) (s.data.toList.map fun b=>.z b.toNat))
 | _=>M.fail
def zma (op:BinOp) (x y:Lf):M V:=do
 let a ←strA x
 let b ←strA y
 let q ←emit (.sbeq a b)
 match op with
 | .eql=>pure (.s (.one (.b q)))
 | .neq=>do pure (.s (.one (.b (←zoB q))))
 | _=>M.fail
def zst (P:Program) (op:BinOp) (t:TypeId) (x y:V):M V :=
 match op,x,y with
 | .shl,.s (.one (.i k a)),.s (.one (.i _ b))=>do pure (.s (.one (←zl1 .shl k a b)))
 | .shr,.s (.one (.i k a)),.s (.one (.i _ b))=>do pure (.s (.one (←zl1 .shr k a b)))
 | op,.s (.one (.i k a)),.s (.one (.i k' b))=>if kEq k k' then do pure (.s (.one (←zw3 op k a b))) else M.fail
 | .eql,.s (.one (.b a)),.s (.one (.b b))=>do
  match ←M.lift (tk P t) with
  | .bool=>pure (.s (.one (←ziB .eql a b)))
  | _=>M.fail
 | .neq,.s (.one (.b a)),.s (.one (.b b))=>do
  match ←M.lift (tk P t) with
  | .bool=>pure (.s (.one (←ziB .neq a b)))
  | _=>M.fail
 | .eql,.s (.one (.p _ _)),.s (.one .nilp)=>do
  match ←M.lift (tk P t) with
  | .ptr _=>pure (.s (.one (.b (.t false))))
  | _=>M.fail
 | .neq,.s (.one (.p _ _)),.s (.one .nilp)=>do
  match ←M.lift (tk P t) with
  | .ptr _=>pure (.s (.one (.b (.t true))))
  | _=>M.fail
 | .eql,.s (.one .nilp),.s (.one .nilp)=>do
  match ←M.lift (tk P t) with
  | .ptr _=>pure (.s (.one (.b (.t true))))
  | _=>M.fail
 | .neq,.s (.one .nilp),.s (.one .nilp)=>do
  match ←M.lift (tk P t) with
  | .ptr _=>pure (.s (.one (.b (.t false))))
  | _=>M.fail
 | .eql,.s (.one (.alt a l)),.s (.one .nilp)=>do
  match ←M.lift (tk P t) with
  | .ptr _=>do pure (.s (.one (←ziX false false a l)))
  | _=>M.fail
 | .neq,.s (.one (.alt a l)),.s (.one .nilp)=>do
  match ←M.lift (tk P t) with
  | .ptr _=>do pure (.s (.one (←ziX false true a l)))
  | _=>M.fail
 | .eql,.s (.agg a),.s (.agg b) =>
  if P.eqGuardType P.depth t then M.fail else do pure (.s (.one (.b (←evEq P 8 t (.agg a) (.agg b)))))
 | .neq,.s (.agg a),.s (.agg b) =>
  if P.eqGuardType P.depth t then M.fail else do pure (.s (.one (.b (←zoB (←evEq P 8 t (.agg a) (.agg b))))))
 | op,.s (.one x),.s (.one y)=>zma op x y
 | _,_,_=>M.fail
def evUn (op:UnOp) (x:Lf):M Lf :=
 match op,x with
 | .neg,.i k (.z n)=>pure (.i k (.z (k.wrap (0-n))))
 | .neg,.i k a=>do pure (.i k (←emit (.sub k (.z 0) a)))
 | .xor,.i k (.z n)=>pure (.i k (.z (zeD k (if k.signed then -1 else k.max) n)))
 | .xor,.i k a=>do pure (.i k (←emit (.lxor k (.z (if k.signed then -1 else k.max)) a)))
 | .not,.b a=>do pure (.b (←zoB a))
 | _,_=>M.fail
def zsu (P:Program) (src dst:TypeId) (x:Lf):M Lf:=do
 let _ ←M.lift (tk P src)
 match ←M.lift (tk P dst),x with
 | .int k,.i _ (.z n)=>pure (.i k (.z (k.wrap n)))
 | .int k,.i _ a=>do pure (.i k (←emit (.conv k a)))
 | _,_=>M.fail
def zfW (P:Program) (t:TypeId) (x ix:Lf):M Lf:=do
 match ←M.lift (tk P t),x,ix with
 | .arr len elem,.p blk off,.i _ a=>do
  let sz ←M.lift (zaO P elem)
  match a with
  | .z n =>
   if 0≤n∧n<len then pure (.p blk (off.plus (n.toNat*sz))) else M.fail
  | a =>
   match off with
   | .c o=>do
    zde a len
    pure (.p blk (.s o a sz len))
   | .s o ix0 sz0 len0=>do
    zde a len
    pure (.p blk (.d o ix0 sz0 len0 a sz len))
   | .v o ix0 sz0 a0=>do
    zde a len
    pure (.p blk (.w o ix0 sz0 a0 a sz len))
   | _=>M.fail
 | .arr len elem,.gp g off,.i _ a=>do
  let sz ←M.lift (zaO P elem)
  match a with
  | .z n =>
   if 0≤n∧n<len then pure (.gp g (off.plus (n.toNat*sz))) else M.fail
  | a =>
   match off with
   | .c o=>do
    zde a len
    pure (.gp g (.s o a sz len))
   | _=>M.fail
 | _,_,_=>M.fail
def zoH (P:Program) (t:TypeId) (x:List Lf) (ix:Lf):M V1:=do
 match ←M.lift (tk P t),ix with
 | .arr len elem,.i _ a=>do
  let k ←M.lift (tk P elem)
  let sz ←M.lift (zaO P elem)
  match a with
  | .z n =>
   if 0≤n∧n<len then zgt P elem x (n.toNat*sz) else M.fail
  | a=>do
   zde a len
   if zb3 k then pure (.agg (←zni (x.map some) 0 sz len a sz))
   else do
    let row ←M.lift (zbA (x.map some) 0 sz len)
    pure (.one (←zeF row a))
 | _,_=>M.fail
def zoI (P:Program) (t:TypeId) (x:List Lf) (f:Nat):M V1:=do
 match ←M.lift (tk P t) with
 | .struct fs=>do
  let fd ←M.lift fs[f]?
  zgt P fd.2 x fd.1
 | _=>M.fail
def zfX (P:Program) (t:TypeId) (x:Lf) (f:Nat):M Lf:=do
 match ←M.lift (tk P t),x with
 | .struct fs,.p blk off=>do
  let fd ←M.lift fs[f]?
  let sz ←M.lift (zaO P fd.2)
  if Nat.beq sz 0 then M.fail else pure (.p blk (off.plus fd.1))
 | .struct fs,.gp g off=>do
  let fd ←M.lift fs[f]?
  let sz ←M.lift (zaO P fd.2)
  if Nat.beq sz 0 then M.fail else pure (.gp g (off.plus fd.1))
 | _,_=>M.fail
def zcB (r:RS) (ctx:Ctx):List Operand→Option (List V)
 | []=>some []
 | x::xs =>
  match rd r ctx x with
  | none=>none
  | some v =>
   match zcB r ctx xs with
   | none=>none
   | some vs=>some (v::vs)
def zcT (r:RS) (ctx:Ctx):List (Nat×Operand)→Option (List (Nat×V1))
 | []=>some []
 | x::xs =>
  match rd r ctx x.2 with
  | some (.s v) =>
   match zcT r ctx xs with
   | none=>none
   | some vs=>some ((x.1,v)::vs)
  | _=>none
def zcq:List Lf→Nat→List Lf→List Lf
 | cs,_,[]=>cs
 | cs,o,c::l=>zcq (cs.set o c) (o+1) l
def zgu (place:Nat→Option (Nat×Nat)):List Lf→List (Nat×V1)→Option (List Lf)
 | cs,[]=>some cs
 | cs,p::rest =>
  match place p.1 with
  | none=>none
  | some (o,sz)=>if Nat.beq p.2.cells.length sz&&Nat.ble (o+p.2.cells.length) cs.length&&p.2.cells.all Lf.ok then zgu place (zcq cs o p.2.cells) rest else none
def zmb (P:Program) (t:TypeId) (parts:List (Nat×V1)):Option (List Lf) :=
 match zeroCells P t with
 | none=>none
 | some z =>
  match tk P t with
  | some (.struct fs) =>
   match zby (fun f:Nat×TypeId=>(zaO P f.2).map fun n=>(f.1,n)) fs with
   | none=>none
   | some places=>zgu (fun i=>places[i]?) z parts
  | some (.arr _ elem) =>
   match zaO P elem with
   | none=>none
   | some sz=>zgu (fun i=>some (i*sz,sz)) z parts
  | _=>none
def Blk.lt (n:Nat):Blk→Bool
 | .c _ cs=>cs.all (zao (Lf.lt n))
 | .v _ _ _=>true
 | .obj _ _ _=>true
 | .l _ _ _ _=>true
 | .m _ _ _ cs=>cs.all (Lf.lt n)
def Lf.ren (m:List Nat):Lf→Lf
 | .p k off=>.p (rnm m k) off
 | .vec k=>.vec (rnm m k)
 | .fnp f bs=>.fnp f (bs.map (rnm m))
 | .ifp t q=>.ifp t (rnm m q)
 | .mp k=>.mp (rnm m k)
 | .alt a l=>.alt a (zhq m l)
 | x=>x
def V1.ren (m:List Nat):V1→V1
 | .one x=>.one (x.ren m)
 | .agg l=>.agg (l.map (Lf.ren m))
def V.ren (m:List Nat):V→V
 | .s v=>.s (v.ren m)
 | .t l=>.t (l.map (V1.ren m))
def Blk.ren (m:List Nat):Blk→Blk
 | .c o cs=>.c o (cs.map (Option.map (Lf.ren m)))
 | .v o ts a=>.v o ts a
 | .obj o k a=>.obj o k a
 | .l o f ts a=>.l o f ts a
 | .m o kt vt cs=>.m o kt vt (cs.map (Lf.ren m))
def zgv (fid:Nat) (args:List A):Nat→Nat→M (List A)
 | _,0=>pure []
 | j,n+1=>do
  let a ←emit (.call fid args j)
  let r ←zgv fid args (j+1) n
  pure (a::r)
def stays (hin:List (Option Blk)) (j:Nat):Bool :=
 match nth hin j with
 | some (.c _ _)=>true
 | some (.obj _ _ _)=>true
 | some (.v o _ _)=>o
 | _=>false
def zcU (hin:List (Option Blk)) (m:List Nat) (n:Nat) (k:Nat):List Nat:=(List.range k).map fun j=>if stays hin j then rnm m j else n+j
def zbW (hin hout:List (Option Blk)) (m m1:List Nat) (dem:Bool):Nat→Nat→List (Option Blk)→List (Option Blk)
 | 0,_,hp=>hp
 | k+1,j,hp =>
  match nth hin j with
  | none=>zbW hin hout m m1 dem k (j+1) hp
  | some x =>
   if x.own then
    let y:Option Blk:=if stays hin j then (nth hout j).map (Blk.ren m1) else none
    zbW hin hout m m1 dem k (j+1) (zaw y hp (rnm m j))
   else if dem then zbW hin hout m m1 dem k (j+1) (zaw ((nth hp (rnm m j)).map Blk.froze) hp (rnm m j))
   else zbW hin hout m m1 dem k (j+1) hp
def zeH (hin:List (Option Blk)) (m1:List Nat):Nat→List (Option Blk)→List (Option Blk)
 | _,[]=>[]
 | j,x::l=>(if stays hin j then none else x.map (Blk.ren m1))::zeH hin m1 (j+1) l
def zaQ (hin:List (Option Blk)):Nat→List (Option Blk)→Bool
 | _,[]=>false
 | j,x::l=>(match x with | some y=>(!y.own&&!stays hin j)||y.shr | none=>false)||zaQ hin (j+1) l
def zeI : List (Option Blk) → List (Option Blk) → Bool
  | some x :: l, some y :: l' =>
    (match x, y with
     | .obj o k _, .obj o' k' _ => (!o || o') && Nat.beq k k'
     | .obj _ _ _, _ => false
     | .c _ _, .obj _ _ _ => false
     | .c _ _, .l _ _ _ _ => false
     | .c _ _, .m _ _ _ _ => false
     | .v o _ _, .v o' _ _ => !o || o'
     | .v o _ _, _ => !o
     | _, _ => true) && zeI l l'
  | _ :: l, _ :: l' => zeI l l'
  | _, _ => true
def A.const:A→Bool
 | .z _ | .t _=>true
 | _=>false
def LT.flat:LT→Bool
 | .vec _=>false
 | _=>true
def Blk.flat:Blk→Bool
 | .v _ ts _=>ts.all LT.flat
 | .c _ _=>true
 | .obj _ _ _=>true
 | .l _ _ ts _=>ts.all LT.flat
 | .m _ _ _ _=>true
def Lf.easy:Lf→Bool
 | .p _ (.c _) | .gp _ (.c _)=>true
 | .p _ _ | .gp _ _ | .alt _ _=>false
 | _=>true
def V.easy:V→Bool
 | .s v=>v.cells.all Lf.easy
 | .t l=>l.all fun v=>v.cells.all Lf.easy
def Sig.ok (sg:Sig):Bool :=
 sg.ins.all (V.tyOk A.const sg.its)&&sg.hin.all (zao (Blk.tyOk A.const sg.its))&&sg.out.tyOk A.const sg.ots&&sg.hout.all (zao (Blk.tyOk A.const sg.ots)) &&
 sg.out.lt sg.hout.length&&sg.hout.all (zao (Blk.lt sg.hout.length))&&sg.hout.all (zao Blk.flat)&&(sg.out.easy||!(sg.hin.all (zao fun b=>!b.own)&&sg.hout.isEmpty))
def znk (P:Program) (S:Sigs) (f:FuncId) (vs:List V) (hp:List (Option Blk)):M OR:=do
 let sg ←M.lift (S.get f)
 let pat:St:=⟨sg.ins.map some,sg.hin⟩
 let act:St:=⟨vs.map some,hp⟩
 let g:=zd1 sg.nin pat act
 if zqp P f&&(pat.inst g.1).sub g.2 act&&sg.ok&&hp.all (zao (Blk.lt hp.length))&&(!zaQ sg.hin 0 sg.hout||sg.hin.all (zao Blk.flat))&&zeI sg.hin sg.hout then do
  let j0 ←(if sg.need then do owe (←emit (.call f g.1 0));pure 1 else pure 0)
  let os ←zgv f g.1 j0 sg.ots.length
  if sg.hin.all (zao fun b=>!b.own)&&sg.hout.isEmpty then pure (.val (sg.out.inst os))
  else
   let m1:=zcU sg.hin g.2 hp.length sg.hout.length
   let ho:=(sg.hout.map (Option.map (Blk.inst os)))
   pure (.hp (some ((sg.out.inst os).ren m1)) (zbW sg.hin ho g.2 m1 (zaQ sg.hin 0 sg.hout) sg.hin.length 0 hp++zeH sg.hin m1 0 ho))
 else M.fail
def opnA (a:A):Nat→List Ty→M (List A)
 | _,[]=>pure []
 | i,t::ts=>do
  let x ←emit (match t with | .i=>.lgeti 1 i a (.z 0) | .b=>.lgetb 1 i a (.z 0) | .l=>.lgetl 1 i a (.z 0))
  let r ←opnA a (i+1) ts
  pure (x::r)
def znl (n b k:Nat):List Nat:=b::(List.range k).map fun j=>n+j
def PatD.fit (p:PatD):Bool:=p.hp.all (zao Blk.flat)&&p.hp.all (zao (Blk.lt p.hp.length))&&p.hp.all (zao (Blk.tyOk A.const p.tys))
def zsv (o:Bool) (k b:Nat) (a:A) (hp:List (Option Blk)):M (List (Option Blk)):=do
 let p ←M.lift pats[k]?
 if zfD (k+2) p.ids&&p.fit&&hp.all (zao (Blk.lt hp.length))&&!zdD (k+2) then do
  let as ←opnA a 0 p.tys
  let l:=(p.rd o).hp.map (Option.map fun x=>(x.inst as).ren (znl hp.length b (p.hp.length-1)))
  pure (zaw (l.headD none) hp b++l.tail)
 else M.fail
def zfm (ks:List Nat):Nat→Nat→List (Option Blk)→M (List (Option Blk))
 | 0,_,hp=>pure hp
 | n+1,j,hp =>
  if Nat.blt j hp.length then
   match nth hp j with
   | some (.obj o (k+2) a)=>if memN (k+2) ks then do zfm ks n (j+1) (←zsv o k j a hp) else zfm ks n (j+1) hp
   | _=>zfm ks n (j+1) hp
  else pure hp
def zmc (ks:List Nat) (hp:List (Option Blk)):M (List (Option Blk)):=if ks.isEmpty then pure hp else zfm ks (hp.length+60) 0 hp
def Blk.solid:Blk→Bool
 | .l o f _ _=>o&&!f
 | b=>b.own
def zco (m:List Nat):Nat→List (Option Blk)→List (Option Blk)→List (Option Blk)
 | _,[],hp=>hp
 | j,_::l,hp =>
  match nth hp (rnm m j) with
  | some x=>if x.solid then zco m (j+1) l (zaw none hp (rnm m j)) else zco m (j+1) l hp
  | none=>zco m (j+1) l hp
def zmd (o:Bool) (k b:Nat) (hp:List (Option Blk)):M (List (Option Blk)):=do
 let p ←M.lift pats[k]?
 let g:=zd1 p.tys.length ⟨[some (.s (.one (.p 0 (.c 0))))],p.hp⟩ ⟨[some (.s (.one (.p b (.c 0))))],hp⟩
 if zfD (k+2) p.ids&&p.fit&&Nat.beq (rnm g.2 0) b&&zcS g.2 hp 0 ((p.rd o).hp.map (Option.map (Blk.inst g.1)))&&zhX g.2 ((p.rd o).hp.map (Option.map (Blk.inst g.1))) 0 ((p.rd o).hp.map (Option.map (Blk.inst g.1)))&&!zdD (k+2) then do
  let q ←emit (.lmk p.tys g.1)
  pure (zaw (some (.obj o (k+2) q)) (zco g.2 1 p.hp.tail hp) b)
 else M.fail
def zxb (b:Nat) (hp:List (Option Blk)):M (List (Option Blk)) :=
 match nth hp b with
 | some (.obj o k a)=>if zdD k then M.fail else do
  let q ←emit (.lmk [.b,.l] [.t true,a])
  pure (zaw (some (.obj o (k+1000) q)) hp b)
 | _=>M.fail
def zme (b:Nat) (hp:List (Option Blk)):M (List (Option Blk)) :=
 match nth hp b with
 | some (.obj o k a)=>if zdD k&&!zdD (k-1000) then do
   owe (←emit (.lgetb 1 0 a (.z 0)))
   let q ←emit (.lgetl 1 1 a (.z 0))
   pure (zaw (some (.obj o (k-1000) q)) hp b)
  else M.fail
 | _=>M.fail
def zxc (k:Nat) (k':Nat):Bool:=zdD k'&&!zdD k
def zcI (m:List Nat):Nat→List (Option Blk)→List (Option Blk)→M (List (Option Blk))
 | _,[],hp=>pure hp
 | j,some (.obj _ (k+2) _)::l,hp =>
  match nth hp (rnm m j) with
  | some (.c o _)=>do zcI m (j+1) l (←zmd o k (rnm m j) hp)
  | some (.obj _ k' _)=>if zxc (k+2) k' then do zcI m (j+1) l (←zme (rnm m j) hp) else zcI m (j+1) l hp
  | _=>zcI m (j+1) l hp
 | j,_::l,hp=>zcI m (j+1) l hp
def zyq:Blk→Bool
 | .obj _ _ _=>true
 | _=>false
def znm:Operand→Bool
 | .const .nilIface=>true
 | _=>false
def zqu (P : Program) (op : BinOp) (t : TypeId) (l : Lf) : Option Bool :=
  match P.underlying t with
  | some (.interface _) =>
    (match op, l with
     | .eql, .ifp _ _ => some false
     | .neq, .ifp _ _ => some true
     | .eql, .v .nilIface => some true
     | .neq, .v .nilIface => some false
     | _, _ => none)
  | _ => none
def zoJ (P:Program) (t:TypeId):Bool :=
 match P.underlying t with
 | some (.interface _)=>true
 | _=>false
def zdf (P : Program) (t : TypeId) (name : String) : Option FuncId :=
  match P.info? t, tk P t with
  | some i, some (.ptr _) =>
    (match i.methods.find? (fun m => m.name == name) with
     | some m =>
       (match m.path.toList, m.func with
        | [], some (f, true) => some f
        | _, _ => none)
     | none => none)
  | _, _ => none
def Lf.isNil:Lf→Bool
 | .v (.slice none 0 0)=>true
 | _=>false
def hpLt (hp:List (Option Blk)):Bool:=hp.all (zao (Blk.lt hp.length))
def zbV:List LT→List Lf→List (Option Blk)→M (List Lf×List (Option Blk))
 | t::lt,x::l,hp =>
  match t with
  | .vec ts =>
   if x.isNil&&Nat.blt 0 ts.length then do
    let q ←emit (.lmk [] [])
    let r ←zbV lt l (hp++[some (.v true ts q)])
    pure (.vec hp.length::r.1,r.2)
   else do
    let r ←zbV lt l hp
    pure (x::r.1,r.2)
  | _=>do
   let r ←zbV lt l hp
   pure (x::r.1,r.2)
 | _,l,hp=>pure (l,hp)
def ltOf (hin:List (Option Blk)):Lf→LT
 | .vec b=>match nth hin b with
  | some (.v _ ts _)=>.vec ts
  | some (.l _ _ ts _)=>.vec ts
  | _=>.bool
 | _=>.bool
def V.cells1:V→List Lf
 | .s v=>v.cells
 | .t _=>[]
def znn:List V→List Lf→Option (List V)
 | [],[]=>some []
 | .s (.one _)::r,x::l=>(znn r l).map (.s (.one x)::·)
 | .s (.agg ys)::r,l=>if Nat.ble ys.length l.length then (znn r (l.drop ys.length)).map (.s (.agg (l.take ys.length))::·) else none
 | _,_=>none
def zsw:List LT→List Lf→Bool
 | .vec _::lt,x::l=>x.isNil||zsw lt l
 | _::lt,_::l=>zsw lt l
 | _,_=>false
def zmf (P:Program) (S:Sigs) (f:FuncId) (vs:List V) (hp:List (Option Blk)):M OR:=do
 let hp1 ←(match S.get f with
  | some sg=>if sg.hin.any (zse zyq) then zcI (zd1 sg.nin ⟨sg.ins.map some,sg.hin⟩ ⟨vs.map some,hp⟩).2 0 sg.hin hp else pure hp
  | none=>pure hp)
 match ←znk P S f vs hp1 with
 | .val v=>pure (.val v)
 | .hp v hp2 =>
  if S.opn.isEmpty then pure (.hp v hp2) else
  if zao (V.lt hp2.length) v&&Nat.ble hp1.length hp2.length then do pure (.hp v (←zmc S.opn hp2)) else M.fail
def zoK (P:Program) (S:Sigs) (f:FuncId) (vs:List V) (hp:List (Option Blk)):M OR:=do
 let lts:List LT:=match S.get f with
  | some sg=>(sg.ins.flatMap V.cells1).map (ltOf sg.hin)
  | none=>[]
 if zsw lts (vs.flatMap V.cells1) then
  if hpLt hp&&(vs.flatMap V.cells1).all (Lf.lt hp.length) then do
   let q ←zbV lts (vs.flatMap V.cells1) hp
   let us ←M.lift (znn vs q.1)
   match ←zmf P S f us q.2 with
   | .val v=>if v.lt hp.length then pure (.val v) else M.fail
   | .hp v h=>pure (.hp v h)
  else M.fail
 else zmf P S f vs hp
def zqv (p v:V):M V :=
 match p,v with
 | .s (.one (.p _ (.c 0))),.s (.one (.alt a l)) =>
  match l.filter fun x=>!x.2.isNil with
  | [x] =>
   match zaP l x.1 with
   | some (.p q 0)=>do
    owe (←emit (.eql a (.z x.1)))
    pure (.s (.one (.p q (.c 0))))
   | _=>pure v
  | _=>pure v
 | _,_=>pure v
def zmg:List V→List V→M (List V)
 | p::ps,v::vs=>do
  let x ←zqv p v
  let r ←zmg ps vs
  pure (x::r)
 | _,vs=>pure vs
def zfY (P:Program) (S:Sigs) (f:FuncId) (vs:List V) (hp:List (Option Blk)):M OR:=do
 let us ←zmg (match S.get f with | some sg=>sg.ins | none=>[]) vs
 zoK P S f us hp
def orOf (hp:List (Option Blk)):OR→M (V×List (Option Blk))
 | .val v=>pure (v,hp)
 | .hp (some v) hp'=>pure (v,hp')
 | .hp none _=>M.fail
def zsx (n0:Nat) (c:A) (x y:V×List (Option Blk)):M (V×List (Option Blk)):=do
 let s ←zfU n0 c ⟨[some x.1],x.2⟩ ⟨[some y.1],y.2⟩
 match s.sl with
 | [some v]=>pure (v,s.hp)
 | _=>M.fail
def zgw (P:Program) (S:Sigs) (name:String) (vs:List V) (hp:List (Option Blk)) (a:A):List (Nat×Alt)→M (V×List (Option Blk))
 | []=>M.fail
 | x::l =>
  match x.2 with
  | .ifp t b=>do
   let f ←M.lift (zdf P t name)
   if l.isEmpty then do
    orOf hp (←zfY P S f (.s (.one (.p b (.c 0)))::vs) hp)
   else do
    let c ←emit (.eql a (.z x.1))
    let u ←under c true (do orOf hp (←zfY P S f (.s (.one (.p b (.c 0)))::vs) hp))
    let v ←under c false (zgw P S name vs hp a l)
    zsx hp.length c u v
  | _=>M.fail
def zsy (ks:List Nat) (s:St):M St :=
 if ks.isEmpty then pure s else
 if s.sl.all (zao (V.lt s.hp.length)) then do pure ⟨s.sl,←zmc ks s.hp⟩ else M.fail
def zoL (n:Nat) (pat:St) (z:St):M St :=
 if pat.hp.any (zse zyq) then do pure ⟨z.sl,←zcI (zd1 n pat z).2 0 pat.hp z.hp⟩ else pure z
def ziG (P:Program) (f:FuncId):Option Bool :=
 match P.funcs[f]? with
 | some fn => if fn.body.isNone && fn.origin == "" then (if fn.name == "math/bits.Add64" then some true else if fn.name == "math/bits.Sub64" then some false else none) else none
 | none=>none
def oweU (a:A):M Unit:=do
 owe (←emit (.geq a (.z 0)))
 owe (←emit (.lss a (.z 18446744073709551616)))
def zoM (add:Bool) (a b q:A):M OR:=do
 oweU a
 oweU b
 owe (←emit (.geq q (.z 0)))
 owe (←emit (.lss q (.z 2)))
 let one ←emit (.eql q (.z 1))
 let s1 ←emit (if add then .add .u64 a b else .sub .u64 a b)
 let s ←emit (if add then .add .u64 s1 q else .sub .u64 s1 q)
 let low ←emit (if add then .lss s a else .lss a b)
 let same ←emit (if add then .eql s a else .eql a b)
 let both ←emit (.and one same)
 let c ←emit (.or low both)
 let k ←emit (.itei c (.z 1) (.z 0))
 pure (.val (.t [.one (.i .u64 s),.one (.i .u64 k)]))
def zqw (r:RS) (ctx:Ctx) (c a b:Operand):M V:=do
 match rd r ctx c with
 | some (.s (.one (.b (.t true))))=>M.lift (rd r ctx a)
 | some (.s (.one (.b (.t false))))=>M.lift (rd r ctx b)
 | some (.s (.one (.b x)))=>do
  let (ca,cb):=match c with
   | .tmp t=>((t,true)::ctx,(t,false)::ctx)
   | _=>(ctx,ctx)
  let va ←M.lift (rd r ca a)
  let vb ←M.lift (rd r cb b)
  zfV x va vb
 | _=>M.fail
def zk6 (hp:List (Option Blk)) (b:Nat):Option (Bool×List LT×A) :=
 match nth hp b with
 | some (.v o ts a)=>some (o,ts,a)
 | _=>none
def zc7 (hp:List (Option Blk)) (b:Nat):Option (Bool×List LT×A) :=
 match nth hp b with
 | some (.v o ts a)=>some (o,ts,a)
 | some (.l _ _ ts a)=>some (false,ts,a)
 | _=>none
def zfE (P:Program) (t:TypeId):Option Nat:=(P.info? t).map (·.bytes)
def zeJ (bytes:Nat):Nat:=70368744177664/(bytes+1)
def zgx (a b:A):M Unit :=
 match a,b with
 | .z m,.z n=>if m≤n then pure () else M.fail
 | a,b=>do owe (←emit (.leq a b))
def zno:LT→Ty
 | .int _=>.i
 | .bool=>.b
 | .vec _=>.l
def zlj (t:LT) (x:Lf):Option A :=
 match t,x with
 | .int k,.i k' a=>if kEq k k' then some a else none
 | .bool,.b a=>some a
 | _,_=>none
def zbz:List Lf→Option (List LT)
 | []=>some []
 | .i k _::l=>(zbz l).map (LT.int k::·)
 | .b _::l=>(zbz l).map (LT.bool::·)
 | _::_=>none
def zcC (ts:List LT):Nat→List (Option Lf)→Option (List Ty×List A)
 | _,[]=>some ([],[])
 | i,c::cs =>
  match c.bind (zlj (ts.getD (i%ts.length) .bool)) with
  | none=>none
  | some a =>
   match zcC ts (i+1) cs with
   | none=>none
   | some r=>some (zno (ts.getD (i%ts.length) .bool)::r.1,a::r.2)
def zoN (ts:List LT) (cs:List Lf):M A :=
 match cs with
 | .e t a i0::l =>
  if rowE t a 1 i0 (.e t a i0::l)&&ts.all (fun u=>t.feq u)&&Nat.beq ts.length (l.length+1) then emit (.lsub (l.length+1) 1 i0 a (.z 0)) else M.fail
 | cs=>do
  let r ←M.lift (zcC ts 0 (cs.map some))
  emit (.lmk r.1 r.2)
def zxd (P:Program) (hp:List (Option Blk)) (t:TypeId) (v:V):M V:=do
 match ←M.lift (P.underlying t),v with
 | .slice _,.s (.one (.vec b)) =>
  let r ←M.lift (zc7 hp b)
  pure (.s (.one (.i .i64 (←emit (.llen r.2.1.length r.2.2)))))
 | .slice _,.s (.one (.v (.slice none 0 0)))=>pure (.s (.one (.i .i64 (.z 0))))
 | .string,.s (.one (.v (.string s)))=>pure (.s (.one (.i .i64 (.z s.size))))
 | .string,.s (.one (.str a))=>do pure (.s (.one (.i .i64 (←emit (.llen 1 a)))))
 | .array n _,_=>pure (.s (.one (.i .i64 (.z n))))
 | _,_=>M.fail
def znp (P:Program) (hp:List (Option Blk)) (src dst:TypeId) (b:Nat):M V:=do
 match ←M.lift (tk P src),←M.lift (P.underlying dst) with
 | .slice e,.string =>
  match ←M.lift (tk P e),←M.lift (zc7 hp b) with
  | .int .u8,(_,[.int .u8],a)=>pure (.s (.one (.str a)))
  | _,_=>M.fail
 | _,_=>M.fail
def zht (P:Program) (hp:List (Option Blk)) (t:TypeId) (b:Nat) (ix:Lf):M Lf:=do
 match ←M.lift (tk P t),ix with
 | .slice elem,.i _ i =>
  let sz ←M.lift (zaO P elem)
  let r ←M.lift (zc7 hp b)
  if Nat.beq sz r.2.1.length then do
   zeE i
   let n ←emit (.llen r.2.1.length r.2.2)
   owe (←emit (.lss i n))
   pure (.p b (.v 0 i sz r.2.2))
  else M.fail
 | _,_=>M.fail
def zhu (sz:Nat) (ix a0 a:A):M Unit :=
 if a0.beq a then pure () else do
  let n ←emit (.llen sz a)
  owe (←emit (.lss ix n))
def zhv (sz j:Nat) (a ix:A):LT→M Lf
 | .int k=>do pure (.i k (←emit (.lgeti sz j a ix)))
 | .bool=>do pure (.b (←emit (.lgetb sz j a ix)))
 | .vec _=>M.fail
def zeK (ts:List LT) (a ix:A):Nat→Nat→M (List Lf)
 | _,0=>pure []
 | j,n+1=>do
  let x ←zhv ts.length j a ix (ts.getD j .bool)
  let r ←zeK ts a ix (j+1) n
  pure (x::r)
def allE (t:LT) (a:A):Nat→Nat→List Lf
 | _,0=>[]
 | i,n+1=>.e t a i::allE t a (i+1) n
def zsz (ts:List LT) (base size:Nat):Option LT :=
 match (ts.drop base).take size with
 | t::l=>if Nat.ble 8 size&&Nat.beq size (l.length+1)&&t.flat&&l.all (fun u=>t.feq u) then some t else none
 | []=>none
def zfZ (ts:List LT) (a:A) (off:Off) (agg:Bool) (size:Nat):M V1:=do
 match off with
 | .v base ix sz a0 =>
  if Nat.beq sz ts.length&&Nat.ble (base+size) sz then do
   zhu sz ix a0 a
   if agg then
    match zsz ts base size with
    | some t=>do
     let q ←emit (.lsub size sz base a ix)
     pure (.agg (allE t q 0 size))
    | none=>do pure (.agg (←zeK ts a ix base size))
   else if Nat.blt base sz then do pure (.one (←zhv ts.length base a ix (ts.getD base .bool)))
   else M.fail
  else M.fail
 | .w base ix sz a0 ix2 sz2 len2 =>
  if !agg&&Nat.beq sz ts.length&&Nat.ble (base+len2) sz&&Nat.beq sz2 1 then do
   zhu sz ix a0 a
   let l ←zeK ts a ix base len2
   pure (.one (←zeF l ix2))
  else M.fail
 | _=>M.fail
def zdG (ts:List LT) (a ix:A):Nat→Nat→List (Option Blk)→M (List Lf×List (Option Blk))
 | _,0,hp=>pure ([],hp)
 | j,n+1,hp=>do
  match ts.getD j .bool with
  | .vec us =>
   if us.all LT.flat then do
    let q ←emit (.lgetl ts.length j a ix)
    let r ←zdG ts a ix (j+1) n (hp++[some (.v false us q)])
    pure (.vec hp.length::r.1,r.2)
   else M.fail
  | t=>do
   let x ←zhv ts.length j a ix t
   let r ←zdG ts a ix (j+1) n hp
   pure (x::r.1,r.2)
def ziH (ts:List LT) (a:A) (off:Off) (agg:Bool) (size:Nat) (hp:List (Option Blk)):M (V1×List (Option Blk)):=do
 match off with
 | .v base ix sz a0 =>
  if Nat.beq sz ts.length&&Nat.ble (base+size) sz&&(agg||Nat.beq size 1) then do
   zhu sz ix a0 a
   let q ←zdG ts a ix base size hp
   if agg then pure (.agg q.1,q.2)
   else
    match q.1 with
    | [x]=>pure (.one x,q.2)
    | _=>M.fail
  else M.fail
 | .w _ _ _ _ _ _ _=>do
  let v ←zfZ ts a off agg size
  pure (v,hp)
 | _=>M.fail
def zgy (ts:List LT) (ix:A):Nat→A→List Lf→M A
 | _,a,[]=>pure a
 | j,a,x::l=>do
  let v ←M.lift (zlj (ts.getD j .bool) x)
  let a1 ←emit (.lset ts.length j (zno (ts.getD j .bool)) a ix v)
  zgy ts ix (j+1) a1 l
def zmh (ts:List LT) (a:A) (off:Off) (xs:List Lf):M A:=do
 match off with
 | .v base ix sz a0 =>
  if Nat.beq sz ts.length&&Nat.ble (base+xs.length) sz then do
   zhu sz ix a0 a
   zgy ts ix base a xs
  else M.fail
 | _=>M.fail
def zsA (P:Program) (hp:List (Option Blk)) (t:TypeId) (l c:Lf):M OR:=do
 match ←M.lift (tk P t),l,c with
 | .slice elem,.i _ n,.i _ m =>
  let z ←M.lift (zeroCells P elem)
  let ts ←M.lift (zbz z)
  let r ←M.lift (zcC ts 0 (z.map some))
  let sz ←M.lift (zaO P elem)
  let by_ ←M.lift (zfE P elem)
  if Nat.beq sz z.length&&Nat.blt 0 sz&&hpLt hp then do
   zeE n
   zgx n m
   zgx m (.z (zeJ by_))
   let q ←emit (.lrep n r.1 r.2)
   pure (.hp (some (.s (.one (.vec hp.length)))) (hp++[some (.v true ts q)]))
  else M.fail
 | _,_,_=>M.fail
def zgz (P:Program) (hp:List (Option Blk)) (t tx:TypeId) (s x:V):M OR:=do
 match ←M.lift (tk P t),←M.lift (tk P tx),s,x with
 | .slice elem,.slice _,.s (.one (.vec b)),.s (.one (.vec c)) =>
  let r ←M.lift (zk6 hp b)
  let u ←M.lift (zc7 hp c)
  let z ←M.lift (zeroCells P elem)
  let sz ←M.lift (zaO P elem)
  let by_ ←M.lift (zfE P elem)
  if r.1&&!Nat.beq b c&&LTs.beq r.2.1 u.2.1&&Nat.beq sz r.2.1.length&&Nat.beq sz z.length&&hpLt hp then do
   let q ←emit (.lcat r.2.2 u.2.2)
   let n ←emit (.llen sz q)
   zgx n (.z (zeJ by_))
   pure (.hp (some (.s (.one (.vec hp.length)))) (zaw none hp b++[some (.v true r.2.1 q)]))
  else M.fail
 | _,_,_,_=>M.fail
def ziY (sz:Nat) (a:A):Option Lf→M (A×A)
 | none=>do
  let n ←emit (.llen sz a)
  pure (a,n)
 | some (.i _ h)=>do
  zeE h
  let n ←emit (.llen sz a)
  zgx h n
  let q ←emit (.ltake sz a h)
  pure (q,h)
 | _=>M.fail
def znq (sz:Nat) (a n:A):Option Lf→M A
 | none=>pure a
 | some (.i _ l)=>do
  zeE l
  zgx l n
  emit (.ldrop sz a l)
 | _=>M.fail
def zeL (r:RS) (ctx:Ctx):Option Operand→Option (Option Lf)
 | none=>some none
 | some x =>
  match rd r ctx x with
  | some (.s (.one l))=>some (some l)
  | _=>none
def zoO (P:Program) (hp:List (Option Blk)) (t:TypeId) (x:V) (low high:Option Lf):M OR:=do
 match ←M.lift (tk P t),x with
 | .slice elem,.s (.one (.vec b)) =>
  let sz ←M.lift (zaO P elem)
  let r ←M.lift (zk6 hp b)
  if Nat.beq sz r.2.1.length&&hpLt hp then do
   let q ←ziY sz r.2.2 high
   let q2 ←znq sz q.1 q.2 low
   pure (.hp (some (.s (.one (.vec hp.length)))) ((if r.1 then zaw none hp b else hp)++[some (.v r.1 r.2.1 q2)]))
  else M.fail
 | .arr n elem,.s (.one (.p b (.c 0))) =>
  match ←M.lift (nth hp b) with
  | .c o cs =>
   let sz ←M.lift (zaO P elem)
   let z ←M.lift (zeroCells P elem)
   let ts ←M.lift (zbz z)
   let r ←M.lift (zcC ts 0 cs)
   if Nat.beq sz ts.length&&Nat.blt 0 sz&&Nat.beq cs.length (n*sz)&&Nat.ble n 16777216&&hpLt hp then do
    let q0 ←emit (.lmk r.1 r.2)
    let q ←ziY sz q0 high
    let q2 ←znq sz q.1 q.2 low
    pure (.hp (some (.s (.one (.vec hp.length)))) (zaw none hp b++[some (.v o ts q2)]))
   else M.fail
  | _=>M.fail
 | _,_=>M.fail
def zeM (P:Program) (hp:List (Option Blk)) (t:TypeId) (len:Nat) (parts:List (Nat×V1)):M OR:=do
 match ←M.lift (tk P t) with
 | .slice elem =>
  let sz ←M.lift (zaO P elem)
  let z ←M.lift (zeroCells P elem)
  let ts ←M.lift (zbz z)
  let cs ←M.lift (zgu (fun i=>some (i*sz,sz)) (List.replicate len z).flatten parts)
  if Nat.beq sz z.length&&Nat.blt 0 sz&&Nat.ble (len*sz) 16777216&&hpLt hp then do
   let q ←zoN ts cs
   pure (.hp (some (.s (.one (.vec hp.length)))) (hp++[some (.v true ts q)]))
  else M.fail
 | _=>M.fail
def zwG (rec:TypeId→Option (List LT)):List (Nat×Nat)→Option (List LT)
 | []=>some []
 | f::fs =>
  match rec f.2,zwG rec fs with
  | some l,some r=>some (l++r)
  | _,_=>none
def zsB (P:Program):Nat→TypeId→Option (List LT)
 | 0,_=>none
 | d+1,t =>
  match tk P t with
  | some (.int k)=>some [.int k]
  | some .bool=>some [.bool]
  | some (.arr n e)=>(zsB P d e).map fun l=>(List.replicate n l).flatten
  | some (.struct fs)=>zwG (zsB P d) fs
  | some (.slice e)=>(zsB P d e).map fun l=>[.vec l]
  | some (.ptr _)=>some [.bool]
  | some .other=>some [.bool]
  | none=>none
def ziZ (P:Program) (hp:List (Option Blk)) (t tx:TypeId) (s x:V):M OR :=
 match s with
 | .s (.one l) =>
  if l.isNil&&hpLt hp&&x.lt hp.length then do
   match ←M.lift (tk P t) with
   | .slice elem=>do
    let z ←M.lift (zeroCells P elem)
    let ts ←M.lift (zbz z)
    let q ←zbV [.vec ts] [l] hp
    match q.1 with
    | [l']=>zgz P q.2 t tx (.s (.one l')) x
    | _=>M.fail
   | _=>M.fail
  else zgz P hp t tx s x
 | _=>zgz P hp t tx s x
def zoP (hp:List (Option Blk)) (b:Nat):Option (Bool×Bool×List LT×A) :=
 match nth hp b with
 | some (.l o f ts a)=>some (o,f,ts,a)
 | _=>none
def zyr (hp:List (Option Blk)):V→Bool
 | .s (.one (.vec b))=>(zoP hp b).isSome
 | _=>false
def killSolid (hp:List (Option Blk)) (b:Nat):List (Option Blk) :=
 match nth hp b with
 | some x=>if x.solid then zaw none hp b else hp
 | none=>hp
def zi0 (P:Program) (hp:List (Option Blk)) (t tx:TypeId) (s x:V):M OR:=do
 match ←M.lift (tk P t),←M.lift (tk P tx),s,x with
 | .slice elem,.slice _,.s (.one (.vec b)),.s (.one (.vec c)) =>
  let r ←M.lift (zoP hp b)
  let u ←M.lift (zc7 hp c)
  let z ←M.lift (zeroCells P elem)
  let sz ←M.lift (zaO P elem)
  let by_ ←M.lift (zfE P elem)
  if r.1&&!Nat.beq b c&&LTs.beq r.2.2.1 u.2.1&&Nat.beq sz r.2.2.1.length&&Nat.beq sz z.length&&hpLt hp then do
   let q ←emit (.lcat r.2.2.2 u.2.2)
   let n ←emit (.llen sz q)
   zgx n (.z (zeJ by_))
   pure (.hp (some (.s (.one (.vec hp.length)))) (killSolid hp b++[some (.l true false r.2.2.1 q)]))
  else M.fail
 | _,_,_,_=>M.fail
def zi1 (P:Program) (hp:List (Option Blk)) (t tx:TypeId) (s x:V):M OR:=if zyr hp s then zi0 P hp t tx s x else ziZ P hp t tx s x
def zmi (P:Program) (hp:List (Option Blk)) (t:TypeId) (x:V) (low:Option Lf):M OR:=do
 match ←M.lift (tk P t),x with
 | .slice elem,.s (.one (.vec b)) =>
  let sz ←M.lift (zaO P elem)
  let r ←M.lift (zoP hp b)
  if Nat.beq sz r.2.2.1.length&&hpLt hp then do
   let q ←ziY sz r.2.2.2 none
   let q2 ←znq sz q.1 q.2 low
   pure (.hp (some (.s (.one (.vec hp.length)))) (killSolid hp b++[some (.l r.1 r.2.1 r.2.2.1 q2)]))
  else M.fail
 | _,_=>M.fail
def zmj (P:Program) (hp:List (Option Blk)) (t:TypeId) (x:V) (high max:Lf):M OR:=do
 match ←M.lift (tk P t),x,high,max with
 | .slice elem,.s (.one (.vec b)),.i _ h,.i _ m =>
  let sz ←M.lift (zaO P elem)
  let r ←M.lift (zc7 hp b)
  if Nat.beq sz r.2.1.length&&hpLt hp then do
   zeE h
   let e ←emit (.eql h m)
   owe e
   let n ←emit (.llen sz r.2.2)
   zgx h n
   let q ←emit (.ltake sz r.2.2 h)
   pure (.hp (some (.s (.one (.vec hp.length)))) (killSolid hp b++[some (.l true true r.2.1 q)]))
  else M.fail
 | _,_,_,_=>M.fail
def zmk (P:Program) (hp:List (Option Blk)) (t:TypeId) (x:V) (low high max:Option Lf):M OR :=
 match max with
 | some m =>
  match low,high with
  | none,some h=>zmj P hp t x h m
  | _,_=>M.fail
 | none =>
  if zyr hp x then
   match high with
   | none=>zmi P hp t x low
   | some _=>M.fail
  else zoO P hp t x low high
def zhZ:List Lf→Option (List Ty×List A)
 | []=>some ([],[])
 | .i _ a::l=>match zhZ l with | some r=>some (.i::r.1,a::r.2) | none=>none
 | .b a::l=>match zhZ l with | some r=>some (.b::r.1,a::r.2) | none=>none
 | _::_=>none
def zh0 (a:A):Nat→List Lf→List Lf
 | _,[]=>[]
 | i,.i k _::l=>.e (.int k) a i::zh0 a (i+1) l
 | i,.b _::l=>.e .bool a i::zh0 a (i+1) l
 | i,x::l=>x::zh0 a (i+1) l
def zxe (z:List Lf) (o n:Nat):M (List Lf) :=
 match zhZ ((z.drop o).take n) with
 | none=>pure z
 | some r=>do
  let a ←emit (.lmk r.1 r.2)
  pure (z.take o++zh0 a 0 ((z.drop o).take n)++(z.drop o).drop n)
def zd5:List (Nat×Nat)→List Lf→M (List Lf)
 | [],z=>pure z
 | g::gs,z=>do
  let z1 ←zxe z g.1 g.2
  zd5 gs z1
def zwH (rec:TypeId→Nat→List (Nat×Nat)) (o:Nat):List (Nat×TypeId)→List (Nat×Nat)
 | []=>[]
 | f::fs=>rec f.2 (o+f.1)++zwH rec o fs
def znr (P:Program):Nat→TypeId→Nat→List (Nat×Nat)
 | 0,_,_=>[]
 | d+1,t,o =>
  match tk P t with
  | some (.arr _ _)=>match zaO P t with | some n=>if Nat.ble 8 n then [(o,n)] else [] | none=>[]
  | some (.struct fs)=>zwH (znr P d) o fs
  | _=>[]
def zh1 (hp:List (Option Blk)) (cs:List Lf):M OR :=
 if hp.all (zao (Blk.lt hp.length))&&cs.all (Lf.lt hp.length) then pure (.hp (some (.s (.one (.p hp.length (.c 0))))) (hp++[some (.c true (cs.map some))])) else M.fail
def zhw (P:Program) (r:RS) (ctx:Ctx) (t:TypeId) (x y:Operand):M (List (Option Blk)):=do
 match ←M.lift (rd r ctx x),←M.lift (rd r ctx y) with
 | .s (.one (.p b off)),.s v=>do
  let sz ←M.lift (zaO P t)
  match ←M.lift (nth r.st.hp b) with
  | .c true cs =>
   if Nat.beq v.cells.length sz&&v.cells.all Lf.ok then do
    pure (zaw (some (.c true (←zeG cs off v.cells))) r.st.hp b)
   else M.fail
  | .v true ts a =>
   if Nat.beq v.cells.length sz&&Nat.blt 0 sz then do
    pure (zaw (some (.v true ts (←zmh ts a off v.cells))) r.st.hp b)
   else M.fail
  | _=>M.fail
 | _,_=>M.fail
def zrk:V→Option Nat
 | .s (.one (.p b (.c 0)))=>some b
 | _=>none
def fnOf:Option V→Option (Nat×List Nat)
 | some (.s (.one (.v (.func (.func f) a b))))=>if Nat.beq a.size 0&&Nat.beq b.size 0 then some (f,[]) else none
 | some (.s (.one (.fnp f bs)))=>some (f,bs)
 | _=>none
def tk0 (P:Program) (t:TypeId):Option TypeDesc:=P.underlying t
def evOp (P:Program) (S:Sigs) (r:RS) (ctx:Ctx) (op:Op):M OR :=
 match op with
 | .move x=>do pure (.val (←M.lift (rd r ctx x)))
 | .assign x=>do pure (.val (←M.lift (rd r ctx x)))
 | .pick c a b=>do pure (.val (←zqw r ctx c a b))
 | .build t parts=>do
  let ps ←M.lift (zcT r ctx parts.toList)
  pure (.val (.s (.agg (←M.lift (zmb P t ps)))))
 | .alloc t=>do
  let z ←M.lift (zeroCells P t)
  if z.any Lf.isNil then
   if hpLt r.st.hp then do
    let q ←zbV ((zsB P 20 t).getD []) z r.st.hp
    zh1 q.2 (←zd5 (znr P 60 t 0) q.1)
   else M.fail
  else do
   zh1 r.st.hp (←zd5 (znr P 60 t 0) z)
 | .box t x=>do
  match ←M.lift (rd r ctx x) with
  | .s v =>
   if v.cells.all Lf.ok then
    if v.cells.any Lf.isNil then
     if hpLt r.st.hp&&v.cells.all (Lf.lt r.st.hp.length) then do
      let q ←zbV ((zsB P 20 t).getD []) v.cells r.st.hp
      zh1 q.2 (←zd5 (znr P 60 t 0) q.1)
     else M.fail
    else do
     zh1 r.st.hp (←zd5 (znr P 60 t 0) v.cells)
   else M.fail
  | _=>M.fail
 | .load t x=>do
  match ←M.lift (rd r ctx x) with
  | .s (.one (.p blk off))=>do
   let k ←M.lift (tk P t)
   let sz ←M.lift (zaO P t)
   match ←M.lift (nth r.st.hp blk) with
   | .c _ cs=>pure (.val (.s (←zdE cs off (zb3 k) sz)))
   | .v _ ts a =>
    if ts.all LT.flat then do pure (.val (.s (←zfZ ts a off (zb3 k) sz)))
    else if hpLt r.st.hp then do
     let q ←ziH ts a off (zb3 k) sz r.st.hp
     pure (.hp (some (.s q.1)) q.2)
    else M.fail
   | .l _ _ ts a=>if ts.all LT.flat then do pure (.val (.s (←zfZ ts a off (zb3 k) sz))) else M.fail
   | .obj _ _ _=>M.fail
   | .m _ _ _ _=>M.fail
  | .s (.one (.gp g off))=>do
   let k ←M.lift (tk P t)
   let sz ←M.lift (zaO P t)
   let cs ←M.lift (assoc S.gs g)
   let v ←zdE (cs.map some) off (zb3 k) sz
   if v.cells.all Lf.scalar then pure (.val (.s v)) else M.fail
  | _=>M.fail
 | .store t x y=>do pure (.hp none (←zhw P r ctx t x y))
 | .nilCheck x=>do
  match ←M.lift (rd r ctx x) with
  | .s (.one (.p b off))=>pure (.val (.s (.one (.p b off))))
  | .s (.one (.fnp f bs))=>pure (.val (.s (.one (.fnp f bs))))
  | .s (.one (.alt a l))=>do pure (.val (.s (.one (←zl9 a l))))
  | _=>M.fail
 | .binOp op t x y _ =>
  if znm y then do
   match ←M.lift (rd r ctx x) with
   | .s (.one (.alt a l))=>do
    if zoJ P t then
     match op with
     | .eql=>do pure (.val (.s (.one (←ziX true false a l))))
     | .neq=>do pure (.val (.s (.one (←ziX true true a l))))
     | _=>M.fail
    else M.fail
   | .s (.one l)=>do
    let q ←M.lift (zqu P op t l)
    pure (.val (.s (.one (.b (.t q)))))
   | _=>M.fail
  else do pure (.val (←zst P op t (←M.lift (rd r ctx x)) (←M.lift (rd r ctx y))))
 | .unOp op _ x=>do
  match ←M.lift (rd r ctx x) with
  | .s (.one l)=>pure (.val (.s (.one (←evUn op l))))
  | _=>M.fail
 | .convert a b x=>do
  match ←M.lift (rd r ctx x) with
  | .s (.one (.vec q))=>do pure (.val (←znp P r.st.hp a b q))
  | .s (.one l)=>pure (.val (.s (.one (←zsu P a b l))))
  | _=>M.fail
 | .fieldAddr t x f=>do
  match ←M.lift (rd r ctx x) with
  | .s (.one l)=>pure (.val (.s (.one (←zfX P t l f))))
  | _=>M.fail
 | .field t x f=>do
  match ←M.lift (rd r ctx x) with
  | .s (.agg l)=>pure (.val (.s (←zoI P t l f)))
  | _=>M.fail
 | .indexAddr t x ix=>do
  match ←M.lift (rd r ctx x),←M.lift (rd r ctx ix) with
  | .s (.one (.vec b)),.s (.one i)=>pure (.val (.s (.one (←zht P r.st.hp t b i))))
  | .s (.one l),.s (.one i)=>pure (.val (.s (.one (←zfW P t l i))))
  | _,_=>M.fail
 | .buildSlice t len parts=>do
  let ps ←M.lift (zcT r ctx parts.toList)
  zeM P r.st.hp t len ps
 | .makeSlice t l c=>do
  match ←M.lift (rd r ctx l),←M.lift (rd r ctx c) with
  | .s (.one a),.s (.one b)=>zsA P r.st.hp t a b
  | _,_=>M.fail
 | .slice t x low high max=>do
  let v ←M.lift (rd r ctx x)
  let lo ←M.lift (zeL r ctx low)
  let hi ←M.lift (zeL r ctx high)
  let mx ←M.lift (zeL r ctx max)
  zmk P r.st.hp t v lo hi mx
 | .index t x ix=>do
  match ←M.lift (rd r ctx x),←M.lift (rd r ctx ix) with
  | .s (.agg l),.s (.one i)=>pure (.val (.s (←zoH P t l i)))
  | .s (.one (.v (.string s))),.s (.one (.i _ a))=>do
   match ←M.lift (tk0 P t) with
   | .string =>
    zde a s.size
    pure (.val (.s (.one (.i .u8 (←emit (.seli (s.data.toList.map fun b=>.z b.toNat) a))))))
   | _=>M.fail
  | _,_=>M.fail
 | .extract x n=>do
  match ←M.lift (rd r ctx x) with
  | .t l=>pure (.val (.s (←M.lift l[n]?)))
  | _=>M.fail
 | .makeFunc fn first cap =>
  match fn with
  | .func f=>do
   let vs ←M.lift (zcB r ctx cap.toList)
   let bs ←M.lift (zby zrk vs)
   if first.isEmpty then pure (.val (.s (.one (.fnp f bs)))) else M.fail
  | _=>M.fail
 | .makeInterface t x=>do
  match ←M.lift (rd r ctx x) with
  | .s (.one (.p b (.c 0)))=>do
   match ←M.lift (tk P t) with
   | .ptr _=>pure (.val (.s (.one (.ifp t b))))
   | _=>M.fail
  | _=>M.fail
 | .call c =>
  match c.callee with
  | .value x=>do
   let (f,bs) ←M.lift (fnOf (rd r ctx x))
   let vs ←M.lift (zcB r ctx c.args.toList)
   match ziG P f,vs,bs with
   | some add,[.s (.one (.i .u64 a)),.s (.one (.i .u64 b)),.s (.one (.i .u64 q))],[]=>zoM add a b q
   | some _,_,_=>M.fail
   | none,_,_=>zfY P S f (vs++bs.map fun b=>.s (.one (.p b (.c 0)))) r.st.hp
  | .builtin b=>do
   let vs ←M.lift (zcB r ctx c.args.toList)
   match b,vs with
   | .max,[.s (.one (.i k a)),.s (.one (.i k' b))] =>
    if kEq k k' then do
     match a,b with
     | .z m,.z n=>pure (.val (.s (.one (.i k (.z (if n>m then n else m))))))
     | a,b=>do
      let c ←emit (.gtr b a)
      pure (.val (.s (.one (.i k (←zgp c b a)))))
    else M.fail
   | .min,[.s (.one (.i k a)),.s (.one (.i k' b))] =>
    if kEq k k' then do
     match a,b with
     | .z m,.z n=>pure (.val (.s (.one (.i k (.z (if n<m then n else m))))))
     | a,b=>do
      let c ←emit (.lss b a)
      pure (.val (.s (.one (.i k (←zgp c b a)))))
    else M.fail
   | .len,[v]=>do pure (.val (←zxd P r.st.hp (←M.lift c.argTypes[0]?) v))
   | .append,[s,x]=>do zi1 P r.st.hp (←M.lift c.argTypes[0]?) (←M.lift c.argTypes[1]?) s x
   | _,_=>M.fail
  | .invoke x name=>do
   match ←M.lift (rd r ctx x) with
   | .s (.one (.ifp t b))=>do
    let f ←M.lift (zdf P t name)
    let vs ←M.lift (zcB r ctx c.args.toList)
    zfY P S f (.s (.one (.p b (.c 0)))::vs) r.st.hp
   | .s (.one (.alt a l))=>do
    let vs ←M.lift (zcB r ctx c.args.toList)
    if zd4 true (zaJ l) l&&r.st.hp.all (zao (Blk.lt r.st.hp.length)) then do
     let c ←emit (.neq a (.z (zaJ l)))
     owe c
     let z ←zgw P S name vs r.st.hp a (l.filter fun x=>!x.2.isNil)
     pure (.hp (some z.1) z.2)
    else M.fail
   | _=>M.fail
 | _=>M.fail
def zi2 (d:Nat) (l:List GE):Bool:=l.all fun e=>!Nat.beq e.d d
def zqx (t:Nat) (l:List GE):List GE:=l.filter fun e=>!Nat.beq e.t t
def RS.put (r:RS) (dst:Option Tmp) (v:Option V):M RS :=
 match dst with
 | none=>pure r
 | some d=>if zi2 d r.gl then pure ⟨⟨zaw v r.st.sl d,r.st.hp⟩,zqx d r.gl⟩ else M.fail
def RS.putG (r:RS) (dst:Option Tmp) (v:V) (d:Nat) (want:Bool):M RS :=
 match dst with
 | none=>pure r
 | some t =>
  if zi2 t r.gl&&!Nat.beq t d&&decide (t<r.st.sl.length) then pure ⟨⟨zaw none r.st.sl t,r.st.hp⟩,⟨t,v,d,want⟩::zqx t r.gl⟩ else M.fail
def St.lt (s:St) (n:Nat):Bool:=s.sl.all (zao (V.lt n))&&s.hp.all (zao (Blk.lt n))
def zeN (q:Bool) (r:RS) (dst:Option Tmp) (x:OR):M RS :=
 match x with
 | .val v=>r.put dst (some v)
 | .hp v hp =>
  if !q&&(r.st.sl.all (zao (V.lt r.st.hp.length))&&r.gl.all (fun e=>e.v.lt r.st.hp.length)) then RS.put ⟨⟨r.st.sl,hp⟩,r.gl⟩ dst v
  else M.fail
def zml (r:RS) (dst:Option Tmp) (d:Nat) (want:Bool) (x:OR):M RS :=
 match x with
 | .val v=>r.putG dst v d want
 | _=>M.fail
def conj:List (A×Bool)→M A
 | []=>pure (.t true)
 | (a,b)::l=>do
  let x ←(if b then pure a else zoB a)
  let r ←conj l
  zsb x r
def zd6:List (Option Blk)→M (List (Option Blk))
 | []=>pure []
 | b::l =>
  match b with
  | some (.v o ts _) =>
   if Nat.ble 1 ts.length then do
    let q ←emit (.lmk [] [])
    let r ←zd6 l
    pure (some (.v o ts q)::r)
   else do
    let r ←zd6 l
    pure (none::r)
  | _=>do
   let r ←zd6 l
   pure (none::r)
def zi3 (r:RS) (dst:Option Tmp) (d:Nat) (want:Bool) (cs:List (A×Bool)) (n0:Nat) (v:Option V) (hp:List (Option Blk)):M RS :=
 if r.st.sl.all (zao (V.lt r.st.hp.length))&&r.gl.all (fun e=>e.v.lt r.st.hp.length)&&Nat.ble n0 r.st.hp.length&&Nat.ble r.st.hp.length hp.length&&hpLt r.st.hp then do
  let c ←conj cs
  let t ←zd6 (hp.drop r.st.hp.length)
  let s ←zfU hp.length c ⟨r.st.sl,hp⟩ ⟨r.st.sl,r.st.hp++t⟩
  match v with
  | some v=>if v.lt hp.length then RS.putG ⟨s,r.gl⟩ dst v d want else M.fail
  | none=>RS.put ⟨s,r.gl⟩ dst none
 else M.fail
def zi4 (P:Program) (S:Sigs) (q:Bool) (ops:List Oper) (r:RS) (o:Oper):M RS :=
 match o.guard with
 | none=>do
  let x ←evOp P S r [] o.op
  zeN q r o.dst x
 | some (j,want)=>do
  let d ←M.lift ((ops[j]?).bind (·.dst))
  match ←M.lift (zbP r 8 d want) with
  | none=>r.put o.dst (some zdd)
  | some (ctx,cs) =>
   match ctx with
   | []=>do
    let x ←evOp P S r [] o.op
    zeN q r o.dst x
   | _=>do
    let x ←zgs cs (evOp P S r ctx o.op)
    match x with
    | .hp v hp=>if q then M.fail else zi3 r o.dst d want cs S.n0 v hp
    | x=>zml r o.dst d want x
def zcV (P:Program) (S:Sigs) (q:Bool) (ops:List Oper):List Oper→RS→M RS
 | [],r=>pure r
 | o::l,r=>do
  let r1 ←zi4 P S q ops r o
  zcV P S q ops l r1
def zsC:Op→Bool
 | .alloc _ | .box _ _ | .store _ _ _ | .makeSlice _ _ _ | .slice _ _ _ _ _ | .buildSlice _ _ _=>false
 | .call c=>match c.callee with
  | .builtin .append=>false
  | _=>true
 | _=>true
def zvO (o:Oper) (n:Nat):Bool:=(List.range n).all fun i=>o.after.any fun e=>Region.binds .any e&&Nat.beq e.on i
def zk7 (ops:List Oper):Bool:=ops.zipIdx.all fun p=>(p.1.after.all fun e=>!Region.binds .any e||Nat.blt e.on p.2) &&
 (match p.1.guard with | some (j,_)=>Nat.blt j p.2 | none=>true)
def zys (ops:List Oper) (n:Nat):Bool:=(ops.zipIdx.drop n).all fun p=>zvO p.1 p.2
def zbo:Op→Bool
 | .move _ | .assign _ | .nilCheck _ | .binOp _ _ _ _ _ | .unOp _ _ _ | .convert _ _ _ | .fieldAddr _ _ _ | .indexAddr _ _ _ | .load _ _ | .field _ _ _ | .index _ _ _ | .extract _ _ | .pick _ _ _ | .build _ _=>true
 | .call c =>
  match c.callee with
  | .builtin .len=>true
  | _=>false
 | _=>false
def zmm (fx:List Nat) (r:RS) (ctx:Ctx):Op→Bool
 | .load _ x =>
  match rd r ctx x with
  | some (.s (.one (.p b _)))=>!memN b fx&&zao Blk.flat (nth r.st.hp b)
  | _=>true
 | .convert _ _ x =>
  match rd r ctx x with
  | some (.s (.one (.vec b)))=>!memN b fx
  | _=>true
 | _=>true
def zsD (P:Program) (S:Sigs) (fx:List Nat) (r:RS) (ctx:Ctx) (op:Op):M OR:=if zmm fx r ctx op then evOp P S r ctx op else M.fail
def allocOp:Op→Bool
 | .alloc _=>true
 | _=>false
def zoQ (P:Program) (S:Sigs) (fx:List Nat) (ops:List Oper) (r:RS) (o:Oper):M RS :=
 if allocOp o.op then (if o.guard.isNone then r.put o.dst (some (.s (.one (.p r.st.hp.length (.c 0))))) else M.fail) else
 match o.guard with
 | none=>do
  let x ←zsD P S fx r [] o.op
  zeN true r o.dst x
 | some (j,want)=>do
  let d ←M.lift ((ops[j]?).bind (·.dst))
  match ←M.lift (zbP r 8 d want) with
  | none=>r.put o.dst (some zdd)
  | some (ctx,cs) =>
   match ctx with
   | []=>do
    let x ←zsD P S fx r [] o.op
    zeN true r o.dst x
   | _=>do
    let x ←zgs cs (zsD P S fx r ctx o.op)
    match x with
    | .hp _ _=>M.fail
    | x=>zml r o.dst d want x
def zgA (P:Program) (S:Sigs) (fx:List Nat) (ops:List Oper):List Oper→RS→M RS
 | [],r=>pure r
 | o::l,r=>do
  let r1 ←zoQ P S fx ops r o
  zgA P S fx ops l r1
def zbX:Op→Bool
 | .store _ _ _=>true
 | _=>false
def za6 (o:Oper):List Nat:=(o.after.toList.filter fun e=>Region.binds .any e).map (·.on)
def zax (ops:List Oper):Nat→List Nat→List Nat
 | 0,l=>l
 | n+1,l=>if memN n l then zax ops n ((match ops[n]? with | some o=>za6 o | none=>[])++l) else zax ops n l
def nop (o:Oper):Oper:=if zbX o.op then { o with op:=.move (.const (.bool false)) } else o
def za7 (o:Op):Bool:=zbX o||allocOp o
def nopN (N:Nat) (o:Oper):Oper :=
 if zbX o.op then { o with op:=.move (.const (.bool false)) } else
 if allocOp o.op then { o with op:=.move (.const (.pointer (some ⟨N,0,none⟩))) } else o
def storeAt (ops:List Oper):List Nat:=(ops.zipIdx.filter fun p=>za7 p.1.op).map (·.2)
def zns:Operand→List Nat
 | .tmp t=>[t]
 | _=>[]
def zdH:Op→List Nat
 | .store _ x y=>zns x++zns y
 | _=>[]
def sub1 (l m:List Nat):Bool:=l.all fun x=>memN x m
def zqy:List Nat→Bool
 | a::b::l=>Nat.blt a b&&zqy (b::l)
 | _=>true
def zmn (anc:List Nat) (ts:List Nat) (p:Oper×Nat):Bool :=
 match p.1.dst with
 | some t=>!memN t ts||memN p.2 anc
 | none=>true
def zyt (ops:List Oper) (i:Nat):Bool :=
 match ops[i]? with
 | some o=>sub1 ((storeAt ops).filter fun j=>Nat.blt j i) (zax ops i (za6 o))&&ops.zipIdx.all (zmn (zax ops i (za6 o)) (zdH o.op))
 | none=>false
def zvP (ops:List Oper):Bool :=
 ops.all (fun o=>zbo o.op||(za7 o.op&&o.guard.isNone&&(allocOp o.op||o.dst.isNone)))&&zqy (storeAt ops)&&(storeAt ops).all (zyt ops)&&((ops.filter fun o=>za7 o.op).drop 1).all fun o=>zbX o.op
def zgB (P:Program) (S:Sigs) (fx:List Nat) (sl:List (Option V)) (gl:List GE):List Oper→List (Option Blk)→M (List (Option Blk))
 | [],hp=>pure hp
 | o::l,hp=>do
  match o.op with
  | .store t x y =>
   match ←M.lift (rd ⟨⟨sl,hp⟩,gl⟩ [] x) with
   | .s (.one (.p b _)) =>
    if memN b fx then do
     let hp1 ←zhw P ⟨⟨sl,hp⟩,gl⟩ [] t x y
     zgB P S fx sl gl l hp1
    else M.fail
   | _=>M.fail
  | .alloc t =>
   let z ←M.lift (zeroCells P t)
   if memN hp.length fx&&!z.any Lf.isNil&&hpLt hp&&z.all (Lf.lt hp.length) then zgB P S fx sl gl l (hp++[some (.c true (z.map some))])
   else M.fail
  | _=>M.fail
def zi5 (P:Program) (S:Sigs) (fx:List Nat) (ops:List Oper) (s:St):M St:=do
 if s.sl.all (zao (V.lt s.hp.length))&&hpLt s.hp then do
  let r ←zgA P S fx (ops.map nop) (ops.map nop) ⟨s,[]⟩
  let hp ←zgB P S fx r.st.sl r.gl (ops.filter fun o=>za7 o.op) s.hp
  pure ⟨r.st.sl,hp⟩
 else M.fail
def zxf (r:RS) (o:Oper):List Nat :=
 match o.op with
 | .store _ x _ =>
  match rd r [] x with
  | some (.s (.one (.p b _)))=>[b]
  | _=>[]
 | .alloc _=>[r.st.hp.length]
 | _=>[]
def zoR (P:Program) (S:Sigs) (ops:List Oper) (s:St):M St:=fun n =>
 zi5 P S (match zgA P S [] (ops.map nop) (ops.map nop) ⟨s,[]⟩ n with | some (r,_,_,_)=>ops.flatMap (zxf r) | none=>[]) ops s n
def Lf.eqB:Lf→Lf→Bool
 | .i k a,.i k' a'=>kEq k k'&&a.beq a'
 | .b a,.b a'=>a.beq a'
 | .p q (.c n),.p q' (.c n')=>Nat.beq q q'&&Nat.beq n n'
 | .nilp,.nilp=>true
 | .vec q,.vec q'=>Nat.beq q q'
 | .mp q,.mp q'=>Nat.beq q q'
 | .ifp t q,.ifp t' q'=>Nat.beq t t'&&Nat.beq q q'
 | .v x,.v y=>vBeq x y
 | .e t a j,.e t' a' j'=>t.feq t'&&a.beq a'&&Nat.beq j j'
 | .str a,.str a'=>a.beq a'
 | _,_=>false
def zlk:List Lf→List Lf→Bool
 | [],[]=>true
 | a::l,b::l'=>a.eqB b&&zlk l l'
 | _,_=>false
def V.eqB:V→V→Bool
 | .s (.one a),.s (.one b)=>a.eqB b
 | .s (.agg a),.s (.agg b)=>zlk a b
 | _,_=>false
def zoS:List V→List V→Bool
 | [],[]=>true
 | a::l,b::l'=>a.eqB b&&zoS l l'
 | _,_=>false
def calleeOf:Op→Option (Operand×List Operand)
 | .call c =>
  match c.callee with
  | .value x=>some (x,c.args.toList)
  | _=>none
 | _=>none
def zch (o:Op):Bool:=allocOp o||(calleeOf o).isSome
def zgC (o:Op):List Nat :=
 match calleeOf o with
 | some (x,l)=>zns x++l.flatMap zns
 | none=>[]
def nopW (v:Value) (o:Oper):Oper:=if zch o.op then { o with op:=.move (.const v) } else o
def zvQ (ops:List Oper):List Nat:=(ops.zipIdx.filter fun p=>zch p.1.op).map (·.2)
def zwI (ops:List Oper):List Nat:=(ops.zipIdx.filter fun p=>(calleeOf p.1.op).isSome).map (·.2)
def zwJ (pre:List Oper) (i:Nat):Bool :=
 match pre[i]? with
 | some o=>(!(calleeOf o.op).isSome||sub1 ((zwI pre).filter fun j=>Nat.blt j i) (zax pre i (za6 o)))&&pre.zipIdx.all (zmn (zax pre i (za6 o)) (zgC o.op))
 | none=>false
def zsE (ops:List Oper) (n:Nat):Bool:=(ops.zipIdx.drop n).all fun p=>(List.range p.2).all fun j=>memN j (zax (ops.take (p.2+1)) p.2 (za6 p.1))
def zi6 (o:Oper):Bool:=(zbo o.op&&!zch o.op)||(zch o.op&&o.guard.isNone)
def zxg (ops:List Oper) (n:Nat):Bool :=
 (ops.take n).all zi6&&(zvQ (ops.take n)).all (zwJ (ops.take n))&&zsE ops n&&Region.lexB .any ((ops.take n).map (nopW (.bool false))).toArray&&zk7 ops
def frz:Option Blk→Option Blk
 | some b=>if b.flat&&!b.own then some b else none
 | none=>none
def zf0 (P:Program):List Oper→Option (List (List Lf))
 | []=>some []
 | o::l =>
  match o.op with
  | .alloc t =>
   match zeroCells P t,zf0 P l with
   | some z,some zs=>some (z::zs)
   | _,_=>none
  | _=>zf0 P l
def Lf.inB (p:Nat→Bool):Lf→Bool
 | .p q (.c _)=>p q
 | .vec q=>p q
 | .p _ _ | .gp _ _ | .fnp _ _ | .ifp _ _ | .mp _ | .alt _ _=>false
 | _=>true
def V.inB (p:Nat→Bool):V→Bool
 | .s (.one a)=>a.inB p
 | .s (.agg l)=>l.all (Lf.inB p)
 | .t l=>l.all fun v=>v.cells.all (Lf.inB p)
def zeO (P:Program) (S:Sigs) (ops:List Oper) (b0:Nat) (hc:List (Option Blk)):List Oper→Nat→RS→List (Option Blk)→M (RS×List (Option Blk)×List (Nat×List V×V))
 | [],_,r,hn=>pure (r,hn,[])
 | o::l,b,r,hn =>
  if allocOp o.op then do
   let v:V:=.s (.one (.p b (.c 0)))
   let r1 ←r.put o.dst (some v)
   let z ←zeO P S ops b0 hc l (b+1) r1 hn
   pure (z.1,z.2.1,(0,[],v)::z.2.2)
  else
   match calleeOf o.op with
   | some (x,args)=>do
    let (f,bs) ←M.lift (fnOf (rd r [] x))
    let vs ←M.lift (zcB r [] args)
    if bs.isEmpty then do
     match ←znk P S f vs (hc++hn.map frz) with
     | .val v =>
      if v.easy&&v.inB (fun q=>Nat.blt q b0) then do
       let r1 ←r.put o.dst (some v)
       let z ←zeO P S ops b0 hc l b r1 hn
       pure (z.1,z.2.1,(f,vs,v)::z.2.2)
      else M.fail
     | .hp (some v) hp1 =>
      if v.easy&&v.inB (fun q=>Nat.blt q b0||(Nat.ble (hc.length+hn.length) q&&Nat.blt q hp1.length))&&Nat.ble (hc.length+hn.length) hp1.length then do
       let r1 ←r.put o.dst (some v)
       let z ←zeO P S ops b0 hc l b r1 (hn++hp1.drop (hc.length+hn.length))
       pure (z.1,z.2.1,(f,vs,v)::z.2.2)
      else M.fail
     | .hp none _=>M.fail
    else M.fail
   | none=>do
    let r1 ←zi4 P S true ops r o
    let z ←zeO P S ops b0 hc l b r1 hn
    pure (z.1,z.2.1,(0,[],default)::z.2.2)
def zvR (r : RS) : List Oper → List (Nat × List V × V) → Bool
  | [], [] => true
  | o :: l, e :: es =>
    (match calleeOf o.op with
     | some (x, args) =>
       (match fnOf (rd r [] x), zcB r [] args with
        | some (f, []), some vs => Nat.beq f e.1 && zoS vs e.2.1
        | _, _ => false)
     | none => true) && zvR r l es
  | _, _ => false
def zsF (P:Program) (S:Sigs) (ops:List Oper) (n:Nat) (s:St):M St:=do
 if s.sl.all (zao (V.lt s.hp.length))&&hpLt s.hp then do
  let zs ←M.lift (zf0 P (ops.take n))
  let z ←zeO P S (ops.take n) s.hp.length ((s.hp++zs.map fun _=>none).map frz) (ops.take n) s.hp.length ⟨s,[]⟩ []
  if zs.all (fun z=>!z.any Lf.isNil&&z.all (Lf.lt s.hp.length))&&z.2.1.all (zao fun b=>b.flat&&b.lt s.hp.length)&&zvR z.1 (ops.take n) z.2.2 then do
   let r2 ←zcV P S false ops (ops.drop n) ⟨⟨z.1.st.sl,s.hp++zs.map (fun z=>some (.c true (z.map some)))++z.2.1⟩,z.1.gl⟩
   pure r2.st
  else M.fail
 else M.fail
def effOp2:Op→Bool
 | .alloc _ | .box _ _ | .buildSlice _ _ _ | .makeSlice _ _ _ | .slice _ _ _ _ _=>true
 | .call c =>
  match c.callee with
  | .value _=>true
  | .builtin .append=>true
  | _=>false
 | _=>false
def zoT:Op→List Operand
 | .box _ x=>[x]
 | .buildSlice _ _ ps=>ps.toList.map (·.2)
 | .makeSlice _ l c=>[l,c]
 | .slice _ x lo hi mx=>x::(lo.toList++hi.toList++mx.toList)
 | .call c=>(match c.callee with | .value x=>[x] | _=>[])++c.args.toList
 | _=>[]
def zeP (o:Op):List Nat:=(zoT o).flatMap zns
def zhx (o:Oper):Bool:=(zbo o.op&&!effOp2 o.op)||(effOp2 o.op&&o.guard.isNone)
def nopX (v:Value) (o:Oper):Oper:=if effOp2 o.op then { o with op:=.move (.const v) } else o
def A.eqS:A→A→Bool
 | .r a,.r b=>Nat.beq a b
 | .z a,.z b=>decide (a=b)
 | .t a,.t b=>beqB a b
 | _,_=>false
def Lf.eqS:Lf→Lf→Bool
 | .i k a,.i k' a'=>kEq k k'&&a.eqS a'
 | .b a,.b a'=>a.eqS a'
 | .p q (.c n),.p q' (.c n')=>Nat.beq q q'&&Nat.beq n n'
 | .nilp,.nilp=>true
 | .vec q,.vec q'=>Nat.beq q q'
 | .mp q,.mp q'=>Nat.beq q q'
 | .e t a j,.e t' a' j'=>t.feq t'&&a.eqS a'&&Nat.beq j j'
 | _,_=>false
def zfn:List (Option Lf)→List (Option Lf)→Bool
 | [],[]=>true
 | none::l,none::l'=>zfn l l'
 | some a::l,some b::l'=>a.eqS b&&zfn l l'
 | _,_=>false
def Blk.eqS:Blk→Blk→Bool
 | .c o cs,.c o' cs'=>beqB o o'&&zfn cs cs'
 | .v o ts a,.v o' ts' a'=>beqB o o'&&zhW ts ts'&&a.eqS a'
 | .obj o k a,.obj o' k' a'=>beqB o o'&&Nat.beq k k'&&a.eqS a'
 | .l o f ts a,.l o' f' ts' a'=>beqB o o'&&beqB f f'&&zhW ts ts'&&a.eqS a'
 | _,_=>false
def zrl:List (Option Blk)→List (Option Blk)→Bool
 | [],_=>true
 | _::l,none::l'=>zrl l l'
 | some x::l,some y::l'=>x.eqS y&&zrl l l'
 | _,_=>false
def zyu:Alt→List Nat
 | .p q _=>[q]
 | .ifp _ q=>[q]
 | _=>[]
def zxh:Lf→List Nat
 | .p q _=>[q]
 | .vec q=>[q]
 | .fnp _ bs=>bs
 | .ifp _ q=>[q]
 | .mp q=>[q]
 | .alt _ l=>l.flatMap fun x=>zyu x.2
 | _=>[]
def zyv (v:V1):List Nat:=v.cells.flatMap zxh
def vIds:V→List Nat
 | .s v=>zyv v
 | .t l=>l.flatMap zyv
def zyw:Option Blk→List Nat
 | some (.c _ cs)=>cs.flatMap fun c=>match c with | some l=>zxh l | none=>[]
 | some (.m _ _ _ cs)=>cs.flatMap zxh
 | _=>[]
def ziI (hp:List (Option Blk)):Nat→List Nat→List Nat→List Nat
 | 0,_,d=>d
 | _+1,[],d=>d
 | n+1,q::l,d=>if memN q d then ziI hp n l d else ziI hp n (zyw (nth hp q)++l) (q::d)
def keepAt (fp:List Nat):Nat→List (Option Blk)→List (Option Blk)
 | _,[]=>[]
 | j,x::l=>(if memN j fp then x else none)::keepAt fp (j+1) l
def zdg (ts:List Nat):Nat→List (Option V)→List (Option V)
 | _,[]=>[]
 | j,x::l=>(if memN j ts then x else none)::zdg ts (j+1) l
def Blk.refsIn (p:Nat→Bool):Blk→Bool
 | .c _ cs=>cs.all (zao fun l=>l.inB p)
 | .v _ _ _=>true
 | .obj _ _ _=>true
 | .l _ _ _ _=>true
 | .m _ _ _ _=>false
def frz2 (base:Nat):Option Blk→Option Blk
 | some b=>if b.flat&&b.refsIn (fun q=>Nat.blt q base) then some b.froze else none
 | none=>none
structure SwE where
 fp:List Nat
 a:Nat
 b:Nat
 ks:List Nat
 v:V
 sl:List (Option V)
 deriving Inhabited
def rngB (base:Nat) (fp:List Nat) (a b:Nat) (q:Nat):Bool:=Nat.blt q base||memN q fp||(Nat.ble a q&&Nat.blt q b)
def zxi (P:Program) (S:Sigs) (base:Nat) (r:RS) (H:List (Option Blk)) (dead:List Nat) (o:Oper):M (List (Option Blk)×SwE):=do
 let sl:=zdg (zeP o.op) 0 r.st.sl
 let fp:=(ziI H 60 ((zeP o.op).flatMap fun t=>match nth r.st.sl t with | some v=>vIds v | none=>[]) []).filter fun q=>!memN q dead&&Nat.blt q H.length
 match ←evOp P S ⟨⟨sl,keepAt fp 0 H⟩,[]⟩ [] o.op with
 | .val v=>if v.easy&&v.inB (rngB base [] 0 0) then pure (H,⟨fp,H.length,H.length,[],v,sl⟩) else M.fail
 | .hp (some v) hp' =>
  let ks:=fp.filter fun q=>(nth (keepAt fp 0 H) q).isSome&&(nth hp' q).isNone
  let news:=hp'.drop H.length
  if Nat.ble H.length hp'.length&&zrl (keepAt fp 0 H) hp'&&(ks.all fun q=>Nat.ble base q)&&news.all (zao fun b=>b.flat&&b.refsIn (rngB base fp H.length hp'.length))&&v.easy&&v.inB (rngB base [] H.length hp'.length)
  then pure (H++news,⟨fp,H.length,hp'.length,ks,v,sl⟩)
  else M.fail
 | .hp none _=>M.fail
def zrm (P:Program) (S:Sigs) (ops:List Oper) (base:Nat):List Oper→RS→List (Option Blk)→List Nat→M (RS×List (Option Blk)×List SwE)
 | [],r,H,_=>pure (r,H,[])
 | o::l,r,H,dead =>
  if effOp2 o.op then do
   let x ←zxi P S base r H dead o
   let r1 ←r.put o.dst (some x.2.v)
   let z ←zrm P S ops base l r1 x.1 (x.2.ks++dead)
   pure (z.1,z.2.1,x.2::z.2.2)
  else do
   let r1 ←zi4 P S true ops r o
   let z ←zrm P S ops base l r1 H dead
   pure (z.1,z.2.1,⟨[],H.length,H.length,[],default,[]⟩::z.2.2)
def zdh:List (Option V)→List (Option V)→Bool
 | [],[]=>true
 | none::l,_::l'=>zdh l l'
 | some v::l,some v'::l'=>v'.eqB v&&zdh l l'
 | _,_=>false
def zgD (pre:List Oper) (i:Nat):List Nat :=
 match pre[i]? with
 | some o=>zax pre i (za6 o)
 | none=>[]
def swAt (pre : List Oper) (es : List SwE) (base : Nat) (p : Oper × Nat) (e : SwE) : Bool :=
  !effOp2 p.1.op ||
  ((e.fp.all fun q => Nat.blt q base || es.zipIdx.any fun x => Nat.ble x.1.a q && Nat.blt q x.1.b && memN x.2 (zgD pre p.2)) &&
   (es.zipIdx.all fun x => Nat.beq x.2 p.2 || memN x.2 (zgD pre p.2) || e.ks.all fun q => !memN q x.1.fp) &&
   pre.zipIdx.all (zmn (zgD pre p.2) (zeP p.1.op)))
def zsG (pre:List Oper) (es:List SwE) (base:Nat):Nat→List Oper→List SwE→Bool
 | _,[],[]=>true
 | i,o::l,e::r=>swAt pre es base (o,i) e&&zsG pre es base (i+1) l r
 | _,_,_=>false
def zsH:List SwE→List Nat
 | []=>[]
 | e::r=>e.ks++zsH r
def finH (dead:List Nat):Nat→List (Option Blk)→List (Option Blk)
 | _,[]=>[]
 | j,x::l=>(match x with | some b=>if b.own&&!b.shr&&!memN j dead then some b else none | none=>none)::finH dead (j+1) l
def swB (ops:List Oper) (n:Nat):Bool :=
 (ops.take n).all zhx&&zsE ops n&&Region.lexB .any ((ops.take n).map (nopX (.bool false))).toArray&&zk7 ops
def zi7 (sl:List (Option V)):List Oper→List SwE→Bool
 | [],[]=>true
 | o::l,e::r=>(!effOp2 o.op||zdh e.sl sl)&&zi7 sl l r
 | _,_=>false
def evSw (P:Program) (S:Sigs) (ops:List Oper) (n:Nat) (s:St):M St:=do
 if s.sl.all (zao (V.lt s.hp.length))&&hpLt s.hp then do
  let z ←zrm P S (ops.take n) s.hp.length (ops.take n) ⟨s,[]⟩ (s.hp.map (frz2 s.hp.length)) []
  if zsG (ops.take n) z.2.2 s.hp.length 0 (ops.take n) z.2.2&&zi7 z.1.st.sl (ops.take n) z.2.2 then do
   let r2 ←zcV P S false ops (ops.drop n) ⟨⟨z.1.st.sl,s.hp++(finH (zsH z.2.2) 0 z.2.1).drop s.hp.length⟩,z.1.gl⟩
   pure r2.st
  else M.fail
 else M.fail
def znt:Op→Option (List Operand)
 | .alloc _=>some []
 | .box _ x=>some [x]
 | .buildSlice _ _ ps=>some (ps.toList.map (·.2))
 | .makeSlice _ l c=>some [l,c]
 | .slice _ x lo hi mx=>some (x::(lo.toList++hi.toList++mx.toList))
 | .store _ x y=>some [x,y]
 | .makeMap _ r=>some r.toList
 | .insert _ m k v=>some [m,k,v]
 | .lookup _ m k _=>some [m,k]
 | .makeInterface _ x=>some [x]
 | .convert _ _ x=>some [x]
 | .call c=>some ((match c.callee with | .value x=>[x] | .invoke x _=>[x] | .builtin _=>[])++c.args.toList)
 | _=>none
def zi8 (o:Op):List Nat:=((znt o).getD []).flatMap zns
def turn4 (o:Op):Bool:=!zbo o
def zxj (o:Op):Bool :=
 match o with
 | .convert _ _ _=>true
 | _=>false
def eff4 (o:Op):Bool:=turn4 o||zxj o
def zsI (o:Oper):Bool:=zbo o.op||(znt o.op).isSome
def nopY (v:Value) (o:Oper):Oper:=if eff4 o.op then { o with op:=.move (.const v) } else o
structure ChE where
 sl:List (Option V)
 gl:List GE
 v:V
 H:List (Option Blk)
 /-- the blocks that it looks at -/
 R:List (Option Blk)
 deriving Inhabited
def zxk:List (Option Blk)→List (Option Blk)→List (Option Blk)
 | some b'::l',some b::l=>(if b.eqS b' then some b else none)::zxk l' l
 | _::l',_::l=>none::zxk l' l
 | [],l=>l.map fun _=>none
 | _,[]=>[]
def zxl (HL:Option (List (Option Blk))) (H:List (Option Blk)):List (Option Blk) :=
 match HL with
 | some l=>zxk l H
 | none=>H
def zsJ (n0:Nat) (cs:List (A×Bool)) (H H':List (Option Blk)):M (List (Option Blk)) :=
 if Nat.ble n0 H.length&&Nat.ble H.length H'.length&&hpLt H then do
  let c ←conj cs
  let t ←zd6 (H'.drop H.length)
  let s ←zfU H'.length c ⟨[],H'⟩ ⟨[],H++t⟩
  if Nat.ble H'.length s.hp.length&&hpLt s.hp then pure s.hp else M.fail
 else M.fail
def zis (P:Program) (S:Sigs) (ops:List Oper) (HL:Option (List (Option Blk))):List Oper→RS→List (Option Blk)→M (RS×List ChE)
 | [],r,_=>pure (r,[])
 | o::l,r,H =>
  if eff4 o.op then
   let R:=if turn4 o.op then H else zxl HL H
   match o.guard with
   | some (j,want)=>do
    let d ←M.lift ((ops[j]?).bind (·.dst))
    let sl:=zdg (d::r.gl.map (·.d)++zi8 o.op) 0 r.st.sl
    match ←M.lift (zbP ⟨⟨sl,R⟩,r.gl⟩ 8 d want) with
    | none=>do
     let r1 ←r.put o.dst (some zdd)
     let z ←zis P S ops HL l r1 H
     pure (z.1,⟨sl,r.gl,zdd,H,R⟩::z.2)
    | some (ctx,cs)=>do
     match ←zgs cs (evOp P S ⟨⟨sl,R⟩,r.gl⟩ ctx o.op) with
     | .val v =>
      if v.easy&&v.lt H.length&&(turn4 o.op||v.lt 0) then do
       let r1 ←(if ctx.isEmpty then r.put o.dst (some v) else r.putG o.dst v d want)
       let z ←zis P S ops HL l r1 H
       pure (z.1,⟨sl,r.gl,v,H,R⟩::z.2)
      else M.fail
     | .hp (some v) H' =>
      if turn4 o.op&&v.easy&&v.lt H'.length then do
       let H2 ←zsJ S.n0 cs H H'
       let r1 ←(if ctx.isEmpty then r.put o.dst (some v) else r.putG o.dst v d want)
       let z ←zis P S ops HL l r1 H2
       pure (z.1,⟨sl,r.gl,v,H2,R⟩::z.2)
      else M.fail
     | .hp none _=>M.fail
   | none=>do
   let sl:=zdg (zi8 o.op) 0 r.st.sl
   match ←evOp P S ⟨⟨sl,R⟩,[]⟩ [] o.op with
   | .val v =>
    if v.easy&&v.lt H.length&&(turn4 o.op||v.lt 0) then do
     let r1 ←r.put o.dst (some v)
     let z ←zis P S ops HL l r1 H
     pure (z.1,⟨sl,[],v,H,R⟩::z.2)
    else M.fail
   | .hp (some v) H' =>
    if turn4 o.op&&v.easy&&v.lt H'.length&&Nat.ble H.length H'.length&&hpLt H' then do
     let r1 ←r.put o.dst (some v)
     let z ←zis P S ops HL l r1 H'
     pure (z.1,⟨sl,[],v,H',R⟩::z.2)
    else M.fail
   | .hp none H' =>
    if turn4 o.op&&o.dst.isNone&&Nat.ble H.length H'.length&&hpLt H' then do
     let z ←zis P S ops HL l r H'
     pure (z.1,⟨sl,[],zdd,H',R⟩::z.2)
    else M.fail
  else do
   let r1 ←zi4 P S true ops r o
   let z ←zis P S ops HL l r1 H
   pure (z.1,⟨[],[],zdd,H,H⟩::z.2)
def zeQ:List (Option Blk)→List (Option Blk)→Bool
 | [],_=>true
 | none::l,l'=>zeQ l l'.tail
 | some x::l,some y::l'=>x.eqS y&&zeQ l l'
 | some _::_,_=>false
def zgE (pre:List Oper) (o:Oper):List Nat :=
 match o.guard with
 | some (j,_)=>((pre[j]?).bind (·.dst)).toList
 | none=>[]
def chAt (pre:List Oper) (p:Oper×Nat):Bool :=
 !eff4 p.1.op||(!turn4 p.1.op||(pre.zipIdx.all fun q=>!turn4 q.1.op||!Nat.blt q.2 p.2||memN q.2 (zgD pre p.2)))&&pre.zipIdx.all (zmn (zgD pre p.2) (zgE pre p.1++zi8 p.1.op))
def chB (ops:List Oper) (n:Nat):Bool :=
 (ops.take n).all zsI&&(ops.take n).zipIdx.all (chAt (ops.take n))&&zsE ops n&&Region.lexB .any ((ops.take n).map (nopY (.bool false))).toArray&&zk7 ops
def GE.eqB (x y:GE):Bool:=Nat.beq x.t y.t&&Nat.beq x.d y.d&&beqB x.want y.want&&x.v.eqB y.v
def zhy (sl:List (Option V)) (gl:List GE):List Oper→List ChE→Bool
 | [],[]=>true
 | o::l,e::r=>(!eff4 o.op||(zdh e.sl sl&&e.gl.all fun x=>gl.any fun y=>y.eqB x))&&zhy sl gl l r
 | _,_=>false
def zh2 (pre:List Oper) (n:Nat):Bool :=
 match pre[n]? with
 | some o=>turn4 o.op
 | none=>false
def zll (pre:List Oper) (anc:List Nat):Nat→Nat
 | 0=>0
 | n+1=>if memN n anc&&zh2 pre n then n+1 else zll pre anc n
def chBef (H:List (Option Blk)) (es:List ChE):Nat→List (Option Blk)
 | 0=>H
 | i+1=>(es.getD i default).H
def zwK (nq : Nat) (H : List (Option Blk)) (pre : List Oper) (es : List ChE) : Bool :=
  pre.zipIdx.all fun p => turn4 p.1.op || !eff4 p.1.op ||
    (match es[p.2]? with
     | some e => Nat.ble nq e.R.length && ((List.range (pre.length + 1)).all fun t => Nat.blt t (zll pre (zgD pre p.2) pre.length) || zeQ e.R (chBef H es t))
     | none => false)
def zqz (es:List ChE):Nat→List (Option Blk)→List (Option Blk)
 | _,[]=>[]
 | j,x::l=>(match x with | some b=>if es.all (fun e=>match nth e.H j with | some b'=>b.eqS b' | none=>false) then some b else none | none=>none)::zqz es (j+1) l
def zrn (H:List (Option Blk)):List ChE→List (Option Blk)
 | []=>H
 | e::r=>zrn e.H r
def zgF (P:Program) (S:Sigs) (ops:List Oper) (n:Nat) (s:St) (Hq:List (Option Blk)) (HL:Option (List (Option Blk))):M St:=do
 if s.sl.all (zao (V.lt s.hp.length))&&hpLt s.hp&&Nat.beq Hq.length s.hp.length&&zeQ Hq s.hp then do
  let z ←zis P S (ops.take n) HL (ops.take n) ⟨⟨s.sl,Hq⟩,[]⟩ s.hp
  if z.2.all (fun e=>zeQ Hq e.H)&&zhy z.1.st.sl z.1.gl (ops.take n) z.2&&zwK Hq.length s.hp (ops.take n) z.2 then do
   let r2 ←zcV P S false ops (ops.drop n) ⟨⟨z.1.st.sl,zrn s.hp z.2⟩,z.1.gl⟩
   pure r2.st
  else M.fail
 else M.fail
def zoU (P:Program) (S:Sigs) (ops:List Oper) (n:Nat) (s:St):M St:=fun k =>
 match zis P S (ops.take n) none (ops.take n) ⟨s,[]⟩ s.hp k with
 | some ((_,es),_,_,_)=>zgF P S ops n s (zqz es 0 s.hp) (some (zrn s.hp es)) k
 | none=>zgF P S ops n s s.hp none k
def M.orElse' {α:Type} (x y:M α):M α:=fun n =>
 match x n with
 | some r=>some r
 | none=>y n
def zi9 (P:Program) (S:Sigs) (ops:Array Oper) (s:St):M St :=
 let n:=(ops.toList.takeWhile fun o=>zsC o.op).length
 if Region.lexB .any (ops.toList.take n).toArray&&zys ops.toList n then
  if P.follows .mixedOrders&&zk7 ops.toList then do
   let r ←zcV P S true (ops.toList.take n) (ops.toList.take n) ⟨s,[]⟩
   let r2 ←zcV P S false ops.toList (ops.toList.drop n) r
   pure r2.st
  else M.fail
 else if zvP ops.toList&&P.follows .mixedOrders&&Region.lexB .any (ops.toList.map (nopN 0)).toArray&&zk7 ops.toList then zoR P S ops.toList s
 else M.fail
def zja (P:Program) (S:Sigs) (ops:Array Oper) (s:St):M St :=
 let n:=(ops.toList.takeWhile zi6).length
 if zxg ops.toList n&&P.follows .mixedOrders then zsF P S ops.toList n s else M.fail
def zjb (P:Program) (S:Sigs) (ops:Array Oper) (s:St):M St :=
 let n:=(ops.toList.takeWhile zhx).length
 if swB ops.toList n&&P.follows .mixedOrders then evSw P S ops.toList n s else M.fail
def zjc (P:Program) (S:Sigs) (ops:Array Oper) (s:St):M St :=
 let n:=(ops.toList.takeWhile zsI).length
 if chB ops.toList n&&P.follows .mixedOrders then zoU P S ops.toList n s else M.fail
def zlm (P:Program) (S:Sigs) (ops:Array Oper) (s:St):M St:=(zjc P S ops s).orElse' ((zja P S ops s).orElse' (zjb P S ops s))
def zmo (P:Program) (S:Sigs) (ops:Array Oper) (draw:Bool) (s:St):M St :=
 if draw then (zi9 P S ops s).orElse' (zlm P S ops s)
 else do
  let r ←zcV P S false ops.toList ops.toList ⟨s,[]⟩
  pure r.st
inductive K where
 | normal
 | ret
 | exit (id:Nat)
 | goto (l:Nat)
 deriving Inhabited
inductive X where
 | done (k:K) (s:St)
 | br (c:A) (x y:X)
def K.isNormal:K→Bool
 | .normal=>true
 | _=>false
def X.nCond:X→M A
 | .done k _=>pure (.t k.isNormal)
 | .br c x y=>do
  let a ←x.nCond
  let b ←y.nCond
  zlf c a b
def X.nSt (n0:Nat):X→M (Option St)
 | .done k s=>pure (if k.isNormal then some s else none)
 | .br c x y=>do
  match ←x.nSt n0,←y.nSt n0 with
  | some a,some b=>do pure (some (←zfU n0 c a b))
  | some a,none=>pure (some a)
  | none,some b=>pure (some b)
  | none,none=>pure none
def X.kill:X→Option X
 | .done k s=>if k.isNormal then none else some (.done k s)
 | .br c x y =>
  match x.kill,y.kill with
  | some a,some b=>some (.br c a b)
  | some a,none=>some a
  | none,some b=>some b
  | none,none=>none
def K.inBlock (id:Nat):K→K
 | .exit i=>if Nat.beq i id then .normal else .exit i
 | k=>k
def X.inBlock (id:Nat):X→X
 | .done k s=>.done (k.inBlock id) s
 | .br c x y=>.br c (x.inBlock id) (y.inBlock id)
def X.noGoto:X→Bool
 | .done k _=>match k with | .goto _=>false | _=>true
 | .br _ x y=>x.noGoto&&y.noGoto
def X.andThen (n0:Nat) (x:X) (f:St→M X):M X:=do
 let c ←x.nCond
 match ←x.nSt n0 with
 | none=>pure x
 | some s =>
  match x.kill with
  | none=>f s
  | some z =>
   match c with
   | .t true=>f s
   | c=>do
    let y ←under c true (f s)
    pure (.br c y z)
def K.swap (l:Nat):K→K
 | .normal=>.goto l
 | .goto m=>if Nat.beq m l then .normal else .goto m
 | k=>k
def X.swap (l:Nat):X→X
 | .done k s=>.done (k.swap l) s
 | .br c x y=>.br c (x.swap l) (y.swap l)
def X.goal:X→Option Nat
 | .done (.goto l) _=>some l
 | .done _ _=>none
 | .br _ x y=>match x.goal with
  | some l=>match y.goal with
   | some m=>some (min l m)
   | none=>some l
  | none=>y.goal
def zmp (n0:Nat) (ev:Code→St→M X) (c:Code):Nat→X→M X
 | 0,_=>M.fail
 | t+1,x =>
  match x.goal with
  | none=>if x.noGoto then pure x else M.fail
  | some l =>
   match findLabel c l with
   | none=>M.fail
   | some rest=>do
    let z ←(x.swap l).andThen n0 (fun s=>do pure ((←ev rest s).swap l))
    zmp n0 ev c t (z.swap l)
def X.each:X→(St→M X)→M X
 | .done k s,f=>if k.isNormal then f s else pure (.done k s)
 | .br c x y,f=>do
  let a ←under c true (x.each f)
  let b ←under c false (y.each f)
  pure (.br c a b)
def M.opt {α:Type} (x:M α):M (Option α):=fun n =>
 match x n with
 | some (a,n1,e,d)=>some (some a,n1,e,d)
 | none=>some (none,n,[],[])
def zgG (r:RS):Nat→Nat→Option (Nat×A)
 | 0,_=>none
 | n+1,d =>
  match nth r.st.sl d with
  | some (.s (.one (.b a)))=>some (d,a)
  | some _=>none
  | none =>
   match zhs d r.gl with
   | some e=>zgG r n e.d
   | none=>none
def zro (d:Nat) (b:Bool):List GE→List (Option V)→List (Option V)×List GE
 | [],sl=>(sl,[])
 | e::l,sl =>
  let q:=zro d b l sl
  if Nat.beq e.d d then (if (nth q.1 e.t).isNone then zaw (some (if beqB e.want b then e.v else zdd)) q.1 e.t else q.1,q.2)
  else (q.1,e::q.2)
def RS.know (r:RS) (d:Nat) (b:Bool):RS :=
 let q:=zro d b r.gl (zaw (some (.s (.one (.b (.t b))))) r.st.sl d)
 ⟨⟨q.1,r.st.hp⟩,q.2⟩
def zfo (P:Program) (S:Sigs) (ops:List Oper):Nat→List Oper→RS→M X
 | 0,_,_=>M.fail
 | _+1,[],r=>pure (.done .normal r.st)
 | n+1,o::l,r=>do
  match ←M.opt (zi4 P S false ops r o) with
  | some r1=>zfo P S ops n l r1
  | none =>
   match o.guard with
   | none=>M.fail
   | some (j,_)=>do
    let d ←M.lift ((ops[j]?).bind (·.dst))
    let g ←M.lift (zgG r 8 d)
    if g.2.const then M.fail else do
     let x ←under g.2 true (zfo P S ops n (o::l) (r.know g.1 true))
     let y ←under g.2 false (zfo P S ops n (o::l) (r.know g.1 false))
     pure (.br g.2 x y)
def A.below (n:Nat):A→Bool
 | .r i=>Nat.blt i n
 | _=>true
def Code.dsts:Code→List Tmp
 | .region _ ops _=>ops.toList.filterMap (·.dst)
 | .seq a b=>Code.dsts a++Code.dsts b
 | .cond _ a b=>Code.dsts a++Code.dsts b
 | .block _ c=>Code.dsts c
 | .loop c=>Code.dsts c
 | .scope c=>Code.dsts c
 | _=>[]
def K.beq:K→K→Bool
 | .normal,.normal=>true
 | .ret,.ret=>true
 | .exit a,.exit b=>Nat.beq a b
 | .goto a,.goto b=>Nat.beq a b
 | _,_=>false
def zh3 (k:K):List K→Option Nat
 | []=>none
 | x::l=>if x.beq k then some 0 else (zh3 k l).map (· + 1)
def X.kinds:X→List K
 | .done k _=>if k.isNormal then [] else [k]
 | .br _ x y=>x.kinds++(y.kinds.filter fun k=>(zh3 k x.kinds).isNone)
def zyx:Option V→Option Nat
 | some (.s (.one (.vec b)))=>some b
 | _=>none
def zmq (b:Nat):List (Option V)→List (Option V)→Nat→Option Nat
 | some _::l,x::l',t =>
  match zyx x with
  | some c=>if Nat.beq b c then some t else zmq b l l' (t+1)
  | none=>zmq b l l' (t+1)
 | none::l,_::l',t=>zmq b l l' (t+1)
 | _,_,_=>none
def zjd (ps ss:List (Option V)):Nat→List (Option V)→List (Option V)→List (Nat×Nat)
 | r,none::l,x::l' =>
  match zyx x with
  | some b =>
   match zmq b ps ss 0 with
   | some t=>(r,t)::zjd ps ss (r+1) l l'
   | none=>zjd ps ss (r+1) l l'
  | none=>zjd ps ss (r+1) l l'
 | r,some _::l,_::l'=>zjd ps ss (r+1) l l'
 | _,_,_=>[]
def X.als (p:Pat):X→List (K×List (Nat×Nat))
 | .done k s=>[(k,zjd p.st.sl s.sl 0 p.st.sl s.sl)]
 | .br _ x y=>x.als p++y.als p
def zyy (r t:Nat):List (Nat×Nat)→Bool
 | []=>false
 | x::l=>(Nat.beq x.1 r&&Nat.beq x.2 t)||zyy r t l
def zyz (k:K):List (K×List (Nat×Nat))→Option (List (Nat×Nat))
 | []=>none
 | (k',al)::l =>
  match zyz k l with
  | none=>if k.beq k' then some al else none
  | some r=>if k.beq k' then some (r.filter fun x=>zyy x.1 x.2 al) else some r
def zwL (p0:List (Option V)):List (Nat×Nat)→List (Option V)→List (Option V)
 | [],sl=>sl
 | x::l,sl=>zwL p0 l (zaw (nth p0 x.2) sl x.1)
def Pat.at (p:Pat) (als:List (K×List (Nat×Nat))) (k:K):Pat:=⟨⟨zwL p.st.sl ((zyz k als).getD []) p.st.sl,p.st.hp⟩,p.tys⟩
def X.couts (n0:Nat) (pe:K→Pat) (tys:List Ty) (ks:List K):X→M (List A)
 | .done k s=>do
  let i ←M.lift (zh3 k ks)
  let g:=zd1 tys.length (pe k).st s
  if ((pe k).st.inst g.1).sub g.2 s&&zhr g.2 n0 then pure (.z i::g.1) else M.fail
 | .br c x y=>do
  let a ←x.couts n0 pe tys ks
  let b ←y.couts n0 pe tys ks
  zd2 c (.i::tys) a b
def K.toX (ka:A) (sf:K→St):Nat→List K→M X
 | _,[]=>M.fail
 | _,[k]=>pure (.done k (sf k))
 | i,k::l=>do
  let e ←emit (.eql ka (.z i))
  let r ←K.toX ka sf (i+1) l
  pure (.br e (.done k (sf k)) r)
def X.sts:X→List St
 | .done _ s=>[s]
 | .br _ x y=>x.sts++y.sts
def A.ids (n:Nat):A→List Nat
 | .r i=>if Nat.blt i n then [i] else []
 | _=>[]
def Node.ops:Node→List A
 | .add _ a b | .sub _ a b | .mul _ a b | .land _ a b | .lor _ a b | .lxor _ a b | .landNot _ a b | .quo _ a b | .rem _ a b | .shl _ a b | .shr _ a b=>[a,b]
 | .eql a b | .neq a b | .lss a b | .leq a b | .gtr a b | .geq a b | .beq a b | .bne a b | .and a b | .or a b=>[a,b]
 | .not a=>[a]
 | .itei c a b | .iteb c a b=>[c,a,b]
 | .conv _ a=>[a]
 | .seli l ix | .selb l ix=>ix::l
 | .call _ l _=>l
 | .lmk _ l=>l
 | .llen _ a=>[a]
 | .lgeti _ _ a ix | .lgetb _ _ a ix | .lgetl _ _ a ix=>[a,ix]
 | .lset _ _ _ a ix x=>[a,ix,x]
 | .lcat a b=>[a,b]
 | .ltake _ a n | .ldrop _ a n=>[a,n]
 | .lrep n _ l=>n::l
 | .itel c a b=>[c,a,b]
 | .aset _ _ _ _ a ix x=>[a,ix,x]
 | .lsub _ _ _ a ix=>[a,ix]
 | .sbeq a b=>[a,b]
def zwM:List Nat→List Nat
 | []=>[]
 | x::l=>let r:=zwM l;if memN x r then r else x::r
structure Round where
 x:X
 c:A
 nx:List A
 ks:List K
 outs:List A
 als:List (K×List (Nat×Nat))
def zxm (n0:Nat) (p:Pat):Option St→M (List A)
 | none=>pure []
 | some so =>
  let g:=zd1 p.tys.length p.st so
  if (p.st.inst g.1).sub g.2 so&&zhr g.2 n0 then pure g.1 else M.fail
def zqA (n0:Nat) (p:Pat) (x:X) (c:A) (nx:List A):Option X→M Round
 | none=>M.fail
 | some z=>do
  let outs ←z.couts n0 (p.at (z.als p)) p.tys z.kinds
  pure ⟨x,c,nx,z.kinds,outs,z.als p⟩
def zoV (n0:Nat) (ev:St→M X) (p:Pat) (sx:St):M Round:=do
 let x ←ev sx
 let c ←x.nCond
 let so ←x.nSt n0
 let nx ←zxm n0 p so
 zqA n0 p x c nx x.kill
def Node.refs (n:Nat) (x:Node):Bool:=x.ops.all (A.below n)
def zf1 (n:Nat):Em→Bool
 | []=>true
 | (i,x)::r=>Nat.beq i n&&x.refs n&&zf1 (n+1) r
def obLp:LR→M Unit:=fun l n=>some ((),n,[],[.lp l])
def zvS:List LR→M Unit
 | []=>pure ()
 | l::r=>do obLp l;zvS r
def zmr (fid:Nat) (pe:K→Pat) (ins:List A) (l:LR) (ks:List K):M X:=do
 let args:=l.inv.map A.r++ins
 let q ←emit (.call fid args 0)
 owe q
 let os ←zgv fid args 1 l.outs.length
 if Nat.beq l.outs.length 0 then M.fail else K.toX (os.headD default) (fun k=>(pe k).st.inst os.tail) 0 ks
def zzM (n:Nat) (e:Em) (d:List Ob) (r:Round):List Nat :=
 e.flatMap (fun p=>p.2.ops.flatMap (A.ids n))++(zir d).flatMap (fun q=>(q.a::q.path.map (·.1)).flatMap (A.ids n))++(r.c::(r.nx++r.outs)).flatMap (A.ids n)
def lrOf (fid n k:Nat) (e:Em) (d:List Ob) (r:Round) (ts:List Ty) (lh:LH):LR:=⟨fid,n,k,zwM (zzM n e d r),e,zir d,r.c,r.nx,r.outs,ts,lh⟩
def lrGo (fid:Nat) (pe:K→Pat) (ins:List A) (d:List Ob) (l:LR) (ks:List K):M X:=do
 zvS (zho d)
 obLp l
 zmr fid pe ins l ks
def zje (n0:Nat) (ev:St→M X) (fid:Nat) (lh:LH) (p:Pat) (s:St):M X:=fun n =>
 let k:=p.tys.length
 let g:=zd1 k p.st s
 match zoV n0 ev p (p.st.inst (zap n k)) (n+k) with
 | none=>none
 | some (r,_,e,d) =>
  if (p.st.inst g.1).sub g.2 s&&zhr g.2 n0&&Nat.ble n0 p.st.hp.length&&p.st.tyOk (A.below n) p.tys&&zf1 (n+k) e&&Nat.beq r.nx.length k&&(r.ks.all fun q=>(p.at r.als q).st.tyOk (A.below n) p.tys) then
   lrGo fid (p.at r.als) g.1 d (lrOf fid n k e d r p.tys lh) r.ks n
  else none
def zsK (ev:St→M X) (mat:List (Nat×List LT)) (D:List Nat) (s:St) (n:Nat):Nat→List St→LH
 | 0,es=>zsq mat D es s
 | t+1,es =>
  let p:=zsp D (zsq mat D es s) s
  match ev (p.st.inst (zap n p.tys.length)) (n+p.tys.length) with
  | none=>zsq mat D es s
  | some (x,_,_,_)=>zsK ev mat D s n t (x.sts++es)
def zqB (n0:Nat) (ev:St→M X) (fid:Nat) (D:List Nat) (h:LH) (s:St):M X:=fun n=>zje n0 ev fid h (zsp D h s) s n
def zsL (n0:Nat) (ev:St→M X) (fid:Nat) (D:List Nat) (mat:List (Nat×List LT)) (s:St):M X:=fun n =>
 zqB n0 ev fid D (zsK ev mat D s n 2 []) s n
def zoW (i:Nat) (ts:List LT) (s:St):M St :=
 match nth s.sl i with
 | some (.s (.one l)) =>
  if l.isNil&&hpLt s.hp&&s.sl.all (zao (V.lt s.hp.length)) then do
   let q ←zbV [.vec ts] [l] s.hp
   match q.1 with
   | [l']=>pure ⟨zaw (some (.s (.one l'))) s.sl i,q.2⟩
   | _=>M.fail
  else pure s
 | _=>pure s
def zgH:List (Nat×List LT)→St→M St
 | [],s=>pure s
 | (i,ts)::r,s=>do zgH r (←zoW i ts s)
def zoX (es:List St) (i:Nat):Option (Nat×List LT) :=
 match es with
 | []=>none
 | e::r =>
  match nth e.sl i with
  | some (.s (.one (.vec b))) =>
   match nth e.hp b with
   | some (.v _ ts _)=>some (i,ts)
   | _=>zoX r i
  | _=>zoX r i
def znu:Option V→Bool
 | some (.s (.one l))=>l.isNil
 | _=>false
def zqC (es:List St) (s:St):List (Nat×List LT):=(List.range s.sl.length).filterMap fun i=>if znu (nth s.sl i) then zoX es i else none
def zqD (n0:Nat) (ev:St→M X) (fid:Nat) (D:List Nat) (h:Option LH) (s:St):M X:=fun n =>
 match h with
 | some h=>(do let s1 ←zgH h.mat s;zqB n0 ev fid D h s1:M X) n
 | none =>
  if s.sl.any znu then
   let es:=match ev s n with
    | some (x,_,_,_)=>x.sts
    | none=>[]
   (M.orElse' (do let s1 ←zgH (zqC es s) s;zsL n0 ev fid D (zqC es s) s1) (zsL n0 ev fid D [] s)) n
  else zsL n0 ev fid D [] s n
def zfp:List (Option V)→M (List (Option V))
 | []=>pure []
 | some v::l=>do
  let u ←zqv (.s (.one (.p 0 (.c 0)))) v
  let r ←zfp l
  pure (some u::r)
 | none::l=>do
  let r ←zfp l
  pure (none::r)
def zsM:Option V→List Nat
 | some (.s (.one (.alt _ l)))=>l.filterMap fun x=>match x.2 with | .p q 0=>some q | _=>none
 | _=>[]
def zfq:List Nat→List (Option Blk)→M (List (Option Blk))
 | [],hp=>pure hp
 | b::l,hp =>
  match nth hp b with
  | some (.obj _ k _)=>if zdD k then do zfq l (←zme b hp) else zfq l hp
  | _=>zfq l hp
def zms (s:St):M St :=
 if s.sl.any fun v=>!(zsM v).isEmpty then do
  let sl ←zfp s.sl
  let hp ←zfq (s.sl.flatMap zsM) s.hp
  pure ⟨sl,hp⟩
 else M.fail
def zsN (n0:Nat) (ev:St→M X) (fid:Nat) (D:List Nat) (h:Option LH) (s:St):M X :=
 (zqD n0 ev fid D h s).orElse' (do let s1 ←zms s;zqD n0 ev fid D h s1)
def zsO:Code→Bool
 | .region _ ops _=>ops.toList.any fun o=>match o.op with | .panic _=>true | _=>false
 | .seq a b=>zsO a||(match a with | .region _ _ _=>zsO b | _=>false)
 | .scope c=>zsO c
 | _=>false
def zb5 (P:Program) (S:Sigs):Nat→Code→St→M X
 | 0,_,_=>M.fail
 | n+1,c,s =>
  match c with
  | .skip=>pure (.done .normal s)
  | .label _=>pure (.done .normal s)
  | .region _ ops draw=>do
   match ←M.opt (zmo P S ops draw s) with
   | some s1=>pure (.done .normal s1)
   | none=>if draw then M.fail else zfo P S ops.toList (ops.toList.length*3+20) ops.toList ⟨s,[]⟩
  | .seq x y=>do (←zb5 P S n x s).andThen S.n0 (zb5 P S n y)
  | .cond c x y=>do
   match ←M.lift (rd ⟨s,[]⟩ [] c) with
   | .s (.one (.b a)) =>
    match a with
    | .t true=>zb5 P S n x s
    | .t false=>zb5 P S n y s
    | a =>
     if zsO x then do
      owe (←zoB a)
      zb5 P S n y s
     else if zsO y then do
      owe a
      zb5 P S n x s
     else do
      let u ←under a true (zb5 P S n x s)
      let v ←under a false (zb5 P S n y s)
      pure (.br a u v)
   | _=>M.fail
  | .block id c =>
   match assoc S.ls id with
   | some fid =>
    match c with
    | .loop b=>do pure ((←zsN S.n0 (zb5 P S n b) fid (Code.dsts b) (assoc S.hs fid) s).inBlock id)
    | c=>do pure ((←zb5 P S n c s).inBlock id)
   | none=>do pure ((←zb5 P S n c s).inBlock id)
  | .loop c=>do (←zb5 P S n c s).andThen S.n0 (zb5 P S n (.loop c))
  | .exit id=>pure (.done (.exit id) s)
  | .goto l=>pure (.done (.goto l) s)
  | .scope c=>do
   let x ←zb5 P S n c s
   if x.noGoto then pure x else zmp S.n0 (zb5 P S n) c 16 x
  | .ret=>pure (.done .ret s)
  | _=>M.fail
def zrp (P:Program) (s:St):List ResultVar→M (List V1)
 | []=>pure []
 | .tmp t::l=>do
  match ←M.lift (nth s.sl t) with
  | .s v=>do pure (v::(←zrp P s l))
  | _=>M.fail
 | .cell t ty::l=>do
  match ←M.lift (nth s.sl t) with
  | .s (.one (.p b off))=>do
   let k ←M.lift (tk P ty)
   let sz ←M.lift (zaO P ty)
   match ←M.lift (nth s.hp b) with
   | .c _ cs =>
    let v ←zdE cs off (zb3 k) sz
    pure (v::(←zrp P s l))
   | _=>M.fail
  | _=>M.fail
def K.ends:K→Bool
 | .normal | .ret=>true
 | _=>false
def X.res (P:Program) (rs:List ResultVar) (keep:Bool):X→M X
 | .done k s=>if k.ends then do
   let vs ←zrp P s rs
   pure (.done .normal ⟨[some (zdZ vs)],if keep then s.hp else []⟩)
  else M.fail
 | .br c x y=>do
  let a ←under c true (x.res P rs keep)
  let b ←under c false (y.res P rs keep)
  pure (.br c a b)
def zsP (pat:List (Option Blk)) (p v:Lf) (hp:List (Option Blk)):M (Lf×List (Option Blk)) :=
 match p with
 | .alt _ [(1,.p j 0),(0,.nilp)] =>
  match nth pat j with
  | some (.obj _ ko _) =>
   match v with
   | .p b (.c 0)=>do
    let hp1 ←(match nth hp b,ko-1000 with
     | some (.c o _),k+2=>zmd o k b hp
     | _,_=>pure hp)
    let hp2 ←zxb b hp1
    pure (.alt (.z 1) [(1,.p b 0),(0,.nilp)],hp2)
   | .nilp=>if zdD ko&&hpLt hp then do
     let q ←emit (.lmk [.b,.l] [.t false,.t false])
     pure (.alt (.z 0) [(1,.p hp.length 0),(0,.nilp)],hp++[some (.obj true ko q)])
    else M.fail
   | v=>pure (v,hp)
  | _=>pure (v,hp)
 | _=>pure (v,hp)
def zmt (pat:List (Option Blk)):List Lf→List Lf→List (Option Blk)→M (List Lf×List (Option Blk))
 | p::ps,v::vs,hp=>do
  let x ←zsP pat p v hp
  if x.1.lt x.2.length then do
   let r ←zmt pat ps vs x.2
   pure (x.1::r.1,r.2)
  else M.fail
 | _,vs,hp=>pure (vs,hp)
def zh4:List V1→List Lf→Option (List V1)
 | [],[]=>some []
 | .one _::r,x::l=>(zh4 r l).map (.one x::·)
 | .agg ys::r,l=>if Nat.ble ys.length l.length then (zh4 r (l.drop ys.length)).map (.agg (l.take ys.length)::·) else none
 | _,_=>none
def V.cellsA:V→List Lf
 | .s v=>v.cells
 | .t l=>l.flatMap V1.cells
def zsQ:V→List Lf→Option V
 | .s v,xs=>match zh4 [v] xs with | some [u]=>some (.s u) | _=>none
 | .t l,xs=>(zh4 l xs).map .t
def zyA:Lf→Bool
 | .alt _ _=>true
 | _=>false
def zsR (pat:St) (z:St):M St :=
 match pat.sl,z.sl with
 | [some p],[some v] =>
  if p.cellsA.any zyA then
   if v.lt z.hp.length then do
    let q ←zmt pat.hp p.cellsA v.cellsA z.hp
    match zsQ v q.1 with
    | some u=>pure ⟨[some u],q.2⟩
    | none=>M.fail
   else M.fail
  else pure z
 | _,_=>pure z
def X.prep (pat:St):X→M X
 | .done k s=>do pure (.done k (←zsR pat s))
 | .br c x y=>do
  let a ←under c true (x.prep pat)
  let b ←under c false (y.prep pat)
  pure (.br c a b)
structure Out where
 nodes:Em
 owes:List Nd
 loops:List LR
 outs:List A
def znv (hin:List (Option Blk)) (m:List Nat):Nat→List (Option Blk)→Bool
 | _,[]=>true
 | j,_::l=>(!stays hin j||Nat.beq (rnm m j) j)&&znv hin m (j+1) l
def Sig.st0 (sg:Sig) (ntmps:Nat):St :=
 let ids:=zap 0 sg.nin
 let ps:=sg.ins.map (V.inst ids)
 ⟨ps.map some++List.replicate (ntmps-ps.length) none,sg.hin.map (Option.map (Blk.inst ids))⟩
def zqE (P:Program) (S:Sigs) (fuel:Nat) (c:Code) (rs:List ResultVar) (keep:Bool) (n:Nat) (pat:St) (s:St):M St:=do
 let s1 ←zsy S.opn s
 let x ←zb5 P S fuel c s1
 let y0 ←x.res P rs keep
 let y ←y0.prep pat
 let z ←y.nSt S.n0
 match z with
 | some z=>zoL n pat z
 | none=>M.fail
def zyB (sg:Sig) (z:St) (e:Em) (d:List Ob):Option Out :=
 let p:St:=⟨[some sg.out],sg.hout⟩
 let g:=zd1 sg.ots.length p z
 if (p.inst g.1).sub g.2 z&&sg.ok&&znv sg.hin g.2 0 sg.hout then some ⟨e,zir d,zho d,g.1⟩ else none
def evFn (P:Program) (S:Sigs) (fuel:Nat) (fn:Func) (sg:Sig):Option Out :=
 match fn.body with
 | none=>none
 | some c =>
  if Nat.beq S.n0 sg.hin.length then
   match zqE P S fuel c fn.results.toList (!(sg.hin.isEmpty&&sg.hout.isEmpty)) sg.ots.length ⟨[some sg.out],sg.hout⟩ (sg.st0 fn.ntmps) sg.nin with
   | none=>none
   | some (z,_,e,d)=>zyB sg z e d
  else none
end Go.Sx
namespace Go.Sx
def M.sat {α:Type} (F:FEnv) (ν:Nat→DV) (x:M α) (Q:α→Prop):Prop :=
 ∀ n a n' e d,x n=some (a,n',e,d)→Sat F ν e→(∀ q∈d,Ob.holds F ν q)→Q a
section
variable {α β:Type} {F:FEnv} {ν:Nat→DV}
theorem zab {a:α} {Q:α→Prop} (h:Q a):M.sat F ν (pure a:M α) Q:=by
 intro n b n' e d hx _ _
 change some (a,n,[],[])=some (b,n',e,d) at hx
 simp only [Option.some.injEq,Prod.mk.injEq] at hx
 exact hx.1▸h
theorem zaa {x:M α} {f:α→M β} {R:α→Prop} {Q:β→Prop} (hx:M.sat F ν x R) (hf:∀ a,R a→M.sat F ν (f a) Q) :
  M.sat F ν (x >>= f) Q:=by
 intro n b n' e d h hs hd
 change M.bind x f n=_ at h
 unfold M.bind at h
 cases h1:x n with
 | none=>simp [h1] at h
 | some r =>
  obtain ⟨a,n1,e1,d1⟩:=r
  simp only [h1] at h
  cases h2:f a n1 with
  | none=>simp [h2] at h
  | some r2 =>
   obtain ⟨b2,n2,e2,d2⟩:=r2
   simp only [h2,Option.some.injEq,Prod.mk.injEq] at h
   obtain ⟨rfl,rfl,rfl,rfl⟩:=h
   exact hf a (hx n a n1 e1 d1 h1 (fun p hp=>hs p (List.mem_append_left _ hp)) (fun q hq=>hd q (List.mem_append_left _ hq)))
    n1 b2 n2 e2 d2 h2 (fun p hp=>hs p (List.mem_append_right _ hp)) (fun q hq=>hd q (List.mem_append_right _ hq))
theorem zag {x:M α} {R Q:α→Prop} (hx:M.sat F ν x R) (h:∀ a,R a→Q a):M.sat F ν x Q :=
 fun n a n' e d h1 h2 h3=>h a (hx n a n' e d h1 h2 h3)
theorem zxn {x:M α} {R Q:α→Prop} (hx:M.sat F ν x R) (hy:M.sat F ν x Q):M.sat F ν x (fun a=>R a∧Q a) :=
 fun n a n' e d h1 h2 h3=>⟨hx n a n' e d h1 h2 h3,hy n a n' e d h1 h2 h3⟩
theorem zd7 {ι κ:Type} [Inhabited ι] [Inhabited κ] {x:M α} {G:α→Prop} {Q:ι→κ→α→Prop} (h:∀ i k,M.sat F ν x (fun a=>G a∧Q i k a)) :
  M.sat F ν x (fun a=>G a∧∀ i k,Q i k a) :=
 fun n a n' e d h1 h2 h3=>⟨(h default default n a n' e d h1 h2 h3).1,fun i k=>(h i k n a n' e d h1 h2 h3).2⟩
theorem zdI {ι:Type} {x:M α} {Q:ι→α→Prop} (h:∀ i,M.sat F ν x (fun a=>Q i a)):M.sat F ν x (fun a=>∀ i,Q i a) :=
 fun n a n' e d h1 h2 h3 i=>h i n a n' e d h1 h2 h3
theorem zat {x:M α} : M.sat F ν x (fun _=>True):=fun _ _ _ _ _ _ _ _=>trivial
theorem zac {Q:α→Prop} : M.sat F ν (M.fail:M α) Q:=by
 intro n a n' e d h
 change none=_ at h
 cases h
theorem zad {o:Option α} {Q:α→Prop} (h:∀ a,o=some a→Q a):M.sat F ν (M.lift o) Q:=by
 intro n a n' e d hx _ _
 unfold M.lift at hx
 cases o with
 | none=>cases hx
 | some b =>
  simp only [Option.some.injEq,Prod.mk.injEq] at hx
  exact hx.1▸h b rfl
theorem zaf {x:Node} {Q:A→Prop} (h:∀ a:A,a.den ν=zbf F ν x→Q a):M.sat F ν (emit x) Q:=by
 intro n a n' e d hx hs _
 unfold emit at hx
 simp only [Option.some.injEq,Prod.mk.injEq] at hx
 obtain ⟨rfl,rfl,rfl,rfl⟩:=hx
 exact h (.r n) (hs (n,x) (by simp))
theorem zbl {a:A} {Q:Unit→Prop} (h:a.bool ν=true→Q ()):M.sat F ν (owe a) Q:=by
 intro n u n' e d hx _ hd
 unfold owe at hx
 simp only [Option.some.injEq,Prod.mk.injEq] at hx
 obtain ⟨_,rfl,rfl,rfl⟩:=hx
 exact h (hd (.nd ⟨[],a⟩) (by simp) (by simp))
theorem zbu {c:A} {b:Bool} {x:M α} {Q:α→Prop} (h:M.sat F ν x Q):M.sat F ν (under c b x) (fun a=>c.bool ν=b→Q a):=by
 intro n a n' e d hx hs hd hc
 unfold under at hx
 cases h1:x n with
 | none=>simp [h1] at hx
 | some r =>
  obtain ⟨a1,n1,e1,d1⟩:=r
  simp only [h1,Option.some.injEq,Prod.mk.injEq] at hx
  obtain ⟨rfl,rfl,rfl,rfl⟩:=hx
  refine h n a1 n1 e1 d1 h1 hs (fun q hq=>?_)
  have:=hd (q.under c b) (List.mem_map.2 ⟨q,hq,rfl⟩)
  cases q with
  | lp l=>exact this
  | nd q =>
   intro hp
   exact this (by
    intro p hp'
    rcases List.mem_cons.1 hp' with rfl | h'
    ·exact hc
    ·exact hp p h')
theorem zeR {cs:List (A×Bool)} {x:M α} {Q:α→Prop} (h:M.sat F ν x Q) :
  M.sat F ν (zgs cs x) (fun a=>(∀ c∈cs,c.1.bool ν=c.2)→Q a):=by
 induction cs with
 | nil=>exact zag h (fun a ha _=>ha)
 | cons p r ih =>
  obtain ⟨c,b⟩:=p
  refine zag (zbu (c:=c) (b:=b) ih) ?_
  intro a ha hall
  exact ha (hall (c,b) (by simp)) (fun q hq=>hall q (List.mem_cons_of_mem _ hq))
theorem zae {c:Prop} [Decidable c] {x y:M α} {Q:α→Prop} (hx:c→M.sat F ν x Q) (hy:¬ c→M.sat F ν y Q):M.sat F ν (if c then x else y) Q:=by
 split
 ·exact hx ‹_›
 ·exact hy ‹_›
end
def Off.good (ν:Nat→DV):Off→Prop
 | .c _=>True
 | .s _ ix _ len=>0≤ix.int ν∧ix.int ν<len
 | .d _ ix _ len ix2 _ len2=>(0≤ix.int ν∧ix.int ν<len)∧0≤ix2.int ν∧ix2.int ν<len2
 | .v _ ix sz a=>0≤ix.int ν∧((ix.int ν).toNat+1)*sz≤(a.cells ν).length
 | .w _ ix sz a ix2 _ len2=>(0≤ix.int ν∧((ix.int ν).toNat+1)*sz≤(a.cells ν).length)∧0≤ix2.int ν∧ix2.int ν<len2
def Lf.good (ν:Nat→DV):Lf→Prop
 | .p _ off=>off.good ν
 | .gp _ off=>off.good ν
 | .alt a l=>0≤a.int ν∧(zaP l (a.int ν).toNat).isSome=true
 | _=>True
def V1.good (ν:Nat→DV) (v:V1):Prop:=∀ l∈v.cells,Lf.good ν l
def V.good (ν:Nat→DV):V→Prop
 | .s v=>v.good ν
 | .t l=>∀ v∈l,V1.good ν v
@[simp] theorem V1.good_one {ν:Nat→DV} {l:Lf} : (V1.one l).good ν↔l.good ν:=by simp [V1.good,V1.cells]
@[simp] theorem V1.good_agg {ν:Nat→DV} {l:List Lf} : (V1.agg l).good ν↔∀ x∈l,x.good ν:=by simp [V1.good,V1.cells]
@[simp] theorem V.good_s {ν:Nat→DV} {v:V1} : (V.s v).good ν↔v.good ν:=Iff.rfl
@[simp] theorem Lf.good_i {ν:Nat→DV} {k:IntKind} {a:A} : (Lf.i k a).good ν:=trivial
@[simp] theorem Lf.good_b {ν:Nat→DV} {a:A} : (Lf.b a).good ν:=trivial
theorem zcf {a b:IntKind} (h:kEq a b=true):a=b:=by
 cases a<;>cases b<;>simp [kEq] at h<;>rfl
theorem zjf:∀ {a b:List Nat},ziU a b=true→a=b
 | [],[],_=>rfl
 | x::l,y::l',h=>by
  simp only [ziU,Bool.and_eq_true] at h
  rw [Nat.eq_of_beq_eq_true h.1,zjf h.2]
 | [],_::_,h=>by simp [ziU] at h
 | _::_,[],h=>by simp [ziU] at h
theorem zh5 (ρ:Nat→Loc) (f:Nat→Nat) (bs:List Nat):zbd (fun j=>ρ (f j)) bs=zbd ρ (bs.map f):=by simp [zbd,Function.comp_def]
theorem zk8 {ρ ρ':Nat→Loc} {bs:List Nat} (h:∀ b∈bs,ρ' b=ρ b):zbd ρ' bs=zbd ρ bs:=by
 unfold zbd
 congr 1
 exact List.map_congr_left fun b hb=>by rw [h b hb]
theorem zf2 {ρ ρ':Nat→Loc} {bs:List Nat} {n:Nat} (hb:(bs.all fun b=>decide (b<n))=true) (h:∀ k,k<n→ρ' k=ρ k):zbd ρ' bs=zbd ρ bs :=
 zk8 fun b hm=>h b (by simpa using List.all_eq_true.1 hb b hm)
theorem A.beq_den {a b:A} (h:a.beq b=true) (ν:Nat→DV):a.den ν=b.den ν:=by
 cases a<;>cases b<;>simp [A.beq] at h
 all_goals (subst h;rfl)
theorem zcW {a b:Bool} (h:beqB a b=true):a=b:=by
 cases a<;>cases b<;>simp [beqB] at h<;>rfl
theorem zoY {a b:Bool} (h:¬ beqB a b=true):a≠b:=by
 cases a<;>cases b<;>simp [beqB] at h ⊢
section
variable {F:FEnv} {ν:Nat→DV}
@[simp] theorem A.int_z (n:Int):(A.z n).int ν=n:=rfl
@[simp] theorem A.bool_t (b:Bool):(A.t b).bool ν=b:=rfl
theorem A.int_of_den {a:A} {n:Int} (h:a.den ν = .i n):a.int ν=n:=by simp [A.int,h,DV.toI]
theorem A.bool_of_den {a:A} {n:Bool} (h:a.den ν = .b n):a.bool ν=n:=by simp [A.bool,h,DV.toB]
theorem A.cells_of_den {a:A} {n:List DV} (h:a.den ν = .l n):a.cells ν=n:=by simp [A.cells,h,DV.toL]
theorem zeS {a:A} : M.sat F ν (zoB a) (fun r=>r.bool ν = !a.bool ν):=by
 unfold zoB
 split
 ·exact zab rfl
 ·exact zaf fun r h=>A.bool_of_den h
theorem zjg {a b:A} : M.sat F ν (zsb a b) (fun r=>r.bool ν=(a.bool ν&&b.bool ν)):=by
 unfold zsb
 split
 ·exact zab (by simp)
 ·exact zab (by simp)
 ·exact zab (by simp)
 ·exact zab (by simp)
 ·exact zaf fun r h=>A.bool_of_den h
theorem zci {c a b:A} : M.sat F ν (zgp c a b) (fun r=>r.int ν=bif c.bool ν then a.int ν else b.int ν):=by
 unfold zgp
 split
 ·exact zab rfl
 ·exact zab rfl
 ·refine zae (fun h=>zab ?_) (fun _=>zaf fun r h=>A.int_of_den h)
  have:=A.beq_den h ν
  simp only [A.int,this]
  cases c.bool ν<;>rfl
theorem zfr {c a b:A} : M.sat F ν (zlf c a b) (fun r=>r.bool ν=bif c.bool ν then a.bool ν else b.bool ν):=by
 unfold zlf
 split
 ·exact zab rfl
 ·exact zab rfl
 ·refine zae (fun h=>zab ?_) (fun _=>?_)
  ·have:=A.beq_den h ν
   simp only [A.bool,this]
   cases (A.den ν c).toB<;>rfl
  ·split
   ·exact zab (by simp)
   ·exact zaf fun r h=>by rw [A.bool_of_den h];simp
   ·exact zaf fun r h=>by rw [A.bool_of_den h];simp
   ·exact zaf fun r h=>by rw [A.bool_of_den h];simp
   ·exact zaf fun r h=>A.bool_of_den h
theorem zrq {c a b:A} : M.sat F ν (zsc c a b) (fun r=>r.cells ν=bif c.bool ν then a.cells ν else b.cells ν):=by
 unfold zsc
 split
 ·exact zab rfl
 ·exact zab rfl
 ·refine zae (fun h=>zab ?_) (fun _=>zaf fun r h=>A.cells_of_den h)
  have:=A.beq_den h ν
  simp only [A.cells,this]
  cases c.bool ν<;>rfl
theorem zln {b:A} : M.sat F ν (zlg b) (fun _=>b.int ν≠0):=by
 unfold zlg
 split
 ·exact zae (fun _=>zac) (fun h=>zab (by simpa using h))
 ·refine zaa (zaf (Q:=fun r=>r.bool ν=(b.int ν != 0)) fun r h=>A.bool_of_den h) fun r hr=>?_
  exact zbl fun h=>by rw [hr] at h;simpa using h
theorem zbH {b:A} : M.sat F ν (zeE b) (fun _=>0≤b.int ν):=by
 unfold zeE
 split
 ·exact zae (fun h=>zab (by simpa using h)) (fun h=>zac)
 ·refine zaa (zaf (Q:=fun r=>r.bool ν=decide (b.int ν≥0)) fun r h=>A.bool_of_den h) fun r hr=>?_
  exact zbl fun h=>by rw [hr] at h;simpa using h
end
end Go.Sx
namespace Go.Sx
section
variable {P:Program} {F:FEnv} {ν:Nat→DV} {ρ:Nat→Loc} {w:World}
theorem zsS {op : BinOp} {k : IntKind} {a b : A} (h1 : op ≠ .shl) (h2 : op ≠ .shr) (t : TypeId) :
    M.sat F ν (zw3 op k a b) (fun l => l.good ν ∧ (binOp op t (.int k (a.int ν)) (.int k (b.int ν))).run P w = .ok (l.conc ν ρ) w) := by
  unfold zw3
  split
  all_goals first
    | (refine zaa zln fun _ h0 => zab ?_; try simp only [A.int_z] at h0 ⊢
       simp [binOp, Op.intDiv, h0, Lf.conc])
    | (refine zaa zln fun _ h0 => zaa (zaf (Q := fun r => r.int ν = _) fun r h => A.int_of_den h) fun r hr => zab ?_
       simp [binOp, Op.intDiv, h0, Lf.conc, hr])
    | (refine zaa (zaf (Q := fun r => r.int ν = _) fun r h => A.int_of_den h) fun r hr => zab ?_
       simp [binOp, Op.intArith, Op.intBits, Lf.conc, hr, zaj, ilor, zeD, ziA, zew])
    | (refine zaa (zaf (Q := fun r => r.bool ν = _) fun r h => A.bool_of_den h) fun r hr => zab ?_
       simp [binOp, Op.intCmp, Lf.conc, hr])
    | (refine zab ?_; simp [binOp, Op.intArith, Op.intBits, Op.intCmp, Lf.conc, zaj, ilor, zeD, ziA, zew]; done)
    | (refine zab ⟨trivial, ?_⟩; simp [binOp, Op.intCmp, Lf.conc]; rfl)
    | exact zac
theorem zjh {op:BinOp} {k yk:IntKind} {a b:A} (t:TypeId) :
  M.sat F ν (zl1 op k a b) (fun l=>l.good ν∧(binOp op t (.int k (a.int ν)) (.int yk (b.int ν))).run P w = .ok (l.conc ν ρ) w):=by
 unfold zl1
 split
 ·refine zaa zbH fun _ h0=>zab ?_
  try simp only [A.int_z] at h0 ⊢
  simp [binOp,Op.shift,Lf.conc,ishl,Int.not_lt.2 h0]
 ·refine zaa zbH fun _ h0=>zab ?_
  try simp only [A.int_z] at h0 ⊢
  simp [binOp,Op.shift,Lf.conc,ishr,Int.not_lt.2 h0]
 ·refine zaa zbH fun _ h0=>zaa (zaf (Q:=fun r=>r.int ν=_) fun r h=>A.int_of_den h) fun r hr=>zab ?_
  simp [binOp,Op.shift,Lf.conc,ishl,Int.not_lt.2 h0,hr]
 ·refine zaa zbH fun _ h0=>zaa (zaf (Q:=fun r=>r.int ν=_) fun r h=>A.int_of_den h) fun r hr=>zab ?_
  simp [binOp,Op.shift,Lf.conc,ishr,Int.not_lt.2 h0,hr]
 ·exact zac
theorem zeT {t:TypeId} {k:TK} (h:tk P t=some k):∃ d,P.underlying t=some d∧tkOf d=k:=by
 unfold tk at h
 cases hu:P.underlying t with
 | none=>simp [hu] at h
 | some d=>simp [hu] at h;exact ⟨d,rfl,h⟩
theorem zqF {t:TypeId} {k:IntKind} (h:tk P t=some (.int k)):P.underlying t=some (.int k):=by
 obtain ⟨d,hd,hk⟩:=zeT h
 cases d<;>simp [tkOf] at hk
 exact hk▸hd
theorem zoZ {t:TypeId} (h:tk P t=some .bool):P.underlying t=some .bool:=by
 obtain ⟨d,hd,hk⟩:=zeT h
 cases d<;>simp [tkOf] at hk
 exact hd
theorem zlo {t:TypeId} {n e:Nat} (h:tk P t=some (.arr n e)):P.underlying t=some (.array n e):=by
 obtain ⟨d,hd,hk⟩:=zeT h
 cases d<;>simp [tkOf] at hk
 obtain ⟨rfl,rfl⟩:=hk
 exact hd
theorem zeU {t:TypeId} {l:List (Nat×Nat)} (h:tk P t=some (.struct l)):∃ fs,P.underlying t=some (.struct fs)∧l=fs.toList.map fun f=>(f.offset,f.type):=by
 obtain ⟨d,hd,hk⟩:=zeT h
 cases d<;>simp [tkOf] at hk
 exact ⟨_,hd,hk.symm⟩
theorem zh6 {op:BinOp} {a b:A} (t:TypeId) (ht:P.underlying t=some .bool) :
  M.sat F ν (ziB op a b) (fun l=>l.good ν∧(binOp op t (.bool (a.bool ν)) (.bool (b.bool ν))).run P w = .ok (l.conc ν ρ) w):=by
 unfold ziB
 split
 ·refine zab ?_
  simp [binOp,Op.equal,Op.maxDepth,run_equalIn_bool' w 9999 t _ _ ht,Lf.conc]
 ·refine zab ?_
  simp [binOp,Op.equal,Op.maxDepth,run_equalIn_bool' w 9999 t _ _ ht,Lf.conc,bne]
 ·refine zaa (zaf (Q:=fun r=>r.bool ν=_) fun r h=>A.bool_of_den h) fun r hr=>zab ?_
  simp [binOp,Op.equal,Op.maxDepth,run_equalIn_bool' w 9999 t _ _ ht,Lf.conc,hr]
 ·refine zaa (zaf (Q:=fun r=>r.bool ν=_) fun r h=>A.bool_of_den h) fun r hr=>zab ?_
  simp [binOp,Op.equal,Op.maxDepth,run_equalIn_bool' w 9999 t _ _ ht,Lf.conc,hr,bne]
 ·exact zac
theorem zvT {op:UnOp} {x:Lf} : M.sat F ν (evUn op x) (fun l=>l.good ν∧(Op.unary op (x.conc ν ρ)).run P w = .ok (l.conc ν ρ) w):=by
 unfold evUn
 split
 ·exact zab (by simp [Op.unary,Op.intArith,Lf.conc])
 ·exact zaa (zaf (Q:=fun r=>r.int ν=_) fun r h=>A.int_of_den h) fun r hr=>zab (by simp [Op.unary,Op.intArith,Lf.conc,hr])
 ·exact zab (by simp [Op.unary,Op.intBits,Lf.conc,zeD,zew])
 ·exact zaa (zaf (Q:=fun r=>r.int ν=_) fun r h=>A.int_of_den h) fun r hr=>zab (by simp [Op.unary,Op.intBits,Lf.conc,hr,zeD,zew])
 ·exact zaa zeS fun r hr=>zab (by simp [Op.unary,Lf.conc,hr])
 ·exact zac
theorem zrr {s d:TypeId} {x:Lf} : M.sat F ν (zsu P s d x) (fun l=>l.good ν∧(convert s d (x.conc ν ρ)).run P w = .ok (l.conc ν ρ) w):=by
 unfold zsu
 refine zaa (R:=fun k=>tk P s=some k) (zad fun a h=>h) fun ks hs=>?_
 refine zaa (R:=fun k=>tk P d=some k) (zad fun a h=>h) fun kd hd=>?_
 obtain ⟨ds,hds,_⟩:=zeT hs
 split
 ·refine zab ?_
  simp [convert,run_underlying hds,run_underlying (zqF hd),Conv.intToInt,Lf.conc]
 ·exact zaa (zaf (Q:=fun r=>r.int ν=_) fun r h=>A.int_of_den h) fun r hr=>zab (by
   simp [convert,run_underlying hds,run_underlying (zqF hd),Conv.intToInt,Lf.conc,hr])
 ·exact zac
end
end Go.Sx
namespace Go.Sx
theorem zji (l:List (Option Lf)) (n:Nat):zhV l n=nth l n:=by
 induction l generalizing n with
 | nil=>cases n<;>rfl
 | cons x l ih=>cases n with
  | zero=>rfl
  | succ n=>exact ih n
theorem zaY {α:Type} {l:List (Option α)} {n:Nat} {x:α} (h:nth l n=some x):n<l.length:=by
 induction l generalizing n with
 | nil=>cases n<;>simp [nth] at h
 | cons y l ih=>cases n with
  | zero=>simp
  | succ n=>simp only [nth] at h;have:=ih h;simp;exact this
theorem za3 {α:Type} (l:List α) (n:Nat):nth (l.map some) n=l[n]?:=by
 induction l generalizing n with
 | nil=>cases n<;>rfl
 | cons y l ih=>cases n with
  | zero=>rfl
  | succ n=>simpa [nth] using ih n
theorem zaE {α:Type} (l l':List (Option α)) (n:Nat):nth (l++l') n=if n<l.length then nth l n else nth l' (n-l.length):=by
 induction l generalizing n with
 | nil=>simp
 | cons y l ih=>cases n with
  | zero=>simp [nth]
  | succ n =>
   simp only [List.cons_append,nth,ih,List.length_cons]
   by_cases h:n<l.length
   ·simp [h]
   ·simp [h]
theorem zah {α:Type} (v:α) (l:List α) (n:Nat):(zaw v l n).length=l.length:=by
 induction l generalizing n with
 | nil=>cases n<;>rfl
 | cons y l ih=>cases n with
  | zero=>rfl
  | succ n=>simp [zaw,ih]
theorem zau {α:Type} (v:Option α) (l:List (Option α)) (n:Nat):nth (zaw v l n) n=if n<l.length then v else none:=by
 induction l generalizing n with
 | nil=>cases n<;>simp [zaw,nth]
 | cons y l ih=>cases n with
  | zero=>simp [zaw,nth]
  | succ n=>simp [zaw,nth,ih]
theorem zay {α:Type} (v:Option α) (l:List (Option α)) (n m:Nat) (h:n≠m):nth (zaw v l n) m=nth l m:=by
 induction l generalizing n m with
 | nil=>cases n<;>rfl
 | cons y l ih=>cases n with
  | zero=>cases m with
   | zero=>exact absurd rfl h
   | succ m=>rfl
  | succ n=>cases m with
   | zero=>rfl
   | succ m=>exact ih n m (fun e=>h (by rw [e]))
theorem zdw {l:List (Option Lf)} {o n:Nat} {xs:List Lf} (h:za5 l o n=some xs):xs.length=n∧∀ j,j<n→nth l (o+j)=xs[j]?:=by
 induction l generalizing o n xs with
 | nil=>cases n with
  | zero=>simp [za5] at h;subst h;exact ⟨rfl,fun j hj=>absurd hj (by omega)⟩
  | succ n=>cases o<;>simp [za5] at h
 | cons c l ih=>cases n with
  | zero=>cases o<;>simp [za5] at h<;>(subst h;exact ⟨rfl,fun j hj=>absurd hj (by omega)⟩)
  | succ n=>cases o with
   | succ o =>
    simp only [za5] at h
    obtain ⟨h1,h2⟩:=ih h
    refine ⟨h1,fun j hj=>?_⟩
    rw [show o+1+j=(o+j)+1 from by omega]
    exact h2 j hj
   | zero =>
    simp only [za5] at h
    cases c with
    | none=>simp at h
    | some x =>
     simp only at h
     cases hr:za5 l 0 n with
     | none=>simp [hr] at h
     | some r =>
      simp only [hr,Option.some.injEq] at h
      subst h
      obtain ⟨h1,h2⟩:=ih hr
      refine ⟨by simp [h1],fun j hj=>?_⟩
      cases j with
      | zero=>rfl
      | succ j =>
       rw [show 0+(j+1)=(0+j)+1 from by omega]
       exact h2 j (by omega)
theorem zbI {l:List (Option Lf)} {sz:Nat} : ∀ {n base:Nat} {xs:List Lf},zbA l base sz n=some xs→xs.length=n∧∀ j,j<n→nth l (base+j*sz)=xs[j]?
 | 0,base,xs,h=>by simp [zbA] at h;subst h;exact ⟨rfl,fun j hj=>absurd hj (by omega)⟩
 | n+1,base,xs,h=>by
  simp only [zbA,zji] at h
  cases hc:nth l base with
  | none=>simp [hc] at h
  | some x =>
   simp only [hc] at h
   cases hr:zbA l (base+sz) sz n with
   | none=>simp [hr] at h
   | some r =>
    simp only [hr,Option.some.injEq] at h
    subst h
    obtain ⟨h1,h2⟩:=zbI hr
    refine ⟨by simp [h1],fun j hj=>?_⟩
    cases j with
    | zero=>simp [hc]
    | succ j =>
     have:=h2 j (by omega)
     rw [show base+(j+1)*sz=base+sz+j*sz from by rw [Nat.add_mul];omega]
     simpa using this
theorem zjj {k:IntKind} : ∀ {l:List Lf} {xs:List A},zdb k l=some xs→l=xs.map (Lf.i k)
 | [],xs,h=>by simp [zdb] at h;subst h;rfl
 | .i k' a::l,xs,h=>by
  simp only [zdb] at h
  split at h
  ·rename_i hk
   have:=zcf hk;subst this
   cases hr:zdb k l with
   | none=>simp [hr] at h
   | some r=>simp only [hr,Option.some.injEq] at h;subst h;rw [zjj hr];rfl
  ·simp at h
 | .b _::_,xs,h=>by simp [zdb] at h
 | .p _ _::_,xs,h=>by simp [zdb] at h
 | .gp _ _::_,xs,h=>by simp [zdb] at h
 | .nilp::_,xs,h=>by simp [zdb] at h
 | .vec _::_,xs,h=>by simp [zdb] at h
 | .fnp _ _::_,xs,h=>by simp [zdb] at h
 | .e _ _ _::_,xs,h=>by simp [zdb] at h
 | .v _::_,xs,h=>by simp [zdb] at h
theorem zh7:∀ {l:List Lf} {xs:List A},zb4 l=some xs→l=xs.map Lf.b
 | [],xs,h=>by simp [zb4] at h;subst h;rfl
 | .b a::l,xs,h=>by
  simp only [zb4] at h
  cases hr:zb4 l with
  | none=>simp [hr] at h
  | some r=>simp only [hr,Option.some.injEq] at h;subst h;rw [zh7 hr];rfl
 | .i _ _::_,xs,h=>by simp [zb4] at h
 | .p _ _::_,xs,h=>by simp [zb4] at h
 | .gp _ _::_,xs,h=>by simp [zb4] at h
 | .nilp::_,xs,h=>by simp [zb4] at h
 | .vec _::_,xs,h=>by simp [zb4] at h
 | .fnp _ _::_,xs,h=>by simp [zb4] at h
 | .e _ _ _::_,xs,h=>by simp [zb4] at h
 | .v _::_,xs,h=>by simp [zb4] at h
section
variable {P:Program} {F:FEnv} {ν:Nat→DV} {ρ:Nat→Loc} {w:World}
theorem zcO {t:TypeId} {n:Nat} (h:zaO P t=some n):∃ i,P.info? t=some i∧i.size=n:=by
 unfold zaO at h
 cases hi:P.info? t with
 | none=>simp [hi] at h
 | some i=>simp [hi] at h;exact ⟨i,rfl,h⟩
theorem za9 {t:TypeId} {n:Nat} (h:zaO P t=some n) (w:World):(sizeOf t).run P w = .ok n w:=by
 obtain ⟨i,hi,hn⟩:=zcO h
 simp [sizeOf,typeInfo,hi,hn]
theorem zdJ {t:TypeId} {k:TK} (h:tk P t=some k) (w:World):(isAgg t).run P w = .ok (zb3 k) w:=by
 obtain ⟨d,hd,hk⟩:=zeT h
 unfold isAgg
 rw [Sem.run_bind,run_underlying hd w]
 subst hk
 cases d<;>simp [tkOf,zb3]
theorem LT.feq_eq {t u:LT} (h:t.feq u=true):t=u:=by
 cases t<;>cases u<;>simp only [LT.feq] at h<;>first | rfl | cases h | rw [zcf h]
theorem zeV {t:LT} {a:A} {d:Nat} : ∀ {l:List Lf} {i:Nat},rowE t a d i l=true→∀ (k:Nat) (x:Lf),l[k]? = some x→∃ b,b.beq a=true∧x = .e t b (i+k*d)
 | [],i,_,k,x,hx=>by simp at hx
 | y::l,i,h,k,x,hx=>by
  cases y<;>simp only [rowE] at h<;>try cases h
  rename_i u b j
  simp only [Bool.and_eq_true] at h
  obtain ⟨⟨⟨h1,h2⟩,h3⟩,h4⟩:=h
  cases k with
  | zero =>
   simp at hx
   subst hx
   rw [LT.feq_eq h1,Nat.eq_of_beq_eq_true h3]
   exact ⟨b,h2,by simp⟩
  | succ k =>
   rw [List.getElem?_cons_succ] at hx
   obtain ⟨c,h5,h6⟩:=zeV h4 k x hx
   refine ⟨c,h5,?_⟩
   rw [h6]
   congr 1
   rw [Nat.add_mul];omega
theorem zlp {x:Lf} (hg:x.good ν):M.sat F ν (zqq x) (fun y=>y.good ν∧∀ ρ,y.conc ν ρ=x.conc ν ρ):=by
 unfold zqq
 split
 ·rename_i k a j
  refine zaa (zaf (Q:=fun q=>q.int ν=((a.cells ν).getD (0*1+j) default).toI) fun q h=>A.int_of_den h) fun q hq=>zab ⟨trivial,fun ρ=>?_⟩
  simp only [Lf.conc,hq,Nat.zero_mul,Nat.zero_add]
 ·rename_i a j
  refine zaa (zaf (Q:=fun q=>q.bool ν=((a.cells ν).getD (0*1+j) default).toB) fun q h=>A.bool_of_den h) fun q hq=>zab ⟨trivial,fun ρ=>?_⟩
  simp only [Lf.conc,hq,Nat.zero_mul,Nat.zero_add]
 ·exact zab ⟨hg,fun _=>rfl⟩
theorem zcj {l:List Lf} {ix:A} {len:Nat} (hl:l.length=len) (h0:0≤ix.int ν) (h1:ix.int ν<len) :
  M.sat F ν (zeF l ix) (fun x=>x.good ν∧∀ ρ,∃ y,l[(ix.int ν).toNat]? = some y∧x.conc ν ρ=y.conc ν ρ):=by
 have hlt:(ix.int ν).toNat<l.length:=by omega
 unfold zeF
 split
 ·rename_i k a tl
  generalize hL:Lf.i k a::tl=L at *
  refine zaa (zad (Q:=fun xs=>L=xs.map (Lf.i k)) fun xs h=>zjj h) fun xs hxs=>?_
  refine zaa (zaf (Q:=fun r=>r.int ν=_) fun r h=>A.int_of_den h) fun r hr=>zab ⟨trivial,fun ρ=>?_⟩
  rw [hxs] at hlt ⊢
  simp at hlt
  refine ⟨_,List.getElem?_eq_getElem (by simpa using hlt),?_⟩
  simp [Lf.conc,hr,List.getD,hlt]
 ·rename_i a tl
  generalize hL:Lf.b a::tl=L at *
  refine zaa (zad (Q:=fun xs=>L=xs.map Lf.b) fun xs h=>zh7 h) fun xs hxs=>?_
  refine zaa (zaf (Q:=fun r=>r.bool ν=_) fun r h=>A.bool_of_den h) fun r hr=>zab ⟨trivial,fun ρ=>?_⟩
  rw [hxs] at hlt ⊢
  simp at hlt
  refine ⟨_,List.getElem?_eq_getElem (by simpa using hlt),?_⟩
  simp [Lf.conc,hr,List.getD,hlt]
 ·rename_i k a i0 tl
  refine zae (fun hrow=>?_) (fun _=>zac)
  refine zaa (zaf (Q:=fun r=>r.int ν=((a.cells ν).getD ((ix.int ν).toNat*zhp i0 tl+i0) default).toI) fun r h=>A.int_of_den h) fun r hr=>zab ⟨trivial,fun ρ=>?_⟩
  obtain ⟨b,h3,h4⟩:=zeV hrow _ _ (List.getElem?_eq_getElem hlt)
  refine ⟨_,List.getElem?_eq_getElem hlt,?_⟩
  rw [h4]
  simp only [Lf.conc,hr,A.cells,A.beq_den h3 ν,Nat.add_comm]
 ·rename_i a i0 tl
  refine zae (fun hrow=>?_) (fun _=>zac)
  refine zaa (zaf (Q:=fun r=>r.bool ν=((a.cells ν).getD ((ix.int ν).toNat*zhp i0 tl+i0) default).toB) fun r h=>A.bool_of_den h) fun r hr=>zab ⟨trivial,fun ρ=>?_⟩
  obtain ⟨b,h3,h4⟩:=zeV hrow _ _ (List.getElem?_eq_getElem hlt)
  refine ⟨_,List.getElem?_eq_getElem hlt,?_⟩
  rw [h4]
  simp only [Lf.conc,hr,A.cells,A.beq_den h3 ν,Nat.add_comm]
 ·exact zac
theorem zhz {l:List (Option Lf)} {sz len:Nat} {ix:A} (h0:0≤ix.int ν) (h1:ix.int ν<len):∀ (n base:Nat),
  M.sat F ν (zni l base sz len ix n) (fun xs=>xs.length=n∧(∀ x∈xs,x.good ν)∧∀ ρ j,j<n→∃ x y,xs[j]? = some x∧nth l (base+j+(ix.int ν).toNat*sz)=some y∧x.conc ν ρ=y.conc ν ρ)
 | 0,base=>zab ⟨rfl,by simp,fun ρ j hj=>absurd hj (by omega)⟩
 | n+1,base=>by
  unfold zni
  refine zaa (zad (Q:=fun row=>zbA l base sz len=some row) fun a h=>h) fun row hrow=>?_
  obtain ⟨hlen,hget⟩:=zbI hrow
  refine zaa (zcj hlen h0 h1) fun x hx=>?_
  refine zaa (zhz h0 h1 n (base+1)) fun r hr=>zab ?_
  obtain ⟨hr1,hr2,hr3⟩:=hr
  refine ⟨by simp [hr1],?_,fun ρ j hj=>?_⟩
  ·intro y hy
   rcases List.mem_cons.1 hy with rfl | h
   ·exact hx.1
   ·exact hr2 y h
  ·cases j with
   | zero =>
    obtain ⟨y,hy,he⟩:=hx.2 ρ
    refine ⟨x,y,rfl,?_,he⟩
    rw [Nat.add_zero,hget _ (by omega)]
    exact hy
   | succ j =>
    obtain ⟨x',y',h1',h2',h3'⟩:=hr3 ρ j (by omega)
    refine ⟨x',y',by simpa using h1',?_,h3'⟩
    rw [show base+(j+1)=base+1+j from by omega]
    exact h2'
theorem znw {l:List Lf} {off sz:Nat} {xs:List Lf} (h:za5 (l.map some) off sz=some xs) (f:Lf→Value) :
  (l.map f).toArray.extract off (off+sz)=(xs.map f).toArray:=by
 obtain ⟨h1,h2⟩:=zdw h
 have hle:off+sz≤l.length∨sz=0:=by
  cases sz with
  | zero=>exact .inr rfl
  | succ n =>
   left
   have hx:=h2 n (by omega)
   have hxs:xs[n]? = some xs[n]:=List.getElem?_eq_getElem (by omega)
   rw [hxs] at hx
   have:=zaY hx
   simp at this
   omega
 apply Array.ext'
 rw [Array.toList_extract,List.extract_eq_take_drop]
 apply List.ext_getElem?
 intro j
 rw [List.getElem?_take]
 by_cases hj:j<sz
 ·have hx:=h2 j hj
  rw [za3] at hx
  rw [if_pos (by omega),List.getElem?_drop]
  simp [hx]
 ·rw [if_neg (by omega)]
  simp only [List.getElem?_map]
  rw [List.getElem?_eq_none (by omega)]
  rfl
theorem zo0 {l:List Lf} {off sz:Nat} {xs:List Lf} (h:za5 (l.map some) off sz=some xs) {x:Lf} (hx:x∈xs):x∈l:=by
 obtain ⟨h1,h2⟩:=zdw h
 obtain ⟨j,hj,rfl⟩:=List.mem_iff_getElem.1 hx
 have:=h2 j (by omega)
 rw [za3,List.getElem?_eq_getElem hj] at this
 exact List.mem_of_getElem? this
theorem zdK {t:TypeId} {cs:List Lf} {off:Nat} (hg:∀ x∈cs,Lf.good ν x) :
  M.sat F ν (zgt P t cs off) (fun v=>v.good ν∧∀ ρ w,(part t (cs.map (Lf.conc ν ρ)).toArray off).run P w = .ok (v.conc ν ρ) w):=by
 unfold zgt
 refine zaa (zad (Q:=fun k=>tk P t=some k) fun a h=>h) fun k hk=>?_
 refine zaa (zad (Q:=fun k=>zaO P t=some k) fun a h=>h) fun sz hs=>?_
 refine zae (fun ha=>?_) (fun ha=>?_)
 ·refine zaa (zad (Q:=fun xs=>za5 (cs.map some) off sz=some xs) fun a h=>h) fun xs hxs=>zab ⟨?_,fun ρ w=>?_⟩
  ·exact V1.good_agg.2 fun x hx=>hg x (zo0 hxs hx)
  ·have hex:=znw hxs (Lf.conc ν ρ)
   simp only [part,Sem.run_bind,zdJ hk,ha,Result.andThen_ok,if_true,za9 hs,Sem.run_pure,V1.conc,hex]
 ·refine zaa (zad (Q:=fun x=>zhV (cs.map some) off=some x) fun a h=>h) fun x hx=>?_
  rw [zji,za3] at hx
  refine zaa (zlp (hg x (List.mem_of_getElem? hx))) fun y hy=>zab ⟨V1.good_one.2 hy.1,fun ρ w=>?_⟩
  simp [part,zdJ hk,ha,hx,V1.conc,hy.2]
def zxo (P:Program) (ν:Nat→DV) (d:Nat) (eq:TypeId→V1→V1→M A) (F:FEnv):Prop :=
 ∀ t x y,x.good ν→y.good ν→M.sat F ν (eq t x y) (fun a=>∀ ρ m w,(Op.equalIn (m+d) t (x.conc ν ρ) (y.conc ν ρ)).run P w = .ok (a.bool ν) w)
theorem zo1 {a b:Lf} (h:zsr a b=true) (ρ:Nat→Loc):a.conc ν ρ=b.conc ν ρ:=by
 have key:∀ {k k':IntKind} {x y:A} {i j:Nat},(kEq k k'&&x.beq y&&Nat.beq i j)=true→k=k'∧x.den ν=y.den ν∧i=j:=fun h=>by
  simp only [Bool.and_eq_true] at h
  exact ⟨zcf h.1.1,A.beq_den h.1.2 ν,Nat.eq_of_beq_eq_true h.2⟩
 unfold zsr at h
 split at h
 ·simp only [Bool.and_eq_true] at h
  rw [zcf h.1]
  simp only [Lf.conc,A.int,A.beq_den h.2 ν]
 ·simp only [Lf.conc,A.bool,A.beq_den h ν]
 ·obtain ⟨e1,e2,e3⟩:=key h
  subst e1 e3
  simp only [Lf.conc,A.cells,e2]
 ·simp only [Bool.and_eq_true] at h
  have e:=Nat.eq_of_beq_eq_true h.2
  subst e
  simp only [Lf.conc,A.cells,A.beq_den h.1 ν]
 ·cases h
theorem zjk:∀ {l l':List Lf},zli l l'=true→∀ ρ:Nat→Loc,l.map (Lf.conc ν ρ)=l'.map (Lf.conc ν ρ)
 | [],[],_,_=>rfl
 | x::l,y::l',h,ρ=>by
  simp only [zli,Bool.and_eq_true] at h
  rw [List.map_cons,List.map_cons,zo1 h.1 ρ,zjk h.2 ρ]
 | [],_::_,h,_=>by cases h
 | _::_,[],h,_=>by cases h
theorem zh8 {t:TypeId} {xs ys:List Lf} {off:Nat} {a:V1} (hy:∀ x∈ys,Lf.good ν x) (ha:a.good ν∧∀ ρ w,(part t (xs.map (Lf.conc ν ρ)).toArray off).run P w = .ok (a.conc ν ρ) w) :
  M.sat F ν (if zli xs ys then pure a else zgt P t ys off) (fun v=>v.good ν∧∀ ρ w,(part t (ys.map (Lf.conc ν ρ)).toArray off).run P w = .ok (v.conc ν ρ) w) :=
 zae (fun h=>zab ⟨ha.1,fun ρ w=>by rw [←zjk h ρ];exact ha.2 ρ w⟩) (fun _=>zdK hy)
theorem zjl {d:Nat} {eq:TypeId→V1→V1→M A} (heq:zxo P ν d eq F) {elem:TypeId} {sz:Nat} {xs ys:List Lf} (hx:∀ x∈xs,Lf.good ν x) (hy:∀ x∈ys,Lf.good ν x) :
  ∀ (n i:Nat),M.sat F ν (zl8 P eq elem sz xs ys i n) (fun a=>∀ ρ m w,(Op.eqItems (m+d) elem sz (xs.map (Lf.conc ν ρ)).toArray (ys.map (Lf.conc ν ρ)).toArray (List.range' i n)).run P w = .ok (a.bool ν) w)
 | 0,i=>zab (by intro ρ m w;simp [Op.eqItems])
 | n+1,i=>by
  unfold zl8
  refine zaa (zdK hx) fun a ha=>?_
  refine zaa (zh8 hy ha) fun b hb=>?_
  refine zaa (heq elem a b ha.1 hb.1) fun e he=>?_
  refine zaa (zjl heq hx hy n (i+1)) fun r hr=>?_
  refine zag zjg fun q hq ρ m w=>?_
  rw [List.range'_succ]
  simp only [Op.eqItems,Sem.run_bind,ha.2 ρ w,hb.2 ρ w,Result.andThen_ok,he ρ m w,hq]
  cases h:e.bool ν
  ·simp
  ·simpa using hr ρ m w
theorem zfF {d:Nat} {eq:TypeId→V1→V1→M A} (heq:zxo P ν d eq F) {xs ys:List Lf} (hx:∀ x∈xs,Lf.good ν x) (hy:∀ x∈ys,Lf.good ν x) :
  ∀ (fs : List Field), (∀ f ∈ fs, f.name ≠ "_") → M.sat F ν (zfl P eq xs ys (fs.map fun f => (f.offset, f.type))) (fun a => ∀ ρ m w, (Op.eqFields (m + d) (xs.map (Lf.conc ν ρ)).toArray (ys.map (Lf.conc ν ρ)).toArray fs).run P w = .ok (a.bool ν) w)
 | [],_=>zab (by intro ρ m w;simp [Op.eqFields])
 | f::fs,hn=>by
  simp only [List.map_cons]
  unfold zfl
  refine zaa (zdK hx) fun a ha=>?_
  refine zaa (zh8 hy ha) fun b hb=>?_
  refine zaa (heq f.type a b ha.1 hb.1) fun e he=>?_
  refine zaa (zfF heq hx hy fs (fun g hg=>hn g (List.mem_cons_of_mem _ hg))) fun r hr=>?_
  refine zag zjg fun q hq ρ m w=>?_
  have hne : f.name ≠ "_" := hn f (by simp)
  simp only [Op.eqFields,hne,ne_eq,not_false_eq_true,if_true,Sem.run_bind,ha.2 ρ w,hb.2 ρ w,Result.andThen_ok,he ρ m w,hq]
  cases h:e.bool ν
  ·simp
  ·simpa using hr ρ m w
theorem ziJ:∀ (d:Nat),zxo P ν d (evEq P d) F
 | 0=>fun t x y _ _=>zac
 | d+1=>fun t x y hgx hgy=>by
  unfold evEq
  refine zaa (zad (Q:=fun k=>tk P t=some k) fun a h=>h) fun k hk=>?_
  split
  ·rename_i ki ka a kb b
   refine zae (fun hkk=>?_) (fun _=>zac)
   have:=zcf hkk;subst this
   have hu:=zqF hk
   split
   ·exact zab fun ρ m w=>by simp [V1.conc,Lf.conc,←Nat.add_assoc,run_equalIn_int w _ t _ _ _ _ hu]
   ·refine zae (fun hb=>zab fun ρ m w=>?_) (fun _=>zaf fun r h ρ m w=>by rw [A.bool_of_den h];simp [V1.conc,Lf.conc,←Nat.add_assoc,run_equalIn_int w _ t _ _ _ _ hu])
    have e:=A.beq_den hb ν
    simp [V1.conc,Lf.conc,←Nat.add_assoc,run_equalIn_int w _ t _ _ _ _ hu,A.int,e]
  ·have hu:=zoZ hk
   split
   ·exact zab fun ρ m w=>by simp [V1.conc,Lf.conc,←Nat.add_assoc,run_equalIn_bool' w _ t _ _ hu]
   ·refine zae (fun hb=>zab fun ρ m w=>?_) (fun _=>zaf fun r h ρ m w=>by rw [A.bool_of_den h];simp [V1.conc,Lf.conc,←Nat.add_assoc,run_equalIn_bool' w _ t _ _ hu])
    have e:=A.beq_den hb ν
    simp [V1.conc,Lf.conc,←Nat.add_assoc,run_equalIn_bool' w _ t _ _ hu,A.bool,e]
  ·rename_i len elem xs ys
   have hu:=zlo hk
   refine zaa (zad (Q:=fun k=>zaO P elem=some k) fun a h=>h) fun sz hs=>?_
   obtain ⟨i,hi,hn⟩:=zcO hs
   refine zag (zjl (ziJ d) (V1.good_agg.1 hgx) (V1.good_agg.1 hgy) len 0) fun a ha ρ m w=>?_
   have hc:P.cellsOf elem=sz:=by simp [Program.cellsOf,hi,hn]
   simp only [V1.conc]
   rw [←Nat.add_assoc,run_equalIn_array w (m+d) _ _ hu hi,hc,List.range_eq_range']
   exact ha ρ m w
  ·rename_i fs xs ys
   obtain ⟨fl,hu,hfs⟩:=zeU hk
   have hfo:P.fieldsOf t=fl:=by simp [Program.fieldsOf,hu]
   refine zae (fun _=>zac) (fun hst=>?_)
   refine zae (fun hnm=>?_) (fun _=>zac)
   subst hfs
   rw [hfo] at hnm
   refine zag (zfF (ziJ d) (V1.good_agg.1 hgx) (V1.good_agg.1 hgy) fl.toList (by
    intro f hf
    have:=List.all_eq_true.1 hnm f hf
    simpa using this)) fun a ha ρ m w=>?_
   simp only [V1.conc]
   rw [←Nat.add_assoc,run_equalIn_struct w (m+d) t _ _ (by rw [hfo];exact hu) (by simpa using hst),hfo]
   exact ha ρ m w
  ·exact zac
end
end Go.Sx
namespace Go.Sx
open Go.RowKit
structure ObjK where
 foot:World→Nat→Nat→Nat→Prop
 rfoot:World→Nat→Nat→Nat→Prop
 /-- may it be written? -/
 rel:Bool→World→Nat→Nat→List DV→Prop
 weak:∀ {w:World} {p o:Nat} {d:List DV},rel true w p o d→rel false w p o d
 lt:∀ {own:Bool} {w:World} {p o:Nat} {d:List DV} {b:Nat},rel own w p o d→rfoot w p o b→b<w.heap.size
 sub:∀ {own:Bool} {w:World} {p o:Nat} {d:List DV} {b:Nat},rel own w p o d→foot w p o b→rfoot w p o b
 foot_congr:∀ {own:Bool} {w w':World} {p o:Nat} {d:List DV},rel own w p o d→(∀ b,rfoot w p o b→w'.heap[b]? = w.heap[b]?)→∀ b,foot w' p o b↔foot w p o b
 rfoot_congr:∀ {own:Bool} {w w':World} {p o:Nat} {d:List DV},rel own w p o d→(∀ b,rfoot w p o b→w'.heap[b]? = w.heap[b]?)→∀ b,rfoot w' p o b↔rfoot w p o b
 rel_congr:∀ {own:Bool} {w w':World} {p o:Nat} {d:List DV},rel own w p o d→(∀ b,rfoot w p o b→w'.heap[b]? = w.heap[b]?)→rel own w' p o d
def zjm:ObjK:=⟨fun _ _ _ _=>False,fun _ _ _ _=>False,fun _ _ _ _ _=>False,id,fun h=>h.elim,fun h=>h.elim,fun h=>h.elim,fun h=>h.elim,fun h=>h.elim⟩
theorem ObjK.wk (K:ObjK) {own:Bool} {w:World} {p o:Nat} {d:List DV} (h:K.rel own w p o d):K.rel false w p o d:=by
 cases own with
 | true=>exact K.weak h
 | false=>exact h
def ramAt:List DV→Int→Int
 | [],_=>0
 | e::r,k=>if (e.toL.getD 0 default).toI=k then (e.toL.getD 1 default).toI else ramAt r k
def zb6 (d:List DV) (k b:Int):List DV:=.l [.i k,.i b]::d
theorem zdL (d:List DV) (k b j:Int):ramAt (zb6 d k b) j=if k=j then b else ramAt d j:=rfl
structure PageAt (own:Bool) (w:World) (b o:Nat) (f:Nat→Int):Prop where
 cell:∀ i,i<4096→w.cell? ⟨b,o+i,none⟩=some (.int .u8 (f i))
 fz:own=true→∀ i,w.frozen? ⟨b,i,none⟩=false
theorem PageAt.congr {own:Bool} {w w':World} {b o:Nat} {f:Nat→Int} (h:PageAt own w b o f) (hb:w'.heap[b]? = w.heap[b]?):PageAt own w' b o f :=
 ⟨fun i hi=>by rw [World.cell?_of_block (w:=w) hb];exact h.cell i hi,fun ho i=>by rw [World.frozen?_of_block (w:=w) hb];exact h.fz ho i⟩
theorem PageAt.weak {own:Bool} {w:World} {b o:Nat} {f:Nat→Int} (h:PageAt own w b o f):PageAt false w b o f:=⟨h.cell,fun e=>by cases e⟩
theorem zaK {w:World} {b o:Nat} {v:Value} (h:w.cell? ⟨b,o,none⟩=some v):b<w.heap.size:=by
 rcases Nat.lt_or_ge b w.heap.size with h2 | h2
 ·exact h2
 ·simp [World.cell?,Array.getElem?_eq_none h2] at h
theorem PageAt.lt {own:Bool} {w:World} {b o:Nat} {f:Nat→Int} (h:PageAt own w b o f):b<w.heap.size:=zaK (h.cell 0 (by decide))
abbrev pageKey (n:Int):Value:=.agg #[.int .u64 n]
structure RamA (own:Bool) (w:World) (p o:Nat) (d:List DV) (mb:Nat) (es:Array MapEntry) (clock:Nat):Prop where
 cell:w.cell? ⟨p,o,none⟩=some (.map (some mb))
 obj:w.heap[mb]? = some (.map es clock)
 st:MapKept.Stamped es clock
 page:∀ e∈es.toList,∃ (n:Int) (b:Nat),0≤n∧n<18446744073709551616∧e.key=pageKey n∧e.val = .pointer (some ⟨b,0,none⟩)∧PageAt own w b 0 (fun i=>ramAt d (n*4096+i))
 apart:es.toList.Pairwise (fun e e'=>e.key≠e'.key∧e.val≠e'.val)
 rest:∀ n:Int,0≤n→n<18446744073709551616→(∀ e∈es.toList,e.key≠pageKey n)→∀ i:Nat,i<4096→ramAt d (n*4096+i)=0
def zgI (w:World) (p o b:Nat):Prop :=
 b=p∨∃ mb,w.cell? ⟨p,o,none⟩=some (.map (some mb))∧(b=mb∨∃ es clock,w.heap[mb]? = some (.map es clock)∧∃ e∈es.toList,e.val = .pointer (some ⟨b,0,none⟩))
theorem RamA.foot {own:Bool} {w:World} {p o:Nat} {d:List DV} {mb:Nat} {es:Array MapEntry} {clock:Nat} (h:RamA own w p o d mb es clock) (b:Nat) :
  zgI w p o b↔(b=p∨b=mb∨∃ e∈es.toList,e.val = .pointer (some ⟨b,0,none⟩)):=by
 unfold zgI
 constructor
 ·rintro (h1 | ⟨mb',h1,h2 | ⟨es',cl',h2,h3⟩⟩)
  ·exact .inl h1
  ·rw [h.cell] at h1;cases h1;exact .inr (.inl h2)
  ·rw [h.cell] at h1;cases h1
   rw [h.obj] at h2;cases h2
   exact .inr (.inr h3)
 ·rintro (h1 | h1 | h1)
  ·exact .inl h1
  ·exact .inr ⟨mb,h.cell,.inl h1⟩
  ·exact .inr ⟨mb,h.cell,.inr ⟨es,clock,h.obj,h1⟩⟩
theorem RamA.lt {own:Bool} {w:World} {p o:Nat} {d:List DV} {mb:Nat} {es:Array MapEntry} {clock:Nat} (h:RamA own w p o d mb es clock) {b:Nat} (hb:zgI w p o b):b<w.heap.size:=by
 rcases (h.foot b).1 hb with rfl | rfl | ⟨e,he,hv⟩
 ·exact zaK h.cell
 ·rcases Nat.lt_or_ge b w.heap.size with h2 | h2
  ·exact h2
  ·have:=h.obj;rw [Array.getElem?_eq_none h2] at this;cases this
 ·obtain ⟨n,b',_,_,_,h5,h6⟩:=h.page e he
  rw [h5] at hv
  cases hv
  exact h6.lt
theorem RamA.congr {own:Bool} {w w':World} {p o:Nat} {d:List DV} {mb:Nat} {es:Array MapEntry} {clock:Nat} (h:RamA own w p o d mb es clock) (hb:∀ b,zgI w p o b→w'.heap[b]? = w.heap[b]?):RamA own w' p o d mb es clock:=by
 refine ⟨?_,?_,h.st,fun e he=>?_,h.apart,h.rest⟩
 ·rw [World.cell?_of_block (w:=w) (hb p (.inl rfl))];exact h.cell
 ·rw [hb mb ((h.foot mb).2 (.inr (.inl rfl)))];exact h.obj
 ·obtain ⟨n,b,h1,h2,h3,h4,h5⟩:=h.page e he
  exact ⟨n,b,h1,h2,h3,h4,h5.congr (hb b ((h.foot b).2 (.inr (.inr ⟨e,he,h4⟩))))⟩
theorem RamA.weak {own:Bool} {w:World} {p o:Nat} {d:List DV} {mb:Nat} {es:Array MapEntry} {clock:Nat} (h:RamA own w p o d mb es clock):RamA false w p o d mb es clock :=
 ⟨h.cell,h.obj,h.st,fun e he=>let ⟨n,b,h1,h2,h3,h4,h5⟩:=h.page e he;⟨n,b,h1,h2,h3,h4,h5.weak⟩,h.apart,h.rest⟩
theorem zjn {own:Bool} {w w':World} {p o:Nat} {d:List DV} {mb:Nat} {es:Array MapEntry} {clock:Nat} (h:RamA own w p o d mb es clock) (hb:∀ b,zgI w p o b→w'.heap[b]? = w.heap[b]?) (b:Nat):zgI w' p o b↔zgI w p o b:=by
 rw [(h.congr hb).foot,h.foot]
def zo2:ObjK where
 foot:=zgI
 rfoot:=zgI
 rel own w p o d:=∃ mb es clock,RamA own w p o d mb es clock
 weak:=fun ⟨mb,es,cl,h⟩=>⟨mb,es,cl,h.weak⟩
 lt:=fun ⟨_,_,_,h⟩ hb=>h.lt hb
 sub:=fun _ h=>h
 foot_congr:=fun ⟨_,_,_,h⟩ hb=>zjn h hb
 rfoot_congr:=fun ⟨_,_,_,h⟩ hb=>zjn h hb
 rel_congr:=fun ⟨mb,es,cl,h⟩ hb=>⟨mb,es,cl,h.congr hb⟩
structure RamB (own:Bool) (w:World) (p o:Nat) (d:List DV) (sb so c:Nat) (pg:Nat→Option (Nat×Nat×Nat)):Prop where
 cell:w.cell? ⟨p,o,none⟩=some (.slice (some ⟨sb,so,none⟩) 256 c)
 fz:own=true→∀ i,w.frozen? ⟨sb,i,none⟩=false
 gone:∀ k,k<256→pg k=none→(∃ s c',w.cell? ⟨sb,so+k,none⟩=some (.slice s 0 c'))∧∀ i:Nat,i<4096→ramAt d (2147483648+k*4096+i)=0
 there:∀ k b f c',k<256→pg k=some (b,f,c')→w.cell? ⟨sb,so+k,none⟩=some (.slice (some ⟨b,f,none⟩) 4096 c')∧PageAt own w b f (fun i=>ramAt d (2147483648+k*4096+i))
 apart:∀ k k' b f c1 b' f' c2,k<256→k'<256→k≠k'→pg k=some (b,f,c1)→pg k'=some (b',f',c2)→b≠b'
def zk9 (w:World) (p o b:Nat):Prop :=
 b=p∨∃ sb so c,w.cell? ⟨p,o,none⟩=some (.slice (some ⟨sb,so,none⟩) 256 c)∧(b=sb∨∃ k f c',k<256∧w.cell? ⟨sb,so+k,none⟩=some (.slice (some ⟨b,f,none⟩) 4096 c'))
theorem RamB.foot {own:Bool} {w:World} {p o:Nat} {d:List DV} {sb so c:Nat} {pg:Nat→Option (Nat×Nat×Nat)} (h:RamB own w p o d sb so c pg) (b:Nat) :
  zk9 w p o b↔(b=p∨b=sb∨∃ k f c',k<256∧pg k=some (b,f,c')):=by
 unfold zk9
 constructor
 ·rintro (h1 | ⟨sb',so',c',h1,h2 | ⟨k,f,c2,hk,h3⟩⟩)
  ·exact .inl h1
  ·rw [h.cell] at h1;cases h1;exact .inr (.inl h2)
  ·rw [h.cell] at h1;cases h1
   refine .inr (.inr ⟨k,f,c2,hk,?_⟩)
   cases hp:pg k with
   | none =>
    obtain ⟨⟨s,c3,h4⟩,_⟩:=h.gone k hk hp
    rw [h3] at h4;cases h4
   | some x =>
    obtain ⟨b1,f1,c1⟩:=x
    have h4:=(h.there k b1 f1 c1 hk hp).1
    rw [h3] at h4;cases h4
    rfl
 ·rintro (h1 | h1 | ⟨k,f,c',hk,h1⟩)
  ·exact .inl h1
  ·exact .inr ⟨sb,so,c,h.cell,.inl h1⟩
  ·exact .inr ⟨sb,so,c,h.cell,.inr ⟨k,f,c',hk,(h.there k b f c' hk h1).1⟩⟩
theorem RamB.sblt {own:Bool} {w:World} {p o:Nat} {d:List DV} {sb so c:Nat} {pg:Nat→Option (Nat×Nat×Nat)} (h:RamB own w p o d sb so c pg):sb<w.heap.size:=by
 cases hp:pg 0 with
 | none=>obtain ⟨⟨s,c3,h4⟩,_⟩:=h.gone 0 (by decide) hp;exact zaK h4
 | some x=>exact zaK (h.there 0 x.1 x.2.1 x.2.2 (by decide) hp).1
theorem RamB.lt {own:Bool} {w:World} {p o:Nat} {d:List DV} {sb so c:Nat} {pg:Nat→Option (Nat×Nat×Nat)} (h:RamB own w p o d sb so c pg) {b:Nat} (hb:zk9 w p o b):b<w.heap.size:=by
 rcases (h.foot b).1 hb with rfl | rfl | ⟨k,f,c',hk,h1⟩
 ·exact zaK h.cell
 ·exact h.sblt
 ·exact (h.there k b f c' hk h1).2.lt
theorem RamB.congr {own:Bool} {w w':World} {p o:Nat} {d:List DV} {sb so c:Nat} {pg:Nat→Option (Nat×Nat×Nat)} (h:RamB own w p o d sb so c pg) (hb:∀ b,zk9 w p o b→w'.heap[b]? = w.heap[b]?):RamB own w' p o d sb so c pg:=by
 have hsb:=hb sb ((h.foot sb).2 (.inr (.inl rfl)))
 refine ⟨?_,fun ho i=>?_,fun k hk hp=>?_,fun k b f c' hk hp=>?_,h.apart⟩
 ·rw [World.cell?_of_block (w:=w) (hb p (.inl rfl))];exact h.cell
 ·rw [World.frozen?_of_block (w:=w) hsb];exact h.fz ho i
 ·obtain ⟨⟨s,c3,h4⟩,h5⟩:=h.gone k hk hp
  exact ⟨⟨s,c3,by rw [World.cell?_of_block (w:=w) hsb];exact h4⟩,h5⟩
 ·obtain ⟨h4,h5⟩:=h.there k b f c' hk hp
  exact ⟨by rw [World.cell?_of_block (w:=w) hsb];exact h4,h5.congr (hb b ((h.foot b).2 (.inr (.inr ⟨k,f,c',hk,hp⟩))))⟩
theorem RamB.weak {own:Bool} {w:World} {p o:Nat} {d:List DV} {sb so c:Nat} {pg:Nat→Option (Nat×Nat×Nat)} (h:RamB own w p o d sb so c pg):RamB false w p o d sb so c pg :=
 ⟨h.cell,fun e=>(by cases e),h.gone,fun k b f c' hk hp=>⟨(h.there k b f c' hk hp).1,(h.there k b f c' hk hp).2.weak⟩,h.apart⟩
theorem zjo {own:Bool} {w w':World} {p o:Nat} {d:List DV} {sb so c:Nat} {pg:Nat→Option (Nat×Nat×Nat)} (h:RamB own w p o d sb so c pg) (hb:∀ b,zk9 w p o b→w'.heap[b]? = w.heap[b]?) (b:Nat):zk9 w' p o b↔zk9 w p o b:=by
 rw [(h.congr hb).foot,h.foot]
def zsT:ObjK where
 foot:=zk9
 rfoot:=zk9
 rel own w p o d:=∃ sb so c pg,RamB own w p o d sb so c pg
 weak:=fun ⟨sb,so,c,pg,h⟩=>⟨sb,so,c,pg,h.weak⟩
 lt:=fun ⟨_,_,_,_,h⟩ hb=>h.lt hb
 sub:=fun _ h=>h
 foot_congr:=fun ⟨_,_,_,_,h⟩ hb=>zjo h hb
 rfoot_congr:=fun ⟨_,_,_,_,h⟩ hb=>zjo h hb
 rel_congr:=fun ⟨sb,so,c,pg,h⟩ hb=>⟨sb,so,c,pg,h.congr hb⟩
theorem zrs {w:World} {p o:Nat} {d:List DV} (_:zo2.rel true w p o d) {b:Nat} (h:zo2.rfoot w p o b):zo2.foot w p o b:=h
theorem zrt {w:World} {p o:Nat} {d:List DV} (_:zsT.rel true w p o d) {b:Nat} (h:zsT.rfoot w p o b):zsT.foot w p o b:=h
end Go.Sx
namespace Go.Sx
open Go.RowKit
structure Env where
 W:Nat→Prop
 V:Nat→Prop
 w0:World
 n0:Nat
 ρ0:Nat→Loc
inductive CRel (E:Env):LT→DV→Value→Prop
 | int (k:IntKind) (d:DV):CRel E (.int k) d (.int k d.toI)
 | bool (d:DV):CRel E .bool d (.bool d.toB)
 | vec (ts:List LT) (d:DV) (r:Loc) (vs:Nat→Value) (hnil:r.nil=true→r.len=0∧r.cap=0) (hlt:r.nil=false→r.blk<E.w0.heap.size∧¬ E.W r.blk∧E.V r.blk) (hpos:0<ts.length)
   (hlen:d.toL.length=r.len*ts.length) (hcap:r.len≤r.cap) (hv:∀ i,i<d.toL.length→E.w0.cell? ⟨r.blk,r.off+i,none⟩=some (vs i))
   (hc:∀ i,i<d.toL.length→CRel E (ts.getD (i%ts.length) .bool) (d.toL.getD i default) (vs i)):CRel E (.vec ts) d r.slice
structure VRel (E:Env) (w:World) (r:Loc) (ow:Bool) (ts:List LT) (xs:List DV):Prop where
 nil:r.nil=true→r.len=0∧r.cap=0
 lt:r.nil=false→r.blk<w.heap.size
 pos:0<ts.length
 len:xs.length=r.len*ts.length
 cap:r.len≤r.cap
 cell:∀ i,i<xs.length→∃ v,w.cell? ⟨r.blk,r.off+i,none⟩=some v∧CRel E (ts.getD (i%ts.length) .bool) (xs.getD i default) v
 own:ow=true→r.nil=false→∀ i,i<r.cap*ts.length→(w.cell? ⟨r.blk,r.off+i,none⟩).isSome=true∧w.frozen? ⟨r.blk,r.off+i,none⟩=false
 fz:ow=true→r.nil=false→r.cap≤9223372036854775807∧∀ o,w.frozen? ⟨r.blk,o,none⟩=false
structure CBlk (ν:Nat→DV) (ρ:Nat→Loc) (w:World) (r:Loc) (ow:Bool) (cs:List (Option Lf)):Prop where
 nil:r.nil=false
 lt:r.blk<w.heap.size
 cell:∀ i l,nth cs i=some l→l.good ν∧w.cell? ⟨r.blk,r.off+i,none⟩=some (l.conc ν ρ)
 own:ow=true→∀ i,i<cs.length→(w.cell? ⟨r.blk,r.off+i,none⟩).isSome=true∧w.frozen? ⟨r.blk,r.off+i,none⟩=false
 fz:ow=true→∀ o,w.frozen? ⟨r.blk,o,none⟩=false
structure LRel (E:Env) (w:World) (r:Loc) (o f:Bool) (ts:List LT) (xs:List DV):Prop where
 row:VRel E w r false ts xs
 spare:o=true→r.len<r.cap→VRel E w r true ts xs
 full:f=true→r.cap=r.len
def zsU {α:Type} (kn vn:Nat):Nat→List α→List (List α×List α)
 | 0,_=>[]
 | n+1,cs=>(cs.take kn,(cs.drop kn).take vn)::zsU kn vn n (cs.drop (kn+vn))
def mlist {α:Type} (kt vt:Bool×Nat) (cs:List α):List (List α×List α):=zsU kt.2 vt.2 (cs.length/(kt.2+vt.2)) cs
def zxp (t:Bool×Nat) (l:List Value):Value:=if t.1 then .agg l.toArray else l.headD .nilFunc
def mval (t:Bool×Nat) (ν:Nat→DV) (ρ:Nat→Loc) (l:List Lf):Value:=zxp t (l.map (Lf.conc ν ρ))
theorem zjp {α β:Type} (f:α→β) (kn vn:Nat):∀ (n:Nat) (cs:List α),zsU kn vn n (cs.map f)=(zsU kn vn n cs).map fun e=>(e.1.map f,e.2.map f)
 | 0,_=>rfl
 | n+1,cs=>by
  have:=zjp f kn vn n (cs.drop (kn+vn))
  simp only [zsU,List.map_cons,List.map_take,List.map_drop] at this ⊢
  rw [this]
theorem zcP {ν ν':Nat→DV} {ρ ρ':Nat→Loc} {kt vt:Bool×Nat} {cs cs':List Lf} (h:cs.map (Lf.conc ν ρ)=cs'.map (Lf.conc ν' ρ')) :
  ((mlist kt vt cs).map fun e=>(mval kt ν ρ e.1,mval vt ν ρ e.2))=(mlist kt vt cs').map fun e=>(mval kt ν' ρ' e.1,mval vt ν' ρ' e.2):=by
 have hl:cs.length=cs'.length:=by have:=congrArg List.length h;simpa using this
 have e1:=zjp (Lf.conc ν ρ) kt.2 vt.2 (cs.length/(kt.2+vt.2)) cs
 have e2:=zjp (Lf.conc ν' ρ') kt.2 vt.2 (cs.length/(kt.2+vt.2)) cs'
 rw [h,e2] at e1
 have e3:=congrArg (List.map fun e:List Value×List Value=>(zxp kt e.1,zxp vt e.2)) e1
 simp only [List.map_map] at e3
 unfold mlist
 rw [←hl]
 exact e3.symm
structure MRel (ν:Nat→DV) (ρ:Nat→Loc) (w:World) (r:Loc) (kt vt:Bool×Nat) (cs:List Lf):Prop where
 nil:r.nil=false
 ents:∃ (es:Array MapEntry) (clock:Nat),w.heap[r.blk]? = some (.map es clock)∧(es.toList.map fun e=>(e.key,e.val)).Perm ((mlist kt vt cs).map fun e=>(mval kt ν ρ e.1,mval vt ν ρ e.2))
 good:∀ l∈cs,l.good ν
theorem MRel.lt {ν:Nat→DV} {ρ:Nat→Loc} {w:World} {r:Loc} {kt vt:Bool×Nat} {cs:List Lf} (h:MRel ν ρ w r kt vt cs):r.blk<w.heap.size:=by
 obtain ⟨es,clock,h1,_⟩:=h.ents
 rcases Nat.lt_or_ge r.blk w.heap.size with h2 | h2
 ·exact h2
 ·rw [Array.getElem?_eq_none h2] at h1;cases h1
theorem MRel.congr {ν:Nat→DV} {ρ:Nat→Loc} {w w':World} {r:Loc} {kt vt:Bool×Nat} {cs:List Lf} (h:MRel ν ρ w r kt vt cs) (hb:w'.heap[r.blk]? = w.heap[r.blk]?):MRel ν ρ w' r kt vt cs :=
 ⟨h.nil,by rw [hb];exact h.ents,h.good⟩
theorem CRel.flat {E E':Env} {t:LT} {d:DV} {v:Value} (ht:t.flat=true) (h:CRel E t d v):CRel E' t d v:=by
 cases h with
 | int k=>exact .int k d
 | bool=>exact .bool d
 | vec=>cases ht
theorem zjq {ts:List LT} (h:ts.all LT.flat=true) (i:Nat):(ts.getD i .bool).flat=true:=by
 rw [List.getD_eq_getElem?_getD]
 cases hi:ts[i]? with
 | none=>rfl
 | some t=>exact List.all_eq_true.1 h t (List.mem_of_getElem? hi)
section
variable (K:Nat→ObjK)
def footK (w:World) (r:Loc):Blk→Nat→Prop
 | .obj _ k _=>(K k).foot w r.blk r.off
 | .l _ _ _ _=>fun b=>b=r.blk∧r.len<r.cap
 | _=>fun b=>b=r.blk
def rfootK (w:World) (r:Loc):Blk→Nat→Prop
 | .obj _ k _=>(K k).rfoot w r.blk r.off
 | _=>fun b=>b=r.blk
def zyC (w:World):Env:=⟨fun _=>False,fun _=>False,w,0,fun _=>default⟩
def BlkRelK (ν:Nat→DV) (ρ:Nat→Loc) (w:World) (r:Loc):Blk→Prop
 | .c own cs=>CBlk ν ρ w r own cs
 | .v own ts a=>ts.all LT.flat=true∧VRel (zyC w) w r own ts (a.cells ν)∧(r.cap=0→r.nil=true)
 | .obj o k a=>r.nil=false∧(K k).rel o w r.blk r.off (a.cells ν)
 | .l o f ts a=>ts.all LT.flat=true∧LRel (zyC w) w r o f ts (a.cells ν)∧(r.cap=0→r.nil=true)
 | .m _ kt vt cs=>MRel ν ρ w r kt vt cs
structure HRelK (ν:Nat→DV) (ρ:Nat→Loc) (hp:List (Option Blk)) (w:World):Prop where
 blk:∀ j bk,nth hp j=some bk→BlkRelK K ν ρ w (ρ j) bk
 apart:∀ j j' bk bk',nth hp j=some bk→bk.own=true→nth hp j'=some bk'→j≠j'→(ρ j).nil=false→(ρ j').nil=false→∀ b,footK K w (ρ j) bk b→¬ rfootK K w (ρ j') bk' b
theorem BlkRelK.lt {ν:Nat→DV} {ρ:Nat→Loc} {w:World} {r:Loc} {bk:Blk} (h:BlkRelK K ν ρ w r bk) (hn:r.nil=false) {b:Nat} (hb:rfootK K w r bk b):b<w.heap.size:=by
 cases bk with
 | c o cs =>
  have hb:b=r.blk:=hb
  rw [hb];exact CBlk.lt h
 | v o ts a =>
  have hb:b=r.blk:=hb
  rw [hb];exact VRel.lt h.2.1 hn
 | obj o k a=>exact (K k).lt h.2 hb
 | l o f ts a =>
  have hb:b=r.blk:=hb
  rw [hb];exact h.2.1.row.lt hn
 | m o kt vt cs =>
  have hb:b=r.blk:=hb
  rw [hb];exact MRel.lt h
theorem BlkRelK.rd {ν:Nat→DV} {ρ:Nat→Loc} {w:World} {r:Loc} {bk:Blk} (h:BlkRelK K ν ρ w r bk) {b:Nat} (hb:footK K w r bk b):rfootK K w r bk b:=by
 cases bk with
 | c o cs=>exact hb
 | v o ts a=>exact hb
 | obj o k a=>exact (K k).sub h.2 hb
 | l o f ts a=>exact hb.1
 | m o kt vt cs=>exact hb
theorem BlkRelK.foot_eq {ν:Nat→DV} {ρ:Nat→Loc} {w w':World} {r:Loc} {bk:Blk} (h:BlkRelK K ν ρ w r bk) (hb:∀ b,rfootK K w r bk b→w'.heap[b]? = w.heap[b]?) (b:Nat):footK K w' r bk b↔footK K w r bk b:=by
 cases bk with
 | c o cs=>exact Iff.rfl
 | v o ts a=>exact Iff.rfl
 | obj o k a=>exact (K k).foot_congr h.2 hb b
 | l o f ts a=>exact Iff.rfl
 | m o kt vt cs=>exact Iff.rfl
theorem BlkRelK.rfoot_eq {ν:Nat→DV} {ρ:Nat→Loc} {w w':World} {r:Loc} {bk:Blk} (h:BlkRelK K ν ρ w r bk) (hb:∀ b,rfootK K w r bk b→w'.heap[b]? = w.heap[b]?) (b:Nat):rfootK K w' r bk b↔rfootK K w r bk b:=by
 cases bk with
 | c o cs=>exact Iff.rfl
 | v o ts a=>exact Iff.rfl
 | obj o k a=>exact (K k).rfoot_congr h.2 hb b
 | l o f ts a=>exact Iff.rfl
 | m o kt vt cs=>exact Iff.rfl
theorem zjr {w w':World} {b:Nat} (h:b<w.heap.size) (hb:w'.heap[b]? = w.heap[b]?):b<w'.heap.size:=by
 rw [Array.getElem?_eq_getElem h] at hb
 exact (Array.getElem?_eq_some_iff.1 hb).1
theorem VRel.congr {E E':Env} {w w':World} {r:Loc} {o:Bool} {ts:List LT} {xs:List DV} (hf:ts.all LT.flat=true) (h:VRel E w r o ts xs) (hb:r.nil=false→w'.heap[r.blk]? = w.heap[r.blk]?):VRel E' w' r o ts xs:=by
 cases hn:r.nil with
 | true =>
  have h0:=h.nil hn
  have hx:xs.length=0:=by rw [h.len,h0.1,Nat.zero_mul]
  exact ⟨h.nil,fun e=>absurd (hn.symm.trans e) (by decide),h.pos,h.len,h.cap,fun i hi=>by omega,fun _ e=>absurd (hn.symm.trans e) (by decide),fun _ e=>absurd (hn.symm.trans e) (by decide)⟩
 | false =>
  have hb:=hb hn
  have hc:∀ i,w'.cell? ⟨r.blk,i,none⟩=w.cell? ⟨r.blk,i,none⟩:=fun i=>World.cell?_of_block (w:=w) hb
  have hf':∀ i,w'.frozen? ⟨r.blk,i,none⟩=w.frozen? ⟨r.blk,i,none⟩:=fun i=>World.frozen?_of_block (w:=w) hb
  exact ⟨h.nil,fun e=>zjr (h.lt e) hb,h.pos,h.len,h.cap,fun i hi=>by
   rw [hc]
   obtain ⟨v,h1,h2⟩:=h.cell i hi
   exact ⟨v,h1,h2.flat (zjq hf _)⟩,fun ho e i hi=>by rw [hc,hf'];exact h.own ho e i hi,fun ho e=>⟨(h.fz ho e).1,fun o=>by rw [hf'];exact (h.fz ho e).2 o⟩⟩
theorem CBlk.congr {ν:Nat→DV} {ρ:Nat→Loc} {w w':World} {r:Loc} {o:Bool} {cs:List (Option Lf)} (h:CBlk ν ρ w r o cs) (hb:w'.heap[r.blk]? = w.heap[r.blk]?):CBlk ν ρ w' r o cs:=by
 have hc:∀ i,w'.cell? ⟨r.blk,i,none⟩=w.cell? ⟨r.blk,i,none⟩:=fun i=>World.cell?_of_block (w:=w) hb
 have hf:∀ i,w'.frozen? ⟨r.blk,i,none⟩=w.frozen? ⟨r.blk,i,none⟩:=fun i=>World.frozen?_of_block (w:=w) hb
 exact ⟨h.nil,zjr h.lt hb,fun i l hl=>by rw [hc];exact h.cell i l hl,fun ho i hi=>by rw [hc,hf];exact h.own ho i hi,fun ho o=>by rw [hf];exact h.fz ho o⟩
theorem LRel.congr {E E':Env} {w w':World} {r:Loc} {o f:Bool} {ts:List LT} {xs:List DV} (hf:ts.all LT.flat=true) (h:LRel E w r o f ts xs) (hb:r.nil=false→w'.heap[r.blk]? = w.heap[r.blk]?):LRel E' w' r o f ts xs :=
 ⟨h.row.congr hf hb,fun ho hc=>(h.spare ho hc).congr hf hb,h.full⟩
theorem BlkRelK.congr {ν:Nat→DV} {ρ:Nat→Loc} {w w':World} {r:Loc} {bk:Blk} (h:BlkRelK K ν ρ w r bk) (hb:r.nil=false→∀ b,rfootK K w r bk b→w'.heap[b]? = w.heap[b]?):BlkRelK K ν ρ w' r bk:=by
 cases bk with
 | obj o k a=>exact ⟨h.1,(K k).rel_congr h.2 (hb h.1)⟩
 | c o cs =>
  have h:CBlk ν ρ w r o cs:=h
  exact h.congr (hb h.nil r.blk rfl)
 | v o ts a=>exact ⟨h.1,h.2.1.congr h.1 (fun hn=>hb hn r.blk rfl),h.2.2⟩
 | l o f ts a=>exact ⟨h.1,LRel.congr h.1 h.2.1 (fun hn=>hb hn r.blk rfl),h.2.2⟩
 | m o kt vt cs =>
  have h:MRel ν ρ w r kt vt cs:=h
  exact h.congr (hb h.nil r.blk rfl)
structure Dec (p:PatD) (w:World) (b o:Nat) (d:List DV) (ρ:Nat→Loc):Prop where
 len:d.length=p.tys.length
 blk:(ρ 0).blk=b
 off:(ρ 0).off=o
 h:HRelK K (fun i=>d.getD i default) ρ p.hp w
def zo3:Blk→Loc→Loc→Prop
 | .v _ _ _,r,r'=>r.nil=r'.nil∧(r.nil=false→r.blk=r'.blk)
 | .l _ _ _ _,r,r'=>r.nil=r'.nil∧(r.nil=false→r.blk=r'.blk)∧r.len=r'.len∧r.cap=r'.cap
 | _,r,r'=>r.blk=r'.blk∧r.off=r'.off
theorem zlq {hp:List (Option Blk)} : ∀ {l:List (Option Blk)} {r:List (Nat×Nat)} {j i:Nat} {bk:Blk},zk5 hp j l r=true→nth l i=some bk→∃ q,parB hp (j+i) bk q=true
 | [],_,j,i,bk,_,h=>by cases i<;>cases h
 | none::l,r,j,i,bk,h,_=>by cases r<;>simp [zk5] at h
 | some b::l,[],j,i,bk,h,_=>by simp [zk5] at h
 | some b::l,q::r,j,0,bk,h,hn=>by
  cases hn
  simp only [zk5,Bool.and_eq_true] at h
  exact ⟨q,h.1⟩
 | some b::l,q::r,j,i+1,bk,h,hn=>by
  simp only [zk5,Bool.and_eq_true] at h
  obtain ⟨q',hq⟩:=zlq (i:=i) h.2 hn
  exact ⟨q',by rwa [show j+1+i=j+(i+1) from by omega] at hq⟩
theorem PatD.par_spec {p:PatD} (hok:p.ok=true) {j:Nat} {bk:Blk} (hj:nth p.hp j=some bk) (h0:j≠0):∃ q,parB p.hp j bk q=true:=by
 simp only [PatD.ok,Bool.and_eq_true] at hok
 have hok:=hok.1
 cases j with
 | zero=>exact absurd rfl h0
 | succ j =>
  obtain ⟨q,hq⟩:=zlq (i:=j) (bk:=bk) hok.2 (by
   cases hp:p.hp with
   | nil=>rw [hp] at hj;cases hj
   | cons x l=>rw [hp] at hj;exact hj)
  exact ⟨q,by rwa [show 1+j=j+1 from by omega] at hq⟩
theorem Dec.uniq {p:PatD} (hok:p.ok=true) {w:World} {b o:Nat} {d d':List DV} {ρ ρ':Nat→Loc} (h:Dec K p w b o d ρ) (h':Dec K p w b o d' ρ'):∀ (n j:Nat) (bk:Blk),j<n→nth p.hp j=some bk→zo3 bk (ρ j) (ρ' j)
 | 0,j,bk,hj,_=>by omega
 | n+1,j,bk,hjn,hj=>by
  by_cases h0:j=0
  ·subst h0
   have hr:zyn (nth p.hp 0)=true:=by
    simp only [PatD.ok,Bool.and_eq_true] at hok
    exact hok.1.1
   rw [hj] at hr
   cases bk with
   | c _ _=>exact ⟨h.blk.trans h'.blk.symm,h.off.trans h'.off.symm⟩
   | v _ _ _=>cases hr
   | obj _ _ _=>cases hr
   | l _ _ _ _=>cases hr
   | m _ _ _ _=>cases hr
  ·obtain ⟨q,hq⟩:=PatD.par_spec hok hj h0
   simp only [parB,Bool.and_eq_true,Nat.blt_eq] at hq
   obtain ⟨hlt,hq⟩:=hq
   cases hp:nth p.hp q.1 with
   | none=>rw [hp] at hq;cases hq
   | some pb =>
    rw [hp] at hq
    cases pb with
    | v _ _ _=>cases hq
    | obj _ _ _=>cases hq
    | l _ _ _ _=>cases hq
    | m _ _ _ _=>cases hq
    | c po cs =>
     have ih:=Dec.uniq hok h h' n q.1 _ (by omega) hp
     have ih:(ρ q.1).blk=(ρ' q.1).blk∧(ρ q.1).off=(ρ' q.1).off:=ih
     have h1:CBlk _ ρ w (ρ q.1) po cs:=h.h.blk q.1 _ hp
     have h2:CBlk _ ρ' w (ρ' q.1) po cs:=h'.h.blk q.1 _ hp
     have key:∀ l,nth cs q.2=some l→l.conc (fun i=>d.getD i default) ρ=l.conc (fun i=>d'.getD i default) ρ':=fun l hl=>by
      have e1:=(h1.cell q.2 l hl).2
      have e2:=(h2.cell q.2 l hl).2
      rw [ih.1,ih.2,e2] at e1
      exact (Option.some.inj e1).symm
     simp only at hq
     cases hc:nth cs q.2 with
     | none=>cases bk<;>(simp only [hc] at hq;cases hq)
     | some l =>
      have hk:=key l hc
      have ptr:∀ i n,l = .p i (.c n)→i=j→(ρ j).blk=(ρ' j).blk∧(ρ j).off=(ρ' j).off:=fun i n hl hi=>by
       subst hl hi
       simp only [Lf.conc,Off.val,Value.pointer.injEq,Option.some.injEq,Addr.mk.injEq,and_true] at hk
       exact ⟨hk.1,by omega⟩
      cases bk with
      | c _ _ =>
       have hq:zvI j (nth cs q.2)=true:=hq
       rw [hc] at hq
       cases l<;>first | (cases hq;done) | skip
       rename_i i off
       cases off<;>first | (cases hq;done) | skip
       rename_i n
       have hq:(Nat.beq i j&&Nat.beq n 0)=true:=hq
       simp only [Bool.and_eq_true] at hq
       exact ptr _ _ rfl (Nat.eq_of_beq_eq_true hq.1)
      | obj _ _ _ =>
       have hq:zvI j (nth cs q.2)=true:=hq
       rw [hc] at hq
       cases l<;>first | (cases hq;done) | skip
       rename_i i off
       cases off<;>first | (cases hq;done) | skip
       rename_i n
       have hq:(Nat.beq i j&&Nat.beq n 0)=true:=hq
       simp only [Bool.and_eq_true] at hq
       exact ptr _ _ rfl (Nat.eq_of_beq_eq_true hq.1)
      | v vo ts a =>
       have hq:zvH j (nth cs q.2)=true:=hq
       rw [hc] at hq
       cases l<;>first | (cases hq;done) | skip
       have hij:=Nat.eq_of_beq_eq_true hq
       rw [hij] at hk
       have g1:=h.h.blk j _ hj
       have g2:=h'.h.blk j _ hj
       have n1:(ρ j).cap=0→(ρ j).nil=true:=g1.2.2
       have n2:(ρ' j).cap=0→(ρ' j).nil=true:=g2.2.2
       have m1:(ρ j).nil=true→(ρ j).len=0∧(ρ j).cap=0:=g1.2.1.nil
       have m2:(ρ' j).nil=true→(ρ' j).len=0∧(ρ' j).cap=0:=g2.2.1.nil
       simp only [Lf.conc,Loc.slice,Value.slice.injEq] at hk
       have hnil:(ρ j).nil=(ρ' j).nil:=by
        cases e1:(ρ j).nil with
        | true=>exact (n2 (by rw [←hk.2.2];exact (m1 e1).2)).symm
        | false =>
         cases e2:(ρ' j).nil with
         | false=>rfl
         | true=>rw [n1 (by rw [hk.2.2];exact (m2 e2).2)] at e1;cases e1
       refine ⟨hnil,fun e=>?_⟩
       rw [←hnil,e] at hk
       simp only [cond_false,Option.some.injEq,Addr.mk.injEq] at hk
       exact hk.1.1
      | m mo kt vt mcs=>cases hq
      | l vo vf ts a =>
       have hq:zvH j (nth cs q.2)=true:=hq
       rw [hc] at hq
       cases l<;>first | (cases hq;done) | skip
       have hij:=Nat.eq_of_beq_eq_true hq
       rw [hij] at hk
       have g1:=h.h.blk j _ hj
       have g2:=h'.h.blk j _ hj
       have n1:(ρ j).cap=0→(ρ j).nil=true:=g1.2.2
       have n2:(ρ' j).cap=0→(ρ' j).nil=true:=g2.2.2
       have m1:(ρ j).nil=true→(ρ j).len=0∧(ρ j).cap=0:=g1.2.1.row.nil
       have m2:(ρ' j).nil=true→(ρ' j).len=0∧(ρ' j).cap=0:=g2.2.1.row.nil
       simp only [Lf.conc,Loc.slice,Value.slice.injEq] at hk
       have hnil:(ρ j).nil=(ρ' j).nil:=by
        cases e1:(ρ j).nil with
        | true=>exact (n2 (by rw [←hk.2.2];exact (m1 e1).2)).symm
        | false =>
         cases e2:(ρ' j).nil with
         | false=>rfl
         | true=>rw [n1 (by rw [hk.2.2];exact (m2 e2).2)] at e1;cases e1
       refine ⟨hnil,fun e=>?_,hk.2.1,hk.2.2⟩
       rw [←hnil,e] at hk
       simp only [cond_false,Option.some.injEq,Addr.mk.injEq] at hk
       exact hk.1.1
theorem zo3.foot {bk:Blk} {w:World} {r r':Loc} (h:zo3 bk r r') (hn:r.nil=false):footK K w r bk=footK K w r' bk:=by
 cases bk with
 | c _ _=>funext x;simp only [footK];rw [h.1]
 | v _ _ _=>funext x;simp only [footK];rw [h.2 hn]
 | obj _ _ _=>simp only [footK];rw [h.1,h.2]
 | l _ _ _ _=>funext x;simp only [footK];rw [h.2.1 hn,h.2.2.1,h.2.2.2]
 | m _ _ _ _=>funext x;simp only [footK];rw [h.1]
theorem zo3.rfoot {bk:Blk} {w:World} {r r':Loc} (h:zo3 bk r r') (hn:r.nil=false):rfootK K w r bk=rfootK K w r' bk:=by
 cases bk with
 | c _ _=>funext x;simp only [rfootK];rw [h.1]
 | v _ _ _=>funext x;simp only [rfootK];rw [h.2 hn]
 | obj _ _ _=>simp only [rfootK];rw [h.1,h.2]
 | l _ _ _ _=>funext x;simp only [rfootK];rw [h.2.1 hn]
 | m _ _ _ _=>funext x;simp only [rfootK];rw [h.1]
theorem zo3.nil {bk:Blk} {ν ν':Nat→DV} {ρ ρ':Nat→Loc} {w w':World} {r r':Loc} (h:zo3 bk r r') (h1:BlkRelK K ν ρ w r bk) (h2:BlkRelK K ν' ρ' w' r' bk):r.nil=r'.nil:=by
 cases bk with
 | c _ _=>rw [CBlk.nil h1,CBlk.nil h2]
 | v _ _ _=>exact h.1
 | obj _ _ _=>rw [h1.1,h2.1]
 | l _ _ _ _=>exact h.1
 | m _ _ _ _=>rw [MRel.nil h1,MRel.nil h2]
theorem Dec.congr {p:PatD} {w w':World} {b o:Nat} {d:List DV} {ρ:Nat→Loc} (h:Dec K p w b o d ρ)
  (hb:∀ j bk,nth p.hp j=some bk→(ρ j).nil=false→∀ x,rfootK K w (ρ j) bk x→w'.heap[x]? = w.heap[x]?):Dec K p w' b o d ρ :=
 ⟨h.len,h.blk,h.off,fun j bk hj=>(h.h.blk j bk hj).congr K (hb j bk hj),fun j j' bk bk' hj ho hj' hne hn hn' x h1 h2 =>
  h.h.apart j j' bk bk' hj ho hj' hne hn hn' x (((h.h.blk j bk hj).foot_eq K (hb j bk hj hn) x).1 h1) (((h.h.blk j' bk' hj').rfoot_eq K (hb j' bk' hj' hn') x).1 h2)⟩
theorem Blk.froze_own' (b:Blk):b.froze.own=false:=by cases b<;>rfl
theorem zbp (w:World) (r:Loc) (b:Blk):rfootK K w r b.froze=rfootK K w r b:=by cases b<;>rfl
theorem BlkRelK.froze {ν:Nat→DV} {ρ:Nat→Loc} {w:World} {r:Loc} {bk:Blk} (h:BlkRelK K ν ρ w r bk):BlkRelK K ν ρ w r bk.froze:=by
 cases bk with
 | c o cs =>
  have h:CBlk ν ρ w r o cs:=h
  exact (⟨h.nil,h.lt,h.cell,fun e=>(by cases e),fun e=>by cases e⟩:CBlk ν ρ w r false cs)
 | v o ts a =>
  have h2:=h.2.1
  exact ⟨h.1,⟨h2.nil,h2.lt,h2.pos,h2.len,h2.cap,h2.cell,fun e=>(by cases e),fun e=>by cases e⟩,h.2.2⟩
 | obj o k a=>exact ⟨h.1,(K k).wk h.2⟩
 | l o f ts a=>exact ⟨h.1,⟨h.2.1.row,fun e=>(by cases e),h.2.1.full⟩,h.2.2⟩
 | m o kt vt cs=>exact h
theorem nth_map' {α β:Type} (f:α→β):∀ (l:List (Option α)) (j:Nat),nth (l.map (Option.map f)) j=(nth l j).map f
 | [],j=>by cases j<;>rfl
 | x::l,0=>by simp [nth]
 | x::l,j+1=>by simp only [List.map_cons,nth];exact nth_map' f l j
theorem PatD.rd_at {p:PatD} {o:Bool} {j:Nat} {bk:Blk} (h:nth p.hp j=some bk):nth (p.rd o).hp j=some (if o then bk else bk.froze):=by
 cases o with
 | true=>exact h
 | false=>simp only [PatD.rd,Bool.false_eq_true,if_false];rw [nth_map',h];rfl
theorem PatD.rd_of {p:PatD} {o:Bool} {j:Nat} {bk:Blk} (h:nth (p.rd o).hp j=some bk):∃ b,nth p.hp j=some b∧bk=if o then b else b.froze:=by
 cases o with
 | true=>exact ⟨bk,h,rfl⟩
 | false =>
  simp only [PatD.rd,Bool.false_eq_true,if_false] at h
  rw [nth_map'] at h
  obtain ⟨b,hb,e⟩:=Option.map_eq_some_iff.1 h
  exact ⟨b,hb,by simp [e]⟩
theorem zru (hp:List (Option Blk)) (j:Nat) (bk:Blk) (q:Nat×Nat):parB (hp.map (Option.map Blk.froze)) j bk.froze q=parB hp j bk q:=by
 unfold parB
 rw [nth_map']
 cases nth hp q.1 with
 | none=>rfl
 | some b=>cases b<;>cases bk<;>rfl
theorem zjs (hp:List (Option Blk)):∀ (l:List (Option Blk)) (j:Nat) (r:List (Nat×Nat)),zk5 (hp.map (Option.map Blk.froze)) j (l.map (Option.map Blk.froze)) r=zk5 hp j l r
 | [],_,_=>rfl
 | none::l,j,r=>by cases r<;>rfl
 | some b::l,j,[]=>rfl
 | some b::l,j,q::r=>by
  simp only [List.map_cons,Option.map_some,zk5,zru,zjs hp l (j+1) r]
theorem PatD.rd_ok {p:PatD} (h:p.ok=true) (o:Bool):(p.rd o).ok=true:=by
 cases o with
 | true=>exact h
 | false =>
  simp only [PatD.ok,Bool.and_eq_true] at h
  simp only [PatD.ok,PatD.rd,Bool.false_eq_true,if_false,Bool.and_eq_true]
  refine ⟨⟨?_,?_⟩,?_⟩
  ·rw [nth_map']
   have:=h.1.1
   cases hx:nth p.hp 0 with
   | none=>rw [hx] at this;cases this
   | some b=>rw [hx] at this;cases b<;>first | (exact rfl) | (cases this;done)
  ·rw [←List.map_drop,zjs];exact h.1.2
  ·rw [List.all_map,←h.2]
   congr 1
   funext x
   cases x with
   | none=>rfl
   | some b=>cases b<;>rfl
theorem Dec.rdF {p:PatD} {o1:Bool} {w:World} {b o:Nat} {d:List DV} {ρ:Nat→Loc} (h:Dec K (p.rd o1) w b o d ρ):Dec K (p.rd false) w b o d ρ:=by
 refine ⟨?_,h.blk,h.off,fun j bk hj=>?_,fun j j' bk bk' hj ho=>?_⟩
 ·have:=h.len
  cases o1<;>exact this
 ·obtain ⟨x,hx,e⟩:=PatD.rd_of hj
  simp only [Bool.false_eq_true,if_false] at e
  rw [e]
  have:=(h.h.blk j _ (PatD.rd_at (o:=o1) hx))
  cases o1 with
  | true=>exact BlkRelK.froze K this
  | false=>exact this
 ·obtain ⟨x,hx,e⟩:=PatD.rd_of hj
  simp only [Bool.false_eq_true,if_false] at e
  rw [e,Blk.froze_own'] at ho
  cases ho
theorem Dec.move {p:PatD} (hok:p.ok=true) {o1:Bool} {wa wb:World} {b o:Nat} {d d1:List DV} {ρ ρ1:Nat→Loc} (h1:Dec K (p.rd o1) wa b o d1 ρ1) (h:Dec K (p.rd false) wa b o d ρ)
  (hb:∀ j bk,nth (p.rd false).hp j=some bk→(ρ j).nil=false→∀ x,rfootK K wa (ρ j) bk x→wb.heap[x]? = wa.heap[x]?) :
  Dec K (p.rd o1) wb b o d1 ρ1∧∀ j bk,nth (p.rd o1).hp j=some bk→(ρ1 j).nil=false→∀ x,(footK K wb (ρ1 j) bk x↔footK K wa (ρ1 j) bk x)∧(rfootK K wb (ρ1 j) bk x↔rfootK K wa (ρ1 j) bk x):=by
 have hF:=h1.rdF K
 have hb1:∀ j bk,nth (p.rd o1).hp j=some bk→(ρ1 j).nil=false→∀ x,rfootK K wa (ρ1 j) bk x→wb.heap[x]? = wa.heap[x]?:=fun j bk hj hn x hx=>by
  obtain ⟨y,hy,e⟩:=PatD.rd_of hj
  have hyF:=PatD.rd_at (o:=false) hy
  have hu:=hF.uniq K (PatD.rd_ok hok false) h (j+1) j _ (by omega) hyF
  have hn2:=(hu.nil K (hF.h.blk j _ hyF) (h.h.blk j _ hyF)).symm.trans hn
  refine hb j _ hyF hn2 x ?_
  rw [←hu.rfoot K hn]
  simp only [Bool.false_eq_true,if_false]
  rw [zbp]
  cases o1 with
  | true=>simp only [if_true] at e;rw [←e];exact hx
  | false=>simp only [Bool.false_eq_true,if_false] at e;rw [e,zbp] at hx;exact hx
 exact ⟨h1.congr K hb1,fun j bk hj hn x=>⟨(h1.h.blk j bk hj).foot_eq K (hb1 j bk hj hn) x,(h1.h.blk j bk hj).rfoot_eq K (hb1 j bk hj hn) x⟩⟩
def zsV (p:PatD) (hok:p.ok=true):ObjK where
 rel own w b o d:=∃ ρ,Dec K (p.rd own) w b o d ρ
 foot w b o x:=∃ d ρ,Dec K (p.rd true) w b o d ρ∧∃ j bk,nth (p.rd true).hp j=some bk∧bk.own=true∧(ρ j).nil=false∧footK K w (ρ j) bk x
 rfoot w b o x:=∃ d ρ,Dec K (p.rd false) w b o d ρ∧∃ j bk,nth (p.rd false).hp j=some bk∧(ρ j).nil=false∧rfootK K w (ρ j) bk x
 weak:=fun ⟨ρ,h⟩=>⟨ρ,h.rdF K⟩
 lt:=fun _ ⟨d,ρ,h,j,bk,hj,hn,hx⟩=>(h.h.blk j bk hj).lt K hn hx
 sub:=fun _ ⟨d,ρ,h,j,bk,hj,_,hn,hx⟩=>⟨d,ρ,h.rdF K,j,bk.froze,PatD.rd_at (o:=false) hj,hn,by rw [zbp];exact (h.h.blk j bk hj).rd K hx⟩
 foot_congr:=fun ⟨ρ,h⟩ hb x=>by
  have hF:=h.rdF K
  have hb':∀ j bk,nth (p.rd false).hp j=some bk→(ρ j).nil=false→∀ x,rfootK K _ (ρ j) bk x→_:=fun j bk hj hn x hx=>hb x ⟨_,ρ,hF,j,bk,hj,hn,hx⟩
  have hF2:=hF.congr K hb'
  constructor
  ·rintro ⟨d1,ρ1,h1,j,bk,hj,ho,hn,hx⟩
   obtain ⟨m1,m2⟩:=h1.move K hok hF2 (fun j bk hj hn x hx=>(hb' j bk hj hn x (((hF.h.blk j bk hj).rfoot_eq K (hb' j bk hj hn) x).1 hx)).symm)
   exact ⟨d1,ρ1,m1,j,bk,hj,ho,hn,(m2 j bk hj hn x).1.2 hx⟩
  ·rintro ⟨d1,ρ1,h1,j,bk,hj,ho,hn,hx⟩
   obtain ⟨m1,m2⟩:=h1.move K hok hF hb'
   exact ⟨d1,ρ1,m1,j,bk,hj,ho,hn,(m2 j bk hj hn x).1.2 hx⟩
 rfoot_congr:=fun ⟨ρ,h⟩ hb x=>by
  have hF:=h.rdF K
  have hb':∀ j bk,nth (p.rd false).hp j=some bk→(ρ j).nil=false→∀ x,rfootK K _ (ρ j) bk x→_:=fun j bk hj hn x hx=>hb x ⟨_,ρ,hF,j,bk,hj,hn,hx⟩
  have hF2:=hF.congr K hb'
  constructor
  ·rintro ⟨d1,ρ1,h1,j,bk,hj,hn,hx⟩
   obtain ⟨m1,m2⟩:=h1.move K hok hF2 (fun j bk hj hn x hx=>(hb' j bk hj hn x (((hF.h.blk j bk hj).rfoot_eq K (hb' j bk hj hn) x).1 hx)).symm)
   exact ⟨d1,ρ1,m1,j,bk,hj,hn,(m2 j bk hj hn x).2.2 hx⟩
  ·rintro ⟨d1,ρ1,h1,j,bk,hj,hn,hx⟩
   obtain ⟨m1,m2⟩:=h1.move K hok hF hb'
   exact ⟨d1,ρ1,m1,j,bk,hj,hn,(m2 j bk hj hn x).2.2 hx⟩
 rel_congr:=fun ⟨ρ,h⟩ hb=>by
  have hF:=h.rdF K
  exact ⟨ρ,(h.move K hok hF (fun j bk hj hn x hx=>hb x ⟨_,ρ,hF,j,bk,hj,hn,hx⟩)).1⟩
end
def objK:Nat→ObjK
 | 0=>zo2
 | 1=>zsT
 | k+2 =>
  match pats[k]? with
  | some p=>if h:zfD (k+2) p.ids=true then zsV (fun j=>if _:j<k+2 then objK j else zjm) p.ids (by simp only [zfD,Bool.and_eq_true] at h;exact h.1.1) else zjm
  | none=>zjm
def zc8 (k j:Nat):ObjK:=if j<k then objK j else zjm
theorem zcJ {k:Nat} {p:PatD} (hp:pats[k]? = some p) (h:zfD (k+2) p.ids=true):objK (k+2)=zsV (zc8 (k+2)) p.ids (by simp only [zfD,Bool.and_eq_true] at h;exact h.1.1):=by
 rw [objK]
 split
 ·rename_i p' hp'
  rw [hp] at hp';cases hp'
  rw [dif_pos h]
  rfl
 ·rename_i hp'
  rw [hp] at hp';cases hp'
theorem zsW {k:Nat} (h:∀ p,pats[k]? = some p→zfD (k+2) p.ids=false):objK (k+2)=zjm:=by
 rw [objK]
 split
 ·rename_i p' hp'
  rw [dif_neg (by rw [h p' hp'];decide)]
 ·rfl
theorem zo4 {α:Type} {f:α→Bool} : ∀ {l:List (Option α)} {j:Nat} {x:α},l.all (zao f)=true→nth l j=some x→f x=true
 | [],j,x,_,h=>by cases j<;>cases h
 | a::l,0,x,h,hx=>by
  cases hx
  simp only [List.all_cons,Bool.and_eq_true] at h
  exact h.1
 | a::l,j+1,x,h,hx=>by
  simp only [List.all_cons,Bool.and_eq_true] at h
  exact zo4 (l:=l) h.2 hx
theorem zey {k:Nat} (h:zdD k=false):kb k=k:=by unfold kb;rw [h];rfl
theorem zwN {k:Nat} (h:zdD k=true):kb k=k-1000:=by unfold kb;rw [h];rfl
theorem znx {k:Nat} (hx:zvL k=true) {w:World} {p o:Nat} {d:List DV} (h:(objK k).rel true w p o d) {b:Nat} (hb:(objK k).rfoot w p o b):(objK k).foot w p o b:=by
 match k with
 | 0=>rw [objK] at h hb ⊢;exact zrs h hb
 | 1=>rw [objK] at h hb ⊢;exact zrt h hb
 | k+2 =>
  simp only [zvL] at hx
  split at hx
  ·rename_i q hq
   cases hok:zfD (k+2) q.ids with
   | false =>
    rw [zsW (fun q' hq'=>by rw [hq] at hq';cases hq';exact hok)] at h
    exact h.elim
   | true =>
    rw [zcJ hq hok] at hb ⊢
    rw [zcJ hq hok] at h
    obtain ⟨ρ,hd⟩:=h
    obtain ⟨d1,ρ1,hd1,j,bk',hj',hn1,hf⟩:=hb
    obtain ⟨bk,hj,e⟩:=PatD.rd_of hj'
    simp only [Bool.false_eq_true,if_false] at e
    have hokF:=PatD.rd_ok (show q.ids.ok=true by simp only [zfD,Bool.and_eq_true] at hok;exact hok.1.1) false
    have hjF:=PatD.rd_at (o:=false) hj
    have hu:=hd1.uniq _ hokF (hd.rdF _) (j+1) j _ (by omega) hjF
    have hn:=(hu.nil _ (hd1.h.blk j _ hjF) ((hd.rdF _).h.blk j _ hjF)).symm.trans hn1
    rw [e] at hf
    simp only [Bool.false_eq_true,if_false] at hu
    rw [hu.rfoot _ hn1,zbp] at hf
    have hok2:=hok
    simp only [zfD,Bool.and_eq_true,show q.ids.ex=true from hx,Bool.not_true,Bool.false_or] at hok2
    have he:=zo4 hok2.2 hj
    have hk:=zo4 hok2.1.2 hj
    refine ⟨_,ρ,hd,j,bk,hj,?_,hn,?_⟩
    ·cases bk with
     | c=>exact he
     | v=>exact he
     | m=>exact he
     | l=>cases he
     | obj o k' a=>simp only [Blk.exB,Bool.and_eq_true] at he;exact he.1
    ·cases bk with
     | c=>exact hf
     | v=>exact hf
     | m=>exact hf
     | l=>cases he
     | obj o k' a =>
      simp only [Blk.exB,Bool.and_eq_true] at he
      simp only [Blk.kindLt,Bool.and_eq_true,Nat.blt_eq,Bool.not_eq_true'] at hk
      obtain ⟨hk,hko⟩:=hk
      rw [zey hko] at he
      simp only [footK,rfootK,zc8,if_pos hk] at hf ⊢
      have hr:(zc8 (k+2) k').rel o w (ρ j).blk (ρ j).off _:=(hd.h.blk j _ hj).2
      rw [he.1] at hr
      rw [zc8,if_pos hk] at hr
      exact znx he.2 hr hf
  ·cases hx
termination_by k
decreasing_by exact hk
def zbn (o:Bool) (k:Nat) (w:World) (r:Loc) (d:List DV):Prop :=
 (zdD k=false→r.nil=false∧(objK (kb k)).rel o w r.blk r.off d) ∧
 (zdD k=true→(d.getD 0 default).toB = !r.nil∧(r.nil=false→(objK (kb k)).rel o w r.blk r.off (d.getD 1 default).toL))
theorem zbn.rel {o:Bool} {k:Nat} {w:World} {r:Loc} {d:List DV} (h:zbn o k w r d) (hn:r.nil=false):∃ d',(objK (kb k)).rel o w r.blk r.off d':=by
 cases hk:zdD k with
 | false=>exact ⟨_,(h.1 hk).2⟩
 | true=>exact ⟨_,(h.2 hk).2 hn⟩
theorem zbn.map {o o':Bool} {k:Nat} {w w':World} {r:Loc} {d:List DV} (h:zbn o k w r d) (hm:r.nil=false→∀ d',(objK (kb k)).rel o w r.blk r.off d'→(objK (kb k)).rel o' w' r.blk r.off d'):zbn o' k w' r d :=
 ⟨fun hk=>⟨(h.1 hk).1,hm (h.1 hk).1 _ (h.1 hk).2⟩,fun hk=>⟨(h.2 hk).1,fun hn=>hm hn _ ((h.2 hk).2 hn)⟩⟩
theorem zbn.plain {o:Bool} {k:Nat} {w:World} {r:Loc} {d:List DV} (hk:zdD k=false):zbn o k w r d↔(r.nil=false∧(objK k).rel o w r.blk r.off d):=by
 unfold zbn
 rw [zey hk]
 exact ⟨fun h=>h.1 hk,fun h=>⟨fun _=>h,fun h'=>by rw [hk] at h';cases h'⟩⟩
def Blk.foot (w:World) (r:Loc):Blk→Nat→Prop
 | .obj _ k _=>(objK (kb k)).foot w r.blk r.off
 | .l _ _ _ _=>fun b=>b=r.blk∧r.len<r.cap
 | _=>fun b=>b=r.blk
def Blk.rfoot (w:World) (r:Loc):Blk→Nat→Prop
 | .obj _ k _=>(objK (kb k)).rfoot w r.blk r.off
 | _=>fun b=>b=r.blk
end Go.Sx
