/- An evaluator that turns the model's code of a function into a list of plain definitions (one node a value), with joins where ways meet: definitions alone. -/
import Derived.WalkKit
import Derived.ChangeKeysEq
import Derived.Laws.IdiomCopy
import Derived.MapKept
namespace Go.Sx
inductive A where
 | r (id:Nat)
 | z (n:Int)
 | t (b:Bool)
 /-- a hole of a pattern -/
 | h (j:Nat)
 deriving Inhabited
inductive DV where
 | i (n:Int)
 | b (x:Bool)
 | l (xs:List DV)
 deriving Inhabited
abbrev DV.toI:DV→Int
 | .i n=>n
 | .b _=>0
 | .l _=>0
abbrev DV.toB:DV→Bool
 | .b x=>x
 | .i _=>false
 | .l _=>false
abbrev DV.toL:DV→List DV
 | .l x=>x
 | .i _=>[]
 | .b _=>[]
inductive Ty where
 | i
 | b
 | l
 deriving Inhabited
def nrm:Ty→DV→DV
 | .i,d=>.i d.toI
 | .b,d=>.b d.toB
 | .l,d=>.l d.toL
def nrmZ:List Ty→List DV→List DV
 | t::ts,d::ds=>nrm t d::nrmZ ts ds
 | _,_=>[]
def Ty.beq:Ty→Ty→Bool
 | .i,.i | .b,.b | .l,.l=>true
 | _,_=>false
def Ty.eqAt:Ty→DV→DV→Prop
 | .i,d,e=>d.toI=e.toI
 | .b,d,e=>d.toB=e.toB
 | .l,d,e=>d.toL=e.toL
abbrev A.den (ν:Nat→DV):A→DV
 | .r id=>ν id
 | .z n=>.i n
 | .t b=>.b b
 | .h _=>.i 0
abbrev A.int (ν:Nat→DV) (a:A):Int:=(a.den ν).toI
abbrev A.bool (ν:Nat→DV) (a:A):Bool:=(a.den ν).toB
abbrev A.cells (ν:Nat→DV) (a:A):List DV:=(a.den ν).toL
def A.beq:A→A→Bool
 | .r a,.r b=>Nat.beq a b
 | .z a,.z b=>decide (a=b)
 | .t a,.t b=>a==b
 | .h a,.h b=>Nat.beq a b
 | _,_=>false
def kEq:IntKind→IntKind→Bool
 | .i8,.i8 | .i16,.i16 | .i32,.i32 | .i64,.i64 | .u8,.u8 | .u16,.u16 | .u32,.u32 | .u64,.u64=>true
 | _,_=>false
inductive Node where
 | add (k:IntKind) (a b:A)
 | sub (k:IntKind) (a b:A)
 | mul (k:IntKind) (a b:A)
 | land (k:IntKind) (a b:A)
 | lor (k:IntKind) (a b:A)
 | lxor (k:IntKind) (a b:A)
 | landNot (k:IntKind) (a b:A)
 | quo (k:IntKind) (a b:A)
 | rem (k:IntKind) (a b:A)
 | shl (k:IntKind) (a b:A)
 | shr (k:IntKind) (a b:A)
 | eql (a b:A)
 | neq (a b:A)
 | lss (a b:A)
 | leq (a b:A)
 | gtr (a b:A)
 | geq (a b:A)
 | beq (a b:A)
 | bne (a b:A)
 | not (a:A)
 | and (a b:A)
 | or (a b:A)
 | itei (c a b:A)
 | iteb (c a b:A)
 | conv (k:IntKind) (a:A)
 | seli (l:List A) (ix:A)
 | selb (l:List A) (ix:A)
 | call (f:Nat) (args:List A) (j:Nat)
 /-- rows: these cells; how many elements of sz cells; a cell of an element; with a cell of an element anew; one behind the other; the first n elements; without them; n times the same cells; by a bool -/
 | lmk (ts:List Ty) (l:List A)
 | llen (sz:Nat) (a:A)
 | lgeti (sz j:Nat) (a ix:A)
 | lgetb (sz j:Nat) (a ix:A)
 | lgetl (sz j:Nat) (a ix:A)
 | lset (sz j:Nat) (t:Ty) (a ix x:A)
 | lcat (a b:A)
 | ltake (sz:Nat) (a n:A)
 | ldrop (sz:Nat) (a n:A)
 | lrep (n:A) (ts:List Ty) (l:List A)
 | itel (c a b:A)
 /-- of cells told by a row: the first n, one of them anew; n cells from a place on -/
 | aset (n sz j:Nat) (t:Ty) (a ix x:A)
 | lsub (n sz j:Nat) (a ix:A)
 /-- do the cells tell the same bytes? -/
 | sbeq (a b:A)
 deriving Inhabited
abbrev FEnv:=Nat→List DV→List DV
def zed (k:IntKind) (x:Int):BitVec k.bits:=BitVec.ofInt k.bits x
def zaf (k:IntKind) (x y:Int):Int:=k.wrap (zed k x &&& zed k y).toNat
def ilor (k:IntKind) (x y:Int):Int:=k.wrap (zed k x ||| zed k y).toNat
def zj8 (k:IntKind) (x y:Int):Int:=k.wrap (zed k x ^^^ zed k y).toNat
def zar (k:IntKind) (x y:Int):Int:=k.wrap (zed k x &&& ~~~ (zed k y)).toNat
def ishl (k:IntKind) (x y:Int):Int:=k.wrap (x*2^min y.toNat k.bits)
def ishr (k:IntKind) (x y:Int):Int:=x.fdiv (2^min y.toNat k.bits)
def DV.byte (d:DV):UInt8:=UInt8.ofNat d.toI.toNat
def zhu:List DV→List DV→Bool
 | [],[]=>true
 | x::l,y::l'=>x.byte==y.byte&&zhu l l'
 | _,_=>false
def padN (n:Nat) (l:List DV):List DV:=(List.range n).map fun k=>l.getD k default
def zbc (F:FEnv) (ν:Nat→DV):Node→DV
 | .add k a b=>.i (k.wrap (a.int ν+b.int ν))
 | .sub k a b=>.i (k.wrap (a.int ν-b.int ν))
 | .mul k a b=>.i (k.wrap (a.int ν*b.int ν))
 | .land k a b=>.i (zaf k (a.int ν) (b.int ν))
 | .lor k a b=>.i (ilor k (a.int ν) (b.int ν))
 | .lxor k a b=>.i (zj8 k (a.int ν) (b.int ν))
 | .landNot k a b=>.i (zar k (a.int ν) (b.int ν))
 | .quo k a b=>.i (k.wrap ((a.int ν).tdiv (b.int ν)))
 | .rem _ a b=>.i ((a.int ν).tmod (b.int ν))
 | .shl k a b=>.i (ishl k (a.int ν) (b.int ν))
 | .shr k a b=>.i (ishr k (a.int ν) (b.int ν))
 | .eql a b=>.b (a.int ν==b.int ν)
 | .neq a b=>.b (a.int ν != b.int ν)
 | .lss a b=>.b (decide (a.int ν<b.int ν))
 | .leq a b=>.b (decide (a.int ν≤b.int ν))
 | .gtr a b=>.b (decide (a.int ν>b.int ν))
 | .geq a b=>.b (decide (a.int ν≥b.int ν))
 | .beq a b=>.b (a.bool ν==b.bool ν)
 | .bne a b=>.b (a.bool ν != b.bool ν)
 | .not a=>.b (!a.bool ν)
 | .and a b=>.b (a.bool ν&&b.bool ν)
 | .or a b=>.b (a.bool ν||b.bool ν)
 | .itei c a b=>.i (bif c.bool ν then a.int ν else b.int ν)
 | .iteb c a b=>.b (bif c.bool ν then a.bool ν else b.bool ν)
 | .conv k a=>.i (k.wrap (a.int ν))
 | .seli l ix=>.i ((l.map (A.int ν)).getD (ix.int ν).toNat 0)
 | .selb l ix=>.b ((l.map (A.bool ν)).getD (ix.int ν).toNat false)
 | .call f args j=>(F f (args.map (A.den ν))).getD j default
 | .lmk ts l=>.l (nrmZ ts (l.map (A.den ν)))
 | .llen sz a=>.i ((a.cells ν).length/sz:Nat)
 | .lgeti sz j a ix=>.i ((a.cells ν).getD ((ix.int ν).toNat*sz+j) default).toI
 | .lgetb sz j a ix=>.b ((a.cells ν).getD ((ix.int ν).toNat*sz+j) default).toB
 | .lgetl sz j a ix=>.l ((a.cells ν).getD ((ix.int ν).toNat*sz+j) default).toL
 | .lset sz j t a ix x=>.l ((a.cells ν).set ((ix.int ν).toNat*sz+j) (nrm t (x.den ν)))
 | .lcat a b=>.l (a.cells ν++b.cells ν)
 | .ltake sz a n=>.l ((a.cells ν).take ((n.int ν).toNat*sz))
 | .ldrop sz a n=>.l ((a.cells ν).drop ((n.int ν).toNat*sz))
 | .lrep n ts l=>.l (List.replicate (n.int ν).toNat (nrmZ ts (l.map (A.den ν)))).flatten
 | .itel c a b=>.l (bif c.bool ν then a.cells ν else b.cells ν)
 | .aset n sz j t a ix x=>.l ((padN n (a.cells ν)).set ((ix.int ν).toNat*sz+j) (nrm t (x.den ν)))
 | .lsub n sz j a ix=>.l ((List.range n).map fun k=>(a.cells ν).getD ((ix.int ν).toNat*sz+j+k) default)
 | .sbeq a b=>.b (zhu (a.cells ν) (b.cells ν))
inductive Off where
 | c (n:Nat)
 | s (base:Nat) (ix:A) (sz len:Nat)
 /-- a cell of an element of a row whose cells are a -/
 | v (base:Nat) (ix:A) (sz:Nat) (a:A)
 /-- one of a row of a row -/
 | d (base:Nat) (ix:A) (sz len:Nat) (ix2:A) (sz2 len2:Nat)
 /-- one of a row of cells of an element of a row whose cells are a -/
 | w (base:Nat) (ix:A) (sz:Nat) (a:A) (ix2:A) (sz2 len2:Nat)
 deriving Inhabited
def Off.val (ν:Nat→DV):Off→Nat
 | .c n=>n
 | .s base ix sz _=>base+(ix.int ν).toNat*sz
 | .v base ix sz _=>base+(ix.int ν).toNat*sz
 | .d base ix sz _ ix2 sz2 _=>base+(ix.int ν).toNat*sz+(ix2.int ν).toNat*sz2
 | .w base ix sz _ ix2 sz2 _=>base+(ix.int ν).toNat*sz+(ix2.int ν).toNat*sz2
def Off.plus:Off→Nat→Off
 | .c n,k=>.c (n+k)
 | .s b ix sz len,k=>.s (b+k) ix sz len
 | .v b ix sz a,k=>.v (b+k) ix sz a
 | .d b ix sz len ix2 sz2 len2,k=>.d (b+k) ix sz len ix2 sz2 len2
 | .w b ix sz a ix2 sz2 len2,k=>.w (b+k) ix sz a ix2 sz2 len2
def Off.beq:Off→Off→Bool
 | .c x1,.c y1=>Nat.beq x1 y1
 | .s x1 x2 x3 x4,.s y1 y2 y3 y4=>Nat.beq x1 y1&&x2.beq y2&&Nat.beq x3 y3&&Nat.beq x4 y4
 | .v x1 x2 x3 x4,.v y1 y2 y3 y4=>Nat.beq x1 y1&&x2.beq y2&&Nat.beq x3 y3&&x4.beq y4
 | .d x1 x2 x3 x4 x5 x6 x7,.d y1 y2 y3 y4 y5 y6 y7=>Nat.beq x1 y1&&x2.beq y2&&Nat.beq x3 y3&&Nat.beq x4 y4&&x5.beq y5&&Nat.beq x6 y6&&Nat.beq x7 y7
 | .w x1 x2 x3 x4 x5 x6 x7,.w y1 y2 y3 y4 y5 y6 y7=>Nat.beq x1 y1&&x2.beq y2&&Nat.beq x3 y3&&x4.beq y4&&x5.beq y5&&Nat.beq x6 y6&&Nat.beq x7 y7
 | _,_=>false
structure Loc where
 blk:Nat
 off:Nat
 nil:Bool
 len:Nat
 cap:Nat
 /-- of a row without room: what stands for its place -/
 raw:Option Addr
 deriving Inhabited
def Loc.slice (r:Loc):Value:=.slice (bif r.nil then r.raw else some ⟨r.blk,r.off,none⟩) r.len r.cap
inductive LT where
 | int (k:IntKind)
 | bool
 /-- a row whose elements have such cells -/
 | vec (ts:List LT)
 deriving Inhabited
def LT.feq:LT→LT→Bool
 | .int k,.int k'=>kEq k k'
 | .bool,.bool=>true
 | _,_=>false
def LT.ty:LT→Ty
 | .int _=>.i
 | .bool=>.b
 | .vec _=>.l
inductive Alt where
 | nilp
 | nili
 | p (blk:Nat) (n:Nat)
 | ifp (t:Nat) (blk:Nat)
 deriving Inhabited
inductive Lf where
 | i (k:IntKind) (a:A)
 | b (a:A)
 | p (blk:Nat) (off:Off)
 | gp (g:Nat) (off:Off)
 | nilp
 /-- a slice: the whole of a row -/
 | vec (blk:Nat)
 /-- a number or a bool that stands in a row -/
 | e (t:LT) (a:A) (i:Nat)
 /-- a function that bears places: blocks -/
 | fnp (f:Nat) (bs:List Nat)
 /-- an interface that holds the place where a block begins -/
 | ifp (t:Nat) (blk:Nat)
 /-- a string: its bytes -/
 | str (a:A)
 /-- a map: a block -/
 | mp (blk:Nat)
 /-- one of some, by a number -/
 | alt (a:A) (l:List (Nat×Alt))
 | v (x:Value)
 deriving Inhabited
def zaN:List (Nat×Alt)→Nat→Option Alt
 | [],_=>none
 | x::l,n=>if Nat.beq x.1 n then some x.2 else zaN l n
def Alt.conc (ρ:Nat→Loc):Alt→Value
 | .nilp=>.pointer none
 | .nili=>.nilIface
 | .p q n=>.pointer (some ⟨(ρ q).blk,(ρ q).off+n,none⟩)
 | .ifp t q=>.iface t (.pointer (some ⟨(ρ q).blk,(ρ q).off+0,none⟩))
def Alt.lt (n:Nat):Alt→Bool
 | .p q _=>decide (q<n)
 | .ifp _ q=>decide (q<n)
 | _=>true
def Alt.beq:Alt→Alt→Bool
 | .nilp,.nilp=>true
 | .nili,.nili=>true
 | .p q n,.p q' n'=>Nat.beq q q'&&Nat.beq n n'
 | .ifp t q,.ifp t' q'=>Nat.beq t t'&&Nat.beq q q'
 | _,_=>false
def zg1:List (Nat×Alt)→List (Nat×Alt)→Bool
 | [],[]=>true
 | x::l,y::l'=>Nat.beq x.1 y.1&&x.2.beq y.2&&zg1 l l'
 | _,_=>false
def zbj (ρ:Nat→Loc) (l:List (Nat×Alt)) (n:Nat):Value :=
 match zaN l n with
 | some x=>x.conc ρ
 | none=>.pointer none
def zo5 (n:Nat) (l:List (Nat×Alt)):Bool:=l.all fun x=>x.2.lt n
def za9 (ρ:Nat→Loc) (bs:List Nat):Array Value:=(bs.map fun b=>Value.pointer (some ⟨(ρ b).blk,(ρ b).off+0,none⟩)).toArray
def zik:List Nat→List Nat→Bool
 | [],[]=>true
 | a::l,b::l'=>Nat.beq a b&&zik l l'
 | _,_=>false
def zfh (l:List DV):ByteArray:=⟨(l.map DV.byte).toArray⟩
def Lf.conc (ν:Nat→DV) (ρ:Nat→Loc):Lf→Value
 | .i k a=>.int k (a.int ν)
 | .b a=>.bool (a.bool ν)
 | .p blk off=>.pointer (some ⟨(ρ blk).blk,(ρ blk).off+off.val ν,none⟩)
 | .gp g off=>.pointer (some ⟨g,off.val ν,none⟩)
 | .nilp=>.pointer none
 | .vec blk=>(ρ blk).slice
 | .e (.int k) a j=>.int k ((a.cells ν).getD j default).toI
 | .e _ a j=>.bool ((a.cells ν).getD j default).toB
 | .fnp f bs=>.func (.func f) #[] (za9 ρ bs)
 | .ifp t q=>.iface t (.pointer (some ⟨(ρ q).blk,(ρ q).off+0,none⟩))
 | .str a=>.string (zfh (a.cells ν))
 | .mp q=>.map (some (ρ q).blk)
 | .alt a l=>zbj ρ l (a.int ν).toNat
 | .v x=>x
def Lf.ok:Lf→Bool
 | .v x=>x.oneCell'
 | _=>true
def Lf.scalar:Lf→Bool
 | .i _ _ | .b _ | .e _ _ _=>true
 | _=>false
def Lf.lt (n:Nat):Lf→Bool
 | .p blk _=>decide (blk<n)
 | .vec blk=>decide (blk<n)
 | .fnp _ bs=>bs.all fun b=>decide (b<n)
 | .ifp _ q=>decide (q<n)
 | .mp q=>decide (q<n)
 | .alt _ l=>zo5 n l
 | _=>true
inductive V1 where
 | one (l:Lf)
 | agg (l:List Lf)
 deriving Inhabited
def V1.conc (ν:Nat→DV) (ρ:Nat→Loc):V1→Value
 | .one l=>l.conc ν ρ
 | .agg l=>.agg (l.map (Lf.conc ν ρ)).toArray
def V1.cells:V1→List Lf
 | .one l=>[l]
 | .agg l=>l
def V1.lt (n:Nat) (v:V1):Bool:=v.cells.all (Lf.lt n)
inductive V where
 | s (v:V1)
 | t (l:List V1)
 deriving Inhabited
def V.conc (ν:Nat→DV) (ρ:Nat→Loc):V→Value
 | .s v=>v.conc ν ρ
 | .t l=>.tuple (l.map (V1.conc ν ρ)).toArray
def V.lt (n:Nat):V→Bool
 | .s v=>v.lt n
 | .t l=>l.all (V1.lt n)
inductive Blk where
 | c (own:Bool) (cs:List (Option Lf))
 | v (own:Bool) (ts:List LT) (a:A)
 /-- a thing of kind k that holds a -/
 | obj (own:Bool) (k:Nat) (a:A)
 /-- a row that is appended to alone: what it holds is written no more; its spare room, if it has any, is its own; full: it has none -/
 | l (own full:Bool) (ts:List LT) (a:A)
 /-- a map: how many cells a key has (and is it an aggregate?), how many a value; all entries' cells, in some order -/
 | m (own:Bool) (kt vt:Bool×Nat) (cs:List Lf)
 deriving Inhabited
def zdr (k:Nat):Bool:=Nat.ble 1000 k
def kb (k:Nat):Nat:=bif zdr k then k-1000 else k
def Blk.own:Blk→Bool
 | .c o _=>o
 | .v o _ _=>o
 | .obj o _ _=>o
 | .l o _ _ _=>o
 | .m o _ _ _=>o
structure St where
 sl:List (Option V)
 hp:List (Option Blk)
 deriving Inhabited
structure Nd where
 path:List (A×Bool)
 a:A
 deriving Inhabited
def Nd.holds (ν:Nat→DV) (n:Nd):Prop:=(∀ c∈n.path,c.1.bool ν=c.2)→n.a.bool ν=true
abbrev Em:=List (Nat×Node)
def Sat (F:FEnv) (ν:Nat→DV) (e:Em):Prop:=∀ p∈e,ν p.1=zbc F ν p.2
def look (base:Nat→DV) (n0:Nat) (vs:List DV) (n i:Nat):DV :=
 bif Nat.blt i n0 then base i else vs.getD (n-1-i) default
def zaS (F:FEnv) (base:Nat→DV) (n0:Nat):Em→List DV→Nat→List DV
 | [],vs,_=>vs
 | (_,x)::r,vs,n=>zaS F base n0 r (zbc F (look base n0 vs n) x::vs) (n+1)
structure LH where
 mat:List (Nat×List LT):=[]
 fz:List Nat:=[]
 cs:List (Nat×List (Nat×Nat)):=[]
 vs:List Nat:=[]
 deriving Inhabited
structure LR where
 fid:Nat
 n:Nat
 k:Nat
 inv:List Nat
 nodes:Em
 owes:List Nd
 c:A
 nx:List A
 outs:List A
 ts:List Ty:=[]
 lh:LH:={}
 deriving Inhabited
def LR.env (F:FEnv) (l:LR) (ν:Nat→DV) (xs:List DV):Nat→DV :=
 look ν l.n (zaS F ν l.n l.nodes xs.reverse (l.n+l.k)) (l.n+l.k+l.nodes.length)
def TEq:List Ty→List DV→List DV→Prop
 | t::ts,a::as,b::bs=>t.eqAt a b∧TEq ts as bs
 | [],[],[]=>True
 | _,_,_=>False
def zaB (F:FEnv) (l:LR):Prop :=
 ∃ μ:List DV→Nat,∀ (ν:Nat→DV) (xs:List DV),xs.length=l.k →
  ((F l.fid (l.inv.map ν++xs)).getD 0 default).toB=true →
  (∀ q∈l.owes,Nd.holds (l.env F ν xs) q) ∧
  (l.c.bool (l.env F ν xs)=true →
   ((F l.fid (l.inv.map ν++l.nx.map (A.den (l.env F ν xs)))).getD 0 default).toB=true ∧
   F l.fid (l.inv.map ν++l.nx.map (A.den (l.env F ν xs)))=F l.fid (l.inv.map ν++xs) ∧
   μ (l.inv.map ν++l.nx.map (A.den (l.env F ν xs)))<μ (l.inv.map ν++xs)) ∧
  (l.c.bool (l.env F ν xs)=false→TEq (.i::l.ts) ((F l.fid (l.inv.map ν++xs)).drop 1) (l.outs.map (A.den (l.env F ν xs))))
inductive Ob where
 | nd (q:Nd)
 | lp (l:LR)
def Ob.holds (F:FEnv) (ν:Nat→DV):Ob→Prop
 | .nd q=>q.holds ν
 | .lp l=>zaB F l
def Ob.under (c:A) (b:Bool):Ob→Ob
 | .nd q=>.nd ⟨(c,b)::q.path,q.a⟩
 | .lp l=>.lp l
def zh0:List Ob→List Nd
 | []=>[]
 | .nd q::l=>q::zh0 l
 | .lp _::l=>zh0 l
def zg2:List Ob→List LR
 | []=>[]
 | .nd _::l=>zg2 l
 | .lp q::l=>q::zg2 l
def M (α:Type):=Nat→Option (α×Nat×Em×List Ob)
def M.pure {α:Type} (a:α):M α:=fun n=>some (a,n,[],[])
def M.bind {α β:Type} (x:M α) (f:α→M β):M β:=fun n =>
 match x n with
 | none=>none
 | some (a,n1,e1,d1) =>
  match f a n1 with
  | none=>none
  | some (b,n2,e2,d2)=>some (b,n2,e1++e2,d1++d2)
instance:Monad M where
 pure:=M.pure
 bind:=M.bind
def M.fail {α:Type} : M α:=fun _=>none
def M.lift {α:Type} (o:Option α):M α:=fun n =>
 match o with
 | none=>none
 | some a=>some (a,n,[],[])
def emit (x:Node):M A:=fun n=>some (.r n,n+1,[(n,x)],[])
def owe (a:A):M Unit:=fun n=>some ((),n,[],[.nd ⟨[],a⟩])
def under {α:Type} (c:A) (b:Bool) (x:M α):M α:=fun n =>
 match x n with
 | none=>none
 | some (a,n1,e,d)=>some (a,n1,e,d.map (Ob.under c b))
def znx:A→M A
 | .t b=>pure (.t !b)
 | a=>emit (.not a)
def zqM:A→A→M A
 | .t true,b=>pure b
 | .t false,_=>pure (.t false)
 | a,.t true=>pure a
 | _,.t false=>pure (.t false)
 | a,b=>emit (.and a b)
def zf8 (c a b:A):M A :=
 match c with
 | .t true=>pure a
 | .t false=>pure b
 | c=>if a.beq b then pure a else emit (.itei c a b)
def zkh (c a b:A):M A :=
 match c with
 | .t true=>pure a
 | .t false=>pure b
 | c=>if a.beq b then pure a else
  match a,b with
  | .t true,.t false=>pure c
  | .t false,.t true=>emit (.not c)
  | .t true,b=>emit (.or c b)
  | a,.t false=>emit (.and c a)
  | a,b=>emit (.iteb c a b)
def zqN (c a b:A):M A :=
 match c with
 | .t true=>pure a
 | .t false=>pure b
 | c=>if a.beq b then pure a else emit (.itel c a b)
def zki (b:A):M Unit :=
 match b with
 | .z m=>if m=0 then M.fail else pure ()
 | b=>do owe (←emit (.neq b (.z 0)))
def zek (b:A):M Unit :=
 match b with
 | .z m=>if 0≤m then pure () else M.fail
 | b=>do owe (←emit (.geq b (.z 0)))
def zur (op:BinOp) (k:IntKind) (a b:A):M Lf :=
 match op,a,b with
 | .add,.z x,.z y=>pure (.i k (.z (k.wrap (x+y))))
 | .sub,.z x,.z y=>pure (.i k (.z (k.wrap (x-y))))
 | .mul,.z x,.z y=>pure (.i k (.z (k.wrap (x*y))))
 | .and,.z x,.z y=>pure (.i k (.z (zaf k x y)))
 | .or,.z x,.z y=>pure (.i k (.z (ilor k x y)))
 | .xor,.z x,.z y=>pure (.i k (.z (zj8 k x y)))
 | .andNot,.z x,.z y=>pure (.i k (.z (zar k x y)))
 | .eql,.z x,.z y=>pure (.b (.t (x==y)))
 | .neq,.z x,.z y=>pure (.b (.t (x != y)))
 | .lss,.z x,.z y=>pure (.b (.t (decide (x<y))))
 | .leq,.z x,.z y=>pure (.b (.t (decide (x≤y))))
 | .gtr,.z x,.z y=>pure (.b (.t (decide (x>y))))
 | .geq,.z x,.z y=>pure (.b (.t (decide (x≥y))))
 | .quo,.z x,.z y=>do zki (.z y);pure (.i k (.z (k.wrap (x.tdiv y))))
 | .rem,.z x,.z y=>do zki (.z y);pure (.i k (.z (x.tmod y)))
 | .add,a,b=>do pure (.i k (←emit (.add k a b)))
 | .sub,a,b=>do pure (.i k (←emit (.sub k a b)))
 | .mul,a,b=>do pure (.i k (←emit (.mul k a b)))
 | .and,a,b=>do pure (.i k (←emit (.land k a b)))
 | .or,a,b=>do pure (.i k (←emit (.lor k a b)))
 | .xor,a,b=>do pure (.i k (←emit (.lxor k a b)))
 | .andNot,a,b=>do pure (.i k (←emit (.landNot k a b)))
 | .eql,a,b=>do pure (.b (←emit (.eql a b)))
 | .neq,a,b=>do pure (.b (←emit (.neq a b)))
 | .lss,a,b=>do pure (.b (←emit (.lss a b)))
 | .leq,a,b=>do pure (.b (←emit (.leq a b)))
 | .gtr,a,b=>do pure (.b (←emit (.gtr a b)))
 | .geq,a,b=>do pure (.b (←emit (.geq a b)))
 | .quo,a,b=>do zki b;pure (.i k (←emit (.quo k a b)))
 | .rem,a,b=>do zki b;pure (.i k (←emit (.rem k a b)))
 | _,_,_=>M.fail
def zk6 (op:BinOp) (k:IntKind) (a b:A):M Lf :=
 match op,a,b with
 | .shl,.z x,.z y=>do zek (.z y);pure (.i k (.z (ishl k x y)))
 | .shr,.z x,.z y=>do zek (.z y);pure (.i k (.z (ishr k x y)))
 | .shl,a,b=>do zek b;pure (.i k (←emit (.shl k a b)))
 | .shr,a,b=>do zek b;pure (.i k (←emit (.shr k a b)))
 | _,_,_=>M.fail
def zh6 (op:BinOp) (a b:A):M Lf :=
 match op,a,b with
 | .eql,.t x,.t y=>pure (.b (.t (x==y)))
 | .neq,.t x,.t y=>pure (.b (.t (x != y)))
 | .eql,a,b=>do pure (.b (←emit (.beq a b)))
 | .neq,a,b=>do pure (.b (←emit (.bne a b)))
 | _,_,_=>M.fail
inductive TK where
 | int (k:IntKind)
 | bool
 | arr (len elem:Nat)
 | struct (fs:List (Nat×Nat))
 | slice (elem:Nat)
 | ptr (elem:Nat)
 | other
 deriving Inhabited
def tkOf:TypeDesc→TK
 | .int k=>.int k
 | .bool=>.bool
 | .array len elem=>.arr len elem
 | .struct fs=>.struct (fs.toList.map fun f=>(f.offset,f.type))
 | .slice e=>.slice e
 | .pointer e=>.ptr e
 | _=>.other
def tk (P:Program) (t:TypeId):Option TK:=(P.underlying t).map tkOf
def zaM (P:Program) (t:TypeId):Option Nat:=(P.info? t).map (·.size)
def zb0:TK→Bool
 | .arr _ _ | .struct _=>true
 | _=>false
def zil:Value→Option Lf
 | .int k n=>some (.i k (.z n))
 | .bool b=>some (.b (.t b))
 | .pointer none=>some .nilp
 | .pointer (some _)=>none
 | .agg _=>none
 | .tuple _=>none
 | v=>some (.v v)
def zbw {α β:Type} (f:α→Option β):List α→Option (List β)
 | []=>some []
 | a::l =>
  match f a with
  | none=>none
  | some b =>
   match zbw f l with
   | none=>none
   | some r=>some (b::r)
def zny:Value→Option V1
 | .agg cs=>(zbw zil cs.toList).map .agg
 | v=>(zil v).map .one
def zeroCells (P:Program) (t:TypeId):Option (List Lf) :=
 match P.info? t with
 | none=>none
 | some i =>
  match i.zero with
  | none=>none
  | some z=>zbw zil z.cells.toList
structure Sig where
 ins:List V
 hin:List (Option Blk)
 its:List Ty
 out:V
 hout:List (Option Blk)
 ots:List Ty
 /-- does the first result tell whether the call may be made? -/
 need:Bool
 deriving Inhabited
def Sig.nin (sg:Sig):Nat:=sg.its.length
def zdK:List V1→V
 | [v]=>.s v
 | l=>.t l
def assoc {α:Type} : List (Nat×α)→Nat→Option α
 | [],_=>none
 | (g,s)::r,f=>if Nat.beq f g then some s else assoc r f
structure Sigs where
 fs:List (Nat×Sig)
 gs:List (Nat×List Lf)
 ls:List (Nat×Nat)
 /-- so many blocks came in -/
 n0:Nat:=0
 hs:List (Nat×LH):=[]
 /-- kinds of things that are told apart here -/
 opn:List Nat:=[]
 deriving Inhabited
def Sigs.get (l:Sigs) (f:Nat):Option Sig:=assoc l.fs f
def zo6 (P:Program) (f:FuncId):Bool :=
 match P.funcs[f]? with
 | some fn => !(fn.name == "runtime.NumGoroutine") && fn.body.isSome
 | none=>false
def St.blk (s:St) (b:Nat):Option Blk:=(s.hp[b]?).join
def za2:List (Option Lf)→Nat→Nat→Option (List Lf)
 | _,_,0=>some []
 | [],_,_+1=>none
 | _::l,o+1,n+1=>za2 l o (n+1)
 | c::l,0,n+1 =>
  match c with
  | none=>none
  | some x =>
   match za2 l 0 n with
   | none=>none
   | some r=>some (x::r)
def zhv:List (Option Lf)→Nat→Option Lf
 | [],_=>none
 | c::_,0=>c
 | _::l,n+1=>zhv l n
def zby (l:List (Option Lf)) (base sz:Nat):Nat→Option (List Lf)
 | 0=>some []
 | n+1 =>
  match zhv l base with
  | none=>none
  | some x =>
   match zby l (base+sz) sz n with
   | none=>none
   | some r=>some (x::r)
def zc0 (k:IntKind):List Lf→Option (List A)
 | []=>some []
 | .i k' a::l =>
  if kEq k k' then
   match zc0 k l with
   | none=>none
   | some r=>some (a::r)
  else none
 | _::_=>none
def zb1:List Lf→Option (List A)
 | []=>some []
 | .b a::l =>
  match zb1 l with
  | none=>none
  | some r=>some (a::r)
 | _::_=>none
def rowE (t:LT) (a:A) (d:Nat):Nat→List Lf→Bool
 | _,[]=>true
 | i,.e u b j::l=>t.feq u&&b.beq a&&Nat.beq i j&&rowE t a d (i+d) l
 | _,_=>false
def zg3 (i0:Nat):List Lf→Nat
 | .e _ _ i1::_=>i1-i0
 | _=>1
def zo7:Lf→M Lf
 | .e (.int k) a i=>do pure (.i k (←emit (.lgeti 1 i a (.z 0))))
 | .e .bool a i=>do pure (.b (←emit (.lgetb 1 i a (.z 0))))
 | x=>pure x
def zel (l:List Lf) (ix:A):M Lf :=
 match l with
 | .i k _::_=>do
  let xs ←M.lift (zc0 k l)
  pure (.i k (←emit (.seli xs ix)))
 | .b _::_=>do
  let xs ←M.lift (zb1 l)
  pure (.b (←emit (.selb xs ix)))
 | .e (.int k) a i0::r =>
  if rowE (.int k) a (zg3 i0 r) i0 l then do pure (.i k (←emit (.lgeti (zg3 i0 r) i0 a ix))) else M.fail
 | .e .bool a i0::r =>
  if rowE .bool a (zg3 i0 r) i0 l then do pure (.b (←emit (.lgetb (zg3 i0 r) i0 a ix))) else M.fail
 | _=>M.fail
def zmg (l:List (Option Lf)) (base sz len:Nat) (ix:A):Nat→M (List Lf)
 | 0=>pure []
 | n+1=>do
  let row ←M.lift (zby l base sz len)
  let x ←zel row ix
  let r ←zmg l (base+1) sz len ix n
  pure (x::r)
def zk7 (l:List (Option Lf)) (base sz len:Nat) (ix:A) (sz2:Nat):Nat→M (List Lf)
 | 0=>pure []
 | n+1=>do
  let row ←M.lift (zby l base sz len)
  let x ←zel row ix
  let r ←zk7 l (base+sz2) sz len ix sz2 n
  pure (x::r)
def zds (cs:List (Option Lf)) (off:Off) (agg:Bool) (size:Nat):M V1 :=
 match off,agg with
 | .c o,true=>do pure (.agg (←M.lift (za2 cs o size)))
 | .c o,false=>do pure (.one (←zo7 (←M.lift (zhv cs o))))
 | .s base ix sz len,true=>do pure (.agg (←zmg cs base sz len ix size))
 | .s base ix sz len,false=>do
  let row ←M.lift (zby cs base sz len)
  pure (.one (←zel row ix))
 | .d base ix sz len ix2 sz2 len2,false=>do
  let row ←zk7 cs base sz len ix sz2 len2
  pure (.one (←zel row ix2))
 | _,_=>M.fail
def zcj:List (Option Lf)→Nat→List Lf→Option (List (Option Lf))
 | l,_,[]=>some l
 | [],_,_::_=>none
 | c::l,o+1,xs=>(zcj l o xs).map (c::·)
 | _::l,0,x::xs=>(zcj l 0 xs).map (some x::·)
def Lf.beq:Lf→Lf→Bool
 | .i x1 x2,.i y1 y2=>kEq x1 y1&&x2.beq y2
 | .b x1,.b y1=>x1.beq y1
 | .p x1 x2,.p y1 y2=>Nat.beq x1 y1&&x2.beq y2
 | .gp x1 x2,.gp y1 y2=>Nat.beq x1 y1&&x2.beq y2
 | .nilp,.nilp=>true
 | .vec x,.vec y=>Nat.beq x y
 | .fnp f bs,.fnp g cs=>Nat.beq f g&&zik bs cs
 | .ifp t q,.ifp t' q'=>Nat.beq t t'&&Nat.beq q q'
 | .str x,.str y=>x.beq y
 | .mp q,.mp q'=>Nat.beq q q'
 | .alt a l,.alt a' l'=>a.beq a'&&zg1 l l'
 | .e t1 a1 j1,.e t2 a2 j2=>t1.feq t2&&a1.beq a2&&Nat.beq j1 j2
 | _,_=>false
def zj9:Lf→Option (A×List (Nat×Alt))
 | .nilp=>some (.z 0,[(0,.nilp)])
 | .v .nilIface=>some (.z 0,[(0,.nili)])
 | .p q (.c n)=>some (.z (1+q*4096+n:Nat),[(1+q*4096+n,.p q n)])
 | .ifp t q=>some (.z (1+t:Nat),[(1+t,.ifp t q)])
 | .alt a l=>some (a,l)
 | _=>none
def zdL:List (Nat×Alt)→List (Nat×Alt)→Option (List (Nat×Alt))
 | [],l'=>some l'
 | x::l,l' =>
  match zdL l l' with
  | none=>none
  | some r =>
   match zaN r x.1 with
   | none=>some (x::r)
   | some y=>if x.2.beq y then some r else none
def zk8 (c:A) (x y:Lf):M (Option Lf) :=
 if x.beq y then pure (some x) else
 match x,y with
 | .i k a,.i k' b=>if kEq k k' then do pure (some (.i k (←zf8 c a b))) else pure none
 | .b a,.b b=>do pure (some (.b (←zkh c a b)))
 | _,_=>pure none
def zk9 (c:A) (x y:Lf):M (Option Lf) :=
 if x.beq y then pure (some x) else
 match x,y with
 | .i k a,.i k' b=>if kEq k k' then do pure (some (.i k (←zf8 c a b))) else pure none
 | .b a,.b b=>do pure (some (.b (←zkh c a b)))
 | x,y =>
  match zj9 x,zj9 y with
  | some p,some q =>
   match zdL p.2 q.2 with
   | some l=>do pure (some (.alt (←zf8 c p.1 q.1) l))
   | none=>pure none
  | _,_=>pure none
def zh7 (c:A):List Lf→List Lf→M (Option (List Lf))
 | [],[]=>pure (some [])
 | x::l,y::l'=>do
  let a ←zk9 c x y
  let b ←zh7 c l l'
  pure (match a,b with
   | some a,some b=>some (a::b)
   | _,_=>none)
 | _,_=>pure none
def zla (c:A) (x y:V1):M (Option V1) :=
 match x,y with
 | .one a,.one b=>do pure ((←zk9 c a b).map .one)
 | .agg a,.agg b=>do pure ((←zh7 c a b).map .agg)
 | _,_=>pure none
def zh8 (c:A):List V1→List V1→M (Option (List V1))
 | [],[]=>pure (some [])
 | x::l,y::l'=>do
  let a ←zla c x y
  let b ←zh8 c l l'
  pure (match a,b with
   | some a,some b=>some (a::b)
   | _,_=>none)
 | _,_=>pure none
def zqO (c:A) (x y:V):M (Option V) :=
 match x,y with
 | .s a,.s b=>do pure ((←zla c a b).map .s)
 | .t a,.t b=>do pure ((←zh8 c a b).map .t)
 | _,_=>pure none
def zee (ix:A) (x:Lf):List (Option Lf)→(base sz len j:Nat)→M (List (Option Lf))
 | l,_,_,0,_=>pure l
 | [],_,_,_+1,_=>M.fail
 | c::l,base+1,sz,len+1,j=>do pure (c::(←zee ix x l base sz (len+1) j))
 | c::l,0,sz,len+1,j =>
  match c with
  | none=>M.fail
  | some old=>do
   let e ←emit (.eql ix (.z j))
   match ←zk8 e x old with
   | none=>M.fail
   | some y=>do pure (some y::(←zee ix x l (sz-1) sz len (j+1)))
def zqP {α:Type} (p:α→Bool):Option α→Bool
 | some x=>p x
 | none=>false
def zo8 (t:LT) (x:Lf):Option A :=
 match t,x with
 | .int k,.i k' a=>if kEq k k' then some a else none
 | .bool,.b a=>some a
 | _,_=>none
def affB (a:A) (P0 J0:Nat):Nat→List (Option Lf)→Bool
 | _,[]=>true
 | p,some (.e _ b j)::l=>(!b.beq a||Nat.beq (j+P0) (p+J0))&&affB a P0 J0 (p+1) l
 | p,_::l=>affB a P0 J0 (p+1) l
def maxE (a:A):List (Option Lf)→Nat
 | []=>0
 | some (.e _ b j)::l=>if b.beq a then max (j+1) (maxE a l) else maxE a l
 | _::l=>maxE a l
def znz (a a':A):List (Option Lf)→List (Option Lf)
 | []=>[]
 | some (.e t b j)::l=>some (if b.beq a then .e t a' j else .e t b j)::znz a a' l
 | c::l=>c::znz a a' l
def putE (ix:A) (x:Lf) (l:List (Option Lf)) (base sz len:Nat):M (List (Option Lf)) :=
 match zby l base sz len with
 | some (.e t a i0::r) =>
  if rowE t a sz i0 (.e t a i0::r)&&affB a base i0 0 l then do
   let v ←M.lift (zo8 t x)
   let a' ←emit (.aset (maxE a l) sz i0 t.ty a ix v)
   pure (znz a a' l)
  else M.fail
 | _=>zee ix x l base sz len 0
def zlb (ix:A):List Lf→List (Option Lf)→(base sz len:Nat)→M (List (Option Lf))
 | [],l,_,_,_=>pure l
 | x::xs,l,base,sz,len=>do
  let l1 ←putE ix x l base sz len
  zlb ix xs l1 (base+1) sz len
def isE:Lf→Bool
 | .e _ _ _=>true
 | _=>false
def zlc:List Lf→List (Option Lf)→Nat→M (List (Option Lf))
 | [],l,_=>pure l
 | x::xs,l,o=>do
  let l1 ←(match zhv l o with
   | some (.e _ _ _)=>if isE x then M.lift (zcj l o [x]) else putE (.z 0) x l o 1 1
   | _=>M.lift (zcj l o [x]))
  zlc xs l1 (o+1)
def zem (cs:List (Option Lf)) (off:Off) (xs:List Lf):M (List (Option Lf)) :=
 match off with
 | .c o=>if cs.any (zqP isE) then zlc xs cs o else M.lift (zcj cs o xs)
 | .s base ix sz len=>if decide (0<sz) then zlb ix xs cs base sz len else M.fail
 | _=>M.fail
def zao {α:Type} (p:α→Bool):Option α→Bool
 | some x=>p x
 | none=>true
def nth {α:Type} : List (Option α)→Nat→Option α
 | [],_=>none
 | x::_,0=>x
 | _::l,n+1=>nth l n
end Go.Sx
namespace Go.Sx
def A.inst (ops:List A):A→A
 | .h j=>ops.getD j default
 | a=>a
def Off.inst (ops:List A):Off→Off
 | .c n=>.c n
 | .s b ix sz len=>.s b (ix.inst ops) sz len
 | .v b ix sz a=>.v b (ix.inst ops) sz (a.inst ops)
 | .d b ix sz len ix2 sz2 len2=>.d b (ix.inst ops) sz len (ix2.inst ops) sz2 len2
 | .w b ix sz a ix2 sz2 len2=>.w b (ix.inst ops) sz (a.inst ops) (ix2.inst ops) sz2 len2
def Lf.inst (ops:List A):Lf→Lf
 | .i k a=>.i k (a.inst ops)
 | .b a=>.b (a.inst ops)
 | .p blk off=>.p blk (off.inst ops)
 | .gp g off=>.gp g (off.inst ops)
 | .e t1 a1 j1=>.e t1 (a1.inst ops) j1
 | .str a=>.str (a.inst ops)
 | .alt a l=>.alt (a.inst ops) l
 | x=>x
def V1.inst (ops:List A):V1→V1
 | .one l=>.one (l.inst ops)
 | .agg l=>.agg (l.map (Lf.inst ops))
def V.inst (ops:List A):V→V
 | .s v=>.s (v.inst ops)
 | .t l=>.t (l.map (V1.inst ops))
def Blk.inst (ops:List A):Blk→Blk
 | .c o cs=>.c o (cs.map (Option.map (Lf.inst ops)))
 | .v o ts a=>.v o ts (a.inst ops)
 | .obj o k a=>.obj o k (a.inst ops)
 | .l o f ts a=>.l o f ts (a.inst ops)
 | .m o kt vt cs=>.m o kt vt (cs.map (Lf.inst ops))
def zal (n:Nat):Nat→List A
 | 0=>[]
 | k+1=>.r n::zal (n+1) k
structure PatD where
 hp:List (Option Blk)
 tys:List Ty
 par:List (Nat×Nat)
 ex:Bool
def zs8 (j:Nat):Option Lf→Bool
 | some (.vec n)=>Nat.beq n j
 | _=>false
def zs9 (j:Nat):Option Lf→Bool
 | some (.p n (.c m))=>Nat.beq n j&&Nat.beq m 0
 | _=>false
def parB (hp : List (Option Blk)) (j : Nat) (bk : Blk) (q : Nat × Nat) : Bool :=
  Nat.blt q.1 j &&
  (match nth hp q.1 with
   | some (.c _ cs) =>
     (match bk with
      | .v _ _ _ => zs8 j (nth cs q.2)
      | .c _ _ => zs9 j (nth cs q.2)
      | .obj _ _ _ => zs9 j (nth cs q.2)
      | .l _ _ _ _ => zs8 j (nth cs q.2)
      | .m _ _ _ _ => false)
   | _ => false)
def zka (hp:List (Option Blk)):Nat→List (Option Blk)→List (Nat×Nat)→Bool
 | _,[],_=>true
 | j,some bk::l,q::r=>parB hp j bk q&&zka hp (j+1) l r
 | _,_,_=>false
def zvH:Option Blk→Bool
 | some (.c _ _)=>true
 | _=>false
def Blk.kindLt (k:Nat):Blk→Bool
 | .obj _ k' _=>Nat.blt k' k&&!zdr k'
 | _=>true
def Lf.noV0:Lf→Bool
 | .vec n=>!Nat.beq n 0
 | .fnp _ _=>false
 | .ifp _ _=>false
 | .mp _=>false
 | .alt _ _=>false
 | _=>true
def Blk.noV0:Blk→Bool
 | .c _ cs=>cs.all (zao Lf.noV0)
 | .m _ _ _ cs=>cs.all Lf.noV0
 | _=>true
def PatD.ok (p:PatD):Bool:=zvH (nth p.hp 0)&&zka p.hp 1 (p.hp.drop 1) p.par&&p.hp.all (zao Blk.noV0)
def Blk.froze:Blk→Blk
 | .c _ cs=>.c false cs
 | .v _ ts a=>.v false ts a
 | .obj _ k a=>.obj false k a
 | .l _ f ts a=>.l false f ts a
 | .m _ kt vt cs=>.m false kt vt cs
def PatD.rd (o:Bool) (p:PatD):PatD:=if o then p else ⟨p.hp.map (Option.map Blk.froze),p.tys,p.par,p.ex⟩
def PatD.ids (p:PatD):PatD:=⟨p.hp.map (Option.map (Blk.inst (zal 0 p.tys.length))),p.tys,p.par,p.ex⟩
end Go.Sx
namespace Go.Sx
def cI (k:IntKind) (j:Nat):Option Lf:=some (.i k (.h j))
def cB (j:Nat):Option Lf:=some (.b (.h j))
def cV (b:Nat):Option Lf:=some (.vec b)
def cP (b:Nat):Option Lf:=some (.p b (.c 0))
def zh9:PatD:=⟨[some (.c true [cI .u64 0,cI .u64 1,cI .u64 2])],[.i,.i,.i],[],true⟩
def zo9:Nat→Nat→List (Option Lf)
 | 0,_=>[]
 | n+1,j=>some (.e (.int .i64) (.h 0) j)::some (.e .bool (.h 0) (j+1))::some (.e .bool (.h 0) (j+2))::some (.e .bool (.h 0) (j+3))::some (.e .bool (.h 0) (j+4))::some (.e .bool (.h 0) (j+5))::zo9 n (j+6)
def zus:PatD:=⟨[some (.c true (List.append (zo9 9 0) [cI .i64 1,cI .i64 2]))],[.l,.i,.i],[],true⟩
def zta:PatD:=⟨[some (.c true [cI .u64 0,cI .u64 1,cI .u64 2,cV 1,cV 2,cV 3]),some (.v true [.int .u64] (.h 3)),some (.v true [.int .u64] (.h 4)),some (.v true [.int .u64] (.h 5))],
 [.i,.i,.i,.l,.l,.l],[(0,3),(0,4),(0,5)],true⟩
def zut:PatD:=⟨[some (.c true [cV 1,cV 2,cB 2,cB 3,cI .u8 4]),some (.l true false [.int .u8] (.h 0)),some (.l true false [.int .u8] (.h 1))],[.l,.l,.b,.b,.i],[(0,0),(0,1)],false⟩
def ztb:PatD:=⟨[some (.c true [cV 1,cV 2,cI .i64 2,cI .u64 3,cI .u64 4,cI .u64 5]),some (.v true [.int .u8] (.h 0)),some (.v true [.int .u8] (.h 1))],[.l,.l,.i,.i,.i,.i],[(0,0),(0,1)],true⟩
def evTs:List LT:=[.int .i64,.int .i64,.int .i64,.int .u64]
def zvI:PatD:=⟨[some (.c true [cP 1,cP 2,cP 3,cP 4,cI .i64 4,cV 5,cB 6]),some (.obj true 0 (.h 0)),some (.obj true 2 (.h 1)),some (.obj true 4 (.h 2)),some (.obj true 6 (.h 3)),some (.v false evTs (.h 5))],
 [.l,.l,.l,.l,.i,.l,.b],[(0,0),(0,1),(0,2),(0,3),(0,5)],false⟩
def zuu:PatD:=⟨[some (.c true [cP 1,cP 2,cP 3,cP 4,cI .i64 4,cV 5,cI .i64 6,cB 7]),some (.obj true 1 (.h 0)),some (.obj true 3 (.h 1)),some (.obj true 5 (.h 2)),some (.obj true 7 (.h 3)),some (.v false evTs (.h 5))],
 [.l,.l,.l,.l,.i,.l,.i,.b],[(0,0),(0,1),(0,2),(0,3),(0,5)],false⟩
def pats:List PatD:=[zh9,zh9,zus,zta,zut,ztb,zvI,zuu]
end Go.Sx
namespace Go.Sx
def ztc:Nat→Bool
 | 0 | 1=>true
 | k+2=>match pats[k]? with
  | some p=>p.ex
  | none=>false
def Blk.shr:Blk→Bool
 | .obj o k _=>o&&!ztc (kb k)
 | .l o _ _ _=>o
 | _=>false
def Blk.exB:Blk→Bool
 | .obj o k _=>o&&ztc (kb k)
 | .l _ _ _ _=>false
 | b=>b.own
def zfi (k:Nat) (p:PatD):Bool:=p.ok&&p.hp.all (zao (Blk.kindLt k))&&(!p.ex||p.hp.all (zao Blk.exB))
end Go.Sx
namespace Go.Sx
def St.inst (ops:List A) (s:St):St:=⟨s.sl.map (Option.map (V.inst ops)),s.hp.map (Option.map (Blk.inst ops))⟩
def A.tyOk (p:A→Bool) (tys:List Ty) (t:Ty):A→Bool
 | .h j=>zao t.beq tys[j]?&&decide (j<tys.length)
 | a=>p a
def Off.tyOk (p:A→Bool) (tys:List Ty):Off→Bool
 | .c _=>true
 | .s _ ix _ _=>ix.tyOk p tys .i
 | .v _ ix _ a=>ix.tyOk p tys .i&&a.tyOk p tys .l
 | .d _ ix _ _ ix2 _ _=>ix.tyOk p tys .i&&ix2.tyOk p tys .i
 | .w _ ix _ a ix2 _ _=>(ix.tyOk p tys .i&&a.tyOk p tys .l)&&ix2.tyOk p tys .i
def Lf.tyOk (p:A→Bool) (tys:List Ty):Lf→Bool
 | .i _ a=>a.tyOk p tys .i
 | .b a=>a.tyOk p tys .b
 | .p _ off | .gp _ off=>off.tyOk p tys
 | .e _ a1 _=>a1.tyOk p tys .l
 | .str a=>a.tyOk p tys .l
 | .alt a _=>a.tyOk p tys .i
 | _=>true
def V1.tyOk (p:A→Bool) (tys:List Ty) (v:V1):Bool:=v.cells.all (Lf.tyOk p tys)
def V.tyOk (p:A→Bool) (tys:List Ty):V→Bool
 | .s v=>v.tyOk p tys
 | .t l=>l.all (V1.tyOk p tys)
def Blk.tyOk (p:A→Bool) (tys:List Ty):Blk→Bool
 | .c _ cs=>cs.all (zao (Lf.tyOk p tys))
 | .v _ _ a=>a.tyOk p tys .l
 | .obj _ _ a=>a.tyOk p tys .l
 | .l _ _ _ a=>a.tyOk p tys .l
 | .m _ _ _ cs=>cs.all (Lf.tyOk p tys)
def St.tyOk (p:A→Bool) (tys:List Ty) (s:St):Bool:=s.sl.all (zao (V.tyOk p tys))&&s.hp.all (zao (Blk.tyOk p tys))
def beqB':Bool→Bool→Bool
 | true,b=>b
 | false,b=>!b
def rnm (m:List Nat) (j:Nat):Nat:=m.getD j 0
def vBeq:Value→Value→Bool
 | .func (.func f) a b,.func (.func g) c d=>Nat.beq f g&&Nat.beq a.size 0&&Nat.beq b.size 0&&Nat.beq c.size 0&&Nat.beq d.size 0
 | .slice none 0 0,.slice none 0 0=>true
 | .nilFunc,.nilFunc=>true
 | .nilIface,.nilIface=>true
 | _,_=>false
def Alt.ren (m:List Nat):Alt→Alt
 | .p q n=>.p (rnm m q) n
 | .ifp t q=>.ifp t (rnm m q)
 | x=>x
def zg4 (m:List Nat) (l:List (Nat×Alt)):List (Nat×Alt):=l.map fun x=>(x.1,x.2.ren m)
def zqQ (l l':List (Nat×Alt)):Bool:=l.all fun x=>match zaN l' x.1 with | some y=>x.2.beq y | none=>false
def zqR (m:List Nat) (a:A) (l:List (Nat×Alt)) (y:Lf):Bool :=
 match zj9 y with
 | some q=>(match y,a with
  | .alt _ _,_=>a.beq q.1
  | _,.z n=>(match q.2 with | [x]=>decide (n=(x.1:Int)) | _=>false)
  | _,_=>false)&&zqQ q.2 (zg4 m l)
 | none=>false
def Lf.sub (m:List Nat):Lf→Lf→Bool
 | .i k a,.i k' a'=>kEq k k'&&a.beq a'
 | .b a,.b a'=>a.beq a'
 | .p k off,.p k' off'=>Nat.beq (rnm m k) k'&&off.beq off'
 | .gp g off,.gp g' off'=>Nat.beq g g'&&off.beq off'
 | .nilp,.nilp=>true
 | .vec k,.vec k'=>Nat.beq (rnm m k) k'
 | .fnp f bs,.fnp g cs=>Nat.beq f g&&zik (bs.map (rnm m)) cs
 | .ifp t q,.ifp t' q'=>Nat.beq t t'&&Nat.beq (rnm m q) q'
 | .str x,.str y=>x.beq y
 | .mp k,.mp k'=>Nat.beq (rnm m k) k'
 | .alt a l,y=>zqR m a l y
 | .v x,.v y=>vBeq x y
 | .e t1 a1 j1,.e t2 a2 j2=>t1.feq t2&&a1.beq a2&&Nat.beq j1 j2
 | _,_=>false
def Lfs.sub (m:List Nat):List Lf→List Lf→Bool
 | [],[]=>true
 | x::l,y::l'=>x.sub m y&&Lfs.sub m l l'
 | _,_=>false
def V1.sub (m:List Nat):V1→V1→Bool
 | .one x,.one y=>x.sub m y
 | .agg x,.agg y=>Lfs.sub m x y
 | _,_=>false
def V1s.sub (m:List Nat):List V1→List V1→Bool
 | [],[]=>true
 | x::l,y::l'=>x.sub m y&&V1s.sub m l l'
 | _,_=>false
def V.sub (m:List Nat):V→V→Bool
 | .s x,.s y=>x.sub m y
 | .t x,.t y=>V1s.sub m x y
 | _,_=>false
def zbp (m:List Nat):List (Option V)→List (Option V)→Bool
 | [],[]=>true
 | none::l,_::l'=>zbp m l l'
 | some x::l,some y::l'=>x.sub m y&&zbp m l l'
 | _,_=>false
def zc1 (m:List Nat):List (Option Lf)→List (Option Lf)→Bool
 | [],_=>true
 | none::l,l'=>zc1 m l l'.tail
 | some x::l,some y::l'=>x.sub m y&&zc1 m l l'
 | some _::_,_=>false
def zhw:List LT→List LT→Bool
 | [],[]=>true
 | .int k::l,.int k'::l'=>kEq k k'&&zhw l l'
 | .bool::l,.bool::l'=>zhw l l'
 | _,_=>false
def LT.beq:LT→LT→Bool
 | .int k,.int k'=>kEq k k'
 | .bool,.bool=>true
 | .vec l,.vec l'=>zhw l l'
 | _,_=>false
def LTs.beq:List LT→List LT→Bool
 | [],[]=>true
 | t::l,u::l'=>t.beq u&&LTs.beq l l'
 | _,_=>false
def ktB (a b:Bool×Nat):Bool:=beqB' a.1 b.1&&Nat.beq a.2 b.2
def Blk.sub (m:List Nat):Blk→Blk→Bool
 | .c o cs,.c o' cs'=>(!o||(o'&&Nat.beq cs.length cs'.length))&&zc1 m cs cs'
 | .v o ts a,.v o' ts' a'=>(!o||o')&&LTs.beq ts ts'&&a.beq a'
 | .obj o k a,.obj o' k' a'=>(!o||o')&&Nat.beq k k'&&a.beq a'
 | .l o f ts a,.l o' f' ts' a'=>(!o||o')&&(!f||f')&&LTs.beq ts ts'&&a.beq a'
 | .l o f ts a,.v o' ts' a'=>(!o||o')&&!f&&LTs.beq ts ts'&&a.beq a'
 | .v o ts a,.l _ _ ts' a'=>!o&&LTs.beq ts ts'&&a.beq a'
 | .m o kt vt cs,.m o' kt' vt' cs'=>(!o||o')&&ktB kt kt'&&ktB vt vt'&&Lfs.sub m cs cs'
 | _,_=>false
def zcL (m:List Nat) (hp:List (Option Blk)):Nat→List (Option Blk)→Bool
 | _,[]=>true
 | j,none::l=>zcL m hp (j+1) l
 | j,some x::l=>(match nth hp (rnm m j) with | some y=>x.sub m y | none=>false)&&zcL m hp (j+1) l
def zim (m:List Nat) (i b:Nat):Nat→List (Option Blk)→Bool
 | _,[]=>true
 | j,none::l=>zim m i b (j+1) l
 | j,some _::l=>(Nat.beq j i||!Nat.beq (rnm m j) b)&&zim m i b (j+1) l
def zhx (m:List Nat) (all:List (Option Blk)):Nat→List (Option Blk)→Bool
 | _,[]=>true
 | j,none::l=>zhx m all (j+1) l
 | j,some x::l=>(!x.own||zim m j (rnm m j) 0 all)&&zhx m all (j+1) l
def St.sub (m:List Nat) (x y:St):Bool:=zbp m x.sl y.sl&&zcL m y.hp 0 x.hp&&zhx m x.hp 0 x.hp
def zg5 (m:List Nat):Nat→Bool
 | 0=>true
 | n+1=>zg5 m n&&Nat.beq (rnm m n) n
structure Gs where
 hs:List (Nat×A)
 ms:List (Nat×Nat)
def gA (g:Gs):A→A→Gs
 | .h j,a=>⟨(j,a)::g.hs,g.ms⟩
 | _,_=>g
def gOff (g:Gs):Off→Off→Gs
 | .s _ ix _ _,.s _ ix' _ _=>gA g ix ix'
 | .v _ ix _ a,.v _ ix' _ a'=>gA (gA g ix ix') a a'
 | .d _ ix _ _ ix2 _ _,.d _ ix' _ _ ix2' _ _=>gA (gA g ix ix') ix2 ix2'
 | .w _ ix _ a ix2 _ _,.w _ ix' _ a' ix2' _ _=>gA (gA (gA g ix ix') a a') ix2 ix2'
 | _,_=>g
def ztd (g:Gs) (l':List (Nat×Alt)):List (Nat×Alt)→Gs
 | []=>g
 | x::l =>
  match x.2,zaN l' x.1 with
  | .p q _,some (.p q' _)=>ztd ⟨g.hs,(q,q')::g.ms⟩ l' l
  | .ifp _ q,some (.ifp _ q')=>ztd ⟨g.hs,(q,q')::g.ms⟩ l' l
  | _,_=>ztd g l' l
def gAlt (g:Gs) (a:A) (l:List (Nat×Alt)) (y:Lf):Gs :=
 match zj9 y with
 | some q=>ztd (gA g a q.1) q.2 l
 | none=>g
def gLf (g:Gs):Lf→Lf→Gs
 | .i _ a,.i _ b=>gA g a b
 | .b a,.b b=>gA g a b
 | .p pb off,.p b off'=>gOff ⟨g.hs,(pb,b)::g.ms⟩ off off'
 | .gp _ off,.gp _ off'=>gOff g off off'
 | .fnp _ bs,.fnp _ cs=>⟨g.hs,bs.zip cs++g.ms⟩
 | .ifp _ x,.ifp _ y=>⟨g.hs,(x,y)::g.ms⟩
 | .str x,.str y=>gA g x y
 | .vec pb,.vec b=>⟨g.hs,(pb,b)::g.ms⟩
 | .mp pb,.mp b=>⟨g.hs,(pb,b)::g.ms⟩
 | .alt a l,y=>gAlt g a l y
 | .e _ a _,.e _ b _=>(match a with | .h j=>if (assoc g.hs j).isSome then g else gA g a b | _=>g)
 | _,_=>g
def gLfs (g:Gs):List Lf→List Lf→Gs
 | x::l,y::l'=>gLfs (gLf g x y) l l'
 | _,_=>g
def gV1 (g:Gs):V1→V1→Gs
 | .one x,.one y=>gLf g x y
 | .agg x,.agg y=>gLfs g x y
 | _,_=>g
def gV1s (g:Gs):List V1→List V1→Gs
 | x::l,y::l'=>gV1s (gV1 g x y) l l'
 | _,_=>g
def gV (g:Gs):V→V→Gs
 | .s x,.s y=>gV1 g x y
 | .t x,.t y=>gV1s g x y
 | _,_=>g
def zqS (g:Gs):List (Option V)→List (Option V)→Gs
 | some x::l,some y::l'=>zqS (gV g x y) l l'
 | _::l,_::l'=>zqS g l l'
 | _,_=>g
def zqT (g:Gs):List (Option Lf)→List (Option Lf)→Gs
 | some x::l,some y::l'=>zqT (gLf g x y) l l'
 | _::l,_::l'=>zqT g l l'
 | _,_=>g
def gBlk (g:Gs):Blk→Blk→Gs
 | .c _ cs,.c _ cs'=>zqT g cs cs'
 | .v _ _ a,.v _ _ a'=>gA g a a'
 | .obj _ _ a,.obj _ _ a'=>gA g a a'
 | .l _ _ _ a,.l _ _ _ a'=>gA g a a'
 | .l _ _ _ a,.v _ _ a'=>gA g a a'
 | .v _ _ a,.l _ _ _ a'=>gA g a a'
 | .m _ _ _ cs,.m _ _ _ cs'=>gLfs g cs cs'
 | _,_=>g
def zqU (hp:List (Option Blk)) (g:Gs):Nat→List (Option Blk)→Gs
 | _,[]=>g
 | j,none::l=>zqU hp g (j+1) l
 | j,some x::l =>
  match nth hp ((assoc g.ms j).getD j) with
  | some y=>zqU hp (gBlk g x y) (j+1) l
  | none=>zqU hp g (j+1) l
def zqV (g:Gs) (n:Nat):List A:=(List.range n).map fun j=>(assoc g.hs j).getD default
def zwW (g:Gs) (n:Nat):List Nat:=(List.range n).map fun j=>(assoc g.ms j).getD j
def zdM (n:Nat) (pat act:St):List A×List Nat :=
 let g0:=zqS ⟨[],[]⟩ pat.sl act.sl
 let g1:=zqU act.hp g0 0 pat.hp
 let g:=zqU act.hp ⟨g0.hs,g1.ms⟩ 0 pat.hp
 (zqV g n,zwW g pat.hp.length)
structure Js where
 n:Nat
 tys:List Ty
 nb:Nat
 news:List (Option Blk)
 kills:List Nat
 gs:List (A×A×Nat)
 /-- things that are told anew: in the one, in the other, their number -/
 ps:List (Nat×Nat×Nat)
def Js.hole (j:Js) (t:Ty):A×Js:=(.h j.n,⟨j.n+1,t::j.tys,j.nb,j.news,j.kills,j.gs,j.ps⟩)
def zt0 (a b:A):List (A×A×Nat)→Option Nat
 | []=>none
 | x::l=>if x.1.beq a&&x.2.1.beq b then some x.2.2 else zt0 a b l
def Js.grp (j:Js) (a b:A):A×Js :=
 match zt0 a b j.gs with
 | some n=>(.h n,j)
 | none=>(.h j.n,⟨j.n+1,.l::j.tys,j.nb,j.news,j.kills,(a,b,j.n)::j.gs,j.ps⟩)
def Js.vec (j:Js) (o o':Bool) (ts:List LT) (b1 b2:Nat):Lf×Js :=
 (.vec j.nb,⟨j.n+1,.l::j.tys,j.nb+1,some (.v (o&&o') ts (.h j.n))::j.news,(if o then [b1] else [])++(if o' then [b2] else [])++j.kills,j.gs,j.ps⟩)
def Js.lvec (j:Js) (o o' f:Bool) (ts:List LT) (b1 b2:Nat):Lf×Js :=
 (.vec j.nb,⟨j.n+1,.l::j.tys,j.nb+1,some (.l (o&&o') f ts (.h j.n))::j.news,(if o then [b1] else [])++(if o' then [b2] else [])++j.kills,j.gs,j.ps⟩)
def zt1 (b1 b2:Nat):List (Nat×Nat×Nat)→Option Nat
 | []=>none
 | x::l=>if Nat.beq x.1 b1&&Nat.beq x.2.1 b2 then some x.2.2 else zt1 b1 b2 l
def Js.obj (j:Js) (o o':Bool) (k:Nat) (b1 b2:Nat):Lf×Js :=
 match zt1 b1 b2 j.ps with
 | some q=>(.p q (.c 0),j)
 | none=>(.p j.nb (.c 0),⟨j.n+1,.l::j.tys,j.nb+1,some (.obj (o&&o') k (.h j.n))::j.news,(if o then [b1] else [])++(if o' then [b2] else [])++j.kills,j.gs,(b1,b2,j.nb)::j.ps⟩)
def znA (x y:St) (a b:Lf):Option (Bool×Bool×Nat×Nat×Nat) :=
 match a,b with
 | .p b1 (.c 0),.p b2 (.c 0) =>
  match nth x.hp b1,nth y.hp b2 with
  | some (.obj o k _),some (.obj o' k' _)=>if Nat.beq k k' then some (o,o',k,b1,b2) else none
  | _,_=>none
 | _,_=>none
def zuv (x y:St) (a b:Lf):Option (Bool×Bool×Nat×Nat×Nat) :=
 match a,b with
 | .alt _ [(1,.p b1 0),(0,.nilp)],.alt _ [(1,.p b2 0),(0,.nilp)]=>if Nat.beq b1 b2 then none else znA x y (.p b1 (.c 0)) (.p b2 (.c 0))
 | _,_=>none
def zqW (x y : St) (js : Js) (a b : Lf) : Option (Lf × Js) :=
  if a.beq b then some (a, js) else
  match a, b with
  | .i k _, .i k' _ => if kEq k k' then let h := js.hole .i; some (.i k h.1, h.2) else none
  | .b _, .b _ => let h := js.hole .b; some (.b h.1, h.2)
  | .vec b1, .vec b2 =>
    match nth x.hp b1, nth y.hp b2 with
    | some (.v o ts _), some (.v o' ts' _) => if LTs.beq ts ts' then some (js.vec o o' ts b1 b2) else none
    | some (.l o f ts _), some (.l o' f' ts' _) => if LTs.beq ts ts' then some (js.lvec o o' (f && f') ts b1 b2) else none
    | some (.l o _ ts _), some (.v o' ts' _) => if LTs.beq ts ts' then some (js.lvec o o' false ts b1 b2) else none
    | some (.v o ts _), some (.l o' _ ts' _) => if LTs.beq ts ts' then some (js.lvec o o' false ts b1 b2) else none
    | _, _ => none
  | .v u, .v w => if vBeq u w then some (a, js) else none
  | .e t1 a1 j1, .e t2 a2 j2 => if t1.feq t2 && Nat.beq j1 j2 then let h := js.grp a1 a2; some (.e t1 h.1 j1, h.2) else none
  | a, b =>
    match znA x y a b with
    | some (o, o', k, b1, b2) => some (js.obj o o' k b1 b2)
    | none =>
    match zuv x y a b with
    | some (o, o', k, b1, b2) =>
      let h := js.hole .i
      let r := h.2.obj o o' k b1 b2
      (match r.1 with
       | .p q _ => some (.alt h.1 [(1, .p q 0), (0, .nilp)], r.2)
       | _ => none)
    | none =>
    match zj9 a, zj9 b with
    | some p, some q =>
      match zdL p.2 q.2 with
      | some l => let h := js.hole .i; some (.alt h.1 l, h.2)
      | none => none
    | _, _ => none
def znB (x y:St) (js:Js):List Lf→List Lf→Option (List Lf×Js)
 | [],[]=>some ([],js)
 | a::l,b::l' =>
  match zqW x y js a b with
  | none=>none
  | some (c,j1) =>
   match znB x y j1 l l' with
   | none=>none
   | some (r,j2)=>some (c::r,j2)
 | _,_=>none
def zt2 (x y:St) (js:Js):V1→V1→Option (V1×Js)
 | .one a,.one b=>(zqW x y js a b).map fun p=>(.one p.1,p.2)
 | .agg a,.agg b=>(znB x y js a b).map fun p=>(.agg p.1,p.2)
 | _,_=>none
def zqX (x y:St) (js:Js):List V1→List V1→Option (List V1×Js)
 | [],[]=>some ([],js)
 | a::l,b::l' =>
  match zt2 x y js a b with
  | none=>none
  | some (c,j1) =>
   match zqX x y j1 l l' with
   | none=>none
   | some (r,j2)=>some (c::r,j2)
 | _,_=>none
def zwX (x y:St) (js:Js):V→V→Option (V×Js)
 | .s a,.s b=>(zt2 x y js a b).map fun p=>(.s p.1,p.2)
 | .t a,.t b=>(zqX x y js a b).map fun p=>(.t p.1,p.2)
 | _,_=>none
def zf9 (x y:St) (js:Js):List (Option V)→List (Option V)→List (Option V)×Js
 | some a::l,some b::l' =>
  match zwX x y js a b with
  | some (c,j1)=>let r:=zf9 x y j1 l l';(some c::r.1,r.2)
  | none=>let r:=zf9 x y js l l';(none::r.1,r.2)
 | _::l,_::l'=>let r:=zf9 x y js l l';(none::r.1,r.2)
 | l,_=>(l.map fun _=>none,js)
def zga (x y:St) (js:Js):List (Option Lf)→List (Option Lf)→List (Option Lf)×Js
 | some a::l,some b::l' =>
  match zqW x y js a b with
  | some (c,j1)=>let r:=zga x y j1 l l';(some c::r.1,r.2)
  | none=>let r:=zga x y js l l';(none::r.1,r.2)
 | _::l,_::l'=>let r:=zga x y js l l';(none::r.1,r.2)
 | l,_=>(l.map fun _=>none,js)
def zuw (x y:St) (js:Js):Blk→Blk→Option (Blk×Js)
 | .c o cs,.c o' cs'=>if Nat.beq cs.length cs'.length then let r:=zga x y js cs cs';some (.c (o&&o') r.1,r.2) else none
 | .v o ts a,.v o' ts' a' =>
  if LTs.beq ts ts' then
   if a.beq a' then some (.v (o&&o') ts a,js) else let h:=js.hole .l;some (.v (o&&o') ts h.1,h.2)
  else none
 | .obj o k a,.obj o' k' a' =>
  if Nat.beq k k' then
   if a.beq a' then some (.obj (o&&o') k a,js) else let h:=js.hole .l;some (.obj (o&&o') k h.1,h.2)
  else none
 | .l o f ts a,.l o' f' ts' a' =>
  if LTs.beq ts ts' then
   if a.beq a' then some (.l (o&&o') (f&&f') ts a,js) else let h:=js.hole .l;some (.l (o&&o') (f&&f') ts h.1,h.2)
  else none
 | .m o kt vt cs,.m o' kt' vt' cs'=>if ktB kt kt'&&ktB vt vt' then (znB x y js cs cs').map fun r=>(.m (o&&o') kt vt r.1,r.2) else none
 | _,_=>none
def zia (x y:St) (js:Js):List (Option Blk)→List (Option Blk)→List (Option Blk)×Js
 | some a::l,some b::l' =>
  match zuw x y js a b with
  | some (c,j1)=>let r:=zia x y j1 l l';(some c::r.1,r.2)
  | none=>let r:=zia x y js l l';(none::r.1,r.2)
 | _::l,_::l'=>let r:=zia x y js l l';(none::r.1,r.2)
 | l,[]=>(l.map fun _=>none,js)
 | [],l'=>(l'.map fun _=>none,js)
def memN (n:Nat):List Nat→Bool
 | []=>false
 | x::l=>Nat.beq x n||memN n l
def zux (ks:List Nat):Nat→List (Option Blk)→List (Option Blk)
 | _,[]=>[]
 | j,x::l=>(if memN j ks then none else x)::zux ks (j+1) l
structure Pat where
 st:St
 tys:List Ty
def zqY (x y:St):Pat :=
 let s:=zf9 x y ⟨0,[],max x.hp.length y.hp.length,[],[],[],[]⟩ x.sl y.sl
 let h:=zia x y s.2 x.hp y.hp
 ⟨⟨s.1,zux h.2.kills 0 h.1++h.2.news.reverse⟩,h.2.tys.reverse⟩
def zdN (c:A):List Ty→List A→List A→M (List A)
 | .i::ts,a::l,b::l'=>do
  let x ←zf8 c a b
  let r ←zdN c ts l l'
  pure (x::r)
 | .b::ts,a::l,b::l'=>do
  let x ←zkh c a b
  let r ←zdN c ts l l'
  pure (x::r)
 | .l::ts,a::l,b::l'=>do
  let x ←zqN c a b
  let r ←zdN c ts l l'
  pure (x::r)
 | [],[],[]=>pure []
 | _,_,_=>M.fail
def zfD (n0:Nat) (c:A) (x y:St):M St :=
 let p:=zqY x y
 let gx:=zdM p.tys.length p.st x
 let gy:=zdM p.tys.length p.st y
 if p.st.tyOk (fun _=>true) p.tys&&(p.st.inst gx.1).sub gx.2 x&&(p.st.inst gy.1).sub gy.2 y&&zg5 gx.2 n0&&zg5 gy.2 n0&&Nat.ble n0 p.st.hp.length then do
  let ops ←zdN c p.tys gx.1 gy.1
  pure (p.st.inst ops)
 else M.fail
def znC (s:St) (nf:Bool) (js:Js):Lf→Option (Lf×Js)
 | .i k _=>let h:=js.hole .i;some (.i k h.1,h.2)
 | .b _=>let h:=js.hole .b;some (.b h.1,h.2)
 | .vec b =>
  match nth s.hp b with
  | some (.v o ts _)=>some (js.vec o (o&&!nf) ts b b)
  | some (.l o f ts _)=>some (js.lvec o (o&&!nf) f ts b b)
  | _=>none
 | .e t1 a1 j1=>let h:=js.grp a1 a1;some (.e t1 h.1 j1,h.2)
 | a =>
  match znA s s a a with
  | some (o,o',k,b1,b2)=>some (js.obj o o' k b1 b2)
  | none=>none
def zpa (s:St) (js:Js):List Lf→Option (List Lf×Js)
 | []=>some ([],js)
 | a::l =>
  match znC s false js a with
  | none=>none
  | some (c,j1) =>
   match zpa s j1 l with
   | none=>none
   | some (r,j2)=>some (c::r,j2)
def zvJ (s:St) (nf:Bool) (js:Js):V→Option (V×Js)
 | .s (.one a)=>(znC s nf js a).map fun p=>(.s (.one p.1),p.2)
 | .s (.agg l)=>(zpa s js l).map fun p=>(.s (.agg p.1),p.2)
 | .t _=>none
def zqZ (es:List St) (t:Nat):Bool:=es.any fun e =>
 match nth e.sl t with
 | some (.s (.one (.vec b)))=>(match nth e.hp b with | some (.v o _ _)=>!o | _=>false)
 | _=>false
def zeY (s:St) (fz:List Nat) (D:List Nat):Nat→Js→List (Option V)→List (Option V)×Js
 | _,js,[]=>([],js)
 | t,js,x::l =>
  if memN t D then
   match x.bind (zvJ s (memN t fz) js) with
   | some (y,j1)=>let r:=zeY s fz D (t+1) j1 l;(some y::r.1,r.2)
   | none=>let r:=zeY s fz D (t+1) js l;(none::r.1,r.2)
  else let r:=zeY s fz D (t+1) js l;(x::r.1,r.2)
def cellsOf:Option Blk→List (Option Lf)
 | some (.c _ cs)=>cs
 | _=>[]
def zte (x:Lf):Option Lf→Bool
 | some y=>x.beq y||(match x,y with | .v u,.v w=>vBeq u w | _,_=>false)
 | none=>false
def zt3 (i:Nat):List (Nat×Nat)→Bool
 | []=>false
 | r::l=>(Nat.ble r.1 i&&Nat.blt i (r.1+r.2))||zt3 i l
def zdt (s:St) (rs:List (Nat×Nat)):Nat→Js→List (Option Lf)→List (Option Lf)×Js
 | _,js,[]=>([],js)
 | i,js,x::l =>
  match x with
  | none=>let r:=zdt s rs (i+1) js l;(none::r.1,r.2)
  | some a =>
   if zt3 i rs then
    match znC s false js a with
    | some (y,j1)=>let r:=zdt s rs (i+1) j1 l;(some y::r.1,r.2)
    | none=>let r:=zdt s rs (i+1) js l;(none::r.1,r.2)
   else let r:=zdt s rs (i+1) js l;(some a::r.1,r.2)
def zbA (s:St) (h:LH):Nat→Js→List (Option Blk)→List (Option Blk)×Js
 | _,js,[]=>([],js)
 | j,js,x::l =>
  match x with
  | some (.c o cs) =>
   match assoc h.cs j with
   | none=>let r:=zbA s h (j+1) js l;(some (.c o cs)::r.1,r.2)
   | some rs=>let u:=zdt s rs 0 js cs;let r:=zbA s h (j+1) u.2 l;(some (.c o u.1)::r.1,r.2)
  | some (.v o ts a) =>
   if memN j h.vs then let u:=js.hole .l;let r:=zbA s h (j+1) u.2 l;(some (.v o ts u.1)::r.1,r.2)
   else let r:=zbA s h (j+1) js l;(some (.v o ts a)::r.1,r.2)
  | some (.obj o k a) =>
   if memN j h.vs then let u:=js.hole .l;let r:=zbA s h (j+1) u.2 l;(some (.obj o k u.1)::r.1,r.2)
   else let r:=zbA s h (j+1) js l;(some (.obj o k a)::r.1,r.2)
  | some (.l o f ts a) =>
   if memN j h.vs then let u:=js.hole .l;let r:=zbA s h (j+1) u.2 l;(some (.l o f ts u.1)::r.1,r.2)
   else let r:=zbA s h (j+1) js l;(some (.l o f ts a)::r.1,r.2)
  | some (.m o kt vt cs)=>let r:=zbA s h (j+1) js l;(some (.m o kt vt cs)::r.1,r.2)
  | none=>let r:=zbA s h (j+1) js l;(none::r.1,r.2)
def zq0 (D:List Nat) (h:LH) (s:St):Pat :=
 let u:=zeY s h.fz D 0 ⟨0,[],s.hp.length,[],[],[],[]⟩ s.sl
 let h:=zbA s h 0 u.2 s.hp
 ⟨⟨u.1,zux h.2.kills 0 h.1++h.2.news.reverse⟩,h.2.tys.reverse⟩
def zuy (i:Nat):List (Nat×Nat)→List (Nat×Nat)
 | (b,n)::l=>if Nat.beq b (i+1) then (i,n+1)::l else (i,1)::(b,n)::l
 | []=>[(i,1)]
def zdO (es:List (List (Option Lf))):Nat→List (Option Lf)→List (Nat×Nat)
 | _,[]=>[]
 | i,x::l =>
  match x with
  | none=>zdO (es.map List.tail) (i+1) l
  | some a=>if es.all (fun e=>zte a e.head?.join) then zdO (es.map List.tail) (i+1) l else zuy i (zdO (es.map List.tail) (i+1) l)
def zkj (es:List St):Nat→List (Option Blk)→List (Nat×List (Nat×Nat))×List Nat
 | _,[]=>([],[])
 | j,x::l =>
  let r:=zkj es (j+1) l
  match x with
  | some (.c _ cs) =>
   match zdO (es.map fun e=>cellsOf (nth e.hp j)) 0 cs with
   | []=>r
   | rs=>((j,rs)::r.1,r.2)
  | some (.v _ _ a)=>if es.all (fun e=>match nth e.hp j with | some (.v _ _ a')=>a.beq a' | _=>false) then r else (r.1,j::r.2)
  | some (.obj _ _ a)=>if es.all (fun e=>match nth e.hp j with | some (.obj _ _ a')=>a.beq a' | _=>false) then r else (r.1,j::r.2)
  | some (.l _ _ _ a)=>if es.all (fun e=>match nth e.hp j with | some (.l _ _ _ a')=>a.beq a' | _=>false) then r else (r.1,j::r.2)
  | some (.m _ _ _ _)=>r
  | none=>r
def zq1 (mat:List (Nat×List LT)) (D:List Nat) (es:List St) (s:St):LH :=
 let r:=zkj es 0 s.hp
 ⟨mat,D.filter (zqZ es),r.1,r.2⟩
end Go.Sx
namespace Go.Sx
structure GE where
 t:Nat
 v:V
 d:Nat
 want:Bool
structure RS where
 st:St
 gl:List GE
def zat {α:Type} (v:α):List α→Nat→List α
 | [],_=>[]
 | _::l,0=>v::l
 | x::l,n+1=>x::zat v l n
def beqB:Bool→Bool→Bool
 | true,b=>b
 | false,b=>!b
abbrev Ctx:=List (Nat×Bool)
def Ctx.has:Ctx→Nat→Bool→Bool
 | [],_,_=>false
 | (d,w)::r,d',w'=>(Nat.beq d d'&&beqB w w')||Ctx.has r d' w'
def zmh (ctx:Ctx) (t:Nat):List GE→Option V
 | []=>none
 | e::r=>if Nat.beq e.t t&&ctx.has e.d e.want then some e.v else zmh ctx t r
def RS.slot (r:RS) (ctx:Ctx) (t:Nat):Option V :=
 match nth r.st.sl t with
 | some v=>some v
 | none=>zmh ctx t r.gl
def rd (r:RS) (ctx:Ctx):Operand→Option V
 | .tmp t=>r.slot ctx t
 | .const v=>(zny v).map .s
 | .func f=>some (.s (.one (.v (.func (.func f) #[] #[]))))
 | .global g=>some (.s (.one (.gp g (.c 0))))
def zg6 (t:Nat):List GE→Option GE
 | []=>none
 | e::r=>if Nat.beq e.t t then some e else zg6 t r
def zbN (r:RS):Nat→Nat→Bool→Option (Option (Ctx×List (A×Bool)))
 | 0,_,_=>none
 | n+1,d,want =>
  match nth r.st.sl d with
  | some (.s (.one (.b (.t x))))=>if beqB x want then some (some ([],[])) else some none
  | some (.s (.one (.b a)))=>some (some ([(d,want)],[(a,want)]))
  | some (.s (.one (.v (.tuple _))))=>some none
  | some _=>none
  | none =>
   match zg6 d r.gl with
   | some e =>
    match e.v with
    | .s (.one (.b a)) =>
     match zbN r n e.d e.want with
     | some (some (ctx,cs)) =>
      match a with
      | .t x=>if beqB x want then some (some ((d,want)::ctx,cs)) else some none
      | a=>some (some ((d,want)::ctx,(a,want)::cs))
     | some none=>some none
     | none=>none
    | _=>none
   | none=>none
def zc2:V:=.s (.one (.v (.tuple #[])))
def zgb {α:Type} : List (A×Bool)→M α→M α
 | [],x=>x
 | (c,b)::r,x=>under c b (zgb r x)
inductive OR where
 | val (v:V)
 /-- and the blocks as they are then: those that were keep their numbers -/
 | hp (v:Option V) (hp:List (Option Blk))
def zc3 (ix:A) (len:Nat):M Unit:=do
 owe (←emit (.geq ix (.z 0)))
 owe (←emit (.lss ix (.z len)))
def zgc (P:Program) (t:TypeId) (cs:List Lf) (off:Nat):M V1:=do
 let k ←M.lift (tk P t)
 let sz ←M.lift (zaM P t)
 if zb0 k then
  pure (.agg (←M.lift (za2 (cs.map some) off sz)))
 else pure (.one (←zo7 (←M.lift (zhv (cs.map some) off))))
def zq2:Lf→Lf→Bool
 | .i k a,.i k' b=>kEq k k'&&a.beq b
 | .b a,.b b=>a.beq b
 | .e (.int k) a i,.e (.int k') b j=>kEq k k'&&a.beq b&&Nat.beq i j
 | .e .bool a i,.e .bool b j=>a.beq b&&Nat.beq i j
 | _,_=>false
def zkk:List Lf→List Lf→Bool
 | [],[]=>true
 | x::l,y::l'=>zq2 x y&&zkk l l'
 | _,_=>false
def zld (P:Program) (eq:TypeId→V1→V1→M A) (elem:TypeId) (sz:Nat) (xs ys:List Lf) (i:Nat):Nat→M A
 | 0=>pure (.t true)
 | n+1=>do
  let a ←zgc P elem xs (i*sz)
  let b ←(if zkk xs ys then pure a else zgc P elem ys (i*sz))
  let e ←eq elem a b
  let r ←zld P eq elem sz xs ys (i+1) n
  zqM e r
def zeZ (P:Program) (eq:TypeId→V1→V1→M A) (xs ys:List Lf):List (Nat×Nat)→M A
 | []=>pure (.t true)
 | f::fs=>do
  let a ←zgc P f.2 xs f.1
  let b ←(if zkk xs ys then pure a else zgc P f.2 ys f.1)
  let e ←eq f.2 a b
  let r ←zeZ P eq xs ys fs
  zqM e r
def evEq (P:Program):Nat→TypeId→V1→V1→M A
 | 0,_,_,_=>M.fail
 | d+1,t,x,y=>do
  let k ←M.lift (tk P t)
  match k,x,y with
  | .int _,.one (.i ka a),.one (.i kb b) =>
   if kEq ka kb then
    match a,b with
    | .z m,.z n=>pure (.t (m==n))
    | a,b=>if a.beq b then pure (.t true) else emit (.eql a b)
   else M.fail
  | .bool,.one (.b a),.one (.b b) =>
   match a,b with
   | .t m,.t n=>pure (.t (m==n))
   | a,b=>if a.beq b then pure (.t true) else emit (.beq a b)
  | .arr len elem,.agg xs,.agg ys=>do
   let sz ←M.lift (zaM P elem)
   zld P (evEq P d) elem sz xs ys 0 len
  | .struct fs,.agg xs,.agg ys =>
   if P.stoodInHeld t then M.fail
   else if (P.fieldsOf t).toList.all (fun f => f.name != "_") then zeZ P (evEq P d) xs ys fs else M.fail
  | _,_,_=>M.fail
def zfE (c:A) (x y:V):M V:=do
 match ←zqO c x y with
 | some v=>pure v
 | none=>M.fail
def Alt.isNil:Alt→Bool
 | .nilp | .nili=>true
 | _=>false
def zaF (l:List (Nat×Alt)):Nat :=
 match l.find? (fun x=>x.2.isNil) with
 | some x=>x.1
 | none=>0
def zdP (iface:Bool) (key:Nat) (l:List (Nat×Alt)):Bool:=l.all fun x =>
 match x.2,iface with
 | .nilp,false=>Nat.beq x.1 key
 | .nili,true=>Nat.beq x.1 key
 | .p _ _,false=>!Nat.beq x.1 key
 | .ifp _ _,true=>!Nat.beq x.1 key
 | _,_=>false
def zin (iface:Bool) (neg:Bool) (a:A) (l:List (Nat×Alt)):M Lf :=
 if zdP iface (zaF l) l then do
  let c ←emit (if neg then .neq a (.z (zaF l)) else .eql a (.z (zaF l)))
  pure (.b c)
 else M.fail
def zq3 (a:A) (q:Nat):List (Nat×Alt)→M A
 | []=>M.fail
 | [x] =>
  match x.2 with
  | .p q' n=>if Nat.beq q q' then pure (.z n) else M.fail
  | _=>M.fail
 | x::l =>
  match x.2 with
  | .p q' n =>
   if Nat.beq q q' then do
    let c ←emit (.eql a (.z x.1))
    let r ←zq3 a q l
    zf8 c (.z n) r
   else M.fail
  | _=>M.fail
def zhy:List (Nat×Alt)→Nat
 | []=>0
 | x::l =>
  match x.2 with
  | .p _ n=>max (n+1) (zhy l)
  | _=>zhy l
def zle (a:A) (l:List (Nat×Alt)):M Lf :=
 if zdP false (zaF l) l then do
  let c ←emit (.neq a (.z (zaF l)))
  owe c
  match l.filter fun x=>!x.2.isNil with
  | []=>M.fail
  | x::r =>
   match x.2 with
   | .p q _=>do
    let ix ←zq3 a q (x::r)
    pure (.p q (.s 0 ix 1 (zhy (x::r))))
   | _=>M.fail
 else M.fail
def strA:Lf→M A
 | .str a=>pure a
 | .v (.string s)=>emit (.lmk (s.data.toList.map fun _=>.i) (s.data.toList.map fun b=>.z b.toNat))
 | _=>M.fail
def zlf (op:BinOp) (x y:Lf):M V:=do
 let a ←strA x
 let b ←strA y
 let q ←emit (.sbeq a b)
 match op with
 | .eql=>pure (.s (.one (.b q)))
 | .neq=>do pure (.s (.one (.b (←znx q))))
 | _=>M.fail
def zq4 (P:Program) (op:BinOp) (t:TypeId) (x y:V):M V :=
 match op,x,y with
 | .shl,.s (.one (.i k a)),.s (.one (.i _ b))=>do pure (.s (.one (←zk6 .shl k a b)))
 | .shr,.s (.one (.i k a)),.s (.one (.i _ b))=>do pure (.s (.one (←zk6 .shr k a b)))
 | op,.s (.one (.i k a)),.s (.one (.i k' b))=>if kEq k k' then do pure (.s (.one (←zur op k a b))) else M.fail
 | .eql,.s (.one (.b a)),.s (.one (.b b))=>do
  match ←M.lift (tk P t) with
  | .bool=>pure (.s (.one (←zh6 .eql a b)))
  | _=>M.fail
 | .neq,.s (.one (.b a)),.s (.one (.b b))=>do
  match ←M.lift (tk P t) with
  | .bool=>pure (.s (.one (←zh6 .neq a b)))
  | _=>M.fail
 | .eql,.s (.one (.p _ _)),.s (.one .nilp)=>do
  match ←M.lift (tk P t) with
  | .ptr _=>pure (.s (.one (.b (.t false))))
  | _=>M.fail
 | .neq,.s (.one (.p _ _)),.s (.one .nilp)=>do
  match ←M.lift (tk P t) with
  | .ptr _=>pure (.s (.one (.b (.t true))))
  | _=>M.fail
 | .eql,.s (.one .nilp),.s (.one .nilp)=>do
  match ←M.lift (tk P t) with
  | .ptr _=>pure (.s (.one (.b (.t true))))
  | _=>M.fail
 | .neq,.s (.one .nilp),.s (.one .nilp)=>do
  match ←M.lift (tk P t) with
  | .ptr _=>pure (.s (.one (.b (.t false))))
  | _=>M.fail
 | .eql,.s (.one (.alt a l)),.s (.one .nilp)=>do
  match ←M.lift (tk P t) with
  | .ptr _=>do pure (.s (.one (←zin false false a l)))
  | _=>M.fail
 | .neq,.s (.one (.alt a l)),.s (.one .nilp)=>do
  match ←M.lift (tk P t) with
  | .ptr _=>do pure (.s (.one (←zin false true a l)))
  | _=>M.fail
 | .eql,.s (.agg a),.s (.agg b) =>
  if P.eqGuardType P.depth t then M.fail else do pure (.s (.one (.b (←evEq P 8 t (.agg a) (.agg b)))))
 | .neq,.s (.agg a),.s (.agg b) =>
  if P.eqGuardType P.depth t then M.fail else do pure (.s (.one (.b (←znx (←evEq P 8 t (.agg a) (.agg b))))))
 | op,.s (.one x),.s (.one y)=>zlf op x y
 | _,_,_=>M.fail
def evUn (op:UnOp) (x:Lf):M Lf :=
 match op,x with
 | .neg,.i k (.z n)=>pure (.i k (.z (k.wrap (0-n))))
 | .neg,.i k a=>do pure (.i k (←emit (.sub k (.z 0) a)))
 | .xor,.i k (.z n)=>pure (.i k (.z (zj8 k (if k.signed then -1 else k.max) n)))
 | .xor,.i k a=>do pure (.i k (←emit (.lxor k (.z (if k.signed then -1 else k.max)) a)))
 | .not,.b a=>do pure (.b (←znx a))
 | _,_=>M.fail
def zq5 (P:Program) (src dst:TypeId) (x:Lf):M Lf:=do
 let _ ←M.lift (tk P src)
 match ←M.lift (tk P dst),x with
 | .int k,.i _ (.z n)=>pure (.i k (.z (k.wrap n)))
 | .int k,.i _ a=>do pure (.i k (←emit (.conv k a)))
 | _,_=>M.fail
def zfF (P:Program) (t:TypeId) (x ix:Lf):M Lf:=do
 match ←M.lift (tk P t),x,ix with
 | .arr len elem,.p blk off,.i _ a=>do
  let sz ←M.lift (zaM P elem)
  match a with
  | .z n =>
   if 0≤n∧n<len then pure (.p blk (off.plus (n.toNat*sz))) else M.fail
  | a =>
   match off with
   | .c o=>do
    zc3 a len
    pure (.p blk (.s o a sz len))
   | .s o ix0 sz0 len0=>do
    zc3 a len
    pure (.p blk (.d o ix0 sz0 len0 a sz len))
   | .v o ix0 sz0 a0=>do
    zc3 a len
    pure (.p blk (.w o ix0 sz0 a0 a sz len))
   | _=>M.fail
 | .arr len elem,.gp g off,.i _ a=>do
  let sz ←M.lift (zaM P elem)
  match a with
  | .z n =>
   if 0≤n∧n<len then pure (.gp g (off.plus (n.toNat*sz))) else M.fail
  | a =>
   match off with
   | .c o=>do
    zc3 a len
    pure (.gp g (.s o a sz len))
   | _=>M.fail
 | _,_,_=>M.fail
def znD (P:Program) (t:TypeId) (x:List Lf) (ix:Lf):M V1:=do
 match ←M.lift (tk P t),ix with
 | .arr len elem,.i _ a=>do
  let k ←M.lift (tk P elem)
  let sz ←M.lift (zaM P elem)
  match a with
  | .z n =>
   if 0≤n∧n<len then zgc P elem x (n.toNat*sz) else M.fail
  | a=>do
   zc3 a len
   if zb0 k then pure (.agg (←zmg (x.map some) 0 sz len a sz))
   else do
    let row ←M.lift (zby (x.map some) 0 sz len)
    pure (.one (←zel row a))
 | _,_=>M.fail
def znE (P:Program) (t:TypeId) (x:List Lf) (f:Nat):M V1:=do
 match ←M.lift (tk P t) with
 | .struct fs=>do
  let fd ←M.lift fs[f]?
  zgc P fd.2 x fd.1
 | _=>M.fail
def zfG (P:Program) (t:TypeId) (x:Lf) (f:Nat):M Lf:=do
 match ←M.lift (tk P t),x with
 | .struct fs,.p blk off=>do
  let fd ←M.lift fs[f]?
  let sz ←M.lift (zaM P fd.2)
  if Nat.beq sz 0 then M.fail else pure (.p blk (off.plus fd.1))
 | .struct fs,.gp g off=>do
  let fd ←M.lift fs[f]?
  let sz ←M.lift (zaM P fd.2)
  if Nat.beq sz 0 then M.fail else pure (.gp g (off.plus fd.1))
 | _,_=>M.fail
def zcz (r:RS) (ctx:Ctx):List Operand→Option (List V)
 | []=>some []
 | x::xs =>
  match rd r ctx x with
  | none=>none
  | some v =>
   match zcz r ctx xs with
   | none=>none
   | some vs=>some (v::vs)
def zcM (r:RS) (ctx:Ctx):List (Nat×Operand)→Option (List (Nat×V1))
 | []=>some []
 | x::xs =>
  match rd r ctx x.2 with
  | some (.s v) =>
   match zcM r ctx xs with
   | none=>none
   | some vs=>some ((x.1,v)::vs)
  | _=>none
def zcn:List Lf→Nat→List Lf→List Lf
 | cs,_,[]=>cs
 | cs,o,c::l=>zcn (cs.set o c) (o+1) l
def zgd (place:Nat→Option (Nat×Nat)):List Lf→List (Nat×V1)→Option (List Lf)
 | cs,[]=>some cs
 | cs,p::rest =>
  match place p.1 with
  | none=>none
  | some (o,sz)=>if Nat.beq p.2.cells.length sz&&Nat.ble (o+p.2.cells.length) cs.length&&p.2.cells.all Lf.ok then zgd place (zcn cs o p.2.cells) rest else none
def zlg (P:Program) (t:TypeId) (parts:List (Nat×V1)):Option (List Lf) :=
 match zeroCells P t with
 | none=>none
 | some z =>
  match tk P t with
  | some (.struct fs) =>
   match zbw (fun f:Nat×TypeId=>(zaM P f.2).map fun n=>(f.1,n)) fs with
   | none=>none
   | some places=>zgd (fun i=>places[i]?) z parts
  | some (.arr _ elem) =>
   match zaM P elem with
   | none=>none
   | some sz=>zgd (fun i=>some (i*sz,sz)) z parts
  | _=>none
def Blk.lt (n:Nat):Blk→Bool
 | .c _ cs=>cs.all (zao (Lf.lt n))
 | .v _ _ _=>true
 | .obj _ _ _=>true
 | .l _ _ _ _=>true
 | .m _ _ _ cs=>cs.all (Lf.lt n)
def Lf.ren (m:List Nat):Lf→Lf
 | .p k off=>.p (rnm m k) off
 | .vec k=>.vec (rnm m k)
 | .fnp f bs=>.fnp f (bs.map (rnm m))
 | .ifp t q=>.ifp t (rnm m q)
 | .mp k=>.mp (rnm m k)
 | .alt a l=>.alt a (zg4 m l)
 | x=>x
def V1.ren (m:List Nat):V1→V1
 | .one x=>.one (x.ren m)
 | .agg l=>.agg (l.map (Lf.ren m))
def V.ren (m:List Nat):V→V
 | .s v=>.s (v.ren m)
 | .t l=>.t (l.map (V1.ren m))
def Blk.ren (m:List Nat):Blk→Blk
 | .c o cs=>.c o (cs.map (Option.map (Lf.ren m)))
 | .v o ts a=>.v o ts a
 | .obj o k a=>.obj o k a
 | .l o f ts a=>.l o f ts a
 | .m o kt vt cs=>.m o kt vt (cs.map (Lf.ren m))
def zge (fid:Nat) (args:List A):Nat→Nat→M (List A)
 | _,0=>pure []
 | j,n+1=>do
  let a ←emit (.call fid args j)
  let r ←zge fid args (j+1) n
  pure (a::r)
def stays (hin:List (Option Blk)) (j:Nat):Bool :=
 match nth hin j with
 | some (.c _ _)=>true
 | some (.obj _ _ _)=>true
 | some (.v o _ _)=>o
 | _=>false
def zcN (hin:List (Option Blk)) (m:List Nat) (n:Nat) (k:Nat):List Nat:=(List.range k).map fun j=>if stays hin j then rnm m j else n+j
def zbR (hin hout:List (Option Blk)) (m m1:List Nat) (dem:Bool):Nat→Nat→List (Option Blk)→List (Option Blk)
 | 0,_,hp=>hp
 | k+1,j,hp =>
  match nth hin j with
  | none=>zbR hin hout m m1 dem k (j+1) hp
  | some x =>
   if x.own then
    let y:Option Blk:=if stays hin j then (nth hout j).map (Blk.ren m1) else none
    zbR hin hout m m1 dem k (j+1) (zat y hp (rnm m j))
   else if dem then zbR hin hout m m1 dem k (j+1) (zat ((nth hp (rnm m j)).map Blk.froze) hp (rnm m j))
   else zbR hin hout m m1 dem k (j+1) hp
def zen (hin:List (Option Blk)) (m1:List Nat):Nat→List (Option Blk)→List (Option Blk)
 | _,[]=>[]
 | j,x::l=>(if stays hin j then none else x.map (Blk.ren m1))::zen hin m1 (j+1) l
def zaO (hin:List (Option Blk)):Nat→List (Option Blk)→Bool
 | _,[]=>false
 | j,x::l=>(match x with | some y=>(!y.own&&!stays hin j)||y.shr | none=>false)||zaO hin (j+1) l
def zeo : List (Option Blk) → List (Option Blk) → Bool
  | some x :: l, some y :: l' =>
    (match x, y with
     | .obj o k _, .obj o' k' _ => (!o || o') && Nat.beq k k'
     | .obj _ _ _, _ => false
     | .c _ _, .obj _ _ _ => false
     | .c _ _, .l _ _ _ _ => false
     | .c _ _, .m _ _ _ _ => false
     | .v o _ _, .v o' _ _ => !o || o'
     | .v o _ _, _ => !o
     | _, _ => true) && zeo l l'
  | _ :: l, _ :: l' => zeo l l'
  | _, _ => true
def A.const:A→Bool
 | .z _ | .t _=>true
 | _=>false
def LT.flat:LT→Bool
 | .vec _=>false
 | _=>true
def Blk.flat:Blk→Bool
 | .v _ ts _=>ts.all LT.flat
 | .c _ _=>true
 | .obj _ _ _=>true
 | .l _ _ ts _=>ts.all LT.flat
 | .m _ _ _ _=>true
def Lf.easy:Lf→Bool
 | .p _ (.c _) | .gp _ (.c _)=>true
 | .p _ _ | .gp _ _ | .alt _ _=>false
 | _=>true
def V.easy:V→Bool
 | .s v=>v.cells.all Lf.easy
 | .t l=>l.all fun v=>v.cells.all Lf.easy
def Sig.ok (sg:Sig):Bool :=
 sg.ins.all (V.tyOk A.const sg.its)&&sg.hin.all (zao (Blk.tyOk A.const sg.its))&&sg.out.tyOk A.const sg.ots&&sg.hout.all (zao (Blk.tyOk A.const sg.ots)) &&
 sg.out.lt sg.hout.length&&sg.hout.all (zao (Blk.lt sg.hout.length))&&sg.hout.all (zao Blk.flat)&&(sg.out.easy||!(sg.hin.all (zao fun b=>!b.own)&&sg.hout.isEmpty))
def zmi (P:Program) (S:Sigs) (f:FuncId) (vs:List V) (hp:List (Option Blk)):M OR:=do
 let sg ←M.lift (S.get f)
 let pat:St:=⟨sg.ins.map some,sg.hin⟩
 let act:St:=⟨vs.map some,hp⟩
 let g:=zdM sg.nin pat act
 if zo6 P f&&(pat.inst g.1).sub g.2 act&&sg.ok&&hp.all (zao (Blk.lt hp.length))&&(!zaO sg.hin 0 sg.hout||sg.hin.all (zao Blk.flat))&&zeo sg.hin sg.hout then do
  let j0 ←(if sg.need then do owe (←emit (.call f g.1 0));pure 1 else pure 0)
  let os ←zge f g.1 j0 sg.ots.length
  if sg.hin.all (zao fun b=>!b.own)&&sg.hout.isEmpty then pure (.val (sg.out.inst os))
  else
   let m1:=zcN sg.hin g.2 hp.length sg.hout.length
   let ho:=(sg.hout.map (Option.map (Blk.inst os)))
   pure (.hp (some ((sg.out.inst os).ren m1)) (zbR sg.hin ho g.2 m1 (zaO sg.hin 0 sg.hout) sg.hin.length 0 hp++zen sg.hin m1 0 ho))
 else M.fail
def opnA (a:A):Nat→List Ty→M (List A)
 | _,[]=>pure []
 | i,t::ts=>do
  let x ←emit (match t with | .i=>.lgeti 1 i a (.z 0) | .b=>.lgetb 1 i a (.z 0) | .l=>.lgetl 1 i a (.z 0))
  let r ←opnA a (i+1) ts
  pure (x::r)
def zmj (n b k:Nat):List Nat:=b::(List.range k).map fun j=>n+j
def PatD.fit (p:PatD):Bool:=p.hp.all (zao Blk.flat)&&p.hp.all (zao (Blk.lt p.hp.length))&&p.hp.all (zao (Blk.tyOk A.const p.tys))
def zq6 (o:Bool) (k b:Nat) (a:A) (hp:List (Option Blk)):M (List (Option Blk)):=do
 let p ←M.lift pats[k]?
 if zfi (k+2) p.ids&&p.fit&&hp.all (zao (Blk.lt hp.length))&&!zdr (k+2) then do
  let as ←opnA a 0 p.tys
  let l:=(p.rd o).hp.map (Option.map fun x=>(x.inst as).ren (zmj hp.length b (p.hp.length-1)))
  pure (zat (l.headD none) hp b++l.tail)
 else M.fail
def ze0 (ks:List Nat):Nat→Nat→List (Option Blk)→M (List (Option Blk))
 | 0,_,hp=>pure hp
 | n+1,j,hp =>
  if Nat.blt j hp.length then
   match nth hp j with
   | some (.obj o (k+2) a)=>if memN (k+2) ks then do ze0 ks n (j+1) (←zq6 o k j a hp) else ze0 ks n (j+1) hp
   | _=>ze0 ks n (j+1) hp
  else pure hp
def zlh (ks:List Nat) (hp:List (Option Blk)):M (List (Option Blk)):=if ks.isEmpty then pure hp else ze0 ks (hp.length+60) 0 hp
def Blk.solid:Blk→Bool
 | .l o f _ _=>o&&!f
 | b=>b.own
def zck (m:List Nat):Nat→List (Option Blk)→List (Option Blk)→List (Option Blk)
 | _,[],hp=>hp
 | j,_::l,hp =>
  match nth hp (rnm m j) with
  | some x=>if x.solid then zck m (j+1) l (zat none hp (rnm m j)) else zck m (j+1) l hp
  | none=>zck m (j+1) l hp
def zli (o:Bool) (k b:Nat) (hp:List (Option Blk)):M (List (Option Blk)):=do
 let p ←M.lift pats[k]?
 let g:=zdM p.tys.length ⟨[some (.s (.one (.p 0 (.c 0))))],p.hp⟩ ⟨[some (.s (.one (.p b (.c 0))))],hp⟩
 if zfi (k+2) p.ids&&p.fit&&Nat.beq (rnm g.2 0) b&&zcL g.2 hp 0 ((p.rd o).hp.map (Option.map (Blk.inst g.1)))&&zhx g.2 ((p.rd o).hp.map (Option.map (Blk.inst g.1))) 0 ((p.rd o).hp.map (Option.map (Blk.inst g.1)))&&!zdr (k+2) then do
  let q ←emit (.lmk p.tys g.1)
  pure (zat (some (.obj o (k+2) q)) (zck g.2 1 p.hp.tail hp) b)
 else M.fail
def zuz (b:Nat) (hp:List (Option Blk)):M (List (Option Blk)) :=
 match nth hp b with
 | some (.obj o k a)=>if zdr k then M.fail else do
  let q ←emit (.lmk [.b,.l] [.t true,a])
  pure (zat (some (.obj o (k+1000) q)) hp b)
 | _=>M.fail
def zlj (b:Nat) (hp:List (Option Blk)):M (List (Option Blk)) :=
 match nth hp b with
 | some (.obj o k a)=>if zdr k&&!zdr (k-1000) then do
   owe (←emit (.lgetb 1 0 a (.z 0)))
   let q ←emit (.lgetl 1 1 a (.z 0))
   pure (zat (some (.obj o (k-1000) q)) hp b)
  else M.fail
 | _=>M.fail
def zuA (k:Nat) (k':Nat):Bool:=zdr k'&&!zdr k
def zcD (m:List Nat):Nat→List (Option Blk)→List (Option Blk)→M (List (Option Blk))
 | _,[],hp=>pure hp
 | j,some (.obj _ (k+2) _)::l,hp =>
  match nth hp (rnm m j) with
  | some (.c o _)=>do zcD m (j+1) l (←zli o k (rnm m j) hp)
  | some (.obj _ k' _)=>if zuA (k+2) k' then do zcD m (j+1) l (←zlj (rnm m j) hp) else zcD m (j+1) l hp
  | _=>zcD m (j+1) l hp
 | j,_::l,hp=>zcD m (j+1) l hp
def zvK:Blk→Bool
 | .obj _ _ _=>true
 | _=>false
def zmk:Operand→Bool
 | .const .nilIface=>true
 | _=>false
def zpb (P : Program) (op : BinOp) (t : TypeId) (l : Lf) : Option Bool :=
  match P.underlying t with
  | some (.interface _) =>
    (match op, l with
     | .eql, .ifp _ _ => some false
     | .neq, .ifp _ _ => some true
     | .eql, .v .nilIface => some true
     | .neq, .v .nilIface => some false
     | _, _ => none)
  | _ => none
def znF (P:Program) (t:TypeId):Bool :=
 match P.underlying t with
 | some (.interface _)=>true
 | _=>false
def zc4 (P : Program) (t : TypeId) (name : String) : Option FuncId :=
  match P.info? t, tk P t with
  | some i, some (.ptr _) =>
    (match i.methods.find? (fun m => m.name == name) with
     | some m =>
       (match m.path.toList, m.func with
        | [], some (f, true) => some f
        | _, _ => none)
     | none => none)
  | _, _ => none
def Lf.isNil:Lf→Bool
 | .v (.slice none 0 0)=>true
 | _=>false
def hpLt (hp:List (Option Blk)):Bool:=hp.all (zao (Blk.lt hp.length))
def zbQ:List LT→List Lf→List (Option Blk)→M (List Lf×List (Option Blk))
 | t::lt,x::l,hp =>
  match t with
  | .vec ts =>
   if x.isNil&&Nat.blt 0 ts.length then do
    let q ←emit (.lmk [] [])
    let r ←zbQ lt l (hp++[some (.v true ts q)])
    pure (.vec hp.length::r.1,r.2)
   else do
    let r ←zbQ lt l hp
    pure (x::r.1,r.2)
  | _=>do
   let r ←zbQ lt l hp
   pure (x::r.1,r.2)
 | _,l,hp=>pure (l,hp)
def ltOf (hin:List (Option Blk)):Lf→LT
 | .vec b=>match nth hin b with
  | some (.v _ ts _)=>.vec ts
  | some (.l _ _ ts _)=>.vec ts
  | _=>.bool
 | _=>.bool
def V.cells1:V→List Lf
 | .s v=>v.cells
 | .t _=>[]
def zml:List V→List Lf→Option (List V)
 | [],[]=>some []
 | .s (.one _)::r,x::l=>(zml r l).map (.s (.one x)::·)
 | .s (.agg ys)::r,l=>if Nat.ble ys.length l.length then (zml r (l.drop ys.length)).map (.s (.agg (l.take ys.length))::·) else none
 | _,_=>none
def zq7:List LT→List Lf→Bool
 | .vec _::lt,x::l=>x.isNil||zq7 lt l
 | _::lt,_::l=>zq7 lt l
 | _,_=>false
def zlk (P:Program) (S:Sigs) (f:FuncId) (vs:List V) (hp:List (Option Blk)):M OR:=do
 let hp1 ←(match S.get f with
  | some sg=>if sg.hin.any (zqP zvK) then zcD (zdM sg.nin ⟨sg.ins.map some,sg.hin⟩ ⟨vs.map some,hp⟩).2 0 sg.hin hp else pure hp
  | none=>pure hp)
 match ←zmi P S f vs hp1 with
 | .val v=>pure (.val v)
 | .hp v hp2 =>
  if S.opn.isEmpty then pure (.hp v hp2) else
  if zao (V.lt hp2.length) v&&Nat.ble hp1.length hp2.length then do pure (.hp v (←zlh S.opn hp2)) else M.fail
def znG (P:Program) (S:Sigs) (f:FuncId) (vs:List V) (hp:List (Option Blk)):M OR:=do
 let lts:List LT:=match S.get f with
  | some sg=>(sg.ins.flatMap V.cells1).map (ltOf sg.hin)
  | none=>[]
 if zq7 lts (vs.flatMap V.cells1) then
  if hpLt hp&&(vs.flatMap V.cells1).all (Lf.lt hp.length) then do
   let q ←zbQ lts (vs.flatMap V.cells1) hp
   let us ←M.lift (zml vs q.1)
   match ←zlk P S f us q.2 with
   | .val v=>if v.lt hp.length then pure (.val v) else M.fail
   | .hp v h=>pure (.hp v h)
  else M.fail
 else zlk P S f vs hp
def zpc (p v:V):M V :=
 match p,v with
 | .s (.one (.p _ (.c 0))),.s (.one (.alt a l)) =>
  match l.filter fun x=>!x.2.isNil with
  | [x] =>
   match zaN l x.1 with
   | some (.p q 0)=>do
    owe (←emit (.eql a (.z x.1)))
    pure (.s (.one (.p q (.c 0))))
   | _=>pure v
  | _=>pure v
 | _,_=>pure v
def zll:List V→List V→M (List V)
 | p::ps,v::vs=>do
  let x ←zpc p v
  let r ←zll ps vs
  pure (x::r)
 | _,vs=>pure vs
def zfH (P:Program) (S:Sigs) (f:FuncId) (vs:List V) (hp:List (Option Blk)):M OR:=do
 let us ←zll (match S.get f with | some sg=>sg.ins | none=>[]) vs
 znG P S f us hp
def orOf (hp:List (Option Blk)):OR→M (V×List (Option Blk))
 | .val v=>pure (v,hp)
 | .hp (some v) hp'=>pure (v,hp')
 | .hp none _=>M.fail
def zq8 (n0:Nat) (c:A) (x y:V×List (Option Blk)):M (V×List (Option Blk)):=do
 let s ←zfD n0 c ⟨[some x.1],x.2⟩ ⟨[some y.1],y.2⟩
 match s.sl with
 | [some v]=>pure (v,s.hp)
 | _=>M.fail
def zgf (P:Program) (S:Sigs) (name:String) (vs:List V) (hp:List (Option Blk)) (a:A):List (Nat×Alt)→M (V×List (Option Blk))
 | []=>M.fail
 | x::l =>
  match x.2 with
  | .ifp t b=>do
   let f ←M.lift (zc4 P t name)
   if l.isEmpty then do
    orOf hp (←zfH P S f (.s (.one (.p b (.c 0)))::vs) hp)
   else do
    let c ←emit (.eql a (.z x.1))
    let u ←under c true (do orOf hp (←zfH P S f (.s (.one (.p b (.c 0)))::vs) hp))
    let v ←under c false (zgf P S name vs hp a l)
    zq8 hp.length c u v
  | _=>M.fail
def zq9 (ks:List Nat) (s:St):M St :=
 if ks.isEmpty then pure s else
 if s.sl.all (zao (V.lt s.hp.length)) then do pure ⟨s.sl,←zlh ks s.hp⟩ else M.fail
def znH (n:Nat) (pat:St) (z:St):M St :=
 if pat.hp.any (zqP zvK) then do pure ⟨z.sl,←zcD (zdM n pat z).2 0 pat.hp z.hp⟩ else pure z
def zib (P:Program) (f:FuncId):Option Bool :=
 match P.funcs[f]? with
 | some fn => if fn.body.isNone && fn.origin == "" then (if fn.name == "math/bits.Add64" then some true else if fn.name == "math/bits.Sub64" then some false else none) else none
 | none=>none
def oweU (a:A):M Unit:=do
 owe (←emit (.geq a (.z 0)))
 owe (←emit (.lss a (.z 18446744073709551616)))
def znI (add:Bool) (a b q:A):M OR:=do
 oweU a
 oweU b
 owe (←emit (.geq q (.z 0)))
 owe (←emit (.lss q (.z 2)))
 let one ←emit (.eql q (.z 1))
 let s1 ←emit (if add then .add .u64 a b else .sub .u64 a b)
 let s ←emit (if add then .add .u64 s1 q else .sub .u64 s1 q)
 let low ←emit (if add then .lss s a else .lss a b)
 let same ←emit (if add then .eql s a else .eql a b)
 let both ←emit (.and one same)
 let c ←emit (.or low both)
 let k ←emit (.itei c (.z 1) (.z 0))
 pure (.val (.t [.one (.i .u64 s),.one (.i .u64 k)]))
def zpd (r:RS) (ctx:Ctx) (c a b:Operand):M V:=do
 match rd r ctx c with
 | some (.s (.one (.b (.t true))))=>M.lift (rd r ctx a)
 | some (.s (.one (.b (.t false))))=>M.lift (rd r ctx b)
 | some (.s (.one (.b x)))=>do
  let (ca,cb):=match c with
   | .tmp t=>((t,true)::ctx,(t,false)::ctx)
   | _=>(ctx,ctx)
  let va ←M.lift (rd r ca a)
  let vb ←M.lift (rd r cb b)
  zfE x va vb
 | _=>M.fail
def zkb (hp:List (Option Blk)) (b:Nat):Option (Bool×List LT×A) :=
 match nth hp b with
 | some (.v o ts a)=>some (o,ts,a)
 | _=>none
def zcY (hp:List (Option Blk)) (b:Nat):Option (Bool×List LT×A) :=
 match nth hp b with
 | some (.v o ts a)=>some (o,ts,a)
 | some (.l _ _ ts a)=>some (false,ts,a)
 | _=>none
def zfn (P:Program) (t:TypeId):Option Nat:=(P.info? t).map (·.bytes)
def zep (bytes:Nat):Nat:=70368744177664/(bytes+1)
def zgg (a b:A):M Unit :=
 match a,b with
 | .z m,.z n=>if m≤n then pure () else M.fail
 | a,b=>do owe (←emit (.leq a b))
def zmm:LT→Ty
 | .int _=>.i
 | .bool=>.b
 | .vec _=>.l
def zkl (t:LT) (x:Lf):Option A :=
 match t,x with
 | .int k,.i k' a=>if kEq k k' then some a else none
 | .bool,.b a=>some a
 | _,_=>none
def zbx:List Lf→Option (List LT)
 | []=>some []
 | .i k _::l=>(zbx l).map (LT.int k::·)
 | .b _::l=>(zbx l).map (LT.bool::·)
 | _::_=>none
def zcA (ts:List LT):Nat→List (Option Lf)→Option (List Ty×List A)
 | _,[]=>some ([],[])
 | i,c::cs =>
  match c.bind (zkl (ts.getD (i%ts.length) .bool)) with
  | none=>none
  | some a =>
   match zcA ts (i+1) cs with
   | none=>none
   | some r=>some (zmm (ts.getD (i%ts.length) .bool)::r.1,a::r.2)
def znJ (ts:List LT) (cs:List Lf):M A :=
 match cs with
 | .e t a i0::l =>
  if rowE t a 1 i0 (.e t a i0::l)&&ts.all (fun u=>t.feq u)&&Nat.beq ts.length (l.length+1) then emit (.lsub (l.length+1) 1 i0 a (.z 0)) else M.fail
 | cs=>do
  let r ←M.lift (zcA ts 0 (cs.map some))
  emit (.lmk r.1 r.2)
def zuB (P:Program) (hp:List (Option Blk)) (t:TypeId) (v:V):M V:=do
 match ←M.lift (P.underlying t),v with
 | .slice _,.s (.one (.vec b)) =>
  let r ←M.lift (zcY hp b)
  pure (.s (.one (.i .i64 (←emit (.llen r.2.1.length r.2.2)))))
 | .slice _,.s (.one (.v (.slice none 0 0)))=>pure (.s (.one (.i .i64 (.z 0))))
 | .string,.s (.one (.v (.string s)))=>pure (.s (.one (.i .i64 (.z s.size))))
 | .string,.s (.one (.str a))=>do pure (.s (.one (.i .i64 (←emit (.llen 1 a)))))
 | .array n _,_=>pure (.s (.one (.i .i64 (.z n))))
 | _,_=>M.fail
def zmn (P:Program) (hp:List (Option Blk)) (src dst:TypeId) (b:Nat):M V:=do
 match ←M.lift (tk P src),←M.lift (P.underlying dst) with
 | .slice e,.string =>
  match ←M.lift (tk P e),←M.lift (zcY hp b) with
  | .int .u8,(_,[.int .u8],a)=>pure (.s (.one (.str a)))
  | _,_=>M.fail
 | _,_=>M.fail
def zg7 (P:Program) (hp:List (Option Blk)) (t:TypeId) (b:Nat) (ix:Lf):M Lf:=do
 match ←M.lift (tk P t),ix with
 | .slice elem,.i _ i =>
  let sz ←M.lift (zaM P elem)
  let r ←M.lift (zcY hp b)
  if Nat.beq sz r.2.1.length then do
   zek i
   let n ←emit (.llen r.2.1.length r.2.2)
   owe (←emit (.lss i n))
   pure (.p b (.v 0 i sz r.2.2))
  else M.fail
 | _,_=>M.fail
def zg8 (sz:Nat) (ix a0 a:A):M Unit :=
 if a0.beq a then pure () else do
  let n ←emit (.llen sz a)
  owe (←emit (.lss ix n))
def zg9 (sz j:Nat) (a ix:A):LT→M Lf
 | .int k=>do pure (.i k (←emit (.lgeti sz j a ix)))
 | .bool=>do pure (.b (←emit (.lgetb sz j a ix)))
 | .vec _=>M.fail
def zeq (ts:List LT) (a ix:A):Nat→Nat→M (List Lf)
 | _,0=>pure []
 | j,n+1=>do
  let x ←zg9 ts.length j a ix (ts.getD j .bool)
  let r ←zeq ts a ix (j+1) n
  pure (x::r)
def allE (t:LT) (a:A):Nat→Nat→List Lf
 | _,0=>[]
 | i,n+1=>.e t a i::allE t a (i+1) n
def zra (ts:List LT) (base size:Nat):Option LT :=
 match (ts.drop base).take size with
 | t::l=>if Nat.ble 8 size&&Nat.beq size (l.length+1)&&t.flat&&l.all (fun u=>t.feq u) then some t else none
 | []=>none
def zfI (ts:List LT) (a:A) (off:Off) (agg:Bool) (size:Nat):M V1:=do
 match off with
 | .v base ix sz a0 =>
  if Nat.beq sz ts.length&&Nat.ble (base+size) sz then do
   zg8 sz ix a0 a
   if agg then
    match zra ts base size with
    | some t=>do
     let q ←emit (.lsub size sz base a ix)
     pure (.agg (allE t q 0 size))
    | none=>do pure (.agg (←zeq ts a ix base size))
   else if Nat.blt base sz then do pure (.one (←zg9 ts.length base a ix (ts.getD base .bool)))
   else M.fail
  else M.fail
 | .w base ix sz a0 ix2 sz2 len2 =>
  if !agg&&Nat.beq sz ts.length&&Nat.ble (base+len2) sz&&Nat.beq sz2 1 then do
   zg8 sz ix a0 a
   let l ←zeq ts a ix base len2
   pure (.one (←zel l ix2))
  else M.fail
 | _=>M.fail
def zdu (ts:List LT) (a ix:A):Nat→Nat→List (Option Blk)→M (List Lf×List (Option Blk))
 | _,0,hp=>pure ([],hp)
 | j,n+1,hp=>do
  match ts.getD j .bool with
  | .vec us =>
   if us.all LT.flat then do
    let q ←emit (.lgetl ts.length j a ix)
    let r ←zdu ts a ix (j+1) n (hp++[some (.v false us q)])
    pure (.vec hp.length::r.1,r.2)
   else M.fail
  | t=>do
   let x ←zg9 ts.length j a ix t
   let r ←zdu ts a ix (j+1) n hp
   pure (x::r.1,r.2)
def zic (ts:List LT) (a:A) (off:Off) (agg:Bool) (size:Nat) (hp:List (Option Blk)):M (V1×List (Option Blk)):=do
 match off with
 | .v base ix sz a0 =>
  if Nat.beq sz ts.length&&Nat.ble (base+size) sz&&(agg||Nat.beq size 1) then do
   zg8 sz ix a0 a
   let q ←zdu ts a ix base size hp
   if agg then pure (.agg q.1,q.2)
   else
    match q.1 with
    | [x]=>pure (.one x,q.2)
    | _=>M.fail
  else M.fail
 | .w _ _ _ _ _ _ _=>do
  let v ←zfI ts a off agg size
  pure (v,hp)
 | _=>M.fail
def zgh (ts:List LT) (ix:A):Nat→A→List Lf→M A
 | _,a,[]=>pure a
 | j,a,x::l=>do
  let v ←M.lift (zkl (ts.getD j .bool) x)
  let a1 ←emit (.lset ts.length j (zmm (ts.getD j .bool)) a ix v)
  zgh ts ix (j+1) a1 l
def zlm (ts:List LT) (a:A) (off:Off) (xs:List Lf):M A:=do
 match off with
 | .v base ix sz a0 =>
  if Nat.beq sz ts.length&&Nat.ble (base+xs.length) sz then do
   zg8 sz ix a0 a
   zgh ts ix base a xs
  else M.fail
 | _=>M.fail
def zrb (P:Program) (hp:List (Option Blk)) (t:TypeId) (l c:Lf):M OR:=do
 match ←M.lift (tk P t),l,c with
 | .slice elem,.i _ n,.i _ m =>
  let z ←M.lift (zeroCells P elem)
  let ts ←M.lift (zbx z)
  let r ←M.lift (zcA ts 0 (z.map some))
  let sz ←M.lift (zaM P elem)
  let by_ ←M.lift (zfn P elem)
  if Nat.beq sz z.length&&Nat.blt 0 sz&&hpLt hp then do
   zek n
   zgg n m
   zgg m (.z (zep by_))
   let q ←emit (.lrep n r.1 r.2)
   pure (.hp (some (.s (.one (.vec hp.length)))) (hp++[some (.v true ts q)]))
  else M.fail
 | _,_,_=>M.fail
def zgi (P:Program) (hp:List (Option Blk)) (t tx:TypeId) (s x:V):M OR:=do
 match ←M.lift (tk P t),←M.lift (tk P tx),s,x with
 | .slice elem,.slice _,.s (.one (.vec b)),.s (.one (.vec c)) =>
  let r ←M.lift (zkb hp b)
  let u ←M.lift (zcY hp c)
  let z ←M.lift (zeroCells P elem)
  let sz ←M.lift (zaM P elem)
  let by_ ←M.lift (zfn P elem)
  if r.1&&!Nat.beq b c&&LTs.beq r.2.1 u.2.1&&Nat.beq sz r.2.1.length&&Nat.beq sz z.length&&hpLt hp then do
   let q ←emit (.lcat r.2.2 u.2.2)
   let n ←emit (.llen sz q)
   zgg n (.z (zep by_))
   pure (.hp (some (.s (.one (.vec hp.length)))) (zat none hp b++[some (.v true r.2.1 q)]))
  else M.fail
 | _,_,_,_=>M.fail
def zio (sz:Nat) (a:A):Option Lf→M (A×A)
 | none=>do
  let n ←emit (.llen sz a)
  pure (a,n)
 | some (.i _ h)=>do
  zek h
  let n ←emit (.llen sz a)
  zgg h n
  let q ←emit (.ltake sz a h)
  pure (q,h)
 | _=>M.fail
def zmo (sz:Nat) (a n:A):Option Lf→M A
 | none=>pure a
 | some (.i _ l)=>do
  zek l
  zgg l n
  emit (.ldrop sz a l)
 | _=>M.fail
def zer (r:RS) (ctx:Ctx):Option Operand→Option (Option Lf)
 | none=>some none
 | some x =>
  match rd r ctx x with
  | some (.s (.one l))=>some (some l)
  | _=>none
def znK (P:Program) (hp:List (Option Blk)) (t:TypeId) (x:V) (low high:Option Lf):M OR:=do
 match ←M.lift (tk P t),x with
 | .slice elem,.s (.one (.vec b)) =>
  let sz ←M.lift (zaM P elem)
  let r ←M.lift (zkb hp b)
  if Nat.beq sz r.2.1.length&&hpLt hp then do
   let q ←zio sz r.2.2 high
   let q2 ←zmo sz q.1 q.2 low
   pure (.hp (some (.s (.one (.vec hp.length)))) ((if r.1 then zat none hp b else hp)++[some (.v r.1 r.2.1 q2)]))
  else M.fail
 | .arr n elem,.s (.one (.p b (.c 0))) =>
  match ←M.lift (nth hp b) with
  | .c o cs =>
   let sz ←M.lift (zaM P elem)
   let z ←M.lift (zeroCells P elem)
   let ts ←M.lift (zbx z)
   let r ←M.lift (zcA ts 0 cs)
   if Nat.beq sz ts.length&&Nat.blt 0 sz&&Nat.beq cs.length (n*sz)&&Nat.ble n 16777216&&hpLt hp then do
    let q0 ←emit (.lmk r.1 r.2)
    let q ←zio sz q0 high
    let q2 ←zmo sz q.1 q.2 low
    pure (.hp (some (.s (.one (.vec hp.length)))) (zat none hp b++[some (.v o ts q2)]))
   else M.fail
  | _=>M.fail
 | _,_=>M.fail
def zes (P:Program) (hp:List (Option Blk)) (t:TypeId) (len:Nat) (parts:List (Nat×V1)):M OR:=do
 match ←M.lift (tk P t) with
 | .slice elem =>
  let sz ←M.lift (zaM P elem)
  let z ←M.lift (zeroCells P elem)
  let ts ←M.lift (zbx z)
  let cs ←M.lift (zgd (fun i=>some (i*sz,sz)) (List.replicate len z).flatten parts)
  if Nat.beq sz z.length&&Nat.blt 0 sz&&Nat.ble (len*sz) 16777216&&hpLt hp then do
   let q ←znJ ts cs
   pure (.hp (some (.s (.one (.vec hp.length)))) (hp++[some (.v true ts q)]))
  else M.fail
 | _=>M.fail
def zt4 (rec:TypeId→Option (List LT)):List (Nat×Nat)→Option (List LT)
 | []=>some []
 | f::fs =>
  match rec f.2,zt4 rec fs with
  | some l,some r=>some (l++r)
  | _,_=>none
def zrc (P:Program):Nat→TypeId→Option (List LT)
 | 0,_=>none
 | d+1,t =>
  match tk P t with
  | some (.int k)=>some [.int k]
  | some .bool=>some [.bool]
  | some (.arr n e)=>(zrc P d e).map fun l=>(List.replicate n l).flatten
  | some (.struct fs)=>zt4 (zrc P d) fs
  | some (.slice e)=>(zrc P d e).map fun l=>[.vec l]
  | some (.ptr _)=>some [.bool]
  | some .other=>some [.bool]
  | none=>none
def ziq (P:Program) (hp:List (Option Blk)) (t tx:TypeId) (s x:V):M OR :=
 match s with
 | .s (.one l) =>
  if l.isNil&&hpLt hp&&x.lt hp.length then do
   match ←M.lift (tk P t) with
   | .slice elem=>do
    let z ←M.lift (zeroCells P elem)
    let ts ←M.lift (zbx z)
    let q ←zbQ [.vec ts] [l] hp
    match q.1 with
    | [l']=>zgi P q.2 t tx (.s (.one l')) x
    | _=>M.fail
   | _=>M.fail
  else zgi P hp t tx s x
 | _=>zgi P hp t tx s x
def znL (hp:List (Option Blk)) (b:Nat):Option (Bool×Bool×List LT×A) :=
 match nth hp b with
 | some (.l o f ts a)=>some (o,f,ts,a)
 | _=>none
def zvL (hp:List (Option Blk)):V→Bool
 | .s (.one (.vec b))=>(znL hp b).isSome
 | _=>false
def killSolid (hp:List (Option Blk)) (b:Nat):List (Option Blk) :=
 match nth hp b with
 | some x=>if x.solid then zat none hp b else hp
 | none=>hp
def zir (P:Program) (hp:List (Option Blk)) (t tx:TypeId) (s x:V):M OR:=do
 match ←M.lift (tk P t),←M.lift (tk P tx),s,x with
 | .slice elem,.slice _,.s (.one (.vec b)),.s (.one (.vec c)) =>
  let r ←M.lift (znL hp b)
  let u ←M.lift (zcY hp c)
  let z ←M.lift (zeroCells P elem)
  let sz ←M.lift (zaM P elem)
  let by_ ←M.lift (zfn P elem)
  if r.1&&!Nat.beq b c&&LTs.beq r.2.2.1 u.2.1&&Nat.beq sz r.2.2.1.length&&Nat.beq sz z.length&&hpLt hp then do
   let q ←emit (.lcat r.2.2.2 u.2.2)
   let n ←emit (.llen sz q)
   zgg n (.z (zep by_))
   pure (.hp (some (.s (.one (.vec hp.length)))) (killSolid hp b++[some (.l true false r.2.2.1 q)]))
  else M.fail
 | _,_,_,_=>M.fail
def zis (P:Program) (hp:List (Option Blk)) (t tx:TypeId) (s x:V):M OR:=if zvL hp s then zir P hp t tx s x else ziq P hp t tx s x
def zln (P:Program) (hp:List (Option Blk)) (t:TypeId) (x:V) (low:Option Lf):M OR:=do
 match ←M.lift (tk P t),x with
 | .slice elem,.s (.one (.vec b)) =>
  let sz ←M.lift (zaM P elem)
  let r ←M.lift (znL hp b)
  if Nat.beq sz r.2.2.1.length&&hpLt hp then do
   let q ←zio sz r.2.2.2 none
   let q2 ←zmo sz q.1 q.2 low
   pure (.hp (some (.s (.one (.vec hp.length)))) (killSolid hp b++[some (.l r.1 r.2.1 r.2.2.1 q2)]))
  else M.fail
 | _,_=>M.fail
def zlo (P:Program) (hp:List (Option Blk)) (t:TypeId) (x:V) (high max:Lf):M OR:=do
 match ←M.lift (tk P t),x,high,max with
 | .slice elem,.s (.one (.vec b)),.i _ h,.i _ m =>
  let sz ←M.lift (zaM P elem)
  let r ←M.lift (zcY hp b)
  if Nat.beq sz r.2.1.length&&hpLt hp then do
   zek h
   let e ←emit (.eql h m)
   owe e
   let n ←emit (.llen sz r.2.2)
   zgg h n
   let q ←emit (.ltake sz r.2.2 h)
   pure (.hp (some (.s (.one (.vec hp.length)))) (killSolid hp b++[some (.l true true r.2.1 q)]))
  else M.fail
 | _,_,_,_=>M.fail
def zlp (P:Program) (hp:List (Option Blk)) (t:TypeId) (x:V) (low high max:Option Lf):M OR :=
 match max with
 | some m =>
  match low,high with
  | none,some h=>zlo P hp t x h m
  | _,_=>M.fail
 | none =>
  if zvL hp x then
   match high with
   | none=>zln P hp t x low
   | some _=>M.fail
  else znK P hp t x low high
def zhz:List Lf→Option (List Ty×List A)
 | []=>some ([],[])
 | .i _ a::l=>match zhz l with | some r=>some (.i::r.1,a::r.2) | none=>none
 | .b a::l=>match zhz l with | some r=>some (.b::r.1,a::r.2) | none=>none
 | _::_=>none
def zhA (a:A):Nat→List Lf→List Lf
 | _,[]=>[]
 | i,.i k _::l=>.e (.int k) a i::zhA a (i+1) l
 | i,.b _::l=>.e .bool a i::zhA a (i+1) l
 | i,x::l=>x::zhA a (i+1) l
def zuC (z:List Lf) (o n:Nat):M (List Lf) :=
 match zhz ((z.drop o).take n) with
 | none=>pure z
 | some r=>do
  let a ←emit (.lmk r.1 r.2)
  pure (z.take o++zhA a 0 ((z.drop o).take n)++(z.drop o).drop n)
def zdQ:List (Nat×Nat)→List Lf→M (List Lf)
 | [],z=>pure z
 | g::gs,z=>do
  let z1 ←zuC z g.1 g.2
  zdQ gs z1
def zt5 (rec:TypeId→Nat→List (Nat×Nat)) (o:Nat):List (Nat×TypeId)→List (Nat×Nat)
 | []=>[]
 | f::fs=>rec f.2 (o+f.1)++zt5 rec o fs
def zmp (P:Program):Nat→TypeId→Nat→List (Nat×Nat)
 | 0,_,_=>[]
 | d+1,t,o =>
  match tk P t with
  | some (.arr _ _)=>match zaM P t with | some n=>if Nat.ble 8 n then [(o,n)] else [] | none=>[]
  | some (.struct fs)=>zt5 (zmp P d) o fs
  | _=>[]
def zhB (hp:List (Option Blk)) (cs:List Lf):M OR :=
 if hp.all (zao (Blk.lt hp.length))&&cs.all (Lf.lt hp.length) then pure (.hp (some (.s (.one (.p hp.length (.c 0))))) (hp++[some (.c true (cs.map some))])) else M.fail
def zha (P:Program) (r:RS) (ctx:Ctx) (t:TypeId) (x y:Operand):M (List (Option Blk)):=do
 match ←M.lift (rd r ctx x),←M.lift (rd r ctx y) with
 | .s (.one (.p b off)),.s v=>do
  let sz ←M.lift (zaM P t)
  match ←M.lift (nth r.st.hp b) with
  | .c true cs =>
   if Nat.beq v.cells.length sz&&v.cells.all Lf.ok then do
    pure (zat (some (.c true (←zem cs off v.cells))) r.st.hp b)
   else M.fail
  | .v true ts a =>
   if Nat.beq v.cells.length sz&&Nat.blt 0 sz then do
    pure (zat (some (.v true ts (←zlm ts a off v.cells))) r.st.hp b)
   else M.fail
  | _=>M.fail
 | _,_=>M.fail
def zpV:V→Option Nat
 | .s (.one (.p b (.c 0)))=>some b
 | _=>none
def fnOf:Option V→Option (Nat×List Nat)
 | some (.s (.one (.v (.func (.func f) a b))))=>if Nat.beq a.size 0&&Nat.beq b.size 0 then some (f,[]) else none
 | some (.s (.one (.fnp f bs)))=>some (f,bs)
 | _=>none
def tk0 (P:Program) (t:TypeId):Option TypeDesc:=P.underlying t
def evOp (P:Program) (S:Sigs) (r:RS) (ctx:Ctx) (op:Op):M OR :=
 match op with
 | .move x=>do pure (.val (←M.lift (rd r ctx x)))
 | .assign x=>do pure (.val (←M.lift (rd r ctx x)))
 | .pick c a b=>do pure (.val (←zpd r ctx c a b))
 | .build t parts=>do
  let ps ←M.lift (zcM r ctx parts.toList)
  pure (.val (.s (.agg (←M.lift (zlg P t ps)))))
 | .alloc t=>do
  let z ←M.lift (zeroCells P t)
  if z.any Lf.isNil then
   if hpLt r.st.hp then do
    let q ←zbQ ((zrc P 20 t).getD []) z r.st.hp
    zhB q.2 (←zdQ (zmp P 60 t 0) q.1)
   else M.fail
  else do
   zhB r.st.hp (←zdQ (zmp P 60 t 0) z)
 | .box t x=>do
  match ←M.lift (rd r ctx x) with
  | .s v =>
   if v.cells.all Lf.ok then
    if v.cells.any Lf.isNil then
     if hpLt r.st.hp&&v.cells.all (Lf.lt r.st.hp.length) then do
      let q ←zbQ ((zrc P 20 t).getD []) v.cells r.st.hp
      zhB q.2 (←zdQ (zmp P 60 t 0) q.1)
     else M.fail
    else do
     zhB r.st.hp (←zdQ (zmp P 60 t 0) v.cells)
   else M.fail
  | _=>M.fail
 | .load t x=>do
  match ←M.lift (rd r ctx x) with
  | .s (.one (.p blk off))=>do
   let k ←M.lift (tk P t)
   let sz ←M.lift (zaM P t)
   match ←M.lift (nth r.st.hp blk) with
   | .c _ cs=>pure (.val (.s (←zds cs off (zb0 k) sz)))
   | .v _ ts a =>
    if ts.all LT.flat then do pure (.val (.s (←zfI ts a off (zb0 k) sz)))
    else if hpLt r.st.hp then do
     let q ←zic ts a off (zb0 k) sz r.st.hp
     pure (.hp (some (.s q.1)) q.2)
    else M.fail
   | .l _ _ ts a=>if ts.all LT.flat then do pure (.val (.s (←zfI ts a off (zb0 k) sz))) else M.fail
   | .obj _ _ _=>M.fail
   | .m _ _ _ _=>M.fail
  | .s (.one (.gp g off))=>do
   let k ←M.lift (tk P t)
   let sz ←M.lift (zaM P t)
   let cs ←M.lift (assoc S.gs g)
   let v ←zds (cs.map some) off (zb0 k) sz
   if v.cells.all Lf.scalar then pure (.val (.s v)) else M.fail
  | _=>M.fail
 | .store t x y=>do pure (.hp none (←zha P r ctx t x y))
 | .nilCheck x=>do
  match ←M.lift (rd r ctx x) with
  | .s (.one (.p b off))=>pure (.val (.s (.one (.p b off))))
  | .s (.one (.fnp f bs))=>pure (.val (.s (.one (.fnp f bs))))
  | .s (.one (.alt a l))=>do pure (.val (.s (.one (←zle a l))))
  | _=>M.fail
 | .binOp op t x y _ =>
  if zmk y then do
   match ←M.lift (rd r ctx x) with
   | .s (.one (.alt a l))=>do
    if znF P t then
     match op with
     | .eql=>do pure (.val (.s (.one (←zin true false a l))))
     | .neq=>do pure (.val (.s (.one (←zin true true a l))))
     | _=>M.fail
    else M.fail
   | .s (.one l)=>do
    let q ←M.lift (zpb P op t l)
    pure (.val (.s (.one (.b (.t q)))))
   | _=>M.fail
  else do pure (.val (←zq4 P op t (←M.lift (rd r ctx x)) (←M.lift (rd r ctx y))))
 | .unOp op _ x=>do
  match ←M.lift (rd r ctx x) with
  | .s (.one l)=>pure (.val (.s (.one (←evUn op l))))
  | _=>M.fail
 | .convert a b x=>do
  match ←M.lift (rd r ctx x) with
  | .s (.one (.vec q))=>do pure (.val (←zmn P r.st.hp a b q))
  | .s (.one l)=>pure (.val (.s (.one (←zq5 P a b l))))
  | _=>M.fail
 | .fieldAddr t x f=>do
  match ←M.lift (rd r ctx x) with
  | .s (.one l)=>pure (.val (.s (.one (←zfG P t l f))))
  | _=>M.fail
 | .field t x f=>do
  match ←M.lift (rd r ctx x) with
  | .s (.agg l)=>pure (.val (.s (←znE P t l f)))
  | _=>M.fail
 | .indexAddr t x ix=>do
  match ←M.lift (rd r ctx x),←M.lift (rd r ctx ix) with
  | .s (.one (.vec b)),.s (.one i)=>pure (.val (.s (.one (←zg7 P r.st.hp t b i))))
  | .s (.one l),.s (.one i)=>pure (.val (.s (.one (←zfF P t l i))))
  | _,_=>M.fail
 | .buildSlice t len parts=>do
  let ps ←M.lift (zcM r ctx parts.toList)
  zes P r.st.hp t len ps
 | .makeSlice t l c=>do
  match ←M.lift (rd r ctx l),←M.lift (rd r ctx c) with
  | .s (.one a),.s (.one b)=>zrb P r.st.hp t a b
  | _,_=>M.fail
 | .slice t x low high max=>do
  let v ←M.lift (rd r ctx x)
  let lo ←M.lift (zer r ctx low)
  let hi ←M.lift (zer r ctx high)
  let mx ←M.lift (zer r ctx max)
  zlp P r.st.hp t v lo hi mx
 | .index t x ix=>do
  match ←M.lift (rd r ctx x),←M.lift (rd r ctx ix) with
  | .s (.agg l),.s (.one i)=>pure (.val (.s (←znD P t l i)))
  | .s (.one (.v (.string s))),.s (.one (.i _ a))=>do
   match ←M.lift (tk0 P t) with
   | .string =>
    zc3 a s.size
    pure (.val (.s (.one (.i .u8 (←emit (.seli (s.data.toList.map fun b=>.z b.toNat) a))))))
   | _=>M.fail
  | _,_=>M.fail
 | .extract x n=>do
  match ←M.lift (rd r ctx x) with
  | .t l=>pure (.val (.s (←M.lift l[n]?)))
  | _=>M.fail
 | .makeFunc fn first cap =>
  match fn with
  | .func f=>do
   let vs ←M.lift (zcz r ctx cap.toList)
   let bs ←M.lift (zbw zpV vs)
   if first.isEmpty then pure (.val (.s (.one (.fnp f bs)))) else M.fail
  | _=>M.fail
 | .makeInterface t x=>do
  match ←M.lift (rd r ctx x) with
  | .s (.one (.p b (.c 0)))=>do
   match ←M.lift (tk P t) with
   | .ptr _=>pure (.val (.s (.one (.ifp t b))))
   | _=>M.fail
  | _=>M.fail
 | .call c =>
  match c.callee with
  | .value x=>do
   let (f,bs) ←M.lift (fnOf (rd r ctx x))
   let vs ←M.lift (zcz r ctx c.args.toList)
   match zib P f,vs,bs with
   | some add,[.s (.one (.i .u64 a)),.s (.one (.i .u64 b)),.s (.one (.i .u64 q))],[]=>znI add a b q
   | some _,_,_=>M.fail
   | none,_,_=>zfH P S f (vs++bs.map fun b=>.s (.one (.p b (.c 0)))) r.st.hp
  | .builtin b=>do
   let vs ←M.lift (zcz r ctx c.args.toList)
   match b,vs with
   | .max,[.s (.one (.i k a)),.s (.one (.i k' b))] =>
    if kEq k k' then do
     match a,b with
     | .z m,.z n=>pure (.val (.s (.one (.i k (.z (if n>m then n else m))))))
     | a,b=>do
      let c ←emit (.gtr b a)
      pure (.val (.s (.one (.i k (←zf8 c b a)))))
    else M.fail
   | .min,[.s (.one (.i k a)),.s (.one (.i k' b))] =>
    if kEq k k' then do
     match a,b with
     | .z m,.z n=>pure (.val (.s (.one (.i k (.z (if n<m then n else m))))))
     | a,b=>do
      let c ←emit (.lss b a)
      pure (.val (.s (.one (.i k (←zf8 c b a)))))
    else M.fail
   | .len,[v]=>do pure (.val (←zuB P r.st.hp (←M.lift c.argTypes[0]?) v))
   | .append,[s,x]=>do zis P r.st.hp (←M.lift c.argTypes[0]?) (←M.lift c.argTypes[1]?) s x
   | _,_=>M.fail
  | .invoke x name=>do
   match ←M.lift (rd r ctx x) with
   | .s (.one (.ifp t b))=>do
    let f ←M.lift (zc4 P t name)
    let vs ←M.lift (zcz r ctx c.args.toList)
    zfH P S f (.s (.one (.p b (.c 0)))::vs) r.st.hp
   | .s (.one (.alt a l))=>do
    let vs ←M.lift (zcz r ctx c.args.toList)
    if zdP true (zaF l) l&&r.st.hp.all (zao (Blk.lt r.st.hp.length)) then do
     let c ←emit (.neq a (.z (zaF l)))
     owe c
     let z ←zgf P S name vs r.st.hp a (l.filter fun x=>!x.2.isNil)
     pure (.hp (some z.1) z.2)
    else M.fail
   | _=>M.fail
 | _=>M.fail
def zit (d:Nat) (l:List GE):Bool:=l.all fun e=>!Nat.beq e.d d
def zpe (t:Nat) (l:List GE):List GE:=l.filter fun e=>!Nat.beq e.t t
def RS.put (r:RS) (dst:Option Tmp) (v:Option V):M RS :=
 match dst with
 | none=>pure r
 | some d=>if zit d r.gl then pure ⟨⟨zat v r.st.sl d,r.st.hp⟩,zpe d r.gl⟩ else M.fail
def RS.putG (r:RS) (dst:Option Tmp) (v:V) (d:Nat) (want:Bool):M RS :=
 match dst with
 | none=>pure r
 | some t =>
  if zit t r.gl&&!Nat.beq t d&&decide (t<r.st.sl.length) then pure ⟨⟨zat none r.st.sl t,r.st.hp⟩,⟨t,v,d,want⟩::zpe t r.gl⟩ else M.fail
def St.lt (s:St) (n:Nat):Bool:=s.sl.all (zao (V.lt n))&&s.hp.all (zao (Blk.lt n))
def zet (q:Bool) (r:RS) (dst:Option Tmp) (x:OR):M RS :=
 match x with
 | .val v=>r.put dst (some v)
 | .hp v hp =>
  if !q&&(r.st.sl.all (zao (V.lt r.st.hp.length))&&r.gl.all (fun e=>e.v.lt r.st.hp.length)) then RS.put ⟨⟨r.st.sl,hp⟩,r.gl⟩ dst v
  else M.fail
def zlq (r:RS) (dst:Option Tmp) (d:Nat) (want:Bool) (x:OR):M RS :=
 match x with
 | .val v=>r.putG dst v d want
 | _=>M.fail
def conj:List (A×Bool)→M A
 | []=>pure (.t true)
 | (a,b)::l=>do
  let x ←(if b then pure a else znx a)
  let r ←conj l
  zqM x r
def zdR:List (Option Blk)→M (List (Option Blk))
 | []=>pure []
 | b::l =>
  match b with
  | some (.v o ts _) =>
   if Nat.ble 1 ts.length then do
    let q ←emit (.lmk [] [])
    let r ←zdR l
    pure (some (.v o ts q)::r)
   else do
    let r ←zdR l
    pure (none::r)
  | _=>do
   let r ←zdR l
   pure (none::r)
def ziu (r:RS) (dst:Option Tmp) (d:Nat) (want:Bool) (cs:List (A×Bool)) (n0:Nat) (v:Option V) (hp:List (Option Blk)):M RS :=
 if r.st.sl.all (zao (V.lt r.st.hp.length))&&r.gl.all (fun e=>e.v.lt r.st.hp.length)&&Nat.ble n0 r.st.hp.length&&Nat.ble r.st.hp.length hp.length&&hpLt r.st.hp then do
  let c ←conj cs
  let t ←zdR (hp.drop r.st.hp.length)
  let s ←zfD hp.length c ⟨r.st.sl,hp⟩ ⟨r.st.sl,r.st.hp++t⟩
  match v with
  | some v=>if v.lt hp.length then RS.putG ⟨s,r.gl⟩ dst v d want else M.fail
  | none=>RS.put ⟨s,r.gl⟩ dst none
 else M.fail
def zkm (P:Program) (S:Sigs) (q:Bool) (ops:List Oper) (r:RS) (o:Oper):M RS :=
 match o.guard with
 | none=>do
  let x ←evOp P S r [] o.op
  zet q r o.dst x
 | some (j,want)=>do
  let d ←M.lift ((ops[j]?).bind (·.dst))
  match ←M.lift (zbN r 8 d want) with
  | none=>r.put o.dst (some zc2)
  | some (ctx,cs) =>
   match ctx with
   | []=>do
    let x ←evOp P S r [] o.op
    zet q r o.dst x
   | _=>do
    let x ←zgb cs (evOp P S r ctx o.op)
    match x with
    | .hp v hp=>if q then M.fail else ziu r o.dst d want cs S.n0 v hp
    | x=>zlq r o.dst d want x
def zdl (P:Program) (S:Sigs) (q:Bool) (ops:List Oper):List Oper→RS→M RS
 | [],r=>pure r
 | o::l,r=>do
  let r1 ←zkm P S q ops r o
  zdl P S q ops l r1
def zrd:Op→Bool
 | .alloc _ | .box _ _ | .store _ _ _ | .makeSlice _ _ _ | .slice _ _ _ _ _ | .buildSlice _ _ _=>false
 | .call c=>match c.callee with
  | .builtin .append=>false
  | _=>true
 | _=>true
def ztf (o:Oper) (n:Nat):Bool:=(List.range n).all fun i=>o.after.any fun e=>Region.binds .any e&&Nat.beq e.on i
def zlr (ops:List Oper):Bool:=ops.zipIdx.all fun p=>(p.1.after.all fun e=>!Region.binds .any e||Nat.blt e.on p.2) &&
 (match p.1.guard with | some (j,_)=>Nat.blt j p.2 | none=>true)
def zvM (ops:List Oper) (n:Nat):Bool:=(ops.zipIdx.drop n).all fun p=>ztf p.1 p.2
def zbz:Op→Bool
 | .move _ | .assign _ | .nilCheck _ | .binOp _ _ _ _ _ | .unOp _ _ _ | .convert _ _ _ | .fieldAddr _ _ _ | .indexAddr _ _ _ | .load _ _ | .field _ _ _ | .index _ _ _ | .extract _ _ | .pick _ _ _ | .build _ _=>true
 | .call c =>
  match c.callee with
  | .builtin .len=>true
  | _=>false
 | _=>false
def zls (fx:List Nat) (r:RS) (ctx:Ctx):Op→Bool
 | .load _ x =>
  match rd r ctx x with
  | some (.s (.one (.p b _)))=>!memN b fx&&zao Blk.flat (nth r.st.hp b)
  | _=>true
 | .convert _ _ x =>
  match rd r ctx x with
  | some (.s (.one (.vec b)))=>!memN b fx
  | _=>true
 | _=>true
def zre (P:Program) (S:Sigs) (fx:List Nat) (r:RS) (ctx:Ctx) (op:Op):M OR:=if zls fx r ctx op then evOp P S r ctx op else M.fail
def allocOp:Op→Bool
 | .alloc _=>true
 | _=>false
def znM (P:Program) (S:Sigs) (fx:List Nat) (ops:List Oper) (r:RS) (o:Oper):M RS :=
 if allocOp o.op then (if o.guard.isNone then r.put o.dst (some (.s (.one (.p r.st.hp.length (.c 0))))) else M.fail) else
 match o.guard with
 | none=>do
  let x ←zre P S fx r [] o.op
  zet true r o.dst x
 | some (j,want)=>do
  let d ←M.lift ((ops[j]?).bind (·.dst))
  match ←M.lift (zbN r 8 d want) with
  | none=>r.put o.dst (some zc2)
  | some (ctx,cs) =>
   match ctx with
   | []=>do
    let x ←zre P S fx r [] o.op
    zet true r o.dst x
   | _=>do
    let x ←zgb cs (zre P S fx r ctx o.op)
    match x with
    | .hp _ _=>M.fail
    | x=>zlq r o.dst d want x
def zgj (P:Program) (S:Sigs) (fx:List Nat) (ops:List Oper):List Oper→RS→M RS
 | [],r=>pure r
 | o::l,r=>do
  let r1 ←znM P S fx ops r o
  zgj P S fx ops l r1
def zbS:Op→Bool
 | .store _ _ _=>true
 | _=>false
def zbB (o:Oper):List Nat:=(o.after.toList.filter fun e=>Region.binds .any e).map (·.on)
def zaA (ops:List Oper):Nat→List Nat→List Nat
 | 0,l=>l
 | n+1,l=>if memN n l then zaA ops n ((match ops[n]? with | some o=>zbB o | none=>[])++l) else zaA ops n l
def nop (o:Oper):Oper:=if zbS o.op then { o with op:=.move (.const (.bool false)) } else o
def za3 (o:Op):Bool:=zbS o||allocOp o
def nopN (N:Nat) (o:Oper):Oper :=
 if zbS o.op then { o with op:=.move (.const (.bool false)) } else
 if allocOp o.op then { o with op:=.move (.const (.pointer (some ⟨N,0,none⟩))) } else o
def storeAt (ops:List Oper):List Nat:=(ops.zipIdx.filter fun p=>za3 p.1.op).map (·.2)
def znN:Operand→List Nat
 | .tmp t=>[t]
 | _=>[]
def zdv:Op→List Nat
 | .store _ x y=>znN x++znN y
 | _=>[]
def sub1 (l m:List Nat):Bool:=l.all fun x=>memN x m
def zpf:List Nat→Bool
 | a::b::l=>Nat.blt a b&&zpf (b::l)
 | _=>true
def znO (anc:List Nat) (ts:List Nat) (p:Oper×Nat):Bool :=
 match p.1.dst with
 | some t=>!memN t ts||memN p.2 anc
 | none=>true
def zvN (ops:List Oper) (i:Nat):Bool :=
 match ops[i]? with
 | some o=>sub1 ((storeAt ops).filter fun j=>Nat.blt j i) (zaA ops i (zbB o))&&ops.zipIdx.all (znO (zaA ops i (zbB o)) (zdv o.op))
 | none=>false
def ztg (ops:List Oper):Bool :=
 ops.all (fun o=>zbz o.op||(za3 o.op&&o.guard.isNone&&(allocOp o.op||o.dst.isNone)))&&zpf (storeAt ops)&&(storeAt ops).all (zvN ops)&&((ops.filter fun o=>za3 o.op).drop 1).all fun o=>zbS o.op
def zgk (P:Program) (S:Sigs) (fx:List Nat) (sl:List (Option V)) (gl:List GE):List Oper→List (Option Blk)→M (List (Option Blk))
 | [],hp=>pure hp
 | o::l,hp=>do
  match o.op with
  | .store t x y =>
   match ←M.lift (rd ⟨⟨sl,hp⟩,gl⟩ [] x) with
   | .s (.one (.p b _)) =>
    if memN b fx then do
     let hp1 ←zha P ⟨⟨sl,hp⟩,gl⟩ [] t x y
     zgk P S fx sl gl l hp1
    else M.fail
   | _=>M.fail
  | .alloc t =>
   let z ←M.lift (zeroCells P t)
   if memN hp.length fx&&!z.any Lf.isNil&&hpLt hp&&z.all (Lf.lt hp.length) then zgk P S fx sl gl l (hp++[some (.c true (z.map some))])
   else M.fail
  | _=>M.fail
def ziv (P:Program) (S:Sigs) (fx:List Nat) (ops:List Oper) (s:St):M St:=do
 if s.sl.all (zao (V.lt s.hp.length))&&hpLt s.hp then do
  let r ←zgj P S fx (ops.map nop) (ops.map nop) ⟨s,[]⟩
  let hp ←zgk P S fx r.st.sl r.gl (ops.filter fun o=>za3 o.op) s.hp
  pure ⟨r.st.sl,hp⟩
 else M.fail
def zuD (r:RS) (o:Oper):List Nat :=
 match o.op with
 | .store _ x _ =>
  match rd r [] x with
  | some (.s (.one (.p b _)))=>[b]
  | _=>[]
 | .alloc _=>[r.st.hp.length]
 | _=>[]
def znP (P:Program) (S:Sigs) (ops:List Oper) (s:St):M St:=fun n =>
 ziv P S (match zgj P S [] (ops.map nop) (ops.map nop) ⟨s,[]⟩ n with | some (r,_,_,_)=>ops.flatMap (zuD r) | none=>[]) ops s n
def Lf.eqB:Lf→Lf→Bool
 | .i k a,.i k' a'=>kEq k k'&&a.beq a'
 | .b a,.b a'=>a.beq a'
 | .p q (.c n),.p q' (.c n')=>Nat.beq q q'&&Nat.beq n n'
 | .nilp,.nilp=>true
 | .vec q,.vec q'=>Nat.beq q q'
 | .mp q,.mp q'=>Nat.beq q q'
 | .ifp t q,.ifp t' q'=>Nat.beq t t'&&Nat.beq q q'
 | .v x,.v y=>vBeq x y
 | .e t a j,.e t' a' j'=>t.feq t'&&a.beq a'&&Nat.beq j j'
 | .str a,.str a'=>a.beq a'
 | _,_=>false
def zkn:List Lf→List Lf→Bool
 | [],[]=>true
 | a::l,b::l'=>a.eqB b&&zkn l l'
 | _,_=>false
def V.eqB:V→V→Bool
 | .s (.one a),.s (.one b)=>a.eqB b
 | .s (.agg a),.s (.agg b)=>zkn a b
 | _,_=>false
def znQ:List V→List V→Bool
 | [],[]=>true
 | a::l,b::l'=>a.eqB b&&znQ l l'
 | _,_=>false
def calleeOf:Op→Option (Operand×List Operand)
 | .call c =>
  match c.callee with
  | .value x=>some (x,c.args.toList)
  | _=>none
 | _=>none
def zca (o:Op):Bool:=allocOp o||(calleeOf o).isSome
def zgl (o:Op):List Nat :=
 match calleeOf o with
 | some (x,l)=>znN x++l.flatMap znN
 | none=>[]
def nopW (v:Value) (o:Oper):Oper:=if zca o.op then { o with op:=.move (.const v) } else o
def zth (ops:List Oper):List Nat:=(ops.zipIdx.filter fun p=>zca p.1.op).map (·.2)
def zt6 (ops:List Oper):List Nat:=(ops.zipIdx.filter fun p=>(calleeOf p.1.op).isSome).map (·.2)
def zt7 (pre:List Oper) (i:Nat):Bool :=
 match pre[i]? with
 | some o=>(!(calleeOf o.op).isSome||sub1 ((zt6 pre).filter fun j=>Nat.blt j i) (zaA pre i (zbB o)))&&pre.zipIdx.all (znO (zaA pre i (zbB o)) (zgl o.op))
 | none=>false
def zt8 (ops:List Oper) (n:Nat):Bool:=(ops.zipIdx.drop n).all fun p=>(List.range p.2).all fun j=>memN j (zaA (ops.take (p.2+1)) p.2 (zbB p.1))
def ziw (o:Oper):Bool:=(zbz o.op&&!zca o.op)||(zca o.op&&o.guard.isNone)
def zuE (ops:List Oper) (n:Nat):Bool :=
 (ops.take n).all ziw&&(zth (ops.take n)).all (zt7 (ops.take n))&&zt8 ops n&&Region.lexB .any ((ops.take n).map (nopW (.bool false))).toArray&&zlr ops
def frz:Option Blk→Option Blk
 | some b=>if b.flat&&!b.own then some b else none
 | none=>none
def zfJ (P:Program):List Oper→Option (List (List Lf))
 | []=>some []
 | o::l =>
  match o.op with
  | .alloc t =>
   match zeroCells P t,zfJ P l with
   | some z,some zs=>some (z::zs)
   | _,_=>none
  | _=>zfJ P l
def Lf.inB (p:Nat→Bool):Lf→Bool
 | .p q (.c _)=>p q
 | .vec q=>p q
 | .p _ _ | .gp _ _ | .fnp _ _ | .ifp _ _ | .mp _ | .alt _ _=>false
 | _=>true
def V.inB (p:Nat→Bool):V→Bool
 | .s (.one a)=>a.inB p
 | .s (.agg l)=>l.all (Lf.inB p)
 | .t l=>l.all fun v=>v.cells.all (Lf.inB p)
def zeu (P:Program) (S:Sigs) (ops:List Oper) (b0:Nat) (hc:List (Option Blk)):List Oper→Nat→RS→List (Option Blk)→M (RS×List (Option Blk)×List (Nat×List V×V))
 | [],_,r,hn=>pure (r,hn,[])
 | o::l,b,r,hn =>
  if allocOp o.op then do
   let v:V:=.s (.one (.p b (.c 0)))
   let r1 ←r.put o.dst (some v)
   let z ←zeu P S ops b0 hc l (b+1) r1 hn
   pure (z.1,z.2.1,(0,[],v)::z.2.2)
  else
   match calleeOf o.op with
   | some (x,args)=>do
    let (f,bs) ←M.lift (fnOf (rd r [] x))
    let vs ←M.lift (zcz r [] args)
    if bs.isEmpty then do
     match ←zmi P S f vs (hc++hn.map frz) with
     | .val v =>
      if v.easy&&v.inB (fun q=>Nat.blt q b0) then do
       let r1 ←r.put o.dst (some v)
       let z ←zeu P S ops b0 hc l b r1 hn
       pure (z.1,z.2.1,(f,vs,v)::z.2.2)
      else M.fail
     | .hp (some v) hp1 =>
      if v.easy&&v.inB (fun q=>Nat.blt q b0||(Nat.ble (hc.length+hn.length) q&&Nat.blt q hp1.length))&&Nat.ble (hc.length+hn.length) hp1.length then do
       let r1 ←r.put o.dst (some v)
       let z ←zeu P S ops b0 hc l b r1 (hn++hp1.drop (hc.length+hn.length))
       pure (z.1,z.2.1,(f,vs,v)::z.2.2)
      else M.fail
     | .hp none _=>M.fail
    else M.fail
   | none=>do
    let r1 ←zkm P S true ops r o
    let z ←zeu P S ops b0 hc l b r1 hn
    pure (z.1,z.2.1,(0,[],default)::z.2.2)
def zti (r : RS) : List Oper → List (Nat × List V × V) → Bool
  | [], [] => true
  | o :: l, e :: es =>
    (match calleeOf o.op with
     | some (x, args) =>
       (match fnOf (rd r [] x), zcz r [] args with
        | some (f, []), some vs => Nat.beq f e.1 && znQ vs e.2.1
        | _, _ => false)
     | none => true) && zti r l es
  | _, _ => false
def zrf (P:Program) (S:Sigs) (ops:List Oper) (n:Nat) (s:St):M St:=do
 if s.sl.all (zao (V.lt s.hp.length))&&hpLt s.hp then do
  let zs ←M.lift (zfJ P (ops.take n))
  let z ←zeu P S (ops.take n) s.hp.length ((s.hp++zs.map fun _=>none).map frz) (ops.take n) s.hp.length ⟨s,[]⟩ []
  if zs.all (fun z=>!z.any Lf.isNil&&z.all (Lf.lt s.hp.length))&&z.2.1.all (zao fun b=>b.flat&&b.lt s.hp.length)&&zti z.1 (ops.take n) z.2.2 then do
   let r2 ←zdl P S false ops (ops.drop n) ⟨⟨z.1.st.sl,s.hp++zs.map (fun z=>some (.c true (z.map some)))++z.2.1⟩,z.1.gl⟩
   pure r2.st
  else M.fail
 else M.fail
def effOp2:Op→Bool
 | .alloc _ | .box _ _ | .buildSlice _ _ _ | .makeSlice _ _ _ | .slice _ _ _ _ _=>true
 | .call c =>
  match c.callee with
  | .value _=>true
  | .builtin .append=>true
  | _=>false
 | _=>false
def nopX (v:Value) (o:Oper):Oper:=if effOp2 o.op then { o with op:=.move (.const v) } else o
def A.eqS:A→A→Bool
 | .r a,.r b=>Nat.beq a b
 | .z a,.z b=>decide (a=b)
 | .t a,.t b=>beqB a b
 | _,_=>false
def Lf.eqS:Lf→Lf→Bool
 | .i k a,.i k' a'=>kEq k k'&&a.eqS a'
 | .b a,.b a'=>a.eqS a'
 | .p q (.c n),.p q' (.c n')=>Nat.beq q q'&&Nat.beq n n'
 | .nilp,.nilp=>true
 | .vec q,.vec q'=>Nat.beq q q'
 | .mp q,.mp q'=>Nat.beq q q'
 | .e t a j,.e t' a' j'=>t.feq t'&&a.eqS a'&&Nat.beq j j'
 | _,_=>false
def ze1:List (Option Lf)→List (Option Lf)→Bool
 | [],[]=>true
 | none::l,none::l'=>ze1 l l'
 | some a::l,some b::l'=>a.eqS b&&ze1 l l'
 | _,_=>false
def Blk.eqS:Blk→Blk→Bool
 | .c o cs,.c o' cs'=>beqB o o'&&ze1 cs cs'
 | .v o ts a,.v o' ts' a'=>beqB o o'&&zhw ts ts'&&a.eqS a'
 | .obj o k a,.obj o' k' a'=>beqB o o'&&Nat.beq k k'&&a.eqS a'
 | .l o f ts a,.l o' f' ts' a'=>beqB o o'&&beqB f f'&&zhw ts ts'&&a.eqS a'
 | _,_=>false
def keepAt (fp:List Nat):Nat→List (Option Blk)→List (Option Blk)
 | _,[]=>[]
 | j,x::l=>(if memN j fp then x else none)::keepAt fp (j+1) l
def zef (ts:List Nat):Nat→List (Option V)→List (Option V)
 | _,[]=>[]
 | j,x::l=>(if memN j ts then x else none)::zef ts (j+1) l
def Blk.refsIn (p:Nat→Bool):Blk→Bool
 | .c _ cs=>cs.all (zao fun l=>l.inB p)
 | .v _ _ _=>true
 | .obj _ _ _=>true
 | .l _ _ _ _=>true
 | .m _ _ _ _=>false
structure SwE where
 fp:List Nat
 a:Nat
 b:Nat
 ks:List Nat
 v:V
 sl:List (Option V)
 deriving Inhabited
def rngB (base:Nat) (fp:List Nat) (a b:Nat) (q:Nat):Bool:=Nat.blt q base||memN q fp||(Nat.ble a q&&Nat.blt q b)
def ze2:List (Option V)→List (Option V)→Bool
 | [],[]=>true
 | none::l,_::l'=>ze2 l l'
 | some v::l,some v'::l'=>v'.eqB v&&ze2 l l'
 | _,_=>false
def zlt (pre:List Oper) (i:Nat):List Nat :=
 match pre[i]? with
 | some o=>zaA pre i (zbB o)
 | none=>[]
def zmq:Op→Option (List Operand)
 | .alloc _=>some []
 | .box _ x=>some [x]
 | .buildSlice _ _ ps=>some (ps.toList.map (·.2))
 | .makeSlice _ l c=>some [l,c]
 | .slice _ x lo hi mx=>some (x::(lo.toList++hi.toList++mx.toList))
 | .store _ x y=>some [x,y]
 | .makeMap _ r=>some r.toList
 | .insert _ m k v=>some [m,k,v]
 | .lookup _ m k _=>some [m,k]
 | .makeInterface _ x=>some [x]
 | .convert _ _ x=>some [x]
 | .call c=>some ((match c.callee with | .value x=>[x] | .invoke x _=>[x] | .builtin _=>[])++c.args.toList)
 | _=>none
def zix (o:Op):List Nat:=((zmq o).getD []).flatMap znN
def turn4 (o:Op):Bool:=!zbz o
def zuF (o:Op):Bool :=
 match o with
 | .convert _ _ _=>true
 | _=>false
def eff4 (o:Op):Bool:=turn4 o||zuF o
def zrg (o:Oper):Bool:=zbz o.op||(zmq o.op).isSome
def nopY (v:Value) (o:Oper):Oper:=if eff4 o.op then { o with op:=.move (.const v) } else o
structure ChE where
 sl:List (Option V)
 gl:List GE
 v:V
 H:List (Option Blk)
 /-- the blocks that it looks at -/
 R:List (Option Blk)
 deriving Inhabited
def zuG:List (Option Blk)→List (Option Blk)→List (Option Blk)
 | some b'::l',some b::l=>(if b.eqS b' then some b else none)::zuG l' l
 | _::l',_::l=>none::zuG l' l
 | [],l=>l.map fun _=>none
 | _,[]=>[]
def zuH (HL:Option (List (Option Blk))) (H:List (Option Blk)):List (Option Blk) :=
 match HL with
 | some l=>zuG l H
 | none=>H
def zrh (n0:Nat) (cs:List (A×Bool)) (H H':List (Option Blk)):M (List (Option Blk)) :=
 if Nat.ble n0 H.length&&Nat.ble H.length H'.length&&hpLt H then do
  let c ←conj cs
  let t ←zdR (H'.drop H.length)
  let s ←zfD H'.length c ⟨[],H'⟩ ⟨[],H++t⟩
  if Nat.ble H'.length s.hp.length&&hpLt s.hp then pure s.hp else M.fail
 else M.fail
def zh1 (P:Program) (S:Sigs) (ops:List Oper) (HL:Option (List (Option Blk))):List Oper→RS→List (Option Blk)→M (RS×List ChE)
 | [],r,_=>pure (r,[])
 | o::l,r,H =>
  if eff4 o.op then
   let R:=if turn4 o.op then H else zuH HL H
   match o.guard with
   | some (j,want)=>do
    let d ←M.lift ((ops[j]?).bind (·.dst))
    let sl:=zef (d::r.gl.map (·.d)++zix o.op) 0 r.st.sl
    match ←M.lift (zbN ⟨⟨sl,R⟩,r.gl⟩ 8 d want) with
    | none=>do
     let r1 ←r.put o.dst (some zc2)
     let z ←zh1 P S ops HL l r1 H
     pure (z.1,⟨sl,r.gl,zc2,H,R⟩::z.2)
    | some (ctx,cs)=>do
     match ←zgb cs (evOp P S ⟨⟨sl,R⟩,r.gl⟩ ctx o.op) with
     | .val v =>
      if v.easy&&v.lt H.length&&(turn4 o.op||v.lt 0) then do
       let r1 ←(if ctx.isEmpty then r.put o.dst (some v) else r.putG o.dst v d want)
       let z ←zh1 P S ops HL l r1 H
       pure (z.1,⟨sl,r.gl,v,H,R⟩::z.2)
      else M.fail
     | .hp (some v) H' =>
      if turn4 o.op&&v.easy&&v.lt H'.length then do
       let H2 ←zrh S.n0 cs H H'
       let r1 ←(if ctx.isEmpty then r.put o.dst (some v) else r.putG o.dst v d want)
       let z ←zh1 P S ops HL l r1 H2
       pure (z.1,⟨sl,r.gl,v,H2,R⟩::z.2)
      else M.fail
     | .hp none _=>M.fail
   | none=>do
   let sl:=zef (zix o.op) 0 r.st.sl
   match ←evOp P S ⟨⟨sl,R⟩,[]⟩ [] o.op with
   | .val v =>
    if v.easy&&v.lt H.length&&(turn4 o.op||v.lt 0) then do
     let r1 ←r.put o.dst (some v)
     let z ←zh1 P S ops HL l r1 H
     pure (z.1,⟨sl,[],v,H,R⟩::z.2)
    else M.fail
   | .hp (some v) H' =>
    if turn4 o.op&&v.easy&&v.lt H'.length&&Nat.ble H.length H'.length&&hpLt H' then do
     let r1 ←r.put o.dst (some v)
     let z ←zh1 P S ops HL l r1 H'
     pure (z.1,⟨sl,[],v,H',R⟩::z.2)
    else M.fail
   | .hp none H' =>
    if turn4 o.op&&o.dst.isNone&&Nat.ble H.length H'.length&&hpLt H' then do
     let z ←zh1 P S ops HL l r H'
     pure (z.1,⟨sl,[],zc2,H',R⟩::z.2)
    else M.fail
  else do
   let r1 ←zkm P S true ops r o
   let z ←zh1 P S ops HL l r1 H
   pure (z.1,⟨[],[],zc2,H,H⟩::z.2)
def zev:List (Option Blk)→List (Option Blk)→Bool
 | [],_=>true
 | none::l,l'=>zev l l'.tail
 | some x::l,some y::l'=>x.eqS y&&zev l l'
 | some _::_,_=>false
def zgm (pre:List Oper) (o:Oper):List Nat :=
 match o.guard with
 | some (j,_)=>((pre[j]?).bind (·.dst)).toList
 | none=>[]
def chAt (pre:List Oper) (p:Oper×Nat):Bool :=
 !eff4 p.1.op||(!turn4 p.1.op||(pre.zipIdx.all fun q=>!turn4 q.1.op||!Nat.blt q.2 p.2||memN q.2 (zlt pre p.2)))&&pre.zipIdx.all (znO (zlt pre p.2) (zgm pre p.1++zix p.1.op))
def chB (ops:List Oper) (n:Nat):Bool :=
 (ops.take n).all zrg&&(ops.take n).zipIdx.all (chAt (ops.take n))&&zt8 ops n&&Region.lexB .any ((ops.take n).map (nopY (.bool false))).toArray&&zlr ops
def GE.eqB (x y:GE):Bool:=Nat.beq x.t y.t&&Nat.beq x.d y.d&&beqB x.want y.want&&x.v.eqB y.v
def zhb (sl:List (Option V)) (gl:List GE):List Oper→List ChE→Bool
 | [],[]=>true
 | o::l,e::r=>(!eff4 o.op||(ze2 e.sl sl&&e.gl.all fun x=>gl.any fun y=>y.eqB x))&&zhb sl gl l r
 | _,_=>false
def zhC (pre:List Oper) (n:Nat):Bool :=
 match pre[n]? with
 | some o=>turn4 o.op
 | none=>false
def zko (pre:List Oper) (anc:List Nat):Nat→Nat
 | 0=>0
 | n+1=>if memN n anc&&zhC pre n then n+1 else zko pre anc n
def chBef (H:List (Option Blk)) (es:List ChE):Nat→List (Option Blk)
 | 0=>H
 | i+1=>(es.getD i default).H
def zt9 (nq : Nat) (H : List (Option Blk)) (pre : List Oper) (es : List ChE) : Bool :=
  pre.zipIdx.all fun p => turn4 p.1.op || !eff4 p.1.op ||
    (match es[p.2]? with
     | some e => Nat.ble nq e.R.length && ((List.range (pre.length + 1)).all fun t => Nat.blt t (zko pre (zlt pre p.2) pre.length) || zev e.R (chBef H es t))
     | none => false)
def zpg (es:List ChE):Nat→List (Option Blk)→List (Option Blk)
 | _,[]=>[]
 | j,x::l=>(match x with | some b=>if es.all (fun e=>match nth e.H j with | some b'=>b.eqS b' | none=>false) then some b else none | none=>none)::zpg es (j+1) l
def zpW (H:List (Option Blk)):List ChE→List (Option Blk)
 | []=>H
 | e::r=>zpW e.H r
def zgn (P:Program) (S:Sigs) (ops:List Oper) (n:Nat) (s:St) (Hq:List (Option Blk)) (HL:Option (List (Option Blk))):M St:=do
 if s.sl.all (zao (V.lt s.hp.length))&&hpLt s.hp&&Nat.beq Hq.length s.hp.length&&zev Hq s.hp then do
  let z ←zh1 P S (ops.take n) HL (ops.take n) ⟨⟨s.sl,Hq⟩,[]⟩ s.hp
  if z.2.all (fun e=>zev Hq e.H)&&zhb z.1.st.sl z.1.gl (ops.take n) z.2&&zt9 Hq.length s.hp (ops.take n) z.2 then do
   let r2 ←zdl P S false ops (ops.drop n) ⟨⟨z.1.st.sl,zpW s.hp z.2⟩,z.1.gl⟩
   pure r2.st
  else M.fail
 else M.fail
def znR (P:Program) (S:Sigs) (ops:List Oper) (n:Nat) (s:St):M St:=fun k =>
 match zh1 P S (ops.take n) none (ops.take n) ⟨s,[]⟩ s.hp k with
 | some ((_,es),_,_,_)=>zgn P S ops n s (zpg es 0 s.hp) (some (zpW s.hp es)) k
 | none=>zgn P S ops n s s.hp none k
def M.orElse' {α:Type} (x y:M α):M α:=fun n =>
 match x n with
 | some r=>some r
 | none=>y n
def ziy (P:Program) (S:Sigs) (ops:Array Oper) (s:St):M St :=
 let n:=(ops.toList.takeWhile fun o=>zrd o.op).length
 if Region.lexB .any (ops.toList.take n).toArray&&zvM ops.toList n then
  if P.follows .mixedOrders&&zlr ops.toList then do
   let r ←zdl P S true (ops.toList.take n) (ops.toList.take n) ⟨s,[]⟩
   let r2 ←zdl P S false ops.toList (ops.toList.drop n) r
   pure r2.st
  else M.fail
 else if ztg ops.toList&&P.follows .mixedOrders&&Region.lexB .any (ops.toList.map (nopN 0)).toArray&&zlr ops.toList then znP P S ops.toList s
 else M.fail
def ziz (P:Program) (S:Sigs) (ops:Array Oper) (s:St):M St :=
 let n:=(ops.toList.takeWhile ziw).length
 if zuE ops.toList n&&P.follows .mixedOrders then zrf P S ops.toList n s else M.fail
def ziA (P:Program) (S:Sigs) (ops:Array Oper) (s:St):M St :=
 let n:=(ops.toList.takeWhile zrg).length
 if chB ops.toList n&&P.follows .mixedOrders then znR P S ops.toList n s else M.fail
def zkp (P:Program) (S:Sigs) (ops:Array Oper) (s:St):M St:=(ziA P S ops s).orElse' (ziz P S ops s)
def zlu (P:Program) (S:Sigs) (ops:Array Oper) (draw:Bool) (s:St):M St :=
 if draw then (ziy P S ops s).orElse' (zkp P S ops s)
 else do
  let r ←zdl P S false ops.toList ops.toList ⟨s,[]⟩
  pure r.st
inductive K where
 | normal
 | ret
 | exit (id:Nat)
 | goto (l:Nat)
 deriving Inhabited
inductive X where
 | done (k:K) (s:St)
 | br (c:A) (x y:X)
def K.isNormal:K→Bool
 | .normal=>true
 | _=>false
def X.nCond:X→M A
 | .done k _=>pure (.t k.isNormal)
 | .br c x y=>do
  let a ←x.nCond
  let b ←y.nCond
  zkh c a b
def X.nSt (n0:Nat):X→M (Option St)
 | .done k s=>pure (if k.isNormal then some s else none)
 | .br c x y=>do
  match ←x.nSt n0,←y.nSt n0 with
  | some a,some b=>do pure (some (←zfD n0 c a b))
  | some a,none=>pure (some a)
  | none,some b=>pure (some b)
  | none,none=>pure none
def X.kill:X→Option X
 | .done k s=>if k.isNormal then none else some (.done k s)
 | .br c x y =>
  match x.kill,y.kill with
  | some a,some b=>some (.br c a b)
  | some a,none=>some a
  | none,some b=>some b
  | none,none=>none
def K.inBlock (id:Nat):K→K
 | .exit i=>if Nat.beq i id then .normal else .exit i
 | k=>k
def X.inBlock (id:Nat):X→X
 | .done k s=>.done (k.inBlock id) s
 | .br c x y=>.br c (x.inBlock id) (y.inBlock id)
def X.noGoto:X→Bool
 | .done k _=>match k with | .goto _=>false | _=>true
 | .br _ x y=>x.noGoto&&y.noGoto
def X.andThen (n0:Nat) (x:X) (f:St→M X):M X:=do
 let c ←x.nCond
 match ←x.nSt n0 with
 | none=>pure x
 | some s =>
  match x.kill with
  | none=>f s
  | some z =>
   match c with
   | .t true=>f s
   | c=>do
    let y ←under c true (f s)
    pure (.br c y z)
def K.swap (l:Nat):K→K
 | .normal=>.goto l
 | .goto m=>if Nat.beq m l then .normal else .goto m
 | k=>k
def X.swap (l:Nat):X→X
 | .done k s=>.done (k.swap l) s
 | .br c x y=>.br c (x.swap l) (y.swap l)
def X.goal:X→Option Nat
 | .done (.goto l) _=>some l
 | .done _ _=>none
 | .br _ x y=>match x.goal with
  | some l=>match y.goal with
   | some m=>some (min l m)
   | none=>some l
  | none=>y.goal
def zlv (n0:Nat) (ev:Code→St→M X) (c:Code):Nat→X→M X
 | 0,_=>M.fail
 | t+1,x =>
  match x.goal with
  | none=>if x.noGoto then pure x else M.fail
  | some l =>
   match findLabel c l with
   | none=>M.fail
   | some rest=>do
    let z ←(x.swap l).andThen n0 (fun s=>do pure ((←ev rest s).swap l))
    zlv n0 ev c t (z.swap l)
def X.each:X→(St→M X)→M X
 | .done k s,f=>if k.isNormal then f s else pure (.done k s)
 | .br c x y,f=>do
  let a ←under c true (x.each f)
  let b ←under c false (y.each f)
  pure (.br c a b)
def M.opt {α:Type} (x:M α):M (Option α):=fun n =>
 match x n with
 | some (a,n1,e,d)=>some (some a,n1,e,d)
 | none=>some (none,n,[],[])
def zgo (r:RS):Nat→Nat→Option (Nat×A)
 | 0,_=>none
 | n+1,d =>
  match nth r.st.sl d with
  | some (.s (.one (.b a)))=>some (d,a)
  | some _=>none
  | none =>
   match zg6 d r.gl with
   | some e=>zgo r n e.d
   | none=>none
def zpX (d:Nat) (b:Bool):List GE→List (Option V)→List (Option V)×List GE
 | [],sl=>(sl,[])
 | e::l,sl =>
  let q:=zpX d b l sl
  if Nat.beq e.d d then (if (nth q.1 e.t).isNone then zat (some (if beqB e.want b then e.v else zc2)) q.1 e.t else q.1,q.2)
  else (q.1,e::q.2)
def RS.know (r:RS) (d:Nat) (b:Bool):RS :=
 let q:=zpX d b r.gl (zat (some (.s (.one (.b (.t b))))) r.st.sl d)
 ⟨⟨q.1,r.st.hp⟩,q.2⟩
def ze3 (P:Program) (S:Sigs) (ops:List Oper):Nat→List Oper→RS→M X
 | 0,_,_=>M.fail
 | _+1,[],r=>pure (.done .normal r.st)
 | n+1,o::l,r=>do
  match ←M.opt (zkm P S false ops r o) with
  | some r1=>ze3 P S ops n l r1
  | none =>
   match o.guard with
   | none=>M.fail
   | some (j,_)=>do
    let d ←M.lift ((ops[j]?).bind (·.dst))
    let g ←M.lift (zgo r 8 d)
    if g.2.const then M.fail else do
     let x ←under g.2 true (ze3 P S ops n (o::l) (r.know g.1 true))
     let y ←under g.2 false (ze3 P S ops n (o::l) (r.know g.1 false))
     pure (.br g.2 x y)
def A.below (n:Nat):A→Bool
 | .r i=>Nat.blt i n
 | _=>true
def Code.dsts:Code→List Tmp
 | .region _ ops _=>ops.toList.filterMap (·.dst)
 | .seq a b=>Code.dsts a++Code.dsts b
 | .cond _ a b=>Code.dsts a++Code.dsts b
 | .block _ c=>Code.dsts c
 | .loop c=>Code.dsts c
 | .scope c=>Code.dsts c
 | _=>[]
def K.beq:K→K→Bool
 | .normal,.normal=>true
 | .ret,.ret=>true
 | .exit a,.exit b=>Nat.beq a b
 | .goto a,.goto b=>Nat.beq a b
 | _,_=>false
def zhD (k:K):List K→Option Nat
 | []=>none
 | x::l=>if x.beq k then some 0 else (zhD k l).map (· + 1)
def X.kinds:X→List K
 | .done k _=>if k.isNormal then [] else [k]
 | .br _ x y=>x.kinds++(y.kinds.filter fun k=>(zhD k x.kinds).isNone)
def zvO:Option V→Option Nat
 | some (.s (.one (.vec b)))=>some b
 | _=>none
def zlw (b:Nat):List (Option V)→List (Option V)→Nat→Option Nat
 | some _::l,x::l',t =>
  match zvO x with
  | some c=>if Nat.beq b c then some t else zlw b l l' (t+1)
  | none=>zlw b l l' (t+1)
 | none::l,_::l',t=>zlw b l l' (t+1)
 | _,_,_=>none
def ziB (ps ss:List (Option V)):Nat→List (Option V)→List (Option V)→List (Nat×Nat)
 | r,none::l,x::l' =>
  match zvO x with
  | some b =>
   match zlw b ps ss 0 with
   | some t=>(r,t)::ziB ps ss (r+1) l l'
   | none=>ziB ps ss (r+1) l l'
  | none=>ziB ps ss (r+1) l l'
 | r,some _::l,_::l'=>ziB ps ss (r+1) l l'
 | _,_,_=>[]
def X.als (p:Pat):X→List (K×List (Nat×Nat))
 | .done k s=>[(k,ziB p.st.sl s.sl 0 p.st.sl s.sl)]
 | .br _ x y=>x.als p++y.als p
def zvP (r t:Nat):List (Nat×Nat)→Bool
 | []=>false
 | x::l=>(Nat.beq x.1 r&&Nat.beq x.2 t)||zvP r t l
def zvQ (k:K):List (K×List (Nat×Nat))→Option (List (Nat×Nat))
 | []=>none
 | (k',al)::l =>
  match zvQ k l with
  | none=>if k.beq k' then some al else none
  | some r=>if k.beq k' then some (r.filter fun x=>zvP x.1 x.2 al) else some r
def zua (p0:List (Option V)):List (Nat×Nat)→List (Option V)→List (Option V)
 | [],sl=>sl
 | x::l,sl=>zua p0 l (zat (nth p0 x.2) sl x.1)
def Pat.at (p:Pat) (als:List (K×List (Nat×Nat))) (k:K):Pat:=⟨⟨zua p.st.sl ((zvQ k als).getD []) p.st.sl,p.st.hp⟩,p.tys⟩
def X.couts (n0:Nat) (pe:K→Pat) (tys:List Ty) (ks:List K):X→M (List A)
 | .done k s=>do
  let i ←M.lift (zhD k ks)
  let g:=zdM tys.length (pe k).st s
  if ((pe k).st.inst g.1).sub g.2 s&&zg5 g.2 n0 then pure (.z i::g.1) else M.fail
 | .br c x y=>do
  let a ←x.couts n0 pe tys ks
  let b ←y.couts n0 pe tys ks
  zdN c (.i::tys) a b
def K.toX (ka:A) (sf:K→St):Nat→List K→M X
 | _,[]=>M.fail
 | _,[k]=>pure (.done k (sf k))
 | i,k::l=>do
  let e ←emit (.eql ka (.z i))
  let r ←K.toX ka sf (i+1) l
  pure (.br e (.done k (sf k)) r)
def X.sts:X→List St
 | .done _ s=>[s]
 | .br _ x y=>x.sts++y.sts
def A.ids (n:Nat):A→List Nat
 | .r i=>if Nat.blt i n then [i] else []
 | _=>[]
def Node.ops:Node→List A
 | .add _ a b | .sub _ a b | .mul _ a b | .land _ a b | .lor _ a b | .lxor _ a b | .landNot _ a b | .quo _ a b | .rem _ a b | .shl _ a b | .shr _ a b=>[a,b]
 | .eql a b | .neq a b | .lss a b | .leq a b | .gtr a b | .geq a b | .beq a b | .bne a b | .and a b | .or a b=>[a,b]
 | .not a=>[a]
 | .itei c a b | .iteb c a b=>[c,a,b]
 | .conv _ a=>[a]
 | .seli l ix | .selb l ix=>ix::l
 | .call _ l _=>l
 | .lmk _ l=>l
 | .llen _ a=>[a]
 | .lgeti _ _ a ix | .lgetb _ _ a ix | .lgetl _ _ a ix=>[a,ix]
 | .lset _ _ _ a ix x=>[a,ix,x]
 | .lcat a b=>[a,b]
 | .ltake _ a n | .ldrop _ a n=>[a,n]
 | .lrep n _ l=>n::l
 | .itel c a b=>[c,a,b]
 | .aset _ _ _ _ a ix x=>[a,ix,x]
 | .lsub _ _ _ a ix=>[a,ix]
 | .sbeq a b=>[a,b]
def zub:List Nat→List Nat
 | []=>[]
 | x::l=>let r:=zub l;if memN x r then r else x::r
structure Round where
 x:X
 c:A
 nx:List A
 ks:List K
 outs:List A
 als:List (K×List (Nat×Nat))
def zuI (n0:Nat) (p:Pat):Option St→M (List A)
 | none=>pure []
 | some so =>
  let g:=zdM p.tys.length p.st so
  if (p.st.inst g.1).sub g.2 so&&zg5 g.2 n0 then pure g.1 else M.fail
def zph (n0:Nat) (p:Pat) (x:X) (c:A) (nx:List A):Option X→M Round
 | none=>M.fail
 | some z=>do
  let outs ←z.couts n0 (p.at (z.als p)) p.tys z.kinds
  pure ⟨x,c,nx,z.kinds,outs,z.als p⟩
def znS (n0:Nat) (ev:St→M X) (p:Pat) (sx:St):M Round:=do
 let x ←ev sx
 let c ←x.nCond
 let so ←x.nSt n0
 let nx ←zuI n0 p so
 zph n0 p x c nx x.kill
def Node.refs (n:Nat) (x:Node):Bool:=x.ops.all (A.below n)
def zfK (n:Nat):Em→Bool
 | []=>true
 | (i,x)::r=>Nat.beq i n&&x.refs n&&zfK (n+1) r
def obLp:LR→M Unit:=fun l n=>some ((),n,[],[.lp l])
def ztj:List LR→M Unit
 | []=>pure ()
 | l::r=>do obLp l;ztj r
def zlx (fid:Nat) (pe:K→Pat) (ins:List A) (l:LR) (ks:List K):M X:=do
 let args:=l.inv.map A.r++ins
 let q ←emit (.call fid args 0)
 owe q
 let os ←zge fid args 1 l.outs.length
 if Nat.beq l.outs.length 0 then M.fail else K.toX (os.headD default) (fun k=>(pe k).st.inst os.tail) 0 ks
def zwY (n:Nat) (e:Em) (d:List Ob) (r:Round):List Nat :=
 e.flatMap (fun p=>p.2.ops.flatMap (A.ids n))++(zh0 d).flatMap (fun q=>(q.a::q.path.map (·.1)).flatMap (A.ids n))++(r.c::(r.nx++r.outs)).flatMap (A.ids n)
def lrOf (fid n k:Nat) (e:Em) (d:List Ob) (r:Round) (ts:List Ty) (lh:LH):LR:=⟨fid,n,k,zub (zwY n e d r),e,zh0 d,r.c,r.nx,r.outs,ts,lh⟩
def lrGo (fid:Nat) (pe:K→Pat) (ins:List A) (d:List Ob) (l:LR) (ks:List K):M X:=do
 ztj (zg2 d)
 obLp l
 zlx fid pe ins l ks
def ziC (n0:Nat) (ev:St→M X) (fid:Nat) (lh:LH) (p:Pat) (s:St):M X:=fun n =>
 let k:=p.tys.length
 let g:=zdM k p.st s
 match znS n0 ev p (p.st.inst (zal n k)) (n+k) with
 | none=>none
 | some (r,_,e,d) =>
  if (p.st.inst g.1).sub g.2 s&&zg5 g.2 n0&&Nat.ble n0 p.st.hp.length&&p.st.tyOk (A.below n) p.tys&&zfK (n+k) e&&Nat.beq r.nx.length k&&(r.ks.all fun q=>(p.at r.als q).st.tyOk (A.below n) p.tys) then
   lrGo fid (p.at r.als) g.1 d (lrOf fid n k e d r p.tys lh) r.ks n
  else none
def zri (ev:St→M X) (mat:List (Nat×List LT)) (D:List Nat) (s:St) (n:Nat):Nat→List St→LH
 | 0,es=>zq1 mat D es s
 | t+1,es =>
  let p:=zq0 D (zq1 mat D es s) s
  match ev (p.st.inst (zal n p.tys.length)) (n+p.tys.length) with
  | none=>zq1 mat D es s
  | some (x,_,_,_)=>zri ev mat D s n t (x.sts++es)
def zpi (n0:Nat) (ev:St→M X) (fid:Nat) (D:List Nat) (h:LH) (s:St):M X:=fun n=>ziC n0 ev fid h (zq0 D h s) s n
def zrj (n0:Nat) (ev:St→M X) (fid:Nat) (D:List Nat) (mat:List (Nat×List LT)) (s:St):M X:=fun n =>
 zpi n0 ev fid D (zri ev mat D s n 2 []) s n
def znT (i:Nat) (ts:List LT) (s:St):M St :=
 match nth s.sl i with
 | some (.s (.one l)) =>
  if l.isNil&&hpLt s.hp&&s.sl.all (zao (V.lt s.hp.length)) then do
   let q ←zbQ [.vec ts] [l] s.hp
   match q.1 with
   | [l']=>pure ⟨zat (some (.s (.one l'))) s.sl i,q.2⟩
   | _=>M.fail
  else pure s
 | _=>pure s
def zgp:List (Nat×List LT)→St→M St
 | [],s=>pure s
 | (i,ts)::r,s=>do zgp r (←znT i ts s)
def znU (es:List St) (i:Nat):Option (Nat×List LT) :=
 match es with
 | []=>none
 | e::r =>
  match nth e.sl i with
  | some (.s (.one (.vec b))) =>
   match nth e.hp b with
   | some (.v _ ts _)=>some (i,ts)
   | _=>znU r i
  | _=>znU r i
def zmr:Option V→Bool
 | some (.s (.one l))=>l.isNil
 | _=>false
def zpj (es:List St) (s:St):List (Nat×List LT):=(List.range s.sl.length).filterMap fun i=>if zmr (nth s.sl i) then znU es i else none
def zpk (n0:Nat) (ev:St→M X) (fid:Nat) (D:List Nat) (h:Option LH) (s:St):M X:=fun n =>
 match h with
 | some h=>(do let s1 ←zgp h.mat s;zpi n0 ev fid D h s1:M X) n
 | none =>
  if s.sl.any zmr then
   let es:=match ev s n with
    | some (x,_,_,_)=>x.sts
    | none=>[]
   (M.orElse' (do let s1 ←zgp (zpj es s) s;zrj n0 ev fid D (zpj es s) s1) (zrj n0 ev fid D [] s)) n
  else zrj n0 ev fid D [] s n
def ze4:List (Option V)→M (List (Option V))
 | []=>pure []
 | some v::l=>do
  let u ←zpc (.s (.one (.p 0 (.c 0)))) v
  let r ←ze4 l
  pure (some u::r)
 | none::l=>do
  let r ←ze4 l
  pure (none::r)
def zrk:Option V→List Nat
 | some (.s (.one (.alt _ l)))=>l.filterMap fun x=>match x.2 with | .p q 0=>some q | _=>none
 | _=>[]
def ze5:List Nat→List (Option Blk)→M (List (Option Blk))
 | [],hp=>pure hp
 | b::l,hp =>
  match nth hp b with
  | some (.obj _ k _)=>if zdr k then do ze5 l (←zlj b hp) else ze5 l hp
  | _=>ze5 l hp
def zly (s:St):M St :=
 if s.sl.any fun v=>!(zrk v).isEmpty then do
  let sl ←ze4 s.sl
  let hp ←ze5 (s.sl.flatMap zrk) s.hp
  pure ⟨sl,hp⟩
 else M.fail
def zrl (n0:Nat) (ev:St→M X) (fid:Nat) (D:List Nat) (h:Option LH) (s:St):M X :=
 (zpk n0 ev fid D h s).orElse' (do let s1 ←zly s;zpk n0 ev fid D h s1)
def zrm:Code→Bool
 | .region _ ops _=>ops.toList.any fun o=>match o.op with | .panic _=>true | _=>false
 | .seq a b=>zrm a||(match a with | .region _ _ _=>zrm b | _=>false)
 | .scope c=>zrm c
 | _=>false
def zb2 (P:Program) (S:Sigs):Nat→Code→St→M X
 | 0,_,_=>M.fail
 | n+1,c,s =>
  match c with
  | .skip=>pure (.done .normal s)
  | .label _=>pure (.done .normal s)
  | .region _ ops draw=>do
   match ←M.opt (zlu P S ops draw s) with
   | some s1=>pure (.done .normal s1)
   | none=>if draw then M.fail else ze3 P S ops.toList (ops.toList.length*3+20) ops.toList ⟨s,[]⟩
  | .seq x y=>do (←zb2 P S n x s).andThen S.n0 (zb2 P S n y)
  | .cond c x y=>do
   match ←M.lift (rd ⟨s,[]⟩ [] c) with
   | .s (.one (.b a)) =>
    match a with
    | .t true=>zb2 P S n x s
    | .t false=>zb2 P S n y s
    | a =>
     if zrm x then do
      owe (←znx a)
      zb2 P S n y s
     else if zrm y then do
      owe a
      zb2 P S n x s
     else do
      let u ←under a true (zb2 P S n x s)
      let v ←under a false (zb2 P S n y s)
      pure (.br a u v)
   | _=>M.fail
  | .block id c =>
   match assoc S.ls id with
   | some fid =>
    match c with
    | .loop b=>do pure ((←zrl S.n0 (zb2 P S n b) fid (Code.dsts b) (assoc S.hs fid) s).inBlock id)
    | c=>do pure ((←zb2 P S n c s).inBlock id)
   | none=>do pure ((←zb2 P S n c s).inBlock id)
  | .loop c=>do (←zb2 P S n c s).andThen S.n0 (zb2 P S n (.loop c))
  | .exit id=>pure (.done (.exit id) s)
  | .goto l=>pure (.done (.goto l) s)
  | .scope c=>do
   let x ←zb2 P S n c s
   if x.noGoto then pure x else zlv S.n0 (zb2 P S n) c 16 x
  | .ret=>pure (.done .ret s)
  | _=>M.fail
def zpY (P:Program) (s:St):List ResultVar→M (List V1)
 | []=>pure []
 | .tmp t::l=>do
  match ←M.lift (nth s.sl t) with
  | .s v=>do pure (v::(←zpY P s l))
  | _=>M.fail
 | .cell t ty::l=>do
  match ←M.lift (nth s.sl t) with
  | .s (.one (.p b off))=>do
   let k ←M.lift (tk P ty)
   let sz ←M.lift (zaM P ty)
   match ←M.lift (nth s.hp b) with
   | .c _ cs =>
    let v ←zds cs off (zb0 k) sz
    pure (v::(←zpY P s l))
   | _=>M.fail
  | _=>M.fail
def K.ends:K→Bool
 | .normal | .ret=>true
 | _=>false
def X.res (P:Program) (rs:List ResultVar) (keep:Bool):X→M X
 | .done k s=>if k.ends then do
   let vs ←zpY P s rs
   pure (.done .normal ⟨[some (zdK vs)],if keep then s.hp else []⟩)
  else M.fail
 | .br c x y=>do
  let a ←under c true (x.res P rs keep)
  let b ←under c false (y.res P rs keep)
  pure (.br c a b)
def zrn (pat:List (Option Blk)) (p v:Lf) (hp:List (Option Blk)):M (Lf×List (Option Blk)) :=
 match p with
 | .alt _ [(1,.p j 0),(0,.nilp)] =>
  match nth pat j with
  | some (.obj _ ko _) =>
   match v with
   | .p b (.c 0)=>do
    let hp1 ←(match nth hp b,ko-1000 with
     | some (.c o _),k+2=>zli o k b hp
     | _,_=>pure hp)
    let hp2 ←zuz b hp1
    pure (.alt (.z 1) [(1,.p b 0),(0,.nilp)],hp2)
   | .nilp=>if zdr ko&&hpLt hp then do
     let q ←emit (.lmk [.b,.l] [.t false,.t false])
     pure (.alt (.z 0) [(1,.p hp.length 0),(0,.nilp)],hp++[some (.obj true ko q)])
    else M.fail
   | v=>pure (v,hp)
  | _=>pure (v,hp)
 | _=>pure (v,hp)
def zlz (pat:List (Option Blk)):List Lf→List Lf→List (Option Blk)→M (List Lf×List (Option Blk))
 | p::ps,v::vs,hp=>do
  let x ←zrn pat p v hp
  if x.1.lt x.2.length then do
   let r ←zlz pat ps vs x.2
   pure (x.1::r.1,r.2)
  else M.fail
 | _,vs,hp=>pure (vs,hp)
def zhE:List V1→List Lf→Option (List V1)
 | [],[]=>some []
 | .one _::r,x::l=>(zhE r l).map (.one x::·)
 | .agg ys::r,l=>if Nat.ble ys.length l.length then (zhE r (l.drop ys.length)).map (.agg (l.take ys.length)::·) else none
 | _,_=>none
def V.cellsA:V→List Lf
 | .s v=>v.cells
 | .t l=>l.flatMap V1.cells
def zro:V→List Lf→Option V
 | .s v,xs=>match zhE [v] xs with | some [u]=>some (.s u) | _=>none
 | .t l,xs=>(zhE l xs).map .t
def zvR:Lf→Bool
 | .alt _ _=>true
 | _=>false
def zrp (pat:St) (z:St):M St :=
 match pat.sl,z.sl with
 | [some p],[some v] =>
  if p.cellsA.any zvR then
   if v.lt z.hp.length then do
    let q ←zlz pat.hp p.cellsA v.cellsA z.hp
    match zro v q.1 with
    | some u=>pure ⟨[some u],q.2⟩
    | none=>M.fail
   else M.fail
  else pure z
 | _,_=>pure z
def X.prep (pat:St):X→M X
 | .done k s=>do pure (.done k (←zrp pat s))
 | .br c x y=>do
  let a ←under c true (x.prep pat)
  let b ←under c false (y.prep pat)
  pure (.br c a b)
structure Out where
 nodes:Em
 owes:List Nd
 loops:List LR
 outs:List A
def zms (hin:List (Option Blk)) (m:List Nat):Nat→List (Option Blk)→Bool
 | _,[]=>true
 | j,_::l=>(!stays hin j||Nat.beq (rnm m j) j)&&zms hin m (j+1) l
def Sig.st0 (sg:Sig) (ntmps:Nat):St :=
 let ids:=zal 0 sg.nin
 let ps:=sg.ins.map (V.inst ids)
 ⟨ps.map some++List.replicate (ntmps-ps.length) none,sg.hin.map (Option.map (Blk.inst ids))⟩
def zpl (P:Program) (S:Sigs) (fuel:Nat) (c:Code) (rs:List ResultVar) (keep:Bool) (n:Nat) (pat:St) (s:St):M St:=do
 let s1 ←zq9 S.opn s
 let x ←zb2 P S fuel c s1
 let y0 ←x.res P rs keep
 let y ←y0.prep pat
 let z ←y.nSt S.n0
 match z with
 | some z=>znH n pat z
 | none=>M.fail
def zvS (sg:Sig) (z:St) (e:Em) (d:List Ob):Option Out :=
 let p:St:=⟨[some sg.out],sg.hout⟩
 let g:=zdM sg.ots.length p z
 if (p.inst g.1).sub g.2 z&&sg.ok&&zms sg.hin g.2 0 sg.hout then some ⟨e,zh0 d,zg2 d,g.1⟩ else none
def evFn (P:Program) (S:Sigs) (fuel:Nat) (fn:Func) (sg:Sig):Option Out :=
 match fn.body with
 | none=>none
 | some c =>
  if Nat.beq S.n0 sg.hin.length then
   match zpl P S fuel c fn.results.toList (!(sg.hin.isEmpty&&sg.hout.isEmpty)) sg.ots.length ⟨[some sg.out],sg.hout⟩ (sg.st0 fn.ntmps) sg.nin with
   | none=>none
   | some (z,_,e,d)=>zvS sg z e d
  else none
end Go.Sx
namespace Go.Sx
def M.sat {α:Type} (F:FEnv) (ν:Nat→DV) (x:M α) (Q:α→Prop):Prop :=
 ∀ n a n' e d,x n=some (a,n',e,d)→Sat F ν e→(∀ q∈d,Ob.holds F ν q)→Q a
section
variable {α β:Type} {F:FEnv} {ν:Nat→DV}
theorem zab {a:α} {Q:α→Prop} (h:Q a):M.sat F ν (pure a:M α) Q:=by
 intro n b n' e d hx _ _
 change some (a,n,[],[])=some (b,n',e,d) at hx
 simp only [Option.some.injEq,Prod.mk.injEq] at hx
 exact hx.1▸h
theorem zaa {x:M α} {f:α→M β} {R:α→Prop} {Q:β→Prop} (hx:M.sat F ν x R) (hf:∀ a,R a→M.sat F ν (f a) Q) :
  M.sat F ν (x >>= f) Q:=by
 intro n b n' e d h hs hd
 change M.bind x f n=_ at h
 unfold M.bind at h
 cases h1:x n with
 | none=>simp [h1] at h
 | some r =>
  obtain ⟨a,n1,e1,d1⟩:=r
  simp only [h1] at h
  cases h2:f a n1 with
  | none=>simp [h2] at h
  | some r2 =>
   obtain ⟨b2,n2,e2,d2⟩:=r2
   simp only [h2,Option.some.injEq,Prod.mk.injEq] at h
   obtain ⟨rfl,rfl,rfl,rfl⟩:=h
   exact hf a (hx n a n1 e1 d1 h1 (fun p hp=>hs p (List.mem_append_left _ hp)) (fun q hq=>hd q (List.mem_append_left _ hq)))
    n1 b2 n2 e2 d2 h2 (fun p hp=>hs p (List.mem_append_right _ hp)) (fun q hq=>hd q (List.mem_append_right _ hq))
theorem zah {x:M α} {R Q:α→Prop} (hx:M.sat F ν x R) (h:∀ a,R a→Q a):M.sat F ν x Q :=
 fun n a n' e d h1 h2 h3=>h a (hx n a n' e d h1 h2 h3)
theorem zuJ {x:M α} {R Q:α→Prop} (hx:M.sat F ν x R) (hy:M.sat F ν x Q):M.sat F ν x (fun a=>R a∧Q a) :=
 fun n a n' e d h1 h2 h3=>⟨hx n a n' e d h1 h2 h3,hy n a n' e d h1 h2 h3⟩
theorem zdS {ι κ:Type} [Inhabited ι] [Inhabited κ] {x:M α} {G:α→Prop} {Q:ι→κ→α→Prop} (h:∀ i k,M.sat F ν x (fun a=>G a∧Q i k a)) :
  M.sat F ν x (fun a=>G a∧∀ i k,Q i k a) :=
 fun n a n' e d h1 h2 h3=>⟨(h default default n a n' e d h1 h2 h3).1,fun i k=>(h i k n a n' e d h1 h2 h3).2⟩
theorem zdw {ι:Type} {x:M α} {Q:ι→α→Prop} (h:∀ i,M.sat F ν x (fun a=>Q i a)):M.sat F ν x (fun a=>∀ i,Q i a) :=
 fun n a n' e d h1 h2 h3 i=>h i n a n' e d h1 h2 h3
theorem zap {x:M α} : M.sat F ν x (fun _=>True):=fun _ _ _ _ _ _ _ _=>trivial
theorem zac {Q:α→Prop} : M.sat F ν (M.fail:M α) Q:=by
 intro n a n' e d h
 change none=_ at h
 cases h
theorem zad {o:Option α} {Q:α→Prop} (h:∀ a,o=some a→Q a):M.sat F ν (M.lift o) Q:=by
 intro n a n' e d hx _ _
 unfold M.lift at hx
 cases o with
 | none=>cases hx
 | some b =>
  simp only [Option.some.injEq,Prod.mk.injEq] at hx
  exact hx.1▸h b rfl
theorem zag {x:Node} {Q:A→Prop} (h:∀ a:A,a.den ν=zbc F ν x→Q a):M.sat F ν (emit x) Q:=by
 intro n a n' e d hx hs _
 unfold emit at hx
 simp only [Option.some.injEq,Prod.mk.injEq] at hx
 obtain ⟨rfl,rfl,rfl,rfl⟩:=hx
 exact h (.r n) (hs (n,x) (by simp))
theorem zbk {a:A} {Q:Unit→Prop} (h:a.bool ν=true→Q ()):M.sat F ν (owe a) Q:=by
 intro n u n' e d hx _ hd
 unfold owe at hx
 simp only [Option.some.injEq,Prod.mk.injEq] at hx
 obtain ⟨_,rfl,rfl,rfl⟩:=hx
 exact h (hd (.nd ⟨[],a⟩) (by simp) (by simp))
theorem zbt {c:A} {b:Bool} {x:M α} {Q:α→Prop} (h:M.sat F ν x Q):M.sat F ν (under c b x) (fun a=>c.bool ν=b→Q a):=by
 intro n a n' e d hx hs hd hc
 unfold under at hx
 cases h1:x n with
 | none=>simp [h1] at hx
 | some r =>
  obtain ⟨a1,n1,e1,d1⟩:=r
  simp only [h1,Option.some.injEq,Prod.mk.injEq] at hx
  obtain ⟨rfl,rfl,rfl,rfl⟩:=hx
  refine h n a1 n1 e1 d1 h1 hs (fun q hq=>?_)
  have:=hd (q.under c b) (List.mem_map.2 ⟨q,hq,rfl⟩)
  cases q with
  | lp l=>exact this
  | nd q =>
   intro hp
   exact this (by
    intro p hp'
    rcases List.mem_cons.1 hp' with rfl | h'
    ·exact hc
    ·exact hp p h')
theorem zew {cs:List (A×Bool)} {x:M α} {Q:α→Prop} (h:M.sat F ν x Q) :
  M.sat F ν (zgb cs x) (fun a=>(∀ c∈cs,c.1.bool ν=c.2)→Q a):=by
 induction cs with
 | nil=>exact zah h (fun a ha _=>ha)
 | cons p r ih =>
  obtain ⟨c,b⟩:=p
  refine zah (zbt (c:=c) (b:=b) ih) ?_
  intro a ha hall
  exact ha (hall (c,b) (by simp)) (fun q hq=>hall q (List.mem_cons_of_mem _ hq))
theorem zae {c:Prop} [Decidable c] {x y:M α} {Q:α→Prop} (hx:c→M.sat F ν x Q) (hy:¬ c→M.sat F ν y Q):M.sat F ν (if c then x else y) Q:=by
 split
 ·exact hx ‹_›
 ·exact hy ‹_›
end
def Off.good (ν:Nat→DV):Off→Prop
 | .c _=>True
 | .s _ ix _ len=>0≤ix.int ν∧ix.int ν<len
 | .d _ ix _ len ix2 _ len2=>(0≤ix.int ν∧ix.int ν<len)∧0≤ix2.int ν∧ix2.int ν<len2
 | .v _ ix sz a=>0≤ix.int ν∧((ix.int ν).toNat+1)*sz≤(a.cells ν).length
 | .w _ ix sz a ix2 _ len2=>(0≤ix.int ν∧((ix.int ν).toNat+1)*sz≤(a.cells ν).length)∧0≤ix2.int ν∧ix2.int ν<len2
def Lf.good (ν:Nat→DV):Lf→Prop
 | .p _ off=>off.good ν
 | .gp _ off=>off.good ν
 | .alt a l=>0≤a.int ν∧(zaN l (a.int ν).toNat).isSome=true
 | _=>True
def V1.good (ν:Nat→DV) (v:V1):Prop:=∀ l∈v.cells,Lf.good ν l
def V.good (ν:Nat→DV):V→Prop
 | .s v=>v.good ν
 | .t l=>∀ v∈l,V1.good ν v
@[simp] theorem V1.good_one {ν:Nat→DV} {l:Lf} : (V1.one l).good ν↔l.good ν:=by simp [V1.good,V1.cells]
@[simp] theorem V1.good_agg {ν:Nat→DV} {l:List Lf} : (V1.agg l).good ν↔∀ x∈l,x.good ν:=by simp [V1.good,V1.cells]
@[simp] theorem V.good_s {ν:Nat→DV} {v:V1} : (V.s v).good ν↔v.good ν:=Iff.rfl
@[simp] theorem Lf.good_i {ν:Nat→DV} {k:IntKind} {a:A} : (Lf.i k a).good ν:=trivial
@[simp] theorem Lf.good_b {ν:Nat→DV} {a:A} : (Lf.b a).good ν:=trivial
theorem zb7 {a b:IntKind} (h:kEq a b=true):a=b:=by
 cases a<;>cases b<;>simp [kEq] at h<;>rfl
theorem ziD:∀ {a b:List Nat},zik a b=true→a=b
 | [],[],_=>rfl
 | x::l,y::l',h=>by
  simp only [zik,Bool.and_eq_true] at h
  rw [Nat.eq_of_beq_eq_true h.1,ziD h.2]
 | [],_::_,h=>by simp [zik] at h
 | _::_,[],h=>by simp [zik] at h
theorem zhF (ρ:Nat→Loc) (f:Nat→Nat) (bs:List Nat):za9 (fun j=>ρ (f j)) bs=za9 ρ (bs.map f):=by simp [za9,Function.comp_def]
theorem zkc {ρ ρ':Nat→Loc} {bs:List Nat} (h:∀ b∈bs,ρ' b=ρ b):za9 ρ' bs=za9 ρ bs:=by
 unfold za9
 congr 1
 exact List.map_congr_left fun b hb=>by rw [h b hb]
theorem zfL {ρ ρ':Nat→Loc} {bs:List Nat} {n:Nat} (hb:(bs.all fun b=>decide (b<n))=true) (h:∀ k,k<n→ρ' k=ρ k):za9 ρ' bs=za9 ρ bs :=
 zkc fun b hm=>h b (by simpa using List.all_eq_true.1 hb b hm)
theorem A.beq_den {a b:A} (h:a.beq b=true) (ν:Nat→DV):a.den ν=b.den ν:=by
 cases a<;>cases b<;>simp [A.beq] at h
 all_goals (subst h;rfl)
theorem zcO {a b:Bool} (h:beqB a b=true):a=b:=by
 cases a<;>cases b<;>simp [beqB] at h<;>rfl
theorem znV {a b:Bool} (h:¬ beqB a b=true):a≠b:=by
 cases a<;>cases b<;>simp [beqB] at h ⊢
section
variable {F:FEnv} {ν:Nat→DV}
@[simp] theorem A.int_z (n:Int):(A.z n).int ν=n:=rfl
@[simp] theorem A.bool_t (b:Bool):(A.t b).bool ν=b:=rfl
theorem A.int_of_den {a:A} {n:Int} (h:a.den ν = .i n):a.int ν=n:=by simp [A.int,h,DV.toI]
theorem A.bool_of_den {a:A} {n:Bool} (h:a.den ν = .b n):a.bool ν=n:=by simp [A.bool,h,DV.toB]
theorem A.cells_of_den {a:A} {n:List DV} (h:a.den ν = .l n):a.cells ν=n:=by simp [A.cells,h,DV.toL]
theorem zex {a:A} : M.sat F ν (znx a) (fun r=>r.bool ν = !a.bool ν):=by
 unfold znx
 split
 ·exact zab rfl
 ·exact zag fun r h=>A.bool_of_den h
theorem ziE {a b:A} : M.sat F ν (zqM a b) (fun r=>r.bool ν=(a.bool ν&&b.bool ν)):=by
 unfold zqM
 split
 ·exact zab (by simp)
 ·exact zab (by simp)
 ·exact zab (by simp)
 ·exact zab (by simp)
 ·exact zag fun r h=>A.bool_of_den h
theorem zcb {c a b:A} : M.sat F ν (zf8 c a b) (fun r=>r.int ν=bif c.bool ν then a.int ν else b.int ν):=by
 unfold zf8
 split
 ·exact zab rfl
 ·exact zab rfl
 ·refine zae (fun h=>zab ?_) (fun _=>zag fun r h=>A.int_of_den h)
  have:=A.beq_den h ν
  simp only [A.int,this]
  cases c.bool ν<;>rfl
theorem ze6 {c a b:A} : M.sat F ν (zkh c a b) (fun r=>r.bool ν=bif c.bool ν then a.bool ν else b.bool ν):=by
 unfold zkh
 split
 ·exact zab rfl
 ·exact zab rfl
 ·refine zae (fun h=>zab ?_) (fun _=>?_)
  ·have:=A.beq_den h ν
   simp only [A.bool,this]
   cases (A.den ν c).toB<;>rfl
  ·split
   ·exact zab (by simp)
   ·exact zag fun r h=>by rw [A.bool_of_den h];simp
   ·exact zag fun r h=>by rw [A.bool_of_den h];simp
   ·exact zag fun r h=>by rw [A.bool_of_den h];simp
   ·exact zag fun r h=>A.bool_of_den h
theorem zpZ {c a b:A} : M.sat F ν (zqN c a b) (fun r=>r.cells ν=bif c.bool ν then a.cells ν else b.cells ν):=by
 unfold zqN
 split
 ·exact zab rfl
 ·exact zab rfl
 ·refine zae (fun h=>zab ?_) (fun _=>zag fun r h=>A.cells_of_den h)
  have:=A.beq_den h ν
  simp only [A.cells,this]
  cases c.bool ν<;>rfl
theorem zkq {b:A} : M.sat F ν (zki b) (fun _=>b.int ν≠0):=by
 unfold zki
 split
 ·exact zae (fun _=>zac) (fun h=>zab (by simpa using h))
 ·refine zaa (zag (Q:=fun r=>r.bool ν=(b.int ν != 0)) fun r h=>A.bool_of_den h) fun r hr=>?_
  exact zbk fun h=>by rw [hr] at h;simpa using h
theorem zbF {b:A} : M.sat F ν (zek b) (fun _=>0≤b.int ν):=by
 unfold zek
 split
 ·exact zae (fun h=>zab (by simpa using h)) (fun h=>zac)
 ·refine zaa (zag (Q:=fun r=>r.bool ν=decide (b.int ν≥0)) fun r h=>A.bool_of_den h) fun r hr=>?_
  exact zbk fun h=>by rw [hr] at h;simpa using h
end
end Go.Sx
namespace Go.Sx
section
variable {P:Program} {F:FEnv} {ν:Nat→DV} {ρ:Nat→Loc} {w:World}
theorem zrq {op : BinOp} {k : IntKind} {a b : A} (h1 : op ≠ .shl) (h2 : op ≠ .shr) (t : TypeId) :
    M.sat F ν (zur op k a b) (fun l => l.good ν ∧ (binOp op t (.int k (a.int ν)) (.int k (b.int ν))).run P w = .ok (l.conc ν ρ) w) := by
  unfold zur
  split
  all_goals first
    | (refine zaa zkq fun _ h0 => zab ?_; try simp only [A.int_z] at h0 ⊢
       simp [binOp, Op.intDiv, h0, Lf.conc])
    | (refine zaa zkq fun _ h0 => zaa (zag (Q := fun r => r.int ν = _) fun r h => A.int_of_den h) fun r hr => zab ?_
       simp [binOp, Op.intDiv, h0, Lf.conc, hr])
    | (refine zaa (zag (Q := fun r => r.int ν = _) fun r h => A.int_of_den h) fun r hr => zab ?_
       simp [binOp, Op.intArith, Op.intBits, Lf.conc, hr, zaf, ilor, zj8, zar, zed])
    | (refine zaa (zag (Q := fun r => r.bool ν = _) fun r h => A.bool_of_den h) fun r hr => zab ?_
       simp [binOp, Op.intCmp, Lf.conc, hr])
    | (refine zab ?_; simp [binOp, Op.intArith, Op.intBits, Op.intCmp, Lf.conc, zaf, ilor, zj8, zar, zed]; done)
    | (refine zab ⟨trivial, ?_⟩; simp [binOp, Op.intCmp, Lf.conc]; rfl)
    | exact zac
theorem ziF {op:BinOp} {k yk:IntKind} {a b:A} (t:TypeId) :
  M.sat F ν (zk6 op k a b) (fun l=>l.good ν∧(binOp op t (.int k (a.int ν)) (.int yk (b.int ν))).run P w = .ok (l.conc ν ρ) w):=by
 unfold zk6
 split
 ·refine zaa zbF fun _ h0=>zab ?_
  try simp only [A.int_z] at h0 ⊢
  simp [binOp,Op.shift,Lf.conc,ishl,Int.not_lt.2 h0]
 ·refine zaa zbF fun _ h0=>zab ?_
  try simp only [A.int_z] at h0 ⊢
  simp [binOp,Op.shift,Lf.conc,ishr,Int.not_lt.2 h0]
 ·refine zaa zbF fun _ h0=>zaa (zag (Q:=fun r=>r.int ν=_) fun r h=>A.int_of_den h) fun r hr=>zab ?_
  simp [binOp,Op.shift,Lf.conc,ishl,Int.not_lt.2 h0,hr]
 ·refine zaa zbF fun _ h0=>zaa (zag (Q:=fun r=>r.int ν=_) fun r h=>A.int_of_den h) fun r hr=>zab ?_
  simp [binOp,Op.shift,Lf.conc,ishr,Int.not_lt.2 h0,hr]
 ·exact zac
theorem zey {t:TypeId} {k:TK} (h:tk P t=some k):∃ d,P.underlying t=some d∧tkOf d=k:=by
 unfold tk at h
 cases hu:P.underlying t with
 | none=>simp [hu] at h
 | some d=>simp [hu] at h;exact ⟨d,rfl,h⟩
theorem zpm {t:TypeId} {k:IntKind} (h:tk P t=some (.int k)):P.underlying t=some (.int k):=by
 obtain ⟨d,hd,hk⟩:=zey h
 cases d<;>simp [tkOf] at hk
 exact hk▸hd
theorem znW {t:TypeId} (h:tk P t=some .bool):P.underlying t=some .bool:=by
 obtain ⟨d,hd,hk⟩:=zey h
 cases d<;>simp [tkOf] at hk
 exact hd
theorem zkr {t:TypeId} {n e:Nat} (h:tk P t=some (.arr n e)):P.underlying t=some (.array n e):=by
 obtain ⟨d,hd,hk⟩:=zey h
 cases d<;>simp [tkOf] at hk
 obtain ⟨rfl,rfl⟩:=hk
 exact hd
theorem zez {t:TypeId} {l:List (Nat×Nat)} (h:tk P t=some (.struct l)):∃ fs,P.underlying t=some (.struct fs)∧l=fs.toList.map fun f=>(f.offset,f.type):=by
 obtain ⟨d,hd,hk⟩:=zey h
 cases d<;>simp [tkOf] at hk
 exact ⟨_,hd,hk.symm⟩
theorem zhG {op:BinOp} {a b:A} (t:TypeId) (ht:P.underlying t=some .bool) :
  M.sat F ν (zh6 op a b) (fun l=>l.good ν∧(binOp op t (.bool (a.bool ν)) (.bool (b.bool ν))).run P w = .ok (l.conc ν ρ) w):=by
 unfold zh6
 split
 ·refine zab ?_
  simp [binOp,Op.equal,Op.maxDepth,run_equalIn_bool' w 9999 t _ _ ht,Lf.conc]
 ·refine zab ?_
  simp [binOp,Op.equal,Op.maxDepth,run_equalIn_bool' w 9999 t _ _ ht,Lf.conc,bne]
 ·refine zaa (zag (Q:=fun r=>r.bool ν=_) fun r h=>A.bool_of_den h) fun r hr=>zab ?_
  simp [binOp,Op.equal,Op.maxDepth,run_equalIn_bool' w 9999 t _ _ ht,Lf.conc,hr]
 ·refine zaa (zag (Q:=fun r=>r.bool ν=_) fun r h=>A.bool_of_den h) fun r hr=>zab ?_
  simp [binOp,Op.equal,Op.maxDepth,run_equalIn_bool' w 9999 t _ _ ht,Lf.conc,hr,bne]
 ·exact zac
theorem ztk {op:UnOp} {x:Lf} : M.sat F ν (evUn op x) (fun l=>l.good ν∧(Op.unary op (x.conc ν ρ)).run P w = .ok (l.conc ν ρ) w):=by
 unfold evUn
 split
 ·exact zab (by simp [Op.unary,Op.intArith,Lf.conc])
 ·exact zaa (zag (Q:=fun r=>r.int ν=_) fun r h=>A.int_of_den h) fun r hr=>zab (by simp [Op.unary,Op.intArith,Lf.conc,hr])
 ·exact zab (by simp [Op.unary,Op.intBits,Lf.conc,zj8,zed])
 ·exact zaa (zag (Q:=fun r=>r.int ν=_) fun r h=>A.int_of_den h) fun r hr=>zab (by simp [Op.unary,Op.intBits,Lf.conc,hr,zj8,zed])
 ·exact zaa zex fun r hr=>zab (by simp [Op.unary,Lf.conc,hr])
 ·exact zac
theorem zp0 {s d:TypeId} {x:Lf} : M.sat F ν (zq5 P s d x) (fun l=>l.good ν∧(convert s d (x.conc ν ρ)).run P w = .ok (l.conc ν ρ) w):=by
 unfold zq5
 refine zaa (R:=fun k=>tk P s=some k) (zad fun a h=>h) fun ks hs=>?_
 refine zaa (R:=fun k=>tk P d=some k) (zad fun a h=>h) fun kd hd=>?_
 obtain ⟨ds,hds,_⟩:=zey hs
 split
 ·refine zab ?_
  simp [convert,run_underlying hds,run_underlying (zpm hd),Conv.intToInt,Lf.conc]
 ·exact zaa (zag (Q:=fun r=>r.int ν=_) fun r h=>A.int_of_den h) fun r hr=>zab (by
   simp [convert,run_underlying hds,run_underlying (zpm hd),Conv.intToInt,Lf.conc,hr])
 ·exact zac
end
end Go.Sx
namespace Go.Sx
theorem ziG (l:List (Option Lf)) (n:Nat):zhv l n=nth l n:=by
 induction l generalizing n with
 | nil=>cases n<;>rfl
 | cons x l ih=>cases n with
  | zero=>rfl
  | succ n=>exact ih n
theorem za4 {α:Type} {l:List (Option α)} {n:Nat} {x:α} (h:nth l n=some x):n<l.length:=by
 induction l generalizing n with
 | nil=>cases n<;>simp [nth] at h
 | cons y l ih=>cases n with
  | zero=>simp
  | succ n=>simp only [nth] at h;have:=ih h;simp;exact this
theorem za1 {α:Type} (l:List α) (n:Nat):nth (l.map some) n=l[n]?:=by
 induction l generalizing n with
 | nil=>cases n<;>rfl
 | cons y l ih=>cases n with
  | zero=>rfl
  | succ n=>simpa [nth] using ih n
theorem zaL {α:Type} (l l':List (Option α)) (n:Nat):nth (l++l') n=if n<l.length then nth l n else nth l' (n-l.length):=by
 induction l generalizing n with
 | nil=>simp
 | cons y l ih=>cases n with
  | zero=>simp [nth]
  | succ n =>
   simp only [List.cons_append,nth,ih,List.length_cons]
   by_cases h:n<l.length
   ·simp [h]
   ·simp [h]
theorem zai {α:Type} (v:α) (l:List α) (n:Nat):(zat v l n).length=l.length:=by
 induction l generalizing n with
 | nil=>cases n<;>rfl
 | cons y l ih=>cases n with
  | zero=>rfl
  | succ n=>simp [zat,ih]
theorem zaq {α:Type} (v:Option α) (l:List (Option α)) (n:Nat):nth (zat v l n) n=if n<l.length then v else none:=by
 induction l generalizing n with
 | nil=>cases n<;>simp [zat,nth]
 | cons y l ih=>cases n with
  | zero=>simp [zat,nth]
  | succ n=>simp [zat,nth,ih]
theorem zau {α:Type} (v:Option α) (l:List (Option α)) (n m:Nat) (h:n≠m):nth (zat v l n) m=nth l m:=by
 induction l generalizing n m with
 | nil=>cases n<;>rfl
 | cons y l ih=>cases n with
  | zero=>cases m with
   | zero=>exact absurd rfl h
   | succ m=>rfl
  | succ n=>cases m with
   | zero=>rfl
   | succ m=>exact ih n m (fun e=>h (by rw [e]))
theorem zdm {l:List (Option Lf)} {o n:Nat} {xs:List Lf} (h:za2 l o n=some xs):xs.length=n∧∀ j,j<n→nth l (o+j)=xs[j]?:=by
 induction l generalizing o n xs with
 | nil=>cases n with
  | zero=>simp [za2] at h;subst h;exact ⟨rfl,fun j hj=>absurd hj (by omega)⟩
  | succ n=>cases o<;>simp [za2] at h
 | cons c l ih=>cases n with
  | zero=>cases o<;>simp [za2] at h<;>(subst h;exact ⟨rfl,fun j hj=>absurd hj (by omega)⟩)
  | succ n=>cases o with
   | succ o =>
    simp only [za2] at h
    obtain ⟨h1,h2⟩:=ih h
    refine ⟨h1,fun j hj=>?_⟩
    rw [show o+1+j=(o+j)+1 from by omega]
    exact h2 j hj
   | zero =>
    simp only [za2] at h
    cases c with
    | none=>simp at h
    | some x =>
     simp only at h
     cases hr:za2 l 0 n with
     | none=>simp [hr] at h
     | some r =>
      simp only [hr,Option.some.injEq] at h
      subst h
      obtain ⟨h1,h2⟩:=ih hr
      refine ⟨by simp [h1],fun j hj=>?_⟩
      cases j with
      | zero=>rfl
      | succ j =>
       rw [show 0+(j+1)=(0+j)+1 from by omega]
       exact h2 j (by omega)
theorem zbG {l:List (Option Lf)} {sz:Nat} : ∀ {n base:Nat} {xs:List Lf},zby l base sz n=some xs→xs.length=n∧∀ j,j<n→nth l (base+j*sz)=xs[j]?
 | 0,base,xs,h=>by simp [zby] at h;subst h;exact ⟨rfl,fun j hj=>absurd hj (by omega)⟩
 | n+1,base,xs,h=>by
  simp only [zby,ziG] at h
  cases hc:nth l base with
  | none=>simp [hc] at h
  | some x =>
   simp only [hc] at h
   cases hr:zby l (base+sz) sz n with
   | none=>simp [hr] at h
   | some r =>
    simp only [hr,Option.some.injEq] at h
    subst h
    obtain ⟨h1,h2⟩:=zbG hr
    refine ⟨by simp [h1],fun j hj=>?_⟩
    cases j with
    | zero=>simp [hc]
    | succ j =>
     have:=h2 j (by omega)
     rw [show base+(j+1)*sz=base+sz+j*sz from by rw [Nat.add_mul];omega]
     simpa using this
theorem ziH {k:IntKind} : ∀ {l:List Lf} {xs:List A},zc0 k l=some xs→l=xs.map (Lf.i k)
 | [],xs,h=>by simp [zc0] at h;subst h;rfl
 | .i k' a::l,xs,h=>by
  simp only [zc0] at h
  split at h
  ·rename_i hk
   have:=zb7 hk;subst this
   cases hr:zc0 k l with
   | none=>simp [hr] at h
   | some r=>simp only [hr,Option.some.injEq] at h;subst h;rw [ziH hr];rfl
  ·simp at h
 | .b _::_,xs,h=>by simp [zc0] at h
 | .p _ _::_,xs,h=>by simp [zc0] at h
 | .gp _ _::_,xs,h=>by simp [zc0] at h
 | .nilp::_,xs,h=>by simp [zc0] at h
 | .vec _::_,xs,h=>by simp [zc0] at h
 | .fnp _ _::_,xs,h=>by simp [zc0] at h
 | .e _ _ _::_,xs,h=>by simp [zc0] at h
 | .v _::_,xs,h=>by simp [zc0] at h
theorem zhH:∀ {l:List Lf} {xs:List A},zb1 l=some xs→l=xs.map Lf.b
 | [],xs,h=>by simp [zb1] at h;subst h;rfl
 | .b a::l,xs,h=>by
  simp only [zb1] at h
  cases hr:zb1 l with
  | none=>simp [hr] at h
  | some r=>simp only [hr,Option.some.injEq] at h;subst h;rw [zhH hr];rfl
 | .i _ _::_,xs,h=>by simp [zb1] at h
 | .p _ _::_,xs,h=>by simp [zb1] at h
 | .gp _ _::_,xs,h=>by simp [zb1] at h
 | .nilp::_,xs,h=>by simp [zb1] at h
 | .vec _::_,xs,h=>by simp [zb1] at h
 | .fnp _ _::_,xs,h=>by simp [zb1] at h
 | .e _ _ _::_,xs,h=>by simp [zb1] at h
 | .v _::_,xs,h=>by simp [zb1] at h
section
variable {P:Program} {F:FEnv} {ν:Nat→DV} {ρ:Nat→Loc} {w:World}
theorem zcJ {t:TypeId} {n:Nat} (h:zaM P t=some n):∃ i,P.info? t=some i∧i.size=n:=by
 unfold zaM at h
 cases hi:P.info? t with
 | none=>simp [hi] at h
 | some i=>simp [hi] at h;exact ⟨i,rfl,h⟩
theorem za6 {t:TypeId} {n:Nat} (h:zaM P t=some n) (w:World):(sizeOf t).run P w = .ok n w:=by
 obtain ⟨i,hi,hn⟩:=zcJ h
 simp [sizeOf,typeInfo,hi,hn]
theorem zdx {t:TypeId} {k:TK} (h:tk P t=some k) (w:World):(isAgg t).run P w = .ok (zb0 k) w:=by
 obtain ⟨d,hd,hk⟩:=zey h
 unfold isAgg
 rw [Sem.run_bind,run_underlying hd w]
 subst hk
 cases d<;>simp [tkOf,zb0]
theorem LT.feq_eq {t u:LT} (h:t.feq u=true):t=u:=by
 cases t<;>cases u<;>simp only [LT.feq] at h<;>first | rfl | cases h | rw [zb7 h]
theorem zeA {t:LT} {a:A} {d:Nat} : ∀ {l:List Lf} {i:Nat},rowE t a d i l=true→∀ (k:Nat) (x:Lf),l[k]? = some x→∃ b,b.beq a=true∧x = .e t b (i+k*d)
 | [],i,_,k,x,hx=>by simp at hx
 | y::l,i,h,k,x,hx=>by
  cases y<;>simp only [rowE] at h<;>try cases h
  rename_i u b j
  simp only [Bool.and_eq_true] at h
  obtain ⟨⟨⟨h1,h2⟩,h3⟩,h4⟩:=h
  cases k with
  | zero =>
   simp at hx
   subst hx
   rw [LT.feq_eq h1,Nat.eq_of_beq_eq_true h3]
   exact ⟨b,h2,by simp⟩
  | succ k =>
   rw [List.getElem?_cons_succ] at hx
   obtain ⟨c,h5,h6⟩:=zeA h4 k x hx
   refine ⟨c,h5,?_⟩
   rw [h6]
   congr 1
   rw [Nat.add_mul];omega
theorem zks {x:Lf} (hg:x.good ν):M.sat F ν (zo7 x) (fun y=>y.good ν∧∀ ρ,y.conc ν ρ=x.conc ν ρ):=by
 unfold zo7
 split
 ·rename_i k a j
  refine zaa (zag (Q:=fun q=>q.int ν=((a.cells ν).getD (0*1+j) default).toI) fun q h=>A.int_of_den h) fun q hq=>zab ⟨trivial,fun ρ=>?_⟩
  simp only [Lf.conc,hq,Nat.zero_mul,Nat.zero_add]
 ·rename_i a j
  refine zaa (zag (Q:=fun q=>q.bool ν=((a.cells ν).getD (0*1+j) default).toB) fun q h=>A.bool_of_den h) fun q hq=>zab ⟨trivial,fun ρ=>?_⟩
  simp only [Lf.conc,hq,Nat.zero_mul,Nat.zero_add]
 ·exact zab ⟨hg,fun _=>rfl⟩
theorem zcc {l:List Lf} {ix:A} {len:Nat} (hl:l.length=len) (h0:0≤ix.int ν) (h1:ix.int ν<len) :
  M.sat F ν (zel l ix) (fun x=>x.good ν∧∀ ρ,∃ y,l[(ix.int ν).toNat]? = some y∧x.conc ν ρ=y.conc ν ρ):=by
 have hlt:(ix.int ν).toNat<l.length:=by omega
 unfold zel
 split
 ·rename_i k a tl
  generalize hL:Lf.i k a::tl=L at *
  refine zaa (zad (Q:=fun xs=>L=xs.map (Lf.i k)) fun xs h=>ziH h) fun xs hxs=>?_
  refine zaa (zag (Q:=fun r=>r.int ν=_) fun r h=>A.int_of_den h) fun r hr=>zab ⟨trivial,fun ρ=>?_⟩
  rw [hxs] at hlt ⊢
  simp at hlt
  refine ⟨_,List.getElem?_eq_getElem (by simpa using hlt),?_⟩
  simp [Lf.conc,hr,List.getD,hlt]
 ·rename_i a tl
  generalize hL:Lf.b a::tl=L at *
  refine zaa (zad (Q:=fun xs=>L=xs.map Lf.b) fun xs h=>zhH h) fun xs hxs=>?_
  refine zaa (zag (Q:=fun r=>r.bool ν=_) fun r h=>A.bool_of_den h) fun r hr=>zab ⟨trivial,fun ρ=>?_⟩
  rw [hxs] at hlt ⊢
  simp at hlt
  refine ⟨_,List.getElem?_eq_getElem (by simpa using hlt),?_⟩
  simp [Lf.conc,hr,List.getD,hlt]
 ·rename_i k a i0 tl
  refine zae (fun hrow=>?_) (fun _=>zac)
  refine zaa (zag (Q:=fun r=>r.int ν=((a.cells ν).getD ((ix.int ν).toNat*zg3 i0 tl+i0) default).toI) fun r h=>A.int_of_den h) fun r hr=>zab ⟨trivial,fun ρ=>?_⟩
  obtain ⟨b,h3,h4⟩:=zeA hrow _ _ (List.getElem?_eq_getElem hlt)
  refine ⟨_,List.getElem?_eq_getElem hlt,?_⟩
  rw [h4]
  simp only [Lf.conc,hr,A.cells,A.beq_den h3 ν,Nat.add_comm]
 ·rename_i a i0 tl
  refine zae (fun hrow=>?_) (fun _=>zac)
  refine zaa (zag (Q:=fun r=>r.bool ν=((a.cells ν).getD ((ix.int ν).toNat*zg3 i0 tl+i0) default).toB) fun r h=>A.bool_of_den h) fun r hr=>zab ⟨trivial,fun ρ=>?_⟩
  obtain ⟨b,h3,h4⟩:=zeA hrow _ _ (List.getElem?_eq_getElem hlt)
  refine ⟨_,List.getElem?_eq_getElem hlt,?_⟩
  rw [h4]
  simp only [Lf.conc,hr,A.cells,A.beq_den h3 ν,Nat.add_comm]
 ·exact zac
theorem zhc {l:List (Option Lf)} {sz len:Nat} {ix:A} (h0:0≤ix.int ν) (h1:ix.int ν<len):∀ (n base:Nat),
  M.sat F ν (zmg l base sz len ix n) (fun xs=>xs.length=n∧(∀ x∈xs,x.good ν)∧∀ ρ j,j<n→∃ x y,xs[j]? = some x∧nth l (base+j+(ix.int ν).toNat*sz)=some y∧x.conc ν ρ=y.conc ν ρ)
 | 0,base=>zab ⟨rfl,by simp,fun ρ j hj=>absurd hj (by omega)⟩
 | n+1,base=>by
  unfold zmg
  refine zaa (zad (Q:=fun row=>zby l base sz len=some row) fun a h=>h) fun row hrow=>?_
  obtain ⟨hlen,hget⟩:=zbG hrow
  refine zaa (zcc hlen h0 h1) fun x hx=>?_
  refine zaa (zhc h0 h1 n (base+1)) fun r hr=>zab ?_
  obtain ⟨hr1,hr2,hr3⟩:=hr
  refine ⟨by simp [hr1],?_,fun ρ j hj=>?_⟩
  ·intro y hy
   rcases List.mem_cons.1 hy with rfl | h
   ·exact hx.1
   ·exact hr2 y h
  ·cases j with
   | zero =>
    obtain ⟨y,hy,he⟩:=hx.2 ρ
    refine ⟨x,y,rfl,?_,he⟩
    rw [Nat.add_zero,hget _ (by omega)]
    exact hy
   | succ j =>
    obtain ⟨x',y',h1',h2',h3'⟩:=hr3 ρ j (by omega)
    refine ⟨x',y',by simpa using h1',?_,h3'⟩
    rw [show base+(j+1)=base+1+j from by omega]
    exact h2'
theorem zmt {l:List Lf} {off sz:Nat} {xs:List Lf} (h:za2 (l.map some) off sz=some xs) (f:Lf→Value) :
  (l.map f).toArray.extract off (off+sz)=(xs.map f).toArray:=by
 obtain ⟨h1,h2⟩:=zdm h
 have hle:off+sz≤l.length∨sz=0:=by
  cases sz with
  | zero=>exact .inr rfl
  | succ n =>
   left
   have hx:=h2 n (by omega)
   have hxs:xs[n]? = some xs[n]:=List.getElem?_eq_getElem (by omega)
   rw [hxs] at hx
   have:=za4 hx
   simp at this
   omega
 apply Array.ext'
 rw [Array.toList_extract,List.extract_eq_take_drop]
 apply List.ext_getElem?
 intro j
 rw [List.getElem?_take]
 by_cases hj:j<sz
 ·have hx:=h2 j hj
  rw [za1] at hx
  rw [if_pos (by omega),List.getElem?_drop]
  simp [hx]
 ·rw [if_neg (by omega)]
  simp only [List.getElem?_map]
  rw [List.getElem?_eq_none (by omega)]
  rfl
theorem znX {l:List Lf} {off sz:Nat} {xs:List Lf} (h:za2 (l.map some) off sz=some xs) {x:Lf} (hx:x∈xs):x∈l:=by
 obtain ⟨h1,h2⟩:=zdm h
 obtain ⟨j,hj,rfl⟩:=List.mem_iff_getElem.1 hx
 have:=h2 j (by omega)
 rw [za1,List.getElem?_eq_getElem hj] at this
 exact List.mem_of_getElem? this
theorem zdy {t:TypeId} {cs:List Lf} {off:Nat} (hg:∀ x∈cs,Lf.good ν x) :
  M.sat F ν (zgc P t cs off) (fun v=>v.good ν∧∀ ρ w,(part t (cs.map (Lf.conc ν ρ)).toArray off).run P w = .ok (v.conc ν ρ) w):=by
 unfold zgc
 refine zaa (zad (Q:=fun k=>tk P t=some k) fun a h=>h) fun k hk=>?_
 refine zaa (zad (Q:=fun k=>zaM P t=some k) fun a h=>h) fun sz hs=>?_
 refine zae (fun ha=>?_) (fun ha=>?_)
 ·refine zaa (zad (Q:=fun xs=>za2 (cs.map some) off sz=some xs) fun a h=>h) fun xs hxs=>zab ⟨?_,fun ρ w=>?_⟩
  ·exact V1.good_agg.2 fun x hx=>hg x (znX hxs hx)
  ·have hex:=zmt hxs (Lf.conc ν ρ)
   simp only [part,Sem.run_bind,zdx hk,ha,Result.andThen_ok,if_true,za6 hs,Sem.run_pure,V1.conc,hex]
 ·refine zaa (zad (Q:=fun x=>zhv (cs.map some) off=some x) fun a h=>h) fun x hx=>?_
  rw [ziG,za1] at hx
  refine zaa (zks (hg x (List.mem_of_getElem? hx))) fun y hy=>zab ⟨V1.good_one.2 hy.1,fun ρ w=>?_⟩
  simp [part,zdx hk,ha,hx,V1.conc,hy.2]
def zuK (P:Program) (ν:Nat→DV) (d:Nat) (eq:TypeId→V1→V1→M A) (F:FEnv):Prop :=
 ∀ t x y,x.good ν→y.good ν→M.sat F ν (eq t x y) (fun a=>∀ ρ m w,(Op.equalIn (m+d) t (x.conc ν ρ) (y.conc ν ρ)).run P w = .ok (a.bool ν) w)
theorem znY {a b:Lf} (h:zq2 a b=true) (ρ:Nat→Loc):a.conc ν ρ=b.conc ν ρ:=by
 have key:∀ {k k':IntKind} {x y:A} {i j:Nat},(kEq k k'&&x.beq y&&Nat.beq i j)=true→k=k'∧x.den ν=y.den ν∧i=j:=fun h=>by
  simp only [Bool.and_eq_true] at h
  exact ⟨zb7 h.1.1,A.beq_den h.1.2 ν,Nat.eq_of_beq_eq_true h.2⟩
 unfold zq2 at h
 split at h
 ·simp only [Bool.and_eq_true] at h
  rw [zb7 h.1]
  simp only [Lf.conc,A.int,A.beq_den h.2 ν]
 ·simp only [Lf.conc,A.bool,A.beq_den h ν]
 ·obtain ⟨e1,e2,e3⟩:=key h
  subst e1 e3
  simp only [Lf.conc,A.cells,e2]
 ·simp only [Bool.and_eq_true] at h
  have e:=Nat.eq_of_beq_eq_true h.2
  subst e
  simp only [Lf.conc,A.cells,A.beq_den h.1 ν]
 ·cases h
theorem ziI:∀ {l l':List Lf},zkk l l'=true→∀ ρ:Nat→Loc,l.map (Lf.conc ν ρ)=l'.map (Lf.conc ν ρ)
 | [],[],_,_=>rfl
 | x::l,y::l',h,ρ=>by
  simp only [zkk,Bool.and_eq_true] at h
  rw [List.map_cons,List.map_cons,znY h.1 ρ,ziI h.2 ρ]
 | [],_::_,h,_=>by cases h
 | _::_,[],h,_=>by cases h
theorem zhI {t:TypeId} {xs ys:List Lf} {off:Nat} {a:V1} (hy:∀ x∈ys,Lf.good ν x) (ha:a.good ν∧∀ ρ w,(part t (xs.map (Lf.conc ν ρ)).toArray off).run P w = .ok (a.conc ν ρ) w) :
  M.sat F ν (if zkk xs ys then pure a else zgc P t ys off) (fun v=>v.good ν∧∀ ρ w,(part t (ys.map (Lf.conc ν ρ)).toArray off).run P w = .ok (v.conc ν ρ) w) :=
 zae (fun h=>zab ⟨ha.1,fun ρ w=>by rw [←ziI h ρ];exact ha.2 ρ w⟩) (fun _=>zdy hy)
theorem ziJ {d:Nat} {eq:TypeId→V1→V1→M A} (heq:zuK P ν d eq F) {elem:TypeId} {sz:Nat} {xs ys:List Lf} (hx:∀ x∈xs,Lf.good ν x) (hy:∀ x∈ys,Lf.good ν x) :
  ∀ (n i:Nat),M.sat F ν (zld P eq elem sz xs ys i n) (fun a=>∀ ρ m w,(Op.eqItems (m+d) elem sz (xs.map (Lf.conc ν ρ)).toArray (ys.map (Lf.conc ν ρ)).toArray (List.range' i n)).run P w = .ok (a.bool ν) w)
 | 0,i=>zab (by intro ρ m w;simp [Op.eqItems])
 | n+1,i=>by
  unfold zld
  refine zaa (zdy hx) fun a ha=>?_
  refine zaa (zhI hy ha) fun b hb=>?_
  refine zaa (heq elem a b ha.1 hb.1) fun e he=>?_
  refine zaa (ziJ heq hx hy n (i+1)) fun r hr=>?_
  refine zah ziE fun q hq ρ m w=>?_
  rw [List.range'_succ]
  simp only [Op.eqItems,Sem.run_bind,ha.2 ρ w,hb.2 ρ w,Result.andThen_ok,he ρ m w,hq]
  cases h:e.bool ν
  ·simp
  ·simpa using hr ρ m w
theorem zfo {d:Nat} {eq:TypeId→V1→V1→M A} (heq:zuK P ν d eq F) {xs ys:List Lf} (hx:∀ x∈xs,Lf.good ν x) (hy:∀ x∈ys,Lf.good ν x) :
  ∀ (fs : List Field), (∀ f ∈ fs, f.name ≠ "_") → M.sat F ν (zeZ P eq xs ys (fs.map fun f => (f.offset, f.type))) (fun a => ∀ ρ m w, (Op.eqFields (m + d) (xs.map (Lf.conc ν ρ)).toArray (ys.map (Lf.conc ν ρ)).toArray fs).run P w = .ok (a.bool ν) w)
 | [],_=>zab (by intro ρ m w;simp [Op.eqFields])
 | f::fs,hn=>by
  simp only [List.map_cons]
  unfold zeZ
  refine zaa (zdy hx) fun a ha=>?_
  refine zaa (zhI hy ha) fun b hb=>?_
  refine zaa (heq f.type a b ha.1 hb.1) fun e he=>?_
  refine zaa (zfo heq hx hy fs (fun g hg=>hn g (List.mem_cons_of_mem _ hg))) fun r hr=>?_
  refine zah ziE fun q hq ρ m w=>?_
  have hne : f.name ≠ "_" := hn f (by simp)
  simp only [Op.eqFields,hne,ne_eq,not_false_eq_true,if_true,Sem.run_bind,ha.2 ρ w,hb.2 ρ w,Result.andThen_ok,he ρ m w,hq]
  cases h:e.bool ν
  ·simp
  ·simpa using hr ρ m w
theorem zid:∀ (d:Nat),zuK P ν d (evEq P d) F
 | 0=>fun t x y _ _=>zac
 | d+1=>fun t x y hgx hgy=>by
  unfold evEq
  refine zaa (zad (Q:=fun k=>tk P t=some k) fun a h=>h) fun k hk=>?_
  split
  ·rename_i ki ka a kb b
   refine zae (fun hkk=>?_) (fun _=>zac)
   have:=zb7 hkk;subst this
   have hu:=zpm hk
   split
   ·exact zab fun ρ m w=>by simp [V1.conc,Lf.conc,←Nat.add_assoc,run_equalIn_int w _ t _ _ _ _ hu]
   ·refine zae (fun hb=>zab fun ρ m w=>?_) (fun _=>zag fun r h ρ m w=>by rw [A.bool_of_den h];simp [V1.conc,Lf.conc,←Nat.add_assoc,run_equalIn_int w _ t _ _ _ _ hu])
    have e:=A.beq_den hb ν
    simp [V1.conc,Lf.conc,←Nat.add_assoc,run_equalIn_int w _ t _ _ _ _ hu,A.int,e]
  ·have hu:=znW hk
   split
   ·exact zab fun ρ m w=>by simp [V1.conc,Lf.conc,←Nat.add_assoc,run_equalIn_bool' w _ t _ _ hu]
   ·refine zae (fun hb=>zab fun ρ m w=>?_) (fun _=>zag fun r h ρ m w=>by rw [A.bool_of_den h];simp [V1.conc,Lf.conc,←Nat.add_assoc,run_equalIn_bool' w _ t _ _ hu])
    have e:=A.beq_den hb ν
    simp [V1.conc,Lf.conc,←Nat.add_assoc,run_equalIn_bool' w _ t _ _ hu,A.bool,e]
  ·rename_i len elem xs ys
   have hu:=zkr hk
   refine zaa (zad (Q:=fun k=>zaM P elem=some k) fun a h=>h) fun sz hs=>?_
   obtain ⟨i,hi,hn⟩:=zcJ hs
   refine zah (ziJ (zid d) (V1.good_agg.1 hgx) (V1.good_agg.1 hgy) len 0) fun a ha ρ m w=>?_
   have hc:P.cellsOf elem=sz:=by simp [Program.cellsOf,hi,hn]
   simp only [V1.conc]
   rw [←Nat.add_assoc,run_equalIn_array w (m+d) _ _ hu hi,hc,List.range_eq_range']
   exact ha ρ m w
  ·rename_i fs xs ys
   obtain ⟨fl,hu,hfs⟩:=zez hk
   have hfo:P.fieldsOf t=fl:=by simp [Program.fieldsOf,hu]
   refine zae (fun _=>zac) (fun hst=>?_)
   refine zae (fun hnm=>?_) (fun _=>zac)
   subst hfs
   rw [hfo] at hnm
   refine zah (zfo (zid d) (V1.good_agg.1 hgx) (V1.good_agg.1 hgy) fl.toList (by
    intro f hf
    have:=List.all_eq_true.1 hnm f hf
    simpa using this)) fun a ha ρ m w=>?_
   simp only [V1.conc]
   rw [←Nat.add_assoc,run_equalIn_struct w (m+d) t _ _ (by rw [hfo];exact hu) (by simpa using hst),hfo]
   exact ha ρ m w
  ·exact zac
end
end Go.Sx
namespace Go.Sx
open Go.RowKit
structure ObjK where
 foot:World→Nat→Nat→Nat→Prop
 rfoot:World→Nat→Nat→Nat→Prop
 /-- may it be written? -/
 rel:Bool→World→Nat→Nat→List DV→Prop
 weak:∀ {w:World} {p o:Nat} {d:List DV},rel true w p o d→rel false w p o d
 lt:∀ {own:Bool} {w:World} {p o:Nat} {d:List DV} {b:Nat},rel own w p o d→rfoot w p o b→b<w.heap.size
 sub:∀ {own:Bool} {w:World} {p o:Nat} {d:List DV} {b:Nat},rel own w p o d→foot w p o b→rfoot w p o b
 foot_congr:∀ {own:Bool} {w w':World} {p o:Nat} {d:List DV},rel own w p o d→(∀ b,rfoot w p o b→w'.heap[b]? = w.heap[b]?)→∀ b,foot w' p o b↔foot w p o b
 rfoot_congr:∀ {own:Bool} {w w':World} {p o:Nat} {d:List DV},rel own w p o d→(∀ b,rfoot w p o b→w'.heap[b]? = w.heap[b]?)→∀ b,rfoot w' p o b↔rfoot w p o b
 rel_congr:∀ {own:Bool} {w w':World} {p o:Nat} {d:List DV},rel own w p o d→(∀ b,rfoot w p o b→w'.heap[b]? = w.heap[b]?)→rel own w' p o d
def ziK:ObjK:=⟨fun _ _ _ _=>False,fun _ _ _ _=>False,fun _ _ _ _ _=>False,id,fun h=>h.elim,fun h=>h.elim,fun h=>h.elim,fun h=>h.elim,fun h=>h.elim⟩
theorem ObjK.wk (K:ObjK) {own:Bool} {w:World} {p o:Nat} {d:List DV} (h:K.rel own w p o d):K.rel false w p o d:=by
 cases own with
 | true=>exact K.weak h
 | false=>exact h
def ramAt:List DV→Int→Int
 | [],_=>0
 | e::r,k=>if (e.toL.getD 0 default).toI=k then (e.toL.getD 1 default).toI else ramAt r k
def zc5 (d:List DV) (k b:Int):List DV:=.l [.i k,.i b]::d
theorem zgq (d:List DV) (k b j:Int):ramAt (zc5 d k b) j=if k=j then b else ramAt d j:=rfl
structure PageAt (own:Bool) (w:World) (b o:Nat) (f:Nat→Int):Prop where
 cell:∀ i,i<4096→w.cell? ⟨b,o+i,none⟩=some (.int .u8 (f i))
 fz:own=true→∀ i,w.frozen? ⟨b,i,none⟩=false
theorem PageAt.congr {own:Bool} {w w':World} {b o:Nat} {f:Nat→Int} (h:PageAt own w b o f) (hb:w'.heap[b]? = w.heap[b]?):PageAt own w' b o f :=
 ⟨fun i hi=>by rw [World.cell?_of_block (w:=w) hb];exact h.cell i hi,fun ho i=>by rw [World.frozen?_of_block (w:=w) hb];exact h.fz ho i⟩
theorem PageAt.weak {own:Bool} {w:World} {b o:Nat} {f:Nat→Int} (h:PageAt own w b o f):PageAt false w b o f:=⟨h.cell,fun e=>by cases e⟩
theorem zav {w:World} {b o:Nat} {v:Value} (h:w.cell? ⟨b,o,none⟩=some v):b<w.heap.size:=by
 rcases Nat.lt_or_ge b w.heap.size with h2 | h2
 ·exact h2
 ·simp [World.cell?,Array.getElem?_eq_none h2] at h
theorem PageAt.lt {own:Bool} {w:World} {b o:Nat} {f:Nat→Int} (h:PageAt own w b o f):b<w.heap.size:=zav (h.cell 0 (by decide))
abbrev pageKey (n:Int):Value:=.agg #[.int .u64 n]
structure RamA (own:Bool) (w:World) (p o:Nat) (d:List DV) (mb:Nat) (es:Array MapEntry) (clock:Nat):Prop where
 cell:w.cell? ⟨p,o,none⟩=some (.map (some mb))
 obj:w.heap[mb]? = some (.map es clock)
 st:MapKept.Stamped es clock
 page:∀ e∈es.toList,∃ (n:Int) (b:Nat),0≤n∧n<18446744073709551616∧e.key=pageKey n∧e.val = .pointer (some ⟨b,0,none⟩)∧PageAt own w b 0 (fun i=>ramAt d (n*4096+i))
 apart:es.toList.Pairwise (fun e e'=>e.key≠e'.key∧e.val≠e'.val)
 rest:∀ n:Int,0≤n→n<18446744073709551616→(∀ e∈es.toList,e.key≠pageKey n)→∀ i:Nat,i<4096→ramAt d (n*4096+i)=0
def zgr (w:World) (p o b:Nat):Prop :=
 b=p∨∃ mb,w.cell? ⟨p,o,none⟩=some (.map (some mb))∧(b=mb∨∃ es clock,w.heap[mb]? = some (.map es clock)∧∃ e∈es.toList,e.val = .pointer (some ⟨b,0,none⟩))
theorem RamA.foot {own:Bool} {w:World} {p o:Nat} {d:List DV} {mb:Nat} {es:Array MapEntry} {clock:Nat} (h:RamA own w p o d mb es clock) (b:Nat) :
  zgr w p o b↔(b=p∨b=mb∨∃ e∈es.toList,e.val = .pointer (some ⟨b,0,none⟩)):=by
 unfold zgr
 constructor
 ·rintro (h1 | ⟨mb',h1,h2 | ⟨es',cl',h2,h3⟩⟩)
  ·exact .inl h1
  ·rw [h.cell] at h1;cases h1;exact .inr (.inl h2)
  ·rw [h.cell] at h1;cases h1
   rw [h.obj] at h2;cases h2
   exact .inr (.inr h3)
 ·rintro (h1 | h1 | h1)
  ·exact .inl h1
  ·exact .inr ⟨mb,h.cell,.inl h1⟩
  ·exact .inr ⟨mb,h.cell,.inr ⟨es,clock,h.obj,h1⟩⟩
theorem RamA.lt {own:Bool} {w:World} {p o:Nat} {d:List DV} {mb:Nat} {es:Array MapEntry} {clock:Nat} (h:RamA own w p o d mb es clock) {b:Nat} (hb:zgr w p o b):b<w.heap.size:=by
 rcases (h.foot b).1 hb with rfl | rfl | ⟨e,he,hv⟩
 ·exact zav h.cell
 ·rcases Nat.lt_or_ge b w.heap.size with h2 | h2
  ·exact h2
  ·have:=h.obj;rw [Array.getElem?_eq_none h2] at this;cases this
 ·obtain ⟨n,b',_,_,_,h5,h6⟩:=h.page e he
  rw [h5] at hv
  cases hv
  exact h6.lt
theorem RamA.congr {own:Bool} {w w':World} {p o:Nat} {d:List DV} {mb:Nat} {es:Array MapEntry} {clock:Nat} (h:RamA own w p o d mb es clock) (hb:∀ b,zgr w p o b→w'.heap[b]? = w.heap[b]?):RamA own w' p o d mb es clock:=by
 refine ⟨?_,?_,h.st,fun e he=>?_,h.apart,h.rest⟩
 ·rw [World.cell?_of_block (w:=w) (hb p (.inl rfl))];exact h.cell
 ·rw [hb mb ((h.foot mb).2 (.inr (.inl rfl)))];exact h.obj
 ·obtain ⟨n,b,h1,h2,h3,h4,h5⟩:=h.page e he
  exact ⟨n,b,h1,h2,h3,h4,h5.congr (hb b ((h.foot b).2 (.inr (.inr ⟨e,he,h4⟩))))⟩
theorem RamA.weak {own:Bool} {w:World} {p o:Nat} {d:List DV} {mb:Nat} {es:Array MapEntry} {clock:Nat} (h:RamA own w p o d mb es clock):RamA false w p o d mb es clock :=
 ⟨h.cell,h.obj,h.st,fun e he=>let ⟨n,b,h1,h2,h3,h4,h5⟩:=h.page e he;⟨n,b,h1,h2,h3,h4,h5.weak⟩,h.apart,h.rest⟩
theorem ziL {own:Bool} {w w':World} {p o:Nat} {d:List DV} {mb:Nat} {es:Array MapEntry} {clock:Nat} (h:RamA own w p o d mb es clock) (hb:∀ b,zgr w p o b→w'.heap[b]? = w.heap[b]?) (b:Nat):zgr w' p o b↔zgr w p o b:=by
 rw [(h.congr hb).foot,h.foot]
def znZ:ObjK where
 foot:=zgr
 rfoot:=zgr
 rel own w p o d:=∃ mb es clock,RamA own w p o d mb es clock
 weak:=fun ⟨mb,es,cl,h⟩=>⟨mb,es,cl,h.weak⟩
 lt:=fun ⟨_,_,_,h⟩ hb=>h.lt hb
 sub:=fun _ h=>h
 foot_congr:=fun ⟨_,_,_,h⟩ hb=>ziL h hb
 rfoot_congr:=fun ⟨_,_,_,h⟩ hb=>ziL h hb
 rel_congr:=fun ⟨mb,es,cl,h⟩ hb=>⟨mb,es,cl,h.congr hb⟩
structure RamB (own:Bool) (w:World) (p o:Nat) (d:List DV) (sb so c:Nat) (pg:Nat→Option (Nat×Nat×Nat)):Prop where
 cell:w.cell? ⟨p,o,none⟩=some (.slice (some ⟨sb,so,none⟩) 256 c)
 fz:own=true→∀ i,w.frozen? ⟨sb,i,none⟩=false
 gone:∀ k,k<256→pg k=none→(∃ s c',w.cell? ⟨sb,so+k,none⟩=some (.slice s 0 c'))∧∀ i:Nat,i<4096→ramAt d (2147483648+k*4096+i)=0
 there:∀ k b f c',k<256→pg k=some (b,f,c')→w.cell? ⟨sb,so+k,none⟩=some (.slice (some ⟨b,f,none⟩) 4096 c')∧PageAt own w b f (fun i=>ramAt d (2147483648+k*4096+i))
 apart:∀ k k' b f c1 b' f' c2,k<256→k'<256→k≠k'→pg k=some (b,f,c1)→pg k'=some (b',f',c2)→b≠b'
def zlA (w:World) (p o b:Nat):Prop :=
 b=p∨∃ sb so c,w.cell? ⟨p,o,none⟩=some (.slice (some ⟨sb,so,none⟩) 256 c)∧(b=sb∨∃ k f c',k<256∧w.cell? ⟨sb,so+k,none⟩=some (.slice (some ⟨b,f,none⟩) 4096 c'))
theorem RamB.foot {own:Bool} {w:World} {p o:Nat} {d:List DV} {sb so c:Nat} {pg:Nat→Option (Nat×Nat×Nat)} (h:RamB own w p o d sb so c pg) (b:Nat) :
  zlA w p o b↔(b=p∨b=sb∨∃ k f c',k<256∧pg k=some (b,f,c')):=by
 unfold zlA
 constructor
 ·rintro (h1 | ⟨sb',so',c',h1,h2 | ⟨k,f,c2,hk,h3⟩⟩)
  ·exact .inl h1
  ·rw [h.cell] at h1;cases h1;exact .inr (.inl h2)
  ·rw [h.cell] at h1;cases h1
   refine .inr (.inr ⟨k,f,c2,hk,?_⟩)
   cases hp:pg k with
   | none =>
    obtain ⟨⟨s,c3,h4⟩,_⟩:=h.gone k hk hp
    rw [h3] at h4;cases h4
   | some x =>
    obtain ⟨b1,f1,c1⟩:=x
    have h4:=(h.there k b1 f1 c1 hk hp).1
    rw [h3] at h4;cases h4
    rfl
 ·rintro (h1 | h1 | ⟨k,f,c',hk,h1⟩)
  ·exact .inl h1
  ·exact .inr ⟨sb,so,c,h.cell,.inl h1⟩
  ·exact .inr ⟨sb,so,c,h.cell,.inr ⟨k,f,c',hk,(h.there k b f c' hk h1).1⟩⟩
theorem RamB.sblt {own:Bool} {w:World} {p o:Nat} {d:List DV} {sb so c:Nat} {pg:Nat→Option (Nat×Nat×Nat)} (h:RamB own w p o d sb so c pg):sb<w.heap.size:=by
 cases hp:pg 0 with
 | none=>obtain ⟨⟨s,c3,h4⟩,_⟩:=h.gone 0 (by decide) hp;exact zav h4
 | some x=>exact zav (h.there 0 x.1 x.2.1 x.2.2 (by decide) hp).1
theorem RamB.lt {own:Bool} {w:World} {p o:Nat} {d:List DV} {sb so c:Nat} {pg:Nat→Option (Nat×Nat×Nat)} (h:RamB own w p o d sb so c pg) {b:Nat} (hb:zlA w p o b):b<w.heap.size:=by
 rcases (h.foot b).1 hb with rfl | rfl | ⟨k,f,c',hk,h1⟩
 ·exact zav h.cell
 ·exact h.sblt
 ·exact (h.there k b f c' hk h1).2.lt
theorem RamB.congr {own:Bool} {w w':World} {p o:Nat} {d:List DV} {sb so c:Nat} {pg:Nat→Option (Nat×Nat×Nat)} (h:RamB own w p o d sb so c pg) (hb:∀ b,zlA w p o b→w'.heap[b]? = w.heap[b]?):RamB own w' p o d sb so c pg:=by
 have hsb:=hb sb ((h.foot sb).2 (.inr (.inl rfl)))
 refine ⟨?_,fun ho i=>?_,fun k hk hp=>?_,fun k b f c' hk hp=>?_,h.apart⟩
 ·rw [World.cell?_of_block (w:=w) (hb p (.inl rfl))];exact h.cell
 ·rw [World.frozen?_of_block (w:=w) hsb];exact h.fz ho i
 ·obtain ⟨⟨s,c3,h4⟩,h5⟩:=h.gone k hk hp
  exact ⟨⟨s,c3,by rw [World.cell?_of_block (w:=w) hsb];exact h4⟩,h5⟩
 ·obtain ⟨h4,h5⟩:=h.there k b f c' hk hp
  exact ⟨by rw [World.cell?_of_block (w:=w) hsb];exact h4,h5.congr (hb b ((h.foot b).2 (.inr (.inr ⟨k,f,c',hk,hp⟩))))⟩
theorem RamB.weak {own:Bool} {w:World} {p o:Nat} {d:List DV} {sb so c:Nat} {pg:Nat→Option (Nat×Nat×Nat)} (h:RamB own w p o d sb so c pg):RamB false w p o d sb so c pg :=
 ⟨h.cell,fun e=>(by cases e),h.gone,fun k b f c' hk hp=>⟨(h.there k b f c' hk hp).1,(h.there k b f c' hk hp).2.weak⟩,h.apart⟩
theorem ziM {own:Bool} {w w':World} {p o:Nat} {d:List DV} {sb so c:Nat} {pg:Nat→Option (Nat×Nat×Nat)} (h:RamB own w p o d sb so c pg) (hb:∀ b,zlA w p o b→w'.heap[b]? = w.heap[b]?) (b:Nat):zlA w' p o b↔zlA w p o b:=by
 rw [(h.congr hb).foot,h.foot]
def ztl:ObjK where
 foot:=zlA
 rfoot:=zlA
 rel own w p o d:=∃ sb so c pg,RamB own w p o d sb so c pg
 weak:=fun ⟨sb,so,c,pg,h⟩=>⟨sb,so,c,pg,h.weak⟩
 lt:=fun ⟨_,_,_,_,h⟩ hb=>h.lt hb
 sub:=fun _ h=>h
 foot_congr:=fun ⟨_,_,_,_,h⟩ hb=>ziM h hb
 rfoot_congr:=fun ⟨_,_,_,_,h⟩ hb=>ziM h hb
 rel_congr:=fun ⟨sb,so,c,pg,h⟩ hb=>⟨sb,so,c,pg,h.congr hb⟩
theorem zp1 {w:World} {p o:Nat} {d:List DV} (_:znZ.rel true w p o d) {b:Nat} (h:znZ.rfoot w p o b):znZ.foot w p o b:=h
theorem zp2 {w:World} {p o:Nat} {d:List DV} (_:ztl.rel true w p o d) {b:Nat} (h:ztl.rfoot w p o b):ztl.foot w p o b:=h
end Go.Sx
namespace Go.Sx
open Go.RowKit
structure Env where
 W:Nat→Prop
 V:Nat→Prop
 w0:World
 n0:Nat
 ρ0:Nat→Loc
inductive CRel (E:Env):LT→DV→Value→Prop
 | int (k:IntKind) (d:DV):CRel E (.int k) d (.int k d.toI)
 | bool (d:DV):CRel E .bool d (.bool d.toB)
 | vec (ts:List LT) (d:DV) (r:Loc) (vs:Nat→Value) (hnil:r.nil=true→r.len=0∧r.cap=0) (hlt:r.nil=false→r.blk<E.w0.heap.size∧¬ E.W r.blk∧E.V r.blk) (hpos:0<ts.length)
   (hlen:d.toL.length=r.len*ts.length) (hcap:r.len≤r.cap) (hv:∀ i,i<d.toL.length→E.w0.cell? ⟨r.blk,r.off+i,none⟩=some (vs i))
   (hc:∀ i,i<d.toL.length→CRel E (ts.getD (i%ts.length) .bool) (d.toL.getD i default) (vs i)):CRel E (.vec ts) d r.slice
structure VRel (E:Env) (w:World) (r:Loc) (ow:Bool) (ts:List LT) (xs:List DV):Prop where
 nil:r.nil=true→r.len=0∧r.cap=0
 lt:r.nil=false→r.blk<w.heap.size
 pos:0<ts.length
 len:xs.length=r.len*ts.length
 cap:r.len≤r.cap
 cell:∀ i,i<xs.length→∃ v,w.cell? ⟨r.blk,r.off+i,none⟩=some v∧CRel E (ts.getD (i%ts.length) .bool) (xs.getD i default) v
 own:ow=true→r.nil=false→∀ i,i<r.cap*ts.length→(w.cell? ⟨r.blk,r.off+i,none⟩).isSome=true∧w.frozen? ⟨r.blk,r.off+i,none⟩=false
 fz:ow=true→r.nil=false→r.cap≤9223372036854775807∧∀ o,w.frozen? ⟨r.blk,o,none⟩=false
structure CBlk (ν:Nat→DV) (ρ:Nat→Loc) (w:World) (r:Loc) (ow:Bool) (cs:List (Option Lf)):Prop where
 nil:r.nil=false
 lt:r.blk<w.heap.size
 cell:∀ i l,nth cs i=some l→l.good ν∧w.cell? ⟨r.blk,r.off+i,none⟩=some (l.conc ν ρ)
 own:ow=true→∀ i,i<cs.length→(w.cell? ⟨r.blk,r.off+i,none⟩).isSome=true∧w.frozen? ⟨r.blk,r.off+i,none⟩=false
 fz:ow=true→∀ o,w.frozen? ⟨r.blk,o,none⟩=false
structure LRel (E:Env) (w:World) (r:Loc) (o f:Bool) (ts:List LT) (xs:List DV):Prop where
 row:VRel E w r false ts xs
 spare:o=true→r.len<r.cap→VRel E w r true ts xs
 full:f=true→r.cap=r.len
def zrr {α:Type} (kn vn:Nat):Nat→List α→List (List α×List α)
 | 0,_=>[]
 | n+1,cs=>(cs.take kn,(cs.drop kn).take vn)::zrr kn vn n (cs.drop (kn+vn))
def mlist {α:Type} (kt vt:Bool×Nat) (cs:List α):List (List α×List α):=zrr kt.2 vt.2 (cs.length/(kt.2+vt.2)) cs
def zuL (t:Bool×Nat) (l:List Value):Value:=if t.1 then .agg l.toArray else l.headD .nilFunc
def mval (t:Bool×Nat) (ν:Nat→DV) (ρ:Nat→Loc) (l:List Lf):Value:=zuL t (l.map (Lf.conc ν ρ))
theorem ziN {α β:Type} (f:α→β) (kn vn:Nat):∀ (n:Nat) (cs:List α),zrr kn vn n (cs.map f)=(zrr kn vn n cs).map fun e=>(e.1.map f,e.2.map f)
 | 0,_=>rfl
 | n+1,cs=>by
  have:=ziN f kn vn n (cs.drop (kn+vn))
  simp only [zrr,List.map_cons,List.map_take,List.map_drop] at this ⊢
  rw [this]
theorem zcK {ν ν':Nat→DV} {ρ ρ':Nat→Loc} {kt vt:Bool×Nat} {cs cs':List Lf} (h:cs.map (Lf.conc ν ρ)=cs'.map (Lf.conc ν' ρ')) :
  ((mlist kt vt cs).map fun e=>(mval kt ν ρ e.1,mval vt ν ρ e.2))=(mlist kt vt cs').map fun e=>(mval kt ν' ρ' e.1,mval vt ν' ρ' e.2):=by
 have hl:cs.length=cs'.length:=by have:=congrArg List.length h;simpa using this
 have e1:=ziN (Lf.conc ν ρ) kt.2 vt.2 (cs.length/(kt.2+vt.2)) cs
 have e2:=ziN (Lf.conc ν' ρ') kt.2 vt.2 (cs.length/(kt.2+vt.2)) cs'
 rw [h,e2] at e1
 have e3:=congrArg (List.map fun e:List Value×List Value=>(zuL kt e.1,zuL vt e.2)) e1
 simp only [List.map_map] at e3
 unfold mlist
 rw [←hl]
 exact e3.symm
structure MRel (ν:Nat→DV) (ρ:Nat→Loc) (w:World) (r:Loc) (kt vt:Bool×Nat) (cs:List Lf):Prop where
 nil:r.nil=false
 ents:∃ (es:Array MapEntry) (clock:Nat),w.heap[r.blk]? = some (.map es clock)∧(es.toList.map fun e=>(e.key,e.val)).Perm ((mlist kt vt cs).map fun e=>(mval kt ν ρ e.1,mval vt ν ρ e.2))
 good:∀ l∈cs,l.good ν
theorem MRel.lt {ν:Nat→DV} {ρ:Nat→Loc} {w:World} {r:Loc} {kt vt:Bool×Nat} {cs:List Lf} (h:MRel ν ρ w r kt vt cs):r.blk<w.heap.size:=by
 obtain ⟨es,clock,h1,_⟩:=h.ents
 rcases Nat.lt_or_ge r.blk w.heap.size with h2 | h2
 ·exact h2
 ·rw [Array.getElem?_eq_none h2] at h1;cases h1
theorem MRel.congr {ν:Nat→DV} {ρ:Nat→Loc} {w w':World} {r:Loc} {kt vt:Bool×Nat} {cs:List Lf} (h:MRel ν ρ w r kt vt cs) (hb:w'.heap[r.blk]? = w.heap[r.blk]?):MRel ν ρ w' r kt vt cs :=
 ⟨h.nil,by rw [hb];exact h.ents,h.good⟩
theorem CRel.flat {E E':Env} {t:LT} {d:DV} {v:Value} (ht:t.flat=true) (h:CRel E t d v):CRel E' t d v:=by
 cases h with
 | int k=>exact .int k d
 | bool=>exact .bool d
 | vec=>cases ht
theorem ziO {ts:List LT} (h:ts.all LT.flat=true) (i:Nat):(ts.getD i .bool).flat=true:=by
 rw [List.getD_eq_getElem?_getD]
 cases hi:ts[i]? with
 | none=>rfl
 | some t=>exact List.all_eq_true.1 h t (List.mem_of_getElem? hi)
section
variable (K:Nat→ObjK)
def footK (w:World) (r:Loc):Blk→Nat→Prop
 | .obj _ k _=>(K k).foot w r.blk r.off
 | .l _ _ _ _=>fun b=>b=r.blk∧r.len<r.cap
 | _=>fun b=>b=r.blk
def rfootK (w:World) (r:Loc):Blk→Nat→Prop
 | .obj _ k _=>(K k).rfoot w r.blk r.off
 | _=>fun b=>b=r.blk
def zvT (w:World):Env:=⟨fun _=>False,fun _=>False,w,0,fun _=>default⟩
def BlkRelK (ν:Nat→DV) (ρ:Nat→Loc) (w:World) (r:Loc):Blk→Prop
 | .c own cs=>CBlk ν ρ w r own cs
 | .v own ts a=>ts.all LT.flat=true∧VRel (zvT w) w r own ts (a.cells ν)∧(r.cap=0→r.nil=true)
 | .obj o k a=>r.nil=false∧(K k).rel o w r.blk r.off (a.cells ν)
 | .l o f ts a=>ts.all LT.flat=true∧LRel (zvT w) w r o f ts (a.cells ν)∧(r.cap=0→r.nil=true)
 | .m _ kt vt cs=>MRel ν ρ w r kt vt cs
structure HRelK (ν:Nat→DV) (ρ:Nat→Loc) (hp:List (Option Blk)) (w:World):Prop where
 blk:∀ j bk,nth hp j=some bk→BlkRelK K ν ρ w (ρ j) bk
 apart:∀ j j' bk bk',nth hp j=some bk→bk.own=true→nth hp j'=some bk'→j≠j'→(ρ j).nil=false→(ρ j').nil=false→∀ b,footK K w (ρ j) bk b→¬ rfootK K w (ρ j') bk' b
theorem BlkRelK.lt {ν:Nat→DV} {ρ:Nat→Loc} {w:World} {r:Loc} {bk:Blk} (h:BlkRelK K ν ρ w r bk) (hn:r.nil=false) {b:Nat} (hb:rfootK K w r bk b):b<w.heap.size:=by
 cases bk with
 | c o cs =>
  have hb:b=r.blk:=hb
  rw [hb];exact CBlk.lt h
 | v o ts a =>
  have hb:b=r.blk:=hb
  rw [hb];exact VRel.lt h.2.1 hn
 | obj o k a=>exact (K k).lt h.2 hb
 | l o f ts a =>
  have hb:b=r.blk:=hb
  rw [hb];exact h.2.1.row.lt hn
 | m o kt vt cs =>
  have hb:b=r.blk:=hb
  rw [hb];exact MRel.lt h
theorem BlkRelK.rd {ν:Nat→DV} {ρ:Nat→Loc} {w:World} {r:Loc} {bk:Blk} (h:BlkRelK K ν ρ w r bk) {b:Nat} (hb:footK K w r bk b):rfootK K w r bk b:=by
 cases bk with
 | c o cs=>exact hb
 | v o ts a=>exact hb
 | obj o k a=>exact (K k).sub h.2 hb
 | l o f ts a=>exact hb.1
 | m o kt vt cs=>exact hb
theorem BlkRelK.foot_eq {ν:Nat→DV} {ρ:Nat→Loc} {w w':World} {r:Loc} {bk:Blk} (h:BlkRelK K ν ρ w r bk) (hb:∀ b,rfootK K w r bk b→w'.heap[b]? = w.heap[b]?) (b:Nat):footK K w' r bk b↔footK K w r bk b:=by
 cases bk with
 | c o cs=>exact Iff.rfl
 | v o ts a=>exact Iff.rfl
 | obj o k a=>exact (K k).foot_congr h.2 hb b
 | l o f ts a=>exact Iff.rfl
 | m o kt vt cs=>exact Iff.rfl
theorem BlkRelK.rfoot_eq {ν:Nat→DV} {ρ:Nat→Loc} {w w':World} {r:Loc} {bk:Blk} (h:BlkRelK K ν ρ w r bk) (hb:∀ b,rfootK K w r bk b→w'.heap[b]? = w.heap[b]?) (b:Nat):rfootK K w' r bk b↔rfootK K w r bk b:=by
 cases bk with
 | c o cs=>exact Iff.rfl
 | v o ts a=>exact Iff.rfl
 | obj o k a=>exact (K k).rfoot_congr h.2 hb b
 | l o f ts a=>exact Iff.rfl
 | m o kt vt cs=>exact Iff.rfl
theorem ziP {w w':World} {b:Nat} (h:b<w.heap.size) (hb:w'.heap[b]? = w.heap[b]?):b<w'.heap.size:=by
 rw [Array.getElem?_eq_getElem h] at hb
 exact (Array.getElem?_eq_some_iff.1 hb).1
theorem VRel.congr {E E':Env} {w w':World} {r:Loc} {o:Bool} {ts:List LT} {xs:List DV} (hf:ts.all LT.flat=true) (h:VRel E w r o ts xs) (hb:r.nil=false→w'.heap[r.blk]? = w.heap[r.blk]?):VRel E' w' r o ts xs:=by
 cases hn:r.nil with
 | true =>
  have h0:=h.nil hn
  have hx:xs.length=0:=by rw [h.len,h0.1,Nat.zero_mul]
  exact ⟨h.nil,fun e=>absurd (hn.symm.trans e) (by decide),h.pos,h.len,h.cap,fun i hi=>by omega,fun _ e=>absurd (hn.symm.trans e) (by decide),fun _ e=>absurd (hn.symm.trans e) (by decide)⟩
 | false =>
  have hb:=hb hn
  have hc:∀ i,w'.cell? ⟨r.blk,i,none⟩=w.cell? ⟨r.blk,i,none⟩:=fun i=>World.cell?_of_block (w:=w) hb
  have hf':∀ i,w'.frozen? ⟨r.blk,i,none⟩=w.frozen? ⟨r.blk,i,none⟩:=fun i=>World.frozen?_of_block (w:=w) hb
  exact ⟨h.nil,fun e=>ziP (h.lt e) hb,h.pos,h.len,h.cap,fun i hi=>by
   rw [hc]
   obtain ⟨v,h1,h2⟩:=h.cell i hi
   exact ⟨v,h1,h2.flat (ziO hf _)⟩,fun ho e i hi=>by rw [hc,hf'];exact h.own ho e i hi,fun ho e=>⟨(h.fz ho e).1,fun o=>by rw [hf'];exact (h.fz ho e).2 o⟩⟩
theorem CBlk.congr {ν:Nat→DV} {ρ:Nat→Loc} {w w':World} {r:Loc} {o:Bool} {cs:List (Option Lf)} (h:CBlk ν ρ w r o cs) (hb:w'.heap[r.blk]? = w.heap[r.blk]?):CBlk ν ρ w' r o cs:=by
 have hc:∀ i,w'.cell? ⟨r.blk,i,none⟩=w.cell? ⟨r.blk,i,none⟩:=fun i=>World.cell?_of_block (w:=w) hb
 have hf:∀ i,w'.frozen? ⟨r.blk,i,none⟩=w.frozen? ⟨r.blk,i,none⟩:=fun i=>World.frozen?_of_block (w:=w) hb
 exact ⟨h.nil,ziP h.lt hb,fun i l hl=>by rw [hc];exact h.cell i l hl,fun ho i hi=>by rw [hc,hf];exact h.own ho i hi,fun ho o=>by rw [hf];exact h.fz ho o⟩
theorem LRel.congr {E E':Env} {w w':World} {r:Loc} {o f:Bool} {ts:List LT} {xs:List DV} (hf:ts.all LT.flat=true) (h:LRel E w r o f ts xs) (hb:r.nil=false→w'.heap[r.blk]? = w.heap[r.blk]?):LRel E' w' r o f ts xs :=
 ⟨h.row.congr hf hb,fun ho hc=>(h.spare ho hc).congr hf hb,h.full⟩
theorem BlkRelK.congr {ν:Nat→DV} {ρ:Nat→Loc} {w w':World} {r:Loc} {bk:Blk} (h:BlkRelK K ν ρ w r bk) (hb:r.nil=false→∀ b,rfootK K w r bk b→w'.heap[b]? = w.heap[b]?):BlkRelK K ν ρ w' r bk:=by
 cases bk with
 | obj o k a=>exact ⟨h.1,(K k).rel_congr h.2 (hb h.1)⟩
 | c o cs =>
  have h:CBlk ν ρ w r o cs:=h
  exact h.congr (hb h.nil r.blk rfl)
 | v o ts a=>exact ⟨h.1,h.2.1.congr h.1 (fun hn=>hb hn r.blk rfl),h.2.2⟩
 | l o f ts a=>exact ⟨h.1,LRel.congr h.1 h.2.1 (fun hn=>hb hn r.blk rfl),h.2.2⟩
 | m o kt vt cs =>
  have h:MRel ν ρ w r kt vt cs:=h
  exact h.congr (hb h.nil r.blk rfl)
structure Dec (p:PatD) (w:World) (b o:Nat) (d:List DV) (ρ:Nat→Loc):Prop where
 len:d.length=p.tys.length
 blk:(ρ 0).blk=b
 off:(ρ 0).off=o
 h:HRelK K (fun i=>d.getD i default) ρ p.hp w
def zn0:Blk→Loc→Loc→Prop
 | .v _ _ _,r,r'=>r.nil=r'.nil∧(r.nil=false→r.blk=r'.blk)
 | .l _ _ _ _,r,r'=>r.nil=r'.nil∧(r.nil=false→r.blk=r'.blk)∧r.len=r'.len∧r.cap=r'.cap
 | _,r,r'=>r.blk=r'.blk∧r.off=r'.off
theorem zkt {hp:List (Option Blk)} : ∀ {l:List (Option Blk)} {r:List (Nat×Nat)} {j i:Nat} {bk:Blk},zka hp j l r=true→nth l i=some bk→∃ q,parB hp (j+i) bk q=true
 | [],_,j,i,bk,_,h=>by cases i<;>cases h
 | none::l,r,j,i,bk,h,_=>by cases r<;>simp [zka] at h
 | some b::l,[],j,i,bk,h,_=>by simp [zka] at h
 | some b::l,q::r,j,0,bk,h,hn=>by
  cases hn
  simp only [zka,Bool.and_eq_true] at h
  exact ⟨q,h.1⟩
 | some b::l,q::r,j,i+1,bk,h,hn=>by
  simp only [zka,Bool.and_eq_true] at h
  obtain ⟨q',hq⟩:=zkt (i:=i) h.2 hn
  exact ⟨q',by rwa [show j+1+i=j+(i+1) from by omega] at hq⟩
theorem PatD.par_spec {p:PatD} (hok:p.ok=true) {j:Nat} {bk:Blk} (hj:nth p.hp j=some bk) (h0:j≠0):∃ q,parB p.hp j bk q=true:=by
 simp only [PatD.ok,Bool.and_eq_true] at hok
 have hok:=hok.1
 cases j with
 | zero=>exact absurd rfl h0
 | succ j =>
  obtain ⟨q,hq⟩:=zkt (i:=j) (bk:=bk) hok.2 (by
   cases hp:p.hp with
   | nil=>rw [hp] at hj;cases hj
   | cons x l=>rw [hp] at hj;exact hj)
  exact ⟨q,by rwa [show 1+j=j+1 from by omega] at hq⟩
theorem Dec.uniq {p:PatD} (hok:p.ok=true) {w:World} {b o:Nat} {d d':List DV} {ρ ρ':Nat→Loc} (h:Dec K p w b o d ρ) (h':Dec K p w b o d' ρ'):∀ (n j:Nat) (bk:Blk),j<n→nth p.hp j=some bk→zn0 bk (ρ j) (ρ' j)
 | 0,j,bk,hj,_=>by omega
 | n+1,j,bk,hjn,hj=>by
  by_cases h0:j=0
  ·subst h0
   have hr:zvH (nth p.hp 0)=true:=by
    simp only [PatD.ok,Bool.and_eq_true] at hok
    exact hok.1.1
   rw [hj] at hr
   cases bk with
   | c _ _=>exact ⟨h.blk.trans h'.blk.symm,h.off.trans h'.off.symm⟩
   | v _ _ _=>cases hr
   | obj _ _ _=>cases hr
   | l _ _ _ _=>cases hr
   | m _ _ _ _=>cases hr
  ·obtain ⟨q,hq⟩:=PatD.par_spec hok hj h0
   simp only [parB,Bool.and_eq_true,Nat.blt_eq] at hq
   obtain ⟨hlt,hq⟩:=hq
   cases hp:nth p.hp q.1 with
   | none=>rw [hp] at hq;cases hq
   | some pb =>
    rw [hp] at hq
    cases pb with
    | v _ _ _=>cases hq
    | obj _ _ _=>cases hq
    | l _ _ _ _=>cases hq
    | m _ _ _ _=>cases hq
    | c po cs =>
     have ih:=Dec.uniq hok h h' n q.1 _ (by omega) hp
     have ih:(ρ q.1).blk=(ρ' q.1).blk∧(ρ q.1).off=(ρ' q.1).off:=ih
     have h1:CBlk _ ρ w (ρ q.1) po cs:=h.h.blk q.1 _ hp
     have h2:CBlk _ ρ' w (ρ' q.1) po cs:=h'.h.blk q.1 _ hp
     have key:∀ l,nth cs q.2=some l→l.conc (fun i=>d.getD i default) ρ=l.conc (fun i=>d'.getD i default) ρ':=fun l hl=>by
      have e1:=(h1.cell q.2 l hl).2
      have e2:=(h2.cell q.2 l hl).2
      rw [ih.1,ih.2,e2] at e1
      exact (Option.some.inj e1).symm
     simp only at hq
     cases hc:nth cs q.2 with
     | none=>cases bk<;>(simp only [hc] at hq;cases hq)
     | some l =>
      have hk:=key l hc
      have ptr:∀ i n,l = .p i (.c n)→i=j→(ρ j).blk=(ρ' j).blk∧(ρ j).off=(ρ' j).off:=fun i n hl hi=>by
       subst hl hi
       simp only [Lf.conc,Off.val,Value.pointer.injEq,Option.some.injEq,Addr.mk.injEq,and_true] at hk
       exact ⟨hk.1,by omega⟩
      cases bk with
      | c _ _ =>
       have hq:zs9 j (nth cs q.2)=true:=hq
       rw [hc] at hq
       cases l<;>first | (cases hq;done) | skip
       rename_i i off
       cases off<;>first | (cases hq;done) | skip
       rename_i n
       have hq:(Nat.beq i j&&Nat.beq n 0)=true:=hq
       simp only [Bool.and_eq_true] at hq
       exact ptr _ _ rfl (Nat.eq_of_beq_eq_true hq.1)
      | obj _ _ _ =>
       have hq:zs9 j (nth cs q.2)=true:=hq
       rw [hc] at hq
       cases l<;>first | (cases hq;done) | skip
       rename_i i off
       cases off<;>first | (cases hq;done) | skip
       rename_i n
       have hq:(Nat.beq i j&&Nat.beq n 0)=true:=hq
       simp only [Bool.and_eq_true] at hq
       exact ptr _ _ rfl (Nat.eq_of_beq_eq_true hq.1)
      | v vo ts a =>
       have hq:zs8 j (nth cs q.2)=true:=hq
       rw [hc] at hq
       cases l<;>first | (cases hq;done) | skip
       have hij:=Nat.eq_of_beq_eq_true hq
       rw [hij] at hk
       have g1:=h.h.blk j _ hj
       have g2:=h'.h.blk j _ hj
       have n1:(ρ j).cap=0→(ρ j).nil=true:=g1.2.2
       have n2:(ρ' j).cap=0→(ρ' j).nil=true:=g2.2.2
       have m1:(ρ j).nil=true→(ρ j).len=0∧(ρ j).cap=0:=g1.2.1.nil
       have m2:(ρ' j).nil=true→(ρ' j).len=0∧(ρ' j).cap=0:=g2.2.1.nil
       simp only [Lf.conc,Loc.slice,Value.slice.injEq] at hk
       have hnil:(ρ j).nil=(ρ' j).nil:=by
        cases e1:(ρ j).nil with
        | true=>exact (n2 (by rw [←hk.2.2];exact (m1 e1).2)).symm
        | false =>
         cases e2:(ρ' j).nil with
         | false=>rfl
         | true=>rw [n1 (by rw [hk.2.2];exact (m2 e2).2)] at e1;cases e1
       refine ⟨hnil,fun e=>?_⟩
       rw [←hnil,e] at hk
       simp only [cond_false,Option.some.injEq,Addr.mk.injEq] at hk
       exact hk.1.1
      | m mo kt vt mcs=>cases hq
      | l vo vf ts a =>
       have hq:zs8 j (nth cs q.2)=true:=hq
       rw [hc] at hq
       cases l<;>first | (cases hq;done) | skip
       have hij:=Nat.eq_of_beq_eq_true hq
       rw [hij] at hk
       have g1:=h.h.blk j _ hj
       have g2:=h'.h.blk j _ hj
       have n1:(ρ j).cap=0→(ρ j).nil=true:=g1.2.2
       have n2:(ρ' j).cap=0→(ρ' j).nil=true:=g2.2.2
       have m1:(ρ j).nil=true→(ρ j).len=0∧(ρ j).cap=0:=g1.2.1.row.nil
       have m2:(ρ' j).nil=true→(ρ' j).len=0∧(ρ' j).cap=0:=g2.2.1.row.nil
       simp only [Lf.conc,Loc.slice,Value.slice.injEq] at hk
       have hnil:(ρ j).nil=(ρ' j).nil:=by
        cases e1:(ρ j).nil with
        | true=>exact (n2 (by rw [←hk.2.2];exact (m1 e1).2)).symm
        | false =>
         cases e2:(ρ' j).nil with
         | false=>rfl
         | true=>rw [n1 (by rw [hk.2.2];exact (m2 e2).2)] at e1;cases e1
       refine ⟨hnil,fun e=>?_,hk.2.1,hk.2.2⟩
       rw [←hnil,e] at hk
       simp only [cond_false,Option.some.injEq,Addr.mk.injEq] at hk
       exact hk.1.1
theorem zn0.foot {bk:Blk} {w:World} {r r':Loc} (h:zn0 bk r r') (hn:r.nil=false):footK K w r bk=footK K w r' bk:=by
 cases bk with
 | c _ _=>funext x;simp only [footK];rw [h.1]
 | v _ _ _=>funext x;simp only [footK];rw [h.2 hn]
 | obj _ _ _=>simp only [footK];rw [h.1,h.2]
 | l _ _ _ _=>funext x;simp only [footK];rw [h.2.1 hn,h.2.2.1,h.2.2.2]
 | m _ _ _ _=>funext x;simp only [footK];rw [h.1]
theorem zn0.rfoot {bk:Blk} {w:World} {r r':Loc} (h:zn0 bk r r') (hn:r.nil=false):rfootK K w r bk=rfootK K w r' bk:=by
 cases bk with
 | c _ _=>funext x;simp only [rfootK];rw [h.1]
 | v _ _ _=>funext x;simp only [rfootK];rw [h.2 hn]
 | obj _ _ _=>simp only [rfootK];rw [h.1,h.2]
 | l _ _ _ _=>funext x;simp only [rfootK];rw [h.2.1 hn]
 | m _ _ _ _=>funext x;simp only [rfootK];rw [h.1]
theorem zn0.nil {bk:Blk} {ν ν':Nat→DV} {ρ ρ':Nat→Loc} {w w':World} {r r':Loc} (h:zn0 bk r r') (h1:BlkRelK K ν ρ w r bk) (h2:BlkRelK K ν' ρ' w' r' bk):r.nil=r'.nil:=by
 cases bk with
 | c _ _=>rw [CBlk.nil h1,CBlk.nil h2]
 | v _ _ _=>exact h.1
 | obj _ _ _=>rw [h1.1,h2.1]
 | l _ _ _ _=>exact h.1
 | m _ _ _ _=>rw [MRel.nil h1,MRel.nil h2]
theorem Dec.congr {p:PatD} {w w':World} {b o:Nat} {d:List DV} {ρ:Nat→Loc} (h:Dec K p w b o d ρ)
  (hb:∀ j bk,nth p.hp j=some bk→(ρ j).nil=false→∀ x,rfootK K w (ρ j) bk x→w'.heap[x]? = w.heap[x]?):Dec K p w' b o d ρ :=
 ⟨h.len,h.blk,h.off,fun j bk hj=>(h.h.blk j bk hj).congr K (hb j bk hj),fun j j' bk bk' hj ho hj' hne hn hn' x h1 h2 =>
  h.h.apart j j' bk bk' hj ho hj' hne hn hn' x (((h.h.blk j bk hj).foot_eq K (hb j bk hj hn) x).1 h1) (((h.h.blk j' bk' hj').rfoot_eq K (hb j' bk' hj' hn') x).1 h2)⟩
theorem Blk.froze_own' (b:Blk):b.froze.own=false:=by cases b<;>rfl
theorem zbn (w:World) (r:Loc) (b:Blk):rfootK K w r b.froze=rfootK K w r b:=by cases b<;>rfl
theorem BlkRelK.froze {ν:Nat→DV} {ρ:Nat→Loc} {w:World} {r:Loc} {bk:Blk} (h:BlkRelK K ν ρ w r bk):BlkRelK K ν ρ w r bk.froze:=by
 cases bk with
 | c o cs =>
  have h:CBlk ν ρ w r o cs:=h
  exact (⟨h.nil,h.lt,h.cell,fun e=>(by cases e),fun e=>by cases e⟩:CBlk ν ρ w r false cs)
 | v o ts a =>
  have h2:=h.2.1
  exact ⟨h.1,⟨h2.nil,h2.lt,h2.pos,h2.len,h2.cap,h2.cell,fun e=>(by cases e),fun e=>by cases e⟩,h.2.2⟩
 | obj o k a=>exact ⟨h.1,(K k).wk h.2⟩
 | l o f ts a=>exact ⟨h.1,⟨h.2.1.row,fun e=>(by cases e),h.2.1.full⟩,h.2.2⟩
 | m o kt vt cs=>exact h
theorem nth_map' {α β:Type} (f:α→β):∀ (l:List (Option α)) (j:Nat),nth (l.map (Option.map f)) j=(nth l j).map f
 | [],j=>by cases j<;>rfl
 | x::l,0=>by simp [nth]
 | x::l,j+1=>by simp only [List.map_cons,nth];exact nth_map' f l j
theorem PatD.rd_at {p:PatD} {o:Bool} {j:Nat} {bk:Blk} (h:nth p.hp j=some bk):nth (p.rd o).hp j=some (if o then bk else bk.froze):=by
 cases o with
 | true=>exact h
 | false=>simp only [PatD.rd,Bool.false_eq_true,if_false];rw [nth_map',h];rfl
theorem PatD.rd_of {p:PatD} {o:Bool} {j:Nat} {bk:Blk} (h:nth (p.rd o).hp j=some bk):∃ b,nth p.hp j=some b∧bk=if o then b else b.froze:=by
 cases o with
 | true=>exact ⟨bk,h,rfl⟩
 | false =>
  simp only [PatD.rd,Bool.false_eq_true,if_false] at h
  rw [nth_map'] at h
  obtain ⟨b,hb,e⟩:=Option.map_eq_some_iff.1 h
  exact ⟨b,hb,by simp [e]⟩
theorem zp3 (hp:List (Option Blk)) (j:Nat) (bk:Blk) (q:Nat×Nat):parB (hp.map (Option.map Blk.froze)) j bk.froze q=parB hp j bk q:=by
 unfold parB
 rw [nth_map']
 cases nth hp q.1 with
 | none=>rfl
 | some b=>cases b<;>cases bk<;>rfl
theorem ziQ (hp:List (Option Blk)):∀ (l:List (Option Blk)) (j:Nat) (r:List (Nat×Nat)),zka (hp.map (Option.map Blk.froze)) j (l.map (Option.map Blk.froze)) r=zka hp j l r
 | [],_,_=>rfl
 | none::l,j,r=>by cases r<;>rfl
 | some b::l,j,[]=>rfl
 | some b::l,j,q::r=>by
  simp only [List.map_cons,Option.map_some,zka,zp3,ziQ hp l (j+1) r]
theorem PatD.rd_ok {p:PatD} (h:p.ok=true) (o:Bool):(p.rd o).ok=true:=by
 cases o with
 | true=>exact h
 | false =>
  simp only [PatD.ok,Bool.and_eq_true] at h
  simp only [PatD.ok,PatD.rd,Bool.false_eq_true,if_false,Bool.and_eq_true]
  refine ⟨⟨?_,?_⟩,?_⟩
  ·rw [nth_map']
   have:=h.1.1
   cases hx:nth p.hp 0 with
   | none=>rw [hx] at this;cases this
   | some b=>rw [hx] at this;cases b<;>first | (exact rfl) | (cases this;done)
  ·rw [←List.map_drop,ziQ];exact h.1.2
  ·rw [List.all_map,←h.2]
   congr 1
   funext x
   cases x with
   | none=>rfl
   | some b=>cases b<;>rfl
theorem Dec.rdF {p:PatD} {o1:Bool} {w:World} {b o:Nat} {d:List DV} {ρ:Nat→Loc} (h:Dec K (p.rd o1) w b o d ρ):Dec K (p.rd false) w b o d ρ:=by
 refine ⟨?_,h.blk,h.off,fun j bk hj=>?_,fun j j' bk bk' hj ho=>?_⟩
 ·have:=h.len
  cases o1<;>exact this
 ·obtain ⟨x,hx,e⟩:=PatD.rd_of hj
  simp only [Bool.false_eq_true,if_false] at e
  rw [e]
  have:=(h.h.blk j _ (PatD.rd_at (o:=o1) hx))
  cases o1 with
  | true=>exact BlkRelK.froze K this
  | false=>exact this
 ·obtain ⟨x,hx,e⟩:=PatD.rd_of hj
  simp only [Bool.false_eq_true,if_false] at e
  rw [e,Blk.froze_own'] at ho
  cases ho
theorem Dec.move {p:PatD} (hok:p.ok=true) {o1:Bool} {wa wb:World} {b o:Nat} {d d1:List DV} {ρ ρ1:Nat→Loc} (h1:Dec K (p.rd o1) wa b o d1 ρ1) (h:Dec K (p.rd false) wa b o d ρ)
  (hb:∀ j bk,nth (p.rd false).hp j=some bk→(ρ j).nil=false→∀ x,rfootK K wa (ρ j) bk x→wb.heap[x]? = wa.heap[x]?) :
  Dec K (p.rd o1) wb b o d1 ρ1∧∀ j bk,nth (p.rd o1).hp j=some bk→(ρ1 j).nil=false→∀ x,(footK K wb (ρ1 j) bk x↔footK K wa (ρ1 j) bk x)∧(rfootK K wb (ρ1 j) bk x↔rfootK K wa (ρ1 j) bk x):=by
 have hF:=h1.rdF K
 have hb1:∀ j bk,nth (p.rd o1).hp j=some bk→(ρ1 j).nil=false→∀ x,rfootK K wa (ρ1 j) bk x→wb.heap[x]? = wa.heap[x]?:=fun j bk hj hn x hx=>by
  obtain ⟨y,hy,e⟩:=PatD.rd_of hj
  have hyF:=PatD.rd_at (o:=false) hy
  have hu:=hF.uniq K (PatD.rd_ok hok false) h (j+1) j _ (by omega) hyF
  have hn2:=(hu.nil K (hF.h.blk j _ hyF) (h.h.blk j _ hyF)).symm.trans hn
  refine hb j _ hyF hn2 x ?_
  rw [←hu.rfoot K hn]
  simp only [Bool.false_eq_true,if_false]
  rw [zbn]
  cases o1 with
  | true=>simp only [if_true] at e;rw [←e];exact hx
  | false=>simp only [Bool.false_eq_true,if_false] at e;rw [e,zbn] at hx;exact hx
 exact ⟨h1.congr K hb1,fun j bk hj hn x=>⟨(h1.h.blk j bk hj).foot_eq K (hb1 j bk hj hn) x,(h1.h.blk j bk hj).rfoot_eq K (hb1 j bk hj hn) x⟩⟩
def zrs (p:PatD) (hok:p.ok=true):ObjK where
 rel own w b o d:=∃ ρ,Dec K (p.rd own) w b o d ρ
 foot w b o x:=∃ d ρ,Dec K (p.rd true) w b o d ρ∧∃ j bk,nth (p.rd true).hp j=some bk∧bk.own=true∧(ρ j).nil=false∧footK K w (ρ j) bk x
 rfoot w b o x:=∃ d ρ,Dec K (p.rd false) w b o d ρ∧∃ j bk,nth (p.rd false).hp j=some bk∧(ρ j).nil=false∧rfootK K w (ρ j) bk x
 weak:=fun ⟨ρ,h⟩=>⟨ρ,h.rdF K⟩
 lt:=fun _ ⟨d,ρ,h,j,bk,hj,hn,hx⟩=>(h.h.blk j bk hj).lt K hn hx
 sub:=fun _ ⟨d,ρ,h,j,bk,hj,_,hn,hx⟩=>⟨d,ρ,h.rdF K,j,bk.froze,PatD.rd_at (o:=false) hj,hn,by rw [zbn];exact (h.h.blk j bk hj).rd K hx⟩
 foot_congr:=fun ⟨ρ,h⟩ hb x=>by
  have hF:=h.rdF K
  have hb':∀ j bk,nth (p.rd false).hp j=some bk→(ρ j).nil=false→∀ x,rfootK K _ (ρ j) bk x→_:=fun j bk hj hn x hx=>hb x ⟨_,ρ,hF,j,bk,hj,hn,hx⟩
  have hF2:=hF.congr K hb'
  constructor
  ·rintro ⟨d1,ρ1,h1,j,bk,hj,ho,hn,hx⟩
   obtain ⟨m1,m2⟩:=h1.move K hok hF2 (fun j bk hj hn x hx=>(hb' j bk hj hn x (((hF.h.blk j bk hj).rfoot_eq K (hb' j bk hj hn) x).1 hx)).symm)
   exact ⟨d1,ρ1,m1,j,bk,hj,ho,hn,(m2 j bk hj hn x).1.2 hx⟩
  ·rintro ⟨d1,ρ1,h1,j,bk,hj,ho,hn,hx⟩
   obtain ⟨m1,m2⟩:=h1.move K hok hF hb'
   exact ⟨d1,ρ1,m1,j,bk,hj,ho,hn,(m2 j bk hj hn x).1.2 hx⟩
 rfoot_congr:=fun ⟨ρ,h⟩ hb x=>by
  have hF:=h.rdF K
  have hb':∀ j bk,nth (p.rd false).hp j=some bk→(ρ j).nil=false→∀ x,rfootK K _ (ρ j) bk x→_:=fun j bk hj hn x hx=>hb x ⟨_,ρ,hF,j,bk,hj,hn,hx⟩
  have hF2:=hF.congr K hb'
  constructor
  ·rintro ⟨d1,ρ1,h1,j,bk,hj,hn,hx⟩
   obtain ⟨m1,m2⟩:=h1.move K hok hF2 (fun j bk hj hn x hx=>(hb' j bk hj hn x (((hF.h.blk j bk hj).rfoot_eq K (hb' j bk hj hn) x).1 hx)).symm)
   exact ⟨d1,ρ1,m1,j,bk,hj,hn,(m2 j bk hj hn x).2.2 hx⟩
  ·rintro ⟨d1,ρ1,h1,j,bk,hj,hn,hx⟩
   obtain ⟨m1,m2⟩:=h1.move K hok hF hb'
   exact ⟨d1,ρ1,m1,j,bk,hj,hn,(m2 j bk hj hn x).2.2 hx⟩
 rel_congr:=fun ⟨ρ,h⟩ hb=>by
  have hF:=h.rdF K
  exact ⟨ρ,(h.move K hok hF (fun j bk hj hn x hx=>hb x ⟨_,ρ,hF,j,bk,hj,hn,hx⟩)).1⟩
end
def objK:Nat→ObjK
 | 0=>znZ
 | 1=>ztl
 | k+2 =>
  match pats[k]? with
  | some p=>if h:zfi (k+2) p.ids=true then zrs (fun j=>if _:j<k+2 then objK j else ziK) p.ids (by simp only [zfi,Bool.and_eq_true] at h;exact h.1.1) else ziK
  | none=>ziK
def zcZ (k j:Nat):ObjK:=if j<k then objK j else ziK
theorem zcE {k:Nat} {p:PatD} (hp:pats[k]? = some p) (h:zfi (k+2) p.ids=true):objK (k+2)=zrs (zcZ (k+2)) p.ids (by simp only [zfi,Bool.and_eq_true] at h;exact h.1.1):=by
 rw [objK]
 split
 ·rename_i p' hp'
  rw [hp] at hp';cases hp'
  rw [dif_pos h]
  rfl
 ·rename_i hp'
  rw [hp] at hp';cases hp'
theorem zrt {k:Nat} (h:∀ p,pats[k]? = some p→zfi (k+2) p.ids=false):objK (k+2)=ziK:=by
 rw [objK]
 split
 ·rename_i p' hp'
  rw [dif_neg (by rw [h p' hp'];decide)]
 ·rfl
theorem zn1 {α:Type} {f:α→Bool} : ∀ {l:List (Option α)} {j:Nat} {x:α},l.all (zao f)=true→nth l j=some x→f x=true
 | [],j,x,_,h=>by cases j<;>cases h
 | a::l,0,x,h,hx=>by
  cases hx
  simp only [List.all_cons,Bool.and_eq_true] at h
  exact h.1
 | a::l,j+1,x,h,hx=>by
  simp only [List.all_cons,Bool.and_eq_true] at h
  exact zn1 (l:=l) h.2 hx
theorem zeg {k:Nat} (h:zdr k=false):kb k=k:=by unfold kb;rw [h];rfl
theorem zuc {k:Nat} (h:zdr k=true):kb k=k-1000:=by unfold kb;rw [h];rfl
theorem zmu {k:Nat} (hx:ztc k=true) {w:World} {p o:Nat} {d:List DV} (h:(objK k).rel true w p o d) {b:Nat} (hb:(objK k).rfoot w p o b):(objK k).foot w p o b:=by
 match k with
 | 0=>rw [objK] at h hb ⊢;exact zp1 h hb
 | 1=>rw [objK] at h hb ⊢;exact zp2 h hb
 | k+2 =>
  simp only [ztc] at hx
  split at hx
  ·rename_i q hq
   cases hok:zfi (k+2) q.ids with
   | false =>
    rw [zrt (fun q' hq'=>by rw [hq] at hq';cases hq';exact hok)] at h
    exact h.elim
   | true =>
    rw [zcE hq hok] at hb ⊢
    rw [zcE hq hok] at h
    obtain ⟨ρ,hd⟩:=h
    obtain ⟨d1,ρ1,hd1,j,bk',hj',hn1,hf⟩:=hb
    obtain ⟨bk,hj,e⟩:=PatD.rd_of hj'
    simp only [Bool.false_eq_true,if_false] at e
    have hokF:=PatD.rd_ok (show q.ids.ok=true by simp only [zfi,Bool.and_eq_true] at hok;exact hok.1.1) false
    have hjF:=PatD.rd_at (o:=false) hj
    have hu:=hd1.uniq _ hokF (hd.rdF _) (j+1) j _ (by omega) hjF
    have hn:=(hu.nil _ (hd1.h.blk j _ hjF) ((hd.rdF _).h.blk j _ hjF)).symm.trans hn1
    rw [e] at hf
    simp only [Bool.false_eq_true,if_false] at hu
    rw [hu.rfoot _ hn1,zbn] at hf
    have hok2:=hok
    simp only [zfi,Bool.and_eq_true,show q.ids.ex=true from hx,Bool.not_true,Bool.false_or] at hok2
    have he:=zn1 hok2.2 hj
    have hk:=zn1 hok2.1.2 hj
    refine ⟨_,ρ,hd,j,bk,hj,?_,hn,?_⟩
    ·cases bk with
     | c=>exact he
     | v=>exact he
     | m=>exact he
     | l=>cases he
     | obj o k' a=>simp only [Blk.exB,Bool.and_eq_true] at he;exact he.1
    ·cases bk with
     | c=>exact hf
     | v=>exact hf
     | m=>exact hf
     | l=>cases he
     | obj o k' a =>
      simp only [Blk.exB,Bool.and_eq_true] at he
      simp only [Blk.kindLt,Bool.and_eq_true,Nat.blt_eq,Bool.not_eq_true'] at hk
      obtain ⟨hk,hko⟩:=hk
      rw [zeg hko] at he
      simp only [footK,rfootK,zcZ,if_pos hk] at hf ⊢
      have hr:(zcZ (k+2) k').rel o w (ρ j).blk (ρ j).off _:=(hd.h.blk j _ hj).2
      rw [he.1] at hr
      rw [zcZ,if_pos hk] at hr
      exact zmu he.2 hr hf
  ·cases hx
termination_by k
decreasing_by exact hk
def zbi (o:Bool) (k:Nat) (w:World) (r:Loc) (d:List DV):Prop :=
 (zdr k=false→r.nil=false∧(objK (kb k)).rel o w r.blk r.off d) ∧
 (zdr k=true→(d.getD 0 default).toB = !r.nil∧(r.nil=false→(objK (kb k)).rel o w r.blk r.off (d.getD 1 default).toL))
theorem zbi.rel {o:Bool} {k:Nat} {w:World} {r:Loc} {d:List DV} (h:zbi o k w r d) (hn:r.nil=false):∃ d',(objK (kb k)).rel o w r.blk r.off d':=by
 cases hk:zdr k with
 | false=>exact ⟨_,(h.1 hk).2⟩
 | true=>exact ⟨_,(h.2 hk).2 hn⟩
theorem zbi.map {o o':Bool} {k:Nat} {w w':World} {r:Loc} {d:List DV} (h:zbi o k w r d) (hm:r.nil=false→∀ d',(objK (kb k)).rel o w r.blk r.off d'→(objK (kb k)).rel o' w' r.blk r.off d'):zbi o' k w' r d :=
 ⟨fun hk=>⟨(h.1 hk).1,hm (h.1 hk).1 _ (h.1 hk).2⟩,fun hk=>⟨(h.2 hk).1,fun hn=>hm hn _ ((h.2 hk).2 hn)⟩⟩
theorem zbi.plain {o:Bool} {k:Nat} {w:World} {r:Loc} {d:List DV} (hk:zdr k=false):zbi o k w r d↔(r.nil=false∧(objK k).rel o w r.blk r.off d):=by
 unfold zbi
 rw [zeg hk]
 exact ⟨fun h=>h.1 hk,fun h=>⟨fun _=>h,fun h'=>by rw [hk] at h';cases h'⟩⟩
def Blk.foot (w:World) (r:Loc):Blk→Nat→Prop
 | .obj _ k _=>(objK (kb k)).foot w r.blk r.off
 | .l _ _ _ _=>fun b=>b=r.blk∧r.len<r.cap
 | _=>fun b=>b=r.blk
def Blk.rfoot (w:World) (r:Loc):Blk→Nat→Prop
 | .obj _ k _=>(objK (kb k)).rfoot w r.blk r.off
 | _=>fun b=>b=r.blk
end Go.Sx
namespace Go.Sx
open Go.RowKit
def BlkRel (E:Env) (ν:Nat→DV) (ρ:Nat→Loc) (w:World) (r:Loc):Blk→Prop
 | .c own cs=>CBlk ν ρ w r own cs
 | .v own ts a=>VRel E w r own ts (a.cells ν)
 | .obj o k a=>zbi o k w r (a.cells ν)
 | .l o f ts a=>LRel E w r o f ts (a.cells ν)
 | .m _ kt vt cs=>MRel ν ρ w r kt vt cs
structure HRel (E:Env) (ν:Nat→DV) (ρ:Nat→Loc) (hp:List (Option Blk)) (w:World):Prop where
 blk:∀ j bk,nth hp j=some bk→BlkRel E ν ρ w (ρ j) bk
 apart:∀ j j' bk bk',nth hp j=some bk→bk.own=true→nth hp j'=some bk'→j≠j'→(ρ j).nil=false→(ρ j').nil=false→∀ b,bk.foot w (ρ j) b→¬ bk'.rfoot w (ρ j') b
structure Fr (W:Nat→Prop) (w0 w:World):Prop where
 os:w.os=w0.os
 tape:w.tape=w0.tape
 output:w.output=w0.output
 size:w0.heap.size≤w.heap.size
 block:∀ b,b<w0.heap.size→¬ W b→w.heap[b]? = w0.heap[b]?
theorem Fr.refl (W:Nat→Prop) (w:World):Fr W w w:=⟨rfl,rfl,rfl,Nat.le_refl _,fun _ _ _=>rfl⟩
theorem Fr.trans {W : Nat → Prop} {a b c : World} (h : Fr W a b) (k : Fr W b c) : Fr W a c :=
  ⟨k.os.trans h.os, k.tape.trans h.tape, k.output.trans h.output, Nat.le_trans h.size k.size,
   fun i hi hw => (k.block i (Nat.lt_of_lt_of_le hi h.size) hw).trans (h.block i hi hw)⟩
theorem Fr.of_below {W:Nat→Prop} {w w':World} (h:Below w.heap.size w w'):Fr W w w' :=
 ⟨h.os,h.tape,h.output,h.size,fun b hb _=>h.block b hb⟩
theorem Fr.below {w w':World} (h:Fr (fun _=>False) w w'):Below w.heap.size w w' :=
 ⟨h.os,h.tape,h.output,h.size,fun b hb=>h.block b hb (fun f=>f)⟩
theorem Fr.weaken {W W':Nat→Prop} {w w':World} (h:Fr W w w') (hw:∀ b,W b→W' b):Fr W' w w' :=
 ⟨h.os,h.tape,h.output,h.size,fun b hb hn=>h.block b hb (fun x=>hn (hw b x))⟩
structure OldB (W V:Nat→Prop) (n:Nat) (own:Bool) (ft rf:Nat→Prop):Prop where
 wr:own=true→∀ b,ft b→n≤b∨W b
 rd:∀ b,rf b→n≤b∨W b∨V b
theorem OldB.plain {W V:Nat→Prop} {n q:Nat} {own:Bool} : OldB W V n own (fun b=>b=q) (fun b=>b=q)↔(n≤q∨W q∨(own=false∧V q)):=by
 constructor
 ·intro h
  cases own with
  | true =>
   rcases h.wr rfl q rfl with h | h
   ·exact .inl h
   ·exact .inr (.inl h)
  | false =>
   rcases h.rd q rfl with h | h | h
   ·exact .inl h
   ·exact .inr (.inl h)
   ·exact .inr (.inr ⟨rfl,h⟩)
 ·intro h
  refine ⟨fun ho b hb=>?_,fun b hb=>?_⟩
  ·subst hb
   rcases h with h | h | h
   ·exact .inl h
   ·exact .inr h
   ·rw [h.1] at ho;cases ho
  ·subst hb
   rcases h with h | h | h
   ·exact .inl h
   ·exact .inr (.inl h)
   ·exact .inr (.inr h.2)
def OldF (W V:Nat→Prop) (w0 w:World) (ρ:Nat→Loc) (hp:List (Option Blk)):Prop :=
 ∀ j bk,nth hp j=some bk→(ρ j).nil=true∨OldB W V w0.heap.size bk.own (bk.foot w (ρ j)) (bk.rfoot w (ρ j))
section
variable {P:Program} {F:FEnv} {E:Env} {ν:Nat→DV} {ρ:Nat→Loc} {w:World}
theorem BlkRel.lt {r:Loc} {bk:Blk} (h:BlkRel E ν ρ w r bk) (hn:r.nil=false) {b:Nat} (hb:bk.rfoot w r b):b<w.heap.size:=by
 cases bk with
 | c o cs =>
  have hb:b=r.blk:=hb
  rw [hb];exact CBlk.lt h
 | v o ts a =>
  have hb:b=r.blk:=hb
  rw [hb];exact VRel.lt h hn
 | obj o k a =>
  obtain ⟨_,h⟩:=zbi.rel h hn
  exact (objK _).lt h hb
 | l o f ts a =>
  have hb:b=r.blk:=hb
  rw [hb];exact (LRel.row h).lt hn
 | m o kt vt cs =>
  have hb:b=r.blk:=hb
  rw [hb];exact MRel.lt h
theorem BlkRel.rd {r:Loc} {bk:Blk} (h:BlkRel E ν ρ w r bk) (hn:r.nil=false) {b:Nat} (hb:bk.foot w r b):bk.rfoot w r b:=by
 cases bk with
 | c o cs=>exact hb
 | v o ts a=>exact hb
 | obj o k a =>
  obtain ⟨_,h⟩:=zbi.rel h hn
  exact (objK _).sub h hb
 | l o f ts a=>exact hb.1
 | m o kt vt cs=>exact hb
theorem BlkRel.ex {r:Loc} {bk:Blk} (h:BlkRel E ν ρ w r bk) (hn:r.nil=false) (ho:bk.own=true) (hs:bk.shr=false) {b:Nat} (hb:bk.rfoot w r b):bk.foot w r b:=by
 cases bk with
 | c o cs=>exact hb
 | v o ts a=>exact hb
 | obj o k a =>
  have ho:o=true:=ho
  subst ho
  simp only [Blk.shr,Bool.true_and,Bool.not_eq_eq_eq_not,Bool.not_false] at hs
  obtain ⟨_,h⟩:=zbi.rel h hn
  exact zmu hs h hb
 | l o f ts a =>
  have ho:o=true:=ho
  have hs:o=false:=hs
  rw [ho] at hs;cases hs
 | m o kt vt cs=>exact hb
theorem BlkRel.foot_eq {w w':World} {r:Loc} {bk:Blk} (h:BlkRel E ν ρ w r bk) (hn:r.nil=false) (hb:∀ b,bk.rfoot w r b→w'.heap[b]? = w.heap[b]?) (b:Nat):bk.foot w' r b↔bk.foot w r b:=by
 cases bk with
 | c o cs=>exact Iff.rfl
 | v o ts a=>exact Iff.rfl
 | obj o k a =>
  obtain ⟨_,h⟩:=zbi.rel h hn
  exact (objK _).foot_congr h hb b
 | l o f ts a=>exact Iff.rfl
 | m o kt vt cs=>exact Iff.rfl
theorem BlkRel.rfoot_eq {w w':World} {r:Loc} {bk:Blk} (h:BlkRel E ν ρ w r bk) (hn:r.nil=false) (hb:∀ b,bk.rfoot w r b→w'.heap[b]? = w.heap[b]?) (b:Nat):bk.rfoot w' r b↔bk.rfoot w r b:=by
 cases bk with
 | c o cs=>exact Iff.rfl
 | v o ts a=>exact Iff.rfl
 | obj o k a =>
  obtain ⟨_,h⟩:=zbi.rel h hn
  exact (objK _).rfoot_congr h hb b
 | l o f ts a=>exact Iff.rfl
 | m o kt vt cs=>exact Iff.rfl
theorem VRel.of_block {w w':World} {r:Loc} {o:Bool} {ts:List LT} {xs:List DV} (h:VRel E w r o ts xs) (hs:w.heap.size≤w'.heap.size) (hb:r.nil=false→w'.heap[r.blk]? = w.heap[r.blk]?):VRel E w' r o ts xs:=by
 cases hn:r.nil with
 | true =>
  have h0:=h.nil hn
  have hx:xs.length=0:=by rw [h.len,h0.1,Nat.zero_mul]
  exact ⟨h.nil,fun e=>absurd (hn.symm.trans e) (by decide),h.pos,h.len,h.cap,fun i hi=>by omega,fun _ e=>absurd (hn.symm.trans e) (by decide),fun _ e=>absurd (hn.symm.trans e) (by decide)⟩
 | false =>
  have hb:=hb hn
  have hc:∀ i,w'.cell? ⟨r.blk,i,none⟩=w.cell? ⟨r.blk,i,none⟩:=fun i=>World.cell?_of_block (w:=w) hb
  have hf:∀ i,w'.frozen? ⟨r.blk,i,none⟩=w.frozen? ⟨r.blk,i,none⟩:=fun i=>World.frozen?_of_block (w:=w) hb
  exact ⟨h.nil,fun e=>Nat.lt_of_lt_of_le (h.lt e) hs,h.pos,h.len,h.cap,fun i hi=>by rw [hc];exact h.cell i hi,fun ho e i hi=>by rw [hc,hf];exact h.own ho e i hi,fun ho e=>⟨(h.fz ho e).1,fun o=>by rw [hf];exact (h.fz ho e).2 o⟩⟩
theorem BlkRel.of_block {w w':World} {r:Loc} {bk:Blk} (h:BlkRel E ν ρ w r bk) (hs:w.heap.size≤w'.heap.size) (hb:r.nil=false→∀ b,bk.rfoot w r b→w'.heap[b]? = w.heap[b]?):BlkRel E ν ρ w' r bk:=by
 cases bk with
 | obj o k a=>exact zbi.map h fun hn d' h'=>(objK _).rel_congr h' (hb hn)
 | c o cs =>
  have h:CBlk ν ρ w r o cs:=h
  have hb:=hb h.nil r.blk rfl
  have hc:∀ i,w'.cell? ⟨r.blk,i,none⟩=w.cell? ⟨r.blk,i,none⟩:=fun i=>World.cell?_of_block (w:=w) hb
  have hf:∀ i,w'.frozen? ⟨r.blk,i,none⟩=w.frozen? ⟨r.blk,i,none⟩:=fun i=>World.frozen?_of_block (w:=w) hb
  exact ⟨h.nil,Nat.lt_of_lt_of_le h.lt hs,fun i l hl=>by rw [hc];exact h.cell i l hl,fun ho i hi=>by rw [hc,hf];exact h.own ho i hi,fun ho o=>by rw [hf];exact h.fz ho o⟩
 | v o ts a=>exact VRel.of_block h hs fun hn=>hb hn r.blk rfl
 | l o f ts a =>
  have h:LRel E w r o f ts (a.cells ν):=h
  exact ⟨h.row.of_block hs fun hn=>hb hn r.blk rfl,fun ho hc=>(h.spare ho hc).of_block hs fun hn=>hb hn r.blk rfl,h.full⟩
 | m o kt vt cs =>
  have h:MRel ν ρ w r kt vt cs:=h
  exact h.congr (hb h.nil r.blk rfl)
theorem HRel.of_below {hp:List (Option Blk)} {w w':World} (h:HRel E ν ρ hp w) (hb:Below w.heap.size w w'):HRel E ν ρ hp w' :=
 ⟨fun j bk hj=>(h.blk j bk hj).of_block hb.size (fun hn _ hf=>hb.block _ ((h.blk j bk hj).lt hn hf)),fun j j' bk bk' hj ho hj' hne hn hn' b h1 h2 =>
  h.apart j j' bk bk' hj ho hj' hne hn hn' b (((h.blk j bk hj).foot_eq hn (fun _ hf=>hb.block _ ((h.blk j bk hj).lt hn hf)) b).1 h1) (((h.blk j' bk' hj').rfoot_eq hn' (fun _ hf=>hb.block _ ((h.blk j' bk' hj').lt hn' hf)) b).1 h2)⟩
theorem OldF.congr {W V:Nat→Prop} {w0 w w':World} {hp:List (Option Blk)} (ho:OldF W V w0 w ρ hp) (h:HRel E ν ρ hp w) (hb:∀ j bk,nth hp j=some bk→(ρ j).nil=false→∀ b,bk.rfoot w (ρ j) b→w'.heap[b]? = w.heap[b]?):OldF W V w0 w' ρ hp:=fun j bk hj=>by
 cases hn:(ρ j).nil with
 | true=>exact .inl rfl
 | false =>
  rcases ho j bk hj with h1 | h1
  ·rw [hn] at h1;cases h1
  ·exact .inr ⟨fun o b hf=>h1.wr o b (((h.blk j bk hj).foot_eq hn (hb j bk hj hn) b).1 hf),fun b hf=>h1.rd b (((h.blk j bk hj).rfoot_eq hn (hb j bk hj hn) b).1 hf)⟩
theorem zbH (b o k:Nat):(⟨b,o,none⟩:Addr).add k=⟨b,o+k,none⟩:=by
 unfold Addr.add
 split
 ·rename_i h;subst h;rfl
 ·rfl
theorem zbC {t:TypeId} {k:TK} {sz:Nat} (hk:tk P t=some k) (ha:zb0 k=true) (hs:zaM P t=some sz) {b o:Nat} {vs:List Value} (hlen:vs.length=sz)
  (hc:∀ j v,vs[j]? = some v→w.cell? ⟨b,o+j,none⟩=some v):(loadVar t ⟨b,o,none⟩).run P w = .ok (.agg vs.toArray) w:=by
 have hl:=run_loadCells_list (P:=P) w ⟨b,o,none⟩ vs (fun j v hv=>by rw [zbH];exact hc j v hv)
 rw [hlen] at hl
 simp only [loadVar,Sem.run_bind,zdx hk,ha,Result.andThen_ok,if_true,za6 hs,hl,Sem.run_pure]
theorem zbl {t:TypeId} {k:TK} (hk:tk P t=some k) (ha:¬ zb0 k=true) {b o:Nat} {v:Value}
  (hc:w.cell? ⟨b,o,none⟩=some v):(loadVar t ⟨b,o,none⟩).run P w = .ok v w:=by
 simp only [loadVar,Sem.run_bind,zdx hk,ha,Result.andThen_ok,if_false,Bool.false_eq_true,run_load,hc]
theorem ziR {l:List (Option Lf)} {sz len sz2:Nat} {ix:A} (h0:0≤ix.int ν) (h1:ix.int ν<len):∀ (n base:Nat),
  M.sat F ν (zk7 l base sz len ix sz2 n) (fun xs=>xs.length=n∧∀ j x,xs[j]? = some x→∀ ρ,∃ y,nth l (base+j*sz2+(ix.int ν).toNat*sz)=some y∧x.conc ν ρ=y.conc ν ρ)
 | 0,base=>zab ⟨rfl,fun j x h=>by simp at h⟩
 | n+1,base=>by
  unfold zk7
  refine zaa (zad (Q:=fun row=>zby l base sz len=some row) fun a h=>h) fun row hrow=>?_
  obtain ⟨r1,r2⟩:=zbG hrow
  refine zaa (zcc r1 h0 h1) fun x hx=>zaa (ziR h0 h1 n (base+sz2)) fun r hr=>zab ⟨by simp [hr.1],fun j x' hj ρ=>?_⟩
  cases j with
  | zero =>
   simp at hj;subst hj
   obtain ⟨y,hy,he⟩:=hx.2 ρ
   refine ⟨y,?_,he⟩
   rw [←r2 _ (by omega)] at hy
   simpa using hy
  | succ j =>
   obtain ⟨y,hy,he⟩:=hr.2 j x' (by simpa using hj) ρ
   refine ⟨y,?_,he⟩
   rw [←hy]
   congr 1
   rw [Nat.add_mul]
   omega
theorem zdT {t:TypeId} {k:TK} {sz:Nat} {own:Bool} {cs:List (Option Lf)} {off:Off} (hk:tk P t=some k) (hs:zaM P t=some sz) (hg:off.good ν) :
  M.sat F ν (zds cs off (zb0 k) sz) (fun v=>∀ ρ w r,CBlk ν ρ w r own cs→v.good ν∧(loadVar t ⟨r.blk,r.off+off.val ν,none⟩).run P w = .ok (v.conc ν ρ) w):=by
 unfold zds
 split
 ·rename_i o ha
  refine zaa (zad (Q:=fun xs=>za2 cs o sz=some xs) fun a h=>h) fun xs hxs=>zab fun ρ w r hb=>?_
  obtain ⟨h1,h2⟩:=zdm hxs
  have hcell:∀ i l,xs[i]? = some l→nth cs (o+i)=some l:=fun i l hl=>by
   rw [h2 i (by have:=(List.getElem?_eq_some_iff.1 hl).1;omega)];exact hl
  refine ⟨V1.good_agg.2 fun x hx=>?_,?_⟩
  ·obtain ⟨i,hi,rfl⟩:=List.mem_iff_getElem.1 hx
   exact (hb.cell (o+i) _ (hcell i _ (List.getElem?_eq_getElem hi))).1
  ·refine zbC hk ha hs (by simpa using h1) fun i v hv=>?_
   rw [List.getElem?_map] at hv
   obtain ⟨l,hl,rfl⟩:=Option.map_eq_some_iff.1 hv
   have:=(hb.cell (o+i) l (hcell i l hl)).2
   simpa [Off.val,Nat.add_assoc] using this
 ·rename_i o ha
  refine zaa (zad (Q:=fun x=>zhv cs o=some x) fun a h=>h) fun x hx=>?_
  rw [ziG] at hx
  by_cases hgx:x.good ν
  ·refine zaa (zks hgx) fun y hy=>zab fun ρ w r hb=>?_
   have:=hb.cell o x hx
   exact ⟨V1.good_one.2 hy.1,zbl hk (by simp [ha]) (by rw [V1.conc,hy.2 ρ];exact this.2)⟩
  ·exact zaa zap fun y _=>zab fun ρ w r hb=>absurd (hb.cell o x hx).1 hgx
 ·rename_i base ix sz' len ha
  refine zaa (zhc hg.1 hg.2 sz base) fun xs hxs=>zab fun ρ w r hb=>?_
  obtain ⟨h1,h2,h3⟩:=hxs
  refine ⟨V1.good_agg.2 h2,?_⟩
  refine zbC hk ha hs (by simpa using h1) fun i v hv=>?_
  rw [List.getElem?_map] at hv
  obtain ⟨l,hl,rfl⟩:=Option.map_eq_some_iff.1 hv
  obtain ⟨x,y,e1,e2,e3⟩:=h3 ρ i (by have:=(List.getElem?_eq_some_iff.1 hl).1;omega)
  rw [e1] at hl
  cases hl
  have:=(hb.cell _ y e2).2
  rw [e3,←this]
  simp only [Off.val]
  congr 2
  omega
 ·rename_i base ix sz' len ha
  refine zaa (zad (Q:=fun row=>zby cs base sz' len=some row) fun a h=>h) fun row hrow=>?_
  obtain ⟨h1,h2⟩:=zbG hrow
  refine zaa (zcc h1 hg.1 hg.2) fun x hx=>zab fun ρ w r hb=>?_
  obtain ⟨y,hy,he⟩:=hx.2 ρ
  refine ⟨V1.good_one.2 hx.1,zbl hk (by simp [ha]) ?_⟩
  rw [←h2 _ (by have:=hg.1;have:=hg.2;omega)] at hy
  have:=(hb.cell _ y hy).2
  rw [V1.conc,he,←this]
  simp only [Off.val]
 ·rename_i base ix sz' len ix2 sz2 len2 ha
  refine zaa (ziR hg.1.1 hg.1.2 len2 base) fun row hrow=>?_
  refine zaa (zcc hrow.1 hg.2.1 hg.2.2) fun x hx=>zab fun ρ w r hb=>?_
  obtain ⟨y,hy,he⟩:=hx.2 ρ
  obtain ⟨z,hz,hz2⟩:=hrow.2 _ _ hy ρ
  refine ⟨V1.good_one.2 hx.1,zbl hk (by simp [ha]) ?_⟩
  have:=(hb.cell _ z hz).2
  rw [V1.conc,he,hz2,←this]
  simp only [Off.val]
  congr 2
  omega
 ·exact zac
theorem Off.beq_spec {a b:Off} (h:a.beq b=true):a.val ν=b.val ν∧(b.good ν→a.good ν):=by
 cases a<;>cases b<;>simp [Off.beq] at h
 ·subst h;exact ⟨rfl,id⟩
 ·rename_i x1 x2 x3 x4 y1 y2 y3 y4
  obtain ⟨⟨⟨rfl,h2⟩,rfl⟩,rfl⟩:=h
  have:=A.beq_den h2 ν
  have e:A.int ν x2=A.int ν y2:=by simp [A.int,this]
  exact ⟨by simp [Off.val,e],by simp [Off.good,e]⟩
 ·rename_i x1 x2 x3 x4 y1 y2 y3 y4
  obtain ⟨⟨⟨rfl,h2⟩,rfl⟩,h4⟩:=h
  have:=A.beq_den h2 ν
  have e:A.int ν x2=A.int ν y2:=by simp [A.int,this]
  have e4:A.cells ν x4=A.cells ν y4:=by simp [A.cells,A.beq_den h4 ν]
  exact ⟨by simp [Off.val,e],by simp [Off.good,e,e4]⟩
 ·rename_i x1 x2 x3 x4 x5 x6 x7 y1 y2 y3 y4 y5 y6 y7
  obtain ⟨⟨⟨⟨⟨⟨rfl,h2⟩,rfl⟩,rfl⟩,h5⟩,rfl⟩,rfl⟩:=h
  have e:A.int ν x2=A.int ν y2:=by simp [A.int,A.beq_den h2 ν]
  have e5:A.int ν x5=A.int ν y5:=by simp [A.int,A.beq_den h5 ν]
  exact ⟨by simp [Off.val,e,e5],by simp only [Off.good,e,e5];exact id⟩
 ·rename_i x1 x2 x3 x4 x5 x6 x7 y1 y2 y3 y4 y5 y6 y7
  obtain ⟨⟨⟨⟨⟨⟨rfl,h2⟩,rfl⟩,h4⟩,h5⟩,rfl⟩,rfl⟩:=h
  have e:A.int ν x2=A.int ν y2:=by simp [A.int,A.beq_den h2 ν]
  have e4:A.cells ν x4=A.cells ν y4:=by simp [A.cells,A.beq_den h4 ν]
  have e5:A.int ν x5=A.int ν y5:=by simp [A.int,A.beq_den h5 ν]
  exact ⟨by simp [Off.val,e,e5],by simp only [Off.good,e,e4,e5];exact id⟩
theorem Alt.beq_eq {x y:Alt} (h:x.beq y=true):x=y:=by
 cases x<;>cases y<;>simp [Alt.beq] at h<;>first | rfl | (obtain ⟨rfl,rfl⟩:=h;rfl)
theorem zku:∀ {l l':List (Nat×Alt)},zg1 l l'=true→l=l'
 | [],[],_=>rfl
 | [],_::_,h=>by simp [zg1] at h
 | _::_,[],h=>by simp [zg1] at h
 | (k,x)::l,(k',y)::l',h=>by
  simp only [zg1,Bool.and_eq_true] at h
  rw [zku h.2,Nat.eq_of_beq_eq_true h.1.1,Alt.beq_eq h.1.2]
theorem zgs:∀ {l l' r:List (Nat×Alt)},zdL l l'=some r→(∀ k x,zaN l k=some x→zaN r k=some x)∧∀ k x,zaN l' k=some x→zaN r k=some x
 | [],l',r,h=>by simp only [zdL,Option.some.injEq] at h;subst h;exact ⟨fun k x hx=>by simp [zaN] at hx,fun _ _=>id⟩
 | y::l,l',r,h=>by
  simp only [zdL] at h
  cases hu:zdL l l' with
  | none=>simp [hu] at h
  | some r1 =>
   obtain ⟨h1,h2⟩:=zgs hu
   simp only [hu] at h
   cases hy:zaN r1 y.1 with
   | none =>
    simp only [hy,Option.some.injEq] at h
    subst h
    have key:∀ k x,zaN r1 k=some x→zaN (y::r1) k=some x:=fun k x hx=>by
     simp only [zaN]
     split
     ·rename_i he
      rw [Nat.eq_of_beq_eq_true he] at hy
      rw [hy] at hx;cases hx
     ·exact hx
    refine ⟨fun k x hx=>?_,fun k x hx=>key k x (h2 k x hx)⟩
    simp only [zaN] at hx
    split at hx
    ·rename_i he
     simp only [zaN,he,if_true];exact hx
    ·exact key k x (h1 k x hx)
   | some z =>
    simp only [hy] at h
    split at h
    ·rename_i hb
     cases h
     refine ⟨fun k x hx=>?_,h2⟩
     simp only [zaN] at hx
     split at hx
     ·rename_i he
      cases hx
      rw [←Nat.eq_of_beq_eq_true he,hy,Alt.beq_eq hb]
     ·exact h1 k x hx
    ·cases h
theorem zkv {x:Lf} {p:A×List (Nat×Alt)} (h:zj9 x=some p) (hg:x.good ν):0≤p.1.int ν∧∃ y,zaN p.2 (p.1.int ν).toNat=some y∧∀ ρ,x.conc ν ρ=y.conc ρ:=by
 unfold zj9 at h
 split at h<;>first | (cases h;done) | (simp only [Option.some.injEq] at h;subst h)
 ·exact ⟨Int.le_refl _,.nilp,rfl,fun _=>rfl⟩
 ·exact ⟨Int.le_refl _,.nili,rfl,fun _=>rfl⟩
 ·rename_i q n
  refine ⟨Int.natCast_nonneg _,.p q n,?_,fun _=>rfl⟩
  simp only [A.int_z,Int.toNat_natCast,zaN]
  simp
 ·rename_i t q
  refine ⟨Int.natCast_nonneg _,.ifp t q,?_,fun _=>rfl⟩
  simp only [A.int_z,Int.toNat_natCast,zaN]
  simp
 ·rename_i a l
  obtain ⟨h1,h2⟩:=hg
  obtain ⟨y,hy⟩:=Option.isSome_iff_exists.1 h2
  exact ⟨h1,y,hy,fun ρ=>by simp only [Lf.conc,zbj,hy]⟩
theorem Lf.beq_spec {a b:Lf} (h:a.beq b=true):(∀ ρ,a.conc ν ρ=b.conc ν ρ)∧(b.good ν→a.good ν):=by
 cases a<;>cases b<;>simp [Lf.beq] at h
 ·obtain ⟨h1,h2⟩:=h
  have:=zb7 h1;subst this
  have:=A.beq_den h2 ν
  exact ⟨fun ρ=>by simp [Lf.conc,A.int,this],fun _=>trivial⟩
 ·have:=A.beq_den h ν
  exact ⟨fun ρ=>by simp [Lf.conc,A.bool,this],fun _=>trivial⟩
 ·obtain ⟨rfl,h2⟩:=h
  obtain ⟨h3,h4⟩:=Off.beq_spec (ν:=ν) h2
  exact ⟨fun ρ=>by simp [Lf.conc,h3],h4⟩
 ·obtain ⟨rfl,h2⟩:=h
  obtain ⟨h3,h4⟩:=Off.beq_spec (ν:=ν) h2
  exact ⟨fun ρ=>by simp [Lf.conc,h3],h4⟩
 ·exact ⟨fun ρ=>rfl,id⟩
 ·subst h;exact ⟨fun ρ=>rfl,id⟩
 ·obtain ⟨⟨h1,h2⟩,rfl⟩:=h
  have:=LT.feq_eq h1
  subst this
  rename_i t a1 j a2
  refine ⟨fun ρ=>?_,fun _=>trivial⟩
  cases t<;>simp only [Lf.conc,A.cells,A.beq_den h2 ν]
 ·obtain ⟨rfl,h2⟩:=h
  rw [ziD h2];exact ⟨fun ρ=>rfl,id⟩
 ·obtain ⟨rfl,rfl⟩:=h;exact ⟨fun ρ=>rfl,id⟩
 ·exact ⟨fun ρ=>by simp only [Lf.conc,A.cells,A.beq_den h ν],fun _=>trivial⟩
 ·subst h;exact ⟨fun _=>rfl,id⟩
 ·obtain ⟨h1,h2⟩:=h
  rw [zku h2]
  exact ⟨fun ρ=>by simp only [Lf.conc,A.int,A.beq_den h1 ν],fun hg=>by simp only [Lf.good,A.int,A.beq_den h1 ν] at hg ⊢;exact hg⟩
def MLf (ν:Nat→DV) (c:A) (x y m:Lf):Prop :=
 (c.bool ν=true→x.good ν→(∀ ρ,m.conc ν ρ=x.conc ν ρ)∧m.good ν) ∧
 (c.bool ν=false→y.good ν→(∀ ρ,m.conc ν ρ=y.conc ν ρ)∧m.good ν)
theorem zn2 {c:A} {x y:Lf} : M.sat F ν (zk8 c x y) (fun o=>∀ m,o=some m→(c.bool ν=true→(∀ ρ,m.conc ν ρ=x.conc ν ρ)∧(x.good ν→m.good ν))∧(c.bool ν=false→(∀ ρ,m.conc ν ρ=y.conc ν ρ)∧(y.good ν→m.good ν))):=by
 unfold zk8
 refine zae (fun h=>zab fun m hm=>?_) (fun _=>?_)
 ·cases hm
  exact ⟨fun _=>⟨fun _=>rfl,id⟩,fun _=>Lf.beq_spec h⟩
 ·split
  ·refine zae (fun hk=>?_) (fun _=>zab fun m hm=>by cases hm)
   have:=zb7 hk;subst this
   refine zaa zcb fun r hr=>zab fun m hm=>?_
   cases hm
   exact ⟨fun h=>⟨fun ρ=>by simp [Lf.conc,hr,h],fun _=>trivial⟩,fun h=>⟨fun ρ=>by simp [Lf.conc,hr,h],fun _=>trivial⟩⟩
  ·refine zaa ze6 fun r hr=>zab fun m hm=>?_
   cases hm
   exact ⟨fun h=>⟨fun ρ=>by simp [Lf.conc,hr,h],fun _=>trivial⟩,fun h=>⟨fun ρ=>by simp [Lf.conc,hr,h],fun _=>trivial⟩⟩
  ·exact zab fun m hm=>by cases hm
theorem ziS {c:A} {x y:Lf} : M.sat F ν (zk9 c x y) (fun o=>∀ m,o=some m→MLf ν c x y m):=by
 unfold zk9
 refine zae (fun h=>zab fun m hm=>?_) (fun _=>?_)
 ·cases hm
  exact ⟨fun _ hg=>⟨fun _=>rfl,hg⟩,fun _ hg=>⟨(Lf.beq_spec h).1,(Lf.beq_spec h).2 hg⟩⟩
 ·split
  ·refine zae (fun hk=>?_) (fun _=>zab fun m hm=>by cases hm)
   have:=zb7 hk;subst this
   refine zaa zcb fun r hr=>zab fun m hm=>?_
   cases hm
   exact ⟨fun h _=>⟨fun ρ=>by simp [Lf.conc,hr,h],trivial⟩,fun h _=>⟨fun ρ=>by simp [Lf.conc,hr,h],trivial⟩⟩
  ·refine zaa ze6 fun r hr=>zab fun m hm=>?_
   cases hm
   exact ⟨fun h _=>⟨fun ρ=>by simp [Lf.conc,hr,h],trivial⟩,fun h _=>⟨fun ρ=>by simp [Lf.conc,hr,h],trivial⟩⟩
  ·split
   ·rename_i p q hp hq
    split
    ·rename_i l hl
     obtain ⟨u1,u2⟩:=zgs hl
     refine zaa zcb fun r hr=>zab fun m hm=>?_
     cases hm
     have side:∀ (x:Lf) (p:A×List (Nat×Alt)),zj9 x=some p→(∀ k x,zaN p.2 k=some x→zaN l k=some x)→r.int ν=p.1.int ν→x.good ν→(∀ ρ,(Lf.alt r l).conc ν ρ=x.conc ν ρ)∧(Lf.alt r l).good ν:=fun x p hp hu he hg=>by
      obtain ⟨h1,y,hy,h2⟩:=zkv hp hg
      refine ⟨fun ρ=>?_,?_⟩
      ·rw [h2 ρ]
       simp only [Lf.conc,zbj,he,hu _ _ hy]
      ·simp only [Lf.good,he]
       exact ⟨h1,by rw [hu _ _ hy];rfl⟩
     exact ⟨fun h=>side _ _ hp u1 (by rw [hr,h];rfl),fun h=>side _ _ hq u2 (by rw [hr,h];rfl)⟩
    ·exact zab fun m hm=>by cases hm
   ·exact zab fun m hm=>by cases hm
def MLfs (ν:Nat→DV) (c:A):List Lf→List Lf→List Lf→Prop
 | [],[],[]=>True
 | x::l,y::l',m::r=>MLf ν c x y m∧MLfs ν c l l' r
 | _,_,_=>False
theorem zhJ {c:A} : ∀ (l l':List Lf),M.sat F ν (zh7 c l l') (fun o=>∀ m,o=some m→MLfs ν c l l' m)
 | [],[]=>zab fun m hm=>by cases hm;trivial
 | x::l,y::l'=>by
  unfold zh7
  refine zaa ziS fun a ha=>zaa (zhJ l l') fun b hb=>zab fun m hm=>?_
  split at hm
  ·cases hm;exact ⟨ha _ rfl,hb _ rfl⟩
  ·cases hm
 | [],_::_=>zab fun m hm=>by cases hm
 | _::_,[]=>zab fun m hm=>by cases hm
theorem MLfs.left {c:A} (h:c.bool ν=true):∀ {l l' m:List Lf},MLfs ν c l l' m→(∀ x∈l,x.good ν)→(∀ ρ,m.map (Lf.conc ν ρ)=l.map (Lf.conc ν ρ))∧∀ x∈m,x.good ν
 | [],[],[],_,_=>⟨fun _=>rfl,fun x hx=>by cases hx⟩
 | x::l,y::l',m::r,hm,hg=>by
  obtain ⟨h1,h2⟩:=hm.2.left h fun u hu=>hg u (List.mem_cons_of_mem _ hu)
  obtain ⟨h3,h4⟩:=hm.1.1 h (hg x (by simp))
  refine ⟨fun ρ=>by simp [h3 ρ,h1 ρ],fun z hz=>?_⟩
  rcases List.mem_cons.1 hz with rfl | hz
  ·exact h4
  ·exact h2 z hz
theorem MLfs.right {c:A} (h:c.bool ν=false):∀ {l l' m:List Lf},MLfs ν c l l' m→(∀ x∈l',x.good ν)→(∀ ρ,m.map (Lf.conc ν ρ)=l'.map (Lf.conc ν ρ))∧∀ x∈m,x.good ν
 | [],[],[],_,_=>⟨fun _=>rfl,fun x hx=>by cases hx⟩
 | x::l,y::l',m::r,hm,hg=>by
  obtain ⟨h1,h2⟩:=hm.2.right h fun u hu=>hg u (List.mem_cons_of_mem _ hu)
  obtain ⟨h3,h4⟩:=hm.1.2 h (hg y (by simp))
  refine ⟨fun ρ=>by simp [h3 ρ,h1 ρ],fun z hz=>?_⟩
  rcases List.mem_cons.1 hz with rfl | hz
  ·exact h4
  ·exact h2 z hz
def MV1 (ν:Nat→DV) (c:A) (x y m:V1):Prop :=
 (c.bool ν=true→x.good ν→(∀ ρ,m.conc ν ρ=x.conc ν ρ)∧m.good ν) ∧
 (c.bool ν=false→y.good ν→(∀ ρ,m.conc ν ρ=y.conc ν ρ)∧m.good ν)
theorem ziT {c:A} {x y:V1} : M.sat F ν (zla c x y) (fun o=>∀ m,o=some m→MV1 ν c x y m):=by
 unfold zla
 split
 ·refine zaa ziS fun a ha=>zab fun m hm=>?_
  obtain ⟨l,hl,rfl⟩:=Option.map_eq_some_iff.1 hm
  have:=ha l hl
  exact ⟨fun h hg=>⟨fun ρ=>(this.1 h (V1.good_one.1 hg)).1 ρ,V1.good_one.2 (this.1 h (V1.good_one.1 hg)).2⟩,fun h hg=>⟨fun ρ=>(this.2 h (V1.good_one.1 hg)).1 ρ,V1.good_one.2 (this.2 h (V1.good_one.1 hg)).2⟩⟩
 ·refine zaa (zhJ _ _) fun a ha=>zab fun m hm=>?_
  obtain ⟨l,hl,rfl⟩:=Option.map_eq_some_iff.1 hm
  have:=ha l hl
  exact ⟨fun h hg=>⟨fun ρ=>by simp only [V1.conc,(this.left h (V1.good_agg.1 hg)).1 ρ],V1.good_agg.2 (this.left h (V1.good_agg.1 hg)).2⟩,
   fun h hg=>⟨fun ρ=>by simp only [V1.conc,(this.right h (V1.good_agg.1 hg)).1 ρ],V1.good_agg.2 (this.right h (V1.good_agg.1 hg)).2⟩⟩
 ·exact zab fun m hm=>by cases hm
def MV1s (ν:Nat→DV) (c:A):List V1→List V1→List V1→Prop
 | [],[],[]=>True
 | x::l,y::l',m::r=>MV1 ν c x y m∧MV1s ν c l l' r
 | _,_,_=>False
theorem zhK {c:A} : ∀ (l l':List V1),M.sat F ν (zh8 c l l') (fun o=>∀ m,o=some m→MV1s ν c l l' m)
 | [],[]=>zab fun m hm=>by cases hm;trivial
 | x::l,y::l'=>by
  unfold zh8
  refine zaa ziT fun a ha=>zaa (zhK l l') fun b hb=>zab fun m hm=>?_
  split at hm
  ·cases hm;exact ⟨ha _ rfl,hb _ rfl⟩
  ·cases hm
 | [],_::_=>zab fun m hm=>by cases hm
 | _::_,[]=>zab fun m hm=>by cases hm
theorem MV1s.left {c:A} (h:c.bool ν=true):∀ {l l' m:List V1},MV1s ν c l l' m→(∀ x∈l,V1.good ν x)→(∀ ρ,m.map (V1.conc ν ρ)=l.map (V1.conc ν ρ))∧∀ x∈m,V1.good ν x
 | [],[],[],_,_=>⟨fun _=>rfl,fun x hx=>by cases hx⟩
 | x::l,y::l',m::r,hm,hg=>by
  obtain ⟨h1,h2⟩:=hm.2.left h fun u hu=>hg u (List.mem_cons_of_mem _ hu)
  obtain ⟨h3,h4⟩:=hm.1.1 h (hg x (by simp))
  refine ⟨fun ρ=>by simp [h3 ρ,h1 ρ],fun z hz=>?_⟩
  rcases List.mem_cons.1 hz with rfl | hz
  ·exact h4
  ·exact h2 z hz
theorem MV1s.right {c:A} (h:c.bool ν=false):∀ {l l' m:List V1},MV1s ν c l l' m→(∀ x∈l',V1.good ν x)→(∀ ρ,m.map (V1.conc ν ρ)=l'.map (V1.conc ν ρ))∧∀ x∈m,V1.good ν x
 | [],[],[],_,_=>⟨fun _=>rfl,fun x hx=>by cases hx⟩
 | x::l,y::l',m::r,hm,hg=>by
  obtain ⟨h1,h2⟩:=hm.2.right h fun u hu=>hg u (List.mem_cons_of_mem _ hu)
  obtain ⟨h3,h4⟩:=hm.1.2 h (hg y (by simp))
  refine ⟨fun ρ=>by simp [h3 ρ,h1 ρ],fun z hz=>?_⟩
  rcases List.mem_cons.1 hz with rfl | hz
  ·exact h4
  ·exact h2 z hz
def MV (ν:Nat→DV) (c:A) (x y m:V):Prop :=
 (c.bool ν=true→x.good ν→(∀ ρ,m.conc ν ρ=x.conc ν ρ)∧m.good ν) ∧
 (c.bool ν=false→y.good ν→(∀ ρ,m.conc ν ρ=y.conc ν ρ)∧m.good ν)
theorem zp4 {c:A} {x y:V} : M.sat F ν (zqO c x y) (fun o=>∀ m,o=some m→MV ν c x y m):=by
 unfold zqO
 split
 ·refine zaa ziT fun a ha=>zab fun m hm=>?_
  obtain ⟨l,hl,rfl⟩:=Option.map_eq_some_iff.1 hm
  exact ha l hl
 ·refine zaa (zhK _ _) fun a ha=>zab fun m hm=>?_
  obtain ⟨l,hl,rfl⟩:=Option.map_eq_some_iff.1 hm
  have:=ha l hl
  exact ⟨fun h hg=>⟨fun ρ=>by simp only [V.conc,(this.left h hg).1 ρ],(this.left h hg).2⟩,
   fun h hg=>⟨fun ρ=>by simp only [V.conc,(this.right h hg).1 ρ],(this.right h hg).2⟩⟩
 ·exact zab fun m hm=>by cases hm
theorem ziU {c:A} {x y:V} : M.sat F ν (zfE c x y) (fun m=>MV ν c x y m):=by
 unfold zfE
 refine zaa zp4 fun o ho=>?_
 split
 ·exact zab (ho _ rfl)
 ·exact zac
end
end Go.Sx
