/- An evaluator that turns the model's code of a function into a list of plain definitions (one node a value), with joins where ways meet: definitions alone. -/
import Derived.WalkKit
import Derived.ChangeKeysEq
import Derived.Laws.IdiomCopy
import Derived.MapKept
namespace Go.Sx
inductive A where
 | r (id:Nat)
 | z (n:Int)
 | t (b:Bool)
 | h (j:Nat)
 deriving Inhabited
inductive DV where
 | i (n:Int)
 | b (x:Bool)
 | l (xs:List DV)
 deriving Inhabited
abbrev DV.ai:DV->Int
 | .i n=>n
 | .b _=>0
 | .l _=>0
abbrev DV.aA:DV->Bool
 | .b x=>x
 | .i _=>false
 | .l _=>false
abbrev DV.ay:DV->List DV
 | .l x=>x
 | .i _=>[]
 | .b _=>[]
inductive Ty where
 | i
 | b
 | l
 deriving Inhabited
def nrm:Ty->DV->DV
 | .i,d=>.i d.ai
 | .b,d=>.b d.aA
 | .l,d=>.l d.ay
def ey:List Ty->List DV->List DV
 | t::ts,d::ds=>nrm t d::ey ts ds
 | _,_=>[]
def Ty.beq:Ty->Ty->Bool
 | .i,.i | .b,.b | .l,.l=>true
 | _,_=>false
def Ty.gT:Ty->DV->DV->Prop
 | .i,d,e=>d.ai=e.ai
 | .b,d,e=>d.aA=e.aA
 | .l,d,e=>d.ay=e.ay
abbrev A.den (O:Nat->DV):A->DV
 | .r id=>O id
 | .z n=>.i n
 | .t b=>.b b
 | .h _=>.i 0
abbrev A.int (O:Nat->DV) (a:A):Int:=(a.den O).ai
abbrev A.bool (O:Nat->DV) (a:A):Bool:=(a.den O).aA
abbrev A.cells (O:Nat->DV) (a:A):List DV:=(a.den O).ay
def A.beq:A->A->Bool
 | .r a,.r b=>Nat.beq a b
 | .z a,.z b=>decide (a=b)
 | .t a,.t b=>a==b
 | .h a,.h b=>Nat.beq a b
 | _,_=>false
def m7:IntKind->IntKind->Bool
 | .i8,.i8 | .i16,.i16 | .i32,.i32 | .i64,.i64 | .u8,.u8 | .u16,.u16 | .u32,.u32 | .u64,.u64=>true
 | _,_=>false
inductive Node where
 | add (k:IntKind) (a b:A)
 | sub (k:IntKind) (a b:A)
 | mul (k:IntKind) (a b:A)
 | land (k:IntKind) (a b:A)
 | lor (k:IntKind) (a b:A)
 | vz (k:IntKind) (a b:A)
 | lI (k:IntKind) (a b:A)
 | quo (k:IntKind) (a b:A)
 | rem (k:IntKind) (a b:A)
 | shl (k:IntKind) (a b:A)
 | shr (k:IntKind) (a b:A)
 | eql (a b:A)
 | neq (a b:A)
 | lss (a b:A)
 | leq (a b:A)
 | gtr (a b:A)
 | geq (a b:A)
 | beq (a b:A)
 | bne (a b:A)
 | not (a:A)
 | and (a b:A)
 | or (a b:A)
 | vA (c a b:A)
 | yp (c a b:A)
 | conv (k:IntKind) (a:A)
 | vB (l:List A) (ix:A)
 | yq (l:List A) (ix:A)
 | call (f:Nat) (args:List A) (j:Nat)
 | sR (ts:List Ty) (l:List A)
 | kZ (sz:Nat) (a:A)
 | lW (sz j:Nat) (a ix:A)
 | kK (sz j:Nat) (a ix:A)
 | nW (sz j:Nat) (a ix:A)
 | yu (sz j:Nat) (t:Ty) (a ix x:A)
 | vC (a b:A)
 | p8 (sz:Nat) (a n:A)
 | sS (sz:Nat) (a n:A)
 | yw (n:A) (ts:List Ty) (l:List A)
 | yx (c a b:A)
 | yy (n sz j:Nat) (t:Ty) (a ix x:A)
 | vD (n sz j:Nat) (a ix:A)
 | yz (a b:A)
 deriving Inhabited
abbrev aC:=Nat->List DV->List DV
def uQ (k:IntKind) (x:Int):BitVec k.bits:=BitVec.ofInt k.bits x
def dD (k:IntKind) (x y:Int):Int:=k.wrap (uQ k x &&& uQ k y).toNat
def bB (k:IntKind) (x y:Int):Int:=k.wrap (uQ k x ||| uQ k y).toNat
def BK (k:IntKind) (x y:Int):Int:=k.wrap (uQ k x ^^^ uQ k y).toNat
def dx (k:IntKind) (x y:Int):Int:=k.wrap (uQ k x &&& ~~~ (uQ k y)).toNat
def aF (k:IntKind) (x y:Int):Int:=k.wrap (x*2^min y.toNat k.bits)
def cW (k:IntKind) (x y:Int):Int:=x.fdiv (2^min y.toNat k.bits)
def DV.byte (d:DV):UInt8:=UInt8.ofNat d.ai.toNat
def sU:List DV->List DV->Bool
 | [],[]=>true
 | x::l,y::l'=>x.byte==y.byte&&sU l l'
 | _,_=>false
def tL (n:Nat) (l:List DV):List DV:=(List.range n).map fun k=>l.getD k default
def lJ (F:aC) (O:Nat->DV):Node->DV
 | .add k a b=>.i (k.wrap (a.int O+b.int O))
 | .sub k a b=>.i (k.wrap (a.int O-b.int O))
 | .mul k a b=>.i (k.wrap (a.int O*b.int O))
 | .land k a b=>.i (dD k (a.int O) (b.int O))
 | .lor k a b=>.i (bB k (a.int O) (b.int O))
 | .vz k a b=>.i (BK k (a.int O) (b.int O))
 | .lI k a b=>.i (dx k (a.int O) (b.int O))
 | .quo k a b=>.i (k.wrap ((a.int O).tdiv (b.int O)))
 | .rem _ a b=>.i ((a.int O).tmod (b.int O))
 | .shl k a b=>.i (aF k (a.int O) (b.int O))
 | .shr k a b=>.i (cW k (a.int O) (b.int O))
 | .eql a b=>.b (a.int O==b.int O)
 | .neq a b=>.b (a.int O != b.int O)
 | .lss a b=>.b (decide (a.int O<b.int O))
 | .leq a b=>.b (decide (a.int O<=b.int O))
 | .gtr a b=>.b (decide (a.int O>b.int O))
 | .geq a b=>.b (decide (a.int O>=b.int O))
 | .beq a b=>.b (a.bool O==b.bool O)
 | .bne a b=>.b (a.bool O != b.bool O)
 | .not a=>.b (!a.bool O)
 | .and a b=>.b (a.bool O&&b.bool O)
 | .or a b=>.b (a.bool O||b.bool O)
 | .vA c a b=>.i (bif c.bool O then a.int O else b.int O)
 | .yp c a b=>.b (bif c.bool O then a.bool O else b.bool O)
 | .conv k a=>.i (k.wrap (a.int O))
 | .vB l ix=>.i ((l.map (A.int O)).getD (ix.int O).toNat 0)
 | .yq l ix=>.b ((l.map (A.bool O)).getD (ix.int O).toNat false)
 | .call f args j=>(F f (args.map (A.den O))).getD j default
 | .sR ts l=>.l (ey ts (l.map (A.den O)))
 | .kZ sz a=>.i ((a.cells O).length/sz:Nat)
 | .lW sz j a ix=>.i ((a.cells O).getD ((ix.int O).toNat*sz+j) default).ai
 | .kK sz j a ix=>.b ((a.cells O).getD ((ix.int O).toNat*sz+j) default).aA
 | .nW sz j a ix=>.l ((a.cells O).getD ((ix.int O).toNat*sz+j) default).ay
 | .yu sz j t a ix x=>.l ((a.cells O).set ((ix.int O).toNat*sz+j) (nrm t (x.den O)))
 | .vC a b=>.l (a.cells O++b.cells O)
 | .p8 sz a n=>.l ((a.cells O).take ((n.int O).toNat*sz))
 | .sS sz a n=>.l ((a.cells O).drop ((n.int O).toNat*sz))
 | .yw n ts l=>.l (List.replicate (n.int O).toNat (ey ts (l.map (A.den O)))).flatten
 | .yx c a b=>.l (bif c.bool O then a.cells O else b.cells O)
 | .yy n sz j t a ix x=>.l ((tL n (a.cells O)).set ((ix.int O).toNat*sz+j) (nrm t (x.den O)))
 | .vD n sz j a ix=>.l ((List.range n).map fun k=>(a.cells O).getD ((ix.int O).toNat*sz+j+k) default)
 | .yz a b=>.b (sU (a.cells O) (b.cells O))
inductive bV where
 | c (n:Nat)
 | s (base:Nat) (ix:A) (sz len:Nat)
 | v (base:Nat) (ix:A) (sz:Nat) (a:A)
 | d (base:Nat) (ix:A) (sz len:Nat) (hY:A) (jI fe:Nat)
 | w (base:Nat) (ix:A) (sz:Nat) (a:A) (hY:A) (jI fe:Nat)
 deriving Inhabited
def bV.val (O:Nat->DV):bV->Nat
 | .c n=>n
 | .s base ix sz _=>base+(ix.int O).toNat*sz
 | .v base ix sz _=>base+(ix.int O).toNat*sz
 | .d base ix sz _ hY jI _=>base+(ix.int O).toNat*sz+(hY.int O).toNat*jI
 | .w base ix sz _ hY jI _=>base+(ix.int O).toNat*sz+(hY.int O).toNat*jI
def bV.plus:bV->Nat->bV
 | .c n,k=>.c (n+k)
 | .s b ix sz len,k=>.s (b+k) ix sz len
 | .v b ix sz a,k=>.v (b+k) ix sz a
 | .d b ix sz len hY jI fe,k=>.d (b+k) ix sz len hY jI fe
 | .w b ix sz a hY jI fe,k=>.w (b+k) ix sz a hY jI fe
def bV.beq:bV->bV->Bool
 | .c x1,.c y1=>Nat.beq x1 y1
 | .s x1 x2 x3 x4,.s y1 y2 y3 y4=>Nat.beq x1 y1&&x2.beq y2&&Nat.beq x3 y3&&Nat.beq x4 y4
 | .v x1 x2 x3 x4,.v y1 y2 y3 y4=>Nat.beq x1 y1&&x2.beq y2&&Nat.beq x3 y3&&x4.beq y4
 | .d x1 x2 x3 x4 x5 x6 x7,.d y1 y2 y3 y4 y5 y6 y7=>Nat.beq x1 y1&&x2.beq y2&&Nat.beq x3 y3&&Nat.beq x4 y4&&x5.beq y5&&Nat.beq x6 y6&&Nat.beq x7 y7
 | .w x1 x2 x3 x4 x5 x6 x7,.w y1 y2 y3 y4 y5 y6 y7=>Nat.beq x1 y1&&x2.beq y2&&Nat.beq x3 y3&&x4.beq y4&&x5.beq y5&&Nat.beq x6 y6&&Nat.beq x7 y7
 | _,_=>false
structure Loc where
 aj:Nat
 off:Nat
 nil:Bool
 len:Nat
 cap:Nat
 raw:Option Addr
 deriving Inhabited
def Loc.slice (r:Loc):Value:=.slice (bif r.nil then r.raw else some ⟨r.aj,r.off,none⟩) r.len r.cap
inductive LT where
 | int (k:IntKind)
 | bool
 | vec (ts:List LT)
 deriving Inhabited
def LT.vE:LT->LT->Bool
 | .int k,.int k'=>m7 k k'
 | .bool,.bool=>true
 | _,_=>false
def LT.ty:LT->Ty
 | .int _=>.i
 | .bool=>.b
 | .vec _=>.l
inductive Alt where
 | cG
 | nu
 | p (aj:Nat) (n:Nat)
 | fV (t:Nat) (aj:Nat)
 deriving Inhabited
inductive Lf where
 | i (k:IntKind) (a:A)
 | b (a:A)
 | p (aj:Nat) (off:bV)
 | gp (g:Nat) (off:bV)
 | cG
 | vec (aj:Nat)
 | e (t:LT) (a:A) (i:Nat)
 | kL (f:Nat) (bs:List Nat)
 | fV (t:Nat) (aj:Nat)
 | str (a:A)
 | mp (aj:Nat)
 | alt (a:A) (l:List (Nat×Alt))
 | v (x:Value)
 deriving Inhabited
def eI:List (Nat×Alt)->Nat->Option Alt
 | [],_=>none
 | x::l,n=>if Nat.beq x.1 n then some x.2 else eI l n
def Alt.aa (U:Nat->Loc):Alt->Value
 | .cG=>.pointer none
 | .nu=>.nilIface
 | .p q n=>.pointer (some ⟨(U q).aj,(U q).off+n,none⟩)
 | .fV t q=>.iface t (.pointer (some ⟨(U q).aj,(U q).off+0,none⟩))
def Alt.lt (n:Nat):Alt->Bool
 | .p q _=>decide (q<n)
 | .fV _ q=>decide (q<n)
 | _=>true
def Alt.beq:Alt->Alt->Bool
 | .cG,.cG=>true
 | .nu,.nu=>true
 | .p q n,.p q' n'=>Nat.beq q q'&&Nat.beq n n'
 | .fV t q,.fV t' q'=>Nat.beq t t'&&Nat.beq q q'
 | _,_=>false
def BL:List (Nat×Alt)->List (Nat×Alt)->Bool
 | [],[]=>true
 | x::l,y::l'=>Nat.beq x.1 y.1&&x.2.beq y.2&&BL l l'
 | _,_=>false
def nX (U:Nat->Loc) (l:List (Nat×Alt)) (n:Nat):Value :=
 match eI l n with
 | some x=>x.aa U
 | none=>.pointer none
def Mw (n:Nat) (l:List (Nat×Alt)):Bool:=l.all fun x=>x.2.lt n
def p9 (U:Nat->Loc) (bs:List Nat):Array Value:=(bs.map fun b=>Value.pointer (some ⟨(U b).aj,(U b).off+0,none⟩)).toArray
def BM:List Nat->List Nat->Bool
 | [],[]=>true
 | a::l,b::l'=>Nat.beq a b&&BM l l'
 | _,_=>false
def qY (l:List DV):ByteArray:=⟨(l.map DV.byte).toArray⟩
def Lf.aa (O:Nat->DV) (U:Nat->Loc):Lf->Value
 | .i k a=>.int k (a.int O)
 | .b a=>.bool (a.bool O)
 | .p aj off=>.pointer (some ⟨(U aj).aj,(U aj).off+off.val O,none⟩)
 | .gp g off=>.pointer (some ⟨g,off.val O,none⟩)
 | .cG=>.pointer none
 | .vec aj=>(U aj).slice
 | .e (.int k) a j=>.int k ((a.cells O).getD j default).ai
 | .e _ a j=>.bool ((a.cells O).getD j default).aA
 | .kL f bs=>.func (.func f) #[] (p9 U bs)
 | .fV t q=>.iface t (.pointer (some ⟨(U q).aj,(U q).off+0,none⟩))
 | .str a=>.string (qY (a.cells O))
 | .mp q=>.map (some (U q).aj)
 | .alt a l=>nX U l (a.int O).toNat
 | .v x=>x
def Lf.ok:Lf->Bool
 | .v x=>x.oneCell'
 | _=>true
def Lf.scalar:Lf->Bool
 | .i _ _ | .b _ | .e _ _ _=>true
 | _=>false
def Lf.lt (n:Nat):Lf->Bool
 | .p aj _=>decide (aj<n)
 | .vec aj=>decide (aj<n)
 | .kL _ bs=>bs.all fun b=>decide (b<n)
 | .fV _ q=>decide (q<n)
 | .mp q=>decide (q<n)
 | .alt _ l=>Mw n l
 | _=>true
inductive V1 where
 | one (l:Lf)
 | agg (l:List Lf)
 deriving Inhabited
def V1.aa (O:Nat->DV) (U:Nat->Loc):V1->Value
 | .one l=>l.aa O U
 | .agg l=>.agg (l.map (Lf.aa O U)).toArray
def V1.cells:V1->List Lf
 | .one l=>[l]
 | .agg l=>l
def V1.lt (n:Nat) (v:V1):Bool:=v.cells.all (Lf.lt n)
inductive V where
 | s (v:V1)
 | t (l:List V1)
 deriving Inhabited
def V.aa (O:Nat->DV) (U:Nat->Loc):V->Value
 | .s v=>v.aa O U
 | .t l=>.tuple (l.map (V1.aa O U)).toArray
def V.lt (n:Nat):V->Bool
 | .s v=>v.lt n
 | .t l=>l.all (V1.lt n)
inductive ag where
 | c (own:Bool) (cs:List (Option Lf))
 | v (own:Bool) (ts:List LT) (a:A)
 | obj (own:Bool) (k:Nat) (a:A)
 | l (own full:Bool) (ts:List LT) (a:A)
 | m (own:Bool) (kt vt:Bool×Nat) (cs:List Lf)
 deriving Inhabited
def nY (k:Nat):Bool:=Nat.ble 1000 k
def kb (k:Nat):Nat:=bif nY k then k-1000 else k
def ag.own:ag->Bool
 | .c o _=>o
 | .v o _ _=>o
 | .obj o _ _=>o
 | .l o _ _ _=>o
 | .m o _ _ _=>o
structure St where
 sl:List (Option V)
 hp:List (Option ag)
 deriving Inhabited
structure Nd where
 path:List (A×Bool)
 a:A
 deriving Inhabited
def Nd.holds (O:Nat->DV) (n:Nd):Prop:=(∀ c∈n.path,c.1.bool O=c.2)->n.a.bool O=true
abbrev Em:=List (Nat×Node)
def Sat (F:aC) (O:Nat->DV) (e:Em):Prop:=∀ p∈e,O p.1=lJ F O p.2
def look (base:Nat->DV) (n0:Nat) (vs:List DV) (n i:Nat):DV :=
 bif Nat.blt i n0 then base i else vs.getD (n-1-i) default
def k_ (F:aC) (base:Nat->DV) (n0:Nat):Em->List DV->Nat->List DV
 | [],vs,_=>vs
 | (_,x)::r,vs,n=>k_ F base n0 r (lJ F (look base n0 vs n) x::vs) (n+1)
structure LH where
 uR:List (Nat×List LT):=[]
 fz:List Nat:=[]
 cs:List (Nat×List (Nat×Nat)):=[]
 vs:List Nat:=[]
 deriving Inhabited
structure LR where
 fid:Nat
 n:Nat
 k:Nat
 inv:List Nat
 nodes:Em
 jr:List Nd
 c:A
 nx:List A
 outs:List A
 ts:List Ty:=[]
 lh:LH:={}
 deriving Inhabited
def LR.env (F:aC) (l:LR) (O:Nat->DV) (xs:List DV):Nat->DV :=
 look O l.n (k_ F O l.n l.nodes xs.reverse (l.n+l.k)) (l.n+l.k+l.nodes.length)
def vF:List Ty->List DV->List DV->Prop
 | t::ts,a::as,b::bs=>t.gT a b/\vF ts as bs
 | [],[],[]=>True
 | _,_,_=>False
def jJ (F:aC) (l:LR):Prop :=
 ∃ μ:List DV->Nat,∀ (O:Nat->DV) (xs:List DV),xs.length=l.k ->
  ((F l.fid (l.inv.map O++xs)).getD 0 default).aA=true ->
  (∀ q∈l.jr,Nd.holds (l.env F O xs) q) /\
  (l.c.bool (l.env F O xs)=true ->
   ((F l.fid (l.inv.map O++l.nx.map (A.den (l.env F O xs)))).getD 0 default).aA=true /\
   F l.fid (l.inv.map O++l.nx.map (A.den (l.env F O xs)))=F l.fid (l.inv.map O++xs) /\
   μ (l.inv.map O++l.nx.map (A.den (l.env F O xs)))<μ (l.inv.map O++xs)) /\
  (l.c.bool (l.env F O xs)=false->vF (.i::l.ts) ((F l.fid (l.inv.map O++xs)).drop 1) (l.outs.map (A.den (l.env F O xs))))
inductive Ob where
 | nd (q:Nd)
 | lp (l:LR)
def Ob.holds (F:aC) (O:Nat->DV):Ob->Prop
 | .nd q=>q.holds O
 | .lp l=>jJ F l
def Ob.under (c:A) (b:Bool):Ob->Ob
 | .nd q=>.nd ⟨(c,b)::q.path,q.a⟩
 | .lp l=>.lp l
def uS:List Ob->List Nd
 | []=>[]
 | .nd q::l=>q::uS l
 | .lp _::l=>uS l
def tM:List Ob->List LR
 | []=>[]
 | .nd _::l=>tM l
 | .lp q::l=>q::tM l
def M (α:Type):=Nat->Option (α×Nat×Em×List Ob)
def M.pure {α:Type} (a:α):M α:=fun n=>some (a,n,[],[])
def M.bind {α β:Type} (x:M α) (f:α->M β):M β:=fun n =>
 match x n with
 | none=>none
 | some (a,n1,e1,d1) =>
  match f a n1 with
  | none=>none
  | some (b,n2,e2,d2)=>some (b,n2,e1++e2,d1++d2)
instance:Monad M where
 pure:=M.pure
 bind:=M.bind
def M.fail {α:Type} : M α:=fun _=>none
def M.lift {α:Type} (o:Option α):M α:=fun n =>
 match o with
 | none=>none
 | some a=>some (a,n,[],[])
def emit (x:Node):M A:=fun n=>some (.r n,n+1,[(n,x)],[])
def lX (a:A):M Unit:=fun n=>some ((),n,[],[.nd ⟨[],a⟩])
def under {α:Type} (c:A) (b:Bool) (x:M α):M α:=fun n =>
 match x n with
 | none=>none
 | some (a,n1,e,d)=>some (a,n1,e,d.map (Ob.under c b))
def BN:A->M A
 | .t b=>pure (.t !b)
 | a=>emit (.not a)
def Hy:A->A->M A
 | .t true,b=>pure b
 | .t false,_=>pure (.t false)
 | a,.t true=>pure a
 | _,.t false=>pure (.t false)
 | a,b=>emit (.and a b)
def yA (c a b:A):M A :=
 match c with
 | .t true=>pure a
 | .t false=>pure b
 | c=>if a.beq b then pure a else emit (.vA c a b)
def Ff (c a b:A):M A :=
 match c with
 | .t true=>pure a
 | .t false=>pure b
 | c=>if a.beq b then pure a else
  match a,b with
  | .t true,.t false=>pure c
  | .t false,.t true=>emit (.not c)
  | .t true,b=>emit (.or c b)
  | a,.t false=>emit (.and c a)
  | a,b=>emit (.yp c a b)
def Qy (c a b:A):M A :=
 match c with
 | .t true=>pure a
 | .t false=>pure b
 | c=>if a.beq b then pure a else emit (.yx c a b)
def Fg (b:A):M Unit :=
 match b with
 | .z m=>if m=0 then M.fail else pure ()
 | b=>do lX (<-emit (.neq b (.z 0)))
def vG (b:A):M Unit :=
 match b with
 | .z m=>if 0<=m then pure () else M.fail
 | b=>do lX (<-emit (.geq b (.z 0)))
def Qz (op:BinOp) (k:IntKind) (a b:A):M Lf :=
 match op,a,b with
 | .add,.z x,.z y=>pure (.i k (.z (k.wrap (x+y))))
 | .sub,.z x,.z y=>pure (.i k (.z (k.wrap (x-y))))
 | .mul,.z x,.z y=>pure (.i k (.z (k.wrap (x*y))))
 | .and,.z x,.z y=>pure (.i k (.z (dD k x y)))
 | .or,.z x,.z y=>pure (.i k (.z (bB k x y)))
 | .xor,.z x,.z y=>pure (.i k (.z (BK k x y)))
 | .andNot,.z x,.z y=>pure (.i k (.z (dx k x y)))
 | .eql,.z x,.z y=>pure (.b (.t (x==y)))
 | .neq,.z x,.z y=>pure (.b (.t (x != y)))
 | .lss,.z x,.z y=>pure (.b (.t (decide (x<y))))
 | .leq,.z x,.z y=>pure (.b (.t (decide (x<=y))))
 | .gtr,.z x,.z y=>pure (.b (.t (decide (x>y))))
 | .geq,.z x,.z y=>pure (.b (.t (decide (x>=y))))
 | .quo,.z x,.z y=>do Fg (.z y);pure (.i k (.z (k.wrap (x.tdiv y))))
 | .rem,.z x,.z y=>do Fg (.z y);pure (.i k (.z (x.tmod y)))
 | .add,a,b=>do pure (.i k (<-emit (.add k a b)))
 | .sub,a,b=>do pure (.i k (<-emit (.sub k a b)))
 | .mul,a,b=>do pure (.i k (<-emit (.mul k a b)))
 | .and,a,b=>do pure (.i k (<-emit (.land k a b)))
 | .or,a,b=>do pure (.i k (<-emit (.lor k a b)))
 | .xor,a,b=>do pure (.i k (<-emit (.vz k a b)))
 | .andNot,a,b=>do pure (.i k (<-emit (.lI k a b)))
 | .eql,a,b=>do pure (.b (<-emit (.eql a b)))
 | .neq,a,b=>do pure (.b (<-emit (.neq a b)))
 | .lss,a,b=>do pure (.b (<-emit (.lss a b)))
 | .leq,a,b=>do pure (.b (<-emit (.leq a b)))
 | .gtr,a,b=>do pure (.b (<-emit (.gtr a b)))
 | .geq,a,b=>do pure (.b (<-emit (.geq a b)))
 | .quo,a,b=>do Fg b;pure (.i k (<-emit (.quo k a b)))
 | .rem,a,b=>do Fg b;pure (.i k (<-emit (.rem k a b)))
 | _,_,_=>M.fail
def Mx (op:BinOp) (k:IntKind) (a b:A):M Lf :=
 match op,a,b with
 | .shl,.z x,.z y=>do vG (.z y);pure (.i k (.z (aF k x y)))
 | .shr,.z x,.z y=>do vG (.z y);pure (.i k (.z (cW k x y)))
 | .shl,a,b=>do vG b;pure (.i k (<-emit (.shl k a b)))
 | .shr,a,b=>do vG b;pure (.i k (<-emit (.shr k a b)))
 | _,_,_=>M.fail
def My (op:BinOp) (a b:A):M Lf :=
 match op,a,b with
 | .eql,.t x,.t y=>pure (.b (.t (x==y)))
 | .neq,.t x,.t y=>pure (.b (.t (x != y)))
 | .eql,a,b=>do pure (.b (<-emit (.beq a b)))
 | .neq,a,b=>do pure (.b (<-emit (.bne a b)))
 | _,_,_=>M.fail
inductive TK where
 | int (k:IntKind)
 | bool
 | arr (len elem:Nat)
 | struct (fs:List (Nat×Nat))
 | slice (elem:Nat)
 | ptr (elem:Nat)
 | other
 deriving Inhabited
def oB:TypeDesc->TK
 | .int k=>.int k
 | .bool=>.bool
 | .array len elem=>.arr len elem
 | .struct fs=>.struct (fs.toList.map fun f=>(f.offset,f.type))
 | .slice e=>.slice e
 | .pointer e=>.ptr e
 | _=>.other
def tk (P:Program) (t:TypeId):Option TK:=(P.underlying t).map oB
def hM (P:Program) (t:TypeId):Option Nat:=(P.info? t).map (·.size)
def oC:TK->Bool
 | .arr _ _ | .struct _=>true
 | _=>false
def BO:Value->Option Lf
 | .int k n=>some (.i k (.z n))
 | .bool b=>some (.b (.t b))
 | .pointer none=>some .cG
 | .pointer (some _)=>none
 | .agg _=>none
 | .tuple _=>none
 | v=>some (.v v)
def p_ {α β:Type} (f:α->Option β):List α->Option (List β)
 | []=>some []
 | a::l =>
  match f a with
  | none=>none
  | some b =>
   match p_ f l with
   | none=>none
   | some r=>some (b::r)
def QA:Value->Option V1
 | .agg cs=>(p_ BO cs.toList).map .agg
 | v=>(BO v).map .one
def zeroCells (P:Program) (t:TypeId):Option (List Lf) :=
 match P.info? t with
 | none=>none
 | some i =>
  match i.zero with
  | none=>none
  | some z=>p_ BO z.cells.toList
structure aW where
 ins:List V
 hin:List (Option ag)
 lY:List Ty
 out:V
 hout:List (Option ag)
 iK:List Ty
 need:Bool
 deriving Inhabited
def aW.fE (sg:aW):Nat:=sg.lY.length
def Mz:List V1->V
 | [v]=>.s v
 | l=>.t l
def assoc {α:Type} : List (Nat×α)->Nat->Option α
 | [],_=>none
 | (g,s)::r,f=>if Nat.beq f g then some s else assoc r f
structure bN where
 fs:List (Nat×aW)
 gs:List (Nat×List Lf)
 ls:List (Nat×Nat)
 n0:Nat:=0
 hs:List (Nat×LH):=[]
 yB:List Nat:=[]
 deriving Inhabited
def bN.get (l:bN) (f:Nat):Option aW:=assoc l.fs f
def ZM (P:Program) (f:FuncId):Bool :=
 match P.funcs[f]? with
 | some fn => !(fn.name == "runtime.NumGoroutine") && fn.body.isSome
 | none=>false
def St.aj (s:St) (b:Nat):Option ag:=(s.hp[b]?).join
def rG:List (Option Lf)->Nat->Nat->Option (List Lf)
 | _,_,0=>some []
 | [],_,_+1=>none
 | _::l,o+1,n+1=>rG l o (n+1)
 | c::l,0,n+1 =>
  match c with
  | none=>none
  | some x =>
   match rG l 0 n with
   | none=>none
   | some r=>some (x::r)
def Fh:List (Option Lf)->Nat->Option Lf
 | [],_=>none
 | c::_,0=>c
 | _::l,n+1=>Fh l n
def xx (l:List (Option Lf)) (base sz:Nat):Nat->Option (List Lf)
 | 0=>some []
 | n+1 =>
  match Fh l base with
  | none=>none
  | some x =>
   match xx l (base+sz) sz n with
   | none=>none
   | some r=>some (x::r)
def sV (k:IntKind):List Lf->Option (List A)
 | []=>some []
 | .i k' a::l =>
  if m7 k k' then
   match sV k l with
   | none=>none
   | some r=>some (a::r)
  else none
 | _::_=>none
def sW:List Lf->Option (List A)
 | []=>some []
 | .b a::l =>
  match sW l with
  | none=>none
  | some r=>some (a::r)
 | _::_=>none
def rH (t:LT) (a:A) (d:Nat):Nat->List Lf->Bool
 | _,[]=>true
 | i,.e u b j::l=>t.vE u&&b.beq a&&Nat.beq i j&&rH t a d (i+d) l
 | _,_=>false
def Fi (i0:Nat):List Lf->Nat
 | .e _ _ i1::_=>i1-i0
 | _=>1
def MA:Lf->M Lf
 | .e (.int k) a i=>do pure (.i k (<-emit (.lW 1 i a (.z 0))))
 | .e .bool a i=>do pure (.b (<-emit (.kK 1 i a (.z 0))))
 | x=>pure x
def Aa (l:List Lf) (ix:A):M Lf :=
 match l with
 | .i k _::_=>do
  let xs <-M.lift (sV k l)
  pure (.i k (<-emit (.vB xs ix)))
 | .b _::_=>do
  let xs <-M.lift (sW l)
  pure (.b (<-emit (.yq xs ix)))
 | .e (.int k) a i0::r =>
  if rH (.int k) a (Fi i0 r) i0 l then do pure (.i k (<-emit (.lW (Fi i0 r) i0 a ix))) else M.fail
 | .e .bool a i0::r =>
  if rH .bool a (Fi i0 r) i0 l then do pure (.b (<-emit (.kK (Fi i0 r) i0 a ix))) else M.fail
 | _=>M.fail
def Hz (l:List (Option Lf)) (base sz len:Nat) (ix:A):Nat->M (List Lf)
 | 0=>pure []
 | n+1=>do
  let row <-M.lift (xx l base sz len)
  let x <-Aa row ix
  let r <-Hz l (base+1) sz len ix n
  pure (x::r)
def MB (l:List (Option Lf)) (base sz len:Nat) (ix:A) (jI:Nat):Nat->M (List Lf)
 | 0=>pure []
 | n+1=>do
  let row <-M.lift (xx l base sz len)
  let x <-Aa row ix
  let r <-MB l (base+jI) sz len ix jI n
  pure (x::r)
def Fj (cs:List (Option Lf)) (off:bV) (agg:Bool) (size:Nat):M V1 :=
 match off,agg with
 | .c o,true=>do pure (.agg (<-M.lift (rG cs o size)))
 | .c o,false=>do pure (.one (<-MA (<-M.lift (Fh cs o))))
 | .s base ix sz len,true=>do pure (.agg (<-Hz cs base sz len ix size))
 | .s base ix sz len,false=>do
  let row <-M.lift (xx cs base sz len)
  pure (.one (<-Aa row ix))
 | .d base ix sz len hY jI fe,false=>do
  let row <-MB cs base sz len ix jI fe
  pure (.one (<-Aa row hY))
 | _,_=>M.fail
def xy:List (Option Lf)->Nat->List Lf->Option (List (Option Lf))
 | l,_,[]=>some l
 | [],_,_::_=>none
 | c::l,o+1,xs=>(xy l o xs).map (c::·)
 | _::l,0,x::xs=>(xy l 0 xs).map (some x::·)
def Lf.beq:Lf->Lf->Bool
 | .i x1 x2,.i y1 y2=>m7 x1 y1&&x2.beq y2
 | .b x1,.b y1=>x1.beq y1
 | .p x1 x2,.p y1 y2=>Nat.beq x1 y1&&x2.beq y2
 | .gp x1 x2,.gp y1 y2=>Nat.beq x1 y1&&x2.beq y2
 | .cG,.cG=>true
 | .vec x,.vec y=>Nat.beq x y
 | .kL f bs,.kL g cs=>Nat.beq f g&&BM bs cs
 | .fV t q,.fV t' q'=>Nat.beq t t'&&Nat.beq q q'
 | .str x,.str y=>x.beq y
 | .mp q,.mp q'=>Nat.beq q q'
 | .alt a l,.alt a' l'=>a.beq a'&&BL l l'
 | .e t1 a1 j1,.e t2 a2 j2=>t1.vE t2&&a1.beq a2&&Nat.beq j1 j2
 | _,_=>false
def xz:Lf->Option (A×List (Nat×Alt))
 | .cG=>some (.z 0,[(0,.cG)])
 | .v .nilIface=>some (.z 0,[(0,.nu)])
 | .p q (.c n)=>some (.z (1+q*4096+n:Nat),[(1+q*4096+n,.p q n)])
 | .fV t q=>some (.z (1+t:Nat),[(1+t,.fV t q)])
 | .alt a l=>some (a,l)
 | _=>none
def BP:List (Nat×Alt)->List (Nat×Alt)->Option (List (Nat×Alt))
 | [],l'=>some l'
 | x::l,l' =>
  match BP l l' with
  | none=>none
  | some r =>
   match eI r x.1 with
   | none=>some (x::r)
   | some y=>if x.2.beq y then some r else none
def MC (c:A) (x y:Lf):M (Option Lf) :=
 if x.beq y then pure (some x) else
 match x,y with
 | .i k a,.i k' b=>if m7 k k' then do pure (some (.i k (<-yA c a b))) else pure none
 | .b a,.b b=>do pure (some (.b (<-Ff c a b)))
 | _,_=>pure none
def MD (c:A) (x y:Lf):M (Option Lf) :=
 if x.beq y then pure (some x) else
 match x,y with
 | .i k a,.i k' b=>if m7 k k' then do pure (some (.i k (<-yA c a b))) else pure none
 | .b a,.b b=>do pure (some (.b (<-Ff c a b)))
 | x,y =>
  match xz x,xz y with
  | some p,some q =>
   match BP p.2 q.2 with
   | some l=>do pure (some (.alt (<-yA c p.1 q.1) l))
   | none=>pure none
  | _,_=>pure none
def ME (c:A):List Lf->List Lf->M (Option (List Lf))
 | [],[]=>pure (some [])
 | x::l,y::l'=>do
  let a <-MD c x y
  let b <-ME c l l'
  pure (match a,b with
   | some a,some b=>some (a::b)
   | _,_=>none)
 | _,_=>pure none
def MF (c:A) (x y:V1):M (Option V1) :=
 match x,y with
 | .one a,.one b=>do pure ((<-MD c a b).map .one)
 | .agg a,.agg b=>do pure ((<-ME c a b).map .agg)
 | _,_=>pure none
def MG (c:A):List V1->List V1->M (Option (List V1))
 | [],[]=>pure (some [])
 | x::l,y::l'=>do
  let a <-MF c x y
  let b <-MG c l l'
  pure (match a,b with
   | some a,some b=>some (a::b)
   | _,_=>none)
 | _,_=>pure none
def QB (c:A) (x y:V):M (Option V) :=
 match x,y with
 | .s a,.s b=>do pure ((<-MF c a b).map .s)
 | .t a,.t b=>do pure ((<-MG c a b).map .t)
 | _,_=>pure none
def uT (ix:A) (x:Lf):List (Option Lf)->(base sz len j:Nat)->M (List (Option Lf))
 | l,_,_,0,_=>pure l
 | [],_,_,_+1,_=>M.fail
 | c::l,base+1,sz,len+1,j=>do pure (c::(<-uT ix x l base sz (len+1) j))
 | c::l,0,sz,len+1,j =>
  match c with
  | none=>M.fail
  | some old=>do
   let e <-emit (.eql ix (.z j))
   match <-MC e x old with
   | none=>M.fail
   | some y=>do pure (some y::(<-uT ix x l (sz-1) sz len (j+1)))
def QC {α:Type} (p:α->Bool):Option α->Bool
 | some x=>p x
 | none=>false
def QD (t:LT) (x:Lf):Option A :=
 match t,x with
 | .int k,.i k' a=>if m7 k k' then some a else none
 | .bool,.b a=>some a
 | _,_=>none
def rI (a:A) (P0 J0:Nat):Nat->List (Option Lf)->Bool
 | _,[]=>true
 | p,some (.e _ b j)::l=>(!b.beq a||Nat.beq (j+P0) (p+J0))&&rI a P0 J0 (p+1) l
 | p,_::l=>rI a P0 J0 (p+1) l
def qa (a:A):List (Option Lf)->Nat
 | []=>0
 | some (.e _ b j)::l=>if b.beq a then max (j+1) (qa a l) else qa a l
 | _::l=>qa a l
def BQ (a a':A):List (Option Lf)->List (Option Lf)
 | []=>[]
 | some (.e t b j)::l=>some (if b.beq a then .e t a' j else .e t b j)::BQ a a' l
 | c::l=>c::BQ a a' l
def yC (ix:A) (x:Lf) (l:List (Option Lf)) (base sz len:Nat):M (List (Option Lf)) :=
 match xx l base sz len with
 | some (.e t a i0::r) =>
  if rH t a sz i0 (.e t a i0::r)&&rI a base i0 0 l then do
   let v <-M.lift (QD t x)
   let a' <-emit (.yy (qa a l) sz i0 t.ty a ix v)
   pure (BQ a a' l)
  else M.fail
 | _=>uT ix x l base sz len 0
def MH (ix:A):List Lf->List (Option Lf)->(base sz len:Nat)->M (List (Option Lf))
 | [],l,_,_,_=>pure l
 | x::xs,l,base,sz,len=>do
  let l1 <-yC ix x l base sz len
  MH ix xs l1 (base+1) sz len
def ZN:Lf->Bool
 | .e _ _ _=>true
 | _=>false
def MI:List Lf->List (Option Lf)->Nat->M (List (Option Lf))
 | [],l,_=>pure l
 | x::xs,l,o=>do
  let l1 <-(match Fh l o with
   | some (.e _ _ _)=>if ZN x then M.lift (xy l o [x]) else yC (.z 0) x l o 1 1
   | _=>M.lift (xy l o [x]))
  MI xs l1 (o+1)
def QE (cs:List (Option Lf)) (off:bV) (xs:List Lf):M (List (Option Lf)) :=
 match off with
 | .c o=>if cs.any (QC ZN) then MI xs cs o else M.lift (xy cs o xs)
 | .s base ix sz len=>if decide (0<sz) then MH ix xs cs base sz len else M.fail
 | _=>M.fail
def dw {α:Type} (p:α->Bool):Option α->Bool
 | some x=>p x
 | none=>true
def nth {α:Type} : List (Option α)->Nat->Option α
 | [],_=>none
 | x::_,0=>x
 | _::l,n+1=>nth l n
end Go.Sx
namespace Go.Sx
def A.inst (ops:List A):A->A
 | .h j=>ops.getD j default
 | a=>a
def bV.inst (ops:List A):bV->bV
 | .c n=>.c n
 | .s b ix sz len=>.s b (ix.inst ops) sz len
 | .v b ix sz a=>.v b (ix.inst ops) sz (a.inst ops)
 | .d b ix sz len hY jI fe=>.d b (ix.inst ops) sz len (hY.inst ops) jI fe
 | .w b ix sz a hY jI fe=>.w b (ix.inst ops) sz (a.inst ops) (hY.inst ops) jI fe
def Lf.inst (ops:List A):Lf->Lf
 | .i k a=>.i k (a.inst ops)
 | .b a=>.b (a.inst ops)
 | .p aj off=>.p aj (off.inst ops)
 | .gp g off=>.gp g (off.inst ops)
 | .e t1 a1 j1=>.e t1 (a1.inst ops) j1
 | .str a=>.str (a.inst ops)
 | .alt a l=>.alt (a.inst ops) l
 | x=>x
def V1.inst (ops:List A):V1->V1
 | .one l=>.one (l.inst ops)
 | .agg l=>.agg (l.map (Lf.inst ops))
def V.inst (ops:List A):V->V
 | .s v=>.s (v.inst ops)
 | .t l=>.t (l.map (V1.inst ops))
def ag.inst (ops:List A):ag->ag
 | .c o cs=>.c o (cs.map (Option.map (Lf.inst ops)))
 | .v o ts a=>.v o ts (a.inst ops)
 | .obj o k a=>.obj o k (a.inst ops)
 | .l o f ts a=>.l o f ts (a.inst ops)
 | .m o kt vt cs=>.m o kt vt (cs.map (Lf.inst ops))
def eL (n:Nat):Nat->List A
 | 0=>[]
 | k+1=>.r n::eL (n+1) k
structure aV where
 hp:List (Option ag)
 tys:List Ty
 par:List (Nat×Nat)
 ex:Bool
def MJ (j:Nat):Option Lf->Bool
 | some (.vec n)=>Nat.beq n j
 | _=>false
def MK (j:Nat):Option Lf->Bool
 | some (.p n (.c m))=>Nat.beq n j&&Nat.beq m 0
 | _=>false
def rJ (hp : List (Option ag)) (j : Nat) (bk : ag) (q : Nat × Nat) : Bool :=
  Nat.blt q.1 j &&
  (match nth hp q.1 with
   | some (.c _ cs) =>
     (match bk with
      | .v _ _ _ => MJ j (nth cs q.2)
      | .c _ _ => MK j (nth cs q.2)
      | .obj _ _ _ => MK j (nth cs q.2)
      | .l _ _ _ _ => MJ j (nth cs q.2)
      | .m _ _ _ _ => false)
   | _ => false)
def xA (hp:List (Option ag)):Nat->List (Option ag)->List (Nat×Nat)->Bool
 | _,[],_=>true
 | j,some bk::l,q::r=>rJ hp j bk q&&xA hp (j+1) l r
 | _,_,_=>false
def ZO:Option ag->Bool
 | some (.c _ _)=>true
 | _=>false
def ag.ez (k:Nat):ag->Bool
 | .obj _ k' _=>Nat.blt k' k&&!nY k'
 | _=>true
def Lf.nw:Lf->Bool
 | .vec n=>!Nat.beq n 0
 | .kL _ _=>false
 | .fV _ _=>false
 | .mp _=>false
 | .alt _ _=>false
 | _=>true
def ag.nw:ag->Bool
 | .c _ cs=>cs.all (dw Lf.nw)
 | .m _ _ _ cs=>cs.all Lf.nw
 | _=>true
def aV.ok (p:aV):Bool:=ZO (nth p.hp 0)&&xA p.hp 1 (p.hp.drop 1) p.par&&p.hp.all (dw ag.nw)
def ag.b9:ag->ag
 | .c _ cs=>.c false cs
 | .v _ ts a=>.v false ts a
 | .obj _ k a=>.obj false k a
 | .l _ f ts a=>.l false f ts a
 | .m _ kt vt cs=>.m false kt vt cs
def aV.rd (o:Bool) (p:aV):aV:=if o then p else ⟨p.hp.map (Option.map ag.b9),p.tys,p.par,p.ex⟩
def aV.ids (p:aV):aV:=⟨p.hp.map (Option.map (ag.inst (eL 0 p.tys.length))),p.tys,p.par,p.ex⟩
end Go.Sx
namespace Go.Sx
def cI (k:IntKind) (j:Nat):Option Lf:=some (.i k (.h j))
def cB (j:Nat):Option Lf:=some (.b (.h j))
def cV (b:Nat):Option Lf:=some (.vec b)
def cP (b:Nat):Option Lf:=some (.p b (.c 0))
def ML:aV:=⟨[some (.c true [cI .u64 0,cI .u64 1,cI .u64 2])],[.i,.i,.i],[],true⟩
def ZP:Nat->Nat->List (Option Lf)
 | 0,_=>[]
 | n+1,j=>some (.e (.int .i64) (.h 0) j)::some (.e .bool (.h 0) (j+1))::some (.e .bool (.h 0) (j+2))::some (.e .bool (.h 0) (j+3))::some (.e .bool (.h 0) (j+4))::some (.e .bool (.h 0) (j+5))::ZP n (j+6)
def zwg:aV:=⟨[some (.c true (List.append (ZP 9 0) [cI .i64 1,cI .i64 2]))],[.l,.i,.i],[],true⟩
def zuO:aV:=⟨[some (.c true [cI .u64 0,cI .u64 1,cI .u64 2,cV 1,cV 2,cV 3]),some (.v true [.int .u64] (.h 3)),some (.v true [.int .u64] (.h 4)),some (.v true [.int .u64] (.h 5))],
 [.i,.i,.i,.l,.l,.l],[(0,3),(0,4),(0,5)],true⟩
def zwh:aV:=⟨[some (.c true [cV 1,cV 2,cB 2,cB 3,cI .u8 4]),some (.l true false [.int .u8] (.h 0)),some (.l true false [.int .u8] (.h 1))],[.l,.l,.b,.b,.i],[(0,0),(0,1)],false⟩
def zuP:aV:=⟨[some (.c true [cV 1,cV 2,cI .i64 2,cI .u64 3,cI .u64 4,cI .u64 5]),some (.v true [.int .u8] (.h 0)),some (.v true [.int .u8] (.h 1))],[.l,.l,.i,.i,.i,.i],[(0,0),(0,1)],true⟩
def HA:List LT:=[.int .i64,.int .i64,.int .i64,.int .u64]
def zxH:aV:=⟨[some (.c true [cP 1,cP 2,cP 3,cP 4,cI .i64 4,cV 5,cB 6]),some (.obj true 0 (.h 0)),some (.obj true 2 (.h 1)),some (.obj true 4 (.h 2)),some (.obj true 6 (.h 3)),some (.v false HA (.h 5))],
 [.l,.l,.l,.l,.i,.l,.b],[(0,0),(0,1),(0,2),(0,3),(0,5)],false⟩
def zwi:aV:=⟨[some (.c true [cP 1,cP 2,cP 3,cP 4,cI .i64 4,cV 5,cI .i64 6,cB 7]),some (.obj true 1 (.h 0)),some (.obj true 3 (.h 1)),some (.obj true 5 (.h 2)),some (.obj true 7 (.h 3)),some (.v false HA (.h 5))],
 [.l,.l,.l,.l,.i,.l,.i,.b],[(0,0),(0,1),(0,2),(0,3),(0,5)],false⟩
def pats:List aV:=[ML,ML,zwg,zuO,zwh,zuP,zxH,zwi]
end Go.Sx
namespace Go.Sx
def MM:Nat->Bool
 | 0 | 1=>true
 | k+2=>match pats[k]? with
  | some p=>p.ex
  | none=>false
def ag.shr:ag->Bool
 | .obj o k _=>o&&!MM (kb k)
 | .l o _ _ _=>o
 | _=>false
def ag.QF:ag->Bool
 | .obj o k _=>o&&MM (kb k)
 | .l _ _ _ _=>false
 | b=>b.own
def qZ (k:Nat) (p:aV):Bool:=p.ok&&p.hp.all (dw (ag.ez k))&&(!p.ex||p.hp.all (dw ag.QF))
end Go.Sx
namespace Go.Sx
def St.inst (ops:List A) (s:St):St:=⟨s.sl.map (Option.map (V.inst ops)),s.hp.map (Option.map (ag.inst ops))⟩
def A.bn (p:A->Bool) (tys:List Ty) (t:Ty):A->Bool
 | .h j=>dw t.beq tys[j]?&&decide (j<tys.length)
 | a=>p a
def bV.bn (p:A->Bool) (tys:List Ty):bV->Bool
 | .c _=>true
 | .s _ ix _ _=>ix.bn p tys .i
 | .v _ ix _ a=>ix.bn p tys .i&&a.bn p tys .l
 | .d _ ix _ _ hY _ _=>ix.bn p tys .i&&hY.bn p tys .i
 | .w _ ix _ a hY _ _=>(ix.bn p tys .i&&a.bn p tys .l)&&hY.bn p tys .i
def Lf.bn (p:A->Bool) (tys:List Ty):Lf->Bool
 | .i _ a=>a.bn p tys .i
 | .b a=>a.bn p tys .b
 | .p _ off | .gp _ off=>off.bn p tys
 | .e _ a1 _=>a1.bn p tys .l
 | .str a=>a.bn p tys .l
 | .alt a _=>a.bn p tys .i
 | _=>true
def V1.bn (p:A->Bool) (tys:List Ty) (v:V1):Bool:=v.cells.all (Lf.bn p tys)
def V.bn (p:A->Bool) (tys:List Ty):V->Bool
 | .s v=>v.bn p tys
 | .t l=>l.all (V1.bn p tys)
def ag.bn (p:A->Bool) (tys:List Ty):ag->Bool
 | .c _ cs=>cs.all (dw (Lf.bn p tys))
 | .v _ _ a=>a.bn p tys .l
 | .obj _ _ a=>a.bn p tys .l
 | .l _ _ _ a=>a.bn p tys .l
 | .m _ _ _ cs=>cs.all (Lf.bn p tys)
def St.bn (p:A->Bool) (tys:List Ty) (s:St):Bool:=s.sl.all (dw (V.bn p tys))&&s.hp.all (dw (ag.bn p tys))
def vH:Bool->Bool->Bool
 | true,b=>b
 | false,b=>!b
def bz (m:List Nat) (j:Nat):Nat:=m.getD j 0
def tN:Value->Value->Bool
 | .func (.func f) a b,.func (.func g) c d=>Nat.beq f g&&Nat.beq a.size 0&&Nat.beq b.size 0&&Nat.beq c.size 0&&Nat.beq d.size 0
 | .slice none 0 0,.slice none 0 0=>true
 | .nilFunc,.nilFunc=>true
 | .nilIface,.nilIface=>true
 | _,_=>false
def Alt.eR (m:List Nat):Alt->Alt
 | .p q n=>.p (bz m q) n
 | .fV t q=>.fV t (bz m q)
 | x=>x
def Fk (m:List Nat) (l:List (Nat×Alt)):List (Nat×Alt):=l.map fun x=>(x.1,x.2.eR m)
def ZQ (l l':List (Nat×Alt)):Bool:=l.all fun x=>match eI l' x.1 with | some y=>x.2.beq y | none=>false
def QG (m:List Nat) (a:A) (l:List (Nat×Alt)) (y:Lf):Bool :=
 match xz y with
 | some q=>(match y,a with
  | .alt _ _,_=>a.beq q.1
  | _,.z n=>(match q.2 with | [x]=>decide (n=(x.1:Int)) | _=>false)
  | _,_=>false)&&ZQ q.2 (Fk m l)
 | none=>false
def Lf.sub (m:List Nat):Lf->Lf->Bool
 | .i k a,.i k' a'=>m7 k k'&&a.beq a'
 | .b a,.b a'=>a.beq a'
 | .p k off,.p k' off'=>Nat.beq (bz m k) k'&&off.beq off'
 | .gp g off,.gp g' off'=>Nat.beq g g'&&off.beq off'
 | .cG,.cG=>true
 | .vec k,.vec k'=>Nat.beq (bz m k) k'
 | .kL f bs,.kL g cs=>Nat.beq f g&&BM (bs.map (bz m)) cs
 | .fV t q,.fV t' q'=>Nat.beq t t'&&Nat.beq (bz m q) q'
 | .str x,.str y=>x.beq y
 | .mp k,.mp k'=>Nat.beq (bz m k) k'
 | .alt a l,y=>QG m a l y
 | .v x,.v y=>tN x y
 | .e t1 a1 j1,.e t2 a2 j2=>t1.vE t2&&a1.beq a2&&Nat.beq j1 j2
 | _,_=>false
def q_.sub (m:List Nat):List Lf->List Lf->Bool
 | [],[]=>true
 | x::l,y::l'=>x.sub m y&&q_.sub m l l'
 | _,_=>false
def V1.sub (m:List Nat):V1->V1->Bool
 | .one x,.one y=>x.sub m y
 | .agg x,.agg y=>q_.sub m x y
 | _,_=>false
def uU.sub (m:List Nat):List V1->List V1->Bool
 | [],[]=>true
 | x::l,y::l'=>x.sub m y&&uU.sub m l l'
 | _,_=>false
def V.sub (m:List Nat):V->V->Bool
 | .s x,.s y=>x.sub m y
 | .t x,.t y=>uU.sub m x y
 | _,_=>false
def rK (m:List Nat):List (Option V)->List (Option V)->Bool
 | [],[]=>true
 | none::l,_::l'=>rK m l l'
 | some x::l,some y::l'=>x.sub m y&&rK m l l'
 | _,_=>false
def Ab (m:List Nat):List (Option Lf)->List (Option Lf)->Bool
 | [],_=>true
 | none::l,l'=>Ab m l l'.tail
 | some x::l,some y::l'=>x.sub m y&&Ab m l l'
 | some _::_,_=>false
def Ac:List LT->List LT->Bool
 | [],[]=>true
 | .int k::l,.int k'::l'=>m7 k k'&&Ac l l'
 | .bool::l,.bool::l'=>Ac l l'
 | _,_=>false
def LT.beq:LT->LT->Bool
 | .int k,.int k'=>m7 k k'
 | .bool,.bool=>true
 | .vec l,.vec l'=>Ac l l'
 | _,_=>false
def ld.beq:List LT->List LT->Bool
 | [],[]=>true
 | t::l,u::l'=>t.beq u&&ld.beq l l'
 | _,_=>false
def Fl (a b:Bool×Nat):Bool:=vH a.1 b.1&&Nat.beq a.2 b.2
def ag.sub (m:List Nat):ag->ag->Bool
 | .c o cs,.c o' cs'=>(!o||(o'&&Nat.beq cs.length cs'.length))&&Ab m cs cs'
 | .v o ts a,.v o' ts' a'=>(!o||o')&&ld.beq ts ts'&&a.beq a'
 | .obj o k a,.obj o' k' a'=>(!o||o')&&Nat.beq k k'&&a.beq a'
 | .l o f ts a,.l o' f' ts' a'=>(!o||o')&&(!f||f')&&ld.beq ts ts'&&a.beq a'
 | .l o f ts a,.v o' ts' a'=>(!o||o')&&!f&&ld.beq ts ts'&&a.beq a'
 | .v o ts a,.l _ _ ts' a'=>!o&&ld.beq ts ts'&&a.beq a'
 | .m o kt vt cs,.m o' MN MO cs'=>(!o||o')&&Fl kt MN&&Fl vt MO&&q_.sub m cs cs'
 | _,_=>false
def vI (m:List Nat) (hp:List (Option ag)):Nat->List (Option ag)->Bool
 | _,[]=>true
 | j,none::l=>vI m hp (j+1) l
 | j,some x::l=>(match nth hp (bz m j) with | some y=>x.sub m y | none=>false)&&vI m hp (j+1) l
def BR (m:List Nat) (i b:Nat):Nat->List (Option ag)->Bool
 | _,[]=>true
 | j,none::l=>BR m i b (j+1) l
 | j,some _::l=>(Nat.beq j i||!Nat.beq (bz m j) b)&&BR m i b (j+1) l
def Ad (m:List Nat) (all:List (Option ag)):Nat->List (Option ag)->Bool
 | _,[]=>true
 | j,none::l=>Ad m all (j+1) l
 | j,some x::l=>(!x.own||BR m j (bz m j) 0 all)&&Ad m all (j+1) l
def St.sub (m:List Nat) (x y:St):Bool:=rK m x.sl y.sl&&vI m y.hp 0 x.hp&&Ad m x.hp 0 x.hp
def tO (m:List Nat):Nat->Bool
 | 0=>true
 | n+1=>tO m n&&Nat.beq (bz m n) n
structure Gs where
 hs:List (Nat×A)
 ms:List (Nat×Nat)
def gA (g:Gs):A->A->Gs
 | .h j,a=>⟨(j,a)::g.hs,g.ms⟩
 | _,_=>g
def HB (g:Gs):bV->bV->Gs
 | .s _ ix _ _,.s _ BS _ _=>gA g ix BS
 | .v _ ix _ a,.v _ BS _ a'=>gA (gA g ix BS) a a'
 | .d _ ix _ _ hY _ _,.d _ BS _ _ BT _ _=>gA (gA g ix BS) hY BT
 | .w _ ix _ a hY _ _,.w _ BS _ a' BT _ _=>gA (gA (gA g ix BS) a a') hY BT
 | _,_=>g
def MP (g:Gs) (l':List (Nat×Alt)):List (Nat×Alt)->Gs
 | []=>g
 | x::l =>
  match x.2,eI l' x.1 with
  | .p q _,some (.p q' _)=>MP ⟨g.hs,(q,q')::g.ms⟩ l' l
  | .fV _ q,some (.fV _ q')=>MP ⟨g.hs,(q,q')::g.ms⟩ l' l
  | _,_=>MP g l' l
def QH (g:Gs) (a:A) (l:List (Nat×Alt)) (y:Lf):Gs :=
 match xz y with
 | some q=>MP (gA g a q.1) q.2 l
 | none=>g
def QI (g:Gs):Lf->Lf->Gs
 | .i _ a,.i _ b=>gA g a b
 | .b a,.b b=>gA g a b
 | .p pb off,.p b off'=>HB ⟨g.hs,(pb,b)::g.ms⟩ off off'
 | .gp _ off,.gp _ off'=>HB g off off'
 | .kL _ bs,.kL _ cs=>⟨g.hs,bs.zip cs++g.ms⟩
 | .fV _ x,.fV _ y=>⟨g.hs,(x,y)::g.ms⟩
 | .str x,.str y=>gA g x y
 | .vec pb,.vec b=>⟨g.hs,(pb,b)::g.ms⟩
 | .mp pb,.mp b=>⟨g.hs,(pb,b)::g.ms⟩
 | .alt a l,y=>QH g a l y
 | .e _ a _,.e _ b _=>(match a with | .h j=>if (assoc g.hs j).isSome then g else gA g a b | _=>g)
 | _,_=>g
def BU (g:Gs):List Lf->List Lf->Gs
 | x::l,y::l'=>BU (QI g x y) l l'
 | _,_=>g
def ZR (g:Gs):V1->V1->Gs
 | .one x,.one y=>QI g x y
 | .agg x,.agg y=>BU g x y
 | _,_=>g
def HC (g:Gs):List V1->List V1->Gs
 | x::l,y::l'=>HC (ZR g x y) l l'
 | _,_=>g
def gV (g:Gs):V->V->Gs
 | .s x,.s y=>ZR g x y
 | .t x,.t y=>HC g x y
 | _,_=>g
def QJ (g:Gs):List (Option V)->List (Option V)->Gs
 | some x::l,some y::l'=>QJ (gV g x y) l l'
 | _::l,_::l'=>QJ g l l'
 | _,_=>g
def QK (g:Gs):List (Option Lf)->List (Option Lf)->Gs
 | some x::l,some y::l'=>QK (QI g x y) l l'
 | _::l,_::l'=>QK g l l'
 | _,_=>g
def QL (g:Gs):ag->ag->Gs
 | .c _ cs,.c _ cs'=>QK g cs cs'
 | .v _ _ a,.v _ _ a'=>gA g a a'
 | .obj _ _ a,.obj _ _ a'=>gA g a a'
 | .l _ _ _ a,.l _ _ _ a'=>gA g a a'
 | .l _ _ _ a,.v _ _ a'=>gA g a a'
 | .v _ _ a,.l _ _ _ a'=>gA g a a'
 | .m _ _ _ cs,.m _ _ _ cs'=>BU g cs cs'
 | _,_=>g
def HD (hp:List (Option ag)) (g:Gs):Nat->List (Option ag)->Gs
 | _,[]=>g
 | j,none::l=>HD hp g (j+1) l
 | j,some x::l =>
  match nth hp ((assoc g.ms j).getD j) with
  | some y=>HD hp (QL g x y) (j+1) l
  | none=>HD hp g (j+1) l
def ZS (g:Gs) (n:Nat):List A:=(List.range n).map fun j=>(assoc g.hs j).getD default
def zy8 (g:Gs) (n:Nat):List Nat:=(List.range n).map fun j=>(assoc g.ms j).getD j
def oD (n:Nat) (pat act:St):List A×List Nat :=
 let g0:=QJ ⟨[],[]⟩ pat.sl act.sl
 let g1:=HD act.hp g0 0 pat.hp
 let g:=HD act.hp ⟨g0.hs,g1.ms⟩ 0 pat.hp
 (ZS g n,zy8 g pat.hp.length)
structure Js where
 n:Nat
 tys:List Ty
 nb:Nat
 news:List (Option ag)
 lZ:List Nat
 gs:List (A×A×Nat)
 ps:List (Nat×Nat×Nat)
def Js.hole (j:Js) (t:Ty):A×Js:=(.h j.n,⟨j.n+1,t::j.tys,j.nb,j.news,j.lZ,j.gs,j.ps⟩)
def ZT (a b:A):List (A×A×Nat)->Option Nat
 | []=>none
 | x::l=>if x.1.beq a&&x.2.1.beq b then some x.2.2 else ZT a b l
def Js.ZU (j:Js) (a b:A):A×Js :=
 match ZT a b j.gs with
 | some n=>(.h n,j)
 | none=>(.h j.n,⟨j.n+1,.l::j.tys,j.nb,j.news,j.lZ,(a,b,j.n)::j.gs,j.ps⟩)
def Js.vec (j:Js) (o o':Bool) (ts:List LT) (b1 b2:Nat):Lf×Js :=
 (.vec j.nb,⟨j.n+1,.l::j.tys,j.nb+1,some (.v (o&&o') ts (.h j.n))::j.news,(if o then [b1] else [])++(if o' then [b2] else [])++j.lZ,j.gs,j.ps⟩)
def Js.yD (j:Js) (o o' f:Bool) (ts:List LT) (b1 b2:Nat):Lf×Js :=
 (.vec j.nb,⟨j.n+1,.l::j.tys,j.nb+1,some (.l (o&&o') f ts (.h j.n))::j.news,(if o then [b1] else [])++(if o' then [b2] else [])++j.lZ,j.gs,j.ps⟩)
def ZV (b1 b2:Nat):List (Nat×Nat×Nat)->Option Nat
 | []=>none
 | x::l=>if Nat.beq x.1 b1&&Nat.beq x.2.1 b2 then some x.2.2 else ZV b1 b2 l
def Js.obj (j:Js) (o o':Bool) (k:Nat) (b1 b2:Nat):Lf×Js :=
 match ZV b1 b2 j.ps with
 | some q=>(.p q (.c 0),j)
 | none=>(.p j.nb (.c 0),⟨j.n+1,.l::j.tys,j.nb+1,some (.obj (o&&o') k (.h j.n))::j.news,(if o then [b1] else [])++(if o' then [b2] else [])++j.lZ,j.gs,(b1,b2,j.nb)::j.ps⟩)
def QM (x y:St) (a b:Lf):Option (Bool×Bool×Nat×Nat×Nat) :=
 match a,b with
 | .p b1 (.c 0),.p b2 (.c 0) =>
  match nth x.hp b1,nth y.hp b2 with
  | some (.obj o k _),some (.obj o' k' _)=>if Nat.beq k k' then some (o,o',k,b1,b2) else none
  | _,_=>none
 | _,_=>none
def zwj (x y:St) (a b:Lf):Option (Bool×Bool×Nat×Nat×Nat) :=
 match a,b with
 | .alt _ [(1,.p b1 0),(0,.cG)],.alt _ [(1,.p b2 0),(0,.cG)]=>if Nat.beq b1 b2 then none else QM x y (.p b1 (.c 0)) (.p b2 (.c 0))
 | _,_=>none
def QN (x y : St) (js : Js) (a b : Lf) : Option (Lf × Js) :=
  if a.beq b then some (a, js) else
  match a, b with
  | .i k _, .i k' _ => if m7 k k' then let h := js.hole .i; some (.i k h.1, h.2) else none
  | .b _, .b _ => let h := js.hole .b; some (.b h.1, h.2)
  | .vec b1, .vec b2 =>
    match nth x.hp b1, nth y.hp b2 with
    | some (.v o ts _), some (.v o' ts' _) => if ld.beq ts ts' then some (js.vec o o' ts b1 b2) else none
    | some (.l o f ts _), some (.l o' f' ts' _) => if ld.beq ts ts' then some (js.yD o o' (f && f') ts b1 b2) else none
    | some (.l o _ ts _), some (.v o' ts' _) => if ld.beq ts ts' then some (js.yD o o' false ts b1 b2) else none
    | some (.v o ts _), some (.l o' _ ts' _) => if ld.beq ts ts' then some (js.yD o o' false ts b1 b2) else none
    | _, _ => none
  | .v u, .v w => if tN u w then some (a, js) else none
  | .e t1 a1 j1, .e t2 a2 j2 => if t1.vE t2 && Nat.beq j1 j2 then let h := js.ZU a1 a2; some (.e t1 h.1 j1, h.2) else none
  | a, b =>
    match QM x y a b with
    | some (o, o', k, b1, b2) => some (js.obj o o' k b1 b2)
    | none =>
    match zwj x y a b with
    | some (o, o', k, b1, b2) =>
      let h := js.hole .i
      let r := h.2.obj o o' k b1 b2
      (match r.1 with
       | .p q _ => some (.alt h.1 [(1, .p q 0), (0, .cG)], r.2)
       | _ => none)
    | none =>
    match xz a, xz b with
    | some p, some q =>
      match BP p.2 q.2 with
      | some l => let h := js.hole .i; some (.alt h.1 l, h.2)
      | none => none
    | _, _ => none
def QO (x y:St) (js:Js):List Lf->List Lf->Option (List Lf×Js)
 | [],[]=>some ([],js)
 | a::l,b::l' =>
  match QN x y js a b with
  | none=>none
  | some (c,j1) =>
   match QO x y j1 l l' with
   | none=>none
   | some (r,j2)=>some (c::r,j2)
 | _,_=>none
def ZW (x y:St) (js:Js):V1->V1->Option (V1×Js)
 | .one a,.one b=>(QN x y js a b).map fun p=>(.one p.1,p.2)
 | .agg a,.agg b=>(QO x y js a b).map fun p=>(.agg p.1,p.2)
 | _,_=>none
def ZX (x y:St) (js:Js):List V1->List V1->Option (List V1×Js)
 | [],[]=>some ([],js)
 | a::l,b::l' =>
  match ZW x y js a b with
  | none=>none
  | some (c,j1) =>
   match ZX x y j1 l l' with
   | none=>none
   | some (r,j2)=>some (c::r,j2)
 | _,_=>none
def zy9 (x y:St) (js:Js):V->V->Option (V×Js)
 | .s a,.s b=>(ZW x y js a b).map fun p=>(.s p.1,p.2)
 | .t a,.t b=>(ZX x y js a b).map fun p=>(.t p.1,p.2)
 | _,_=>none
def MQ (x y:St) (js:Js):List (Option V)->List (Option V)->List (Option V)×Js
 | some a::l,some b::l' =>
  match zy9 x y js a b with
  | some (c,j1)=>let r:=MQ x y j1 l l';(some c::r.1,r.2)
  | none=>let r:=MQ x y js l l';(none::r.1,r.2)
 | _::l,_::l'=>let r:=MQ x y js l l';(none::r.1,r.2)
 | l,_=>(l.map fun _=>none,js)
def MR (x y:St) (js:Js):List (Option Lf)->List (Option Lf)->List (Option Lf)×Js
 | some a::l,some b::l' =>
  match QN x y js a b with
  | some (c,j1)=>let r:=MR x y j1 l l';(some c::r.1,r.2)
  | none=>let r:=MR x y js l l';(none::r.1,r.2)
 | _::l,_::l'=>let r:=MR x y js l l';(none::r.1,r.2)
 | l,_=>(l.map fun _=>none,js)
def zwk (x y:St) (js:Js):ag->ag->Option (ag×Js)
 | .c o cs,.c o' cs'=>if Nat.beq cs.length cs'.length then let r:=MR x y js cs cs';some (.c (o&&o') r.1,r.2) else none
 | .v o ts a,.v o' ts' a' =>
  if ld.beq ts ts' then
   if a.beq a' then some (.v (o&&o') ts a,js) else let h:=js.hole .l;some (.v (o&&o') ts h.1,h.2)
  else none
 | .obj o k a,.obj o' k' a' =>
  if Nat.beq k k' then
   if a.beq a' then some (.obj (o&&o') k a,js) else let h:=js.hole .l;some (.obj (o&&o') k h.1,h.2)
  else none
 | .l o f ts a,.l o' f' ts' a' =>
  if ld.beq ts ts' then
   if a.beq a' then some (.l (o&&o') (f&&f') ts a,js) else let h:=js.hole .l;some (.l (o&&o') (f&&f') ts h.1,h.2)
  else none
 | .m o kt vt cs,.m o' MN MO cs'=>if Fl kt MN&&Fl vt MO then (QO x y js cs cs').map fun r=>(.m (o&&o') kt vt r.1,r.2) else none
 | _,_=>none
def MS (x y:St) (js:Js):List (Option ag)->List (Option ag)->List (Option ag)×Js
 | some a::l,some b::l' =>
  match zwk x y js a b with
  | some (c,j1)=>let r:=MS x y j1 l l';(some c::r.1,r.2)
  | none=>let r:=MS x y js l l';(none::r.1,r.2)
 | _::l,_::l'=>let r:=MS x y js l l';(none::r.1,r.2)
 | l,[]=>(l.map fun _=>none,js)
 | [],l'=>(l'.map fun _=>none,js)
def cJ (n:Nat):List Nat->Bool
 | []=>false
 | x::l=>Nat.beq x n||cJ n l
def QS (ks:List Nat):Nat->List (Option ag)->List (Option ag)
 | _,[]=>[]
 | j,x::l=>(if cJ j ks then none else x)::QS ks (j+1) l
structure ny where
 st:St
 tys:List Ty
def ZY (x y:St):ny :=
 let s:=MQ x y ⟨0,[],max x.hp.length y.hp.length,[],[],[],[]⟩ x.sl y.sl
 let h:=MS x y s.2 x.hp y.hp
 ⟨⟨s.1,QS h.2.lZ 0 h.1++h.2.news.reverse⟩,h.2.tys.reverse⟩
def yE (c:A):List Ty->List A->List A->M (List A)
 | .i::ts,a::l,b::l'=>do
  let x <-yA c a b
  let r <-yE c ts l l'
  pure (x::r)
 | .b::ts,a::l,b::l'=>do
  let x <-Ff c a b
  let r <-yE c ts l l'
  pure (x::r)
 | .l::ts,a::l,b::l'=>do
  let x <-Qy c a b
  let r <-yE c ts l l'
  pure (x::r)
 | [],[],[]=>pure []
 | _,_,_=>M.fail
def BV (n0:Nat) (c:A) (x y:St):M St :=
 let p:=ZY x y
 let gx:=oD p.tys.length p.st x
 let gy:=oD p.tys.length p.st y
 if p.st.bn (fun _=>true) p.tys&&(p.st.inst gx.1).sub gx.2 x&&(p.st.inst gy.1).sub gy.2 y&&tO gx.2 n0&&tO gy.2 n0&&Nat.ble n0 p.st.hp.length then do
  let ops <-yE c p.tys gx.1 gy.1
  pure (p.st.inst ops)
 else M.fail
def QT (s:St) (nf:Bool) (js:Js):Lf->Option (Lf×Js)
 | .i k _=>let h:=js.hole .i;some (.i k h.1,h.2)
 | .b _=>let h:=js.hole .b;some (.b h.1,h.2)
 | .vec b =>
  match nth s.hp b with
  | some (.v o ts _)=>some (js.vec o (o&&!nf) ts b b)
  | some (.l o f ts _)=>some (js.yD o (o&&!nf) f ts b b)
  | _=>none
 | .e t1 a1 j1=>let h:=js.ZU a1 a1;some (.e t1 h.1 j1,h.2)
 | a =>
  match QM s s a a with
  | some (o,o',k,b1,b2)=>some (js.obj o o' k b1 b2)
  | none=>none
def ZZ (s:St) (js:Js):List Lf->Option (List Lf×Js)
 | []=>some ([],js)
 | a::l =>
  match QT s false js a with
  | none=>none
  | some (c,j1) =>
   match ZZ s j1 l with
   | none=>none
   | some (r,j2)=>some (c::r,j2)
def zxI (s:St) (nf:Bool) (js:Js):V->Option (V×Js)
 | .s (.one a)=>(QT s nf js a).map fun p=>(.s (.one p.1),p.2)
 | .s (.agg l)=>(ZZ s js l).map fun p=>(.s (.agg p.1),p.2)
 | .t _=>none
def zst (es:List St) (t:Nat):Bool:=es.any fun e =>
 match nth e.sl t with
 | some (.s (.one (.vec b)))=>(match nth e.hp b with | some (.v o _ _)=>!o | _=>false)
 | _=>false
def MT (s:St) (fz:List Nat) (D:List Nat):Nat->Js->List (Option V)->List (Option V)×Js
 | _,js,[]=>([],js)
 | t,js,x::l =>
  if cJ t D then
   match x.bind (zxI s (cJ t fz) js) with
   | some (y,j1)=>let r:=MT s fz D (t+1) j1 l;(some y::r.1,r.2)
   | none=>let r:=MT s fz D (t+1) js l;(none::r.1,r.2)
  else let r:=MT s fz D (t+1) js l;(x::r.1,r.2)
def cellsOf:Option ag->List (Option Lf)
 | some (.c _ cs)=>cs
 | _=>[]
def zuS (x:Lf):Option Lf->Bool
 | some y=>x.beq y||(match x,y with | .v u,.v w=>tN u w | _,_=>false)
 | none=>false
def Z0 (i:Nat):List (Nat×Nat)->Bool
 | []=>false
 | r::l=>(Nat.ble r.1 i&&Nat.blt i (r.1+r.2))||Z0 i l
def HE (s:St) (rs:List (Nat×Nat)):Nat->Js->List (Option Lf)->List (Option Lf)×Js
 | _,js,[]=>([],js)
 | i,js,x::l =>
  match x with
  | none=>let r:=HE s rs (i+1) js l;(none::r.1,r.2)
  | some a =>
   if Z0 i rs then
    match QT s false js a with
    | some (y,j1)=>let r:=HE s rs (i+1) j1 l;(some y::r.1,r.2)
    | none=>let r:=HE s rs (i+1) js l;(none::r.1,r.2)
   else let r:=HE s rs (i+1) js l;(some a::r.1,r.2)
def vJ (s:St) (h:LH):Nat->Js->List (Option ag)->List (Option ag)×Js
 | _,js,[]=>([],js)
 | j,js,x::l =>
  match x with
  | some (.c o cs) =>
   match assoc h.cs j with
   | none=>let r:=vJ s h (j+1) js l;(some (.c o cs)::r.1,r.2)
   | some rs=>let u:=HE s rs 0 js cs;let r:=vJ s h (j+1) u.2 l;(some (.c o u.1)::r.1,r.2)
  | some (.v o ts a) =>
   if cJ j h.vs then let u:=js.hole .l;let r:=vJ s h (j+1) u.2 l;(some (.v o ts u.1)::r.1,r.2)
   else let r:=vJ s h (j+1) js l;(some (.v o ts a)::r.1,r.2)
  | some (.obj o k a) =>
   if cJ j h.vs then let u:=js.hole .l;let r:=vJ s h (j+1) u.2 l;(some (.obj o k u.1)::r.1,r.2)
   else let r:=vJ s h (j+1) js l;(some (.obj o k a)::r.1,r.2)
  | some (.l o f ts a) =>
   if cJ j h.vs then let u:=js.hole .l;let r:=vJ s h (j+1) u.2 l;(some (.l o f ts u.1)::r.1,r.2)
   else let r:=vJ s h (j+1) js l;(some (.l o f ts a)::r.1,r.2)
  | some (.m o kt vt cs)=>let r:=vJ s h (j+1) js l;(some (.m o kt vt cs)::r.1,r.2)
  | none=>let r:=vJ s h (j+1) js l;(none::r.1,r.2)
def Z1 (D:List Nat) (h:LH) (s:St):ny :=
 let u:=MT s h.fz D 0 ⟨0,[],s.hp.length,[],[],[],[]⟩ s.sl
 let h:=vJ s h 0 u.2 s.hp
 ⟨⟨u.1,QS h.2.lZ 0 h.1++h.2.news.reverse⟩,h.2.tys.reverse⟩
def zwm (i:Nat):List (Nat×Nat)->List (Nat×Nat)
 | (b,n)::l=>if Nat.beq b (i+1) then (i,n+1)::l else (i,1)::(b,n)::l
 | []=>[(i,1)]
def MU (es:List (List (Option Lf))):Nat->List (Option Lf)->List (Nat×Nat)
 | _,[]=>[]
 | i,x::l =>
  match x with
  | none=>MU (es.map List.tail) (i+1) l
  | some a=>if es.all (fun e=>zuS a e.head?.join) then MU (es.map List.tail) (i+1) l else zwm i (MU (es.map List.tail) (i+1) l)
def Z2 (es:List St):Nat->List (Option ag)->List (Nat×List (Nat×Nat))×List Nat
 | _,[]=>([],[])
 | j,x::l =>
  let r:=Z2 es (j+1) l
  match x with
  | some (.c _ cs) =>
   match MU (es.map fun e=>cellsOf (nth e.hp j)) 0 cs with
   | []=>r
   | rs=>((j,rs)::r.1,r.2)
  | some (.v _ _ a)=>if es.all (fun e=>match nth e.hp j with | some (.v _ _ a')=>a.beq a' | _=>false) then r else (r.1,j::r.2)
  | some (.obj _ _ a)=>if es.all (fun e=>match nth e.hp j with | some (.obj _ _ a')=>a.beq a' | _=>false) then r else (r.1,j::r.2)
  | some (.l _ _ _ a)=>if es.all (fun e=>match nth e.hp j with | some (.l _ _ _ a')=>a.beq a' | _=>false) then r else (r.1,j::r.2)
  | some (.m _ _ _ _)=>r
  | none=>r
def QU (uR:List (Nat×List LT)) (D:List Nat) (es:List St) (s:St):LH :=
 let r:=Z2 es 0 s.hp
 ⟨uR,D.filter (zst es),r.1,r.2⟩
end Go.Sx
namespace Go.Sx
structure GE where
 t:Nat
 v:V
 d:Nat
 want:Bool
structure RS where
 st:St
 gl:List GE
def eg {α:Type} (v:α):List α->Nat->List α
 | [],_=>[]
 | _::l,0=>v::l
 | x::l,n+1=>x::eg v l n
def jt:Bool->Bool->Bool
 | true,b=>b
 | false,b=>!b
abbrev Ctx:=List (Nat×Bool)
def Ctx.has:Ctx->Nat->Bool->Bool
 | [],_,_=>false
 | (d,w)::r,d',w'=>(Nat.beq d d'&&jt w w')||Ctx.has r d' w'
def HF (ctx:Ctx) (t:Nat):List GE->Option V
 | []=>none
 | e::r=>if Nat.beq e.t t&&ctx.has e.d e.want then some e.v else HF ctx t r
def RS.slot (r:RS) (ctx:Ctx) (t:Nat):Option V :=
 match nth r.st.sl t with
 | some v=>some v
 | none=>HF ctx t r.gl
def rd (r:RS) (ctx:Ctx):Operand->Option V
 | .tmp t=>r.slot ctx t
 | .const v=>(QA v).map .s
 | .func f=>some (.s (.one (.v (.func (.func f) #[] #[]))))
 | .global g=>some (.s (.one (.gp g (.c 0))))
def Fm (t:Nat):List GE->Option GE
 | []=>none
 | e::r=>if Nat.beq e.t t then some e else Fm t r
def BW (r:RS):Nat->Nat->Bool->Option (Option (Ctx×List (A×Bool)))
 | 0,_,_=>none
 | n+1,d,want =>
  match nth r.st.sl d with
  | some (.s (.one (.b (.t x))))=>if jt x want then some (some ([],[])) else some none
  | some (.s (.one (.b a)))=>some (some ([(d,want)],[(a,want)]))
  | some (.s (.one (.v (.tuple _))))=>some none
  | some _=>none
  | none =>
   match Fm d r.gl with
   | some e =>
    match e.v with
    | .s (.one (.b a)) =>
     match BW r n e.d e.want with
     | some (some (ctx,cs)) =>
      match a with
      | .t x=>if jt x want then some (some ((d,want)::ctx,cs)) else some none
      | a=>some (some ((d,want)::ctx,(a,want)::cs))
     | some none=>some none
     | none=>none
    | _=>none
   | none=>none
def sX:V:=.s (.one (.v (.tuple #[])))
def HG {α:Type} : List (A×Bool)->M α->M α
 | [],x=>x
 | (c,b)::r,x=>under c b (HG r x)
inductive OR where
 | val (v:V)
 | hp (v:Option V) (hp:List (Option ag))
def Ae (ix:A) (len:Nat):M Unit:=do
 lX (<-emit (.geq ix (.z 0)))
 lX (<-emit (.lss ix (.z len)))
def yF (P:Program) (t:TypeId) (cs:List Lf) (off:Nat):M V1:=do
 let k <-M.lift (tk P t)
 let sz <-M.lift (hM P t)
 if oC k then
  pure (.agg (<-M.lift (rG (cs.map some) off sz)))
 else pure (.one (<-MA (<-M.lift (Fh (cs.map some) off))))
def QV:Lf->Lf->Bool
 | .i k a,.i k' b=>m7 k k'&&a.beq b
 | .b a,.b b=>a.beq b
 | .e (.int k) a i,.e (.int k') b j=>m7 k k'&&a.beq b&&Nat.beq i j
 | .e .bool a i,.e .bool b j=>a.beq b&&Nat.beq i j
 | _,_=>false
def Fo:List Lf->List Lf->Bool
 | [],[]=>true
 | x::l,y::l'=>QV x y&&Fo l l'
 | _,_=>false
def MW (P:Program) (eq:TypeId->V1->V1->M A) (elem:TypeId) (sz:Nat) (xs ys:List Lf) (i:Nat):Nat->M A
 | 0=>pure (.t true)
 | n+1=>do
  let a <-yF P elem xs (i*sz)
  let b <-(if Fo xs ys then pure a else yF P elem ys (i*sz))
  let e <-eq elem a b
  let r <-MW P eq elem sz xs ys (i+1) n
  Hy e r
def MX (P:Program) (eq:TypeId->V1->V1->M A) (xs ys:List Lf):List (Nat×Nat)->M A
 | []=>pure (.t true)
 | f::fs=>do
  let a <-yF P f.2 xs f.1
  let b <-(if Fo xs ys then pure a else yF P f.2 ys f.1)
  let e <-eq f.2 a b
  let r <-MX P eq xs ys fs
  Hy e r
def tP (P:Program):Nat->TypeId->V1->V1->M A
 | 0,_,_,_=>M.fail
 | d+1,t,x,y=>do
  let k <-M.lift (tk P t)
  match k,x,y with
  | .int _,.one (.i ka a),.one (.i kb b) =>
   if m7 ka kb then
    match a,b with
    | .z m,.z n=>pure (.t (m==n))
    | a,b=>if a.beq b then pure (.t true) else emit (.eql a b)
   else M.fail
  | .bool,.one (.b a),.one (.b b) =>
   match a,b with
   | .t m,.t n=>pure (.t (m==n))
   | a,b=>if a.beq b then pure (.t true) else emit (.beq a b)
  | .arr len elem,.agg xs,.agg ys=>do
   let sz <-M.lift (hM P elem)
   MW P (tP P d) elem sz xs ys 0 len
  | .struct fs,.agg xs,.agg ys =>
   if P.stoodInHeld t then M.fail
   else if (P.fieldsOf t).toList.all (fun f => f.name != "_") then MX P (tP P d) xs ys fs else M.fail
  | _,_,_=>M.fail
def QW (c:A) (x y:V):M V:=do
 match <-QB c x y with
 | some v=>pure v
 | none=>M.fail
def Alt.isNil:Alt->Bool
 | .cG | .nu=>true
 | _=>false
def nZ (l:List (Nat×Alt)):Nat :=
 match l.find? (fun x=>x.2.isNil) with
 | some x=>x.1
 | none=>0
def BX (iface:Bool) (key:Nat) (l:List (Nat×Alt)):Bool:=l.all fun x =>
 match x.2,iface with
 | .cG,false=>Nat.beq x.1 key
 | .nu,true=>Nat.beq x.1 key
 | .p _ _,false=>!Nat.beq x.1 key
 | .fV _ _,true=>!Nat.beq x.1 key
 | _,_=>false
def BY (iface:Bool) (neg:Bool) (a:A) (l:List (Nat×Alt)):M Lf :=
 if BX iface (nZ l) l then do
  let c <-emit (if neg then .neq a (.z (nZ l)) else .eql a (.z (nZ l)))
  pure (.b c)
 else M.fail
def HH (a:A) (q:Nat):List (Nat×Alt)->M A
 | []=>M.fail
 | [x] =>
  match x.2 with
  | .p q' n=>if Nat.beq q q' then pure (.z n) else M.fail
  | _=>M.fail
 | x::l =>
  match x.2 with
  | .p q' n =>
   if Nat.beq q q' then do
    let c <-emit (.eql a (.z x.1))
    let r <-HH a q l
    yA c (.z n) r
   else M.fail
  | _=>M.fail
def Af:List (Nat×Alt)->Nat
 | []=>0
 | x::l =>
  match x.2 with
  | .p _ n=>max (n+1) (Af l)
  | _=>Af l
def QX (a:A) (l:List (Nat×Alt)):M Lf :=
 if BX false (nZ l) l then do
  let c <-emit (.neq a (.z (nZ l)))
  lX c
  match l.filter fun x=>!x.2.isNil with
  | []=>M.fail
  | x::r =>
   match x.2 with
   | .p q _=>do
    let ix <-HH a q (x::r)
    pure (.p q (.s 0 ix 1 (Af (x::r))))
   | _=>M.fail
 else M.fail
def yG:Lf->M A
 | .str a=>pure a
 | .v (.string s)=>emit (.sR (s.data.toList.map fun _=>.i) (s.data.toList.map fun b=>.z b.toNat))
 | _=>M.fail
def QY (op:BinOp) (x y:Lf):M V:=do
 let a <-yG x
 let b <-yG y
 let q <-emit (.yz a b)
 match op with
 | .eql=>pure (.s (.one (.b q)))
 | .neq=>do pure (.s (.one (.b (<-BN q))))
 | _=>M.fail
def QZ (P:Program) (op:BinOp) (t:TypeId) (x y:V):M V :=
 match op,x,y with
 | .shl,.s (.one (.i k a)),.s (.one (.i _ b))=>do pure (.s (.one (<-Mx .shl k a b)))
 | .shr,.s (.one (.i k a)),.s (.one (.i _ b))=>do pure (.s (.one (<-Mx .shr k a b)))
 | op,.s (.one (.i k a)),.s (.one (.i k' b))=>if m7 k k' then do pure (.s (.one (<-Qz op k a b))) else M.fail
 | .eql,.s (.one (.b a)),.s (.one (.b b))=>do
  match <-M.lift (tk P t) with
  | .bool=>pure (.s (.one (<-My .eql a b)))
  | _=>M.fail
 | .neq,.s (.one (.b a)),.s (.one (.b b))=>do
  match <-M.lift (tk P t) with
  | .bool=>pure (.s (.one (<-My .neq a b)))
  | _=>M.fail
 | .eql,.s (.one (.p _ _)),.s (.one .cG)=>do
  match <-M.lift (tk P t) with
  | .ptr _=>pure (.s (.one (.b (.t false))))
  | _=>M.fail
 | .neq,.s (.one (.p _ _)),.s (.one .cG)=>do
  match <-M.lift (tk P t) with
  | .ptr _=>pure (.s (.one (.b (.t true))))
  | _=>M.fail
 | .eql,.s (.one .cG),.s (.one .cG)=>do
  match <-M.lift (tk P t) with
  | .ptr _=>pure (.s (.one (.b (.t true))))
  | _=>M.fail
 | .neq,.s (.one .cG),.s (.one .cG)=>do
  match <-M.lift (tk P t) with
  | .ptr _=>pure (.s (.one (.b (.t false))))
  | _=>M.fail
 | .eql,.s (.one (.alt a l)),.s (.one .cG)=>do
  match <-M.lift (tk P t) with
  | .ptr _=>do pure (.s (.one (<-BY false false a l)))
  | _=>M.fail
 | .neq,.s (.one (.alt a l)),.s (.one .cG)=>do
  match <-M.lift (tk P t) with
  | .ptr _=>do pure (.s (.one (<-BY false true a l)))
  | _=>M.fail
 | .eql,.s (.agg a),.s (.agg b) =>
  if P.eqGuardType P.depth t then M.fail else do pure (.s (.one (.b (<-tP P 8 t (.agg a) (.agg b)))))
 | .neq,.s (.agg a),.s (.agg b) =>
  if P.eqGuardType P.depth t then M.fail else do pure (.s (.one (.b (<-BN (<-tP P 8 t (.agg a) (.agg b))))))
 | op,.s (.one x),.s (.one y)=>QY op x y
 | _,_,_=>M.fail
def BZ (op:UnOp) (x:Lf):M Lf :=
 match op,x with
 | .neg,.i k (.z n)=>pure (.i k (.z (k.wrap (0-n))))
 | .neg,.i k a=>do pure (.i k (<-emit (.sub k (.z 0) a)))
 | .xor,.i k (.z n)=>pure (.i k (.z (BK k (if k.signed then -1 else k.max) n)))
 | .xor,.i k a=>do pure (.i k (<-emit (.vz k (.z (if k.signed then -1 else k.max)) a)))
 | .not,.b a=>do pure (.b (<-BN a))
 | _,_=>M.fail
def Q0 (P:Program) (src dst:TypeId) (x:Lf):M Lf:=do
 let _ <-M.lift (tk P src)
 match <-M.lift (tk P dst),x with
 | .int k,.i _ (.z n)=>pure (.i k (.z (k.wrap n)))
 | .int k,.i _ a=>do pure (.i k (<-emit (.conv k a)))
 | _,_=>M.fail
def Q1 (P:Program) (t:TypeId) (x ix:Lf):M Lf:=do
 match <-M.lift (tk P t),x,ix with
 | .arr len elem,.p aj off,.i _ a=>do
  let sz <-M.lift (hM P elem)
  match a with
  | .z n =>
   if 0<=n/\n<len then pure (.p aj (off.plus (n.toNat*sz))) else M.fail
  | a =>
   match off with
   | .c o=>do
    Ae a len
    pure (.p aj (.s o a sz len))
   | .s o HI HJ HK=>do
    Ae a len
    pure (.p aj (.d o HI HJ HK a sz len))
   | .v o HI HJ a0=>do
    Ae a len
    pure (.p aj (.w o HI HJ a0 a sz len))
   | _=>M.fail
 | .arr len elem,.gp g off,.i _ a=>do
  let sz <-M.lift (hM P elem)
  match a with
  | .z n =>
   if 0<=n/\n<len then pure (.gp g (off.plus (n.toNat*sz))) else M.fail
  | a =>
   match off with
   | .c o=>do
    Ae a len
    pure (.gp g (.s o a sz len))
   | _=>M.fail
 | _,_,_=>M.fail
def Q2 (P:Program) (t:TypeId) (x:List Lf) (ix:Lf):M V1:=do
 match <-M.lift (tk P t),ix with
 | .arr len elem,.i _ a=>do
  let k <-M.lift (tk P elem)
  let sz <-M.lift (hM P elem)
  match a with
  | .z n =>
   if 0<=n/\n<len then yF P elem x (n.toNat*sz) else M.fail
  | a=>do
   Ae a len
   if oC k then pure (.agg (<-Hz (x.map some) 0 sz len a sz))
   else do
    let row <-M.lift (xx (x.map some) 0 sz len)
    pure (.one (<-Aa row a))
 | _,_=>M.fail
def Q3 (P:Program) (t:TypeId) (x:List Lf) (f:Nat):M V1:=do
 match <-M.lift (tk P t) with
 | .struct fs=>do
  let fd <-M.lift fs[f]?
  yF P fd.2 x fd.1
 | _=>M.fail
def Q4 (P:Program) (t:TypeId) (x:Lf) (f:Nat):M Lf:=do
 match <-M.lift (tk P t),x with
 | .struct fs,.p aj off=>do
  let fd <-M.lift fs[f]?
  let sz <-M.lift (hM P fd.2)
  if Nat.beq sz 0 then M.fail else pure (.p aj (off.plus fd.1))
 | .struct fs,.gp g off=>do
  let fd <-M.lift fs[f]?
  let sz <-M.lift (hM P fd.2)
  if Nat.beq sz 0 then M.fail else pure (.gp g (off.plus fd.1))
 | _,_=>M.fail
def oE (r:RS) (ctx:Ctx):List Operand->Option (List V)
 | []=>some []
 | x::xs =>
  match rd r ctx x with
  | none=>none
  | some v =>
   match oE r ctx xs with
   | none=>none
   | some vs=>some (v::vs)
def yH (r:RS) (ctx:Ctx):List (Nat×Operand)->Option (List (Nat×V1))
 | []=>some []
 | x::xs =>
  match rd r ctx x.2 with
  | some (.s v) =>
   match yH r ctx xs with
   | none=>none
   | some vs=>some ((x.1,v)::vs)
  | _=>none
def Ag:List Lf->Nat->List Lf->List Lf
 | cs,_,[]=>cs
 | cs,o,c::l=>Ag (cs.set o c) (o+1) l
def tQ (place:Nat->Option (Nat×Nat)):List Lf->List (Nat×V1)->Option (List Lf)
 | cs,[]=>some cs
 | cs,p::rest =>
  match place p.1 with
  | none=>none
  | some (o,sz)=>if Nat.beq p.2.cells.length sz&&Nat.ble (o+p.2.cells.length) cs.length&&p.2.cells.all Lf.ok then tQ place (Ag cs o p.2.cells) rest else none
def MY (P:Program) (t:TypeId) (parts:List (Nat×V1)):Option (List Lf) :=
 match zeroCells P t with
 | none=>none
 | some z =>
  match tk P t with
  | some (.struct fs) =>
   match p_ (fun f:Nat×TypeId=>(hM P f.2).map fun n=>(f.1,n)) fs with
   | none=>none
   | some places=>tQ (fun i=>places[i]?) z parts
  | some (.arr _ elem) =>
   match hM P elem with
   | none=>none
   | some sz=>tQ (fun i=>some (i*sz,sz)) z parts
  | _=>none
def ag.lt (n:Nat):ag->Bool
 | .c _ cs=>cs.all (dw (Lf.lt n))
 | .v _ _ _=>true
 | .obj _ _ _=>true
 | .l _ _ _ _=>true
 | .m _ _ _ cs=>cs.all (Lf.lt n)
def Lf.eR (m:List Nat):Lf->Lf
 | .p k off=>.p (bz m k) off
 | .vec k=>.vec (bz m k)
 | .kL f bs=>.kL f (bs.map (bz m))
 | .fV t q=>.fV t (bz m q)
 | .mp k=>.mp (bz m k)
 | .alt a l=>.alt a (Fk m l)
 | x=>x
def V1.eR (m:List Nat):V1->V1
 | .one x=>.one (x.eR m)
 | .agg l=>.agg (l.map (Lf.eR m))
def V.eR (m:List Nat):V->V
 | .s v=>.s (v.eR m)
 | .t l=>.t (l.map (V1.eR m))
def ag.eR (m:List Nat):ag->ag
 | .c o cs=>.c o (cs.map (Option.map (Lf.eR m)))
 | .v o ts a=>.v o ts a
 | .obj o k a=>.obj o k a
 | .l o f ts a=>.l o f ts a
 | .m o kt vt cs=>.m o kt vt (cs.map (Lf.eR m))
def HM (fid:Nat) (args:List A):Nat->Nat->M (List A)
 | _,0=>pure []
 | j,n+1=>do
  let a <-emit (.call fid args j)
  let r <-HM fid args (j+1) n
  pure (a::r)
def stays (hin:List (Option ag)) (j:Nat):Bool :=
 match nth hin j with
 | some (.c _ _)=>true
 | some (.obj _ _ _)=>true
 | some (.v o _ _)=>o
 | _=>false
def vK (hin:List (Option ag)) (m:List Nat) (n:Nat) (k:Nat):List Nat:=(List.range k).map fun j=>if stays hin j then bz m j else n+j
def rL (hin hout:List (Option ag)) (m m1:List Nat) (pL:Bool):Nat->Nat->List (Option ag)->List (Option ag)
 | 0,_,hp=>hp
 | k+1,j,hp =>
  match nth hin j with
  | none=>rL hin hout m m1 pL k (j+1) hp
  | some x =>
   if x.own then
    let y:Option ag:=if stays hin j then (nth hout j).map (ag.eR m1) else none
    rL hin hout m m1 pL k (j+1) (eg y hp (bz m j))
   else if pL then rL hin hout m m1 pL k (j+1) (eg ((nth hp (bz m j)).map ag.b9) hp (bz m j))
   else rL hin hout m m1 pL k (j+1) hp
def Ah (hin:List (Option ag)) (m1:List Nat):Nat->List (Option ag)->List (Option ag)
 | _,[]=>[]
 | j,x::l=>(if stays hin j then none else x.map (ag.eR m1))::Ah hin m1 (j+1) l
def pM (hin:List (Option ag)):Nat->List (Option ag)->Bool
 | _,[]=>false
 | j,x::l=>(match x with | some y=>(!y.own&&!stays hin j)||y.shr | none=>false)||pM hin (j+1) l
def vL : List (Option ag) -> List (Option ag) -> Bool
  | some x :: l, some y :: l' =>
    (match x, y with
     | .obj o k _, .obj o' k' _ => (!o || o') && Nat.beq k k'
     | .obj _ _ _, _ => false
     | .c _ _, .obj _ _ _ => false
     | .c _ _, .l _ _ _ _ => false
     | .c _ _, .m _ _ _ _ => false
     | .v o _ _, .v o' _ _ => !o || o'
     | .v o _ _, _ => !o
     | _, _ => true) && vL l l'
  | _ :: l, _ :: l' => vL l l'
  | _, _ => true
def A.const:A->Bool
 | .z _ | .t _=>true
 | _=>false
def LT.flat:LT->Bool
 | .vec _=>false
 | _=>true
def ag.flat:ag->Bool
 | .v _ ts _=>ts.all LT.flat
 | .c _ _=>true
 | .obj _ _ _=>true
 | .l _ _ ts _=>ts.all LT.flat
 | .m _ _ _ _=>true
def Lf.ep:Lf->Bool
 | .p _ (.c _) | .gp _ (.c _)=>true
 | .p _ _ | .gp _ _ | .alt _ _=>false
 | _=>true
def V.ep:V->Bool
 | .s v=>v.cells.all Lf.ep
 | .t l=>l.all fun v=>v.cells.all Lf.ep
def aW.ok (sg:aW):Bool :=
 sg.ins.all (V.bn A.const sg.lY)&&sg.hin.all (dw (ag.bn A.const sg.lY))&&sg.out.bn A.const sg.iK&&sg.hout.all (dw (ag.bn A.const sg.iK)) &&
 sg.out.lt sg.hout.length&&sg.hout.all (dw (ag.lt sg.hout.length))&&sg.hout.all (dw ag.flat)&&(sg.out.ep||!(sg.hin.all (dw fun b=>!b.own)&&sg.hout.isEmpty))
def HN (P:Program) (S:bN) (f:FuncId) (vs:List V) (hp:List (Option ag)):M OR:=do
 let sg <-M.lift (S.get f)
 let pat:St:=⟨sg.ins.map some,sg.hin⟩
 let act:St:=⟨vs.map some,hp⟩
 let g:=oD sg.fE pat act
 if ZM P f&&(pat.inst g.1).sub g.2 act&&sg.ok&&hp.all (dw (ag.lt hp.length))&&(!pM sg.hin 0 sg.hout||sg.hin.all (dw ag.flat))&&vL sg.hin sg.hout then do
  let j0 <-(if sg.need then do lX (<-emit (.call f g.1 0));pure 1 else pure 0)
  let os <-HM f g.1 j0 sg.iK.length
  if sg.hin.all (dw fun b=>!b.own)&&sg.hout.isEmpty then pure (.val (sg.out.inst os))
  else
   let m1:=vK sg.hin g.2 hp.length sg.hout.length
   let ho:=(sg.hout.map (Option.map (ag.inst os)))
   pure (.hp (some ((sg.out.inst os).eR m1)) (rL sg.hin ho g.2 m1 (pM sg.hin 0 sg.hout) sg.hin.length 0 hp++Ah sg.hin m1 0 ho))
 else M.fail
def yI (a:A):Nat->List Ty->M (List A)
 | _,[]=>pure []
 | i,t::ts=>do
  let x <-emit (match t with | .i=>.lW 1 i a (.z 0) | .b=>.kK 1 i a (.z 0) | .l=>.nW 1 i a (.z 0))
  let r <-yI a (i+1) ts
  pure (x::r)
def HO (n b k:Nat):List Nat:=b::(List.range k).map fun j=>n+j
def aV.fit (p:aV):Bool:=p.hp.all (dw ag.flat)&&p.hp.all (dw (ag.lt p.hp.length))&&p.hp.all (dw (ag.bn A.const p.tys))
def Q5 (o:Bool) (k b:Nat) (a:A) (hp:List (Option ag)):M (List (Option ag)):=do
 let p <-M.lift pats[k]?
 if qZ (k+2) p.ids&&p.fit&&hp.all (dw (ag.lt hp.length))&&!nY (k+2) then do
  let as <-yI a 0 p.tys
  let l:=(p.rd o).hp.map (Option.map fun x=>(x.inst as).eR (HO hp.length b (p.hp.length-1)))
  pure (eg (l.headD none) hp b++l.tail)
 else M.fail
def Fp (ks:List Nat):Nat->Nat->List (Option ag)->M (List (Option ag))
 | 0,_,hp=>pure hp
 | n+1,j,hp =>
  if Nat.blt j hp.length then
   match nth hp j with
   | some (.obj o (k+2) a)=>if cJ (k+2) ks then do Fp ks n (j+1) (<-Q5 o k j a hp) else Fp ks n (j+1) hp
   | _=>Fp ks n (j+1) hp
  else pure hp
def MZ (ks:List Nat) (hp:List (Option ag)):M (List (Option ag)):=if ks.isEmpty then pure hp else Fp ks (hp.length+60) 0 hp
def ag.jm:ag->Bool
 | .l o f _ _=>o&&!f
 | b=>b.own
def xB (m:List Nat):Nat->List (Option ag)->List (Option ag)->List (Option ag)
 | _,[],hp=>hp
 | j,_::l,hp =>
  match nth hp (bz m j) with
  | some x=>if x.jm then xB m (j+1) l (eg none hp (bz m j)) else xB m (j+1) l hp
  | none=>xB m (j+1) l hp
def M0 (o:Bool) (k b:Nat) (hp:List (Option ag)):M (List (Option ag)):=do
 let p <-M.lift pats[k]?
 let g:=oD p.tys.length ⟨[some (.s (.one (.p 0 (.c 0))))],p.hp⟩ ⟨[some (.s (.one (.p b (.c 0))))],hp⟩
 if qZ (k+2) p.ids&&p.fit&&Nat.beq (bz g.2 0) b&&vI g.2 hp 0 ((p.rd o).hp.map (Option.map (ag.inst g.1)))&&Ad g.2 ((p.rd o).hp.map (Option.map (ag.inst g.1))) 0 ((p.rd o).hp.map (Option.map (ag.inst g.1)))&&!nY (k+2) then do
  let q <-emit (.sR p.tys g.1)
  pure (eg (some (.obj o (k+2) q)) (xB g.2 1 p.hp.tail hp) b)
 else M.fail
def Q6 (b:Nat) (hp:List (Option ag)):M (List (Option ag)) :=
 match nth hp b with
 | some (.obj o k a)=>if nY k then M.fail else do
  let q <-emit (.sR [.b,.l] [.t true,a])
  pure (eg (some (.obj o (k+1000) q)) hp b)
 | _=>M.fail
def M1 (b:Nat) (hp:List (Option ag)):M (List (Option ag)) :=
 match nth hp b with
 | some (.obj o k a)=>if nY k&&!nY (k-1000) then do
   lX (<-emit (.kK 1 0 a (.z 0)))
   let q <-emit (.nW 1 1 a (.z 0))
   pure (eg (some (.obj o (k-1000) q)) hp b)
  else M.fail
 | _=>M.fail
def zwo (k:Nat) (k':Nat):Bool:=nY k'&&!nY k
def yJ (m:List Nat):Nat->List (Option ag)->List (Option ag)->M (List (Option ag))
 | _,[],hp=>pure hp
 | j,some (.obj _ (k+2) _)::l,hp =>
  match nth hp (bz m j) with
  | some (.c o _)=>do yJ m (j+1) l (<-M0 o k (bz m j) hp)
  | some (.obj _ k' _)=>if zwo (k+2) k' then do yJ m (j+1) l (<-M1 (bz m j) hp) else yJ m (j+1) l hp
  | _=>yJ m (j+1) l hp
 | j,_::l,hp=>yJ m (j+1) l hp
def Z3:ag->Bool
 | .obj _ _ _=>true
 | _=>false
def HP:Operand->Bool
 | .const .nilIface=>true
 | _=>false
def M3 (P : Program) (op : BinOp) (t : TypeId) (l : Lf) : Option Bool :=
  match P.underlying t with
  | some (.interface _) =>
    (match op, l with
     | .eql, .fV _ _ => some false
     | .neq, .fV _ _ => some true
     | .eql, .v .nilIface => some true
     | .neq, .v .nilIface => some false
     | _, _ => none)
  | _ => none
def Q7 (P:Program) (t:TypeId):Bool :=
 match P.underlying t with
 | some (.interface _)=>true
 | _=>false
def Fq (P : Program) (t : TypeId) (name : String) : Option FuncId :=
  match P.info? t, tk P t with
  | some i, some (.ptr _) =>
    (match i.methods.find? (fun m => m.name == name) with
     | some m =>
       (match m.path.toList, m.func with
        | [], some (f, true) => some f
        | _, _ => none)
     | none => none)
  | _, _ => none
def Lf.isNil:Lf->Bool
 | .v (.slice none 0 0)=>true
 | _=>false
def bH (hp:List (Option ag)):Bool:=hp.all (dw (ag.lt hp.length))
def uV:List LT->List Lf->List (Option ag)->M (List Lf×List (Option ag))
 | t::lt,x::l,hp =>
  match t with
  | .vec ts =>
   if x.isNil&&Nat.blt 0 ts.length then do
    let q <-emit (.sR [] [])
    let r <-uV lt l (hp++[some (.v true ts q)])
    pure (.vec hp.length::r.1,r.2)
   else do
    let r <-uV lt l hp
    pure (x::r.1,r.2)
  | _=>do
   let r <-uV lt l hp
   pure (x::r.1,r.2)
 | _,l,hp=>pure (l,hp)
def HQ (hin:List (Option ag)):Lf->LT
 | .vec b=>match nth hin b with
  | some (.v _ ts _)=>.vec ts
  | some (.l _ _ ts _)=>.vec ts
  | _=>.bool
 | _=>.bool
def V.iq:V->List Lf
 | .s v=>v.cells
 | .t _=>[]
def B0:List V->List Lf->Option (List V)
 | [],[]=>some []
 | .s (.one _)::r,x::l=>(B0 r l).map (.s (.one x)::·)
 | .s (.agg ys)::r,l=>if Nat.ble ys.length l.length then (B0 r (l.drop ys.length)).map (.s (.agg (l.take ys.length))::·) else none
 | _,_=>none
def Q8:List LT->List Lf->Bool
 | .vec _::lt,x::l=>x.isNil||Q8 lt l
 | _::lt,_::l=>Q8 lt l
 | _,_=>false
def M4 (P:Program) (S:bN) (f:FuncId) (vs:List V) (hp:List (Option ag)):M OR:=do
 let c6 <-(match S.get f with
  | some sg=>if sg.hin.any (QC Z3) then yJ (oD sg.fE ⟨sg.ins.map some,sg.hin⟩ ⟨vs.map some,hp⟩).2 0 sg.hin hp else pure hp
  | none=>pure hp)
 match <-HN P S f vs c6 with
 | .val v=>pure (.val v)
 | .hp v jn =>
  if S.yB.isEmpty then pure (.hp v jn) else
  if dw (V.lt jn.length) v&&Nat.ble c6.length jn.length then do pure (.hp v (<-MZ S.yB jn)) else M.fail
def Q9 (P:Program) (S:bN) (f:FuncId) (vs:List V) (hp:List (Option ag)):M OR:=do
 let lf:List LT:=match S.get f with
  | some sg=>(sg.ins.flatMap V.iq).map (HQ sg.hin)
  | none=>[]
 if Q8 lf (vs.flatMap V.iq) then
  if bH hp&&(vs.flatMap V.iq).all (Lf.lt hp.length) then do
   let q <-uV lf (vs.flatMap V.iq) hp
   let us <-M.lift (B0 vs q.1)
   match <-M4 P S f us q.2 with
   | .val v=>if v.lt hp.length then pure (.val v) else M.fail
   | .hp v h=>pure (.hp v h)
  else M.fail
 else M4 P S f vs hp
def M5 (p v:V):M V :=
 match p,v with
 | .s (.one (.p _ (.c 0))),.s (.one (.alt a l)) =>
  match l.filter fun x=>!x.2.isNil with
  | [x] =>
   match eI l x.1 with
   | some (.p q 0)=>do
    lX (<-emit (.eql a (.z x.1)))
    pure (.s (.one (.p q (.c 0))))
   | _=>pure v
  | _=>pure v
 | _,_=>pure v
def M6:List V->List V->M (List V)
 | p::ps,v::vs=>do
  let x <-M5 p v
  let r <-M6 ps vs
  pure (x::r)
 | _,vs=>pure vs
def B1 (P:Program) (S:bN) (f:FuncId) (vs:List V) (hp:List (Option ag)):M OR:=do
 let us <-M6 (match S.get f with | some sg=>sg.ins | none=>[]) vs
 Q9 P S f us hp
def vM (hp:List (Option ag)):OR->M (V×List (Option ag))
 | .val v=>pure (v,hp)
 | .hp (some v) hp'=>pure (v,hp')
 | .hp none _=>M.fail
def Q_ (n0:Nat) (c:A) (x y:V×List (Option ag)):M (V×List (Option ag)):=do
 let s <-BV n0 c ⟨[some x.1],x.2⟩ ⟨[some y.1],y.2⟩
 match s.sl with
 | [some v]=>pure (v,s.hp)
 | _=>M.fail
def HR (P:Program) (S:bN) (name:String) (vs:List V) (hp:List (Option ag)) (a:A):List (Nat×Alt)->M (V×List (Option ag))
 | []=>M.fail
 | x::l =>
  match x.2 with
  | .fV t b=>do
   let f <-M.lift (Fq P t name)
   if l.isEmpty then do
    vM hp (<-B1 P S f (.s (.one (.p b (.c 0)))::vs) hp)
   else do
    let c <-emit (.eql a (.z x.1))
    let u <-under c true (do vM hp (<-B1 P S f (.s (.one (.p b (.c 0)))::vs) hp))
    let v <-under c false (HR P S name vs hp a l)
    Q_ hp.length c u v
  | _=>M.fail
def Ra (ks:List Nat) (s:St):M St :=
 if ks.isEmpty then pure s else
 if s.sl.all (dw (V.lt s.hp.length)) then do pure ⟨s.sl,<-MZ ks s.hp⟩ else M.fail
def Rb (n:Nat) (pat:St) (z:St):M St :=
 if pat.hp.any (QC Z3) then do pure ⟨z.sl,<-yJ (oD n pat z).2 0 pat.hp z.hp⟩ else pure z
def M7 (P:Program) (f:FuncId):Option Bool :=
 match P.funcs[f]? with
 | some fn => if fn.body.isNone && fn.origin == "" then (if fn.name == "math/bits.Add64" then some true else if fn.name == "math/bits.Sub64" then some false else none) else none
 | none=>none
def yK (a:A):M Unit:=do
 lX (<-emit (.geq a (.z 0)))
 lX (<-emit (.lss a (.z 18446744073709551616)))
def Rc (add:Bool) (a b q:A):M OR:=do
 yK a
 yK b
 lX (<-emit (.geq q (.z 0)))
 lX (<-emit (.lss q (.z 2)))
 let one <-emit (.eql q (.z 1))
 let s1 <-emit (if add then .add .u64 a b else .sub .u64 a b)
 let s <-emit (if add then .add .u64 s1 q else .sub .u64 s1 q)
 let low <-emit (if add then .lss s a else .lss a b)
 let same <-emit (if add then .eql s a else .eql a b)
 let both <-emit (.and one same)
 let c <-emit (.or low both)
 let k <-emit (.vA c (.z 1) (.z 0))
 pure (.val (.t [.one (.i .u64 s),.one (.i .u64 k)]))
def M8 (r:RS) (ctx:Ctx) (c a b:Operand):M V:=do
 match rd r ctx c with
 | some (.s (.one (.b (.t true))))=>M.lift (rd r ctx a)
 | some (.s (.one (.b (.t false))))=>M.lift (rd r ctx b)
 | some (.s (.one (.b x)))=>do
  let (ca,cb):=match c with
   | .tmp t=>((t,true)::ctx,(t,false)::ctx)
   | _=>(ctx,ctx)
  let va <-M.lift (rd r ca a)
  let vb <-M.lift (rd r cb b)
  QW x va vb
 | _=>M.fail
def Ai (hp:List (Option ag)) (b:Nat):Option (Bool×List LT×A) :=
 match nth hp b with
 | some (.v o ts a)=>some (o,ts,a)
 | _=>none
def rj (hp:List (Option ag)) (b:Nat):Option (Bool×List LT×A) :=
 match nth hp b with
 | some (.v o ts a)=>some (o,ts,a)
 | some (.l _ _ ts a)=>some (false,ts,a)
 | _=>none
def B2 (P:Program) (t:TypeId):Option Nat:=(P.info? t).map (·.bytes)
def vN (bytes:Nat):Nat:=(281474976710656/(bif Nat.beq bytes 0 then 1 else bytes)-192)*4/5
def yL (a b:A):M Unit :=
 match a,b with
 | .z m,.z n=>if m<=n then pure () else M.fail
 | a,b=>do lX (<-emit (.leq a b))
def HT:LT->Ty
 | .int _=>.i
 | .bool=>.b
 | .vec _=>.l
def HU (t:LT) (x:Lf):Option A :=
 match t,x with
 | .int k,.i k' a=>if m7 k k' then some a else none
 | .bool,.b a=>some a
 | _,_=>none
def rm:List Lf->Option (List LT)
 | []=>some []
 | .i k _::l=>(rm l).map (LT.int k::·)
 | .b _::l=>(rm l).map (LT.bool::·)
 | _::_=>none
def xC (ts:List LT):Nat->List (Option Lf)->Option (List Ty×List A)
 | _,[]=>some ([],[])
 | i,c::cs =>
  match c.bind (HU (ts.getD (i%ts.length) .bool)) with
  | none=>none
  | some a =>
   match xC ts (i+1) cs with
   | none=>none
   | some r=>some (HT (ts.getD (i%ts.length) .bool)::r.1,a::r.2)
def Rd (ts:List LT) (cs:List Lf):M A :=
 match cs with
 | .e t a i0::l =>
  if rH t a 1 i0 (.e t a i0::l)&&ts.all (fun u=>t.vE u)&&Nat.beq ts.length (l.length+1) then emit (.vD (l.length+1) 1 i0 a (.z 0)) else M.fail
 | cs=>do
  let r <-M.lift (xC ts 0 (cs.map some))
  emit (.sR r.1 r.2)
def Re (P:Program) (hp:List (Option ag)) (t:TypeId) (v:V):M V:=do
 match <-M.lift (P.underlying t),v with
 | .slice _,.s (.one (.vec b)) =>
  let r <-M.lift (rj hp b)
  pure (.s (.one (.i .i64 (<-emit (.kZ r.2.1.length r.2.2)))))
 | .slice _,.s (.one (.v (.slice none 0 0)))=>pure (.s (.one (.i .i64 (.z 0))))
 | .string,.s (.one (.v (.string s)))=>pure (.s (.one (.i .i64 (.z s.size))))
 | .string,.s (.one (.str a))=>do pure (.s (.one (.i .i64 (<-emit (.kZ 1 a)))))
 | .array n _,_=>pure (.s (.one (.i .i64 (.z n))))
 | _,_=>M.fail
def HV (P:Program) (hp:List (Option ag)) (src dst:TypeId) (b:Nat):M V:=do
 match <-M.lift (tk P src),<-M.lift (P.underlying dst) with
 | .slice e,.string =>
  match <-M.lift (tk P e),<-M.lift (rj hp b) with
  | .int .u8,(_,[.int .u8],a)=>pure (.s (.one (.str a)))
  | _,_=>M.fail
 | _,_=>M.fail
def Rf (P:Program) (hp:List (Option ag)) (t:TypeId) (b:Nat) (ix:Lf):M Lf:=do
 match <-M.lift (tk P t),ix with
 | .slice elem,.i _ i =>
  let sz <-M.lift (hM P elem)
  let r <-M.lift (rj hp b)
  if Nat.beq sz r.2.1.length then do
   vG i
   let n <-emit (.kZ r.2.1.length r.2.2)
   lX (<-emit (.lss i n))
   pure (.p b (.v 0 i sz r.2.2))
  else M.fail
 | _,_=>M.fail
def Fs (sz:Nat) (ix a0 a:A):M Unit :=
 if a0.beq a then pure () else do
  let n <-emit (.kZ sz a)
  lX (<-emit (.lss ix n))
def Ft (sz j:Nat) (a ix:A):LT->M Lf
 | .int k=>do pure (.i k (<-emit (.lW sz j a ix)))
 | .bool=>do pure (.b (<-emit (.kK sz j a ix)))
 | .vec _=>M.fail
def HW (ts:List LT) (a ix:A):Nat->Nat->M (List Lf)
 | _,0=>pure []
 | j,n+1=>do
  let x <-Ft ts.length j a ix (ts.getD j .bool)
  let r <-HW ts a ix (j+1) n
  pure (x::r)
def oF (t:LT) (a:A):Nat->Nat->List Lf
 | _,0=>[]
 | i,n+1=>.e t a i::oF t a (i+1) n
def Rg (ts:List LT) (base size:Nat):Option LT :=
 match (ts.drop base).take size with
 | t::l=>if Nat.ble 8 size&&Nat.beq size (l.length+1)&&t.flat&&l.all (fun u=>t.vE u) then some t else none
 | []=>none
def B4 (ts:List LT) (a:A) (off:bV) (agg:Bool) (size:Nat):M V1:=do
 match off with
 | .v base ix sz a0 =>
  if Nat.beq sz ts.length&&Nat.ble (base+size) sz then do
   Fs sz ix a0 a
   if agg then
    match Rg ts base size with
    | some t=>do
     let q <-emit (.vD size sz base a ix)
     pure (.agg (oF t q 0 size))
    | none=>do pure (.agg (<-HW ts a ix base size))
   else if Nat.blt base sz then do pure (.one (<-Ft ts.length base a ix (ts.getD base .bool)))
   else M.fail
  else M.fail
 | .w base ix sz a0 hY jI fe =>
  if !agg&&Nat.beq sz ts.length&&Nat.ble (base+fe) sz&&Nat.beq jI 1 then do
   Fs sz ix a0 a
   let l <-HW ts a ix base fe
   pure (.one (<-Aa l hY))
  else M.fail
 | _=>M.fail
def HX (ts:List LT) (a ix:A):Nat->Nat->List (Option ag)->M (List Lf×List (Option ag))
 | _,0,hp=>pure ([],hp)
 | j,n+1,hp=>do
  match ts.getD j .bool with
  | .vec us =>
   if us.all LT.flat then do
    let q <-emit (.nW ts.length j a ix)
    let r <-HX ts a ix (j+1) n (hp++[some (.v false us q)])
    pure (.vec hp.length::r.1,r.2)
   else M.fail
  | t=>do
   let x <-Ft ts.length j a ix t
   let r <-HX ts a ix (j+1) n hp
   pure (x::r.1,r.2)
def M9 (ts:List LT) (a:A) (off:bV) (agg:Bool) (size:Nat) (hp:List (Option ag)):M (V1×List (Option ag)):=do
 match off with
 | .v base ix sz a0 =>
  if Nat.beq sz ts.length&&Nat.ble (base+size) sz&&(agg||Nat.beq size 1) then do
   Fs sz ix a0 a
   let q <-HX ts a ix base size hp
   if agg then pure (.agg q.1,q.2)
   else
    match q.1 with
    | [x]=>pure (.one x,q.2)
    | _=>M.fail
  else M.fail
 | .w _ _ _ _ _ _ _=>do
  let v <-B4 ts a off agg size
  pure (v,hp)
 | _=>M.fail
def M_ (ts:List LT) (ix:A):Nat->A->List Lf->M A
 | _,a,[]=>pure a
 | j,a,x::l=>do
  let v <-M.lift (HU (ts.getD j .bool) x)
  let a1 <-emit (.yu ts.length j (HT (ts.getD j .bool)) a ix v)
  M_ ts ix (j+1) a1 l
def Rh (ts:List LT) (a:A) (off:bV) (xs:List Lf):M A:=do
 match off with
 | .v base ix sz a0 =>
  if Nat.beq sz ts.length&&Nat.ble (base+xs.length) sz then do
   Fs sz ix a0 a
   M_ ts ix base a xs
  else M.fail
 | _=>M.fail
def Ri (P:Program) (hp:List (Option ag)) (t:TypeId) (l c:Lf):M OR:=do
 match <-M.lift (tk P t),l,c with
 | .slice elem,.i _ n,.i _ m =>
  let z <-M.lift (zeroCells P elem)
  let ts <-M.lift (rm z)
  let r <-M.lift (xC ts 0 (z.map some))
  let sz <-M.lift (hM P elem)
  let kM <-M.lift (B2 P elem)
  if Nat.beq sz z.length&&Nat.blt 0 sz&&bH hp then do
   vG n
   yL n m
   yL m (.z (vN kM))
   let q <-emit (.yw n r.1 r.2)
   pure (.hp (some (.s (.one (.vec hp.length)))) (hp++[some (.v true ts q)]))
  else M.fail
 | _,_,_=>M.fail
def HY (P:Program) (hp:List (Option ag)) (t tx:TypeId) (s x:V):M OR:=do
 match <-M.lift (tk P t),<-M.lift (tk P tx),s,x with
 | .slice elem,.slice _,.s (.one (.vec b)),.s (.one (.vec c)) =>
  let r <-M.lift (Ai hp b)
  let u <-M.lift (rj hp c)
  let z <-M.lift (zeroCells P elem)
  let sz <-M.lift (hM P elem)
  let kM <-M.lift (B2 P elem)
  if r.1&&!Nat.beq b c&&ld.beq r.2.1 u.2.1&&Nat.beq sz r.2.1.length&&Nat.beq sz z.length&&bH hp then do
   let q <-emit (.vC r.2.2 u.2.2)
   let n <-emit (.kZ sz q)
   yL n (.z (vN kM))
   pure (.hp (some (.s (.one (.vec hp.length)))) (eg none hp b++[some (.v true r.2.1 q)]))
  else M.fail
 | _,_,_,_=>M.fail
def HZ (sz:Nat) (a:A):Option Lf->M (A×A)
 | none=>do
  let n <-emit (.kZ sz a)
  pure (a,n)
 | some (.i _ h)=>do
  vG h
  let n <-emit (.kZ sz a)
  yL h n
  let q <-emit (.p8 sz a h)
  pure (q,h)
 | _=>M.fail
def H6 (sz:Nat) (a n:A):Option Lf->M A
 | none=>pure a
 | some (.i _ l)=>do
  vG l
  yL l n
  emit (.sS sz a l)
 | _=>M.fail
def H7 (r:RS) (ctx:Ctx):Option Operand->Option (Option Lf)
 | none=>some none
 | some x =>
  match rd r ctx x with
  | some (.s (.one l))=>some (some l)
  | _=>none
def Rj (P:Program) (hp:List (Option ag)) (t:TypeId) (x:V) (low high:Option Lf):M OR:=do
 match <-M.lift (tk P t),x with
 | .slice elem,.s (.one (.vec b)) =>
  let sz <-M.lift (hM P elem)
  let r <-M.lift (Ai hp b)
  if Nat.beq sz r.2.1.length&&bH hp then do
   let q <-HZ sz r.2.2 high
   let q2 <-H6 sz q.1 q.2 low
   pure (.hp (some (.s (.one (.vec hp.length)))) ((if r.1 then eg none hp b else hp)++[some (.v r.1 r.2.1 q2)]))
  else M.fail
 | .arr n elem,.s (.one (.p b (.c 0))) =>
  match <-M.lift (nth hp b) with
  | .c o cs =>
   let sz <-M.lift (hM P elem)
   let z <-M.lift (zeroCells P elem)
   let ts <-M.lift (rm z)
   let r <-M.lift (xC ts 0 cs)
   if Nat.beq sz ts.length&&Nat.blt 0 sz&&Nat.beq cs.length (n*sz)&&Nat.ble n 16777216&&bH hp then do
    let q0 <-emit (.sR r.1 r.2)
    let q <-HZ sz q0 high
    let q2 <-H6 sz q.1 q.2 low
    pure (.hp (some (.s (.one (.vec hp.length)))) (eg none hp b++[some (.v o ts q2)]))
   else M.fail
  | _=>M.fail
 | _,_=>M.fail
def Rk (P:Program) (hp:List (Option ag)) (t:TypeId) (len:Nat) (parts:List (Nat×V1)):M OR:=do
 match <-M.lift (tk P t) with
 | .slice elem =>
  let sz <-M.lift (hM P elem)
  let z <-M.lift (zeroCells P elem)
  let ts <-M.lift (rm z)
  let cs <-M.lift (tQ (fun i=>some (i*sz,sz)) (List.replicate len z).flatten parts)
  if Nat.beq sz z.length&&Nat.blt 0 sz&&Nat.ble (len*sz) 16777216&&bH hp then do
   let q <-Rd ts cs
   pure (.hp (some (.s (.one (.vec hp.length)))) (hp++[some (.v true ts q)]))
  else M.fail
 | _=>M.fail
def Z4 (rec:TypeId->Option (List LT)):List (Nat×Nat)->Option (List LT)
 | []=>some []
 | f::fs =>
  match rec f.2,Z4 rec fs with
  | some l,some r=>some (l++r)
  | _,_=>none
def H_ (P:Program):Nat->TypeId->Option (List LT)
 | 0,_=>none
 | d+1,t =>
  match tk P t with
  | some (.int k)=>some [.int k]
  | some .bool=>some [.bool]
  | some (.arr n e)=>(H_ P d e).map fun l=>(List.replicate n l).flatten
  | some (.struct fs)=>Z4 (H_ P d) fs
  | some (.slice e)=>(H_ P d e).map fun l=>[.vec l]
  | some (.ptr _)=>some [.bool]
  | some .other=>some [.bool]
  | none=>none
def Rl (P:Program) (hp:List (Option ag)) (t tx:TypeId) (s x:V):M OR :=
 match s with
 | .s (.one l) =>
  if l.isNil&&bH hp&&x.lt hp.length then do
   match <-M.lift (tk P t) with
   | .slice elem=>do
    let z <-M.lift (zeroCells P elem)
    let ts <-M.lift (rm z)
    let q <-uV [.vec ts] [l] hp
    match q.1 with
    | [l']=>HY P q.2 t tx (.s (.one l')) x
    | _=>M.fail
   | _=>M.fail
  else HY P hp t tx s x
 | _=>HY P hp t tx s x
def Ia (hp:List (Option ag)) (b:Nat):Option (Bool×Bool×List LT×A) :=
 match nth hp b with
 | some (.l o f ts a)=>some (o,f,ts,a)
 | _=>none
def Z5 (hp:List (Option ag)):V->Bool
 | .s (.one (.vec b))=>(Ia hp b).isSome
 | _=>false
def bJ (hp:List (Option ag)) (b:Nat):List (Option ag) :=
 match nth hp b with
 | some x=>if x.jm then eg none hp b else hp
 | none=>hp
def Rm (P:Program) (hp:List (Option ag)) (t tx:TypeId) (s x:V):M OR:=do
 match <-M.lift (tk P t),<-M.lift (tk P tx),s,x with
 | .slice elem,.slice _,.s (.one (.vec b)),.s (.one (.vec c)) =>
  let r <-M.lift (Ia hp b)
  let u <-M.lift (rj hp c)
  let z <-M.lift (zeroCells P elem)
  let sz <-M.lift (hM P elem)
  let kM <-M.lift (B2 P elem)
  if r.1&&!Nat.beq b c&&ld.beq r.2.2.1 u.2.1&&Nat.beq sz r.2.2.1.length&&Nat.beq sz z.length&&bH hp then do
   let q <-emit (.vC r.2.2.2 u.2.2)
   let n <-emit (.kZ sz q)
   yL n (.z (vN kM))
   pure (.hp (some (.s (.one (.vec hp.length)))) (bJ hp b++[some (.l true false r.2.2.1 q)]))
  else M.fail
 | _,_,_,_=>M.fail
def Rn (P:Program) (hp:List (Option ag)) (t tx:TypeId) (s x:V):M OR:=if Z5 hp s then Rm P hp t tx s x else Rl P hp t tx s x
def Ro (P:Program) (hp:List (Option ag)) (t:TypeId) (x:V) (low:Option Lf):M OR:=do
 match <-M.lift (tk P t),x with
 | .slice elem,.s (.one (.vec b)) =>
  let sz <-M.lift (hM P elem)
  let r <-M.lift (Ia hp b)
  if Nat.beq sz r.2.2.1.length&&bH hp then do
   let q <-HZ sz r.2.2.2 none
   let q2 <-H6 sz q.1 q.2 low
   pure (.hp (some (.s (.one (.vec hp.length)))) (bJ hp b++[some (.l r.1 r.2.1 r.2.2.1 q2)]))
  else M.fail
 | _,_=>M.fail
def Rp (P:Program) (hp:List (Option ag)) (t:TypeId) (x:V) (high max:Lf):M OR:=do
 match <-M.lift (tk P t),x,high,max with
 | .slice elem,.s (.one (.vec b)),.i _ h,.i _ m =>
  let sz <-M.lift (hM P elem)
  let r <-M.lift (rj hp b)
  if Nat.beq sz r.2.1.length&&bH hp then do
   vG h
   let e <-emit (.eql h m)
   lX e
   let n <-emit (.kZ sz r.2.2)
   yL h n
   let q <-emit (.p8 sz r.2.2 h)
   pure (.hp (some (.s (.one (.vec hp.length)))) (bJ hp b++[some (.l true true r.2.1 q)]))
  else M.fail
 | _,_,_,_=>M.fail
def Rq (P:Program) (hp:List (Option ag)) (t:TypeId) (x:V) (low high max:Option Lf):M OR :=
 match max with
 | some m =>
  match low,high with
  | none,some h=>Rp P hp t x h m
  | _,_=>M.fail
 | none =>
  if Z5 hp x then
   match high with
   | none=>Ro P hp t x low
   | some _=>M.fail
  else Rj P hp t x low high
def Aj:List Lf->Option (List Ty×List A)
 | []=>some ([],[])
 | .i _ a::l=>match Aj l with | some r=>some (.i::r.1,a::r.2) | none=>none
 | .b a::l=>match Aj l with | some r=>some (.b::r.1,a::r.2) | none=>none
 | _::_=>none
def Ak (a:A):Nat->List Lf->List Lf
 | _,[]=>[]
 | i,.i k _::l=>.e (.int k) a i::Ak a (i+1) l
 | i,.b _::l=>.e .bool a i::Ak a (i+1) l
 | i,x::l=>x::Ak a (i+1) l
def Rr (z:List Lf) (o n:Nat):M (List Lf) :=
 match Aj ((z.drop o).take n) with
 | none=>pure z
 | some r=>do
  let a <-emit (.sR r.1 r.2)
  pure (z.take o++Ak a 0 ((z.drop o).take n)++(z.drop o).drop n)
def B5:List (Nat×Nat)->List Lf->M (List Lf)
 | [],z=>pure z
 | g::gs,z=>do
  let z1 <-Rr z g.1 g.2
  B5 gs z1
def Z6 (rec:TypeId->Nat->List (Nat×Nat)) (o:Nat):List (Nat×TypeId)->List (Nat×Nat)
 | []=>[]
 | f::fs=>rec f.2 (o+f.1)++Z6 rec o fs
def Ib (P:Program):Nat->TypeId->Nat->List (Nat×Nat)
 | 0,_,_=>[]
 | d+1,t,o =>
  match tk P t with
  | some (.arr _ _)=>match hM P t with | some n=>if Nat.ble 8 n then [(o,n)] else [] | none=>[]
  | some (.struct fs)=>Z6 (Ib P d) o fs
  | _=>[]
def Al (hp:List (Option ag)) (cs:List Lf):M OR :=
 if hp.all (dw (ag.lt hp.length))&&cs.all (Lf.lt hp.length) then pure (.hp (some (.s (.one (.p hp.length (.c 0))))) (hp++[some (.c true (cs.map some))])) else M.fail
def Fu (P:Program) (r:RS) (ctx:Ctx) (t:TypeId) (x y:Operand):M (List (Option ag)):=do
 match <-M.lift (rd r ctx x),<-M.lift (rd r ctx y) with
 | .s (.one (.p b off)),.s v=>do
  let sz <-M.lift (hM P t)
  match <-M.lift (nth r.st.hp b) with
  | .c true cs =>
   if Nat.beq v.cells.length sz&&v.cells.all Lf.ok then do
    pure (eg (some (.c true (<-QE cs off v.cells))) r.st.hp b)
   else M.fail
  | .v true ts a =>
   if Nat.beq v.cells.length sz&&Nat.blt 0 sz then do
    pure (eg (some (.v true ts (<-Rh ts a off v.cells))) r.st.hp b)
   else M.fail
  | _=>M.fail
 | _,_=>M.fail
def Ic:V->Option Nat
 | .s (.one (.p b (.c 0)))=>some b
 | _=>none
def qb:Option V->Option (Nat×List Nat)
 | some (.s (.one (.v (.func (.func f) a b))))=>if Nat.beq a.size 0&&Nat.beq b.size 0 then some (f,[]) else none
 | some (.s (.one (.kL f bs)))=>some (f,bs)
 | _=>none
def tk0 (P:Program) (t:TypeId):Option TypeDesc:=P.underlying t
def iV (P:Program) (S:bN) (r:RS) (ctx:Ctx) (op:Op):M OR :=
 match op with
 | .move x=>do pure (.val (<-M.lift (rd r ctx x)))
 | .assign x=>do pure (.val (<-M.lift (rd r ctx x)))
 | .pick c a b=>do pure (.val (<-M8 r ctx c a b))
 | .build t parts=>do
  let ps <-M.lift (yH r ctx parts.toList)
  pure (.val (.s (.agg (<-M.lift (MY P t ps)))))
 | .alloc t=>do
  let z <-M.lift (zeroCells P t)
  if z.any Lf.isNil then
   if bH r.st.hp then do
    let q <-uV ((H_ P 20 t).getD []) z r.st.hp
    Al q.2 (<-B5 (Ib P 60 t 0) q.1)
   else M.fail
  else do
   Al r.st.hp (<-B5 (Ib P 60 t 0) z)
 | .box t x=>do
  match <-M.lift (rd r ctx x) with
  | .s v =>
   if v.cells.all Lf.ok then
    if v.cells.any Lf.isNil then
     if bH r.st.hp&&v.cells.all (Lf.lt r.st.hp.length) then do
      let q <-uV ((H_ P 20 t).getD []) v.cells r.st.hp
      Al q.2 (<-B5 (Ib P 60 t 0) q.1)
     else M.fail
    else do
     Al r.st.hp (<-B5 (Ib P 60 t 0) v.cells)
   else M.fail
  | _=>M.fail
 | .load t x=>do
  match <-M.lift (rd r ctx x) with
  | .s (.one (.p aj off))=>do
   let k <-M.lift (tk P t)
   let sz <-M.lift (hM P t)
   match <-M.lift (nth r.st.hp aj) with
   | .c _ cs=>pure (.val (.s (<-Fj cs off (oC k) sz)))
   | .v _ ts a =>
    if ts.all LT.flat then do pure (.val (.s (<-B4 ts a off (oC k) sz)))
    else if bH r.st.hp then do
     let q <-M9 ts a off (oC k) sz r.st.hp
     pure (.hp (some (.s q.1)) q.2)
    else M.fail
   | .l _ _ ts a=>if ts.all LT.flat then do pure (.val (.s (<-B4 ts a off (oC k) sz))) else M.fail
   | .obj _ _ _=>M.fail
   | .m _ _ _ _=>M.fail
  | .s (.one (.gp g off))=>do
   let k <-M.lift (tk P t)
   let sz <-M.lift (hM P t)
   let cs <-M.lift (assoc S.gs g)
   let v <-Fj (cs.map some) off (oC k) sz
   if v.cells.all Lf.scalar then pure (.val (.s v)) else M.fail
  | _=>M.fail
 | .store t x y=>do pure (.hp none (<-Fu P r ctx t x y))
 | .nilCheck x=>do
  match <-M.lift (rd r ctx x) with
  | .s (.one (.p b off))=>pure (.val (.s (.one (.p b off))))
  | .s (.one (.kL f bs))=>pure (.val (.s (.one (.kL f bs))))
  | .s (.one (.alt a l))=>do pure (.val (.s (.one (<-QX a l))))
  | _=>M.fail
 | .binOp op t x y _ =>
  if HP y then do
   match <-M.lift (rd r ctx x) with
   | .s (.one (.alt a l))=>do
    if Q7 P t then
     match op with
     | .eql=>do pure (.val (.s (.one (<-BY true false a l))))
     | .neq=>do pure (.val (.s (.one (<-BY true true a l))))
     | _=>M.fail
    else M.fail
   | .s (.one l)=>do
    let q <-M.lift (M3 P op t l)
    pure (.val (.s (.one (.b (.t q)))))
   | _=>M.fail
  else do pure (.val (<-QZ P op t (<-M.lift (rd r ctx x)) (<-M.lift (rd r ctx y))))
 | .unOp op _ x=>do
  match <-M.lift (rd r ctx x) with
  | .s (.one l)=>pure (.val (.s (.one (<-BZ op l))))
  | _=>M.fail
 | .convert a b x=>do
  match <-M.lift (rd r ctx x) with
  | .s (.one (.vec q))=>do pure (.val (<-HV P r.st.hp a b q))
  | .s (.one l)=>pure (.val (.s (.one (<-Q0 P a b l))))
  | _=>M.fail
 | .fieldAddr t x f=>do
  match <-M.lift (rd r ctx x) with
  | .s (.one l)=>pure (.val (.s (.one (<-Q4 P t l f))))
  | _=>M.fail
 | .field t x f=>do
  match <-M.lift (rd r ctx x) with
  | .s (.agg l)=>pure (.val (.s (<-Q3 P t l f)))
  | _=>M.fail
 | .indexAddr t x ix=>do
  match <-M.lift (rd r ctx x),<-M.lift (rd r ctx ix) with
  | .s (.one (.vec b)),.s (.one i)=>pure (.val (.s (.one (<-Rf P r.st.hp t b i))))
  | .s (.one l),.s (.one i)=>pure (.val (.s (.one (<-Q1 P t l i))))
  | _,_=>M.fail
 | .buildSlice t len parts=>do
  let ps <-M.lift (yH r ctx parts.toList)
  Rk P r.st.hp t len ps
 | .makeSlice t l c=>do
  match <-M.lift (rd r ctx l),<-M.lift (rd r ctx c) with
  | .s (.one a),.s (.one b)=>Ri P r.st.hp t a b
  | _,_=>M.fail
 | .slice t x low high max=>do
  let v <-M.lift (rd r ctx x)
  let lo <-M.lift (H7 r ctx low)
  let hi <-M.lift (H7 r ctx high)
  let mx <-M.lift (H7 r ctx max)
  Rq P r.st.hp t v lo hi mx
 | .index t x ix=>do
  match <-M.lift (rd r ctx x),<-M.lift (rd r ctx ix) with
  | .s (.agg l),.s (.one i)=>pure (.val (.s (<-Q2 P t l i)))
  | .s (.one (.v (.string s))),.s (.one (.i _ a))=>do
   match <-M.lift (tk0 P t) with
   | .string =>
    Ae a s.size
    pure (.val (.s (.one (.i .u8 (<-emit (.vB (s.data.toList.map fun b=>.z b.toNat) a))))))
   | _=>M.fail
  | _,_=>M.fail
 | .extract x n=>do
  match <-M.lift (rd r ctx x) with
  | .t l=>pure (.val (.s (<-M.lift l[n]?)))
  | _=>M.fail
 | .makeFunc fn first cap =>
  match fn with
  | .func f=>do
   let vs <-M.lift (oE r ctx cap.toList)
   let bs <-M.lift (p_ Ic vs)
   if first.isEmpty then pure (.val (.s (.one (.kL f bs)))) else M.fail
  | _=>M.fail
 | .makeInterface t x=>do
  match <-M.lift (rd r ctx x) with
  | .s (.one (.p b (.c 0)))=>do
   match <-M.lift (tk P t) with
   | .ptr _=>pure (.val (.s (.one (.fV t b))))
   | _=>M.fail
  | _=>M.fail
 | .call c =>
  match c.callee with
  | .value x=>do
   let (f,bs) <-M.lift (qb (rd r ctx x))
   let vs <-M.lift (oE r ctx c.args.toList)
   match M7 P f,vs,bs with
   | some add,[.s (.one (.i .u64 a)),.s (.one (.i .u64 b)),.s (.one (.i .u64 q))],[]=>Rc add a b q
   | some _,_,_=>M.fail
   | none,_,_=>B1 P S f (vs++bs.map fun b=>.s (.one (.p b (.c 0)))) r.st.hp
  | .builtin b=>do
   let vs <-M.lift (oE r ctx c.args.toList)
   match b,vs with
   | .max,[.s (.one (.i k a)),.s (.one (.i k' b))] =>
    if m7 k k' then do
     match a,b with
     | .z m,.z n=>pure (.val (.s (.one (.i k (.z (if n>m then n else m))))))
     | a,b=>do
      let c <-emit (.gtr b a)
      pure (.val (.s (.one (.i k (<-yA c b a)))))
    else M.fail
   | .min,[.s (.one (.i k a)),.s (.one (.i k' b))] =>
    if m7 k k' then do
     match a,b with
     | .z m,.z n=>pure (.val (.s (.one (.i k (.z (if n<m then n else m))))))
     | a,b=>do
      let c <-emit (.lss b a)
      pure (.val (.s (.one (.i k (<-yA c b a)))))
    else M.fail
   | .len,[v]=>do pure (.val (<-Re P r.st.hp (<-M.lift c.argTypes[0]?) v))
   | .append,[s,x]=>do Rn P r.st.hp (<-M.lift c.argTypes[0]?) (<-M.lift c.argTypes[1]?) s x
   | _,_=>M.fail
  | .invoke x name=>do
   match <-M.lift (rd r ctx x) with
   | .s (.one (.fV t b))=>do
    let f <-M.lift (Fq P t name)
    let vs <-M.lift (oE r ctx c.args.toList)
    B1 P S f (.s (.one (.p b (.c 0)))::vs) r.st.hp
   | .s (.one (.alt a l))=>do
    let vs <-M.lift (oE r ctx c.args.toList)
    if BX true (nZ l) l&&r.st.hp.all (dw (ag.lt r.st.hp.length)) then do
     let c <-emit (.neq a (.z (nZ l)))
     lX c
     let z <-HR P S name vs r.st.hp a (l.filter fun x=>!x.2.isNil)
     pure (.hp (some z.1) z.2)
    else M.fail
   | _=>M.fail
 | _=>M.fail
def Rs (d:Nat) (l:List GE):Bool:=l.all fun e=>!Nat.beq e.d d
def Na (t:Nat) (l:List GE):List GE:=l.filter fun e=>!Nat.beq e.t t
def RS.put (r:RS) (dst:Option Tmp) (v:Option V):M RS :=
 match dst with
 | none=>pure r
 | some d=>if Rs d r.gl then pure ⟨⟨eg v r.st.sl d,r.st.hp⟩,Na d r.gl⟩ else M.fail
def RS.rM (r:RS) (dst:Option Tmp) (v:V) (d:Nat) (want:Bool):M RS :=
 match dst with
 | none=>pure r
 | some t =>
  if Rs t r.gl&&!Nat.beq t d&&decide (t<r.st.sl.length) then pure ⟨⟨eg none r.st.sl t,r.st.hp⟩,⟨t,v,d,want⟩::Na t r.gl⟩ else M.fail
def St.lt (s:St) (n:Nat):Bool:=s.sl.all (dw (V.lt n))&&s.hp.all (dw (ag.lt n))
def vO (q:Bool) (r:RS) (dst:Option Tmp) (x:OR):M RS :=
 match x with
 | .val v=>r.put dst (some v)
 | .hp v hp =>
  if !q&&(r.st.sl.all (dw (V.lt r.st.hp.length))&&r.gl.all (fun e=>e.v.lt r.st.hp.length)) then RS.put ⟨⟨r.st.sl,hp⟩,r.gl⟩ dst v
  else M.fail
def Nb (r:RS) (dst:Option Tmp) (d:Nat) (want:Bool) (x:OR):M RS :=
 match x with
 | .val v=>r.rM dst v d want
 | _=>M.fail
def vP:List (A×Bool)->M A
 | []=>pure (.t true)
 | (a,b)::l=>do
  let x <-(if b then pure a else BN a)
  let r <-vP l
  Hy x r
def B6:List (Option ag)->M (List (Option ag))
 | []=>pure []
 | b::l =>
  match b with
  | some (.v o ts _) =>
   if Nat.ble 1 ts.length then do
    let q <-emit (.sR [] [])
    let r <-B6 l
    pure (some (.v o ts q)::r)
   else do
    let r <-B6 l
    pure (none::r)
  | _=>do
   let r <-B6 l
   pure (none::r)
def Rt (r:RS) (dst:Option Tmp) (d:Nat) (want:Bool) (cs:List (A×Bool)) (n0:Nat) (v:Option V) (hp:List (Option ag)):M RS :=
 if r.st.sl.all (dw (V.lt r.st.hp.length))&&r.gl.all (fun e=>e.v.lt r.st.hp.length)&&Nat.ble n0 r.st.hp.length&&Nat.ble r.st.hp.length hp.length&&bH r.st.hp then do
  let c <-vP cs
  let t <-B6 (hp.drop r.st.hp.length)
  let s <-BV hp.length c ⟨r.st.sl,hp⟩ ⟨r.st.sl,r.st.hp++t⟩
  match v with
  | some v=>if v.lt hp.length then RS.rM ⟨s,r.gl⟩ dst v d want else M.fail
  | none=>RS.put ⟨s,r.gl⟩ dst none
 else M.fail
def B7 (P:Program) (S:bN) (q:Bool) (ops:List Oper) (r:RS) (o:Oper):M RS :=
 match o.guard with
 | none=>do
  let x <-iV P S r [] o.op
  vO q r o.dst x
 | some (j,want)=>do
  let d <-M.lift ((ops[j]?).bind (·.dst))
  match <-M.lift (BW r 8 d want) with
  | none=>r.put o.dst (some sX)
  | some (ctx,cs) =>
   match ctx with
   | []=>do
    let x <-iV P S r [] o.op
    vO q r o.dst x
   | _=>do
    let x <-HG cs (iV P S r ctx o.op)
    match x with
    | .hp v hp=>if q then M.fail else Rt r o.dst d want cs S.n0 v hp
    | x=>Nb r o.dst d want x
def vQ (P:Program) (S:bN) (q:Bool) (ops:List Oper):List Oper->RS->M RS
 | [],r=>pure r
 | o::l,r=>do
  let r1 <-B7 P S q ops r o
  vQ P S q ops l r1
def Z7:Op->Bool
 | .alloc _ | .box _ _ | .store _ _ _ | .makeSlice _ _ _ | .slice _ _ _ _ _ | .buildSlice _ _ _=>false
 | .call c=>match c.callee with
  | .builtin .append=>false
  | _=>true
 | _=>true
def zuT (o:Oper) (n:Nat):Bool:=(List.range n).all fun i=>o.after.any fun e=>Region.binds .any e&&Nat.beq e.on i
def xD (ops:List Oper):Bool:=ops.zipIdx.all fun p=>(p.1.after.all fun e=>!Region.binds .any e||Nat.blt e.on p.2) &&
 (match p.1.guard with | some (j,_)=>Nat.blt j p.2 | none=>true)
def Z8 (ops:List Oper) (n:Nat):Bool:=(ops.zipIdx.drop n).all fun p=>zuT p.1 p.2
def kN:Op->Bool
 | .move _ | .assign _ | .nilCheck _ | .binOp _ _ _ _ _ | .unOp _ _ _ | .convert _ _ _ | .fieldAddr _ _ _ | .indexAddr _ _ _ | .load _ _ | .field _ _ _ | .index _ _ _ | .extract _ _ | .pick _ _ _ | .build _ _=>true
 | .call c =>
  match c.callee with
  | .builtin .len=>true
  | _=>false
 | _=>false
def Nc (fx:List Nat) (r:RS) (ctx:Ctx):Op->Bool
 | .load _ x =>
  match rd r ctx x with
  | some (.s (.one (.p b _)))=>!cJ b fx&&dw ag.flat (nth r.st.hp b)
  | _=>true
 | .convert _ _ x =>
  match rd r ctx x with
  | some (.s (.one (.vec b)))=>!cJ b fx
  | _=>true
 | _=>true
def Ie (P:Program) (S:bN) (fx:List Nat) (r:RS) (ctx:Ctx) (op:Op):M OR:=if Nc fx r ctx op then iV P S r ctx op else M.fail
def aO:Op->Bool
 | .alloc _=>true
 | _=>false
def Ru (P:Program) (S:bN) (fx:List Nat) (ops:List Oper) (r:RS) (o:Oper):M RS :=
 if aO o.op then (if o.guard.isNone then r.put o.dst (some (.s (.one (.p r.st.hp.length (.c 0))))) else M.fail) else
 match o.guard with
 | none=>do
  let x <-Ie P S fx r [] o.op
  vO true r o.dst x
 | some (j,want)=>do
  let d <-M.lift ((ops[j]?).bind (·.dst))
  match <-M.lift (BW r 8 d want) with
  | none=>r.put o.dst (some sX)
  | some (ctx,cs) =>
   match ctx with
   | []=>do
    let x <-Ie P S fx r [] o.op
    vO true r o.dst x
   | _=>do
    let x <-HG cs (Ie P S fx r ctx o.op)
    match x with
    | .hp _ _=>M.fail
    | x=>Nb r o.dst d want x
def Ig (P:Program) (S:bN) (fx:List Nat) (ops:List Oper):List Oper->RS->M RS
 | [],r=>pure r
 | o::l,r=>do
  let r1 <-Ru P S fx ops r o
  Ig P S fx ops l r1
def rN:Op->Bool
 | .store _ _ _=>true
 | _=>false
def ju (o:Oper):List Nat:=(o.after.toList.filter fun e=>Region.binds .any e).map (·.on)
def jK (ops:List Oper):Nat->List Nat->List Nat
 | 0,l=>l
 | n+1,l=>if cJ n l then jK ops n ((match ops[n]? with | some o=>ju o | none=>[])++l) else jK ops n l
def qd (o:Oper):Oper:=if rN o.op then { o with op:=.move (.const (.bool false)) } else o
def l_ (o:Op):Bool:=rN o||aO o
def bE (N:Nat) (o:Oper):Oper :=
 if rN o.op then { o with op:=.move (.const (.bool false)) } else
 if aO o.op then { o with op:=.move (.const (.pointer (some ⟨N,0,none⟩))) } else o
def storeAt (ops:List Oper):List Nat:=(ops.zipIdx.filter fun p=>l_ p.1.op).map (·.2)
def Am:Operand->List Nat
 | .tmp t=>[t]
 | _=>[]
def Fv:Op->List Nat
 | .store _ x y=>Am x++Am y
 | _=>[]
def yM (l m:List Nat):Bool:=l.all fun x=>cJ x m
def Nf:List Nat->Bool
 | a::b::l=>Nat.blt a b&&Nf (b::l)
 | _=>true
def yN (vR:List Nat) (ts:List Nat) (p:Oper×Nat):Bool :=
 match p.1.dst with
 | some t=>!cJ t ts||cJ p.2 vR
 | none=>true
def Z9 (ops:List Oper) (i:Nat):Bool :=
 match ops[i]? with
 | some o=>yM ((storeAt ops).filter fun j=>Nat.blt j i) (jK ops i (ju o))&&ops.zipIdx.all (yN (jK ops i (ju o)) (Fv o.op))
 | none=>false
def Ng (ops:List Oper):Bool :=
 ops.all (fun o=>kN o.op||(l_ o.op&&o.guard.isNone&&(aO o.op||o.dst.isNone)))&&Nf (storeAt ops)&&(storeAt ops).all (Z9 ops)&&((ops.filter fun o=>l_ o.op).drop 1).all fun o=>rN o.op
def Ih (P:Program) (S:bN) (fx:List Nat) (sl:List (Option V)) (gl:List GE):List Oper->List (Option ag)->M (List (Option ag))
 | [],hp=>pure hp
 | o::l,hp=>do
  match o.op with
  | .store t x y =>
   match <-M.lift (rd ⟨⟨sl,hp⟩,gl⟩ [] x) with
   | .s (.one (.p b _)) =>
    if cJ b fx then do
     let c6 <-Fu P ⟨⟨sl,hp⟩,gl⟩ [] t x y
     Ih P S fx sl gl l c6
    else M.fail
   | _=>M.fail
  | .alloc t =>
   let z <-M.lift (zeroCells P t)
   if cJ hp.length fx&&!z.any Lf.isNil&&bH hp&&z.all (Lf.lt hp.length) then Ih P S fx sl gl l (hp++[some (.c true (z.map some))])
   else M.fail
  | _=>M.fail
def Rv (P:Program) (S:bN) (fx:List Nat) (ops:List Oper) (s:St):M St:=do
 if s.sl.all (dw (V.lt s.hp.length))&&bH s.hp then do
  let r <-Ig P S fx (ops.map qd) (ops.map qd) ⟨s,[]⟩
  let hp <-Ih P S fx r.st.sl r.gl (ops.filter fun o=>l_ o.op) s.hp
  pure ⟨r.st.sl,hp⟩
 else M.fail
def zwr (r:RS) (o:Oper):List Nat :=
 match o.op with
 | .store _ x _ =>
  match rd r [] x with
  | some (.s (.one (.p b _)))=>[b]
  | _=>[]
 | .alloc _=>[r.st.hp.length]
 | _=>[]
def Rw (P:Program) (S:bN) (ops:List Oper) (s:St):M St:=fun n =>
 Rv P S (match Ig P S [] (ops.map qd) (ops.map qd) ⟨s,[]⟩ n with | some (r,_,_,_)=>ops.flatMap (zwr r) | none=>[]) ops s n
def Lf.qf:Lf->Lf->Bool
 | .i k a,.i k' a'=>m7 k k'&&a.beq a'
 | .b a,.b a'=>a.beq a'
 | .p q (.c n),.p q' (.c n')=>Nat.beq q q'&&Nat.beq n n'
 | .cG,.cG=>true
 | .vec q,.vec q'=>Nat.beq q q'
 | .mp q,.mp q'=>Nat.beq q q'
 | .fV t q,.fV t' q'=>Nat.beq t t'&&Nat.beq q q'
 | .v x,.v y=>tN x y
 | .e t a j,.e t' a' j'=>t.vE t'&&a.beq a'&&Nat.beq j j'
 | .str a,.str a'=>a.beq a'
 | _,_=>false
def Fw:List Lf->List Lf->Bool
 | [],[]=>true
 | a::l,b::l'=>a.qf b&&Fw l l'
 | _,_=>false
def V.qf:V->V->Bool
 | .s (.one a),.s (.one b)=>a.qf b
 | .s (.agg a),.s (.agg b)=>Fw a b
 | _,_=>false
def B_:List V->List V->Bool
 | [],[]=>true
 | a::l,b::l'=>a.qf b&&B_ l l'
 | _,_=>false
def a_:Op->Option (Operand×List Operand)
 | .call c =>
  match c.callee with
  | .value x=>some (x,c.args.toList)
  | _=>none
 | _=>none
def ku (o:Op):Bool:=aO o||(a_ o).isSome
def Ii (o:Op):List Nat :=
 match a_ o with
 | some (x,l)=>Am x++l.flatMap Am
 | none=>[]
def dO (v:Value) (o:Oper):Oper:=if ku o.op then { o with op:=.move (.const v) } else o
def Nh (ops:List Oper):List Nat:=(ops.zipIdx.filter fun p=>ku p.1.op).map (·.2)
def Z_ (ops:List Oper):List Nat:=(ops.zipIdx.filter fun p=>(a_ p.1.op).isSome).map (·.2)
def zvL (pre:List Oper) (i:Nat):Bool :=
 match pre[i]? with
 | some o=>(!(a_ o.op).isSome||yM ((Z_ pre).filter fun j=>Nat.blt j i) (jK pre i (ju o)))&&pre.zipIdx.all (yN (jK pre i (ju o)) (Ii o.op))
 | none=>false
def Rx (ops:List Oper) (n:Nat):Bool:=(ops.zipIdx.drop n).all fun p=>(List.range p.2).all fun j=>cJ j (jK (ops.take (p.2+1)) p.2 (ju p.1))
def Ca (o:Oper):Bool:=(kN o.op&&!ku o.op)||(ku o.op&&o.guard.isNone)
def Ry (ops:List Oper) (n:Nat):Bool :=
 (ops.take n).all Ca&&(Nh (ops.take n)).all (zvL (ops.take n))&&Rx ops n&&Region.lexB .any ((ops.take n).map (dO (.bool false))).toArray&&xD ops
def uW:Option ag->Option ag
 | some b=>if b.flat&&!b.own then some b else none
 | none=>none
def Fx (P:Program):List Oper->Option (List (List Lf))
 | []=>some []
 | o::l =>
  match o.op with
  | .alloc t =>
   match zeroCells P t,Fx P l with
   | some z,some zs=>some (z::zs)
   | _,_=>none
  | _=>Fx P l
def Lf.kz (p:Nat->Bool):Lf->Bool
 | .p q (.c _)=>p q
 | .vec q=>p q
 | .p _ _ | .gp _ _ | .kL _ _ | .fV _ _ | .mp _ | .alt _ _=>false
 | _=>true
def V.kz (p:Nat->Bool):V->Bool
 | .s (.one a)=>a.kz p
 | .s (.agg l)=>l.all (Lf.kz p)
 | .t l=>l.all fun v=>v.cells.all (Lf.kz p)
def An (P:Program) (S:bN) (ops:List Oper) (b0:Nat) (hc:List (Option ag)):List Oper->Nat->RS->List (Option ag)->M (RS×List (Option ag)×List (Nat×List V×V))
 | [],_,r,hn=>pure (r,hn,[])
 | o::l,b,r,hn =>
  if aO o.op then do
   let v:V:=.s (.one (.p b (.c 0)))
   let r1 <-r.put o.dst (some v)
   let z <-An P S ops b0 hc l (b+1) r1 hn
   pure (z.1,z.2.1,(0,[],v)::z.2.2)
  else
   match a_ o.op with
   | some (x,args)=>do
    let (f,bs) <-M.lift (qb (rd r [] x))
    let vs <-M.lift (oE r [] args)
    if bs.isEmpty then do
     match <-HN P S f vs (hc++hn.map uW) with
     | .val v =>
      if v.ep&&v.kz (fun q=>Nat.blt q b0) then do
       let r1 <-r.put o.dst (some v)
       let z <-An P S ops b0 hc l b r1 hn
       pure (z.1,z.2.1,(f,vs,v)::z.2.2)
      else M.fail
     | .hp (some v) c6 =>
      if v.ep&&v.kz (fun q=>Nat.blt q b0||(Nat.ble (hc.length+hn.length) q&&Nat.blt q c6.length))&&Nat.ble (hc.length+hn.length) c6.length then do
       let r1 <-r.put o.dst (some v)
       let z <-An P S ops b0 hc l b r1 (hn++c6.drop (hc.length+hn.length))
       pure (z.1,z.2.1,(f,vs,v)::z.2.2)
      else M.fail
     | .hp none _=>M.fail
    else M.fail
   | none=>do
    let r1 <-B7 P S true ops r o
    let z <-An P S ops b0 hc l b r1 hn
    pure (z.1,z.2.1,(0,[],default)::z.2.2)
def Ni (r : RS) : List Oper -> List (Nat × List V × V) -> Bool
  | [], [] => true
  | o :: l, e :: es =>
    (match a_ o.op with
     | some (x, args) =>
       (match qb (rd r [] x), oE r [] args with
        | some (f, []), some vs => Nat.beq f e.1 && B_ vs e.2.1
        | _, _ => false)
     | none => true) && Ni r l es
  | _, _ => false
def Rz (P:Program) (S:bN) (ops:List Oper) (n:Nat) (s:St):M St:=do
 if s.sl.all (dw (V.lt s.hp.length))&&bH s.hp then do
  let zs <-M.lift (Fx P (ops.take n))
  let z <-An P S (ops.take n) s.hp.length ((s.hp++zs.map fun _=>none).map uW) (ops.take n) s.hp.length ⟨s,[]⟩ []
  if zs.all (fun z=>!z.any Lf.isNil&&z.all (Lf.lt s.hp.length))&&z.2.1.all (dw fun b=>b.flat&&b.lt s.hp.length)&&Ni z.1 (ops.take n) z.2.2 then do
   let r2 <-vQ P S false ops (ops.drop n) ⟨⟨z.1.st.sl,s.hp++zs.map (fun z=>some (.c true (z.map some)))++z.2.1⟩,z.1.gl⟩
   pure r2.st
  else M.fail
 else M.fail
def bI:Op->Bool
 | .alloc _ | .box _ _ | .buildSlice _ _ _ | .makeSlice _ _ _ | .slice _ _ _ _ _=>true
 | .call c =>
  match c.callee with
  | .value _=>true
  | .builtin .append=>true
  | _=>false
 | _=>false
def RA:Op->List Operand
 | .box _ x=>[x]
 | .buildSlice _ _ ps=>ps.toList.map (·.2)
 | .makeSlice _ l c=>[l,c]
 | .slice _ x lo hi mx=>x::(lo.toList++hi.toList++mx.toList)
 | .call c=>(match c.callee with | .value x=>[x] | _=>[])++c.args.toList
 | _=>[]
def Ao (o:Op):List Nat:=(RA o).flatMap Am
def Fy (o:Oper):Bool:=(kN o.op&&!bI o.op)||(bI o.op&&o.guard.isNone)
def eA (v:Value) (o:Oper):Oper:=if bI o.op then { o with op:=.move (.const v) } else o
def A.oG:A->A->Bool
 | .r a,.r b=>Nat.beq a b
 | .z a,.z b=>decide (a=b)
 | .t a,.t b=>jt a b
 | _,_=>false
def Lf.oG:Lf->Lf->Bool
 | .i k a,.i k' a'=>m7 k k'&&a.oG a'
 | .b a,.b a'=>a.oG a'
 | .p q (.c n),.p q' (.c n')=>Nat.beq q q'&&Nat.beq n n'
 | .cG,.cG=>true
 | .vec q,.vec q'=>Nat.beq q q'
 | .mp q,.mp q'=>Nat.beq q q'
 | .e t a j,.e t' a' j'=>t.vE t'&&a.oG a'&&Nat.beq j j'
 | _,_=>false
def Fz:List (Option Lf)->List (Option Lf)->Bool
 | [],[]=>true
 | none::l,none::l'=>Fz l l'
 | some a::l,some b::l'=>a.oG b&&Fz l l'
 | _,_=>false
def ag.oG:ag->ag->Bool
 | .c o cs,.c o' cs'=>jt o o'&&Fz cs cs'
 | .v o ts a,.v o' ts' a'=>jt o o'&&Ac ts ts'&&a.oG a'
 | .obj o k a,.obj o' k' a'=>jt o o'&&Nat.beq k k'&&a.oG a'
 | .l o f ts a,.l o' f' ts' a'=>jt o o'&&jt f f'&&Ac ts ts'&&a.oG a'
 | _,_=>false
def FA:List (Option ag)->List (Option ag)->Bool
 | [],_=>true
 | _::l,none::l'=>FA l l'
 | some x::l,some y::l'=>x.oG y&&FA l l'
 | _,_=>false
def zxN:Alt->List Nat
 | .p q _=>[q]
 | .fV _ q=>[q]
 | _=>[]
def RB:Lf->List Nat
 | .p q _=>[q]
 | .vec q=>[q]
 | .kL _ bs=>bs
 | .fV _ q=>[q]
 | .mp q=>[q]
 | .alt _ l=>l.flatMap fun x=>zxN x.2
 | _=>[]
def zxO (v:V1):List Nat:=v.cells.flatMap RB
def Ij:V->List Nat
 | .s v=>zxO v
 | .t l=>l.flatMap zxO
def zxP:Option ag->List Nat
 | some (.c _ cs)=>cs.flatMap fun c=>match c with | some l=>RB l | none=>[]
 | some (.m _ _ _ cs)=>cs.flatMap RB
 | _=>[]
def Nj (hp:List (Option ag)):Nat->List Nat->List Nat->List Nat
 | 0,_,d=>d
 | _+1,[],d=>d
 | n+1,q::l,d=>if cJ q d then Nj hp n l d else Nj hp n (zxP (nth hp q)++l) (q::d)
def dF (fp:List Nat):Nat->List (Option ag)->List (Option ag)
 | _,[]=>[]
 | j,x::l=>(if cJ j fp then x else none)::dF fp (j+1) l
def sY (ts:List Nat):Nat->List (Option V)->List (Option V)
 | _,[]=>[]
 | j,x::l=>(if cJ j ts then x else none)::sY ts (j+1) l
def ag.dh (p:Nat->Bool):ag->Bool
 | .c _ cs=>cs.all (dw fun l=>l.kz p)
 | .v _ _ _=>true
 | .obj _ _ _=>true
 | .l _ _ _ _=>true
 | .m _ _ _ _=>false
def tR (base:Nat):Option ag->Option ag
 | some b=>if b.flat&&b.dh (fun q=>Nat.blt q base) then some b.b9 else none
 | none=>none
structure h_ where
 fp:List Nat
 a:Nat
 b:Nat
 ks:List Nat
 v:V
 sl:List (Option V)
 deriving Inhabited
def mc (base:Nat) (fp:List Nat) (a b:Nat) (q:Nat):Bool:=Nat.blt q base||cJ q fp||(Nat.ble a q&&Nat.blt q b)
def RC (P:Program) (S:bN) (base:Nat) (r:RS) (H:List (Option ag)) (dead:List Nat) (o:Oper):M (List (Option ag)×h_):=do
 let sl:=sY (Ao o.op) 0 r.st.sl
 let fp:=(Nj H 60 ((Ao o.op).flatMap fun t=>match nth r.st.sl t with | some v=>Ij v | none=>[]) []).filter fun q=>!cJ q dead&&Nat.blt q H.length
 match <-iV P S ⟨⟨sl,dF fp 0 H⟩,[]⟩ [] o.op with
 | .val v=>if v.ep&&v.kz (mc base [] 0 0) then pure (H,⟨fp,H.length,H.length,[],v,sl⟩) else M.fail
 | .hp (some v) hp' =>
  let ks:=fp.filter fun q=>(nth (dF fp 0 H) q).isSome&&(nth hp' q).isNone
  let news:=hp'.drop H.length
  if Nat.ble H.length hp'.length&&FA (dF fp 0 H) hp'&&(ks.all fun q=>Nat.ble base q)&&news.all (dw fun b=>b.flat&&b.dh (mc base fp H.length hp'.length))&&v.ep&&v.kz (mc base [] H.length hp'.length)
  then pure (H++news,⟨fp,H.length,hp'.length,ks,v,sl⟩)
  else M.fail
 | .hp none _=>M.fail
def FB (P:Program) (S:bN) (ops:List Oper) (base:Nat):List Oper->RS->List (Option ag)->List Nat->M (RS×List (Option ag)×List h_)
 | [],r,H,_=>pure (r,H,[])
 | o::l,r,H,dead =>
  if bI o.op then do
   let x <-RC P S base r H dead o
   let r1 <-r.put o.dst (some x.2.v)
   let z <-FB P S ops base l r1 x.1 (x.2.ks++dead)
   pure (z.1,z.2.1,x.2::z.2.2)
  else do
   let r1 <-B7 P S true ops r o
   let z <-FB P S ops base l r1 H dead
   pure (z.1,z.2.1,⟨[],H.length,H.length,[],default,[]⟩::z.2.2)
def V.Cb (x y:V):Bool :=
 x.qf y||(match x,y with
  | .s (.one (.alt a l)),.s (.one (.alt a' l'))=>a.beq a'&&BL l l'
  | _,_=>false)
def Ap:List (Option V)->List (Option V)->Bool
 | [],[]=>true
 | none::l,_::l'=>Ap l l'
 | some v::l,some v'::l'=>v'.Cb v&&Ap l l'
 | _,_=>false
def sZ (pre:List Oper) (i:Nat):List Nat :=
 match pre[i]? with
 | some o=>jK pre i (ju o)
 | none=>[]
def Cc (pre : List Oper) (es : List h_) (base : Nat) (p : Oper × Nat) (e : h_) : Bool :=
  !bI p.1.op ||
  ((e.fp.all fun q => Nat.blt q base || es.zipIdx.any fun x => Nat.ble x.1.a q && Nat.blt q x.1.b && cJ x.2 (sZ pre p.2)) &&
   (es.zipIdx.all fun x => Nat.beq x.2 p.2 || cJ x.2 (sZ pre p.2) || e.ks.all fun q => !cJ q x.1.fp) &&
   pre.zipIdx.all (yN (sZ pre p.2) (Ao p.1.op)))
def Ik (pre:List Oper) (es:List h_) (base:Nat):Nat->List Oper->List h_->Bool
 | _,[],[]=>true
 | i,o::l,e::r=>Cc pre es base (o,i) e&&Ik pre es base (i+1) l r
 | _,_,_=>false
def Il:List h_->List Nat
 | []=>[]
 | e::r=>e.ks++Il r
def qg (dead:List Nat):Nat->List (Option ag)->List (Option ag)
 | _,[]=>[]
 | j,x::l=>(match x with | some b=>if b.own&&!b.shr&&!cJ j dead then some b else none | none=>none)::qg dead (j+1) l
def RD (ops:List Oper) (n:Nat):Bool :=
 (ops.take n).all Fy&&Rx ops n&&Region.lexB .any ((ops.take n).map (eA (.bool false))).toArray&&xD ops
def Im (sl:List (Option V)):List Oper->List h_->Bool
 | [],[]=>true
 | o::l,e::r=>(!bI o.op||Ap e.sl sl)&&Im sl l r
 | _,_=>false
def Cd (P:Program) (S:bN) (ops:List Oper) (n:Nat) (s:St):M St:=do
 if s.sl.all (dw (V.lt s.hp.length))&&bH s.hp then do
  let z <-FB P S (ops.take n) s.hp.length (ops.take n) ⟨s,[]⟩ (s.hp.map (tR s.hp.length)) []
  if Ik (ops.take n) z.2.2 s.hp.length 0 (ops.take n) z.2.2&&Im z.1.st.sl (ops.take n) z.2.2 then do
   let r2 <-vQ P S false ops (ops.drop n) ⟨⟨z.1.st.sl,s.hp++(qg (Il z.2.2) 0 z.2.1).drop s.hp.length⟩,z.1.gl⟩
   pure r2.st
  else M.fail
 else M.fail
def Io:Op->Option (List Operand)
 | .alloc _=>some []
 | .box _ x=>some [x]
 | .buildSlice _ _ ps=>some (ps.toList.map (·.2))
 | .makeSlice _ l c=>some [l,c]
 | .slice _ x lo hi mx=>some (x::(lo.toList++hi.toList++mx.toList))
 | .store _ x y=>some [x,y]
 | .makeMap _ r=>some r.toList
 | .insert _ m k v=>some [m,k,v]
 | .lookup _ m k _=>some [m,k]
 | .makeInterface _ x=>some [x]
 | .convert _ _ x=>some [x]
 | .call c=>some ((match c.callee with | .value x=>[x] | .invoke x _=>[x] | .builtin _=>[])++c.args.toList)
 | _=>none
def vS (o:Op):List Nat:=((Io o).getD []).flatMap Am
def bD (o:Op):Bool:=!kN o
def RE (o:Op):Bool :=
 match o with
 | .convert _ _ _=>true
 | _=>false
def eB (o:Op):Bool:=bD o||RE o
def Ip (o:Oper):Bool:=kN o.op||(Io o.op).isSome
def dz (v:Value) (o:Oper):Oper:=if eB o.op then { o with op:=.move (.const v) } else o
structure jR where
 sl:List (Option V)
 gl:List GE
 v:V
 H:List (Option ag)
 R:List (Option ag)
 deriving Inhabited
def RF:List (Option ag)->List (Option ag)->List (Option ag)
 | some b'::l',some b::l=>(if b.oG b' then some b else none)::RF l' l
 | _::l',_::l=>none::RF l' l
 | [],l=>l.map fun _=>none
 | _,[]=>[]
def zxQ (HL:Option (List (Option ag))) (H:List (Option ag)):List (Option ag) :=
 match HL with
 | some l=>RF l H
 | none=>H
def RG (r : RS) (o : Op) (HL : Option (List (Option ag))) (H : List (Option ag)) : List (Option ag) :=
  match o with
  | .convert _ _ x =>
    (match rd r [] x with
     | some (.s (.one (.i _ _))) => H.map fun _ => none
     | _ => zxQ HL H)
  | _ => zxQ HL H
def RH (n0:Nat) (cs:List (A×Bool)) (H H':List (Option ag)):M (List (Option ag)) :=
 if Nat.ble n0 H.length&&Nat.ble H.length H'.length&&bH H then do
  let c <-vP cs
  let t <-B6 (H'.drop H.length)
  let s <-BV H'.length c ⟨[],H'⟩ ⟨[],H++t⟩
  if Nat.ble H'.length s.hp.length&&bH s.hp then pure s.hp else M.fail
 else M.fail
def uX (P:Program) (S:bN) (ops:List Oper) (HL:Option (List (Option ag))):List Oper->RS->List (Option ag)->M (RS×List jR)
 | [],r,_=>pure (r,[])
 | o::l,r,H =>
  if eB o.op then
   let R:=if bD o.op then H else RG r o.op HL H
   match o.guard with
   | some (j,want)=>do
    let d <-M.lift ((ops[j]?).bind (·.dst))
    let sl:=sY (d::r.gl.map (·.d)++vS o.op) 0 r.st.sl
    match <-M.lift (BW ⟨⟨sl,R⟩,r.gl⟩ 8 d want) with
    | none=>do
     let r1 <-r.put o.dst (some sX)
     let z <-uX P S ops HL l r1 H
     pure (z.1,⟨sl,r.gl,sX,H,R⟩::z.2)
    | some (ctx,cs)=>do
     match <-HG cs (iV P S ⟨⟨sl,R⟩,r.gl⟩ ctx o.op) with
     | .val v =>
      if v.ep&&v.lt H.length&&(bD o.op||v.lt 0) then do
       let r1 <-(if ctx.isEmpty then r.put o.dst (some v) else r.rM o.dst v d want)
       let z <-uX P S ops HL l r1 H
       pure (z.1,⟨sl,r.gl,v,H,R⟩::z.2)
      else M.fail
     | .hp (some v) H' =>
      if bD o.op&&v.ep&&v.lt H'.length then do
       let H2 <-RH S.n0 cs H H'
       let r1 <-(if ctx.isEmpty then r.put o.dst (some v) else r.rM o.dst v d want)
       let z <-uX P S ops HL l r1 H2
       pure (z.1,⟨sl,r.gl,v,H2,R⟩::z.2)
      else M.fail
     | .hp none _=>M.fail
   | none=>do
   let sl:=sY (vS o.op) 0 r.st.sl
   match <-iV P S ⟨⟨sl,R⟩,[]⟩ [] o.op with
   | .val v =>
    if v.ep&&v.lt H.length&&(bD o.op||v.lt 0) then do
     let r1 <-r.put o.dst (some v)
     let z <-uX P S ops HL l r1 H
     pure (z.1,⟨sl,[],v,H,R⟩::z.2)
    else M.fail
   | .hp (some v) H' =>
    if bD o.op&&v.ep&&v.lt H'.length&&Nat.ble H.length H'.length&&bH H' then do
     let r1 <-r.put o.dst (some v)
     let z <-uX P S ops HL l r1 H'
     pure (z.1,⟨sl,[],v,H',R⟩::z.2)
    else M.fail
   | .hp none H' =>
    if bD o.op&&o.dst.isNone&&Nat.ble H.length H'.length&&bH H' then do
     let z <-uX P S ops HL l r H'
     pure (z.1,⟨sl,[],sX,H',R⟩::z.2)
    else M.fail
  else do
   let r1 <-B7 P S true ops r o
   let z <-uX P S ops HL l r1 H
   pure (z.1,⟨[],[],sX,H,H⟩::z.2)
def vT:List (Option ag)->List (Option ag)->Bool
 | [],_=>true
 | none::l,l'=>vT l l'.tail
 | some x::l,some y::l'=>x.oG y&&vT l l'
 | some _::_,_=>false
def Iq (pre:List Oper) (o:Oper):List Nat :=
 match o.guard with
 | some (j,_)=>((pre[j]?).bind (·.dst)).toList
 | none=>[]
def Ir (pre:List Oper) (p:Oper×Nat):Bool :=
 !eB p.1.op||(!bD p.1.op||(pre.zipIdx.all fun q=>!bD q.1.op||!Nat.blt q.2 p.2||cJ q.2 (sZ pre p.2)))&&pre.zipIdx.all (yN (sZ pre p.2) (Iq pre p.1++vS p.1.op))
def Nk (ops:List Oper) (n:Nat):Bool :=
 (ops.take n).all Ip&&(ops.take n).zipIdx.all (Ir (ops.take n))&&Rx ops n&&Region.lexB .any ((ops.take n).map (dz (.bool false))).toArray&&xD ops
def GE.qf (x y:GE):Bool:=Nat.beq x.t y.t&&Nat.beq x.d y.d&&jt x.want y.want&&x.v.Cb y.v
def FC (sl:List (Option V)) (gl:List GE):List Oper->List jR->Bool
 | [],[]=>true
 | o::l,e::r=>(!eB o.op||(Ap e.sl sl&&e.gl.all fun x=>gl.any fun y=>y.qf x))&&FC sl gl l r
 | _,_=>false
def Aq (pre:List Oper) (n:Nat):Bool :=
 match pre[n]? with
 | some o=>bD o.op
 | none=>false
def FD (pre:List Oper) (vR:List Nat):Nat->Nat
 | 0=>0
 | n+1=>if cJ n vR&&Aq pre n then n+1 else FD pre vR n
def fF (H:List (Option ag)) (es:List jR):Nat->List (Option ag)
 | 0=>H
 | i+1=>(es.getD i default).H
def zvM (nq : Nat) (H : List (Option ag)) (pre : List Oper) (es : List jR) : Bool :=
  pre.zipIdx.all fun p => bD p.1.op || !eB p.1.op ||
    (match es[p.2]? with
     | some e => Nat.ble nq e.R.length && ((List.range (pre.length + 1)).all fun t => Nat.blt t (FD pre (sZ pre p.2) pre.length) || vT e.R (fF H es t))
     | none => false)
def zqB (es:List jR):Nat->List (Option ag)->List (Option ag)
 | _,[]=>[]
 | j,x::l=>(match x with | some b=>if es.all (fun e=>match nth e.H j with | some b'=>b.oG b' | none=>false) then some b else none | none=>none)::zqB es (j+1) l
def FF (H:List (Option ag)):List jR->List (Option ag)
 | []=>H
 | e::r=>FF e.H r
def Nl (P:Program) (S:bN) (ops:List Oper) (n:Nat) (s:St) (Hq:List (Option ag)) (HL:Option (List (Option ag))):M St:=do
 if s.sl.all (dw (V.lt s.hp.length))&&bH s.hp&&Nat.beq Hq.length s.hp.length&&vT Hq s.hp then do
  let z <-uX P S (ops.take n) HL (ops.take n) ⟨⟨s.sl,Hq⟩,[]⟩ s.hp
  if z.2.all (fun e=>vT Hq e.H)&&FC z.1.st.sl z.1.gl (ops.take n) z.2&&zvM Hq.length s.hp (ops.take n) z.2 then do
   let r2 <-vQ P S false ops (ops.drop n) ⟨⟨z.1.st.sl,FF s.hp z.2⟩,z.1.gl⟩
   pure r2.st
  else M.fail
 else M.fail
def RI (P:Program) (S:bN) (ops:List Oper) (n:Nat) (s:St):M St:=fun k =>
 match uX P S (ops.take n) none (ops.take n) ⟨s,[]⟩ s.hp k with
 | some ((_,es),_,_,_)=>Nl P S ops n s (zqB es 0 s.hp) (some (FF s.hp es)) k
 | none=>Nl P S ops n s s.hp none k
def M.orElse' {α:Type} (x y:M α):M α:=fun n =>
 match x n with
 | some r=>some r
 | none=>y n
def RJ (P:Program) (S:bN) (ops:Array Oper) (s:St):M St :=
 let n:=(ops.toList.takeWhile fun o=>Z7 o.op).length
 if Region.lexB .any (ops.toList.take n).toArray&&Z8 ops.toList n then
  if P.follows .mixedOrders&&xD ops.toList then do
   let r <-vQ P S true (ops.toList.take n) (ops.toList.take n) ⟨s,[]⟩
   let r2 <-vQ P S false ops.toList (ops.toList.drop n) r
   pure r2.st
  else M.fail
 else if Ng ops.toList&&P.follows .mixedOrders&&Region.lexB .any (ops.toList.map (bE 0)).toArray&&xD ops.toList then Rw P S ops.toList s
 else M.fail
def RK (P:Program) (S:bN) (ops:Array Oper) (s:St):M St :=
 let n:=(ops.toList.takeWhile Ca).length
 if Ry ops.toList n&&P.follows .mixedOrders then Rz P S ops.toList n s else M.fail
def RL (P:Program) (S:bN) (ops:Array Oper) (s:St):M St :=
 let n:=(ops.toList.takeWhile Fy).length
 if RD ops.toList n&&P.follows .mixedOrders then Cd P S ops.toList n s else M.fail
def RM (P:Program) (S:bN) (ops:Array Oper) (s:St):M St :=
 let n:=(ops.toList.takeWhile Ip).length
 if Nk ops.toList n&&P.follows .mixedOrders then RI P S ops.toList n s else M.fail
def zk5 (P:Program) (S:bN) (ops:Array Oper) (s:St):M St:=(RM P S ops s).orElse' ((RK P S ops s).orElse' (RL P S ops s))
def RN (P:Program) (S:bN) (ops:Array Oper) (draw:Bool) (s:St):M St :=
 if draw then (RJ P S ops s).orElse' (zk5 P S ops s)
 else do
  let r <-vQ P S false ops.toList ops.toList ⟨s,[]⟩
  pure r.st
inductive K where
 | normal
 | ret
 | exit (id:Nat)
 | goto (l:Nat)
 deriving Inhabited
inductive X where
 | done (k:K) (s:St)
 | br (c:A) (x y:X)
def K.bq:K->Bool
 | .normal=>true
 | _=>false
def X.n4:X->M A
 | .done k _=>pure (.t k.bq)
 | .br c x y=>do
  let a <-x.n4
  let b <-y.n4
  Ff c a b
def X.Ce (n0:Nat):X->M (Option St)
 | .done k s=>pure (if k.bq then some s else none)
 | .br c x y=>do
  match <-x.Ce n0,<-y.Ce n0 with
  | some a,some b=>do pure (some (<-BV n0 c a b))
  | some a,none=>pure (some a)
  | none,some b=>pure (some b)
  | none,none=>pure none
def X.kill:X->Option X
 | .done k s=>if k.bq then none else some (.done k s)
 | .br c x y =>
  match x.kill,y.kill with
  | some a,some b=>some (.br c a b)
  | some a,none=>some a
  | none,some b=>some b
  | none,none=>none
def K.inBlock (id:Nat):K->K
 | .exit i=>if Nat.beq i id then .normal else .exit i
 | k=>k
def X.inBlock (id:Nat):X->X
 | .done k s=>.done (k.inBlock id) s
 | .br c x y=>.br c (x.inBlock id) (y.inBlock id)
def X.noGoto:X->Bool
 | .done k _=>match k with | .goto _=>false | _=>true
 | .br _ x y=>x.noGoto&&y.noGoto
def X.andThen (n0:Nat) (x:X) (f:St->M X):M X:=do
 let c <-x.n4
 match <-x.Ce n0 with
 | none=>pure x
 | some s =>
  match x.kill with
  | none=>f s
  | some z =>
   match c with
   | .t true=>f s
   | c=>do
    let y <-under c true (f s)
    pure (.br c y z)
def K.swap (l:Nat):K->K
 | .normal=>.goto l
 | .goto m=>if Nat.beq m l then .normal else .goto m
 | k=>k
def X.swap (l:Nat):X->X
 | .done k s=>.done (k.swap l) s
 | .br c x y=>.br c (x.swap l) (y.swap l)
def X.goal:X->Option Nat
 | .done (.goto l) _=>some l
 | .done _ _=>none
 | .br _ x y=>match x.goal with
  | some l=>match y.goal with
   | some m=>some (min l m)
   | none=>some l
  | none=>y.goal
def Nm (n0:Nat) (ev:Code->St->M X) (c:Code):Nat->X->M X
 | 0,_=>M.fail
 | t+1,x =>
  match x.goal with
  | none=>if x.noGoto then pure x else M.fail
  | some l =>
   match findLabel c l with
   | none=>M.fail
   | some rest=>do
    let z <-(x.swap l).andThen n0 (fun s=>do pure ((<-ev rest s).swap l))
    Nm n0 ev c t (z.swap l)
def X.each:X->(St->M X)->M X
 | .done k s,f=>if k.bq then f s else pure (.done k s)
 | .br c x y,f=>do
  let a <-under c true (x.each f)
  let b <-under c false (y.each f)
  pure (.br c a b)
def M.opt {α:Type} (x:M α):M (Option α):=fun n =>
 match x n with
 | some (a,n1,e,d)=>some (some a,n1,e,d)
 | none=>some (none,n,[],[])
def Is (r:RS):Nat->Nat->Option (Nat×A)
 | 0,_=>none
 | n+1,d =>
  match nth r.st.sl d with
  | some (.s (.one (.b a)))=>some (d,a)
  | some _=>none
  | none =>
   match Fm d r.gl with
   | some e=>Is r n e.d
   | none=>none
def FG (d:Nat) (b:Bool):List GE->List (Option V)->List (Option V)×List GE
 | [],sl=>(sl,[])
 | e::l,sl =>
  let q:=FG d b l sl
  if Nat.beq e.d d then (if (nth q.1 e.t).isNone then eg (some (if jt e.want b then e.v else sX)) q.1 e.t else q.1,q.2)
  else (q.1,e::q.2)
def RS.vU (r:RS) (d:Nat) (b:Bool):RS :=
 let q:=FG d b r.gl (eg (some (.s (.one (.b (.t b))))) r.st.sl d)
 ⟨⟨q.1,r.st.hp⟩,q.2⟩
def FH (P:Program) (S:bN) (ops:List Oper):Nat->List Oper->RS->M X
 | 0,_,_=>M.fail
 | _+1,[],r=>pure (.done .normal r.st)
 | n+1,o::l,r=>do
  match <-M.opt (B7 P S false ops r o) with
  | some r1=>FH P S ops n l r1
  | none =>
   match o.guard with
   | none=>M.fail
   | some (j,_)=>do
    let d <-M.lift ((ops[j]?).bind (·.dst))
    let g <-M.lift (Is r 8 d)
    if g.2.const then M.fail else do
     let x <-under g.2 true (FH P S ops n (o::l) (r.vU g.1 true))
     let y <-under g.2 false (FH P S ops n (o::l) (r.vU g.1 false))
     pure (.br g.2 x y)
def A.below (n:Nat):A->Bool
 | .r i=>Nat.blt i n
 | _=>true
def Code.qh:Code->List Tmp
 | .region _ ops _=>ops.toList.filterMap (·.dst)
 | .seq a b=>Code.qh a++Code.qh b
 | .cond _ a b=>Code.qh a++Code.qh b
 | .block _ c=>Code.qh c
 | .loop c=>Code.qh c
 | .scope c=>Code.qh c
 | _=>[]
def K.beq:K->K->Bool
 | .normal,.normal=>true
 | .ret,.ret=>true
 | .exit a,.exit b=>Nat.beq a b
 | .goto a,.goto b=>Nat.beq a b
 | _,_=>false
def Cf (k:K):List K->Option Nat
 | []=>none
 | x::l=>if x.beq k then some 0 else (Cf k l).map (· + 1)
def X.kinds:X->List K
 | .done k _=>if k.bq then [] else [k]
 | .br _ x y=>x.kinds++(y.kinds.filter fun k=>(Cf k x.kinds).isNone)
def zxR:Option V->Option Nat
 | some (.s (.one (.vec b)))=>some b
 | _=>none
def Nn (b:Nat):List (Option V)->List (Option V)->Nat->Option Nat
 | some _::l,x::l',t =>
  match zxR x with
  | some c=>if Nat.beq b c then some t else Nn b l l' (t+1)
  | none=>Nn b l l' (t+1)
 | none::l,_::l',t=>Nn b l l' (t+1)
 | _,_,_=>none
def It (ps ss:List (Option V)):Nat->List (Option V)->List (Option V)->List (Nat×Nat)
 | r,none::l,x::l' =>
  match zxR x with
  | some b =>
   match Nn b ps ss 0 with
   | some t=>(r,t)::It ps ss (r+1) l l'
   | none=>It ps ss (r+1) l l'
  | none=>It ps ss (r+1) l l'
 | r,some _::l,_::l'=>It ps ss (r+1) l l'
 | _,_,_=>[]
def X.tS (p:ny):X->List (K×List (Nat×Nat))
 | .done k s=>[(k,It p.st.sl s.sl 0 p.st.sl s.sl)]
 | .br _ x y=>x.tS p++y.tS p
def zxS (r t:Nat):List (Nat×Nat)->Bool
 | []=>false
 | x::l=>(Nat.beq x.1 r&&Nat.beq x.2 t)||zxS r t l
def zxT (k:K):List (K×List (Nat×Nat))->Option (List (Nat×Nat))
 | []=>none
 | (k',al)::l =>
  match zxT k l with
  | none=>if k.beq k' then some al else none
  | some r=>if k.beq k' then some (r.filter fun x=>zxS x.1 x.2 al) else some r
def zvN (p0:List (Option V)):List (Nat×Nat)->List (Option V)->List (Option V)
 | [],sl=>sl
 | x::l,sl=>zvN p0 l (eg (nth p0 x.2) sl x.1)
def ny.at (p:ny) (tS:List (K×List (Nat×Nat))) (k:K):ny:=⟨⟨zvN p.st.sl ((zxT k tS).getD []) p.st.sl,p.st.hp⟩,p.tys⟩
def X.n5 (n0:Nat) (pe:K->ny) (tys:List Ty) (ks:List K):X->M (List A)
 | .done k s=>do
  let i <-M.lift (Cf k ks)
  let g:=oD tys.length (pe k).st s
  if ((pe k).st.inst g.1).sub g.2 s&&tO g.2 n0 then pure (.z i::g.1) else M.fail
 | .br c x y=>do
  let a <-x.n5 n0 pe tys ks
  let b <-y.n5 n0 pe tys ks
  yE c (.i::tys) a b
def K.No (ka:A) (sf:K->St):Nat->List K->M X
 | _,[]=>M.fail
 | _,[k]=>pure (.done k (sf k))
 | i,k::l=>do
  let e <-emit (.eql ka (.z i))
  let r <-K.No ka sf (i+1) l
  pure (.br e (.done k (sf k)) r)
def X.Np:X->List St
 | .done _ s=>[s]
 | .br _ x y=>x.Np++y.Np
def A.ids (n:Nat):A->List Nat
 | .r i=>if Nat.blt i n then [i] else []
 | _=>[]
def Node.ops:Node->List A
 | .add _ a b | .sub _ a b | .mul _ a b | .land _ a b | .lor _ a b | .vz _ a b | .lI _ a b | .quo _ a b | .rem _ a b | .shl _ a b | .shr _ a b=>[a,b]
 | .eql a b | .neq a b | .lss a b | .leq a b | .gtr a b | .geq a b | .beq a b | .bne a b | .and a b | .or a b=>[a,b]
 | .not a=>[a]
 | .vA c a b | .yp c a b=>[c,a,b]
 | .conv _ a=>[a]
 | .vB l ix | .yq l ix=>ix::l
 | .call _ l _=>l
 | .sR _ l=>l
 | .kZ _ a=>[a]
 | .lW _ _ a ix | .kK _ _ a ix | .nW _ _ a ix=>[a,ix]
 | .yu _ _ _ a ix x=>[a,ix,x]
 | .vC a b=>[a,b]
 | .p8 _ a n | .sS _ a n=>[a,n]
 | .yw n _ l=>n::l
 | .yx c a b=>[c,a,b]
 | .yy _ _ _ _ a ix x=>[a,ix,x]
 | .vD _ _ _ a ix=>[a,ix]
 | .yz a b=>[a,b]
def zvO:List Nat->List Nat
 | []=>[]
 | x::l=>let r:=zvO l;if cJ x r then r else x::r
structure Round where
 x:X
 c:A
 nx:List A
 ks:List K
 outs:List A
 tS:List (K×List (Nat×Nat))
def RO (n0:Nat) (p:ny):Option St->M (List A)
 | none=>pure []
 | some so =>
  let g:=oD p.tys.length p.st so
  if (p.st.inst g.1).sub g.2 so&&tO g.2 n0 then pure g.1 else M.fail
def zqC (n0:Nat) (p:ny) (x:X) (c:A) (nx:List A):Option X->M Round
 | none=>M.fail
 | some z=>do
  let outs <-z.n5 n0 (p.at (z.tS p)) p.tys z.kinds
  pure ⟨x,c,nx,z.kinds,outs,z.tS p⟩
def RP (n0:Nat) (ev:St->M X) (p:ny) (sx:St):M Round:=do
 let x <-ev sx
 let c <-x.n4
 let so <-x.Ce n0
 let nx <-RO n0 p so
 zqC n0 p x c nx x.kill
def Node.refs (n:Nat) (x:Node):Bool:=x.ops.all (A.below n)
def Cg (n:Nat):Em->Bool
 | []=>true
 | (i,x)::r=>Nat.beq i n&&x.refs n&&Cg (n+1) r
def yO:LR->M Unit:=fun l n=>some ((),n,[],[.lp l])
def Nq:List LR->M Unit
 | []=>pure ()
 | l::r=>do yO l;Nq r
def RQ (fid:Nat) (pe:K->ny) (ins:List A) (l:LR) (ks:List K):M X:=do
 let args:=l.inv.map A.r++ins
 let q <-emit (.call fid args 0)
 lX q
 let os <-HM fid args 1 l.outs.length
 if Nat.beq l.outs.length 0 then M.fail else K.No (os.headD default) (fun k=>(pe k).st.inst os.tail) 0 ks
def zza (n:Nat) (e:Em) (d:List Ob) (r:Round):List Nat :=
 e.flatMap (fun p=>p.2.ops.flatMap (A.ids n))++(uS d).flatMap (fun q=>(q.a::q.path.map (·.1)).flatMap (A.ids n))++(r.c::(r.nx++r.outs)).flatMap (A.ids n)
def Iu (fid n k:Nat) (e:Em) (d:List Ob) (r:Round) (ts:List Ty) (lh:LH):LR:=⟨fid,n,k,zvO (zza n e d r),e,uS d,r.c,r.nx,r.outs,ts,lh⟩
def Ch (fid:Nat) (pe:K->ny) (ins:List A) (d:List Ob) (l:LR) (ks:List K):M X:=do
 Nq (tM d)
 yO l
 RQ fid pe ins l ks
def RT (n0:Nat) (ev:St->M X) (fid:Nat) (lh:LH) (p:ny) (s:St):M X:=fun n =>
 let k:=p.tys.length
 let g:=oD k p.st s
 match RP n0 ev p (p.st.inst (eL n k)) (n+k) with
 | none=>none
 | some (r,_,e,d) =>
  if (p.st.inst g.1).sub g.2 s&&tO g.2 n0&&Nat.ble n0 p.st.hp.length&&p.st.bn (A.below n) p.tys&&Cg (n+k) e&&Nat.beq r.nx.length k&&(r.ks.all fun q=>(p.at r.tS q).st.bn (A.below n) p.tys) then
   Ch fid (p.at r.tS) g.1 d (Iu fid n k e d r p.tys lh) r.ks n
  else none
def zsR (ev:St->M X) (uR:List (Nat×List LT)) (D:List Nat) (s:St) (n:Nat):Nat->List St->LH
 | 0,es=>QU uR D es s
 | t+1,es =>
  let p:=Z1 D (QU uR D es s) s
  match ev (p.st.inst (eL n p.tys.length)) (n+p.tys.length) with
  | none=>QU uR D es s
  | some (x,_,_,_)=>zsR ev uR D s n t (x.Np++es)
def Nr (n0:Nat) (ev:St->M X) (fid:Nat) (D:List Nat) (h:LH) (s:St):M X:=fun n=>RT n0 ev fid h (Z1 D h s) s n
def Iv (n0:Nat) (ev:St->M X) (fid:Nat) (D:List Nat) (uR:List (Nat×List LT)) (s:St):M X:=fun n =>
 Nr n0 ev fid D (zsR ev uR D s n 2 []) s n
def RU (i:Nat) (ts:List LT) (s:St):M St :=
 match nth s.sl i with
 | some (.s (.one l)) =>
  if l.isNil&&bH s.hp&&s.sl.all (dw (V.lt s.hp.length)) then do
   let q <-uV [.vec ts] [l] s.hp
   match q.1 with
   | [l']=>pure ⟨eg (some (.s (.one l'))) s.sl i,q.2⟩
   | _=>M.fail
  else pure s
 | _=>pure s
def Iw:List (Nat×List LT)->St->M St
 | [],s=>pure s
 | (i,ts)::r,s=>do Iw r (<-RU i ts s)
def RV (es:List St) (i:Nat):Option (Nat×List LT) :=
 match es with
 | []=>none
 | e::r =>
  match nth e.sl i with
  | some (.s (.one (.vec b))) =>
   match nth e.hp b with
   | some (.v _ ts _)=>some (i,ts)
   | _=>RV r i
  | _=>RV r i
def znC:Option V->Bool
 | some (.s (.one l))=>l.isNil
 | _=>false
def zqE (es:List St) (s:St):List (Nat×List LT):=(List.range s.sl.length).filterMap fun i=>if znC (nth s.sl i) then RV es i else none
def Ns (n0:Nat) (ev:St->M X) (fid:Nat) (D:List Nat) (h:Option LH) (s:St):M X:=fun n =>
 match h with
 | some h=>(do let s1 <-Iw h.uR s;Nr n0 ev fid D h s1:M X) n
 | none =>
  if s.sl.any znC then
   let es:=match ev s n with
    | some (x,_,_,_)=>x.Np
    | none=>[]
   (M.orElse' (do let s1 <-Iw (zqE es s) s;Iv n0 ev fid D (zqE es s) s1) (Iv n0 ev fid D [] s)) n
  else Iv n0 ev fid D [] s n
def FI:List (Option V)->M (List (Option V))
 | []=>pure []
 | some v::l=>do
  let u <-M5 (.s (.one (.p 0 (.c 0)))) v
  let r <-FI l
  pure (some u::r)
 | none::l=>do
  let r <-FI l
  pure (none::r)
def zsT:Option V->List Nat
 | some (.s (.one (.alt _ l)))=>l.filterMap fun x=>match x.2 with | .p q 0=>some q | _=>none
 | _=>[]
def FJ:List Nat->List (Option ag)->M (List (Option ag))
 | [],hp=>pure hp
 | b::l,hp =>
  match nth hp b with
  | some (.obj _ k _)=>if nY k then do FJ l (<-M1 b hp) else FJ l hp
  | _=>FJ l hp
def RX (s:St):M St :=
 if s.sl.any fun v=>!(zsT v).isEmpty then do
  let sl <-FI s.sl
  let hp <-FJ (s.sl.flatMap zsT) s.hp
  pure ⟨sl,hp⟩
 else M.fail
def RY (n0:Nat) (ev:St->M X) (fid:Nat) (D:List Nat) (h:Option LH) (s:St):M X :=
 (Ns n0 ev fid D h s).orElse' (do let s1 <-RX s;Ns n0 ev fid D h s1)
def Ix:Code->Bool
 | .region _ ops _=>ops.toList.any fun o=>match o.op with | .panic _=>true | _=>false
 | .seq a b=>Ix a||(match a with | .region _ _ _=>Ix b | _=>false)
 | .scope c=>Ix c
 | _=>false
def oH (P:Program) (S:bN):Nat->Code->St->M X
 | 0,_,_=>M.fail
 | n+1,c,s =>
  match c with
  | .skip=>pure (.done .normal s)
  | .label _=>pure (.done .normal s)
  | .region _ ops draw=>do
   match <-M.opt (RN P S ops draw s) with
   | some s1=>pure (.done .normal s1)
   | none=>if draw then M.fail else FH P S ops.toList (ops.toList.length*3+20) ops.toList ⟨s,[]⟩
  | .seq x y=>do (<-oH P S n x s).andThen S.n0 (oH P S n y)
  | .cond c x y=>do
   match <-M.lift (rd ⟨s,[]⟩ [] c) with
   | .s (.one (.b a)) =>
    match a with
    | .t true=>oH P S n x s
    | .t false=>oH P S n y s
    | a =>
     if Ix x then do
      lX (<-BN a)
      oH P S n y s
     else if Ix y then do
      lX a
      oH P S n x s
     else do
      let u <-under a true (oH P S n x s)
      let v <-under a false (oH P S n y s)
      pure (.br a u v)
   | _=>M.fail
  | .block id c =>
   match assoc S.ls id with
   | some fid =>
    match c with
    | .loop b=>do pure ((<-RY S.n0 (oH P S n b) fid (Code.qh b) (assoc S.hs fid) s).inBlock id)
    | c=>do pure ((<-oH P S n c s).inBlock id)
   | none=>do pure ((<-oH P S n c s).inBlock id)
  | .loop c=>do (<-oH P S n c s).andThen S.n0 (oH P S n (.loop c))
  | .exit id=>pure (.done (.exit id) s)
  | .goto l=>pure (.done (.goto l) s)
  | .scope c=>do
   let x <-oH P S n c s
   if x.noGoto then pure x else Nm S.n0 (oH P S n) c 16 x
  | .ret=>pure (.done .ret s)
  | _=>M.fail
def FK (P:Program) (s:St):List ResultVar->M (List V1)
 | []=>pure []
 | .tmp t::l=>do
  match <-M.lift (nth s.sl t) with
  | .s v=>do pure (v::(<-FK P s l))
  | _=>M.fail
 | .cell t ty::l=>do
  match <-M.lift (nth s.sl t) with
  | .s (.one (.p b off))=>do
   let k <-M.lift (tk P ty)
   let sz <-M.lift (hM P ty)
   match <-M.lift (nth s.hp b) with
   | .c _ cs =>
    let v <-Fj cs off (oC k) sz
    pure (v::(<-FK P s l))
   | _=>M.fail
  | _=>M.fail
def K.ends:K->Bool
 | .normal | .ret=>true
 | _=>false
def X.res (P:Program) (rs:List ResultVar) (keep:Bool):X->M X
 | .done k s=>if k.ends then do
   let vs <-FK P s rs
   pure (.done .normal ⟨[some (Mz vs)],if keep then s.hp else []⟩)
  else M.fail
 | .br c x y=>do
  let a <-under c true (x.res P rs keep)
  let b <-under c false (y.res P rs keep)
  pure (.br c a b)
def RZ (pat:List (Option ag)) (p v:Lf) (hp:List (Option ag)):M (Lf×List (Option ag)) :=
 match p with
 | .alt _ [(1,.p j 0),(0,.cG)] =>
  match nth pat j with
  | some (.obj _ ko _) =>
   match v with
   | .p b (.c 0)=>do
    let c6 <-(match nth hp b,ko-1000 with
     | some (.c o _),k+2=>M0 o k b hp
     | _,_=>pure hp)
    let jn <-Q6 b c6
    pure (.alt (.z 1) [(1,.p b 0),(0,.cG)],jn)
   | .cG=>if nY ko&&bH hp then do
     let q <-emit (.sR [.b,.l] [.t false,.t false])
     pure (.alt (.z 0) [(1,.p hp.length 0),(0,.cG)],hp++[some (.obj true ko q)])
    else M.fail
   | v=>pure (v,hp)
  | _=>pure (v,hp)
 | _=>pure (v,hp)
def Nt (pat:List (Option ag)):List Lf->List Lf->List (Option ag)->M (List Lf×List (Option ag))
 | p::ps,v::vs,hp=>do
  let x <-RZ pat p v hp
  if x.1.lt x.2.length then do
   let r <-Nt pat ps vs x.2
   pure (x.1::r.1,r.2)
  else M.fail
 | _,vs,hp=>pure (vs,hp)
def Ar:List V1->List Lf->Option (List V1)
 | [],[]=>some []
 | .one _::r,x::l=>(Ar r l).map (.one x::·)
 | .agg ys::r,l=>if Nat.ble ys.length l.length then (Ar r (l.drop ys.length)).map (.agg (l.take ys.length)::·) else none
 | _,_=>none
def V.kA:V->List Lf
 | .s v=>v.cells
 | .t l=>l.flatMap V1.cells
def R1:V->List Lf->Option V
 | .s v,xs=>match Ar [v] xs with | some [u]=>some (.s u) | _=>none
 | .t l,xs=>(Ar l xs).map .t
def zxU:Lf->Bool
 | .alt _ _=>true
 | _=>false
def R2 (pat:St) (z:St):M St :=
 match pat.sl,z.sl with
 | [some p],[some v] =>
  if p.kA.any zxU then
   if v.lt z.hp.length then do
    let q <-Nt pat.hp p.kA v.kA z.hp
    match R1 v q.1 with
    | some u=>pure ⟨[some u],q.2⟩
    | none=>M.fail
   else M.fail
  else pure z
 | _,_=>pure z
def X.tT (pat:St):X->M X
 | .done k s=>do pure (.done k (<-R2 pat s))
 | .br c x y=>do
  let a <-under c true (x.tT pat)
  let b <-under c false (y.tT pat)
  pure (.br c a b)
structure Out where
 nodes:Em
 jr:List Nd
 loops:List LR
 outs:List A
def Iy (hin:List (Option ag)) (m:List Nat):Nat->List (Option ag)->Bool
 | _,[]=>true
 | j,_::l=>(!stays hin j||Nat.beq (bz m j) j)&&Iy hin m (j+1) l
def aW.Iz (sg:aW) (ntmps:Nat):St :=
 let ids:=eL 0 sg.fE
 let ps:=sg.ins.map (V.inst ids)
 ⟨ps.map some++List.replicate (ntmps-ps.length) none,sg.hin.map (Option.map (ag.inst ids))⟩
def Nu (P:Program) (S:bN) (fuel:Nat) (c:Code) (rs:List ResultVar) (keep:Bool) (n:Nat) (pat:St) (s:St):M St:=do
 let s1 <-Ra S.yB s
 let x <-oH P S fuel c s1
 let y0 <-x.res P rs keep
 let y <-y0.tT pat
 let z <-y.Ce S.n0
 match z with
 | some z=>Rb n pat z
 | none=>M.fail
def zxV (sg:aW) (z:St) (e:Em) (d:List Ob):Option Out :=
 let p:St:=⟨[some sg.out],sg.hout⟩
 let g:=oD sg.iK.length p z
 if (p.inst g.1).sub g.2 z&&sg.ok&&Iy sg.hin g.2 0 sg.hout then some ⟨e,uS d,tM d,g.1⟩ else none
def aQ (P:Program) (S:bN) (fuel:Nat) (fn:Func) (sg:aW):Option Out :=
 match fn.body with
 | none=>none
 | some c =>
  if Nat.beq S.n0 sg.hin.length then
   match Nu P S fuel c fn.results.toList (!(sg.hin.isEmpty&&sg.hout.isEmpty)) sg.iK.length ⟨[some sg.out],sg.hout⟩ (sg.Iz fn.ntmps) sg.fE with
   | none=>none
   | some (z,_,e,d)=>zxV sg z e d
  else none
end Go.Sx
namespace Go.Sx
def M.sat {α:Type} (F:aC) (O:Nat->DV) (x:M α) (Q:α->Prop):Prop :=
 ∀ n a n' e d,x n=some (a,n',e,d)->Sat F O e->(∀ q∈d,Ob.holds F O q)->Q a
section
variable {α β:Type} {F:aC} {O:Nat->DV}
theorem au {a:α} {Q:α->Prop} (h:Q a):M.sat F O (pure a:M α) Q:=by
 intro n b n' e d hx _ _
 change some (a,n,[],[])=some (b,n',e,d) at hx
 simp only [Option.some.injEq,Prod.mk.injEq] at hx
 exact hx.1▸h
theorem ak {x:M α} {f:α->M β} {R:α->Prop} {Q:β->Prop} (hx:M.sat F O x R) (hf:∀ a,R a->M.sat F O (f a) Q) :
  M.sat F O (x >>= f) Q:=by
 intro n b n' e d h hs hd
 change M.bind x f n=_ at h
 unfold M.bind at h
 cases h1:x n with
 | none=>simp [h1] at h
 | some r =>
  obtain ⟨a,n1,e1,d1⟩:=r
  simp only [h1] at h
  cases h2:f a n1 with
  | none=>simp [h2] at h
  | some r2 =>
   obtain ⟨b2,n2,e2,d2⟩:=r2
   simp only [h2,Option.some.injEq,Prod.mk.injEq] at h
   obtain ⟨rfl,rfl,rfl,rfl⟩:=h
   exact hf a (hx n a n1 e1 d1 h1 (fun p hp=>hs p (List.mem_append_left _ hp)) (fun q hq=>hd q (List.mem_append_left _ hq)))
    n1 b2 n2 e2 d2 h2 (fun p hp=>hs p (List.mem_append_right _ hp)) (fun q hq=>hd q (List.mem_append_right _ hq))
theorem cH {x:M α} {R Q:α->Prop} (hx:M.sat F O x R) (h:∀ a,R a->Q a):M.sat F O x Q :=
 fun n a n' e d h1 h2 h3=>h a (hx n a n' e d h1 h2 h3)
theorem zwz {x:M α} {R Q:α->Prop} (hx:M.sat F O x R) (hy:M.sat F O x Q):M.sat F O x (fun a=>R a/\Q a) :=
 fun n a n' e d h1 h2 h3=>⟨hx n a n' e d h1 h2 h3,hy n a n' e d h1 h2 h3⟩
theorem Ci {ι κ:Type} [Inhabited ι] [Inhabited κ] {x:M α} {G:α->Prop} {Q:ι->κ->α->Prop} (h:∀ i k,M.sat F O x (fun a=>G a/\Q i k a)) :
  M.sat F O x (fun a=>G a/\∀ i k,Q i k a) :=
 fun n a n' e d h1 h2 h3=>⟨(h default default n a n' e d h1 h2 h3).1,fun i k=>(h i k n a n' e d h1 h2 h3).2⟩
theorem zdt {ι:Type} {x:M α} {Q:ι->α->Prop} (h:∀ i,M.sat F O x (fun a=>Q i a)):M.sat F O x (fun a=>∀ i,Q i a) :=
 fun n a n' e d h1 h2 h3 i=>h i n a n' e d h1 h2 h3
theorem gU {x:M α} : M.sat F O x (fun _=>True):=fun _ _ _ _ _ _ _ _=>trivial
theorem aE {Q:α->Prop} : M.sat F O (M.fail:M α) Q:=by
 intro n a n' e d h
 change none=_ at h
 cases h
theorem lg {o:Option α} {Q:α->Prop} (h:∀ a,o=some a->Q a):M.sat F O (M.lift o) Q:=by
 intro n a n' e d hx _ _
 unfold M.lift at hx
 cases o with
 | none=>cases hx
 | some b =>
  simp only [Option.some.injEq,Prod.mk.injEq] at hx
  exact hx.1▸h b rfl
theorem bh {o:Option α} {f:α->M β} {Q:β->Prop} (hf:∀ a,o=some a->M.sat F O (f a) Q):M.sat F O (M.lift o >>= f) Q:=ak (lg (Q:=fun a=>o=some a) fun _ h=>h) hf
theorem cz {x:Node} {Q:A->Prop} (h:∀ a:A,a.den O=lJ F O x->Q a):M.sat F O (emit x) Q:=by
 intro n a n' e d hx hs _
 unfold emit at hx
 simp only [Option.some.injEq,Prod.mk.injEq] at hx
 obtain ⟨rfl,rfl,rfl,rfl⟩:=hx
 exact h (.r n) (hs (n,x) (by simp))
theorem n6 {a:A} {Q:Unit->Prop} (h:a.bool O=true->Q ()):M.sat F O (lX a) Q:=by
 intro n u n' e d hx _ hd
 unfold lX at hx
 simp only [Option.some.injEq,Prod.mk.injEq] at hx
 obtain ⟨_,rfl,rfl,rfl⟩:=hx
 exact h (hd (.nd ⟨[],a⟩) (by simp) (by simp))
theorem uY {c:A} {b:Bool} {x:M α} {Q:α->Prop} (h:M.sat F O x Q):M.sat F O (under c b x) (fun a=>c.bool O=b->Q a):=by
 intro n a n' e d hx hs hd hc
 unfold under at hx
 cases h1:x n with
 | none=>simp [h1] at hx
 | some r =>
  obtain ⟨a1,n1,e1,d1⟩:=r
  simp only [h1,Option.some.injEq,Prod.mk.injEq] at hx
  obtain ⟨rfl,rfl,rfl,rfl⟩:=hx
  refine h n a1 n1 e1 d1 h1 hs (fun q hq=>?_)
  have:=hd (q.under c b) (List.mem_map.2 ⟨q,hq,rfl⟩)
  cases q with
  | lp l=>exact this
  | nd q =>
   intro hp
   exact this (by
    intro p hp'
    rcases List.mem_cons.1 hp' with rfl | h'
    ·exact hc
    ·exact hp p h')
theorem R3 {cs:List (A×Bool)} {x:M α} {Q:α->Prop} (h:M.sat F O x Q) :
  M.sat F O (HG cs x) (fun a=>(∀ c∈cs,c.1.bool O=c.2)->Q a):=by
 induction cs with
 | nil=>exact cH h (fun a ha _=>ha)
 | cons p r ih =>
  obtain ⟨c,b⟩:=p
  refine cH (uY (c:=c) (b:=b) ih) ?_
  intro a ha hall
  exact ha (hall (c,b) (by simp)) (fun q hq=>hall q (List.mem_cons_of_mem _ hq))
theorem aY {c:Prop} [Decidable c] {x y:M α} {Q:α->Prop} (hx:c->M.sat F O x Q) (hy:¬ c->M.sat F O y Q):M.sat F O (if c then x else y) Q:=by
 split
 ·exact hx ‹_›
 ·exact hy ‹_›
end
def bV.good (O:Nat->DV):bV->Prop
 | .c _=>True
 | .s _ ix _ len=>0<=ix.int O/\ix.int O<len
 | .d _ ix _ len hY _ fe=>(0<=ix.int O/\ix.int O<len)/\0<=hY.int O/\hY.int O<fe
 | .v _ ix sz a=>0<=ix.int O/\((ix.int O).toNat+1)*sz<=(a.cells O).length
 | .w _ ix sz a hY _ fe=>(0<=ix.int O/\((ix.int O).toNat+1)*sz<=(a.cells O).length)/\0<=hY.int O/\hY.int O<fe
def Lf.good (O:Nat->DV):Lf->Prop
 | .p _ off=>off.good O
 | .gp _ off=>off.good O
 | .alt a l=>0<=a.int O/\(eI l (a.int O).toNat).isSome=true
 | _=>True
def V1.good (O:Nat->DV) (v:V1):Prop:=∀ l∈v.cells,Lf.good O l
def V.good (O:Nat->DV):V->Prop
 | .s v=>v.good O
 | .t l=>∀ v∈l,V1.good O v
@[simp] theorem V1.ah {O:Nat->DV} {l:Lf} : (V1.one l).good O↔l.good O:=by simp [V1.good,V1.cells]
@[simp] theorem V1.aP {O:Nat->DV} {l:List Lf} : (V1.agg l).good O↔∀ x∈l,x.good O:=by simp [V1.good,V1.cells]
@[simp] theorem V.cg {O:Nat->DV} {v:V1} : (V.s v).good O↔v.good O:=Iff.rfl
@[simp] theorem Lf.R4 {O:Nat->DV} {k:IntKind} {a:A} : (Lf.i k a).good O:=trivial
@[simp] theorem Lf.R5 {O:Nat->DV} {a:A} : (Lf.b a).good O:=trivial
theorem pN {a b:IntKind} (h:m7 a b=true):a=b:=by
 cases a<;>cases b<;>simp [m7] at h<;>rfl
theorem R6:∀ {a b:List Nat},BM a b=true->a=b
 | [],[],_=>rfl
 | x::l,y::l',h=>by
  simp only [BM,Bool.and_eq_true] at h
  rw [Nat.eq_of_beq_eq_true h.1,R6 h.2]
 | [],_::_,h=>by simp [BM] at h
 | _::_,[],h=>by simp [BM] at h
theorem zhT (U:Nat->Loc) (f:Nat->Nat) (bs:List Nat):p9 (fun j=>U (f j)) bs=p9 U (bs.map f):=by simp [p9,Function.comp_def]
theorem zkS {U U':Nat->Loc} {bs:List Nat} (h:∀ b∈bs,U' b=U b):p9 U' bs=p9 U bs:=by
 unfold p9
 congr 1
 exact List.map_congr_left fun b hb=>by rw [h b hb]
theorem R7 {U U':Nat->Loc} {bs:List Nat} {n:Nat} (hb:(bs.all fun b=>decide (b<n))=true) (h:∀ k,k<n->U' k=U k):p9 U' bs=p9 U bs :=
 zkS fun b hm=>h b (by simpa using List.all_eq_true.1 hb b hm)
theorem A.aH {a b:A} (h:a.beq b=true) (O:Nat->DV):a.den O=b.den O:=by
 cases a<;>cases b<;>simp [A.beq] at h
 all_goals (subst h;rfl)
theorem vV {a b:Bool} (h:jt a b=true):a=b:=by
 cases a<;>cases b<;>simp [jt] at h<;>rfl
theorem R8 {a b:Bool} (h:¬ jt a b=true):a≠b:=by
 cases a<;>cases b<;>simp [jt] at h ⊢
section
variable {F:aC} {O:Nat->DV}
@[simp] theorem A.n7 (n:Int):(A.z n).int O=n:=rfl
@[simp] theorem A.R9 (b:Bool):(A.t b).bool O=b:=rfl
theorem A.aM {a:A} {n:Int} (h:a.den O = .i n):a.int O=n:=by simp [A.int,h,DV.ai]
theorem A.aq {a:A} {n:Bool} (h:a.den O = .b n):a.bool O=n:=by simp [A.bool,h,DV.aA]
theorem A.aK {a:A} {n:List DV} (h:a.den O = .l n):a.cells O=n:=by simp [A.cells,h,DV.ay]
theorem IA {a:A} : M.sat F O (BN a) (fun r=>r.bool O = !a.bool O):=by
 unfold BN
 split
 ·exact au rfl
 ·exact cz fun r h=>A.aq h
theorem R_ {a b:A} : M.sat F O (Hy a b) (fun r=>r.bool O=(a.bool O&&b.bool O)):=by
 unfold Hy
 split
 ·exact au (by simp)
 ·exact au (by simp)
 ·exact au (by simp)
 ·exact au (by simp)
 ·exact cz fun r h=>A.aq h
theorem Cj {c a b:A} : M.sat F O (yA c a b) (fun r=>r.int O=bif c.bool O then a.int O else b.int O):=by
 unfold yA
 split
 ·exact au rfl
 ·exact au rfl
 ·refine aY (fun h=>au ?_) (fun _=>cz fun r h=>A.aM h)
  have:=A.aH h O
  simp only [A.int,this]
  cases c.bool O<;>rfl
theorem Nv {c a b:A} : M.sat F O (Ff c a b) (fun r=>r.bool O=bif c.bool O then a.bool O else b.bool O):=by
 unfold Ff
 split
 ·exact au rfl
 ·exact au rfl
 ·refine aY (fun h=>au ?_) (fun _=>?_)
  ·have:=A.aH h O
   simp only [A.bool,this]
   cases (A.den O c).aA<;>rfl
  ·split
   ·exact au (by simp)
   ·exact cz fun r h=>by rw [A.aq h];simp
   ·exact cz fun r h=>by rw [A.aq h];simp
   ·exact cz fun r h=>by rw [A.aq h];simp
   ·exact cz fun r h=>A.aq h
theorem zrv {c a b:A} : M.sat F O (Qy c a b) (fun r=>r.cells O=bif c.bool O then a.cells O else b.cells O):=by
 unfold Qy
 split
 ·exact au rfl
 ·exact au rfl
 ·refine aY (fun h=>au ?_) (fun _=>cz fun r h=>A.aK h)
  have:=A.aH h O
  simp only [A.cells,this]
  cases c.bool O<;>rfl
theorem zk6 {b:A} : M.sat F O (Fg b) (fun _=>b.int O≠0):=by
 unfold Fg
 split
 ·exact aY (fun _=>aE) (fun h=>au (by simpa using h))
 ·refine ak (cz (Q:=fun r=>r.bool O=(b.int O != 0)) fun r h=>A.aq h) fun r hr=>?_
  exact n6 fun h=>by rw [hr] at h;simpa using h
theorem yP {b:A} : M.sat F O (vG b) (fun _=>0<=b.int O):=by
 unfold vG
 split
 ·exact aY (fun h=>au (by simpa using h)) (fun h=>aE)
 ·refine ak (cz (Q:=fun r=>r.bool O=decide (b.int O>=0)) fun r h=>A.aq h) fun r hr=>?_
  exact n6 fun h=>by rw [hr] at h;simpa using h
end
end Go.Sx
namespace Go.Sx
section
variable {P:Program} {F:aC} {O:Nat->DV} {U:Nat->Loc} {w:World}
theorem zsZ {op : BinOp} {k : IntKind} {a b : A} (h1 : op ≠ .shl) (h2 : op ≠ .shr) (t : TypeId) :
    M.sat F O (Qz op k a b) (fun l => l.good O /\ (binOp op t (.int k (a.int O)) (.int k (b.int O))).run P w = .ok (l.aa O U) w) := by
  unfold Qz
  split
  all_goals first
    | (refine ak zk6 fun _ h0 => au ?_; try simp only [A.n7] at h0 ⊢
       simp [binOp, Op.intDiv, h0, Lf.aa])
    | (refine ak zk6 fun _ h0 => ak (cz (Q := fun r => r.int O = _) fun r h => A.aM h) fun r hr => au ?_
       simp [binOp, Op.intDiv, h0, Lf.aa, hr])
    | (refine ak (cz (Q := fun r => r.int O = _) fun r h => A.aM h) fun r hr => au ?_
       simp [binOp, Op.intArith, Op.intBits, Lf.aa, hr, dD, bB, BK, dx, uQ])
    | (refine ak (cz (Q := fun r => r.bool O = _) fun r h => A.aq h) fun r hr => au ?_
       simp [binOp, Op.intCmp, Lf.aa, hr])
    | (refine au ?_; simp [binOp, Op.intArith, Op.intBits, Op.intCmp, Lf.aa, dD, bB, BK, dx, uQ]; done)
    | (refine au ⟨trivial, ?_⟩; simp [binOp, Op.intCmp, Lf.aa]; rfl)
    | exact aE
theorem zi4 {op:BinOp} {k yk:IntKind} {a b:A} (t:TypeId) :
  M.sat F O (Mx op k a b) (fun l=>l.good O/\(binOp op t (.int k (a.int O)) (.int yk (b.int O))).run P w = .ok (l.aa O U) w):=by
 unfold Mx
 split
 ·refine ak yP fun _ h0=>au ?_
  try simp only [A.n7] at h0 ⊢
  simp [binOp,Op.shift,Lf.aa,aF,Int.not_lt.2 h0]
 ·refine ak yP fun _ h0=>au ?_
  try simp only [A.n7] at h0 ⊢
  simp [binOp,Op.shift,Lf.aa,cW,Int.not_lt.2 h0]
 ·refine ak yP fun _ h0=>ak (cz (Q:=fun r=>r.int O=_) fun r h=>A.aM h) fun r hr=>au ?_
  simp [binOp,Op.shift,Lf.aa,aF,Int.not_lt.2 h0,hr]
 ·refine ak yP fun _ h0=>ak (cz (Q:=fun r=>r.int O=_) fun r h=>A.aM h) fun r hr=>au ?_
  simp [binOp,Op.shift,Lf.aa,cW,Int.not_lt.2 h0,hr]
 ·exact aE
theorem As {t:TypeId} {k:TK} (h:tk P t=some k):∃ d,P.underlying t=some d/\oB d=k:=by
 unfold tk at h
 cases hu:P.underlying t with
 | none=>simp [hu] at h
 | some d=>simp [hu] at h;exact ⟨d,rfl,h⟩
theorem Nw {t:TypeId} {k:IntKind} (h:tk P t=some (.int k)):P.underlying t=some (.int k):=by
 obtain ⟨d,hd,hk⟩:=As h
 cases d<;>simp [oB] at hk
 exact hk▸hd
theorem Sa {t:TypeId} (h:tk P t=some .bool):P.underlying t=some .bool:=by
 obtain ⟨d,hd,hk⟩:=As h
 cases d<;>simp [oB] at hk
 exact hd
theorem FL {t:TypeId} {n e:Nat} (h:tk P t=some (.arr n e)):P.underlying t=some (.array n e):=by
 obtain ⟨d,hd,hk⟩:=As h
 cases d<;>simp [oB] at hk
 obtain ⟨rfl,rfl⟩:=hk
 exact hd
theorem IB {t:TypeId} {l:List (Nat×Nat)} (h:tk P t=some (.struct l)):∃ fs,P.underlying t=some (.struct fs)/\l=fs.toList.map fun f=>(f.offset,f.type):=by
 obtain ⟨d,hd,hk⟩:=As h
 cases d<;>simp [oB] at hk
 exact ⟨_,hd,hk.symm⟩
theorem zhU {op:BinOp} {a b:A} (t:TypeId) (ht:P.underlying t=some .bool) :
  M.sat F O (My op a b) (fun l=>l.good O/\(binOp op t (.bool (a.bool O)) (.bool (b.bool O))).run P w = .ok (l.aa O U) w):=by
 unfold My
 split
 ·refine au ?_
  simp [binOp,Op.equal,Op.maxDepth,run_equalIn_bool' w 9999 t _ _ ht,Lf.aa]
 ·refine au ?_
  simp [binOp,Op.equal,Op.maxDepth,run_equalIn_bool' w 9999 t _ _ ht,Lf.aa,bne]
 ·refine ak (cz (Q:=fun r=>r.bool O=_) fun r h=>A.aq h) fun r hr=>au ?_
  simp [binOp,Op.equal,Op.maxDepth,run_equalIn_bool' w 9999 t _ _ ht,Lf.aa,hr]
 ·refine ak (cz (Q:=fun r=>r.bool O=_) fun r h=>A.aq h) fun r hr=>au ?_
  simp [binOp,Op.equal,Op.maxDepth,run_equalIn_bool' w 9999 t _ _ ht,Lf.aa,hr,bne]
 ·exact aE
theorem zuY {op:UnOp} {x:Lf} : M.sat F O (BZ op x) (fun l=>l.good O/\(Op.unary op (x.aa O U)).run P w = .ok (l.aa O U) w):=by
 unfold BZ
 split
 ·exact au (by simp [Op.unary,Op.intArith,Lf.aa])
 ·exact ak (cz (Q:=fun r=>r.int O=_) fun r h=>A.aM h) fun r hr=>au (by simp [Op.unary,Op.intArith,Lf.aa,hr])
 ·exact au (by simp [Op.unary,Op.intBits,Lf.aa,BK,uQ])
 ·exact ak (cz (Q:=fun r=>r.int O=_) fun r h=>A.aM h) fun r hr=>au (by simp [Op.unary,Op.intBits,Lf.aa,hr,BK,uQ])
 ·exact ak IA fun r hr=>au (by simp [Op.unary,Lf.aa,hr])
 ·exact aE
theorem zrw {s d:TypeId} {x:Lf} : M.sat F O (Q0 P s d x) (fun l=>l.good O/\(convert s d (x.aa O U)).run P w = .ok (l.aa O U) w):=by
 unfold Q0
 refine ak (R:=fun k=>tk P s=some k) (lg fun a h=>h) fun ks hs=>?_
 refine ak (R:=fun k=>tk P d=some k) (lg fun a h=>h) fun kd hd=>?_
 obtain ⟨ds,hds,_⟩:=As hs
 split
 ·refine au ?_
  simp [convert,run_underlying hds,run_underlying (Nw hd),Conv.intToInt,Lf.aa]
 ·exact ak (cz (Q:=fun r=>r.int O=_) fun r h=>A.aM h) fun r hr=>au (by
   simp [convert,run_underlying hds,run_underlying (Nw hd),Conv.intToInt,Lf.aa,hr])
 ·exact aE
end
end Go.Sx
namespace Go.Sx
theorem Sb (l:List (Option Lf)) (n:Nat):Fh l n=nth l n:=by
 induction l generalizing n with
 | nil=>cases n<;>rfl
 | cons x l ih=>cases n with
  | zero=>rfl
  | succ n=>exact ih n
theorem iW {α:Type} {l:List (Option α)} {n:Nat} {x:α} (h:nth l n=some x):n<l.length:=by
 induction l generalizing n with
 | nil=>cases n<;>simp [nth] at h
 | cons y l ih=>cases n with
  | zero=>simp
  | succ n=>simp only [nth] at h;have:=ih h;simp;exact this
theorem xE {α:Type} (l:List α) (n:Nat):nth (l.map some) n=l[n]?:=by
 induction l generalizing n with
 | nil=>cases n<;>rfl
 | cons y l ih=>cases n with
  | zero=>rfl
  | succ n=>simpa [nth] using ih n
theorem oI {α:Type} (l l':List (Option α)) (n:Nat):nth (l++l') n=if n<l.length then nth l n else nth l' (n-l.length):=by
 induction l generalizing n with
 | nil=>simp
 | cons y l ih=>cases n with
  | zero=>simp [nth]
  | succ n =>
   simp only [List.cons_append,nth,ih,List.length_cons]
   by_cases h:n<l.length
   ·simp [h]
   ·simp [h]
theorem iL {α:Type} (v:α) (l:List α) (n:Nat):(eg v l n).length=l.length:=by
 induction l generalizing n with
 | nil=>cases n<;>rfl
 | cons y l ih=>cases n with
  | zero=>rfl
  | succ n=>simp [eg,ih]
theorem rO {α:Type} (v:Option α) (l:List (Option α)) (n:Nat):nth (eg v l n) n=if n<l.length then v else none:=by
 induction l generalizing n with
 | nil=>cases n<;>simp [eg,nth]
 | cons y l ih=>cases n with
  | zero=>simp [eg,nth]
  | succ n=>simp [eg,nth,ih]
theorem qi {α:Type} (v:Option α) (l:List (Option α)) (n m:Nat) (h:n≠m):nth (eg v l n) m=nth l m:=by
 induction l generalizing n m with
 | nil=>cases n<;>rfl
 | cons y l ih=>cases n with
  | zero=>cases m with
   | zero=>exact absurd rfl h
   | succ m=>rfl
  | succ n=>cases m with
   | zero=>rfl
   | succ m=>exact ih n m (fun e=>h (by rw [e]))
theorem Sc {l:List (Option Lf)} {o n:Nat} {xs:List Lf} (h:rG l o n=some xs):xs.length=n/\∀ j,j<n->nth l (o+j)=xs[j]?:=by
 induction l generalizing o n xs with
 | nil=>cases n with
  | zero=>simp [rG] at h;subst h;exact ⟨rfl,fun j hj=>absurd hj (by omega)⟩
  | succ n=>cases o<;>simp [rG] at h
 | cons c l ih=>cases n with
  | zero=>cases o<;>simp [rG] at h<;>(subst h;exact ⟨rfl,fun j hj=>absurd hj (by omega)⟩)
  | succ n=>cases o with
   | succ o =>
    simp only [rG] at h
    obtain ⟨h1,h2⟩:=ih h
    refine ⟨h1,fun j hj=>?_⟩
    rw [show o+1+j=(o+j)+1 from by omega]
    exact h2 j hj
   | zero =>
    simp only [rG] at h
    cases c with
    | none=>simp at h
    | some x =>
     simp only at h
     cases hr:rG l 0 n with
     | none=>simp [hr] at h
     | some r =>
      simp only [hr,Option.some.injEq] at h
      subst h
      obtain ⟨h1,h2⟩:=ih hr
      refine ⟨by simp [h1],fun j hj=>?_⟩
      cases j with
      | zero=>rfl
      | succ j =>
       rw [show 0+(j+1)=(0+j)+1 from by omega]
       exact h2 j (by omega)
theorem FM {l:List (Option Lf)} {sz:Nat} : ∀ {n base:Nat} {xs:List Lf},xx l base sz n=some xs->xs.length=n/\∀ j,j<n->nth l (base+j*sz)=xs[j]?
 | 0,base,xs,h=>by simp [xx] at h;subst h;exact ⟨rfl,fun j hj=>absurd hj (by omega)⟩
 | n+1,base,xs,h=>by
  simp only [xx,Sb] at h
  cases hc:nth l base with
  | none=>simp [hc] at h
  | some x =>
   simp only [hc] at h
   cases hr:xx l (base+sz) sz n with
   | none=>simp [hr] at h
   | some r =>
    simp only [hr,Option.some.injEq] at h
    subst h
    obtain ⟨h1,h2⟩:=FM hr
    refine ⟨by simp [h1],fun j hj=>?_⟩
    cases j with
    | zero=>simp [hc]
    | succ j =>
     have:=h2 j (by omega)
     rw [show base+(j+1)*sz=base+sz+j*sz from by rw [Nat.add_mul];omega]
     simpa using this
theorem zi6 {k:IntKind} : ∀ {l:List Lf} {xs:List A},sV k l=some xs->l=xs.map (Lf.i k)
 | [],xs,h=>by simp [sV] at h;subst h;rfl
 | .i k' a::l,xs,h=>by
  simp only [sV] at h
  split at h
  ·rename_i hk
   have:=pN hk;subst this
   cases hr:sV k l with
   | none=>simp [hr] at h
   | some r=>simp only [hr,Option.some.injEq] at h;subst h;rw [zi6 hr];rfl
  ·simp at h
 | .b _::_,xs,h=>by simp [sV] at h
 | .p _ _::_,xs,h=>by simp [sV] at h
 | .gp _ _::_,xs,h=>by simp [sV] at h
 | .cG::_,xs,h=>by simp [sV] at h
 | .vec _::_,xs,h=>by simp [sV] at h
 | .kL _ _::_,xs,h=>by simp [sV] at h
 | .e _ _ _::_,xs,h=>by simp [sV] at h
 | .v _::_,xs,h=>by simp [sV] at h
theorem zhV:∀ {l:List Lf} {xs:List A},sW l=some xs->l=xs.map Lf.b
 | [],xs,h=>by simp [sW] at h;subst h;rfl
 | .b a::l,xs,h=>by
  simp only [sW] at h
  cases hr:sW l with
  | none=>simp [hr] at h
  | some r=>simp only [hr,Option.some.injEq] at h;subst h;rw [zhV hr];rfl
 | .i _ _::_,xs,h=>by simp [sW] at h
 | .p _ _::_,xs,h=>by simp [sW] at h
 | .gp _ _::_,xs,h=>by simp [sW] at h
 | .cG::_,xs,h=>by simp [sW] at h
 | .vec _::_,xs,h=>by simp [sW] at h
 | .kL _ _::_,xs,h=>by simp [sW] at h
 | .e _ _ _::_,xs,h=>by simp [sW] at h
 | .v _::_,xs,h=>by simp [sW] at h
section
variable {P:Program} {F:aC} {O:Nat->DV} {U:Nat->Loc} {w:World}
theorem FN {t:TypeId} {n:Nat} (h:hM P t=some n):∃ i,P.info? t=some i/\i.size=n:=by
 unfold hM at h
 cases hi:P.info? t with
 | none=>simp [hi] at h
 | some i=>simp [hi] at h;exact ⟨i,rfl,h⟩
theorem pO {t:TypeId} {n:Nat} (h:hM P t=some n) (w:World):(sizeOf t).run P w = .ok n w:=by
 obtain ⟨i,hi,hn⟩:=FN h
 simp [sizeOf,typeInfo,hi,hn]
theorem FO {t:TypeId} {k:TK} (h:tk P t=some k) (w:World):(isAgg t).run P w = .ok (oC k) w:=by
 obtain ⟨d,hd,hk⟩:=As h
 unfold isAgg
 rw [Sem.run_bind,run_underlying hd w]
 subst hk
 cases d<;>simp [oB,oC]
theorem LT.jv {t u:LT} (h:t.vE u=true):t=u:=by
 cases t<;>cases u<;>simp only [LT.vE] at h<;>first | rfl | cases h | rw [pN h]
theorem IC {t:LT} {a:A} {d:Nat} : ∀ {l:List Lf} {i:Nat},rH t a d i l=true->∀ (k:Nat) (x:Lf),l[k]? = some x->∃ b,b.beq a=true/\x = .e t b (i+k*d)
 | [],i,_,k,x,hx=>by simp at hx
 | y::l,i,h,k,x,hx=>by
  cases y<;>simp only [rH] at h<;>try cases h
  rename_i u b j
  simp only [Bool.and_eq_true] at h
  obtain ⟨⟨⟨h1,h2⟩,h3⟩,h4⟩:=h
  cases k with
  | zero =>
   simp at hx
   subst hx
   rw [LT.jv h1,Nat.eq_of_beq_eq_true h3]
   exact ⟨b,h2,by simp⟩
  | succ k =>
   rw [List.getElem?_cons_succ] at hx
   obtain ⟨c,h5,h6⟩:=IC h4 k x hx
   refine ⟨c,h5,?_⟩
   rw [h6]
   congr 1
   rw [Nat.add_mul];omega
theorem zk8 {x:Lf} (hg:x.good O):M.sat F O (MA x) (fun y=>y.good O/\∀ U,y.aa O U=x.aa O U):=by
 unfold MA
 split
 ·rename_i k a j
  refine ak (cz (Q:=fun q=>q.int O=((a.cells O).getD (0*1+j) default).ai) fun q h=>A.aM h) fun q hq=>au ⟨trivial,fun U=>?_⟩
  simp only [Lf.aa,hq,Nat.zero_mul,Nat.zero_add]
 ·rename_i a j
  refine ak (cz (Q:=fun q=>q.bool O=((a.cells O).getD (0*1+j) default).aA) fun q h=>A.aq h) fun q hq=>au ⟨trivial,fun U=>?_⟩
  simp only [Lf.aa,hq,Nat.zero_mul,Nat.zero_add]
 ·exact au ⟨hg,fun _=>rfl⟩
theorem FP {l:List Lf} {ix:A} {len:Nat} (hl:l.length=len) (h0:0<=ix.int O) (h1:ix.int O<len) :
  M.sat F O (Aa l ix) (fun x=>x.good O/\∀ U,∃ y,l[(ix.int O).toNat]? = some y/\x.aa O U=y.aa O U):=by
 have hlt:(ix.int O).toNat<l.length:=by omega
 unfold Aa
 split
 ·rename_i k a tl
  generalize hL:Lf.i k a::tl=L at *
  refine ak (lg (Q:=fun xs=>L=xs.map (Lf.i k)) fun xs h=>zi6 h) fun xs hxs=>?_
  refine ak (cz (Q:=fun r=>r.int O=_) fun r h=>A.aM h) fun r hr=>au ⟨trivial,fun U=>?_⟩
  rw [hxs] at hlt ⊢
  simp at hlt
  refine ⟨_,List.getElem?_eq_getElem (by simpa using hlt),?_⟩
  simp [Lf.aa,hr,List.getD,hlt]
 ·rename_i a tl
  generalize hL:Lf.b a::tl=L at *
  refine ak (lg (Q:=fun xs=>L=xs.map Lf.b) fun xs h=>zhV h) fun xs hxs=>?_
  refine ak (cz (Q:=fun r=>r.bool O=_) fun r h=>A.aq h) fun r hr=>au ⟨trivial,fun U=>?_⟩
  rw [hxs] at hlt ⊢
  simp at hlt
  refine ⟨_,List.getElem?_eq_getElem (by simpa using hlt),?_⟩
  simp [Lf.aa,hr,List.getD,hlt]
 ·rename_i k a i0 tl
  refine aY (fun hrow=>?_) (fun _=>aE)
  refine ak (cz (Q:=fun r=>r.int O=((a.cells O).getD ((ix.int O).toNat*Fi i0 tl+i0) default).ai) fun r h=>A.aM h) fun r hr=>au ⟨trivial,fun U=>?_⟩
  obtain ⟨b,h3,h4⟩:=IC hrow _ _ (List.getElem?_eq_getElem hlt)
  refine ⟨_,List.getElem?_eq_getElem hlt,?_⟩
  rw [h4]
  simp only [Lf.aa,hr,A.cells,A.aH h3 O,Nat.add_comm]
 ·rename_i a i0 tl
  refine aY (fun hrow=>?_) (fun _=>aE)
  refine ak (cz (Q:=fun r=>r.bool O=((a.cells O).getD ((ix.int O).toNat*Fi i0 tl+i0) default).aA) fun r h=>A.aq h) fun r hr=>au ⟨trivial,fun U=>?_⟩
  obtain ⟨b,h3,h4⟩:=IC hrow _ _ (List.getElem?_eq_getElem hlt)
  refine ⟨_,List.getElem?_eq_getElem hlt,?_⟩
  rw [h4]
  simp only [Lf.aa,hr,A.cells,A.aH h3 O,Nat.add_comm]
 ·exact aE
theorem Sd {l:List (Option Lf)} {sz len:Nat} {ix:A} (h0:0<=ix.int O) (h1:ix.int O<len):∀ (n base:Nat),
  M.sat F O (Hz l base sz len ix n) (fun xs=>xs.length=n/\(∀ x∈xs,x.good O)/\∀ U j,j<n->∃ x y,xs[j]? = some x/\nth l (base+j+(ix.int O).toNat*sz)=some y/\x.aa O U=y.aa O U)
 | 0,base=>au ⟨rfl,by simp,fun U j hj=>absurd hj (by omega)⟩
 | n+1,base=>by
  unfold Hz
  refine bh fun row hrow=>?_
  obtain ⟨hlen,iX⟩:=FM hrow
  refine ak (FP hlen h0 h1) fun x hx=>?_
  refine ak (Sd h0 h1 n (base+1)) fun r hr=>au ?_
  obtain ⟨ff,me,hr3⟩:=hr
  refine ⟨by simp [ff],?_,fun U j hj=>?_⟩
  ·intro y hy
   rcases List.mem_cons.1 hy with rfl | h
   ·exact hx.1
   ·exact me y h
  ·cases j with
   | zero =>
    obtain ⟨y,hy,he⟩:=hx.2 U
    refine ⟨x,y,rfl,?_,he⟩
    rw [Nat.add_zero,iX _ (by omega)]
    exact hy
   | succ j =>
    obtain ⟨x',y',xF,h2',Se⟩:=hr3 U j (by omega)
    refine ⟨x',y',by simpa using xF,?_,Se⟩
    rw [show base+(j+1)=base+1+j from by omega]
    exact h2'
theorem znE {l:List Lf} {off sz:Nat} {xs:List Lf} (h:rG (l.map some) off sz=some xs) (f:Lf->Value) :
  (l.map f).toArray.extract off (off+sz)=(xs.map f).toArray:=by
 obtain ⟨h1,h2⟩:=Sc h
 have hle:off+sz<=l.length\/sz=0:=by
  cases sz with
  | zero=>exact .inr rfl
  | succ n =>
   left
   have hx:=h2 n (by omega)
   have hxs:xs[n]? = some xs[n]:=List.getElem?_eq_getElem (by omega)
   rw [hxs] at hx
   have:=iW hx
   simp at this
   omega
 apply Array.ext'
 rw [Array.toList_extract,List.extract_eq_take_drop]
 apply List.ext_getElem?
 intro j
 rw [List.getElem?_take]
 by_cases hj:j<sz
 ·have hx:=h2 j hj
  rw [xE] at hx
  rw [if_pos (by omega),List.getElem?_drop]
  simp [hx]
 ·rw [if_neg (by omega)]
  simp only [List.getElem?_map]
  rw [List.getElem?_eq_none (by omega)]
  rfl
theorem zo9 {l:List Lf} {off sz:Nat} {xs:List Lf} (h:rG (l.map some) off sz=some xs) {x:Lf} (hx:x∈xs):x∈l:=by
 obtain ⟨h1,h2⟩:=Sc h
 obtain ⟨j,hj,rfl⟩:=List.mem_iff_getElem.1 hx
 have:=h2 j (by omega)
 rw [xE,List.getElem?_eq_getElem hj] at this
 exact List.mem_of_getElem? this
theorem ID {t:TypeId} {cs:List Lf} {off:Nat} (hg:∀ x∈cs,Lf.good O x) :
  M.sat F O (yF P t cs off) (fun v=>v.good O/\∀ U w,(part t (cs.map (Lf.aa O U)).toArray off).run P w = .ok (v.aa O U) w):=by
 unfold yF
 refine bh fun k hk=>?_
 refine bh fun sz hs=>?_
 refine aY (fun ha=>?_) (fun ha=>?_)
 ·refine ak (lg (Q:=fun xs=>rG (cs.map some) off sz=some xs) fun a h=>h) fun xs hxs=>au ⟨?_,fun U w=>?_⟩
  ·exact V1.aP.2 fun x hx=>hg x (zo9 hxs hx)
  ·have hex:=znE hxs (Lf.aa O U)
   simp only [part,Sem.run_bind,FO hk,ha,Result.andThen_ok,if_true,pO hs,Sem.run_pure,V1.aa,hex]
 ·refine bh fun x hx=>?_
  rw [Sb,xE] at hx
  refine ak (zk8 (hg x (List.mem_of_getElem? hx))) fun y hy=>au ⟨V1.ah.2 hy.1,fun U w=>?_⟩
  simp [part,FO hk,ha,hx,V1.aa,hy.2]
def Sf (P:Program) (O:Nat->DV) (d:Nat) (eq:TypeId->V1->V1->M A) (F:aC):Prop :=
 ∀ t x y,x.good O->y.good O->M.sat F O (eq t x y) (fun a=>∀ U m w,(Op.equalIn (m+d) t (x.aa O U) (y.aa O U)).run P w = .ok (a.bool O) w)
theorem zpa {a b:Lf} (h:QV a b=true) (U:Nat->Loc):a.aa O U=b.aa O U:=by
 have key:∀ {k k':IntKind} {x y:A} {i j:Nat},(m7 k k'&&x.beq y&&Nat.beq i j)=true->k=k'/\x.den O=y.den O/\i=j:=fun h=>by
  simp only [Bool.and_eq_true] at h
  exact ⟨pN h.1.1,A.aH h.1.2 O,Nat.eq_of_beq_eq_true h.2⟩
 unfold QV at h
 split at h
 ·simp only [Bool.and_eq_true] at h
  rw [pN h.1]
  simp only [Lf.aa,A.int,A.aH h.2 O]
 ·simp only [Lf.aa,A.bool,A.aH h O]
 ·obtain ⟨e1,e2,e3⟩:=key h
  subst e1 e3
  simp only [Lf.aa,A.cells,e2]
 ·simp only [Bool.and_eq_true] at h
  have e:=Nat.eq_of_beq_eq_true h.2
  subst e
  simp only [Lf.aa,A.cells,A.aH h.1 O]
 ·cases h
theorem zi7:∀ {l l':List Lf},Fo l l'=true->∀ U:Nat->Loc,l.map (Lf.aa O U)=l'.map (Lf.aa O U)
 | [],[],_,_=>rfl
 | x::l,y::l',h,U=>by
  simp only [Fo,Bool.and_eq_true] at h
  rw [List.map_cons,List.map_cons,zpa h.1 U,zi7 h.2 U]
 | [],_::_,h,_=>by cases h
 | _::_,[],h,_=>by cases h
theorem zhW {t:TypeId} {xs ys:List Lf} {off:Nat} {a:V1} (hy:∀ x∈ys,Lf.good O x) (ha:a.good O/\∀ U w,(part t (xs.map (Lf.aa O U)).toArray off).run P w = .ok (a.aa O U) w) :
  M.sat F O (if Fo xs ys then pure a else yF P t ys off) (fun v=>v.good O/\∀ U w,(part t (ys.map (Lf.aa O U)).toArray off).run P w = .ok (v.aa O U) w) :=
 aY (fun h=>au ⟨ha.1,fun U w=>by rw [<-zi7 h U];exact ha.2 U w⟩) (fun _=>ID hy)
theorem zi8 {d:Nat} {eq:TypeId->V1->V1->M A} (heq:Sf P O d eq F) {elem:TypeId} {sz:Nat} {xs ys:List Lf} (hx:∀ x∈xs,Lf.good O x) (hy:∀ x∈ys,Lf.good O x) :
  ∀ (n i:Nat),M.sat F O (MW P eq elem sz xs ys i n) (fun a=>∀ U m w,(Op.eqItems (m+d) elem sz (xs.map (Lf.aa O U)).toArray (ys.map (Lf.aa O U)).toArray (List.range' i n)).run P w = .ok (a.bool O) w)
 | 0,i=>au (by intro U m w;simp [Op.eqItems])
 | n+1,i=>by
  unfold MW
  refine ak (ID hx) fun a ha=>?_
  refine ak (zhW hy ha) fun b hb=>?_
  refine ak (heq elem a b ha.1 hb.1) fun e he=>?_
  refine ak (zi8 heq hx hy n (i+1)) fun r hr=>?_
  refine cH R_ fun q hq U m w=>?_
  rw [List.range'_succ]
  simp only [Op.eqItems,Sem.run_bind,ha.2 U w,hb.2 U w,Result.andThen_ok,he U m w,hq]
  cases h:e.bool O
  ·simp
  ·simpa using hr U m w
theorem zfv {d:Nat} {eq:TypeId->V1->V1->M A} (heq:Sf P O d eq F) {xs ys:List Lf} (hx:∀ x∈xs,Lf.good O x) (hy:∀ x∈ys,Lf.good O x) :
  ∀ (fs : List Field), (∀ f ∈ fs, f.name ≠ "_") -> M.sat F O (MX P eq xs ys (fs.map fun f => (f.offset, f.type))) (fun a => ∀ U m w, (Op.eqFields (m + d) (xs.map (Lf.aa O U)).toArray (ys.map (Lf.aa O U)).toArray fs).run P w = .ok (a.bool O) w)
 | [],_=>au (by intro U m w;simp [Op.eqFields])
 | f::fs,hn=>by
  simp only [List.map_cons]
  unfold MX
  refine ak (ID hx) fun a ha=>?_
  refine ak (zhW hy ha) fun b hb=>?_
  refine ak (heq f.type a b ha.1 hb.1) fun e he=>?_
  refine ak (zfv heq hx hy fs (fun g hg=>hn g (List.mem_cons_of_mem _ hg))) fun r hr=>?_
  refine cH R_ fun q hq U m w=>?_
  have hne : f.name ≠ "_" := hn f (by simp)
  simp only [Op.eqFields,hne,ne_eq,not_false_eq_true,if_true,Sem.run_bind,ha.2 U w,hb.2 U w,Result.andThen_ok,he U m w,hq]
  cases h:e.bool O
  ·simp
  ·simpa using hr U m w
theorem Nx:∀ (d:Nat),Sf P O d (tP P d) F
 | 0=>fun t x y _ _=>aE
 | d+1=>fun t x y IE hgy=>by
  unfold tP
  refine bh fun k hk=>?_
  split
  ·rename_i ki ka a kb b
   refine aY (fun hkk=>?_) (fun _=>aE)
   have:=pN hkk;subst this
   have hu:=Nw hk
   split
   ·exact au fun U m w=>by simp [V1.aa,Lf.aa,<-Nat.add_assoc,run_equalIn_int w _ t _ _ _ _ hu]
   ·refine aY (fun hb=>au fun U m w=>?_) (fun _=>cz fun r h U m w=>by rw [A.aq h];simp [V1.aa,Lf.aa,<-Nat.add_assoc,run_equalIn_int w _ t _ _ _ _ hu])
    have e:=A.aH hb O
    simp [V1.aa,Lf.aa,<-Nat.add_assoc,run_equalIn_int w _ t _ _ _ _ hu,A.int,e]
  ·have hu:=Sa hk
   split
   ·exact au fun U m w=>by simp [V1.aa,Lf.aa,<-Nat.add_assoc,run_equalIn_bool' w _ t _ _ hu]
   ·refine aY (fun hb=>au fun U m w=>?_) (fun _=>cz fun r h U m w=>by rw [A.aq h];simp [V1.aa,Lf.aa,<-Nat.add_assoc,run_equalIn_bool' w _ t _ _ hu])
    have e:=A.aH hb O
    simp [V1.aa,Lf.aa,<-Nat.add_assoc,run_equalIn_bool' w _ t _ _ hu,A.bool,e]
  ·rename_i len elem xs ys
   have hu:=FL hk
   refine bh fun sz hs=>?_
   obtain ⟨i,hi,hn⟩:=FN hs
   refine cH (zi8 (Nx d) (V1.aP.1 IE) (V1.aP.1 hgy) len 0) fun a ha U m w=>?_
   have hc:P.cellsOf elem=sz:=by simp [Program.cellsOf,hi,hn]
   simp only [V1.aa]
   rw [<-Nat.add_assoc,run_equalIn_array w (m+d) _ _ hu hi,hc,List.range_eq_range']
   exact ha U m w
  ·rename_i fs xs ys
   obtain ⟨fl,hu,yQ⟩:=IB hk
   have hfo:P.fieldsOf t=fl:=by simp [Program.fieldsOf,hu]
   refine aY (fun _=>aE) (fun hst=>?_)
   refine aY (fun hnm=>?_) (fun _=>aE)
   subst yQ
   rw [hfo] at hnm
   refine cH (zfv (Nx d) (V1.aP.1 IE) (V1.aP.1 hgy) fl.toList (by
    intro f hf
    have:=List.all_eq_true.1 hnm f hf
    simpa using this)) fun a ha U m w=>?_
   simp only [V1.aa]
   rw [<-Nat.add_assoc,run_equalIn_struct w (m+d) t _ _ (by rw [hfo];exact hu) (by simpa using hst),hfo]
   exact ha U m w
  ·exact aE
end
end Go.Sx
namespace Go.Sx
open Go.RowKit
structure nA where
 aB:World->Nat->Nat->Nat->Prop
 av:World->Nat->Nat->Nat->Prop
 rel:Bool->World->Nat->Nat->List DV->Prop
 weak:∀ {w:World} {p o:Nat} {d:List DV},rel true w p o d->rel false w p o d
 lt:∀ {own:Bool} {w:World} {p o:Nat} {d:List DV} {b:Nat},rel own w p o d->av w p o b->b<w.heap.size
 sub:∀ {own:Bool} {w:World} {p o:Nat} {d:List DV} {b:Nat},rel own w p o d->aB w p o b->av w p o b
 fP:∀ {own:Bool} {w w':World} {p o:Nat} {d:List DV},rel own w p o d->(∀ b,av w p o b->w'.heap[b]? = w.heap[b]?)->∀ b,aB w' p o b↔aB w p o b
 fh:∀ {own:Bool} {w w':World} {p o:Nat} {d:List DV},rel own w p o d->(∀ b,av w p o b->w'.heap[b]? = w.heap[b]?)->∀ b,av w' p o b↔av w p o b
 gJ:∀ {own:Bool} {w w':World} {p o:Nat} {d:List DV},rel own w p o d->(∀ b,av w p o b->w'.heap[b]? = w.heap[b]?)->rel own w' p o d
def IF:nA:=⟨fun _ _ _ _=>False,fun _ _ _ _=>False,fun _ _ _ _ _=>False,id,fun h=>h.elim,fun h=>h.elim,fun h=>h.elim,fun h=>h.elim,fun h=>h.elim⟩
theorem nA.wk (K:nA) {own:Bool} {w:World} {p o:Nat} {d:List DV} (h:K.rel own w p o d):K.rel false w p o d:=by
 cases own with
 | true=>exact K.weak h
 | false=>exact h
def bS:List DV->Int->Int
 | [],_=>0
 | e::r,k=>if (e.ay.getD 0 default).ai=k then (e.ay.getD 1 default).ai else bS r k
def qj (d:List DV) (k b:Int):List DV:=.l [.i k,.i b]::d
theorem FQ (d:List DV) (k b j:Int):bS (qj d k b) j=if k=j then b else bS d j:=rfl
structure cS (own:Bool) (w:World) (b o:Nat) (f:Nat->Int):Prop where
 cell:∀ i,i<4096->w.cell? ⟨b,o+i,none⟩=some (.int .u8 (f i))
 fz:own=true->∀ i,w.frozen? ⟨b,i,none⟩=false
theorem cS.congr {own:Bool} {w w':World} {b o:Nat} {f:Nat->Int} (h:cS own w b o f) (hb:w'.heap[b]? = w.heap[b]?):cS own w' b o f :=
 ⟨fun i hi=>by rw [World.cell?_of_block (w:=w) hb];exact h.cell i hi,fun ho i=>by rw [World.frozen?_of_block (w:=w) hb];exact h.fz ho i⟩
theorem cS.weak {own:Bool} {w:World} {b o:Nat} {f:Nat->Int} (h:cS own w b o f):cS false w b o f:=⟨h.cell,fun e=>by cases e⟩
theorem jw {w:World} {b o:Nat} {v:Value} (h:w.cell? ⟨b,o,none⟩=some v):b<w.heap.size:=by
 rcases Nat.lt_or_ge b w.heap.size with h2 | h2
 ·exact h2
 ·simp [World.cell?,Array.getElem?_eq_none h2] at h
theorem cS.lt {own:Bool} {w:World} {b o:Nat} {f:Nat->Int} (h:cS own w b o f):b<w.heap.size:=jw (h.cell 0 (by decide))
abbrev bF (n:Int):Value:=.agg #[.int .u64 n]
structure dL (own:Bool) (w:World) (p o:Nat) (d:List DV) (mb:Nat) (es:Array MapEntry) (clock:Nat):Prop where
 cell:w.cell? ⟨p,o,none⟩=some (.map (some mb))
 obj:w.heap[mb]? = some (.map es clock)
 st:MapKept.Stamped es clock
 fB:∀ e∈es.toList,∃ (n:Int) (b:Nat),0<=n/\n<18446744073709551616/\e.key=bF n/\e.val = .pointer (some ⟨b,0,none⟩)/\cS own w b 0 (fun i=>bS d (n*4096+i))
 apart:es.toList.Pairwise (fun e e'=>e.key≠e'.key/\e.val≠e'.val)
 rest:∀ n:Int,0<=n->n<18446744073709551616->(∀ e∈es.toList,e.key≠bF n)->∀ i:Nat,i<4096->bS d (n*4096+i)=0
def rq (w:World) (p o b:Nat):Prop :=
 b=p\/∃ mb,w.cell? ⟨p,o,none⟩=some (.map (some mb))/\(b=mb\/∃ es clock,w.heap[mb]? = some (.map es clock)/\∃ e∈es.toList,e.val = .pointer (some ⟨b,0,none⟩))
theorem dL.aB {own:Bool} {w:World} {p o:Nat} {d:List DV} {mb:Nat} {es:Array MapEntry} {clock:Nat} (h:dL own w p o d mb es clock) (b:Nat) :
  rq w p o b↔(b=p\/b=mb\/∃ e∈es.toList,e.val = .pointer (some ⟨b,0,none⟩)):=by
 unfold rq
 constructor
 ·rintro (h1 | ⟨mb',h1,h2 | ⟨es',cl',h2,h3⟩⟩)
  ·exact .inl h1
  ·rw [h.cell] at h1;cases h1;exact .inr (.inl h2)
  ·rw [h.cell] at h1;cases h1
   rw [h.obj] at h2;cases h2
   exact .inr (.inr h3)
 ·rintro (h1 | h1 | h1)
  ·exact .inl h1
  ·exact .inr ⟨mb,h.cell,.inl h1⟩
  ·exact .inr ⟨mb,h.cell,.inr ⟨es,clock,h.obj,h1⟩⟩
theorem dL.lt {own:Bool} {w:World} {p o:Nat} {d:List DV} {mb:Nat} {es:Array MapEntry} {clock:Nat} (h:dL own w p o d mb es clock) {b:Nat} (hb:rq w p o b):b<w.heap.size:=by
 rcases (h.aB b).1 hb with rfl | rfl | ⟨e,he,hv⟩
 ·exact jw h.cell
 ·rcases Nat.lt_or_ge b w.heap.size with h2 | h2
  ·exact h2
  ·have:=h.obj;rw [Array.getElem?_eq_none h2] at this;cases this
 ·obtain ⟨n,b',_,_,_,h5,h6⟩:=h.fB e he
  rw [h5] at hv
  cases hv
  exact h6.lt
theorem dL.congr {own:Bool} {w w':World} {p o:Nat} {d:List DV} {mb:Nat} {es:Array MapEntry} {clock:Nat} (h:dL own w p o d mb es clock) (hb:∀ b,rq w p o b->w'.heap[b]? = w.heap[b]?):dL own w' p o d mb es clock:=by
 refine ⟨?_,?_,h.st,fun e he=>?_,h.apart,h.rest⟩
 ·rw [World.cell?_of_block (w:=w) (hb p (.inl rfl))];exact h.cell
 ·rw [hb mb ((h.aB mb).2 (.inr (.inl rfl)))];exact h.obj
 ·obtain ⟨n,b,h1,h2,h3,h4,h5⟩:=h.fB e he
  exact ⟨n,b,h1,h2,h3,h4,h5.congr (hb b ((h.aB b).2 (.inr (.inr ⟨e,he,h4⟩))))⟩
theorem dL.weak {own:Bool} {w:World} {p o:Nat} {d:List DV} {mb:Nat} {es:Array MapEntry} {clock:Nat} (h:dL own w p o d mb es clock):dL false w p o d mb es clock :=
 ⟨h.cell,h.obj,h.st,fun e he=>let ⟨n,b,h1,h2,h3,h4,h5⟩:=h.fB e he;⟨n,b,h1,h2,h3,h4,h5.weak⟩,h.apart,h.rest⟩
theorem zja {own:Bool} {w w':World} {p o:Nat} {d:List DV} {mb:Nat} {es:Array MapEntry} {clock:Nat} (h:dL own w p o d mb es clock) (hb:∀ b,rq w p o b->w'.heap[b]? = w.heap[b]?) (b:Nat):rq w' p o b↔rq w p o b:=by
 rw [(h.congr hb).aB,h.aB]
def At:nA where
 aB:=rq
 av:=rq
 rel own w p o d:=∃ mb es clock,dL own w p o d mb es clock
 weak:=fun ⟨mb,es,cl,h⟩=>⟨mb,es,cl,h.weak⟩
 lt:=fun ⟨_,_,_,h⟩ hb=>h.lt hb
 sub:=fun _ h=>h
 fP:=fun ⟨_,_,_,h⟩ hb=>zja h hb
 fh:=fun ⟨_,_,_,h⟩ hb=>zja h hb
 gJ:=fun ⟨mb,es,cl,h⟩ hb=>⟨mb,es,cl,h.congr hb⟩
structure eC (own:Bool) (w:World) (p o:Nat) (d:List DV) (sb so c:Nat) (pg:Nat->Option (Nat×Nat×Nat)):Prop where
 cell:w.cell? ⟨p,o,none⟩=some (.slice (some ⟨sb,so,none⟩) 256 c)
 fz:own=true->∀ i,w.frozen? ⟨sb,i,none⟩=false
 gone:∀ k,k<256->pg k=none->(∃ s c',w.cell? ⟨sb,so+k,none⟩=some (.slice s 0 c'))/\∀ i:Nat,i<4096->bS d (2147483648+k*4096+i)=0
 there:∀ k b f c',k<256->pg k=some (b,f,c')->w.cell? ⟨sb,so+k,none⟩=some (.slice (some ⟨b,f,none⟩) 4096 c')/\cS own w b f (fun i=>bS d (2147483648+k*4096+i))
 apart:∀ k k' b f c1 b' f' c2,k<256->k'<256->k≠k'->pg k=some (b,f,c1)->pg k'=some (b',f',c2)->b≠b'
def uZ (w:World) (p o b:Nat):Prop :=
 b=p\/∃ sb so c,w.cell? ⟨p,o,none⟩=some (.slice (some ⟨sb,so,none⟩) 256 c)/\(b=sb\/∃ k f c',k<256/\w.cell? ⟨sb,so+k,none⟩=some (.slice (some ⟨b,f,none⟩) 4096 c'))
theorem eC.aB {own:Bool} {w:World} {p o:Nat} {d:List DV} {sb so c:Nat} {pg:Nat->Option (Nat×Nat×Nat)} (h:eC own w p o d sb so c pg) (b:Nat) :
  uZ w p o b↔(b=p\/b=sb\/∃ k f c',k<256/\pg k=some (b,f,c')):=by
 unfold uZ
 constructor
 ·rintro (h1 | ⟨sb',so',c',h1,h2 | ⟨k,f,c2,hk,h3⟩⟩)
  ·exact .inl h1
  ·rw [h.cell] at h1;cases h1;exact .inr (.inl h2)
  ·rw [h.cell] at h1;cases h1
   refine .inr (.inr ⟨k,f,c2,hk,?_⟩)
   cases hp:pg k with
   | none =>
    obtain ⟨⟨s,c3,h4⟩,_⟩:=h.gone k hk hp
    rw [h3] at h4;cases h4
   | some x =>
    obtain ⟨b1,f1,c1⟩:=x
    have h4:=(h.there k b1 f1 c1 hk hp).1
    rw [h3] at h4;cases h4
    rfl
 ·rintro (h1 | h1 | ⟨k,f,c',hk,h1⟩)
  ·exact .inl h1
  ·exact .inr ⟨sb,so,c,h.cell,.inl h1⟩
  ·exact .inr ⟨sb,so,c,h.cell,.inr ⟨k,f,c',hk,(h.there k b f c' hk h1).1⟩⟩
theorem eC.yR {own:Bool} {w:World} {p o:Nat} {d:List DV} {sb so c:Nat} {pg:Nat->Option (Nat×Nat×Nat)} (h:eC own w p o d sb so c pg):sb<w.heap.size:=by
 cases hp:pg 0 with
 | none=>obtain ⟨⟨s,c3,h4⟩,_⟩:=h.gone 0 (by decide) hp;exact jw h4
 | some x=>exact jw (h.there 0 x.1 x.2.1 x.2.2 (by decide) hp).1
theorem eC.lt {own:Bool} {w:World} {p o:Nat} {d:List DV} {sb so c:Nat} {pg:Nat->Option (Nat×Nat×Nat)} (h:eC own w p o d sb so c pg) {b:Nat} (hb:uZ w p o b):b<w.heap.size:=by
 rcases (h.aB b).1 hb with rfl | rfl | ⟨k,f,c',hk,h1⟩
 ·exact jw h.cell
 ·exact h.yR
 ·exact (h.there k b f c' hk h1).2.lt
theorem eC.congr {own:Bool} {w w':World} {p o:Nat} {d:List DV} {sb so c:Nat} {pg:Nat->Option (Nat×Nat×Nat)} (h:eC own w p o d sb so c pg) (hb:∀ b,uZ w p o b->w'.heap[b]? = w.heap[b]?):eC own w' p o d sb so c pg:=by
 have Sg:=hb sb ((h.aB sb).2 (.inr (.inl rfl)))
 refine ⟨?_,fun ho i=>?_,fun k hk hp=>?_,fun k b f c' hk hp=>?_,h.apart⟩
 ·rw [World.cell?_of_block (w:=w) (hb p (.inl rfl))];exact h.cell
 ·rw [World.frozen?_of_block (w:=w) Sg];exact h.fz ho i
 ·obtain ⟨⟨s,c3,h4⟩,h5⟩:=h.gone k hk hp
  exact ⟨⟨s,c3,by rw [World.cell?_of_block (w:=w) Sg];exact h4⟩,h5⟩
 ·obtain ⟨h4,h5⟩:=h.there k b f c' hk hp
  exact ⟨by rw [World.cell?_of_block (w:=w) Sg];exact h4,h5.congr (hb b ((h.aB b).2 (.inr (.inr ⟨k,f,c',hk,hp⟩))))⟩
theorem eC.weak {own:Bool} {w:World} {p o:Nat} {d:List DV} {sb so c:Nat} {pg:Nat->Option (Nat×Nat×Nat)} (h:eC own w p o d sb so c pg):eC false w p o d sb so c pg :=
 ⟨h.cell,fun e=>(by cases e),h.gone,fun k b f c' hk hp=>⟨(h.there k b f c' hk hp).1,(h.there k b f c' hk hp).2.weak⟩,h.apart⟩
theorem zjb {own:Bool} {w w':World} {p o:Nat} {d:List DV} {sb so c:Nat} {pg:Nat->Option (Nat×Nat×Nat)} (h:eC own w p o d sb so c pg) (hb:∀ b,uZ w p o b->w'.heap[b]? = w.heap[b]?) (b:Nat):uZ w' p o b↔uZ w p o b:=by
 rw [(h.congr hb).aB,h.aB]
def IG:nA where
 aB:=uZ
 av:=uZ
 rel own w p o d:=∃ sb so c pg,eC own w p o d sb so c pg
 weak:=fun ⟨sb,so,c,pg,h⟩=>⟨sb,so,c,pg,h.weak⟩
 lt:=fun ⟨_,_,_,_,h⟩ hb=>h.lt hb
 sub:=fun _ h=>h
 fP:=fun ⟨_,_,_,_,h⟩ hb=>zjb h hb
 fh:=fun ⟨_,_,_,_,h⟩ hb=>zjb h hb
 gJ:=fun ⟨sb,so,c,pg,h⟩ hb=>⟨sb,so,c,pg,h.congr hb⟩
theorem zrx {w:World} {p o:Nat} {d:List DV} (_:At.rel true w p o d) {b:Nat} (h:At.av w p o b):At.aB w p o b:=h
theorem zry {w:World} {p o:Nat} {d:List DV} (_:IG.rel true w p o d) {b:Nat} (h:IG.av w p o b):IG.aB w p o b:=h
end Go.Sx
namespace Go.Sx
open Go.RowKit
structure Env where
 W:Nat->Prop
 V:Nat->Prop
 w0:World
 n0:Nat
 U0:Nat->Loc
inductive eD (E:Env):LT->DV->Value->Prop
 | int (k:IntKind) (d:DV):eD E (.int k) d (.int k d.ai)
 | bool (d:DV):eD E .bool d (.bool d.aA)
 | vec (ts:List LT) (d:DV) (r:Loc) (vs:Nat->Value) (aZ:r.nil=true->r.len=0/\r.cap=0) (hlt:r.nil=false->r.aj<E.w0.heap.size/\¬ E.W r.aj/\E.V r.aj) (hpos:0<ts.length)
   (hlen:d.ay.length=r.len*ts.length) (hcap:r.len<=r.cap) (hv:∀ i,i<d.ay.length->E.w0.cell? ⟨r.aj,r.off+i,none⟩=some (vs i))
   (hc:∀ i,i<d.ay.length->eD E (ts.getD (i%ts.length) .bool) (d.ay.getD i default) (vs i)):eD E (.vec ts) d r.slice
structure bf (E:Env) (w:World) (r:Loc) (ow:Bool) (ts:List LT) (xs:List DV):Prop where
 nil:r.nil=true->r.len=0/\r.cap=0
 lt:r.nil=false->r.aj<w.heap.size
 pos:0<ts.length
 len:xs.length=r.len*ts.length
 cap:r.len<=r.cap
 cell:∀ i,i<xs.length->∃ v,w.cell? ⟨r.aj,r.off+i,none⟩=some v/\eD E (ts.getD (i%ts.length) .bool) (xs.getD i default) v
 own:ow=true->r.nil=false->∀ i,i<r.cap*ts.length->(w.cell? ⟨r.aj,r.off+i,none⟩).isSome=true/\w.frozen? ⟨r.aj,r.off+i,none⟩=false
 fz:ow=true->r.nil=false->r.cap<=9223372036854775807/\∀ o,w.frozen? ⟨r.aj,o,none⟩=false
structure cK (O:Nat->DV) (U:Nat->Loc) (w:World) (r:Loc) (ow:Bool) (cs:List (Option Lf)):Prop where
 nil:r.nil=false
 lt:r.aj<w.heap.size
 cell:∀ i l,nth cs i=some l->l.good O/\w.cell? ⟨r.aj,r.off+i,none⟩=some (l.aa O U)
 own:ow=true->∀ i,i<cs.length->(w.cell? ⟨r.aj,r.off+i,none⟩).isSome=true/\w.frozen? ⟨r.aj,r.off+i,none⟩=false
 fz:ow=true->∀ o,w.frozen? ⟨r.aj,o,none⟩=false
structure eu (E:Env) (w:World) (r:Loc) (o f:Bool) (ts:List LT) (xs:List DV):Prop where
 row:bf E w r false ts xs
 spare:o=true->r.len<r.cap->bf E w r true ts xs
 full:f=true->r.cap=r.len
def II {α:Type} (kn vn:Nat):Nat->List α->List (List α×List α)
 | 0,_=>[]
 | n+1,cs=>(cs.take kn,(cs.drop kn).take vn)::II kn vn n (cs.drop (kn+vn))
def s6 {α:Type} (kt vt:Bool×Nat) (cs:List α):List (List α×List α):=II kt.2 vt.2 (cs.length/(kt.2+vt.2)) cs
def Si (t:Bool×Nat) (l:List Value):Value:=if t.1 then .agg l.toArray else l.headD .nilFunc
def tU (t:Bool×Nat) (O:Nat->DV) (U:Nat->Loc) (l:List Lf):Value:=Si t (l.map (Lf.aa O U))
theorem Sj {α β:Type} (f:α->β) (kn vn:Nat):∀ (n:Nat) (cs:List α),II kn vn n (cs.map f)=(II kn vn n cs).map fun e=>(e.1.map f,e.2.map f)
 | 0,_=>rfl
 | n+1,cs=>by
  have:=Sj f kn vn n (cs.drop (kn+vn))
  simp only [II,List.map_cons,List.map_take,List.map_drop] at this ⊢
  rw [this]
theorem FR {O O':Nat->DV} {U U':Nat->Loc} {kt vt:Bool×Nat} {cs cs':List Lf} (h:cs.map (Lf.aa O U)=cs'.map (Lf.aa O' U')) :
  ((s6 kt vt cs).map fun e=>(tU kt O U e.1,tU vt O U e.2))=(s6 kt vt cs').map fun e=>(tU kt O' U' e.1,tU vt O' U' e.2):=by
 have hl:cs.length=cs'.length:=by have:=congrArg List.length h;simpa using this
 have e1:=Sj (Lf.aa O U) kt.2 vt.2 (cs.length/(kt.2+vt.2)) cs
 have e2:=Sj (Lf.aa O' U') kt.2 vt.2 (cs.length/(kt.2+vt.2)) cs'
 rw [h,e2] at e1
 have e3:=congrArg (List.map fun e:List Value×List Value=>(Si kt e.1,Si vt e.2)) e1
 simp only [List.map_map] at e3
 unfold s6
 rw [<-hl]
 exact e3.symm
structure eS (O:Nat->DV) (U:Nat->Loc) (w:World) (r:Loc) (kt vt:Bool×Nat) (cs:List Lf):Prop where
 nil:r.nil=false
 nB:∃ (es:Array MapEntry) (clock:Nat),w.heap[r.aj]? = some (.map es clock)/\(es.toList.map fun e=>(e.key,e.val)).Perm ((s6 kt vt cs).map fun e=>(tU kt O U e.1,tU vt O U e.2))
 good:∀ l∈cs,l.good O
theorem eS.lt {O:Nat->DV} {U:Nat->Loc} {w:World} {r:Loc} {kt vt:Bool×Nat} {cs:List Lf} (h:eS O U w r kt vt cs):r.aj<w.heap.size:=by
 obtain ⟨es,clock,h1,_⟩:=h.nB
 rcases Nat.lt_or_ge r.aj w.heap.size with h2 | h2
 ·exact h2
 ·rw [Array.getElem?_eq_none h2] at h1;cases h1
theorem eS.congr {O:Nat->DV} {U:Nat->Loc} {w w':World} {r:Loc} {kt vt:Bool×Nat} {cs:List Lf} (h:eS O U w r kt vt cs) (hb:w'.heap[r.aj]? = w.heap[r.aj]?):eS O U w' r kt vt cs :=
 ⟨h.nil,by rw [hb];exact h.nB,h.good⟩
theorem eD.flat {E E':Env} {t:LT} {d:DV} {v:Value} (ht:t.flat=true) (h:eD E t d v):eD E' t d v:=by
 cases h with
 | int k=>exact .int k d
 | bool=>exact .bool d
 | vec=>cases ht
theorem Sk {ts:List LT} (h:ts.all LT.flat=true) (i:Nat):(ts.getD i .bool).flat=true:=by
 rw [List.getD_eq_getElem?_getD]
 cases hi:ts[i]? with
 | none=>rfl
 | some t=>exact List.all_eq_true.1 h t (List.mem_of_getElem? hi)
section
variable (K:Nat->nA)
def dP (w:World) (r:Loc):ag->Nat->Prop
 | .obj _ k _=>(K k).aB w r.aj r.off
 | .l _ _ _ _=>fun b=>b=r.aj/\r.len<r.cap
 | _=>fun b=>b=r.aj
def bx (w:World) (r:Loc):ag->Nat->Prop
 | .obj _ k _=>(K k).av w r.aj r.off
 | _=>fun b=>b=r.aj
def zxW (w:World):Env:=⟨fun _=>False,fun _=>False,w,0,fun _=>default⟩
def bO (O:Nat->DV) (U:Nat->Loc) (w:World) (r:Loc):ag->Prop
 | .c own cs=>cK O U w r own cs
 | .v own ts a=>ts.all LT.flat=true/\bf (zxW w) w r own ts (a.cells O)/\(r.cap=0->r.nil=true)
 | .obj o k a=>r.nil=false/\(K k).rel o w r.aj r.off (a.cells O)
 | .l o f ts a=>ts.all LT.flat=true/\eu (zxW w) w r o f ts (a.cells O)/\(r.cap=0->r.nil=true)
 | .m _ kt vt cs=>eS O U w r kt vt cs
structure IJ (O:Nat->DV) (U:Nat->Loc) (hp:List (Option ag)) (w:World):Prop where
 aj:∀ j bk,nth hp j=some bk->bO K O U w (U j) bk
 apart:∀ j j' bk aS,nth hp j=some bk->bk.own=true->nth hp j'=some aS->j≠j'->(U j).nil=false->(U j').nil=false->∀ b,dP K w (U j) bk b->¬ bx K w (U j') aS b
theorem bO.lt {O:Nat->DV} {U:Nat->Loc} {w:World} {r:Loc} {bk:ag} (h:bO K O U w r bk) (hn:r.nil=false) {b:Nat} (hb:bx K w r bk b):b<w.heap.size:=by
 cases bk with
 | c o cs =>
  have hb:b=r.aj:=hb
  rw [hb];exact cK.lt h
 | v o ts a =>
  have hb:b=r.aj:=hb
  rw [hb];exact bf.lt h.2.1 hn
 | obj o k a=>exact (K k).lt h.2 hb
 | l o f ts a =>
  have hb:b=r.aj:=hb
  rw [hb];exact h.2.1.row.lt hn
 | m o kt vt cs =>
  have hb:b=r.aj:=hb
  rw [hb];exact eS.lt h
theorem bO.rd {O:Nat->DV} {U:Nat->Loc} {w:World} {r:Loc} {bk:ag} (h:bO K O U w r bk) {b:Nat} (hb:dP K w r bk b):bx K w r bk b:=by
 cases bk with
 | c o cs=>exact hb
 | v o ts a=>exact hb
 | obj o k a=>exact (K k).sub h.2 hb
 | l o f ts a=>exact hb.1
 | m o kt vt cs=>exact hb
theorem bO.dU {O:Nat->DV} {U:Nat->Loc} {w w':World} {r:Loc} {bk:ag} (h:bO K O U w r bk) (hb:∀ b,bx K w r bk b->w'.heap[b]? = w.heap[b]?) (b:Nat):dP K w' r bk b↔dP K w r bk b:=by
 cases bk with
 | c o cs=>exact Iff.rfl
 | v o ts a=>exact Iff.rfl
 | obj o k a=>exact (K k).fP h.2 hb b
 | l o f ts a=>exact Iff.rfl
 | m o kt vt cs=>exact Iff.rfl
theorem bO.cN {O:Nat->DV} {U:Nat->Loc} {w w':World} {r:Loc} {bk:ag} (h:bO K O U w r bk) (hb:∀ b,bx K w r bk b->w'.heap[b]? = w.heap[b]?) (b:Nat):bx K w' r bk b↔bx K w r bk b:=by
 cases bk with
 | c o cs=>exact Iff.rfl
 | v o ts a=>exact Iff.rfl
 | obj o k a=>exact (K k).fh h.2 hb b
 | l o f ts a=>exact Iff.rfl
 | m o kt vt cs=>exact Iff.rfl
theorem zje {w w':World} {b:Nat} (h:b<w.heap.size) (hb:w'.heap[b]? = w.heap[b]?):b<w'.heap.size:=by
 rw [Array.getElem?_eq_getElem h] at hb
 exact (Array.getElem?_eq_some_iff.1 hb).1
theorem bf.congr {E E':Env} {w w':World} {r:Loc} {o:Bool} {ts:List LT} {xs:List DV} (hf:ts.all LT.flat=true) (h:bf E w r o ts xs) (hb:r.nil=false->w'.heap[r.aj]? = w.heap[r.aj]?):bf E' w' r o ts xs:=by
 cases hn:r.nil with
 | true =>
  have h0:=h.nil hn
  have hx:xs.length=0:=by rw [h.len,h0.1,Nat.zero_mul]
  exact ⟨h.nil,fun e=>absurd (hn.symm.trans e) (by decide),h.pos,h.len,h.cap,fun i hi=>by omega,fun _ e=>absurd (hn.symm.trans e) (by decide),fun _ e=>absurd (hn.symm.trans e) (by decide)⟩
 | false =>
  have hb:=hb hn
  have hc:∀ i,w'.cell? ⟨r.aj,i,none⟩=w.cell? ⟨r.aj,i,none⟩:=fun i=>World.cell?_of_block (w:=w) hb
  have hf':∀ i,w'.frozen? ⟨r.aj,i,none⟩=w.frozen? ⟨r.aj,i,none⟩:=fun i=>World.frozen?_of_block (w:=w) hb
  exact ⟨h.nil,fun e=>zje (h.lt e) hb,h.pos,h.len,h.cap,fun i hi=>by
   rw [hc]
   obtain ⟨v,h1,h2⟩:=h.cell i hi
   exact ⟨v,h1,h2.flat (Sk hf _)⟩,fun ho e i hi=>by rw [hc,hf'];exact h.own ho e i hi,fun ho e=>⟨(h.fz ho e).1,fun o=>by rw [hf'];exact (h.fz ho e).2 o⟩⟩
theorem cK.congr {O:Nat->DV} {U:Nat->Loc} {w w':World} {r:Loc} {o:Bool} {cs:List (Option Lf)} (h:cK O U w r o cs) (hb:w'.heap[r.aj]? = w.heap[r.aj]?):cK O U w' r o cs:=by
 have hc:∀ i,w'.cell? ⟨r.aj,i,none⟩=w.cell? ⟨r.aj,i,none⟩:=fun i=>World.cell?_of_block (w:=w) hb
 have hf:∀ i,w'.frozen? ⟨r.aj,i,none⟩=w.frozen? ⟨r.aj,i,none⟩:=fun i=>World.frozen?_of_block (w:=w) hb
 exact ⟨h.nil,zje h.lt hb,fun i l hl=>by rw [hc];exact h.cell i l hl,fun ho i hi=>by rw [hc,hf];exact h.own ho i hi,fun ho o=>by rw [hf];exact h.fz ho o⟩
theorem eu.congr {E E':Env} {w w':World} {r:Loc} {o f:Bool} {ts:List LT} {xs:List DV} (hf:ts.all LT.flat=true) (h:eu E w r o f ts xs) (hb:r.nil=false->w'.heap[r.aj]? = w.heap[r.aj]?):eu E' w' r o f ts xs :=
 ⟨h.row.congr hf hb,fun ho hc=>(h.spare ho hc).congr hf hb,h.full⟩
theorem bO.congr {O:Nat->DV} {U:Nat->Loc} {w w':World} {r:Loc} {bk:ag} (h:bO K O U w r bk) (hb:r.nil=false->∀ b,bx K w r bk b->w'.heap[b]? = w.heap[b]?):bO K O U w' r bk:=by
 cases bk with
 | obj o k a=>exact ⟨h.1,(K k).gJ h.2 (hb h.1)⟩
 | c o cs =>
  have h:cK O U w r o cs:=h
  exact h.congr (hb h.nil r.aj rfl)
 | v o ts a=>exact ⟨h.1,h.2.1.congr h.1 (fun hn=>hb hn r.aj rfl),h.2.2⟩
 | l o f ts a=>exact ⟨h.1,eu.congr h.1 h.2.1 (fun hn=>hb hn r.aj rfl),h.2.2⟩
 | m o kt vt cs =>
  have h:eS O U w r kt vt cs:=h
  exact h.congr (hb h.nil r.aj rfl)
structure mg (p:aV) (w:World) (b o:Nat) (d:List DV) (U:Nat->Loc):Prop where
 len:d.length=p.tys.length
 aj:(U 0).aj=b
 off:(U 0).off=o
 h:IJ K (fun i=>d.getD i default) U p.hp w
def Ck:ag->Loc->Loc->Prop
 | .v _ _ _,r,r'=>r.nil=r'.nil/\(r.nil=false->r.aj=r'.aj)
 | .l _ _ _ _,r,r'=>r.nil=r'.nil/\(r.nil=false->r.aj=r'.aj)/\r.len=r'.len/\r.cap=r'.cap
 | _,r,r'=>r.aj=r'.aj/\r.off=r'.off
theorem zk9 {hp:List (Option ag)} : ∀ {l:List (Option ag)} {r:List (Nat×Nat)} {j i:Nat} {bk:ag},xA hp j l r=true->nth l i=some bk->∃ q,rJ hp (j+i) bk q=true
 | [],_,j,i,bk,_,h=>by cases i<;>cases h
 | none::l,r,j,i,bk,h,_=>by cases r<;>simp [xA] at h
 | some b::l,[],j,i,bk,h,_=>by simp [xA] at h
 | some b::l,q::r,j,0,bk,h,hn=>by
  cases hn
  simp only [xA,Bool.and_eq_true] at h
  exact ⟨q,h.1⟩
 | some b::l,q::r,j,i+1,bk,h,hn=>by
  simp only [xA,Bool.and_eq_true] at h
  obtain ⟨q',hq⟩:=zk9 (i:=i) h.2 hn
  exact ⟨q',by rwa [show j+1+i=j+(i+1) from by omega] at hq⟩
theorem aV.vW {p:aV} (hok:p.ok=true) {j:Nat} {bk:ag} (hj:nth p.hp j=some bk) (h0:j≠0):∃ q,rJ p.hp j bk q=true:=by
 simp only [aV.ok,Bool.and_eq_true] at hok
 have hok:=hok.1
 cases j with
 | zero=>exact absurd rfl h0
 | succ j =>
  obtain ⟨q,hq⟩:=zk9 (i:=j) (bk:=bk) hok.2 (by
   cases hp:p.hp with
   | nil=>rw [hp] at hj;cases hj
   | cons x l=>rw [hp] at hj;exact hj)
  exact ⟨q,by rwa [show 1+j=j+1 from by omega] at hq⟩
theorem mg.uniq {p:aV} (hok:p.ok=true) {w:World} {b o:Nat} {d d':List DV} {U U':Nat->Loc} (h:mg K p w b o d U) (h':mg K p w b o d' U'):∀ (n j:Nat) (bk:ag),j<n->nth p.hp j=some bk->Ck bk (U j) (U' j)
 | 0,j,bk,hj,_=>by omega
 | n+1,j,bk,hjn,hj=>by
  by_cases h0:j=0
  ·subst h0
   have hr:ZO (nth p.hp 0)=true:=by
    simp only [aV.ok,Bool.and_eq_true] at hok
    exact hok.1.1
   rw [hj] at hr
   cases bk with
   | c _ _=>exact ⟨h.aj.trans h'.aj.symm,h.off.trans h'.off.symm⟩
   | v _ _ _=>cases hr
   | obj _ _ _=>cases hr
   | l _ _ _ _=>cases hr
   | m _ _ _ _=>cases hr
  ·obtain ⟨q,hq⟩:=aV.vW hok hj h0
   simp only [rJ,Bool.and_eq_true,Nat.blt_eq] at hq
   obtain ⟨hlt,hq⟩:=hq
   cases hp:nth p.hp q.1 with
   | none=>rw [hp] at hq;cases hq
   | some pb =>
    rw [hp] at hq
    cases pb with
    | v _ _ _=>cases hq
    | obj _ _ _=>cases hq
    | l _ _ _ _=>cases hq
    | m _ _ _ _=>cases hq
    | c po cs =>
     have ih:=mg.uniq hok h h' n q.1 _ (by omega) hp
     have ih:(U q.1).aj=(U' q.1).aj/\(U q.1).off=(U' q.1).off:=ih
     have h1:cK _ U w (U q.1) po cs:=h.h.aj q.1 _ hp
     have h2:cK _ U' w (U' q.1) po cs:=h'.h.aj q.1 _ hp
     have key:∀ l,nth cs q.2=some l->l.aa (fun i=>d.getD i default) U=l.aa (fun i=>d'.getD i default) U':=fun l hl=>by
      have e1:=(h1.cell q.2 l hl).2
      have e2:=(h2.cell q.2 l hl).2
      rw [ih.1,ih.2,e2] at e1
      exact (Option.some.inj e1).symm
     simp only at hq
     cases hc:nth cs q.2 with
     | none=>cases bk<;>(simp only [hc] at hq;cases hq)
     | some l =>
      have hk:=key l hc
      have ptr:∀ i n,l = .p i (.c n)->i=j->(U j).aj=(U' j).aj/\(U j).off=(U' j).off:=fun i n hl hi=>by
       subst hl hi
       simp only [Lf.aa,bV.val,Value.pointer.injEq,Option.some.injEq,Addr.mk.injEq,and_true] at hk
       exact ⟨hk.1,by omega⟩
      cases bk with
      | c _ _ =>
       have hq:MK j (nth cs q.2)=true:=hq
       rw [hc] at hq
       cases l<;>first | (cases hq;done) | skip
       rename_i i off
       cases off<;>first | (cases hq;done) | skip
       rename_i n
       have hq:(Nat.beq i j&&Nat.beq n 0)=true:=hq
       simp only [Bool.and_eq_true] at hq
       exact ptr _ _ rfl (Nat.eq_of_beq_eq_true hq.1)
      | obj _ _ _ =>
       have hq:MK j (nth cs q.2)=true:=hq
       rw [hc] at hq
       cases l<;>first | (cases hq;done) | skip
       rename_i i off
       cases off<;>first | (cases hq;done) | skip
       rename_i n
       have hq:(Nat.beq i j&&Nat.beq n 0)=true:=hq
       simp only [Bool.and_eq_true] at hq
       exact ptr _ _ rfl (Nat.eq_of_beq_eq_true hq.1)
      | v vo ts a =>
       have hq:MJ j (nth cs q.2)=true:=hq
       rw [hc] at hq
       cases l<;>first | (cases hq;done) | skip
       have hij:=Nat.eq_of_beq_eq_true hq
       rw [hij] at hk
       have g1:=h.h.aj j _ hj
       have g2:=h'.h.aj j _ hj
       have n1:(U j).cap=0->(U j).nil=true:=g1.2.2
       have n2:(U' j).cap=0->(U' j).nil=true:=g2.2.2
       have m1:(U j).nil=true->(U j).len=0/\(U j).cap=0:=g1.2.1.nil
       have m2:(U' j).nil=true->(U' j).len=0/\(U' j).cap=0:=g2.2.1.nil
       simp only [Lf.aa,Loc.slice,Value.slice.injEq] at hk
       have aZ:(U j).nil=(U' j).nil:=by
        cases e1:(U j).nil with
        | true=>exact (n2 (by rw [<-hk.2.2];exact (m1 e1).2)).symm
        | false =>
         cases e2:(U' j).nil with
         | false=>rfl
         | true=>rw [n1 (by rw [hk.2.2];exact (m2 e2).2)] at e1;cases e1
       refine ⟨aZ,fun e=>?_⟩
       rw [<-aZ,e] at hk
       simp only [cond_false,Option.some.injEq,Addr.mk.injEq] at hk
       exact hk.1.1
      | m mo kt vt mcs=>cases hq
      | l vo vf ts a =>
       have hq:MJ j (nth cs q.2)=true:=hq
       rw [hc] at hq
       cases l<;>first | (cases hq;done) | skip
       have hij:=Nat.eq_of_beq_eq_true hq
       rw [hij] at hk
       have g1:=h.h.aj j _ hj
       have g2:=h'.h.aj j _ hj
       have n1:(U j).cap=0->(U j).nil=true:=g1.2.2
       have n2:(U' j).cap=0->(U' j).nil=true:=g2.2.2
       have m1:(U j).nil=true->(U j).len=0/\(U j).cap=0:=g1.2.1.row.nil
       have m2:(U' j).nil=true->(U' j).len=0/\(U' j).cap=0:=g2.2.1.row.nil
       simp only [Lf.aa,Loc.slice,Value.slice.injEq] at hk
       have aZ:(U j).nil=(U' j).nil:=by
        cases e1:(U j).nil with
        | true=>exact (n2 (by rw [<-hk.2.2];exact (m1 e1).2)).symm
        | false =>
         cases e2:(U' j).nil with
         | false=>rfl
         | true=>rw [n1 (by rw [hk.2.2];exact (m2 e2).2)] at e1;cases e1
       refine ⟨aZ,fun e=>?_,hk.2.1,hk.2.2⟩
       rw [<-aZ,e] at hk
       simp only [cond_false,Option.some.injEq,Addr.mk.injEq] at hk
       exact hk.1.1
theorem Ck.aB {bk:ag} {w:World} {r r':Loc} (h:Ck bk r r') (hn:r.nil=false):dP K w r bk=dP K w r' bk:=by
 cases bk with
 | c _ _=>funext x;simp only [dP];rw [h.1]
 | v _ _ _=>funext x;simp only [dP];rw [h.2 hn]
 | obj _ _ _=>simp only [dP];rw [h.1,h.2]
 | l _ _ _ _=>funext x;simp only [dP];rw [h.2.1 hn,h.2.2.1,h.2.2.2]
 | m _ _ _ _=>funext x;simp only [dP];rw [h.1]
theorem Ck.av {bk:ag} {w:World} {r r':Loc} (h:Ck bk r r') (hn:r.nil=false):bx K w r bk=bx K w r' bk:=by
 cases bk with
 | c _ _=>funext x;simp only [bx];rw [h.1]
 | v _ _ _=>funext x;simp only [bx];rw [h.2 hn]
 | obj _ _ _=>simp only [bx];rw [h.1,h.2]
 | l _ _ _ _=>funext x;simp only [bx];rw [h.2.1 hn]
 | m _ _ _ _=>funext x;simp only [bx];rw [h.1]
theorem Ck.nil {bk:ag} {O O':Nat->DV} {U U':Nat->Loc} {w w':World} {r r':Loc} (h:Ck bk r r') (h1:bO K O U w r bk) (h2:bO K O' U' w' r' bk):r.nil=r'.nil:=by
 cases bk with
 | c _ _=>rw [cK.nil h1,cK.nil h2]
 | v _ _ _=>exact h.1
 | obj _ _ _=>rw [h1.1,h2.1]
 | l _ _ _ _=>exact h.1
 | m _ _ _ _=>rw [eS.nil h1,eS.nil h2]
theorem mg.congr {p:aV} {w w':World} {b o:Nat} {d:List DV} {U:Nat->Loc} (h:mg K p w b o d U)
  (hb:∀ j bk,nth p.hp j=some bk->(U j).nil=false->∀ x,bx K w (U j) bk x->w'.heap[x]? = w.heap[x]?):mg K p w' b o d U :=
 ⟨h.len,h.aj,h.off,fun j bk hj=>(h.h.aj j bk hj).congr K (hb j bk hj),fun j j' bk aS hj ho hj' hne hn hn' x h1 h2 =>
  h.h.apart j j' bk aS hj ho hj' hne hn hn' x (((h.h.aj j bk hj).dU K (hb j bk hj hn) x).1 h1) (((h.h.aj j' aS hj').cN K (hb j' aS hj' hn') x).1 h2)⟩
theorem ag.rP (b:ag):b.b9.own=false:=by cases b<;>rfl
theorem Au (w:World) (r:Loc) (b:ag):bx K w r b.b9=bx K w r b:=by cases b<;>rfl
theorem bO.b9 {O:Nat->DV} {U:Nat->Loc} {w:World} {r:Loc} {bk:ag} (h:bO K O U w r bk):bO K O U w r bk.b9:=by
 cases bk with
 | c o cs =>
  have h:cK O U w r o cs:=h
  exact (⟨h.nil,h.lt,h.cell,fun e=>(by cases e),fun e=>by cases e⟩:cK O U w r false cs)
 | v o ts a =>
  have h2:=h.2.1
  exact ⟨h.1,⟨h2.nil,h2.lt,h2.pos,h2.len,h2.cap,h2.cell,fun e=>(by cases e),fun e=>by cases e⟩,h.2.2⟩
 | obj o k a=>exact ⟨h.1,(K k).wk h.2⟩
 | l o f ts a=>exact ⟨h.1,⟨h.2.1.row,fun e=>(by cases e),h.2.1.full⟩,h.2.2⟩
 | m o kt vt cs=>exact h
theorem ir {α β:Type} (f:α->β):∀ (l:List (Option α)) (j:Nat),nth (l.map (Option.map f)) j=(nth l j).map f
 | [],j=>by cases j<;>rfl
 | x::l,0=>by simp [nth]
 | x::l,j+1=>by simp only [List.map_cons,nth];exact ir f l j
theorem aV.n_ {p:aV} {o:Bool} {j:Nat} {bk:ag} (h:nth p.hp j=some bk):nth (p.rd o).hp j=some (if o then bk else bk.b9):=by
 cases o with
 | true=>exact h
 | false=>simp only [aV.rd,Bool.false_eq_true,if_false];rw [ir,h];rfl
theorem aV.kO {p:aV} {o:Bool} {j:Nat} {bk:ag} (h:nth (p.rd o).hp j=some bk):∃ b,nth p.hp j=some b/\bk=if o then b else b.b9:=by
 cases o with
 | true=>exact ⟨bk,h,rfl⟩
 | false =>
  simp only [aV.rd,Bool.false_eq_true,if_false] at h
  rw [ir] at h
  obtain ⟨b,hb,e⟩:=Option.map_eq_some_iff.1 h
  exact ⟨b,hb,by simp [e]⟩
theorem zrz (hp:List (Option ag)) (j:Nat) (bk:ag) (q:Nat×Nat):rJ (hp.map (Option.map ag.b9)) j bk.b9 q=rJ hp j bk q:=by
 unfold rJ
 rw [ir]
 cases nth hp q.1 with
 | none=>rfl
 | some b=>cases b<;>cases bk<;>rfl
theorem zjf (hp:List (Option ag)):∀ (l:List (Option ag)) (j:Nat) (r:List (Nat×Nat)),xA (hp.map (Option.map ag.b9)) j (l.map (Option.map ag.b9)) r=xA hp j l r
 | [],_,_=>rfl
 | none::l,j,r=>by cases r<;>rfl
 | some b::l,j,[]=>rfl
 | some b::l,j,q::r=>by
  simp only [List.map_cons,Option.map_some,xA,zrz,zjf hp l (j+1) r]
theorem aV.ql {p:aV} (h:p.ok=true) (o:Bool):(p.rd o).ok=true:=by
 cases o with
 | true=>exact h
 | false =>
  simp only [aV.ok,Bool.and_eq_true] at h
  simp only [aV.ok,aV.rd,Bool.false_eq_true,if_false,Bool.and_eq_true]
  refine ⟨⟨?_,?_⟩,?_⟩
  ·rw [ir]
   have:=h.1.1
   cases hx:nth p.hp 0 with
   | none=>rw [hx] at this;cases this
   | some b=>rw [hx] at this;cases b<;>first | (exact rfl) | (cases this;done)
  ·rw [<-List.map_drop,zjf];exact h.1.2
  ·rw [List.all_map,<-h.2]
   congr 1
   funext x
   cases x with
   | none=>rfl
   | some b=>cases b<;>rfl
theorem mg.xG {p:aV} {o1:Bool} {w:World} {b o:Nat} {d:List DV} {U:Nat->Loc} (h:mg K (p.rd o1) w b o d U):mg K (p.rd false) w b o d U:=by
 refine ⟨?_,h.aj,h.off,fun j bk hj=>?_,fun j j' bk aS hj ho=>?_⟩
 ·have:=h.len
  cases o1<;>exact this
 ·obtain ⟨x,hx,e⟩:=aV.kO hj
  simp only [Bool.false_eq_true,if_false] at e
  rw [e]
  have:=(h.h.aj j _ (aV.n_ (o:=o1) hx))
  cases o1 with
  | true=>exact bO.b9 K this
  | false=>exact this
 ·obtain ⟨x,hx,e⟩:=aV.kO hj
  simp only [Bool.false_eq_true,if_false] at e
  rw [e,ag.rP] at ho
  cases ho
theorem mg.move {p:aV} (hok:p.ok=true) {o1:Bool} {wa wb:World} {b o:Nat} {d d1:List DV} {U U1:Nat->Loc} (h1:mg K (p.rd o1) wa b o d1 U1) (h:mg K (p.rd false) wa b o d U)
  (hb:∀ j bk,nth (p.rd false).hp j=some bk->(U j).nil=false->∀ x,bx K wa (U j) bk x->wb.heap[x]? = wa.heap[x]?) :
  mg K (p.rd o1) wb b o d1 U1/\∀ j bk,nth (p.rd o1).hp j=some bk->(U1 j).nil=false->∀ x,(dP K wb (U1 j) bk x↔dP K wa (U1 j) bk x)/\(bx K wb (U1 j) bk x↔bx K wa (U1 j) bk x):=by
 have hF:=h1.xG K
 have j8:∀ j bk,nth (p.rd o1).hp j=some bk->(U1 j).nil=false->∀ x,bx K wa (U1 j) bk x->wb.heap[x]? = wa.heap[x]?:=fun j bk hj hn x hx=>by
  obtain ⟨y,hy,e⟩:=aV.kO hj
  have Ny:=aV.n_ (o:=false) hy
  have hu:=hF.uniq K (aV.ql hok false) h (j+1) j _ (by omega) Ny
  have hn2:=(hu.nil K (hF.h.aj j _ Ny) (h.h.aj j _ Ny)).symm.trans hn
  refine hb j _ Ny hn2 x ?_
  rw [<-hu.av K hn]
  simp only [Bool.false_eq_true,if_false]
  rw [Au]
  cases o1 with
  | true=>simp only [if_true] at e;rw [<-e];exact hx
  | false=>simp only [Bool.false_eq_true,if_false] at e;rw [e,Au] at hx;exact hx
 exact ⟨h1.congr K j8,fun j bk hj hn x=>⟨(h1.h.aj j bk hj).dU K (j8 j bk hj hn) x,(h1.h.aj j bk hj).cN K (j8 j bk hj hn) x⟩⟩
def zs2 (p:aV) (hok:p.ok=true):nA where
 rel own w b o d:=∃ U,mg K (p.rd own) w b o d U
 aB w b o x:=∃ d U,mg K (p.rd true) w b o d U/\∃ j bk,nth (p.rd true).hp j=some bk/\bk.own=true/\(U j).nil=false/\dP K w (U j) bk x
 av w b o x:=∃ d U,mg K (p.rd false) w b o d U/\∃ j bk,nth (p.rd false).hp j=some bk/\(U j).nil=false/\bx K w (U j) bk x
 weak:=fun ⟨U,h⟩=>⟨U,h.xG K⟩
 lt:=fun _ ⟨d,U,h,j,bk,hj,hn,hx⟩=>(h.h.aj j bk hj).lt K hn hx
 sub:=fun _ ⟨d,U,h,j,bk,hj,_,hn,hx⟩=>⟨d,U,h.xG K,j,bk.b9,aV.n_ (o:=false) hj,hn,by rw [Au];exact (h.h.aj j bk hj).rd K hx⟩
 fP:=fun ⟨U,h⟩ hb x=>by
  have hF:=h.xG K
  have hb':∀ j bk,nth (p.rd false).hp j=some bk->(U j).nil=false->∀ x,bx K _ (U j) bk x->_:=fun j bk hj hn x hx=>hb x ⟨_,U,hF,j,bk,hj,hn,hx⟩
  have Av:=hF.congr K hb'
  constructor
  ·rintro ⟨d1,U1,h1,j,bk,hj,ho,hn,hx⟩
   obtain ⟨m1,m2⟩:=h1.move K hok Av (fun j bk hj hn x hx=>(hb' j bk hj hn x (((hF.h.aj j bk hj).cN K (hb' j bk hj hn) x).1 hx)).symm)
   exact ⟨d1,U1,m1,j,bk,hj,ho,hn,(m2 j bk hj hn x).1.2 hx⟩
  ·rintro ⟨d1,U1,h1,j,bk,hj,ho,hn,hx⟩
   obtain ⟨m1,m2⟩:=h1.move K hok hF hb'
   exact ⟨d1,U1,m1,j,bk,hj,ho,hn,(m2 j bk hj hn x).1.2 hx⟩
 fh:=fun ⟨U,h⟩ hb x=>by
  have hF:=h.xG K
  have hb':∀ j bk,nth (p.rd false).hp j=some bk->(U j).nil=false->∀ x,bx K _ (U j) bk x->_:=fun j bk hj hn x hx=>hb x ⟨_,U,hF,j,bk,hj,hn,hx⟩
  have Av:=hF.congr K hb'
  constructor
  ·rintro ⟨d1,U1,h1,j,bk,hj,hn,hx⟩
   obtain ⟨m1,m2⟩:=h1.move K hok Av (fun j bk hj hn x hx=>(hb' j bk hj hn x (((hF.h.aj j bk hj).cN K (hb' j bk hj hn) x).1 hx)).symm)
   exact ⟨d1,U1,m1,j,bk,hj,hn,(m2 j bk hj hn x).2.2 hx⟩
  ·rintro ⟨d1,U1,h1,j,bk,hj,hn,hx⟩
   obtain ⟨m1,m2⟩:=h1.move K hok hF hb'
   exact ⟨d1,U1,m1,j,bk,hj,hn,(m2 j bk hj hn x).2.2 hx⟩
 gJ:=fun ⟨U,h⟩ hb=>by
  have hF:=h.xG K
  exact ⟨U,(h.move K hok hF (fun j bk hj hn x hx=>hb x ⟨_,U,hF,j,bk,hj,hn,hx⟩)).1⟩
end
def bQ:Nat->nA
 | 0=>At
 | 1=>IG
 | k+2 =>
  match pats[k]? with
  | some p=>if h:qZ (k+2) p.ids=true then zs2 (fun j=>if _:j<k+2 then bQ j else IF) p.ids (by simp only [qZ,Bool.and_eq_true] at h;exact h.1.1) else IF
  | none=>IF
def m8 (k j:Nat):nA:=if j<k then bQ j else IF
theorem yS {k:Nat} {p:aV} (hp:pats[k]? = some p) (h:qZ (k+2) p.ids=true):bQ (k+2)=zs2 (m8 (k+2)) p.ids (by simp only [qZ,Bool.and_eq_true] at h;exact h.1.1):=by
 rw [bQ]
 split
 ·rename_i p' hp'
  rw [hp] at hp';cases hp'
  rw [dif_pos h]
  rfl
 ·rename_i hp'
  rw [hp] at hp';cases hp'
theorem zs3 {k:Nat} (h:∀ p,pats[k]? = some p->qZ (k+2) p.ids=false):bQ (k+2)=IF:=by
 rw [bQ]
 split
 ·rename_i p' hp'
  rw [dif_neg (by rw [h p' hp'];decide)]
 ·rfl
theorem Sl {α:Type} {f:α->Bool} : ∀ {l:List (Option α)} {j:Nat} {x:α},l.all (dw f)=true->nth l j=some x->f x=true
 | [],j,x,_,h=>by cases j<;>cases h
 | a::l,0,x,h,hx=>by
  cases hx
  simp only [List.all_cons,Bool.and_eq_true] at h
  exact h.1
 | a::l,j+1,x,h,hx=>by
  simp only [List.all_cons,Bool.and_eq_true] at h
  exact Sl (l:=l) h.2 hx
theorem u_ {k:Nat} (h:nY k=false):kb k=k:=by unfold kb;rw [h];rfl
theorem zvP {k:Nat} (h:nY k=true):kb k=k-1000:=by unfold kb;rw [h];rfl
theorem znG {k:Nat} (hx:MM k=true) {w:World} {p o:Nat} {d:List DV} (h:(bQ k).rel true w p o d) {b:Nat} (hb:(bQ k).av w p o b):(bQ k).aB w p o b:=by
 match k with
 | 0=>rw [bQ] at h hb ⊢;exact zrx h hb
 | 1=>rw [bQ] at h hb ⊢;exact zry h hb
 | k+2 =>
  simp only [MM] at hx
  split at hx
  ·rename_i q hq
   cases hok:qZ (k+2) q.ids with
   | false =>
    rw [zs3 (fun q' oJ=>by rw [hq] at oJ;cases oJ;exact hok)] at h
    exact h.elim
   | true =>
    rw [yS hq hok] at hb ⊢
    rw [yS hq hok] at h
    obtain ⟨U,hd⟩:=h
    obtain ⟨d1,U1,Nz,j,aS,hj',b_,hf⟩:=hb
    obtain ⟨bk,hj,e⟩:=aV.kO hj'
    simp only [Bool.false_eq_true,if_false] at e
    have Sn:=aV.ql (show q.ids.ok=true by simp only [qZ,Bool.and_eq_true] at hok;exact hok.1.1) false
    have So:=aV.n_ (o:=false) hj
    have hu:=Nz.uniq _ Sn (hd.xG _) (j+1) j _ (by omega) So
    have hn:=(hu.nil _ (Nz.h.aj j _ So) ((hd.xG _).h.aj j _ So)).symm.trans b_
    rw [e] at hf
    simp only [Bool.false_eq_true,if_false] at hu
    rw [hu.av _ b_,Au] at hf
    have lq:=hok
    simp only [qZ,Bool.and_eq_true,show q.ids.ex=true from hx,Bool.not_true,Bool.false_or] at lq
    have he:=Sl lq.2 hj
    have hk:=Sl lq.1.2 hj
    refine ⟨_,U,hd,j,bk,hj,?_,hn,?_⟩
    ·cases bk with
     | c=>exact he
     | v=>exact he
     | m=>exact he
     | l=>cases he
     | obj o k' a=>simp only [ag.QF,Bool.and_eq_true] at he;exact he.1
    ·cases bk with
     | c=>exact hf
     | v=>exact hf
     | m=>exact hf
     | l=>cases he
     | obj o k' a =>
      simp only [ag.QF,Bool.and_eq_true] at he
      simp only [ag.ez,Bool.and_eq_true,Nat.blt_eq,Bool.not_eq_true'] at hk
      obtain ⟨hk,hko⟩:=hk
      rw [u_ hko] at he
      simp only [dP,bx,m8,if_pos hk] at hf ⊢
      have hr:(m8 (k+2) k').rel o w (U j).aj (U j).off _:=(hd.h.aj j _ hj).2
      rw [he.1] at hr
      rw [m8,if_pos hk] at hr
      exact znG he.2 hr hf
  ·cases hx
termination_by k
decreasing_by exact hk
def fW (o:Bool) (k:Nat) (w:World) (r:Loc) (d:List DV):Prop :=
 (nY k=false->r.nil=false/\(bQ (kb k)).rel o w r.aj r.off d) /\
 (nY k=true->(d.getD 0 default).aA = !r.nil/\(r.nil=false->(bQ (kb k)).rel o w r.aj r.off (d.getD 1 default).ay))
theorem fW.rel {o:Bool} {k:Nat} {w:World} {r:Loc} {d:List DV} (h:fW o k w r d) (hn:r.nil=false):∃ d',(bQ (kb k)).rel o w r.aj r.off d':=by
 cases hk:nY k with
 | false=>exact ⟨_,(h.1 hk).2⟩
 | true=>exact ⟨_,(h.2 hk).2 hn⟩
theorem fW.map {o o':Bool} {k:Nat} {w w':World} {r:Loc} {d:List DV} (h:fW o k w r d) (hm:r.nil=false->∀ d',(bQ (kb k)).rel o w r.aj r.off d'->(bQ (kb k)).rel o' w' r.aj r.off d'):fW o' k w' r d :=
 ⟨fun hk=>⟨(h.1 hk).1,hm (h.1 hk).1 _ (h.1 hk).2⟩,fun hk=>⟨(h.2 hk).1,fun hn=>hm hn _ ((h.2 hk).2 hn)⟩⟩
theorem fW.plain {o:Bool} {k:Nat} {w:World} {r:Loc} {d:List DV} (hk:nY k=false):fW o k w r d↔(r.nil=false/\(bQ k).rel o w r.aj r.off d):=by
 unfold fW
 rw [u_ hk]
 exact ⟨fun h=>h.1 hk,fun h=>⟨fun _=>h,fun h'=>by rw [hk] at h';cases h'⟩⟩
def ag.aB (w:World) (r:Loc):ag->Nat->Prop
 | .obj _ k _=>(bQ (kb k)).aB w r.aj r.off
 | .l _ _ _ _=>fun b=>b=r.aj/\r.len<r.cap
 | _=>fun b=>b=r.aj
def ag.av (w:World) (r:Loc):ag->Nat->Prop
 | .obj _ k _=>(bQ (kb k)).av w r.aj r.off
 | _=>fun b=>b=r.aj
end Go.Sx
