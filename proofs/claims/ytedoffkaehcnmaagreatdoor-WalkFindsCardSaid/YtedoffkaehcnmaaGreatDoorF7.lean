/- A law whose arguments are plain, or slices of plain elements: its row, out of its function's contract. -/
import Derived.SizedLaws
import Derived.Test.YtedoffkaehcnmaaGreatDoorF6
import Derived.ReadAgain
namespace Go.Sx
open Go Go.ChangeShapes Go.WideShapes Go.RowKit
inductive ShV where
 | pl (s:Sh)
 | row (ts:List LT)
 deriving Inhabited
def ShV.wd:ShV→Nat
 | .pl s=>s.lts.length
 | .row _=>1
def nInV:List ShV→Nat
 | []=>0
 | s::ss=>s.wd+nInV ss
def patV:Nat→Nat→List ShV→List V
 | _,_,[]=>[]
 | j,b,.pl (.one t)::ss=>.s (.one (t.pat j))::patV (j+1) b ss
 | j,b,.pl (.agg ts)::ss=>.s (.agg (zc5 j ts))::patV (j+ts.length) b ss
 | j,b,.row _::ss=>.s (.one (.vec b))::patV (j+1) (b+1) ss
def blksV:Nat→List ShV→List (Option Blk)
 | _,[]=>[]
 | j,.pl s::ss=>blksV (j+s.lts.length) ss
 | j,.row ts::ss=>some (.v false ts (.h j))::blksV (j+1) ss
def argV (g:Nat→DV) (ρ:Nat→Loc):Nat→Nat→List ShV→List Value
 | _,_,[]=>[]
 | j,b,.pl (.one t)::ss=>t.conc (g j)::argV g ρ (j+1) b ss
 | j,b,.pl (.agg ts)::ss=>.agg (zdv g j ts).toArray::argV g ρ (j+ts.length) b ss
 | j,b,.row _::ss=>(ρ b).slice::argV g ρ (j+1) (b+1) ss
theorem zhm {n:Nat} (g:Nat→DV) (ρ:Nat→Loc):∀ (ss:List ShV) (j b:Nat),j+nInV ss≤n→((patV j b ss).map (V.inst (zap 0 n))).map (V.conc g ρ)=argV g ρ j b ss∧∀ x∈(patV j b ss).map (V.inst (zap 0 n)),V.good g x
 | [],j,b,_=>⟨rfl,fun x hx=>by cases hx⟩
 | .pl (.one t)::ss,j,b,h=>by
  have h:j+(1+nInV ss)≤n:=h
  obtain ⟨h1,h2⟩:=zhm (n:=n) g ρ ss (j+1) b (by omega)
  obtain ⟨h3,h4⟩:=zrj g ρ (t:=t) (show j<n by omega)
  refine ⟨by simp only [patV,List.map_cons,argV,h1,V.inst,V1.inst,V.conc,V1.conc,h3],fun x hx=>?_⟩
  simp only [patV,List.map_cons] at hx
  rcases List.mem_cons.1 hx with rfl | hx
  ·exact V1.good_one.2 h4
  ·exact h2 x hx
 | .pl (.agg ts)::ss,j,b,h=>by
  have h:j+(ts.length+nInV ss)≤n:=h
  obtain ⟨h1,h2⟩:=zhm (n:=n) g ρ ss (j+ts.length) b (by omega)
  obtain ⟨h3,h4⟩:=zfS (n:=n) g ρ ts j (show j+ts.length≤n by omega)
  refine ⟨by simp only [patV,List.map_cons,argV,h1,V.inst,V1.inst,V.conc,V1.conc,h3],fun x hx=>?_⟩
  simp only [patV,List.map_cons] at hx
  rcases List.mem_cons.1 hx with rfl | hx
  ·exact V1.good_agg.2 h4
  ·exact h2 x hx
 | .row ts::ss,j,b,h=>by
  have h:j+(1+nInV ss)≤n:=h
  obtain ⟨h1,h2⟩:=zhm (n:=n) g ρ ss (j+1) (b+1) (by omega)
  refine ⟨by simp only [patV,List.map_cons,argV,h1,V.inst,V1.inst,V.conc,V1.conc,Lf.inst,Lf.conc],fun x hx=>?_⟩
  simp only [patV,List.map_cons] at hx
  rcases List.mem_cons.1 hx with rfl | hx
  ·exact V1.good_one.2 trivial
  ·exact h2 x hx
def zvA:Value→DV
 | .int _ n=>.i n
 | .bool b=>.b b
 | _=>.i 0
structure RowIn (ts:List LT) (xs:List DV):Prop where
 pos:0<ts.length
 len:∃ n,n≤maxLen∧xs.length=n*ts.length
 cell:∀ i,i<xs.length→RangeOk [ts.getD (i%ts.length) .bool] [xs.getD i default]
def zk0:List ShV→List DV→Prop
 | [],ds=>ds=[]
 | .pl s::ss,ds=>RangeOk s.lts (ds.take s.lts.length)∧zk0 ss (ds.drop s.lts.length)
 | .row ts::ss,ds=>(∃ xs,ds.head? = some (.l xs)∧RowIn ts xs)∧zk0 ss ds.tail
def zev (E:Env) (W:World):List ShV→List DV→List Loc→Prop
 | [],_,_=>True
 | .pl s::ss,ds,ls=>zev E W ss (ds.drop s.lts.length) ls
 | .row ts::ss,ds,ls=>VRel E W (ls.headD default) false ts (ds.headD default).toL∧zev E W ss ds.tail ls.tail
def zvB (P:Program) (t:TypeId):Option ShV :=
 match P.underlying t with
 | some (.slice e) =>
  match zfj P 20 e with
  | some l=>if Nat.beq l.length (P.cellsOf e)&&Nat.blt 0 l.length then some (.row l) else none
  | none=>none
 | _=>(zql P t).map .pl
def zc6 (P:Program):List TypeId→Option (List ShV)
 | []=>some []
 | t::ts =>
  match zvB P t,zc6 P ts with
  | some s,some r=>some (s::r)
  | _,_=>none
theorem zoz:∀ {ts:List LT} {vs:List Value},zcg ts vs→∀ i,i<ts.length→∃ v,vs[i]? = some v∧zkY (ts.getD i .bool) v
 | t::ts,v::vs,h,0,_=>⟨v,rfl,h.1⟩
 | t::ts,v::vs,h,i+1,hi=>by
  obtain ⟨u,h1,h2⟩:=zoz h.2 i (by simpa using hi)
  exact ⟨u,by simpa using h1,by simpa using h2⟩
 | [],_,_,i,hi=>by simp at hi
 | _::_,[],h,_,_=>h.elim
theorem zk1 {E:Env} {t:LT} {v:Value} (h:zkY t v):CRel E t (zvA v) v∧RangeOk [t] [zvA v]:=by
 cases t with
 | int k =>
  cases v<;>simp only [zkY] at h
  obtain ⟨rfl,hw⟩:=h
  exact ⟨.int _ (.i _),⟨hw,trivial⟩⟩
 | bool =>
  cases v<;>simp only [zkY] at h
  exact ⟨.bool (.b _),trivial,trivial⟩
 | vec ts=>cases v<;>simp only [zkY] at h
theorem zwA {w:World} {base:Nat} {a:Addr} {n:Nat} {cs:List Value} (h:w.cells? base a n=some cs):∀ i,i<n→∀ v,cs[i]? = some v→w.cell? (a.add i)=some v:=by
 unfold World.cells? at h
 split at h
 ·intro i hi v hv
  obtain ⟨y,h1,h2⟩:=znf h i i (List.getElem?_range hi)
  rw [h1] at hv
  cases hv
  exact h2
 ·cases h
section
variable {H:Type} {enc:TypeId×Value→H} {P:Program}
def lenW:DataW H→Nat
 | .slice elems _=>elems.length
 | _=>0
def zvC:List ShV→List DV→List (DataW H)→Prop
 | [],_,_=>True
 | .pl s::ss,xs,_::ds=>zvC ss (xs.drop s.lts.length) ds
 | .row ts::ss,xs,d::ds=>(xs.headD default).toL.length=lenW d*ts.length∧zvC ss xs.tail ds
 | _::_,_,[]=>False
theorem zvD {w:World} {base b0:Nat} {sp:Nat→Bool} {held:Bool} {r:Reach} {t e:TypeId} {v:Value} {d:DataW H} {ps:List MemPlace} {ts:List LT} (hu:P.underlying t=some (.slice e)) (hf:zfj P 20 e=some ts) (hc:ts.length=P.cellsOf e) (hpos:0<ts.length)
  (hval:Value.okWide P w r b0 t v) (hd:DataW.Trod enc P w base sp held t v d ps) (E:Env):∃ (xs:List DV) (l:Loc),RowIn ts xs∧v=l.slice∧VRel E w l false ts xs∧xs.length=lenW d*ts.length:=by
 obtain ⟨fuel,hd⟩:=hd
 obtain ⟨a,len,cap,rfl⟩:=okWide_slice hu hval
 have hcell:(Value.slice a len cap).cells.toList=[Value.slice a len cap]:=rfl
 rw [hcell] at hd
 rcases DataW.trod_slice hu hd with ⟨h1,hx⟩ | ⟨a,len',cap',elems,rest,n,_,h1,hx,_,hlc,hcm,hel,helem,_,_⟩
 ·simp only [List.cons.injEq,Value.slice.injEq,and_true] at h1
  obtain ⟨rfl,rfl,rfl⟩:=h1
  refine ⟨[],⟨0,0,true,0,0,none⟩,⟨hpos,⟨0,Nat.zero_le _,by simp⟩,fun i hi=>by simp at hi⟩,rfl,?_,?_⟩
  ·exact ⟨fun _=>⟨rfl,rfl⟩,fun e=>(by cases e),hpos,by simp,Nat.le_refl _,fun i hi=>by simp at hi,fun e=>(by cases e),fun e=>(by cases e)⟩
  ·rw [(Prod.mk.inj hx).1]
   simp [lenW]
 ·simp only [List.cons.injEq,Value.slice.injEq,and_true] at h1
  obtain ⟨rfl,rfl,rfl⟩:=h1
  have hspot:a.spot=none∧w.shape? a.block≠none:=by
   simp only [Value.okWide,hu,Cell.okWide,Cell.ok] at hval
   obtain ⟨_,_,_,h2,_,_,h3,_⟩:=hval
   exact ⟨h2,by rw [h3];simp⟩
  have ha:a=⟨a.block,a.off,none⟩:=by cases a;simp_all
  have hadd:∀ i,a.add i=⟨a.block,a.off+i,none⟩:=fun i=>by rw [ha];exact zbJ _ _ _
  have hkey:∀ j,j<len*ts.length→∃ v,w.cell? ⟨a.block,a.off+j,none⟩=some v∧zkY (ts.getD (j%ts.length) .bool) v:=fun j hj=>by
   have hq:j/ts.length<len:=(Nat.div_lt_iff_lt_mul hpos).2 hj
   have hr:j%ts.length<ts.length:=Nat.mod_lt _ hpos
   have he:=helem (j/ts.length) hq
   rw [List.getElem?_eq_getElem (by rw [hel];exact hq)] at he
   obtain ⟨cs,hcs,htr⟩:=Option.bind_eq_some_iff.1 he
   have hlv:=(zcA (enc:=enc) 20 hf n w base sp held cs _ _ htr).1
   obtain ⟨v,hv1,hv2⟩:=zoz hlv (j%ts.length) hr
   refine ⟨v,?_,hv2⟩
   have:=zwA hcs (j%ts.length) (by rw [←hc];exact hr) v hv1
   rw [hadd,zbJ,←hc] at this
   rw [←this]
   congr 2
   have:=Nat.div_add_mod j ts.length
   rw [Nat.mul_comm] at this
   omega
  have hget:∀ (i:Nat) (v:Value),i<len*ts.length→w.cell? ⟨a.block,a.off+i,none⟩=some v→((List.range (len*ts.length)).map fun i=>zvA ((w.cell? ⟨a.block,a.off+i,none⟩).getD undef)).getD i default=zvA v:=fun i v hi hv=>by
   rw [List.getD_eq_getElem?_getD,List.getElem?_map,List.getElem?_range hi]
   simp [hv]
  refine ⟨(List.range (len*ts.length)).map fun i=>zvA ((w.cell? ⟨a.block,a.off+i,none⟩).getD undef),⟨a.block,a.off,false,len,cap,none⟩,⟨hpos,⟨len,Nat.le_trans hlc hcm,by simp⟩,fun i hi=>?_⟩,?_,?_,?_⟩
  ·simp only [List.length_map,List.length_range] at hi
   obtain ⟨v,h1,h2⟩:=hkey i hi
   rw [hget i v hi h1]
   exact (zk1 (E:=E) h2).2
  ·unfold Loc.slice
   rw [ha]
   rfl
  ·refine ⟨fun e=>(by cases e),fun _=>?_,hpos,by simp,hlc,fun i hi=>?_,fun e=>(by cases e),fun e=>(by cases e)⟩
   ·rcases Nat.lt_or_ge a.block w.heap.size with h | h
    ·exact h
    ·exfalso
     apply hspot.2
     unfold World.shape?
     rw [Array.getElem?_eq_none h]
   ·simp only [List.length_map,List.length_range] at hi
    obtain ⟨v,h1,h2⟩:=hkey i hi
    refine ⟨v,h1,?_⟩
    rw [hget i v hi h1]
    exact (zk1 h2).1
  ·rw [(Prod.mk.inj hx).1]
   simp [lenW,hel]
theorem zoA {w:World} {base b0:Nat} {sp:Nat→Bool} {held:Bool} {r:Reach} (E:Env):∀ {ts:List TypeId} {vs:List Value} {ds:List (DataW H)} {ps:List MemPlace} {ss:List ShV},zc6 P ts=some ss →
  (∀ (j:Nat) t v,ts[j]? = some t→vs[j]? = some v→Value.okWide P w r b0 t v)→DataW.TrodAll enc P w base sp held ts vs ds ps →
  ∃ (xs:List DV) (ls:List Loc),zk0 ss xs∧zvC ss xs ds∧xs.length=nInV ss∧zev E w ss xs ls∧(∀ (pre:List DV) (prel:List Loc),argV (dget (pre++xs)) (fun i=>(prel++ls).getD i default) pre.length prel.length ss=vs)
 | [],[],[],ps,ss,hs,_,hd=>by
  simp [zc6] at hs
  subst hs
  exact ⟨[],[],rfl,trivial,rfl,trivial,fun _ _=>rfl⟩
 | t::ts,v::vs,d::ds,ps,ss,hs,hval,hd=>by
  simp only [zc6] at hs
  split at hs
  ·rename_i s rr hs1 hs2
   cases hs
   obtain ⟨p,q,h1,h2,rfl⟩:=hd
   obtain ⟨ys,ls,b1,bl,b2,b3,b4⟩:=zoA E hs2 (fun j t v ht hv=>hval (j+1) t v (by simpa using ht) (by simpa using hv)) h2
   unfold zvB at hs1
   split at hs1
   ·rename_i e hu
    split at hs1
    ·rename_i l hl
     split at hs1
     ·rename_i hc
      cases hs1
      simp only [Bool.and_eq_true] at hc
      have hc1:=Nat.eq_of_beq_eq_true hc.1
      have hc2:0<l.length:=Nat.le_of_ble_eq_true hc.2
      obtain ⟨xs,lo,c1,rfl,c3,c4⟩:=zvD hu hl hc1 hc2 (hval 0 t v rfl rfl) h1 E
      refine ⟨.l xs::ys,lo::ls,⟨⟨xs,rfl,c1⟩,b1⟩,⟨c4,bl⟩,by simp [nInV,ShV.wd,b2];omega,⟨c3,b3⟩,fun pre prel=>?_⟩
      have:=b4 (pre++[.l xs]) (prel++[lo])
      simp only [List.append_assoc,List.cons_append,List.nil_append,List.length_append,List.length_cons,List.length_nil,Nat.zero_add] at this
      simp only [argV,this]
      congr 1
      simp [List.getD_eq_getElem?_getD]
     ·cases hs1
    ·cases hs1
   ·obtain ⟨s',hs',rfl⟩:=Option.map_eq_some_iff.1 hs1
    obtain ⟨xs,a1,_,a3,_⟩:=zsa hs' (hval 0 t v rfl rfl) h1
    refine ⟨xs++ys,ls,⟨?_,?_⟩,by show zvC rr ((xs++ys).drop s'.lts.length) ds;rw [←a1.len,List.drop_left];exact bl,by simp [nInV,ShV.wd,b2,a1.len],?_,fun pre prel=>?_⟩
    ·rw [←a1.len,List.take_left];exact a1
    ·rw [←a1.len,List.drop_left];exact b1
    ·show zev E w rr ((xs++ys).drop s'.lts.length) ls
     rw [←a1.len,List.drop_left];exact b3
    ·have e1:=a3 pre ys []
     have e2:=b4 (pre++xs) prel
     rw [List.append_assoc,List.length_append] at e2
     rw [List.append_assoc] at e1
     cases s' with
     | one t' =>
      have hl1:xs.length=1:=a1.len
      simp only [zdC,List.cons.injEq] at e1
      simp only [argV,e1.1]
      rw [hl1] at e2
      rw [e2]
     | agg l =>
      have hl1:xs.length=l.length:=a1.len
      simp only [zdC,List.cons.injEq] at e1
      simp only [argV,e1.1]
      rw [hl1] at e2
      rw [e2]
  ·cases hs
 | [],_::_,_,_,_,_,_,hd=>by cases hd
 | [],[],_::_,_,_,_,_,hd=>by cases hd
 | _::_,[],_,_,_,_,_,hd=>by cases hd
 | _::_,_::_,[],_,_,_,_,hd=>by cases hd
end
theorem zk2:∀ (ss:List ShV) (j i:Nat) (b:Blk),nth (blksV j ss) i=some b→b.own=false
 | [],_,i,b,h=>by cases i<;>cases h
 | .pl s::ss,j,i,b,h=>zk2 ss _ i b h
 | .row ts::ss,j,0,b,h=>by cases h;rfl
 | .row ts::ss,j,i+1,b,h=>zk2 ss _ i b h
theorem zng {E:Env} {W:World} {n:Nat} (xs:List DV) (ls0:List Loc) (hn:xs.length=n):∀ (ss:List ShV) (j b:Nat),j+nInV ss≤n→zev E W ss (xs.drop j) (ls0.drop b) →
  ∀ i bk,nth ((blksV j ss).map (Option.map (Blk.inst (zap 0 n)))) i=some bk→BlkRel E (dget xs) (fun i=>ls0.getD i default) W (ls0.getD (b+i) default) bk
 | [],j,b,_,_,i,bk,h=>by cases i<;>cases h
 | .pl s::ss,j,b,hj,hr,i,bk,h=>by
  have hj:j+(s.lts.length+nInV ss)≤n:=hj
  refine zng xs ls0 hn ss (j+s.lts.length) b (by omega) ?_ i bk h
  have hr:zev E W ss ((xs.drop j).drop s.lts.length) (ls0.drop b):=hr
  rwa [List.drop_drop] at hr
 | .row ts::ss,j,b,hj,hr,0,bk,h=>by
  have hj:j+(1+nInV ss)≤n:=hj
  cases h
  have hid:(A.h j).inst (zap 0 n) = .r j:=by
   have:=zfi n 0 j (by omega)
   simpa [A.inst] using this
  have h1:=hr.1
  show VRel E W (ls0.getD (b+0) default) false ts (((A.h j).inst (zap 0 n)).cells (dget xs))
  rw [hid]
  have e1:(ls0.drop b).headD default=ls0.getD (b+0) default:=by
   rw [List.headD_eq_head?_getD,List.head?_drop,List.getD_eq_getElem?_getD,Nat.add_zero]
  have e2:(xs.drop j).headD default=dget xs j:=by
   rw [List.headD_eq_head?_getD,List.head?_drop,dget,List.getD_eq_getElem?_getD]
  rw [e1,e2] at h1
  exact h1
 | .row ts::ss,j,b,hj,hr,i+1,bk,h=>by
  have hj:j+(1+nInV ss)≤n:=hj
  have h2:zev E W ss ((xs.drop j).tail) ((ls0.drop b).tail):=hr.2
  rw [List.tail_drop,List.tail_drop] at h2
  have:=zng xs ls0 hn ss (j+1) (b+1) (by omega) h2 i bk h
  rwa [show b+1+i=b+(i+1) from by omega] at this
section
variable {C:Checked} {os:Os} {f:FuncId} {fn:Func} {s:ChangeSpec} {H:Type} {enc:TypeId×Value→H} {sg:Sig} {G:List DV→List DV} {I:World→Prop}
structure LawSigV (sg:Sig) (ss:List ShV):Prop where
 ins:sg.ins=patV 0 0 ss
 hin:sg.hin=blksV 0 ss
 nin:sg.nin=nInV ss
 out:sg.out = .s (.one (.b (.h 0)))
 hout:sg.hout=[]
 ots:sg.ots=[.b]
structure LaidOk (P:Program) (ts:List TypeId):Prop where
 rows:laidOutB P=true
 maps:mapsRowed P=true
 full:((List.range P.types.size).all fun t=>match P.underlying t with | some (.slice e)=>decide (0<P.cellsOf e) | _=>true)=true
 lt:ts.all (fun t=>decide (t<P.types.size))=true
theorem zle {gK : Nat} {ss : List ShV} (k : FnOK C.prog I gK f sg G) (hsh : zc6 C.prog fn.params.toList = some ss) (hl : LawSigV sg ss) {tb : TypeId} (hrt : fn.resultTypes = #[tb])
    (htb : C.prog.underlying tb = some .bool) (hvars : s.vars = []) (hs : ∀ ds : List (DataW H), ds.length = fn.params.size → s.fn H ds = { results := [.lit (.bool true)], args := ds }) (hlo : LaidOk C.prog fn.params.toList)
    {X : List DV → Prop} (hG : ∀ xs, zk0 ss xs → xs.length = nInV ss → X xs → (sg.need = true → (dget (G xs) 0).toB = true) ∧ (dget (G xs) (if sg.need then 1 else 0)).toB = true)
    {W : World} {base : Nat} {args : Array Value} {ds gs : List (DataW H)} {before : List MemPlace}
    (hval : ∀ (j : Nat) t v, fn.params[j]? = some t → args[j]? = some v → Value.okWide C.prog W .any base t v)
    (hW : DataW.Whole enc C.prog fn.params.toList s.vars false W args.toList ds gs before) (hX : ∀ xs, zvC ss xs ds → X xs) (hI : I W) (hK : gK ≤ W.heap.size) :
    Calls C.prog f args W fun e W' => ∃ v, e = .returned v ∧ s.post enc C.prog fn false true false false W args v W' := by
  have hW0 := hW
  obtain ⟨p, q, hA, hV, rfl, hfz, _⟩ := hW
  rw [hvars] at hV
  obtain ⟨rfl, rfl⟩ := trodVars_none hV
  have hlen : ∀ {ts : List TypeId} {vs : List Value} {ds : List (DataW H)} {ps : List MemPlace}, DataW.TrodAll enc C.prog W 0 (fun _ => true) true ts vs ds ps → ds.length = ts.length := by
    intro ts
    induction ts with
    | nil => intro vs ds ps h; cases vs <;> cases ds <;> first | rfl | cases h
    | cons t ts ih =>
      intro vs ds ps h
      cases vs with
      | nil => cases h
      | cons v vs =>
        cases ds with
        | nil => cases h
        | cons d ds =>
          obtain ⟨p, q, _, h2, _⟩ := h
          simp [ih h2]
  obtain ⟨xs, ls, h1, hlx, hx, h3, h2⟩ := zoA (callEnv sg.hinI (fun i => default) W) hsh (fun j t v ht hv => hval j t v (by simpa using ht) (by simpa using hv)) hA
  have hg := hG xs h1 hx (hX xs hlx)
  have hhin : sg.hinI = (blksV 0 ss).map (Option.map (Blk.inst (zap 0 sg.nin))) := by unfold Sig.hinI; rw [hl.hin]
  have hown : ∀ j b, nth sg.hinI j = some b → b.own = false := fun j b hj => by
    rw [hhin, zaI] at hj
    obtain ⟨y, hy, rfl⟩ := Option.map_eq_some_iff.1 hj
    rw [Blk.inst_own]
    exact zk2 ss 0 j y hy
  have hnW : ∀ (ρ : Nat → Loc) b, ¬ (callEnv sg.hinI ρ W).W b := fun ρ b ⟨j, bk, hj, ho, _⟩ => by rw [hown j bk hj] at ho; cases ho
  obtain ⟨c1, c2⟩ := zhm (n := sg.nin) (dget xs) (fun i => ls.getD i default) ss 0 0 (by rw [hl.nin]; omega)
  have hins : sg.insI = (patV 0 0 ss).map (V.inst (zap 0 sg.nin)) := by unfold Sig.insI; rw [hl.ins]
  have hflat : ∀ {E E' : Env} {ss : List ShV} {ds : List DV} {ls : List Loc}, zev E W ss ds ls → (∀ t ∈ ss, match t with | .row ts => ts.all LT.flat = true | _ => True) → zev E' W ss ds ls := by
    intro E E' ss
    induction ss with
    | nil => intro ds ls _ _; trivial
    | cons t ss ih =>
      intro ds ls h ht
      cases t with
      | pl s => exact ih (ds := ds.drop s.lts.length) h (fun u hu => ht u (List.mem_cons_of_mem _ hu))
      | row ts =>
        refine ⟨?_, ih h.2 (fun u hu => ht u (List.mem_cons_of_mem _ hu))⟩
        have hf : ts.all LT.flat = true := ht (.row ts) (by simp)
        have h := h.1
        exact ⟨h.nil, h.lt, h.pos, h.len, h.cap, fun i hi => let ⟨v, h1, h2⟩ := h.cell i hi; ⟨v, h1, h2.flat (zjq hf _)⟩, h.own, h.fz⟩
  have hfl : ∀ t ∈ ss, match t with | .row ts => ts.all LT.flat = true | _ => True := by
    have key : ∀ (d : Nat) (t : TypeId) (l : List LT), zfj C.prog d t = some l → l.all LT.flat = true := by
      intro d
      induction d with
      | zero => intro t l h; cases h
      | succ d ih =>
        intro t l h
        simp only [zfj] at h
        split at h
        · cases h; rfl
        · cases h; rfl
        · split at h
          · cases h
          · rename_i l' hl'
            split at h
            · cases h
              refine List.all_eq_true.2 fun x hx => ?_
              obtain ⟨y, hy, hxy⟩ := List.mem_flatten.1 hx
              rw [(List.mem_replicate.1 hy).2] at hxy
              exact List.all_eq_true.1 (ih _ _ hl') x hxy
            · cases h
        · split at h
          · cases h
          · rename_i l' hl'
            split at h
            · cases h
              have kf : ∀ (fs : List Field) (o : Nat) (l : List LT), zfT C.prog (zfj C.prog d) o fs = some l → l.all LT.flat = true := by
                intro fs
                induction fs with
                | nil => intro o l h; simp [zfT] at h; subst h; rfl
                | cons f fs ihf =>
                  intro o l h
                  simp only [zfT] at h
                  split at h
                  · split at h
                    · cases h
                    · rename_i r hr
                      split at h
                      · split at h
                        · cases h
                        · rename_i r' hr'
                          cases h
                          rw [List.all_append, ih _ _ hr, ihf _ _ hr']
                          rfl
                      · cases h
                  · cases h
              exact kf _ _ _ hl'
            · cases h
        · cases h
    have key2 : ∀ {ts : List TypeId} {ss : List ShV}, zc6 C.prog ts = some ss → ∀ t ∈ ss, match t with | .row ts => ts.all LT.flat = true | _ => True := by
      intro ts
      induction ts with
      | nil => intro ss h t ht; simp [zc6] at h; subst h; cases ht
      | cons t ts ih =>
        intro ss h u hu
        simp only [zc6] at h
        split at h
        · rename_i s rr hs1 hs2
          cases h
          rcases List.mem_cons.1 hu with rfl | hu
          · unfold zvB at hs1
            split at hs1
            · split at hs1
              · rename_i l hl
                split at hs1
                · cases hs1; exact key _ _ _ hl
                · cases hs1
              · cases hs1
            · obtain ⟨s', _, rfl⟩ := Option.map_eq_some_iff.1 hs1
              trivial
          · exact ih hs2 u hu
        · cases h
    exact key2 hsh
  have hk := k xs (fun i => ls.getD i default) W hI (by rw [hl.nin]; exact hx) hg.1 hK (fun b hb => absurd hb (hnW _ b)) (by rw [hins]; exact c2)
    ⟨fun j bk hj => by
      have h3' := hflat (E' := callEnv sg.hinI (fun i => ls.getD i default) W) h3 hfl
      have := zng xs ls (n := sg.nin) (by rw [hl.nin]; exact hx) ss 0 0 (by rw [hl.nin]; omega) (by simpa using h3') j bk (by rw [← hhin]; exact hj)
      rwa [Nat.zero_add] at this,
     fun j j' bk bk' hj ho => by rw [hown j bk hj] at ho; cases ho⟩
  have ha : (sg.insI.map (V.conc (dget xs) fun i => ls.getD i default)).toArray = args := by
    rw [hins, c1]
    apply Array.ext'
    simpa using h2 [] []
  rw [ha] at hk
  refine hk.mono fun e W' ⟨v, ρ', he, hc⟩ => ⟨.bool true, ?_, ?_⟩
  · rw [he, hc.val]
    have : sg.outI.conc (sg.res (G xs)) ρ' = .bool (dget (G xs) (if sg.need then 1 else 0)).toB := by
      unfold Sig.outI Sig.res
      rw [hl.out, hl.ots]
      show Value.bool (dget (G xs) (0 + _)).toB = _
      rw [Nat.zero_add]
    rw [this, hg.2]
  · have hb : Below W.heap.size W W' := (hc.fr.weaken (W' := fun _ => False) fun b hb => hnW _ b hb).below
    have hsf := hs ds (by have := hlen hA; simpa using this)
    have hkids := kids_rows hlo.rows hlo.maps
    have hT : ∀ t ∈ fn.params.toList, t < C.prog.types.size := fun t ht => by simpa using List.all_eq_true.1 hlo.lt t ht
    have hre := DataW.TrodAll.respare (spare' := fun b => decide (b < W.heap.size)) hkids (slices_full_of C.prog hlo.full) hT hA (fun x hx => by simpa using hA.lt x hx)
    have hcarry : ∀ {ts : List TypeId} {vs : List Value} {ds : List (DataW H)} {ps : List MemPlace}, DataW.TrodAll enc C.prog W 0 (fun b => decide (b < W.heap.size)) true ts vs ds ps → (∀ p ∈ ps, W.sameAt W' p) → DataW.TrodAll enc C.prog W' 0 (fun b => decide (b < W.heap.size)) true ts vs ds ps := by
      intro ts
      induction ts with
      | nil => intro vs ds ps h _; cases vs <;> cases ds <;> first | exact h | cases h
      | cons t ts ih =>
        intro vs ds ps h hsame
        cases vs with
        | nil => cases h
        | cons v vs =>
        cases ds with
        | nil => cases h
        | cons d ds =>
        obtain ⟨p, q, ⟨fu, h1⟩, h2, rfl⟩ := h
        exact ⟨p, q, ⟨fu, DataW.trod_carry fu _ _ _ h1 (fun x hx => hsame x (List.mem_append_left _ hx))⟩, ih h2 (fun x hx => hsame x (List.mem_append_right _ hx)), rfl⟩
    have hre2 := hcarry hre (fun x hx => hb.same (hA.lt x hx))
    refine ⟨ds, [], p ++ [], [], p, [], ⟨p, [], hA, by rw [hvars]; exact rfl, rfl, hfz, fun h => by cases h⟩, ?_, ?_, ?_, hb.frame _, fun h => by cases h⟩
    · rw [List.append_nil, hsf, hrt]
      exact trodAll_mk1 (shut_bool htb true)
    · rw [List.append_nil, hsf]
      exact hre2
    · rw [List.append_nil, hsf, hvars]
      rfl
theorem znh {gK:Nat} {ss:List ShV} (k:FnOK C.prog I gK f sg G) (hsh:zc6 C.prog fn.params.toList=some ss) (hl:LawSigV sg ss) {tb:TypeId} (hrt:fn.resultTypes = #[tb])
  (htb:C.prog.underlying tb=some .bool) (hvars:s.vars=[]) (hs:∀ ds:List (DataW H),ds.length=fn.params.size→s.fn H ds = { results:=[.lit (.bool true)],args:=ds }) (hlo:LaidOk C.prog fn.params.toList)
  (hG:∀ xs,zk0 ss xs→xs.length=nInV ss→(sg.need=true→(dget (G xs) 0).toB=true)∧(dget (G xs) (if sg.need then 1 else 0)).toB=true)
  {W:World} {base:Nat} {args:Array Value} {ds gs:List (DataW H)} {before:List MemPlace}
  (hval:∀ (j:Nat) t v,fn.params[j]? = some t→args[j]? = some v→Value.okWide C.prog W .any base t v)
  (hW:DataW.Whole enc C.prog fn.params.toList s.vars false W args.toList ds gs before) (hI:I W) (hK:gK≤W.heap.size) :
  Calls C.prog f args W fun e W'=>∃ v,e = .returned v∧s.post enc C.prog fn false true false false W args v W' :=
 zle (X:=fun _=>True) k hsh hl hrt htb hvars hs hlo (fun xs a b _=>hG xs a b) hval hW (fun _ _=>trivial) hI hK
theorem ziy {gK:Nat} {ss:List ShV} {laid:List (String×DataW Unit)} (k:FnOK C.prog I gK f sg G) (hsh:zc6 C.prog fn.params.toList=some ss) (hl:LawSigV sg ss) {tb:TypeId} (hrt:fn.resultTypes = #[tb])
  (htb:C.prog.underlying tb=some .bool) (hvars:s.vars=[]) (hs:∀ ds:List (DataW H),ds.length=fn.params.size→s.fn H ds = { results:=[.lit (.bool true)],args:=ds }) (hlo:LaidOk C.prog fn.params.toList)
  (hG:∀ xs,zk0 ss xs→xs.length=nInV ss→(sg.need=true→(dget (G xs) 0).toB=true)∧(dget (G xs) (if sg.need then 1 else 0)).toB=true)
  (hI:∀ W,laidMetH C.prog laid W→I W) (hK:∀ W,I W→gK≤W.heap.size)
  (own:ownKnob C.prog.godebug=none) (started:os.Started) (noInit:C.prog.inits.idxOf? f=none) (hfn:C.prog.funcs[f]? = some fn)
  (witness:∃ (w:World) (tape:Tape) (i:Input),w.os=os∧(w.forCall tape i).Shaped C.prog∧i.vars=[]∧Input.okWide C.prog (w.forCall tape i) .any w.heap.size f i ∧
   ((s.pre enc C.prog fn [] false (w.forCall tape i).memory i.args∧laidMetH C.prog laid (w.forCall tape i).memory)∧sizedMet enc C.prog fn (OpenSpec.ofChange s) false (w.forCall tape i).memory i.args)∧({} : Assume).holds C.prog (lone (Frame.enter C.prog f i.args .normal) [] (w.forCall tape i))) :
  ReturnsInHanded {} C os f .any (fun w args=>(s.pre enc C.prog fn [] false w args∧laidMetH C.prog laid w)∧sizedMet enc C.prog fn (OpenSpec.ofChange s) false w args) (s.post enc C.prog fn false true false false) :=
 returnsInHanded_of_change_and (C:=C) (X:=fun w _=>laidMetH C.prog laid w) (fun _ _ _ hh h=>h.of_heap hh) own started noInit hfn witness
  fun W _ _ _ _ _ hval hW _ _ hL _=>znh k hsh hl hrt htb hvars hs hlo hG hval hW (hI W hL) (hK W (hI W hL))
end
end Go.Sx
