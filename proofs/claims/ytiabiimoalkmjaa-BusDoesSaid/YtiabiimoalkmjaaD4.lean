/- Regions whose order is drawn, in which all that turns or makes something stands in one chain: in any order they do what the evaluator says. -/
import Derived.Test.YtiabiimoalkmjaaD3
noncomputable section
namespace Go.Sx
open Go.RowKit
section
variable {P:Program} {I:World->Prop} {S:bN} {F:aC} {E:Env} {gK:Nat} {O:Nat->DV}
theorem zrZ {o:Oper} {a a':Act} {l:List Operand} (he:Io o.op=some l) (h:∀ t∈vS o.op,a'.tmps[t]? = a.tmps[t]?):execOp a.eval o=execOp a'.eval o:=by
 have key:∀ x∈l,a.eval x=a'.eval x:=fun x hx=>Jj fun t ht=>h t (by
  unfold vS
  rw [he]
  exact List.mem_flatMap.2 ⟨x,hx,ht⟩)
 have qG:∀ y:Option Operand,(∀ x∈y.toList,a.eval x=a'.eval x)->y.map a.eval=y.map a'.eval:=fun y hy=>by
  cases y with
  | none=>rfl
  | some x=>simp [hy x (by simp)]
 cases hop:o.op<;>rw [hop] at he<;>simp only [Io] at he<;>(try cases he)<;>simp only [execOp,hop]
 case box t x=>rw [key x (by simp)]
 case buildSlice t len ps =>
  have:(ps.map fun (i,x)=>(i,a.eval x))=ps.map fun (i,x)=>(i,a'.eval x):=by
   apply Array.ext'
   simp only [Array.toList_map]
   exact List.map_congr_left fun p hp=>by rw [key p.2 (List.mem_map.2 ⟨p,hp,rfl⟩)]
  rw [this]
 case insert t m k v=>rw [key m (by simp),key k (by simp),key v (by simp)]
 case store t x y=>rw [key x (by simp),key y (by simp)]
 case makeInterface t x=>rw [key x (by simp)]
 case convert t d x=>rw [key x (by simp)]
 case makeMap t r=>rw [qG r fun y hy=>key y hy]
 case makeSlice t l c=>rw [key l (by simp),key c (by simp)]
 case slice t x lo hi mx =>
  rw [key x (by simp),qG lo fun y hy=>key y (by simp at hy ⊢;exact .inr (.inl hy)),qG hi fun y hy=>key y (by simp at hy ⊢;exact .inr (.inr (.inl hy))),qG mx fun y hy=>key y (by simp at hy ⊢;exact .inr (.inr (.inr hy)))]
 case lookup t m k c=>rw [key m (by simp),key k (by simp)]
 case call c =>
  have hargs:c.args.map a.eval=c.args.map a'.eval:=by
   apply Array.ext'
   simp only [Array.toList_map]
   exact List.map_congr_left fun z hz=>key z (List.mem_append_right _ hz)
  cases fK:c.callee with
  | value y=>simp only [resolve,fK,hargs,key y (List.mem_append_left _ (by rw [fK];simp))]
  | invoke y n=>simp only [resolve,fK,hargs,key y (List.mem_append_left _ (by rw [fK];simp))]
  | builtin b=>simp only [resolve,fK,hargs]
theorem zqY {v:Value} {o:Oper} (h:eB o.op=false):dz v o=o:=by unfold dz;rw [h];rfl
theorem Oy {v:Value} {o:Oper} (h:eB o.op=true):dz v o = { o with op:=.move (.const v) }:=by unfold dz;rw [if_pos h]
theorem xQ (v:Value) (o:Oper):(dz v o).dst=o.dst/\(dz v o).guard=o.guard/\(dz v o).after=o.after:=by unfold dz;split<;>exact ⟨rfl,rfl,rfl⟩
theorem Ug {o:Oper} {r r1:RS} {v:V} (he:eB o.op=true) (hg:o.guard=none) (fR:v.good O) (hput:∀ U a (x:Value),aJ O U r a->(∀ u,some v=some u->u.good O/\x=u.aa O U)->aJ O U r1 (a.put o.dst x))
  (U:Nat->Loc) (a:Act) (fO:aJ O U r a) (C:World->Prop) (ops':Array Oper) :
  if Region.wanted (dz (v.aa O U) o) (yielded ops' a.tmps)=true then ∃ u,(∀ w,C w->(dz (v.aa O U) o).quietAt P a C w u)/\aJ O U r1 (a.put (dz (v.aa O U) o).dst u) else aJ O U r1 (a.put (dz (v.aa O U) o).dst undef):=by
 rw [Oy he]
 rw [if_pos (by simp [Region.wanted,hg])]
 refine ⟨v.aa O U,fun w _=>?_,hput U a _ fO fun u hu=>by cases hu;exact ⟨fR,rfl⟩⟩
 unfold Oper.quietAt
 simp [execOp,Act.eval,Oper.quietUpon]
def mL (P:Program) (I:World->Prop) (E:Env) (O:Nat->DV) (ops:Array Oper) (o:Oper) (e:jR) (H:List (Option ag)):Prop :=
 ∀ θ a w,aJ O θ ⟨⟨e.sl,e.R⟩,e.gl⟩ a->Region.wanted o (yielded ops a.tmps)=true->HS E O θ e.R w->I w ->
  zj P (execOp a.eval o) w fun v w'=>(bD o.op=true->∃ θ':Nat->Loc,(∀ q,q<H.length->θ' q=θ q)/\(o.dst=none\/e.v.aa O θ'=v)/\HS E O θ' e.H w') /\
   (bD o.op=false->(o.dst=none\/e.v.aa O θ=v)/\∀ H',HS E O θ H' w->HS E O θ H' w')
def mM (E:Env) (O:Nat->DV) (ops:Array Oper) (o:Oper) (e:jR) (H:List (Option ag)):Prop :=
 ∀ θ a w,aJ O θ ⟨⟨e.sl,e.R⟩,e.gl⟩ a->Region.wanted o (yielded ops a.tmps)=false->HS E O θ H w->∃ θ':Nat->Loc,(∀ q,q<H.length->θ' q=θ q)/\HS E O θ' e.H w
structure A2 (P:Program) (I:World->Prop) (E:Env) (O:Nat->DV) (ops:Array Oper) (o:Oper) (e:jR) (H:List (Option ag)):Prop where
 lt:e.v.lt e.H.length=true
 lt0:bD o.op=false->e.v.lt 0=true
 R:bD o.op=true->e.R=H
 fact:mL P I E O ops o e H
 skip:mM E O ops o e H
structure lA (P:Program) (I:World->Prop) (E:Env) (O:Nat->DV) (ops:Array Oper) (l:List Oper) (r:RS) (H:List (Option ag)) (r':RS) (es:List jR):Prop where
 len:es.length=l.length
 hp:r'.st.hp=r.st.hp
 quiet:∀ U a,aJ O U r a->(∃ w,HS E O U r.st.hp w)->∀ C:World->Prop,C=(fun w=>HS E O U r.st.hp w)->∀ ops':Array Oper,(∀ j:Nat,(ops'[j]?).bind (·.dst)=(ops[j]?).bind (·.dst)) ->
  ∀ Q:Act->Prop,(∀ a',aJ O U r' a'->Q a')->wpQuiet P ops' C Q (List.zipWith (fun o e=>dz (e.v.aa O U) o) l es) a
 vj:∀ (i:Nat) (o:Oper) (e:jR),l[i]? = some o->es[i]? = some e->eB o.op=true->A2 P I E O ops o e (fF H es i)
 mono:∀ i,i<l.length->(fF H es i).length<=(fF H es (i+1)).length
 lt:bH H=true->∀ i,i<=l.length->bH (fF H es i)=true
 still:∀ (i:Nat) (o:Oper),l[i]? = some o->bD o.op=false->fF H es (i+1)=fF H es i
theorem C4 (H:List (Option ag)) (e:jR) (es:List jR) (i:Nat):fF H (e::es) (i+1)=fF e.H es i:=by
 cases i with
 | zero=>rfl
 | succ i=>simp [fF]
theorem zly (H:List (Option ag)):∀ es:List jR,fF H es es.length=FF H es
 | []=>rfl
 | e::es=>by rw [List.length_cons,C4,zly e.H es];rfl
theorem zjO:sX.good O:=by
 unfold sX
 exact V.cg.2 (V1.ah.2 trivial)
theorem Oz (n:Nat):V.lt n sX=true:=rfl
theorem lA.cons {ops:Array Oper} {o:Oper} {l:List Oper} {r r1 r2:RS} {H:List (Option ag)} {e:jR} {es:List jR} (h:lA P I E O ops l r1 e.H r2 es) (hr:r1.st.hp=r.st.hp)
  (hq:∀ U a,aJ O U r a->(∃ w,HS E O U r.st.hp w)->∀ C:World->Prop,C=(fun w=>HS E O U r.st.hp w)->∀ ops':Array Oper,(∀ j:Nat,(ops'[j]?).bind (·.dst)=(ops[j]?).bind (·.dst)) ->
   if Region.wanted (dz (e.v.aa O U) o) (yielded ops' a.tmps)=true then ∃ u,(∀ w,C w->(dz (e.v.aa O U) o).quietAt P a C w u)/\aJ O U r1 (a.put (dz (e.v.aa O U) o).dst u) else aJ O U r1 (a.put (dz (e.v.aa O U) o).dst undef))
  (gN:eB o.op=true->A2 P I E O ops o e H) (hmono:H.length<=e.H.length) (hlt:bH H=true->bH e.H=true) (hst:bD o.op=false->e.H=H):lA P I E O ops (o::l) r H r2 (e::es):=by
 refine ⟨by simp [h.len],h.hp.trans hr,fun U a fO hex C hC ops' hd Q hQ=>?_,fun i o' e' ho' he' eJ=>?_,fun i hi=>?_,fun hl i hi=>?_,fun i o' ho' eJ=>?_⟩
 ·have:=hq U a fO hex C hC ops' hd
  simp only [List.zipWith_cons_cons,wpQuiet]
  split
  ·rename_i hw
   rw [if_pos hw] at this
   obtain ⟨v,h7,h8⟩:=this
   exact ⟨v,h7,h.quiet U _ h8 (by rw [hr];exact hex) C (by rw [hr];exact hC) ops' hd Q hQ⟩
  ·rename_i hw
   rw [if_neg hw] at this
   exact h.quiet U _ this (by rw [hr];exact hex) C (by rw [hr];exact hC) ops' hd Q hQ
 ·cases i with
  | zero =>
   rw [List.getElem?_cons_zero] at ho' he'
   cases ho';cases he'
   exact gN eJ
  | succ i =>
   rw [List.getElem?_cons_succ] at ho' he'
   rw [C4]
   exact h.vj i o' e' ho' he' eJ
 ·cases i with
  | zero=>exact hmono
  | succ i =>
   rw [C4,C4]
   exact h.mono i (by simpa using hi)
 ·cases i with
  | zero=>exact hl
  | succ i =>
   rw [C4]
   exact h.lt (hlt hl) i (by simpa using hi)
 ·cases i with
  | zero =>
   rw [List.getElem?_cons_zero] at ho'
   cases ho'
   exact hst eJ
  | succ i =>
   rw [List.getElem?_cons_succ] at ho'
   rw [C4,C4]
   exact h.still i o' ho' eJ
theorem V.dV {n m:Nat} (h:n<=m) {x:V} (hx:x.lt n=true):x.lt m=true:=by
 have h1:∀ y:V1,y.lt n=true->y.lt m=true:=fun y hy=>List.all_eq_true.2 fun z hz=>Lf.dV h (List.all_eq_true.1 hy z hz)
 cases x with
 | s v=>exact h1 v hx
 | t l=>exact List.all_eq_true.2 fun z hz=>h1 z (List.all_eq_true.1 hx z hz)
theorem zr0 {n0:Nat} (hn:n0=E.n0) {cs:List (A×Bool)} {H H':List (Option ag)} : M.sat F O (RH n0 cs H H') (fun r=>H.length<=H'.length/\H'.length<=r.length/\bH r=true /\
  ((∀ c∈cs,c.1.bool O=c.2)->∀ U w,HS E O U H' w->∃ U':Nat->Loc,(∀ j,j<H'.length->U' j=U j)/\HS E O U' r w) /\
  (¬ (∀ c∈cs,c.1.bool O=c.2)->∀ U w,HS E O U H w->∃ U':Nat->Loc,(∀ j,j<H.length->U' j=U j)/\HS E O U' r w)):=by
 unfold RH
 refine aY (fun hc=>?_) (fun _=>aE)
 simp only [Bool.and_eq_true] at hc
 obtain ⟨⟨c1,c2⟩,c3⟩:=hc
 have c1:=Nat.le_of_ble_eq_true c1
 have c2:=Nat.le_of_ble_eq_true c2
 refine ak (Tx cs) fun c hcb=>ak (Jg (E:=E) _) fun t ht=>ak (N3 (E:=E) (by omega)) fun s hs=>aY (fun hk=>au ?_) (fun _=>aE)
 simp only [Bool.and_eq_true] at hk
 have rr:∀ (h:List (Option ag)) (U:Nat->Loc) (w:World),HS E O U h w->RR O E U ⟨⟨[],h⟩,[]⟩ { tmps:=#[],defers:=[] } w:=fun h U w hw =>
  ⟨⟨rfl,rfl,fun t v ht=>(by cases t<;>cases ht),fun e he=>(by cases he)⟩,hw⟩
 refine ⟨c2,Nat.le_of_ble_eq_true hk.1,hk.2,fun hall U w hw=>?_,fun hall U w hw=>?_⟩
 ·obtain ⟨U',e1,e2⟩:=(hs U _ w).1 (hcb.2 hall) (rr _ U w hw)
  exact ⟨U',e1,e2.hs⟩
 ·have AN:c.bool O=false:=by
   cases h:c.bool O with
   | false=>rfl
   | true=>exact absurd (hcb.1 h) hall
  obtain ⟨U1,e1,e2⟩:=ht.2 U H w hw c3
  obtain ⟨U2,e3,e4⟩:=(hs U1 _ w).2 AN (rr _ U1 w e2)
  exact ⟨U2,fun j hj=>(e3 j (by omega)).trans (e1 j hj),e4.hs⟩
theorem mL.val {ops:Array Oper} {o:Oper} {e:jR} {H:List (Option ag)} (hR:bD o.op=true->e.R=H) (hH:e.H=H)
  (h:∀ θ a w,aJ O θ ⟨⟨e.sl,e.R⟩,e.gl⟩ a->Region.wanted o (yielded ops a.tmps)=true->HS E O θ e.R w->I w->zj P (execOp a.eval o) w fun v w'=>e.v.aa O θ=v/\∀ H',HS E O θ H' w->HS E O θ H' w'):mL P I E O ops o e H:=by
 intro θ a w ha jW hh hI
 refine (h θ a w ha jW hh hI).mono fun v w' ⟨k1,k2⟩=>⟨fun ht=>⟨θ,fun _ _=>rfl,.inr k1,?_⟩,fun _=>⟨.inr k1,k2⟩⟩
 rw [hH]
 exact k2 H (by rw [<-hR ht];exact hh)
theorem mL.C5 {ops:Array Oper} {o:Oper} {e:jR} {H:List (Option ag)} (ht:bD o.op=true)
  (h:∀ θ a w,aJ O θ ⟨⟨e.sl,e.R⟩,e.gl⟩ a->Region.wanted o (yielded ops a.tmps)=true->HS E O θ e.R w->I w->zj P (execOp a.eval o) w fun v w'=>∃ θ':Nat->Loc,(∀ q,q<H.length->θ' q=θ q)/\(o.dst=none\/e.v.aa O θ'=v)/\HS E O θ' e.H w'):mL P I E O ops o e H:=by
 intro θ a w ha jW hh hI
 exact (h θ a w ha jW hh hI).mono fun v w' k=>⟨fun _=>k,fun hf=>by rw [ht] at hf;cases hf⟩
theorem mM.none {ops:Array Oper} {o:Oper} {e:jR} {H:List (Option ag)} (hg:o.guard=none):mM E O ops o e H:=by
 intro θ a w _ hw
 simp [Region.wanted,hg] at hw
theorem mM.still {ops:Array Oper} {o:Oper} {e:jR} {H:List (Option ag)} (hH:e.H=H):mM E O ops o e H:=fun θ a w _ _ hw=>⟨θ,fun _ _=>rfl,by rw [hH];exact hw⟩
theorem A3 (hS:bg P I gK S F) (hE:E.Ok gK) (hn0:S.n0=E.n0) (hI:∀ w,Fr E.W E.w0 w->I w) {ops:Array Oper} {HL:Option (List (Option ag))} : ∀ (l:List Oper) (r:RS) (H:List (Option ag)),(∀ o∈l,Ip o=true) ->
  M.sat F O (uX P S ops.toList HL l r H) (fun z=>lA P I E O ops l r H z.1 z.2)
 | [],r,H,_=>by
  unfold uX
  exact au ⟨rfl,rfl,fun U a h _ C _ ops' _ Q hQ=>hQ a h,fun i o e h=>by simp at h,fun i h=>by simp at h,fun hl i hi=>by
   have:i=0:=by simpa using hi
   subst this;exact hl,fun i o h=>by simp at h⟩
 | o::l,r,H,hl=>by
  have hh:=hl o (by simp)
  have hl':∀ o'∈l,Ip o'=true:=fun o' h'=>hl o' (List.mem_cons_of_mem _ h')
  unfold uX
  refine aY (fun gN=>?_) (fun hne=>?_)
  ·dsimp only
   have vp:bD o.op=true->(if bD o.op=true then H else RG r o.op HL H)=H:=fun ht=>by rw [if_pos ht]
   generalize (if bD o.op=true then H else RG r o.op HL H)=R at vp ⊢
   split
   ·-- behind a guard
    rename_i j want hg
    refine ak (lg (Q:=fun d=>(ops[j]?).bind (·.dst)=some d) fun a h=>by simpa using h) fun d hd=>?_
    have ja:∀ (a:Act),Region.wanted o (yielded ops a.tmps)=true↔a.tmps[d]? = some (.bool want):=fun a=>Tw hg hd
    have hsub:∀ U a,aJ O U r a->aJ O U ⟨⟨sY (d::r.gl.map (·.d)++vS o.op) 0 r.st.sl,R⟩,r.gl⟩ a:=fun U a h=>by
     refine ⟨h.defers,by rw [h.size];exact (zlu _ _).symm,fun t v ht=>h.slot t v ?_,h.gl⟩
     simp only at ht
     rw [zlv] at ht
     split at ht
     ·exact ht
     ·cases ht
    generalize sY (d::r.gl.map (·.d)++vS o.op) 0 r.st.sl=sl at hsub ⊢
    refine bh fun res hres=>?_
    split
    ·refine ak ry fun r1 ff=>ak (A3 hS hE hn0 hI l r1 H hl') fun z hz=>au ?_
     refine lA.cons (e:=⟨sl,r.gl,sX,H,R⟩) hz ff.1 (fun U a fO hex C hC ops' hd'=>?_) (fun _=>⟨Oz _,fun _=>Oz _,vp,fun θ a w ha hw _ _=>?_,.still rfl⟩) (Nat.le_refl _) id (fun _=>rfl)
     ·have hn:a.tmps[d]?≠some (.bool want):=rz (hsub U a fO) 8 d want hres
      rw [Oy gN]
      have zi:Region.wanted { o with op:=.move (.const (sX.aa O U)) } (yielded ops' a.tmps)=Region.wanted o (yielded ops a.tmps):=by rw [zg hd'];rfl
      rw [zi,if_neg (fun h=>hn ((ja a).1 h))]
      exact ff.2 U a _ fO (fun v hv=>by cases hv;exact ⟨zjO,rfl⟩)
     ·exact absurd ((ja a).1 hw) (rz ha 8 d want hres)
    ·rename_i ctx cs
     refine ak (R3 (CC (E:=E) (r:=⟨⟨sl,R⟩,r.gl⟩) (ctx:=ctx) (o:=o) hS hE)) fun x hx=>?_
     have hO:∀ U a,aJ O U ⟨⟨sl,R⟩,r.gl⟩ a->a.tmps[d]? = some (.bool want)->cT P I E O U R (execOp a.eval o) x:=fun U a ha hd'=>by
      have:=(rz ha 8 d want hres).1 hd'
      exact hx this.2 U a ha this.1
     -- the slot
     have hput:∀ {v:V},v.ep=true->M.sat F O (if ctx.isEmpty=true then r.put o.dst (some v) else r.rM o.dst v d want) (fun r1=>r1.st.hp=r.st.hp/\∀ U a (x:Value),aJ O U r a->(a.tmps[d]? = some (.bool want)->x=v.aa O U)->(a.tmps[d]?≠some (.bool want)->x=undef)->aJ O U r1 (a.put o.dst x)):=by
      intro v dY
      refine aY (fun lu=>?_) (fun _=>?_)
      ·have lu:ctx=[]:=List.isEmpty_iff.1 lu
       subst lu
       refine cH ry fun r1 ff=>⟨ff.1,fun U a x fO h1 _=>ff.2 U a x fO fun u hu=>?_⟩
       cases hu
       exact ⟨V.dZ dY,h1 ((rz (hsub U a fO) 8 d want hres).2.1 rfl)⟩
      ·exact cH N7 fun r1 ff=>⟨ff.1,fun U a x fO h1 h2=>ff.2 U a x fO (fun h=>⟨V.dZ dY,h1 h⟩) h2⟩
     have hquiet:∀ {v:V} {r1:RS},(∀ U a (x:Value),aJ O U r a->(a.tmps[d]? = some (.bool want)->x=v.aa O U)->(a.tmps[d]?≠some (.bool want)->x=undef)->aJ O U r1 (a.put o.dst x))->∀ U a,aJ O U r a->∀ (C:World->Prop) (ops':Array Oper),(∀ j:Nat,(ops'[j]?).bind (·.dst)=(ops[j]?).bind (·.dst)) ->
       if Region.wanted (dz (v.aa O U) o) (yielded ops' a.tmps)=true then ∃ u,(∀ w,C w->(dz (v.aa O U) o).quietAt P a C w u)/\aJ O U r1 (a.put (dz (v.aa O U) o).dst u) else aJ O U r1 (a.put (dz (v.aa O U) o).dst undef):=by
      intro v r1 ff U a fO C ops' hd'
      rw [Oy gN]
      have zi:Region.wanted { o with op:=.move (.const (v.aa O U)) } (yielded ops' a.tmps)=Region.wanted o (yielded ops a.tmps):=by rw [zg hd'];rfl
      rw [zi]
      split
      ·rename_i hw
       refine ⟨v.aa O U,fun w _=>?_,ff U a _ fO (fun _=>rfl) fun h=>absurd ((ja a).1 hw) h⟩
       unfold Oper.quietAt
       simp [execOp,Act.eval,Oper.quietUpon]
      ·rename_i hw
       exact ff U a _ fO (fun h=>absurd ((ja a).2 h) hw) fun _=>rfl
     split
     ·rename_i v
      refine aY (fun hc=>?_) (fun _=>aE)
      simp only [Bool.and_eq_true,Bool.or_eq_true] at hc
      obtain ⟨⟨c1,c2⟩,c3⟩:=hc
      refine ak (hput c1) fun r1 ff=>ak (A3 hS hE hn0 hI l r1 H hl') fun z hz=>au ?_
      refine lA.cons (e:=⟨sl,r.gl,v,H,R⟩) hz ff.1 (fun U a fO hex C hC ops' hd'=>hquiet ff.2 U a fO C ops' hd') (fun _=>⟨c2,fun ht=>c3.resolve_left (by rw [ht];decide),vp,.val vp rfl fun θ a w ha hw hh zw=>?_,.still rfl⟩) (Nat.le_refl _) id (fun _=>rfl)
      obtain ⟨hgd,hr⟩:=hO θ a ha ((ja a).1 hw) w hh zw
      rcases hr with hr | ⟨f,args,hr,ee⟩
      ·exact .inl ⟨_,w,.inl hr,rfl,fun _ h=>h⟩
      ·exact .inr ⟨f,args,w,hr,ee.mono fun e w' ⟨he,hb⟩=>⟨_,he,rfl,fun _ h=>h.bK hb⟩⟩
     ·rename_i v H'
      refine aY (fun hc=>?_) (fun _=>aE)
      simp only [Bool.and_eq_true] at hc
      obtain ⟨⟨c1,c2⟩,c3⟩:=hc
      have JJ:=vp c1
      subst JJ
      refine ak (zr0 hn0) fun H2 ⟨j1,j2,j3,j4,j5⟩=>ak (hput c2) fun r1 ff=>ak (A3 hS hE hn0 hI l r1 H2 hl') fun z hz=>au ?_
      refine lA.cons (e:=⟨sl,r.gl,v,H2,R⟩) hz ff.1 (fun U a fO hex C hC ops' hd'=>hquiet ff.2 U a fO C ops' hd') (fun _=>⟨V.dV j2 c3,fun ht=>(by rw [c1] at ht;cases ht),vp,.C5 c1 fun θ a w ha hw hh zw=>?_,fun θ a w ha hw hh=>?_⟩) (by show _<=H2.length;omega) (fun _=>j3) (fun h=>by rw [c1] at h;cases h)
      ·have hcs:=(rz ha 8 d want hres).1 ((ja a).1 hw)
       have fin:∀ θ' w' (y:Value),(∀ q,q<R.length->θ' q=θ q)->HS E O θ' H' w'->v.aa O θ'=y->∃ θ2:Nat->Loc,(∀ q,q<R.length->θ2 q=θ q)/\(o.dst=none\/v.aa O θ2=y)/\HS E O θ2 H2 w':=fun θ' w' y k1 k2 k3=>by
        obtain ⟨θ2,e1,e2⟩:=j4 hcs.2 θ' w' k2
        exact ⟨θ2,fun q hq=>(e1 q (by omega)).trans (k1 q hq),.inr (by rw [V.fS e1 c3];exact k3),e2⟩
       rcases hO θ a ha ((ja a).1 hw) w hh zw with ⟨y,w',hr,θ',k1,k2,k3⟩ | ⟨w',hr,θ',k1,k2,k3⟩ | ⟨f,args,hr,ee⟩
       ·exact .inl ⟨y,w',.inl hr,fin θ' w' y k1 k2 (Option.some.inj (k3 v rfl).2).symm⟩
       ·have:=(k3 v rfl).2
        cases this
       ·exact .inr ⟨f,args,w,hr,ee.mono fun e w' ⟨y,he,θ',k1,k2,k3⟩=>⟨y,he,fin θ' w' y k1 k2 (Option.some.inj (k3 v rfl).2).symm⟩⟩
      ·refine j5 (fun hall=>?_) θ w hh
       have:=(ja a).2 ((rz ha 8 d want hres).2.2 hall)
       rw [hw] at this;cases this
     ·exact aE
   rename_i hg
   generalize uo:sY (vS o.op) 0 r.st.sl=sl
   refine ak (CC (E:=E) (r:=⟨⟨sl,R⟩,[]⟩) (ctx:=[]) (o:=o) hS hE) fun res hres=>?_
   have gw:∀ a:Act,oa [] a:=fun a p hp=>by simp at hp
   split
   ·rename_i v
    refine aY (fun hc=>?_) (fun _=>aE)
    simp only [Bool.and_eq_true,Bool.or_eq_true] at hc
    obtain ⟨⟨c1,c2⟩,c3⟩:=hc
    refine ak ry fun r1 ff=>ak (A3 hS hE hn0 hI l r1 H hl') fun z hz=>au ?_
    refine lA.cons (e:=⟨sl,[],v,H,R⟩) hz ff.1 (fun U a fO hex C hC ops' hd=>Ug (P:=P) gN hg (V.dZ c1) ff.2 U a fO C ops') (fun _=>⟨c2,fun ht=>c3.resolve_left (by rw [ht];decide),vp,.val vp rfl fun θ a w ha _ hw zw=>?_,.none hg⟩) (Nat.le_refl _) id (fun _=>rfl)
    obtain ⟨hgd,hr⟩:=hres θ a ha (gw a) w hw zw
    rcases hr with hr | ⟨f,args,hr,ee⟩
    ·exact .inl ⟨_,w,.inl hr,rfl,fun _ h=>h⟩
    ·exact .inr ⟨f,args,w,hr,ee.mono fun e w' ⟨he,hb⟩=>⟨_,he,rfl,fun _ h=>h.bK hb⟩⟩
   ·rename_i v H'
    refine aY (fun hc=>?_) (fun _=>aE)
    simp only [Bool.and_eq_true] at hc
    obtain ⟨⟨⟨⟨c0,c1⟩,c2⟩,c3⟩,c4⟩:=hc
    have JJ:=vp c0
    subst JJ
    refine ak ry fun r1 ff=>ak (A3 hS hE hn0 hI l r1 H' hl') fun z hz=>au ?_
    refine lA.cons (e:=⟨sl,[],v,H',R⟩) hz ff.1 (fun U a fO hex C hC ops' hd=>Ug (P:=P) gN hg (V.dZ c1) ff.2 U a fO C ops') (fun _=>⟨c2,fun ht=>(by rw [c0] at ht;cases ht),vp,.C5 c0 fun θ a w ha _ hw zw=>?_,.none hg⟩) (Nat.le_of_ble_eq_true c3) (fun _=>c4) (fun h=>by rw [c0] at h;cases h)
    rcases hres θ a ha (gw a) w hw zw with ⟨x,w',hr,θ',k1,k2,k3⟩ | ⟨w',hr,θ',k1,k2,k3⟩ | ⟨f,args,hr,ee⟩
    ·exact .inl ⟨x,w',.inl hr,θ',k1,.inr (by have:=(k3 v rfl).2;exact (Option.some.inj this).symm),k2⟩
    ·have:=(k3 v rfl).2
     cases this
    ·exact .inr ⟨f,args,w,hr,ee.mono fun e w' ⟨x,he,θ',k1,k2,k3⟩=>⟨x,he,θ',k1,.inr (by have:=(k3 v rfl).2;exact (Option.some.inj this).symm),k2⟩⟩
   ·rename_i H'
    refine aY (fun hc=>?_) (fun _=>aE)
    simp only [Bool.and_eq_true] at hc
    obtain ⟨⟨⟨c0,c1⟩,c3⟩,c4⟩:=hc
    have JJ:=vp c0
    subst JJ
    have eG:o.dst=none:=by simpa using c1
    refine ak (A3 hS hE hn0 hI l r H' hl') fun z hz=>au ?_
    refine lA.cons (e:=⟨sl,[],sX,H',R⟩) hz rfl (fun U a fO hex C hC ops' hd=>Ug (P:=P) gN hg zjO (fun U a x fO _=>by rw [eG];exact fO) U a fO C ops') (fun _=>⟨Oz _,fun _=>Oz _,vp,.C5 c0 fun θ a w ha _ hw zw=>?_,.none hg⟩) (Nat.le_of_ble_eq_true c3) (fun _=>c4) (fun h=>by rw [c0] at h;cases h)
    rcases hres θ a ha (gw a) w hw zw with ⟨x,w',hr,θ',k1,k2,k3⟩ | ⟨w',hr,θ',k1,k2,k3⟩ | ⟨f,args,hr,ee⟩
    ·exact .inl ⟨x,w',.inl hr,θ',k1,.inl eG,k2⟩
    ·exact .inl ⟨undef,w',.inr ⟨hr,rfl⟩,θ',k1,.inl eG,k2⟩
    ·exact .inr ⟨f,args,w,hr,ee.mono fun e w' ⟨x,he,θ',k1,k2,k3⟩=>⟨x,he,θ',k1,.inl eG,k2⟩⟩
  ·have hne:eB o.op=false:=by simpa using hne
   refine ak (F9 (E:=E) (ops:=ops) hS hE hn0 hI true) fun r1 ff=>ak (A3 hS hE hn0 hI l r1 H hl') fun z hz=>au ?_
   have hq:=ff.2 rfl
   refine lA.cons (e:=⟨[],[],sX,H,H⟩) hz hq.1 (fun U a fO hex C hC ops' hd=>?_) (fun h=>by rw [hne] at h;cases h) (Nat.le_refl _) id (fun _=>rfl)
   have:=hq.2 U a fO hex C hC
   rw [zqY hne,zg hd]
   exact this
theorem Ge:∀ {Hq H:List (Option ag)},vT Hq H=true->∀ j bk,nth Hq j=some bk->nth H j=some bk
 | [],_,_,j,bk,h=>by cases j<;>cases h
 | none::l,H,hk,j,bk,h=>by
  simp only [vT] at hk
  cases j with
  | zero=>cases h
  | succ j =>
   have:=Ge hk j bk h
   cases H with
   | nil=>cases j<;>cases this
   | cons y l'=>exact this
 | some x::l,some y::l',hk,j,bk,h=>by
  simp only [vT,Bool.and_eq_true] at hk
  cases j with
  | zero=>cases h;rw [ag.fT hk.1];rfl
  | succ j=>exact Ge hk.2 j bk h
 | some _::_,[],hk,_,_,_=>by simp [vT] at hk
 | some _::_,none::_,hk,_,_,_=>by simp [vT] at hk
theorem HS.forget {θ:Nat->Loc} {H Hq:List (Option ag)} {w:World} (h:HS E O θ H w) (hl:E.n0<=Hq.length) (hk:∀ j bk,nth Hq j=some bk->nth H j=some bk):HS E O θ Hq w :=
 ⟨⟨fun j bk hj=>h.heap.aj j bk (hk j bk hj),fun j j' bk aS hj ho hj' hne hn hn'=>h.heap.apart j j' bk aS (hk j bk hj) ho (hk j' aS hj') hne hn hn'⟩,fun j bk hj=>h.old j bk (hk j bk hj),h.fr,hl,h.keep⟩
theorem zlz {sl:List (Option V)} {gl:List GE} : ∀ {l:List Oper} {es:List jR},FC sl gl l es=true->∀ (i:Nat) (o:Oper) (e:jR),l[i]? = some o->es[i]? = some e->eB o.op=true->Ap e.sl sl=true/\∀ x∈e.gl,∃ y∈gl,y.qf x=true
 | [],[],_,i,o,e,h,_,_=>by simp at h
 | o::l,e::r,h,i,o',e',h1,h2,h3=>by
  simp only [FC,Bool.and_eq_true,Bool.or_eq_true,Bool.not_eq_true'] at h
  cases i with
  | zero =>
   rw [List.getElem?_cons_zero] at h1 h2
   cases h1;cases h2
   rcases h.1 with h | ⟨h,h'⟩
   ·rw [h3] at h;cases h
   ·exact ⟨h,fun x hx=>List.any_eq_true.1 (List.all_eq_true.1 h' x hx)⟩
  | succ i =>
   rw [List.getElem?_cons_succ] at h1 h2
   exact zlz h.2 i o' e' h1 h2 h3
 | [],_::_,h,_,_,_,_,_,_=>by simp [FC] at h
 | _::_,[],h,_,_,_,_,_,_=>by simp [FC] at h
def gC (pre:List Oper) (listed:Array Bool):Nat->Nat
 | 0=>0
 | n+1=>if listed.getD n false&&Aq pre n then n+1 else gC pre listed n
theorem Uh (pre:List Oper) (listed:Array Bool):∀ n,gC pre listed n<=n
 | 0=>Nat.le_refl _
 | n+1=>by
  unfold gC
  split
  ·exact Nat.le_refl _
  ·exact Nat.le_succ_of_le (Uh pre listed n)
theorem Gf {pre:List Oper} {listed:Array Bool} {i:Nat} {o:Oper} (ho:pre[i]? = some o) (he:bD o.op=true) (hl:listed.getD i false=true):∀ n,i<n->i+1<=gC pre listed n
 | 0,h=>by omega
 | n+1,h=>by
  unfold gC
  split
  ·omega
  ·rename_i hc
   have:i≠n:=fun e=>by
    subst e
    unfold Aq at hc
    rw [hl,ho] at hc
    simp [he] at hc
   exact Gf ho he hl n (by omega)
theorem zlA {pre:List Oper} {listed tA:Array Bool} (h:∀ j,listed.getD j false=true->tA.getD j false=true):∀ n,gC pre listed n<=gC pre tA n
 | 0=>Nat.le_refl _
 | n+1=>by
  have ih:=zlA (pre:=pre) h n
  unfold gC
  split
  ·rename_i hc
   simp only [Bool.and_eq_true] at hc
   rw [if_pos (by simp only [Bool.and_eq_true];exact ⟨h n hc.1,hc.2⟩)]
   exact Nat.le_refl _
  ·split
   ·have:=Uh pre listed n;omega
   ·exact ih
theorem Ui {pre:List Oper} {listed:Array Bool} : ∀ {n:Nat},0<gC pre listed n->∃ j o,gC pre listed n=j+1/\pre[j]? = some o/\bD o.op=true/\listed.getD j false=true
 | 0,h=>by simp [gC] at h
 | n+1,h=>by
  unfold gC at h ⊢
  split at h
  ·rename_i hc
   rw [if_pos hc]
   simp only [Bool.and_eq_true] at hc
   obtain ⟨h1,h2⟩:=hc
   unfold Aq at h2
   cases ho:pre[n]? with
   | none=>rw [ho] at h2;cases h2
   | some o=>rw [ho] at h2;exact ⟨n,o,rfl,ho,h2,h1⟩
  ·rename_i hc
   rw [if_neg hc]
   exact Ui h
theorem Uj {l:List Oper} {r r':RS} {H:List (Option ag)} {es:List jR} {ops:Array Oper} (h:lA P I E O ops l r H r' es) {i:Nat} : ∀ (k:Nat),i+k<=l.length->(∀ j o,i<=j->j<i+k->l[j]? = some o->bD o.op=false)->fF H es (i+k)=fF H es i
 | 0,_,_=>rfl
 | k+1,hk,hj=>by
  have hl:i+k<l.length:=by omega
  have e1:=h.still (i+k) _ (List.getElem?_eq_getElem hl) (hj (i+k) _ (by omega) (by omega) (List.getElem?_eq_getElem hl))
  rw [show i+(k+1)=i+k+1 from by omega,e1]
  exact Uj h k (by omega) fun j o h1 h2=>hj j o h1 (by omega)
theorem OA {o:Op} (h:bD o=true):eB o=true:=by unfold eB;rw [h];rfl
theorem zpB {o:Op} (h:eB o=false):bD o=false:=by
 cases ht:bD o with
 | false=>rfl
 | true=>rw [OA ht] at h;cases h
theorem Uk {pre:List Oper} {listed:Array Bool} {i:Nat} (hne:Aq pre i=false):∀ n,gC pre (listed.setIfInBounds i true) n=gC pre listed n
 | 0=>rfl
 | n+1=>by
  unfold gC
  rw [Uk hne n]
  by_cases hni:n=i
  ·subst hni
   rw [hne]
   simp
  ·have:(listed.setIfInBounds i true).getD n false=listed.getD n false:=by
    rw [Array.getD_eq_getD_getElem?,Array.getD_eq_getD_getElem?,Array.getElem?_setIfInBounds_ne (Ne.symm hni)]
   rw [this]
theorem zoh {pre:List Oper} {vR:List Nat} : ∀ {n:Nat},FD pre vR n=0\/∃ j o,FD pre vR n=j+1/\j<n/\pre[j]? = some o/\bD o.op=true/\j∈vR
 | 0=>.inl rfl
 | n+1=>by
  unfold FD
  split
  ·rename_i hc
   simp only [Bool.and_eq_true] at hc
   obtain ⟨h1,h2⟩:=hc
   unfold Aq at h2
   cases ho:pre[n]? with
   | none=>rw [ho] at h2;cases h2
   | some o=>rw [ho] at h2;exact .inr ⟨n,o,rfl,by omega,ho,h2,pT h1⟩
  ·rcases zoh (pre:=pre) (vR:=vR) (n:=n) with h | ⟨j,o,h1,h2,h3⟩
   ·exact .inl h
   ·exact .inr ⟨j,o,h1,by omega,h3⟩
theorem ztl {nq:Nat} {H:List (Option ag)} {pre:List Oper} {es:List jR} (h:zvM nq H pre es=true) {i:Nat} {o:Oper} {e:jR} (ho:pre[i]? = some o) (he:es[i]? = some e) (eJ:eB o.op=true) (pV:bD o.op=false) :
  nq<=e.R.length/\∀ t,t<=pre.length->FD pre (sZ pre i) pre.length<=t->vT e.R (fF H es t)=true:=by
 have:=List.all_eq_true.1 h (o,i) (List.mem_zipIdx_iff_getElem?.2 ho)
 simp only [eJ,pV,he,Bool.false_or,Bool.not_true,Bool.and_eq_true] at this
 refine ⟨Nat.le_of_ble_eq_true this.1,fun t h1 h2=>?_⟩
 have h3:=List.all_eq_true.1 this.2 t (List.mem_range.2 (by omega))
 simp only [Bool.or_eq_true,Nat.blt_eq] at h3
 rcases h3 with h3 | h3
 ·omega
 ·exact h3
theorem zgM (hS:bg P I gK S F) (hE:E.Ok gK) (hn0:S.n0=E.n0) (hI:∀ w,Fr E.W E.w0 w->I w) {ops:Array Oper} {n:Nat} {s:St} {Hq:List (Option ag)} {HL:Option (List (Option ag))} (iR:n<=ops.toList.length) (hm:Nk ops.toList n=true) :
  M.sat F O (Nl P S ops.toList n s Hq HL) (fun s'=>∀ U a w,RR O E U ⟨s,[]⟩ a w->∀ Q:Exit->Act->World->Prop,(∀ U' a' w',RR O E U' ⟨s',[]⟩ a' w'->Q .normal a' w') ->
   wpAny P .any ops Q ops.size (Array.replicate ops.size false) a w):=by
 unfold Nk at hm
 generalize hpre:ops.toList.take n=pre at hm
 simp only [Bool.and_eq_true] at hm
 obtain ⟨⟨⟨⟨iz,hchain⟩,mD⟩,oR⟩,ec⟩:=hm
 have cY:nG .any ops:=by have:=gM ec;simpa using this
 have qD:pre.length=n:=by rw [<-hpre,List.length_take];omega
 unfold Nl
 refine aY (fun gz=>?_) (fun _=>aE)
 simp only [Bool.and_eq_true] at gz
 obtain ⟨⟨⟨hslt,oM⟩,xL⟩,hkq⟩:=gz
 have xL:=Nat.eq_of_beq_eq_true xL
 rw [hpre]
 refine ak (A3 (E:=E) (F:=F) (O:=O) hS hE hn0 hI (ops:=pre.toArray) pre ⟨⟨s.sl,Hq⟩,[]⟩ s.hp (fun o ho=>List.all_eq_true.1 iz o ho)) fun z hz=>aY (fun m_=>?_) (fun _=>aE)
 simp only [Bool.and_eq_true] at m_
 obtain ⟨⟨A4,JK⟩,A5⟩:=m_
 obtain ⟨rf,es⟩:=z
 simp only at hz A4 JK A5 ⊢
 refine ak (Gb (E:=E) hS hE hn0 hI (ops:=ops) (ops.toList.drop n) ⟨⟨rf.st.sl,FF s.hp es⟩,rf.gl⟩) fun r2 me=>au fun U a w cF Q hQ=>?_
 have JL:E.n0<=Hq.length:=by have:=cF.hs.len;simp only at this;omega
 have cA:∀ j:Nat,pre.toArray[j]? = pre[j]?:=fun j=>by simp
 have bL:∀ {i:Nat} {o:Oper},pre[i]? = some o->i<pre.length:=fun {i o} h=>by
  rcases Nat.lt_or_ge i pre.length with h1 | h1
  ·exact h1
  ·rw [List.getElem?_eq_none h1] at h;cases h
 have kq:∀ i,i<pre.length->∃ e,es[i]? = some e:=fun i hi=>⟨_,List.getElem?_eq_getElem (by rw [hz.len];exact hi)⟩
 -- the blocks at a number
 let Hk:Nat->List (Option ag):=fF s.hp es
 have Ul:∀ {i:Nat} {e:jR},es[i]? = some e->Hk (i+1)=e.H:=fun {i e} h=>by
  show (es.getD i default).H=e.H
  rw [List.getD_eq_getElem?_getD,h]
  rfl
 have hmono:∀ i k,i+k<=pre.length->(Hk i).length<=(Hk (i+k)).length:=fun i k=>by
  induction k with
  | zero=>exact fun _=>Nat.le_refl _
  | succ k ih=>exact fun h=>Nat.le_trans (ih (by omega)) (hz.mono (i+k) (by omega))
 have wL:∀ i j,i<=j->j<=pre.length->(Hk i).length<=(Hk j).length:=fun i j h1 h2=>by
  have:=hmono i (j-i) (by omega)
  rwa [show i+(j-i)=j from by omega] at this
 have nJ:∀ i,i<=pre.length->bH (Hk i)=true:=fun i hi=>hz.lt oM i hi
 have hHq:∀ i,i<=pre.length->∀ j bk,nth Hq j=some bk->nth (Hk i) j=some bk:=fun i hi j bk hj=>by
  cases i with
  | zero=>exact Ge hkq j bk hj
  | succ i =>
   obtain ⟨e,he⟩:=kq i (by omega)
   rw [Ul he]
   exact Ge (List.all_eq_true.1 A4 e (List.mem_of_getElem? he)) j bk hj
 have oY:∀ listed:Array Bool,gC pre listed pre.length<=pre.length:=fun listed=>Uh pre listed _
 let rB:Array Bool->List (Option ag):=fun listed=>Hk (gC pre listed pre.length)
 have JM:∀ (listed:Array Bool) (i:Nat),(rB listed).length<=(rB (listed.setIfInBounds i true)).length:=fun listed i =>
  wL _ _ (zlA (fun j h=>uq h) _) (oY _)
 have jo:∀ {i:Nat} {o:Oper},pre[i]? = some o->(eB o.op=false->kN o.op=true)/\(eB o.op=true->(Io o.op).isSome=true):=fun {i o} h=>by
  have:=List.all_eq_true.1 iz o (List.mem_of_getElem? h)
  unfold Ip at this
  refine ⟨fun he=>?_,fun he=>?_⟩
  ·have:=zpB he
   unfold bD at this
   simpa using this
  ·cases hp:kN o.op with
   | false=>rw [hp] at this;simpa using this
   | true =>
    have hl:RE o.op=true:=by
     unfold eB bD at he
     rw [hp] at he
     simpa using he
    unfold RE at hl
    split at hl
    ·rename_i heq
     rw [heq];rfl
    ·cases hl
 have bG:∀ i,i∈(pre.zipIdx.filter fun p=>eB p.1.op).map (·.2)↔∃ o,pre[i]? = some o/\eB o.op=true:=fun i=>by
  rw [List.mem_map]
  constructor
  ·rintro ⟨⟨o,j⟩,h,rfl⟩
   obtain ⟨h1,h2⟩:=List.mem_filter.1 h
   exact ⟨o,List.mem_zipIdx_iff_getElem?.1 h1,h2⟩
  ·rintro ⟨o,h1,h2⟩
   exact ⟨(o,i),List.mem_filter.2 ⟨List.mem_zipIdx_iff_getElem?.2 h1,h2⟩,rfl⟩
 have wM:∀ {i:Nat} {o:Oper},pre[i]? = some o->eB o.op=true->(bD o.op=true->∀ j o',pre[j]? = some o'->bD o'.op=true->j<i->j∈jK pre i (ju o)) /\
   (∀ t∈Iq pre o++vS o.op,∀ (j:Nat) o',pre[j]? = some o'->o'.dst=some t->j∈jK pre i (ju o)):=fun {i o} h he=>by
  have:=List.all_eq_true.1 hchain (o,i) (List.mem_zipIdx_iff_getElem?.2 h)
  unfold Ir at this
  simp only [he,Bool.not_true,Bool.false_or,Bool.and_eq_true] at this
  obtain ⟨h1,h2⟩:=this
  have jX:sZ pre i=jK pre i (ju o):=by unfold sZ;rw [h]
  rw [jX] at h1 h2
  refine ⟨fun htt j o' ho' he' hj=>?_,fun t ht j o' ho' hd=>?_⟩
  ·rw [htt,Bool.not_true,Bool.false_or] at h1
   have:=List.all_eq_true.1 h1 (o',j) (List.mem_zipIdx_iff_getElem?.2 ho')
   simp only [he',Bool.not_true,Bool.false_or,Bool.or_eq_true,Bool.not_eq_true'] at this
   rcases this with h | h
   ·rw [show Nat.blt j i=true from by simpa [Nat.blt_eq] using hj] at h;cases h
   ·exact pT h
  ·have:=List.all_eq_true.1 h2 (o',j) (List.mem_zipIdx_iff_getElem?.2 ho')
   simp only [yN,hd,Bool.or_eq_true,Bool.not_eq_true'] at this
   rcases this with h | h
   ·rw [CM ht] at h;cases h
   ·exact pT h
 refine Ol cY (ops.toList.drop n) pre.toArray (by rw [<-hpre];simp) (fun i hi o ho j hj=>?_) a w ?_
 ·have hi':n<=i:=by simpa [qD] using hi
  have CV:(o,i)∈ops.toList.zipIdx.drop n:=by
   rw [List.mem_iff_getElem?]
   refine ⟨i-n,?_⟩
   rw [List.getElem?_drop,show n+(i-n)=i from by omega,List.getElem?_zipIdx]
   have:ops.toList[i]? = some o:=by simpa using ho
   rw [this]
   simp
  have:=List.all_eq_true.1 mD _ CV
  exact pT (List.all_eq_true.1 this j (List.mem_range.2 hj))
 have gj:∀ (θ:Nat->Loc) (j:Nat),((List.zipWith (fun o e=>dz (e.v.aa O θ) o) pre es).toArray)[j]? = (match pre[j]?,es[j]? with | some o,some e=>some (dz (e.v.aa O θ) o) | _,_=>none):=fun θ j=>by
  simp [List.getElem?_zipWith]
  cases pre[j]?<;>cases es[j]?<;>rfl
 have hsz:∀ θ:Nat->Loc,(List.zipWith (fun o e=>dz (e.v.aa O θ) o) pre es).toArray.size=pre.toArray.size:=fun θ=>by simp [hz.len]
 have cu:∀ (θ:Nat->Loc) listed,Region.ready .any (List.zipWith (fun o e=>dz (e.v.aa O θ) o) pre es).toArray listed=Region.ready .any pre.toArray listed:=fun θ listed=>by
  unfold Region.ready
  rw [hsz θ]
  refine List.filter_congr fun j _=>?_
  rw [gj θ j,cA j]
  cases ho:pre[j]? with
  | none=>rfl
  | some o =>
   obtain ⟨e,he⟩:=kq j (bL ho)
   rw [he]
   have e1:=(xQ (e.v.aa O θ) o).2.2
   dsimp only
   generalize dz (e.v.aa O θ) o=o1 at e1 ⊢
   cases o1;cases o
   simp only at e1
   subst e1
   rfl
 have eG:∀ (θ:Nat->Loc) (j:Nat),(((List.zipWith (fun o e=>dz (e.v.aa O θ) o) pre es).toArray)[j]?).bind (·.dst)=((pre.toArray)[j]?).bind (·.dst):=fun θ j=>by
  rw [gj θ j,cA j]
  cases ho:pre[j]? with
  | none=>rfl
  | some o =>
   obtain ⟨e,he⟩:=kq j (bL ho)
   rw [he]
   exact (xQ _ o).1
 have wF:nG .any pre.toArray:=fun i o ho=>cY i o (by
  rw [cA] at ho
  have:ops.toList[i]? = some o:=by
   rw [<-hpre,List.getElem?_take] at ho
   split at ho
   ·exact ho
   ·cases ho
  simpa using this)
 have wN:∀ (i:Nat) (o:Oper) (e:jR) (listed:Array Bool),pre[i]? = some o->bD o.op=true->es[i]? = some e->listed.size=pre.toArray.size->nh pre.toArray listed->i∈Region.ready .any pre.toArray listed ->
   rB listed=fF s.hp es i/\rB (listed.setIfInBounds i true)=e.H:=by
  intro i o e listed ho zy he hs fC hrd
  have eJ:=OA zy
  have fY:=bL ho
  have iR:listed.getD i false=false:=by
   obtain ⟨h4,_⟩:=mem_ready.1 hrd
   rw [<-tq (by rw [hs];simpa using fY)]
   exact h4
  have jX:∀ j,j∈jK pre i (ju o)->listed.getD j false=true:=fun j hj=>xO fC (by rw [cA];exact ho) hrd j hj
  have zo:∀ (k:Nat) (o':Oper),pre[k]? = some o'->bD o'.op=true->listed.getD k false=true->k<i:=fun k o' ho' he' hk=>by
   rcases Nat.lt_trichotomy k i with h | h | h
   ·exact h
   ·subst h;rw [iR] at hk;cases hk
   ·have:listed.getD i false=true:=Jh (ops:=pre.toArray) fC k (ju o') (fun x hx=>by
     obtain ⟨ed,h1,h2,rfl⟩:=N_ hx
     exact fC k o' (by rw [cA];exact ho') hk ed h1 h2) i ((wM ho' (OA he')).1 he' i o ho zy h)
    rw [iR] at this;cases this
  refine ⟨?_,?_⟩
  ·have hti:gC pre listed pre.length<=i:=by
    rcases Nat.eq_zero_or_pos (gC pre listed pre.length) with h0 | h0
    ·omega
    ·obtain ⟨j,o',g1,g2,g3,g4⟩:=Ui h0
     have:=zo j o' g2 g3 g4
     omega
   have hmid:∀ j o',gC pre listed pre.length<=j->j<i->pre[j]? = some o'->bD o'.op=false:=fun j o' g1 g2 g3=>by
    cases h:bD o'.op with
    | false=>rfl
    | true =>
     have:=Gf g3 h (jX j ((wM ho eJ).1 zy j o' g3 h g2)) pre.length (by omega)
     omega
   have:=Uj hz (i:=gC pre listed pre.length) (i-gC pre listed pre.length) (by omega) fun j o' g1 g2 g3=>hmid j o' g1 (by omega) g3
   rw [show gC pre listed pre.length+(i-gC pre listed pre.length)=i from by omega] at this
   exact this.symm
  ·have wG:(listed.setIfInBounds i true).getD i false=true:=by
    have:i<listed.size:=by rw [hs];simpa using fY
    rw [Array.getD_eq_getD_getElem?,Array.getElem?_setIfInBounds_self_of_lt this]
    rfl
   have h1:=Gf ho zy wG pre.length fY
   obtain ⟨j,o',g1,g2,g3,g4⟩:=Ui (pre:=pre) (listed:=listed.setIfInBounds i true) (n:=pre.length) (by omega)
   have:j=i:=by
    rcases CH g4 with rfl | g4
    ·rfl
    ·have:=zo j o' g2 g3 g4
     omega
   subst this
   show Hk (gC pre (listed.setIfInBounds j true) pre.length)=e.H
   rw [g1]
   exact Ul he
 have A6:∀ (i:Nat) (o:Oper) (e:jR) (θ:Nat->Loc) (a1 a2:Act),pre[i]? = some o->es[i]? = some e->eB o.op=true->aJ O θ rf a2->(∀ t∈Iq pre o++vS o.op,a2.tmps[t]? = a1.tmps[t]?) ->
   aJ O θ ⟨⟨e.sl,e.R⟩,e.gl⟩ a2/\execOp a1.eval o=execOp a2.eval o/\Region.wanted o (yielded pre.toArray a2.tmps)=Region.wanted o (yielded pre.toArray a1.tmps):=by
  intro i o e θ a1 a2 ho he eJ mh lS
  obtain ⟨Um,Uo⟩:=zlz JK i o e ho he eJ
  have mK:=Ow Um
  refine ⟨⟨mh.defers,by rw [mh.size];exact mK.1.symm,fun t v ht=>?_,fun g hg=>?_⟩,?_,?_⟩
  ·obtain ⟨v',k1,k2⟩:=mK.2 t v ht
   exact ⟨V.mH k2 (mh.slot t v' k1).1,by rw [(mh.slot t v' k1).2,V.mG k2 θ]⟩
  ·obtain ⟨y,hy,hyg⟩:=Uo g hg
   simp only [GE.qf,Bool.and_eq_true] at hyg
   obtain ⟨⟨⟨e1,e2⟩,e3⟩,e4⟩:=hyg
   have e1:=Nat.eq_of_beq_eq_true e1
   have e2:=Nat.eq_of_beq_eq_true e2
   have e3:=vV e3
   obtain ⟨m1,m2⟩:=mh.gl y hy
   rw [e2,e3,e1] at m1
   rw [e2,e3,e1] at m2
   exact ⟨fun h=>⟨V.mH e4 (m1 h).1,by rw [(m1 h).2,V.mG e4 θ]⟩,m2⟩
  ·obtain ⟨lo,hlo⟩:=Option.isSome_iff_exists.1 ((jo ho).2 eJ)
   exact zrZ hlo fun t ht=>lS t (List.mem_append_right _ ht)
  ·unfold Region.wanted
   cases hg:o.guard with
   | none=>rfl
   | some g =>
    obtain ⟨j,want⟩:=g
    simp only [yielded]
    cases hd:(pre.toArray[j]?).bind (·.dst) with
    | none=>rfl
    | some d =>
     have:a2.tmps[d]? = a1.tmps[d]?:=lS d (List.mem_append_left _ (by
      unfold Iq
      rw [hg]
      simp only
      rw [cA] at hd
      rw [hd]
      simp))
     simp only [Option.bind_some,this]
 have C6:∀ (i:Nat) (o:Oper) (e:jR) (listed:Array Bool),pre[i]? = some o->eB o.op=true->bD o.op=false->es[i]? = some e->nh pre.toArray listed->i∈Region.ready .any pre.toArray listed ->
   E.n0<=e.R.length/\(∀ j bk,nth e.R j=some bk->nth (rB listed) j=some bk):=by
  intro i o e listed ho eJ pV he fC hrd
  obtain ⟨g1,g2⟩:=ztl A5 ho he eJ pV
  refine ⟨by omega,fun j bk hj=>?_⟩
  have jX:∀ j,j∈jK pre i (ju o)->listed.getD j false=true:=fun j hj=>xO fC (by rw [cA];exact ho) hrd j hj
  have hao:sZ pre i=jK pre i (ju o):=by unfold sZ;rw [ho]
  refine Ge (g2 _ (oY listed) ?_) j bk hj
  rcases zoh (pre:=pre) (vR:=sZ pre i) (n:=pre.length) with h | ⟨k,o',h1,h2,h3,h4,h5⟩
  ·omega
  ·rw [hao] at h5
   have:=Gf h3 h4 (jX k h5) pre.length h2
   omega
 have A_:∀ (i:Nat) (o:Oper) (listed:Array Bool),pre[i]? = some o->bD o.op=false->rB (listed.setIfInBounds i true)=rB listed:=fun i o listed ho pV=>by
  show Hk (gC pre (listed.setIfInBounds i true) pre.length)=Hk (gC pre listed pre.length)
  rw [Uk (by unfold Aq;rw [ho];exact pV)]
 refine zjJ (P:=P) (Θ:=Nat->Loc) (ops:=pre.toArray) (ops':=fun θ=>(List.zipWith (fun o e=>dz (e.v.aa O θ) o) pre es).toArray) (st:=(pre.zipIdx.filter fun p=>eB p.1.op).map (·.2)) (val:=fun i θ=>(es.getD i default).v.aa O θ)
  (C:=fun θ w=>HS E O θ Hq w) (D:=fun listed θ w1=>HS E O θ (rB listed) w1) (Sm:=fun listed θ θ'=>∀ q,q<(rB listed).length->θ' q=θ q) (Qf:=fun θ a'=>aJ O θ rf a')
  (tm:=fun i=>match pre[i]? with | some o=>Iq pre o++vS o.op | none=>[]) wF cu eG (fun θ i hi=>?_) (fun i hi=>?_) (fun listed θ θ' w1 hd gB=>hd.mz (nJ _ (oY _)) gB) (fun listed θ w1 hd=>hd.forget JL (hHq _ (oY _))) (fun _ _ _ _=>rfl)
  (fun listed i θ θ' θ'' h1 h2 q hq=>(h2 q (Nat.lt_of_lt_of_le hq (JM listed i))).trans (h1 q hq)) (fun listed i θ θ' hi hs gB=>?_) (fun i o hi ho a1 w1 f args w2=>?_) (fun listed i θ w1 hi hd=>?_) (fun i o hi ho listed ee hrd t ht j o' ho' hd'=>?_)
  (fun i o hi ho listed hs fC hrd θ w1 hd a1 a2 mh lS C7=>?_) (fun i o hi ho listed hs fC hrd θ w1 hd a1 a2 mh lS C7=>?_) (fun θ a1 w1 listed hall j_ hd=>?_) pre.toArray.size (Array.replicate pre.toArray.size false) a w U (by simp) (Oj _ _) ?_ (fun θ' gB=>?_)
 ·show ((List.zipWith (fun o e=>dz (e.v.aa O θ) o) pre es).toArray)[i]? = _
  rw [gj θ i,cA i]
  cases ho:pre[i]? with
  | none=>rfl
  | some o =>
   obtain ⟨e,he⟩:=kq i (bL ho)
   rw [he]
   have:eB o.op=false:=by
    cases h:eB o.op with
    | false=>rfl
    | true=>exact absurd ((bG i).2 ⟨o,ho,h⟩) hi
   simp only [zqY this]
 ·obtain ⟨o,h1,h2⟩:=(bG i).1 hi
  obtain ⟨e,he⟩:=kq i (bL h1)
  refine ⟨o,by rw [cA];exact h1,fun θ=>⟨dz (e.v.aa O θ) o,?_,(xQ _ o).2.1,(xQ _ o).1,fun a1 w1=>?_⟩⟩
  ·show ((List.zipWith (fun o e=>dz (e.v.aa O θ) o) pre es).toArray)[i]? = _
   rw [gj θ i,h1,he]
  ·rw [Oy h2,List.getD_eq_getElem?_getD,he]
   simp [execOp,Act.eval]
 ·-- the values of what is listed
  obtain ⟨o,h1,h2⟩:=(bG i).1 hi
  have fY:=bL h1
  have wG:(listed.setIfInBounds i true).getD i false=true:=by
   have:i<listed.size:=by rw [hs];simpa using fY
   rw [Array.getD_eq_getD_getElem?,Array.getElem?_setIfInBounds_self_of_lt this]
   rfl
  obtain ⟨e,he⟩:=kq i fY
  simp only [List.getD_eq_getElem?_getD,he,Option.getD_some]
  have hlt:=(hz.vj i o e h1 he h2).lt
  cases pV:bD o.op with
  | false=>exact V.fS (n:=0) (fun j hj=>by omega) ((hz.vj i o e h1 he h2).lt0 pV)
  | true =>
  have hge:=Gf h1 pV wG pre.length fY
  have hle:e.H.length<=(rB (listed.setIfInBounds i true)).length:=by
   rw [<-Ul he]
   exact wL _ _ hge (oY _)
  exact V.fS (fun j hj=>gB j (Nat.lt_of_lt_of_le hj hle)) hlt
 ·rw [cA] at ho
  have:eB o.op=false:=by
   cases h:eB o.op with
   | false=>rfl
   | true=>exact absurd ((bG i).2 ⟨o,ho,h⟩) hi
  exact Og ((jo ho).1 this) a1 w1 f args w2
 ·-- what turns nothing
  have:gC pre (listed.setIfInBounds i true) pre.length=gC pre listed pre.length:=Uk (by
   unfold Aq
   cases ho:pre[i]? with
   | none=>rfl
   | some o =>
    cases h:bD o.op with
    | false=>exact h
    | true=>exact absurd ((bG i).2 ⟨o,ho,OA h⟩) hi) _
  show HS E O θ (Hk (gC pre (listed.setIfInBounds i true) pre.length)) w1
  rw [this]
  exact hd
 ·rw [cA] at ho ho'
  obtain ⟨o2,h1,h2⟩:=(bG i).1 hi
  rw [ho] at h1;cases h1
  rw [ho] at ht
  exact xO ee (by rw [cA];exact ho) hrd j ((wM ho h2).2 t ht j o' ho' hd')
 ·-- one kC turns or makes Gg, or a late one
  rw [cA] at ho
  obtain ⟨o2,h1,eJ⟩:=(bG i).1 hi
  rw [ho] at h1;cases h1
  rw [ho] at lS
  have fY:=bL ho
  obtain ⟨e,he⟩:=kq i fY
  have nc:=hz.vj i o e ho he eJ
  obtain ⟨Gd,zu,Up⟩:=A6 i o e θ a1 a2 ho he eJ mh lS
  have zi:Region.wanted o (yielded pre.toArray a2.tmps)=true:=by rw [<-C7];exact Up
  rw [zu]
  have hd:HS E O θ (rB listed) w1:=hd
  cases pV:bD o.op with
  | true =>
   obtain ⟨JN,AV⟩:=wN i o e listed ho pV he hs fC hrd
   rw [JN] at hd
   refine (nc.fact θ a2 w1 Gd zi (by rw [nc.R pV];exact hd) (hI w1 hd.fr)).mono fun v w' hk=>?_
   obtain ⟨θ',k1,k2,k3⟩:=hk.1 pV
   refine ⟨θ',fun q hq=>k1 q (by rw [<-JN];exact hq),?_,?_⟩
   ·rcases k2 with k2 | k2
    ·exact .inl k2
    ·right
     simp only [List.getD_eq_getElem?_getD,he,Option.getD_some]
     exact k2
   ·show HS E O θ' (rB (listed.setIfInBounds i true)) w'
    rw [AV];exact k3
  | false =>
   obtain ⟨g1,g2⟩:=C6 i o e listed ho eJ pV he fC hrd
   refine (nc.fact θ a2 w1 Gd zi (hd.forget g1 g2) (hI w1 hd.fr)).mono fun v w' hk=>?_
   obtain ⟨k1,k2⟩:=hk.2 pV
   refine ⟨θ,fun _ _=>rfl,?_,?_⟩
   ·rcases k1 with k1 | k1
    ·exact .inl k1
    ·right
     simp only [List.getD_eq_getElem?_getD,he,Option.getD_some]
     exact k1
   ·show HS E O θ (rB (listed.setIfInBounds i true)) w'
    rw [A_ i o listed ho pV]
    exact k2 _ hd
 ·-- one kC is CR over
  rw [cA] at ho
  obtain ⟨o2,h1,eJ⟩:=(bG i).1 hi
  rw [ho] at h1;cases h1
  rw [ho] at lS
  obtain ⟨e,he⟩:=kq i (bL ho)
  have nc:=hz.vj i o e ho he eJ
  have hd:HS E O θ (rB listed) w1:=hd
  cases pV:bD o.op with
  | false=>exact ⟨θ,fun _ _=>rfl,by
    show HS E O θ (rB (listed.setIfInBounds i true)) w1
    rw [A_ i o listed ho pV];exact hd⟩
  | true =>
   obtain ⟨Gd,zu,Up⟩:=A6 i o e θ a1 a2 ho he eJ mh lS
   obtain ⟨JN,AV⟩:=wN i o e listed ho pV he hs fC hrd
   rw [JN] at hd
   obtain ⟨θ',k1,k2⟩:=nc.skip θ a2 w1 Gd (by rw [<-C7];exact Up) hd
   refine ⟨θ',fun q hq=>k1 q (by rw [<-JN];exact hq),?_⟩
   show HS E O θ' (rB (listed.setIfInBounds i true)) w1
   rw [AV];exact k2
 ·-- all is listed
  show wpList P ops Q (ops.toList.drop n) a1 w1
  refine me θ a1 w1 ⟨⟨j_.defers,j_.size,j_.slot,j_.gl⟩,?_⟩ Q fun U' a' w' h'=>hQ U' a' w' h'.drop
  have hd:HS E O θ (Hk (gC pre listed pre.length)) w1:=hd
  have hH:Hk (gC pre listed pre.length)=FF s.hp es:=by
   have hmid:∀ j o',gC pre listed pre.length<=j->pre[j]? = some o'->bD o'.op=false:=fun j o' g1 g3=>by
    cases h:bD o'.op with
    | false=>rfl
    | true =>
     have:=Gf g3 h (hall j (by simpa using bL g3)) pre.length (bL g3)
     omega
   have h0:=oY listed
   have:=Uj hz (i:=gC pre listed pre.length) (pre.length-gC pre listed pre.length) (by omega) fun j o' g1 g2 g3=>hmid j o' g1 g3
   rw [show gC pre listed pre.length+(pre.length-gC pre listed pre.length)=pre.length from by omega] at this
   rw [<-zly,hz.len]
   exact this.symm
  rw [<-hH];exact hd
 ·-- at first
  have h0:∀ n,gC pre (Array.replicate pre.toArray.size false) n=0:=fun n=>by
   induction n with
   | zero=>rfl
   | succ n ih =>
    unfold gC
    rw [ih,if_neg]
    rw [Array.getD_eq_getD_getElem?,Array.getElem?_replicate]
    split<;>simp
  show HS E O U (Hk (gC pre _ pre.length)) w
  rw [h0]
  exact cF.hs
 ·have h0:∀ n,gC pre (Array.replicate pre.toArray.size false) n=0:=fun n=>by
   induction n with
   | zero=>rfl
   | succ n ih =>
    unfold gC
    rw [ih,if_neg]
    rw [Array.getD_eq_getD_getElem?,Array.getElem?_replicate]
    split<;>simp
  have hU:∀ q,q<s.hp.length->θ' q=U q:=fun q hq=>gB q (by
   show q<(Hk (gC pre _ pre.length)).length
   rw [h0];exact hq)
  have j_:aJ O θ' ⟨⟨s.sl,Hq⟩,[]⟩ a:=cF.act.ext hU hslt (by simp) Hq
  have fJ:HS E O θ' Hq w:=(cF.hs.mz oM hU).forget JL (fun j bk hj=>Ge hkq j bk hj)
  have CQ:=hz.quiet θ' a j_ ⟨w,fJ⟩ _ rfl (List.zipWith (fun o e=>dz (e.v.aa O θ') o) pre es).toArray (eG θ') (fun a'=>aJ O θ' rf a') (fun _ h=>h)
  have hB:Region.lexB .any (List.zipWith (fun o e=>dz (e.v.aa O θ') o) pre es).toArray=true:=by
   rw [<-oR]
   refine TU (by simp [hz.len]) fun j o1 o2 h1 h2=>?_
   rw [List.getElem?_map] at h2
   obtain ⟨o,g1,rfl⟩:=Option.map_eq_some_iff.1 h2
   obtain ⟨e,he⟩:=kq j (bL g1)
   rw [List.getElem?_zipWith,g1,he] at h1
   simp only [Option.some.injEq] at h1
   subst h1
   refine ⟨by rw [(xQ _ o).1,(xQ _ o).1],by rw [(xQ _ o).2.1,(xQ _ o).2.1],by rw [(xQ _ o).2.2,(xQ _ o).2.2],?_⟩
   unfold dz
   split
   ·exact .inr ⟨_,_,rfl,rfl⟩
   ·exact .inl rfl
  simp only [Region.lexB,Bool.and_eq_true] at hB
  have:=wpAnyQ_lex (P:=P) (C:=fun w=>HS E O θ' Hq w) (md:=.any) hB.1 (List.zipWith (fun o e=>dz (e.v.aa O θ') o) pre es) 0 (Array.replicate (List.zipWith (fun o e=>dz (e.v.aa O θ') o) pre es).toArray.size false) a (by simp) (by simpa using hB.2) CQ
  rw [hsz θ'] at this
  simpa [hz.len] using this
theorem zpC (hS:bg P I gK S F) (hE:E.Ok gK) (hn0:S.n0=E.n0) (hI:∀ w,Fr E.W E.w0 w->I w) {ops:Array Oper} {n:Nat} {s:St} (iR:n<=ops.toList.length) (hm:Nk ops.toList n=true) :
  M.sat F O (RI P S ops.toList n s) (fun s'=>∀ U a w,RR O E U ⟨s,[]⟩ a w->∀ Q:Exit->Act->World->Prop,(∀ U' a' w',RR O E U' ⟨s',[]⟩ a' w'->Q .normal a' w') ->
   wpAny P .any ops Q ops.size (Array.replicate ops.size false) a w):=by
 intro k s' n' e d h
 unfold RI at h
 split at h
 ·exact zgM hS hE hn0 hI iR hm k s' n' e d h
 ·exact zgM hS hE hn0 hI iR hm k s' n' e d h
end
end Go.Sx
namespace Go.Sx
open Go.RowKit
section
variable {P:Program} {I:World->Prop} {S:bN} {F:aC} {E:Env} {gK:Nat} {O:Nat->DV}
theorem zgN (hS:bg P I gK S F) (hE:E.Ok gK) (hn0:S.n0=E.n0) (hI:∀ w,Fr E.W E.w0 w->I w) {ops:Array Oper} : ∀ (l:List Oper) (r:RS),M.sat F O (vQ P S true ops.toList l r) (fun r'=>r'.st.hp=r.st.hp /\
  ∀ U a,aJ O U r a->(∃ w,HS E O U r.st.hp w)->∀ C:World->Prop,C=(fun w=>HS E O U r.st.hp w) ->
  ∀ Q:Act->Prop,(∀ a',aJ O U r' a'->Q a')->wpQuiet P ops C Q l a)
 | [],r=>au ⟨rfl,fun U a h _ C _ Q hQ=>hQ a h⟩
 | o::l,r=>by
  unfold vQ
  refine ak (F9 (E:=E) hS hE hn0 hI true) fun r1 h1=>cH (zgN hS hE hn0 hI l r1) fun r' h2=>?_
  have h1:=h1.2 rfl
  refine ⟨h2.1.trans h1.1,fun U a ha hex C hC Q hQ=>?_⟩
  have:=h1.2 U a ha hex C hC
  simp only [wpQuiet]
  split
  ·rename_i hw
   rw [if_pos hw] at this
   obtain ⟨v,h3,h4⟩:=this
   exact ⟨v,h3,h2.2 U _ h4 (by rw [h1.1];exact hex) C (by rw [h1.1];exact hC) Q hQ⟩
  ·rename_i hw
   rw [if_neg hw] at this
   exact h2.2 U _ this (by rw [h1.1];exact hex) C (by rw [h1.1];exact hC) Q hQ
theorem HS.drawn {U:Nat->Loc} {hp:List (Option ag)} {w:World} (h:HS E O U hp w):HS E O U hp { w with drawn:=w.drawn+1 } :=
 h.bK ⟨rfl,rfl,rfl,Nat.le_refl _,fun _ _=>rfl⟩
theorem zqZ {ops:List Oper} (h:xD ops=true):nG .any ops.toArray:=gM h
theorem zu8 {ops:List Oper} {n:Nat} (h:Z8 ops n=true):∀ i,n<=i->∀ o,ops[i]? = some o->∀ j,j<i->∃ e∈o.after,Region.binds .any e=true/\e.on=j:=by
 intro i hi o ho j hj
 have hm:(o,i)∈ops.zipIdx.drop n:=by
  rw [List.mem_iff_getElem?]
  refine ⟨i-n,?_⟩
  rw [List.getElem?_drop,show n+(i-n)=i from by omega,List.getElem?_zipIdx,ho]
  simp
 have:=List.all_eq_true.1 h _ hm
 have:=List.all_eq_true.1 this j (List.mem_range.2 hj)
 obtain ⟨e,he,h2⟩:=Array.any_eq_true'.1 this
 simp only [Bool.and_eq_true] at h2
 exact ⟨e,he,h2.1,Nat.eq_of_beq_eq_true h2.2⟩
theorem JO {α:Type} {x y:M α} {Q:α->Prop} (hx:M.sat F O x Q) (hy:M.sat F O y Q):M.sat F O (x.orElse' y) Q:=by
 intro n a n' e d h1 h2 h3
 unfold M.orElse' at h1
 cases h:x n with
 | some r=>rw [h] at h1;exact hx n a n' e d (by rw [h];exact h1) h2 h3
 | none=>rw [h] at h1;exact hy n a n' e d h1 h2 h3
theorem zmE (hS:bg P I gK S F) (hE:E.Ok gK) (hn0:S.n0=E.n0) (hI:∀ w,Fr E.W E.w0 w->I w) {ops:Array Oper} {s:St} : M.sat F O (RK P S ops s) (fun s'=>P.follows .mixedOrders=true/\∀ U a w,RR O E U ⟨s,[]⟩ a w ->
  ∀ Q:Exit->Act->World->Prop,(∀ U' a' w',RR O E U' ⟨s',[]⟩ a' w'->Q .normal a' w')->wpAny P .any ops Q ops.size (Array.replicate ops.size false) a w):=by
 unfold RK
 refine aY (fun hc=>?_) (fun _=>aE)
 simp only [Bool.and_eq_true] at hc
 refine cH (zrX (E:=E) hS hE hn0 hI (List.takeWhile_prefix _).length_le hc.1) fun s' hs'=>⟨hc.2,fun U a w cF Q hQ=>hs' U a w cF Q hQ⟩
theorem zmF (hS:bg P I gK S F) (hE:E.Ok gK) (hn0:S.n0=E.n0) (hI:∀ w,Fr E.W E.w0 w->I w) {ops:Array Oper} {s:St} : M.sat F O (RL P S ops s) (fun s'=>P.follows .mixedOrders=true/\∀ U a w,RR O E U ⟨s,[]⟩ a w ->
  ∀ Q:Exit->Act->World->Prop,(∀ U' a' w',RR O E U' ⟨s',[]⟩ a' w'->Q .normal a' w')->wpAny P .any ops Q ops.size (Array.replicate ops.size false) a w):=by
 unfold RL
 refine aY (fun hc=>?_) (fun _=>aE)
 simp only [Bool.and_eq_true] at hc
 refine cH (zu7 (E:=E) hS hE hn0 hI (List.takeWhile_prefix _).length_le hc.1) fun s' hs'=>⟨hc.2,fun U a w cF Q hQ=>hs' U a w cF Q hQ⟩
theorem zmG (hS:bg P I gK S F) (hE:E.Ok gK) (hn0:S.n0=E.n0) (hI:∀ w,Fr E.W E.w0 w->I w) {ops:Array Oper} {s:St} : M.sat F O (RM P S ops s) (fun s'=>P.follows .mixedOrders=true/\∀ U a w,RR O E U ⟨s,[]⟩ a w ->
  ∀ Q:Exit->Act->World->Prop,(∀ U' a' w',RR O E U' ⟨s',[]⟩ a' w'->Q .normal a' w')->wpAny P .any ops Q ops.size (Array.replicate ops.size false) a w):=by
 unfold RM
 refine aY (fun hc=>?_) (fun _=>aE)
 simp only [Bool.and_eq_true] at hc
 refine cH (zpC (E:=E) hS hE hn0 hI (List.takeWhile_prefix _).length_le hc.1) fun s' hs'=>⟨hc.2,fun U a w cF Q hQ=>hs' U a w cF Q hQ⟩
theorem zkV (hS:bg P I gK S F) (hE:E.Ok gK) (hn0:S.n0=E.n0) (hI:∀ w,Fr E.W E.w0 w->I w) {ops:Array Oper} {s:St} : M.sat F O (zk5 P S ops s) (fun s'=>P.follows .mixedOrders=true/\∀ U a w,RR O E U ⟨s,[]⟩ a w ->
  ∀ Q:Exit->Act->World->Prop,(∀ U' a' w',RR O E U' ⟨s',[]⟩ a' w'->Q .normal a' w')->wpAny P .any ops Q ops.size (Array.replicate ops.size false) a w) :=
 JO (zmG hS hE hn0 hI) (JO (zmE hS hE hn0 hI) (zmF hS hE hn0 hI))
theorem zmH (hS:bg P I gK S F) (hE:E.Ok gK) (hn0:S.n0=E.n0) (hI:∀ w,Fr E.W E.w0 w->I w) {ops:Array Oper} {s:St} : M.sat F O (RJ P S ops s) (fun s'=>P.follows .mixedOrders=true/\∀ U a w,RR O E U ⟨s,[]⟩ a w ->
  ∀ Q:Exit->Act->World->Prop,(∀ U' a' w',RR O E U' ⟨s',[]⟩ a' w'->Q .normal a' w')->wpAny P .any ops Q ops.size (Array.replicate ops.size false) a w):=by
 unfold RJ
 dsimp only
 generalize hn:(ops.toList.takeWhile fun o=>Z7 o.op).length=n
 refine aY (fun hc=>?_) (fun _=>aY (fun F6=>?_) (fun _=>aE))
 rotate_left
 ·simp only [Bool.and_eq_true] at F6
  obtain ⟨⟨⟨F6,hm⟩,hB⟩,ec⟩:=F6
  refine cH (zpw (E:=E) hS hE hI F6 hB ec) fun s' hs'=>⟨hm,fun U a w cF Q hQ=>hs' U a w cF Q hQ⟩
 simp only [Bool.and_eq_true] at hc
 obtain ⟨hB,mD⟩:=hc
 refine aY (fun hc=>?_) (fun _=>aE)
 simp only [Bool.and_eq_true] at hc
 obtain ⟨hm,ec⟩:=hc
 have hq:=zgN (E:=E) (O:=O) hS hE hn0 hI (ops:=(ops.toList.take n).toArray) (ops.toList.take n) ⟨s,[]⟩
 simp only at hq
 refine ak hq fun r hr=>?_
 refine ak (Gb (E:=E) hS hE hn0 hI (ops.toList.drop n) r) fun r2 me=>au ⟨hm,fun U a w cF Q hQ=>?_⟩
 have cY:nG .any ops:=by have:=zqZ ec;simpa using this
 refine zjF cY (ops.toList.drop n) (ops.toList.take n).toArray (by simp) (fun i hi o ho j hj=>?_) a w ?_
 ·have hlen:(ops.toList.take n).toArray.size=n:=by
   have:n<=ops.toList.length:=by
    rw [<-hn]
    exact (List.takeWhile_prefix _).length_le
   simp at this ⊢
   omega
  exact zu8 mD i (by omega) o (by simpa using ho) j hj
 ·have wz:r.st.hp=s.hp:=hr.1
  simp only [Region.lexB,Bool.and_eq_true] at hB
  refine wpAny_of_quiet (C:=fun w=>HS E O U s.hp w) (Q:=fun a'=>∀ w',(HS E O U s.hp w')->wpList P ops Q (ops.toList.drop n) a' w') (fun _ w' hw' h=>h w' hw') _ _ _ _ cF.hs ?_
  have hqq:=hr.2 U a cF.act ⟨w,cF.hs⟩ _ rfl (fun a'=>∀ w',(HS E O U s.hp w')->wpList P ops Q (ops.toList.drop n) a' w') (fun a' nC w' hw' =>
   me U a' w' ⟨nC,by rw [wz];exact hw'⟩ Q fun U' a'' w'' h'=>hQ U' a'' w'' h'.drop)
  have:=wpAnyQ_lex (P:=P) (C:=fun w=>HS E O U s.hp w) (md:=.any) hB.1 (ops.toList.take n) 0 (Array.replicate (ops.toList.take n).toArray.size false) a (by simp) (by simpa using hB.2) hqq
  simpa using this
theorem zoi (hS:bg P I gK S F) (hE:E.Ok gK) (hn0:S.n0=E.n0) (hI:∀ w,Fr E.W E.w0 w->I w) {ops:Array Oper} {draw:Bool} {s:St} {id:Nat} : M.sat F O (RN P S ops draw s) (fun s'=>∀ U a w,RR O E U ⟨s,[]⟩ a w ->
  ∀ Q:Exit->Act->World->Prop,(∀ U' a' w',RR O E U' ⟨s',[]⟩ a' w'->Q .normal a' w')->(Code.region id ops draw).wp P Q a w):=by
 unfold RN
 cases draw
 ·simp only [Bool.false_eq_true,if_false]
  refine ak (Gb (E:=E) hS hE hn0 hI ops.toList ⟨s,[]⟩) fun r hr=>au fun U a w cF Q hQ=>?_
  exact wp_region_list (hr U a w cF Q fun U' a' w' h'=>hQ U' a' w' h'.drop)
 ·simp only [if_true]
  refine cH (JO (zmH hS hE hn0 hI) (zkV hS hE hn0 hI)) fun s' hs' U a w cF Q hQ=>?_
  exact wp_region_any hs'.1 (hs'.2 U a _ ⟨cF.act,cF.hs.drawn⟩ Q hQ)
def K.is:K->Exit->Prop
 | .normal,.normal=>True
 | .ret,.ret=>True
 | .exit i,.exit j=>i=j
 | .goto i,.goto j=>i=j
 | _,_=>False
def X.de (O:Nat->DV):X->K×St
 | .done k s=>(k,s)
 | .br c x y=>if c.bool O then x.de O else y.de O
def aU (O:Nat->DV) (E:Env) (x:X):Exit->Act->World->Prop:=fun e a w=>(x.de O).1.is e/\∃ U,RR O E U ⟨(x.de O).2,[]⟩ a w
theorem OB:∀ (x:X),M.sat F O x.n4 (fun c=>c.bool O=(x.de O).1.bq)
 | .done k s=>au rfl
 | .br c x y=>by
  unfold X.n4
  refine ak (OB x) fun a ha=>ak (OB y) fun b hb=>cH Nv fun r hr=>?_
  rw [hr,ha,hb]
  simp only [X.de]
  cases c.bool O<;>simp
theorem zpD {c:A} {x y:St} : M.sat F O (BV E.n0 c x y) (fun s=>∀ U a w,(c.bool O=true->RR O E U ⟨x,[]⟩ a w->∃ U',RR O E U' ⟨s,[]⟩ a w) /\
  (c.bool O=false->RR O E U ⟨y,[]⟩ a w->∃ U',RR O E U' ⟨s,[]⟩ a w)) :=
 cH (N3 (Nat.le_refl _)) fun _ h U a w=>⟨fun hc hr=>let ⟨U',_,h2⟩:=(h U a w).1 hc hr;⟨U',h2⟩,fun hc hr=>let ⟨U',_,h2⟩:=(h U a w).2 hc hr;⟨U',h2⟩⟩
def nK (P:Program) (c:Code) (Q:Exit->Act->World->Prop) (a:Act) (w:World):Prop :=
 ∀ (b:Frame) (k:List Item) (cs:List Frame),∃ e a' w',Q e a' w'/\Arrives P (lone (b.at a (.code c::.inLoop c::k)) cs w) b k cs e a' w'
theorem nK.step {P:Program} {c:Code} {Q:Exit->Act->World->Prop} {a:Act} {w:World} (h:c.wp P (Exit.then (nK P c Q) Q) a w):nK P c Q a w:=by
 intro b k cs
 obtain ⟨e,a₁,w₁,hq,iB⟩:=h b (.inLoop c::k) cs
 cases e with
 | normal =>
  obtain ⟨e₂,a₂,w₂,hq₂,harr₂⟩:=hq b k cs
  exact ⟨e₂,a₂,w₂,hq₂,.of_steps (Steps.trans iB (.one step_inLoop)) harr₂⟩
 | exit id=>exact ⟨_,a₁,w₁,hq,.pass (x:=.inLoop c) rfl (fun _ _=>.inl (by simp)) iB⟩
 | goto l=>exact ⟨_,a₁,w₁,hq,.pass (x:=.inLoop c) rfl (fun _ _=>.inl (by simp)) iB⟩
 | ret=>exact ⟨_,a₁,w₁,hq,.pass (x:=.inLoop c) rfl (fun _ _=>.inl (by simp)) iB⟩
 | panic ch=>exact ⟨_,a₁,w₁,hq,.pass (x:=.inLoop c) rfl (fun _ _=>.inl (by simp)) iB⟩
 | outgrown=>exact ⟨_,a₁,w₁,hq,.pass (x:=.inLoop c) rfl (fun _ _=>.inl (by simp)) iB⟩
theorem nK.wp {P:Program} {c:Code} {Q:Exit->Act->World->Prop} {a:Act} {w:World} (h:nK P c Q a w):(Code.loop c).wp P Q a w:=by
 intro b k cs
 obtain ⟨e,a',w',hq,iB⟩:=h b k cs
 exact ⟨e,a',w',hq,.of_steps (.one step_loop) iB⟩
theorem nK.mono {P:Program} {c:Code} {Q Q':Exit->Act->World->Prop} {a:Act} {w:World} (hq:∀ e a w,Q e a w->Q' e a w) (h:nK P c Q a w):nK P c Q' a w :=
 fun b k cs=>let ⟨e,a',w',q,r⟩:=h b k cs;⟨e,a',w',hq _ _ _ q,r⟩
theorem JP:∀ (x:X),M.sat F O (x.Ce E.n0) (fun o=>(x.de O).1.bq=true->∃ s,o=some s/\∀ U a w,RR O E U ⟨(x.de O).2,[]⟩ a w->∃ U',RR O E U' ⟨s,[]⟩ a w)
 | .done k s=>by
  refine au fun h=>?_
  simp only [X.de] at h ⊢
  exact ⟨s,by simp [h],fun U a w h=>⟨U,h⟩⟩
 | .br c x y=>by
  unfold X.Ce
  refine ak (JP x) fun ox hx=>ak (JP y) fun oy hy=>?_
  split
  ·rename_i a b
   refine ak (zpD (E:=E)) fun s hs=>au fun h=>⟨s,rfl,fun U act w hr=>?_⟩
   simp only [X.de] at h hr
   by_cases hc:c.bool O=true
   ·simp only [hc,if_true] at h hr
    obtain ⟨s',hs',h2⟩:=hx h
    cases hs'
    obtain ⟨U',h3⟩:=h2 U act w hr
    exact (hs U' act w).1 hc h3
   ·simp only [hc] at h hr
    obtain ⟨s',hs',h2⟩:=hy h
    cases hs'
    obtain ⟨U',h3⟩:=h2 U act w hr
    exact (hs U' act w).2 (by simpa using hc) h3
  ·rename_i a
   refine au fun h=>?_
   simp only [X.de] at h ⊢
   by_cases hc:c.bool O=true
   ·simp only [hc,if_true] at h ⊢
    exact hx h
   ·simp only [hc] at h ⊢
    obtain ⟨s',hs',_⟩:=hy h
    cases hs'
  ·rename_i b
   refine au fun h=>?_
   simp only [X.de] at h ⊢
   by_cases hc:c.bool O=true
   ·simp only [hc,if_true] at h ⊢
    obtain ⟨s',hs',_⟩:=hx h
    cases hs'
   ·simp only [hc] at h ⊢
    exact hy h
  ·refine au fun h=>?_
   simp only [X.de] at h
   by_cases hc:c.bool O=true
   ·simp only [hc,if_true] at h
    obtain ⟨s',hs',_⟩:=hx h
    cases hs'
   ·simp only [hc] at h
    obtain ⟨s',hs',_⟩:=hy h
    cases hs'
theorem JQ:∀ (x:X),(x.de O).1.bq=false->∃ z,x.kill=some z/\z.de O=x.de O
 | .done k s,h=>by
  simp only [X.de] at h
  exact ⟨.done k s,by simp [X.kill,h],rfl⟩
 | .br c x y,h=>by
  simp only [X.de] at h
  by_cases hc:c.bool O=true
  ·simp only [hc,if_true] at h
   obtain ⟨z,h1,h2⟩:=JQ x h
   cases hy:y.kill with
   | none=>exact ⟨z,by simp [X.kill,h1,hy],by simp [X.de,hc,h2]⟩
   | some z'=>exact ⟨.br c z z',by simp [X.kill,h1,hy],by simp [X.de,hc,h2]⟩
  ·simp only [hc] at h
   obtain ⟨z,h1,h2⟩:=JQ y h
   cases hx:x.kill with
   | none=>exact ⟨z,by simp [X.kill,h1,hx],by simp [X.de,hc,h2]⟩
   | some z'=>exact ⟨.br c z' z,by simp [X.kill,h1,hx],by simp [X.de,hc,h2]⟩
theorem K.oh {k:K} {e:Exit} (h:k.is e) (hn:k.bq=true):e = .normal:=by
 cases k<;>cases e<;>simp [K.is,K.bq] at h hn ⊢
theorem K.sj {k:K} {e:Exit} (h:k.is e) (hn:k.bq=false):e≠.normal:=by
 cases k<;>cases e<;>simp [K.is,K.bq] at h hn ⊢
theorem Uq {x:X} {f:St->M X} {_G:X->Prop} {N:(Exit->Act->World->Prop)->Act->World->Prop}
  (hf:∀ s,M.sat F O (f s) (fun y=>∀ U a w,RR O E U ⟨s,[]⟩ a w->N (aU O E y) a w))
  (hN:∀ (Q Q':Exit->Act->World->Prop) a w,(∀ e a w,Q e a w->Q' e a w)->N Q a w->N Q' a w) :
  M.sat F O (x.andThen E.n0 f) (fun z=>∀ e a w,aU O E x e a w->Exit.then (N (aU O E z)) (aU O E z) e a w):=by
 unfold X.andThen
 refine ak (OB x) fun c hc=>ak (JP (E:=E) x) fun o ho=>?_
 split
 ·refine au fun e a w hp=>?_
  obtain ⟨hk,U,hr⟩:=hp
  cases hn:(x.de O).1.bq with
  | true=>obtain ⟨s,hs,_⟩:=ho hn;cases hs
  | false =>
   have:=K.sj hk hn
   cases e<;>first | exact absurd rfl this | exact ⟨hk,U,hr⟩
 ·rename_i s
  have wO:∀ e a w,aU O E x e a w->(x.de O).1.bq=true->e = .normal/\∃ U,RR O E U ⟨s,[]⟩ a w:=fun e a w hp hn=>by
   obtain ⟨hk,U,hr⟩:=hp
   obtain ⟨s',hs',h2⟩:=ho hn
   cases hs'
   exact ⟨K.oh hk hn,h2 U a w hr⟩
  split
  ·rename_i JR
   refine cH (hf s) fun y hy e a w hp=>?_
   have hn:(x.de O).1.bq=true:=by
    cases hn:(x.de O).1.bq with
    | true=>rfl
    | false=>obtain ⟨z,hz,_⟩:=JQ x hn;rw [JR] at hz;cases hz
   obtain ⟨rfl,U,hr⟩:=wO e a w hp hn
   exact hy U a w hr
  ·rename_i z hz
   split
   ·refine cH (hf s) fun y hy e a w hp=>?_
    have hn:(x.de O).1.bq=true:=by rw [<-hc]
    obtain ⟨rfl,U,hr⟩:=wO e a w hp hn
    exact hy U a w hr
   ·refine ak (uY (hf s)) fun y hy=>au fun e a w hp=>?_
    cases hn:(x.de O).1.bq with
    | true =>
     obtain ⟨rfl,U,hr⟩:=wO e a w hp hn
     have I_:c.bool O=true:=by rw [hc,hn]
     refine hN (aU O E y) _ a w (fun e a w h=>?_) (hy I_ U a w hr)
     unfold aU at h ⊢
     simp only [X.de,I_,if_true]
     exact h
    | false =>
     obtain ⟨hk,U,hr⟩:=hp
     have hne:=K.sj hk hn
     have AN:c.bool O=false:=by rw [hc,hn]
     obtain ⟨z',nF,hsel⟩:=JQ x hn
     rw [hz] at nF
     cases nF
     have hpost:aU O E (.br c y z) e a w:=by
      unfold aU
      simp only [X.de,AN,Bool.false_eq_true,if_false,hsel]
      exact ⟨hk,U,hr⟩
     cases e<;>first | exact absurd rfl hne | exact hpost
theorem Ur (id:Nat):∀ (x:X),(x.inBlock id).de O=((x.de O).1.inBlock id,(x.de O).2)
 | .done k s=>rfl
 | .br c x y=>by
  simp only [X.inBlock,X.de,Ur id x,Ur id y]
  split<;>rfl
theorem OC:∀ (x:X),x.noGoto=true->∀ l,(x.de O).1≠.goto l
 | .done k s,h,l=>by
  simp only [X.de]
  intro e
  subst e
  simp [X.noGoto] at h
 | .br c x y,h,l=>by
  simp only [X.noGoto,Bool.and_eq_true] at h
  simp only [X.de]
  split
  ·exact OC x h.1 l
  ·exact OC y h.2 l
def sk (l:Nat):Exit->Exit
 | .normal=>.goto l
 | .goto m=>if m=l then .normal else .goto m
 | e=>e
theorem zpE (l:Nat) (e:Exit):sk l (sk l e)=e:=by
 cases e<;>simp only [sk,if_true]
 rename_i m
 by_cases h:m=l
 ·rw [if_pos h,h]
 ·rw [if_neg h]
  simp only [sk,if_neg h]
theorem Us (l:Nat):∀ x:X,(x.swap l).de O=((x.de O).1.swap l,(x.de O).2)
 | .done k s=>rfl
 | .br c x y=>by
  simp only [X.swap,X.de,Us l x,Us l y]
  split<;>rfl
theorem K.zz {l:Nat} {k:K} {e:Exit} (h:k.is e):(k.swap l).is (sk l e):=by
 cases k<;>cases e<;>simp only [K.is] at h<;>first | exact h.elim | skip
 ·exact rfl
 ·trivial
 ·exact h
 ·rename_i i j
  subst h
  simp only [K.swap,sk]
  by_cases hb:i=l
  ·subst hb
   simp [K.is]
  ·have:Nat.beq i l=false:=by
    cases hq:Nat.beq i l with
    | false=>rfl
    | true=>exact absurd (Nat.eq_of_beq_eq_true hq) hb
   rw [this,if_neg hb]
   exact rfl
theorem aU.swap {x:X} {l:Nat} {e:Exit} {a:Act} {w:World} (h:aU O E x e a w):aU O E (x.swap l) (sk l e) a w:=by
 obtain ⟨hk,U,hr⟩:=h
 unfold aU
 rw [Us]
 exact ⟨K.zz hk,U,hr⟩
def Gh (P:Program) (c d:Code) (Q:Exit->Act->World->Prop) (a:Act) (w:World):Prop :=
 ∀ (b:Frame) (k:List Item) (cs:List Frame),∃ e a' w',Q e a' w'/\Arrives P (lone (b.at a (.code d::.inScope c::k)) cs w) b k cs e a' w'
def Ut (P:Program) (c:Code) (Q:Exit->Act->World->Prop):Exit->Act->World->Prop
 | .goto l,a,w=>∃ rest,findLabel c l=some rest/\Gh P c rest Q a w
 | e,a,w=>Q e a w
theorem Gh.of_wp {P:Program} {c d:Code} {Q:Exit->Act->World->Prop} {a:Act} {w:World} (h:d.wp P (Ut P c Q) a w):Gh P c d Q a w:=by
 intro b k cs
 obtain ⟨e,a₁,w₁,hq,iB⟩:=h b (.inScope c::k) cs
 cases e with
 | normal=>exact ⟨.normal,a₁,w₁,hq,Steps.trans iB (.one step_inScope)⟩
 | exit id=>exact ⟨.exit id,a₁,w₁,hq,fun k' hk=>iB k' (by simp [exitTo,hk])⟩
 | goto l =>
  obtain ⟨rest,hf,hrun⟩:=hq
  obtain ⟨e₂,a₂,w₂,hq₂,harr₂⟩:=hrun b k cs
  exact ⟨e₂,a₂,w₂,hq₂,.of_steps (iB _ (by simp [gotoIn,hf])) harr₂⟩
 | ret=>exact ⟨_,a₁,w₁,hq,iB⟩
 | panic ch=>exact ⟨_,a₁,w₁,hq,iB⟩
 | outgrown=>exact ⟨_,a₁,w₁,hq,iB⟩
theorem Gh.wp {P:Program} {c:Code} {Q:Exit->Act->World->Prop} {a:Act} {w:World} (h:Gh P c c Q a w):(Code.scope c).wp P Q a w:=by
 intro b k cs
 obtain ⟨e,a',w',hq,iB⟩:=h b k cs
 exact ⟨e,a',w',hq,.of_steps (.one step_scope) iB⟩
theorem zjR {ev:Code->St->M X} (dY:∀ c s,M.sat F O (ev c s) (fun x=>∀ U a w,RR O E U ⟨s,[]⟩ a w->c.wp P (aU O E x) a w)) (c:Code) :
  ∀ (t:Nat) (x:X),M.sat F O (Nm E.n0 ev c t x) (fun z=>∀ e a w,aU O E x e a w->Ut P c (aU O E z) e a w)
 | 0,_=>aE
 | t+1,x=>by
  unfold Nm
  split
  ·refine aY (fun hg=>au fun e a w hp=>?_) (fun _=>aE)
   cases e<;>first | exact hp | skip
   rename_i l
   have:=hp.1
   have Uu:=OC (O:=O) x hg l
   generalize (x.de O).1=k at *
   cases k<;>simp only [K.is] at this
   subst this
   exact absurd rfl Uu
  ·rename_i l _
   split
   ·exact aE
   ·rename_i rest hf
    refine ak (Uq (E:=E) (_G:=fun _=>True) (x:=x.swap l) (N:=fun Q a w=>rest.wp P (fun e=>Q (sk l e)) a w)
     (fun s'=>ak (dY rest s') fun y hy=>au fun U a w h=>wp_mono (hy U a w h) fun e a w hp=>hp.swap)
     (fun Q Q' a w h hw=>wp_mono hw fun e a w hp=>h _ a w hp)) fun z0 za=>?_
    refine cH (zjR dY c t (z0.swap l)) fun z hz e a w hp=>?_
    have ec:∀ e a w,aU O E z0 (sk l e) a w->Ut P c (aU O E z) e a w:=fun e a w h=>by
     have:=h.swap (l:=l)
     rw [zpE] at this
     exact hz e a w this
    have h1:=za (sk l e) a w hp.swap
    by_cases hl:e = .goto l
    ·subst hl
     simp only [sk,if_true,Exit.then] at h1
     exact ⟨rest,hf,.of_wp (wp_mono h1 ec)⟩
    ·have hne:sk l e≠.normal:=by
      cases e<;>simp [sk]
      rename_i m
      exact fun h=>hl (by rw [h])
     have h2:aU O E z0 (sk l e) a w:=by
      generalize sk l e=e' at *
      cases e'<;>first | exact absurd rfl hne | exact h1
     exact ec e a w h2
end
end Go.Sx
namespace Go.Sx
open Go.RowKit
theorem zvT {a b:Nat} (h:Nat.blt a b=true):a<b:=by simpa [Nat.blt_eq] using h
theorem zu9 {a b:Nat} (h:a<b):Nat.blt a b=true:=by simpa [Nat.blt_eq] using h
theorem Uv {base:Nat->DV} {n0 n i:Nat} {vs:List DV} (h:i<n0):look base n0 vs n i=base i:=by
 unfold look;rw [zu9 h];rfl
theorem JS {base:Nat->DV} {n0 n i:Nat} {vs:List DV} (h:n0<=i):look base n0 vs n i=vs.getD (n-1-i) default:=by
 unfold look
 have:Nat.blt i n0=false:=by
  cases hb:Nat.blt i n0 with
  | false=>rfl
  | true=>have:=zvT hb;omega
 rw [this];rfl
theorem zmJ {base:Nat->DV} {n0 n i:Nat} {vs:List DV} (hi:i<n) (d:DV):look base n0 (d::vs) (n+1) i=look base n0 vs n i:=by
 rcases Nat.lt_or_ge i n0 with h | h
 ·rw [Uv h,Uv h]
 ·rw [JS h,JS h,show n+1-1-i=(n-1-i)+1 from by omega];rfl
theorem zmK {base:Nat->DV} {n0 n:Nat} {vs:List DV} (hn:n0<=n) (d:DV):look base n0 (d::vs) (n+1) n=d:=by
 rw [JS hn,show n+1-1-n=0 from by omega];rfl
theorem A.dN {O O':Nat->DV} {n:Nat} (h:∀ i,i<n->O i=O' i) {a:A} (ha:a.below n=true):a.den O=a.den O':=by
 cases a with
 | r i=>exact h i (zvT ha)
 | _=>rfl
theorem A.cZ {O O':Nat->DV} {n:Nat} (h:∀ i,i<n->O i=O' i) {a:A} (ha:a.below n=true):a.int O=a.int O':=by simp [A.int,A.dN h ha]
theorem A.dI {O O':Nat->DV} {n:Nat} (h:∀ i,i<n->O i=O' i) {a:A} (ha:a.below n=true):a.cells O=a.cells O':=by simp [A.cells,A.dN h ha]
theorem A.dm {O O':Nat->DV} {n:Nat} (h:∀ i,i<n->O i=O' i) {a:A} (ha:a.below n=true):a.bool O=a.bool O':=by simp [A.bool,A.dN h ha]
theorem OD {α β:Type} {p:α->Bool} {f g:α->β} {l:List α} (hl:l.all p=true) (h:∀ a,p a=true->f a=g a):l.map f=l.map g :=
 List.map_congr_left fun a ha=>h a (List.all_eq_true.1 hl a ha)
theorem zmL {F:aC} {O O':Nat->DV} {n:Nat} (h:∀ i,i<n->O i=O' i) {x:Node} (hx:x.refs n=true):lJ F O x=lJ F O' x:=by
 cases x<;>simp only [Node.refs,Node.ops,List.all_cons,List.all_nil,Bool.and_true,Bool.and_eq_true] at hx<;>simp only [lJ] <;>
  first
   | rw [A.cZ h hx.1,A.cZ h hx.2]
   | rw [A.dm h hx.1,A.dm h hx.2]
   | rw [A.dm h hx]
   | rw [A.cZ h hx]
   | rw [A.dm h hx.1,A.cZ h hx.2.1,A.cZ h hx.2.2]
   | rw [A.dm h hx.1,A.dm h hx.2.1,A.dm h hx.2.2]
   | rw [OD hx.2 (fun a ha=>A.cZ h ha),A.cZ h hx.1]
   | rw [OD hx.2 (fun a ha=>A.dm h ha),A.cZ h hx.1]
   | rw [OD hx (fun a ha=>A.dN h ha)]
   | rw [A.dI h hx]
   | rw [A.dI h hx.1,A.cZ h hx.2.1,A.dN h hx.2.2]
   | rw [A.dI h hx.1,A.cZ h hx.2]
   | rw [A.dI h hx.1,A.dI h hx.2]
   | rw [OD hx.2 (fun a ha=>A.dN h ha),A.cZ h hx.1]
   | rw [A.dm h hx.1,A.dI h hx.2.1,A.dI h hx.2.2]
theorem Uw {F:aC} {base:Nat->DV} {n0:Nat} : ∀ {nodes:Em} {vs:List DV} {n:Nat},n0<=n->Cg n nodes=true ->
  (∀ i,i<n->look base n0 (k_ F base n0 nodes vs n) (n+nodes.length) i=look base n0 vs n i) /\
  Sat F (look base n0 (k_ F base n0 nodes vs n) (n+nodes.length)) nodes
 | [],vs,n,_,_=>⟨fun i _=>rfl,fun p hp=>by cases hp⟩
 | (k,x)::r,vs,n,hn,hw=>by
  simp only [Cg,Bool.and_eq_true] at hw
  obtain ⟨⟨h1,h2⟩,h3⟩:=hw
  have hk:=Nat.eq_of_beq_eq_true h1
  subst hk
  obtain ⟨e2,e3⟩:=Uw (F:=F) (base:=base) (n0:=n0) (nodes:=r) (vs:=lJ F (look base n0 vs k) x::vs) (n:=k+1) (by omega) h3
  have hlen:k+((k,x)::r).length=k+1+r.length:=by simp;omega
  simp only [k_]
  rw [hlen]
  have old:∀ i,i<k->look base n0 (k_ F base n0 r (lJ F (look base n0 vs k) x::vs) (k+1)) (k+1+r.length) i=look base n0 vs k i:=fun i hi=>by
   rw [e2 i (by omega),zmJ hi]
  refine ⟨old,fun p hp=>?_⟩
  rcases List.mem_cons.1 hp with rfl | hp
  ·simp only
   rw [e2 k (by omega),zmK hn]
   exact (zmL (fun i hi=>old i hi) h2).symm
  ·exact e3 p hp
section
variable {P:Program} {I:World->Prop} {S:bN} {F:aC} {E:Env} {gK:Nat}
theorem LR.mN {l:LR} (O:Nat->DV) {xs:List DV} (hx:xs.length=l.k) (hw:Cg (l.n+l.k) l.nodes=true) :
  (∀ i,i<l.n->l.env F O xs i=O i)/\(∀ j,j<l.k->l.env F O xs (l.n+j)=xs.getD j default)/\Sat F (l.env F O xs) l.nodes:=by
 obtain ⟨h1,h2⟩:=Uw (F:=F) (base:=O) (n0:=l.n) (vs:=xs.reverse) (n:=l.n+l.k) (by omega) hw
 refine ⟨fun i hi=>?_,fun j hj=>?_,h2⟩
 ·unfold LR.env;rw [Uv hi]
 ·unfold LR.env
  rw [h1 (l.n+j) (by omega),JS (by omega)]
  simp only [List.getD_eq_getElem?_getD]
  rw [List.getElem?_reverse (by omega),hx]
  congr 2
  omega
theorem K.beq_eq {a b:K} (h:a.beq b=true):a=b:=by
 cases a<;>cases b<;>simp [K.beq] at h<;>first | rfl | (subst h;rfl)
theorem zjT {k:K} : ∀ {l:List K} {i:Nat},Cf k l=some i->l[i]? = some k
 | [],_,h=>by simp [Cf] at h
 | x::l,i,h=>by
  simp only [Cf] at h
  split at h
  ·rename_i hx;cases h;have:=K.beq_eq hx;subst this;rfl
  ·obtain ⟨j,hj,rfl⟩:=Option.map_eq_some_iff.1 h
   simpa using zjT hj
theorem gb.refl {O:Nat->DV} : ∀ {ts:List Ty} {as:List A},as.length=ts.length->gb O O ts as as
 | [],[],_=>trivial
 | t::ts,a::as,h=>⟨t.kB _,gb.refl (by simpa using h)⟩
theorem gb.trans {O1 O2 O3:Nat->DV} : ∀ {ts:List Ty} {as t bs:List A},gb O1 O2 ts as t->gb O2 O3 ts t bs->gb O1 O3 ts as bs
 | [],[],[],[],_,_=>trivial
 | _::_,_::_,_::_,_::_,h,k=>⟨Ty.rR h.1 k.1,gb.trans h.2 k.2⟩
 | [],_::_,_,_,h,_=>h.elim
 | [],[],_::_,_,h,_=>h.elim
 | [],[],[],_::_,_,e=>e.elim
 | _::_,[],_,_,h,_=>h.elim
 | _::_,_::_,[],_,h,_=>h.elim
 | _::_,_::_,_::_,[],_,e=>e.elim
theorem gb.sq {O1 O2:Nat->DV} : ∀ {ts:List Ty} {as bs:List A},vF ts (bs.map (A.den O2)) (as.map (A.den O1))->gb O1 O2 ts as bs
 | [],[],[],_=>trivial
 | _::_,_::_,_::_,e=>by
  simp only [List.map_cons,vF] at e
  exact ⟨Ty.tZ e.1,gb.sq e.2⟩
 | [],[],_::_,e=>e.elim
 | [],_::_,[],e=>e.elim
 | [],_::_,_::_,e=>e.elim
 | _::_,[],[],e=>e.elim
 | _::_,[],_::_,e=>e.elim
 | _::_,_::_,[],e=>e.elim
theorem vF.len:∀ {ts:List Ty} {as bs:List DV},vF ts as bs->as.length=bs.length
 | [],[],[],_=>rfl
 | _::_,_::_,_::_,h=>by simp [vF.len h.2]
 | [],_::_,_,h=>h.elim
 | [],[],_::_,h=>h.elim
 | _::_,[],_,h=>h.elim
 | _::_,_::_,[],h=>h.elim
def mO (O:Nat->DV) (E:Env) (p:ny) (s:St) (as:List A):Prop:=∀ U a w,RR O E U ⟨s,[]⟩ a w->∃ U',RR O E U' ⟨p.st.inst as,[]⟩ a w
theorem Ux {O:Nat->DV} {p:ny} {s:St} {g:List A×List Nat} (h1:(p.st.inst g.1).sub g.2 s=true) (h2:tO g.2 E.n0=true) (h3:E.n0<=p.st.hp.length):mO O E p s g.1 :=
 fun _ _ _ h=>⟨_,h.sub h1 h2 (by simpa [St.inst] using h3)⟩
theorem Uy {O:Nat->DV} {pe:K->ny} {tys:List Ty} {ks:List K} (hl:∀ k,E.n0<=(pe k).st.hp.length):∀ (x:X),M.sat F O (x.n5 E.n0 pe tys ks) (fun r=>∃ i as,Cf (x.de O).1 ks=some i/\mO O E (pe (x.de O).1) (x.de O).2 as /\
  gb O O (.i::tys) (.z i::as) r)
 | .done k s=>by
  unfold X.n5
  refine bh fun i hi=>?_
  dsimp only
  generalize hg:oD tys.length (pe k).st s=g
  have lO:g.1.length=tys.length:=by rw [<-hg];exact IV _ _ _
  refine aY (fun hc=>?_) (fun _=>aE)
  simp only [Bool.and_eq_true] at hc
  exact au ⟨i,g.1,hi,Ux hc.1 hc.2 (hl k),Ty.kB _ _,gb.refl lO⟩
 | .br c x y=>by
  unfold X.n5
  refine ak (Uy hl x) fun a ha=>ak (Uy hl y) fun b hb=>cH (I9 _ _ _) fun r hr=>?_
  simp only [X.de]
  by_cases hc:c.bool O=true
  ·simp only [hc,if_true]
   obtain ⟨i,as,e1,e2,e3⟩:=ha
   exact ⟨i,as,e1,e2,e3.trans (hr.1 hc)⟩
  ·have AT:c.bool O=false:=by simpa using hc
   simp only [AT,Bool.false_eq_true,if_false]
   obtain ⟨i,as,e1,e2,e3⟩:=hb
   exact ⟨i,as,e1,e2,e3.trans (hr.2 AT)⟩
structure tB (P:Program) (O:Nat->DV) (E:Env) (b:Code) (p:ny) (sx:St) (r:Round):Prop where
 run:∀ U a w,RR O E U ⟨sx,[]⟩ a w->b.wp P (aU O E r.x) a w
 cond:r.c.bool O=(r.x.de O).1.bq
 next:(r.x.de O).1.bq=true->mO O E p (r.x.de O).2 r.nx
 out:(r.x.de O).1.bq=false->∃ (i:Nat) (as:List A),r.ks[i]? = some (r.x.de O).1/\mO O E (p.at r.tS (r.x.de O).1) (r.x.de O).2 as/\gb O O (.i::p.tys) (.z i::as) r.outs
theorem zpG {O:Nat->DV} {ev:St->M X} {b:Code} {p:ny} {sx:St} (hl:E.n0<=p.st.hp.length) (dY:M.sat F O (ev sx) (fun x=>∀ U a w,RR O E U ⟨sx,[]⟩ a w->b.wp P (aU O E x) a w)) :
  M.sat F O (RP E.n0 ev p sx) (tB P O E b p sx):=by
 unfold RP
 refine ak dY fun x hx=>ak (OB x) fun c hc=>ak (JP (E:=E) x) fun o ho=>?_
 have Uz:M.sat F O (RO E.n0 p o) (fun nx=>(x.de O).1.bq=true->mO O E p (x.de O).2 nx):=by
  cases o with
  | none=>exact au fun hn=>by obtain ⟨s,hs,_⟩:=ho hn;cases hs
  | some so =>
   unfold RO
   dsimp only
   refine aY (fun hc=>?_) (fun _=>aE)
   simp only [Bool.and_eq_true] at hc
   refine au fun hn U a w h=>?_
   obtain ⟨s,hs,h2⟩:=ho hn
   cases hs
   obtain ⟨U',h3⟩:=h2 U a w h
   exact Ux hc.1 hc.2 hl U' a w h3
 refine ak Uz fun nx Uz=>?_
 cases hz:x.kill with
 | none=>exact aE
 | some z =>
  unfold zqC
  refine ak (Uy (pe:=p.at (z.tS p)) (ks:=z.kinds) (fun _=>hl) z) fun outs qH=>au ⟨hx,hc,Uz,fun hn=>?_⟩
  obtain ⟨z',nF,hsel⟩:=JQ x hn
  rw [hz] at nF
  cases nF
  obtain ⟨i,as,e1,e2,e3⟩:=qH
  simp only
  rw [<-hsel]
  exact ⟨i,as,zjT e1,e2,e3⟩
theorem ztm {O:Nat->DV} {ka:A} {sf:K->St} : ∀ (ks:List K) (i:Nat),M.sat F O (K.No ka sf i ks) (fun x=>∀ j k,ks[j]? = some k->ka.int O=((i+j:Nat):Int)->x.de O=(k,sf k))
 | [],i=>aE
 | [k],i=>au fun j k' hk _=>by
  cases j with
  | zero=>simp at hk;subst hk;rfl
  | succ j=>simp at hk
 | k::k2::l,i=>by
  unfold K.No
  refine ak (cz (Q:=fun r=>r.bool O=(ka.int O==(i:Int))) fun r h=>A.aq h) fun e he=>ak (ztm (k2::l) (i+1)) fun r hr=>au fun j k' hk hka=>?_
  simp only [X.de,he]
  cases j with
  | zero =>
   simp at hk;subst hk
   have:(ka.int O==(i:Int))=true:=by simpa using hka
   simp [this]
  | succ j =>
   have hne:(ka.int O==(i:Int))=false:=by rw [hka];simp;omega
   simp only [hne,Bool.false_eq_true,if_false]
   exact hr j k' (by simpa using hk) (by rw [hka];congr 1;omega)
theorem zq0 {O:Nat->DV} {l:LR} : M.sat F O (yO l) (fun _=>jJ F l):=by
 intro n u n' e d h _ hd
 unfold yO at h
 simp only [Option.some.injEq,Prod.mk.injEq] at h
 obtain ⟨_,_,_,rfl⟩:=h
 exact hd (.lp l) (by simp)
theorem zoj {O:Nat->DV} : ∀ (ls:List LR),M.sat F O (Nq ls) (fun _=>∀ l∈ls,jJ F l)
 | []=>au fun l hl=>by cases hl
 | l::r=>by
  unfold Nq
  refine ak zq0 fun _ h1=>cH (zoj r) fun _ h2 x hx=>?_
  rcases List.mem_cons.1 hx with rfl | hx
  ·exact h1
  ·exact h2 x hx
structure JT (F:aC) (O:Nat->DV) (pe:K->ny) (l:LR) (args:List A) (ks:List K) (x:X):Prop where
 pre:((F l.fid (args.map (A.den O))).getD 0 default).aA=true
 out:∃ (os:List A) (ka:A),(∀ (j:Nat) (k:K),ks[j]? = some k->ka.int O=(j:Int)->x.de O=(k,(pe k).st.inst os)) /\
  (∀ vs:List DV,vs.length=l.outs.length->(F l.fid (args.map (A.den O))).drop 1=vs->(ka::os).map (A.den O)=vs)
theorem zok {O:Nat->DV} {pe:K->ny} {ins:List A} {l:LR} {ks:List K} :
  M.sat F O (RQ l.fid pe ins l ks) (JT F O pe l (l.inv.map A.r++ins) ks):=by
 unfold RQ
 dsimp only
 refine ak (cz (Q:=fun r=>r.den O=(F l.fid ((l.inv.map A.r++ins).map (A.den O))).getD 0 default) fun r h=>h) fun q hq=>?_
 refine ak (n6 (Q:=fun _=>q.bool O=true) fun h=>h) fun _ hpre=>?_
 refine ak (SC l.outs.length 1) fun os hos=>?_
 refine aY (fun _=>aE) (fun hne=>?_)
 have hout:l.outs≠[]:=fun h=>hne (by rw [h];rfl)
 refine cH (ztm ks 0) fun x hx=>⟨by rw [<-hq];exact hpre,os.tail,os.headD default,fun j k hk hka=>hx j k hk (by simpa using hka),fun vs hvl hvs=>?_⟩
 have hall:os.map (A.den O)=vs:=by
  apply List.ext_getElem?
  intro i
  by_cases hi:i<os.length
  ·rw [List.getElem?_map,List.getElem?_eq_getElem hi]
   simp only [Option.map_some]
   rw [hos.2 i _ (List.getElem?_eq_getElem hi),<-hvs,List.getElem?_drop]
   have hlen:1+i<(F l.fid ((l.inv.map A.r++ins).map (A.den O))).length:=by
    have:=congrArg List.length hvs
    simp only [List.length_drop] at this
    have:=hos.1
    omega
   rw [List.getD_eq_getElem?_getD,List.getElem?_eq_getElem hlen]
   rfl
  ·rw [List.getElem?_eq_none (by simpa using hi),List.getElem?_eq_none (by have:=hos.1;omega)]
 cases os with
 | nil=>exact absurd (List.eq_nil_of_length_eq_zero (by simpa using hos.1.symm)) hout
 | cons o os=>exact hall
theorem zol {O:Nat->DV} {ev:St->M X} {b:Code} {fid:Nat} {lh:LH} {p:ny} {s:St}
  (dY:∀ (O':Nat->DV) (s':St),M.sat F O' (ev s') (fun x=>∀ U a w,RR O' E U ⟨s',[]⟩ a w->b.wp P (aU O' E x) a w)) :
  M.sat F O (RT E.n0 ev fid lh p s) (fun z=>∀ U a w,RR O E U ⟨s,[]⟩ a w->nK P b (aU O E z) a w):=by
 intro n z n' e' d' h jB oO
 unfold RT at h
 dsimp only at h
 generalize gi:p.tys.length=k at h
 generalize hg:oD k p.st s=g at h
 have lO:g.1.length=k:=by rw [<-hg];exact IV _ _ _
 split at h
 ·cases h
 rename_i r _ e d C8
 generalize hl:Iu fid n k e d r p.tys lh=l at h
 have l1:l.fid=fid:=by subst hl;rfl
 have l2:l.n=n:=by subst hl;rfl
 have l3:l.k=k:=by subst hl;rfl
 have l4:l.nodes=e:=by subst hl;rfl
 have l5:l.jr=uS d:=by subst hl;rfl
 have l6:l.c=r.c:=by subst hl;rfl
 have l7:l.nx=r.nx:=by subst hl;rfl
 have l8:l.outs=r.outs:=by subst hl;rfl
 have l9:l.ts=p.tys:=by subst hl;rfl
 clear hl
 split at h
 rotate_left
 ·cases h
 rename_i gz
 simp only [Bool.and_eq_true] at gz
 obtain ⟨⟨⟨⟨⟨⟨hsub,hkeep⟩,hn0⟩,tj⟩,hwf⟩,oZ⟩,UA⟩:=gz
 have oZ:=Nat.eq_of_beq_eq_true oZ
 have hn0:=Nat.le_of_ble_eq_true hn0
 -- what a round says, JU TF round
 have hrnd:∀ xs:List DV,xs.length=k->(∀ q∈l.jr,Nd.holds (l.env F O xs) q)->(∀ q∈tM d,jJ F q)->tB P (l.env F O xs) E b p (p.st.inst (eL n k)) r:=by
  intro xs hx ho Gi
  obtain ⟨_,_,hS⟩:=LR.mN (F:=F) (l:=l) O (xs:=xs) (by rw [l3];exact hx) (by rw [l2,l3,l4];exact hwf)
  refine zpG hn0 (dY (l.env F O xs) (p.st.inst (eL n k))) (n+k) r _ e d C8 (by rw [<-l4];exact hS) ?_
  have key:∀ (d:List Ob),(∀ q∈uS d,Nd.holds (l.env F O xs) q)->(∀ q∈tM d,jJ F q)->∀ q∈d,Ob.holds F (l.env F O xs) q:=by
   intro d
   induction d with
   | nil=>intro _ _ q hq;cases hq
   | cons o d ih =>
    intro h1 h2 q hq
    cases o with
    | nd o =>
     rcases List.mem_cons.1 hq with rfl | hq
     ·exact h1 o (by simp [uS])
     ·exact ih (fun q hq=>h1 q (by simp [uS,hq])) h2 q hq
    | lp o =>
     rcases List.mem_cons.1 hq with rfl | hq
     ·exact h2 o (by simp [tM])
     ·exact ih h1 (fun q hq=>h2 q (by simp [tM,hq])) q hq
  exact key d (by rw [<-l5];exact ho) Gi
 have JV:M.sat F O (Ch fid (p.at r.tS) g.1 d l r.ks) (fun x=>(∀ q∈tM d,jJ F q)/\jJ F l/\JT F O (p.at r.tS) l (l.inv.map A.r++g.1) r.ks x):=by
  unfold Ch
  refine ak (zoj (tM d)) fun _ h1=>ak zq0 fun _ h2=>?_
  rw [<-l1]
  exact cH zok fun x hx=>⟨h1,h2,hx⟩
 obtain ⟨UB,⟨μ,hμ⟩,hA⟩:=JV n z n' e' d' h jB oO
 intro U a w cF
 have jz:∀ xs:List DV,xs.length=k->(eL n k).map (A.den (l.env F O xs))=xs:=by
  intro xs hx
  obtain ⟨_,h2,_⟩:=LR.mN (F:=F) (l:=l) O (xs:=xs) (by rw [l3];exact hx) (by rw [l2,l3,l4];exact hwf)
  rw [IU (fun i=>xs.getD i default) k n 0 (fun i hi=>by rw [<-l2,h2 i (by rw [l3];exact hi)];simp)]
  exact zlb xs k hx
 have hold:∀ xs:List DV,xs.length=k->∀ i,i<n->l.env F O xs i=O i:=by
  intro xs hx
  obtain ⟨h1,_,_⟩:=LR.mN (F:=F) (l:=l) O (xs:=xs) (by rw [l3];exact hx) (by rw [l2,l3,l4];exact hwf)
  intro i hi;exact h1 i (by rw [l2];exact hi)
 -- the loop, from a OE head
 have main:∀ (m:Nat) (xs:List DV),xs.length=k->μ (l.inv.map O++xs)<m->((F l.fid (l.inv.map O++xs)).getD 0 default).aA=true ->
   F l.fid (l.inv.map O++xs)=F l.fid ((l.inv.map A.r++g.1).map (A.den O)) ->
   ∀ U a w,RR (l.env F O xs) E U ⟨p.st.inst (eL n k),[]⟩ a w->nK P b (aU O E z) a w:=by
  intro m
  induction m with
  | zero=>intro xs _ h;omega
  | succ m ih =>
   intro xs hx hm hpre hF U a w cF
   obtain ⟨g1,g2,g3⟩:=hμ O xs (by rw [l3];exact hx) hpre
   have hr:=hrnd xs hx g1 UB
   refine nK.step (wp_mono (hr.run U a w cF) fun e a' w' hp=>?_)
   obtain ⟨hk',U',hr'⟩:=hp
   cases hn:(r.x.de (l.env F O xs)).1.bq with
   | true =>
    have he:=K.oh hk' hn
    subst he
    have hc:l.c.bool (l.env F O xs)=true:=by rw [l6,hr.cond,hn]
    obtain ⟨h1,h2,h3⟩:=g2 hc
    have C9:(l.nx.map (A.den (l.env F O xs))).length=k:=by rw [l7];simpa using oZ
    obtain ⟨U2,me⟩:=hr.next hn U' a' w' hr'
    refine ih _ C9 (by omega) h1 (h2.trans hF) U2 a' w' ?_
    refine RR.inst (p:=A.below n) (fun x hO=>A.dN (n:=n) (fun i hi=>by rw [hold xs hx i hi,hold _ C9 i hi]) hO) (gb.mj (by rw [gi];exact oZ) ?_) tj me
    rw [jz _ C9,l7]
   | false =>
    have hne:=K.sj hk' hn
    have hc:l.c.bool (l.env F O xs)=false:=by rw [l6,hr.cond,hn]
    have Av:=g3 hc
    obtain ⟨i,as,h1,h2,h3⟩:=hr.out hn
    obtain ⟨os,ka,f4,f5⟩:=hA.out
    rw [hF] at Av
    have f6:=f5 _ (by simpa using Av.len) rfl
    rw [<-f6,l9,l8] at Av
    have h4:gb (l.env F O xs) O (.i::p.tys) r.outs (ka::os):=gb.sq Av
    have h5:=h3.trans h4
    have hka:ka.int O=(i:Int):=h5.1.symm
    have hsel:=f4 i _ h1 hka
    have hpost:aU O E z e a' w':=by
     unfold aU
     rw [hsel]
     obtain ⟨U2,me⟩:=h2 U' a' w' hr'
     exact ⟨hk',U2,RR.inst (p:=A.below n) (fun x hO=>A.dN (n:=n) (fun i hi=>hold xs hx i hi) hO) h5.2 (List.all_eq_true.1 UA _ (List.mem_of_getElem? h1)) me⟩
    cases e<;>first | exact absurd rfl hne | exact hpost
 have hx0:(g.1.map (A.den O)).length=k:=by simpa using lO
 have JW:(l.inv.map A.r++g.1).map (A.den O)=l.inv.map O++g.1.map (A.den O):=by
  rw [List.map_append,List.map_map]
  rfl
 obtain ⟨U2,me⟩:=Ux (O:=O) (E:=E) (p:=p) hsub hkeep hn0 U a w cF
 refine main (μ (l.inv.map O++g.1.map (A.den O))+1) (g.1.map (A.den O)) hx0 (by omega) (by rw [<-JW];exact hA.pre) (by rw [JW]) U2 a w ?_
 refine RR.inst (p:=A.below n) (fun x hO=>A.dN (n:=n) (fun i hi=>(hold _ hx0 i hi).symm) hO) (gb.mj (by rw [gi];exact lO) ?_) tj me
 rw [jz _ hx0]
theorem zom {O:Nat->DV} {ev:St->M X} {b:Code} {fid:Nat} {D:List Nat} {lh:LH} {s:St}
  (dY:∀ (O':Nat->DV) (s':St),M.sat F O' (ev s') (fun x=>∀ U a w,RR O' E U ⟨s',[]⟩ a w->b.wp P (aU O' E x) a w)) :
  M.sat F O (Nr E.n0 ev fid D lh s) (fun z=>∀ U a w,RR O E U ⟨s,[]⟩ a w->nK P b (aU O E z) a w):=by
 intro n z n' e' d' h jB oO
 unfold Nr at h
 exact zol dY n z n' e' d' h jB oO
theorem UC {O:Nat->DV} {ev:St->M X} {b:Code} {fid:Nat} {D:List Nat} {uR:List (Nat×List LT)} {s:St}
  (dY:∀ (O':Nat->DV) (s':St),M.sat F O' (ev s') (fun x=>∀ U a w,RR O' E U ⟨s',[]⟩ a w->b.wp P (aU O' E x) a w)) :
  M.sat F O (Iv E.n0 ev fid D uR s) (fun z=>∀ U a w,RR O E U ⟨s,[]⟩ a w->nK P b (aU O E z) a w):=by
 intro n z n' e' d' h jB oO
 unfold Iv at h
 exact zom dY n z n' e' d' h jB oO
theorem zlB {α:Type} {p:α->Bool} : ∀ {l:List (Option α)} {i:Nat} {v:α},l.all (dw p)=true->nth l i=some v->p v=true
 | [],i,v,_,h=>by cases i<;>cases h
 | x::r,0,v,h,hv=>by
  simp only [List.all_cons,Bool.and_eq_true] at h
  have:x=some v:=hv
  subst this
  exact h.1
 | x::r,i+1,v,h,hv=>by
  simp only [List.all_cons,Bool.and_eq_true] at h
  exact zlB h.2 hv
theorem zr1 {O:Nat->DV} {i:Nat} {ts:List LT} {s:St} : M.sat F O (RU i ts s) (fun s1=>∀ U a w,RR O E U ⟨s,[]⟩ a w->∃ U',RR O E U' ⟨s1,[]⟩ a w):=by
 unfold RU
 split
 ·rename_i l hl
  refine aY (fun hc=>?_) (fun _=>au fun U a w h=>⟨U,h⟩)
  simp only [Bool.and_eq_true] at hc
  refine ak (zdt fun w=>I6 (E:=E) (w:=w) _ _ _) fun q hq=>?_
  split
  ·rename_i l' hl'
   refine au fun U a w h=>?_
   have hn:=Tf hc.1.1
   obtain ⟨h1,h2,h3,h4,U',h5,h6,h7⟩:=hq w U h.hs hc.1.2 (by subst hn;rfl) (fun y hy=>by
    rcases List.mem_cons.1 hy with rfl | hy
    ·subst hn;trivial
    ·cases hy)
   rw [hl'] at h7 h3
   have h7:l'.aa O U'=l.aa O U:=by simpa using h7
   have hg:l'.good O:=h3 l' (by simp)
   refine ⟨U',⟨h.act.defers,by rw [h.act.size];exact (iL _ _ _).symm,fun t v hv=>?_,fun e he=>by cases he⟩,h6⟩
   by_cases ht:t=i
   ·subst ht
    have h8:=h.act.slot t _ hl
    have hv:nth (eg (some (V.s (.one l'))) s.sl t) t=some v:=hv
    rw [rO] at hv
    split at hv
    ·cases hv
     exact ⟨V1.ah.2 hg,by rw [h8.2];exact congrArg some h7.symm⟩
    ·cases hv
   ·have hv:nth (eg (some (V.s (.one l'))) s.sl i) t=some v:=hv
    rw [qi _ _ _ _ (fun hc=>ht hc.symm)] at hv
    have h8:=h.act.slot t _ hv
    have hlt:v.lt s.hp.length=true:=zlB hc.2 hv
    exact ⟨h8.1,by rw [h8.2,V.fQ hlt h5]⟩
  ·exact aE
 ·exact au fun U a w h=>⟨U,h⟩
theorem zjV {O:Nat->DV} : ∀ {h:List (Nat×List LT)} {s:St},M.sat F O (Iw h s) (fun s1=>∀ U a w,RR O E U ⟨s,[]⟩ a w->∃ U',RR O E U' ⟨s1,[]⟩ a w)
 | [],s=>au fun U a w h=>⟨U,h⟩
 | (i,ts)::r,s=>ak zr1 fun s1 h1=>cH (zjV (h:=r) (s:=s1)) fun s2 h2 U a w h=>by
  obtain ⟨U',h3⟩:=h1 U a w h
  exact h2 U' a w h3
theorem zon {O:Nat->DV} {ev:St->M X} {b:Code} {fid:Nat} {D:List Nat} {lh:Option LH} {s:St}
  (dY:∀ (O':Nat->DV) (s':St),M.sat F O' (ev s') (fun x=>∀ U a w,RR O' E U ⟨s',[]⟩ a w->b.wp P (aU O' E x) a w)) :
  M.sat F O (Ns E.n0 ev fid D lh s) (fun z=>∀ U a w,RR O E U ⟨s,[]⟩ a w->nK P b (aU O E z) a w):=by
 intro n z n' e' d' h jB oO
 have key:∀ {f:St->M X} (hs:List (Nat×List LT)),(∀ s1,M.sat F O (f s1) (fun z=>∀ U a w,RR O E U ⟨s1,[]⟩ a w->nK P b (aU O E z) a w)) ->
   M.sat F O (do let s1 <-Iw hs s;f s1) (fun z=>∀ U a w,RR O E U ⟨s,[]⟩ a w->nK P b (aU O E z) a w):=fun hs hf =>
  ak zjV fun s1 h1=>cH (hf s1) fun z hz U a w hr=>by
   obtain ⟨U',h3⟩:=h1 U a w hr
   exact hz U' a w h3
 unfold Ns at h
 split at h
 ·exact key _ (fun s1=>zom dY) n z n' e' d' h jB oO
 ·split at h
  ·exact JO (key _ fun s1=>UC dY) (UC dY) n z n' e' d' h jB oO
  ·exact UC dY n z n' e' d' h jB oO
theorem ztn {α:Type} {O:Nat->DV} {x:M α} {Q:α->Prop} (h:M.sat F O x Q):M.sat F O (M.opt x) (fun o=>∀ a,o=some a->Q a):=by
 intro n a n' e d h1 h2 h3
 unfold M.opt at h1
 cases hx:x n with
 | some r =>
  obtain ⟨b,n1,e1,d1⟩:=r
  rw [hx] at h1
  simp only [Option.some.injEq,Prod.mk.injEq] at h1
  obtain ⟨rfl,rfl,rfl,rfl⟩:=h1
  intro c hc
  cases hc
  exact h n b n1 e1 d1 hx h2 h3
 | none =>
  rw [hx] at h1
  simp only [Option.some.injEq,Prod.mk.injEq] at h1
  obtain ⟨rfl,_⟩:=h1
  intro c hc
  cases hc
theorem UD {ops:Array Oper} {Q Q':Exit->Act->World->Prop} (h:∀ e a w,Q e a w->Q' e a w):∀ (l:List Oper) (a:Act) (w:World),wpList P ops Q l a w->wpList P ops Q' l a w
 | [],a,w,hh=>h _ _ _ hh
 | o::l,a,w,hh=>by
  simp only [wpList] at hh ⊢
  split
  ·rename_i hw
   rw [if_pos hw] at hh
   exact N9 (UD h l) (fun e a w _=>h e a w) hh
  ·rename_i hw
   rw [if_neg hw] at hh
   exact UD h l _ _ hh
theorem zgP {r:RS} : ∀ {n d:Nat} {g:Nat×A},Is r n d=some g->nth r.st.sl g.1=some (.s (.one (.b g.2)))
 | 0,_,_,h=>by cases h
 | n+1,d,g,h=>by
  unfold Is at h
  split at h
  ·rename_i a ha
   cases h
   exact ha
  ·cases h
  ·split at h
   ·exact zgP h
   ·cases h
theorem zlC {O:Nat->DV} {U:Nat->Loc} {d:Nat} {b:Bool} {a:Act} (hd:a.tmps[d]? = some (.bool b)):∀ (gl:List GE) (sl:List (Option V)),
  (∀ e∈gl,(a.tmps[e.d]? = some (.bool e.want)->e.v.good O/\a.tmps[e.t]? = some (e.v.aa O U))/\(a.tmps[e.d]?≠some (.bool e.want)->a.tmps[e.t]? = some undef)) ->
  (∀ t v,nth sl t=some v->v.good O/\a.tmps[t]? = some (v.aa O U)) ->
  (FG d b gl sl).1.length=sl.length/\(∀ t v,nth (FG d b gl sl).1 t=some v->v.good O/\a.tmps[t]? = some (v.aa O U)) /\
  (∀ e∈(FG d b gl sl).2,(a.tmps[e.d]? = some (.bool e.want)->e.v.good O/\a.tmps[e.t]? = some (e.v.aa O U))/\(a.tmps[e.d]?≠some (.bool e.want)->a.tmps[e.t]? = some undef))
 | [],sl,_,h2=>⟨rfl,h2,fun e he=>by cases he⟩
 | e::l,sl,h1,h2=>by
  obtain ⟨k1,k2,k3⟩:=zlC hd l sl (fun x hx=>h1 x (List.mem_cons_of_mem _ hx)) h2
  unfold FG
  dsimp only
  split
  ·rename_i he
   have he:=Nat.eq_of_beq_eq_true he
   dsimp only
   refine ⟨?_,fun t v hv=>?_,k3⟩
   ·split
    ·rw [iL];exact k1
    ·exact k1
   ·split at hv
    ·rename_i hc
     by_cases ht:e.t=t
     ·subst ht
      rw [rO] at hv
      split at hv
      ·split at hv
       ·rename_i hw
        cases hv
        exact (h1 e (by simp)).1 (by rw [he,vV hw];exact hd)
       ·rename_i hw
        cases hv
        exact ⟨V.cg.2 (V1.ah.2 trivial),(h1 e (by simp)).2 (by rw [he,hd];intro hh;cases hh;exact R8 hw rfl)⟩
      ·cases hv
     ·rw [qi _ _ _ _ ht] at hv
      exact k2 t v hv
    ·exact k2 t v hv
  ·dsimp only
   refine ⟨k1,k2,fun x hx=>?_⟩
   rcases List.mem_cons.1 hx with rfl | hx
   ·exact h1 x (by simp)
   ·exact k3 x hx
theorem RR.qI {O:Nat->DV} {U:Nat->Loc} {r:RS} {a:Act} {w:World} {d:Nat} {c:A} {b:Bool} (h:RR O E U r a w) (hd:nth r.st.sl d=some (.s (.one (.b c)))) (hc:c.bool O=b):RR O E U (r.vU d b) a w:=by
 have h0:a.tmps[d]? = some (.bool b):=by
  rw [(h.act.slot d _ hd).2,<-hc]
  rfl
 have hk:=zlC (O:=O) (U:=U) h0 r.gl (eg (some (.s (.one (.b (.t b))))) r.st.sl d) h.act.gl (fun t v hv=>by
  by_cases ht:d=t
  ·subst ht
   rw [rO] at hv
   split at hv
   ·cases hv
    exact ⟨V.cg.2 (V1.ah.2 trivial),h0⟩
   ·cases hv
  ·rw [qi _ _ _ _ ht] at hv
   exact h.act.slot t v hv)
 refine ⟨⟨h.act.defers,?_,hk.2.1,hk.2.2⟩,h.hs⟩
 rw [h.act.size]
 exact (hk.1.trans (iL _ _ _)).symm
theorem OF (hS:bg P I gK S F) (hE:E.Ok gK) (hn0:S.n0=E.n0) (hI:∀ w,Fr E.W E.w0 w->I w) {O:Nat->DV} {ops:Array Oper} : ∀ (n:Nat) (l:List Oper) (r:RS),
  M.sat F O (FH P S ops.toList n l r) (fun x=>∀ U a w,RR O E U r a w->wpList P ops (aU O E x) l a w)
 | 0,_,_=>aE
 | _+1,[],r=>au fun U a w h=>⟨trivial,U,h.drop⟩
 | n+1,o::l,r=>by
  unfold FH
  refine ak (ztn (F9 (E:=E) hS hE hn0 hI false)) fun z hz=>?_
  cases z with
  | some r1 =>
   refine cH (OF hS hE hn0 hI n l r1) fun x hx U a w h=>?_
   have:=(hz r1 rfl).1 rfl U a w h (wpList P ops (aU O E x) l) (aU O E x) (fun U' a' w' h'=>hx U' a' w' h')
   simp only [wpList]
   split
   ·rename_i hw;rw [if_pos hw] at this;exact .inl this
   ·rename_i hw;rw [if_neg hw] at this;exact this
  | none =>
   dsimp only
   split
   ·exact aE
   ·refine ak gU fun d _=>ak (lg (Q:=fun g=>Is r 8 d=some g) fun a h=>h) fun g hg=>aY (fun _=>aE) (fun _=>?_)
    have hs:=zgP hg
    refine ak (uY (OF hS hE hn0 hI n (o::l) (r.vU g.1 true))) fun x hx=>ak (uY (OF hS hE hn0 hI n (o::l) (r.vU g.1 false))) fun y hy=>au fun U a w h=>?_
    have hmono:∀ {z:X},(∀ e a w,aU O E z e a w->aU O E (.br g.2 x y) e a w)->wpList P ops (aU O E z) (o::l) a w->wpList P ops (aU O E (.br g.2 x y)) (o::l) a w:=fun hz hh=>UD hz _ _ _ hh
    cases hb:g.2.bool O with
    | true=>exact hmono (fun e a w hp=>by unfold aU at hp ⊢;simp only [X.de,hb,if_true];exact hp) (hx hb U a w (h.qI hs hb))
    | false=>exact hmono (fun e a w hp=>by unfold aU at hp ⊢;simp only [X.de,hb,Bool.false_eq_true,if_false];exact hp) (hy hb U a w (h.qI hs hb))
theorem UE {O:Nat->DV} : ∀ (l:List (Option V)),M.sat F O (FI l) (fun r=>r.length=l.length/\∀ i v,nth r i=some v->∃ u,nth l i=some u/\(V.good O u->V.good O v)/\∀ U,v.aa O U=u.aa O U)
 | []=>au ⟨rfl,fun i v h=>⟨v,h,id,fun _=>rfl⟩⟩
 | some v::l=>by
  unfold FI
  refine ak zlg fun u hu=>ak (UE l) fun r hr=>au ⟨by simp [hr.1],fun i x hx=>?_⟩
  cases i with
  | zero=>cases hx;exact ⟨v,rfl,hu.1,hu.2⟩
  | succ i=>exact hr.2 i x hx
 | none::l=>by
  unfold FI
  refine ak (UE l) fun r hr=>au ⟨by simp [hr.1],fun i x hx=>?_⟩
  cases i with
  | zero=>cases hx
  | succ i=>exact hr.2 i x hx
theorem OG {O:Nat->DV} : ∀ (l:List Nat) (hp:List (Option ag)),M.sat F O (FJ l hp) (fun hp'=>∀ U w,HS E O U hp w->HS E O U hp' w)
 | [],hp=>au fun _ _ h=>h
 | b::l,hp=>by
  unfold FJ
  split
  ·exact aY (fun _=>ak (zjx (E:=E)) fun c6 h1=>cH (OG l c6) fun jn h2 U w h=>h2 U w (h1.2 U w h)) (fun _=>OG l hp)
  ·exact OG l hp
theorem zoo {O:Nat->DV} {s:St} : M.sat F O (RX s) (fun s1=>∀ U a w,RR O E U ⟨s,[]⟩ a w->RR O E U ⟨s1,[]⟩ a w):=by
 unfold RX
 refine aY (fun _=>?_) (fun _=>aE)
 refine ak (UE _) fun sl uo=>ak (OG (E:=E) _ _) fun hp wz=>au fun U a w h=>⟨⟨h.act.defers,by rw [h.act.size];exact uo.1.symm,fun t v ht=>?_,fun e he=>by cases he⟩,wz U w h.hs⟩
 obtain ⟨u,h1,h2,h3⟩:=uo.2 t v ht
 obtain ⟨g1,g2⟩:=h.act.slot t u h1
 exact ⟨h2 g1,by rw [h3];exact g2⟩
theorem zto {O:Nat->DV} {ev:St->M X} {b:Code} {fid:Nat} {D:List Nat} {lh:Option LH} {s:St}
  (dY:∀ (O':Nat->DV) (s':St),M.sat F O' (ev s') (fun x=>∀ U a w,RR O' E U ⟨s',[]⟩ a w->b.wp P (aU O' E x) a w)) :
  M.sat F O (RY E.n0 ev fid D lh s) (fun z=>∀ U a w,RR O E U ⟨s,[]⟩ a w->nK P b (aU O E z) a w):=by
 unfold RY
 exact JO (zon dY) (ak (zoo (E:=E)) fun s1 h1=>cH (zon dY) fun z hz U a w h=>hz U a w (h1 U a w h))
end
end Go.Sx
namespace Go.Sx
open Go.RowKit
section
variable {P:Program} {I:World->Prop} {S:bN} {F:aC} {E:Env} {gK:Nat}
def JX (P:Program) (O:Nat->DV) (E:Env) (c:Code) (s:St) (x:X):Prop :=
 ∀ U a w,RR O E U ⟨s,[]⟩ a w->c.wp P (aU O E x) a w/\∀ b,c = .loop b->nK P b (aU O E x) a w
theorem JX.plain {O:Nat->DV} {c:Code} {s:St} {x:X} (hc:∀ b,c≠.loop b) (h:∀ U a w,RR O E U ⟨s,[]⟩ a w->c.wp P (aU O E x) a w):JX P O E c s x :=
 fun U a w hr=>⟨h U a w hr,fun b hb=>absurd hb (hc b)⟩
theorem OH (hS:bg P I gK S F) (hE:E.Ok gK) (hn0:S.n0=E.n0) (hI:∀ w,Fr E.W E.w0 w->I w):∀ (n:Nat) (O:Nat->DV) (c:Code) (s:St),M.sat F O (oH P S n c s) (JX P O E c s)
 | 0,_,_,_=>aE
 | n+1,O,c,s=>by
  have b8:∀ (hS:bg P I gK S F) (n':Nat) (hn:n'=n) (c:Code) (s:St),M.sat F O (oH P S n' c s) (fun x=>∀ U a w,RR O E U ⟨s,[]⟩ a w->c.wp P (aU O E x) a w) :=
   fun hS n' hn c s=>by subst hn;exact cH (OH hS hE hn0 hI n' O c s) fun x hx U a w h=>(hx U a w h).1
  have plain:∀ {x:M X} {Q:X->Prop},(∀ b,c≠.loop b)->M.sat F O x (fun z=>∀ U a w,RR O E U ⟨s,[]⟩ a w->c.wp P (aU O E z) a w)->M.sat F O x (JX P O E c s) :=
   fun hc h=>cH h fun z hz=>JX.plain hc hz
  cases c<;>simp only [oH,hn0]
  case loop c =>
   refine ak (b8 hS n rfl c s) fun u hu=>?_
   refine cH (Uq (_G:=fun _=>True) (N:=fun Q a w=>nK P c Q a w) (fun s'=>cH (OH hS hE hn0 hI n O (.loop c) s') fun x hx U a w h=>(hx U a w h).2 c rfl) (fun Q Q' a w h hw=>nK.mono h hw)) fun z hz U a w h=>?_
   have:=nK.step (wp_mono (hu U a w h) hz)
   exact ⟨this.wp,fun b hb=>by cases hb;exact this⟩
  all_goals refine plain (Q:=fun _=>True) (fun b=>by simp) ?_
  case skip=>exact au fun U a w h=>wp_skip ⟨trivial,U,h⟩
  case label l=>exact au fun U a w h=>wp_label ⟨trivial,U,h⟩
  case region id ops draw =>
   refine ak (ztn (zoi (E:=E) (id:=id) hS hE hn0 hI)) fun z hz=>?_
   cases z with
   | some s'=>exact au fun U a w h=>hz s' rfl U a w h _ fun U' a' w' h'=>⟨trivial,U',h'⟩
   | none =>
    refine aY (fun _=>aE) (fun hd=>?_)
    have hd:draw=false:=by simpa using hd
    subst hd
    exact cH (OF (E:=E) hS hE hn0 hI (ops:=ops) _ ops.toList ⟨s,[]⟩) fun x hx U a w h=>wp_region_list (hx U a w h)
  case seq x y =>
   refine ak (b8 hS n rfl x s) fun u hu=>?_
   refine cH (Uq (_G:=fun _=>True) (N:=fun Q a w=>y.wp P Q a w) (fun s'=>b8 hS n rfl y s') (fun Q Q' a w h hw=>wp_mono hw h)) fun z hz U a w h=>?_
   exact wp_seq (wp_mono (hu U a w h) hz)
  case cond c x y =>
   refine bh fun v hv=>?_
   split
   ·rename_i b
    have hread:∀ U a w,RR O E U ⟨s,[]⟩ a w->a.eval c = .bool (b.bool O):=fun U a w h=>(dA h.act (fun p hp=>by simp at hp) hv).2
    split
    ·exact cH (b8 hS n rfl x s) fun u hu U a w h=>wp_cond_true (hread U a w h) (hu U a w h)
    ·exact cH (b8 hS n rfl y s) fun u hu U a w h=>wp_cond_false (hread U a w h) (hu U a w h)
    ·refine aY (fun _=>?_) (fun _=>aY (fun _=>?_) (fun _=>?_))
     ·refine ak IA fun q hq=>ak (n6 (Q:=fun _=>b.bool O=false) fun h=>by rw [hq] at h;simpa using h) fun _ hb=>?_
      exact cH (b8 hS n rfl y s) fun u hu U a w h=>wp_cond_false (by rw [hread U a w h,hb]) (hu U a w h)
     ·refine ak (n6 (Q:=fun _=>b.bool O=true) fun h=>h) fun _ hb=>?_
      exact cH (b8 hS n rfl x s) fun u hu U a w h=>wp_cond_true (by rw [hread U a w h,hb]) (hu U a w h)
     refine ak (uY (b8 hS n rfl x s)) fun u hu=>ak (uY (b8 hS n rfl y s)) fun v hv=>au fun U a w h=>?_
     refine wp_cond_split (hread U a w h) (fun hb=>wp_mono (hu hb U a w h) fun e a w hp=>?_) (fun hb=>wp_mono (hv hb U a w h) fun e a w hp=>?_)
     ·unfold aU at hp ⊢
      simp only [X.de,hb,if_true];exact hp
     ·unfold aU at hp ⊢
      simp only [X.de,hb];exact hp
   ·exact aE
  case block id c =>
   have mA:∀ {x:M X},M.sat F O x (fun u=>∀ U a w,RR O E U ⟨s,[]⟩ a w->c.wp P (aU O E u) a w) ->
     M.sat F O (do pure ((<-x).inBlock id):M X) (fun z=>∀ U a w,RR O E U ⟨s,[]⟩ a w->(Code.block id c).wp P (aU O E z) a w):=by
    intro x hx
    refine ak hx fun u hu=>au fun U a w h=>wp_block (wp_mono (hu U a w h) fun e a w hp=>?_)
    obtain ⟨hk,U',hr⟩:=hp
    have hpost:∀ e',((u.de O).1.inBlock id).is e'->aU O E (u.inBlock id) e' a w:=fun e' he'=>by
     unfold aU
     rw [Ur]
     exact ⟨he',U',hr⟩
    generalize hkk:(u.de O).1=k at *
    cases k<;>cases e<;>simp only [K.is] at hk<;>first | exact hk.elim | skip
    ·exact hpost .normal trivial
    ·exact hpost .ret trivial
    ·rename_i i j
     subst hk
     simp only [Exit.inBlock]
     by_cases hij:i=id
     ·rw [if_pos hij];exact hpost .normal (by subst hij;simp [K.inBlock,K.is])
     ·rw [if_neg hij];exact hpost (.exit i) (by simp [K.inBlock,K.is,hij])
    ·subst hk;exact hpost _ rfl
   split
   ·split
    ·rename_i fid _ b
     refine mA (cH (zto (E:=E) (b:=b) fun O' s'=>cH (OH hS hE hn0 hI n O' b s') fun x hx U a w h=>(hx U a w h).1) fun z hz U a w h=>(hz U a w h).wp)
    ·exact mA (b8 hS n rfl c s)
   ·exact mA (b8 hS n rfl c s)
  case exit id=>exact au fun U a w h=>wp_exit ⟨rfl,U,h⟩
  case goto l=>exact au fun U a w h=>wp_goto ⟨rfl,U,h⟩
  case scope c =>
   refine ak (b8 hS n rfl c s) fun u hu=>aY (fun hg=>au fun U a w h=>wp_scope_straight (wp_mono (hu U a w h) fun e a w hp=>?_))
    (fun _=>cH (zjR (E:=E) (fun c s=>b8 hS n rfl c s) c 16 u) fun z hz U a w h=>Gh.wp (.of_wp (wp_mono (hu U a w h) hz)))
   cases e<;>first | exact hp | skip
   rename_i l
   have:=hp.1
   have Uu:=OC (O:=O) u hg l
   generalize (u.de O).1=k at *
   cases k<;>simp only [K.is] at this
   subst this
   exact absurd rfl Uu
  case ret=>exact au fun U a w h=>wp_ret ⟨trivial,U,h⟩
  all_goals exact aE
end
end Go.Sx
namespace Go.Sx
open Go.RowKit
section
variable {P:Program} {I:World->Prop} {S:bN} {F:aC} {E:Env} {gK:Nat} {O:Nat->DV}
def JY:List Value->Value
 | [v]=>v
 | l=>.tuple l.toArray
theorem zel (l:List V1) (U:Nat->Loc):(Mz l).aa O U=JY (l.map (V1.aa O U))/\((∀ x∈l,V1.good O x)->(Mz l).good O):=by
 unfold Mz JY
 match l with
 | []=>exact ⟨rfl,fun _=>by simp [V.good]⟩
 | [v]=>exact ⟨rfl,fun h=>h v (by simp)⟩
 | v::u::r=>exact ⟨rfl,fun h=>h⟩
def qJ (tmps:Array Value):ResultVar->Sem Value
 | .tmp t=>pure (tmps.getD t undef)
 | .cell p t=>do loadVar t (<-asAddr (tmps.getD p undef))
theorem zoq (fn:Func) (tmps:Array Value):results fn tmps=(do let vs <-fn.results.mapM (qJ tmps);pure (if h:vs.size=1 then vs[0] else .tuple vs)):=by
 unfold results
 congr 2
theorem UF {s:St} : ∀ (l:List ResultVar),M.sat F O (FK P s l) (fun vs=>∀ U a w,aJ O U ⟨s,[]⟩ a->eT E O U s.hp w ->
  (∀ v∈vs,V1.good O v)/\(l.mapM (qJ a.tmps)).run P w = .ok (vs.map (V1.aa O U)) w)
 | []=>au fun U a w _ _=>⟨by simp,rfl⟩
 | .tmp t::l=>by
  unfold FK
  refine bh fun v hv=>?_
  split
  ·rename_i v1
   refine ak (UF l) fun vs hvs=>au fun U a w ha hh=>?_
   obtain ⟨h1,h2⟩:=hvs U a w ha hh
   obtain ⟨g1,g2⟩:=ha.slot t _ hv
   refine ⟨fun x hx=>?_,?_⟩
   ·rcases List.mem_cons.1 hx with rfl | hx
    ·exact g1
    ·exact h1 x hx
   ·have e:a.tmps.getD t undef=v1.aa O U:=by simp [g2,V.aa]
    rw [List.mapM_cons]
    simp only [Sem.run_bind,qJ,Sem.run_pure,Result.andThen_ok,e,h2,List.map_cons]
  ·exact aE
 | .cell t ty::l=>by
  unfold FK
  refine bh fun v hv=>?_
  split
  ·rename_i b off
   refine bh fun k hk=>?_
   refine bh fun sz hs=>?_
   refine bh fun bk cY=>?_
   split
   ·rename_i o cs
    by_cases hg:off.good O
    ·refine ak (Sp (own:=o) hk hs hg) fun u hu=>ak (UF l) fun vs hvs=>au fun U a w ha hh=>?_
     obtain ⟨h1,h2⟩:=hvs U a w ha hh
     obtain ⟨g1,g2⟩:=ha.slot t _ hv
     obtain ⟨u1,u2⟩:=hu U w (U b) (hh.aj b _ cY)
     refine ⟨fun x hx=>?_,?_⟩
     ·rcases List.mem_cons.1 hx with rfl | hx
      ·exact u1
      ·exact h1 x hx
     ·have e:a.tmps.getD t undef = .pointer (some ⟨(U b).aj,(U b).off+off.val O,none⟩):=by simp [g2,V.aa,V1.aa,Lf.aa]
      have er:(qJ a.tmps (.cell t ty)).run P w = .ok (u.aa O U) w:=by
       simp only [qJ,Sem.run_bind,e,asAddr,Sem.run_pure,Result.andThen_ok,u2]
      rw [List.mapM_cons]
      simp only [Sem.run_bind,er,Sem.run_pure,Result.andThen_ok,h2,List.map_cons]
    ·refine ak gU fun u _=>ak gU fun vs _=>au fun U a w ha hh=>?_
     exact absurd ((ha.slot t _ hv).1 (.p b off) (by simp [V1.cells])) hg
   ·exact aE
  ·exact aE
theorem zr2 {fn:Func} {tmps:Array Value} {w:World} {vals:List Value}
  (h:(fn.results.toList.mapM (qJ tmps)).run P w = .ok vals w) :
  (results fn tmps).run P w = .ok (JY vals) w:=by
 have hm:∀ (f:ResultVar->Sem Value),(fn.results.mapM f).run P w=((fn.results.toList.mapM f).run P w).andThen fun l w'=>.ok l.toArray w':=by
  intro f
  rw [Array.mapM_eq_mapM_toList]
  simp
 rw [zoq,Sem.run_bind,hm,h]
 simp only [Result.andThen_ok,Sem.run_pure]
 match vals with
 | []=>rfl
 | [v]=>rfl
 | v::u::r=>rfl
theorem UG {rs:List ResultVar} {keep:Bool} (gi:keep=false->E.n0=0):∀ (x:X),M.sat F O (x.res P rs keep) (fun y=>(x.de O).1.ends=true/\(y.de O).1.bq=true/\∀ U a w,RR O E U ⟨(x.de O).2,[]⟩ a w ->
  ∃ v vals,(rs.mapM (qJ a.tmps)).run P w = .ok vals w/\JY vals=v/\RR O E U ⟨(y.de O).2,[]⟩ (F4 v) w)
 | .done k s=>by
  unfold X.res
  refine aY (fun hk=>?_) (fun _=>aE)
  refine ak (UF (E:=E) rs) fun vs hvs=>au ⟨hk,rfl,fun U a w h=>?_⟩
  obtain ⟨h1,h2⟩:=hvs U a w h.act h.hs.heap
  refine ⟨_,_,h2,rfl,⟨rfl,rfl,fun t v ht=>?_,fun e he=>by cases he⟩,?_⟩
  ·cases t with
   | zero =>
    cases ht
    exact ⟨(zel vs U).2 h1,by rw [(zel vs U).1];rfl⟩
   | succ t=>cases t<;>cases ht
  ·simp only [X.de]
   cases keep with
   | true=>exact h.hs
   | false =>
    have hno:∀ j bk,nth ([]:List (Option ag)) j=some bk->False:=fun j bk hj=>by cases j<;>cases hj
    exact ⟨⟨fun j bk hj=>(hno j bk hj).elim,fun j j' bk aS hj=>(hno j bk hj).elim⟩,fun j bk hj=>(hno j bk hj).elim,h.hs.fr,by rw [gi rfl];exact Nat.zero_le _,fun j hj=>by rw [gi rfl] at hj;omega⟩
 | .br c x y=>by
  unfold X.res
  refine ak (uY (UG gi x)) fun u hu=>ak (uY (UG gi y)) fun v hv=>au ?_
  simp only [X.de]
  by_cases hc:c.bool O=true
  ·simp only [hc,if_true]
   exact hu hc
  ·simp only [hc]
   exact hv (by simpa using hc)
def ow (path:List (Bool×Bool)) (a:Bool):Bool:=!(path.all fun c=>c.1==c.2)||a
def zA (O:Nat->DV) (l:List Nd):Bool:=(l.map fun q=>ow (q.path.map fun c=>(c.1.bool O,c.2)) (q.a.bool O)).all id
theorem zjX {l:List Nd} (h:zA O l=true):∀ q∈l,Nd.holds O q:=by
 intro q hq hp
 have:=List.all_eq_true.1 h _ (List.mem_map.2 ⟨q,hq,rfl⟩)
 simp only [ow,id,Bool.or_eq_true,Bool.not_eq_true',List.all_map] at this
 rcases this with h' | h'
 ·have:(q.path.all ((fun c:Bool×Bool=>c.1==c.2)∘fun c=>(c.1.bool O,c.2)))=true:=List.all_eq_true.2 fun c hc=>by simp [hp c hc]
  rw [this] at h';cases h'
 ·exact h'
theorem zgS {α:Type} (n i:Nat):nth (List.replicate n (none:Option α)) i=none:=by
 induction n generalizing i with
 | zero=>cases i<;>rfl
 | succ n ih=>cases i with
  | zero=>rfl
  | succ i=>exact ih i
def OI (I:World->Prop) (gK:Nat):Prop:=∀ w w',w.heap.size<=w'.heap.size->(∀ b,b<gK->w'.heap[b]? = w.heap[b]?)->I w->I w'
def wP (F:aC) (sg:aW) (out:Out) (ds:List DV):Nat->DV :=
 look (fun _=>default) 0 (k_ F (fun _=>default) 0 out.nodes ds.reverse sg.fE) (sg.fE+out.nodes.length)
theorem UH {F:aC} {O:Nat->DV} : ∀ (d:List Ob),(∀ q∈uS d,Nd.holds O q)->(∀ q∈tM d,jJ F q)->∀ q∈d,Ob.holds F O q
 | [],_,_,q,hq=>by cases hq
 | .nd o::d,h1,h2,q,hq=>by
  rcases List.mem_cons.1 hq with rfl | hq
  ·exact h1 o (by simp [uS])
  ·exact UH d (fun q hq=>h1 q (by simp [uS,hq])) h2 q hq
 | .lp o::d,h1,h2,q,hq=>by
  rcases List.mem_cons.1 hq with rfl | hq
  ·exact h2 o (by simp [tM])
  ·exact UH d h1 (fun q hq=>h2 q (by simp [tM,hq])) q hq
theorem zjZ {hin:List (Option ag)} {m:List Nat} : ∀ {l:List (Option ag)} {j:Nat},Iy hin m j l=true->∀ i,i<l.length->stays hin (j+i)=true->bz m (j+i)=j+i
 | [],_,_,i,hi,_=>by simp at hi
 | _::l,j,h,0,_,hs=>by
  simp only [Iy,Bool.and_eq_true,Bool.or_eq_true,Bool.not_eq_true'] at h
  rw [Nat.add_zero] at hs ⊢
  rcases h.1 with h1 | h1
  ·rw [hs] at h1;cases h1
  ·exact Nat.eq_of_beq_eq_true h1
 | _::l,j,h,i+1,hi,hs=>by
  simp only [Iy,Bool.and_eq_true] at h
  have:=zjZ h.2 i (by simpa using hi) (by rwa [show j+1+i=j+(i+1) from by omega])
  rwa [show j+1+i=j+(i+1) from by omega] at this
theorem zr3 {ks:List Nat} {s0:St} : M.sat F O (Ra ks s0) (fun s1=>∀ U a w,RR O E U ⟨s0,[]⟩ a w->∃ U',RR O E U' ⟨s1,[]⟩ a w):=by
 unfold Ra
 refine aY (fun _=>au fun U a w h=>⟨U,h⟩) (fun _=>aY (fun hlt=>?_) (fun _=>aE))
 refine ak (zjw (E:=E)) fun c6 h1=>au fun U a w h=>?_
 obtain ⟨U',e1,e2⟩:=h1.2 U w h.hs
 exact ⟨U',h.act.ext e1 hlt (by simp) c6,e2⟩
theorem zpI {n:Nat} {pat z:St} : M.sat F O (Rb n pat z) (fun z1=>∀ U a w,RR O E U ⟨z,[]⟩ a w->RR O E U ⟨z1,[]⟩ a w):=by
 unfold Rb
 refine aY (fun _=>?_) (fun _=>au fun _ _ _ h=>h)
 exact ak (um (E:=E) _ _ _) fun c6 h1=>au fun U a w h=>⟨⟨h.act.defers,h.act.size,h.act.slot,h.act.gl⟩,h1.2 U w h.hs⟩
theorem zr4 {w:World} {pat:List (Option ag)} {p v:Lf} {hp:List (Option ag)} : M.sat F O (RZ pat p v hp) (fun q=>hp.length<=q.2.length/\∀ U,HS E O U hp w->v.good O ->
  q.1.good O/\∃ U':Nat->Loc,(∀ j,j<hp.length->U' j=U j)/\HS E O U' q.2 w/\q.1.aa O U'=v.aa O U):=by
 have keep:M.sat F O (pure (v,hp):M (Lf×List (Option ag))) (fun q=>hp.length<=q.2.length/\∀ U,HS E O U hp w->v.good O ->
   q.1.good O/\∃ U':Nat->Loc,(∀ j,j<hp.length->U' j=U j)/\HS E O U' q.2 w/\q.1.aa O U'=v.aa O U) :=
  au ⟨Nat.le_refl _,fun U h hg=>⟨hg,U,fun _ _=>rfl,h,rfl⟩⟩
 unfold RZ
 split
 ·split
  ·rename_i ko _ _
   split
   ·rename_i b
    refine ak (R:=fun c6=>c6.length=hp.length/\∀ U w,HS E O U hp w->HS E O U c6 w) ?_ fun c6 h1=>ak (zs7 (E:=E)) fun jn h2=>au ⟨by show _<=jn.length;omega,fun U h _=>⟨?_,U,fun _ _=>rfl,h2.2 U w (h1.2 U w h),?_⟩⟩
    ·split
     ·exact zjv
     ·exact au ⟨rfl,fun _ _ h=>h⟩
    ·exact ⟨by simp [A.int,A.den],by simp [A.int,A.den,eI]⟩
    ·simp [Lf.aa,nX,eI,A.int,A.den,Alt.aa,bV.val]
   ·refine aY (fun hk=>?_) (fun _=>aE)
    simp only [Bool.and_eq_true] at hk
    obtain ⟨hk,hlt⟩:=hk
    refine ak (cz (Q:=fun q=>q.cells O=[.b false,.l []]) fun q h=>A.aK h) fun q hq=>au ⟨by simp,fun U h _=>⟨?_,?_⟩⟩
    ·exact ⟨by simp [A.int,A.den],by simp [A.int,A.den,eI]⟩
    ·have hw1:=h.rT (w':=w) (bk:=.obj true ko q) (r:=⟨0,0,true,0,0,none⟩) hlt (Below.refl _ w)
      (⟨fun e=>(by rw [hk] at e;cases e),fun _=>⟨by rw [hq];rfl,fun e=>(by cases e)⟩⟩:fW true ko w ⟨0,0,true,0,0,none⟩ (q.cells O)) (.inl rfl)
     exact ⟨_,fun j hj=>nD hj,hw1,by simp [Lf.aa,nX,eI,A.int,A.den,Alt.aa]⟩
   ·exact keep
  ·exact keep
 ·exact keep
theorem zj0 {w:World} {pat:List (Option ag)} : ∀ (ps vs:List Lf) (hp:List (Option ag)),M.sat F O (Nt pat ps vs hp) (fun q=>∀ U,HS E O U hp w->vs.all (Lf.lt hp.length)=true->(∀ x∈vs,x.good O) ->
  (∀ x∈q.1,x.good O)/\∃ U':Nat->Loc,(∀ j,j<hp.length->U' j=U j)/\HS E O U' q.2 w/\q.1.map (Lf.aa O U')=vs.map (Lf.aa O U))
 | [],vs,hp=>au fun U h _ hg=>⟨hg,U,fun _ _=>rfl,h,rfl⟩
 | _::_,[],hp=>au fun U h _ hg=>⟨hg,U,fun _ _=>rfl,h,rfl⟩
 | p::ps,v::vs,hp=>by
  unfold Nt
  refine ak (zr4 (E:=E) (w:=w)) fun x hx=>aY (fun hlt=>?_) (fun _=>aE)
  refine ak (zj0 (w:=w) ps vs x.2) fun r hr=>au fun U h hl hg=>?_
  simp only [List.all_cons,Bool.and_eq_true] at hl
  obtain ⟨g1,U1,a1,a2,a3⟩:=hx.2 U h (hg v (List.mem_cons_self ..))
  obtain ⟨g2,U2,b1,b2,b3⟩:=hr U1 a2 (List.all_eq_true.2 fun y hy=>Lf.dV hx.1 (List.all_eq_true.1 hl.2 y hy)) (fun y hy=>hg y (List.mem_cons_of_mem _ hy))
  refine ⟨fun y hy=>?_,U2,fun j hj=>(b1 j (by omega)).trans (a1 j hj),b2,?_⟩
  ·rcases List.mem_cons.1 hy with rfl | hy
   ·exact g1
   ·exact g2 y hy
  ·simp only [List.map_cons,b3]
   rw [Lf.iQ b1 hlt,a3]
   congr 1
   exact List.map_congr_left fun y hy=>Lf.iQ a1 (List.all_eq_true.1 hl.2 y hy)
theorem zj1 {U U':Nat->Loc} : ∀ {vs:List V1} {l:List Lf} {us:List V1},Ar vs l=some us->l.map (Lf.aa O U')=(vs.flatMap V1.cells).map (Lf.aa O U)->(∀ x∈l,x.good O) ->
  us.map (V1.aa O U')=vs.map (V1.aa O U)/\∀ u∈us,V1.good O u:=by
 intro vs
 induction vs with
 | nil =>
  intro l us h _ _
  cases l with
  | nil=>cases h;exact ⟨rfl,fun u hu=>(by cases hu)⟩
  | cons x l=>cases h
 | cons v r ih =>
  intro l us h hc hg
  cases v with
  | one y =>
   cases l with
   | nil=>cases h
   | cons x l =>
    simp only [Ar,Option.map_eq_some_iff] at h
    obtain ⟨us',h1,rfl⟩:=h
    simp only [List.flatMap_cons,V1.cells,List.cons_append,List.nil_append,List.map_cons,List.cons.injEq] at hc
    obtain ⟨e1,e2⟩:=ih h1 hc.2 (fun z hz=>hg z (List.mem_cons_of_mem _ hz))
    refine ⟨?_,fun u hu=>?_⟩
    ·simp only [List.map_cons,e1]
     congr 1
     exact hc.1
    ·rcases List.mem_cons.1 hu with rfl | hu
     ·exact V1.ah.2 (hg x (List.mem_cons_self ..))
     ·exact e2 u hu
  | agg ys =>
   have hr:Ar (.agg ys::r) l=if Nat.ble ys.length l.length then (Ar r (l.drop ys.length)).map (.agg (l.take ys.length)::·) else none:=by
    cases l<;>rfl
   rw [hr] at h
   split at h
   ·rename_i hle
    have hle:=Nat.le_of_ble_eq_true hle
    simp only [Option.map_eq_some_iff] at h
    obtain ⟨us',h1,rfl⟩:=h
    simp only [List.flatMap_cons,V1.cells,List.map_append] at hc
    rw [<-List.take_append_drop ys.length l,List.map_append] at hc
    obtain ⟨c1,c2⟩:=List.append_inj hc (by simp only [List.length_map,List.length_take];omega)
    obtain ⟨e1,e2⟩:=ih h1 c2 (fun z hz=>hg z (List.mem_of_mem_drop hz))
    refine ⟨?_,fun u hu=>?_⟩
    ·simp only [List.map_cons,e1]
     congr 1
     simp only [V1.aa,c1]
    ·rcases List.mem_cons.1 hu with rfl | hu
     ·exact V1.aP.2 fun z hz=>hg z (List.mem_of_mem_take hz)
     ·exact e2 u hu
   ·cases h
theorem zr5 {pat z:St} : M.sat F O (R2 pat z) (fun z1=>∀ U a w,RR O E U ⟨z,[]⟩ a w->∃ U',RR O E U' ⟨z1,[]⟩ a w):=by
 have keep:M.sat F O (pure z:M St) (fun z1=>∀ U a w,RR O E U ⟨z,[]⟩ a w->∃ U',RR O E U' ⟨z1,[]⟩ a w):=au fun U a w h=>⟨U,h⟩
 unfold R2
 split
 ·rename_i p v hp hv
  refine aY (fun _=>aY (fun hlt=>?_) (fun _=>aE)) (fun _=>keep)
  refine ak (zdt fun w=>zj0 (E:=E) (w:=w) _ _ _) fun q hq=>?_
  split
  ·rename_i u hu
   refine au fun U a w h=>?_
   have hs0:=h.act.slot 0 v (by show nth z.sl 0=some v;rw [hv];rfl)
   have hsz:a.tmps.size=1:=by have:=h.act.size;simp only at this;rw [hv] at this;simpa using this
   have hall:v.kA.all (Lf.lt z.hp.length)=true:=by
    cases v with
    | s v=>exact hlt
    | t l =>
     exact List.all_eq_true.2 fun x hx=>by
      obtain ⟨y,h1,h2⟩:=List.mem_flatMap.1 hx
      exact List.all_eq_true.1 (List.all_eq_true.1 hlt y h1) x h2
   have fR:∀ x∈v.kA,x.good O:=by
    cases v with
    | s v=>exact fun x hx=>hs0.1 x hx
    | t l =>
     exact fun x hx=>by
      obtain ⟨y,h1,h2⟩:=List.mem_flatMap.1 hx
      exact hs0.1 y h1 x h2
   obtain ⟨g1,U',b1,b2,b3⟩:=hq w U h.hs hall fR
   have huv:u.good O/\u.aa O U'=v.aa O U:=by
    cases v with
    | s v =>
     simp only [R1] at hu
     split at hu
     ·rename_i u1 UI
      cases hu
      obtain ⟨e1,e2⟩:=zj1 (U:=U) UI (by rw [b3];simp [V.kA]) g1
      simp only [List.map_cons,List.map_nil,List.cons.injEq,and_true] at e1
      exact ⟨e2 u1 (List.mem_cons_self ..),e1⟩
     ·cases hu
    | t l =>
     simp only [R1,Option.map_eq_some_iff] at hu
     obtain ⟨us,UI,rfl⟩:=hu
     obtain ⟨e1,e2⟩:=zj1 UI b3 g1
     exact ⟨e2,by simp only [V.aa,e1]⟩
   refine ⟨U',⟨h.act.defers,hsz,fun t x ht=>?_,fun e he=>by cases he⟩,b2⟩
   cases t with
   | zero=>cases ht;exact ⟨huv.1,by rw [huv.2];exact hs0.2⟩
   | succ t=>cases t<;>cases ht
  ·exact aE
 ·exact keep
theorem UJ {pat:St} : ∀ (x:X),M.sat F O (x.tT pat) (fun y=>(y.de O).1=(x.de O).1/\∀ U a w,RR O E U ⟨(x.de O).2,[]⟩ a w->∃ U',RR O E U' ⟨(y.de O).2,[]⟩ a w)
 | .done k s=>by
  unfold X.tT
  exact ak (zr5 (E:=E)) fun z hz=>au ⟨rfl,hz⟩
 | .br c x y=>by
  unfold X.tT
  refine ak (uY (UJ x)) fun u hu=>ak (uY (UJ y)) fun v hv=>au ?_
  simp only [X.de]
  by_cases hc:c.bool O=true
  ·simp only [hc,if_true]
   exact hu hc
  ·simp only [hc]
   exact hv (by simpa using hc)
theorem zva (hS:bg P I gK S F) (hE:E.Ok gK) (hn0:S.n0=E.n0) (hI:∀ w,Fr E.W E.w0 w->I w) {fuel:Nat} {c:Code} {rs:List ResultVar} {keep:Bool} (gi:keep=false->E.n0=0) {pn:Nat} {pat s0:St} :
  M.sat F O (Nu P S fuel c rs keep pn pat s0) (fun z=>∀ U a w,RR O E U ⟨s0,[]⟩ a w->c.wp P (fun e a' w'=>(e = .normal\/e = .ret)/\a'.defers=[] /\
   ∃ v vals U',(rs.mapM (qJ a'.tmps)).run P w' = .ok vals w'/\JY vals=v/\RR O E U' ⟨z,[]⟩ (F4 v) w') a w):=by
 unfold Nu
 rw [hn0]
 refine ak (zr3 (E:=E)) fun s1 fJ=>?_
 refine ak (OH hS hE hn0 hI fuel O c s1) fun x hx=>ak (UG gi x) fun y0 hy=>ak (UJ (E:=E) y0) fun y hp=>ak (JP (E:=E) y) fun o ho=>?_
 obtain ⟨z,hz,yT⟩:=ho (by rw [hp.1];exact hy.2.1)
 subst hz
 refine cH (zpI (E:=E) (z:=z)) fun z1 C_=>fun U0 a w h0=>?_
 obtain ⟨U,h⟩:=fJ U0 a w h0
 refine wp_mono (hx U a w h).1 fun e a' w' hpx=>?_
 obtain ⟨hk,U1,hr⟩:=hpx
 obtain ⟨v,vals,h1,h2,h3⟩:=hy.2.2 U1 a' w' hr
 obtain ⟨U3,h3⟩:=hp.2 U1 _ w' h3
 obtain ⟨U2,h4⟩:=yT U3 _ w' h3
 refine ⟨?_,hr.act.defers,v,vals,U2,h1,h2,C_ U2 _ w' h4⟩
 have hend:=hy.1
 generalize (X.de O x).1=k at *
 cases k<;>cases e<;>simp [K.is,K.ends] at hk hend ⊢
theorem gb.wQ {O1 O2:Nat->DV} : ∀ (ts:List Ty) (k:Nat),(∀ (i:Nat) (t:Ty),ts[i]? = some t->t.gT (O1 (k+i)) (O2 (k+i)))->gb O1 O2 ts (eL k ts.length) (eL k ts.length)
 | [],_,_=>trivial
 | t::ts,k,h=>⟨h 0 t rfl,gb.wQ ts (k+1) fun i u hi=>by have:=h (i+1) u (by simpa using hi);rw [show k+1+i=k+(i+1) from by omega];exact this⟩
theorem zx0 {fuel:Nat} {f:FuncId} {fn:Func} {sg:aW} {out:Out} {G:List DV->List DV} (hst:OI I gK) (hS:bg P I gK S F) (hf:P.funcs[f]? = some fn)
  (dY:aQ P S fuel fn sg=some out) (Gi:∀ l∈out.loops,jJ F l)
  (hG:∀ ds:List DV,ds.length=sg.fE->(sg.need=true->(af (G ds) 0).aA=true)->∃ O:Nat->DV,Sat F O out.nodes/\(∀ (i:Nat) (t:Ty),sg.lY[i]? = some t->t.gT (af ds i) (O i)) /\
   zA O out.jr=true/\vF sg.iK ((G ds).drop (if sg.need then 1 else 0)) (out.outs.map (A.den O))) :
  aI P I gK f sg G:=by
 intro ds U0 w Ud hlen eF hKw NM fR JZ
 obtain ⟨O,jB,hin,Ba,qH⟩:=hG ds hlen eF
 generalize zB:bA sg.eE U0 w=E at *
 have F8:E.n0=sg.hin.length:=by rw [<-zB];simp [bA,aW.eE]
 have J1:E.w0=w:=by rw [<-zB];rfl
 have hEU:E.U0=U0:=by rw [<-zB];rfl
 have C3:E.Ok gK:=⟨by rw [J1];exact hKw,NM⟩
 have hI:∀ w',Fr E.W E.w0 w'->I w':=fun w' h=>by
  rw [J1] at h
  exact hst w w' h.size (fun b hb=>h.block b (by omega) (fun hW=>by have:=NM b hW;omega)) Ud
 unfold aQ at dY
 cases hbody:fn.body with
 | none=>simp [hbody] at dY
 | some c =>
  simp only [hbody] at dY
  split at dY
  rotate_left
  ·cases dY
  rename_i hn0
  have hn0:S.n0=E.n0:=by rw [F8];exact Nat.eq_of_beq_eq_true hn0
  generalize hkp:(!(sg.hin.isEmpty&&sg.hout.isEmpty))=keep at dY
  have gi:keep=false->E.n0=0:=fun h=>by
   rw [h] at hkp
   rw [F8]
   cases hh:sg.hin with
   | nil=>rfl
   | cons x l=>rw [hh] at hkp;simp at hkp
  cases hrun:Nu P S fuel c fn.results.toList keep sg.iK.length ⟨[some sg.out],sg.hout⟩ (sg.Iz fn.ntmps) sg.fE with
  | none=>simp [hrun] at dY
  | some r =>
   obtain ⟨z,n',e,d⟩:=r
   simp only [hrun] at dY
   unfold zxV at dY
   dsimp only at dY
   generalize hg:oD sg.iK.length ⟨[some sg.out],sg.hout⟩ z=g at dY
   have lO:g.1.length=sg.iK.length:=by rw [<-hg];exact IV _ _ _
   split at dY
   rotate_left
   ·cases dY
   rename_i gz
   simp only [Option.some.injEq] at dY
   subst dY
   simp only at jB Ba qH Gi
   simp only [Bool.and_eq_true,St.inst,St.sub,aW.ok] at gz
   obtain ⟨⟨⟨⟨fJ,uc⟩,SL⟩,⟨⟨⟨⟨⟨⟨⟨k1,k2⟩,k3⟩,k4⟩,_⟩,_⟩,_⟩,k8⟩⟩,hkc⟩:=gz
   have key:=zva (E:=E) hS C3 hn0 hI gi sg.fE z n' e d hrun jB (UH d (zjX Ba) Gi)
   -- where the results' values come from
   have hres:gb O (sg.res (G ds)) sg.iK g.1 (eL 0 sg.iK.length):=by
    have hl:((G ds).drop (if sg.need then 1 else 0)).length=sg.iK.length:=by rw [qH.len];simpa using lO
    have hsame:(eL 0 sg.iK.length).map (A.den (sg.res (G ds)))=(G ds).drop (if sg.need then 1 else 0):=by
     rw [IU (sg.res (G ds)) sg.iK.length 0 0 (fun _ _=>rfl)]
     apply List.ext_getElem?
     intro i
     by_cases hi:i<sg.iK.length
     ·rw [List.getElem?_map,List.getElem?_range' (by omega),List.getElem?_eq_getElem (l:=(G ds).drop _) (by omega)]
      simp only [Option.map_some,Option.some.injEq,aW.res,af]
      rw [List.getElem_drop,List.getD_eq_getElem?_getD,List.getElem?_eq_getElem (by simp only [List.length_drop] at hl;omega)]
      simp only [Option.getD_some]
      congr 1
      omega
     ·rw [List.getElem?_eq_none (by simpa using hi),List.getElem?_eq_none (by omega)]
    exact gb.sq (by rw [hsame];exact qH)
   -- the state the call UK in
   have J2:sg.iZ.map (V.aa O U0)=sg.iZ.map (V.aa (af ds) U0)/\(∀ v∈sg.iZ,V.good O v)/\eT E O U0 sg.eE w:=by
    have Oc:gb (af ds) O sg.lY (eL 0 sg.fE) (eL 0 sg.fE):=gb.wQ _ _ fun i t h=>by rw [Nat.zero_add];exact hin i t h
    obtain ⟨e1,e2⟩:=Vs.aX xH Oc k1
    exact ⟨e1 U0,e2 fR,eT.inst xH Oc k2 JZ⟩
   obtain ⟨lQ,ij,zb⟩:=J2
   have UL:RR O E U0 ⟨sg.Iz fn.ntmps,[]⟩ { tmps:=(sg.iZ.map (V.aa (af ds) U0)).toArray++Array.replicate (fn.ntmps-(sg.iZ.map (V.aa (af ds) U0)).toArray.size) undef,defers:=[] } w:=by
    refine ⟨⟨rfl,?_,fun t v ht=>?_,fun e he=>by cases he⟩,⟨zb,fun j bk hj=>?_,?_,?_,fun j _=>by rw [hEU]⟩⟩
    ·simp [aW.Iz,aW.iZ]
    ·change nth ((sg.iZ).map some++List.replicate (fn.ntmps-sg.iZ.length) none) t=some v at ht
     rw [oI] at ht
     split at ht
     ·rename_i hlt
      rw [xE] at ht
      refine ⟨ij v (List.mem_of_getElem? ht),?_⟩
      have h1:(sg.iZ.map (V.aa (af ds) U0))[t]? = some (v.aa O U0):=by rw [<-lQ];simp [ht]
      simp only
      rw [Array.getElem?_append_left (by simp at hlt;simp;omega)]
      simpa using h1
     ·rw [zgS] at ht;cases ht
    ·change nth sg.eE j=some bk at hj
     cases hn:(U0 j).nil with
     | true=>exact .inl rfl
     | false =>
      cases ho:bk.own with
      | true=>exact .inr ⟨fun _ b xI=>.inr (by rw [<-zB];exact ⟨j,bk,hj,ho,hn,xI⟩),fun b xI=>.inr (.inr (by rw [<-zB];exact .inl ⟨j,bk,hj,hn,xI⟩))⟩
      | false=>exact .inr ⟨fun o=>(by cases o),fun b xI=>.inr (.inr (by rw [<-zB];exact .inl ⟨j,bk,hj,hn,xI⟩))⟩
    ·rw [J1];exact Fr.refl _ _
    ·rw [F8];simp [aW.Iz]
   refine calls_of_wp hf hbody ?_
   refine wp_mono (key U0 _ w UL) ?_
   intro e a' w' ⟨he,hd,v,vals,U',h1,h2,h3⟩
   have hout:∃ v U',(results fn a'.tmps).run P w' = .ok v w'/\eZ sg (G ds) U0 w v U' w':=by
    obtain ⟨_,q2⟩:=NJ fJ
    obtain ⟨u,q3,q4⟩:=q2 0 (sg.out.inst g.1) rfl
    obtain ⟨q7,q8⟩:=h3.act.slot 0 u q3
    obtain ⟨q5,q6⟩:=V.bu (O:=O) q4 q7
    have q9:v=u.aa O U':=by
     have:(F4 v).tmps[0]? = some v:=rfl
     rw [this] at q8
     exact Option.some.inj q8
    obtain ⟨c1,c2⟩:=V.aX xH hres k3
    have hh1:eT E O (fun j=>U' (bz g.2 j)) (sg.hout.map (Option.map (ag.inst g.1))) w':=h3.hs.heap.sub uc SL
    refine ⟨v,fun j=>U' (bz g.2 j),by rw [zr2 h1,h2],?_,c2 q6,?_,?_,?_,fun j hj hjl=>?_⟩
    ·unfold aW.aG
     rw [c1,q5 U']
     exact q9
    ·rw [zB]
     exact eT.inst xH hres k4 hh1
    ·rw [zB]
     have:=jx.inst (bs:=eL 0 sg.iK.length) (h3.hs.old.sub uc)
     rw [J1] at this
     exact this
    ·rw [zB]
     have:=h3.hs.fr
     rw [J1] at this
     exact this
    ·have e1:=zjZ hkc j hjl (by rwa [Nat.zero_add])
     rw [Nat.zero_add] at e1
     obtain ⟨x,hx⟩:=zqI hj
     have:=h3.hs.keep j (by rw [F8];exact iW hx)
     simp only [e1]
     rw [this,hEU]
   obtain ⟨v2,U2,h4,h5⟩:=hout
   rcases he with rfl | rfl
   ·exact ⟨hd,v2,h4,v2,U2,rfl,h5⟩
   ·exact ⟨hd,v2,h4,v2,U2,rfl,h5⟩
end
theorem ztp {α:Type} {Q:Nat->α->Prop} {l:List (Nat×α)} (h:∀ p∈l,Q p.1 p.2) {f:Nat} {s:α} (hs:assoc l f=some s):Q f s:=by
 induction l with
 | nil=>cases hs
 | cons p l ih =>
  simp only [assoc] at hs
  split at hs
  ·rename_i e
   cases hs
   rw [Nat.eq_of_beq_eq_true e]
   exact h p (by simp)
  ·exact ih (fun q hq=>h q (List.mem_cons_of_mem _ hq)) hs
end Go.Sx
namespace Go.Sx
section
variable (w c:List DV->Bool) (nx out:List DV->List DV)
def nL:Nat->List DV->Option (List DV)
 | 0,_=>none
 | n+1,s=>if w s then (if c s then nL n (nx s) else some (out s)) else none
def uu:Nat->List DV->Nat
 | 0,_=>0
 | n+1,s=>if c s then uu n (nx s)+1 else 0
open Classical in
def Da (s:List DV):Nat:=if h:∃ n r,nL w c nx out n s=some r then Classical.choose h else 0
def dQ (s:List DV):Option (List DV):=nL w c nx out (Da w c nx out s) s
variable {w c:List DV->Bool} {nx out:List DV->List DV}
theorem zlD:∀ {n:Nat} {s r:List DV},nL w c nx out n s=some r->nL w c nx out (n+1) s=some r
 | 0,_,_,h=>by cases h
 | n+1,s,r,h=>by
  simp only [nL] at h
  rw [nL]
  split at h
  ·rename_i h1
   rw [if_pos h1]
   split at h
   ·rename_i h2
    rw [if_pos h2]
    exact zlD h
   ·rename_i h2
    rw [if_neg h2]
    exact h
  ·cases h
theorem zq2 {n m:Nat} {s r:List DV} (hl:n<=m) (h:nL w c nx out n s=some r):nL w c nx out m s=some r:=by
 induction hl with
 | refl=>exact h
 | step _ ih=>exact zlD ih
theorem ztq {n m:Nat} {s r r':List DV} (h:nL w c nx out n s=some r) (h':nL w c nx out m s=some r'):r=r':=by
 have h1:=zq2 (Nat.le_max_left n m) h
 have h2:=zq2 (Nat.le_max_right n m) h'
 exact Option.some.inj (h1.symm.trans h2)
theorem zq3:∀ {n m:Nat} {s r r':List DV},nL w c nx out n s=some r->nL w c nx out m s=some r'->uu c nx n s=uu c nx m s
 | 0,_,_,_,_,h,_=>by cases h
 | _+1,0,_,_,_,_,h=>by cases h
 | n+1,m+1,s,r,r',h,h'=>by
  simp only [nL] at h h'
  simp only [uu]
  split at h
  ·rename_i h1
   rw [if_pos h1] at h'
   split at h
   ·rename_i h2
    rw [if_pos h2] at h'
    rw [if_pos h2,if_pos h2,zq3 h h']
   ·rename_i h2
    rw [if_neg h2,if_neg h2]
  ·cases h
theorem UM {n:Nat} {s r:List DV} (h:nL w c nx out n s=some r):dQ w c nx out s=some r:=by
 have he:∃ n r,nL w c nx out n s=some r:=⟨n,r,h⟩
 unfold dQ Da
 rw [dif_pos he]
 obtain ⟨r',hr'⟩:=Classical.choose_spec he
 rw [hr',ztq hr' h]
theorem o5 {s:List DV} (h1:w s=true) (h2:c s=true):dQ w c nx out s=dQ w c nx out (nx s):=by
 cases h:dQ w c nx out (nx s) with
 | some r=>exact UM (n:=Da w c nx out (nx s)+1) (by simp only [nL,h1,h2,if_true];exact h)
 | none =>
  cases h':dQ w c nx out s with
  | none=>rfl
  | some r =>
   unfold dQ at h'
   cases hn:Da w c nx out s with
   | zero=>rw [hn] at h';cases h'
   | succ n =>
    rw [hn] at h'
    simp only [nL,h1,h2,if_true] at h'
    rw [UM h'] at h
    cases h
theorem lU {s:List DV} (h1:w s=true) (h2:c s=false):dQ w c nx out s=some (out s):=UM (n:=1) (by simp [nL,h1,h2])
theorem UN {s r:List DV} (h:dQ w c nx out s=some r):w s=true:=by
 unfold dQ at h
 cases hn:Da w c nx out s with
 | zero=>rw [hn] at h;cases h
 | succ n =>
  rw [hn] at h
  simp only [nL] at h
  split at h
  ·assumption
  ·cases h
def Gj (w c:List DV->Bool) (nx out:List DV->List DV) (s:List DV):Nat:=uu c nx (Da w c nx out s) s
theorem zvb {s r:List DV} (h:dQ w c nx out s=some r) (h2:c s=true):Gj w c nx out (nx s)<Gj w c nx out s:=by
 have h1:=UN h
 have h3:dQ w c nx out (nx s)=some r:=(o5 h1 h2).symm.trans h
 unfold Gj
 unfold dQ at h h3
 cases hn:Da w c nx out s with
 | zero=>rw [hn] at h;cases h
 | succ n =>
  rw [hn] at h
  simp only [nL,h1,h2,if_true] at h
  simp only [uu,h2,if_true]
  rw [zq3 h3 h]
  omega
end
def Bb:Nat->List Ty->List DV->List DV
 | _,[],_=>[]
 | i,t::ts,ds=>nrm t (ds.getD i default)::Bb (i+1) ts ds
def aT (ts:List Ty) (ds:List DV):List DV:=Bb 0 ts ds
theorem zlE:∀ (i:Nat) (ts:List Ty) (ds:List DV) (j:Nat),(Bb i ts ds)[j]? = ts[j]?.map fun t=>nrm t (ds.getD (i+j) default)
 | _,[],_,j=>by simp [Bb]
 | i,t::ts,ds,0=>by simp [Bb]
 | i,t::ts,ds,j+1=>by
  simp only [Bb,List.getElem?_cons_succ]
  rw [zlE (i+1) ts ds j,show i+1+j=i+(j+1) from by omega]
theorem J3 (ts:List Ty) (ds:List DV) (j:Nat):(aT ts ds)[j]? = ts[j]?.map fun t=>nrm t (ds.getD j default):=by
 unfold aT
 rw [zlE,Nat.zero_add]
theorem zwF (t:Ty) (d:DV):nrm t (nrm t d)=nrm t d:=by cases t<;>rfl
theorem zx1 {t:Ty} {d e:DV} (h:nrm t d=nrm t e):t.gT d e:=by
 cases t<;>simpa [nrm,Ty.gT] using h
theorem OJ (ts:List Ty) (ds:List DV):(aT ts ds).length=ts.length:=by
 have key:∀ (i:Nat) (ts:List Ty),(Bb i ts ds).length=ts.length:=fun i ts=>by
  induction ts generalizing i with
  | nil=>rfl
  | cons t ts ih=>simp [Bb,ih]
 exact key 0 ts
theorem Gk (ts:List Ty) (ds:List DV):aT ts (aT ts ds)=aT ts ds:=by
 apply List.ext_getElem?
 intro j
 rw [J3,J3]
 cases h:ts[j]? with
 | none=>rfl
 | some t =>
  simp only [Option.map_some,Option.some.injEq]
  rw [List.getD_eq_getElem?_getD,J3,h]
  simp [zwF]
theorem zlF:∀ {ts:List Ty} {as bs:List DV},as.length=ts.length->bs.length=ts.length ->
  (∀ (j:Nat) (t:Ty),ts[j]? = some t->nrm t (as.getD j default)=nrm t (bs.getD j default))->vF ts as bs
 | [],[],[],_,_,_=>trivial
 | t::ts,a::as,b::bs,h1,h2,h=>by
  refine ⟨zx1 (by simpa using h 0 t rfl),zlF (by simpa using h1) (by simpa using h2) fun j t' ht=>?_⟩
  have:=h (j+1) t' (by simpa using ht)
  simpa using this
 | [],_::_,_,h,_,_=>by simp at h
 | [],[],_::_,_,h,_=>by simp at h
 | _::_,[],_,h,_,_=>by simp at h
 | _::_,_::_,[],_,h,_=>by simp at h
theorem UO {ts:List Ty} {as bs:List DV} (h:aT ts as=aT ts bs) (h1:as.length=ts.length) (h2:bs.length=ts.length):vF ts as bs :=
 zlF h1 h2 fun j t ht=>by
  have:=congrArg (fun l=>l[j]?) h
  simp only [J3,ht,Option.map_some,Option.some.injEq] at this
  exact this
def jY (iK:List Ty) (o:Option (List DV)):List DV:=.b o.isSome::aT iK (o.getD [])
theorem zwG {F:aC} {l:LR} {w c:List DV->Bool} {nx out:List DV->List DV} (tys:List Ty)
  (hF:∀ ds,F l.fid ds=jY (.i::l.ts) (dQ w c nx out (aT tys ds)))
  (hlen:l.outs.length=l.ts.length+1)
  (hw:∀ O xs,xs.length=l.k->zA (l.env F O xs) l.jr=w (aT tys (l.inv.map O++xs)))
  (hc:∀ O xs,xs.length=l.k->l.c.bool (l.env F O xs)=c (aT tys (l.inv.map O++xs)))
  (hn:∀ O xs,xs.length=l.k->aT tys (l.inv.map O++l.nx.map (A.den (l.env F O xs)))=nx (aT tys (l.inv.map O++xs)))
  (ho:∀ O xs,xs.length=l.k->aT (.i::l.ts) (l.outs.map (A.den (l.env F O xs)))=out (aT tys (l.inv.map O++xs))):jJ F l:=by
 refine ⟨fun raw=>Gj w c nx out (aT tys raw),fun O xs hx hp=>?_⟩
 rw [hF] at hp
 generalize hs:aT tys (l.inv.map O++xs)=s at *
 cases hl:dQ w c nx out s with
 | none=>rw [hl] at hp;cases hp
 | some r =>
  have h1:=UN hl
  refine ⟨zjX (by rw [hw O xs hx,hs];exact h1),fun h2=>?_,fun h2=>?_⟩
  ·rw [hc O xs hx,hs] at h2
   have h3:=hn O xs hx
   rw [hs] at h3
   rw [hF,hF,h3,hs,<-o5 h1 h2,hl]
   exact ⟨rfl,rfl,by show Gj w c nx out (aT tys _)<Gj w c nx out (aT tys _);rw [h3,hs];exact zvb hl h2⟩
  ·rw [hc O xs hx,hs] at h2
   rw [hF,hs,lU h1 h2]
   show vF _ (aT (.i::l.ts) (out s)) _
   refine UO ?_ (by simp [OJ]) (by simpa using hlen)
   rw [Gk,ho O xs hx,hs]
   have h4:=ho O xs hx
   rw [hs] at h4
   rw [<-h4,Gk]
end Go.Sx
namespace Go.Sx
inductive KD where
 | hand (g:List DV->List DV)
 | fn (sg:aW) (o:Out)
 | lp (l:LR) (tys:List Ty)
def uv (sg:aW) (o:Out) (O:Nat->DV):List DV:=(bif sg.need then [.b (zA O o.jr)] else [])++aT sg.iK (o.outs.map (A.den O))
def A.iC (n:Nat):A->Bool
 | .r i=>Nat.blt i n
 | _=>true
def wR:List A->List A->Bool
 | [],[]=>true
 | a::l,b::l'=>a.beq b&&wR l l'
 | _,_=>false
def J4 (last:Option (Nat×List A×List DV)) (f:Nat) (args:List A):Option (List DV) :=
 match last with
 | some (f',args',res)=>bif Nat.beq f' f&&wR args' args then some res else none
 | none=>none
def xR (ev:Nat->List DV->Option (List DV)) (base:Nat->DV) (n0:Nat):Em->List DV->Nat->Option (Nat×List A×List DV)->Option (List DV)
 | [],vs,_,_=>some vs
 | (_,.call f args j)::r,vs,n,last =>
  match J4 last f args with
  | some res=>xR ev base n0 r (res.getD j default::vs) (n+1) last
  | none =>
   match ev f (args.map (A.den (look base n0 vs n))) with
   | none=>none
   | some res=>xR ev base n0 r (res.getD j default::vs) (n+1) (bif args.all (A.iC n) then some (f,args,res) else none)
 | (_,x)::r,vs,n,_=>xR ev base n0 r (lJ (fun _ _=>[]) (look base n0 vs n) x::vs) (n+1) none
def zC (i:Nat):List Nat->Nat
 | []=>0
 | j::l=>bif Nat.beq j i then 0 else zC i l+1
def uw (i:Nat):List Nat->Bool
 | []=>false
 | j::l=>Nat.beq j i||uw i l
def J5:List Nat->Bool
 | []=>true
 | i::l=>!uw i l&&J5 l
def o6 (inv:List Nat) (s:List DV) (i:Nat):DV:=s.getD (zC i inv) default
def OK (ev:Nat->List DV->Option (List DV)) (l:LR) (tys:List Ty):Nat->List DV->Option (Option (List DV))
 | 0,_=>none
 | n+1,s =>
  bif J5 l.inv&&Nat.beq s.length (l.inv.length+l.k) then
   match xR ev (o6 l.inv s) l.n l.nodes (s.drop l.inv.length).reverse (l.n+l.k) none with
   | none=>none
   | some vs =>
    bif zA (look (o6 l.inv s) l.n vs (l.n+l.k+l.nodes.length)) l.jr then
     bif l.c.bool (look (o6 l.inv s) l.n vs (l.n+l.k+l.nodes.length)) then
      OK ev l tys n (aT tys (l.inv.map (o6 l.inv s)++l.nx.map (A.den (look (o6 l.inv s) l.n vs (l.n+l.k+l.nodes.length)))))
     else some (some (aT (.i::l.ts) (l.outs.map (A.den (look (o6 l.inv s) l.n vs (l.n+l.k+l.nodes.length))))))
    else some none
  else none
def OL (T:List (Nat×KD)):Nat->Nat->List DV->Option (List DV)
 | 0,_,_=>none
 | k+1,f,ds =>
  match assoc T f with
  | none=>none
  | some (.hand g)=>some (g ds)
  | some (.fn sg o) =>
   bif Nat.beq ds.length sg.fE then
    match xR (OL T k) (fun _=>default) 0 o.nodes (aT sg.lY ds).reverse sg.fE none with
    | none=>none
    | some vs=>some (uv sg o (look (fun _=>default) 0 vs (sg.fE+o.nodes.length)))
   else none
  | some (.lp l tys) =>
   match OK (OL T k) l tys k (aT tys ds) with
   | none=>none
   | some none=>some (.b false::aT (.i::l.ts) [])
   | some (some r)=>some (.b true::r)
def KD.ok (F:aC) (f:Nat):KD->Prop
 | .hand g=>∀ ds,F f ds=g ds
 | .fn sg o=>∀ ds,ds.length=sg.fE->F f ds=uv sg o (wP F sg o (aT sg.lY ds))
 | .lp l tys=>∃ (w c:List DV->Bool) (nx out:List DV->List DV),(∀ ds,F f ds=jY (.i::l.ts) (dQ w c nx out (aT tys ds))) /\
  (∀ O xs,xs.length=l.k->zA (l.env F O xs) l.jr=w (aT tys (l.inv.map O++xs))) /\
  (∀ O xs,xs.length=l.k->l.c.bool (l.env F O xs)=c (aT tys (l.inv.map O++xs))) /\
  (∀ O xs,xs.length=l.k->aT tys (l.inv.map O++l.nx.map (A.den (l.env F O xs)))=nx (aT tys (l.inv.map O++xs))) /\
  (∀ O xs,xs.length=l.k->aT (.i::l.ts) (l.outs.map (A.den (l.env F O xs)))=out (aT tys (l.inv.map O++xs)))
theorem A.beq_eq {a b:A} (h:a.beq b=true):a=b:=by
 cases a<;>cases b<;>simp only [A.beq] at h<;>first | (cases h;done) | skip
 ·rw [Nat.eq_of_beq_eq_true h]
 ·rw [of_decide_eq_true h]
 ·rename_i x y;cases x<;>cases y<;>first | rfl | cases h
 ·rw [Nat.eq_of_beq_eq_true h]
theorem ztr:∀ {l l':List A},wR l l'=true->l=l'
 | [],[],_=>rfl
 | a::l,b::l',h=>by
  simp only [wR,Bool.and_eq_true] at h
  rw [A.beq_eq h.1,ztr h.2]
 | [],_::_,h=>by cases h
 | _::_,[],h=>by cases h
theorem zts (base:Nat->DV) (n0:Nat) (vs:List DV) (n i:Nat) (v:DV) (h:i<n):look base n0 (v::vs) (n+1) i=look base n0 vs n i:=by
 unfold look
 cases Nat.blt i n0 with
 | true=>rfl
 | false =>
  show (v::vs).getD (n+1-1-i) default=vs.getD (n-1-i) default
  rw [show n+1-1-i=(n-1-i)+1 from by omega,List.getD_cons_succ]
theorem zvc (base:Nat->DV) (n0:Nat) (vs:List DV) (n:Nat) (v:DV) {a:A} (h:a.iC n=true):a.den (look base n0 (v::vs) (n+1))=a.den (look base n0 vs n):=by
 cases a with
 | r i=>exact zts base n0 vs n i v (by simpa [A.iC] using h)
 | _=>rfl
theorem J6 {F:aC} {ev:Nat->List DV->Option (List DV)} (dY:∀ f ds r,ev f ds=some r->F f ds=r) (base:Nat->DV) (n0:Nat):∀ (e:Em) (vs:List DV) (n:Nat) (last:Option (Nat×List A×List DV)) (out:List DV),
  (∀ f args res,last=some (f,args,res)->args.all (A.iC n)=true/\F f (args.map (A.den (look base n0 vs n)))=res)->xR ev base n0 e vs n last=some out->k_ F base n0 e vs n=out
 | [],vs,n,last,out,_,h=>by simpa [xR,k_] using h
 | (i,x)::r,vs,n,last,out,hl,h=>by
  have plain:(∀ f args j,x≠.call f args j)->k_ F base n0 ((i,x)::r) vs n=out:=fun hx=>by
   have e1:xR ev base n0 ((i,x)::r) vs n last=xR ev base n0 r (lJ (fun _ _=>[]) (look base n0 vs n) x::vs) (n+1) none:=by
    cases x<;>first | rfl | exact absurd rfl (hx _ _ _)
   have e2:lJ F (look base n0 vs n) x=lJ (fun _ _=>[]) (look base n0 vs n) x:=by
    cases x<;>first | rfl | exact absurd rfl (hx _ _ _)
   rw [e1] at h
   rw [k_,e2]
   exact J6 dY base n0 r _ _ none out (fun _ _ _ h=>by cases h) h
  by_cases hx:∃ f args j,x = .call f args j
  ·obtain ⟨f,args,j,rfl⟩:=hx
   have keep:∀ {f':Nat} {args':List A} {res:List DV} {v:DV},args'.all (A.iC n)=true->F f' (args'.map (A.den (look base n0 vs n)))=res ->
     args'.all (A.iC (n+1))=true/\F f' (args'.map (A.den (look base n0 (v::vs) (n+1))))=res:=fun {f' args' res v} h1 h2=>by
    refine ⟨List.all_eq_true.2 fun a ha=>?_,?_⟩
    ·have:=List.all_eq_true.1 h1 a ha
     cases a with
     | r i=>simp only [A.iC,Nat.blt_eq] at this ⊢;omega
     | _=>rfl
    ·rw [<-h2]
     congr 1
     exact List.map_congr_left fun a ha=>zvc base n0 vs n v (List.all_eq_true.1 h1 a ha)
   simp only [xR] at h
   rw [k_]
   show k_ F base n0 r ((F f (args.map (A.den (look base n0 vs n)))).getD j default::vs) (n+1)=out
   split at h
   ·rename_i res hh
    cases last with
    | none=>cases hh
    | some q =>
     obtain ⟨f',args',res'⟩:=q
     simp only [J4] at hh
     cases hb:Nat.beq f' f&&wR args' args with
     | false=>rw [hb] at hh;cases hh
     | true =>
      rw [hb] at hh
      simp only [cond_true,Option.some.injEq] at hh
      subst hh
      simp only [Bool.and_eq_true] at hb
      have hf:=Nat.eq_of_beq_eq_true hb.1
      have ha:=ztr hb.2
      subst hf;subst ha
      obtain ⟨h1,h2⟩:=hl _ _ _ rfl
      rw [h2]
      exact J6 dY base n0 r _ _ _ out (fun f1 a1 r1 h3=>by cases h3;exact keep h1 h2) h
   ·split at h
    ·cases h
    ·rename_i res hr
     have h2:=dY _ _ _ hr
     rw [h2]
     refine J6 dY base n0 r _ _ _ out (fun f1 a1 r1 h3=>?_) h
     cases hb:args.all (A.iC n) with
     | false=>rw [hb] at h3;cases h3
     | true=>rw [hb] at h3;cases h3;exact keep hb h2
  ·exact plain fun f args j e=>hx ⟨f,args,j,e⟩
theorem UP {i:Nat} : ∀ {l:List Nat},uw i l=true↔i∈l
 | []=>by simp [uw]
 | j::l=>by
  simp only [uw,Bool.or_eq_true,List.mem_cons,UP (l:=l)]
  exact or_congr ⟨fun h=>(Nat.eq_of_beq_eq_true h).symm,fun h=>by rw [h];exact Nat.beq_refl j⟩ Iff.rfl
theorem zos:∀ (inv:List Nat) (s:List DV),J5 inv=true->inv.length<=s.length->inv.map (o6 inv s)=s.take inv.length
 | [],s,_,_=>rfl
 | i::l,[],_,h=>by simp at h
 | i::l,d::s,hn,h=>by
  simp only [J5,Bool.and_eq_true,Bool.not_eq_true'] at hn
  have h1:o6 (i::l) (d::s) i=d:=by
   unfold o6 zC
   rw [Nat.beq_refl];rfl
  have h2:l.map (o6 (i::l) (d::s))=l.map (o6 l s):=List.map_congr_left fun j hj=>by
   unfold o6
   have hb:Nat.beq i j=false:=by
    cases hb:Nat.beq i j with
    | false=>rfl
    | true =>
     have:=Nat.eq_of_beq_eq_true hb
     subst this
     rw [UP.2 hj] at hn
     cases hn.1
   rw [zC,hb]
   rfl
  rw [List.map_cons,h1,h2,zos l s hn.2 (by simpa using h)]
  rfl
theorem zid {F:aC} {ev:Nat->List DV->Option (List DV)} (dY:∀ f ds r,ev f ds=some r->F f ds=r) {l:LR} {tys:List Ty} {w c:List DV->Bool} {nx out:List DV->List DV}
  (hw:∀ O xs,xs.length=l.k->zA (l.env F O xs) l.jr=w (aT tys (l.inv.map O++xs)))
  (hc:∀ O xs,xs.length=l.k->l.c.bool (l.env F O xs)=c (aT tys (l.inv.map O++xs)))
  (hn:∀ O xs,xs.length=l.k->aT tys (l.inv.map O++l.nx.map (A.den (l.env F O xs)))=nx (aT tys (l.inv.map O++xs)))
  (ho:∀ O xs,xs.length=l.k->aT (.i::l.ts) (l.outs.map (A.den (l.env F O xs)))=out (aT tys (l.inv.map O++xs))) :
  ∀ (n:Nat) (ds:List DV) (r:Option (List DV)),OK ev l tys n (aT tys ds)=some r->(dQ w c nx out (aT tys ds)).map (aT (.i::l.ts))=r
 | 0,_,_,h=>by cases h
 | n+1,ds,r,h=>by
  generalize hs:aT tys ds=s at *
  have Tq:aT tys s=s:=by rw [<-hs,Gk]
  rw [OK] at h
  cases hb:J5 l.inv&&Nat.beq s.length (l.inv.length+l.k) with
  | false=>rw [hb] at h;cases h
  | true =>
   rw [hb] at h
   simp only [cond_true] at h
   simp only [Bool.and_eq_true] at hb
   have hlen:=Nat.eq_of_beq_eq_true hb.2
   have hmap:=zos l.inv s hb.1 (by omega)
   have hxs:(s.drop l.inv.length).length=l.k:=by rw [List.length_drop];omega
   have UQ:l.inv.map (o6 l.inv s)++s.drop l.inv.length=s:=by rw [hmap,List.take_append_drop]
   split at h
   ·cases h
   ·rename_i vs hv
    have UR:look (o6 l.inv s) l.n vs (l.n+l.k+l.nodes.length)=l.env F (o6 l.inv s) (s.drop l.inv.length):=by
     unfold LR.env
     rw [J6 dY _ _ _ _ _ none _ (fun _ _ _ h=>by cases h) hv]
    rw [UR] at h
    have h1:=hw (o6 l.inv s) _ hxs
    have h2:=hc (o6 l.inv s) _ hxs
    have h3:=hn (o6 l.inv s) _ hxs
    have h4:=ho (o6 l.inv s) _ hxs
    rw [UQ,Tq] at h1 h2 h3 h4
    rw [h1,h2,h4] at h
    cases J7:w s with
    | false =>
     rw [J7] at h
     simp only [cond_false,Option.some.injEq] at h
     subst h
     cases hl:dQ w c nx out s with
     | none=>rfl
     | some q=>have:=UN hl;rw [J7] at this;cases this
    | true =>
     rw [J7] at h
     cases ng:c s with
     | false =>
      rw [ng] at h
      simp only [cond_true,cond_false,Option.some.injEq] at h
      subst h
      rw [lU J7 ng,Option.map_some]
      congr 1
      rw [<-h4,Gk]
     | true =>
      rw [ng] at h
      simp only [cond_true] at h
      rw [o5 J7 ng,<-h3]
      exact zid dY hw hc hn ho n _ r h
theorem zot {F:aC} {T:List (Nat×KD)} (hT:∀ f c,assoc T f=some c->c.ok F f):∀ (k f:Nat) (ds r:List DV),OL T k f ds=some r->F f ds=r
 | 0,_,_,_,h=>by cases h
 | k+1,f,ds,r,h=>by
  have dY:=zot hT k
  rw [OL] at h
  split at h
  ·cases h
  ·rename_i g hg
   cases h
   exact hT f _ hg ds
  ·rename_i sg o hg
   cases hb:Nat.beq ds.length sg.fE with
   | false=>rw [hb] at h;cases h
   | true =>
    rw [hb] at h
    simp only [cond_true] at h
    split at h
    ·cases h
    ·rename_i vs hv
     cases h
     have h1:F f ds=uv sg o (wP F sg o (aT sg.lY ds)):=hT f _ hg ds (Nat.eq_of_beq_eq_true hb)
     rw [h1]
     unfold wP
     rw [J6 dY _ _ _ _ _ none _ (fun _ _ _ h=>by cases h) hv]
  ·rename_i l tys hg
   obtain ⟨w,c,nx,out,hF,hw,hc,hn,ho⟩:=hT f _ hg
   have hs:=fun r h=>zid dY hw hc hn ho k ds r h
   split at h
   ·cases h
   ·rename_i hl
    cases h
    have:=hs _ hl
    rw [hF]
    unfold jY
    cases hq:dQ w c nx out (aT tys ds) with
    | none=>rfl
    | some q=>rw [hq] at this;cases this
   ·rename_i q hl
    cases h
    have:=hs _ hl
    rw [hF]
    unfold jY
    cases hq:dQ w c nx out (aT tys ds) with
    | none=>rw [hq] at this;cases this
    | some q' =>
     rw [hq] at this
     simp only [Option.map_some,Option.some.injEq] at this
     show DV.b true::aT (.i::l.ts) q'=_
     rw [this]
end Go.Sx
namespace Go.Sx
variable {P:Program} {I:World->Prop} {gK:Nat} {F:aC} {S:bN}
def aG (F:aC) (sg:aW) (o:Out) (ds:List DV):List DV:=uv sg o (wP F sg o (aT sg.lY ds))
def Out.wS (o:Out) (sg:aW):Bool:=(sg.need||(match o.jr with | []=>true | _=>false))&&Nat.beq o.outs.length sg.iK.length
theorem zx2 {fuel:Nat} {f:FuncId} {fn:Func} {sg:aW} {out:Out} {G:List DV->List DV} (hst:OI I gK) (hS:bg P I gK S F) (hf:P.funcs[f]? = some fn)
  (dY:aQ P S fuel fn sg=some out) (hwf:Cg sg.fE out.nodes=true) (hw:out.wS sg=true) (Gi:∀ l∈out.loops,jJ F l)
  (hG:∀ ds,G ds=aG F sg out ds):aI P I gK f sg G :=
 zx0 hst hS hf dY Gi fun ds _ hp=>by
  simp only [Out.wS,Bool.and_eq_true] at hw
  have hlen:=Nat.eq_of_beq_eq_true hw.2
  have iR:(aT sg.lY ds).length=sg.fE:=OJ _ _
  obtain ⟨Aw,jB⟩:=Uw (F:=F) (base:=fun _=>default) (n0:=0) (vs:=(aT sg.lY ds).reverse) (n:=sg.fE) (by simp [iR]) hwf
  change Sat F (wP F sg out (aT sg.lY ds)) out.nodes at jB
  have US:∀ i,i<sg.fE->wP F sg out (aT sg.lY ds) i=look (fun _=>default) 0 (aT sg.lY ds).reverse sg.fE i:=Aw
  refine ⟨wP F sg out (aT sg.lY ds),jB,fun i t ht=>?_,?_⟩
  ·have hi:i<sg.fE:=(List.getElem?_eq_some_iff.1 ht).1
   rw [US i hi,JS (by simp [iR])]
   have h2:(aT sg.lY ds).reverse.getD (sg.fE-1-i) default=nrm t (af ds i):=by
    rw [List.getD_eq_getElem?_getD,List.getElem?_reverse (by omega),iR,show sg.fE-1-(sg.fE-1-i)=i from by omega,J3,ht]
    rfl
   rw [h2]
   exact zqP t _
  rw [hG] at hp ⊢
  unfold aG uv at hp ⊢
  cases hn:sg.need with
  | true =>
   rw [hn] at hp
   refine ⟨by simpa [af,DV.aA] using hp rfl,UO ?_ ?_ ?_⟩
   ·simp [Gk]
   ·simp [OJ]
   ·simpa using hlen
  | false =>
   have h1:=hw.1
   rw [hn] at h1
   refine ⟨?_,UO ?_ ?_ ?_⟩
   ·cases ho:out.jr with
    | nil=>rfl
    | cons _ _=>rw [ho] at h1;cases h1
   ·simp [Gk]
   ·simp [OJ]
   ·simpa using hlen
theorem aI.up {f:FuncId} {sg:aW} {G:List DV->List DV} {K:Nat} (h:aI P I 0 f sg G):aI P I K f sg G :=
 fun ds U w h1 h2 h3 _ _ h6 h7=>h ds U w h1 h2 h3 (Nat.zero_le _) (fun _ _=>Nat.zero_le _) h6 h7
def Bc (l:List Nat):Em->Bool
 | []=>true
 | (_,.call f _ _)::r=>uw f l&&Bc l r
 | _::r=>Bc l r
theorem zeU {F F':aC} {l:List Nat} (h:∀ f∈l,F f=F' f) (base:Nat->DV) (n0:Nat):∀ (e:Em) (vs:List DV) (n:Nat),Bc l e=true->k_ F base n0 e vs n=k_ F' base n0 e vs n
 | [],_,_,_=>rfl
 | (i,x)::r,vs,n,hc=>by
  rw [k_,k_]
  have h1:lJ F (look base n0 vs n) x=lJ F' (look base n0 vs n) x/\Bc l r=true:=by
   cases x<;>first | exact ⟨rfl,hc⟩ | skip
   rename_i f args j
   simp only [Bc,Bool.and_eq_true] at hc
   refine ⟨?_,hc.2⟩
   simp only [lJ]
   rw [h f (UP.1 hc.1)]
  rw [h1.1]
  exact zeU h base n0 r _ _ h1.2
theorem zr6 {F F':aC} {l:List Nat} {sg:aW} {o:Out} (hc:Bc l o.nodes=true) (h:∀ f∈l,F f=F' f) (ds:List DV):aG F sg o ds=aG F' sg o ds:=by
 unfold aG wP
 rw [zeU h _ _ _ _ _ hc]
theorem ux {Q:LR->Prop} {a b:List LR} (h:a=b) (hb:∀ l∈b,Q l):∀ l∈a,Q l:=h▸hb
theorem dB {Q:LR->Prop} {a:List LR} (h:a=[]):∀ l∈a,Q l:=h▸fun _ h=>(by cases h)
end Go.Sx
namespace Go.Sx
def UT:Nat->Nat->Nat×Nat
 | 0,n=>(0,n)
 | k+1,n=>bif Nat.ble 8 (n%16) then (n%16-8+8*(UT k (n/16)).1,(UT k (n/16)).2) else (n%16,n/16)
def num (n:Nat):Nat×Nat:=UT 64 n
def UU {α:Type} (f:Nat->α×Nat):Nat->Nat->List α×Nat
 | 0,n=>([],n)
 | k+1,n=>((f n).1::(UU f k (f n).2).1,(UU f k (f n).2).2)
def nj {α:Type} (f:Nat->α×Nat) (n:Nat):List α×Nat:=UU f (num n).1 (num n).2
def mkA (c v:Nat):A :=
 match v%4 with
 | 0=>.r (c-v/4)
 | 1=>.z (Int.ofNat (v/4))
 | 2=>.z (-Int.ofNat (v/4))
 | _=>.t (Nat.beq (v/4) 1)
def gG (c n:Nat):A×Nat:=(mkA c (num n).1,(num n).2)
def mkK:Nat->IntKind
 | 0=>.i8
 | 1=>.i16
 | 2=>.i32
 | 3=>.i64
 | 4=>.u8
 | 5=>.u16
 | 6=>.u32
 | _=>.u64
def OM (n:Nat):IntKind×Nat:=(mkK (n%16),n/16)
def mkT:Nat->Ty
 | 0=>.i
 | 1=>.b
 | _=>.l
def xS (n:Nat):Ty×Nat:=(mkT (n%16),n/16)
def Bd (c:Nat) (f:A->Node) (n:Nat):Node×Nat:=(f (gG c n).1,(gG c n).2)
def qK (c:Nat) (f:A->A->Node) (n:Nat):Node×Nat:=Bd c (f (gG c n).1) (gG c n).2
def J8 (c:Nat) (f:A->A->A->Node) (n:Nat):Node×Nat:=qK c (f (gG c n).1) (gG c n).2
def UW (c:Nat) (f:IntKind->A->Node) (n:Nat):Node×Nat:=Bd c (f (OM n).1) (OM n).2
def mP (c:Nat) (f:IntKind->A->A->Node) (n:Nat):Node×Nat:=qK c (f (OM n).1) (OM n).2
def zvU (c n:Nat):Node×Nat :=
 match (num n).1,(num n).2 with
 | 0,n=>qK c .eql n
 | 1,n=>qK c .and n
 | 2,n=>J8 c .vA n
 | 3,n=>(.lW (num n).1 (num (num n).2).1 (gG c (num (num n).2).2).1 (gG c (gG c (num (num n).2).2).2).1,(gG c (gG c (num (num n).2).2).2).2)
 | 4,n=>qK c .lss n
 | 5,n=>(.nW (num n).1 (num (num n).2).1 (gG c (num (num n).2).2).1 (gG c (gG c (num (num n).2).2).2).1,(gG c (gG c (num (num n).2).2).2).2)
 | 6,n=>Bd c .not n
 | 7,n=>(.call (num n).1 (nj (gG c) (num n).2).1 (num (nj (gG c) (num n).2).2).1,(num (nj (gG c) (num n).2).2).2)
 | 8,n=>mP c .add n
 | 9,n=>mP c .sub n
 | 10,n=>mP c .mul n
 | 11,n=>mP c .land n
 | 12,n=>mP c .lor n
 | 13,n=>mP c .vz n
 | 14,n=>mP c .lI n
 | 15,n=>mP c .quo n
 | 16,n=>mP c .rem n
 | 17,n=>mP c .shl n
 | 18,n=>mP c .shr n
 | 19,n=>qK c .neq n
 | 20,n=>qK c .leq n
 | 21,n=>qK c .gtr n
 | 22,n=>qK c .geq n
 | 23,n=>qK c .beq n
 | 24,n=>qK c .bne n
 | 25,n=>qK c .or n
 | 26,n=>J8 c .yp n
 | 27,n=>UW c .conv n
 | 28,n=>Bd c (.vB (nj (gG c) n).1) (nj (gG c) n).2
 | 29,n=>Bd c (.yq (nj (gG c) n).1) (nj (gG c) n).2
 | 30,n=>(.sR (nj xS n).1 (nj (gG c) (nj xS n).2).1,(nj (gG c) (nj xS n).2).2)
 | 31,n=>Bd c (.kZ (num n).1) (num n).2
 | 32,n=>(.kK (num n).1 (num (num n).2).1 (gG c (num (num n).2).2).1 (gG c (gG c (num (num n).2).2).2).1,(gG c (gG c (num (num n).2).2).2).2)
 | 33,n=>J8 c (.yu (num n).1 (num (num n).2).1 (xS (num (num n).2).2).1) (xS (num (num n).2).2).2
 | 34,n=>qK c .vC n
 | 35,n=>qK c (.p8 (num n).1) (num n).2
 | 36,n=>qK c (.sS (num n).1) (num n).2
 | 37,n=>(.yw (gG c n).1 (nj xS (gG c n).2).1 (nj (gG c) (nj xS (gG c n).2).2).1,(nj (gG c) (nj xS (gG c n).2).2).2)
 | 38,n=>J8 c .yx n
 | 39,n=>J8 c (.yy (num n).1 (num (num n).2).1 (num (num (num n).2).2).1 (xS (num (num (num n).2).2).2).1) (xS (num (num (num n).2).2).2).2
 | 40,n=>qK c (.vD (num n).1 (num (num n).2).1 (num (num (num n).2).2).1) (num (num (num n).2).2).2
 | _,n=>qK c .yz n
def J9:Nat->Nat->Nat->Em
 | 0,_,_=>[]
 | k+1,c,n=>(c,(zvU c n).1)::J9 k (c+1) (zvU c n).2
def Db (c n:Nat):(A×Bool)×Nat:=(((gG c n).1,Nat.beq ((gG c n).2%16) 1),(gG c n).2/16)
def UX (c n:Nat):Nd×Nat:=(⟨(nj (Db c) n).1,(gG c (nj (Db c) n).2).1⟩,(gG c (nj (Db c) n).2).2)
def dec (fE:Nat) (ls:List LR) (n:Nat):Out :=
 let k:=(num n).1
 let a:=nj (gG (fE+k)) (num n).2
 let o:=nj (UX (fE+k)) a.2
 ⟨J9 k fE o.2,o.1,ls,a.1⟩
end Go.Sx
namespace Go.Sx
variable {P:Program} {I:World->Prop} {gK:Nat}
structure CI where
 f:Nat
 s:aW
 g:List DV->List DV
def cE:List CI->aC->aC
 | [],d=>d
 | x::r,d=>fun f ds=>bif Nat.beq f x.f then x.g ds else cE r d f ds
def lE:List (Nat×(List DV->List DV))->aC
 | []=>fun _ _=>[]
 | x::r=>fun f ds=>bif Nat.beq f x.1 then x.2 ds else lE r f ds
def cL (c:List CI) (lm:List (Nat×Nat)) (n0:Nat) (hs:List (Nat×LH)) (yB:List Nat):bN:=⟨c.map fun x=>(x.f,x.s),[],lm,n0,hs,yB⟩
def uy (P:Program) (I:World->Prop) (gK:Nat) (c:List CI):Prop:=∀ x∈c,aI P I gK x.f x.s x.g
theorem cn:uy P I gK []:=fun _ h=>(by cases h)
theorem ck {f:Nat} {s:aW} {g:List DV->List DV} {c:List CI} (h:aI P I gK f s g) (t:uy P I gK c):uy P I gK (⟨f,s,g⟩::c):=List.forall_mem_cons.2 ⟨h,t⟩
theorem zvV {d:aC} : ∀ {c:List CI},uy P I gK c->∀ f s,assoc (c.map fun x=>(x.f,x.s)) f=some s->aI P I gK f s (cE c d f)
 | [],_,_,_,h=>by cases h
 | x::r,hc,f,s,h=>by
  have h':(if Nat.beq f x.f then some x.s else assoc (r.map fun x=>(x.f,x.s)) f)=some s:=h
  have e:cE (x::r) d f=bif Nat.beq f x.f then x.g else cE r d f:=funext fun ds=>by
   show (bif Nat.beq f x.f then x.g ds else cE r d f ds)=_
   cases Nat.beq f x.f<;>rfl
  rw [e]
  cases hb:Nat.beq f x.f with
  | true =>
   rw [hb] at h'
   cases (show some x.s=some s from h')
   have hf:=Nat.eq_of_beq_eq_true hb
   subst hf
   exact hc x (List.mem_cons_self ..)
  | false =>
   rw [hb] at h'
   exact zvV (fun y hy=>hc y (List.mem_cons_of_mem _ hy)) f s (show assoc (r.map fun x=>(x.f,x.s)) f=some s from h')
theorem sOK {c:List CI} {d:aC} {lm:List (Nat×Nat)} {n0:Nat} {hs:List (Nat×LH)} {yB:List Nat} (hc:uy P I gK c):bg P I gK (cL c lm n0 hs yB) (cE c d):=⟨fun f s h=>zvV hc f s h,fun _ _ h=>(by cases h)⟩
theorem kT {c:List CI} {d:aC} {lm:List (Nat×Nat)} {n0:Nat} {hs:List (Nat×LH)} {yB:List Nat} {fuel:Nat} {f:FuncId} {fn:Func} {s:aW} {o:Out} (hst:OI I gK) (hc:uy P I gK c) (hf:P.funcs[f]? = some fn)
  (dY:aQ P (cL c lm n0 hs yB) fuel fn s=some o) (hw:(Cg s.fE o.nodes&&o.wS s)=true) (hl:∀ l∈o.loops,jJ (cE c d) l):aI P I gK f s (aG (cE c d) s o) :=
 zx2 hst (sOK hc) hf dY (Bool.and_eq_true _ _▸hw).1 (Bool.and_eq_true _ _▸hw).2 hl fun _=>rfl
def jd (fid n k:Nat) (inv:List Nat) (ts:List Ty) (h:LH) (m:Nat):LR :=
 ⟨fid,n,k,inv,(dec (n+k) [] m).nodes,(dec (n+k) [] m).jr,(dec (n+k) [] m).outs.headD (.t false),((dec (n+k) [] m).outs.drop 1).take k,(dec (n+k) [] m).outs.drop (k+1),ts,h⟩
def J_ (F:aC) (l:LR) (tys:List Ty) (w c:List DV->Bool) (nx out:List DV->List DV):Prop:=∀ O xs,xs.length=l.k ->
 (zA (l.env F O xs) l.jr,l.c.bool (l.env F O xs),aT tys (l.inv.map O++l.nx.map (A.den (l.env F O xs))),aT (.i::l.ts) (l.outs.map (A.den (l.env F O xs)))) =
 (w (aT tys (l.inv.map O++xs)),c (aT tys (l.inv.map O++xs)),nx (aT tys (l.inv.map O++xs)),out (aT tys (l.inv.map O++xs)))
theorem hL {F:aC} {l:LR} {w c:List DV->Bool} {nx out:List DV->List DV} {tys:List Ty} (h:J_ F l tys w c nx out) (hF:∀ ds,F l.fid ds=jY (.i::l.ts) (dQ w c nx out (aT tys ds))) (hlen:l.outs.length=l.ts.length+1):jJ F l :=
 zwG tys hF hlen (fun O xs hx=>congrArg Prod.fst (h O xs hx)) (fun O xs hx=>congrArg (·.2.1) (h O xs hx)) (fun O xs hx=>congrArg (·.2.2.1) (h O xs hx)) (fun O xs hx=>congrArg (·.2.2.2) (h O xs hx))
theorem hB {F:aC} {l:LR} {b:List DV->Bool×Bool×List DV×List DV} {tys:List Ty} (h:∀ O xs,xs.length=l.k ->
  (zA (l.env F O xs) l.jr,l.c.bool (l.env F O xs),aT tys (l.inv.map O++l.nx.map (A.den (l.env F O xs))),aT (.i::l.ts) (l.outs.map (A.den (l.env F O xs))))=b (aT tys (l.inv.map O++xs)))
  (hF:∀ ds,F l.fid ds=jY (.i::l.ts) (dQ (fun s=>(b s).1) (fun s=>(b s).2.1) (fun s=>(b s).2.2.1) (fun s=>(b s).2.2.2) (aT tys ds))) (hlen:l.outs.length=l.ts.length+1):jJ F l :=
 hL (w:=fun s=>(b s).1) (c:=fun s=>(b s).2.1) (nx:=fun s=>(b s).2.2.1) (out:=fun s=>(b s).2.2.2) h hF hlen
theorem l0 {Q:LR->Prop} : ∀ l∈([]:List LR),Q l:=fun _ h=>(by cases h)
theorem l1 {Q:LR->Prop} {a:LR} {t:List LR} (h:Q a) (ht:∀ l∈t,Q l):∀ l∈a::t,Q l:=List.forall_mem_cons.2 ⟨h,ht⟩
theorem agr {F F':aC} {l:List Nat} {sg:aW} {o:Out} (hc:Bc l o.nodes=true) (h:l.map F=l.map F') (ds:List DV):aG F sg o ds=aG F' sg o ds :=
 zr6 hc (fun f hf=>by
  obtain ⟨i,hi,rfl⟩:=List.getElem_of_mem hf
  have:=congrArg (fun x:List (List DV->List DV)=>x[i]?) h
  simpa [hi] using this) ds
theorem kd {F E:aC} {f:Nat} {s:aW} {o:Out} (l:List Nat) (h:(F f,Bc l o.nodes,l.map E)=(aG E s o,true,l.map F)):KD.ok F f (.fn s o):=fun ds _=>by
 rw [show F f=aG E s o from congrArg Prod.fst h]
 exact agr (congrArg (·.2.1) h) (congrArg (·.2.2) h) ds
theorem Gl {F:aC} {f:Nat} {l:LR} {w c:List DV->Bool} {nx out:List DV->List DV} {tys:List Ty} (h:J_ F l tys w c nx out) (hF:∀ ds,F f ds=jY (.i::l.ts) (dQ w c nx out (aT tys ds))):KD.ok F f (.lp l tys) :=
 ⟨w,c,nx,out,hF,fun O xs hx=>congrArg Prod.fst (h O xs hx),fun O xs hx=>congrArg (·.2.1) (h O xs hx),fun O xs hx=>congrArg (·.2.2.1) (h O xs hx),fun O xs hx=>congrArg (·.2.2.2) (h O xs hx)⟩
theorem Gm {F:aC} {f:Nat} {g:List DV->List DV} (h:F f=g):KD.ok F f (.hand g):=fun _=>by rw [h]
theorem fm {F:aC} {f:Nat} {k:KD} {l:List (Nat×KD)} (h:KD.ok F f k) (t:∀ p∈l,KD.ok F p.1 p.2):∀ p∈(f,k)::l,KD.ok F p.1 p.2:=List.forall_mem_cons.2 ⟨h,t⟩
theorem tOK {F:aC} {l:List (Nat×KD)} (h:∀ p∈l,KD.ok F p.1 p.2):∀ f c,assoc l f=some c->c.ok F f:=fun _ _ e=>ztp (Q:=fun f c=>KD.ok F f c) h e
end Go.Sx
end
