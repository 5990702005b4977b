/- Regions whose order is drawn, in which all that turns or makes something stands in one chain: in any order they do what the evaluator says. -/
import Derived.Test.YtedoffkaehcnmaaGreatDoorF3
namespace Go.Sx
open Go.RowKit
section
variable {P:Program} {I:World→Prop} {S:Sigs} {F:FEnv} {E:Env} {gK:Nat} {ν:Nat→DV}
theorem zrU {o:Oper} {a a':Act} {l:List Operand} (he:znt o.op=some l) (h:∀ t∈zi8 o.op,a'.tmps[t]? = a.tmps[t]?):execOp a.eval o=execOp a'.eval o:=by
 have key:∀ x∈l,a.eval x=a'.eval x:=fun x hx=>zcw fun t ht=>h t (by
  unfold zi8
  rw [he]
  exact List.mem_flatMap.2 ⟨x,hx,ht⟩)
 have keyo:∀ y:Option Operand,(∀ x∈y.toList,a.eval x=a'.eval x)→y.map a.eval=y.map a'.eval:=fun y hy=>by
  cases y with
  | none=>rfl
  | some x=>simp [hy x (by simp)]
 cases hop:o.op<;>rw [hop] at he<;>simp only [znt] at he<;>(try cases he)<;>simp only [execOp,hop]
 case box t x=>rw [key x (by simp)]
 case buildSlice t len ps =>
  have:(ps.map fun (i,x)=>(i,a.eval x))=ps.map fun (i,x)=>(i,a'.eval x):=by
   apply Array.ext'
   simp only [Array.toList_map]
   exact List.map_congr_left fun p hp=>by rw [key p.2 (List.mem_map.2 ⟨p,hp,rfl⟩)]
  rw [this]
 case insert t m k v=>rw [key m (by simp),key k (by simp),key v (by simp)]
 case store t x y=>rw [key x (by simp),key y (by simp)]
 case makeInterface t x=>rw [key x (by simp)]
 case convert t d x=>rw [key x (by simp)]
 case makeMap t r=>rw [keyo r fun y hy=>key y hy]
 case makeSlice t l c=>rw [key l (by simp),key c (by simp)]
 case slice t x lo hi mx =>
  rw [key x (by simp),keyo lo fun y hy=>key y (by simp at hy ⊢;exact .inr (.inl hy)),keyo hi fun y hy=>key y (by simp at hy ⊢;exact .inr (.inr (.inl hy))),keyo mx fun y hy=>key y (by simp at hy ⊢;exact .inr (.inr (.inr hy)))]
 case lookup t m k c=>rw [key m (by simp),key k (by simp)]
 case call c =>
  have hargs:c.args.map a.eval=c.args.map a'.eval:=by
   apply Array.ext'
   simp only [Array.toList_map]
   exact List.map_congr_left fun z hz=>key z (List.mem_append_right _ hz)
  cases hcal:c.callee with
  | value y=>simp only [resolve,hcal,hargs,key y (List.mem_append_left _ (by rw [hcal];simp))]
  | invoke y n=>simp only [resolve,hcal,hargs,key y (List.mem_append_left _ (by rw [hcal];simp))]
  | builtin b=>simp only [resolve,hcal,hargs]
theorem zqW {v:Value} {o:Oper} (h:eff4 o.op=false):nopY v o=o:=by unfold nopY;rw [h];rfl
theorem ziN {v:Value} {o:Oper} (h:eff4 o.op=true):nopY v o = { o with op:=.move (.const v) }:=by unfold nopY;rw [if_pos h]
theorem zbS (v:Value) (o:Oper):(nopY v o).dst=o.dst∧(nopY v o).guard=o.guard∧(nopY v o).after=o.after:=by unfold nopY;split<;>exact ⟨rfl,rfl,rfl⟩
theorem zhO {o:Oper} {r r1:RS} {v:V} (he:eff4 o.op=true) (hg:o.guard=none) (hgood:v.good ν) (hput:∀ ρ a (x:Value),ARel ν ρ r a→(∀ u,some v=some u→u.good ν∧x=u.conc ν ρ)→ARel ν ρ r1 (a.put o.dst x))
  (ρ:Nat→Loc) (a:Act) (hra:ARel ν ρ r a) (C:World→Prop) (ops':Array Oper) :
  if Region.wanted (nopY (v.conc ν ρ) o) (yielded ops' a.tmps)=true then ∃ u,(∀ w,C w→(nopY (v.conc ν ρ) o).quietAt P a C w u)∧ARel ν ρ r1 (a.put (nopY (v.conc ν ρ) o).dst u) else ARel ν ρ r1 (a.put (nopY (v.conc ν ρ) o).dst undef):=by
 rw [ziN he]
 rw [if_pos (by simp [Region.wanted,hg])]
 refine ⟨v.conc ν ρ,fun w _=>?_,hput ρ a _ hra fun u hu=>by cases hu;exact ⟨hgood,rfl⟩⟩
 unfold Oper.quietAt
 simp [execOp,Act.eval,Oper.quietUpon]
def ChFact (P:Program) (I:World→Prop) (E:Env) (ν:Nat→DV) (ops:Array Oper) (o:Oper) (e:ChE) (H:List (Option Blk)):Prop :=
 ∀ θ a w,ARel ν θ ⟨⟨e.sl,e.R⟩,e.gl⟩ a→Region.wanted o (yielded ops a.tmps)=true→HS E ν θ e.R w→I w →
  zgV P (execOp a.eval o) w fun v w'=>(turn4 o.op=true→∃ θ':Nat→Loc,(∀ q,q<H.length→θ' q=θ q)∧(o.dst=none∨e.v.conc ν θ'=v)∧HS E ν θ' e.H w') ∧
   (turn4 o.op=false→(o.dst=none∨e.v.conc ν θ=v)∧∀ H',HS E ν θ H' w→HS E ν θ H' w')
def ChSkip (E:Env) (ν:Nat→DV) (ops:Array Oper) (o:Oper) (e:ChE) (H:List (Option Blk)):Prop :=
 ∀ θ a w,ARel ν θ ⟨⟨e.sl,e.R⟩,e.gl⟩ a→Region.wanted o (yielded ops a.tmps)=false→HS E ν θ H w→∃ θ':Nat→Loc,(∀ q,q<H.length→θ' q=θ q)∧HS E ν θ' e.H w
structure ChEff (P:Program) (I:World→Prop) (E:Env) (ν:Nat→DV) (ops:Array Oper) (o:Oper) (e:ChE) (H:List (Option Blk)):Prop where
 lt:e.v.lt e.H.length=true
 lt0:turn4 o.op=false→e.v.lt 0=true
 R:turn4 o.op=true→e.R=H
 fact:ChFact P I E ν ops o e H
 skip:ChSkip E ν ops o e H
structure ChOK (P:Program) (I:World→Prop) (E:Env) (ν:Nat→DV) (ops:Array Oper) (l:List Oper) (r:RS) (H:List (Option Blk)) (r':RS) (es:List ChE):Prop where
 len:es.length=l.length
 hp:r'.st.hp=r.st.hp
 quiet:∀ ρ a,ARel ν ρ r a→(∃ w,HS E ν ρ r.st.hp w)→∀ C:World→Prop,C=(fun w=>HS E ν ρ r.st.hp w)→∀ ops':Array Oper,(∀ j:Nat,(ops'[j]?).bind (·.dst)=(ops[j]?).bind (·.dst)) →
  ∀ Q:Act→Prop,(∀ a',ARel ν ρ r' a'→Q a')→wpQuiet P ops' C Q (List.zipWith (fun o e=>nopY (e.v.conc ν ρ) o) l es) a
 eff:∀ (i:Nat) (o:Oper) (e:ChE),l[i]? = some o→es[i]? = some e→eff4 o.op=true→ChEff P I E ν ops o e (chBef H es i)
 mono:∀ i,i<l.length→(chBef H es i).length≤(chBef H es (i+1)).length
 lt:hpLt H=true→∀ i,i≤l.length→hpLt (chBef H es i)=true
 still:∀ (i:Nat) (o:Oper),l[i]? = some o→turn4 o.op=false→chBef H es (i+1)=chBef H es i
theorem zcl (H:List (Option Blk)) (e:ChE) (es:List ChE) (i:Nat):chBef H (e::es) (i+1)=chBef e.H es i:=by
 cases i with
 | zero=>rfl
 | succ i=>simp [chBef]
theorem zlQ (H:List (Option Blk)):∀ es:List ChE,chBef H es es.length=zrn H es
 | []=>rfl
 | e::es=>by rw [List.length_cons,zcl,zlQ e.H es];rfl
theorem zj1:zdd.good ν:=by
 unfold zdd
 exact V.good_s.2 (V1.good_one.2 trivial)
theorem zgY (n:Nat):V.lt n zdd=true:=rfl
theorem ChOK.cons {ops:Array Oper} {o:Oper} {l:List Oper} {r r1 r2:RS} {H:List (Option Blk)} {e:ChE} {es:List ChE} (h:ChOK P I E ν ops l r1 e.H r2 es) (hr:r1.st.hp=r.st.hp)
  (hq:∀ ρ a,ARel ν ρ r a→(∃ w,HS E ν ρ r.st.hp w)→∀ C:World→Prop,C=(fun w=>HS E ν ρ r.st.hp w)→∀ ops':Array Oper,(∀ j:Nat,(ops'[j]?).bind (·.dst)=(ops[j]?).bind (·.dst)) →
   if Region.wanted (nopY (e.v.conc ν ρ) o) (yielded ops' a.tmps)=true then ∃ u,(∀ w,C w→(nopY (e.v.conc ν ρ) o).quietAt P a C w u)∧ARel ν ρ r1 (a.put (nopY (e.v.conc ν ρ) o).dst u) else ARel ν ρ r1 (a.put (nopY (e.v.conc ν ρ) o).dst undef))
  (heff:eff4 o.op=true→ChEff P I E ν ops o e H) (hmono:H.length≤e.H.length) (hlt:hpLt H=true→hpLt e.H=true) (hst:turn4 o.op=false→e.H=H):ChOK P I E ν ops (o::l) r H r2 (e::es):=by
 refine ⟨by simp [h.len],h.hp.trans hr,fun ρ a hra hex C hC ops' hd Q hQ=>?_,fun i o' e' ho' he' hef=>?_,fun i hi=>?_,fun hl i hi=>?_,fun i o' ho' hef=>?_⟩
 ·have:=hq ρ a hra hex C hC ops' hd
  simp only [List.zipWith_cons_cons,wpQuiet]
  split
  ·rename_i hw
   rw [if_pos hw] at this
   obtain ⟨v,h7,h8⟩:=this
   exact ⟨v,h7,h.quiet ρ _ h8 (by rw [hr];exact hex) C (by rw [hr];exact hC) ops' hd Q hQ⟩
  ·rename_i hw
   rw [if_neg hw] at this
   exact h.quiet ρ _ this (by rw [hr];exact hex) C (by rw [hr];exact hC) ops' hd Q hQ
 ·cases i with
  | zero =>
   rw [List.getElem?_cons_zero] at ho' he'
   cases ho';cases he'
   exact heff hef
  | succ i =>
   rw [List.getElem?_cons_succ] at ho' he'
   rw [zcl]
   exact h.eff i o' e' ho' he' hef
 ·cases i with
  | zero=>exact hmono
  | succ i =>
   rw [zcl,zcl]
   exact h.mono i (by simpa using hi)
 ·cases i with
  | zero=>exact hl
  | succ i =>
   rw [zcl]
   exact h.lt (hlt hl) i (by simpa using hi)
 ·cases i with
  | zero =>
   rw [List.getElem?_cons_zero] at ho'
   cases ho'
   exact hst hef
  | succ i =>
   rw [List.getElem?_cons_succ] at ho'
   rw [zcl,zcl]
   exact h.still i o' ho' hef
theorem V.lt_mono {n m:Nat} (h:n≤m) {x:V} (hx:x.lt n=true):x.lt m=true:=by
 have h1:∀ y:V1,y.lt n=true→y.lt m=true:=fun y hy=>List.all_eq_true.2 fun z hz=>Lf.lt_mono h (List.all_eq_true.1 hy z hz)
 cases x with
 | s v=>exact h1 v hx
 | t l=>exact List.all_eq_true.2 fun z hz=>h1 z (List.all_eq_true.1 hx z hz)
theorem zrV {n0:Nat} (hn:n0=E.n0) {cs:List (A×Bool)} {H H':List (Option Blk)} : M.sat F ν (zsJ n0 cs H H') (fun r=>H.length≤H'.length∧H'.length≤r.length∧hpLt r=true ∧
  ((∀ c∈cs,c.1.bool ν=c.2)→∀ ρ w,HS E ν ρ H' w→∃ ρ':Nat→Loc,(∀ j,j<H'.length→ρ' j=ρ j)∧HS E ν ρ' r w) ∧
  (¬ (∀ c∈cs,c.1.bool ν=c.2)→∀ ρ w,HS E ν ρ H w→∃ ρ':Nat→Loc,(∀ j,j<H.length→ρ' j=ρ j)∧HS E ν ρ' r w)):=by
 unfold zsJ
 refine zae (fun hc=>?_) (fun _=>zac)
 simp only [Bool.and_eq_true] at hc
 obtain ⟨⟨c1,c2⟩,c3⟩:=hc
 have c1:=Nat.le_of_ble_eq_true c1
 have c2:=Nat.le_of_ble_eq_true c2
 refine zaa (zmE cs) fun c hcb=>zaa (zcu (E:=E) _) fun t ht=>zaa (zdj (E:=E) (by omega)) fun s hs=>zae (fun hk=>zab ?_) (fun _=>zac)
 simp only [Bool.and_eq_true] at hk
 have rr:∀ (h:List (Option Blk)) (ρ:Nat→Loc) (w:World),HS E ν ρ h w→RR ν E ρ ⟨⟨[],h⟩,[]⟩ { tmps:=#[],defers:=[] } w:=fun h ρ w hw =>
  ⟨⟨rfl,rfl,fun t v ht=>(by cases t<;>cases ht),fun e he=>(by cases he)⟩,hw⟩
 refine ⟨c2,Nat.le_of_ble_eq_true hk.1,hk.2,fun hall ρ w hw=>?_,fun hall ρ w hw=>?_⟩
 ·obtain ⟨ρ',e1,e2⟩:=(hs ρ _ w).1 (hcb.2 hall) (rr _ ρ w hw)
  exact ⟨ρ',e1,e2.hs⟩
 ·have hcf:c.bool ν=false:=by
   cases h:c.bool ν with
   | false=>rfl
   | true=>exact absurd (hcb.1 h) hall
  obtain ⟨ρ1,e1,e2⟩:=ht.2 ρ H w hw c3
  obtain ⟨ρ2,e3,e4⟩:=(hs ρ1 _ w).2 hcf (rr _ ρ1 w e2)
  exact ⟨ρ2,fun j hj=>(e3 j (by omega)).trans (e1 j hj),e4.hs⟩
theorem ChFact.val {ops:Array Oper} {o:Oper} {e:ChE} {H:List (Option Blk)} (hR:turn4 o.op=true→e.R=H) (hH:e.H=H)
  (h:∀ θ a w,ARel ν θ ⟨⟨e.sl,e.R⟩,e.gl⟩ a→Region.wanted o (yielded ops a.tmps)=true→HS E ν θ e.R w→I w→zgV P (execOp a.eval o) w fun v w'=>e.v.conc ν θ=v∧∀ H',HS E ν θ H' w→HS E ν θ H' w'):ChFact P I E ν ops o e H:=by
 intro θ a w ha hwt hh hI
 refine (h θ a w ha hwt hh hI).mono fun v w' ⟨k1,k2⟩=>⟨fun ht=>⟨θ,fun _ _=>rfl,.inr k1,?_⟩,fun _=>⟨.inr k1,k2⟩⟩
 rw [hH]
 exact k2 H (by rw [←hR ht];exact hh)
theorem ChFact.turn {ops:Array Oper} {o:Oper} {e:ChE} {H:List (Option Blk)} (ht:turn4 o.op=true)
  (h:∀ θ a w,ARel ν θ ⟨⟨e.sl,e.R⟩,e.gl⟩ a→Region.wanted o (yielded ops a.tmps)=true→HS E ν θ e.R w→I w→zgV P (execOp a.eval o) w fun v w'=>∃ θ':Nat→Loc,(∀ q,q<H.length→θ' q=θ q)∧(o.dst=none∨e.v.conc ν θ'=v)∧HS E ν θ' e.H w'):ChFact P I E ν ops o e H:=by
 intro θ a w ha hwt hh hI
 exact (h θ a w ha hwt hh hI).mono fun v w' k=>⟨fun _=>k,fun hf=>by rw [ht] at hf;cases hf⟩
theorem ChSkip.none {ops:Array Oper} {o:Oper} {e:ChE} {H:List (Option Blk)} (hg:o.guard=none):ChSkip E ν ops o e H:=by
 intro θ a w _ hw
 simp [Region.wanted,hg] at hw
theorem ChSkip.still {ops:Array Oper} {o:Oper} {e:ChE} {H:List (Option Blk)} (hH:e.H=H):ChSkip E ν ops o e H:=fun θ a w _ _ hw=>⟨θ,fun _ _=>rfl,by rw [hH];exact hw⟩
theorem zcx (hS:SigsOK P I gK S F) (hE:E.Ok gK) (hn0:S.n0=E.n0) (hI:∀ w,Fr E.W E.w0 w→I w) {ops:Array Oper} {HL:Option (List (Option Blk))} : ∀ (l:List Oper) (r:RS) (H:List (Option Blk)),(∀ o∈l,zsI o=true) →
  M.sat F ν (zis P S ops.toList HL l r H) (fun z=>ChOK P I E ν ops l r H z.1 z.2)
 | [],r,H,_=>by
  unfold zis
  exact zab ⟨rfl,rfl,fun ρ a h _ C _ ops' _ Q hQ=>hQ a h,fun i o e h=>by simp at h,fun i h=>by simp at h,fun hl i hi=>by
   have:i=0:=by simpa using hi
   subst this;exact hl,fun i o h=>by simp at h⟩
 | o::l,r,H,hl=>by
  have hh:=hl o (by simp)
  have hl':∀ o'∈l,zsI o'=true:=fun o' h'=>hl o' (List.mem_cons_of_mem _ h')
  unfold zis
  refine zae (fun heff=>?_) (fun hne=>?_)
  ·dsimp only
   have hR0:turn4 o.op=true→(if turn4 o.op=true then H else zxl HL H)=H:=fun ht=>by rw [if_pos ht]
   generalize (if turn4 o.op=true then H else zxl HL H)=R at hR0 ⊢
   split
   ·-- behind a guard
    rename_i j want hg
    refine zaa (zad (Q:=fun d=>(ops[j]?).bind (·.dst)=some d) fun a h=>by simpa using h) fun d hd=>?_
    have hwd:∀ (a:Act),Region.wanted o (yielded ops a.tmps)=true↔a.tmps[d]? = some (.bool want):=fun a=>zgd hg hd
    have hsub:∀ ρ a,ARel ν ρ r a→ARel ν ρ ⟨⟨zdg (d::r.gl.map (·.d)++zi8 o.op) 0 r.st.sl,R⟩,r.gl⟩ a:=fun ρ a h=>by
     refine ⟨h.defers,by rw [h.size];exact (zlM _ _).symm,fun t v ht=>h.slot t v ?_,h.gl⟩
     simp only at ht
     rw [zlN] at ht
     split at ht
     ·exact ht
     ·cases ht
    generalize zdg (d::r.gl.map (·.d)++zi8 o.op) 0 r.st.sl=sl at hsub ⊢
    refine zaa (zad (Q:=fun res=>zbP ⟨⟨sl,R⟩,r.gl⟩ 8 d want=some res) fun a h=>h) fun res hres=>?_
    split
    ·refine zaa zbN fun r1 hr1=>zaa (zcx hS hE hn0 hI l r1 H hl') fun z hz=>zab ?_
     refine ChOK.cons (e:=⟨sl,r.gl,zdd,H,R⟩) hz hr1.1 (fun ρ a hra hex C hC ops' hd'=>?_) (fun _=>⟨zgY _,fun _=>zgY _,hR0,fun θ a w ha hw _ _=>?_,.still rfl⟩) (Nat.le_refl _) id (fun _=>rfl)
     ·have hn:a.tmps[d]?≠some (.bool want):=zav (hsub ρ a hra) 8 d want hres
      rw [ziN heff]
      have hw2:Region.wanted { o with op:=.move (.const (zdd.conc ν ρ)) } (yielded ops' a.tmps)=Region.wanted o (yielded ops a.tmps):=by rw [za0 hd'];rfl
      rw [hw2,if_neg (fun h=>hn ((hwd a).1 h))]
      exact hr1.2 ρ a _ hra (fun v hv=>by cases hv;exact ⟨zj1,rfl⟩)
     ·exact absurd ((hwd a).1 hw) (zav ha 8 d want hres)
    ·rename_i ctx cs
     refine zaa (zeR (zeg (E:=E) (r:=⟨⟨sl,R⟩,r.gl⟩) (ctx:=ctx) (o:=o) hS hE)) fun x hx=>?_
     have hx2:∀ ρ a,ARel ν ρ ⟨⟨sl,R⟩,r.gl⟩ a→a.tmps[d]? = some (.bool want)→ORok P I E ν ρ R (execOp a.eval o) x:=fun ρ a ha hd'=>by
      have:=(zav ha 8 d want hres).1 hd'
      exact hx this.2 ρ a ha this.1
     -- the slot
     have hput:∀ {v:V},v.easy=true→M.sat F ν (if ctx.isEmpty=true then r.put o.dst (some v) else r.putG o.dst v d want) (fun r1=>r1.st.hp=r.st.hp∧∀ ρ a (x:Value),ARel ν ρ r a→(a.tmps[d]? = some (.bool want)→x=v.conc ν ρ)→(a.tmps[d]?≠some (.bool want)→x=undef)→ARel ν ρ r1 (a.put o.dst x)):=by
      intro v hev
      refine zae (fun hemp=>?_) (fun _=>?_)
      ·have hemp:ctx=[]:=List.isEmpty_iff.1 hemp
       subst hemp
       refine zag zbN fun r1 hr1=>⟨hr1.1,fun ρ a x hra h1 _=>hr1.2 ρ a x hra fun u hu=>?_⟩
       cases hu
       exact ⟨V.easy_good hev,h1 ((zav (hsub ρ a hra) 8 d want hres).2.1 rfl)⟩
      ·exact zag ziL fun r1 hr1=>⟨hr1.1,fun ρ a x hra h1 h2=>hr1.2 ρ a x hra (fun h=>⟨V.easy_good hev,h1 h⟩) h2⟩
     have hquiet:∀ {v:V} {r1:RS},(∀ ρ a (x:Value),ARel ν ρ r a→(a.tmps[d]? = some (.bool want)→x=v.conc ν ρ)→(a.tmps[d]?≠some (.bool want)→x=undef)→ARel ν ρ r1 (a.put o.dst x))→∀ ρ a,ARel ν ρ r a→∀ (C:World→Prop) (ops':Array Oper),(∀ j:Nat,(ops'[j]?).bind (·.dst)=(ops[j]?).bind (·.dst)) →
       if Region.wanted (nopY (v.conc ν ρ) o) (yielded ops' a.tmps)=true then ∃ u,(∀ w,C w→(nopY (v.conc ν ρ) o).quietAt P a C w u)∧ARel ν ρ r1 (a.put (nopY (v.conc ν ρ) o).dst u) else ARel ν ρ r1 (a.put (nopY (v.conc ν ρ) o).dst undef):=by
      intro v r1 hr1 ρ a hra C ops' hd'
      rw [ziN heff]
      have hw2:Region.wanted { o with op:=.move (.const (v.conc ν ρ)) } (yielded ops' a.tmps)=Region.wanted o (yielded ops a.tmps):=by rw [za0 hd'];rfl
      rw [hw2]
      split
      ·rename_i hw
       refine ⟨v.conc ν ρ,fun w _=>?_,hr1 ρ a _ hra (fun _=>rfl) fun h=>absurd ((hwd a).1 hw) h⟩
       unfold Oper.quietAt
       simp [execOp,Act.eval,Oper.quietUpon]
      ·rename_i hw
       exact hr1 ρ a _ hra (fun h=>absurd ((hwd a).2 h) hw) fun _=>rfl
     split
     ·rename_i v
      refine zae (fun hc=>?_) (fun _=>zac)
      simp only [Bool.and_eq_true,Bool.or_eq_true] at hc
      obtain ⟨⟨c1,c2⟩,c3⟩:=hc
      refine zaa (hput c1) fun r1 hr1=>zaa (zcx hS hE hn0 hI l r1 H hl') fun z hz=>zab ?_
      refine ChOK.cons (e:=⟨sl,r.gl,v,H,R⟩) hz hr1.1 (fun ρ a hra hex C hC ops' hd'=>hquiet hr1.2 ρ a hra C ops' hd') (fun _=>⟨c2,fun ht=>c3.resolve_left (by rw [ht];decide),hR0,.val hR0 rfl fun θ a w ha hw hh hI'=>?_,.still rfl⟩) (Nat.le_refl _) id (fun _=>rfl)
      obtain ⟨hgd,hr⟩:=hx2 θ a ha ((hwd a).1 hw) w hh hI'
      rcases hr with hr | ⟨f,args,hr,hcl⟩
      ·exact .inl ⟨_,w,.inl hr,rfl,fun _ h=>h⟩
      ·exact .inr ⟨f,args,w,hr,hcl.mono fun e w' ⟨he,hb⟩=>⟨_,he,rfl,fun _ h=>h.of_below hb⟩⟩
     ·rename_i v H'
      refine zae (fun hc=>?_) (fun _=>zac)
      simp only [Bool.and_eq_true] at hc
      obtain ⟨⟨c1,c2⟩,c3⟩:=hc
      have hRH:=hR0 c1
      subst hRH
      refine zaa (zrV hn0) fun H2 ⟨j1,j2,j3,j4,j5⟩=>zaa (hput c2) fun r1 hr1=>zaa (zcx hS hE hn0 hI l r1 H2 hl') fun z hz=>zab ?_
      refine ChOK.cons (e:=⟨sl,r.gl,v,H2,R⟩) hz hr1.1 (fun ρ a hra hex C hC ops' hd'=>hquiet hr1.2 ρ a hra C ops' hd') (fun _=>⟨V.lt_mono j2 c3,fun ht=>(by rw [c1] at ht;cases ht),hR0,.turn c1 fun θ a w ha hw hh hI'=>?_,fun θ a w ha hw hh=>?_⟩) (by show _≤H2.length;omega) (fun _=>j3) (fun h=>by rw [c1] at h;cases h)
      ·have hcs:=(zav ha 8 d want hres).1 ((hwd a).1 hw)
       have fin:∀ θ' w' (y:Value),(∀ q,q<R.length→θ' q=θ q)→HS E ν θ' H' w'→v.conc ν θ'=y→∃ θ2:Nat→Loc,(∀ q,q<R.length→θ2 q=θ q)∧(o.dst=none∨v.conc ν θ2=y)∧HS E ν θ2 H2 w':=fun θ' w' y k1 k2 k3=>by
        obtain ⟨θ2,e1,e2⟩:=j4 hcs.2 θ' w' k2
        exact ⟨θ2,fun q hq=>(e1 q (by omega)).trans (k1 q hq),.inr (by rw [V.conc_agree e1 c3];exact k3),e2⟩
       rcases hx2 θ a ha ((hwd a).1 hw) w hh hI' with ⟨y,w',hr,θ',k1,k2,k3⟩ | ⟨w',hr,θ',k1,k2,k3⟩ | ⟨f,args,hr,hcl⟩
       ·exact .inl ⟨y,w',.inl hr,fin θ' w' y k1 k2 (Option.some.inj (k3 v rfl).2).symm⟩
       ·have:=(k3 v rfl).2
        cases this
       ·exact .inr ⟨f,args,w,hr,hcl.mono fun e w' ⟨y,he,θ',k1,k2,k3⟩=>⟨y,he,fin θ' w' y k1 k2 (Option.some.inj (k3 v rfl).2).symm⟩⟩
      ·refine j5 (fun hall=>?_) θ w hh
       have:=(hwd a).2 ((zav ha 8 d want hres).2.2 hall)
       rw [hw] at this;cases this
     ·exact zac
   rename_i hg
   generalize hsl:zdg (zi8 o.op) 0 r.st.sl=sl
   refine zaa (zeg (E:=E) (r:=⟨⟨sl,R⟩,[]⟩) (ctx:=[]) (o:=o) hS hE) fun res hres=>?_
   have hctx:∀ a:Act,zdM [] a:=fun a p hp=>by simp at hp
   split
   ·rename_i v
    refine zae (fun hc=>?_) (fun _=>zac)
    simp only [Bool.and_eq_true,Bool.or_eq_true] at hc
    obtain ⟨⟨c1,c2⟩,c3⟩:=hc
    refine zaa zbN fun r1 hr1=>zaa (zcx hS hE hn0 hI l r1 H hl') fun z hz=>zab ?_
    refine ChOK.cons (e:=⟨sl,[],v,H,R⟩) hz hr1.1 (fun ρ a hra hex C hC ops' hd=>zhO (P:=P) heff hg (V.easy_good c1) hr1.2 ρ a hra C ops') (fun _=>⟨c2,fun ht=>c3.resolve_left (by rw [ht];decide),hR0,.val hR0 rfl fun θ a w ha _ hw hI'=>?_,.none hg⟩) (Nat.le_refl _) id (fun _=>rfl)
    obtain ⟨hgd,hr⟩:=hres θ a ha (hctx a) w hw hI'
    rcases hr with hr | ⟨f,args,hr,hcl⟩
    ·exact .inl ⟨_,w,.inl hr,rfl,fun _ h=>h⟩
    ·exact .inr ⟨f,args,w,hr,hcl.mono fun e w' ⟨he,hb⟩=>⟨_,he,rfl,fun _ h=>h.of_below hb⟩⟩
   ·rename_i v H'
    refine zae (fun hc=>?_) (fun _=>zac)
    simp only [Bool.and_eq_true] at hc
    obtain ⟨⟨⟨⟨c0,c1⟩,c2⟩,c3⟩,c4⟩:=hc
    have hRH:=hR0 c0
    subst hRH
    refine zaa zbN fun r1 hr1=>zaa (zcx hS hE hn0 hI l r1 H' hl') fun z hz=>zab ?_
    refine ChOK.cons (e:=⟨sl,[],v,H',R⟩) hz hr1.1 (fun ρ a hra hex C hC ops' hd=>zhO (P:=P) heff hg (V.easy_good c1) hr1.2 ρ a hra C ops') (fun _=>⟨c2,fun ht=>(by rw [c0] at ht;cases ht),hR0,.turn c0 fun θ a w ha _ hw hI'=>?_,.none hg⟩) (Nat.le_of_ble_eq_true c3) (fun _=>c4) (fun h=>by rw [c0] at h;cases h)
    rcases hres θ a ha (hctx a) w hw hI' with ⟨x,w',hr,θ',k1,k2,k3⟩ | ⟨w',hr,θ',k1,k2,k3⟩ | ⟨f,args,hr,hcl⟩
    ·exact .inl ⟨x,w',.inl hr,θ',k1,.inr (by have:=(k3 v rfl).2;exact (Option.some.inj this).symm),k2⟩
    ·have:=(k3 v rfl).2
     cases this
    ·exact .inr ⟨f,args,w,hr,hcl.mono fun e w' ⟨x,he,θ',k1,k2,k3⟩=>⟨x,he,θ',k1,.inr (by have:=(k3 v rfl).2;exact (Option.some.inj this).symm),k2⟩⟩
   ·rename_i H'
    refine zae (fun hc=>?_) (fun _=>zac)
    simp only [Bool.and_eq_true] at hc
    obtain ⟨⟨⟨c0,c1⟩,c3⟩,c4⟩:=hc
    have hRH:=hR0 c0
    subst hRH
    have hdst:o.dst=none:=by simpa using c1
    refine zaa (zcx hS hE hn0 hI l r H' hl') fun z hz=>zab ?_
    refine ChOK.cons (e:=⟨sl,[],zdd,H',R⟩) hz rfl (fun ρ a hra hex C hC ops' hd=>zhO (P:=P) heff hg zj1 (fun ρ a x hra _=>by rw [hdst];exact hra) ρ a hra C ops') (fun _=>⟨zgY _,fun _=>zgY _,hR0,.turn c0 fun θ a w ha _ hw hI'=>?_,.none hg⟩) (Nat.le_of_ble_eq_true c3) (fun _=>c4) (fun h=>by rw [c0] at h;cases h)
    rcases hres θ a ha (hctx a) w hw hI' with ⟨x,w',hr,θ',k1,k2,k3⟩ | ⟨w',hr,θ',k1,k2,k3⟩ | ⟨f,args,hr,hcl⟩
    ·exact .inl ⟨x,w',.inl hr,θ',k1,.inl hdst,k2⟩
    ·exact .inl ⟨undef,w',.inr ⟨hr,rfl⟩,θ',k1,.inl hdst,k2⟩
    ·exact .inr ⟨f,args,w,hr,hcl.mono fun e w' ⟨x,he,θ',k1,k2,k3⟩=>⟨x,he,θ',k1,.inl hdst,k2⟩⟩
  ·have hne:eff4 o.op=false:=by simpa using hne
   refine zaa (zcQ (E:=E) (ops:=ops) hS hE hn0 hI true) fun r1 hr1=>zaa (zcx hS hE hn0 hI l r1 H hl') fun z hz=>zab ?_
   have hq:=hr1.2 rfl
   refine ChOK.cons (e:=⟨[],[],zdd,H,H⟩) hz hq.1 (fun ρ a hra hex C hC ops' hd=>?_) (fun h=>by rw [hne] at h;cases h) (Nat.le_refl _) id (fun _=>rfl)
   have:=hq.2 ρ a hra hex C hC
   rw [zqW hne,za0 hd]
   exact this
theorem zdS:∀ {Hq H:List (Option Blk)},zeQ Hq H=true→∀ j bk,nth Hq j=some bk→nth H j=some bk
 | [],_,_,j,bk,h=>by cases j<;>cases h
 | none::l,H,hk,j,bk,h=>by
  simp only [zeQ] at hk
  cases j with
  | zero=>cases h
  | succ j =>
   have:=zdS hk j bk h
   cases H with
   | nil=>cases j<;>cases this
   | cons y l'=>exact this
 | some x::l,some y::l',hk,j,bk,h=>by
  simp only [zeQ,Bool.and_eq_true] at hk
  cases j with
  | zero=>cases h;rw [Blk.eqS_eq hk.1];rfl
  | succ j=>exact zdS hk.2 j bk h
 | some _::_,[],hk,_,_,_=>by simp [zeQ] at hk
 | some _::_,none::_,hk,_,_,_=>by simp [zeQ] at hk
theorem HS.forget {θ:Nat→Loc} {H Hq:List (Option Blk)} {w:World} (h:HS E ν θ H w) (hl:E.n0≤Hq.length) (hk:∀ j bk,nth Hq j=some bk→nth H j=some bk):HS E ν θ Hq w :=
 ⟨⟨fun j bk hj=>h.heap.blk j bk (hk j bk hj),fun j j' bk bk' hj ho hj' hne hn hn'=>h.heap.apart j j' bk bk' (hk j bk hj) ho (hk j' bk' hj') hne hn hn'⟩,fun j bk hj=>h.old j bk (hk j bk hj),h.fr,hl,h.keep⟩
theorem zlR {sl:List (Option V)} {gl:List GE} : ∀ {l:List Oper} {es:List ChE},zhy sl gl l es=true→∀ (i:Nat) (o:Oper) (e:ChE),l[i]? = some o→es[i]? = some e→eff4 o.op=true→zdh e.sl sl=true∧∀ x∈e.gl,∃ y∈gl,y.eqB x=true
 | [],[],_,i,o,e,h,_,_=>by simp at h
 | o::l,e::r,h,i,o',e',h1,h2,h3=>by
  simp only [zhy,Bool.and_eq_true,Bool.or_eq_true,Bool.not_eq_true'] at h
  cases i with
  | zero =>
   rw [List.getElem?_cons_zero] at h1 h2
   cases h1;cases h2
   rcases h.1 with h | ⟨h,h'⟩
   ·rw [h3] at h;cases h
   ·exact ⟨h,fun x hx=>List.any_eq_true.1 (List.all_eq_true.1 h' x hx)⟩
  | succ i =>
   rw [List.getElem?_cons_succ] at h1 h2
   exact zlR h.2 i o' e' h1 h2 h3
 | [],_::_,h,_,_,_,_,_,_=>by simp [zhy] at h
 | _::_,[],h,_,_,_,_,_,_=>by simp [zhy] at h
def zbi (pre:List Oper) (listed:Array Bool):Nat→Nat
 | 0=>0
 | n+1=>if listed.getD n false&&zh2 pre n then n+1 else zbi pre listed n
theorem zmO (pre:List Oper) (listed:Array Bool):∀ n,zbi pre listed n≤n
 | 0=>Nat.le_refl _
 | n+1=>by
  unfold zbi
  split
  ·exact Nat.le_refl _
  ·exact Nat.le_succ_of_le (zmO pre listed n)
theorem zfz {pre:List Oper} {listed:Array Bool} {i:Nat} {o:Oper} (ho:pre[i]? = some o) (he:turn4 o.op=true) (hl:listed.getD i false=true):∀ n,i<n→i+1≤zbi pre listed n
 | 0,h=>by omega
 | n+1,h=>by
  unfold zbi
  split
  ·omega
  ·rename_i hc
   have:i≠n:=fun e=>by
    subst e
    unfold zh2 at hc
    rw [hl,ho] at hc
    simp [he] at hc
   exact zfz ho he hl n (by omega)
theorem zlS {pre:List Oper} {listed listed':Array Bool} (h:∀ j,listed.getD j false=true→listed'.getD j false=true):∀ n,zbi pre listed n≤zbi pre listed' n
 | 0=>Nat.le_refl _
 | n+1=>by
  have ih:=zlS (pre:=pre) h n
  unfold zbi
  split
  ·rename_i hc
   simp only [Bool.and_eq_true] at hc
   rw [if_pos (by simp only [Bool.and_eq_true];exact ⟨h n hc.1,hc.2⟩)]
   exact Nat.le_refl _
  ·split
   ·have:=zmO pre listed n;omega
   ·exact ih
theorem zmP {pre:List Oper} {listed:Array Bool} : ∀ {n:Nat},0<zbi pre listed n→∃ j o,zbi pre listed n=j+1∧pre[j]? = some o∧turn4 o.op=true∧listed.getD j false=true
 | 0,h=>by simp [zbi] at h
 | n+1,h=>by
  unfold zbi at h ⊢
  split at h
  ·rename_i hc
   rw [if_pos hc]
   simp only [Bool.and_eq_true] at hc
   obtain ⟨h1,h2⟩:=hc
   unfold zh2 at h2
   cases ho:pre[n]? with
   | none=>rw [ho] at h2;cases h2
   | some o=>rw [ho] at h2;exact ⟨n,o,rfl,ho,h2,h1⟩
  ·rename_i hc
   rw [if_neg hc]
   exact zmP h
theorem zmQ {l:List Oper} {r r':RS} {H:List (Option Blk)} {es:List ChE} {ops:Array Oper} (h:ChOK P I E ν ops l r H r' es) {i:Nat} : ∀ (k:Nat),i+k≤l.length→(∀ j o,i≤j→j<i+k→l[j]? = some o→turn4 o.op=false)→chBef H es (i+k)=chBef H es i
 | 0,_,_=>rfl
 | k+1,hk,hj=>by
  have hl:i+k<l.length:=by omega
  have e1:=h.still (i+k) _ (List.getElem?_eq_getElem hl) (hj (i+k) _ (by omega) (by omega) (List.getElem?_eq_getElem hl))
  rw [show i+(k+1)=i+k+1 from by omega,e1]
  exact zmQ h k (by omega) fun j o h1 h2=>hj j o h1 (by omega)
theorem zel {o:Op} (h:turn4 o=true):eff4 o=true:=by unfold eff4;rw [h];rfl
theorem zpt {o:Op} (h:eff4 o=false):turn4 o=false:=by
 cases ht:turn4 o with
 | false=>rfl
 | true=>rw [zel ht] at h;cases h
theorem zj2 {pre:List Oper} {listed:Array Bool} {i:Nat} (hne:zh2 pre i=false):∀ n,zbi pre (listed.setIfInBounds i true) n=zbi pre listed n
 | 0=>rfl
 | n+1=>by
  unfold zbi
  rw [zj2 hne n]
  by_cases hni:n=i
  ·subst hni
   rw [hne]
   simp
  ·have:(listed.setIfInBounds i true).getD n false=listed.getD n false:=by
    rw [Array.getD_eq_getD_getElem?,Array.getD_eq_getD_getElem?,Array.getElem?_setIfInBounds_ne (Ne.symm hni)]
   rw [this]
theorem zn8 {pre:List Oper} {anc:List Nat} : ∀ {n:Nat},zll pre anc n=0∨∃ j o,zll pre anc n=j+1∧j<n∧pre[j]? = some o∧turn4 o.op=true∧j∈anc
 | 0=>.inl rfl
 | n+1=>by
  unfold zll
  split
  ·rename_i hc
   simp only [Bool.and_eq_true] at hc
   obtain ⟨h1,h2⟩:=hc
   unfold zh2 at h2
   cases ho:pre[n]? with
   | none=>rw [ho] at h2;cases h2
   | some o=>rw [ho] at h2;exact .inr ⟨n,o,rfl,by omega,ho,h2,zbb h1⟩
  ·rcases zn8 (pre:=pre) (anc:=anc) (n:=n) with h | ⟨j,o,h1,h2,h3⟩
   ·exact .inl h
   ·exact .inr ⟨j,o,h1,by omega,h3⟩
theorem zte {nq:Nat} {H:List (Option Blk)} {pre:List Oper} {es:List ChE} (h:zwK nq H pre es=true) {i:Nat} {o:Oper} {e:ChE} (ho:pre[i]? = some o) (he:es[i]? = some e) (hef:eff4 o.op=true) (htn:turn4 o.op=false) :
  nq≤e.R.length∧∀ t,t≤pre.length→zll pre (zgD pre i) pre.length≤t→zeQ e.R (chBef H es t)=true:=by
 have:=List.all_eq_true.1 h (o,i) (List.mem_zipIdx_iff_getElem?.2 ho)
 simp only [hef,htn,he,Bool.false_or,Bool.not_true,Bool.and_eq_true] at this
 refine ⟨Nat.le_of_ble_eq_true this.1,fun t h1 h2=>?_⟩
 have h3:=List.all_eq_true.1 this.2 t (List.mem_range.2 (by omega))
 simp only [Bool.or_eq_true,Nat.blt_eq] at h3
 rcases h3 with h3 | h3
 ·omega
 ·exact h3
theorem zgZ (hS:SigsOK P I gK S F) (hE:E.Ok gK) (hn0:S.n0=E.n0) (hI:∀ w,Fr E.W E.w0 w→I w) {ops:Array Oper} {n:Nat} {s:St} {Hq:List (Option Blk)} {HL:Option (List (Option Blk))} (hnl:n≤ops.toList.length) (hm:chB ops.toList n=true) :
  M.sat F ν (zgF P S ops.toList n s Hq HL) (fun s'=>∀ ρ a w,RR ν E ρ ⟨s,[]⟩ a w→∀ Q:Exit→Act→World→Prop,(∀ ρ' a' w',RR ν E ρ' ⟨s',[]⟩ a' w'→Q .normal a' w') →
   wpAny P .any ops Q ops.size (Array.replicate ops.size false) a w):=by
 unfold chB at hm
 generalize hpre:ops.toList.take n=pre at hm
 simp only [Bool.and_eq_true] at hm
 obtain ⟨⟨⟨⟨hheads,hchain⟩,htail⟩,hlex⟩,hback⟩:=hm
 have hbk:zbR .any ops:=by have:=backB_ok' hback;simpa using this
 have hprel:pre.length=n:=by rw [←hpre,List.length_take];omega
 unfold zgF
 refine zae (fun hchk=>?_) (fun _=>zac)
 simp only [Bool.and_eq_true] at hchk
 obtain ⟨⟨⟨hslt,hplt⟩,hql⟩,hkq⟩:=hchk
 have hql:=Nat.eq_of_beq_eq_true hql
 rw [hpre]
 refine zaa (zcx (E:=E) (F:=F) (ν:=ν) hS hE hn0 hI (ops:=pre.toArray) pre ⟨⟨s.sl,Hq⟩,[]⟩ s.hp (fun o ho=>List.all_eq_true.1 hheads o ho)) fun z hz=>zae (fun hc2=>?_) (fun _=>zac)
 simp only [Bool.and_eq_true] at hc2
 obtain ⟨⟨hkept,hsls⟩,hlate⟩:=hc2
 obtain ⟨rf,es⟩:=z
 simp only at hz hkept hsls hlate ⊢
 refine zaa (zb1 (E:=E) hS hE hn0 hI (ops:=ops) (ops.toList.drop n) ⟨⟨rf.st.sl,zrn s.hp es⟩,rf.gl⟩) fun r2 hr2=>zab fun ρ a w hrr Q hQ=>?_
 have hn0q:E.n0≤Hq.length:=by have:=hrr.hs.len;simp only at this;omega
 have hat:∀ j:Nat,pre.toArray[j]? = pre[j]?:=fun j=>by simp
 have hlt_of:∀ {i:Nat} {o:Oper},pre[i]? = some o→i<pre.length:=fun {i o} h=>by
  rcases Nat.lt_or_ge i pre.length with h1 | h1
  ·exact h1
  ·rw [List.getElem?_eq_none h1] at h;cases h
 have hes:∀ i,i<pre.length→∃ e,es[i]? = some e:=fun i hi=>⟨_,List.getElem?_eq_getElem (by rw [hz.len];exact hi)⟩
 -- the blocks at a number
 let Hk:Nat→List (Option Blk):=chBef s.hp es
 have hHk:∀ {i:Nat} {e:ChE},es[i]? = some e→Hk (i+1)=e.H:=fun {i e} h=>by
  show (es.getD i default).H=e.H
  rw [List.getD_eq_getElem?_getD,h]
  rfl
 have hmono:∀ i k,i+k≤pre.length→(Hk i).length≤(Hk (i+k)).length:=fun i k=>by
  induction k with
  | zero=>exact fun _=>Nat.le_refl _
  | succ k ih=>exact fun h=>Nat.le_trans (ih (by omega)) (hz.mono (i+k) (by omega))
 have hmono2:∀ i j,i≤j→j≤pre.length→(Hk i).length≤(Hk j).length:=fun i j h1 h2=>by
  have:=hmono i (j-i) (by omega)
  rwa [show i+(j-i)=j from by omega] at this
 have hHlt:∀ i,i≤pre.length→hpLt (Hk i)=true:=fun i hi=>hz.lt hplt i hi
 have hHq:∀ i,i≤pre.length→∀ j bk,nth Hq j=some bk→nth (Hk i) j=some bk:=fun i hi j bk hj=>by
  cases i with
  | zero=>exact zdS hkq j bk hj
  | succ i =>
   obtain ⟨e,he⟩:=hes i (by omega)
   rw [hHk he]
   exact zdS (List.all_eq_true.1 hkept e (List.mem_of_getElem? he)) j bk hj
 have htop:∀ listed:Array Bool,zbi pre listed pre.length≤pre.length:=fun listed=>zmO pre listed _
 let Hat:Array Bool→List (Option Blk):=fun listed=>Hk (zbi pre listed pre.length)
 have hsetm:∀ (listed:Array Bool) (i:Nat),(Hat listed).length≤(Hat (listed.setIfInBounds i true)).length:=fun listed i =>
  hmono2 _ _ (zlS (fun j h=>zaF h) _) (htop _)
 have hkind:∀ {i:Nat} {o:Oper},pre[i]? = some o→(eff4 o.op=false→zbo o.op=true)∧(eff4 o.op=true→(znt o.op).isSome=true):=fun {i o} h=>by
  have:=List.all_eq_true.1 hheads o (List.mem_of_getElem? h)
  unfold zsI at this
  refine ⟨fun he=>?_,fun he=>?_⟩
  ·have:=zpt he
   unfold turn4 at this
   simpa using this
  ·cases hp:zbo o.op with
   | false=>rw [hp] at this;simpa using this
   | true =>
    have hl:zxj o.op=true:=by
     unfold eff4 turn4 at he
     rw [hp] at he
     simpa using he
    unfold zxj at hl
    split at hl
    ·rename_i heq
     rw [heq];rfl
    ·cases hl
 have heffmem:∀ i,i∈(pre.zipIdx.filter fun p=>eff4 p.1.op).map (·.2)↔∃ o,pre[i]? = some o∧eff4 o.op=true:=fun i=>by
  rw [List.mem_map]
  constructor
  ·rintro ⟨⟨o,j⟩,h,rfl⟩
   obtain ⟨h1,h2⟩:=List.mem_filter.1 h
   exact ⟨o,List.mem_zipIdx_iff_getElem?.1 h1,h2⟩
  ·rintro ⟨o,h1,h2⟩
   exact ⟨(o,i),List.mem_filter.2 ⟨List.mem_zipIdx_iff_getElem?.2 h1,h2⟩,rfl⟩
 have hchAt:∀ {i:Nat} {o:Oper},pre[i]? = some o→eff4 o.op=true→(turn4 o.op=true→∀ j o',pre[j]? = some o'→turn4 o'.op=true→j<i→j∈zax pre i (za6 o)) ∧
   (∀ t∈zgE pre o++zi8 o.op,∀ (j:Nat) o',pre[j]? = some o'→o'.dst=some t→j∈zax pre i (za6 o)):=fun {i o} h he=>by
  have:=List.all_eq_true.1 hchain (o,i) (List.mem_zipIdx_iff_getElem?.2 h)
  unfold chAt at this
  simp only [he,Bool.not_true,Bool.false_or,Bool.and_eq_true] at this
  obtain ⟨h1,h2⟩:=this
  have hanc:zgD pre i=zax pre i (za6 o):=by unfold zgD;rw [h]
  rw [hanc] at h1 h2
  refine ⟨fun htt j o' ho' he' hj=>?_,fun t ht j o' ho' hd=>?_⟩
  ·rw [htt,Bool.not_true,Bool.false_or] at h1
   have:=List.all_eq_true.1 h1 (o',j) (List.mem_zipIdx_iff_getElem?.2 ho')
   simp only [he',Bool.not_true,Bool.false_or,Bool.or_eq_true,Bool.not_eq_true'] at this
   rcases this with h | h
   ·rw [show Nat.blt j i=true from by simpa [Nat.blt_eq] using hj] at h;cases h
   ·exact zbb h
  ·have:=List.all_eq_true.1 h2 (o',j) (List.mem_zipIdx_iff_getElem?.2 ho')
   simp only [zmn,hd,Bool.or_eq_true,Bool.not_eq_true'] at this
   rcases this with h | h
   ·rw [zei ht] at h;cases h
   ·exact zbb h
 refine zdp hbk (ops.toList.drop n) pre.toArray (by rw [←hpre];simp) (fun i hi o ho j hj=>?_) a w ?_
 ·have hi':n≤i:=by simpa [hprel] using hi
  have hmm:(o,i)∈ops.toList.zipIdx.drop n:=by
   rw [List.mem_iff_getElem?]
   refine ⟨i-n,?_⟩
   rw [List.getElem?_drop,show n+(i-n)=i from by omega,List.getElem?_zipIdx]
   have:ops.toList[i]? = some o:=by simpa using ho
   rw [this]
   simp
  have:=List.all_eq_true.1 htail _ hmm
  exact zbb (List.all_eq_true.1 this j (List.mem_range.2 hj))
 have hops':∀ (θ:Nat→Loc) (j:Nat),((List.zipWith (fun o e=>nopY (e.v.conc ν θ) o) pre es).toArray)[j]? = (match pre[j]?,es[j]? with | some o,some e=>some (nopY (e.v.conc ν θ) o) | _,_=>none):=fun θ j=>by
  simp [List.getElem?_zipWith]
  cases pre[j]?<;>cases es[j]?<;>rfl
 have hsz:∀ θ:Nat→Loc,(List.zipWith (fun o e=>nopY (e.v.conc ν θ) o) pre es).toArray.size=pre.toArray.size:=fun θ=>by simp [hz.len]
 have hready:∀ (θ:Nat→Loc) listed,Region.ready .any (List.zipWith (fun o e=>nopY (e.v.conc ν θ) o) pre es).toArray listed=Region.ready .any pre.toArray listed:=fun θ listed=>by
  unfold Region.ready
  rw [hsz θ]
  refine List.filter_congr fun j _=>?_
  rw [hops' θ j,hat j]
  cases ho:pre[j]? with
  | none=>rfl
  | some o =>
   obtain ⟨e,he⟩:=hes j (hlt_of ho)
   rw [he]
   have e1:=(zbS (e.v.conc ν θ) o).2.2
   dsimp only
   generalize nopY (e.v.conc ν θ) o=o1 at e1 ⊢
   cases o1;cases o
   simp only at e1
   subst e1
   rfl
 have hdst:∀ (θ:Nat→Loc) (j:Nat),(((List.zipWith (fun o e=>nopY (e.v.conc ν θ) o) pre es).toArray)[j]?).bind (·.dst)=((pre.toArray)[j]?).bind (·.dst):=fun θ j=>by
  rw [hops' θ j,hat j]
  cases ho:pre[j]? with
  | none=>rfl
  | some o =>
   obtain ⟨e,he⟩:=hes j (hlt_of ho)
   rw [he]
   exact (zbS _ o).1
 have hbkp:zbR .any pre.toArray:=fun i o ho=>hbk i o (by
  rw [hat] at ho
  have:ops.toList[i]? = some o:=by
   rw [←hpre,List.getElem?_take] at ho
   split at ho
   ·exact ho
   ·cases ho
  simpa using this)
 have hstepH:∀ (i:Nat) (o:Oper) (e:ChE) (listed:Array Bool),pre[i]? = some o→turn4 o.op=true→es[i]? = some e→listed.size=pre.toArray.size→zbM pre.toArray listed→i∈Region.ready .any pre.toArray listed →
   Hat listed=chBef s.hp es i∧Hat (listed.setIfInBounds i true)=e.H:=by
  intro i o e listed ho hef0 he hs hcl' hrd
  have hef:=zel hef0
  have hil:=hlt_of ho
  have hnl:listed.getD i false=false:=by
   obtain ⟨h4,_⟩:=mem_ready.1 hrd
   rw [←zaz (by rw [hs];simpa using hil)]
   exact h4
  have hanc:∀ j,j∈zax pre i (za6 o)→listed.getD j false=true:=fun j hj=>zbx hcl' (by rw [hat];exact ho) hrd j hj
  have hbeh:∀ (k:Nat) (o':Oper),pre[k]? = some o'→turn4 o'.op=true→listed.getD k false=true→k<i:=fun k o' ho' he' hk=>by
   rcases Nat.lt_trichotomy k i with h | h | h
   ·exact h
   ·subst h;rw [hnl] at hk;cases hk
   ·have:listed.getD i false=true:=zcv (ops:=pre.toArray) hcl' k (za6 o') (fun x hx=>by
     obtain ⟨ed,h1,h2,rfl⟩:=zfw hx
     exact hcl' k o' (by rw [hat];exact ho') hk ed h1 h2) i ((hchAt ho' (zel he')).1 he' i o ho hef0 h)
    rw [hnl] at this;cases this
  refine ⟨?_,?_⟩
  ·have hti:zbi pre listed pre.length≤i:=by
    rcases Nat.eq_zero_or_pos (zbi pre listed pre.length) with h0 | h0
    ·omega
    ·obtain ⟨j,o',g1,g2,g3,g4⟩:=zmP h0
     have:=hbeh j o' g2 g3 g4
     omega
   have hmid:∀ j o',zbi pre listed pre.length≤j→j<i→pre[j]? = some o'→turn4 o'.op=false:=fun j o' g1 g2 g3=>by
    cases h:turn4 o'.op with
    | false=>rfl
    | true =>
     have:=zfz g3 h (hanc j ((hchAt ho hef).1 hef0 j o' g3 h g2)) pre.length (by omega)
     omega
   have:=zmQ hz (i:=zbi pre listed pre.length) (i-zbi pre listed pre.length) (by omega) fun j o' g1 g2 g3=>hmid j o' g1 (by omega) g3
   rw [show zbi pre listed pre.length+(i-zbi pre listed pre.length)=i from by omega] at this
   exact this.symm
  ·have hli:(listed.setIfInBounds i true).getD i false=true:=by
    have:i<listed.size:=by rw [hs];simpa using hil
    rw [Array.getD_eq_getD_getElem?,Array.getElem?_setIfInBounds_self_of_lt this]
    rfl
   have h1:=zfz ho hef0 hli pre.length hil
   obtain ⟨j,o',g1,g2,g3,g4⟩:=zmP (pre:=pre) (listed:=listed.setIfInBounds i true) (n:=pre.length) (by omega)
   have:j=i:=by
    rcases zbY g4 with rfl | g4
    ·rfl
    ·have:=hbeh j o' g2 g3 g4
     omega
   subst this
   show Hk (zbi pre (listed.setIfInBounds j true) pre.length)=e.H
   rw [g1]
   exact hHk he
 have hacts:∀ (i:Nat) (o:Oper) (e:ChE) (θ:Nat→Loc) (a1 a2:Act),pre[i]? = some o→es[i]? = some e→eff4 o.op=true→ARel ν θ rf a2→(∀ t∈zgE pre o++zi8 o.op,a2.tmps[t]? = a1.tmps[t]?) →
   ARel ν θ ⟨⟨e.sl,e.R⟩,e.gl⟩ a2∧execOp a1.eval o=execOp a2.eval o∧Region.wanted o (yielded pre.toArray a2.tmps)=Region.wanted o (yielded pre.toArray a1.tmps):=by
  intro i o e θ a1 a2 ho he hef ha2 htm
  obtain ⟨hsl1,hgl1⟩:=zlR hsls i o e ho he hef
  have hslots:=zek hsl1
  refine ⟨⟨ha2.defers,by rw [ha2.size];exact hslots.1.symm,fun t v ht=>?_,fun g hg=>?_⟩,?_,?_⟩
  ·obtain ⟨v',k1,k2⟩:=hslots.2 t v ht
   exact ⟨V.eqB_good k2,by rw [(ha2.slot t v' k1).2,V.eqB_conc k2 θ]⟩
  ·obtain ⟨y,hy,hyg⟩:=hgl1 g hg
   simp only [GE.eqB,Bool.and_eq_true] at hyg
   obtain ⟨⟨⟨e1,e2⟩,e3⟩,e4⟩:=hyg
   have e1:=Nat.eq_of_beq_eq_true e1
   have e2:=Nat.eq_of_beq_eq_true e2
   have e3:=zcW e3
   obtain ⟨m1,m2⟩:=ha2.gl y hy
   rw [e2,e3,e1] at m1
   rw [e2,e3,e1] at m2
   exact ⟨fun h=>⟨V.eqB_good e4,by rw [(m1 h).2,V.eqB_conc e4 θ]⟩,m2⟩
  ·obtain ⟨lo,hlo⟩:=Option.isSome_iff_exists.1 ((hkind ho).2 hef)
   exact zrU hlo fun t ht=>htm t (List.mem_append_right _ ht)
  ·unfold Region.wanted
   cases hg:o.guard with
   | none=>rfl
   | some g =>
    obtain ⟨j,want⟩:=g
    simp only [yielded]
    cases hd:(pre.toArray[j]?).bind (·.dst) with
    | none=>rfl
    | some d =>
     have:a2.tmps[d]? = a1.tmps[d]?:=htm d (List.mem_append_left _ (by
      unfold zgE
      rw [hg]
      simp only
      rw [hat] at hd
      rw [hd]
      simp))
     simp only [Option.bind_some,this]
 have hlateH:∀ (i:Nat) (o:Oper) (e:ChE) (listed:Array Bool),pre[i]? = some o→eff4 o.op=true→turn4 o.op=false→es[i]? = some e→zbM pre.toArray listed→i∈Region.ready .any pre.toArray listed →
   E.n0≤e.R.length∧(∀ j bk,nth e.R j=some bk→nth (Hat listed) j=some bk):=by
  intro i o e listed ho hef htn he hcl' hrd
  obtain ⟨g1,g2⟩:=zte hlate ho he hef htn
  refine ⟨by omega,fun j bk hj=>?_⟩
  have hanc:∀ j,j∈zax pre i (za6 o)→listed.getD j false=true:=fun j hj=>zbx hcl' (by rw [hat];exact ho) hrd j hj
  have hao:zgD pre i=zax pre i (za6 o):=by unfold zgD;rw [ho]
  refine zdS (g2 _ (htop listed) ?_) j bk hj
  rcases zn8 (pre:=pre) (anc:=zgD pre i) (n:=pre.length) with h | ⟨k,o',h1,h2,h3,h4,h5⟩
  ·omega
  ·rw [hao] at h5
   have:=zfz h3 h4 (hanc k h5) pre.length h2
   omega
 have hHset:∀ (i:Nat) (o:Oper) (listed:Array Bool),pre[i]? = some o→turn4 o.op=false→Hat (listed.setIfInBounds i true)=Hat listed:=fun i o listed ho htn=>by
  show Hk (zbi pre (listed.setIfInBounds i true) pre.length)=Hk (zbi pre listed pre.length)
  rw [zj2 (by unfold zh2;rw [ho];exact htn)]
 refine zjW (P:=P) (Θ:=Nat→Loc) (ops:=pre.toArray) (ops':=fun θ=>(List.zipWith (fun o e=>nopY (e.v.conc ν θ) o) pre es).toArray) (st:=(pre.zipIdx.filter fun p=>eff4 p.1.op).map (·.2)) (val:=fun i θ=>(es.getD i default).v.conc ν θ)
  (C:=fun θ w=>HS E ν θ Hq w) (D:=fun listed θ w1=>HS E ν θ (Hat listed) w1) (Sm:=fun listed θ θ'=>∀ q,q<(Hat listed).length→θ' q=θ q) (Qf:=fun θ a'=>ARel ν θ rf a')
  (tm:=fun i=>match pre[i]? with | some o=>zgE pre o++zi8 o.op | none=>[]) hbkp hready hdst (fun θ i hi=>?_) (fun i hi=>?_) (fun listed θ θ' w1 hd hsm1=>hd.reloc (hHlt _ (htop _)) hsm1) (fun listed θ w1 hd=>hd.forget hn0q (hHq _ (htop _))) (fun _ _ _ _=>rfl)
  (fun listed i θ θ' θ'' h1 h2 q hq=>(h2 q (Nat.lt_of_lt_of_le hq (hsetm listed i))).trans (h1 q hq)) (fun listed i θ θ' hi hs hsm1=>?_) (fun i o hi ho a1 w1 f args w2=>?_) (fun listed i θ w1 hi hd=>?_) (fun i o hi ho listed hcl hrd t ht j o' ho' hd'=>?_)
  (fun i o hi ho listed hs hcl' hrd θ w1 hd a1 a2 ha2 htm hwnt=>?_) (fun i o hi ho listed hs hcl' hrd θ w1 hd a1 a2 ha2 htm hwnt=>?_) (fun θ a1 w1 listed hall ha1 hd=>?_) pre.toArray.size (Array.replicate pre.toArray.size false) a w ρ (by simp) (zej _ _) ?_ (fun θ' hsm1=>?_)
 ·show ((List.zipWith (fun o e=>nopY (e.v.conc ν θ) o) pre es).toArray)[i]? = _
  rw [hops' θ i,hat i]
  cases ho:pre[i]? with
  | none=>rfl
  | some o =>
   obtain ⟨e,he⟩:=hes i (hlt_of ho)
   rw [he]
   have:eff4 o.op=false:=by
    cases h:eff4 o.op with
    | false=>rfl
    | true=>exact absurd ((heffmem i).2 ⟨o,ho,h⟩) hi
   simp only [zqW this]
 ·obtain ⟨o,h1,h2⟩:=(heffmem i).1 hi
  obtain ⟨e,he⟩:=hes i (hlt_of h1)
  refine ⟨o,by rw [hat];exact h1,fun θ=>⟨nopY (e.v.conc ν θ) o,?_,(zbS _ o).2.1,(zbS _ o).1,fun a1 w1=>?_⟩⟩
  ·show ((List.zipWith (fun o e=>nopY (e.v.conc ν θ) o) pre es).toArray)[i]? = _
   rw [hops' θ i,h1,he]
  ·rw [ziN h2,List.getD_eq_getElem?_getD,he]
   simp [execOp,Act.eval]
 ·-- the values of what is listed
  obtain ⟨o,h1,h2⟩:=(heffmem i).1 hi
  have hil:=hlt_of h1
  have hli:(listed.setIfInBounds i true).getD i false=true:=by
   have:i<listed.size:=by rw [hs];simpa using hil
   rw [Array.getD_eq_getD_getElem?,Array.getElem?_setIfInBounds_self_of_lt this]
   rfl
  obtain ⟨e,he⟩:=hes i hil
  simp only [List.getD_eq_getElem?_getD,he,Option.getD_some]
  have hlt:=(hz.eff i o e h1 he h2).lt
  cases htn:turn4 o.op with
  | false=>exact V.conc_agree (n:=0) (fun j hj=>by omega) ((hz.eff i o e h1 he h2).lt0 htn)
  | true =>
  have hge:=zfz h1 htn hli pre.length hil
  have hle:e.H.length≤(Hat (listed.setIfInBounds i true)).length:=by
   rw [←hHk he]
   exact hmono2 _ _ hge (htop _)
  exact V.conc_agree (fun j hj=>hsm1 j (Nat.lt_of_lt_of_le hj hle)) hlt
 ·rw [hat] at ho
  have:eff4 o.op=false:=by
   cases h:eff4 o.op with
   | false=>rfl
   | true=>exact absurd ((heffmem i).2 ⟨o,ho,h⟩) hi
  exact zdm ((hkind ho).1 this) a1 w1 f args w2
 ·-- what turns nothing
  have:zbi pre (listed.setIfInBounds i true) pre.length=zbi pre listed pre.length:=zj2 (by
   unfold zh2
   cases ho:pre[i]? with
   | none=>rfl
   | some o =>
    cases h:turn4 o.op with
    | false=>exact h
    | true=>exact absurd ((heffmem i).2 ⟨o,ho,zel h⟩) hi) _
  show HS E ν θ (Hk (zbi pre (listed.setIfInBounds i true) pre.length)) w1
  rw [this]
  exact hd
 ·rw [hat] at ho ho'
  obtain ⟨o2,h1,h2⟩:=(heffmem i).1 hi
  rw [ho] at h1;cases h1
  rw [ho] at ht
  exact zbx hcl (by rw [hat];exact ho) hrd j ((hchAt ho h2).2 t ht j o' ho' hd')
 ·-- one that turns or makes something, or a late one
  rw [hat] at ho
  obtain ⟨o2,h1,hef⟩:=(heffmem i).1 hi
  rw [ho] at h1;cases h1
  rw [ho] at htm
  have hil:=hlt_of ho
  obtain ⟨e,he⟩:=hes i hil
  have hfe:=hz.eff i o e ho he hef
  obtain ⟨haR,hop1,hyl⟩:=hacts i o e θ a1 a2 ho he hef ha2 htm
  have hw2:Region.wanted o (yielded pre.toArray a2.tmps)=true:=by rw [←hwnt];exact hyl
  rw [hop1]
  have hd:HS E ν θ (Hat listed) w1:=hd
  cases htn:turn4 o.op with
  | true =>
   obtain ⟨hHi,hHn⟩:=hstepH i o e listed ho htn he hs hcl' hrd
   rw [hHi] at hd
   refine (hfe.fact θ a2 w1 haR hw2 (by rw [hfe.R htn];exact hd) (hI w1 hd.fr)).mono fun v w' hk=>?_
   obtain ⟨θ',k1,k2,k3⟩:=hk.1 htn
   refine ⟨θ',fun q hq=>k1 q (by rw [←hHi];exact hq),?_,?_⟩
   ·rcases k2 with k2 | k2
    ·exact .inl k2
    ·right
     simp only [List.getD_eq_getElem?_getD,he,Option.getD_some]
     exact k2
   ·show HS E ν θ' (Hat (listed.setIfInBounds i true)) w'
    rw [hHn];exact k3
  | false =>
   obtain ⟨g1,g2⟩:=hlateH i o e listed ho hef htn he hcl' hrd
   refine (hfe.fact θ a2 w1 haR hw2 (hd.forget g1 g2) (hI w1 hd.fr)).mono fun v w' hk=>?_
   obtain ⟨k1,k2⟩:=hk.2 htn
   refine ⟨θ,fun _ _=>rfl,?_,?_⟩
   ·rcases k1 with k1 | k1
    ·exact .inl k1
    ·right
     simp only [List.getD_eq_getElem?_getD,he,Option.getD_some]
     exact k1
   ·show HS E ν θ (Hat (listed.setIfInBounds i true)) w'
    rw [hHset i o listed ho htn]
    exact k2 _ hd
 ·-- one that is passed over
  rw [hat] at ho
  obtain ⟨o2,h1,hef⟩:=(heffmem i).1 hi
  rw [ho] at h1;cases h1
  rw [ho] at htm
  obtain ⟨e,he⟩:=hes i (hlt_of ho)
  have hfe:=hz.eff i o e ho he hef
  have hd:HS E ν θ (Hat listed) w1:=hd
  cases htn:turn4 o.op with
  | false=>exact ⟨θ,fun _ _=>rfl,by
    show HS E ν θ (Hat (listed.setIfInBounds i true)) w1
    rw [hHset i o listed ho htn];exact hd⟩
  | true =>
   obtain ⟨haR,hop1,hyl⟩:=hacts i o e θ a1 a2 ho he hef ha2 htm
   obtain ⟨hHi,hHn⟩:=hstepH i o e listed ho htn he hs hcl' hrd
   rw [hHi] at hd
   obtain ⟨θ',k1,k2⟩:=hfe.skip θ a2 w1 haR (by rw [←hwnt];exact hyl) hd
   refine ⟨θ',fun q hq=>k1 q (by rw [←hHi];exact hq),?_⟩
   show HS E ν θ' (Hat (listed.setIfInBounds i true)) w1
   rw [hHn];exact k2
 ·-- all is listed
  show wpList P ops Q (ops.toList.drop n) a1 w1
  refine hr2 θ a1 w1 ⟨⟨ha1.defers,ha1.size,ha1.slot,ha1.gl⟩,?_⟩ Q fun ρ' a' w' h'=>hQ ρ' a' w' h'.drop
  have hd:HS E ν θ (Hk (zbi pre listed pre.length)) w1:=hd
  have hH:Hk (zbi pre listed pre.length)=zrn s.hp es:=by
   have hmid:∀ j o',zbi pre listed pre.length≤j→pre[j]? = some o'→turn4 o'.op=false:=fun j o' g1 g3=>by
    cases h:turn4 o'.op with
    | false=>rfl
    | true =>
     have:=zfz g3 h (hall j (by simpa using hlt_of g3)) pre.length (hlt_of g3)
     omega
   have h0:=htop listed
   have:=zmQ hz (i:=zbi pre listed pre.length) (pre.length-zbi pre listed pre.length) (by omega) fun j o' g1 g2 g3=>hmid j o' g1 g3
   rw [show zbi pre listed pre.length+(pre.length-zbi pre listed pre.length)=pre.length from by omega] at this
   rw [←zlQ,hz.len]
   exact this.symm
  rw [←hH];exact hd
 ·-- at first
  have h0:∀ n,zbi pre (Array.replicate pre.toArray.size false) n=0:=fun n=>by
   induction n with
   | zero=>rfl
   | succ n ih =>
    unfold zbi
    rw [ih,if_neg]
    rw [Array.getD_eq_getD_getElem?,Array.getElem?_replicate]
    split<;>simp
  show HS E ν ρ (Hk (zbi pre _ pre.length)) w
  rw [h0]
  exact hrr.hs
 ·have h0:∀ n,zbi pre (Array.replicate pre.toArray.size false) n=0:=fun n=>by
   induction n with
   | zero=>rfl
   | succ n ih =>
    unfold zbi
    rw [ih,if_neg]
    rw [Array.getD_eq_getD_getElem?,Array.getElem?_replicate]
    split<;>simp
  have hρ:∀ q,q<s.hp.length→θ' q=ρ q:=fun q hq=>hsm1 q (by
   show q<(Hk (zbi pre _ pre.length)).length
   rw [h0];exact hq)
  have ha1:ARel ν θ' ⟨⟨s.sl,Hq⟩,[]⟩ a:=hrr.act.ext hρ hslt (by simp) Hq
  have hs1:HS E ν θ' Hq w:=(hrr.hs.reloc hplt hρ).forget hn0q (fun j bk hj=>zdS hkq j bk hj)
  have hwq:=hz.quiet θ' a ha1 ⟨w,hs1⟩ _ rfl (List.zipWith (fun o e=>nopY (e.v.conc ν θ') o) pre es).toArray (hdst θ') (fun a'=>ARel ν θ' rf a') (fun _ h=>h)
  have hB:Region.lexB .any (List.zipWith (fun o e=>nopY (e.v.conc ν θ') o) pre es).toArray=true:=by
   rw [←hlex]
   refine zhM (by simp [hz.len]) fun j o1 o2 h1 h2=>?_
   rw [List.getElem?_map] at h2
   obtain ⟨o,g1,rfl⟩:=Option.map_eq_some_iff.1 h2
   obtain ⟨e,he⟩:=hes j (hlt_of g1)
   rw [List.getElem?_zipWith,g1,he] at h1
   simp only [Option.some.injEq] at h1
   subst h1
   refine ⟨by rw [(zbS _ o).1,(zbS _ o).1],by rw [(zbS _ o).2.1,(zbS _ o).2.1],by rw [(zbS _ o).2.2,(zbS _ o).2.2],?_⟩
   unfold nopY
   split
   ·exact .inr ⟨_,_,rfl,rfl⟩
   ·exact .inl rfl
  simp only [Region.lexB,Bool.and_eq_true] at hB
  have:=wpAnyQ_lex (P:=P) (C:=fun w=>HS E ν θ' Hq w) (md:=.any) hB.1 (List.zipWith (fun o e=>nopY (e.v.conc ν θ') o) pre es) 0 (Array.replicate (List.zipWith (fun o e=>nopY (e.v.conc ν θ') o) pre es).toArray.size false) a (by simp) (by simpa using hB.2) hwq
  rw [hsz θ'] at this
  simpa [hz.len] using this
theorem zpu (hS:SigsOK P I gK S F) (hE:E.Ok gK) (hn0:S.n0=E.n0) (hI:∀ w,Fr E.W E.w0 w→I w) {ops:Array Oper} {n:Nat} {s:St} (hnl:n≤ops.toList.length) (hm:chB ops.toList n=true) :
  M.sat F ν (zoU P S ops.toList n s) (fun s'=>∀ ρ a w,RR ν E ρ ⟨s,[]⟩ a w→∀ Q:Exit→Act→World→Prop,(∀ ρ' a' w',RR ν E ρ' ⟨s',[]⟩ a' w'→Q .normal a' w') →
   wpAny P .any ops Q ops.size (Array.replicate ops.size false) a w):=by
 intro k s' n' e d h
 unfold zoU at h
 split at h
 ·exact zgZ hS hE hn0 hI hnl hm k s' n' e d h
 ·exact zgZ hS hE hn0 hI hnl hm k s' n' e d h
end
end Go.Sx
namespace Go.Sx
open Go.RowKit
section
variable {P:Program} {I:World→Prop} {S:Sigs} {F:FEnv} {E:Env} {gK:Nat} {ν:Nat→DV}
theorem zg0 (hS:SigsOK P I gK S F) (hE:E.Ok gK) (hn0:S.n0=E.n0) (hI:∀ w,Fr E.W E.w0 w→I w) {ops:Array Oper} : ∀ (l:List Oper) (r:RS),M.sat F ν (zcV P S true ops.toList l r) (fun r'=>r'.st.hp=r.st.hp ∧
  ∀ ρ a,ARel ν ρ r a→(∃ w,HS E ν ρ r.st.hp w)→∀ C:World→Prop,C=(fun w=>HS E ν ρ r.st.hp w) →
  ∀ Q:Act→Prop,(∀ a',ARel ν ρ r' a'→Q a')→wpQuiet P ops C Q l a)
 | [],r=>zab ⟨rfl,fun ρ a h _ C _ Q hQ=>hQ a h⟩
 | o::l,r=>by
  unfold zcV
  refine zaa (zcQ (E:=E) hS hE hn0 hI true) fun r1 h1=>zag (zg0 hS hE hn0 hI l r1) fun r' h2=>?_
  have h1:=h1.2 rfl
  refine ⟨h2.1.trans h1.1,fun ρ a ha hex C hC Q hQ=>?_⟩
  have:=h1.2 ρ a ha hex C hC
  simp only [wpQuiet]
  split
  ·rename_i hw
   rw [if_pos hw] at this
   obtain ⟨v,h3,h4⟩:=this
   exact ⟨v,h3,h2.2 ρ _ h4 (by rw [h1.1];exact hex) C (by rw [h1.1];exact hC) Q hQ⟩
  ·rename_i hw
   rw [if_neg hw] at this
   exact h2.2 ρ _ this (by rw [h1.1];exact hex) C (by rw [h1.1];exact hC) Q hQ
theorem HS.drawn {ρ:Nat→Loc} {hp:List (Option Blk)} {w:World} (h:HS E ν ρ hp w):HS E ν ρ hp { w with drawn:=w.drawn+1 } :=
 h.of_below ⟨rfl,rfl,rfl,Nat.le_refl _,fun _ _=>rfl⟩
theorem zqX {ops:List Oper} (h:zk7 ops=true):zbR .any ops.toArray:=backB_ok' h
theorem zv2 {ops:List Oper} {n:Nat} (h:zys ops n=true):∀ i,n≤i→∀ o,ops[i]? = some o→∀ j,j<i→∃ e∈o.after,Region.binds .any e=true∧e.on=j:=by
 intro i hi o ho j hj
 have hm:(o,i)∈ops.zipIdx.drop n:=by
  rw [List.mem_iff_getElem?]
  refine ⟨i-n,?_⟩
  rw [List.getElem?_drop,show n+(i-n)=i from by omega,List.getElem?_zipIdx,ho]
  simp
 have:=List.all_eq_true.1 h _ hm
 have:=List.all_eq_true.1 this j (List.mem_range.2 hj)
 obtain ⟨e,he,h2⟩:=Array.any_eq_true'.1 this
 simp only [Bool.and_eq_true] at h2
 exact ⟨e,he,h2.1,Nat.eq_of_beq_eq_true h2.2⟩
theorem zdT {α:Type} {x y:M α} {Q:α→Prop} (hx:M.sat F ν x Q) (hy:M.sat F ν y Q):M.sat F ν (x.orElse' y) Q:=by
 intro n a n' e d h1 h2 h3
 unfold M.orElse' at h1
 cases h:x n with
 | some r=>rw [h] at h1;exact hx n a n' e d (by rw [h];exact h1) h2 h3
 | none=>rw [h] at h1;exact hy n a n' e d h1 h2 h3
theorem zmR (hS:SigsOK P I gK S F) (hE:E.Ok gK) (hn0:S.n0=E.n0) (hI:∀ w,Fr E.W E.w0 w→I w) {ops:Array Oper} {s:St} : M.sat F ν (zja P S ops s) (fun s'=>P.follows .mixedOrders=true∧∀ ρ a w,RR ν E ρ ⟨s,[]⟩ a w →
  ∀ Q:Exit→Act→World→Prop,(∀ ρ' a' w',RR ν E ρ' ⟨s',[]⟩ a' w'→Q .normal a' w')→wpAny P .any ops Q ops.size (Array.replicate ops.size false) a w):=by
 unfold zja
 refine zae (fun hc=>?_) (fun _=>zac)
 simp only [Bool.and_eq_true] at hc
 refine zag (zrS (E:=E) hS hE hn0 hI (List.takeWhile_prefix _).length_le hc.1) fun s' hs'=>⟨hc.2,fun ρ a w hrr Q hQ=>hs' ρ a w hrr Q hQ⟩
theorem zmS (hS:SigsOK P I gK S F) (hE:E.Ok gK) (hn0:S.n0=E.n0) (hI:∀ w,Fr E.W E.w0 w→I w) {ops:Array Oper} {s:St} : M.sat F ν (zjb P S ops s) (fun s'=>P.follows .mixedOrders=true∧∀ ρ a w,RR ν E ρ ⟨s,[]⟩ a w →
  ∀ Q:Exit→Act→World→Prop,(∀ ρ' a' w',RR ν E ρ' ⟨s',[]⟩ a' w'→Q .normal a' w')→wpAny P .any ops Q ops.size (Array.replicate ops.size false) a w):=by
 unfold zjb
 refine zae (fun hc=>?_) (fun _=>zac)
 simp only [Bool.and_eq_true] at hc
 refine zag (zv1 (E:=E) hS hE hn0 hI (List.takeWhile_prefix _).length_le hc.1) fun s' hs'=>⟨hc.2,fun ρ a w hrr Q hQ=>hs' ρ a w hrr Q hQ⟩
theorem zmT (hS:SigsOK P I gK S F) (hE:E.Ok gK) (hn0:S.n0=E.n0) (hI:∀ w,Fr E.W E.w0 w→I w) {ops:Array Oper} {s:St} : M.sat F ν (zjc P S ops s) (fun s'=>P.follows .mixedOrders=true∧∀ ρ a w,RR ν E ρ ⟨s,[]⟩ a w →
  ∀ Q:Exit→Act→World→Prop,(∀ ρ' a' w',RR ν E ρ' ⟨s',[]⟩ a' w'→Q .normal a' w')→wpAny P .any ops Q ops.size (Array.replicate ops.size false) a w):=by
 unfold zjc
 refine zae (fun hc=>?_) (fun _=>zac)
 simp only [Bool.and_eq_true] at hc
 refine zag (zpu (E:=E) hS hE hn0 hI (List.takeWhile_prefix _).length_le hc.1) fun s' hs'=>⟨hc.2,fun ρ a w hrr Q hQ=>hs' ρ a w hrr Q hQ⟩
theorem zlc (hS:SigsOK P I gK S F) (hE:E.Ok gK) (hn0:S.n0=E.n0) (hI:∀ w,Fr E.W E.w0 w→I w) {ops:Array Oper} {s:St} : M.sat F ν (zlm P S ops s) (fun s'=>P.follows .mixedOrders=true∧∀ ρ a w,RR ν E ρ ⟨s,[]⟩ a w →
  ∀ Q:Exit→Act→World→Prop,(∀ ρ' a' w',RR ν E ρ' ⟨s',[]⟩ a' w'→Q .normal a' w')→wpAny P .any ops Q ops.size (Array.replicate ops.size false) a w) :=
 zdT (zmT hS hE hn0 hI) (zdT (zmR hS hE hn0 hI) (zmS hS hE hn0 hI))
theorem zmU (hS:SigsOK P I gK S F) (hE:E.Ok gK) (hn0:S.n0=E.n0) (hI:∀ w,Fr E.W E.w0 w→I w) {ops:Array Oper} {s:St} : M.sat F ν (zi9 P S ops s) (fun s'=>P.follows .mixedOrders=true∧∀ ρ a w,RR ν E ρ ⟨s,[]⟩ a w →
  ∀ Q:Exit→Act→World→Prop,(∀ ρ' a' w',RR ν E ρ' ⟨s',[]⟩ a' w'→Q .normal a' w')→wpAny P .any ops Q ops.size (Array.replicate ops.size false) a w):=by
 unfold zi9
 dsimp only
 generalize hn:(ops.toList.takeWhile fun o=>zsC o.op).length=n
 refine zae (fun hc=>?_) (fun _=>zae (fun hmx=>?_) (fun _=>zac))
 rotate_left
 ·simp only [Bool.and_eq_true] at hmx
  obtain ⟨⟨⟨hmx,hm⟩,hB⟩,hback⟩:=hmx
  refine zag (zpo (E:=E) hS hE hI hmx hB hback) fun s' hs'=>⟨hm,fun ρ a w hrr Q hQ=>hs' ρ a w hrr Q hQ⟩
 simp only [Bool.and_eq_true] at hc
 obtain ⟨hB,htail⟩:=hc
 refine zae (fun hc=>?_) (fun _=>zac)
 simp only [Bool.and_eq_true] at hc
 obtain ⟨hm,hback⟩:=hc
 have hq:=zg0 (E:=E) (ν:=ν) hS hE hn0 hI (ops:=(ops.toList.take n).toArray) (ops.toList.take n) ⟨s,[]⟩
 simp only at hq
 refine zaa hq fun r hr=>?_
 refine zaa (zb1 (E:=E) hS hE hn0 hI (ops.toList.drop n) r) fun r2 hr2=>zab ⟨hm,fun ρ a w hrr Q hQ=>?_⟩
 have hbk:zbR .any ops:=by have:=zqX hback;simpa using this
 refine zjS hbk (ops.toList.drop n) (ops.toList.take n).toArray (by simp) (fun i hi o ho j hj=>?_) a w ?_
 ·have hlen:(ops.toList.take n).toArray.size=n:=by
   have:n≤ops.toList.length:=by
    rw [←hn]
    exact (List.takeWhile_prefix _).length_le
   simp at this ⊢
   omega
  exact zv2 htail i (by omega) o (by simpa using ho) j hj
 ·have hhp:r.st.hp=s.hp:=hr.1
  simp only [Region.lexB,Bool.and_eq_true] at hB
  refine wpAny_of_quiet (C:=fun w=>HS E ν ρ s.hp w) (Q:=fun a'=>∀ w',(HS E ν ρ s.hp w')→wpList P ops Q (ops.toList.drop n) a' w') (fun _ w' hw' h=>h w' hw') _ _ _ _ hrr.hs ?_
  have hqq:=hr.2 ρ a hrr.act ⟨w,hrr.hs⟩ _ rfl (fun a'=>∀ w',(HS E ν ρ s.hp w')→wpList P ops Q (ops.toList.drop n) a' w') (fun a' ha' w' hw' =>
   hr2 ρ a' w' ⟨ha',by rw [hhp];exact hw'⟩ Q fun ρ' a'' w'' h'=>hQ ρ' a'' w'' h'.drop)
  have:=wpAnyQ_lex (P:=P) (C:=fun w=>HS E ν ρ s.hp w) (md:=.any) hB.1 (ops.toList.take n) 0 (Array.replicate (ops.toList.take n).toArray.size false) a (by simp) (by simpa using hB.2) hqq
  simpa using this
theorem zn9 (hS:SigsOK P I gK S F) (hE:E.Ok gK) (hn0:S.n0=E.n0) (hI:∀ w,Fr E.W E.w0 w→I w) {ops:Array Oper} {draw:Bool} {s:St} {id:Nat} : M.sat F ν (zmo P S ops draw s) (fun s'=>∀ ρ a w,RR ν E ρ ⟨s,[]⟩ a w →
  ∀ Q:Exit→Act→World→Prop,(∀ ρ' a' w',RR ν E ρ' ⟨s',[]⟩ a' w'→Q .normal a' w')→(Code.region id ops draw).wp P Q a w):=by
 unfold zmo
 cases draw
 ·simp only [Bool.false_eq_true,if_false]
  refine zaa (zb1 (E:=E) hS hE hn0 hI ops.toList ⟨s,[]⟩) fun r hr=>zab fun ρ a w hrr Q hQ=>?_
  exact wp_region_list (hr ρ a w hrr Q fun ρ' a' w' h'=>hQ ρ' a' w' h'.drop)
 ·simp only [if_true]
  refine zag (zdT (zmU hS hE hn0 hI) (zlc hS hE hn0 hI)) fun s' hs' ρ a w hrr Q hQ=>?_
  exact wp_region_any hs'.1 (hs'.2 ρ a _ ⟨hrr.act,hrr.hs.drawn⟩ Q hQ)
def K.is:K→Exit→Prop
 | .normal,.normal=>True
 | .ret,.ret=>True
 | .exit i,.exit j=>i=j
 | .goto i,.goto j=>i=j
 | _,_=>False
def X.sel (ν:Nat→DV):X→K×St
 | .done k s=>(k,s)
 | .br c x y=>if c.bool ν then x.sel ν else y.sel ν
def XPost (ν:Nat→DV) (E:Env) (x:X):Exit→Act→World→Prop:=fun e a w=>(x.sel ν).1.is e∧∃ ρ,RR ν E ρ ⟨(x.sel ν).2,[]⟩ a w
theorem zg1:∀ (x:X),M.sat F ν x.nCond (fun c=>c.bool ν=(x.sel ν).1.isNormal)
 | .done k s=>zab rfl
 | .br c x y=>by
  unfold X.nCond
  refine zaa (zg1 x) fun a ha=>zaa (zg1 y) fun b hb=>zag zfr fun r hr=>?_
  rw [hr,ha,hb]
  simp only [X.sel]
  cases c.bool ν<;>simp
theorem zpv {c:A} {x y:St} : M.sat F ν (zfU E.n0 c x y) (fun s=>∀ ρ a w,(c.bool ν=true→RR ν E ρ ⟨x,[]⟩ a w→∃ ρ',RR ν E ρ' ⟨s,[]⟩ a w) ∧
  (c.bool ν=false→RR ν E ρ ⟨y,[]⟩ a w→∃ ρ',RR ν E ρ' ⟨s,[]⟩ a w)) :=
 zag (zdj (Nat.le_refl _)) fun _ h ρ a w=>⟨fun hc hr=>let ⟨ρ',_,h2⟩:=(h ρ a w).1 hc hr;⟨ρ',h2⟩,fun hc hr=>let ⟨ρ',_,h2⟩:=(h ρ a w).2 hc hr;⟨ρ',h2⟩⟩
def zbj (P:Program) (c:Code) (Q:Exit→Act→World→Prop) (a:Act) (w:World):Prop :=
 ∀ (b:Frame) (k:List Item) (cs:List Frame),∃ e a' w',Q e a' w'∧Arrives P (lone (b.at a (.code c::.inLoop c::k)) cs w) b k cs e a' w'
theorem zbj.step {P:Program} {c:Code} {Q:Exit→Act→World→Prop} {a:Act} {w:World} (h:c.wp P (Exit.then (zbj P c Q) Q) a w):zbj P c Q a w:=by
 intro b k cs
 obtain ⟨e,a₁,w₁,hq,harr⟩:=h b (.inLoop c::k) cs
 cases e with
 | normal =>
  obtain ⟨e₂,a₂,w₂,hq₂,harr₂⟩:=hq b k cs
  exact ⟨e₂,a₂,w₂,hq₂,.of_steps (Steps.trans harr (.one step_inLoop)) harr₂⟩
 | exit id=>exact ⟨_,a₁,w₁,hq,.pass (x:=.inLoop c) rfl (fun _ _=>.inl (by simp)) harr⟩
 | goto l=>exact ⟨_,a₁,w₁,hq,.pass (x:=.inLoop c) rfl (fun _ _=>.inl (by simp)) harr⟩
 | ret=>exact ⟨_,a₁,w₁,hq,.pass (x:=.inLoop c) rfl (fun _ _=>.inl (by simp)) harr⟩
 | panic ch=>exact ⟨_,a₁,w₁,hq,.pass (x:=.inLoop c) rfl (fun _ _=>.inl (by simp)) harr⟩
 | outgrown=>exact ⟨_,a₁,w₁,hq,.pass (x:=.inLoop c) rfl (fun _ _=>.inl (by simp)) harr⟩
theorem zbj.wp {P:Program} {c:Code} {Q:Exit→Act→World→Prop} {a:Act} {w:World} (h:zbj P c Q a w):(Code.loop c).wp P Q a w:=by
 intro b k cs
 obtain ⟨e,a',w',hq,harr⟩:=h b k cs
 exact ⟨e,a',w',hq,.of_steps (.one step_loop) harr⟩
theorem zbj.mono {P:Program} {c:Code} {Q Q':Exit→Act→World→Prop} {a:Act} {w:World} (hq:∀ e a w,Q e a w→Q' e a w) (h:zbj P c Q a w):zbj P c Q' a w :=
 fun b k cs=>let ⟨e,a',w',q,r⟩:=h b k cs;⟨e,a',w',hq _ _ _ q,r⟩
theorem zj3:∀ (x:X),M.sat F ν (x.nSt E.n0) (fun o=>(x.sel ν).1.isNormal=true→∃ s,o=some s∧∀ ρ a w,RR ν E ρ ⟨(x.sel ν).2,[]⟩ a w→∃ ρ',RR ν E ρ' ⟨s,[]⟩ a w)
 | .done k s=>by
  refine zab fun h=>?_
  simp only [X.sel] at h ⊢
  exact ⟨s,by simp [h],fun ρ a w h=>⟨ρ,h⟩⟩
 | .br c x y=>by
  unfold X.nSt
  refine zaa (zj3 x) fun ox hx=>zaa (zj3 y) fun oy hy=>?_
  split
  ·rename_i a b
   refine zaa (zpv (E:=E)) fun s hs=>zab fun h=>⟨s,rfl,fun ρ act w hr=>?_⟩
   simp only [X.sel] at h hr
   by_cases hc:c.bool ν=true
   ·simp only [hc,if_true] at h hr
    obtain ⟨s',hs',h2⟩:=hx h
    cases hs'
    obtain ⟨ρ',h3⟩:=h2 ρ act w hr
    exact (hs ρ' act w).1 hc h3
   ·simp only [hc] at h hr
    obtain ⟨s',hs',h2⟩:=hy h
    cases hs'
    obtain ⟨ρ',h3⟩:=h2 ρ act w hr
    exact (hs ρ' act w).2 (by simpa using hc) h3
  ·rename_i a
   refine zab fun h=>?_
   simp only [X.sel] at h ⊢
   by_cases hc:c.bool ν=true
   ·simp only [hc,if_true] at h ⊢
    exact hx h
   ·simp only [hc] at h ⊢
    obtain ⟨s',hs',_⟩:=hy h
    cases hs'
  ·rename_i b
   refine zab fun h=>?_
   simp only [X.sel] at h ⊢
   by_cases hc:c.bool ν=true
   ·simp only [hc,if_true] at h ⊢
    obtain ⟨s',hs',_⟩:=hx h
    cases hs'
   ·simp only [hc] at h ⊢
    exact hy h
  ·refine zab fun h=>?_
   simp only [X.sel] at h
   by_cases hc:c.bool ν=true
   ·simp only [hc,if_true] at h
    obtain ⟨s',hs',_⟩:=hx h
    cases hs'
   ·simp only [hc] at h
    obtain ⟨s',hs',_⟩:=hy h
    cases hs'
theorem ze9:∀ (x:X),(x.sel ν).1.isNormal=false→∃ z,x.kill=some z∧z.sel ν=x.sel ν
 | .done k s,h=>by
  simp only [X.sel] at h
  exact ⟨.done k s,by simp [X.kill,h],rfl⟩
 | .br c x y,h=>by
  simp only [X.sel] at h
  by_cases hc:c.bool ν=true
  ·simp only [hc,if_true] at h
   obtain ⟨z,h1,h2⟩:=ze9 x h
   cases hy:y.kill with
   | none=>exact ⟨z,by simp [X.kill,h1,hy],by simp [X.sel,hc,h2]⟩
   | some z'=>exact ⟨.br c z z',by simp [X.kill,h1,hy],by simp [X.sel,hc,h2]⟩
  ·simp only [hc] at h
   obtain ⟨z,h1,h2⟩:=ze9 y h
   cases hx:x.kill with
   | none=>exact ⟨z,by simp [X.kill,h1,hx],by simp [X.sel,hc,h2]⟩
   | some z'=>exact ⟨.br c z' z,by simp [X.kill,h1,hx],by simp [X.sel,hc,h2]⟩
theorem K.is_normal {k:K} {e:Exit} (h:k.is e) (hn:k.isNormal=true):e = .normal:=by
 cases k<;>cases e<;>simp [K.is,K.isNormal] at h hn ⊢
theorem K.is_not {k:K} {e:Exit} (h:k.is e) (hn:k.isNormal=false):e≠.normal:=by
 cases k<;>cases e<;>simp [K.is,K.isNormal] at h hn ⊢
theorem zgh {x:X} {f:St→M X} {_G:X→Prop} {N:(Exit→Act→World→Prop)→Act→World→Prop}
  (hf:∀ s,M.sat F ν (f s) (fun y=>∀ ρ a w,RR ν E ρ ⟨s,[]⟩ a w→N (XPost ν E y) a w))
  (hN:∀ (Q Q':Exit→Act→World→Prop) a w,(∀ e a w,Q e a w→Q' e a w)→N Q a w→N Q' a w) :
  M.sat F ν (x.andThen E.n0 f) (fun z=>∀ e a w,XPost ν E x e a w→Exit.then (N (XPost ν E z)) (XPost ν E z) e a w):=by
 unfold X.andThen
 refine zaa (zg1 x) fun c hc=>zaa (zj3 (E:=E) x) fun o ho=>?_
 split
 ·refine zab fun e a w hp=>?_
  obtain ⟨hk,ρ,hr⟩:=hp
  cases hn:(x.sel ν).1.isNormal with
  | true=>obtain ⟨s,hs,_⟩:=ho hn;cases hs
  | false =>
   have:=K.is_not hk hn
   cases e<;>first | exact absurd rfl this | exact ⟨hk,ρ,hr⟩
 ·rename_i s
  have hnorm:∀ e a w,XPost ν E x e a w→(x.sel ν).1.isNormal=true→e = .normal∧∃ ρ,RR ν E ρ ⟨s,[]⟩ a w:=fun e a w hp hn=>by
   obtain ⟨hk,ρ,hr⟩:=hp
   obtain ⟨s',hs',h2⟩:=ho hn
   cases hs'
   exact ⟨K.is_normal hk hn,h2 ρ a w hr⟩
  split
  ·rename_i hkill
   refine zag (hf s) fun y hy e a w hp=>?_
   have hn:(x.sel ν).1.isNormal=true:=by
    cases hn:(x.sel ν).1.isNormal with
    | true=>rfl
    | false=>obtain ⟨z,hz,_⟩:=ze9 x hn;rw [hkill] at hz;cases hz
   obtain ⟨rfl,ρ,hr⟩:=hnorm e a w hp hn
   exact hy ρ a w hr
  ·rename_i z hz
   split
   ·refine zag (hf s) fun y hy e a w hp=>?_
    have hn:(x.sel ν).1.isNormal=true:=by rw [←hc]
    obtain ⟨rfl,ρ,hr⟩:=hnorm e a w hp hn
    exact hy ρ a w hr
   ·refine zaa (zbu (hf s)) fun y hy=>zab fun e a w hp=>?_
    cases hn:(x.sel ν).1.isNormal with
    | true =>
     obtain ⟨rfl,ρ,hr⟩:=hnorm e a w hp hn
     have hct:c.bool ν=true:=by rw [hc,hn]
     refine hN (XPost ν E y) _ a w (fun e a w h=>?_) (hy hct ρ a w hr)
     unfold XPost at h ⊢
     simp only [X.sel,hct,if_true]
     exact h
    | false =>
     obtain ⟨hk,ρ,hr⟩:=hp
     have hne:=K.is_not hk hn
     have hcf:c.bool ν=false:=by rw [hc,hn]
     obtain ⟨z',hz',hsel⟩:=ze9 x hn
     rw [hz] at hz'
     cases hz'
     have hpost:XPost ν E (.br c y z) e a w:=by
      unfold XPost
      simp only [X.sel,hcf,Bool.false_eq_true,if_false,hsel]
      exact ⟨hk,ρ,hr⟩
     cases e<;>first | exact absurd rfl hne | exact hpost
theorem zgi (id:Nat):∀ (x:X),(x.inBlock id).sel ν=((x.sel ν).1.inBlock id,(x.sel ν).2)
 | .done k s=>rfl
 | .br c x y=>by
  simp only [X.inBlock,X.sel,zgi id x,zgi id y]
  split<;>rfl
theorem zfA:∀ (x:X),x.noGoto=true→∀ l,(x.sel ν).1≠.goto l
 | .done k s,h,l=>by
  simp only [X.sel]
  intro e
  subst e
  simp [X.noGoto] at h
 | .br c x y,h,l=>by
  simp only [X.noGoto,Bool.and_eq_true] at h
  simp only [X.sel]
  split
  ·exact zfA x h.1 l
  ·exact zfA y h.2 l
def zgj (l:Nat):Exit→Exit
 | .normal=>.goto l
 | .goto m=>if m=l then .normal else .goto m
 | e=>e
theorem zpw (l:Nat) (e:Exit):zgj l (zgj l e)=e:=by
 cases e<;>simp only [zgj,if_true]
 rename_i m
 by_cases h:m=l
 ·rw [if_pos h,h]
 ·rw [if_neg h]
  simp only [zgj,if_neg h]
theorem zmV (l:Nat):∀ x:X,(x.swap l).sel ν=((x.sel ν).1.swap l,(x.sel ν).2)
 | .done k s=>rfl
 | .br c x y=>by
  simp only [X.swap,X.sel,zmV l x,zmV l y]
  split<;>rfl
theorem K.is_swap {l:Nat} {k:K} {e:Exit} (h:k.is e):(k.swap l).is (zgj l e):=by
 cases k<;>cases e<;>simp only [K.is] at h<;>first | exact h.elim | skip
 ·exact rfl
 ·trivial
 ·exact h
 ·rename_i i j
  subst h
  simp only [K.swap,zgj]
  by_cases hb:i=l
  ·subst hb
   simp [K.is]
  ·have:Nat.beq i l=false:=by
    cases hq:Nat.beq i l with
    | false=>rfl
    | true=>exact absurd (Nat.eq_of_beq_eq_true hq) hb
   rw [this,if_neg hb]
   exact rfl
theorem XPost.swap {x:X} {l:Nat} {e:Exit} {a:Act} {w:World} (h:XPost ν E x e a w):XPost ν E (x.swap l) (zgj l e) a w:=by
 obtain ⟨hk,ρ,hr⟩:=h
 unfold XPost
 rw [zmV]
 exact ⟨K.is_swap hk,ρ,hr⟩
def zfB (P:Program) (c d:Code) (Q:Exit→Act→World→Prop) (a:Act) (w:World):Prop :=
 ∀ (b:Frame) (k:List Item) (cs:List Frame),∃ e a' w',Q e a' w'∧Arrives P (lone (b.at a (.code d::.inScope c::k)) cs w) b k cs e a' w'
def zxs (P:Program) (c:Code) (Q:Exit→Act→World→Prop):Exit→Act→World→Prop
 | .goto l,a,w=>∃ rest,findLabel c l=some rest∧zfB P c rest Q a w
 | e,a,w=>Q e a w
theorem zfB.of_wp {P:Program} {c d:Code} {Q:Exit→Act→World→Prop} {a:Act} {w:World} (h:d.wp P (zxs P c Q) a w):zfB P c d Q a w:=by
 intro b k cs
 obtain ⟨e,a₁,w₁,hq,harr⟩:=h b (.inScope c::k) cs
 cases e with
 | normal=>exact ⟨.normal,a₁,w₁,hq,Steps.trans harr (.one step_inScope)⟩
 | exit id=>exact ⟨.exit id,a₁,w₁,hq,fun k' hk=>harr k' (by simp [exitTo,hk])⟩
 | goto l =>
  obtain ⟨rest,hf,hrun⟩:=hq
  obtain ⟨e₂,a₂,w₂,hq₂,harr₂⟩:=hrun b k cs
  exact ⟨e₂,a₂,w₂,hq₂,.of_steps (harr _ (by simp [gotoIn,hf])) harr₂⟩
 | ret=>exact ⟨_,a₁,w₁,hq,harr⟩
 | panic ch=>exact ⟨_,a₁,w₁,hq,harr⟩
 | outgrown=>exact ⟨_,a₁,w₁,hq,harr⟩
theorem zfB.wp {P:Program} {c:Code} {Q:Exit→Act→World→Prop} {a:Act} {w:World} (h:zfB P c c Q a w):(Code.scope c).wp P Q a w:=by
 intro b k cs
 obtain ⟨e,a',w',hq,harr⟩:=h b k cs
 exact ⟨e,a',w',hq,.of_steps (.one step_scope) harr⟩
theorem zj4 {ev:Code→St→M X} (hev:∀ c s,M.sat F ν (ev c s) (fun x=>∀ ρ a w,RR ν E ρ ⟨s,[]⟩ a w→c.wp P (XPost ν E x) a w)) (c:Code) :
  ∀ (t:Nat) (x:X),M.sat F ν (zmp E.n0 ev c t x) (fun z=>∀ e a w,XPost ν E x e a w→zxs P c (XPost ν E z) e a w)
 | 0,_=>zac
 | t+1,x=>by
  unfold zmp
  split
  ·refine zae (fun hg=>zab fun e a w hp=>?_) (fun _=>zac)
   cases e<;>first | exact hp | skip
   rename_i l
   have:=hp.1
   have hng:=zfA (ν:=ν) x hg l
   generalize (x.sel ν).1=k at *
   cases k<;>simp only [K.is] at this
   subst this
   exact absurd rfl hng
  ·rename_i l _
   split
   ·exact zac
   ·rename_i rest hf
    refine zaa (zgh (E:=E) (_G:=fun _=>True) (x:=x.swap l) (N:=fun Q a w=>rest.wp P (fun e=>Q (zgj l e)) a w)
     (fun s'=>zaa (hev rest s') fun y hy=>zab fun ρ a w h=>wp_mono (hy ρ a w h) fun e a w hp=>hp.swap)
     (fun Q Q' a w h hw=>wp_mono hw fun e a w hp=>h _ a w hp)) fun z0 hz0=>?_
    refine zag (zj4 hev c t (z0.swap l)) fun z hz e a w hp=>?_
    have hback:∀ e a w,XPost ν E z0 (zgj l e) a w→zxs P c (XPost ν E z) e a w:=fun e a w h=>by
     have:=h.swap (l:=l)
     rw [zpw] at this
     exact hz e a w this
    have h1:=hz0 (zgj l e) a w hp.swap
    by_cases hl:e = .goto l
    ·subst hl
     simp only [zgj,if_true,Exit.then] at h1
     exact ⟨rest,hf,.of_wp (wp_mono h1 hback)⟩
    ·have hne:zgj l e≠.normal:=by
      cases e<;>simp [zgj]
      rename_i m
      exact fun h=>hl (by rw [h])
     have h2:XPost ν E z0 (zgj l e) a w:=by
      generalize zgj l e=e' at *
      cases e'<;>first | exact absurd rfl hne | exact h1
     exact hback e a w h2
end
end Go.Sx
namespace Go.Sx
open Go.RowKit
theorem zwR {a b:Nat} (h:Nat.blt a b=true):a<b:=by simpa [Nat.blt_eq] using h
theorem zv3 {a b:Nat} (h:a<b):Nat.blt a b=true:=by simpa [Nat.blt_eq] using h
theorem zj5 {base:Nat→DV} {n0 n i:Nat} {vs:List DV} (h:i<n0):look base n0 vs n i=base i:=by
 unfold look;rw [zv3 h];rfl
theorem zdU {base:Nat→DV} {n0 n i:Nat} {vs:List DV} (h:n0≤i):look base n0 vs n i=vs.getD (n-1-i) default:=by
 unfold look
 have:Nat.blt i n0=false:=by
  cases hb:Nat.blt i n0 with
  | false=>rfl
  | true=>have:=zwR hb;omega
 rw [this];rfl
theorem zmW {base:Nat→DV} {n0 n i:Nat} {vs:List DV} (hi:i<n) (d:DV):look base n0 (d::vs) (n+1) i=look base n0 vs n i:=by
 rcases Nat.lt_or_ge i n0 with h | h
 ·rw [zj5 h,zj5 h]
 ·rw [zdU h,zdU h,show n+1-1-i=(n-1-i)+1 from by omega];rfl
theorem zmX {base:Nat→DV} {n0 n:Nat} {vs:List DV} (hn:n0≤n) (d:DV):look base n0 (d::vs) (n+1) n=d:=by
 rw [zdU hn,show n+1-1-n=0 from by omega];rfl
theorem A.den_congr {ν ν':Nat→DV} {n:Nat} (h:∀ i,i<n→ν i=ν' i) {a:A} (ha:a.below n=true):a.den ν=a.den ν':=by
 cases a with
 | r i=>exact h i (zwR ha)
 | _=>rfl
theorem A.int_congr {ν ν':Nat→DV} {n:Nat} (h:∀ i,i<n→ν i=ν' i) {a:A} (ha:a.below n=true):a.int ν=a.int ν':=by simp [A.int,A.den_congr h ha]
theorem A.cells_congr {ν ν':Nat→DV} {n:Nat} (h:∀ i,i<n→ν i=ν' i) {a:A} (ha:a.below n=true):a.cells ν=a.cells ν':=by simp [A.cells,A.den_congr h ha]
theorem A.bool_congr {ν ν':Nat→DV} {n:Nat} (h:∀ i,i<n→ν i=ν' i) {a:A} (ha:a.below n=true):a.bool ν=a.bool ν':=by simp [A.bool,A.den_congr h ha]
theorem zcM {α β:Type} {p:α→Bool} {f g:α→β} {l:List α} (hl:l.all p=true) (h:∀ a,p a=true→f a=g a):l.map f=l.map g :=
 List.map_congr_left fun a ha=>h a (List.all_eq_true.1 hl a ha)
theorem zmY {F:FEnv} {ν ν':Nat→DV} {n:Nat} (h:∀ i,i<n→ν i=ν' i) {x:Node} (hx:x.refs n=true):zbf F ν x=zbf F ν' x:=by
 cases x<;>simp only [Node.refs,Node.ops,List.all_cons,List.all_nil,Bool.and_true,Bool.and_eq_true] at hx<;>simp only [zbf] <;>
  first
   | rw [A.int_congr h hx.1,A.int_congr h hx.2]
   | rw [A.bool_congr h hx.1,A.bool_congr h hx.2]
   | rw [A.bool_congr h hx]
   | rw [A.int_congr h hx]
   | rw [A.bool_congr h hx.1,A.int_congr h hx.2.1,A.int_congr h hx.2.2]
   | rw [A.bool_congr h hx.1,A.bool_congr h hx.2.1,A.bool_congr h hx.2.2]
   | rw [zcM hx.2 (fun a ha=>A.int_congr h ha),A.int_congr h hx.1]
   | rw [zcM hx.2 (fun a ha=>A.bool_congr h ha),A.int_congr h hx.1]
   | rw [zcM hx (fun a ha=>A.den_congr h ha)]
   | rw [A.cells_congr h hx]
   | rw [A.cells_congr h hx.1,A.int_congr h hx.2.1,A.den_congr h hx.2.2]
   | rw [A.cells_congr h hx.1,A.int_congr h hx.2]
   | rw [A.cells_congr h hx.1,A.cells_congr h hx.2]
   | rw [zcM hx.2 (fun a ha=>A.den_congr h ha),A.int_congr h hx.1]
   | rw [A.bool_congr h hx.1,A.cells_congr h hx.2.1,A.cells_congr h hx.2.2]
theorem zcp {F:FEnv} {base:Nat→DV} {n0:Nat} : ∀ {nodes:Em} {vs:List DV} {n:Nat},n0≤n→zf1 n nodes=true →
  (∀ i,i<n→look base n0 (zaU F base n0 nodes vs n) (n+nodes.length) i=look base n0 vs n i) ∧
  Sat F (look base n0 (zaU F base n0 nodes vs n) (n+nodes.length)) nodes
 | [],vs,n,_,_=>⟨fun i _=>rfl,fun p hp=>by cases hp⟩
 | (k,x)::r,vs,n,hn,hw=>by
  simp only [zf1,Bool.and_eq_true] at hw
  obtain ⟨⟨h1,h2⟩,h3⟩:=hw
  have hk:=Nat.eq_of_beq_eq_true h1
  subst hk
  obtain ⟨e2,e3⟩:=zcp (F:=F) (base:=base) (n0:=n0) (nodes:=r) (vs:=zbf F (look base n0 vs k) x::vs) (n:=k+1) (by omega) h3
  have hlen:k+((k,x)::r).length=k+1+r.length:=by simp;omega
  simp only [zaU]
  rw [hlen]
  have old:∀ i,i<k→look base n0 (zaU F base n0 r (zbf F (look base n0 vs k) x::vs) (k+1)) (k+1+r.length) i=look base n0 vs k i:=fun i hi=>by
   rw [e2 i (by omega),zmW hi]
  refine ⟨old,fun p hp=>?_⟩
  rcases List.mem_cons.1 hp with rfl | hp
  ·simp only
   rw [e2 k (by omega),zmX hn]
   exact (zmY (fun i hi=>old i hi) h2).symm
  ·exact e3 p hp
section
variable {P:Program} {I:World→Prop} {S:Sigs} {F:FEnv} {E:Env} {gK:Nat}
theorem LR.env_spec {l:LR} (ν:Nat→DV) {xs:List DV} (hx:xs.length=l.k) (hw:zf1 (l.n+l.k) l.nodes=true) :
  (∀ i,i<l.n→l.env F ν xs i=ν i)∧(∀ j,j<l.k→l.env F ν xs (l.n+j)=xs.getD j default)∧Sat F (l.env F ν xs) l.nodes:=by
 obtain ⟨h1,h2⟩:=zcp (F:=F) (base:=ν) (n0:=l.n) (vs:=xs.reverse) (n:=l.n+l.k) (by omega) hw
 refine ⟨fun i hi=>?_,fun j hj=>?_,h2⟩
 ·unfold LR.env;rw [zj5 hi]
 ·unfold LR.env
  rw [h1 (l.n+j) (by omega),zdU (by omega)]
  simp only [List.getD_eq_getElem?_getD]
  rw [List.getElem?_reverse (by omega),hx]
  congr 2
  omega
theorem K.beq_eq {a b:K} (h:a.beq b=true):a=b:=by
 cases a<;>cases b<;>simp [K.beq] at h<;>first | rfl | (subst h;rfl)
theorem zj6 {k:K} : ∀ {l:List K} {i:Nat},zh3 k l=some i→l[i]? = some k
 | [],_,h=>by simp [zh3] at h
 | x::l,i,h=>by
  simp only [zh3] at h
  split at h
  ·rename_i hx;cases h;have:=K.beq_eq hx;subst this;rfl
  ·obtain ⟨j,hj,rfl⟩:=Option.map_eq_some_iff.1 h
   simpa using zj6 hj
theorem PEq.refl {ν:Nat→DV} : ∀ {ts:List Ty} {as:List A},as.length=ts.length→PEq ν ν ts as as
 | [],[],_=>trivial
 | t::ts,a::as,h=>⟨t.eqAt_refl _,PEq.refl (by simpa using h)⟩
theorem PEq.trans {ν1 ν2 ν3:Nat→DV} : ∀ {ts:List Ty} {as t bs:List A},PEq ν1 ν2 ts as t→PEq ν2 ν3 ts t bs→PEq ν1 ν3 ts as bs
 | [],[],[],[],_,_=>trivial
 | _::_,_::_,_::_,_::_,h,k=>⟨Ty.eqAt_trans h.1 k.1,PEq.trans h.2 k.2⟩
 | [],_::_,_,_,h,_=>h.elim
 | [],[],_::_,_,h,_=>h.elim
 | [],[],[],_::_,_,e=>e.elim
 | _::_,[],_,_,h,_=>h.elim
 | _::_,_::_,[],_,h,_=>h.elim
 | _::_,_::_,_::_,[],_,e=>e.elim
theorem PEq.of_teq {ν1 ν2:Nat→DV} : ∀ {ts:List Ty} {as bs:List A},TEq ts (bs.map (A.den ν2)) (as.map (A.den ν1))→PEq ν1 ν2 ts as bs
 | [],[],[],_=>trivial
 | _::_,_::_,_::_,e=>by
  simp only [List.map_cons,TEq] at e
  exact ⟨Ty.eqAt_symm e.1,PEq.of_teq e.2⟩
 | [],[],_::_,e=>e.elim
 | [],_::_,[],e=>e.elim
 | [],_::_,_::_,e=>e.elim
 | _::_,[],[],e=>e.elim
 | _::_,[],_::_,e=>e.elim
 | _::_,_::_,[],e=>e.elim
theorem TEq.len:∀ {ts:List Ty} {as bs:List DV},TEq ts as bs→as.length=bs.length
 | [],[],[],_=>rfl
 | _::_,_::_,_::_,h=>by simp [TEq.len h.2]
 | [],_::_,_,h=>h.elim
 | [],[],_::_,h=>h.elim
 | _::_,[],_,h=>h.elim
 | _::_,_::_,[],h=>h.elim
def FitsTo (ν:Nat→DV) (E:Env) (p:Pat) (s:St) (as:List A):Prop:=∀ ρ a w,RR ν E ρ ⟨s,[]⟩ a w→∃ ρ',RR ν E ρ' ⟨p.st.inst as,[]⟩ a w
theorem zpx {ν:Nat→DV} {p:Pat} {s:St} {g:List A×List Nat} (h1:(p.st.inst g.1).sub g.2 s=true) (h2:zhr g.2 E.n0=true) (h3:E.n0≤p.st.hp.length):FitsTo ν E p s g.1 :=
 fun _ _ _ h=>⟨_,h.sub h1 h2 (by simpa [St.inst] using h3)⟩
theorem zj7 {ν:Nat→DV} {pe:K→Pat} {tys:List Ty} {ks:List K} (hl:∀ k,E.n0≤(pe k).st.hp.length):∀ (x:X),M.sat F ν (x.couts E.n0 pe tys ks) (fun r=>∃ i as,zh3 (x.sel ν).1 ks=some i∧FitsTo ν E (pe (x.sel ν).1) (x.sel ν).2 as ∧
  PEq ν ν (.i::tys) (.z i::as) r)
 | .done k s=>by
  unfold X.couts
  refine zaa (zad (Q:=fun i=>zh3 k ks=some i) fun a h=>h) fun i hi=>?_
  dsimp only
  generalize hg:zd1 tys.length (pe k).st s=g
  have hgl:g.1.length=tys.length:=by rw [←hg];exact zeZ _ _ _
  refine zae (fun hc=>?_) (fun _=>zac)
  simp only [Bool.and_eq_true] at hc
  exact zab ⟨i,g.1,hi,zpx hc.1 hc.2 (hl k),Ty.eqAt_refl _ _,PEq.refl hgl⟩
 | .br c x y=>by
  unfold X.couts
  refine zaa (zj7 hl x) fun a ha=>zaa (zj7 hl y) fun b hb=>zag (zcZ _ _ _) fun r hr=>?_
  simp only [X.sel]
  by_cases hc:c.bool ν=true
  ·simp only [hc,if_true]
   obtain ⟨i,as,e1,e2,e3⟩:=ha
   exact ⟨i,as,e1,e2,e3.trans (hr.1 hc)⟩
  ·have hc':c.bool ν=false:=by simpa using hc
   simp only [hc',Bool.false_eq_true,if_false]
   obtain ⟨i,as,e1,e2,e3⟩:=hb
   exact ⟨i,as,e1,e2,e3.trans (hr.2 hc')⟩
structure RoundOK (P:Program) (ν:Nat→DV) (E:Env) (b:Code) (p:Pat) (sx:St) (r:Round):Prop where
 run:∀ ρ a w,RR ν E ρ ⟨sx,[]⟩ a w→b.wp P (XPost ν E r.x) a w
 cond:r.c.bool ν=(r.x.sel ν).1.isNormal
 next:(r.x.sel ν).1.isNormal=true→FitsTo ν E p (r.x.sel ν).2 r.nx
 out:(r.x.sel ν).1.isNormal=false→∃ (i:Nat) (as:List A),r.ks[i]? = some (r.x.sel ν).1∧FitsTo ν E (p.at r.als (r.x.sel ν).1) (r.x.sel ν).2 as∧PEq ν ν (.i::p.tys) (.z i::as) r.outs
theorem zpy {ν:Nat→DV} {ev:St→M X} {b:Code} {p:Pat} {sx:St} (hl:E.n0≤p.st.hp.length) (hev:M.sat F ν (ev sx) (fun x=>∀ ρ a w,RR ν E ρ ⟨sx,[]⟩ a w→b.wp P (XPost ν E x) a w)) :
  M.sat F ν (zoV E.n0 ev p sx) (RoundOK P ν E b p sx):=by
 unfold zoV
 refine zaa hev fun x hx=>zaa (zg1 x) fun c hc=>zaa (zj3 (E:=E) x) fun o ho=>?_
 have hnx:M.sat F ν (zxm E.n0 p o) (fun nx=>(x.sel ν).1.isNormal=true→FitsTo ν E p (x.sel ν).2 nx):=by
  cases o with
  | none=>exact zab fun hn=>by obtain ⟨s,hs,_⟩:=ho hn;cases hs
  | some so =>
   unfold zxm
   dsimp only
   refine zae (fun hc=>?_) (fun _=>zac)
   simp only [Bool.and_eq_true] at hc
   refine zab fun hn ρ a w h=>?_
   obtain ⟨s,hs,h2⟩:=ho hn
   cases hs
   obtain ⟨ρ',h3⟩:=h2 ρ a w h
   exact zpx hc.1 hc.2 hl ρ' a w h3
 refine zaa hnx fun nx hnx=>?_
 cases hz:x.kill with
 | none=>exact zac
 | some z =>
  unfold zqA
  refine zaa (zj7 (pe:=p.at (z.als p)) (ks:=z.kinds) (fun _=>hl) z) fun outs houts=>zab ⟨hx,hc,hnx,fun hn=>?_⟩
  obtain ⟨z',hz',hsel⟩:=ze9 x hn
  rw [hz] at hz'
  cases hz'
  obtain ⟨i,as,e1,e2,e3⟩:=houts
  simp only
  rw [←hsel]
  exact ⟨i,as,zj6 e1,e2,e3⟩
theorem ztf {ν:Nat→DV} {ka:A} {sf:K→St} : ∀ (ks:List K) (i:Nat),M.sat F ν (K.toX ka sf i ks) (fun x=>∀ j k,ks[j]? = some k→ka.int ν=((i+j:Nat):Int)→x.sel ν=(k,sf k))
 | [],i=>zac
 | [k],i=>zab fun j k' hk _=>by
  cases j with
  | zero=>simp at hk;subst hk;rfl
  | succ j=>simp at hk
 | k::k2::l,i=>by
  unfold K.toX
  refine zaa (zaf (Q:=fun r=>r.bool ν=(ka.int ν==(i:Int))) fun r h=>A.bool_of_den h) fun e he=>zaa (ztf (k2::l) (i+1)) fun r hr=>zab fun j k' hk hka=>?_
  simp only [X.sel,he]
  cases j with
  | zero =>
   simp at hk;subst hk
   have:(ka.int ν==(i:Int))=true:=by simpa using hka
   simp [this]
  | succ j =>
   have hne:(ka.int ν==(i:Int))=false:=by rw [hka];simp;omega
   simp only [hne,Bool.false_eq_true,if_false]
   exact hr j k' (by simpa using hk) (by rw [hka];congr 1;omega)
theorem zqY {ν:Nat→DV} {l:LR} : M.sat F ν (obLp l) (fun _=>zas F l):=by
 intro n u n' e d h _ hd
 unfold obLp at h
 simp only [Option.some.injEq,Prod.mk.injEq] at h
 obtain ⟨_,_,_,rfl⟩:=h
 exact hd (.lp l) (by simp)
theorem zoa {ν:Nat→DV} : ∀ (ls:List LR),M.sat F ν (zvS ls) (fun _=>∀ l∈ls,zas F l)
 | []=>zab fun l hl=>by cases hl
 | l::r=>by
  unfold zvS
  refine zaa zqY fun _ h1=>zag (zoa r) fun _ h2 x hx=>?_
  rcases List.mem_cons.1 hx with rfl | hx
  ·exact h1
  ·exact h2 x hx
structure AtOK (F:FEnv) (ν:Nat→DV) (pe:K→Pat) (l:LR) (args:List A) (ks:List K) (x:X):Prop where
 pre:((F l.fid (args.map (A.den ν))).getD 0 default).toB=true
 out:∃ (os:List A) (ka:A),(∀ (j:Nat) (k:K),ks[j]? = some k→ka.int ν=(j:Int)→x.sel ν=(k,(pe k).st.inst os)) ∧
  (∀ vs:List DV,vs.length=l.outs.length→(F l.fid (args.map (A.den ν))).drop 1=vs→(ka::os).map (A.den ν)=vs)
theorem zob {ν:Nat→DV} {pe:K→Pat} {ins:List A} {l:LR} {ks:List K} :
  M.sat F ν (zmr l.fid pe ins l ks) (AtOK F ν pe l (l.inv.map A.r++ins) ks):=by
 unfold zmr
 dsimp only
 refine zaa (zaf (Q:=fun r=>r.den ν=(F l.fid ((l.inv.map A.r++ins).map (A.den ν))).getD 0 default) fun r h=>h) fun q hq=>?_
 refine zaa (zbl (Q:=fun _=>q.bool ν=true) fun h=>h) fun _ hpre=>?_
 refine zaa (zeY l.outs.length 1) fun os hos=>?_
 refine zae (fun _=>zac) (fun hne=>?_)
 have hout:l.outs≠[]:=fun h=>hne (by rw [h];rfl)
 refine zag (ztf ks 0) fun x hx=>⟨by rw [←hq];exact hpre,os.tail,os.headD default,fun j k hk hka=>hx j k hk (by simpa using hka),fun vs hvl hvs=>?_⟩
 have hall:os.map (A.den ν)=vs:=by
  apply List.ext_getElem?
  intro i
  by_cases hi:i<os.length
  ·rw [List.getElem?_map,List.getElem?_eq_getElem hi]
   simp only [Option.map_some]
   rw [hos.2 i _ (List.getElem?_eq_getElem hi),←hvs,List.getElem?_drop]
   have hlen:1+i<(F l.fid ((l.inv.map A.r++ins).map (A.den ν))).length:=by
    have:=congrArg List.length hvs
    simp only [List.length_drop] at this
    have:=hos.1
    omega
   rw [List.getD_eq_getElem?_getD,List.getElem?_eq_getElem hlen]
   rfl
  ·rw [List.getElem?_eq_none (by simpa using hi),List.getElem?_eq_none (by have:=hos.1;omega)]
 cases os with
 | nil=>exact absurd (List.eq_nil_of_length_eq_zero (by simpa using hos.1.symm)) hout
 | cons o os=>exact hall
theorem zoc {ν:Nat→DV} {ev:St→M X} {b:Code} {fid:Nat} {lh:LH} {p:Pat} {s:St}
  (hev:∀ (ν':Nat→DV) (s':St),M.sat F ν' (ev s') (fun x=>∀ ρ a w,RR ν' E ρ ⟨s',[]⟩ a w→b.wp P (XPost ν' E x) a w)) :
  M.sat F ν (zje E.n0 ev fid lh p s) (fun z=>∀ ρ a w,RR ν E ρ ⟨s,[]⟩ a w→zbj P b (XPost ν E z) a w):=by
 intro n z n' e' d' h hsat hob
 unfold zje at h
 dsimp only at h
 generalize hk0:p.tys.length=k at h
 generalize hg:zd1 k p.st s=g at h
 have hgl:g.1.length=k:=by rw [←hg];exact zeZ _ _ _
 split at h
 ·cases h
 rename_i r _ e d hround
 generalize hl:lrOf fid n k e d r p.tys lh=l at h
 have l1:l.fid=fid:=by subst hl;rfl
 have l2:l.n=n:=by subst hl;rfl
 have l3:l.k=k:=by subst hl;rfl
 have l4:l.nodes=e:=by subst hl;rfl
 have l5:l.owes=zir d:=by subst hl;rfl
 have l6:l.c=r.c:=by subst hl;rfl
 have l7:l.nx=r.nx:=by subst hl;rfl
 have l8:l.outs=r.outs:=by subst hl;rfl
 have l9:l.ts=p.tys:=by subst hl;rfl
 clear hl
 split at h
 rotate_left
 ·cases h
 rename_i hchk
 simp only [Bool.and_eq_true] at hchk
 obtain ⟨⟨⟨⟨⟨⟨hsub,hkeep⟩,hn0⟩,hty⟩,hwf⟩,hnxlen⟩,htye⟩:=hchk
 have hnxlen:=Nat.eq_of_beq_eq_true hnxlen
 have hn0:=Nat.le_of_ble_eq_true hn0
 -- what a round says, whatever goes round
 have hrnd:∀ xs:List DV,xs.length=k→(∀ q∈l.owes,Nd.holds (l.env F ν xs) q)→(∀ q∈zho d,zas F q)→RoundOK P (l.env F ν xs) E b p (p.st.inst (zap n k)) r:=by
  intro xs hx ho hlp
  obtain ⟨_,_,hS⟩:=LR.env_spec (F:=F) (l:=l) ν (xs:=xs) (by rw [l3];exact hx) (by rw [l2,l3,l4];exact hwf)
  refine zpy hn0 (hev (l.env F ν xs) (p.st.inst (zap n k))) (n+k) r _ e d hround (by rw [←l4];exact hS) ?_
  have key:∀ (d:List Ob),(∀ q∈zir d,Nd.holds (l.env F ν xs) q)→(∀ q∈zho d,zas F q)→∀ q∈d,Ob.holds F (l.env F ν xs) q:=by
   intro d
   induction d with
   | nil=>intro _ _ q hq;cases hq
   | cons o d ih =>
    intro h1 h2 q hq
    cases o with
    | nd o =>
     rcases List.mem_cons.1 hq with rfl | hq
     ·exact h1 o (by simp [zir])
     ·exact ih (fun q hq=>h1 q (by simp [zir,hq])) h2 q hq
    | lp o =>
     rcases List.mem_cons.1 hq with rfl | hq
     ·exact h2 o (by simp [zho])
     ·exact ih h1 (fun q hq=>h2 q (by simp [zho,hq])) q hq
  exact key d (by rw [←l5];exact ho) hlp
 have hmain:M.sat F ν (lrGo fid (p.at r.als) g.1 d l r.ks) (fun x=>(∀ q∈zho d,zas F q)∧zas F l∧AtOK F ν (p.at r.als) l (l.inv.map A.r++g.1) r.ks x):=by
  unfold lrGo
  refine zaa (zoa (zho d)) fun _ h1=>zaa zqY fun _ h2=>?_
  rw [←l1]
  exact zag zob fun x hx=>⟨h1,h2,hx⟩
 obtain ⟨hlps,⟨μ,hμ⟩,hA⟩:=hmain n z n' e' d' h hsat hob
 intro ρ a w hrr
 have hids:∀ xs:List DV,xs.length=k→(zap n k).map (A.den (l.env F ν xs))=xs:=by
  intro xs hx
  obtain ⟨_,h2,_⟩:=LR.env_spec (F:=F) (l:=l) ν (xs:=xs) (by rw [l3];exact hx) (by rw [l2,l3,l4];exact hwf)
  rw [zcX (fun i=>xs.getD i default) k n 0 (fun i hi=>by rw [←l2,h2 i (by rw [l3];exact hi)];simp)]
  exact zlt xs k hx
 have hold:∀ xs:List DV,xs.length=k→∀ i,i<n→l.env F ν xs i=ν i:=by
  intro xs hx
  obtain ⟨h1,_,_⟩:=LR.env_spec (F:=F) (l:=l) ν (xs:=xs) (by rw [l3];exact hx) (by rw [l2,l3,l4];exact hwf)
  intro i hi;exact h1 i (by rw [l2];exact hi)
 -- the loop, from a round's head
 have main:∀ (m:Nat) (xs:List DV),xs.length=k→μ (l.inv.map ν++xs)<m→((F l.fid (l.inv.map ν++xs)).getD 0 default).toB=true →
   F l.fid (l.inv.map ν++xs)=F l.fid ((l.inv.map A.r++g.1).map (A.den ν)) →
   ∀ ρ a w,RR (l.env F ν xs) E ρ ⟨p.st.inst (zap n k),[]⟩ a w→zbj P b (XPost ν E z) a w:=by
  intro m
  induction m with
  | zero=>intro xs _ h;omega
  | succ m ih =>
   intro xs hx hm hpre hF ρ a w hrr
   obtain ⟨g1,g2,g3⟩:=hμ ν xs (by rw [l3];exact hx) hpre
   have hr:=hrnd xs hx g1 hlps
   refine zbj.step (wp_mono (hr.run ρ a w hrr) fun e a' w' hp=>?_)
   obtain ⟨hk',ρ',hr'⟩:=hp
   cases hn:(r.x.sel (l.env F ν xs)).1.isNormal with
   | true =>
    have he:=K.is_normal hk' hn
    subst he
    have hc:l.c.bool (l.env F ν xs)=true:=by rw [l6,hr.cond,hn]
    obtain ⟨h1,h2,h3⟩:=g2 hc
    have hxs':(l.nx.map (A.den (l.env F ν xs))).length=k:=by rw [l7];simpa using hnxlen
    obtain ⟨ρ2,hr2⟩:=hr.next hn ρ' a' w' hr'
    refine ih _ hxs' (by omega) h1 (h2.trans hF) ρ2 a' w' ?_
    refine RR.inst (p:=A.below n) (fun x hx2=>A.den_congr (n:=n) (fun i hi=>by rw [hold xs hx i hi,hold _ hxs' i hi]) hx2) (PEq.of_den (by rw [hk0];exact hnxlen) ?_) hty hr2
    rw [hids _ hxs',l7]
   | false =>
    have hne:=K.is_not hk' hn
    have hc:l.c.bool (l.env F ν xs)=false:=by rw [l6,hr.cond,hn]
    have hF2:=g3 hc
    obtain ⟨i,as,h1,h2,h3⟩:=hr.out hn
    obtain ⟨os,ka,f4,f5⟩:=hA.out
    rw [hF] at hF2
    have f6:=f5 _ (by simpa using hF2.len) rfl
    rw [←f6,l9,l8] at hF2
    have h4:PEq (l.env F ν xs) ν (.i::p.tys) r.outs (ka::os):=PEq.of_teq hF2
    have h5:=h3.trans h4
    have hka:ka.int ν=(i:Int):=h5.1.symm
    have hsel:=f4 i _ h1 hka
    have hpost:XPost ν E z e a' w':=by
     unfold XPost
     rw [hsel]
     obtain ⟨ρ2,hr2⟩:=h2 ρ' a' w' hr'
     exact ⟨hk',ρ2,RR.inst (p:=A.below n) (fun x hx2=>A.den_congr (n:=n) (fun i hi=>hold xs hx i hi) hx2) h5.2 (List.all_eq_true.1 htye _ (List.mem_of_getElem? h1)) hr2⟩
    cases e<;>first | exact absurd rfl hne | exact hpost
 have hx0:(g.1.map (A.den ν)).length=k:=by simpa using hgl
 have harg:(l.inv.map A.r++g.1).map (A.den ν)=l.inv.map ν++g.1.map (A.den ν):=by
  rw [List.map_append,List.map_map]
  rfl
 obtain ⟨ρ2,hr2⟩:=zpx (ν:=ν) (E:=E) (p:=p) hsub hkeep hn0 ρ a w hrr
 refine main (μ (l.inv.map ν++g.1.map (A.den ν))+1) (g.1.map (A.den ν)) hx0 (by omega) (by rw [←harg];exact hA.pre) (by rw [harg]) ρ2 a w ?_
 refine RR.inst (p:=A.below n) (fun x hx2=>A.den_congr (n:=n) (fun i hi=>(hold _ hx0 i hi).symm) hx2) (PEq.of_den (by rw [hk0];exact hgl) ?_) hty hr2
 rw [hids _ hx0]
theorem zod {ν:Nat→DV} {ev:St→M X} {b:Code} {fid:Nat} {D:List Nat} {lh:LH} {s:St}
  (hev:∀ (ν':Nat→DV) (s':St),M.sat F ν' (ev s') (fun x=>∀ ρ a w,RR ν' E ρ ⟨s',[]⟩ a w→b.wp P (XPost ν' E x) a w)) :
  M.sat F ν (zqB E.n0 ev fid D lh s) (fun z=>∀ ρ a w,RR ν E ρ ⟨s,[]⟩ a w→zbj P b (XPost ν E z) a w):=by
 intro n z n' e' d' h hsat hob
 unfold zqB at h
 exact zoc hev n z n' e' d' h hsat hob
theorem zmZ {ν:Nat→DV} {ev:St→M X} {b:Code} {fid:Nat} {D:List Nat} {mat:List (Nat×List LT)} {s:St}
  (hev:∀ (ν':Nat→DV) (s':St),M.sat F ν' (ev s') (fun x=>∀ ρ a w,RR ν' E ρ ⟨s',[]⟩ a w→b.wp P (XPost ν' E x) a w)) :
  M.sat F ν (zsL E.n0 ev fid D mat s) (fun z=>∀ ρ a w,RR ν E ρ ⟨s,[]⟩ a w→zbj P b (XPost ν E z) a w):=by
 intro n z n' e' d' h hsat hob
 unfold zsL at h
 exact zod hev n z n' e' d' h hsat hob
theorem zlT {α:Type} {p:α→Bool} : ∀ {l:List (Option α)} {i:Nat} {v:α},l.all (zao p)=true→nth l i=some v→p v=true
 | [],i,v,_,h=>by cases i<;>cases h
 | x::r,0,v,h,hv=>by
  simp only [List.all_cons,Bool.and_eq_true] at h
  have:x=some v:=hv
  subst this
  exact h.1
 | x::r,i+1,v,h,hv=>by
  simp only [List.all_cons,Bool.and_eq_true] at h
  exact zlT h.2 hv
theorem zrW {ν:Nat→DV} {i:Nat} {ts:List LT} {s:St} : M.sat F ν (zoW i ts s) (fun s1=>∀ ρ a w,RR ν E ρ ⟨s,[]⟩ a w→∃ ρ',RR ν E ρ' ⟨s1,[]⟩ a w):=by
 unfold zoW
 split
 ·rename_i l hl
  refine zae (fun hc=>?_) (fun _=>zab fun ρ a w h=>⟨ρ,h⟩)
  simp only [Bool.and_eq_true] at hc
  refine zaa (zdI fun w=>zcs (E:=E) (w:=w) _ _ _) fun q hq=>?_
  split
  ·rename_i l' hl'
   refine zab fun ρ a w h=>?_
   have hn:=zhH hc.1.1
   obtain ⟨h1,h2,h3,h4,ρ',h5,h6,h7⟩:=hq w ρ h.hs hc.1.2 (by subst hn;rfl) (fun y hy=>by
    rcases List.mem_cons.1 hy with rfl | hy
    ·subst hn;trivial
    ·cases hy)
   rw [hl'] at h7 h3
   have h7:l'.conc ν ρ'=l.conc ν ρ:=by simpa using h7
   have hg:l'.good ν:=h3 l' (by simp)
   refine ⟨ρ',⟨h.act.defers,by rw [h.act.size];exact (zah _ _ _).symm,fun t v hv=>?_,fun e he=>by cases he⟩,h6⟩
   by_cases ht:t=i
   ·subst ht
    have h8:=h.act.slot t _ hl
    have hv:nth (zaw (some (V.s (.one l'))) s.sl t) t=some v:=hv
    rw [zau] at hv
    split at hv
    ·cases hv
     exact ⟨V1.good_one.2 hg,by rw [h8.2];exact congrArg some h7.symm⟩
    ·cases hv
   ·have hv:nth (zaw (some (V.s (.one l'))) s.sl i) t=some v:=hv
    rw [zay _ _ _ _ (fun hc=>ht hc.symm)] at hv
    have h8:=h.act.slot t _ hv
    have hlt:v.lt s.hp.length=true:=zlT hc.2 hv
    exact ⟨h8.1,by rw [h8.2,V.conc_low hlt h5]⟩
  ·exact zac
 ·exact zab fun ρ a w h=>⟨ρ,h⟩
theorem zj8 {ν:Nat→DV} : ∀ {h:List (Nat×List LT)} {s:St},M.sat F ν (zgH h s) (fun s1=>∀ ρ a w,RR ν E ρ ⟨s,[]⟩ a w→∃ ρ',RR ν E ρ' ⟨s1,[]⟩ a w)
 | [],s=>zab fun ρ a w h=>⟨ρ,h⟩
 | (i,ts)::r,s=>zaa zrW fun s1 h1=>zag (zj8 (h:=r) (s:=s1)) fun s2 h2 ρ a w h=>by
  obtain ⟨ρ',h3⟩:=h1 ρ a w h
  exact h2 ρ' a w h3
theorem zoe {ν:Nat→DV} {ev:St→M X} {b:Code} {fid:Nat} {D:List Nat} {lh:Option LH} {s:St}
  (hev:∀ (ν':Nat→DV) (s':St),M.sat F ν' (ev s') (fun x=>∀ ρ a w,RR ν' E ρ ⟨s',[]⟩ a w→b.wp P (XPost ν' E x) a w)) :
  M.sat F ν (zqD E.n0 ev fid D lh s) (fun z=>∀ ρ a w,RR ν E ρ ⟨s,[]⟩ a w→zbj P b (XPost ν E z) a w):=by
 intro n z n' e' d' h hsat hob
 have key:∀ {f:St→M X} (hs:List (Nat×List LT)),(∀ s1,M.sat F ν (f s1) (fun z=>∀ ρ a w,RR ν E ρ ⟨s1,[]⟩ a w→zbj P b (XPost ν E z) a w)) →
   M.sat F ν (do let s1 ←zgH hs s;f s1) (fun z=>∀ ρ a w,RR ν E ρ ⟨s,[]⟩ a w→zbj P b (XPost ν E z) a w):=fun hs hf =>
  zaa zj8 fun s1 h1=>zag (hf s1) fun z hz ρ a w hr=>by
   obtain ⟨ρ',h3⟩:=h1 ρ a w hr
   exact hz ρ' a w h3
 unfold zqD at h
 split at h
 ·exact key _ (fun s1=>zod hev) n z n' e' d' h hsat hob
 ·split at h
  ·exact zdT (key _ fun s1=>zmZ hev) (zmZ hev) n z n' e' d' h hsat hob
  ·exact zmZ hev n z n' e' d' h hsat hob
theorem ztg {α:Type} {ν:Nat→DV} {x:M α} {Q:α→Prop} (h:M.sat F ν x Q):M.sat F ν (M.opt x) (fun o=>∀ a,o=some a→Q a):=by
 intro n a n' e d h1 h2 h3
 unfold M.opt at h1
 cases hx:x n with
 | some r =>
  obtain ⟨b,n1,e1,d1⟩:=r
  rw [hx] at h1
  simp only [Option.some.injEq,Prod.mk.injEq] at h1
  obtain ⟨rfl,rfl,rfl,rfl⟩:=h1
  intro c hc
  cases hc
  exact h n b n1 e1 d1 hx h2 h3
 | none =>
  rw [hx] at h1
  simp only [Option.some.injEq,Prod.mk.injEq] at h1
  obtain ⟨rfl,_⟩:=h1
  intro c hc
  cases hc
theorem zgk {ops:Array Oper} {Q Q':Exit→Act→World→Prop} (h:∀ e a w,Q e a w→Q' e a w):∀ (l:List Oper) (a:Act) (w:World),wpList P ops Q l a w→wpList P ops Q' l a w
 | [],a,w,hh=>h _ _ _ hh
 | o::l,a,w,hh=>by
  simp only [wpList] at hh ⊢
  split
  ·rename_i hw
   rw [if_pos hw] at hh
   exact zeh (zgk h l) (fun e a w _=>h e a w) hh
  ·rename_i hw
   rw [if_neg hw] at hh
   exact zgk h l _ _ hh
theorem zg2 {r:RS} : ∀ {n d:Nat} {g:Nat×A},zgG r n d=some g→nth r.st.sl g.1=some (.s (.one (.b g.2)))
 | 0,_,_,h=>by cases h
 | n+1,d,g,h=>by
  unfold zgG at h
  split at h
  ·rename_i a ha
   cases h
   exact ha
  ·cases h
  ·split at h
   ·exact zg2 h
   ·cases h
theorem zlU {ν:Nat→DV} {ρ:Nat→Loc} {d:Nat} {b:Bool} {a:Act} (hd:a.tmps[d]? = some (.bool b)):∀ (gl:List GE) (sl:List (Option V)),
  (∀ e∈gl,(a.tmps[e.d]? = some (.bool e.want)→e.v.good ν∧a.tmps[e.t]? = some (e.v.conc ν ρ))∧(a.tmps[e.d]?≠some (.bool e.want)→a.tmps[e.t]? = some undef)) →
  (∀ t v,nth sl t=some v→v.good ν∧a.tmps[t]? = some (v.conc ν ρ)) →
  (zro d b gl sl).1.length=sl.length∧(∀ t v,nth (zro d b gl sl).1 t=some v→v.good ν∧a.tmps[t]? = some (v.conc ν ρ)) ∧
  (∀ e∈(zro d b gl sl).2,(a.tmps[e.d]? = some (.bool e.want)→e.v.good ν∧a.tmps[e.t]? = some (e.v.conc ν ρ))∧(a.tmps[e.d]?≠some (.bool e.want)→a.tmps[e.t]? = some undef))
 | [],sl,_,h2=>⟨rfl,h2,fun e he=>by cases he⟩
 | e::l,sl,h1,h2=>by
  obtain ⟨k1,k2,k3⟩:=zlU hd l sl (fun x hx=>h1 x (List.mem_cons_of_mem _ hx)) h2
  unfold zro
  dsimp only
  split
  ·rename_i he
   have he:=Nat.eq_of_beq_eq_true he
   dsimp only
   refine ⟨?_,fun t v hv=>?_,k3⟩
   ·split
    ·rw [zah];exact k1
    ·exact k1
   ·split at hv
    ·rename_i hc
     by_cases ht:e.t=t
     ·subst ht
      rw [zau] at hv
      split at hv
      ·split at hv
       ·rename_i hw
        cases hv
        exact (h1 e (by simp)).1 (by rw [he,zcW hw];exact hd)
       ·rename_i hw
        cases hv
        exact ⟨V.good_s.2 (V1.good_one.2 trivial),(h1 e (by simp)).2 (by rw [he,hd];intro hh;cases hh;exact zoY hw rfl)⟩
      ·cases hv
     ·rw [zay _ _ _ _ ht] at hv
      exact k2 t v hv
    ·exact k2 t v hv
  ·dsimp only
   refine ⟨k1,k2,fun x hx=>?_⟩
   rcases List.mem_cons.1 hx with rfl | hx
   ·exact h1 x (by simp)
   ·exact k3 x hx
theorem RR.know_rel {ν:Nat→DV} {ρ:Nat→Loc} {r:RS} {a:Act} {w:World} {d:Nat} {c:A} {b:Bool} (h:RR ν E ρ r a w) (hd:nth r.st.sl d=some (.s (.one (.b c)))) (hc:c.bool ν=b):RR ν E ρ (r.know d b) a w:=by
 have h0:a.tmps[d]? = some (.bool b):=by
  rw [(h.act.slot d _ hd).2,←hc]
  rfl
 have hk:=zlU (ν:=ν) (ρ:=ρ) h0 r.gl (zaw (some (.s (.one (.b (.t b))))) r.st.sl d) h.act.gl (fun t v hv=>by
  by_cases ht:d=t
  ·subst ht
   rw [zau] at hv
   split at hv
   ·cases hv
    exact ⟨V.good_s.2 (V1.good_one.2 trivial),h0⟩
   ·cases hv
  ·rw [zay _ _ _ _ ht] at hv
   exact h.act.slot t v hv)
 refine ⟨⟨h.act.defers,?_,hk.2.1,hk.2.2⟩,h.hs⟩
 rw [h.act.size]
 exact (hk.1.trans (zah _ _ _)).symm
theorem zdr (hS:SigsOK P I gK S F) (hE:E.Ok gK) (hn0:S.n0=E.n0) (hI:∀ w,Fr E.W E.w0 w→I w) {ν:Nat→DV} {ops:Array Oper} : ∀ (n:Nat) (l:List Oper) (r:RS),
  M.sat F ν (zfo P S ops.toList n l r) (fun x=>∀ ρ a w,RR ν E ρ r a w→wpList P ops (XPost ν E x) l a w)
 | 0,_,_=>zac
 | _+1,[],r=>zab fun ρ a w h=>⟨trivial,ρ,h.drop⟩
 | n+1,o::l,r=>by
  unfold zfo
  refine zaa (ztg (zcQ (E:=E) hS hE hn0 hI false)) fun z hz=>?_
  cases z with
  | some r1 =>
   refine zag (zdr hS hE hn0 hI n l r1) fun x hx ρ a w h=>?_
   have:=(hz r1 rfl).1 rfl ρ a w h (wpList P ops (XPost ν E x) l) (XPost ν E x) (fun ρ' a' w' h'=>hx ρ' a' w' h')
   simp only [wpList]
   split
   ·rename_i hw;rw [if_pos hw] at this;exact .inl this
   ·rename_i hw;rw [if_neg hw] at this;exact this
  | none =>
   dsimp only
   split
   ·exact zac
   ·refine zaa zat fun d _=>zaa (zad (Q:=fun g=>zgG r 8 d=some g) fun a h=>h) fun g hg=>zae (fun _=>zac) (fun _=>?_)
    have hs:=zg2 hg
    refine zaa (zbu (zdr hS hE hn0 hI n (o::l) (r.know g.1 true))) fun x hx=>zaa (zbu (zdr hS hE hn0 hI n (o::l) (r.know g.1 false))) fun y hy=>zab fun ρ a w h=>?_
    have hmono:∀ {z:X},(∀ e a w,XPost ν E z e a w→XPost ν E (.br g.2 x y) e a w)→wpList P ops (XPost ν E z) (o::l) a w→wpList P ops (XPost ν E (.br g.2 x y)) (o::l) a w:=fun hz hh=>zgk hz _ _ _ hh
    cases hb:g.2.bool ν with
    | true=>exact hmono (fun e a w hp=>by unfold XPost at hp ⊢;simp only [X.sel,hb,if_true];exact hp) (hx hb ρ a w (h.know_rel hs hb))
    | false=>exact hmono (fun e a w hp=>by unfold XPost at hp ⊢;simp only [X.sel,hb,Bool.false_eq_true,if_false];exact hp) (hy hb ρ a w (h.know_rel hs hb))
theorem zfa {ν:Nat→DV} : ∀ (l:List (Option V)),M.sat F ν (zfp l) (fun r=>r.length=l.length∧∀ i v,nth r i=some v→∃ u,nth l i=some u∧(V.good ν u→V.good ν v)∧∀ ρ,v.conc ν ρ=u.conc ν ρ)
 | []=>zab ⟨rfl,fun i v h=>⟨v,h,id,fun _=>rfl⟩⟩
 | some v::l=>by
  unfold zfp
  refine zaa zly fun u hu=>zaa (zfa l) fun r hr=>zab ⟨by simp [hr.1],fun i x hx=>?_⟩
  cases i with
  | zero=>cases hx;exact ⟨v,rfl,hu.1,hu.2⟩
  | succ i=>exact hr.2 i x hx
 | none::l=>by
  unfold zfp
  refine zaa (zfa l) fun r hr=>zab ⟨by simp [hr.1],fun i x hx=>?_⟩
  cases i with
  | zero=>cases hx
  | succ i=>exact hr.2 i x hx
theorem zds {ν:Nat→DV} : ∀ (l:List Nat) (hp:List (Option Blk)),M.sat F ν (zfq l hp) (fun hp'=>∀ ρ w,HS E ν ρ hp w→HS E ν ρ hp' w)
 | [],hp=>zab fun _ _ h=>h
 | b::l,hp=>by
  unfold zfq
  split
  ·exact zae (fun _=>zaa (zjK (E:=E)) fun hp1 h1=>zag (zds l hp1) fun hp2 h2 ρ w h=>h2 ρ w (h1.2 ρ w h)) (fun _=>zds l hp)
  ·exact zds l hp
theorem zof {ν:Nat→DV} {s:St} : M.sat F ν (zms s) (fun s1=>∀ ρ a w,RR ν E ρ ⟨s,[]⟩ a w→RR ν E ρ ⟨s1,[]⟩ a w):=by
 unfold zms
 refine zae (fun _=>?_) (fun _=>zac)
 refine zaa (zfa _) fun sl hsl=>zaa (zds (E:=E) _ _) fun hp hhp=>zab fun ρ a w h=>⟨⟨h.act.defers,by rw [h.act.size];exact hsl.1.symm,fun t v ht=>?_,fun e he=>by cases he⟩,hhp ρ w h.hs⟩
 obtain ⟨u,h1,h2,h3⟩:=hsl.2 t v ht
 obtain ⟨g1,g2⟩:=h.act.slot t u h1
 exact ⟨h2 g1,by rw [h3];exact g2⟩
theorem zth {ν:Nat→DV} {ev:St→M X} {b:Code} {fid:Nat} {D:List Nat} {lh:Option LH} {s:St}
  (hev:∀ (ν':Nat→DV) (s':St),M.sat F ν' (ev s') (fun x=>∀ ρ a w,RR ν' E ρ ⟨s',[]⟩ a w→b.wp P (XPost ν' E x) a w)) :
  M.sat F ν (zsN E.n0 ev fid D lh s) (fun z=>∀ ρ a w,RR ν E ρ ⟨s,[]⟩ a w→zbj P b (XPost ν E z) a w):=by
 unfold zsN
 exact zdT (zoe hev) (zaa (zof (E:=E)) fun s1 h1=>zag (zoe hev) fun z hz ρ a w h=>hz ρ a w (h1 ρ a w h))
end
end Go.Sx
namespace Go.Sx
open Go.RowKit
section
variable {P:Program} {I:World→Prop} {S:Sigs} {F:FEnv} {E:Env} {gK:Nat}
def zog (P:Program) (ν:Nat→DV) (E:Env) (c:Code) (s:St) (x:X):Prop :=
 ∀ ρ a w,RR ν E ρ ⟨s,[]⟩ a w→c.wp P (XPost ν E x) a w∧∀ b,c = .loop b→zbj P b (XPost ν E x) a w
theorem zog.plain {ν:Nat→DV} {c:Code} {s:St} {x:X} (hc:∀ b,c≠.loop b) (h:∀ ρ a w,RR ν E ρ ⟨s,[]⟩ a w→c.wp P (XPost ν E x) a w):zog P ν E c s x :=
 fun ρ a w hr=>⟨h ρ a w hr,fun b hb=>absurd hb (hc b)⟩
theorem zg3 (hS:SigsOK P I gK S F) (hE:E.Ok gK) (hn0:S.n0=E.n0) (hI:∀ w,Fr E.W E.w0 w→I w):∀ (n:Nat) (ν:Nat→DV) (c:Code) (s:St),M.sat F ν (zb5 P S n c s) (zog P ν E c s)
 | 0,_,_,_=>zac
 | n+1,ν,c,s=>by
  have evCode_sat:∀ (hS:SigsOK P I gK S F) (n':Nat) (hn:n'=n) (c:Code) (s:St),M.sat F ν (zb5 P S n' c s) (fun x=>∀ ρ a w,RR ν E ρ ⟨s,[]⟩ a w→c.wp P (XPost ν E x) a w) :=
   fun hS n' hn c s=>by subst hn;exact zag (zg3 hS hE hn0 hI n' ν c s) fun x hx ρ a w h=>(hx ρ a w h).1
  have plain:∀ {x:M X} {Q:X→Prop},(∀ b,c≠.loop b)→M.sat F ν x (fun z=>∀ ρ a w,RR ν E ρ ⟨s,[]⟩ a w→c.wp P (XPost ν E z) a w)→M.sat F ν x (zog P ν E c s) :=
   fun hc h=>zag h fun z hz=>zog.plain hc hz
  cases c<;>simp only [zb5,hn0]
  case loop c =>
   refine zaa (evCode_sat hS n rfl c s) fun u hu=>?_
   refine zag (zgh (_G:=fun _=>True) (N:=fun Q a w=>zbj P c Q a w) (fun s'=>zag (zg3 hS hE hn0 hI n ν (.loop c) s') fun x hx ρ a w h=>(hx ρ a w h).2 c rfl) (fun Q Q' a w h hw=>zbj.mono h hw)) fun z hz ρ a w h=>?_
   have:=zbj.step (wp_mono (hu ρ a w h) hz)
   exact ⟨this.wp,fun b hb=>by cases hb;exact this⟩
  all_goals refine plain (Q:=fun _=>True) (fun b=>by simp) ?_
  case skip=>exact zab fun ρ a w h=>wp_skip ⟨trivial,ρ,h⟩
  case label l=>exact zab fun ρ a w h=>wp_label ⟨trivial,ρ,h⟩
  case region id ops draw =>
   refine zaa (ztg (zn9 (E:=E) (id:=id) hS hE hn0 hI)) fun z hz=>?_
   cases z with
   | some s'=>exact zab fun ρ a w h=>hz s' rfl ρ a w h _ fun ρ' a' w' h'=>⟨trivial,ρ',h'⟩
   | none =>
    refine zae (fun _=>zac) (fun hd=>?_)
    have hd:draw=false:=by simpa using hd
    subst hd
    exact zag (zdr (E:=E) hS hE hn0 hI (ops:=ops) _ ops.toList ⟨s,[]⟩) fun x hx ρ a w h=>wp_region_list (hx ρ a w h)
  case seq x y =>
   refine zaa (evCode_sat hS n rfl x s) fun u hu=>?_
   refine zag (zgh (_G:=fun _=>True) (N:=fun Q a w=>y.wp P Q a w) (fun s'=>evCode_sat hS n rfl y s') (fun Q Q' a w h hw=>wp_mono hw h)) fun z hz ρ a w h=>?_
   exact wp_seq (wp_mono (hu ρ a w h) hz)
  case cond c x y =>
   refine zaa (zad (Q:=fun v=>rd ⟨s,[]⟩ [] c=some v) fun a h=>h) fun v hv=>?_
   split
   ·rename_i b
    have hread:∀ ρ a w,RR ν E ρ ⟨s,[]⟩ a w→a.eval c = .bool (b.bool ν):=fun ρ a w h=>(zal h.act (fun p hp=>by simp at hp) hv).2
    split
    ·exact zag (evCode_sat hS n rfl x s) fun u hu ρ a w h=>wp_cond_true (hread ρ a w h) (hu ρ a w h)
    ·exact zag (evCode_sat hS n rfl y s) fun u hu ρ a w h=>wp_cond_false (hread ρ a w h) (hu ρ a w h)
    ·refine zae (fun _=>?_) (fun _=>zae (fun _=>?_) (fun _=>?_))
     ·refine zaa zeS fun q hq=>zaa (zbl (Q:=fun _=>b.bool ν=false) fun h=>by rw [hq] at h;simpa using h) fun _ hb=>?_
      exact zag (evCode_sat hS n rfl y s) fun u hu ρ a w h=>wp_cond_false (by rw [hread ρ a w h,hb]) (hu ρ a w h)
     ·refine zaa (zbl (Q:=fun _=>b.bool ν=true) fun h=>h) fun _ hb=>?_
      exact zag (evCode_sat hS n rfl x s) fun u hu ρ a w h=>wp_cond_true (by rw [hread ρ a w h,hb]) (hu ρ a w h)
     refine zaa (zbu (evCode_sat hS n rfl x s)) fun u hu=>zaa (zbu (evCode_sat hS n rfl y s)) fun v hv=>zab fun ρ a w h=>?_
     refine wp_cond_split (hread ρ a w h) (fun hb=>wp_mono (hu hb ρ a w h) fun e a w hp=>?_) (fun hb=>wp_mono (hv hb ρ a w h) fun e a w hp=>?_)
     ·unfold XPost at hp ⊢
      simp only [X.sel,hb,if_true];exact hp
     ·unfold XPost at hp ⊢
      simp only [X.sel,hb];exact hp
   ·exact zac
  case block id c =>
   have hblk:∀ {x:M X},M.sat F ν x (fun u=>∀ ρ a w,RR ν E ρ ⟨s,[]⟩ a w→c.wp P (XPost ν E u) a w) →
     M.sat F ν (do pure ((←x).inBlock id):M X) (fun z=>∀ ρ a w,RR ν E ρ ⟨s,[]⟩ a w→(Code.block id c).wp P (XPost ν E z) a w):=by
    intro x hx
    refine zaa hx fun u hu=>zab fun ρ a w h=>wp_block (wp_mono (hu ρ a w h) fun e a w hp=>?_)
    obtain ⟨hk,ρ',hr⟩:=hp
    have hpost:∀ e',((u.sel ν).1.inBlock id).is e'→XPost ν E (u.inBlock id) e' a w:=fun e' he'=>by
     unfold XPost
     rw [zgi]
     exact ⟨he',ρ',hr⟩
    generalize hkk:(u.sel ν).1=k at *
    cases k<;>cases e<;>simp only [K.is] at hk<;>first | exact hk.elim | skip
    ·exact hpost .normal trivial
    ·exact hpost .ret trivial
    ·rename_i i j
     subst hk
     simp only [Exit.inBlock]
     by_cases hij:i=id
     ·rw [if_pos hij];exact hpost .normal (by subst hij;simp [K.inBlock,K.is])
     ·rw [if_neg hij];exact hpost (.exit i) (by simp [K.inBlock,K.is,hij])
    ·subst hk;exact hpost _ rfl
   split
   ·split
    ·rename_i fid _ b
     refine hblk (zag (zth (E:=E) (b:=b) fun ν' s'=>zag (zg3 hS hE hn0 hI n ν' b s') fun x hx ρ a w h=>(hx ρ a w h).1) fun z hz ρ a w h=>(hz ρ a w h).wp)
    ·exact hblk (evCode_sat hS n rfl c s)
   ·exact hblk (evCode_sat hS n rfl c s)
  case exit id=>exact zab fun ρ a w h=>wp_exit ⟨rfl,ρ,h⟩
  case goto l=>exact zab fun ρ a w h=>wp_goto ⟨rfl,ρ,h⟩
  case scope c =>
   refine zaa (evCode_sat hS n rfl c s) fun u hu=>zae (fun hg=>zab fun ρ a w h=>wp_scope_straight (wp_mono (hu ρ a w h) fun e a w hp=>?_))
    (fun _=>zag (zj4 (E:=E) (fun c s=>evCode_sat hS n rfl c s) c 16 u) fun z hz ρ a w h=>zfB.wp (.of_wp (wp_mono (hu ρ a w h) hz)))
   cases e<;>first | exact hp | skip
   rename_i l
   have:=hp.1
   have hng:=zfA (ν:=ν) u hg l
   generalize (u.sel ν).1=k at *
   cases k<;>simp only [K.is] at this
   subst this
   exact absurd rfl hng
  case ret=>exact zab fun ρ a w h=>wp_ret ⟨trivial,ρ,h⟩
  all_goals exact zac
end
end Go.Sx
namespace Go.Sx
open Go.RowKit
section
variable {P:Program} {I:World→Prop} {S:Sigs} {F:FEnv} {E:Env} {gK:Nat} {ν:Nat→DV}
def zg4:List Value→Value
 | [v]=>v
 | l=>.tuple l.toArray
theorem zeA (l:List V1) (ρ:Nat→Loc):(zdZ l).conc ν ρ=zg4 (l.map (V1.conc ν ρ))∧((∀ x∈l,V1.good ν x)→(zdZ l).good ν):=by
 unfold zdZ zg4
 match l with
 | []=>exact ⟨rfl,fun _=>by simp [V.good]⟩
 | [v]=>exact ⟨rfl,fun h=>h v (by simp)⟩
 | v::u::r=>exact ⟨rfl,fun h=>h⟩
def resM (tmps:Array Value):ResultVar→Sem Value
 | .tmp t=>pure (tmps.getD t undef)
 | .cell p t=>do loadVar t (←asAddr (tmps.getD p undef))
theorem zoh (fn:Func) (tmps:Array Value):results fn tmps=(do let vs ←fn.results.mapM (resM tmps);pure (if h:vs.size=1 then vs[0] else .tuple vs)):=by
 unfold results
 congr 2
theorem zj9 {s:St} : ∀ (l:List ResultVar),M.sat F ν (zrp P s l) (fun vs=>∀ ρ a w,ARel ν ρ ⟨s,[]⟩ a→HRel E ν ρ s.hp w →
  (∀ v∈vs,V1.good ν v)∧(l.mapM (resM a.tmps)).run P w = .ok (vs.map (V1.conc ν ρ)) w)
 | []=>zab fun ρ a w _ _=>⟨by simp,rfl⟩
 | .tmp t::l=>by
  unfold zrp
  refine zaa (zad (Q:=fun v=>nth s.sl t=some v) fun a h=>h) fun v hv=>?_
  split
  ·rename_i v1
   refine zaa (zj9 l) fun vs hvs=>zab fun ρ a w ha hh=>?_
   obtain ⟨h1,h2⟩:=hvs ρ a w ha hh
   obtain ⟨g1,g2⟩:=ha.slot t _ hv
   refine ⟨fun x hx=>?_,?_⟩
   ·rcases List.mem_cons.1 hx with rfl | hx
    ·exact g1
    ·exact h1 x hx
   ·have e:a.tmps.getD t undef=v1.conc ν ρ:=by simp [g2,V.conc]
    rw [List.mapM_cons]
    simp only [Sem.run_bind,resM,Sem.run_pure,Result.andThen_ok,e,h2,List.map_cons]
  ·exact zac
 | .cell t ty::l=>by
  unfold zrp
  refine zaa (zad (Q:=fun v=>nth s.sl t=some v) fun a h=>h) fun v hv=>?_
  split
  ·rename_i b off
   refine zaa (zad (Q:=fun k=>tk P ty=some k) fun a h=>h) fun k hk=>?_
   refine zaa (zad (Q:=fun k=>zaO P ty=some k) fun a h=>h) fun sz hs=>?_
   refine zaa (zad (Q:=fun bk=>nth s.hp b=some bk) fun a h=>h) fun bk hbk=>?_
   split
   ·rename_i o cs
    by_cases hg:off.good ν
    ·refine zaa (zd8 (own:=o) hk hs hg) fun u hu=>zaa (zj9 l) fun vs hvs=>zab fun ρ a w ha hh=>?_
     obtain ⟨h1,h2⟩:=hvs ρ a w ha hh
     obtain ⟨g1,g2⟩:=ha.slot t _ hv
     obtain ⟨u1,u2⟩:=hu ρ w (ρ b) (hh.blk b _ hbk)
     refine ⟨fun x hx=>?_,?_⟩
     ·rcases List.mem_cons.1 hx with rfl | hx
      ·exact u1
      ·exact h1 x hx
     ·have e:a.tmps.getD t undef = .pointer (some ⟨(ρ b).blk,(ρ b).off+off.val ν,none⟩):=by simp [g2,V.conc,V1.conc,Lf.conc]
      have er:(resM a.tmps (.cell t ty)).run P w = .ok (u.conc ν ρ) w:=by
       simp only [resM,Sem.run_bind,e,asAddr,Sem.run_pure,Result.andThen_ok,u2]
      rw [List.mapM_cons]
      simp only [Sem.run_bind,er,Sem.run_pure,Result.andThen_ok,h2,List.map_cons]
    ·refine zaa zat fun u _=>zaa zat fun vs _=>zab fun ρ a w ha hh=>?_
     exact absurd ((ha.slot t _ hv).1 (.p b off) (by simp [V1.cells])) hg
   ·exact zac
  ·exact zac
theorem zrX {fn:Func} {tmps:Array Value} {w:World} {vals:List Value}
  (h:(fn.results.toList.mapM (resM tmps)).run P w = .ok vals w) :
  (results fn tmps).run P w = .ok (zg4 vals) w:=by
 have hm:∀ (f:ResultVar→Sem Value),(fn.results.mapM f).run P w=((fn.results.toList.mapM f).run P w).andThen fun l w'=>.ok l.toArray w':=by
  intro f
  rw [Array.mapM_eq_mapM_toList]
  simp
 rw [zoh,Sem.run_bind,hm,h]
 simp only [Result.andThen_ok,Sem.run_pure]
 match vals with
 | []=>rfl
 | [v]=>rfl
 | v::u::r=>rfl
theorem zpz {rs:List ResultVar} {keep:Bool} (hk0:keep=false→E.n0=0):∀ (x:X),M.sat F ν (x.res P rs keep) (fun y=>(x.sel ν).1.ends=true∧(y.sel ν).1.isNormal=true∧∀ ρ a w,RR ν E ρ ⟨(x.sel ν).2,[]⟩ a w →
  ∃ v vals,(rs.mapM (resM a.tmps)).run P w = .ok vals w∧zg4 vals=v∧RR ν E ρ ⟨(y.sel ν).2,[]⟩ (zlC v) w)
 | .done k s=>by
  unfold X.res
  refine zae (fun hk=>?_) (fun _=>zac)
  refine zaa (zj9 (E:=E) rs) fun vs hvs=>zab ⟨hk,rfl,fun ρ a w h=>?_⟩
  obtain ⟨h1,h2⟩:=hvs ρ a w h.act h.hs.heap
  refine ⟨_,_,h2,rfl,⟨rfl,rfl,fun t v ht=>?_,fun e he=>by cases he⟩,?_⟩
  ·cases t with
   | zero =>
    cases ht
    exact ⟨(zeA vs ρ).2 h1,by rw [(zeA vs ρ).1];rfl⟩
   | succ t=>cases t<;>cases ht
  ·simp only [X.sel]
   cases keep with
   | true=>exact h.hs
   | false =>
    have hno:∀ j bk,nth ([]:List (Option Blk)) j=some bk→False:=fun j bk hj=>by cases j<;>cases hj
    exact ⟨⟨fun j bk hj=>(hno j bk hj).elim,fun j j' bk bk' hj=>(hno j bk hj).elim⟩,fun j bk hj=>(hno j bk hj).elim,h.hs.fr,by rw [hk0 rfl];exact Nat.zero_le _,fun j hj=>by rw [hk0 rfl] at hj;omega⟩
 | .br c x y=>by
  unfold X.res
  refine zaa (zbu (zpz hk0 x)) fun u hu=>zaa (zbu (zpz hk0 y)) fun v hv=>zab ?_
  simp only [X.sel]
  by_cases hc:c.bool ν=true
  ·simp only [hc,if_true]
   exact hu hc
  ·simp only [hc]
   exact hv (by simpa using hc)
def ow (path:List (Bool×Bool)) (a:Bool):Bool:=!(path.all fun c=>c.1==c.2)||a
def zcd (ν:Nat→DV) (l:List Nd):Bool:=(l.map fun q=>ow (q.path.map fun c=>(c.1.bool ν,c.2)) (q.a.bool ν)).all id
theorem zka {l:List Nd} (h:zcd ν l=true):∀ q∈l,Nd.holds ν q:=by
 intro q hq hp
 have:=List.all_eq_true.1 h _ (List.mem_map.2 ⟨q,hq,rfl⟩)
 simp only [ow,id,Bool.or_eq_true,Bool.not_eq_true',List.all_map] at this
 rcases this with h' | h'
 ·have:(q.path.all ((fun c:Bool×Bool=>c.1==c.2)∘fun c=>(c.1.bool ν,c.2)))=true:=List.all_eq_true.2 fun c hc=>by simp [hp c hc]
  rw [this] at h';cases h'
 ·exact h'
theorem zg5 {α:Type} (n i:Nat):nth (List.replicate n (none:Option α)) i=none:=by
 induction n generalizing i with
 | zero=>cases i<;>rfl
 | succ n ih=>cases i with
  | zero=>rfl
  | succ i=>exact ih i
def zqZ (I:World→Prop) (gK:Nat):Prop:=∀ w w',w.heap.size≤w'.heap.size→(∀ b,b<gK→w'.heap[b]? = w.heap[b]?)→I w→I w'
def zaX (F:FEnv) (sg:Sig) (out:Out) (ds:List DV):Nat→DV :=
 look (fun _=>default) 0 (zaU F (fun _=>default) 0 out.nodes ds.reverse sg.nin) (sg.nin+out.nodes.length)
theorem zkb {F:FEnv} {ν:Nat→DV} : ∀ (d:List Ob),(∀ q∈zir d,Nd.holds ν q)→(∀ q∈zho d,zas F q)→∀ q∈d,Ob.holds F ν q
 | [],_,_,q,hq=>by cases hq
 | .nd o::d,h1,h2,q,hq=>by
  rcases List.mem_cons.1 hq with rfl | hq
  ·exact h1 o (by simp [zir])
  ·exact zkb d (fun q hq=>h1 q (by simp [zir,hq])) h2 q hq
 | .lp o::d,h1,h2,q,hq=>by
  rcases List.mem_cons.1 hq with rfl | hq
  ·exact h2 o (by simp [zho])
  ·exact zkb d h1 (fun q hq=>h2 q (by simp [zho,hq])) q hq
theorem zkc {hin:List (Option Blk)} {m:List Nat} : ∀ {l:List (Option Blk)} {j:Nat},znv hin m j l=true→∀ i,i<l.length→stays hin (j+i)=true→rnm m (j+i)=j+i
 | [],_,_,i,hi,_=>by simp at hi
 | _::l,j,h,0,_,hs=>by
  simp only [znv,Bool.and_eq_true,Bool.or_eq_true,Bool.not_eq_true'] at h
  rw [Nat.add_zero] at hs ⊢
  rcases h.1 with h1 | h1
  ·rw [hs] at h1;cases h1
  ·exact Nat.eq_of_beq_eq_true h1
 | _::l,j,h,i+1,hi,hs=>by
  simp only [znv,Bool.and_eq_true] at h
  have:=zkc h.2 i (by simpa using hi) (by rwa [show j+1+i=j+(i+1) from by omega])
  rwa [show j+1+i=j+(i+1) from by omega] at this
theorem zrY {ks:List Nat} {s0:St} : M.sat F ν (zsy ks s0) (fun s1=>∀ ρ a w,RR ν E ρ ⟨s0,[]⟩ a w→∃ ρ',RR ν E ρ' ⟨s1,[]⟩ a w):=by
 unfold zsy
 refine zae (fun _=>zab fun ρ a w h=>⟨ρ,h⟩) (fun _=>zae (fun hlt=>?_) (fun _=>zac))
 refine zaa (zjJ (E:=E)) fun hp1 h1=>zab fun ρ a w h=>?_
 obtain ⟨ρ',e1,e2⟩:=h1.2 ρ w h.hs
 exact ⟨ρ',h.act.ext e1 hlt (by simp) hp1,e2⟩
theorem zpA {n:Nat} {pat z:St} : M.sat F ν (zoL n pat z) (fun z1=>∀ ρ a w,RR ν E ρ ⟨z,[]⟩ a w→RR ν E ρ ⟨z1,[]⟩ a w):=by
 unfold zoL
 refine zae (fun _=>?_) (fun _=>zab fun _ _ _ h=>h)
 exact zaa (zaL (E:=E) _ _ _) fun hp1 h1=>zab fun ρ a w h=>⟨⟨h.act.defers,h.act.size,h.act.slot,h.act.gl⟩,h1.2 ρ w h.hs⟩
theorem zrZ {w:World} {pat:List (Option Blk)} {p v:Lf} {hp:List (Option Blk)} : M.sat F ν (zsP pat p v hp) (fun q=>hp.length≤q.2.length∧∀ ρ,HS E ν ρ hp w→v.good ν →
  q.1.good ν∧∃ ρ':Nat→Loc,(∀ j,j<hp.length→ρ' j=ρ j)∧HS E ν ρ' q.2 w∧q.1.conc ν ρ'=v.conc ν ρ):=by
 have keep:M.sat F ν (pure (v,hp):M (Lf×List (Option Blk))) (fun q=>hp.length≤q.2.length∧∀ ρ,HS E ν ρ hp w→v.good ν →
   q.1.good ν∧∃ ρ':Nat→Loc,(∀ j,j<hp.length→ρ' j=ρ j)∧HS E ν ρ' q.2 w∧q.1.conc ν ρ'=v.conc ν ρ) :=
  zab ⟨Nat.le_refl _,fun ρ h hg=>⟨hg,ρ,fun _ _=>rfl,h,rfl⟩⟩
 unfold zsP
 split
 ·split
  ·rename_i ko _ _
   split
   ·rename_i b
    refine zaa (R:=fun hp1=>hp1.length=hp.length∧∀ ρ w,HS E ν ρ hp w→HS E ν ρ hp1 w) ?_ fun hp1 h1=>zaa (zs0 (E:=E)) fun hp2 h2=>zab ⟨by show _≤hp2.length;omega,fun ρ h _=>⟨?_,ρ,fun _ _=>rfl,h2.2 ρ w (h1.2 ρ w h),?_⟩⟩
    ·split
     ·exact zjI
     ·exact zab ⟨rfl,fun _ _ h=>h⟩
    ·exact ⟨by simp [A.int,A.den],by simp [A.int,A.den,zaP]⟩
    ·simp [Lf.conc,zbk,zaP,A.int,A.den,Alt.conc,Off.val]
   ·refine zae (fun hk=>?_) (fun _=>zac)
    simp only [Bool.and_eq_true] at hk
    obtain ⟨hk,hlt⟩:=hk
    refine zaa (zaf (Q:=fun q=>q.cells ν=[.b false,.l []]) fun q h=>A.cells_of_den h) fun q hq=>zab ⟨by simp,fun ρ h _=>⟨?_,?_⟩⟩
    ·exact ⟨by simp [A.int,A.den],by simp [A.int,A.den,zaP]⟩
    ·have hw1:=h.freshO (w':=w) (bk:=.obj true ko q) (r:=⟨0,0,true,0,0,none⟩) hlt (Below.refl _ w)
      (⟨fun e=>(by rw [hk] at e;cases e),fun _=>⟨by rw [hq];rfl,fun e=>(by cases e)⟩⟩:zbn true ko w ⟨0,0,true,0,0,none⟩ (q.cells ν)) (.inl rfl)
     exact ⟨_,fun j hj=>zbQ hj,hw1,by simp [Lf.conc,zbk,zaP,A.int,A.den,Alt.conc]⟩
   ·exact keep
  ·exact keep
 ·exact keep
theorem zkd {w:World} {pat:List (Option Blk)} : ∀ (ps vs:List Lf) (hp:List (Option Blk)),M.sat F ν (zmt pat ps vs hp) (fun q=>∀ ρ,HS E ν ρ hp w→vs.all (Lf.lt hp.length)=true→(∀ x∈vs,x.good ν) →
  (∀ x∈q.1,x.good ν)∧∃ ρ':Nat→Loc,(∀ j,j<hp.length→ρ' j=ρ j)∧HS E ν ρ' q.2 w∧q.1.map (Lf.conc ν ρ')=vs.map (Lf.conc ν ρ))
 | [],vs,hp=>zab fun ρ h _ hg=>⟨hg,ρ,fun _ _=>rfl,h,rfl⟩
 | _::_,[],hp=>zab fun ρ h _ hg=>⟨hg,ρ,fun _ _=>rfl,h,rfl⟩
 | p::ps,v::vs,hp=>by
  unfold zmt
  refine zaa (zrZ (E:=E) (w:=w)) fun x hx=>zae (fun hlt=>?_) (fun _=>zac)
  refine zaa (zkd (w:=w) ps vs x.2) fun r hr=>zab fun ρ h hl hg=>?_
  simp only [List.all_cons,Bool.and_eq_true] at hl
  obtain ⟨g1,ρ1,a1,a2,a3⟩:=hx.2 ρ h (hg v (List.mem_cons_self ..))
  obtain ⟨g2,ρ2,b1,b2,b3⟩:=hr ρ1 a2 (List.all_eq_true.2 fun y hy=>Lf.lt_mono hx.1 (List.all_eq_true.1 hl.2 y hy)) (fun y hy=>hg y (List.mem_cons_of_mem _ hy))
  refine ⟨fun y hy=>?_,ρ2,fun j hj=>(b1 j (by omega)).trans (a1 j hj),b2,?_⟩
  ·rcases List.mem_cons.1 hy with rfl | hy
   ·exact g1
   ·exact g2 y hy
  ·simp only [List.map_cons,b3]
   rw [Lf.conc_keep b1 hlt,a3]
   congr 1
   exact List.map_congr_left fun y hy=>Lf.conc_keep a1 (List.all_eq_true.1 hl.2 y hy)
theorem zke {ρ ρ':Nat→Loc} : ∀ {vs:List V1} {l:List Lf} {us:List V1},zh4 vs l=some us→l.map (Lf.conc ν ρ')=(vs.flatMap V1.cells).map (Lf.conc ν ρ)→(∀ x∈l,x.good ν) →
  us.map (V1.conc ν ρ')=vs.map (V1.conc ν ρ)∧∀ u∈us,V1.good ν u:=by
 intro vs
 induction vs with
 | nil =>
  intro l us h _ _
  cases l with
  | nil=>cases h;exact ⟨rfl,fun u hu=>(by cases hu)⟩
  | cons x l=>cases h
 | cons v r ih =>
  intro l us h hc hg
  cases v with
  | one y =>
   cases l with
   | nil=>cases h
   | cons x l =>
    simp only [zh4,Option.map_eq_some_iff] at h
    obtain ⟨us',h1,rfl⟩:=h
    simp only [List.flatMap_cons,V1.cells,List.cons_append,List.nil_append,List.map_cons,List.cons.injEq] at hc
    obtain ⟨e1,e2⟩:=ih h1 hc.2 (fun z hz=>hg z (List.mem_cons_of_mem _ hz))
    refine ⟨?_,fun u hu=>?_⟩
    ·simp only [List.map_cons,e1]
     congr 1
     exact hc.1
    ·rcases List.mem_cons.1 hu with rfl | hu
     ·exact V1.good_one.2 (hg x (List.mem_cons_self ..))
     ·exact e2 u hu
  | agg ys =>
   have hr:zh4 (.agg ys::r) l=if Nat.ble ys.length l.length then (zh4 r (l.drop ys.length)).map (.agg (l.take ys.length)::·) else none:=by
    cases l<;>rfl
   rw [hr] at h
   split at h
   ·rename_i hle
    have hle:=Nat.le_of_ble_eq_true hle
    simp only [Option.map_eq_some_iff] at h
    obtain ⟨us',h1,rfl⟩:=h
    simp only [List.flatMap_cons,V1.cells,List.map_append] at hc
    rw [←List.take_append_drop ys.length l,List.map_append] at hc
    obtain ⟨c1,c2⟩:=List.append_inj hc (by simp only [List.length_map,List.length_take];omega)
    obtain ⟨e1,e2⟩:=ih h1 c2 (fun z hz=>hg z (List.mem_of_mem_drop hz))
    refine ⟨?_,fun u hu=>?_⟩
    ·simp only [List.map_cons,e1]
     congr 1
     simp only [V1.conc,c1]
    ·rcases List.mem_cons.1 hu with rfl | hu
     ·exact V1.good_agg.2 fun z hz=>hg z (List.mem_of_mem_take hz)
     ·exact e2 u hu
   ·cases h
theorem zr0 {pat z:St} : M.sat F ν (zsR pat z) (fun z1=>∀ ρ a w,RR ν E ρ ⟨z,[]⟩ a w→∃ ρ',RR ν E ρ' ⟨z1,[]⟩ a w):=by
 have keep:M.sat F ν (pure z:M St) (fun z1=>∀ ρ a w,RR ν E ρ ⟨z,[]⟩ a w→∃ ρ',RR ν E ρ' ⟨z1,[]⟩ a w):=zab fun ρ a w h=>⟨ρ,h⟩
 unfold zsR
 split
 ·rename_i p v hp hv
  refine zae (fun _=>zae (fun hlt=>?_) (fun _=>zac)) (fun _=>keep)
  refine zaa (zdI fun w=>zkd (E:=E) (w:=w) _ _ _) fun q hq=>?_
  split
  ·rename_i u hu
   refine zab fun ρ a w h=>?_
   have hs0:=h.act.slot 0 v (by show nth z.sl 0=some v;rw [hv];rfl)
   have hsz:a.tmps.size=1:=by have:=h.act.size;simp only at this;rw [hv] at this;simpa using this
   have hall:v.cellsA.all (Lf.lt z.hp.length)=true:=by
    cases v with
    | s v=>exact hlt
    | t l =>
     exact List.all_eq_true.2 fun x hx=>by
      obtain ⟨y,h1,h2⟩:=List.mem_flatMap.1 hx
      exact List.all_eq_true.1 (List.all_eq_true.1 hlt y h1) x h2
   have hgood:∀ x∈v.cellsA,x.good ν:=by
    cases v with
    | s v=>exact fun x hx=>hs0.1 x hx
    | t l =>
     exact fun x hx=>by
      obtain ⟨y,h1,h2⟩:=List.mem_flatMap.1 hx
      exact hs0.1 y h1 x h2
   obtain ⟨g1,ρ',b1,b2,b3⟩:=hq w ρ h.hs hall hgood
   have huv:u.good ν∧u.conc ν ρ'=v.conc ν ρ:=by
    cases v with
    | s v =>
     simp only [zsQ] at hu
     split at hu
     ·rename_i u1 hu1
      cases hu
      obtain ⟨e1,e2⟩:=zke (ρ:=ρ) hu1 (by rw [b3];simp [V.cellsA]) g1
      simp only [List.map_cons,List.map_nil,List.cons.injEq,and_true] at e1
      exact ⟨e2 u1 (List.mem_cons_self ..),e1⟩
     ·cases hu
    | t l =>
     simp only [zsQ,Option.map_eq_some_iff] at hu
     obtain ⟨us,hu1,rfl⟩:=hu
     obtain ⟨e1,e2⟩:=zke hu1 b3 g1
     exact ⟨e2,by simp only [V.conc,e1]⟩
   refine ⟨ρ',⟨h.act.defers,hsz,fun t x ht=>?_,fun e he=>by cases he⟩,b2⟩
   cases t with
   | zero=>cases ht;exact ⟨huv.1,by rw [huv.2];exact hs0.2⟩
   | succ t=>cases t<;>cases ht
  ·exact zac
 ·exact keep
theorem zm0 {pat:St} : ∀ (x:X),M.sat F ν (x.prep pat) (fun y=>(y.sel ν).1=(x.sel ν).1∧∀ ρ a w,RR ν E ρ ⟨(x.sel ν).2,[]⟩ a w→∃ ρ',RR ν E ρ' ⟨(y.sel ν).2,[]⟩ a w)
 | .done k s=>by
  unfold X.prep
  exact zaa (zr0 (E:=E)) fun z hz=>zab ⟨rfl,hz⟩
 | .br c x y=>by
  unfold X.prep
  refine zaa (zbu (zm0 x)) fun u hu=>zaa (zbu (zm0 y)) fun v hv=>zab ?_
  simp only [X.sel]
  by_cases hc:c.bool ν=true
  ·simp only [hc,if_true]
   exact hu hc
  ·simp only [hc]
   exact hv (by simpa using hc)
theorem zv4 (hS:SigsOK P I gK S F) (hE:E.Ok gK) (hn0:S.n0=E.n0) (hI:∀ w,Fr E.W E.w0 w→I w) {fuel:Nat} {c:Code} {rs:List ResultVar} {keep:Bool} (hk0:keep=false→E.n0=0) {pn:Nat} {pat s0:St} :
  M.sat F ν (zqE P S fuel c rs keep pn pat s0) (fun z=>∀ ρ a w,RR ν E ρ ⟨s0,[]⟩ a w→c.wp P (fun e a' w'=>(e = .normal∨e = .ret)∧a'.defers=[] ∧
   ∃ v vals ρ',(rs.mapM (resM a'.tmps)).run P w' = .ok vals w'∧zg4 vals=v∧RR ν E ρ' ⟨z,[]⟩ (zlC v) w') a w):=by
 unfold zqE
 rw [hn0]
 refine zaa (zrY (E:=E)) fun s1 hs1=>?_
 refine zaa (zg3 hS hE hn0 hI fuel ν c s1) fun x hx=>zaa (zpz hk0 x) fun y0 hy=>zaa (zm0 (E:=E) y0) fun y hp=>zaa (zj3 (E:=E) y) fun o ho=>?_
 obtain ⟨z,hz,hz2⟩:=ho (by rw [hp.1];exact hy.2.1)
 subst hz
 refine zag (zpA (E:=E) (z:=z)) fun z1 hz1=>fun ρ0 a w h0=>?_
 obtain ⟨ρ,h⟩:=hs1 ρ0 a w h0
 refine wp_mono (hx ρ a w h).1 fun e a' w' hpx=>?_
 obtain ⟨hk,ρ1,hr⟩:=hpx
 obtain ⟨v,vals,h1,h2,h3⟩:=hy.2.2 ρ1 a' w' hr
 obtain ⟨ρ3,h3⟩:=hp.2 ρ1 _ w' h3
 obtain ⟨ρ2,h4⟩:=hz2 ρ3 _ w' h3
 refine ⟨?_,hr.act.defers,v,vals,ρ2,h1,h2,hz1 ρ2 _ w' h4⟩
 have hend:=hy.1
 generalize (X.sel ν x).1=k at *
 cases k<;>cases e<;>simp [K.is,K.ends] at hk hend ⊢
theorem PEq.of_ids {ν1 ν2:Nat→DV} : ∀ (ts:List Ty) (k:Nat),(∀ (i:Nat) (t:Ty),ts[i]? = some t→t.eqAt (ν1 (k+i)) (ν2 (k+i)))→PEq ν1 ν2 ts (zap k ts.length) (zap k ts.length)
 | [],_,_=>trivial
 | t::ts,k,h=>⟨h 0 t rfl,PEq.of_ids ts (k+1) fun i u hi=>by have:=h (i+1) u (by simpa using hi);rw [show k+1+i=k+(i+1) from by omega];exact this⟩
theorem zwS {fuel:Nat} {f:FuncId} {fn:Func} {sg:Sig} {out:Out} {G:List DV→List DV} (hst:zqZ I gK) (hS:SigsOK P I gK S F) (hf:P.funcs[f]? = some fn)
  (hev:evFn P S fuel fn sg=some out) (hlp:∀ l∈out.loops,zas F l)
  (hG:∀ ds:List DV,ds.length=sg.nin→(sg.need=true→(dget (G ds) 0).toB=true)→∃ ν:Nat→DV,Sat F ν out.nodes∧(∀ (i:Nat) (t:Ty),sg.its[i]? = some t→t.eqAt (dget ds i) (ν i)) ∧
   zcd ν out.owes=true∧TEq sg.ots ((G ds).drop (if sg.need then 1 else 0)) (out.outs.map (A.den ν))) :
  FnOK P I gK f sg G:=by
 intro ds ρ0 w hIw hlen hneed hKw hKW hgood hheap
 obtain ⟨ν,hsat,hin,howes,houts⟩:=hG ds hlen hneed
 generalize hE0:callEnv sg.hinI ρ0 w=E at *
 have hEn:E.n0=sg.hin.length:=by rw [←hE0];simp [callEnv,Sig.hinI]
 have hEw:E.w0=w:=by rw [←hE0];rfl
 have hEρ:E.ρ0=ρ0:=by rw [←hE0];rfl
 have hEok:E.Ok gK:=⟨by rw [hEw];exact hKw,hKW⟩
 have hI:∀ w',Fr E.W E.w0 w'→I w':=fun w' h=>by
  rw [hEw] at h
  exact hst w w' h.size (fun b hb=>h.block b (by omega) (fun hW=>by have:=hKW b hW;omega)) hIw
 unfold evFn at hev
 cases hbody:fn.body with
 | none=>simp [hbody] at hev
 | some c =>
  simp only [hbody] at hev
  split at hev
  rotate_left
  ·cases hev
  rename_i hn0
  have hn0:S.n0=E.n0:=by rw [hEn];exact Nat.eq_of_beq_eq_true hn0
  generalize hkp:(!(sg.hin.isEmpty&&sg.hout.isEmpty))=keep at hev
  have hk0:keep=false→E.n0=0:=fun h=>by
   rw [h] at hkp
   rw [hEn]
   cases hh:sg.hin with
   | nil=>rfl
   | cons x l=>rw [hh] at hkp;simp at hkp
  cases hrun:zqE P S fuel c fn.results.toList keep sg.ots.length ⟨[some sg.out],sg.hout⟩ (sg.st0 fn.ntmps) sg.nin with
  | none=>simp [hrun] at hev
  | some r =>
   obtain ⟨z,n',e,d⟩:=r
   simp only [hrun] at hev
   unfold zyB at hev
   dsimp only at hev
   generalize hg:zd1 sg.ots.length ⟨[some sg.out],sg.hout⟩ z=g at hev
   have hgl:g.1.length=sg.ots.length:=by rw [←hg];exact zeZ _ _ _
   split at hev
   rotate_left
   ·cases hev
   rename_i hchk
   simp only [Option.some.injEq] at hev
   subst hev
   simp only at hsat howes houts hlp
   simp only [Bool.and_eq_true,St.inst,St.sub,Sig.ok] at hchk
   obtain ⟨⟨⟨⟨hs1,hs2⟩,hs3⟩,⟨⟨⟨⟨⟨⟨⟨k1,k2⟩,k3⟩,k4⟩,_⟩,_⟩,_⟩,k8⟩⟩,hkc⟩:=hchk
   have key:=zv4 (E:=E) hS hEok hn0 hI hk0 sg.nin z n' e d hrun hsat (zkb d (zka howes) hlp)
   -- where the results' values come from
   have hres:PEq ν (sg.res (G ds)) sg.ots g.1 (zap 0 sg.ots.length):=by
    have hl:((G ds).drop (if sg.need then 1 else 0)).length=sg.ots.length:=by rw [houts.len];simpa using hgl
    have hsame:(zap 0 sg.ots.length).map (A.den (sg.res (G ds)))=(G ds).drop (if sg.need then 1 else 0):=by
     rw [zcX (sg.res (G ds)) sg.ots.length 0 0 (fun _ _=>rfl)]
     apply List.ext_getElem?
     intro i
     by_cases hi:i<sg.ots.length
     ·rw [List.getElem?_map,List.getElem?_range' (by omega),List.getElem?_eq_getElem (l:=(G ds).drop _) (by omega)]
      simp only [Option.map_some,Option.some.injEq,Sig.res,dget]
      rw [List.getElem_drop,List.getD_eq_getElem?_getD,List.getElem?_eq_getElem (by simp only [List.length_drop] at hl;omega)]
      simp only [Option.getD_some]
      congr 1
      omega
     ·rw [List.getElem?_eq_none (by simpa using hi),List.getElem?_eq_none (by omega)]
    exact PEq.of_teq (by rw [hsame];exact houts)
   -- the state the call begins in
   have hvals:sg.insI.map (V.conc ν ρ0)=sg.insI.map (V.conc (dget ds) ρ0)∧(∀ v∈sg.insI,V.good ν v)∧HRel E ν ρ0 sg.hinI w:=by
    have hpi:PEq (dget ds) ν sg.its (zap 0 sg.nin) (zap 0 sg.nin):=PEq.of_ids _ _ fun i t h=>by rw [Nat.zero_add];exact hin i t h
    obtain ⟨e1,e2⟩:=Vs.inst_to zbE hpi k1
    exact ⟨e1 ρ0,e2 hgood,HRel.inst zbE hpi k2 hheap⟩
   obtain ⟨hv1,hv2,hv3⟩:=hvals
   have hst0:RR ν E ρ0 ⟨sg.st0 fn.ntmps,[]⟩ { tmps:=(sg.insI.map (V.conc (dget ds) ρ0)).toArray++Array.replicate (fn.ntmps-(sg.insI.map (V.conc (dget ds) ρ0)).toArray.size) undef,defers:=[] } w:=by
    refine ⟨⟨rfl,?_,fun t v ht=>?_,fun e he=>by cases he⟩,⟨hv3,fun j bk hj=>?_,?_,?_,fun j _=>by rw [hEρ]⟩⟩
    ·simp [Sig.st0,Sig.insI]
    ·change nth ((sg.insI).map some++List.replicate (fn.ntmps-sg.insI.length) none) t=some v at ht
     rw [zaE] at ht
     split at ht
     ·rename_i hlt
      rw [za3] at ht
      refine ⟨hv2 v (List.mem_of_getElem? ht),?_⟩
      have h1:(sg.insI.map (V.conc (dget ds) ρ0))[t]? = some (v.conc ν ρ0):=by rw [←hv1];simp [ht]
      simp only
      rw [Array.getElem?_append_left (by simp at hlt;simp;omega)]
      simpa using h1
     ·rw [zg5] at ht;cases ht
    ·change nth sg.hinI j=some bk at hj
     cases hn:(ρ0 j).nil with
     | true=>exact .inl rfl
     | false =>
      cases ho:bk.own with
      | true=>exact .inr ⟨fun _ b hfb=>.inr (by rw [←hE0];exact ⟨j,bk,hj,ho,hn,hfb⟩),fun b hfb=>.inr (.inr (by rw [←hE0];exact .inl ⟨j,bk,hj,hn,hfb⟩))⟩
      | false=>exact .inr ⟨fun o=>(by cases o),fun b hfb=>.inr (.inr (by rw [←hE0];exact .inl ⟨j,bk,hj,hn,hfb⟩))⟩
    ·rw [hEw];exact Fr.refl _ _
    ·rw [hEn];simp [Sig.st0]
   refine calls_of_wp hf hbody ?_
   refine wp_mono (key ρ0 _ w hst0) ?_
   intro e a' w' ⟨he,hd,v,vals,ρ',h1,h2,h3⟩
   have hout:∃ v ρ',(results fn a'.tmps).run P w' = .ok v w'∧CallOut sg (G ds) ρ0 w v ρ' w':=by
    obtain ⟨_,q2⟩:=zcK hs1
    obtain ⟨u,q3,q4⟩:=q2 0 (sg.out.inst g.1) rfl
    obtain ⟨q7,q8⟩:=h3.act.slot 0 u q3
    obtain ⟨q5,q6⟩:=V.sub_spec (ν:=ν) q4 q7
    have q9:v=u.conc ν ρ':=by
     have:(zlC v).tmps[0]? = some v:=rfl
     rw [this] at q8
     exact Option.some.inj q8
    obtain ⟨c1,c2⟩:=V.inst_to zbE hres k3
    have hh1:HRel E ν (fun j=>ρ' (rnm g.2 j)) (sg.hout.map (Option.map (Blk.inst g.1))) w':=h3.hs.heap.sub hs2 hs3
    refine ⟨v,fun j=>ρ' (rnm g.2 j),by rw [zrX h1,h2],?_,c2 q6,?_,?_,?_,fun j hj hjl=>?_⟩
    ·unfold Sig.outI
     rw [c1,q5 ρ']
     exact q9
    ·rw [hE0]
     exact HRel.inst zbE hres k4 hh1
    ·rw [hE0]
     have:=OldF.inst (bs:=zap 0 sg.ots.length) (h3.hs.old.sub hs2)
     rw [hEw] at this
     exact this
    ·rw [hE0]
     have:=h3.hs.fr
     rw [hEw] at this
     exact this
    ·have e1:=zkc hkc j hjl (by rwa [Nat.zero_add])
     rw [Nat.zero_add] at e1
     obtain ⟨x,hx⟩:=zqG hj
     have:=h3.hs.keep j (by rw [hEn];exact zaY hx)
     simp only [e1]
     rw [this,hEρ]
   obtain ⟨v2,ρ2,h4,h5⟩:=hout
   rcases he with rfl | rfl
   ·exact ⟨hd,v2,h4,v2,ρ2,rfl,h5⟩
   ·exact ⟨hd,v2,h4,v2,ρ2,rfl,h5⟩
theorem zbT {fuel:Nat} {f:FuncId} {fn:Func} {sg:Sig} {out:Out} {G:List DV→List DV} (hst:zqZ I gK) (hS:SigsOK P I gK S F) (hf:P.funcs[f]? = some fn)
  (hev:evFn P S fuel fn sg=some out) (hwf:zf1 sg.nin out.nodes=true) (hlp:∀ l∈out.loops,zas F l)
  (hG:∀ ds:List DV,ds.length=sg.nin→(sg.need=true→(dget (G ds) 0).toB=true) →
   zcd (zaX F sg out ds) out.owes=true ∧
   TEq sg.ots ((G ds).drop (if sg.need then 1 else 0)) (out.outs.map (A.den (zaX F sg out ds)))) :
  FnOK P I gK f sg G :=
 zwS hst hS hf hev hlp fun ds hlen hneed=>by
  obtain ⟨howes,houts⟩:=hG ds hlen hneed
  obtain ⟨hl2,hsat⟩:=zcp (F:=F) (base:=fun _=>default) (n0:=0) (vs:=ds.reverse) (n:=sg.nin) (by omega) hwf
  change Sat F (zaX F sg out ds) out.nodes at hsat
  have hl2':∀ i,i<sg.nin→zaX F sg out ds i=look (fun _=>default) 0 ds.reverse sg.nin i:=hl2
  refine ⟨zaX F sg out ds,hsat,fun i t ht=>Ty.eqAt_of (Eq.symm ?_),howes,houts⟩
  have hi:i<sg.nin:=(List.getElem?_eq_some_iff.1 ht).1
  rw [hl2' i hi,zdU (by omega)]
  unfold dget
  simp only [List.getD_eq_getElem?_getD]
  rw [List.getElem?_reverse (by omega),hlen]
  congr 2
  omega
end
theorem zaC {α:Type} {Q:Nat→α→Prop} {l:List (Nat×α)} (h:∀ p∈l,Q p.1 p.2) {f:Nat} {s:α} (hs:assoc l f=some s):Q f s:=by
 induction l with
 | nil=>cases hs
 | cons p l ih =>
  simp only [assoc] at hs
  split at hs
  ·rename_i e
   cases hs
   rw [Nat.eq_of_beq_eq_true e]
   exact h p (by simp)
  ·exact ih (fun q hq=>h q (List.mem_cons_of_mem _ hq)) hs
def eRun (a:A) (ts:List LT) (i n:Nat):List Lf:=(List.range n).map fun k=>.e (ts.getD (k%ts.length) .bool) a (i+k)
def za8 (i f:Nat) (args:List A) (j:Nat):Nat→Em
 | 0=>[]
 | k+1=>(i,.call f args j)::za8 (i+1) f args (j+1) k
end Go.Sx
namespace Go.Sx
section
variable (w c:List DV→Bool) (nx out:List DV→List DV)
def zdy:Nat→List DV→Option (List DV)
 | 0,_=>none
 | n+1,s=>if w s then (if c s then zdy n (nx s) else some (out s)) else none
def lcnt:Nat→List DV→Nat
 | 0,_=>0
 | n+1,s=>if c s then lcnt n (nx s)+1 else 0
open Classical in
noncomputable def zpB (s:List DV):Nat:=if h:∃ n r,zdy w c nx out n s=some r then Classical.choose h else 0
noncomputable def zbU (s:List DV):Option (List DV):=zdy w c nx out (zpB w c nx out s) s
variable {w c:List DV→Bool} {nx out:List DV→List DV}
theorem zlV:∀ {n:Nat} {s r:List DV},zdy w c nx out n s=some r→zdy w c nx out (n+1) s=some r
 | 0,_,_,h=>by cases h
 | n+1,s,r,h=>by
  simp only [zdy] at h
  rw [zdy]
  split at h
  ·rename_i h1
   rw [if_pos h1]
   split at h
   ·rename_i h2
    rw [if_pos h2]
    exact zlV h
   ·rename_i h2
    rw [if_neg h2]
    exact h
  ·cases h
theorem zq0 {n m:Nat} {s r:List DV} (hl:n≤m) (h:zdy w c nx out n s=some r):zdy w c nx out m s=some r:=by
 induction hl with
 | refl=>exact h
 | step _ ih=>exact zlV ih
theorem zti {n m:Nat} {s r r':List DV} (h:zdy w c nx out n s=some r) (h':zdy w c nx out m s=some r'):r=r':=by
 have h1:=zq0 (Nat.le_max_left n m) h
 have h2:=zq0 (Nat.le_max_right n m) h'
 exact Option.some.inj (h1.symm.trans h2)
theorem zq1:∀ {n m:Nat} {s r r':List DV},zdy w c nx out n s=some r→zdy w c nx out m s=some r'→lcnt c nx n s=lcnt c nx m s
 | 0,_,_,_,_,h,_=>by cases h
 | _+1,0,_,_,_,_,h=>by cases h
 | n+1,m+1,s,r,r',h,h'=>by
  simp only [zdy] at h h'
  simp only [lcnt]
  split at h
  ·rename_i h1
   rw [if_pos h1] at h'
   split at h
   ·rename_i h2
    rw [if_pos h2] at h'
    rw [if_pos h2,if_pos h2,zq1 h h']
   ·rename_i h2
    rw [if_neg h2,if_neg h2]
  ·cases h
theorem zm1 {n:Nat} {s r:List DV} (h:zdy w c nx out n s=some r):zbU w c nx out s=some r:=by
 have he:∃ n r,zdy w c nx out n s=some r:=⟨n,r,h⟩
 unfold zbU zpB
 rw [dif_pos he]
 obtain ⟨r',hr'⟩:=Classical.choose_spec he
 rw [hr',zti hr' h]
theorem za4 {s:List DV} (h1:w s=true) (h2:c s=true):zbU w c nx out s=zbU w c nx out (nx s):=by
 cases h:zbU w c nx out (nx s) with
 | some r=>exact zm1 (n:=zpB w c nx out (nx s)+1) (by simp only [zdy,h1,h2,if_true];exact h)
 | none =>
  cases h':zbU w c nx out s with
  | none=>rfl
  | some r =>
   unfold zbU at h'
   cases hn:zpB w c nx out s with
   | zero=>rw [hn] at h';cases h'
   | succ n =>
    rw [hn] at h'
    simp only [zdy,h1,h2,if_true] at h'
    rw [zm1 h'] at h
    cases h
theorem zaS {s:List DV} (h1:w s=true) (h2:c s=false):zbU w c nx out s=some (out s):=zm1 (n:=1) (by simp [zdy,h1,h2])
theorem zpC {s r:List DV} (h:zbU w c nx out s=some r):w s=true:=by
 unfold zbU at h
 cases hn:zpB w c nx out s with
 | zero=>rw [hn] at h;cases h
 | succ n =>
  rw [hn] at h
  simp only [zdy] at h
  split at h
  ·assumption
  ·cases h
noncomputable def lmu (w c:List DV→Bool) (nx out:List DV→List DV) (s:List DV):Nat:=lcnt c nx (zpB w c nx out s) s
theorem zv5 {s r:List DV} (h:zbU w c nx out s=some r) (h2:c s=true):lmu w c nx out (nx s)<lmu w c nx out s:=by
 have h1:=zpC h
 have h3:zbU w c nx out (nx s)=some r:=(za4 h1 h2).symm.trans h
 unfold lmu
 unfold zbU at h h3
 cases hn:zpB w c nx out s with
 | zero=>rw [hn] at h;cases h
 | succ n =>
  rw [hn] at h
  simp only [zdy,h1,h2,if_true] at h
  simp only [lcnt,h2,if_true]
  rw [zq1 h3 h]
  omega
end
def zio:Nat→List Ty→List DV→List DV
 | _,[],_=>[]
 | i,t::ts,ds=>nrm t (ds.getD i default)::zio (i+1) ts ds
def nrms (ts:List Ty) (ds:List DV):List DV:=zio 0 ts ds
theorem zlW:∀ (i:Nat) (ts:List Ty) (ds:List DV) (j:Nat),(zio i ts ds)[j]? = ts[j]?.map fun t=>nrm t (ds.getD (i+j) default)
 | _,[],_,j=>by simp [zio]
 | i,t::ts,ds,0=>by simp [zio]
 | i,t::ts,ds,j+1=>by
  simp only [zio,List.getElem?_cons_succ]
  rw [zlW (i+1) ts ds j,show i+1+j=i+(j+1) from by omega]
theorem zg6 (ts:List Ty) (ds:List DV) (j:Nat):(nrms ts ds)[j]? = ts[j]?.map fun t=>nrm t (ds.getD j default):=by
 unfold nrms
 rw [zlW,Nat.zero_add]
theorem zxt (t:Ty) (d:DV):nrm t (nrm t d)=nrm t d:=by cases t<;>rfl
theorem zyG {t:Ty} {d e:DV} (h:nrm t d=nrm t e):t.eqAt d e:=by
 cases t<;>simpa [nrm,Ty.eqAt] using h
theorem ziO (ts:List Ty) (ds:List DV):(nrms ts ds).length=ts.length:=by
 have key:∀ (i:Nat) (ts:List Ty),(zio i ts ds).length=ts.length:=fun i ts=>by
  induction ts generalizing i with
  | nil=>rfl
  | cons t ts ih=>simp [zio,ih]
 exact key 0 ts
theorem zdV (ts:List Ty) (ds:List DV):nrms ts (nrms ts ds)=nrms ts ds:=by
 apply List.ext_getElem?
 intro j
 rw [zg6,zg6]
 cases h:ts[j]? with
 | none=>rfl
 | some t =>
  simp only [Option.map_some,Option.some.injEq]
  rw [List.getD_eq_getElem?_getD,zg6,h]
  simp [zxt]
theorem zlX:∀ {ts:List Ty} {as bs:List DV},as.length=ts.length→bs.length=ts.length →
  (∀ (j:Nat) (t:Ty),ts[j]? = some t→nrm t (as.getD j default)=nrm t (bs.getD j default))→TEq ts as bs
 | [],[],[],_,_,_=>trivial
 | t::ts,a::as,b::bs,h1,h2,h=>by
  refine ⟨zyG (by simpa using h 0 t rfl),zlX (by simpa using h1) (by simpa using h2) fun j t' ht=>?_⟩
  have:=h (j+1) t' (by simpa using ht)
  simpa using this
 | [],_::_,_,h,_,_=>by simp at h
 | [],[],_::_,_,h,_=>by simp at h
 | _::_,[],_,h,_,_=>by simp at h
 | _::_,_::_,[],_,h,_=>by simp at h
theorem zaA {ts:List Ty} {as bs:List DV} (h:nrms ts as=nrms ts bs) (h1:as.length=ts.length) (h2:bs.length=ts.length):TEq ts as bs :=
 zlX h1 h2 fun j t ht=>by
  have:=congrArg (fun l=>l[j]?) h
  simp only [zg6,ht,Option.map_some,Option.some.injEq] at this
  exact this
noncomputable def zv6 (ots:List Ty) (o:Option (List DV)):List DV:=.b o.isSome::nrms ots (o.getD [])
theorem zc1 {F:FEnv} {l:LR} {w c:List DV→Bool} {nx out:List DV→List DV} (tys:List Ty)
  (hF:∀ ds,F l.fid ds=zv6 (.i::l.ts) (zbU w c nx out (nrms tys ds)))
  (hlen:l.outs.length=l.ts.length+1)
  (hw:∀ ν xs,xs.length=l.k→zcd (l.env F ν xs) l.owes=w (nrms tys (l.inv.map ν++xs)))
  (hc:∀ ν xs,xs.length=l.k→l.c.bool (l.env F ν xs)=c (nrms tys (l.inv.map ν++xs)))
  (hn:∀ ν xs,xs.length=l.k→nrms tys (l.inv.map ν++l.nx.map (A.den (l.env F ν xs)))=nx (nrms tys (l.inv.map ν++xs)))
  (ho:∀ ν xs,xs.length=l.k→nrms (.i::l.ts) (l.outs.map (A.den (l.env F ν xs)))=out (nrms tys (l.inv.map ν++xs))):zas F l:=by
 refine ⟨fun raw=>lmu w c nx out (nrms tys raw),fun ν xs hx hp=>?_⟩
 rw [hF] at hp
 generalize hs:nrms tys (l.inv.map ν++xs)=s at *
 cases hl:zbU w c nx out s with
 | none=>rw [hl] at hp;cases hp
 | some r =>
  have h1:=zpC hl
  refine ⟨zka (by rw [hw ν xs hx,hs];exact h1),fun h2=>?_,fun h2=>?_⟩
  ·rw [hc ν xs hx,hs] at h2
   have h3:=hn ν xs hx
   rw [hs] at h3
   rw [hF,hF,h3,hs,←za4 h1 h2,hl]
   exact ⟨rfl,rfl,by show lmu w c nx out (nrms tys _)<lmu w c nx out (nrms tys _);rw [h3,hs];exact zv5 hl h2⟩
  ·rw [hc ν xs hx,hs] at h2
   rw [hF,hs,zaS h1 h2]
   show TEq _ (nrms (.i::l.ts) (out s)) _
   refine zaA ?_ (by simp [ziO]) (by simpa using hlen)
   rw [zdV,ho ν xs hx,hs]
   have h4:=ho ν xs hx
   rw [hs] at h4
   rw [←h4,zdV]
end Go.Sx
namespace Go.Sx
inductive KD where
 | hand (g:List DV→List DV)
 | fn (sg:Sig) (o:Out)
 | lp (l:LR) (tys:List Ty)
def outK (sg:Sig) (o:Out) (ν:Nat→DV):List DV:=(bif sg.need then [.b (zcd ν o.owes)] else [])++nrms sg.ots (o.outs.map (A.den ν))
def A.belowB (n:Nat):A→Bool
 | .r i=>Nat.blt i n
 | _=>true
def asEq:List A→List A→Bool
 | [],[]=>true
 | a::l,b::l'=>a.beq b&&asEq l l'
 | _,_=>false
def hitK (last:Option (Nat×List A×List DV)) (f:Nat) (args:List A):Option (List DV) :=
 match last with
 | some (f',args',res)=>bif Nat.beq f' f&&asEq args' args then some res else none
 | none=>none
def zfP (ev:Nat→List DV→Option (List DV)) (base:Nat→DV) (n0:Nat):Em→List DV→Nat→Option (Nat×List A×List DV)→Option (List DV)
 | [],vs,_,_=>some vs
 | (_,.call f args j)::r,vs,n,last =>
  match hitK last f args with
  | some res=>zfP ev base n0 r (res.getD j default::vs) (n+1) last
  | none =>
   match ev f (args.map (A.den (look base n0 vs n))) with
   | none=>none
   | some res=>zfP ev base n0 r (res.getD j default::vs) (n+1) (bif args.all (A.belowB n) then some (f,args,res) else none)
 | (_,x)::r,vs,n,_=>zfP ev base n0 r (zbf (fun _ _=>[]) (look base n0 vs n) x::vs) (n+1) none
def idxK (i:Nat):List Nat→Nat
 | []=>0
 | j::l=>bif Nat.beq j i then 0 else idxK i l+1
def memK (i:Nat):List Nat→Bool
 | []=>false
 | j::l=>Nat.beq j i||memK i l
def zoi:List Nat→Bool
 | []=>true
 | i::l=>!memK i l&&zoi l
def zem (inv:List Nat) (s:List DV) (i:Nat):DV:=s.getD (idxK i inv) default
def zq2 (ev:Nat→List DV→Option (List DV)) (l:LR) (tys:List Ty):Nat→List DV→Option (Option (List DV))
 | 0,_=>none
 | n+1,s =>
  bif zoi l.inv&&Nat.beq s.length (l.inv.length+l.k) then
   match zfP ev (zem l.inv s) l.n l.nodes (s.drop l.inv.length).reverse (l.n+l.k) none with
   | none=>none
   | some vs =>
    bif zcd (look (zem l.inv s) l.n vs (l.n+l.k+l.nodes.length)) l.owes then
     bif l.c.bool (look (zem l.inv s) l.n vs (l.n+l.k+l.nodes.length)) then
      zq2 ev l tys n (nrms tys (l.inv.map (zem l.inv s)++l.nx.map (A.den (look (zem l.inv s) l.n vs (l.n+l.k+l.nodes.length)))))
     else some (some (nrms (.i::l.ts) (l.outs.map (A.den (look (zem l.inv s) l.n vs (l.n+l.k+l.nodes.length))))))
    else some none
  else none
def evK (T:List (Nat×KD)):Nat→Nat→List DV→Option (List DV)
 | 0,_,_=>none
 | k+1,f,ds =>
  match assoc T f with
  | none=>none
  | some (.hand g)=>some (g ds)
  | some (.fn sg o) =>
   bif Nat.beq ds.length sg.nin then
    match zfP (evK T k) (fun _=>default) 0 o.nodes (nrms sg.its ds).reverse sg.nin none with
    | none=>none
    | some vs=>some (outK sg o (look (fun _=>default) 0 vs (sg.nin+o.nodes.length)))
   else none
  | some (.lp l tys) =>
   match zq2 (evK T k) l tys k (nrms tys ds) with
   | none=>none
   | some none=>some (.b false::nrms (.i::l.ts) [])
   | some (some r)=>some (.b true::r)
def KD.ok (F:FEnv) (f:Nat):KD→Prop
 | .hand g=>∀ ds,F f ds=g ds
 | .fn sg o=>∀ ds,ds.length=sg.nin→F f ds=outK sg o (zaX F sg o (nrms sg.its ds))
 | .lp l tys=>∃ (w c:List DV→Bool) (nx out:List DV→List DV),(∀ ds,F f ds=zv6 (.i::l.ts) (zbU w c nx out (nrms tys ds))) ∧
  (∀ ν xs,xs.length=l.k→zcd (l.env F ν xs) l.owes=w (nrms tys (l.inv.map ν++xs))) ∧
  (∀ ν xs,xs.length=l.k→l.c.bool (l.env F ν xs)=c (nrms tys (l.inv.map ν++xs))) ∧
  (∀ ν xs,xs.length=l.k→nrms tys (l.inv.map ν++l.nx.map (A.den (l.env F ν xs)))=nx (nrms tys (l.inv.map ν++xs))) ∧
  (∀ ν xs,xs.length=l.k→nrms (.i::l.ts) (l.outs.map (A.den (l.env F ν xs)))=out (nrms tys (l.inv.map ν++xs)))
theorem A.beq_eq {a b:A} (h:a.beq b=true):a=b:=by
 cases a<;>cases b<;>simp only [A.beq] at h<;>first | (cases h;done) | skip
 ·rw [Nat.eq_of_beq_eq_true h]
 ·rw [of_decide_eq_true h]
 ·rename_i x y;cases x<;>cases y<;>first | rfl | cases h
 ·rw [Nat.eq_of_beq_eq_true h]
theorem ztj:∀ {l l':List A},asEq l l'=true→l=l'
 | [],[],_=>rfl
 | a::l,b::l',h=>by
  simp only [asEq,Bool.and_eq_true] at h
  rw [A.beq_eq h.1,ztj h.2]
 | [],_::_,h=>by cases h
 | _::_,[],h=>by cases h
theorem ztk (base:Nat→DV) (n0:Nat) (vs:List DV) (n i:Nat) (v:DV) (h:i<n):look base n0 (v::vs) (n+1) i=look base n0 vs n i:=by
 unfold look
 cases Nat.blt i n0 with
 | true=>rfl
 | false =>
  show (v::vs).getD (n+1-1-i) default=vs.getD (n-1-i) default
  rw [show n+1-1-i=(n-1-i)+1 from by omega,List.getD_cons_succ]
theorem zv7 (base:Nat→DV) (n0:Nat) (vs:List DV) (n:Nat) (v:DV) {a:A} (h:a.belowB n=true):a.den (look base n0 (v::vs) (n+1))=a.den (look base n0 vs n):=by
 cases a with
 | r i=>exact ztk base n0 vs n i v (by simpa [A.belowB] using h)
 | _=>rfl
theorem zcy {F:FEnv} {ev:Nat→List DV→Option (List DV)} (hev:∀ f ds r,ev f ds=some r→F f ds=r) (base:Nat→DV) (n0:Nat):∀ (e:Em) (vs:List DV) (n:Nat) (last:Option (Nat×List A×List DV)) (out:List DV),
  (∀ f args res,last=some (f,args,res)→args.all (A.belowB n)=true∧F f (args.map (A.den (look base n0 vs n)))=res)→zfP ev base n0 e vs n last=some out→zaU F base n0 e vs n=out
 | [],vs,n,last,out,_,h=>by simpa [zfP,zaU] using h
 | (i,x)::r,vs,n,last,out,hl,h=>by
  have plain:(∀ f args j,x≠.call f args j)→zaU F base n0 ((i,x)::r) vs n=out:=fun hx=>by
   have e1:zfP ev base n0 ((i,x)::r) vs n last=zfP ev base n0 r (zbf (fun _ _=>[]) (look base n0 vs n) x::vs) (n+1) none:=by
    cases x<;>first | rfl | exact absurd rfl (hx _ _ _)
   have e2:zbf F (look base n0 vs n) x=zbf (fun _ _=>[]) (look base n0 vs n) x:=by
    cases x<;>first | rfl | exact absurd rfl (hx _ _ _)
   rw [e1] at h
   rw [zaU,e2]
   exact zcy hev base n0 r _ _ none out (fun _ _ _ h=>by cases h) h
  by_cases hx:∃ f args j,x = .call f args j
  ·obtain ⟨f,args,j,rfl⟩:=hx
   have keep:∀ {f':Nat} {args':List A} {res:List DV} {v:DV},args'.all (A.belowB n)=true→F f' (args'.map (A.den (look base n0 vs n)))=res →
     args'.all (A.belowB (n+1))=true∧F f' (args'.map (A.den (look base n0 (v::vs) (n+1))))=res:=fun {f' args' res v} h1 h2=>by
    refine ⟨List.all_eq_true.2 fun a ha=>?_,?_⟩
    ·have:=List.all_eq_true.1 h1 a ha
     cases a with
     | r i=>simp only [A.belowB,Nat.blt_eq] at this ⊢;omega
     | _=>rfl
    ·rw [←h2]
     congr 1
     exact List.map_congr_left fun a ha=>zv7 base n0 vs n v (List.all_eq_true.1 h1 a ha)
   simp only [zfP] at h
   rw [zaU]
   show zaU F base n0 r ((F f (args.map (A.den (look base n0 vs n)))).getD j default::vs) (n+1)=out
   split at h
   ·rename_i res hh
    cases last with
    | none=>cases hh
    | some q =>
     obtain ⟨f',args',res'⟩:=q
     simp only [hitK] at hh
     cases hb:Nat.beq f' f&&asEq args' args with
     | false=>rw [hb] at hh;cases hh
     | true =>
      rw [hb] at hh
      simp only [cond_true,Option.some.injEq] at hh
      subst hh
      simp only [Bool.and_eq_true] at hb
      have hf:=Nat.eq_of_beq_eq_true hb.1
      have ha:=ztj hb.2
      subst hf;subst ha
      obtain ⟨h1,h2⟩:=hl _ _ _ rfl
      rw [h2]
      exact zcy hev base n0 r _ _ _ out (fun f1 a1 r1 h3=>by cases h3;exact keep h1 h2) h
   ·split at h
    ·cases h
    ·rename_i res hr
     have h2:=hev _ _ _ hr
     rw [h2]
     refine zcy hev base n0 r _ _ _ out (fun f1 a1 r1 h3=>?_) h
     cases hb:args.all (A.belowB n) with
     | false=>rw [hb] at h3;cases h3
     | true=>rw [hb] at h3;cases h3;exact keep hb h2
  ·exact plain fun f args j e=>hx ⟨f,args,j,e⟩
theorem zm2 {i:Nat} : ∀ {l:List Nat},memK i l=true↔i∈l
 | []=>by simp [memK]
 | j::l=>by
  simp only [memK,Bool.or_eq_true,List.mem_cons,zm2 (l:=l)]
  exact or_congr ⟨fun h=>(Nat.eq_of_beq_eq_true h).symm,fun h=>by rw [h];exact Nat.beq_refl j⟩ Iff.rfl
theorem zoj:∀ (inv:List Nat) (s:List DV),zoi inv=true→inv.length≤s.length→inv.map (zem inv s)=s.take inv.length
 | [],s,_,_=>rfl
 | i::l,[],_,h=>by simp at h
 | i::l,d::s,hn,h=>by
  simp only [zoi,Bool.and_eq_true,Bool.not_eq_true'] at hn
  have h1:zem (i::l) (d::s) i=d:=by
   unfold zem idxK
   rw [Nat.beq_refl];rfl
  have h2:l.map (zem (i::l) (d::s))=l.map (zem l s):=List.map_congr_left fun j hj=>by
   unfold zem
   have hb:Nat.beq i j=false:=by
    cases hb:Nat.beq i j with
    | false=>rfl
    | true =>
     have:=Nat.eq_of_beq_eq_true hb
     subst this
     rw [zm2.2 hj] at hn
     cases hn.1
   rw [idxK,hb]
   rfl
  rw [List.map_cons,h1,h2,zoj l s hn.2 (by simpa using h)]
  rfl
theorem ziq {F:FEnv} {ev:Nat→List DV→Option (List DV)} (hev:∀ f ds r,ev f ds=some r→F f ds=r) {l:LR} {tys:List Ty} {w c:List DV→Bool} {nx out:List DV→List DV}
  (hw:∀ ν xs,xs.length=l.k→zcd (l.env F ν xs) l.owes=w (nrms tys (l.inv.map ν++xs)))
  (hc:∀ ν xs,xs.length=l.k→l.c.bool (l.env F ν xs)=c (nrms tys (l.inv.map ν++xs)))
  (hn:∀ ν xs,xs.length=l.k→nrms tys (l.inv.map ν++l.nx.map (A.den (l.env F ν xs)))=nx (nrms tys (l.inv.map ν++xs)))
  (ho:∀ ν xs,xs.length=l.k→nrms (.i::l.ts) (l.outs.map (A.den (l.env F ν xs)))=out (nrms tys (l.inv.map ν++xs))) :
  ∀ (n:Nat) (ds:List DV) (r:Option (List DV)),zq2 ev l tys n (nrms tys ds)=some r→(zbU w c nx out (nrms tys ds)).map (nrms (.i::l.ts))=r
 | 0,_,_,h=>by cases h
 | n+1,ds,r,h=>by
  generalize hs:nrms tys ds=s at *
  have hss:nrms tys s=s:=by rw [←hs,zdV]
  rw [zq2] at h
  cases hb:zoi l.inv&&Nat.beq s.length (l.inv.length+l.k) with
  | false=>rw [hb] at h;cases h
  | true =>
   rw [hb] at h
   simp only [cond_true] at h
   simp only [Bool.and_eq_true] at hb
   have hlen:=Nat.eq_of_beq_eq_true hb.2
   have hmap:=zoj l.inv s hb.1 (by omega)
   have hxs:(s.drop l.inv.length).length=l.k:=by rw [List.length_drop];omega
   have hcat:l.inv.map (zem l.inv s)++s.drop l.inv.length=s:=by rw [hmap,List.take_append_drop]
   split at h
   ·cases h
   ·rename_i vs hv
    have henv:look (zem l.inv s) l.n vs (l.n+l.k+l.nodes.length)=l.env F (zem l.inv s) (s.drop l.inv.length):=by
     unfold LR.env
     rw [zcy hev _ _ _ _ _ none _ (fun _ _ _ h=>by cases h) hv]
    rw [henv] at h
    have h1:=hw (zem l.inv s) _ hxs
    have h2:=hc (zem l.inv s) _ hxs
    have h3:=hn (zem l.inv s) _ hxs
    have h4:=ho (zem l.inv s) _ hxs
    rw [hcat,hss] at h1 h2 h3 h4
    rw [h1,h2,h4] at h
    cases hwv:w s with
    | false =>
     rw [hwv] at h
     simp only [cond_false,Option.some.injEq] at h
     subst h
     cases hl:zbU w c nx out s with
     | none=>rfl
     | some q=>have:=zpC hl;rw [hwv] at this;cases this
    | true =>
     rw [hwv] at h
     cases hcv:c s with
     | false =>
      rw [hcv] at h
      simp only [cond_true,cond_false,Option.some.injEq] at h
      subst h
      rw [zaS hwv hcv,Option.map_some]
      congr 1
      rw [←h4,zdV]
     | true =>
      rw [hcv] at h
      simp only [cond_true] at h
      rw [za4 hwv hcv,←h3]
      exact ziq hev hw hc hn ho n _ r h
theorem zok {F:FEnv} {T:List (Nat×KD)} (hT:∀ f c,assoc T f=some c→c.ok F f):∀ (k f:Nat) (ds r:List DV),evK T k f ds=some r→F f ds=r
 | 0,_,_,_,h=>by cases h
 | k+1,f,ds,r,h=>by
  have hev:=zok hT k
  rw [evK] at h
  split at h
  ·cases h
  ·rename_i g hg
   cases h
   exact hT f _ hg ds
  ·rename_i sg o hg
   cases hb:Nat.beq ds.length sg.nin with
   | false=>rw [hb] at h;cases h
   | true =>
    rw [hb] at h
    simp only [cond_true] at h
    split at h
    ·cases h
    ·rename_i vs hv
     cases h
     have h1:F f ds=outK sg o (zaX F sg o (nrms sg.its ds)):=hT f _ hg ds (Nat.eq_of_beq_eq_true hb)
     rw [h1]
     unfold zaX
     rw [zcy hev _ _ _ _ _ none _ (fun _ _ _ h=>by cases h) hv]
  ·rename_i l tys hg
   obtain ⟨w,c,nx,out,hF,hw,hc,hn,ho⟩:=hT f _ hg
   have hs:=fun r h=>ziq hev hw hc hn ho k ds r h
   split at h
   ·cases h
   ·rename_i hl
    cases h
    have:=hs _ hl
    rw [hF]
    unfold zv6
    cases hq:zbU w c nx out (nrms tys ds) with
    | none=>rfl
    | some q=>rw [hq] at this;cases this
   ·rename_i q hl
    cases h
    have:=hs _ hl
    rw [hF]
    unfold zv6
    cases hq:zbU w c nx out (nrms tys ds) with
    | none=>rw [hq] at this;cases this
    | some q' =>
     rw [hq] at this
     simp only [Option.map_some,Option.some.injEq] at this
     show DV.b true::nrms (.i::l.ts) q'=_
     rw [this]
end Go.Sx
namespace Go.Sx
variable {P:Program} {I:World→Prop} {gK:Nat} {F:FEnv} {S:Sigs}
noncomputable def outI (F:FEnv) (sg:Sig) (o:Out) (ds:List DV):List DV:=outK sg o (zaX F sg o (nrms sg.its ds))
def Out.wellB (o:Out) (sg:Sig):Bool:=(sg.need||(match o.owes with | []=>true | _=>false))&&Nat.beq o.outs.length sg.ots.length
theorem zbe {fuel:Nat} {f:FuncId} {fn:Func} {sg:Sig} {out:Out} {G:List DV→List DV} (hst:zqZ I gK) (hS:SigsOK P I gK S F) (hf:P.funcs[f]? = some fn)
  (hev:evFn P S fuel fn sg=some out) (hwf:zf1 sg.nin out.nodes=true) (hw:out.wellB sg=true) (hlp:∀ l∈out.loops,zas F l)
  (hG:∀ ds,G ds=outI F sg out ds):FnOK P I gK f sg G :=
 zwS hst hS hf hev hlp fun ds _ hp=>by
  simp only [Out.wellB,Bool.and_eq_true] at hw
  have hlen:=Nat.eq_of_beq_eq_true hw.2
  have hnl:(nrms sg.its ds).length=sg.nin:=ziO _ _
  obtain ⟨hl2,hsat⟩:=zcp (F:=F) (base:=fun _=>default) (n0:=0) (vs:=(nrms sg.its ds).reverse) (n:=sg.nin) (by simp [hnl]) hwf
  change Sat F (zaX F sg out (nrms sg.its ds)) out.nodes at hsat
  have hl2':∀ i,i<sg.nin→zaX F sg out (nrms sg.its ds) i=look (fun _=>default) 0 (nrms sg.its ds).reverse sg.nin i:=hl2
  refine ⟨zaX F sg out (nrms sg.its ds),hsat,fun i t ht=>?_,?_⟩
  ·have hi:i<sg.nin:=(List.getElem?_eq_some_iff.1 ht).1
   rw [hl2' i hi,zdU (by simp [hnl])]
   have h2:(nrms sg.its ds).reverse.getD (sg.nin-1-i) default=nrm t (dget ds i):=by
    rw [List.getD_eq_getElem?_getD,List.getElem?_reverse (by omega),hnl,show sg.nin-1-(sg.nin-1-i)=i from by omega,zg6,ht]
    rfl
   rw [h2]
   exact zqN t _
  rw [hG] at hp ⊢
  unfold outI outK at hp ⊢
  cases hn:sg.need with
  | true =>
   rw [hn] at hp
   refine ⟨by simpa [dget,DV.toB] using hp rfl,zaA ?_ ?_ ?_⟩
   ·simp [zdV]
   ·simp [ziO]
   ·simpa using hlen
  | false =>
   have h1:=hw.1
   rw [hn] at h1
   refine ⟨?_,zaA ?_ ?_ ?_⟩
   ·cases ho:out.owes with
    | nil=>rfl
    | cons _ _=>rw [ho] at h1;cases h1
   ·simp [zdV]
   ·simp [ziO]
   ·simpa using hlen
theorem FnOK.up {f:FuncId} {sg:Sig} {G:List DV→List DV} {K:Nat} (h:FnOK P I 0 f sg G):FnOK P I K f sg G :=
 fun ds ρ w h1 h2 h3 _ _ h6 h7=>h ds ρ w h1 h2 h3 (Nat.zero_le _) (fun _ _=>Nat.zero_le _) h6 h7
def zlY (l:List Nat):Em→Bool
 | []=>true
 | (_,.call f _ _)::r=>memK f l&&zlY l r
 | _::r=>zlY l r
theorem zfb {F F':FEnv} {l:List Nat} (h:∀ f∈l,F f=F' f) (base:Nat→DV) (n0:Nat):∀ (e:Em) (vs:List DV) (n:Nat),zlY l e=true→zaU F base n0 e vs n=zaU F' base n0 e vs n
 | [],_,_,_=>rfl
 | (i,x)::r,vs,n,hc=>by
  rw [zaU,zaU]
  have h1:zbf F (look base n0 vs n) x=zbf F' (look base n0 vs n) x∧zlY l r=true:=by
   cases x<;>first | exact ⟨rfl,hc⟩ | skip
   rename_i f args j
   simp only [zlY,Bool.and_eq_true] at hc
   refine ⟨?_,hc.2⟩
   simp only [zbf]
   rw [h f (zm2.1 hc.1)]
  rw [h1.1]
  exact zfb h base n0 r _ _ h1.2
theorem zaq {F F':FEnv} {l:List Nat} {sg:Sig} {o:Out} (hc:zlY l o.nodes=true) (h:∀ f∈l,F f=F' f) (ds:List DV):outI F sg o ds=outI F' sg o ds:=by
 unfold outI zaX
 rw [zfb h _ _ _ _ _ hc]
theorem zdz {Q:LR→Prop} {a b:List LR} (h:a=b) (hb:∀ l∈b,Q l):∀ l∈a,Q l:=h▸hb
theorem zai {f:FuncId} {s:Sig} {g:List DV→List DV} {l:List (FuncId×Sig)} (k:FnOK P I gK f s g) (h:F f=g) (t:∀ p∈l,FnOK P I gK p.1 p.2 (F p.1)) :
  ∀ p∈(f,s)::l,FnOK P I gK p.1 p.2 (F p.1):=List.forall_mem_cons.2 ⟨by rw [h];exact k,t⟩
theorem zar {Q:LR→Prop} {a:List LR} (h:a=[]):∀ l∈a,Q l:=h▸fun _ h=>(by cases h)
end Go.Sx
namespace Go.Sx
def rdN:Nat→Nat→Nat×Nat
 | 0,n=>(0,n)
 | k+1,n=>bif Nat.ble 8 (n%16) then (n%16-8+8*(rdN k (n/16)).1,(rdN k (n/16)).2) else (n%16,n/16)
def num (n:Nat):Nat×Nat:=rdN 64 n
def rdS {α:Type} (f:Nat→α×Nat):Nat→Nat→List α×Nat
 | 0,n=>([],n)
 | k+1,n=>((f n).1::(rdS f k (f n).2).1,(rdS f k (f n).2).2)
def rdL {α:Type} (f:Nat→α×Nat) (n:Nat):List α×Nat:=rdS f (num n).1 (num n).2
def mkA (c v:Nat):A :=
 match v%4 with
 | 0=>.r (c-v/4)
 | 1=>.z (Int.ofNat (v/4))
 | 2=>.z (-Int.ofNat (v/4))
 | _=>.t (Nat.beq (v/4) 1)
def rdA (c n:Nat):A×Nat:=(mkA c (num n).1,(num n).2)
def mkK:Nat→IntKind
 | 0=>.i8
 | 1=>.i16
 | 2=>.i32
 | 3=>.i64
 | 4=>.u8
 | 5=>.u16
 | 6=>.u32
 | _=>.u64
def rdK (n:Nat):IntKind×Nat:=(mkK (n%16),n/16)
def mkT:Nat→Ty
 | 0=>.i
 | 1=>.b
 | _=>.l
def rdT (n:Nat):Ty×Nat:=(mkT (n%16),n/16)
def rd1 (c:Nat) (f:A→Node) (n:Nat):Node×Nat:=(f (rdA c n).1,(rdA c n).2)
def rd2 (c:Nat) (f:A→A→Node) (n:Nat):Node×Nat:=rd1 c (f (rdA c n).1) (rdA c n).2
def rd3 (c:Nat) (f:A→A→A→Node) (n:Nat):Node×Nat:=rd2 c (f (rdA c n).1) (rdA c n).2
def rdK1 (c:Nat) (f:IntKind→A→Node) (n:Nat):Node×Nat:=rd1 c (f (rdK n).1) (rdK n).2
def rdK2 (c:Nat) (f:IntKind→A→A→Node) (n:Nat):Node×Nat:=rd2 c (f (rdK n).1) (rdK n).2
def zwT (c n:Nat):Node×Nat :=
 match (num n).1,(num n).2 with
 | 0,n=>rd2 c .eql n
 | 1,n=>rd2 c .and n
 | 2,n=>rd3 c .itei n
 | 3,n=>(.lgeti (num n).1 (num (num n).2).1 (rdA c (num (num n).2).2).1 (rdA c (rdA c (num (num n).2).2).2).1,(rdA c (rdA c (num (num n).2).2).2).2)
 | 4,n=>rd2 c .lss n
 | 5,n=>(.lgetl (num n).1 (num (num n).2).1 (rdA c (num (num n).2).2).1 (rdA c (rdA c (num (num n).2).2).2).1,(rdA c (rdA c (num (num n).2).2).2).2)
 | 6,n=>rd1 c .not n
 | 7,n=>(.call (num n).1 (rdL (rdA c) (num n).2).1 (num (rdL (rdA c) (num n).2).2).1,(num (rdL (rdA c) (num n).2).2).2)
 | 8,n=>rdK2 c .add n
 | 9,n=>rdK2 c .sub n
 | 10,n=>rdK2 c .mul n
 | 11,n=>rdK2 c .land n
 | 12,n=>rdK2 c .lor n
 | 13,n=>rdK2 c .lxor n
 | 14,n=>rdK2 c .landNot n
 | 15,n=>rdK2 c .quo n
 | 16,n=>rdK2 c .rem n
 | 17,n=>rdK2 c .shl n
 | 18,n=>rdK2 c .shr n
 | 19,n=>rd2 c .neq n
 | 20,n=>rd2 c .leq n
 | 21,n=>rd2 c .gtr n
 | 22,n=>rd2 c .geq n
 | 23,n=>rd2 c .beq n
 | 24,n=>rd2 c .bne n
 | 25,n=>rd2 c .or n
 | 26,n=>rd3 c .iteb n
 | 27,n=>rdK1 c .conv n
 | 28,n=>rd1 c (.seli (rdL (rdA c) n).1) (rdL (rdA c) n).2
 | 29,n=>rd1 c (.selb (rdL (rdA c) n).1) (rdL (rdA c) n).2
 | 30,n=>(.lmk (rdL rdT n).1 (rdL (rdA c) (rdL rdT n).2).1,(rdL (rdA c) (rdL rdT n).2).2)
 | 31,n=>rd1 c (.llen (num n).1) (num n).2
 | 32,n=>(.lgetb (num n).1 (num (num n).2).1 (rdA c (num (num n).2).2).1 (rdA c (rdA c (num (num n).2).2).2).1,(rdA c (rdA c (num (num n).2).2).2).2)
 | 33,n=>rd3 c (.lset (num n).1 (num (num n).2).1 (rdT (num (num n).2).2).1) (rdT (num (num n).2).2).2
 | 34,n=>rd2 c .lcat n
 | 35,n=>rd2 c (.ltake (num n).1) (num n).2
 | 36,n=>rd2 c (.ldrop (num n).1) (num n).2
 | 37,n=>(.lrep (rdA c n).1 (rdL rdT (rdA c n).2).1 (rdL (rdA c) (rdL rdT (rdA c n).2).2).1,(rdL (rdA c) (rdL rdT (rdA c n).2).2).2)
 | 38,n=>rd3 c .itel n
 | 39,n=>rd3 c (.aset (num n).1 (num (num n).2).1 (num (num (num n).2).2).1 (rdT (num (num (num n).2).2).2).1) (rdT (num (num (num n).2).2).2).2
 | 40,n=>rd2 c (.lsub (num n).1 (num (num n).2).1 (num (num (num n).2).2).1) (num (num (num n).2).2).2
 | _,n=>rd2 c .sbeq n
def rdNs:Nat→Nat→Nat→Em
 | 0,_,_=>[]
 | k+1,c,n=>(c,(zwT c n).1)::rdNs k (c+1) (zwT c n).2
def rdPB (c n:Nat):(A×Bool)×Nat:=(((rdA c n).1,Nat.beq ((rdA c n).2%16) 1),(rdA c n).2/16)
def rdNd (c n:Nat):Nd×Nat:=(⟨(rdL (rdPB c) n).1,(rdA c (rdL (rdPB c) n).2).1⟩,(rdA c (rdL (rdPB c) n).2).2)
def dec (nin:Nat) (ls:List LR) (n:Nat):Out :=
 let k:=(num n).1
 let a:=rdL (rdA (nin+k)) (num n).2
 let o:=rdL (rdNd (nin+k)) a.2
 ⟨rdNs k nin o.2,o.1,ls,a.1⟩
end Go.Sx
