/- Regions, code, a whole function: the evaluator agrees with the model. -/
import Derived.Test.YtiabiimoalkmjaaD2
import Derived.Deep.Quiet
noncomputable section
namespace Go.Sx
open Go.RowKit
section
variable {P:Program} {I:World->Prop} {S:bN} {F:aC} {E:Env} {gK:Nat} {O:Nat->DV}
theorem ze (a:Act) (d:Nat) (v:Value):a.put (some d) v = { a with tmps:=a.tmps.setIfInBounds d v }:=rfl
theorem zfC {d:Nat} {l:List GE} (h:Rs d l=true):∀ e∈l,e.d≠d:=by
 intro e he hd
 have:=List.all_eq_true.1 h e he
 simp [hd] at this
theorem zjD {t:Nat} {l:List GE} {e:GE} (h:e∈Na t l):e∈l/\e.t≠t:=by
 unfold Na at h
 have:=List.mem_filter.1 h
 refine ⟨this.1,fun ht=>?_⟩
 have h2:=this.2
 simp [ht] at h2
theorem ry {r:RS} {dst:Option Tmp} {ov:Option V} : M.sat F O (r.put dst ov) (fun r'=>r'.st.hp=r.st.hp/\∀ U a (x:Value),aJ O U r a->(∀ v,ov=some v->v.good O/\x=v.aa O U) ->
  aJ O U r' (a.put dst x)):=by
 unfold RS.put
 cases dst with
 | none=>exact au ⟨rfl,fun U a x h _=>h⟩
 | some d =>
  refine aY (fun hn=>au ⟨rfl,fun U a x h hv=>?_⟩) (fun _=>aE)
  have hn:=zfC hn
  refine ⟨h.defers,by simp [ze,iL,h.size],fun t v ht=>?_,fun e he=>?_⟩
  ·by_cases CD:d=t
   ·subst CD
    simp only at ht
    rw [rO] at ht
    split at ht
    ·rename_i hlt
     obtain ⟨h1,h2⟩:=hv v ht
     refine ⟨h1,?_⟩
     rw [ze,h2]
     simp [h.size,hlt]
    ·cases ht
   ·simp only at ht
    rw [qi _ _ _ _ CD] at ht
    have:=h.slot t v ht
    refine ⟨this.1,?_⟩
    rw [ze]
    simp only
    rw [Array.getElem?_setIfInBounds_ne CD]
    exact this.2
  ·obtain ⟨h1,h2⟩:=zjD he
   have hd:=hn e h1
   have:=h.gl e h1
   rw [ze]
   simp only
   rw [Array.getElem?_setIfInBounds_ne (Ne.symm hd),Array.getElem?_setIfInBounds_ne (Ne.symm h2)]
   exact this
theorem N7 {r:RS} {dst:Option Tmp} {v:V} {d:Nat} {want:Bool} : M.sat F O (r.rM dst v d want) (fun r'=>r'.st.hp=r.st.hp/\∀ U a (x:Value),aJ O U r a ->
  (a.tmps[d]? = some (.bool want)->v.good O/\x=v.aa O U)->(a.tmps[d]?≠some (.bool want)->x=undef)->aJ O U r' (a.put dst x)):=by
 unfold RS.rM
 cases dst with
 | none=>exact au ⟨rfl,fun U a x h _ _=>h⟩
 | some t =>
  refine aY (fun hc=>au ⟨rfl,fun U a x h h1 h2=>?_⟩) (fun _=>aE)
  simp only [Bool.and_eq_true,Bool.not_eq_true',decide_eq_true_eq] at hc
  obtain ⟨⟨hn,CD⟩,hlt⟩:=hc
  have hn:=zfC hn
  have CD:t≠d:=by intro e;subst e;simp at CD
  have hd:(a.put (some t) x).tmps[d]? = a.tmps[d]?:=by
   rw [ze];simp only;rw [Array.getElem?_setIfInBounds_ne CD]
  have ht:(a.put (some t) x).tmps[t]? = some x:=by
   rw [ze];simp [h.size,hlt]
  refine ⟨h.defers,by simp [ze,iL,h.size],fun t' v' ht'=>?_,fun e he=>?_⟩
  ·by_cases hne:t=t'
   ·subst hne
    simp only at ht'
    rw [rO] at ht'
    split at ht'<;>cases ht'
   ·simp only at ht'
    rw [qi _ _ _ _ hne] at ht'
    have:=h.slot t' v' ht'
    refine ⟨this.1,?_⟩
    rw [ze];simp only;rw [Array.getElem?_setIfInBounds_ne hne]
    exact this.2
  ·rcases List.mem_cons.1 he with rfl | he
   ·simp only [hd,ht]
    exact ⟨fun hw=>by obtain ⟨g1,g2⟩:=h1 hw;exact ⟨g1,by rw [g2]⟩,fun hw=>by rw [h2 hw]⟩
   ·obtain ⟨h3,h4⟩:=zjD he
    have hd:=hn e h3
    have:=h.gl e h3
    rw [ze]
    simp only
    rw [Array.getElem?_setIfInBounds_ne (Ne.symm hd),Array.getElem?_setIfInBounds_ne (Ne.symm h4)]
    exact this
theorem zh9 {t:Nat} : ∀ {l:List GE} {e:GE},Fm t l=some e->e∈l/\e.t=t
 | [],_,h=>by simp [Fm] at h
 | x::l,e,h=>by
  simp only [Fm] at h
  split at h
  ·cases h;exact ⟨by simp,Nat.eq_of_beq_eq_true ‹_›⟩
  ·obtain ⟨h1,h2⟩:=zh9 h
   exact ⟨List.mem_cons_of_mem _ h1,h2⟩
def zzb (O:Nat->DV) (a:Act) (d:Nat) (want:Bool):Option (Ctx×List (A×Bool))->Prop
 | none=>a.tmps[d]?≠some (.bool want)
 | some (ctx,cs)=>(a.tmps[d]? = some (.bool want)->oa ctx a/\∀ c∈cs,c.1.bool O=c.2)/\(ctx=[]->a.tmps[d]? = some (.bool want))/\((∀ c∈cs,c.1.bool O=c.2)->a.tmps[d]? = some (.bool want))
theorem rz {U:Nat->Loc} {r:RS} {a:Act} (h:aJ O U r a):∀ (n d:Nat) (want:Bool) {res:Option (Ctx×List (A×Bool))},BW r n d want=some res->zzb O a d want res
 | 0,_,_,_,hg=>by simp [BW] at hg
 | n+1,d,want,res,hg=>by
  simp only [BW] at hg
  split at hg
  ·rename_i x hs
   have hv:=(h.slot d _ hs).2
   split at hg
   ·rename_i hb
    have:=vV hb;subst this
    cases hg
    exact ⟨fun _=>⟨fun p hp=>by simp at hp,fun c hc=>by simp at hc⟩,fun _=>hv,fun _=>hv⟩
   ·rename_i hb
    cases hg
    have hne:=R8 hb
    intro heq
    rw [hv] at heq
    simp [V.aa,V1.aa,Lf.aa] at heq
    exact hne heq
  ·rename_i x _ hs
   have hv:=(h.slot d _ hs).2
   cases hg
   refine ⟨fun heq=>⟨fun p hp=>by simp at hp;subst hp;exact heq,fun c hc=>?_⟩,fun hc=>by simp at hc,fun hc=>?_⟩
   ·simp at hc;subst hc
    rw [hv] at heq
    simpa [V.aa,V1.aa,Lf.aa] using heq
   ·have:=hc (x,want) (by simp)
    rw [hv]
    simp only at this
    simp [V.aa,V1.aa,Lf.aa,this]
  ·rename_i x hs
   have hv:=(h.slot d _ hs).2
   cases hg
   intro heq
   rw [hv] at heq
   simp [V.aa,V1.aa,Lf.aa] at heq
  ·cases hg
  ·split at hg
   ·rename_i e he
    obtain ⟨hmem,rfl⟩:=zh9 he
    have lO:=h.gl e hmem
    split at hg
    ·rename_i x dY
     split at hg
     ·rename_i ctx cs CE
      have ih:=rz h n e.d e.want CE
      have oQ:∀ b,a.tmps[e.t]? = some (.bool b)->a.tmps[e.d]? = some (.bool e.want):=fun b hb=>by
       by_cases hw:a.tmps[e.d]? = some (.bool e.want)
       ·exact hw
       ·have:=lO.2 hw
        rw [this] at hb
        simp [undef] at hb
      split at hg
      ·rename_i y
       split at hg
       ·rename_i hb
        have:=vV hb;subst this
        cases hg
        refine ⟨fun heq=>?_,fun hc=>by simp at hc,fun hc=>?_⟩
        ·have h1:=ih.1 (oQ _ heq)
         refine ⟨fun p hp=>?_,h1.2⟩
         rcases List.mem_cons.1 hp with rfl | hp
         ·exact heq
         ·exact h1.1 p hp
        ·have:=(lO.1 (ih.2.2 hc)).2
         rw [this,dY]
         rfl
       ·rename_i hb
        cases hg
        intro heq
        have h1:=(lO.1 (oQ _ heq)).2
        rw [h1,dY] at heq
        simp [V.aa,V1.aa,Lf.aa] at heq
        exact R8 hb heq
      ·cases hg
       refine ⟨fun heq=>?_,fun hc=>by simp at hc,fun hc=>?_⟩
       ·have h1:=ih.1 (oQ _ heq)
        refine ⟨fun p hp=>?_,fun c hc=>?_⟩
        ·rcases List.mem_cons.1 hp with rfl | hp
         ·exact heq
         ·exact h1.1 p hp
        ·rcases List.mem_cons.1 hc with rfl | hc
         ·have h2:=(lO.1 (oQ _ heq)).2
          rw [h2,dY] at heq
          simpa [V.aa,V1.aa,Lf.aa] using heq
         ·exact h1.2 c hc
       ·have:=(lO.1 (ih.2.2 fun c F7=>hc c (List.mem_cons_of_mem _ F7))).2
        rw [this,dY]
        have h2:=hc (x,want) (by simp)
        simp only at h2
        simp [V.aa,V1.aa,Lf.aa,h2]
     ·rename_i CE
      cases hg
      have ih:=rz h n e.d e.want CE
      intro heq
      have:=lO.2 ih
      rw [this] at heq
      simp [undef] at heq
     ·cases hg
    ·cases hg
   ·cases hg
theorem Tw {o:Oper} {ops:Array Oper} {a:Act} {j d:Nat} {want:Bool} (hg:o.guard=some (j,want)) (hd:(ops[j]?).bind (·.dst)=some d) :
  Region.wanted o (yielded ops a.tmps)=true↔a.tmps[d]? = some (.bool want):=by
 simp only [Region.wanted,hg,yielded,hd,Option.bind_some]
 cases ht:a.tmps[d]? with
 | none=>simp
 | some v=>cases v<;>simp
def Jf (P:Program) (O:Nat->DV) (E:Env) (ops:Array Oper) (o:Oper) (r r':RS):Prop :=
 ∀ U a w,RR O E U r a w->∀ (K:Act->World->Prop) (Q:Exit->Act->World->Prop),(∀ U' a' w',RR O E U' r' a' w'->K a' w') ->
  if Region.wanted o (yielded ops a.tmps)=true then o.wp P a w K Q else K (a.put o.dst undef) w
def N8 (P:Program) (O:Nat->DV) (E:Env) (ops:Array Oper) (o:Oper) (r r':RS):Prop :=
 r'.st.hp=r.st.hp/\∀ U a,aJ O U r a->(∃ w,HS E O U r.st.hp w)->∀ C:World->Prop,C=(fun w=>HS E O U r.st.hp w) ->
  if Region.wanted o (yielded ops a.tmps)=true then ∃ v,(∀ w,C w->o.quietAt P a C w v)/\aJ O U r' (a.put o.dst v) else aJ O U r' (a.put o.dst undef)
theorem zn8 {o:Oper} {a:Act} {w:World} {v:Value} {K:Act->World->Prop} {Q:Exit->Act->World->Prop} (h:NF P (execOp a.eval o) w v)
  (hk:∀ w',Below w.heap.size w w'->K (a.put o.dst v) w'):o.wp P a w K Q:=by
 unfold Oper.wp
 rcases h with h | ⟨f,args,h,hc⟩
 ·rw [h];exact hk w (Below.refl _ _)
 ·rw [h]
  exact hc.mono fun e w' ⟨he,hb⟩=>by subst he;exact hk w' hb
theorem zn9 {o:Oper} {a:Act} {w w':World} {K:Act->World->Prop} {Q:Exit->Act->World->Prop} (h:(execOp a.eval o).run P w = .ok .skip w') (hk:K (a.put o.dst undef) w'):o.wp P a w K Q:=by
 unfold Oper.wp
 rw [h];exact hk
theorem aJ.ext {U U':Nat->Loc} {r:RS} {a:Act} {n:Nat} (h:aJ O U r a) (hU:∀ j,j<n->U' j=U j) (h1:r.st.sl.all (dw (V.lt n))=true) (h2:r.gl.all (fun e=>e.v.lt n)=true) (hp:List (Option ag)) :
  aJ O U' ⟨⟨r.st.sl,hp⟩,r.gl⟩ a:=by
 have hl:∀ l:Lf,l.lt n=true->l.aa O U'=l.aa O U:=fun l hl=>by
  exact Lf.eU hU hl
 have lQ:∀ v:V1,v.lt n=true->v.aa O U'=v.aa O U:=fun v hv=>by
  cases v with
  | one l=>exact hl l (by simpa [V1.lt,V1.cells] using hv)
  | agg l =>
   simp only [V1.aa]
   congr 2
   exact List.map_congr_left fun x hx=>hl x (List.all_eq_true.1 hv x hx)
 have hv:∀ v:V,v.lt n=true->v.aa O U'=v.aa O U:=fun v hv=>by
  cases v with
  | s v=>exact lQ v hv
  | t l =>
   simp only [V.aa]
   congr 2
   exact List.map_congr_left fun x hx=>lQ x (List.all_eq_true.1 hv x hx)
 refine ⟨h.defers,h.size,fun t v ht=>?_,fun e he=>?_⟩
 ·obtain ⟨g1,g2⟩:=h.slot t v ht
  exact ⟨g1,by rw [hv v (iO h1 ht)];exact g2⟩
 ·have:=h.gl e he
  rw [hv e.v (List.all_eq_true.1 h2 e he)]
  exact this
theorem zps (hI:∀ w,Fr E.W E.w0 w->I w) {ops:Array Oper} {o:Oper} {r:RS} {x:OR} (hw:∀ U a,aJ O U r a->Region.wanted o (yielded ops a.tmps)=true)
  (hx:∀ U a,aJ O U r a->cT P I E O U r.st.hp (execOp a.eval o) x):M.sat F O (vO false r o.dst x) (Jf P O E ops o r):=by
 cases x with
 | val v =>
  refine cH ry fun r' hr' U a w cF K Q hK=>?_
  rw [if_pos (hw U a cF.act)]
  obtain ⟨hg,hrun⟩:=hx U a cF.act w cF.hs (hI w cF.hs.fr)
  refine zn8 hrun fun w' hb=>hK U _ w' ?_
  have:=cF.below hb
  exact ⟨hr'.2 U a _ cF.act (fun v' qx=>by cases qx;exact ⟨hg,rfl⟩),by rw [hr'.1];exact this.hs⟩
 | hp v hp' =>
  unfold vO
  refine aY (fun hc=>?_) (fun _=>aE)
  simp only [Bool.not_false,Bool.true_and,Bool.and_eq_true] at hc
  refine cH ry fun r' hr' U a w cF K Q hK=>?_
  rw [if_pos (hw U a cF.act)]
  have hrun:=hx U a cF.act w cF.hs (hI w cF.hs.fr)
  have fin:∀ (nv:Option Value) (y:Value) (w':World),(∀ z,nv=some z->y=z)->(∃ U':Nat->Loc,(∀ j,j<r.st.hp.length->U' j=U j)/\HS E O U' hp' w'/\∀ u,v=some u->u.good O/\nv=some (u.aa O U'))->K (a.put o.dst y) w':=by
   rintro nv y w' hy ⟨U',k1,k2,k3⟩
   refine hK U' _ w' ⟨hr'.2 U' a y (cF.act.ext k1 hc.1 hc.2 hp') (fun u hu=>?_),by rw [hr'.1];exact k2⟩
   obtain ⟨g1,g2⟩:=k3 u hu
   exact ⟨g1,hy _ g2⟩
  rcases hrun with ⟨z,w',h1,h2⟩ | ⟨w',h1,h2⟩ | ⟨f,args,h1,h2⟩
  ·unfold Oper.wp
   rw [h1]
   exact fin _ z w' (fun z' e=>by cases e;rfl) h2
  ·exact zn9 h1 (fin _ undef w' (fun z' e=>by cases e) h2)
  ·unfold Oper.wp
   rw [h1]
   exact h2.mono fun e w' ⟨z,he,h3⟩=>by subst he;exact fin _ z w' (fun z' e=>by cases e;rfl) h3
theorem zia {o:Oper} {a:Act} {U:Nat->Loc} {hp:List (Option ag)} {v:Value} {C:World->Prop} (hC:C=fun w=>HS E O U hp w)
  (h:∀ w,HS E O U hp w->NF P (execOp a.eval o) w v):∀ w,C w->o.quietAt P a C w v:=by
 intro w hw
 have hw':HS E O U hp w:=by rw [hC] at hw;exact hw
 unfold Oper.quietAt
 rcases h w hw' with h | ⟨f,args,h,hc⟩
 ·rw [h];exact ⟨rfl,rfl⟩
 ·rw [h]
  refine ⟨rfl,hc.mono fun e w'' ⟨he,hb⟩=>⟨he,?_⟩⟩
  rw [hC]
  exact hw'.bK hb
theorem zoa (hI:∀ w,Fr E.W E.w0 w->I w) {ops:Array Oper} {o:Oper} {r:RS} {x:OR} (hw:∀ U a,aJ O U r a->Region.wanted o (yielded ops a.tmps)=true)
  (hx:∀ U a,aJ O U r a->cT P I E O U r.st.hp (execOp a.eval o) x):M.sat F O (vO true r o.dst x) (N8 P O E ops o r):=by
 cases x with
 | val v =>
  refine cH ry fun r' hr'=>⟨hr'.1,fun U a ha hex C hC=>?_⟩
  rw [if_pos (hw U a ha)]
  obtain ⟨w,hw1⟩:=hex
  refine ⟨v.aa O U,zia hC fun w hw=>(hx U a ha w hw (hI w hw.fr)).2,hr'.2 U a _ ha fun v' qx=>?_⟩
  cases qx;exact ⟨(hx U a ha w hw1 (hI w hw1.fr)).1,rfl⟩
 | hp v hp'=>unfold vO;simp only [Bool.not_true,Bool.false_and,Bool.false_eq_true,if_false];exact aE
theorem zob (hI:∀ w,Fr E.W E.w0 w->I w) {ops:Array Oper} {o:Oper} {r:RS} {d:Nat} {want:Bool} {x:OR} (hw:∀ (a:Act),Region.wanted o (yielded ops a.tmps)=true↔a.tmps[d]? = some (.bool want))
  (hx:∀ U a,aJ O U r a->a.tmps[d]? = some (.bool want)->cT P I E O U r.st.hp (execOp a.eval o) x) :
  M.sat F O (Nb r o.dst d want x) (fun r'=>Jf P O E ops o r r'/\N8 P O E ops o r r'):=by
 cases x with
 | val v =>
  refine cH N7 fun r' hr'=>⟨fun U a w cF K Q hK=>?_,hr'.1,fun U a ha hex C hC=>?_⟩
  ·by_cases hg:Region.wanted o (yielded ops a.tmps)=true
   ·rw [if_pos hg]
    have hd:=(hw a).1 hg
    obtain ⟨fR,hrun⟩:=hx U a cF.act hd w cF.hs (hI w cF.hs.fr)
    refine zn8 hrun fun w' hb=>hK U _ w' ?_
    have:=cF.below hb
    exact ⟨hr'.2 U a _ cF.act (fun _=>⟨fR,rfl⟩) (fun hn=>absurd hd hn),by rw [hr'.1];exact this.hs⟩
   ·rw [if_neg hg]
    have hd:a.tmps[d]?≠some (.bool want):=fun h=>hg ((hw a).2 h)
    exact hK U _ w ⟨hr'.2 U a _ cF.act (fun h=>absurd h hd) (fun _=>rfl),by rw [hr'.1];exact cF.hs⟩
  ·by_cases hg:Region.wanted o (yielded ops a.tmps)=true
   ·rw [if_pos hg]
    have hd:=(hw a).1 hg
    obtain ⟨w,hw1⟩:=hex
    exact ⟨v.aa O U,zia hC fun w hw=>(hx U a ha hd w hw (hI w hw.fr)).2,hr'.2 U a _ ha (fun _=>⟨(hx U a ha hd w hw1 (hI w hw1.fr)).1,rfl⟩) (fun hn=>absurd hd hn)⟩
   ·rw [if_neg hg]
    have hd:a.tmps[d]?≠some (.bool want):=fun h=>hg ((hw a).2 h)
    exact hr'.2 U a _ ha (fun h=>absurd h hd) (fun _=>rfl)
 | hp v hp'=>exact aE
theorem Tx:∀ (cs:List (A×Bool)),M.sat F O (vP cs) (fun c=>c.bool O=true↔∀ p∈cs,p.1.bool O=p.2)
 | []=>au ⟨fun _ p hp=>(by cases hp),fun _=>rfl⟩
 | (a,b)::l=>by
  unfold vP
  refine ak (R:=fun x=>x.bool O=true↔a.bool O=b) ?_ fun x hx=>ak (Tx l) fun r hr=>cH R_ fun c hc=>?_
  ·cases b
   ·exact cH IA fun r hr=>by rw [hr];simp
   ·exact au Iff.rfl
  ·rw [hc,Bool.and_eq_true,hx,hr]
   constructor
   ·rintro ⟨h1,h2⟩ p hp
    rcases List.mem_cons.1 hp with rfl | hp
    ·exact h1
    ·exact h2 p hp
   ·intro h
    exact ⟨h (a,b) (by simp),fun p hp=>h p (List.mem_cons_of_mem _ hp)⟩
theorem V.fS {n:Nat} {U U':Nat->Loc} (hU:∀ j,j<n->U' j=U j) {v:V} (hv:v.lt n=true):v.aa O U'=v.aa O U:=by
 have hl:∀ l:Lf,l.lt n=true->l.aa O U'=l.aa O U:=fun l hl=>by
  exact Lf.eU hU hl
 have lQ:∀ v:V1,v.lt n=true->v.aa O U'=v.aa O U:=fun v hv=>by
  cases v with
  | one l=>exact hl l (by simpa [V1.lt,V1.cells] using hv)
  | agg l =>
   simp only [V1.aa]
   congr 2
   exact List.map_congr_left fun x hx=>hl x (List.all_eq_true.1 hv x hx)
 cases v with
 | s v=>exact lQ v hv
 | t l =>
  simp only [V.aa]
  congr 2
  exact List.map_congr_left fun x hx=>lQ x (List.all_eq_true.1 hv x hx)
theorem HS.pushNone {U:Nat->Loc} {hp:List (Option ag)} {w:World} (h:HS E O U hp w):HS E O U (hp++[none]) w:=by
 have hn:∀ j bk,nth (hp++[none]) j=some bk->nth hp j=some bk:=fun j bk hj=>by
  rw [oI] at hj
  split at hj
  ·exact hj
  ·cases hk:j-hp.length with
   | zero=>rw [hk] at hj;cases hj
   | succ k=>rw [hk] at hj;cases k<;>cases hj
 exact ⟨⟨fun j bk hj=>h.heap.aj j bk (hn j bk hj),fun j j' bk aS hj ho hj'=>h.heap.apart j j' bk aS (hn j bk hj) ho (hn j' aS hj')⟩,fun j bk hj=>h.old j bk (hn j bk hj),h.fr,by rw [List.length_append];have:=h.len;omega,h.keep⟩
theorem zln {hp:List (Option ag)} {b:Option ag} (h:bH hp=true) (hb:b=none\/∃ o ts a,b=some (.v o ts a)):bH (hp++[b])=true:=by
 unfold bH at h ⊢
 rw [List.all_append,Bool.and_eq_true,List.length_append]
 refine ⟨List.all_eq_true.2 fun y hy=>?_,?_⟩
 ·have:=List.all_eq_true.1 h y hy
  cases y with
  | none=>rfl
  | some y=>exact ag.dV (Nat.le_add_right _ _) this
 ·rcases hb with rfl | ⟨o,ts,a,rfl⟩<;>rfl
theorem Jg:∀ (l:List (Option ag)),M.sat F O (B6 l) (fun t=>t.length=l.length/\∀ U hp w,HS E O U hp w->bH hp=true->∃ U',(∀ j,j<hp.length->U' j=U j)/\HS E O U' (hp++t) w)
 | []=>au ⟨rfl,fun U hp w h _=>⟨U,fun _ _=>rfl,by rw [List.append_nil];exact h⟩⟩
 | b::l=>by
  have skip:∀ {r:List (Option ag)},(r.length=l.length/\∀ U hp w,HS E O U hp w->bH hp=true->∃ U',(∀ j,j<hp.length->U' j=U j)/\HS E O U' (hp++r) w) ->
    ((none::r:List (Option ag)).length=(b::l).length/\∀ U hp w,HS E O U hp w->bH hp=true->∃ U',(∀ j,j<hp.length->U' j=U j)/\HS E O U' (hp++none::r) w):=fun {r} hr =>
   ⟨by simp [hr.1],fun U hp w h hl=>by
    obtain ⟨U',h1,h2⟩:=hr.2 U (hp++[none]) w h.pushNone (zln hl (.inl rfl))
    exact ⟨U',fun j hj=>h1 j (by rw [List.length_append];omega),by rw [List.append_cons];exact h2⟩⟩
  unfold B6
  split
  ·rename_i o ts a
   refine aY (fun hc=>?_) (fun _=>ak (Jg l) fun r hr=>au (skip hr))
   have hpos:0<ts.length:=Nat.le_of_ble_eq_true hc
   refine ak (cz (Q:=fun q=>q.cells O=[]) fun q h=>A.aK h) fun q hq=>ak (Jg l) fun r hr=>au ⟨by simp [hr.1],fun U hp w hw hl=>?_⟩
   have hw1:=hw.fresh (w':=w) (bk:=.v o ts q) (r:=⟨0,0,true,0,0,none⟩) hl (Below.refl _ w)
    (⟨fun _=>⟨rfl,rfl⟩,fun e=>(by cases e),hpos,by rw [hq];simp,Nat.le_refl _,fun j hj=>by rw [hq] at hj;simp at hj,fun _ e=>(by cases e),fun _ e=>(by cases e)⟩:bf E w ⟨0,0,true,0,0,none⟩ o ts (q.cells O)) (.inl rfl)
   obtain ⟨U',h1,h2⟩:=hr.2 _ _ w hw1 (zln hl (.inr ⟨_,_,_,rfl⟩))
   refine ⟨U',fun j hj=>?_,by rw [List.append_cons];exact h2⟩
   rw [h1 j (by rw [List.length_append];omega),nD hj]
  ·exact ak (Jg l) fun r hr=>au (skip hr)
theorem zkU (hI:∀ w,Fr E.W E.w0 w->I w) {ops:Array Oper} {o:Oper} {r:RS} {d n0:Nat} (F8:n0=E.n0) {want:Bool} {cs:List (A×Bool)} {v:Option V} {hp':List (Option ag)}
  (hw:∀ (a:Act),Region.wanted o (yielded ops a.tmps)=true↔a.tmps[d]? = some (.bool want)) (hg:∀ U a,aJ O U r a->(a.tmps[d]? = some (.bool want)↔∀ c∈cs,c.1.bool O=c.2))
  (hx:∀ U a,aJ O U r a->a.tmps[d]? = some (.bool want)->cT P I E O U r.st.hp (execOp a.eval o) (.hp v hp')):M.sat F O (Rt r o.dst d want cs n0 v hp') (Jf P O E ops o r):=by
 unfold Rt
 refine aY (fun hc=>?_) (fun _=>aE)
 simp only [Bool.and_eq_true] at hc
 obtain ⟨⟨⟨⟨uo,lO⟩,hle⟩,rV⟩,hlt⟩:=hc
 have hle:=Nat.le_of_ble_eq_true hle
 have rV:=Nat.le_of_ble_eq_true rV
 rw [F8] at hle
 refine ak (Tx cs) fun c hcb=>ak (Jg (E:=E) _) fun t ht=>ak (N3 (E:=E) (Nat.le_trans hle rV)) fun s hs=>?_
 -- the state kC is joined
 have join:∀ U a w,RR O E U r a w->(a.tmps[d]? = some (.bool want)->∀ U1 w1,(∀ j,j<r.st.hp.length->U1 j=U j)->HS E O U1 hp' w1->∃ U2,(∀ j,j<hp'.length->U2 j=U1 j)/\RR O E U2 ⟨s,r.gl⟩ a w1) /\
   (a.tmps[d]?≠some (.bool want)->∃ U2,(∀ j,j<r.st.hp.length->U2 j=U j)/\RR O E U2 ⟨s,r.gl⟩ a w):=by
  intro U a w cF
  have glue:∀ U2 w2,(∀ j,j<r.st.hp.length->U2 j=U j)->RR O E U2 ⟨s,[]⟩ a w2->RR O E U2 ⟨s,r.gl⟩ a w2:=fun U2 w2 h1 h2 =>
   ⟨⟨h2.act.defers,h2.act.size,h2.act.slot,fun e he=>by
    have:=cF.act.gl e he
    rw [V.fS h1 (List.all_eq_true.1 lO e he)]
    exact this⟩,h2.hs⟩
  refine ⟨fun hd U1 w1 h1 h2=>?_,fun hd=>?_⟩
  ·have r7:=cF.act.ext h1 uo lO hp'
   obtain ⟨U2,e1,e2⟩:=(hs U1 a w1).1 (hcb.2 ((hg U a cF.act).1 hd)) ⟨⟨r7.defers,r7.size,r7.slot,fun e he=>by cases he⟩,h2⟩
   exact ⟨U2,e1,glue U2 w1 (fun j hj=>(e1 j (by omega)).trans (h1 j hj)) e2⟩
  ·have AN:c.bool O=false:=by
    cases hc:c.bool O with
    | false=>rfl
    | true=>exact absurd ((hg U a cF.act).2 (hcb.1 hc)) hd
   obtain ⟨U1,h1,h2⟩:=ht.2 U r.st.hp w cF.hs hlt
   have r7:=cF.act.ext h1 uo lO (r.st.hp++t)
   obtain ⟨U2,e1,e2⟩:=(hs U1 a w).2 AN ⟨⟨r7.defers,r7.size,r7.slot,fun e he=>by cases he⟩,h2⟩
   have e3:∀ j,j<r.st.hp.length->U2 j=U j:=fun j hj=>(e1 j (by omega)).trans (h1 j hj)
   exact ⟨U2,e3,glue U2 w e3 e2⟩
 cases v with
 | none =>
  refine cH ry fun r' hr' U a w cF K Q hK=>?_
  obtain ⟨j1,j2⟩:=join U a w cF
  have fin:∀ U2 (y:Value) w2,RR O E U2 ⟨s,r.gl⟩ a w2->K (a.put o.dst y) w2:=fun U2 y w2 h=>hK U2 _ w2 ⟨hr'.2 U2 a y h.act (fun u hu=>by cases hu),by rw [hr'.1];exact h.hs⟩
  split
  ·rename_i jW
   have hd:=(hw a).1 jW
   rcases hx U a cF.act hd w cF.hs (hI w cF.hs.fr) with ⟨z,w',h1,U1,h2,h3,_⟩ | ⟨w',h1,U1,h2,h3,_⟩ | ⟨f,args,h1,h2⟩
   ·obtain ⟨U2,_,h4⟩:=j1 hd U1 w' h2 h3
    unfold Oper.wp
    rw [h1]
    exact fin U2 z w' h4
   ·obtain ⟨U2,_,h4⟩:=j1 hd U1 w' h2 h3
    exact zn9 h1 (fin U2 undef w' h4)
   ·unfold Oper.wp
    rw [h1]
    exact h2.mono fun e w' ⟨z,he,U1,h2,h3,_⟩=>by
     subst he
     obtain ⟨U2,_,h4⟩:=j1 hd U1 w' h2 h3
     exact fin U2 z w' h4
  ·rename_i jW
   obtain ⟨U2,_,h4⟩:=j2 fun h=>jW ((hw a).2 h)
   exact fin U2 undef w h4
 | some v =>
  refine aY (fun ru=>?_) (fun _=>aE)
  refine cH N7 fun r' hr' U a w cF K Q hK=>?_
  obtain ⟨j1,j2⟩:=join U a w cF
  split
  ·rename_i jW
   have hd:=(hw a).1 jW
   have fin:∀ U1 U2 (y:Value) w2,(∀ j,j<hp'.length->U2 j=U1 j)->RR O E U2 ⟨s,r.gl⟩ a w2->v.good O->y=v.aa O U1->K (a.put o.dst y) w2:=fun U1 U2 y w2 lR h hg hy =>
    hK U2 _ w2 ⟨hr'.2 U2 a y h.act (fun _=>⟨hg,by rw [hy];exact V.fS (fun j hj=>(lR j hj).symm) ru⟩) (fun hn=>absurd hd hn),by rw [hr'.1];exact h.hs⟩
   rcases hx U a cF.act hd w cF.hs (hI w cF.hs.fr) with ⟨z,w',h1,U1,h2,h3,h5⟩ | ⟨w',h1,U1,h2,h3,h5⟩ | ⟨f,args,h1,h2⟩
   ·obtain ⟨U2,lR,h4⟩:=j1 hd U1 w' h2 h3
    obtain ⟨h6,h7⟩:=h5 v rfl
    unfold Oper.wp
    rw [h1]
    exact fin U1 U2 z w' lR h4 h6 (Option.some.inj h7)
   ·obtain ⟨h6,h7⟩:=h5 v rfl
    cases h7
   ·unfold Oper.wp
    rw [h1]
    exact h2.mono fun e w' ⟨z,he,U1,h2,h3,h5⟩=>by
     subst he
     obtain ⟨U2,lR,h4⟩:=j1 hd U1 w' h2 h3
     obtain ⟨h6,h7⟩:=h5 v rfl
     exact fin U1 U2 z w' lR h4 h6 (Option.some.inj h7)
  ·rename_i jW
   have hd:a.tmps[d]?≠some (.bool want):=fun h=>jW ((hw a).2 h)
   obtain ⟨U2,_,h4⟩:=j2 hd
   exact hK U2 _ w ⟨hr'.2 U2 a undef h4.act (fun h=>absurd h hd) (fun _=>rfl),by rw [hr'.1];exact h4.hs⟩
theorem F9 (hS:bg P I gK S F) (hE:E.Ok gK) (hn0:S.n0=E.n0) (hI:∀ w,Fr E.W E.w0 w->I w) {ops:Array Oper} {r:RS} {o:Oper} (q:Bool):M.sat F O (B7 P S q ops.toList r o) (fun r'=>(q=false->Jf P O E ops o r r')/\(q=true->N8 P O E ops o r r')):=by
 unfold B7
 have mq:∀ {x:OR},(∀ U a,aJ O U r a->Region.wanted o (yielded ops a.tmps)=true)->(∀ U a,aJ O U r a->cT P I E O U r.st.hp (execOp a.eval o) x) ->
   M.sat F O (vO q r o.dst x) (fun r'=>(q=false->Jf P O E ops o r r')/\(q=true->N8 P O E ops o r r')):=by
  intro x h1 h2
  cases q
  ·exact cH (zps hI h1 h2) fun r' h=>⟨fun _=>h,fun e=>by cases e⟩
  ·exact cH (zoa hI h1 h2) fun r' h=>⟨fun e=>(by cases e),fun _=>h⟩
 split
 ·rename_i hg
  refine ak (CC hS hE) fun x hx=>mq (fun U a _=>by simp [Region.wanted,hg]) fun U a ha=>hx U a ha (fun p hp=>by simp at hp)
 ·rename_i j want hg
  refine ak (lg (Q:=fun d=>(ops[j]?).bind (·.dst)=some d) fun a h=>by simpa using h) fun d hd=>?_
  refine bh fun res hres=>?_
  have ja:∀ (a:Act),Region.wanted o (yielded ops a.tmps)=true↔a.tmps[d]? = some (.bool want):=fun a=>Tw hg hd
  split
  ·refine cH ry fun r' hr'=>⟨fun _ U a w cF K Q hK=>?_,fun _=>⟨hr'.1,fun U a ha _ C _=>?_⟩⟩
   ·have hn:a.tmps[d]?≠some (.bool want):=rz cF.act 8 d want hres
    rw [if_neg (fun h=>hn ((ja a).1 h))]
    exact hK U _ w ⟨hr'.2 U a _ cF.act (fun v hv=>by cases hv;exact ⟨V.cg.2 (V1.ah.2 trivial),rfl⟩),by rw [hr'.1];exact cF.hs⟩
   ·have hn:a.tmps[d]?≠some (.bool want):=rz ha 8 d want hres
    rw [if_neg (fun h=>hn ((ja a).1 h))]
    exact hr'.2 U a _ ha (fun v hv=>by cases hv;exact ⟨V.cg.2 (V1.ah.2 trivial),rfl⟩)
  ·rename_i ctx cs
   split
   ·refine ak (CC hS hE) fun x hx=>mq (fun U a ha=>?_) fun U a ha=>hx U a ha (fun p hp=>by simp at hp)
    have:=rz ha 8 d want hres
    exact (ja a).2 (this.2.1 rfl)
   ·refine ak (R3 (CC hS hE (ctx:=ctx))) fun x hx=>?_
    have hO:∀ U a,aJ O U r a->a.tmps[d]? = some (.bool want)->cT P I E O U r.st.hp (execOp a.eval o) x:=fun U a ha hd'=>by
     have:=(rz ha 8 d want hres).1 hd'
     exact hx this.2 U a ha this.1
    cases x with
    | val v=>exact cH (zob hI ja hO) fun r' h=>⟨fun _=>h.1,fun _=>h.2⟩
    | hp v hp' =>
     refine aY (fun _=>aE) (fun hq=>?_)
     refine cH (zkU hI hn0 ja (fun U a ha=>?_) hO) fun r' h=>⟨fun _=>h,fun e=>absurd e hq⟩
     have:=rz ha 8 d want hres
     exact ⟨fun h=>(this.1 h).2,this.2.2⟩
end
end Go.Sx
namespace Go.Sx
open Go.RowKit
section
variable {P:Program} {md:Region.Mode}
theorem zta {o:Oper} {a:Act} {K K':Act->World->Prop} {Q Q':Exit->Act->World->Prop} {r:Result Next} (hk:∀ a w,K a w->K' a w) (hq:∀ e a w,e≠.normal->Q e a w->Q' e a w)
  (h:o.upon P a K Q r):o.upon P a K' Q' r:=by
 have hl:LetsOut Q->LetsOut Q':=fun ⟨a,w,h⟩=>⟨a,w,hq _ a w (by simp) h⟩
 cases r with
 | ok n w' =>
  cases n<;>simp only [Oper.upon] at h ⊢ <;>
   first
    | exact hk _ _ h
    | exact Calls.mono h (fun e w'' he=>by cases e<;>first | exact hk _ _ he | exact hq _ _ _ (by simp) he | exact hl he)
    | exact Rows.mono h (fun _ _ he=>hk _ _ he)
 | halt x w'=>cases x<;>simp only [Oper.upon] at h ⊢<;>first | exact hq _ _ _ (by simp) h | exact h
theorem N9 {o:Oper} {a:Act} {w:World} {K K':Act->World->Prop} {Q Q':Exit->Act->World->Prop} (hk:∀ a w,K a w->K' a w) (hq:∀ e a w,e≠.normal->Q e a w->Q' e a w)
  (h:o.wp P a w K Q\/(o.asks P a w/\LetsOut Q)):o.wp P a w K' Q'\/(o.asks P a w/\LetsOut Q'):=by
 rcases h with h | ⟨h1,a',w',h2⟩
 ·exact .inl (zta hk hq h)
 ·exact .inr ⟨h1,a',w',hq _ _ _ (by simp) h2⟩
theorem Tz {ops ops':Array Oper} {i:Nat} {a:Act} {w:World} {K K':Act->World->Prop} {Q Q':Exit->Act->World->Prop} (ho:ops'[i]? = ops[i]?)
  (hg:∀ o,ops[i]? = some o->Region.wanted o (yielded ops' a.tmps)=Region.wanted o (yielded ops a.tmps)) (hk:∀ a w,K a w->K' a w) (hq:∀ e a w,e≠.normal->Q e a w->Q' e a w)
  (h:wpOp P ops Q i K a w):wpOp P ops' Q' i K' a w:=by
 unfold wpOp at h ⊢
 rw [ho]
 cases hop:ops[i]? with
 | none=>simp only [hop] at h ⊢;exact hk _ _ h
 | some o =>
  simp only [hop] at h ⊢
  rw [hg o hop]
  split
  ·rename_i hw;simp only [hw,if_true] at h;exact N9 hk hq h
  ·rename_i hw;simp only [hw] at h;exact hk _ _ h
theorem TA {ops:Array Oper} {Q Q':Exit->Act->World->Prop} (hq:∀ e a w,Q e a w->Q' e a w):∀ (fuel:Nat) (listed:Array Bool) (a:Act) (w:World),wpAny P md ops Q fuel listed a w->wpAny P md ops Q' fuel listed a w
 | 0,_,_,_,h=>⟨h.1,hq _ _ _ h.2⟩
 | fuel+1,_,_,_,h=>⟨fun h0=>hq _ _ _ (h.1 h0),fun i hi=>Tz rfl (fun _ _=>rfl) (TA hq fuel _) (fun e a w _=>hq e a w) (h.2 i hi)⟩
theorem zf (l:Array Bool) (j:Nat):(l.push false).getD j false=l.getD j false:=by
 rw [Array.getD_eq_getD_getElem?,Array.getD_eq_getD_getElem?,Array.getElem?_push]
 split
 ·rename_i h;subst h;simp
 ·rfl
theorem zoc (l:Array Bool) {j:Nat} (h:j≠l.size) (d:Bool):(l.push false).getD j d=l.getD j d:=by
 rw [Array.getD_eq_getD_getElem?,Array.getD_eq_getD_getElem?,Array.getElem?_push,if_neg h]
theorem F_ {l:Array Bool} {j:Nat} (h:j<l.size):(l.push false).getD j true=l.getD j true:=zoc l (by omega) true
theorem zib {l:Array Bool} {n:Nat} (h:l.size=n) (d:Bool):(l.push false).getD n d=false:=by
 rw [Array.getD_eq_getD_getElem?,Array.getElem?_push,if_pos h.symm];rfl
theorem tq {l:Array Bool} {j:Nat} (h:j<l.size):l.getD j true=l.getD j false:=by simp [h]
def nG (md:Region.Mode) (ops:Array Oper):Prop:=∀ (i:Nat) (o:Oper),ops[i]? = some o->(∀ e∈o.after,Region.binds md e=true->e.on<i)/\∀ j b,o.guard=some (j,b)->j<i
theorem AP {ops:Array Oper} {listed:Array Bool} (hs:listed.size=ops.size) (hb:nG md ops) (h:Region.ready md ops listed=[]):∀ i,i<ops.size->listed.getD i false=true:=by
 intro i
 induction i using Nat.strongRecOn with
 | _ i ih =>
  intro hi
  cases hl:listed.getD i false with
  | true=>rfl
  | false =>
   exfalso
   have hmem:i∈Region.ready md ops listed:=mem_ready.2 ⟨by rw [tq (by omega)];exact hl,ops[i],by simp [hi],fun e he hbd=>by
    have:=(hb i ops[i] (by simp [hi])).1 e he hbd
    exact ih e.on this (by omega)⟩
   rw [h] at hmem
   cases hmem
theorem zjE {head:Array Oper} {last:Oper} {o:Oper} {i:Nat} {tmps:Array Value} (hi:i<=head.size) (hg:∀ j b,o.guard=some (j,b)->j<i) :
  Region.wanted o (yielded (head.push last) tmps)=Region.wanted o (yielded head tmps):=by
 unfold Region.wanted
 cases hgd:o.guard with
 | none=>rfl
 | some p =>
  obtain ⟨j,b⟩:=p
  have:=hg j b hgd
  have:(head.push last)[j]? = head[j]?:=by rw [Array.getElem?_push,if_neg (by omega)]
  simp only [yielded,this]
theorem zrS {head:Array Oper} {last:Oper} {Q Qh:Exit->Act->World->Prop} (hb:nG md (head.push last)) (hw:∀ i,i<head.size->∃ e∈last.after,Region.binds md e=true/\e.on=i)
  (hq:∀ e a w,e≠.normal->Qh e a w->Q e a w) (hl:∀ a w,Qh .normal a w->wpOp P (head.push last) Q head.size (Q .normal) a w) :
  ∀ (fuel:Nat) (listed:Array Bool) (a:Act) (w:World),listed.size=head.size->wpAny P md head Qh fuel listed a w->wpAny P md (head.push last) Q (fuel+1) (listed.push false) a w:=by
 have CF:nG md head:=fun i o ho=>hb i o (by
  have hi:i<head.size:=by
   rcases Nat.lt_or_ge i head.size with h | h
   ·exact h
   ·rw [Array.getElem?_eq_none h] at ho;cases ho
  rw [Array.getElem?_push,if_neg (by omega)];exact ho)
 have mB:(head.push last)[head.size]? = some last:=by simp
 have oL:=hb head.size last mB
 -- what is ready
 have r1:∀ listed:Array Bool,listed.size=head.size->∀ i,i∈Region.ready md (head.push last) (listed.push false)->i=head.size\/(i<head.size/\i∈Region.ready md head listed):=by
  intro listed hs i hi
  obtain ⟨h1,oi,h2,h3⟩:=mem_ready.1 hi
  rcases Nat.lt_trichotomy i head.size with h | h | h
  ·right
   refine ⟨h,mem_ready.2 ⟨by rw [<-F_ (by omega)];exact h1,oi,by rw [Array.getElem?_push,if_neg (by omega)] at h2;exact h2,fun e he hbd=>by rw [<-zf];exact h3 e he hbd⟩⟩
  ·exact .inl h
  ·rw [Array.getElem?_eq_none (by simp;omega)] at h2;cases h2
 have r2:∀ listed:Array Bool,listed.size=head.size->head.size∈Region.ready md (head.push last) (listed.push false)->Region.ready md head listed=[]:=by
  intro listed hs hi
  obtain ⟨_,oi,h2,h3⟩:=mem_ready.1 hi
  rw [mB] at h2
  cases h2
  apply List.eq_nil_iff_forall_not_mem.2
  intro j hj
  obtain ⟨h4,oj,h5,_⟩:=mem_ready.1 hj
  have hjl:j<head.size:=by
   rcases Nat.lt_or_ge j head.size with h | h
   ·exact h
   ·rw [Array.getElem?_eq_none h] at h5;cases h5
  obtain ⟨e,he,hbd,hon⟩:=hw j hjl
  have:=h3 e he hbd
  rw [zf,hon,<-tq (by omega),h4] at this
  cases this
 have r3:∀ listed:Array Bool,listed.size=head.size->Region.ready md head listed=[]->head.size∈Region.ready md (head.push last) (listed.push false):=by
  intro listed hs h0
  refine mem_ready.2 ⟨zib hs true,last,mB,fun e he hbd=>?_⟩
  rw [zf]
  exact AP hs CF h0 e.on (oL.1 e he hbd)
 have CG:∀ listed:Array Bool,listed.size=head.size->Region.ready md head listed=[]->Region.ready md (head.push last) ((listed.push false).setIfInBounds head.size true)=[]:=by
  intro listed hs h0
  apply List.eq_nil_iff_forall_not_mem.2
  intro j hj
  obtain ⟨h4,oj,h5,_⟩:=mem_ready.1 hj
  have hjl:j<head.size+1:=by
   rcases Nat.lt_or_ge j (head.size+1) with h | h
   ·exact h
   ·rw [Array.getElem?_eq_none (by simp;omega)] at h5;cases h5
  by_cases hjn:j=head.size
  ·subst hjn
   rw [Array.getD_eq_getD_getElem?,Array.getElem?_setIfInBounds_self_of_lt (by simp [hs])] at h4
   cases h4
  ·have:=AP hs CF h0 j (by omega)
   rw [getD_set_ne true (Ne.symm hjn),F_ (by omega),tq (by omega),this] at h4
   cases h4
 have fin:∀ (fuel:Nat) (listed:Array Bool) (a:Act) (w:World),listed.size=head.size->Region.ready md head listed=[]->Q .normal a w ->
   wpAny P md (head.push last) Q fuel ((listed.push false).setIfInBounds head.size true) a w:=by
  intro fuel listed a w hs h0 hn
  have he:=CG listed hs h0
  cases fuel with
  | zero=>exact ⟨he,hn⟩
  | succ f=>exact ⟨fun _=>hn,fun i hi=>by rw [he] at hi;cases hi⟩
 intro fuel
 induction fuel with
 | zero =>
  intro listed a w hs h
  refine ⟨fun h0=>?_,fun i hi=>?_⟩
  ·have:=r3 listed hs h.1
   rw [h0] at this;cases this
  ·rcases r1 listed hs i hi with rfl | ⟨_,hi'⟩
   ·exact wpOp_mono (fun a' w' hn=>fin 0 listed a' w' hs h.1 hn) (hl a w h.2)
   ·rw [h.1] at hi';cases hi'
 | succ fuel ih =>
  intro listed a w hs h
  refine ⟨fun h0=>?_,fun i hi=>?_⟩
  ·exfalso
   have hz:Region.ready md head listed=[]:=by
    apply List.eq_nil_iff_forall_not_mem.2
    intro j hj
    obtain ⟨h4,oj,h5,h6⟩:=mem_ready.1 hj
    have hjl:j<head.size:=by
     rcases Nat.lt_or_ge j head.size with h | h
     ·exact h
     ·rw [Array.getElem?_eq_none h] at h5;cases h5
    have:j∈Region.ready md (head.push last) (listed.push false):=mem_ready.2 ⟨by rw [F_ (by omega)];exact h4,oj,by rw [Array.getElem?_push,if_neg (by omega)];exact h5,fun e he hbd=>by rw [zf];exact h6 e he hbd⟩
    rw [h0] at this;cases this
   have:=r3 listed hs hz
   rw [h0] at this;cases this
  ·rcases r1 listed hs i hi with rfl | ⟨fY,hi'⟩
   ·have hz:=r2 listed hs hi
    exact wpOp_mono (fun a' w' hn=>fin (fuel+1) listed a' w' hs hz hn) (hl a w (h.1 hz))
   ·have h2:=h.2 i hi'
    have qy:(listed.push false).setIfInBounds i true=(listed.setIfInBounds i true).push false:=by
     apply Array.ext'
     simp only [Array.toList_setIfInBounds,Array.toList_push]
     rw [List.set_append_left _ _ (by simpa using (show i<listed.size from by omega))]
    rw [qy]
    refine Tz (by rw [Array.getElem?_push,if_neg (by omega)]) (fun o ho=>?_) (fun a' w' h'=>ih _ a' w' (by simpa using hs) h') hq h2
    exact zjE (i:=i) (by omega) (CF i o ho).2
theorem zjF {ops:Array Oper} {Q:Exit->Act->World->Prop} (hb:nG md ops):∀ (rest:List Oper) (head:Array Oper),ops.toList=head.toList++rest ->
  (∀ i,head.size<=i->∀ o,ops[i]? = some o->∀ j,j<i->∃ e∈o.after,Region.binds md e=true/\e.on=j) ->
  ∀ a w,wpAny P md head (fun e a w=>match e with | .normal=>wpList P ops Q rest a w | e=>Q e a w) head.size (Array.replicate head.size false) a w ->
  wpAny P md ops Q ops.size (Array.replicate ops.size false) a w
 | [],head,ho,_,a,w,h=>by
  have:head=ops:=by apply Array.ext';simpa using ho.symm
  subst this
  refine TA (fun e a w hh=>?_) _ _ _ _ h
  cases e<;>exact hh
 | o::rest,head,ho,hw,a,w,h=>by
  have hpre:∀ i,i<head.size+1->(head.push o)[i]? = ops[i]?:=fun i hi=>by
   have h1:ops[i]? = ops.toList[i]?:=by simp
   rw [h1,ho]
   by_cases TB:i<head.size
   ·rw [List.getElem?_append_left (by simpa using TB),Array.getElem?_push,if_neg (by omega)];simp
   ·have:i=head.size:=by omega
    subst this
    simp
  have TC:nG md (head.push o):=fun i x hx=>hb i x (by
   rw [<-hpre i (by
    rcases Nat.lt_or_ge i (head.size+1) with h | h
    ·exact h
    ·rw [Array.getElem?_eq_none (by simp;omega)] at hx;cases hx)]
   exact hx)
  have ho':ops[head.size]? = some o:=by rw [<-hpre _ (by omega)];simp
  refine zjF hb rest (head.push o) (by simp [ho]) (fun i hi x hx j hj=>hw i (by simp at hi;omega) x hx j hj) a w ?_
  have:=zrS (P:=P) (md:=md) (head:=head) (last:=o) (Q:=fun e a w=>match e with | .normal=>wpList P ops Q rest a w | e=>Q e a w) TC
   (fun i hi=>hw head.size (Nat.le_refl _) o ho' i hi) (Qh:=fun e a w=>match e with | .normal=>wpList P ops Q (o::rest) a w | e=>Q e a w)
   (fun e a w hne hh=>by cases e<;>first | exact absurd rfl hne | exact hh)
   (fun a w hh=>by
    simp only [wpList] at hh
    unfold wpOp
    have e1:(head.push o)[head.size]? = some o:=by simp
    simp only [e1]
    have ja:Region.wanted o (yielded (head.push o) a.tmps)=Region.wanted o (yielded ops a.tmps):=by
     unfold Region.wanted
     cases hgd:o.guard with
     | none=>rfl
     | some p =>
      obtain ⟨j,b⟩:=p
      have:=(hb head.size o ho').2 j b hgd
      simp only [yielded,hpre j (by omega)]
    rw [ja]
    split
    ·rename_i jW
     simp only [jW,if_true] at hh
     exact N9 (fun a w h=>h) (fun e a w hne h=>by cases e<;>first | exact absurd rfl hne | exact h) hh
    ·rename_i jW
     simp only [jW] at hh
     exact hh)
   head.size (Array.replicate head.size false) a w (by simp) h
  have TD:(Array.replicate head.size false).push false=Array.replicate (head.push o).size false:=by
   simp [Array.replicate_succ]
  rw [TD] at this
  simpa using this
end
end Go.Sx
namespace Go.Sx
open Go.RowKit
def nh (ops:Array Oper) (listed:Array Bool):Prop:=∀ (i:Nat) (o:Oper),ops[i]? = some o->listed.getD i false=true->∀ e∈o.after,Region.binds .any e=true->listed.getD e.on false=true
theorem uq {l:Array Bool} {i j:Nat} (h:l.getD j false=true):(l.setIfInBounds i true).getD j false=true:=by
 by_cases hij:i=j
 ·subst hij
  have:i<l.size:=by
   rcases Nat.lt_or_ge i l.size with h1 | h1
   ·exact h1
   ·rw [Array.getD_eq_getD_getElem?,Array.getElem?_eq_none h1] at h;cases h
  rw [Array.getD_eq_getD_getElem?,Array.getElem?_setIfInBounds_self_of_lt this]
  rfl
 ·rw [Array.getD_eq_getD_getElem?,Array.getElem?_setIfInBounds_ne hij,<-Array.getD_eq_getD_getElem?]
  exact h
theorem CH {l:Array Bool} {i j:Nat} (h:(l.setIfInBounds i true).getD j false=true):j=i\/l.getD j false=true:=by
 by_cases hij:i=j
 ·exact .inl hij.symm
 ·rw [Array.getD_eq_getD_getElem?,Array.getElem?_setIfInBounds_ne hij,<-Array.getD_eq_getD_getElem?] at h
  exact .inr h
theorem nh.set {ops:Array Oper} {listed:Array Bool} (h:nh ops listed) {i:Nat} (hi:i∈Region.ready .any ops listed):nh ops (listed.setIfInBounds i true):=by
 intro j o ho hj e he hb
 obtain ⟨_,oi,h2,h3⟩:=mem_ready.1 hi
 rcases CH hj with rfl | hj
 ·rw [h2] at ho;cases ho
  exact uq (h3 e he hb)
 ·exact uq (h j o ho hj e he hb)
theorem pT {n:Nat} : ∀ {l:List Nat},cJ n l=true->n∈l
 | [],h=>by cases h
 | x::l,h=>by
  simp only [cJ,Bool.or_eq_true] at h
  rcases h with h | h
  ·rw [Nat.eq_of_beq_eq_true h];simp
  ·exact List.mem_cons_of_mem _ (pT h)
theorem N_ {o:Oper} {x:Nat} (h:x∈ju o):∃ e∈o.after,Region.binds .any e=true/\e.on=x:=by
 unfold ju at h
 obtain ⟨e,he,rfl⟩:=List.mem_map.1 h
 obtain ⟨h1,h2⟩:=List.mem_filter.1 he
 exact ⟨e,by simpa using h1,h2,rfl⟩
theorem Jh {ops:Array Oper} {listed:Array Bool} (hc:nh ops listed):∀ (n:Nat) (l:List Nat),(∀ x∈l,listed.getD x false=true)->∀ x∈jK ops.toList n l,listed.getD x false=true
 | 0,l,h,x,hx=>h x hx
 | n+1,l,h,x,hx=>by
  simp only [jK] at hx
  split at hx
  ·rename_i hm
   refine Jh hc n _ (fun y hy=>?_) x hx
   rcases List.mem_append.1 hy with hy | hy
   ·cases ho:ops.toList[n]? with
    | none=>rw [ho] at hy;cases hy
    | some o =>
     rw [ho] at hy
     obtain ⟨e,he,hb,rfl⟩:=N_ hy
     exact hc n o (by simpa using ho) (h n (pT hm)) e he hb
   ·exact h y hy
  ·exact Jh hc n l h x hx
theorem xO {ops:Array Oper} {listed:Array Bool} (hc:nh ops listed) {i:Nat} {o:Oper} (ho:ops[i]? = some o) (hi:i∈Region.ready .any ops listed):∀ x∈jK ops.toList i (ju o),listed.getD x false=true:=by
 refine Jh hc i _ fun x hx=>?_
 obtain ⟨e,he,hb,rfl⟩:=N_ hx
 obtain ⟨_,oi,h2,h3⟩:=mem_ready.1 hi
 rw [ho] at h2;cases h2
 exact h3 e he hb
section
variable {P:Program}
theorem TE {a:Act} {d:Option Tmp} {v:Value} {t:Nat} (h:d≠some t):(a.put d v).tmps[t]? = a.tmps[t]?:=by
 cases d with
 | none=>rfl
 | some d =>
  show (a.tmps.setIfInBounds d v)[t]? = _
  rw [Array.getElem?_setIfInBounds_ne (fun e=>h (by rw [e]))]
theorem Oa {ops:Array Oper} {C:World->Prop} {Q:Act->Prop} : ∀ (fuel:Nat) (listed:Array Bool) (a:Act),wpAnyQ P .any ops C Q fuel listed a ->
  ∃ a',Q a'/\∀ t,(∀ (j:Nat) (o:Oper),ops[j]? = some o->o.dst=some t->listed.getD j true=true)->a'.tmps[t]? = a.tmps[t]?
 | 0,listed,a,h=>⟨a,h.2,fun _ _=>rfl⟩
 | fuel+1,listed,a,h=>by
  cases hr:Region.ready .any ops listed with
  | nil=>exact ⟨a,h.1 hr,fun _ _=>rfl⟩
  | cons i l =>
   have hi:i∈Region.ready .any ops listed:=by rw [hr];simp
   obtain ⟨iR,oi,jb,_⟩:=mem_ready.1 hi
   have hq:=h.2 i hi
   unfold qOp at hq
   rw [jb] at hq
   simp only at hq
   have step:∀ v:Value,wpAnyQ P .any ops C Q fuel (listed.setIfInBounds i true) (a.put oi.dst v)->∃ a',Q a'/\∀ t,(∀ (j:Nat) (o:Oper),ops[j]? = some o->o.dst=some t->listed.getD j true=true)->a'.tmps[t]? = a.tmps[t]?:=by
    intro v hv
    obtain ⟨a',h1,h2⟩:=Oa fuel _ _ hv
    refine ⟨a',h1,fun t ht=>?_⟩
    have hne:oi.dst≠some t:=fun e=>by have:=ht i oi jb e;rw [iR] at this;cases this
    rw [h2 t (fun j o ho hd=>?_),TE hne]
    have h3:=ht j o ho hd
    by_cases hij:i=j
    ·subst hij;rw [iR] at h3;cases h3
    ·rw [Array.getD_eq_getD_getElem?,Array.getElem?_setIfInBounds_ne hij,<-Array.getD_eq_getD_getElem?]
     exact h3
   split at hq
   ·obtain ⟨v,_,h2⟩:=hq
    exact step v h2
   ·exact step _ hq
theorem zg {ops ops':Array Oper} (h:∀ j:Nat,(ops'[j]?).bind (·.dst)=(ops[j]?).bind (·.dst)) (tmps:Array Value):yielded ops' tmps=yielded ops tmps:=by
 funext j
 unfold yielded
 rw [h j]
theorem zpt {ops ops':Array Oper} {st:List Nat} {C:World->Prop} {D:Nat->World->Prop} {Qf:Act->Prop} {Q':Exit->Act->World->Prop} (hb:nG .any ops)
  (cu:∀ listed,Region.ready .any ops' listed=Region.ready .any ops listed) (eG:∀ j:Nat,(ops'[j]?).bind (·.dst)=(ops[j]?).bind (·.dst))
  (Ga:∀ i:Nat,i∉st->ops'[i]? = ops[i]?) (hst:∀ i∈st,∃ o o':Oper,ops[i]? = some o/\ops'[i]? = some o'/\o.guard=none/\o'.dst=o.dst/\o'.guard=none)
  (hCD:∀ k w,k<=st.length->D k w->C w)
  (hpure:∀ (i:Nat) (o:Oper),i∉st->ops[i]? = some o->∀ (a:Act) (w:World) f args w',(execOp a.eval o).run P w≠.ok (.enter f args) w')
  (qz:∀ (p q:Nat) (i j:Nat),p<q->st[p]? = some i->st[q]? = some j->∀ listed,nh ops listed->j∈Region.ready .any ops listed->listed.getD i false=true)
  (hop:∀ (i:Nat) (o:Oper),i∈st->ops[i]? = some o->∀ listed,nh ops listed->i∈Region.ready .any ops listed->∀ t∈Fv o.op,∀ (j:Nat) (o':Oper),ops[j]? = some o'->o'.dst=some t->listed.getD j false=true)
  (hstep:∀ (k i:Nat) (o o':Oper),st[k]? = some i->ops[i]? = some o->ops'[i]? = some o' ->
   (o.dst=none/\∀ a a':Act,Qf a'->(∀ t∈Fv o.op,a'.tmps[t]? = a.tmps[t]?)->∀ w,D k w->∃ w',(execOp a.eval o).run P w = .ok .skip w'/\D (k+1) w') \/
   (∃ v,(∀ (a:Act) (w:World),(execOp a.eval o').run P w = .ok (.value v) w)/\∀ (a:Act) w,D k w->∃ w',(execOp a.eval o).run P w = .ok (.value v) w'/\D (k+1) w'))
  (hQ:∀ a w,Qf a->D st.length w->Q' .normal a w) :
  ∀ (fuel:Nat) (listed:Array Bool) (a:Act) (w:World) (k:Nat),listed.size=ops.size->nh ops listed->k<=st.length->(∀ p i,p<k->st[p]? = some i->listed.getD i false=true)->(∀ p i,k<=p->st[p]? = some i->listed.getD i false=false) ->
   D k w->wpAnyQ P .any ops' C Qf fuel listed a->wpAny P .any ops Q' fuel listed a w:=by
 have r8:∀ (listed:Array Bool) (k:Nat),listed.size=ops.size->k<=st.length->(∀ p i,k<=p->st[p]? = some i->listed.getD i false=false)->Region.ready .any ops listed=[]->k=st.length:=by
  intro listed k hs hk h2 h0
  rcases Nat.lt_or_ge k st.length with h | h
  ·have hi:=List.getElem?_eq_getElem h
   have h3:=h2 k _ (Nat.le_refl _) hi
   obtain ⟨o,_,ho,_⟩:=hst _ (List.mem_of_getElem? hi)
   have hlt:st[k]<ops.size:=by
    rcases Nat.lt_or_ge st[k] ops.size with h | h
    ·exact h
    ·rw [Array.getElem?_eq_none h] at ho;cases ho
   rw [AP hs hb h0 _ hlt] at h3
   cases h3
  ·omega
 intro fuel
 induction fuel with
 | zero =>
  intro listed a w k hs ee hk h1 h2 hd h
  have h0:=h.1
  rw [cu] at h0
  have:=r8 listed k hs hk h2 h0
  subst this
  exact ⟨h0,hQ a w h.2 hd⟩
 | succ fuel ih =>
  intro listed a w k hs ee hk h1 h2 hd h
  refine ⟨fun h0=>?_,fun i hi=>?_⟩
  ·have:=r8 listed k hs hk h2 h0
   subst this
   exact hQ a w (h.1 (by rw [cu];exact h0)) hd
  ·have hq:=h.2 i (by rw [cu];exact hi)
   have hs':(listed.setIfInBounds i true).size=ops.size:=by simpa using hs
   have fC:=ee.set hi
   obtain ⟨iR,oi,jb,_⟩:=mem_ready.1 hi
   have fY:i<ops.size:=by
    rcases Nat.lt_or_ge i ops.size with h | h
    ·exact h
    ·rw [Array.getElem?_eq_none h] at jb;cases jb
   by_cases nH:i∈st
   ·obtain ⟨p,hp,Oc⟩:=List.mem_iff_getElem.1 nH
    have wq:st[p]? = some i:=by rw [List.getElem?_eq_getElem hp,Oc]
    have CJ:listed.getD i false=false:=by rw [<-tq (by omega)];exact iR
    have hkp:k=p:=by
     rcases Nat.lt_trichotomy k p with hlt | heq | hgt
     ·have lz:=List.getElem?_eq_getElem (show k<st.length by omega)
      have e1:=qz k p _ i hlt lz wq listed ee hi
      rw [h2 k _ (Nat.le_refl _) lz] at e1
      cases e1
     ·exact heq
     ·rw [h1 p i hgt wq] at CJ
      cases CJ
    subst hkp
    obtain ⟨o,o',e1,e2,e4,e5,e6⟩:=hst i nH
    rw [jb] at e1;cases e1
    have ja:Region.wanted oi (yielded ops a.tmps)=true:=by simp [Region.wanted,e4]
    have CK:Region.wanted o' (yielded ops' a.tmps)=true:=by simp [Region.wanted,e6]
    -- all kC TF on behind
    have behind:∀ a1 w',D (k+1) w'->wpAnyQ P .any ops' C Qf fuel (listed.setIfInBounds i true) a1->wpAny P .any ops Q' fuel (listed.setIfInBounds i true) a1 w':=fun a1 w' hd' hnext=>by
     refine ih _ a1 w' (k+1) hs' fC (by omega) (fun q j rU lz=>?_) (fun q j rU lz=>?_) hd' hnext
     ·rcases Nat.lt_or_ge q k with hqk | hqk
      ·exact uq (h1 q j hqk lz)
      ·have:q=k:=by omega
       subst this
       rw [wq] at lz;cases lz
       rw [Array.getD_eq_getD_getElem?,Array.getElem?_setIfInBounds_self_of_lt (by omega)]
       rfl
     ·cases hj:(listed.setIfInBounds i true).getD j false with
      | false=>rfl
      | true =>
       rcases CH hj with rfl | hj
       ·have e7:=qz k q j j (by omega) wq lz listed ee hi
        rw [CJ] at e7;cases e7
       ·rw [h2 q j (by omega) lz] at hj;cases hj
    unfold qOp at hq
    rw [e2] at hq
    simp only at hq
    rw [if_pos CK] at hq
    obtain ⟨v,hv,h4⟩:=hq
    rw [e5] at h4
    unfold wpOp
    rw [jb]
    simp only
    rw [if_pos ja]
    refine .inl ?_
    unfold Oper.wp
    rcases hstep k i oi o' wq jb e2 with ⟨e3,hstep⟩ | ⟨u,hu,hstep⟩
    ·rw [e3] at h4
     have hnext:wpAnyQ P .any ops' C Qf fuel (listed.setIfInBounds i true) a:=h4
     obtain ⟨a',nC,lS⟩:=Oa fuel _ _ hnext
     obtain ⟨w',hrun,hd'⟩:=hstep a a' nC (fun t ht=>lS t fun j o'' wu wv=>by
      have tr:(ops[j]?).bind (·.dst)=some t:=by rw [<-eG j,wu];exact wv
      cases qA:ops[j]? with
      | none=>rw [qA] at tr;cases tr
      | some oj =>
       rw [qA] at tr
       have hjl:j<listed.size:=by
        rcases Nat.lt_or_ge j ops.size with h | h
        ·omega
        ·rw [Array.getElem?_eq_none h] at qA;cases qA
       have:=uq (i:=i) (hop i oi nH jb listed ee hi t ht j oj qA tr)
       rw [tq (by simpa using hjl)]
       exact this) w hd
     rw [hrun]
     show wpAny P .any ops Q' fuel (listed.setIfInBounds i true) (a.put oi.dst undef) w'
     rw [e3]
     exact behind a w' hd' hnext
    ·obtain ⟨w',hrun,hd'⟩:=hstep a w hd
     have hvu:u=v:=by
      have h3:=hv w (hCD k w hk hd)
      unfold Oper.quietAt at h3
      rw [hu a w] at h3
      exact h3.2
     subst hvu
     rw [hrun]
     show wpAny P .any ops Q' fuel (listed.setIfInBounds i true) (a.put oi.dst u) w'
     exact behind _ w' hd' h4
   ·have hin:∀ q j,st[q]? = some j->j≠i:=fun q j hj e=>nH (e▸List.mem_of_getElem? hj)
    have fin:∀ a',wpAnyQ P .any ops' C Qf fuel (listed.setIfInBounds i true) a'->wpAny P .any ops Q' fuel (listed.setIfInBounds i true) a' w:=fun a' h' =>
     ih _ a' w k hs' fC hk (fun q j rU lz=>uq (h1 q j rU lz)) (fun q j rU lz=>by
      cases hj:(listed.setIfInBounds i true).getD j false with
      | false=>rfl
      | true =>
       rcases CH hj with e | hj
       ·exact absurd e (hin q j lz)
       ·rw [h2 q j rU lz] at hj;cases hj) hd h'
    unfold qOp at hq
    rw [Ga i nH,jb] at hq
    simp only [zg eG] at hq
    unfold wpOp
    rw [jb]
    simp only
    split
    ·rename_i jW
     rw [if_pos jW] at hq
     obtain ⟨v,lQ,ij⟩:=hq
     refine .inl ?_
     have h3:=lQ w (hCD k w hk hd)
     have hne:=hpure i oi nH jb a w
     unfold Oper.quietAt at h3
     unfold Oper.wp
     generalize (execOp a.eval oi).run P w=r at *
     cases r with
     | ok n w' =>
      cases n<;>simp only [Oper.quietUpon] at h3<;>simp only [Oper.upon]
      case value u =>
       obtain ⟨e1,e2⟩:=h3
       rw [e1,e2]
       exact fin _ ij
      case skip =>
       obtain ⟨e1,e2⟩:=h3
       rw [e1,<-e2]
       exact fin _ ij
      case enter f args=>exact absurd rfl (hne f args w')
     | halt x w'=>simp only [Oper.quietUpon] at h3
    ·rename_i jW
     rw [if_neg jW] at hq
     exact fin _ hq
end
end Go.Sx
namespace Go.Sx
open Go.RowKit
section
variable {P:Program} {I:World->Prop} {S:bN} {F:aC} {E:Env} {gK:Nat} {O:Nat->DV}
theorem Od {α ι:Type} {x:M α} {Q:ι->α->Prop} (h:∀ i,M.sat F O x (Q i)):M.sat F O x (fun a=>∀ i,Q i a) :=
 fun n a n' e d h1 h2 h3 i=>h i n a n' e d h1 h2 h3
def RS.jA (r:RS) (hp:List (Option ag)):RS:=⟨⟨r.st.sl,hp⟩,r.gl⟩
theorem Oe (r:RS) (hp:List (Option ag)) (ctx:Ctx) (x:Operand):rd (r.jA hp) ctx x=rd r ctx x:=by cases x<;>rfl
theorem aJ.jA {U:Nat->Loc} {r:RS} {a:Act} (h:aJ O U r a) (hp:List (Option ag)):aJ O U (r.jA hp) a:=⟨h.defers,h.size,h.slot,h.gl⟩
def AQ (fx:List Nat) (pP hp:List (Option ag)):Prop:=∀ b,cJ b fx=false->nth hp b=nth pP b
theorem Ji {α β:Type} {o:Option α} {f g:α->M β} (h:∀ a,o=some a->f a=g a):(M.lift o >>= f)=(M.lift o >>= g):=by
 cases o with
 | none=>rfl
 | some a =>
  have:=h a rfl
  change M.bind (M.lift (some a)) f=M.bind (M.lift (some a)) g
  unfold M.bind M.lift
  simp only [this]
  rfl
def Of:Op->Bool
 | .indexAddr _ _ _ | .call _=>false
 | _=>true
theorem zfD (r:RS) (hp:List (Option ag)) (ctx:Ctx):∀ l,yH (r.jA hp) ctx l=yH r ctx l
 | []=>rfl
 | x::l=>by simp only [yH,Oe,zfD r hp ctx l]
theorem zpu {fx:List Nat} {r:RS} {hp:List (Option ag)} (lR:AQ fx r.st.hp hp) {ctx:Ctx} {op:Op} (h:kN op=true) (h2:Of op=true) (hq:Nc fx r ctx op=true):iV P S (r.jA hp) ctx op=iV P S r ctx op:=by
 cases op<;>simp only [kN] at h<;>simp only [Of] at h2<;>first | (simp only [iV,Oe,zfD,M8];done) | contradiction | skip
 case convert sT dT x =>
  simp only [iV,Oe]
  refine Ji fun v hv=>?_
  split
  ·rename_i b
   simp only [Nc,hv,Bool.not_eq_true'] at hq
   have CL:=lR b hq
   have:rj hp b=rj r.st.hp b:=by unfold rj;rw [CL]
   show (do pure (.val (<-HV P hp sT dT b)):M OR)=_
   unfold HV
   rw [this]
  ·rfl
  ·rfl
 rename_i t x
 simp only [iV,Oe]
 refine Ji fun v hv=>?_
 split
 ·rename_i b off
  simp only [Nc,hv,Bool.and_eq_true,Bool.not_eq_true'] at hq
  obtain ⟨hb,hfl⟩:=hq
  have CL:=lR b hb
  show (do let k <-M.lift (tk P t);let sz <-M.lift (hM P t);match <-M.lift (nth hp b) with | .c _ cs=>pure (.val (.s (<-Fj cs off (oC k) sz))) | .v _ ts a=>if ts.all LT.flat then (do pure (.val (.s (<-B4 ts a off (oC k) sz)))) else if bH hp then (do let q <-M9 ts a off (oC k) sz hp;pure (.hp (some (.s q.1)) q.2)) else M.fail | .l _ _ ts a=>if ts.all LT.flat then (do pure (.val (.s (<-B4 ts a off (oC k) sz)))) else M.fail | .obj _ _ _=>M.fail | .m _ _ _ _=>M.fail:M OR)=_
  rw [CL]
  refine Ji fun k _=>Ji fun sz _=>Ji fun bk cY=>?_
  cases bk with
  | c o cs=>rfl
  | v o ts a =>
   rw [cY] at hfl
   have hfl:ts.all LT.flat=true:=hfl
   simp only [hfl,if_true]
  | obj o k a=>rfl
  | l o f ts a=>rfl
  | m=>rfl
 ·rfl
 ·rfl
def Hyp (E:Env) (O:Nat->DV) (N:Nat) (hp:List (Option ag)) (U:Nat->Loc):Prop:=(∃ w0,HS E O U hp w0)/\(U hp.length).aj=N/\(U hp.length).off=0
theorem TG (hS:bg P I gK S F) (hE:E.Ok gK) {N:Nat} {fx:List Nat} {r:RS} {ctx:Ctx} {o:Oper} (hp:kN o.op=true):M.sat F O (Ie P S fx r ctx o.op) (fun res=>∀ hp':List (Option ag),AQ fx r.st.hp hp'->∀ U a,Hyp E O N r.st.hp U->aJ O U r a->oa ctx a ->
  cT P I E O U hp' (execOp a.eval o) res):=by
 unfold Ie
 refine aY (fun hq=>?_) (fun _=>aE)
 cases j9:Of o.op with
 | true =>
  refine Od fun hp' n a n' e d h1 h2 h3 lR=>?_
  have:=CC (E:=E) (F:=F) (O:=O) hS hE (r:=r.jA hp') (ctx:=ctx) (o:=o)
  rw [zpu lR hp j9 hq] at this
  exact fun U a' _ ha hc=>this n a n' e d h1 h2 h3 U a' (ha.jA hp') hc
 | false =>
  cases hop:o.op<;>rw [hop] at j9 hp<;>simp only [Of] at j9<;>first | cases j9 | skip
  ·rename_i t x ix
   simp only [iV]
   refine bh fun v hv=>?_
   refine bh fun u hu=>?_
   split
   ·rename_i b i
    refine ak (zfA (E:=E)) fun z hz=>au fun hp' _ U a ⟨⟨w0,hw0⟩,_⟩ ha hc w hw _=>?_
    have h1:=dA ha hc hv
    have h2:=dA ha hc hu
    refine ⟨V1.ah.2 hz.1,.inl ?_⟩
    have:=hz.2 U w0 w hw0
    simp only [V.aa,V1.aa] at h1 h2 ⊢
    simp only [Lf.aa] at h1
    simp [execOp,hop,h1.2,h2.2,this]
   ·rename_i l i _
    by_cases hg:l.good O
    ·refine ak (zeK hg) fun z hz=>au fun hp' _ U a _ ha hc=>?_
     have h1:=dA ha hc hv
     have h2:=dA ha hc hu
     refine cT.now (V1.ah.2 hz.1) fun w _=>?_
     have:=hz.2 U w
     simp only [V.aa,V1.aa] at h1 h2 ⊢
     simp [execOp,hop,h1.2,h2.2,this]
    ·refine ak gU fun z _=>au fun hp' _ U a _ ha hc=>?_
     exact absurd (V1.ah.1 (dA ha hc hv).1) hg
   ·exact aE
  ·rename_i c
   simp only [kN] at hp
   split at hp
   ·rename_i hf
    simp only [iV,hf]
    refine bh fun vs hvs=>?_
    have hargs:∀ U a,aJ O U r a->oa ctx a->c.args.map a.eval=(vs.map (V.aa O U)).toArray:=fun U a ha hc=>by
     apply Array.ext'
     simpa using zc ha hc hvs
    split
    ·rename_i he;cases he
    ·rename_i he;cases he
    ·rename_i v _
     refine bh fun t ht=>?_
     refine ak (znQ (E:=E)) fun z hz=>au fun hp' _ U a ⟨⟨w0,hw0⟩,_⟩ ha hc w hw _=>⟨hz.1,.inl ?_⟩
     have:=hz.2 U w0 w o.type c.argTypes ht hw0
     simp [execOp,hop,resolve,hf,hargs U a ha hc,invoke,builtin,this]
    ·rename_i he;cases he
    ·exact aE
   ·cases hp
def TH (P:Program) (O:Nat->DV) (E:Env) (N:Nat) (fx:List Nat) (ops:Array Oper) (o:Oper) (r r':RS):Prop :=
 r'.st.hp=r.st.hp/\∀ U a,Hyp E O N r.st.hp U->aJ O U r a->∀ C:World->Prop,(∀ w,C w->∃ hp,HS E O U hp w/\AQ fx r.st.hp hp)->(∀ w w',C w->Below w.heap.size w w'->C w')->(∃ w,C w) ->
  if Region.wanted o (yielded ops a.tmps)=true then ∃ v,(∀ w,C w->o.quietAt P a C w v)/\aJ O U r' (a.put o.dst v) else aJ O U r' (a.put o.dst undef)
theorem zjG {o:Oper} {a:Act} {v:Value} {C:World->Prop} (hB:∀ w w',C w->Below w.heap.size w w'->C w')
  (h:∀ w,C w->NF P (execOp a.eval o) w v):∀ w,C w->o.quietAt P a C w v:=by
 intro w hw
 unfold Oper.quietAt
 rcases h w hw with h | ⟨f,args,h,hc⟩
 ·rw [h];exact ⟨rfl,rfl⟩
 ·rw [h]
  exact ⟨rfl,hc.mono fun e w'' ⟨he,hb⟩=>⟨he,hB w w'' hw hb⟩⟩
theorem zlo (hI:∀ w,Fr E.W E.w0 w->I w) {N:Nat} {fx:List Nat} {ops:Array Oper} {o:Oper} {r:RS} {x:OR} (hw:∀ U a,aJ O U r a->Region.wanted o (yielded ops a.tmps)=true)
  (hx:∀ hp',AQ fx r.st.hp hp'->∀ U a,Hyp E O N r.st.hp U->aJ O U r a->cT P I E O U hp' (execOp a.eval o) x):M.sat F O (vO true r o.dst x) (TH P O E N fx ops o r):=by
 cases x with
 | val v =>
  refine cH ry fun r' hr'=>⟨hr'.1,fun U a pU ha C hC hB hex=>?_⟩
  rw [if_pos (hw U a ha)]
  refine ⟨v.aa O U,zjG hB fun w hw1=>?_,hr'.2 U a _ ha fun v' qx=>?_⟩
  ·obtain ⟨hp,hh,lR⟩:=hC w hw1
   exact (hx hp lR U a pU ha w hh (hI w hh.fr)).2
  ·obtain ⟨w,hw1⟩:=hex
   obtain ⟨hp,hh,lR⟩:=hC w hw1
   cases qx;exact ⟨(hx hp lR U a pU ha w hh (hI w hh.fr)).1,rfl⟩
 | hp v hp'=>unfold vO;simp only [Bool.not_true,Bool.false_and,Bool.false_eq_true,if_false];exact aE
theorem zpv (hI:∀ w,Fr E.W E.w0 w->I w) {N:Nat} {fx:List Nat} {ops:Array Oper} {o:Oper} {r:RS} {d:Nat} {want:Bool} {x:OR} (hw:∀ (a:Act),Region.wanted o (yielded ops a.tmps)=true↔a.tmps[d]? = some (.bool want))
  (hx:∀ hp',AQ fx r.st.hp hp'->∀ U a,Hyp E O N r.st.hp U->aJ O U r a->a.tmps[d]? = some (.bool want)->cT P I E O U hp' (execOp a.eval o) x):M.sat F O (Nb r o.dst d want x) (TH P O E N fx ops o r):=by
 cases x with
 | val v =>
  refine cH N7 fun r' hr'=>⟨hr'.1,fun U a pU ha C hC hB hex=>?_⟩
  by_cases hg:Region.wanted o (yielded ops a.tmps)=true
  ·rw [if_pos hg]
   have hd:=(hw a).1 hg
   refine ⟨v.aa O U,zjG hB fun w hw1=>?_,hr'.2 U a _ ha (fun _=>?_) (fun hn=>absurd hd hn)⟩
   ·obtain ⟨hp,hh,lR⟩:=hC w hw1
    exact (hx hp lR U a pU ha hd w hh (hI w hh.fr)).2
   ·obtain ⟨w,hw1⟩:=hex
    obtain ⟨hp,hh,lR⟩:=hC w hw1
    exact ⟨(hx hp lR U a pU ha hd w hh (hI w hh.fr)).1,rfl⟩
  ·rw [if_neg hg]
   have hd:a.tmps[d]?≠some (.bool want):=fun h=>hg ((hw a).2 h)
   exact hr'.2 U a _ ha (fun h=>absurd h hd) (fun _=>rfl)
 | hp v hp'=>exact aE
theorem ztb {N:Nat} {o:Oper} (h:kN o.op=true):bE N o=o:=by
 unfold bE
 have h1:rN o.op=false:=by cases hop:o.op<;>rw [hop] at h<;>simp [kN,rN] at h ⊢
 have h2:aO o.op=false:=by cases hop:o.op<;>rw [hop] at h<;>simp [kN,aO] at h ⊢
 simp [h1,h2]
theorem zrT (hS:bg P I gK S F) (hE:E.Ok gK) (hI:∀ w,Fr E.W E.w0 w->I w) {N:Nat} {fx:List Nat} {ops ops':Array Oper} (eG:∀ j:Nat,(ops[j]?).bind (·.dst)=(ops'[j]?).bind (·.dst)) {r:RS} {o:Oper} (hp:kN o.op=true\/aO o.op=true) :
  M.sat F O (Ru P S fx ops.toList r o) (TH P O E N fx ops' (bE N o) r):=by
 unfold Ru
 refine aY (fun gY=>aY (fun hg=>?_) (fun _=>aE)) (fun gY=>?_)
 ·have hg:o.guard=none:=by simpa using hg
  refine cH ry fun r' hr'=>⟨hr'.1,fun U a pU ha C hC hB hex=>?_⟩
  have hst:rN o.op=false:=by cases hop:o.op<;>rw [hop] at gY<;>simp [rN,aO] at gY ⊢
  have e1:bE N o = { o with op:=.move (.const (.pointer (some ⟨N,0,none⟩))) }:=by unfold bE;simp [hst,gY]
  rw [if_pos (by rw [e1];simp [Region.wanted,hg])]
  rw [e1]
  refine ⟨.pointer (some ⟨N,0,none⟩),fun w hw=>?_,hr'.2 U a _ ha fun v hv=>?_⟩
  ·unfold Oper.quietAt
   simp [execOp,Act.eval,Oper.quietUpon]
  ·cases hv
   refine ⟨V1.ah.2 trivial,?_⟩
   simp [V.aa,V1.aa,Lf.aa,pU.2.1,pU.2.2,bV.val]
 have hp:kN o.op=true:=by
  rcases hp with h | h
  ·exact h
  ·exact absurd h gY
 rw [ztb hp]
 split
 ·rename_i hg
  refine ak (TG (E:=E) hS hE hp) fun x hx=>zlo hI (fun U a _=>by simp [Region.wanted,hg]) fun hp' lR U a pU ha=>hx hp' lR U a pU ha (fun p hp=>by simp at hp)
 ·rename_i j want hg
  refine ak (lg (Q:=fun d=>(ops'[j]?).bind (·.dst)=some d) fun a h=>by rw [<-eG j];simpa using h) fun d hd=>?_
  refine bh fun res hres=>?_
  have ja:∀ (a:Act),Region.wanted o (yielded ops' a.tmps)=true↔a.tmps[d]? = some (.bool want):=fun a=>Tw hg hd
  split
  ·refine cH ry fun r' hr'=>⟨hr'.1,fun U a _ ha C _ _ _=>?_⟩
   have hn:a.tmps[d]?≠some (.bool want):=rz ha 8 d want hres
   rw [if_neg (fun h=>hn ((ja a).1 h))]
   exact hr'.2 U a _ ha (fun v hv=>by cases hv;exact ⟨V.cg.2 (V1.ah.2 trivial),rfl⟩)
  ·rename_i ctx cs
   split
   ·refine ak (TG (E:=E) hS hE hp) fun x hx=>zlo hI (fun U a ha=>?_) fun hp' lR U a pU ha=>hx hp' lR U a pU ha (fun p hp=>by simp at hp)
    have:=rz ha 8 d want hres
    exact (ja a).2 (this.2.1 rfl)
   ·refine ak (R3 (TG (E:=E) (N:=N) hS hE hp (ctx:=ctx))) fun x hx=>?_
    have hO:∀ hp',AQ fx r.st.hp hp'->∀ U a,Hyp E O N r.st.hp U->aJ O U r a->a.tmps[d]? = some (.bool want)->cT P I E O U hp' (execOp a.eval o) x:=fun hp' lR U a pU ha hd'=>by
     have:=(rz ha 8 d want hres).1 hd'
     exact hx this.2 hp' lR U a pU ha this.1
    cases x with
    | val v=>exact zpv hI ja hO
    | hp v hp'=>exact aE
theorem zjH (hS:bg P I gK S F) (hE:E.Ok gK) (hI:∀ w,Fr E.W E.w0 w->I w) {N:Nat} {fx:List Nat} {ops ops':Array Oper} (eG:∀ j:Nat,(ops[j]?).bind (·.dst)=(ops'[j]?).bind (·.dst)):∀ (l:List Oper) (r:RS),(∀ o∈l,kN o.op=true\/aO o.op=true)->M.sat F O (Ig P S fx ops.toList l r) (fun r' =>
  ∀ U a,Hyp E O N r.st.hp U->aJ O U r a->∀ C:World->Prop,(∀ w,C w->∃ hp,HS E O U hp w/\AQ fx r.st.hp hp)->(∀ w w',C w->Below w.heap.size w w'->C w')->(∃ w,C w)->wpQuiet P ops' C (fun a'=>aJ O U r' a') (l.map (bE N)) a)
 | [],r,_=>au fun U a _ h _ _ _ _=>h
 | o::l,r,hl=>by
  unfold Ig
  refine ak (zrT (E:=E) (N:=N) (ops:=ops) hS hE hI eG (hl o (by simp))) fun r1 h1=>cH (zjH (N:=N) hS hE hI eG l r1 (fun o ho=>hl o (List.mem_cons_of_mem _ ho))) fun r' h2=>?_
  intro U a pU ha C hC hB hex
  obtain ⟨wz,h1⟩:=h1
  rw [wz] at h2
  have:=h1 U a pU ha C hC hB hex
  simp only [List.map_cons,wpQuiet]
  split
  ·rename_i hw
   rw [if_pos hw] at this
   obtain ⟨v,h3,h4⟩:=this
   exact ⟨v,h3,h2 U _ pU h4 C hC hB hex⟩
  ·rename_i hw
   rw [if_neg hw] at this
   exact h2 U _ pU this C hC hB hex
def NE (P:Program) (m:Sem Next):Prop:=∀ (w:World) (g:FuncId) (args:Array Value) (w':World),m.run P w≠.ok (.enter g args) w'
theorem NE.bind {α:Type} {m:Sem α} {f:α->Sem Next} (h:∀ x,NE P (f x)):NE P (m >>= f):=by
 intro w g args w'
 rw [Sem.run_bind]
 cases m.run P w with
 | halt x w1=>intro h;cases h
 | ok x w1=>exact h x w1 g args w'
theorem NE.value (v:Value):NE P (pure (.value v)):=fun w g args w' h=>by cases h
theorem NE.ite {c:Prop} [Decidable c] {x y:Sem Next} (hx:NE P x) (hy:NE P y):NE P (if c then x else y):=by split<;>assumption
theorem NE.panic:NE P (runtimePanic .nilDeref):=fun w g args w' h=>by simp [runtimePanic,goPanic] at h
theorem Og {o:Oper} (h:kN o.op=true) (a:Act) (w:World) (f:FuncId) (args:Array Value) (w':World):(execOp a.eval o).run P w≠.ok (.enter f args) w':=by
 have key:NE P (execOp a.eval o):=by
  cases hop:o.op<;>rw [hop] at h<;>simp only [kN] at h<;>simp only [execOp,hop]<;>first | exact NE.value _ | exact NE.bind fun x=>NE.value _ | cases h | skip
  ·split<;>first | exact NE.panic | exact NE.value _ | skip
   split<;>first | exact NE.panic | exact NE.value _ | skip
   exact NE.bind fun x=>NE.bind fun y=>NE.ite (NE.bind fun z=>NE.value _) (NE.value _)
  ·rename_i c
   split at h
   ·rename_i hf
    intro w g args w'
    rw [Sem.run_bind]
    simp only [resolve,hf,Sem.run_pure,Result.andThen_ok,invoke,builtin]
    exact (NE.bind fun x=>NE.value _:NE P _) w g args w'
   ·cases h
 exact key w f args w'
theorem TI (N:Nat) (o:Oper):bE N o=o\/∃ op,bE N o = { o with op:=op }:=by
 unfold bE
 split
 ·exact .inr ⟨_,rfl⟩
 ·split
  ·exact .inr ⟨_,rfl⟩
  ·exact .inl rfl
theorem TJ (N:Nat) (o:Oper):(bE N o).after=o.after:=by
 rcases TI N o with h | ⟨op,h⟩<;>rw [h]
theorem AR (N:Nat) (o:Oper):(bE N o).dst=o.dst:=by
 rcases TI N o with h | ⟨op,h⟩<;>rw [h]
theorem TL (N:Nat) (o:Oper):(bE N o).guard=o.guard:=by
 rcases TI N o with h | ⟨op,h⟩<;>rw [h]
theorem zwD (o:Oper):(qd o).dst=o.dst:=by unfold qd;split<;>rfl
theorem ztc {N:Nat} {o:Oper} (h:l_ o.op=false):bE N o=o:=by
 unfold l_ at h
 rw [Bool.or_eq_false_iff] at h
 unfold bE
 simp [h.1,h.2]
theorem ztd {o:Oper} (h:kN o.op=true\/l_ o.op=true):kN (qd o).op=true\/aO (qd o).op=true:=by
 unfold qd
 split
 ·exact .inl rfl
 ·rename_i hs
  rcases h with h | h
  ·exact .inl h
  ·unfold l_ at h
   rw [Bool.or_eq_true] at h
   rcases h with h | h
   ·exact absurd h hs
   ·exact .inr h
theorem zu4 (N:Nat) (o:Oper):bE N (qd o)=bE N o:=by
 unfold qd
 split
 ·rename_i hs
  have e:bE N o = { o with op:=.move (.const (.bool false)) }:=by unfold bE;rw [if_pos hs]
  rw [e]
  rfl
 ·rfl
theorem zlp (N:Nat) {wA wB:Array Oper} (h:∀ j:Nat,(wA[j]?).bind (·.dst)=(wB[j]?).bind (·.dst)) (o:Oper):(bE N o).looksAt wA=(bE 0 o).looksAt wB:=by
 unfold Oper.looksAt
 rw [TL,TL]
 congr 1
 ·unfold bE
  repeat' split
  all_goals rfl
 ·cases o.guard with
  | none=>rfl
  | some p=>simp only [h p.1]
theorem zrU (N:Nat) {wA wB:Array Oper} (h:∀ j:Nat,(wA[j]?).bind (·.dst)=(wB[j]?).bind (·.dst)) (x y:Oper):(bE N x).apart wA (bE N y)=(bE 0 x).apart wB (bE 0 y):=by
 unfold Oper.apart
 rw [AR,AR,AR,AR,zlp N h,zlp N h]
theorem zte (N:Nat) (l:List Oper):Region.lexB .any (l.map (bE N)).toArray=Region.lexB .any (l.map (bE 0)).toArray:=by
 have cA:∀ (M j:Nat),((l.map (bE M)).toArray)[j]? = (l[j]?).map (bE M):=fun M j=>by simp
 have hd:∀ j:Nat,(((l.map (bE N)).toArray)[j]?).bind (·.dst)=(((l.map (bE 0)).toArray)[j]?).bind (·.dst):=fun j=>by
  rw [cA,cA]
  cases l[j]? with
  | none=>rfl
  | some o=>simp [AR]
 have cu:∀ listed,Region.ready .any (l.map (bE N)).toArray listed=Region.ready .any (l.map (bE 0)).toArray listed:=fun listed=>by
  unfold Region.ready
  rw [show (l.map (bE N)).toArray.size=(l.map (bE 0)).toArray.size from by simp]
  refine List.filter_congr fun j _=>?_
  rw [cA,cA]
  cases l[j]? with
  | none=>rfl
  | some o=>simp only [Option.map_some,TJ]
 have hfree:∀ listed i,Region.free .any (l.map (bE N)).toArray listed i=Region.free .any (l.map (bE 0)).toArray listed i:=fun listed i=>by
  unfold Region.free
  rw [cA,cA]
  cases l[i]? with
  | none=>rfl
  | some oi =>
   simp only [Option.map_some]
   rw [show (l.map (bE N)).toArray.size=(l.map (bE 0)).toArray.size from by simp]
   congr 1
   funext j
   rw [cA,cA]
   cases l[j]? with
   | none=>rfl
   | some oj=>simp only [Option.map_some,TJ,zrU N hd]
 have oR:∀ (fuel k:Nat) (listed:Array Bool),Region.lexFrom .any (l.map (bE N)).toArray fuel k listed=Region.lexFrom .any (l.map (bE 0)).toArray fuel k listed:=by
  intro fuel
  induction fuel with
  | zero=>intro k listed;simp only [Region.lexFrom,cu]
  | succ fuel ih=>intro k listed;simp only [Region.lexFrom,cu,hfree,ih]
 unfold Region.lexB
 rw [oR,show (l.map (bE N)).toArray.size=(l.map (bE 0)).toArray.size from by simp]
 congr 1
 unfold Region.noSelect
 simp only [List.all_toArray,List.all_map]
 congr 1
 funext o
 simp only [Function.comp]
 have key:bE N o=bE 0 o\/∃ x y,(bE N o).op = .move x/\(bE 0 o).op = .move y:=by
  by_cases h1:rN o.op=true
  ·left
   unfold bE
   rw [if_pos h1,if_pos h1]
  ·by_cases h2:aO o.op=true
   ·right
    unfold bE
    rw [if_neg h1,if_pos h2,if_neg h1,if_pos h2]
    exact ⟨_,_,rfl,rfl⟩
   ·left
    unfold bE
    rw [if_neg h1,if_neg h2,if_neg h1,if_neg h2]
 rcases key with h | ⟨x,y,h1,h2⟩
 ·rw [h]
 ·rw [h1,h2]
theorem zlq {b j:Nat} {fx:List Nat} (hb:cJ b fx=true) (hj:cJ j fx=false):j≠b:=fun e=>by subst e;rw [hb] at hj;cases hj
theorem TM {fx:List Nat} (sl:List (Option V)) (gl:List GE):∀ (l:List Oper) (hp:List (Option ag)),M.sat F O (Ih P S fx sl gl l hp) (fun hp'=>∃ hps:Nat->List (Option ag),hps 0=hp/\hps l.length=hp'/\(∀ k,k<=l.length->AQ fx hp (hps k)) /\
  (∀ o t,l[0]? = some o->o.op = .alloc t->bH hp=true/\∀ U w,HS E O U hp w->∀ a:Act,∃ w',(execOp a.eval o).run P w = .ok (.value (.pointer (some ⟨w.heap.size,0,none⟩))) w'/\HS E O (ext U hp.length ⟨w.heap.size,0,false,0,0,none⟩) (hps 1) w') /\
  ∀ k o,l[k]? = some o->rN o.op=true->∀ U a,aJ O U ⟨⟨sl,[]⟩,gl⟩ a->∀ w,HS E O U (hps k) w->∃ w',(execOp a.eval o).run P w = .ok .skip w'/\HS E O U (hps (k+1)) w')
 | [],hp=>au ⟨fun _=>hp,rfl,rfl,fun _ _ _ _=>rfl,fun o t h=>by simp at h,fun k o h=>by simp at h⟩
 | o::l,hp=>by
  unfold Ih
  split
  ·rename_i t x y hop
   refine bh fun v hv=>?_
   split
   ·rename_i b off
    refine aY (fun hb=>?_) (fun _=>aE)
    refine ak (zwz (zjB (E:=E) hop) (zrR hv)) fun c6 h1=>cH (TM sl gl l c6) fun hp' ⟨hps,e1,e2,e4,_,e3⟩=>?_
    refine ⟨fun k=>match k with | 0=>hp | k+1=>hps k,rfl,e2,fun k hk j hj=>?_,fun o' t' ho' wC=>(by simp at ho';subst ho';rw [hop] at wC;cases wC),fun k o' hk hst U a ha w hw=>?_⟩
    ·cases k with
     | zero=>rfl
     | succ k =>
      have:=e4 k (by simpa using hk) j hj
      simp only
      rw [this]
      exact h1.2 j (zlq hb hj)
    ·cases k with
     | zero =>
      simp at hk;subst hk
      obtain ⟨w',g1,g2⟩:=h1.1 U a ⟨ha.defers,ha.size,ha.slot,ha.gl⟩ (fun p hp=>by simp at hp) w hw
      exact ⟨w',g1,by simp only;rw [e1];exact g2⟩
     | succ k=>exact e3 k o' (by simpa using hk) hst U a ha w hw
   ·exact aE
  ·rename_i t hop
   refine bh fun z hz=>?_
   refine aY (fun hc=>?_) (fun _=>aE)
   simp only [Bool.and_eq_true] at hc
   obtain ⟨⟨⟨hb,_⟩,hlt⟩,hzl⟩:=hc
   refine cH (TM sl gl l _) fun hp' ⟨hps,e1,e2,e4,e5,e3⟩=>?_
   refine ⟨fun k=>match k with | 0=>hp | k+1=>hps k,rfl,e2,fun k hk j hj=>?_,fun o' t' ho' wC=>?_,fun k o' hk hst U a ha w hw=>?_⟩
   ·cases k with
    | zero=>rfl
    | succ k =>
     have:=e4 k (by simpa using hk) j hj
     simp only
     rw [this,oI]
     have hne:=zlq hb hj
     split
     ·rfl
     ·rename_i hjl
      have:j-hp.length≠0:=by omega
      cases hk2:j-hp.length with
      | zero=>omega
      | succ m =>
       have:nth hp j=none:=by
        cases hn:nth hp j with
        | none=>rfl
        | some x=>exact absurd (iW hn) hjl
       rw [this]
       cases m<;>rfl
   ·simp at ho'
    subst ho'
    rw [hop] at wC
    cases wC
    refine ⟨hlt,fun U w hw a=>?_⟩
    obtain ⟨i,zv,hi,vi,Cx,rW⟩:=Cu (O:=O) hz
    have hnew:=hw.new hlt hzl Cx t
    rw [<-rW U] at hnew
    refine ⟨w.alloc (.cells zv.cells t),?_,by simp only;rw [e1];exact hnew⟩
    simp [execOp,hop,Instr.alloc,zeroValue,typeInfo,hi,vi,newVar,newRow]
   ·cases k with
    | zero=>simp at hk;subst hk;rw [hop] at hst;cases hst
    | succ k=>exact e3 k o' (by simpa using hk) hst U a ha w hw
  ·exact aE
theorem Oh (ops:List Oper):∀ i,i∈storeAt ops↔∃ o,ops[i]? = some o/\l_ o.op=true:=by
 intro i
 unfold storeAt
 rw [List.mem_map]
 constructor
 ·rintro ⟨⟨o,j⟩,h,rfl⟩
  obtain ⟨h1,h2⟩:=List.mem_filter.1 h
  exact ⟨o,(List.mem_zipIdx_iff_getElem?.1 h1),h2⟩
 ·rintro ⟨o,h1,h2⟩
  exact ⟨(o,i),List.mem_filter.2 ⟨List.mem_zipIdx_iff_getElem?.2 h1,h2⟩,rfl⟩
theorem Oi:∀ (ops:List Oper) (n:Nat),((ops.zipIdx n).filter fun p=>l_ p.1.op).map (·.1)=ops.filter fun o=>l_ o.op
 | [],_=>rfl
 | o::l,n=>by
  rw [List.zipIdx_cons,List.filter_cons,List.filter_cons]
  split
  ·rw [List.map_cons,Oi l (n+1)]
  ·exact Oi l (n+1)
theorem ztf (ops:List Oper) (k i:Nat) (h:(storeAt ops)[k]? = some i):∃ o,ops[i]? = some o/\(ops.filter fun o=>l_ o.op)[k]? = some o:=by
 unfold storeAt at h
 rw [List.getElem?_map] at h
 obtain ⟨⟨o,j⟩,h1,rfl⟩:=Option.map_eq_some_iff.1 h
 refine ⟨o,?_,?_⟩
 ·have:=(List.mem_filter.1 (List.mem_of_getElem? h1)).1
  exact List.mem_zipIdx_iff_getElem?.1 this
 ·have:=Oi ops 0
  rw [<-this,List.getElem?_map,h1]
  rfl
theorem TN:∀ {l:List Nat},Nf l=true->∀ p q i j:Nat,p<q->l[p]? = some i->l[q]? = some j->i<j
 | [],_,p,q,i,j,_,hi,_=>by simp at hi
 | [a],_,p,q,i,j,hpq,hi,hj=>by
  have:q<1:=by
   rcases Nat.lt_or_ge q 1 with h | h
   ·exact h
   ·rw [List.getElem?_eq_none (by simpa using h)] at hj;cases hj
  omega
 | a::b::l,h,p,q,i,j,hpq,hi,hj=>by
  simp only [Nf,Bool.and_eq_true] at h
  have h1:a<b:=by simpa [Nat.blt_eq] using h.1
  cases q with
  | zero=>omega
  | succ q =>
   simp only [List.getElem?_cons_succ] at hj
   cases p with
   | succ p=>exact TN h.2 p q i j (by omega) (by simpa using hi) hj
   | zero =>
    simp at hi;subst hi
    cases q with
    | zero=>simp at hj;subst hj;exact h1
    | succ q=>exact Nat.lt_trans h1 (TN h.2 0 (q+1) b j (by omega) rfl hj)
theorem zoe {l m:List Nat} (h:yM l m=true):∀ x∈l,x∈m:=fun x hx=>pT (List.all_eq_true.1 h x hx)
theorem CM {n:Nat} : ∀ {l:List Nat},n∈l->cJ n l=true
 | x::l,h=>by
  rcases List.mem_cons.1 h with rfl | h
  ·simp [cJ]
  ·simp [cJ,CM h]
theorem gM {ops:List Oper} (h:xD ops=true):nG .any ops.toArray:=by
 intro i o ho
 have ho':ops[i]? = some o:=by simpa using ho
 have hm:(o,i)∈ops.zipIdx:=by
  rw [List.mem_zipIdx_iff_getElem?]
  exact ho'
 have:=List.all_eq_true.1 h _ hm
 simp only [Bool.and_eq_true] at this
 refine ⟨fun e he hbd=>?_,fun j b hg=>?_⟩
 ·have h1:=this.1
  have:=Array.all_eq_true_iff_forall_mem.1 h1 e he
  simpa [Nat.blt_eq,hbd] using this
 ·have h2:=this.2
  rw [hg] at h2
  simpa [Nat.blt_eq] using h2
theorem Jj {a a':Act} {x:Operand} (h:∀ t∈Am x,a'.tmps[t]? = a.tmps[t]?):a.eval x=a'.eval x:=by
 cases x with
 | tmp t=>simp only [Act.eval,Array.getD_eq_getD_getElem?];rw [h t (by simp [Am])]
 | _=>rfl
theorem zmw (hS:bg P I gK S F) (hE:E.Ok gK) (hI:∀ w,Fr E.W E.w0 w->I w) {fx:List Nat} {ops:Array Oper} {s:St} (hm:Ng ops.toList=true) (hB:Region.lexB .any (ops.toList.map (bE 0)).toArray=true) (ec:xD ops.toList=true) :
  M.sat F O (Rv P S fx ops.toList s) (fun s'=>∀ U a w,RR O E U ⟨s,[]⟩ a w->∀ Q:Exit->Act->World->Prop,(∀ U' a' w',RR O E U' ⟨s',[]⟩ a' w'->Q .normal a' w') ->
   wpAny P .any ops Q ops.size (Array.replicate ops.size false) a w):=by
 simp only [Ng,Bool.and_eq_true] at hm
 obtain ⟨⟨⟨CN,zh⟩,jX⟩,CO⟩:=hm
 have hk:∀ o∈ops.toList,kN o.op=true\/(l_ o.op=true/\o.guard=none/\(aO o.op=true\/o.dst=none)):=fun o ho=>by
  have:=List.all_eq_true.1 CN o ho
  simp only [Bool.or_eq_true,Bool.and_eq_true,Option.isNone_iff_eq_none] at this
  rcases this with h | ⟨⟨h1,h2⟩,h3⟩
  ·exact .inl h
  ·exact .inr ⟨h1,h2,h3⟩
 unfold Rv
 refine aY (fun gz=>?_) (fun _=>aE)
 simp only [Bool.and_eq_true] at gz
 have hdd:∀ (N j:Nat),(((ops.toList.map qd).toArray)[j]?).bind (·.dst)=(((ops.toList.map (bE N)).toArray)[j]?).bind (·.dst):=fun N j=>by
  have e1:((ops.toList.map qd).toArray)[j]? = (ops[j]?).map qd:=by simp
  have e2:((ops.toList.map (bE N)).toArray)[j]? = (ops[j]?).map (bE N):=by simp
  rw [e1,e2]
  cases ops[j]? with
  | none=>rfl
  | some o=>simp [zwD,AR]
 have rZ:=Od fun N=>zjH (E:=E) (F:=F) (O:=O) hS hE hI (N:=N) (fx:=fx) (ops:=(ops.toList.map qd).toArray) (ops':=(ops.toList.map (bE N)).toArray) (hdd N) (ops.toList.map qd) ⟨s,[]⟩ (fun o ho=>by
  obtain ⟨o',h1,rfl⟩:=List.mem_map.1 ho
  exact ztd (by rcases hk o' h1 with h | h;exact .inl h;exact .inr h.1))
 simp only at rZ
 refine ak rZ fun r hr=>ak (TM (E:=E) r.st.sl r.gl _ s.hp) fun hp' ⟨hps,e1,e2,e4,e5,e3⟩=>au fun U a w cF Q hQ=>?_
 generalize hN:w.heap.size=N
 have j_:aJ O (ext U s.hp.length ⟨N,0,false,0,0,none⟩) ⟨s,[]⟩ a:=cF.act.ext (fun j hj=>nD hj) gz.1 (by simp) s.hp
 have fJ:HS E O (ext U s.hp.length ⟨N,0,false,0,0,none⟩) s.hp w:=cF.hs.mz gz.2 (fun j hj=>nD hj)
 have b_:ext U s.hp.length ⟨N,0,false,0,0,none⟩ s.hp.length=⟨N,0,false,0,0,none⟩:=uf _ _ _
 have hee:ext (ext U s.hp.length ⟨N,0,false,0,0,none⟩) s.hp.length ⟨N,0,false,0,0,none⟩=ext U s.hp.length ⟨N,0,false,0,0,none⟩:=by
  funext j
  simp only [ext]
  split<;>rfl
 generalize ext U s.hp.length ⟨N,0,false,0,0,none⟩=U1 at *
 have hr:=hr N
 rw [List.map_map,show bE N∘qd=bE N from funext fun o=>zu4 N o] at hr
 have hsz:(ops.toList.map (bE N)).toArray.size=ops.size:=by simp
 have cA:∀ j:Nat,(ops.toList.map (bE N)).toArray[j]? = (ops[j]?).map (bE N):=fun j=>by simp
 have hlen:(storeAt ops.toList).length=(ops.toList.filter fun o=>l_ o.op).length:=by
  have:=congrArg List.length (Oi ops.toList 0)
  simp only [List.length_map] at this
  unfold storeAt
  simpa using this
 have iX:∀ (i:Nat) (o:Oper),ops[i]? = some o->ops.toList[i]? = some o:=fun i o h=>by simpa using h
 have hmem:∀ (i:Nat) (o:Oper),ops[i]? = some o->o∈ops.toList:=fun i o h=>List.mem_of_getElem? (iX i o h)
 have AS:∀ (i:Nat) (o:Oper),i∈storeAt ops.toList->ops[i]? = some o->yM ((storeAt ops.toList).filter fun j=>Nat.blt j i) (jK ops.toList i (ju o))=true /\
   ops.toList.zipIdx.all (yN (jK ops.toList i (ju o)) (Fv o.op))=true:=fun i o hi ho=>by
  have:=List.all_eq_true.1 jX i hi
  unfold Z9 at this
  rw [iX i o ho] at this
  simpa only [Bool.and_eq_true] using this
 refine zpt (ops':=(ops.toList.map (bE N)).toArray) (st:=storeAt ops.toList) (C:=fun w=>∃ k,k<=(ops.toList.filter fun o=>l_ o.op).length/\HS E O U1 (hps k) w) (D:=fun k w=>HS E O U1 (hps k) w/\(k=0->w.heap.size=N)) (Qf:=fun a'=>aJ O U1 r a')
  (by have:=gM ec;simpa using this) (fun listed=>?_) (fun j=>?_) (fun i hi=>?_) (fun i hi=>?_) (fun k w hk h=>⟨k,by rw [<-hlen];exact hk,h.1⟩) (fun i o hi ho=>?_) (fun p q i j hpq hi hj listed ee hrd=>?_) (fun i o hi ho listed ee hrd t ht j o' ho' hd'=>?_)
  (fun k i o o' hki ho ho'=>?_) (fun a1 w1 j_ hw1=>?_) ops.size _ a w 0 (by simp) (fun i o _ hl=>?_) (Nat.zero_le _) (fun p i hp=>by omega) (fun p i _ _=>?_) ⟨by rw [e1];exact fJ,fun _=>hN⟩ ?_
 ·unfold Region.ready
  rw [hsz]
  refine List.filter_congr fun j _=>?_
  rw [cA j]
  cases ops[j]? with
  | none=>rfl
  | some o=>simp only [Option.map_some,TJ]
 ·rw [cA j]
  cases ops[j]? with
  | none=>rfl
  | some o=>simp [AR]
 ·rw [cA i]
  cases ho:ops[i]? with
  | none=>rfl
  | some o =>
   have:l_ o.op=false:=by
    cases h:l_ o.op with
    | false=>rfl
    | true=>exact absurd ((Oh _ i).2 ⟨o,iX i o ho,h⟩) hi
   simp [ztc this]
 ·obtain ⟨o,h1,h2⟩:=(Oh _ i).1 hi
  have xF:ops[i]? = some o:=by simpa using h1
  rcases hk o (List.mem_of_getElem? h1) with h | h
  ·exfalso
   cases hop:o.op<;>rw [hop] at h h2<;>simp [kN,l_,rN,aO] at h h2
  ·exact ⟨o,bE N o,xF,by rw [cA i,xF];rfl,h.2.1,by rw [AR],by rw [TL];exact h.2.1⟩
 ·rcases hk o (hmem i o ho) with h | h
  ·exact fun a w f args w'=>Og h a w f args w'
  ·exact absurd ((Oh _ i).2 ⟨o,iX i o ho,h.1⟩) hi
 ·obtain ⟨o,h1,h2⟩:=(Oh _ j).1 (List.mem_of_getElem? hj)
  have xF:ops[j]? = some o:=by simpa using h1
  have hs:=(AS j o (List.mem_of_getElem? hj) xF).1
  refine xO ee xF hrd i (zoe hs i (List.mem_filter.2 ⟨List.mem_of_getElem? hi,?_⟩))
  have:=TN zh p q i j hpq hi hj
  simpa [Nat.blt_eq] using this
 ·have hs:=(AS i o hi ho).2
  have:=List.all_eq_true.1 hs (o',j) (List.mem_zipIdx_iff_getElem?.2 (iX j o' ho'))
  simp only [yN,hd',Bool.or_eq_true,Bool.not_eq_true'] at this
  rcases this with h | h
  ·rw [CM ht] at h;cases h
  ·exact xO ee ho hrd j (pT h)
 ·obtain ⟨o2,h1,h2⟩:=ztf ops.toList k i hki
  rw [iX i o ho] at h1;cases h1
  rw [cA i,ho] at ho'
  cases ho'
  have CP:l_ o.op=true:=(List.mem_filter.1 (List.mem_of_getElem? h2)).2
  have hkk:=hk o (hmem i o ho)
  cases wD:rN o.op with
  | true =>
   left
   have gY:aO o.op=false:=by cases hop:o.op<;>rw [hop] at wD<;>simp [rN,aO] at wD ⊢
   refine ⟨?_,fun a1 a2 mh lS w1 hw1=>?_⟩
   ·rcases hkk with h | ⟨_,_,h | h⟩
    ·exfalso
     cases hop:o.op<;>rw [hop] at h wD<;>simp [kN,rN] at h wD
    ·rw [gY] at h;cases h
    ·exact h
   obtain ⟨w',g1,g2⟩:=e3 k o h2 wD U1 a2 ⟨mh.defers,mh.size,mh.slot,mh.gl⟩ w1 hw1.1
   refine ⟨w',?_,g2,fun h=>by omega⟩
   rw [<-g1]
   congr 1
   cases hop:o.op<;>rw [hop] at wD<;>simp only [rN] at wD<;>first | cases wD | skip
   rename_i t x y
   rw [hop] at lS
   have hx:a1.eval x=a2.eval x:=Jj fun t ht=>lS t (by simp [Fv,ht])
   have hy:a1.eval y=a2.eval y:=Jj fun t ht=>lS t (by simp [Fv,ht])
   simp only [execOp,hop,hx,hy]
  | false =>
   right
   have gY:aO o.op=true:=by unfold l_ at CP;rw [wD,Bool.false_or] at CP;exact CP
   have gi:k=0:=by
    rcases Nat.eq_zero_or_pos k with h | h
    ·exact h
    ·have h3:((ops.toList.filter fun o=>l_ o.op).drop 1)[k-1]? = some o:=by
      rw [List.getElem?_drop,show 1+(k-1)=k from by omega]
      exact h2
     have:=List.all_eq_true.1 CO o (List.mem_of_getElem? h3)
     rw [wD] at this;cases this
   subst gi
   cases hop:o.op<;>rw [hop] at gY<;>simp only [aO] at gY<;>first | cases gY | skip
   rename_i t
   obtain ⟨_,h5⟩:=e5 o t h2 hop
   refine ⟨.pointer (some ⟨N,0,none⟩),fun a0 w0=>?_,fun a0 w1 hw1=>?_⟩
   ·have en:(bE N o).op = .move (.const (.pointer (some ⟨N,0,none⟩))):=by
     unfold bE
     rw [if_neg (by rw [wD];decide),if_pos (by rw [hop];rfl)]
    simp [execOp,en,Act.eval]
   ·have zi:=hw1.1
    rw [e1] at zi
    obtain ⟨w',g1,g2⟩:=h5 U1 w1 zi a0
    rw [hw1.2 rfl] at g1 g2
    rw [hee] at g2
    exact ⟨w',g1,g2,fun h=>by omega⟩
 ·refine hQ U1 a1 w1 ⟨⟨j_.defers,j_.size,j_.slot,fun e he=>by cases he⟩,?_⟩
  have hw1:=hw1.1
  rw [hlen,e2] at hw1
  exact hw1
 ·have h0:(Array.replicate ops.size false).getD i false=false:=by
   rw [Array.getD_eq_getD_getElem?]
   rcases Nat.lt_or_ge i ops.size with h | h
   ·rw [Array.getElem?_eq_getElem (by simpa using h)];simp
   ·rw [Array.getElem?_eq_none (by simpa using h)];rfl
  rw [h0] at hl;cases hl
 ·rw [Array.getD_eq_getD_getElem?]
  rcases Nat.lt_or_ge i ops.size with h | h
  ·rw [Array.getElem?_eq_getElem (by simpa using h)];simp
  ·rw [Array.getElem?_eq_none (by simpa using h)];rfl
 ·have CQ:=hr U1 a ⟨⟨w,fJ⟩,by rw [b_],by rw [b_]⟩ j_ (fun w=>∃ k,k<=(ops.toList.filter fun o=>l_ o.op).length/\HS E O U1 (hps k) w) (fun w ⟨k,hk,h⟩=>⟨hps k,h,e4 k hk⟩) (fun w w' ⟨k,hk,h⟩ hb=>⟨k,hk,h.bK hb⟩) ⟨w,0,Nat.zero_le _,by rw [e1];exact fJ⟩
  rw [<-zte N] at hB
  simp only [Region.lexB,Bool.and_eq_true] at hB
  have:=wpAnyQ_lex (P:=P) (C:=fun w=>∃ k,k<=(ops.toList.filter fun o=>l_ o.op).length/\HS E O U1 (hps k) w) (md:=.any) hB.1 (ops.toList.map (bE N)) 0 (Array.replicate (ops.toList.map (bE N)).toArray.size false) a (by simp) (by simpa using hB.2) CQ
  simpa using this
theorem zpw (hS:bg P I gK S F) (hE:E.Ok gK) (hI:∀ w,Fr E.W E.w0 w->I w) {ops:Array Oper} {s:St} (hm:Ng ops.toList=true) (hB:Region.lexB .any (ops.toList.map (bE 0)).toArray=true) (ec:xD ops.toList=true) :
  M.sat F O (Rw P S ops.toList s) (fun s'=>∀ U a w,RR O E U ⟨s,[]⟩ a w->∀ Q:Exit->Act->World->Prop,(∀ U' a' w',RR O E U' ⟨s',[]⟩ a' w'->Q .normal a' w') ->
   wpAny P .any ops Q ops.size (Array.replicate ops.size false) a w):=by
 intro n a n' e d h1 h2 h3
 unfold Rw at h1
 exact zmw (E:=E) hS hE hI hm hB ec n a n' e d h1 h2 h3
end
end Go.Sx
namespace Go.Sx
open Go.RowKit
section
variable {P:Program}
theorem zpx {head:Array Oper} {last:Oper} {listed:Array Bool} (hs:listed.size=head.size) (hc:nh head listed):nh (head.push last) (listed.push false):=by
 intro i o ho hl e he hb
 rw [zf] at hl ⊢
 have hi:i<head.size:=by
  rcases Nat.lt_or_ge i head.size with h | h
  ·exact h
  ·rw [Array.getD_eq_getD_getElem?,Array.getElem?_eq_none (by omega)] at hl;cases hl
 rw [Array.getElem?_push,if_neg (by omega)] at ho
 exact hc i o ho hl e he hb
theorem zpy {head:Array Oper} {last:Oper} {Q Qh:Exit->Act->World->Prop} (hb:nG .any (head.push last)) (hw:∀ i,i<head.size->i∈jK (head.push last).toList head.size (ju last))
  (hq:∀ e a w,e≠.normal->Qh e a w->Q e a w) (hl:∀ a w,Qh .normal a w->wpOp P (head.push last) Q head.size (Q .normal) a w) :
  ∀ (fuel:Nat) (listed:Array Bool) (a:Act) (w:World),listed.size=head.size->nh head listed->wpAny P .any head Qh fuel listed a w->wpAny P .any (head.push last) Q (fuel+1) (listed.push false) a w:=by
 have CF:nG .any head:=fun i o ho=>hb i o (by
  have hi:i<head.size:=by
   rcases Nat.lt_or_ge i head.size with h | h
   ·exact h
   ·rw [Array.getElem?_eq_none h] at ho;cases ho
  rw [Array.getElem?_push,if_neg (by omega)];exact ho)
 have mB:(head.push last)[head.size]? = some last:=by simp
 have oL:=hb head.size last mB
 have r1:∀ listed:Array Bool,listed.size=head.size->∀ i,i∈Region.ready .any (head.push last) (listed.push false)->i=head.size\/(i<head.size/\i∈Region.ready .any head listed):=by
  intro listed hs i hi
  obtain ⟨h1,oi,h2,h3⟩:=mem_ready.1 hi
  rcases Nat.lt_trichotomy i head.size with h | h | h
  ·right
   refine ⟨h,mem_ready.2 ⟨by rw [<-F_ (by omega)];exact h1,oi,by rw [Array.getElem?_push,if_neg (by omega)] at h2;exact h2,fun e he hbd=>by rw [<-zf];exact h3 e he hbd⟩⟩
  ·exact .inl h
  ·rw [Array.getElem?_eq_none (by simp;omega)] at h2;cases h2
 have r2:∀ listed:Array Bool,listed.size=head.size->nh head listed->head.size∈Region.ready .any (head.push last) (listed.push false)->Region.ready .any head listed=[]:=by
  intro listed hs hc hi
  have hall:=xO (zpx hs hc) mB hi
  apply List.eq_nil_iff_forall_not_mem.2
  intro j hj
  obtain ⟨h4,oj,h5,_⟩:=mem_ready.1 hj
  have hjl:j<head.size:=by
   rcases Nat.lt_or_ge j head.size with h | h
   ·exact h
   ·rw [Array.getElem?_eq_none h] at h5;cases h5
  have:=hall j (hw j hjl)
  rw [zf,<-tq (by omega),h4] at this
  cases this
 have r3:∀ listed:Array Bool,listed.size=head.size->Region.ready .any head listed=[]->head.size∈Region.ready .any (head.push last) (listed.push false):=by
  intro listed hs h0
  refine mem_ready.2 ⟨zib hs true,last,mB,fun e he hbd=>?_⟩
  rw [zf]
  exact AP hs CF h0 e.on (oL.1 e he hbd)
 have CG:∀ listed:Array Bool,listed.size=head.size->Region.ready .any head listed=[]->Region.ready .any (head.push last) ((listed.push false).setIfInBounds head.size true)=[]:=by
  intro listed hs h0
  apply List.eq_nil_iff_forall_not_mem.2
  intro j hj
  obtain ⟨h4,oj,h5,_⟩:=mem_ready.1 hj
  have hjl:j<head.size+1:=by
   rcases Nat.lt_or_ge j (head.size+1) with h | h
   ·exact h
   ·rw [Array.getElem?_eq_none (by simp;omega)] at h5;cases h5
  by_cases hjn:j=head.size
  ·subst hjn
   rw [Array.getD_eq_getD_getElem?,Array.getElem?_setIfInBounds_self_of_lt (by simp [hs])] at h4
   cases h4
  ·have:=AP hs CF h0 j (by omega)
   rw [getD_set_ne true (Ne.symm hjn),F_ (by omega),tq (by omega),this] at h4
   cases h4
 have fin:∀ (fuel:Nat) (listed:Array Bool) (a:Act) (w:World),listed.size=head.size->Region.ready .any head listed=[]->Q .normal a w ->
   wpAny P .any (head.push last) Q fuel ((listed.push false).setIfInBounds head.size true) a w:=by
  intro fuel listed a w hs h0 hn
  have he:=CG listed hs h0
  cases fuel with
  | zero=>exact ⟨he,hn⟩
  | succ f=>exact ⟨fun _=>hn,fun i hi=>by rw [he] at hi;cases hi⟩
 intro fuel
 induction fuel with
 | zero =>
  intro listed a w hs hc h
  refine ⟨fun h0=>?_,fun i hi=>?_⟩
  ·have:=r3 listed hs h.1
   rw [h0] at this;cases this
  ·rcases r1 listed hs i hi with rfl | ⟨_,hi'⟩
   ·exact wpOp_mono (fun a' w' hn=>fin 0 listed a' w' hs h.1 hn) (hl a w h.2)
   ·rw [h.1] at hi';cases hi'
 | succ fuel ih =>
  intro listed a w hs hc h
  refine ⟨fun h0=>?_,fun i hi=>?_⟩
  ·exfalso
   have hz:Region.ready .any head listed=[]:=by
    apply List.eq_nil_iff_forall_not_mem.2
    intro j hj
    obtain ⟨h4,oj,h5,h6⟩:=mem_ready.1 hj
    have hjl:j<head.size:=by
     rcases Nat.lt_or_ge j head.size with h | h
     ·exact h
     ·rw [Array.getElem?_eq_none h] at h5;cases h5
    have:j∈Region.ready .any (head.push last) (listed.push false):=mem_ready.2 ⟨by rw [F_ (by omega)];exact h4,oj,by rw [Array.getElem?_push,if_neg (by omega)];exact h5,fun e he hbd=>by rw [zf];exact h6 e he hbd⟩
    rw [h0] at this;cases this
   have:=r3 listed hs hz
   rw [h0] at this;cases this
  ·rcases r1 listed hs i hi with rfl | ⟨fY,hi'⟩
   ·have hz:=r2 listed hs hc hi
    exact wpOp_mono (fun a' w' hn=>fin (fuel+1) listed a' w' hs hz hn) (hl a w (h.1 hz))
   ·have h2:=h.2 i hi'
    have qy:(listed.push false).setIfInBounds i true=(listed.setIfInBounds i true).push false:=by
     apply Array.ext'
     simp only [Array.toList_setIfInBounds,Array.toList_push]
     rw [List.set_append_left _ _ (by simpa using (show i<listed.size from by omega))]
    rw [qy]
    refine Tz (by rw [Array.getElem?_push,if_neg (by omega)]) (fun o ho=>?_) (fun a' w' h'=>ih _ a' w' (by simpa using hs) (hc.set hi') h') hq h2
    exact zjE (i:=i) (by omega) (CF i o ho).2
theorem Oj (ops:Array Oper) (n:Nat):nh ops (Array.replicate n false):=by
 intro i o _ hl
 rw [Array.getD_eq_getD_getElem?,Array.getElem?_replicate] at hl
 split at hl<;>simp at hl
theorem Ol {ops:Array Oper} {Q:Exit->Act->World->Prop} (hb:nG .any ops):∀ (rest:List Oper) (head:Array Oper),ops.toList=head.toList++rest ->
  (∀ i,head.size<=i->∀ o,ops[i]? = some o->∀ j,j<i->j∈jK (ops.toList.take (i+1)) i (ju o)) ->
  ∀ a w,wpAny P .any head (fun e a w=>match e with | .normal=>wpList P ops Q rest a w | e=>Q e a w) head.size (Array.replicate head.size false) a w ->
  wpAny P .any ops Q ops.size (Array.replicate ops.size false) a w
 | [],head,ho,_,a,w,h=>by
  have:head=ops:=by apply Array.ext';simpa using ho.symm
  subst this
  refine TA (fun e a w hh=>?_) _ _ _ _ h
  cases e<;>exact hh
 | o::rest,head,ho,hw,a,w,h=>by
  have hpre:∀ i,i<head.size+1->(head.push o)[i]? = ops[i]?:=fun i hi=>by
   have h1:ops[i]? = ops.toList[i]?:=by simp
   rw [h1,ho]
   by_cases TB:i<head.size
   ·rw [List.getElem?_append_left (by simpa using TB),Array.getElem?_push,if_neg (by omega)];simp
   ·have:i=head.size:=by omega
    subst this
    simp
  have TC:nG .any (head.push o):=fun i x hx=>hb i x (by
   rw [<-hpre i (by
    rcases Nat.lt_or_ge i (head.size+1) with h | h
    ·exact h
    ·rw [Array.getElem?_eq_none (by simp;omega)] at hx;cases hx)]
   exact hx)
  have ho':ops[head.size]? = some o:=by rw [<-hpre _ (by omega)];simp
  have TO:ops.toList.take (head.size+1)=(head.push o).toList:=by
   rw [ho,Array.toList_push]
   have:(head.toList++o::rest)=(head.toList++[o])++rest:=by simp
   rw [this,List.take_left' (by simp)]
  refine Ol hb rest (head.push o) (by simp [ho]) (fun i hi x hx j hj=>hw i (by simp at hi;omega) x hx j hj) a w ?_
  have:=zpy (P:=P) (head:=head) (last:=o) (Q:=fun e a w=>match e with | .normal=>wpList P ops Q rest a w | e=>Q e a w) TC
   (fun i hi=>by rw [<-TO];exact hw head.size (Nat.le_refl _) o ho' i hi) (Qh:=fun e a w=>match e with | .normal=>wpList P ops Q (o::rest) a w | e=>Q e a w)
   (fun e a w hne hh=>by cases e<;>first | exact absurd rfl hne | exact hh)
   (fun a w hh=>by
    simp only [wpList] at hh
    unfold wpOp
    have e1:(head.push o)[head.size]? = some o:=by simp
    simp only [e1]
    have ja:Region.wanted o (yielded (head.push o) a.tmps)=Region.wanted o (yielded ops a.tmps):=by
     unfold Region.wanted
     cases hgd:o.guard with
     | none=>rfl
     | some p =>
      obtain ⟨j,b⟩:=p
      have:=(hb head.size o ho').2 j b hgd
      simp only [yielded,hpre j (by omega)]
    rw [ja]
    split
    ·rename_i jW
     simp only [jW,if_true] at hh
     exact N9 (fun a w h=>h) (fun e a w hne h=>by cases e<;>first | exact absurd rfl hne | exact h) hh
    ·rename_i jW
     simp only [jW] at hh
     exact hh) head.size (Array.replicate head.size false) a w (by simp) (Oj _ _) h
  have hr:(Array.replicate head.size false).push false=Array.replicate (head.push o).size false:=by
   simp [Array.replicate_succ]
  rw [hr] at this
  simpa using this
def zj (P:Program) (m:Sem Next) (w:World) (K:Value->World->Prop):Prop :=
 (∃ v w',(m.run P w = .ok (.value v) w'\/(m.run P w = .ok .skip w'/\v=undef))/\K v w')\/∃ f args w1,m.run P w = .ok (.enter f args) w1/\Calls P f args w1 fun e w'=>∃ v,e = .returned v/\K v w'
theorem zjJ {Θ:Type} {ops:Array Oper} {ops':Θ->Array Oper} {st:List Nat} {val:Nat->Θ->Value} {C:Θ->World->Prop} {D:Array Bool->Θ->World->Prop} {Sm:Array Bool->Θ->Θ->Prop}
  {Qf:Θ->Act->Prop} {Q':Exit->Act->World->Prop} {tm:Nat->List Nat} (hb:nG .any ops)
  (cu:∀ θ listed,Region.ready .any (ops' θ) listed=Region.ready .any ops listed) (eG:∀ θ (j:Nat),((ops' θ)[j]?).bind (·.dst)=(ops[j]?).bind (·.dst))
  (Ga:∀ θ (i:Nat),i∉st->(ops' θ)[i]? = ops[i]?)
  (hst:∀ i∈st,∃ o,ops[i]? = some o/\∀ θ,∃ o',(ops' θ)[i]? = some o'/\o'.guard=o.guard/\o'.dst=o.dst/\∀ (a:Act) (w:World),(execOp a.eval o').run P w = .ok (.value (val i θ)) w)
  (hD:∀ listed θ θ' w,D listed θ w->Sm listed θ θ'->D listed θ' w) (Om:∀ listed θ w,D listed θ w->C θ w)
  (hrefl:∀ listed θ,Sm listed θ θ) (kE:∀ listed i θ θ' θ'',Sm listed θ θ'->Sm (listed.setIfInBounds i true) θ' θ''->Sm listed θ θ'')
  (hval:∀ (listed:Array Bool) i θ θ',i∈st->listed.size=ops.size->Sm (listed.setIfInBounds i true) θ θ'->val i θ'=val i θ)
  (hpure:∀ (i:Nat) (o:Oper),i∉st->ops[i]? = some o->∀ (a:Act) (w:World) f args w',(execOp a.eval o).run P w≠.ok (.enter f args) w')
  (qB:∀ (listed:Array Bool) i θ w,i∉st->D listed θ w->D (listed.setIfInBounds i true) θ w)
  (hop:∀ (i:Nat) (o:Oper),i∈st->ops[i]? = some o->∀ listed,nh ops listed->i∈Region.ready .any ops listed->∀ t∈tm i,∀ (j:Nat) (o':Oper),ops[j]? = some o'->o'.dst=some t->listed.getD j false=true)
  (hstep:∀ (i:Nat) (o:Oper),i∈st->ops[i]? = some o->∀ listed,listed.size=ops.size->nh ops listed->i∈Region.ready .any ops listed->∀ θ w,D listed θ w->∀ a a':Act,Qf θ a'->(∀ t∈tm i,a'.tmps[t]? = a.tmps[t]?)->Region.wanted o (yielded ops a.tmps)=true ->
   zj P (execOp a.eval o) w fun v w'=>∃ θ',Sm listed θ θ'/\(o.dst=none\/val i θ'=v)/\D (listed.setIfInBounds i true) θ' w')
  (Jk:∀ (i:Nat) (o:Oper),i∈st->ops[i]? = some o->∀ listed,listed.size=ops.size->nh ops listed->i∈Region.ready .any ops listed->∀ θ w,D listed θ w->∀ a a':Act,Qf θ a'->(∀ t∈tm i,a'.tmps[t]? = a.tmps[t]?)->Region.wanted o (yielded ops a.tmps)=false ->
   ∃ θ',Sm listed θ θ'/\D (listed.setIfInBounds i true) θ' w)
  (hQ:∀ θ a w listed,(∀ i,i<ops.size->listed.getD i false=true)->Qf θ a->D listed θ w->Q' .normal a w) :
  ∀ (fuel:Nat) (listed:Array Bool) (a:Act) (w:World) (θ:Θ),listed.size=ops.size->nh ops listed->D listed θ w->(∀ θ',Sm listed θ θ'->wpAnyQ P .any (ops' θ') (C θ') (Qf θ') fuel listed a)->wpAny P .any ops Q' fuel listed a w:=by
 intro fuel
 induction fuel with
 | zero =>
  intro listed a w θ hs ee hd h
  have h0:=h θ (hrefl _ _)
  have h1:=h0.1
  rw [cu] at h1
  exact ⟨h1,hQ θ a w listed (AP hs hb h1) h0.2 hd⟩
 | succ fuel ih =>
  intro listed a w θ hs ee hd h
  refine ⟨fun h1=>?_,fun i hi=>?_⟩
  ·have h0:=h θ (hrefl _ _)
   exact hQ θ a w listed (AP hs hb h1) (h0.1 (by rw [cu];exact h1)) hd
  ·have hs':(listed.setIfInBounds i true).size=ops.size:=by simpa using hs
   have fC:=ee.set hi
   obtain ⟨iR,oi,jb,_⟩:=mem_ready.1 hi
   have fY:i<ops.size:=by
    rcases Nat.lt_or_ge i ops.size with h | h
    ·exact h
    ·rw [Array.getElem?_eq_none h] at jb;cases jb
   by_cases nH:i∈st
   ·obtain ⟨o,e1,e3⟩:=hst i nH
    rw [jb] at e1;cases e1
    have hsame:∀ θ' (o':Oper),o'.guard=oi.guard->Region.wanted o' (yielded (ops' θ') a.tmps)=Region.wanted oi (yielded ops a.tmps):=fun θ' o' hg=>by
     unfold Region.wanted
     rw [hg,zg (eG θ')]
    by_cases ja:Region.wanted oi (yielded ops a.tmps)=true
    rotate_left
    ·-- it is CR over
     have ja:=(Bool.not_eq_true _).mp ja
     unfold wpOp
     rw [jb]
     simp only
     rw [if_neg (by rw [ja];decide)]
     have nxt:∀ θ',Sm listed θ θ'->wpAnyQ P .any (ops' θ') (C θ') (Qf θ') fuel (listed.setIfInBounds i true) (a.put oi.dst undef):=by
      intro θ' TP
      have hq:=(h θ' TP).2 i (by rw [cu];exact hi)
      obtain ⟨o',e4,e5,e6,e7⟩:=e3 θ'
      unfold qOp at hq
      rw [e4] at hq
      simp only at hq
      rw [if_neg (by rw [hsame θ' o' e5,ja];decide),e6] at hq
      exact hq
     obtain ⟨a',nC,lS⟩:=Oa fuel _ _ (nxt θ (hrefl _ _))
     obtain ⟨θ1,fJ,Nz⟩:=Jk i oi nH jb listed hs ee hi θ w hd a a' nC (fun t ht=>by
      have hne:oi.dst≠some t:=fun e=>by
       have:=hop i oi nH jb listed ee hi t ht i oi jb e
       rw [<-tq (by omega),iR] at this
       cases this
      rw [lS t (fun j o'' wu wv=>?_),TE hne]
      have tr:(ops[j]?).bind (·.dst)=some t:=by rw [<-eG θ j,wu];exact wv
      cases qA:ops[j]? with
      | none=>rw [qA] at tr;cases tr
      | some oj =>
       rw [qA] at tr
       have hjl:j<listed.size:=by
        rcases Nat.lt_or_ge j ops.size with h | h
        ·omega
        ·rw [Array.getElem?_eq_none h] at qA;cases qA
       have:=uq (i:=i) (hop i oi nH jb listed ee hi t ht j oj qA tr)
       rw [tq (by simpa using hjl)]
       exact this) ja
     exact ih _ _ w θ1 hs' fC Nz fun θ' mC=>nxt θ' (kE listed i θ θ1 θ' fJ mC)
    -- one step of each
    have next:∀ θ',Sm listed θ θ'->wpAnyQ P .any (ops' θ') (C θ') (Qf θ') fuel (listed.setIfInBounds i true) (a.put oi.dst (val i θ')):=by
     intro θ' mC
     have hq:=(h θ' mC).2 i (by rw [cu];exact hi)
     obtain ⟨o',e4,e5,e6,e7⟩:=e3 θ'
     have CK:Region.wanted o' (yielded (ops' θ') a.tmps)=true:=by rw [hsame θ' o' e5];exact ja
     unfold qOp at hq
     rw [e4] at hq
     simp only at hq
     rw [if_pos CK] at hq
     obtain ⟨v,hv,h4⟩:=hq
     have h3:=hv w (Om _ _ _ (hD _ _ _ _ hd mC))
     unfold Oper.quietAt at h3
     rw [e7 a w] at h3
     have Jl:val i θ'=v:=h3.2
     rw [Jl,<-e6]
     exact h4
    have go:∀ v w',(∃ θ',Sm listed θ θ'/\(oi.dst=none\/val i θ'=v)/\D (listed.setIfInBounds i true) θ' w')->wpAny P .any ops Q' fuel (listed.setIfInBounds i true) (a.put oi.dst v) w':=by
     rintro v w' ⟨θ',mC,Jl,hd'⟩
     have FW:a.put oi.dst v=a.put oi.dst (val i θ'):=by
      rcases Jl with h | h
      ·rw [h];rfl
      ·rw [h]
     rw [FW]
     refine ih _ _ w' θ' hs' fC hd' fun θ'' Jm=>?_
     rw [<-hval listed i θ' θ'' nH hs Jm]
     exact next θ'' (kE listed i θ θ' θ'' mC Jm)
    obtain ⟨a',nC,lS⟩:=Oa fuel _ _ (next θ (hrefl _ _))
    have TQ:=hstep i oi nH jb listed hs ee hi θ w hd a a' nC (fun t ht=>by
     have hne:oi.dst≠some t:=fun e=>by
      have:=hop i oi nH jb listed ee hi t ht i oi jb e
      rw [<-tq (by omega),iR] at this
      cases this
     rw [lS t (fun j o'' wu wv=>?_),TE hne]
     have tr:(ops[j]?).bind (·.dst)=some t:=by rw [<-eG θ j,wu];exact wv
     cases qA:ops[j]? with
     | none=>rw [qA] at tr;cases tr
     | some oj =>
      rw [qA] at tr
      have hjl:j<listed.size:=by
       rcases Nat.lt_or_ge j ops.size with h | h
       ·omega
       ·rw [Array.getElem?_eq_none h] at qA;cases qA
      have:=uq (i:=i) (hop i oi nH jb listed ee hi t ht j oj qA tr)
      rw [tq (by simpa using hjl)]
      exact this) ja
    unfold wpOp
    rw [jb]
    simp only
    rw [if_pos ja]
    refine .inl ?_
    unfold Oper.wp
    rcases TQ with ⟨v,w',hr | ⟨hr,rfl⟩,hk⟩ | ⟨f,args,w1,hr,hk⟩
    ·rw [hr]
     exact go v w' hk
    ·rw [hr]
     exact go undef w' hk
    ·rw [hr]
     exact Calls.mono hk fun e w' ⟨v,he,hk⟩=>by subst he;exact go v w' hk
   ·have hq:=(h θ (hrefl _ _)).2 i (by rw [cu];exact hi)
    unfold qOp at hq
    rw [Ga θ i nH,jb] at hq
    simp only [zg (eG θ)] at hq
    unfold wpOp
    rw [jb]
    simp only
    have each:∀ θ',Sm listed θ θ'->(if Region.wanted oi (yielded ops a.tmps)=true then ∃ v,(∀ w,C θ' w->oi.quietAt P a (C θ') w v)/\wpAnyQ P .any (ops' θ') (C θ') (Qf θ') fuel (listed.setIfInBounds i true) (a.put oi.dst v) else wpAnyQ P .any (ops' θ') (C θ') (Qf θ') fuel (listed.setIfInBounds i true) (a.put oi.dst undef)):=by
     intro θ' mC
     have hq:=(h θ' mC).2 i (by rw [cu];exact hi)
     unfold qOp at hq
     rw [Ga θ' i nH,jb] at hq
     simp only [zg (eG θ')] at hq
     exact hq
    split
    ·rename_i jW
     rw [if_pos jW] at hq
     refine .inl ?_
     have hne:=hpure i oi nH jb a w
     have wE:∀ θ',Sm listed θ θ'->∃ v,Oper.quietUpon P (C θ') w v ((execOp a.eval oi).run P w)/\wpAnyQ P .any (ops' θ') (C θ') (Qf θ') fuel (listed.setIfInBounds i true) (a.put oi.dst v):=by
      intro θ' mC
      have:=each θ' mC
      rw [if_pos jW] at this
      obtain ⟨v,h1,h2⟩:=this
      exact ⟨v,h1 w (Om _ _ _ (hD _ _ _ _ hd mC)),h2⟩
     have sm1:∀ θ',Sm (listed.setIfInBounds i true) θ θ'->Sm listed θ θ':=fun θ' mC=>kE listed i θ θ θ' (hrefl _ _) mC
     unfold Oper.wp
     generalize (execOp a.eval oi).run P w=r at *
     obtain ⟨v0,h3,_⟩:=wE θ (hrefl _ _)
     cases r with
     | ok n w' =>
      cases n<;>simp only [Oper.quietUpon] at h3<;>simp only [Oper.upon]
      case value u =>
       obtain ⟨e1,_⟩:=h3
       rw [e1]
       refine ih _ _ w θ hs' fC (qB _ _ _ _ nH hd) fun θ' mC=>?_
       obtain ⟨v,h4,h5⟩:=wE θ' (sm1 θ' mC)
       have h4:w'=w/\u=v:=h4
       rw [h4.2]
       exact h5
      case skip =>
       obtain ⟨e1,_⟩:=h3
       rw [e1]
       refine ih _ _ w θ hs' fC (qB _ _ _ _ nH hd) fun θ' mC=>?_
       obtain ⟨v,h4,h5⟩:=wE θ' (sm1 θ' mC)
       have h4:w'=w/\v=undef:=h4
       rw [h4.2] at h5
       exact h5
      case enter f args=>exact absurd rfl (hne f args w')
     | halt x w'=>simp only [Oper.quietUpon] at h3
    ·rename_i jW
     rw [if_neg jW] at hq
     refine ih _ _ w θ hs' fC (qB _ _ _ _ nH hd) fun θ' mC=>?_
     have:=each θ' (kE listed i θ θ θ' (hrefl _ _) mC)
     rw [if_neg jW] at this
     exact this
theorem zlr {Θ:Type} {ops:Array Oper} {ops':Θ->Array Oper} {st:List Nat} {val:Nat->Θ->Value} {C:Θ->World->Prop} {D:Array Bool->Θ->World->Prop} {Sm:Array Bool->Θ->Θ->Prop}
  {Qf:Θ->Act->Prop} {Q':Exit->Act->World->Prop} {tm:Nat->List Nat} (hb:nG .any ops)
  (cu:∀ θ listed,Region.ready .any (ops' θ) listed=Region.ready .any ops listed) (eG:∀ θ (j:Nat),((ops' θ)[j]?).bind (·.dst)=(ops[j]?).bind (·.dst))
  (Ga:∀ θ (i:Nat),i∉st->(ops' θ)[i]? = ops[i]?)
  (hst:∀ i∈st,∃ o,ops[i]? = some o/\o.guard=none/\∀ θ,∃ o',(ops' θ)[i]? = some o'/\o'.guard=none/\o'.dst=o.dst/\∀ (a:Act) (w:World),(execOp a.eval o').run P w = .ok (.value (val i θ)) w)
  (hD:∀ listed θ θ' w,D listed θ w->Sm listed θ θ'->D listed θ' w) (Om:∀ listed θ w,D listed θ w->C θ w)
  (hrefl:∀ listed θ,Sm listed θ θ) (kE:∀ listed i θ θ' θ'',Sm listed θ θ'->Sm (listed.setIfInBounds i true) θ' θ''->Sm listed θ θ'')
  (hval:∀ (listed:Array Bool) i θ θ',i∈st->listed.size=ops.size->Sm (listed.setIfInBounds i true) θ θ'->val i θ'=val i θ)
  (hpure:∀ (i:Nat) (o:Oper),i∉st->ops[i]? = some o->∀ (a:Act) (w:World) f args w',(execOp a.eval o).run P w≠.ok (.enter f args) w')
  (qB:∀ (listed:Array Bool) i θ w,i∉st->D listed θ w->D (listed.setIfInBounds i true) θ w)
  (hop:∀ (i:Nat) (o:Oper),i∈st->ops[i]? = some o->∀ listed,nh ops listed->i∈Region.ready .any ops listed->∀ t∈tm i,∀ (j:Nat) (o':Oper),ops[j]? = some o'->o'.dst=some t->listed.getD j false=true)
  (hstep:∀ (i:Nat) (o:Oper),i∈st->ops[i]? = some o->∀ listed,listed.size=ops.size->nh ops listed->i∈Region.ready .any ops listed->∀ θ w,D listed θ w->∀ a a':Act,Qf θ a'->(∀ t∈tm i,a'.tmps[t]? = a.tmps[t]?) ->
   zj P (execOp a.eval o) w fun v w'=>∃ θ',Sm listed θ θ'/\(o.dst=none\/val i θ'=v)/\D (listed.setIfInBounds i true) θ' w')
  (hQ:∀ θ a w listed,(∀ i,i<ops.size->listed.getD i false=true)->Qf θ a->D listed θ w->Q' .normal a w) :
  ∀ (fuel:Nat) (listed:Array Bool) (a:Act) (w:World) (θ:Θ),listed.size=ops.size->nh ops listed->D listed θ w->(∀ θ',Sm listed θ θ'->wpAnyQ P .any (ops' θ') (C θ') (Qf θ') fuel listed a)->wpAny P .any ops Q' fuel listed a w :=
 zjJ hb cu eG Ga (fun i hi=>let ⟨o,h1,h2,h3⟩:=hst i hi;⟨o,h1,fun θ=>let ⟨o',g1,g2,g3,g4⟩:=h3 θ;⟨o',g1,g2.trans h2.symm,g3,g4⟩⟩) hD Om hrefl kE hval hpure qB hop
  (fun i o hi ho listed hs ee hr θ w hd a a' hq ht _=>hstep i o hi ho listed hs ee hr θ w hd a a' hq ht)
  (fun i o hi ho listed _ _ _ θ w _ a _ _ _ hw=>by
   obtain ⟨o2,h1,h2,_⟩:=hst i hi
   rw [ho] at h1;cases h1
   simp [Region.wanted,h2] at hw) hQ
end
section
variable {F:aC} {E:Env} {O:Nat->DV}
theorem HS.grow {U U':Nat->Loc} {hp hp':List (Option ag)} {w w':World} {base:Nat} {N:Nat->Prop} (h:HS E O U hp w) (hb:Below w.heap.size w w') (h0:E.n0<=base) (hl:E.n0<=hp'.length) (hU:∀ b,b<base->U' b=U b)
  (hc:∀ b bk,nth hp' b=some bk->(nth hp b=some bk/\U' b=U b/\bk.lt base=true)\/(aD E O U' w' (U' b) bk/\((U' b).nil=true\/rQ (fun _=>False) (fun k=>∃ j bj,nth hp j=some bj/\bj.own=false/\(U j).nil=false/\bj.av w (U j) k) w.heap.size bk.own (bk.aB w' (U' b)) (bk.av w' (U' b)))/\N b))
  (hn:∀ b b' bk aS,N b->N b'->nth hp' b=some bk->bk.own=true->nth hp' b'=some aS->b≠b'->(U' b).nil=false->(U' b').nil=false->∀ k,bk.aB w' (U' b) k->¬ aS.av w' (U' b') k):HS E O U' hp' w':=by
 have nc:∀ b bk,nth hp b=some bk->(U b).nil=false->∀ k,bk.aB w' (U b) k↔bk.aB w (U b) k:=fun b bk j8 aZ k =>
  (h.heap.aj b bk j8).dU aZ (fun _ hf=>hb.block _ ((h.heap.aj b bk j8).lt aZ hf)) k
 have m9:∀ b bk,nth hp b=some bk->(U b).nil=false->∀ k,bk.av w' (U b) k↔bk.av w (U b) k:=fun b bk j8 aZ k =>
  (h.heap.aj b bk j8).cN aZ (fun _ hf=>hb.block _ ((h.heap.aj b bk j8).lt aZ hf)) k
 refine ⟨⟨fun b bk cY=>?_,fun b b' bk aS cY ho Jn hne b_ hn2 k dj cD=>?_⟩,fun b bk cY=>?_,h.fr.trans (Fr.bK hb),hl,fun j hj=>by rw [hU j (by omega)];exact h.keep j hj⟩
 ·rcases hc b bk cY with ⟨h1,h2,h3⟩ | ⟨h1,_,_⟩
  ·rw [h2]
   exact ((h.heap.aj b bk h1).dG hb.size (fun aZ _ hf=>hb.block _ ((h.heap.aj b bk h1).lt aZ hf))).keep hU h3
  ·exact h1
 ·rcases hc b bk cY with ⟨h1,h2,_⟩ | ⟨_,h2,h3⟩<;>rcases hc b' aS Jn with ⟨g1,g2,_⟩ | ⟨_,g2,g3⟩
  ·rw [h2] at b_ dj
   rw [g2] at hn2 cD
   exact h.heap.apart b b' bk aS h1 ho g1 hne b_ hn2 k ((nc b bk h1 b_ k).1 dj) ((m9 b' aS g1 hn2 k).1 cD)
  ·rw [h2] at b_ dj
   have dj:=(nc b bk h1 b_ k).1 dj
   have:=(h.heap.aj b bk h1).lt b_ ((h.heap.aj b bk h1).rd b_ dj)
   rcases g2 with g2 | g2
   ·rw [hn2] at g2;cases g2
   rcases g2.rd k cD with g2 | g2 | ⟨j,bj,e1,e2,e3,e4⟩
   ·omega
   ·exact g2.elim
   ·have hbj:b≠j:=fun e=>by
     subst e
     rw [h1] at e1;cases e1
     rw [ho] at e2;cases e2
    exact h.heap.apart b j bk bj h1 ho e1 hbj b_ e3 k dj e4
  ·rw [g2] at hn2 cD
   have cD:=(m9 b' aS g1 hn2 k).1 cD
   have:=(h.heap.aj b' aS g1).lt hn2 cD
   rcases h2 with h2 | h2
   ·rw [b_] at h2;cases h2
   rcases h2.wr ho k dj with h2 | h2
   ·omega
   ·exact h2
  ·exact hn b b' bk aS h3 g3 cY ho Jn hne b_ hn2 k dj cD
 ·rcases hc b bk cY with ⟨h1,h2,_⟩ | ⟨_,h2,_⟩
  ·rw [h2]
   cases aZ:(U b).nil with
   | true=>exact .inl rfl
   | false =>
    rcases h.old b bk h1 with g | g
    ·rw [aZ] at g;cases g
    ·exact .inr ⟨fun o k hf=>g.wr o k ((nc b bk h1 aZ k).1 hf),fun k hf=>g.rd k ((m9 b bk h1 aZ k).1 hf)⟩
  ·rcases h2 with h2 | h2
   ·exact .inl h2
   refine .inr ⟨fun o k hf=>?_,fun k hf=>?_⟩
   ·rcases h2.wr o k hf with h2 | h2
    ·exact .inl (Nat.le_trans h.fr.size h2)
    ·exact h2.elim
   ·rcases h2.rd k hf with h2 | h2 | ⟨j,bj,e1,e2,e3,e4⟩
    ·exact .inl (Nat.le_trans h.fr.size h2)
    ·exact h2.elim
    ·rcases h.old j bj e1 with h | h
     ·rw [e3] at h;cases h
     exact h.rd k e4
end
end Go.Sx
namespace Go.Sx
open Go.RowKit
section
variable {P:Program} {I:World->Prop} {S:bN} {F:aC} {E:Env} {gK:Nat} {O:Nat->DV}
theorem Lf.iw {a b:Lf} (h:a.qf b=true) (U:Nat->Loc):a.aa O U=b.aa O U:=by
 unfold Lf.qf at h
 split at h
 ·simp only [Bool.and_eq_true] at h
  have:=pN h.1;subst this
  have:=A.aH h.2 O
  simp only [Lf.aa,A.int,this]
 ·have:=A.aH h O
  simp only [Lf.aa,A.bool,this]
 ·simp only [Bool.and_eq_true] at h
  have e1:=Nat.eq_of_beq_eq_true h.1
  have e2:=Nat.eq_of_beq_eq_true h.2
  subst e1;subst e2;rfl
 ·rfl
 ·have e1:=Nat.eq_of_beq_eq_true h
  subst e1;rfl
 ·have e1:=Nat.eq_of_beq_eq_true h
  subst e1;rfl
 ·simp only [Bool.and_eq_true] at h
  have e1:=Nat.eq_of_beq_eq_true h.1
  have e2:=Nat.eq_of_beq_eq_true h.2
  subst e1;subst e2;rfl
 ·have e1:=znK h
  subst e1;rfl
 ·simp only [Bool.and_eq_true] at h
  have e1:=LT.jv h.1.1
  have e2:=A.aH h.1.2 O
  have e3:=Nat.eq_of_beq_eq_true h.2
  subst e1;subst e3
  rename_i t a j a'
  cases t<;>simp only [Lf.aa,A.cells,e2]
 ·have:=A.aH h O
  simp only [Lf.aa,A.cells,this]
 ·cases h
theorem zjK (U:Nat->Loc):∀ {a b:List Lf},Fw a b=true->a.map (Lf.aa O U)=b.map (Lf.aa O U)
 | [],[],_=>rfl
 | a::l,b::l',h=>by
  simp only [Fw,Bool.and_eq_true] at h
  simp only [List.map_cons,Lf.iw h.1 U,zjK U h.2]
 | [],_::_,h=>by cases h
 | _::_,[],h=>by cases h
theorem V.iw {a b:V} (h:a.qf b=true) (U:Nat->Loc):a.aa O U=b.aa O U:=by
 unfold V.qf at h
 split at h
 ·simp only [V.aa,V1.aa,Lf.iw h U]
 ·simp only [V.aa,V1.aa,zjK U h]
 ·cases h
theorem zls (U:Nat->Loc):∀ {a b:List V},B_ a b=true->a.map (V.aa O U)=b.map (V.aa O U)
 | [],[],_=>rfl
 | a::l,b::l',h=>by
  simp only [B_,Bool.and_eq_true] at h
  simp only [List.map_cons,V.iw h.1 U,zls U h.2]
 | [],_::_,h=>by cases h
 | _::_,[],h=>by cases h
theorem Lf.fk {p:Nat->Bool} {a:Lf} (h:a.kz p=true) {U U':Nat->Loc} (hU:∀ q,p q=true->U' q=U q):a.aa O U'=a.aa O U:=by
 unfold Lf.kz at h
 split at h
 ·simp only [Lf.aa,hU _ h]
 ·simp only [Lf.aa,hU _ h]
 ·cases h
 ·cases h
 ·cases h
 ·cases h
 ·cases h
 ·cases h
 ·rename_i h1 h2 h3 h4 h5 h6 h7 h8
  cases a with
  | mp q=>exact absurd rfl (h7 q)
  | alt a l=>exact absurd rfl (h8 a l)
  | i k a=>rfl
  | b a=>rfl
  | p q o=>exact absurd rfl (h3 q o)
  | gp g o=>exact absurd rfl (h4 g o)
  | cG=>rfl
  | vec q=>exact absurd rfl (h2 q)
  | kL f bs=>exact absurd rfl (h5 f bs)
  | fV t q=>exact absurd rfl (h6 t q)
  | str a=>rfl
  | v x=>rfl
  | e t a i=>cases t<;>rfl
theorem V.fk {p:Nat->Bool} {a:V} (h:a.kz p=true) {U U':Nat->Loc} (hU:∀ q,p q=true->U' q=U q):a.aa O U'=a.aa O U:=by
 have key:∀ l:List Lf,l.all (Lf.kz p)=true->l.map (Lf.aa O U')=l.map (Lf.aa O U):=fun l hl =>
  List.map_congr_left fun x hx=>Lf.fk (List.all_eq_true.1 hl x hx) hU
 have CS:∀ v:V1,v.cells.all (Lf.kz p)=true->v.aa O U'=v.aa O U:=fun v hv=>by
  cases v with
  | one l =>
   have:l.kz p=true:=by simpa [V1.cells] using hv
   simp only [V1.aa,Lf.fk this hU]
  | agg l=>simp only [V1.aa,key l hv]
 cases a with
 | s v =>
  cases v with
  | one l=>exact CS (.one l) (by simpa [V.kz,V1.cells] using h)
  | agg l=>exact CS (.agg l) h
 | t l =>
  simp only [V.aa]
  congr 2
  exact List.map_congr_left fun x hx=>CS x (List.all_eq_true.1 h x hx)
theorem zrV {o:Oper} {x:Operand} {args:List Operand} (hc:a_ o.op=some (x,args)) {r:RS} {f:Nat} {vs:List V} (hf:qb (rd r [] x)=some (f,[])) (hvs:oE r [] args=some vs) {U:Nat->Loc} {a:Act} (ha:aJ O U r a) (w:World) :
  (callFunc f (vs.map (V.aa O U)).toArray).run P w = .ok (.enter f (vs.map (V.aa O U)).toArray) w->(execOp a.eval o).run P w = .ok (.enter f (vs.map (V.aa O U)).toArray) w:=by
 intro h4
 cases hop:o.op<;>rw [hop] at hc<;>simp only [a_] at hc<;>try cases hc
 rename_i c
 split at hc
 ·rename_i y fK
  cases hc
  have gw:oa [] a:=fun p hp=>by simp at hp
  have h1:=zc ha gw hvs
  have h0:=Tu ha gw hf
  have h2:c.args.map a.eval=(vs.map (V.aa O U)).toArray:=by
   apply Array.ext'
   simpa using h1
  rw [<-h2] at h4 ⊢
  simp [execOp,hop,resolve,fK,h0,Deferred.ofValue,invoke,p9]
  exact h4
 ·cases hc
theorem zpz {o:Oper} {a a':Act} (hc:(a_ o.op).isSome=true) (h:∀ t∈Ii o.op,a'.tmps[t]? = a.tmps[t]?):execOp a.eval o=execOp a'.eval o:=by
 cases hop:o.op<;>rw [hop] at hc<;>simp only [a_] at hc<;>try cases hc
 rename_i c
 split at hc
 ·rename_i y fK
  have ht:∀ z:Operand,(z=y\/z∈c.args.toList)->a.eval z=a'.eval z:=fun z hz=>by
   refine Jj fun t ht=>h t ?_
   rw [hop]
   simp only [Ii,a_,fK]
   rcases hz with rfl | hz
   ·exact List.mem_append_left _ ht
   ·exact List.mem_append_right _ (List.mem_flatMap.2 ⟨z,hz,ht⟩)
  have hargs:c.args.map a.eval=c.args.map a'.eval:=by
   apply Array.ext'
   simp only [Array.toList_map]
   exact List.map_congr_left fun z hz=>ht z (.inr hz)
  simp only [execOp,hop,resolve,fK,hargs,ht y (.inl rfl)]
 ·cases hc
def TR (hp:List (Option ag)) (U:Nat->Loc) (w:World):Env :=
 ⟨fun _=>False,fun b=>∃ j bk,nth hp j=some bk/\(U j).nil=false/\bk.av w (U j) b,w,0,U⟩
theorem zrW {hp:List (Option ag)} {U:Nat->Loc} {w:World} (h:gK<=w.heap.size):(TR hp U w).Ok gK:=⟨h,fun _ hb=>hb.elim⟩
theorem HS.read {U : Nat -> Loc} {hp hc : List (Option ag)} {w : World} (h : HS E O U hp w) (ue : ∀ j bk, nth hc j = some bk -> nth hp j = some bk /\ bk.flat = true /\ bk.own = false) : HS (TR hc U w) O U hc w :=
  ⟨⟨fun j bk hj => (h.heap.aj j bk (ue j bk hj).1).flat (ue j bk hj).2.1, fun j j' bk aS hj ho => by rw [(ue j bk hj).2.2] at ho; cases ho⟩,
   fun j bk hj => by
     cases hn : (U j).nil with
     | true => exact .inl rfl
     | false => exact .inr ⟨fun o => (by rw [(ue j bk hj).2.2] at o; cases o), fun b hf => .inr (.inr ⟨j, bk, hj, hn, hf⟩)⟩,
   Fr.refl _ _, Nat.zero_le _, fun j hj => absurd hj (Nat.not_lt_zero _)⟩
theorem ztg {l:List (Option ag)} {j:Nat} {bk:ag} (h:nth (l.map uW) j=some bk):nth l j=some bk/\bk.flat=true/\bk.own=false:=by
 induction l generalizing j with
 | nil=>cases j<;>simp [nth] at h
 | cons x l ih =>
  cases j with
  | zero =>
   simp only [List.map_cons,nth] at h ⊢
   unfold uW at h
   split at h
   ·split at h
    ·rename_i hc
     cases h
     simp only [Bool.and_eq_true,Bool.not_eq_true'] at hc
     exact ⟨rfl,hc.1,hc.2⟩
    ·cases h
   ·cases h
  | succ j=>exact ih (by simpa [nth] using h)
def iy (P:Program) (I:World->Prop) (gK:Nat) (O:Nat->DV) (f:Nat) (vs:List V) (v:V) (d_:List (Option ag)) (news:List (Option ag)):Prop :=
 ∀ (E2:Env),E2.Ok gK->∀ U w,(∀ v∈vs,V.good O v)->HS E2 O U d_ w->I w ->
  (callFunc f (vs.map (V.aa O U)).toArray).run P w = .ok (.enter f (vs.map (V.aa O U)).toArray) w /\
  Calls P f (vs.map (V.aa O U)).toArray w fun e w'=>∃ U' c6,(∀ j,j<d_.length->U' j=U j)/\HS E2 O U' c6 w'/\(∀ p,nth news p≠none->nth c6 (d_.length+p)=nth news p)/\e = .returned (v.aa O U')
theorem Jo {α:Type} (l:List (Option α)) (n p:Nat):nth (l.drop n) p=nth l (n+p):=by
 induction n generalizing l with
 | zero=>simp
 | succ n ih =>
  cases l with
  | nil=>simp [nth]
  | cons x l =>
   rw [List.drop_succ_cons,ih,show n+1+p=(n+p)+1 from by omega]
   rfl
theorem zof (hS:bg P I gK S F) {f:Nat} {vs:List V} {d_:List (Option ag)} : M.sat F O (HN P S f vs d_) (fun res =>
  match res with
  | .val v=>iy P I gK O f vs v d_ []
  | .hp (some v) c6=>iy P I gK O f vs v d_ (c6.drop d_.length)
  | .hp none _=>True):=by
 refine cH (Od (ι:={ E2:Env // E2.Ok gK }) fun E2=>zlc (E:=E2.1) hS E2.2 (f:=f) (vs:=vs) (hp:=d_)) fun res h=>?_
 cases res with
 | val v =>
  intro E2 zk U w hg hh hI
  obtain ⟨h1,_,h3⟩:=h ⟨E2,zk⟩ U w hg hh hI
  exact ⟨h1,h3.mono fun e w' ⟨he,hb⟩=>⟨U,d_,fun _ _=>rfl,hh.bK hb,fun p hp=>absurd (by cases p<;>rfl) hp,he⟩⟩
 | hp v c6 =>
  cases v with
  | none=>trivial
  | some v =>
   intro E2 zk U w hg hh hI
   obtain ⟨h1,h3⟩:=h ⟨E2,zk⟩ U w hg hh hI
   exact ⟨h1,h3.mono fun e w' ⟨x,he,U',k1,k2,k3⟩=>⟨U',c6,k1,k2,fun p _=>(Jo _ _ _).symm,by rw [he,(k3 v rfl).2]⟩⟩
def eM (l:List Oper) (i:Nat):Nat:=((l.take i).filter fun o=>aO o.op).length
structure oS (P:Program) (I:World->Prop) (gK:Nat) (O:Nat->DV) (E:Env) (ops:Array Oper) (b0:Nat) (hc:List (Option ag)) (l:List Oper) (b:Nat) (r:RS) (hn:List (Option ag)) (r':RS) (hn':List (Option ag)) (es:List (Nat×List V×V)) (s:Nat->Nat):Prop where
 len:es.length=l.length
 hp:r'.st.hp=r.st.hp
 s0:s 0=hn.length
 sn:s l.length=hn'.length
 mono:∀ i,i<l.length->s i<=s (i+1)
 pre:hn'.take hn.length=hn
 quiet:∀ U a,aJ O U r a->(∃ w,HS E O U r.st.hp w)->∀ C:World->Prop,C=(fun w=>HS E O U r.st.hp w)->∀ ops':Array Oper,(∀ j:Nat,(ops'[j]?).bind (·.dst)=(ops[j]?).bind (·.dst)) ->
  ∀ Q:Act->Prop,(∀ a',aJ O U r' a'->Q a')->wpQuiet P ops' C Q (List.zipWith (fun o e=>dO (e.2.2.aa O U) o) l es) a
 alloc:∀ (i:Nat) o,l[i]? = some o->aO o.op=true->∃ e,es[i]? = some e/\e.2.2 = .s (.one (.p (b+eM l i) (.c 0)))
 call:∀ (i:Nat) o x args,l[i]? = some o->a_ o.op=some (x,args)->∃ f vs v,es[i]? = some (f,vs,v) /\
  v.kz (fun q=>Nat.blt q b0||(Nat.ble (hc.length+s i) q&&Nat.blt q (hc.length+s (i+1))))=true/\v.ep=true/\iy P I gK O f vs v (hc++(hn'.take (s i)).map uW) ((hn'.take (s (i+1))).drop (s i))
 still:∀ (i:Nat) o,l[i]? = some o->(a_ o.op).isSome=false->s (i+1)=s i
def Jp (n:Nat) (s:Nat->Nat):Nat->Nat
 | 0=>n
 | i+1=>s i
theorem On {α:Type} {l l1:List α} {n m:Nat} (h:l.take m=l1) (hn:n<=m):l.take n=l1.take n:=by
 rw [<-h,List.take_take,Nat.min_eq_left hn]
theorem oS.cons {ops:Array Oper} {b0:Nat} {hc:List (Option ag)} {l:List Oper} {o:Oper} {e:Nat×List V×V} {b b1:Nat} {r r1 r':RS} {hn b_ hn':List (Option ag)} {es:List (Nat×List V×V)} {s1:Nat->Nat}
  (h:oS P I gK O E ops b0 hc l b1 r1 b_ r' hn' es s1) (hb:∀ i,b+eM (o::l) (i+1)=b1+eM l i) (wz:r1.st.hp=r.st.hp) (hpre:b_.take hn.length=hn)
  (hq:∀ U a,aJ O U r a->(∃ w,HS E O U r.st.hp w)->∀ C:World->Prop,C=(fun w=>HS E O U r.st.hp w)->∀ ops':Array Oper,(∀ j:Nat,(ops'[j]?).bind (·.dst)=(ops[j]?).bind (·.dst)) ->
   if Region.wanted (dO (e.2.2.aa O U) o) (yielded ops' a.tmps)=true then ∃ v,(∀ w,C w->(dO (e.2.2.aa O U) o).quietAt P a C w v)/\aJ O U r1 (a.put (dO (e.2.2.aa O U) o).dst v) else aJ O U r1 (a.put (dO (e.2.2.aa O U) o).dst undef))
  (ha:aO o.op=true->e.2.2 = .s (.one (.p b (.c 0))))
  (ee:∀ x args,a_ o.op=some (x,args)->∃ f vs v,e=(f,vs,v)/\v.kz (fun q=>Nat.blt q b0||(Nat.ble (hc.length+hn.length) q&&Nat.blt q (hc.length+b_.length)))=true/\v.ep=true/\iy P I gK O f vs v (hc++hn.map uW) (b_.drop hn.length))
  (hst:(a_ o.op).isSome=false->b_.length=hn.length):oS P I gK O E ops b0 hc (o::l) b r hn r' hn' (e::es) (Jp hn.length s1):=by
 have hle:hn.length<=b_.length:=by
  have:=congrArg List.length hpre
  rw [List.length_take] at this
  omega
 refine ⟨by simp [h.len],h.hp.trans wz,rfl,h.sn,fun i hi=>?_,?_,fun U a fO hex C hC ops' hd Q hQ=>?_,fun i o' ho' gY=>?_,fun i o' x args ho' AT=>?_,fun i o' ho' AT=>?_⟩
 ·cases i with
  | zero=>show hn.length<=s1 0;rw [h.s0];exact hle
  | succ i=>exact h.mono i (by simpa using hi)
 ·rw [On h.pre hle,hpre]
 ·have:=hq U a fO hex C hC ops' hd
  simp only [List.zipWith_cons_cons,wpQuiet]
  split
  ·rename_i hw
   rw [if_pos hw] at this
   obtain ⟨v,h3,h4⟩:=this
   exact ⟨v,h3,h.quiet U _ h4 (by rw [wz];exact hex) C (by rw [wz];exact hC) ops' hd Q hQ⟩
  ·rename_i hw
   rw [if_neg hw] at this
   exact h.quiet U _ this (by rw [wz];exact hex) C (by rw [wz];exact hC) ops' hd Q hQ
 ·cases i with
  | zero =>
   simp at ho';subst ho'
   exact ⟨e,rfl,by rw [ha gY];rfl⟩
  | succ i =>
   obtain ⟨e',h1,h2⟩:=h.alloc i o' (by simpa using ho') gY
   exact ⟨e',by simpa using h1,by rw [h2,hb i]⟩
 ·cases i with
  | zero =>
   simp at ho';subst ho'
   obtain ⟨f,vs,v,h1,h2,h3,h4⟩:=ee x args AT
   refine ⟨f,vs,v,by simp [h1],?_,h3,?_⟩
   ·show V.kz (fun q=>Nat.blt q b0||(Nat.ble (hc.length+hn.length) q&&Nat.blt q (hc.length+s1 0))) v=true
    rw [h.s0];exact h2
   ·show iy P I gK O f vs v (hc++(hn'.take hn.length).map uW) ((hn'.take (s1 0)).drop hn.length)
    rw [h.s0,h.pre,On h.pre hle,hpre]
    exact h4
  | succ i=>exact h.call i o' x args (by simpa using ho') AT
 ·cases i with
  | zero =>
   simp at ho';subst ho'
   show s1 0=hn.length
   rw [h.s0];exact hst AT
  | succ i=>exact h.still i o' (by simpa using ho') AT
theorem zqR {v:Value} {o:Oper} (h:ku o.op=false):dO v o=o:=by unfold dO;rw [h];rfl
theorem zqS {v:Value} {o:Oper} (h:ku o.op=true):dO v o = { o with op:=.move (.const v) }:=by unfold dO;rw [if_pos h]
theorem rA (o:Oper) (l:List Oper) (i:Nat):eM (o::l) (i+1)=(if aO o.op then 1 else 0)+eM l i:=by
 unfold eM
 rw [List.take_succ_cons,List.filter_cons]
 split<;>simp<;>omega
theorem TS {p p':Nat->Bool} (h:∀ q,p q=true->p' q=true) {v:V} (hv:v.kz p=true):v.kz p'=true:=by
 have key:∀ a:Lf,a.kz p=true->a.kz p'=true:=fun a ha=>by
  cases a with
  | p q o=>cases o<;>first | exact h _ ha | cases ha
  | vec q=>exact h _ ha
  | gp _ _=>cases ha
  | kL _ _=>cases ha
  | fV _ _=>cases ha
  | mp _=>cases ha
  | alt _ _=>cases ha
  | _=>rfl
 cases v with
 | s v =>
  cases v with
  | one l=>exact key l hv
  | agg l=>exact List.all_eq_true.2 fun x hx=>key x (List.all_eq_true.1 hv x hx)
 | t l=>exact List.all_eq_true.2 fun x hx=>List.all_eq_true.2 fun y hy=>key y (List.all_eq_true.1 (List.all_eq_true.1 hv x hx) y hy)
theorem TT {o:Oper} {r r1:RS} {v:V} (he:ku o.op=true) (hg:o.guard=none) (fR:v.good O) (hput:∀ U a (x:Value),aJ O U r a->(∀ u,some v=some u->u.good O/\x=u.aa O U)->aJ O U r1 (a.put o.dst x))
  (U:Nat->Loc) (a:Act) (fO:aJ O U r a) (C:World->Prop) (ops':Array Oper) :
  if Region.wanted (dO (v.aa O U) o) (yielded ops' a.tmps)=true then ∃ u,(∀ w,C w->(dO (v.aa O U) o).quietAt P a C w u)/\aJ O U r1 (a.put (dO (v.aa O U) o).dst u) else aJ O U r1 (a.put (dO (v.aa O U) o).dst undef):=by
 rw [zqS he]
 rw [if_pos (by simp [Region.wanted,hg])]
 refine ⟨v.aa O U,fun w _=>?_,hput U a _ fO fun u hu=>by cases hu;exact ⟨fR,rfl⟩⟩
 unfold Oper.quietAt
 simp [execOp,Act.eval,Oper.quietUpon]
theorem Jq (hS:bg P I gK S F) (hE:E.Ok gK) (hn0:S.n0=E.n0) (hI:∀ w,Fr E.W E.w0 w->I w) {ops:Array Oper} {b0:Nat} {hc:List (Option ag)} : ∀ (l:List Oper) (b:Nat) (r:RS) (hn:List (Option ag)),(∀ o∈l,Ca o=true) ->
  M.sat F O (An P S ops.toList b0 hc l b r hn) (fun z=>∃ s,oS P I gK O E ops b0 hc l b r hn z.1 z.2.1 z.2.2 s)
 | [],b,r,hn,_=>by
  unfold An
  exact au ⟨fun _=>hn.length,rfl,rfl,rfl,rfl,fun i hi=>by simp at hi,by simp,fun U a h _ C _ ops' _ Q hQ=>hQ a h,fun i o h=>by simp at h,fun i o x args h=>by simp at h,fun i o h=>by simp at h⟩
 | o::l,b,r,hn,hl=>by
  have hh:=hl o (by simp)
  have hl':∀ o'∈l,Ca o'=true:=fun o' h'=>hl o' (List.mem_cons_of_mem _ h')
  unfold An
  refine aY (fun gY=>?_) (fun gY=>?_)
  ·have gN:ku o.op=true:=by unfold ku;rw [gY];rfl
   have hg:o.guard=none:=by
    unfold Ca at hh
    rw [gN] at hh
    simpa using hh
   have hno:a_ o.op=none:=by cases hop:o.op<;>rw [hop] at gY<;>simp [aO] at gY;rfl
   refine ak ry fun r1 ff=>ak (Jq hS hE hn0 hI l (b+1) r1 hn hl') fun z ⟨s,hz⟩=>au ⟨Jp hn.length s,?_⟩
   refine hz.cons (fun i=>by rw [rA,if_pos gY];omega) ff.1 (by simp) (fun U a fO hex C hC ops' hd=>?_) (fun _=>rfl) (fun x args h=>by rw [hno] at h;cases h) (fun _=>rfl)
   exact TT (v:=.s (.one (.p b (.c 0)))) gN hg (V.cg.2 (V1.ah.2 trivial)) ff.2 U a fO C ops'
  ·split
   ·rename_i x args fK
    have gN:ku o.op=true:=by unfold ku;rw [fK];simp
    have hg:o.guard=none:=by
     unfold Ca at hh
     rw [gN] at hh
     simpa using hh
    refine ak gU fun ⟨f,bs⟩ _=>ak gU fun vs _=>aY (fun Jd=>?_) (fun _=>aE)
    refine ak (zof (P:=P) (I:=I) hS) fun res hres=>?_
    have hlen:(hc++hn.map uW).length=hc.length+hn.length:=by simp
    split
    ·rename_i v
     refine aY (fun hv=>?_) (fun _=>aE)
     simp only [Bool.and_eq_true] at hv
     refine ak ry fun r1 ff=>ak (Jq hS hE hn0 hI l b r1 hn hl') fun z ⟨s,hz⟩=>au ⟨Jp hn.length s,?_⟩
     refine hz.cons (fun i=>by rw [rA,if_neg gY];omega) ff.1 (by simp) (fun U a fO hex C hC ops' hd=>?_) (fun h=>absurd h gY) (fun x' args' h=>⟨f,vs,v,rfl,TS (fun q hq=>by simp only [hq,Bool.true_or]) hv.2,hv.1,?_⟩) (fun h=>by simp [fK] at h)
     ·exact TT gN hg (V.dZ hv.1) ff.2 U a fO C ops'
     ·rw [List.drop_length];exact hres
    ·rename_i v c6
     refine aY (fun hv=>?_) (fun _=>aE)
     simp only [Bool.and_eq_true] at hv
     obtain ⟨⟨lQ,ij⟩,zb⟩:=hv
     have zb:hc.length+hn.length<=c6.length:=Nat.le_of_ble_eq_true zb
     refine ak ry fun r1 ff=>ak (Jq hS hE hn0 hI l b r1 _ hl') fun z ⟨s,hz⟩=>au ⟨Jp hn.length s,?_⟩
     refine hz.cons (fun i=>by rw [rA,if_neg gY];omega) ff.1 (by simp) (fun U a fO hex C hC ops' hd=>?_) (fun h=>absurd h gY) (fun x' args' h=>⟨f,vs,v,rfl,?_,lQ,?_⟩) (fun h=>by simp [fK] at h)
     ·exact TT gN hg (V.dZ lQ) ff.2 U a fO C ops'
     ·rw [show hc.length+(hn++c6.drop (hc.length+hn.length)).length=c6.length from by simp;omega]
      exact ij
     ·rw [List.drop_left,<-hlen];exact hres
    ·exact aE
   ·rename_i hno
    have gN:ku o.op=false:=by
     unfold ku
     rw [hno]
     cases h:aO o.op with
     | true=>exact absurd h gY
     | false=>rfl
    refine ak (F9 (E:=E) (ops:=ops) hS hE hn0 hI true) fun r1 ff=>ak (Jq hS hE hn0 hI l b r1 hn hl') fun z ⟨s,hz⟩=>au ⟨Jp hn.length s,?_⟩
    have hq:=ff.2 rfl
    refine hz.cons (fun i=>by rw [rA,if_neg gY];omega) hq.1 (by simp) (fun U a fO hex C hC ops' hd=>?_) (fun h=>absurd h gY) (fun x args h=>by rw [hno] at h;cases h) (fun _=>rfl)
    rw [zqR gN,zg hd]
    exact hq.2 U a fO hex C hC
end
end Go.Sx
namespace Go.Sx
open Go.RowKit
structure Alike (o1 o2:Oper):Prop where
 dst:o1.dst=o2.dst
 guard:o1.guard=o2.guard
 after:o1.after=o2.after
 op:o1.op=o2.op\/∃ x y,o1.op = .move (.const x)/\o2.op = .move (.const y)
theorem TU {l1 l2:List Oper} (hlen:l1.length=l2.length) (h:∀ (j:Nat) o1 o2,l1[j]? = some o1->l2[j]? = some o2->Alike o1 o2):Region.lexB .any l1.toArray=Region.lexB .any l2.toArray:=by
 have cA:∀ (l:List Oper) (j:Nat),(l.toArray)[j]? = l[j]?:=fun l j=>by simp
 have bM:∀ j:Nat,(l1[j]? = none/\l2[j]? = none)\/∃ o1 o2,l1[j]? = some o1/\l2[j]? = some o2/\Alike o1 o2:=fun j=>by
  rcases Nat.lt_or_ge j l1.length with hj | hj
  ·right
   have e1:=List.getElem?_eq_getElem hj
   have e2:=List.getElem?_eq_getElem (l:=l2) (i:=j) (by omega)
   exact ⟨_,_,e1,e2,h j _ _ e1 e2⟩
  ·exact .inl ⟨List.getElem?_eq_none hj,List.getElem?_eq_none (by omega)⟩
 have hd:∀ j:Nat,((l1.toArray)[j]?).bind (·.dst)=((l2.toArray)[j]?).bind (·.dst):=fun j=>by
  rw [cA,cA]
  rcases bM j with ⟨h1,h2⟩ | ⟨o1,o2,h1,h2,h3⟩
  ·rw [h1,h2]
  ·rw [h1,h2];exact h3.dst
 have hsz:l1.toArray.size=l2.toArray.size:=by simpa using hlen
 have cu:∀ listed,Region.ready .any l1.toArray listed=Region.ready .any l2.toArray listed:=fun listed=>by
  unfold Region.ready
  rw [hsz]
  refine List.filter_congr fun j _=>?_
  rw [cA,cA]
  rcases bM j with ⟨h1,h2⟩ | ⟨o1,o2,h1,h2,h3⟩
  ·rw [h1,h2]
  ·rw [h1,h2]
   have e:=h3.after
   cases o1;cases o2
   simp only at e
   subst e
   rfl
 have qq:∀ o1 o2,Alike o1 o2->o1.looksAt l1.toArray=o2.looksAt l2.toArray:=fun o1 o2 h3=>by
  unfold Oper.looksAt
  rw [h3.guard]
  congr 1
  ·rcases h3.op with h | ⟨x,y,h,h'⟩
   ·rw [h]
   ·rw [h,h'];rfl
  ·cases o2.guard with
   | none=>rfl
   | some p=>exact congrArg Option.toList (hd p.1)
 have CT:∀ o1 o2 p1 p2,Alike o1 o2->Alike p1 p2->o1.apart l1.toArray p1=o2.apart l2.toArray p2:=fun o1 o2 p1 p2 h3 h4=>by
  unfold Oper.apart
  rw [h3.dst,h4.dst,qq _ _ h3,qq _ _ h4]
 have hfree:∀ listed i,Region.free .any l1.toArray listed i=Region.free .any l2.toArray listed i:=fun listed i=>by
  unfold Region.free
  rw [cA,cA]
  rcases bM i with ⟨h1,h2⟩ | ⟨o1,o2,h1,h2,h3⟩
  ·rw [h1,h2]
  ·rw [h1,h2]
   simp only
   rw [hsz]
   congr 1
   funext j
   rw [cA,cA]
   rcases bM j with ⟨g1,g2⟩ | ⟨p1,p2,g1,g2,g3⟩
   ·rw [g1,g2]
   ·rw [g1,g2];simp only [g3.after,CT _ _ _ _ h3 g3]
 have oR:∀ (fuel k:Nat) (listed:Array Bool),Region.lexFrom .any l1.toArray fuel k listed=Region.lexFrom .any l2.toArray fuel k listed:=by
  intro fuel
  induction fuel with
  | zero=>intro k listed;simp only [Region.lexFrom,cu]
  | succ fuel ih=>intro k listed;simp only [Region.lexFrom,cu,hfree,ih]
 unfold Region.lexB
 rw [oR,hsz]
 congr 1
 unfold Region.noSelect
 rw [Bool.eq_iff_iff,Array.all_eq_true,Array.all_eq_true]
 have key:∀ o1 o2,Alike o1 o2->∀ f:Op->Bool,(∀ x y,f (.move x)=f (.move y))->f o1.op=f o2.op:=fun o1 o2 h3 f hf=>by
  rcases h3.op with h | ⟨x,y,h,h'⟩
  ·rw [h]
  ·rw [h,h',hf]
 constructor
 ·intro hh j hj
  rcases bM j with ⟨h1,h2⟩ | ⟨o1,o2,h1,h2,h3⟩
  ·rw [List.getElem?_eq_none_iff] at h2
   simp at hj;omega
  ·have:=hh j (by rw [hsz];exact hj)
   have e1:l1.toArray[j]'(by rw [hsz];exact hj)=o1:=by
    have:=cA l1 j;rw [h1,Array.getElem?_eq_getElem (by rw [hsz];exact hj)] at this;exact Option.some.inj this
   have e2:l2.toArray[j]=o2:=by
    have:=cA l2 j;rw [h2,Array.getElem?_eq_getElem hj] at this;exact Option.some.inj this
   rw [e1] at this
   rw [e2]
   rcases h3.op with h | ⟨x,y,h,h'⟩
   ·rw [<-h];exact this
   ·rw [h']
 ·intro hh j hj
  rcases bM j with ⟨h1,h2⟩ | ⟨o1,o2,h1,h2,h3⟩
  ·rw [List.getElem?_eq_none_iff] at h1
   simp at hj;omega
  ·have:=hh j (by rw [<-hsz];exact hj)
   have e1:l1.toArray[j]=o1:=by
    have:=cA l1 j;rw [h1,Array.getElem?_eq_getElem hj] at this;exact Option.some.inj this
   have e2:l2.toArray[j]'(by rw [<-hsz];exact hj)=o2:=by
    have:=cA l2 j;rw [h2,Array.getElem?_eq_getElem (by rw [<-hsz];exact hj)] at this;exact Option.some.inj this
   rw [e2] at this
   rw [e1]
   rcases h3.op with h | ⟨x,y,h,h'⟩
   ·rw [h];exact this
   ·rw [h]
open Classical in
def oT (L:Nat->Prop) (H:List (Option ag)):List (Option ag):=(List.range H.length).map fun q=>if L q then nth H q else none
theorem xP {α:Type} : ∀ (l:List (Option α)) (q:Nat),nth l q=(l[q]?).join
 | [],q=>by cases q<;>rfl
 | x::l,0=>rfl
 | x::l,q+1=>by simp only [nth,List.getElem?_cons_succ,xP l q]
theorem ni {L:Nat->Prop} {H:List (Option ag)} {q:Nat} {bk:ag} : nth (oT L H) q=some bk↔L q/\nth H q=some bk:=by
 unfold oT
 rw [xP,List.getElem?_map]
 rcases Nat.lt_or_ge q H.length with h | h
 ·rw [List.getElem?_range h]
  simp only [Option.map_some,Option.join_some]
  split
  ·rename_i hl;simp [hl]
  ·rename_i hl;simp [hl]
 ·rw [List.getElem?_eq_none (by simpa using h)]
  constructor
  ·intro h;cases h
  ·rintro ⟨_,h2⟩
   have:=iW h2
   omega
theorem Jr (L:Nat->Prop) (H:List (Option ag)):(oT L H).length=H.length:=by simp [oT]
theorem Jt (l:List Oper):eM l 0=0:=by simp [eM]
theorem Oo:∀ (l:List Oper) {i j:Nat},i<=j->eM l i<=eM l j
 | [],i,j,_=>by simp [eM]
 | o::l,0,j,_=>by rw [Jt];omega
 | o::l,i+1,0,h=>by omega
 | o::l,i+1,j+1,h=>by
  rw [rA,rA]
  have:=Oo l (i:=i) (j:=j) (by omega)
  omega
theorem Oq:∀ (l:List Oper) {i:Nat} {o:Oper},l[i]? = some o->aO o.op=true->eM l (i+1)=eM l i+1
 | [],i,o,h,_=>by simp at h
 | x::l,0,o,h,ha=>by
  simp at h;subst h
  rw [rA,Jt,Jt,if_pos ha]
 | x::l,i+1,o,h,ha=>by
  rw [rA,rA,Oq l (i:=i) (by simpa using h) ha]
  omega
theorem TV:∀ (l:List Oper) {k:Nat},k<eM l l.length->∃ i o,l[i]? = some o/\aO o.op=true/\eM l i=k
 | [],k,h=>by simp [eM] at h
 | x::l,k,h=>by
  rw [List.length_cons,rA] at h
  by_cases ha:aO x.op=true
  ·rw [if_pos ha] at h
   cases k with
   | zero=>exact ⟨0,x,rfl,ha,Jt _⟩
   | succ k =>
    obtain ⟨i,o,h1,h2,h3⟩:=TV l (k:=k) (by omega)
    exact ⟨i+1,o,by simpa using h1,h2,by rw [rA,if_pos ha,h3];omega⟩
  ·rw [if_neg ha] at h
   obtain ⟨i,o,h1,h2,h3⟩:=TV l (k:=k) (by omega)
   exact ⟨i+1,o,by simpa using h1,h2,by rw [rA,if_neg ha,h3];omega⟩
theorem zu5 {l:List Oper} {i j:Nat} {o o':Oper} (hi:l[i]? = some o) (ha:aO o.op=true) (hj:l[j]? = some o') (nC:aO o'.op=true) (h:eM l i=eM l j):i=j:=by
 rcases Nat.lt_trichotomy i j with hlt | heq | hgt
 ·have:=Oq l hi ha
  have:=Oo l (i:=i+1) (j:=j) (by omega)
  omega
 ·exact heq
 ·have:=Oq l hj nC
  have:=Oo l (i:=j+1) (j:=i) (by omega)
  omega
theorem TW {P:Program} : ∀ {l:List Oper} {zs:List (List Lf)},Fx P l=some zs->zs.length=eM l l.length/\∀ (i:Nat) o t,l[i]? = some o->o.op = .alloc t->∃ z,zs[eM l i]? = some z/\zeroCells P t=some z
 | [],zs,h=>by
  simp [Fx] at h;subst h
  exact ⟨by simp [eM],fun i o t h=>by simp at h⟩
 | x::l,zs,h=>by
  unfold Fx at h
  split at h
  ·rename_i t hop
   split at h
   ·rename_i z zs' hz hzs
    cases h
    obtain ⟨h1,h2⟩:=TW hzs
    have ha:aO x.op=true:=by rw [hop];rfl
    refine ⟨by rw [List.length_cons,List.length_cons,rA,if_pos ha,h1];omega,fun i o t' ho ur=>?_⟩
    cases i with
    | zero =>
     simp at ho;subst ho
     rw [hop] at ur;cases ur
     exact ⟨z,by rw [Jt];rfl,hz⟩
    | succ i =>
     obtain ⟨z',h3,h4⟩:=h2 i o t' (by simpa using ho) ur
     exact ⟨z',by rw [rA,if_pos ha,Nat.add_comm,List.getElem?_cons_succ];exact h3,h4⟩
   ·cases h
  ·rename_i hno
   obtain ⟨h1,h2⟩:=TW h
   have ha:¬ aO x.op=true:=fun ha=>by
    cases hop:x.op<;>rw [hop] at ha<;>simp [aO] at ha
    exact hno _ hop
   refine ⟨by rw [List.length_cons,rA,if_neg ha,h1];omega,fun i o t' ho ur=>?_⟩
   cases i with
   | zero =>
    simp at ho;subst ho
    exact absurd ur (hno t')
   | succ i =>
    obtain ⟨z',h3,h4⟩:=h2 i o t' (by simpa using ho) ur
    exact ⟨z',by rw [rA,if_neg ha,Nat.zero_add];exact h3,h4⟩
theorem TX {s:Nat->Nat} : ∀ {n p:Nat},(∀ i,i<n->s i<=s (i+1))->s 0=0->p<s n->∃ i,i<n/\s i<=p/\p<s (i+1)
 | 0,p,_,h0,h=>by omega
 | n+1,p,hm,h0,h=>by
  rcases Nat.lt_or_ge p (s n) with hlt | hge
  ·obtain ⟨i,h1,h2,h3⟩:=TX (n:=n) (fun i hi=>hm i (by omega)) h0 hlt
   exact ⟨i,by omega,h2,h3⟩
  ·exact ⟨n,by omega,hge,h⟩
theorem zxZ {s:Nat->Nat} {n:Nat} (hm:∀ i,i<n->s i<=s (i+1)):∀ {i j:Nat},i<=j->j<=n->s i<=s j:=by
 intro i j hij
 induction hij with
 | refl=>intro _;exact Nat.le_refl _
 | step h ih=>intro hj;exact Nat.le_trans (ih (by omega)) (hm _ (by omega))
theorem V.qC {O:Nat->DV} {a b:V} (h:a.qf b=true):b.good O:=by
 have key:∀ a b:Lf,a.qf b=true->b.good O:=fun a b h=>by
  unfold Lf.qf at h
  split at h<;>first | trivial | cases h
 have keys:∀ a b:List Lf,Fw a b=true->∀ x∈b,x.good O:=fun a=>by
  induction a with
  | nil=>intro b h x hx;cases b with
   | nil=>cases hx
   | cons y l=>cases h
  | cons a l ih =>
   intro b h x hx
   cases b with
   | nil=>cases hx
   | cons y l' =>
    simp only [Fw,Bool.and_eq_true] at h
    rcases List.mem_cons.1 hx with rfl | hx
    ·exact key _ _ h.1
    ·exact ih l' h.2 x hx
 unfold V.qf at h
 split at h
 ·exact V.cg.2 (V1.ah.2 (key _ _ h))
 ·exact V.cg.2 (V1.aP.2 (keys _ _ h))
 ·cases h
theorem zlt {O:Nat->DV} : ∀ {a b:List V},B_ a b=true->∀ v∈b,v.good O
 | [],[],_,v,hv=>by cases hv
 | a::l,b::l',h,v,hv=>by
  simp only [B_,Bool.and_eq_true] at h
  rcases List.mem_cons.1 hv with rfl | hv
  ·exact V.qC h.1
  ·exact zlt h.2 v hv
 | [],_::_,h,_,_=>by cases h
 | _::_,[],h,_,_=>by cases h
theorem zqT {r:RS} : ∀ {l:List Oper} {es:List (Nat×List V×V)},Ni r l es=true->∀ (i:Nat) o x args f vs v,l[i]? = some o->a_ o.op=some (x,args)->es[i]? = some (f,vs,v) ->
  qb (rd r [] x)=some (f,[])/\∃ vs',oE r [] args=some vs'/\B_ vs' vs=true
 | [],_,_,i,o,x,args,f,vs,v,ho,_,_=>by simp at ho
 | y::l,[],h,i,o,x,args,f,vs,v,ho,_,he=>by simp at he
 | y::l,e::es,h,i,o,x,args,f,vs,v,ho,hc,he=>by
  simp only [Ni,Bool.and_eq_true] at h
  cases i with
  | zero =>
   simp at ho he
   subst ho;subst he
   have h:=h.1
   rw [hc] at h
   simp only at h
   split at h
   ·rename_i f' vs' h1 h2
    simp only [Bool.and_eq_true] at h
    have:=Nat.eq_of_beq_eq_true h.1
    subst this
    exact ⟨h1,vs',h2,h.2⟩
   ·cases h
  | succ i=>exact zqT h.2 i o x args f vs v (by simpa using ho) hc (by simpa using he)
end Go.Sx
namespace Go.Sx
open Go.RowKit
section
variable {P:Program} {I:World->Prop} {S:bN} {F:aC} {E:Env} {gK:Nat} {O:Nat->DV}
theorem Gb (hS:bg P I gK S F) (hE:E.Ok gK) (hn0:S.n0=E.n0) (hI:∀ w,Fr E.W E.w0 w->I w) {ops:Array Oper} : ∀ (l:List Oper) (r:RS),M.sat F O (vQ P S false ops.toList l r) (fun r'=>∀ U a w,RR O E U r a w ->
  ∀ Q:Exit->Act->World->Prop,(∀ U' a' w',RR O E U' r' a' w'->Q .normal a' w')->wpList P ops Q l a w)
 | [],r=>au fun U a w h Q hQ=>hQ U a w h
 | o::l,r=>by
  unfold vQ
  refine ak (F9 (E:=E) hS hE hn0 hI false) fun r1 h1=>cH (Gb hS hE hn0 hI l r1) fun r' h2 U a w cF Q hQ=>?_
  have:=h1.1 rfl U a w cF (wpList P ops Q l) Q (fun U' a' w' h'=>h2 U' a' w' h' Q hQ)
  simp only [wpList]
  split
  ·rename_i hw;rw [if_pos hw] at this;exact .inl this
  ·rename_i hw;rw [if_neg hw] at this;exact this
theorem RR.drop {U:Nat->Loc} {r:RS} {a:Act} {w:World} (h:RR O E U r a w):RR O E U ⟨r.st,[]⟩ a w :=
 ⟨⟨h.act.defers,h.act.size,h.act.slot,fun e he=>by cases he⟩,h.hs⟩
theorem zrX (hS:bg P I gK S F) (hE:E.Ok gK) (hn0:S.n0=E.n0) (hI:∀ w,Fr E.W E.w0 w->I w) {ops:Array Oper} {n:Nat} {s:St} (iR:n<=ops.toList.length) (hm:Ry ops.toList n=true) :
  M.sat F O (Rz P S ops.toList n s) (fun s'=>∀ U a w,RR O E U ⟨s,[]⟩ a w->∀ Q:Exit->Act->World->Prop,(∀ U' a' w',RR O E U' ⟨s',[]⟩ a' w'->Q .normal a' w') ->
   wpAny P .any ops Q ops.size (Array.replicate ops.size false) a w):=by
 unfold Ry at hm
 generalize hpre:ops.toList.take n=pre at hm
 simp only [Bool.and_eq_true] at hm
 obtain ⟨⟨⟨⟨iz,Ju⟩,mD⟩,oR⟩,ec⟩:=hm
 have cY:nG .any ops:=by have:=gM ec;simpa using this
 have qD:pre.length=n:=by rw [<-hpre,List.length_take];omega
 unfold Rz
 refine aY (fun gz=>?_) (fun _=>aE)
 simp only [Bool.and_eq_true] at gz
 rw [hpre]
 refine bh fun zs hzs=>?_
 have AU:=Jq (E:=E) (F:=F) (O:=O) hS hE hn0 hI (ops:=pre.toArray) (b0:=s.hp.length) (hc:=(s.hp++zs.map fun _=>none).map uW) pre s.hp.length ⟨s,[]⟩ [] (fun o ho=>List.all_eq_true.1 iz o ho)
 simp only at AU
 refine ak AU fun z ⟨sg,hz⟩=>aY (fun m_=>?_) (fun _=>aE)
 simp only [Bool.and_eq_true] at m_
 obtain ⟨⟨Jv,hnlt⟩,hargs⟩:=m_
 obtain ⟨rf,hn',es⟩:=z
 simp only at hz hnlt hargs ⊢
 refine ak (Gb (E:=E) hS hE hn0 hI (ops:=ops) (ops.toList.drop n) ⟨⟨rf.st.sl,s.hp++zs.map (fun z=>some (.c true (z.map some)))++hn'⟩,rf.gl⟩) fun r2 me=>au fun U a w cF Q hQ=>?_
 obtain ⟨hzl,hza⟩:=TW hzs
 have mE:bH s.hp=true:=gz.2
 generalize hbase:s.hp.length=base at *
 -- the whole heap
 generalize hH:s.hp++zs.map (fun z=>some (ag.c true (z.map some)))++hn'=H at *
 have TY:H.length=base+zs.length+hn'.length:=by rw [<-hH];simp [hbase];omega
 have CU:∀ q,q<base->nth H q=nth s.hp q:=fun q hq=>by
  rw [<-hH,List.append_assoc,oI,if_pos (by omega)]
 have TZ:∀ k z,zs[k]? = some z->nth H (base+k)=some (.c true (z.map some)):=fun k z hk=>by
  have gL:k<zs.length:=by
   rcases Nat.lt_or_ge k zs.length with h | h
   ·exact h
   ·rw [List.getElem?_eq_none h] at hk;cases hk
  rw [<-hH,oI,if_pos (by simp [hbase];omega),oI,if_neg (by omega),hbase,Nat.add_sub_cancel_left,xP,List.getElem?_map,hk]
  rfl
 have AV:∀ p,nth H (base+zs.length+p)=nth hn' p:=fun p=>by
  rw [<-hH,oI,if_neg (by simp [hbase]),List.length_append,List.length_map,hbase,Nat.add_sub_cancel_left]
 have nJ:∀ q bk,nth H q=some bk->bk.lt base=true:=fun q bk hq=>by
  rcases Nat.lt_or_ge q base with h | h
  ·rw [CU q h] at hq
   have:=iO gz.2 hq
   rwa [hbase] at this
  ·rcases Nat.lt_or_ge q (base+zs.length) with h2 | h2
   ·have hk:=List.getElem?_eq_getElem (l:=zs) (i:=q-base) (by omega)
    have:=TZ _ _ hk
    rw [show base+(q-base)=q from by omega,hq] at this
    cases this
    have:=List.all_eq_true.1 Jv _ (List.mem_of_getElem? hk)
    simp only [Bool.and_eq_true] at this
    have h3:=this.2
    simp only [ag.lt,List.all_map]
    exact h3
   ·have:=AV (q-(base+zs.length))
    rw [show base+zs.length+(q-(base+zs.length))=q from by omega,hq] at this
    have:=iO hnlt this.symm
    simp only [Bool.and_eq_true] at this
    exact this.2
 have zl:∀ p bk,nth hn' p=some bk->bk.flat=true:=fun p bk hp=>by
  have:=iO hnlt hp
  simp only [Bool.and_eq_true] at this
  exact this.1
 -- who made which block
 have hs0:sg 0=0:=hz.s0
 have mC:∀ {i j:Nat},i<=j->j<=pre.length->sg i<=sg j:=fun h1 h2=>zxZ hz.mono h1 h2
 have hsn:∀ {i:Nat},i<=pre.length->sg i<=hn'.length:=fun h=>by rw [<-hz.sn];exact mC h (Nat.le_refl _)
 let made:Nat->Nat->Prop:=fun i q=>(∃ o,pre[i]? = some o/\aO o.op=true/\q=base+eM pre i)\/(base+zs.length+sg i<=q/\q<base+zs.length+sg (i+1))
 let live:Array Bool->Nat->Prop:=fun listed q=>q<base\/∃ i,i<pre.length/\listed.getD i false=true/\made i q
 have Jw:∀ {i:Nat} {o:Oper},pre[i]? = some o->aO o.op=true->eM pre i<zs.length:=fun {i o} h1 h2=>by
  have fY:i<pre.length:=by
   rcases Nat.lt_or_ge i pre.length with h | h
   ·exact h
   ·rw [List.getElem?_eq_none h] at h1;cases h1
  have:=Oq pre h1 h2
  have:=Oo pre (i:=i+1) (j:=pre.length) fY
  omega
 have tu:∀ {i j q:Nat},i<pre.length->j<pre.length->made i q->made j q->i=j:=by
  intro i j q hi hj h1 h2
  rcases h1 with ⟨o,a1,a2,a3⟩ | ⟨a1,a2⟩<;>rcases h2 with ⟨o',b1,b2,b3⟩ | ⟨b1,b2⟩
  ·exact zu5 a1 a2 b1 b2 (by omega)
  ·have:=Jw a1 a2;omega
  ·have:=Jw b1 b2;omega
  ·rcases Nat.lt_trichotomy i j with h | h | h
   ·have:=mC (i:=i+1) (j:=j) h (by omega);omega
   ·exact h
   ·have:=mC (i:=j+1) (j:=i) h (by omega);omega
 have r9:∀ {i q:Nat},made i q->base<=q:=by
  intro i q h
  rcases h with ⟨o,_,_,h⟩ | ⟨h,_⟩<;>omega
 have Jx:∀ {listed:Array Bool} {i q:Nat},live listed q->live (listed.setIfInBounds i true) q:=by
  intro listed i q h
  rcases h with h | ⟨j,h1,h2,h3⟩
  ·exact .inl h
  ·exact .inr ⟨j,h1,uq h2,h3⟩
 have hnew:∀ {listed:Array Bool} {i q:Nat},live (listed.setIfInBounds i true) q->live listed q\/(i<pre.length/\made i q):=by
  intro listed i q h
  rcases h with h | ⟨j,h1,h2,h3⟩
  ·exact .inl (.inl h)
  ·rcases CH h2 with rfl | h2
   ·exact .inr ⟨h1,h3⟩
   ·exact .inl (.inr ⟨j,h1,h2,h3⟩)
 have hfresh:∀ {listed:Array Bool} {i q:Nat},i<pre.length->listed.getD i false=false->made i q->¬ live listed q:=by
  intro listed i q hi hl hq h
  rcases h with h | ⟨j,h1,h2,h3⟩
  ·have:=r9 hq;omega
  ·have:=tu hi h1 hq h3
   subst this
   rw [hl] at h2;cases h2
 have qE:E.n0<=H.length:=by have:=cF.hs.len;rw [TY];simp only at this;omega
 have oU:E.n0<=base:=by have:=cF.hs.len;simp only at this;omega
 -- more or AW known
 have hsub:∀ {L L':Nat->Prop} {θ θ':Nat->Loc} {w1:World},HS E O θ (oT L H) w1->(∀ q,L' q->L q/\θ' q=θ q)->(∀ q,q<base->θ' q=θ q)->HS E O θ' (oT L' H) w1:=fun {L L' θ θ' w1} h h1 h2 =>
  h.grow (N:=fun _=>False) (Below.refl _ _) oU (by rw [Jr];exact qE) h2 (fun q bk hq=>by
   obtain ⟨g1,g2⟩:=ni.1 hq
   obtain ⟨g3,g4⟩:=h1 q g1
   exact .inl ⟨ni.2 ⟨g3,g2⟩,g4,nJ q bk g2⟩) (fun _ _ _ _ h=>h.elim)
 have hstart:∀ {listed:Array Bool} {θ:Nat->Loc} {w1:World},HS E O θ (oT (live listed) H) w1->HS E O θ s.hp w1:=fun {listed θ w1} h =>
  h.grow (N:=fun _=>False) (base:=base) (Below.refl _ _) oU (by rw [hbase];exact oU) (fun _ _=>rfl) (fun q bk hq=>by
   have xL:=iW hq
   have e:=CU q (by omega)
   rw [hq] at e
   exact .inl ⟨ni.2 ⟨.inl (by omega),e⟩,rfl,nJ q bk e⟩) (fun _ _ _ _ h=>h.elim)
 have kq:∀ i,i<pre.length->∃ e,es[i]? = some e:=fun i hi=>⟨_,List.getElem?_eq_getElem (by rw [hz.len];exact hi)⟩
 have cA:∀ j:Nat,pre.toArray[j]? = pre[j]?:=fun j=>by simp
 have bL:∀ {i:Nat} {o:Oper},pre[i]? = some o->i<pre.length:=fun {i o} h=>by
  rcases Nat.lt_or_ge i pre.length with h1 | h1
  ·exact h1
  ·rw [List.getElem?_eq_none h1] at h;cases h
 have gj:∀ (θ:Nat->Loc) (j:Nat),((List.zipWith (fun o e=>dO (e.2.2.aa O θ) o) pre es).toArray)[j]? = (match pre[j]?,es[j]? with | some o,some e=>some (dO (e.2.2.aa O θ) o) | _,_=>none):=fun θ j=>by
  simp [List.getElem?_zipWith]
  cases pre[j]?<;>cases es[j]?<;>rfl
 have cU:∀ (v:Value) (o:Oper),(dO v o).dst=o.dst/\(dO v o).guard=o.guard/\(dO v o).after=o.after:=fun v o=>by
  unfold dO;split<;>exact ⟨rfl,rfl,rfl⟩
 have hsz:∀ θ:Nat->Loc,(List.zipWith (fun o e=>dO (e.2.2.aa O θ) o) pre es).toArray.size=pre.toArray.size:=fun θ=>by simp [hz.len]
 have jo:∀ {i:Nat} {o:Oper},pre[i]? = some o->(ku o.op=false->kN o.op=true)/\(ku o.op=true->o.guard=none):=fun {i o} h=>by
  have:=List.all_eq_true.1 iz o (List.mem_of_getElem? h)
  unfold Ca at this
  cases he:ku o.op<;>rw [he] at this<;>simp at this<;>simp [this]
 have bG:∀ i,i∈Nh pre↔∃ o,pre[i]? = some o/\ku o.op=true:=fun i=>by
  unfold Nh
  rw [List.mem_map]
  constructor
  ·rintro ⟨⟨o,j⟩,h,rfl⟩
   obtain ⟨h1,h2⟩:=List.mem_filter.1 h
   exact ⟨o,List.mem_zipIdx_iff_getElem?.1 h1,h2⟩
  ·rintro ⟨o,h1,h2⟩
   exact ⟨(o,i),List.mem_filter.2 ⟨List.mem_zipIdx_iff_getElem?.2 h1,h2⟩,rfl⟩
 have tv:∀ {i:Nat} {o:Oper},pre[i]? = some o->ku o.op=true->((a_ o.op).isSome=true->∀ j,j<i->(∃ o',pre[j]? = some o'/\(a_ o'.op).isSome=true)->j∈jK pre i (ju o)) /\
   (∀ t∈Ii o.op,∀ (j:Nat) o',pre[j]? = some o'->o'.dst=some t->j∈jK pre i (ju o)):=fun {i o} h he=>by
  have:=List.all_eq_true.1 Ju i ((bG i).2 ⟨o,h,he⟩)
  unfold zvL at this
  rw [h] at this
  simp only [Bool.and_eq_true,Bool.or_eq_true,Bool.not_eq_true'] at this
  obtain ⟨h1,h2⟩:=this
  refine ⟨fun hc j hj ⟨o',g1,g2⟩=>?_,fun t ht j o' ho' hd=>?_⟩
  ·rcases h1 with h1 | h1
   ·rw [hc] at h1;cases h1
   ·refine zoe h1 j (List.mem_filter.2 ⟨?_,by simpa [Nat.blt_eq] using hj⟩)
    unfold Z_
    exact List.mem_map.2 ⟨(o',j),List.mem_filter.2 ⟨List.mem_zipIdx_iff_getElem?.2 g1,g2⟩,rfl⟩
  ·have:=List.all_eq_true.1 h2 (o',j) (List.mem_zipIdx_iff_getElem?.2 ho')
   simp only [yN,hd,Bool.or_eq_true,Bool.not_eq_true'] at this
   rcases this with h | h
   ·rw [CM ht] at h;cases h
   ·exact pT h
 refine Ol cY (ops.toList.drop n) pre.toArray (by rw [<-hpre];simp) (fun i hi o ho j hj=>?_) a w ?_
 ·have hi':n<=i:=by simpa [qD] using hi
  have CV:(o,i)∈ops.toList.zipIdx.drop n:=by
   rw [List.mem_iff_getElem?]
   refine ⟨i-n,?_⟩
   rw [List.getElem?_drop,show n+(i-n)=i from by omega,List.getElem?_zipIdx]
   have:ops.toList[i]? = some o:=by simpa using ho
   rw [this]
   simp
  have:=List.all_eq_true.1 mD _ CV
  exact pT (List.all_eq_true.1 this j (List.mem_range.2 hj))
 have cu:∀ (θ:Nat->Loc) listed,Region.ready .any (List.zipWith (fun o e=>dO (e.2.2.aa O θ) o) pre es).toArray listed=Region.ready .any pre.toArray listed:=fun θ listed=>by
  unfold Region.ready
  rw [hsz θ]
  refine List.filter_congr fun j _=>?_
  rw [gj θ j,cA j]
  cases ho:pre[j]? with
  | none=>rfl
  | some o =>
   obtain ⟨e,he⟩:=kq j (bL ho)
   rw [he]
   have e1:=(cU (e.2.2.aa O θ) o).2.2
   dsimp only
   generalize dO (e.2.2.aa O θ) o=o1 at e1 ⊢
   cases o1;cases o
   simp only at e1
   subst e1
   rfl
 have eG:∀ (θ:Nat->Loc) (j:Nat),(((List.zipWith (fun o e=>dO (e.2.2.aa O θ) o) pre es).toArray)[j]?).bind (·.dst)=((pre.toArray)[j]?).bind (·.dst):=fun θ j=>by
  rw [gj θ j,cA j]
  cases ho:pre[j]? with
  | none=>rfl
  | some o =>
   obtain ⟨e,he⟩:=kq j (bL ho)
   rw [he]
   exact (cU _ o).1
 have wF:nG .any pre.toArray:=fun i o ho=>cY i o (by
  rw [cA] at ho
  have:ops.toList[i]? = some o:=by
   rw [<-hpre,List.getElem?_take] at ho
   split at ho
   ·exact ho
   ·cases ho
  simpa using this)
 refine zlr (P:=P) (Θ:=Nat->Loc) (ops:=pre.toArray) (ops':=fun θ=>(List.zipWith (fun o e=>dO (e.2.2.aa O θ) o) pre es).toArray) (st:=Nh pre) (val:=fun i θ=>(es.getD i default).2.2.aa O θ)
  (C:=fun θ w=>HS E O θ s.hp w) (D:=fun listed θ w=>HS E O θ (oT (live listed) H) w) (Sm:=fun listed θ θ'=>∀ q,live listed q->θ' q=θ q) (Qf:=fun θ a'=>aJ O θ rf a')
  (tm:=fun i=>match pre[i]? with | some o=>Ii o.op | none=>[]) wF cu eG (fun θ i hi=>?_) (fun i hi=>?_) (fun listed θ θ' w1 hd gB=>?_) (fun listed θ w1 hd=>hstart hd) (fun _ _ _ _=>rfl)
  (fun listed i θ θ' θ'' h1 h2 q hq=>(h2 q (Jx hq)).trans (h1 q hq)) (fun listed i θ θ' hi hs gB=>?_) (fun i o hi ho a1 w1 f args w2=>?_) (fun listed i θ w1 hi hd=>?_) (fun i o hi ho listed ee hrd t ht j o' ho' hd'=>?_)
  (fun i o hi ho listed hs fC hrd θ w1 hd a1 a2 mh lS=>?_) (fun θ a1 w1 listed hall j_ hd=>?_) pre.toArray.size (Array.replicate pre.toArray.size false) a w U (by simp) (Oj _ _) ?_ (fun θ' gB=>?_)
 ·-- what is zm
  show ((List.zipWith (fun o e=>dO (e.2.2.aa O θ) o) pre es).toArray)[i]? = _
  rw [gj θ i,cA i]
  cases ho:pre[i]? with
  | none=>rfl
  | some o =>
   obtain ⟨e,he⟩:=kq i (bL ho)
   rw [he]
   have:ku o.op=false:=by
    cases h:ku o.op with
    | false=>rfl
    | true=>exact absurd ((bG i).2 ⟨o,ho,h⟩) hi
   simp only [zqR this]
 ·obtain ⟨o,h1,h2⟩:=(bG i).1 hi
  obtain ⟨e,he⟩:=kq i (bL h1)
  refine ⟨o,by rw [cA];exact h1,(jo h1).2 h2,fun θ=>⟨dO (e.2.2.aa O θ) o,?_,by rw [(cU _ o).2.1];exact (jo h1).2 h2,(cU _ o).1,fun a1 w1=>?_⟩⟩
  ·show ((List.zipWith (fun o e=>dO (e.2.2.aa O θ) o) pre es).toArray)[i]? = _
   rw [gj θ i,h1,he]
  ·rw [zqS h2,List.getD_eq_getElem?_getD,he]
   simp [execOp,Act.eval]
 ·exact hsub hd (fun q hq=>⟨hq,gB q hq⟩) (fun q hq=>gB q (.inl hq))
 ·-- the values of what is listed
  obtain ⟨o,h1,h2⟩:=(bG i).1 hi
  have fY:=bL h1
  have wG:(listed.setIfInBounds i true).getD i false=true:=by
   have:i<listed.size:=by rw [hs];simpa using fY
   rw [Array.getD_eq_getD_getElem?,Array.getElem?_setIfInBounds_self_of_lt this]
   rfl
  have hmk:∀ q,made i q->θ' q=θ q:=fun q hq=>gB q (.inr ⟨i,fY,wG,hq⟩)
  cases gY:aO o.op with
  | true =>
   obtain ⟨e,he,dY⟩:=hz.alloc i o h1 gY
   simp only [List.getD_eq_getElem?_getD,he,Option.getD_some,dY,V.aa,V1.aa,Lf.aa]
   rw [hmk _ (.inl ⟨o,h1,gY,rfl⟩)]
  | false =>
   obtain ⟨⟨x,args⟩,hc⟩:=Option.isSome_iff_exists.1 (show (a_ o.op).isSome=true by
    unfold ku at h2;rw [gY] at h2;simpa using h2)
   obtain ⟨f,vs,v,he,hin,_,_⟩:=hz.call i o x args h1 hc
   simp only [List.getD_eq_getElem?_getD,he,Option.getD_some]
   refine V.fk hin fun q hq=>?_
   simp only [Bool.or_eq_true,Bool.and_eq_true] at hq
   rcases hq with hq | ⟨rU,lz⟩
   ·exact gB q (.inl (by simpa [Nat.blt_eq] using hq))
   ·refine hmk q (.inr ⟨?_,?_⟩)
    ·have:=Nat.le_of_ble_eq_true rU;simp [hbase] at this;omega
    ·simp [Nat.blt_eq,hbase] at lz;omega
 ·rw [cA] at ho
  have:ku o.op=false:=by
   cases h:ku o.op with
   | false=>rfl
   | true=>exact absurd ((bG i).2 ⟨o,ho,h⟩) hi
  exact Og ((jo ho).1 this) a1 w1 f args w2
 ·refine hsub hd (fun q hq=>⟨?_,rfl⟩) (fun _ _=>rfl)
  rcases hnew hq with h | ⟨fY,h⟩
  ·exact h
  ·exfalso
   have Gc:=List.getElem?_eq_getElem fY
   have hne:ku pre[i].op=false:=by
    cases h:ku pre[i].op with
    | false=>rfl
    | true=>exact absurd ((bG i).2 ⟨_,Gc,h⟩) hi
   unfold ku at hne
   rw [Bool.or_eq_false_iff] at hne
   rcases h with ⟨o,h1,h2,_⟩ | ⟨h1,h2⟩
   ·rw [Gc] at h1;cases h1
    rw [hne.1] at h2;cases h2
   ·rw [hz.still i _ Gc hne.2] at h2
    omega
 ·rw [cA] at ho ho'
  obtain ⟨o2,h1,h2⟩:=(bG i).1 hi
  rw [ho] at h1;cases h1
  rw [ho] at ht
  have:=(tv ho h2).2 t ht j o' ho' hd'
  exact xO ee (by rw [cA];exact ho) hrd j this
 ·-- a new block, or a call
  rw [cA] at ho
  obtain ⟨o2,h1,h2⟩:=(bG i).1 hi
  rw [ho] at h1;cases h1
  rw [ho] at lS
  have fY:=bL ho
  have iR:listed.getD i false=false:=by
   obtain ⟨h4,_⟩:=mem_ready.1 hrd
   rw [<-tq (by rw [hs];simpa using fY)]
   exact h4
  have T0:=hstart hd
  cases gY:aO o.op with
  | true =>
   obtain ⟨t,hop⟩:∃ t,o.op = .alloc t:=by
    cases hop:o.op<;>rw [hop] at gY<;>simp [aO] at gY
    exact ⟨_,rfl⟩
   obtain ⟨z,T1,rW⟩:=hza i o t ho hop
   obtain ⟨inf,zv,T2,vi,Cx,T3⟩:=Cu (O:=O) rW
   have Jy:z.all (Lf.lt s.hp.length)=true:=by
    have:=List.all_eq_true.1 Jv z (List.mem_of_getElem? T1)
    simp only [Bool.and_eq_true] at this
    rw [hbase];exact this.2
   have AX:=T0.new mE Jy Cx t
   rw [<-T3 θ] at AX
   have hb0:base<=base+eM pre i:=by omega
   refine .inl ⟨.pointer (some ⟨w1.heap.size,0,none⟩),w1.alloc (.cells zv.cells t),.inl ?_,fun q=>if q=base+eM pre i then ⟨w1.heap.size,0,false,0,0,none⟩ else θ q,fun q hq=>?_,?_,?_⟩
   ·simp [execOp,hop,Instr.alloc,zeroValue,typeInfo,T2,vi,newVar,newRow]
   ·exact if_neg fun e=>hfresh fY iR (.inl ⟨o,ho,gY,e⟩) hq
   ·right
    obtain ⟨e,he,dY⟩:=hz.alloc i o ho gY
    simp only [List.getD_eq_getElem?_getD,he,Option.getD_some,dY,V.aa,V1.aa,Lf.aa,if_pos,bV.val]
   ·refine hd.grow (N:=fun q=>q=base+eM pre i) (base:=base) ⟨rfl,rfl,rfl,by simp,fun k hk=>Below.heap_alloc _ _ _ hk⟩ oU (by rw [Jr];exact qE) (fun q hq=>if_neg (by omega)) (fun q bk hq=>?_) (fun q q' _ _ h h' _ _ _ hne=>absurd (h.trans h'.symm) hne)
    obtain ⟨g1,g2⟩:=ni.1 hq
    rcases hnew g1 with h | ⟨_,h⟩
    ·exact .inl ⟨ni.2 ⟨h,g2⟩,if_neg fun e=>hfresh fY iR (.inl ⟨o,ho,gY,e⟩) h,nJ q bk g2⟩
    ·have Tr:q=base+eM pre i:=by
      rcases h with ⟨o',k1,k2,k3⟩ | ⟨k1,k2⟩
      ·exact k3
      ·have hno:(a_ o.op).isSome=false:=by rw [hop];rfl
       rw [hz.still i o ho hno] at k2
       omega
     subst Tr
     rw [TZ _ _ T1] at g2
     cases g2
     refine .inr ⟨?_,.inr ⟨fun _ k hf=>.inl (by have hf:k=_:=hf;rw [hf];simp),fun k hf=>.inl (by have hf:k=_:=hf;rw [hf];simp)⟩,rfl⟩
     have j8:=AX.heap.aj s.hp.length (.c true (z.map some)) (by rw [oI,if_neg (by omega),Nat.sub_self];rfl)
     rw [uf] at j8
     have hk:=j8.keep (n:=base) (U':=fun q=>if q=base+eM pre i then ⟨w1.heap.size,0,false,0,0,none⟩ else θ q) (fun k hk=>by
      rw [if_neg (by omega),nD (by omega)]) (nJ _ _ (TZ _ _ T1))
     simp only [if_pos]
     exact hk
  | false =>
   obtain ⟨⟨x,args⟩,hc⟩:=Option.isSome_iff_exists.1 (show (a_ o.op).isSome=true by
    unfold ku at h2;rw [gY] at h2;simpa using h2)
   obtain ⟨f,vs,v,he,hin,_,og⟩:=hz.call i o x args ho hc
   obtain ⟨hf,vs',T4,heq⟩:=zqT hargs i o x args f vs v ho hc he
   have hcs:(a_ o.op).isSome=true:=by rw [hc];rfl
   have hsi1:=hsn (i:=i) (by omega)
   have hsi2:=hsn (i:=i+1) (by omega)
   have hsi3:=hz.mono i fY
   generalize ee:(s.hp++zs.map fun _=>none).map uW++(hn'.take (sg i)).map uW=d_ at og
   have T5:d_.length=base+zs.length+sg i:=by rw [<-ee];simp [hbase];omega
   have hcin:∀ j bk,nth d_ j=some bk->nth (oT (live listed) H) j=some bk/\bk.flat=true/\bk.own=false:=by
    intro j bk hj
    rw [<-ee,oI] at hj
    split at hj
    ·rename_i hjl
     obtain ⟨k1,k2,k3⟩:=ztg hj
     rw [oI] at k1
     split at k1
     ·rename_i i_
      rw [hbase] at i_
      exact ⟨ni.2 ⟨.inl i_,by rw [CU j i_];exact k1⟩,k2,k3⟩
     ·exfalso
      rw [xP,List.getElem?_map] at k1
      cases h:zs[j-s.hp.length]?<;>rw [h] at k1<;>cases k1
    ·rename_i hjl
     have hjl2:base+zs.length<=j:=by simp [hbase] at hjl;omega
     have Jz:((s.hp++zs.map fun _=>(none:Option ag)).map uW).length=base+zs.length:=by simp [hbase]
     rw [Jz] at hj
     obtain ⟨k1,k2,k3⟩:=ztg hj
     have c6:j-(base+zs.length)<sg i:=by
      have:=iW k1
      rw [List.length_take] at this
      omega
     have k4:nth hn' (j-(base+zs.length))=some bk:=by
      rw [xP,List.getElem?_take,if_pos c6,<-xP] at k1
      exact k1
     obtain ⟨i',m1,m2,m3⟩:=TX (fun k hk=>hz.mono k (by omega)) hs0 c6
     have Gc:=List.getElem?_eq_getElem (l:=pre) (i:=i') (by omega)
     have T6:(a_ pre[i'].op).isSome=true:=by
      cases h:(a_ pre[i'].op).isSome with
      | true=>rfl
      | false =>
       rw [hz.still i' _ Gc h] at m3
       omega
     have jX:=(tv ho h2).1 hcs i' m1 ⟨_,Gc,T6⟩
     have wG:=xO fC (by rw [cA];exact ho) hrd i' jX
     refine ⟨ni.2 ⟨.inr ⟨i',by omega,wG,.inr ⟨by omega,by omega⟩⟩,?_⟩,k2,k3⟩
     have:=AV (j-(base+zs.length))
     rw [show base+zs.length+(j-(base+zs.length))=j from by omega] at this
     rw [this];exact k4
   have hread:=hd.read hcin
   have fR:=zlt (O:=O) heq
   have AY:vs'.map (V.aa O θ)=vs.map (V.aa O θ):=zls θ heq
   obtain ⟨Ot,CW⟩:=og _ (zrW (Nat.le_trans hE.1 hd.fr.size)) θ w1 fR hread (hI w1 hd.fr)
   refine .inr ⟨f,(vs.map (V.aa O θ)).toArray,w1,?_,CW.mono fun e w' ⟨U2,c6,k1,k2,k3,k4⟩=>⟨v.aa O U2,k4,fun q=>if base+zs.length+sg i<=q/\q<base+zs.length+sg (i+1) then U2 q else θ q,fun q hq=>?_,?_,?_⟩⟩
   ·rw [zpz hcs lS,<-AY]
    rw [<-AY] at Ot
    exact zrV hc hf T4 mh w1 Ot
   ·exact if_neg fun hh=>hfresh fY iR (.inr hh) hq
   ·right
    simp only [List.getD_eq_getElem?_getD,he,Option.getD_some]
    refine V.fk hin fun q hq=>?_
    simp only [Bool.or_eq_true,Bool.and_eq_true] at hq
    rcases hq with hq | ⟨rU,lz⟩
    ·have hqb:q<base:=by simpa [Nat.blt_eq] using hq
     rw [if_neg (by omega),k1 q (by omega)]
    ·have e1:=Nat.le_of_ble_eq_true rU
     simp [hbase] at e1
     simp [Nat.blt_eq,hbase] at lz
     exact if_pos ⟨by omega,by omega⟩
   ·have kD:Below w1.heap.size w1 w':=k2.fr.below
    have CX:∀ q bk,base+zs.length+sg i<=q->q<base+zs.length+sg (i+1)->nth H q=some bk->nth c6 q=some bk:=by
     intro q bk rU lz hq
     have e1:=AV (q-(base+zs.length))
     rw [show base+zs.length+(q-(base+zs.length))=q from by omega,hq] at e1
     have e2:nth ((hn'.take (sg (i+1))).drop (sg i)) (q-(base+zs.length)-sg i)=some bk:=by
      rw [Jo,show sg i+(q-(base+zs.length)-sg i)=q-(base+zs.length) from by omega,xP,List.getElem?_take,if_pos (by omega),<-xP,<-e1]
     have e3:=k3 (q-(base+zs.length)-sg i) (by rw [e2];simp)
     rw [e2,T5,show base+zs.length+sg i+(q-(base+zs.length)-sg i)=q from by omega] at e3
     exact e3
    refine hd.grow (N:=fun q=>base+zs.length+sg i<=q/\q<base+zs.length+sg (i+1)) (base:=base) kD oU (by rw [Jr];exact qE) (fun q hq=>if_neg (by omega)) (fun q bk hq=>?_) (fun q q' bk aS h h' hq qs oJ hne b_ hn2 k dj cD=>?_)
    ·obtain ⟨g1,g2⟩:=ni.1 hq
     rcases hnew g1 with h | ⟨_,h⟩
     ·exact .inl ⟨ni.2 ⟨h,g2⟩,if_neg fun hh=>hfresh fY iR (.inr hh) h,nJ q bk g2⟩
     ·rcases h with ⟨o',m1,m2,m3⟩ | hr
      ·rw [ho] at m1;cases m1
       rw [gY] at m2;cases m2
      ·have e1:=CX q bk hr.1 hr.2 g2
       have wH:bk.flat=true:=by
        have:=AV (q-(base+zs.length))
        rw [show base+zs.length+(q-(base+zs.length))=q from by omega,g2] at this
        exact zl _ _ this.symm
       refine .inr ⟨?_,?_,hr⟩
       ·rw [if_pos hr]
        exact ((k2.heap.aj q bk e1).flat wH).keep (n:=base) (fun k hk=>by rw [if_neg (by omega)];exact (k1 k (by omega)).symm) (nJ q bk g2)
       ·rw [if_pos hr]
        rcases k2.old q bk e1 with h | h
        ·exact .inl h
        ·refine .inr ⟨h.wr,fun k hf=>?_⟩
         rcases h.rd k hf with h | h | ⟨j,bj,n1,n2,n3⟩
         ·exact .inl h
         ·exact h.elim
         ·exact .inr (.inr ⟨j,bj,(hcin j bj n1).1,(hcin j bj n1).2.2,n2,n3⟩)
    ·have g2:=(ni.1 hq).2
     have g2':=(ni.1 oJ).2
     simp only [if_pos h] at b_ dj
     simp only [if_pos h'] at hn2 cD
     exact k2.heap.apart q q' bk aS (CX q bk h.1 h.2 g2) qs (CX q' aS h'.1 h'.2 g2') hne b_ hn2 k dj cD
 ·-- all is listed
  show wpList P ops Q (ops.toList.drop n) a1 w1
  refine me θ a1 w1 ⟨⟨j_.defers,j_.size,j_.slot,j_.gl⟩,?_⟩ Q fun U' a' w' h'=>hQ U' a' w' h'.drop
  refine hd.grow (N:=fun _=>False) (base:=base) (Below.refl _ _) oU qE (fun _ _=>rfl) (fun q bk hq=>.inl ⟨ni.2 ⟨?_,hq⟩,rfl,nJ q bk hq⟩) (fun _ _ _ _ h=>h.elim)
  rcases Nat.lt_or_ge q base with h | h
  ·exact .inl h
  ·have xL:q<base+zs.length+hn'.length:=by rw [<-TY];exact iW hq
   rcases Nat.lt_or_ge q (base+zs.length) with h2 | h2
   ·obtain ⟨i,o,k1,k2,k3⟩:=TV pre (k:=q-base) (by omega)
    exact .inr ⟨i,bL k1,hall i (by simpa using bL k1),.inl ⟨o,k1,k2,by omega⟩⟩
   ·obtain ⟨i,k1,k2,k3⟩:=TX (s:=sg) (n:=pre.length) (p:=q-(base+zs.length)) hz.mono hs0 (by rw [hz.sn];omega)
    exact .inr ⟨i,k1,hall i (by simpa using k1),.inr ⟨by omega,by omega⟩⟩
 ·refine cF.hs.grow (N:=fun _=>False) (base:=base) (Below.refl _ _) oU (by rw [Jr];exact qE) (fun _ _=>rfl) (fun q bk hq=>?_) (fun _ _ _ _ h=>h.elim)
  obtain ⟨g1,g2⟩:=ni.1 hq
  rcases g1 with g1 | ⟨j,_,hj,_⟩
  ·exact .inl ⟨by rw [CU q g1] at g2;exact g2,rfl,nJ q bk g2⟩
  ·exfalso
   rw [Array.getD_eq_getD_getElem?,Array.getElem?_replicate] at hj
   split at hj<;>simp at hj
 ·have hU:∀ q,q<base->θ' q=U q:=fun q hq=>gB q (.inl hq)
  have j_:aJ O θ' ⟨s,[]⟩ a:=cF.act.ext (fun j hj=>hU j (by omega)) gz.1 (by simp) s.hp
  have fJ:HS E O θ' s.hp w:=cF.hs.mz mE (fun j hj=>hU j (by rw [<-hbase];exact hj))
  have CQ:=hz.quiet θ' a j_ ⟨w,fJ⟩ _ rfl (List.zipWith (fun o e=>dO (e.2.2.aa O θ') o) pre es).toArray (eG θ') (fun a'=>aJ O θ' rf a') (fun _ h=>h)
  have hB:Region.lexB .any (List.zipWith (fun o e=>dO (e.2.2.aa O θ') o) pre es).toArray=true:=by
   rw [<-oR]
   refine TU (by simp [hz.len]) fun j o1 o2 h1 h2=>?_
   rw [List.getElem?_map] at h2
   obtain ⟨o,g1,rfl⟩:=Option.map_eq_some_iff.1 h2
   obtain ⟨e,he⟩:=kq j (bL g1)
   rw [List.getElem?_zipWith,g1,he] at h1
   simp only [Option.some.injEq] at h1
   subst h1
   refine ⟨by rw [(cU _ o).1,(cU _ o).1],by rw [(cU _ o).2.1,(cU _ o).2.1],by rw [(cU _ o).2.2,(cU _ o).2.2],?_⟩
   unfold dO
   split
   ·exact .inr ⟨_,_,rfl,rfl⟩
   ·exact .inl rfl
  simp only [Region.lexB,Bool.and_eq_true] at hB
  have:=wpAnyQ_lex (P:=P) (C:=fun w=>HS E O θ' s.hp w) (md:=.any) hB.1 (List.zipWith (fun o e=>dO (e.2.2.aa O θ') o) pre es) 0 (Array.replicate (List.zipWith (fun o e=>dO (e.2.2.aa O θ') o) pre es).toArray.size false) a (by simp) (by simpa using hB.2) CQ
  rw [hsz θ'] at this
  simpa [hz.len] using this
end
end Go.Sx
namespace Go.Sx
open Go.RowKit
section
variable {P:Program} {I:World->Prop} {S:bN} {F:aC} {E:Env} {gK:Nat} {O:Nat->DV}
theorem A.fT {a b:A} (h:a.oG b=true):a=b:=by
 unfold A.oG at h
 split at h
 ·rw [Nat.eq_of_beq_eq_true h]
 ·rw [of_decide_eq_true h]
 ·rw [vV h]
 ·cases h
theorem Lf.fT {a b:Lf} (h:a.oG b=true):a=b:=by
 unfold Lf.oG at h
 split at h
 ·simp only [Bool.and_eq_true] at h
  rw [pN h.1,A.fT h.2]
 ·rw [A.fT h]
 ·simp only [Bool.and_eq_true] at h
  rw [Nat.eq_of_beq_eq_true h.1,Nat.eq_of_beq_eq_true h.2]
 ·rfl
 ·rw [Nat.eq_of_beq_eq_true h]
 ·rw [Nat.eq_of_beq_eq_true h]
 ·simp only [Bool.and_eq_true] at h
  rw [LT.jv h.1.1,A.fT h.1.2,Nat.eq_of_beq_eq_true h.2]
 ·cases h
theorem T7:∀ {l l':List (Option Lf)},Fz l l'=true->l=l'
 | [],[],_=>rfl
 | none::l,none::l',h=>by
  simp only [Fz] at h
  rw [T7 h]
 | some a::l,some b::l',h=>by
  simp only [Fz,Bool.and_eq_true] at h
  rw [Lf.fT h.1,T7 h.2]
 | [],none::_,h=>by cases h
 | [],some _::_,h=>by cases h
 | none::_,[],h=>by cases h
 | some _::_,[],h=>by cases h
 | none::_,some _::_,h=>by cases h
 | some _::_,none::_,h=>by cases h
theorem ag.fT {a b:ag} (h:a.oG b=true):a=b:=by
 unfold ag.oG at h
 split at h
 ·simp only [Bool.and_eq_true] at h
  rw [vV h.1,T7 h.2]
 ·simp only [Bool.and_eq_true] at h
  rw [vV h.1.1,IS h.1.2,A.fT h.2]
 ·simp only [Bool.and_eq_true] at h
  rw [vV h.1.1,Nat.eq_of_beq_eq_true h.1.2,A.fT h.2]
 ·simp only [Bool.and_eq_true] at h
  rw [vV h.1.1.1,vV h.1.1.2,IS h.1.2,A.fT h.2]
 ·cases h
theorem Ou:∀ {R hp:List (Option ag)} {q:Nat} {bk:ag},FA R hp=true->q<R.length->nth hp q=some bk->nth R q=some bk
 | [],_,q,bk,_,hq,_=>absurd hq (by simp)
 | x::l,none::l',0,bk,_,_,h=>by simp [nth] at h
 | x::l,none::l',q+1,bk,hk,hq,h=>Ou (R:=l) (hp:=l') hk (by simpa using hq) h
 | some x::l,some y::l',0,bk,hk,_,h=>by
  simp only [FA,Bool.and_eq_true] at hk
  simp only [nth,Option.some.injEq] at h ⊢
  rw [ag.fT hk.1,h]
 | some x::l,some y::l',q+1,bk,hk,hq,h=>by
  simp only [FA,Bool.and_eq_true] at hk
  exact Ou (R:=l) (hp:=l') hk.2 (by simpa using hq) h
 | none::_,some _::_,_,_,hk,_,_=>by cases hk
 | some _::_,[],_,_,hk,_,_=>by cases hk
 | none::_,[],_,_,hk,_,_=>by cases hk
theorem T8 {fp:List Nat} : ∀ (l:List (Option ag)) (j q:Nat),nth (dF fp j l) q=if cJ (j+q) fp then nth l q else none
 | [],j,q=>by cases q<;>simp [dF,nth]
 | x::l,j,0=>by simp [dF,nth]
 | x::l,j,q+1=>by
  simp only [dF,nth]
  rw [T8 l (j+1) q,show j+1+q=j+(q+1) from by omega]
theorem Ov {fp:List Nat} : ∀ (l:List (Option ag)) (j:Nat),(dF fp j l).length=l.length
 | [],_=>rfl
 | x::l,j=>by simp [dF,Ov l (j+1)]
theorem zlu {ts:List Nat} : ∀ (l:List (Option V)) (j:Nat),(sY ts j l).length=l.length
 | [],_=>rfl
 | x::l,j=>by simp [sY,zlu l (j+1)]
theorem zlv {ts:List Nat} : ∀ (l:List (Option V)) (j q:Nat),nth (sY ts j l) q=if cJ (j+q) ts then nth l q else none
 | [],j,q=>by cases q<;>simp [sY,nth]
 | x::l,j,0=>by simp [sY,nth]
 | x::l,j,q+1=>by
  simp only [sY,nth]
  rw [zlv l (j+1) q,show j+1+q=j+(q+1) from by omega]
theorem aD.refs {p:Nat->Bool} {U U':Nat->Loc} (hU:∀ q,p q=true->U' q=U q) {w:World} {r:Loc} {b:ag} (hl:b.dh p=true) (h:aD E O U w r b):aD E O U' w r b:=by
 cases b with
 | obj o k a=>exact h
 | v o ts a=>exact h
 | l o f ts a=>exact h
 | m=>cases hl
 | c o cs =>
  have h:cK O U w r o cs:=h
  refine (⟨h.nil,h.lt,fun i l hi=>?_,h.own,h.fz⟩:cK O U' w r o cs)
  obtain ⟨g1,g2⟩:=h.cell i l hi
  have hall:cs.all (dw (Lf.kz p))=true:=hl
  exact ⟨g1,by rw [g2,Lf.fk (iO hall hi) hU]⟩
theorem ag.iA {p p':Nat->Bool} (h:∀ q,p q=true->p' q=true) {b:ag} (hb:b.dh p=true):b.dh p'=true:=by
 cases b with
 | obj o k a=>rfl
 | v o ts a=>rfl
 | l o f ts a=>rfl
 | m=>cases hb
 | c o cs =>
  refine List.all_eq_true.2 fun x hx=>?_
  have:=List.all_eq_true.1 hb x hx
  cases x with
  | none=>rfl
  | some l =>
   have hl:l.kz p=true:=this
   show l.kz p'=true
   have:=TS (v:=.s (.one l)) h hl
   exact this
theorem zj.mono {m:Sem Next} {w:World} {K K':Value->World->Prop} (h:zj P m w K) (hk:∀ v w',K v w'->K' v w'):zj P m w K':=by
 rcases h with ⟨v,w',h1,h2⟩ | ⟨f,args,w1,h1,h2⟩
 ·exact .inl ⟨v,w',h1,hk _ _ h2⟩
 ·exact .inr ⟨f,args,w1,h1,h2.mono fun e w' ⟨v,h3,h4⟩=>⟨v,h3,hk _ _ h4⟩⟩
def CY (P:Program) (I:World->Prop) (gK:Nat) (O:Nat->DV) (o:Oper) (e:h_) (R:List (Option ag)) (H:List (Option ag)):Prop :=
 ∀ (E2:Env),E2.Ok gK->∀ U a,aJ O U ⟨⟨e.sl,R⟩,[]⟩ a->∀ w,HS E2 O U R w->I w ->
  zj P (execOp a.eval o) w fun v w'=>∃ (U':Nat->Loc) (hp':List (Option ag)),(∀ j,j<e.a->U' j=U j)/\HS E2 O U' hp' w'/\v=e.v.aa O U' /\
   (∀ q bk,q<e.a->nth hp' q=some bk->nth R q=some bk)/\(∀ q bk,q<e.a->nth R q=some bk->q∉e.ks->nth hp' q=some bk)/\(∀ q,e.a<=q->q<e.b->nth hp' q=nth H q)
structure mF (P:Program) (I:World->Prop) (gK:Nat) (O:Nat->DV) (base:Nat) (o:Oper) (e:h_) (H:List (Option ag)):Prop where
 fact:CY P I gK O o e (dF e.fp 0 (H.take e.a)) H
 ep:e.v.ep=true
 val:e.v.kz (mc base [] e.a e.b)=true
 ks:∀ q∈e.ks,base<=q/\q∈e.fp
 fpl:∀ q∈e.fp,q<e.a
 news:∀ q bk,e.a<=q->q<e.b->nth H q=some bk->bk.flat=true/\bk.dh (mc base e.fp e.a e.b)=true
theorem T9 {α:Type} (l:List (Option α)) (n q:Nat):nth (l.take n) q=if q<n then nth l q else none:=by
 rw [xP,List.getElem?_take]
 split
 ·rw [xP]
 ·rfl
theorem ztj (hS:bg P I gK S F) {base:Nat} {r:RS} {H:List (Option ag)} {dead:List Nat} {o:Oper} :
  M.sat F O (RC P S base r H dead o) (fun z=>z.2.a=H.length/\z.2.a<=z.2.b/\z.2.b=z.1.length/\z.1.take H.length=H/\mF P I gK O base o z.2 z.1):=by
 unfold RC
 dsimp only
 generalize uo:sY (Ao o.op) 0 r.st.sl=sl
 generalize hfp:((Nj H 60 ((Ao o.op).flatMap fun t=>match nth r.st.sl t with | some v=>Ij v | none=>[]) []).filter fun q=>!cJ q dead&&Nat.blt q H.length)=fp
 have JA:∀ q∈fp,q<H.length:=fun q hq=>by
  rw [<-hfp] at hq
  have:=(List.mem_filter.1 hq).2
  simp only [Bool.and_eq_true,Nat.blt_eq] at this
  exact this.2
 refine ak (Od (ι:={ E2:Env // E2.Ok gK }) fun E2=>CC (E:=E2.1) (r:=⟨⟨sl,dF fp 0 H⟩,[]⟩) (ctx:=[]) (o:=o) hS E2.2) fun res hres=>?_
 cases res with
 | val v =>
  refine aY (fun hc=>?_) (fun _=>aE)
  simp only [Bool.and_eq_true] at hc
  refine au ⟨rfl,Nat.le_refl _,rfl,by simp,⟨?_,hc.1,TS (fun q hq=>?_) hc.2,fun q hq=>(by cases hq),JA,fun q bk h1 h2=>(by dsimp only at h1 h2;omega)⟩⟩
  ·intro E2 zk U a ha w hh hI
   obtain ⟨hg,hr⟩:=hres ⟨E2,zk⟩ U a (by simpa using ha) (fun p hp=>by simp at hp) w (by simpa using hh) hI
   rw [List.take_length] at hh ⊢
   rcases hr with hr | ⟨f,args,hr,ee⟩
   ·exact .inl ⟨_,w,.inl hr,U,_,fun _ _=>rfl,hh,rfl,fun _ _ _ h=>h,fun _ _ _ h _=>h,fun q h1 h2=>(by dsimp only at h1 h2;omega)⟩
   ·exact .inr ⟨f,args,w,hr,ee.mono fun e w' ⟨he,hb⟩=>⟨_,he,U,_,fun _ _=>rfl,hh.bK hb,rfl,fun _ _ _ h=>h,fun _ _ _ h _=>h,fun q h1 h2=>(by dsimp only at h1 h2;omega)⟩⟩
  ·unfold mc at hq ⊢
   simp only [cJ,Bool.or_eq_true,Bool.and_eq_true] at hq ⊢
   rcases hq with (hq | hq) | hq
   ·exact .inl (.inl hq)
   ·cases hq
   ·have:=Nat.le_of_ble_eq_true hq.1
    have h2:=hq.2
    simp [Nat.blt_eq] at h2
 | hp v hp' =>
  cases v with
  | none=>exact aE
  | some v =>
   refine aY (fun hc=>?_) (fun _=>aE)
   simp only [Bool.and_eq_true] at hc
   obtain ⟨⟨⟨⟨⟨h1,h2⟩,h3⟩,h4⟩,h5⟩,h6⟩:=hc
   have h1:=Nat.le_of_ble_eq_true h1
   have hlen:(H++hp'.drop H.length).length=hp'.length:=by simp;omega
   have hnw:∀ q,H.length<=q->nth (H++hp'.drop H.length) q=nth hp' q:=fun q hq=>by
    rw [oI,if_neg (by omega),Jo,show H.length+(q-H.length)=q from by omega]
   refine au ⟨rfl,h1,hlen.symm,by simp,⟨?_,h5,h6,fun q hq=>?_,JA,fun q bk g1 g2 hq=>?_⟩⟩
   ·intro E2 zk U a ha w hh hI
    have TO:(H++hp'.drop H.length).take H.length=H:=by simp
    rw [TO] at ha hh ⊢
    have hr:=hres ⟨E2,zk⟩ U a ha (fun p hp=>by simp at hp) w hh hI
    have key:∀ nv w',(∃ U':Nat->Loc,(∀ j,j<(dF fp 0 H).length->U' j=U j)/\HS E2 O U' hp' w'/\∀ u,some v=some u->u.good O/\nv=some (u.aa O U')) ->
      ∃ x,nv=some x/\∃ (U':Nat->Loc) (c6:List (Option ag)),(∀ j,j<H.length->U' j=U j)/\HS E2 O U' c6 w'/\x=v.aa O U' /\
       (∀ q bk,q<H.length->nth c6 q=some bk->nth (dF fp 0 H) q=some bk)/\(∀ q bk,q<H.length->nth (dF fp 0 H) q=some bk->q∉(fp.filter fun q=>(nth (dF fp 0 H) q).isSome&&(nth hp' q).isNone)->nth c6 q=some bk)/\(∀ q,H.length<=q->q<hp'.length->nth c6 q=nth (H++hp'.drop H.length) q):=by
     rintro nv w' ⟨U',k1,k2,k3⟩
     rw [Ov] at k1
     refine ⟨_,(k3 v rfl).2,U',hp',k1,k2,rfl,fun q bk g1 g2=>Ou h2 (by rw [Ov];exact g1) g2,fun q bk g1 g2 g3=>?_,fun q g1 g2=>(hnw q g1).symm⟩
     have hm:cJ q fp=true:=by
      rw [T8] at g2
      split at g2
      ·rename_i h;simpa using h
      ·cases g2
     cases hx:nth hp' q with
     | none =>
      exfalso
      refine g3 (List.mem_filter.2 ⟨pT hm,?_⟩)
      rw [g2,hx];rfl
     | some y =>
      have:=Ou h2 (by rw [Ov];exact g1) hx
      rw [g2] at this
      exact this.symm
    rcases hr with ⟨x,w',hr,hk⟩ | ⟨w',hr,hk⟩ | ⟨f,args,hr,ee⟩
    ·obtain ⟨y,e1,e2⟩:=key _ _ hk
     cases e1
     exact .inl ⟨_,w',.inl hr,e2⟩
    ·obtain ⟨y,e1,_⟩:=key _ _ hk
     cases e1
    ·refine .inr ⟨f,args,w,hr,ee.mono fun e w' ⟨x,he,hk⟩=>?_⟩
     obtain ⟨y,e1,e2⟩:=key _ _ hk
     cases e1
     exact ⟨_,he,e2⟩
   ·exact ⟨Nat.le_of_ble_eq_true (List.all_eq_true.1 h3 q hq),(List.mem_filter.1 hq).1⟩
   ·simp only at g1 g2 hq ⊢
    have e1:nth (hp'.drop H.length) (q-H.length)=some bk:=by
     rw [Jo,show H.length+(q-H.length)=q from by omega,<-hnw q g1]
     exact hq
    have:=iO h4 e1
    simpa using this
def gm:Nat->List h_->Nat->Prop
 | n,[],m=>n=m
 | n,e::r,m=>e.a=n/\n<=e.b/\gm e.b r m
theorem gm.le:∀ {n m:Nat} {es:List h_},gm n es m->n<=m
 | n,m,[],h=>by cases h;exact Nat.le_refl _
 | n,m,e::r,h=>Nat.le_trans h.2.1 (gm.le h.2.2)
theorem gm.at:∀ {n m:Nat} {es:List h_},gm n es m->∀ (i:Nat) (e:h_),es[i]? = some e->n<=e.a/\e.a<=e.b/\e.b<=m
 | n,m,[],_,i,e,h=>by simp at h
 | n,m,x::r,hc,0,e,h=>by
  simp at h;subst h
  exact ⟨by rw [hc.1];exact Nat.le_refl _,by rw [hc.1];exact hc.2.1,hc.2.2.le⟩
 | n,m,x::r,hc,i+1,e,h=>by
  have:=gm.at hc.2.2 i e (by simpa using h)
  exact ⟨Nat.le_trans hc.2.1 this.1,this.2⟩
theorem gm.lt {n m:Nat} {es:List h_} (hc:gm n es m):∀ (i j:Nat) (e e':h_),i<j->es[i]? = some e->es[j]? = some e'->e.b<=e'.a:=by
 induction es generalizing n with
 | nil=>intro i j e e' _ h;simp at h
 | cons x r ih =>
  intro i j e e' hij h h'
  cases j with
  | zero=>omega
  | succ j =>
   rw [List.getElem?_cons_succ] at h'
   cases i with
   | zero =>
    rw [List.getElem?_cons_zero] at h
    cases h
    exact (gm.at hc.2.2 j e' h').1
   | succ i =>
    rw [List.getElem?_cons_succ] at h
    exact ih hc.2.2 i j e e' (by omega) h h'
theorem gm.CZ:∀ {n m:Nat} {es:List h_},gm n es m->∀ q,n<=q->q<m->∃ (i:Nat) (e:h_),es[i]? = some e/\e.a<=q/\q<e.b
 | n,m,[],h,q,h1,h2=>by cases h;omega
 | n,m,x::r,hc,q,h1,h2=>by
  rcases Nat.lt_or_ge q x.b with h | h
  ·exact ⟨0,x,rfl,by rw [hc.1];exact h1,h⟩
  ·obtain ⟨i,e,g1,g2⟩:=gm.CZ hc.2.2 q h h2
   exact ⟨i+1,e,by simpa using g1,g2⟩
structure T_ (P:Program) (I:World->Prop) (gK:Nat) (O:Nat->DV) (E:Env) (ops:Array Oper) (base:Nat) (l:List Oper) (r:RS) (H:List (Option ag)) (r':RS) (H':List (Option ag)) (es:List h_):Prop where
 len:es.length=l.length
 hp:r'.st.hp=r.st.hp
 pre:H'.take H.length=H
 chain:gm H.length es H'.length
 quiet:∀ U a,aJ O U r a->(∃ w,HS E O U r.st.hp w)->∀ C:World->Prop,C=(fun w=>HS E O U r.st.hp w)->∀ ops':Array Oper,(∀ j:Nat,(ops'[j]?).bind (·.dst)=(ops[j]?).bind (·.dst)) ->
  ∀ Q:Act->Prop,(∀ a',aJ O U r' a'->Q a')->wpQuiet P ops' C Q (List.zipWith (fun o e=>eA (e.v.aa O U) o) l es) a
 vj:∀ (i:Nat) (o:Oper) (e:h_),l[i]? = some o->es[i]? = some e->bI o.op=true->mF P I gK O base o e H'
 still:∀ (i:Nat) (o:Oper) (e:h_),l[i]? = some o->es[i]? = some e->bI o.op=false->e.a=e.b/\e.ks=[]
theorem zqU {v:Value} {o:Oper} (h:bI o.op=false):eA v o=o:=by unfold eA;rw [h];rfl
theorem zqV {v:Value} {o:Oper} (h:bI o.op=true):eA v o = { o with op:=.move (.const v) }:=by unfold eA;rw [if_pos h]
theorem zrY {o:Oper} {r r1:RS} {v:V} (he:bI o.op=true) (hg:o.guard=none) (fR:v.good O) (hput:∀ U a (x:Value),aJ O U r a->(∀ u,some v=some u->u.good O/\x=u.aa O U)->aJ O U r1 (a.put o.dst x))
  (U:Nat->Loc) (a:Act) (fO:aJ O U r a) (C:World->Prop) (ops':Array Oper) :
  if Region.wanted (eA (v.aa O U) o) (yielded ops' a.tmps)=true then ∃ u,(∀ w,C w->(eA (v.aa O U) o).quietAt P a C w u)/\aJ O U r1 (a.put (eA (v.aa O U) o).dst u) else aJ O U r1 (a.put (eA (v.aa O U) o).dst undef):=by
 rw [zqV he]
 rw [if_pos (by simp [Region.wanted,hg])]
 refine ⟨v.aa O U,fun w _=>?_,hput U a _ fO fun u hu=>by cases hu;exact ⟨fR,rfl⟩⟩
 unfold Oper.quietAt
 simp [execOp,Act.eval,Oper.quietUpon]
theorem mF.grow {base:Nat} {o:Oper} {e:h_} {H H':List (Option ag)} {n:Nat} (h:mF P I gK O base o e H) (hb:e.b=H.length) (ha:e.a<=e.b) (hp:H'.take n=H) (hn:n=H.length):mF P I gK O base o e H':=by
 subst hn
 have hq:∀ q,q<H.length->nth H' q=nth H q:=fun q hq=>by
  have:=congrArg (fun l=>nth l q) hp
  simp only [T9,if_pos hq] at this
  exact this
 have ht:H'.take e.a=H.take e.a:=On hp (by omega)
 refine ⟨?_,h.ep,h.val,h.ks,h.fpl,fun q bk h1 h2 h3=>h.news q bk h1 h2 (by rw [<-hq q (by omega)];exact h3)⟩
 rw [ht]
 intro E2 zk U a fO w hh hI
 refine (h.fact E2 zk U a fO w hh hI).mono fun v w' ⟨U',hp',k1,k2,k3,k4,k5,k6⟩=>⟨U',hp',k1,k2,k3,k4,k5,fun q g1 g2=>by rw [k6 q g1 g2,hq q (by omega)]⟩
end
end Go.Sx
namespace Go.Sx
open Go.RowKit
section
variable {P:Program} {I:World->Prop} {S:bN} {F:aC} {E:Env} {gK:Nat} {O:Nat->DV}
theorem Ua (hS:bg P I gK S F) (hE:E.Ok gK) (hn0:S.n0=E.n0) (hI:∀ w,Fr E.W E.w0 w->I w) {ops:Array Oper} {base:Nat} : ∀ (l:List Oper) (r:RS) (H:List (Option ag)) (dead:List Nat),(∀ o∈l,Fy o=true) ->
  M.sat F O (FB P S ops.toList base l r H dead) (fun z=>T_ P I gK O E ops base l r H z.1 z.2.1 z.2.2)
 | [],r,H,dead,_=>by
  unfold FB
  exact au ⟨rfl,rfl,by simp,rfl,fun U a h _ C _ ops' _ Q hQ=>hQ a h,fun i o e h=>by simp at h,fun i o e h=>by simp at h⟩
 | o::l,r,H,dead,hl=>by
  have hh:=hl o (by simp)
  have hl':∀ o'∈l,Fy o'=true:=fun o' h'=>hl o' (List.mem_cons_of_mem _ h')
  unfold FB
  refine aY (fun gN=>?_) (fun hne=>?_)
  ·have hg:o.guard=none:=by
    unfold Fy at hh
    rw [gN] at hh
    simpa using hh
   refine ak (ztj (P:=P) (I:=I) hS) fun x hx=>?_
   obtain ⟨H1,e⟩:=x
   obtain ⟨h1,h2,h3,h4,h5⟩:=hx
   dsimp only at h1 h2 h3 h4 h5 ⊢
   refine ak ry fun r1 ff=>ak (Ua hS hE hn0 hI l r1 H1 (e.ks++dead) hl') fun z hz=>au ?_
   have hle:H.length<=H1.length:=by omega
   refine ⟨by simp [hz.len],hz.hp.trans ff.1,by rw [On hz.pre hle,h4],⟨h1,by omega,by rw [h3];exact hz.chain⟩,fun U a fO hex C hC ops' hd Q hQ=>?_,fun i o' e' ho' he' eJ=>?_,fun i o' e' ho' he' eJ=>?_⟩
   ·have:=zrY (P:=P) gN hg (V.dZ h5.ep) ff.2 U a fO C ops'
    simp only [List.zipWith_cons_cons,wpQuiet]
    split
    ·rename_i hw
     rw [if_pos hw] at this
     obtain ⟨v,h7,h8⟩:=this
     exact ⟨v,h7,hz.quiet U _ h8 (by rw [ff.1];exact hex) C (by rw [ff.1];exact hC) ops' hd Q hQ⟩
    ·rename_i hw
     rw [if_neg hw] at this
     exact hz.quiet U _ this (by rw [ff.1];exact hex) C (by rw [ff.1];exact hC) ops' hd Q hQ
   ·cases i with
    | zero =>
     rw [List.getElem?_cons_zero] at ho' he'
     cases ho';cases he'
     exact h5.grow h3 h2 hz.pre rfl
    | succ i =>
     rw [List.getElem?_cons_succ] at ho' he'
     exact hz.vj i o' e' ho' he' eJ
   ·cases i with
    | zero =>
     rw [List.getElem?_cons_zero] at ho' he'
     cases ho'
     rw [gN] at eJ;cases eJ
    | succ i =>
     rw [List.getElem?_cons_succ] at ho' he'
     exact hz.still i o' e' ho' he' eJ
  ·have hne:bI o.op=false:=by simpa using hne
   refine ak (F9 (E:=E) (ops:=ops) hS hE hn0 hI true) fun r1 ff=>ak (Ua hS hE hn0 hI l r1 H dead hl') fun z hz=>au ?_
   have hq:=ff.2 rfl
   refine ⟨by simp [hz.len],hz.hp.trans hq.1,hz.pre,⟨rfl,Nat.le_refl _,hz.chain⟩,fun U a fO hex C hC ops' hd Q hQ=>?_,fun i o' e' ho' he' eJ=>?_,fun i o' e' ho' he' eJ=>?_⟩
   ·have:=hq.2 U a fO hex C hC
    simp only [List.zipWith_cons_cons,wpQuiet]
    rw [zqU hne,zg hd]
    split
    ·rename_i hw
     rw [if_pos hw] at this
     obtain ⟨v,h7,h8⟩:=this
     exact ⟨v,h7,hz.quiet U _ h8 (by rw [hq.1];exact hex) C (by rw [hq.1];exact hC) ops' hd Q hQ⟩
    ·rename_i hw
     rw [if_neg hw] at this
     exact hz.quiet U _ this (by rw [hq.1];exact hex) C (by rw [hq.1];exact hC) ops' hd Q hQ
   ·cases i with
    | zero =>
     rw [List.getElem?_cons_zero] at ho' he'
     cases ho'
     rw [hne] at eJ;cases eJ
    | succ i =>
     rw [List.getElem?_cons_succ] at ho' he'
     exact hz.vj i o' e' ho' he' eJ
   ·cases i with
    | zero =>
     rw [List.getElem?_cons_zero] at ho' he'
     cases he'
     exact ⟨rfl,rfl⟩
    | succ i =>
     rw [List.getElem?_cons_succ] at ho' he'
     exact hz.still i o' e' ho' he' eJ
theorem zlw {α:Type} {q:α->Bool} : ∀ {l:List (Option α)},(∀ (i:Nat) (x:α),nth l i=some x->q x=true)->l.all (dw q)=true
 | [],_=>rfl
 | x::l,h=>by
  simp only [List.all_cons,Bool.and_eq_true]
  refine ⟨?_,zlw fun i y hy=>h (i+1) y hy⟩
  cases x with
  | none=>rfl
  | some y=>exact h 0 y rfl
theorem HS.JB {θ U2:Nat->Loc} {H R jn:List (Option ag)} {L L':Nat->Prop} {w w':World} {n m:Nat} (h:HS E O θ (oT L H) w) (hWE:∀ b,¬ E.W b)
  (hR:∀ q bk,nth R q=some bk->L q/\nth H q=some bk/\bk.flat=true/\bk.dh (fun r=>Nat.blt r m)=true)
  (hRl:∀ q bk,nth R q=some bk->q<n)
  (h2:HS (bA R θ w) O U2 jn w') (hU:∀ q,q<n->U2 q=θ q)
  (hnew:∀ q bk,n<=q->q<m->nth H q=some bk->nth jn q=some bk/\bk.flat=true/\bk.dh (fun r=>Nat.blt r m)=true)
  (hL':∀ q,L' q->(L q/\¬ (n<=q/\q<m)/\(∀ bk,nth R q=some bk->nth jn q=some bk))\/(n<=q/\q<m))
  (zn:∀ q bk,L q->nth H q=some bk->bk.dh (fun r=>!(Nat.ble n r&&Nat.blt r m))=true)
  (hn0:E.n0<=H.length) (gi:∀ q,q<E.n0->q<n):HS E O (fun q=>if n<=q/\q<m then U2 q else θ q) (oT L' H) w':=by
 generalize hθ':(fun q=>if n<=q/\q<m then U2 q else θ q)=θ'
 have hout:∀ q,¬ (n<=q/\q<m)->θ' q=θ q:=fun q hq=>by rw [<-hθ'];exact if_neg hq
 have hin:∀ q,n<=q->q<m->θ' q=U2 q:=fun q h1 h2=>by rw [<-hθ'];exact if_pos ⟨h1,h2⟩
 have Cy:∀ q,q<m->θ' q=U2 q:=fun q hq=>by
  rcases Nat.lt_or_ge q n with h1 | h1
  ·rw [hout q (by omega),hU q h1]
  ·exact hin q h1 hq
 have jc:∀ q bk,L q->nth H q=some bk->nth (oT L H) q=some bk:=fun q bk h1 h2=>ni.2 ⟨h1,h2⟩
 -- own blocks of R: not of what Ax
 have C0:∀ q bk,nth R q=some bk->nth (oT L H) q=some bk:=fun q bk hq=>jc q bk (hR q bk hq).1 (hR q bk hq).2.1
 have hsame:∀ q bk,L q->nth H q=some bk->nth R q=none->(θ q).nil=false->∀ b,bk.av w (θ q) b->w'.heap[b]? = w.heap[b]?:=by
  intro q bk qF hq vl aZ b hf
  refine h2.fr.block _ ((h.heap.aj q bk (jc q bk qF hq)).lt aZ hf) ?_
  rintro ⟨j,x,hx,fy,fN,he⟩
  refine h.heap.apart j q x bk (C0 j x hx) fy (jc q bk qF hq) (fun e=>?_) fN aZ b he hf
  subst e
  rw [hx] at vl;cases vl
 -- it Ax, and none was to look at it; or it az back
 have bM:∀ q bk,nth (oT L' H) q=some bk->(L q/\nth H q=some bk/\θ' q=θ q/\nth R q=none)\/(nth jn q=some bk/\θ' q=U2 q/\bk.flat=true/\bk.dh (fun r=>Nat.blt r m)=true):=by
  intro q bk hq
  obtain ⟨g1,g2⟩:=ni.1 hq
  rcases hL' q g1 with ⟨k1,k2,k3⟩ | ⟨k1,k2⟩
  ·cases hr:nth R q with
   | none=>exact .inl ⟨k1,g2,hout q k2,rfl⟩
   | some x =>
    obtain ⟨_,e1,e2,e3⟩:=hR q x hr
    rw [g2] at e1;cases e1
    exact .inr ⟨k3 bk hr,by rw [hout q k2,hU q (hRl q _ hr)],e2,e3⟩
  ·obtain ⟨e1,e2,e3⟩:=hnew q bk k1 k2 g2
   exact .inr ⟨e1,hin q k1 k2,e2,e3⟩
 have AZ:R.all (dw ag.flat)=true:=zlw fun q bk hq=>(hR q bk hq).2.2.1
 have nc:∀ q bk,L q->nth H q=some bk->nth R q=none->(θ q).nil=false->∀ b,bk.aB w' (θ q) b↔bk.aB w (θ q) b:=fun q bk qF hq vl aZ b =>
  (h.heap.aj q bk (jc q bk qF hq)).dU aZ (hsame q bk qF hq vl aZ) b
 have m9:∀ q bk,L q->nth H q=some bk->nth R q=none->(θ q).nil=false->∀ b,bk.av w' (θ q) b↔bk.av w (θ q) b:=fun q bk qF hq vl aZ b =>
  (h.heap.aj q bk (jc q bk qF hq)).cN aZ (hsame q bk qF hq vl aZ) b
 have tg:∀ q bk q' aS,L q->nth H q=some bk->nth R q=none->nth jn q'=some aS->aS.own=true->(θ q).nil=false->(U2 q').nil=false->∀ b,bk.av w (θ q) b->¬ aS.aB w' (U2 q') b:=by
  intro q bk q' aS qF hq vl oJ ho b_ hn2 b dj cD
  have hl:=(h.heap.aj q bk (jc q bk qF hq)).lt b_ dj
  have hne:∀ j x,nth R j=some x->j≠q:=fun j x hx e=>by subst e;rw [hx] at vl;cases vl
  rcases h2.old q' aS oJ with g | g
  ·rw [hn2] at g;cases g
  rcases g.wr ho b cD with g | ⟨j,x,hx,fy,fN,gX⟩
  ·have:w.heap.size<=b:=g
   omega
  ·exact h.heap.apart j q x bk (C0 j x hx) fy (jc q bk qF hq) (hne j x hx) fN b_ b gX dj
 have th:∀ q bk q' aS,L q->nth H q=some bk->nth R q=none->nth jn q'=some aS->bk.own=true->(θ q).nil=false->(U2 q').nil=false->∀ b,bk.aB w (θ q) b->¬ aS.av w' (U2 q') b:=by
  intro q bk q' aS qF hq vl oJ ho b_ hn2 b dj cD
  have hl:=(h.heap.aj q bk (jc q bk qF hq)).lt b_ ((h.heap.aj q bk (jc q bk qF hq)).rd b_ dj)
  have hne:∀ j x,nth R j=some x->j≠q:=fun j x hx e=>by subst e;rw [hx] at vl;cases vl
  rcases h2.old q' aS oJ with g | g
  ·rw [hn2] at g;cases g
  rcases g.rd b cD with g | ⟨j,x,hx,fy,fN,gX⟩ | ⟨j,x,hx,fN,gX⟩ | ⟨hnf,_⟩
  ·have:w.heap.size<=b:=g
   omega
  ·exact h.heap.apart j q x bk (C0 j x hx) fy (jc q bk qF hq) (hne j x hx) fN b_ b gX ((h.heap.aj q bk (jc q bk qF hq)).rd b_ dj)
  ·exact h.heap.apart q j bk x (jc q bk qF hq) ho (C0 j x hx) (Ne.symm (hne j x hx)) b_ fN b dj gX
  ·rw [AZ] at hnf;cases hnf
 refine ⟨⟨fun q bk hq=>?_,fun q q' bk aS hq ho oJ hne b_ hn2 b dj cD=>?_⟩,fun q bk hq=>?_,?_,by rw [Jr];exact hn0,fun j hj=>by rw [hout j (by have:=gi j hj;omega)];exact h.keep j hj⟩
 ·rcases bM q bk hq with ⟨k1,k2,k3,hr⟩ | ⟨k4,k5,g1,g2⟩
  ·rw [k3]
   refine ((h.heap.aj q bk (jc q bk k1 k2)).dG h2.fr.size (hsame q bk k1 k2 hr)).refs (p:=fun r=>!(Nat.ble n r&&Nat.blt r m)) (fun r cF=>hout r fun ⟨e1,e2⟩=>?_) (zn q bk k1 k2)
   simp only [Bool.not_eq_true',Bool.and_eq_false_iff] at cF
   rcases cF with cF | cF
   ·rw [Nat.ble_eq_true_of_le e1] at cF;cases cF
   ·rw [show Nat.blt r m=true from by simpa [Nat.blt_eq] using e2] at cF;cases cF
  ·rw [k5]
   exact ((h2.heap.aj q bk k4).flat g1).refs (p:=fun r=>Nat.blt r m) (fun r cF=>Cy r (by simpa [Nat.blt_eq] using cF)) g2
 ·rcases bM q bk hq with ⟨k1,k2,k3,k4⟩ | ⟨k4,k5,_,_⟩<;>rcases bM q' aS oJ with ⟨m1,m2,m3,m4⟩ | ⟨m4,m5,_,_⟩
  ·rw [k3] at b_ dj
   rw [m3] at hn2 cD
   exact h.heap.apart q q' bk aS (jc q bk k1 k2) ho (jc q' aS m1 m2) hne b_ hn2 b ((nc q bk k1 k2 k4 b_ b).1 dj) ((m9 q' aS m1 m2 m4 hn2 b).1 cD)
  ·rw [k3] at b_ dj
   rw [m5] at hn2 cD
   exact th q bk q' aS k1 k2 k4 m4 ho b_ hn2 b ((nc q bk k1 k2 k4 b_ b).1 dj) cD
  ·rw [k5] at b_ dj
   rw [m3] at hn2 cD
   exact tg q' aS q bk m1 m2 m4 k4 ho hn2 b_ b ((m9 q' aS m1 m2 m4 hn2 b).1 cD) dj
  ·rw [k5] at b_ dj
   rw [m5] at hn2 cD
   exact h2.heap.apart q q' bk aS k4 ho m4 hne b_ hn2 b dj cD
 ·rcases bM q bk hq with ⟨k1,k2,k3,k4⟩ | ⟨k4,k5,_,_⟩
  ·rw [k3]
   cases hn:(θ q).nil with
   | true=>exact .inl rfl
   | false =>
    rcases h.old q bk (jc q bk k1 k2) with g | g
    ·rw [hn] at g;cases g
    ·exact .inr ⟨fun o b hf=>g.wr o b ((nc q bk k1 k2 k4 hn b).1 hf),fun b hf=>g.rd b ((m9 q bk k1 k2 k4 hn b).1 hf)⟩
  ·rw [k5]
   rcases h2.old q bk k4 with g | g
   ·exact .inl g
   have hx0:∀ j x b,nth R j=some x->x.own=true->(θ j).nil=false->x.aB w (θ j) b->E.w0.heap.size<=b:=fun j x b hx fy fN gX=>by
    rcases h.old j x (C0 j x hx) with o | o
    ·rw [fN] at o;cases o
    rcases o.wr fy b gX with o | o
    ·exact o
    ·exact absurd o (hWE _)
   refine .inr ⟨fun o b hf=>?_,fun b hf=>?_⟩
   ·rcases g.wr o b hf with g | ⟨j,x,hx,fy,fN,gX⟩
    ·exact .inl (Nat.le_trans h.fr.size g)
    ·exact .inl (hx0 j x b hx fy fN gX)
   ·rcases g.rd b hf with g | ⟨j,x,hx,fy,fN,gX⟩ | ⟨j,x,hx,fN,gX⟩ | ⟨hnf,_⟩
    ·exact .inl (Nat.le_trans h.fr.size g)
    ·exact .inl (hx0 j x b hx fy fN gX)
    ·rcases h.old j x (C0 j x hx) with o | o
     ·rw [fN] at o;cases o
     exact o.rd b gX
    ·rw [AZ] at hnf;cases hnf
 ·refine ⟨h2.fr.os.trans h.fr.os,h2.fr.tape.trans h.fr.tape,h2.fr.output.trans h.fr.output,Nat.le_trans h.fr.size h2.fr.size,fun b hb hW=>?_⟩
  refine (h2.fr.block b (Nat.lt_of_lt_of_le hb h.fr.size) ?_).trans (h.fr.block b hb hW)
  rintro ⟨j,x,hx,fy,fN,gX⟩
  rcases h.old j x (C0 j x hx) with o | o
  ·rw [fN] at o;cases o
  rcases o.wr fy b gX with o | o
  ·omega
  ·exact hWE _ o
end
end Go.Sx
namespace Go.Sx
open Go.RowKit
section
variable {P:Program} {I:World->Prop} {S:bN} {F:aC} {E:Env} {gK:Nat} {O:Nat->DV}
theorem ztk {o:Oper} {a a':Act} (he:bI o.op=true) (h:∀ t∈Ao o.op,a'.tmps[t]? = a.tmps[t]?):execOp a.eval o=execOp a'.eval o:=by
 have key:∀ x∈RA o.op,a.eval x=a'.eval x:=fun x hx=>Jj fun t ht=>h t (List.mem_flatMap.2 ⟨x,hx,ht⟩)
 have qG:∀ y:Option Operand,(∀ x∈y.toList,a.eval x=a'.eval x)->y.map a.eval=y.map a'.eval:=fun y hy=>by
  cases y with
  | none=>rfl
  | some x=>simp [hy x (by simp)]
 cases hop:o.op<;>rw [hop] at he key<;>simp only [bI] at he<;>(try cases he)<;>simp only [RA] at key<;>simp only [execOp,hop]
 case box t x=>rw [key x (by simp)]
 case buildSlice t len ps =>
  have:(ps.map fun (i,x)=>(i,a.eval x))=ps.map fun (i,x)=>(i,a'.eval x):=by
   apply Array.ext'
   simp only [Array.toList_map]
   exact List.map_congr_left fun p hp=>by rw [key p.2 (List.mem_map.2 ⟨p,hp,rfl⟩)]
  rw [this]
 case makeSlice t l c=>rw [key l (by simp),key c (by simp)]
 case slice t x lo hi mx =>
  rw [key x (by simp),qG lo fun y hy=>key y (by simp at hy ⊢;exact .inr (.inl hy)),qG hi fun y hy=>key y (by simp at hy ⊢;exact .inr (.inr (.inl hy))),qG mx fun y hy=>key y (by simp at hy ⊢;exact .inr (.inr (.inr hy)))]
 case call c =>
  have hargs:c.args.map a.eval=c.args.map a'.eval:=by
   apply Array.ext'
   simp only [Array.toList_map]
   exact List.map_congr_left fun z hz=>key z (List.mem_append_right _ hz)
  split at he
  ·rename_i y fK
   simp only [resolve,fK,hargs,key y (List.mem_append_left _ (by rw [fK];simp))]
  ·rename_i fK
   simp only [resolve,fK,hargs]
  ·cases he
theorem V.mG {a b:V} (h:a.Cb b=true) (U:Nat->Loc):a.aa O U=b.aa O U:=by
 unfold V.Cb at h
 rcases Bool.or_eq_true _ _▸h with h | h
 ·exact V.iw h U
 ·split at h
  ·simp only [Bool.and_eq_true] at h
   have e1:=A.aH h.1 O
   have e2:=NA h.2
   subst e2
   simp only [V.aa,V1.aa,Lf.aa,A.int,e1]
  ·cases h
theorem zu6 {a a':A} {l:List (Nat×Alt)} (e:a.den O=a'.den O) (h:(Lf.alt a l).good O):(Lf.alt a' l).good O:=by
 have h2:0<=a.int O/\(eI l (a.int O).toNat).isSome=true:=h
 have h3:a.int O=a'.int O:=by unfold A.int;rw [e]
 rw [h3] at h2
 exact h2
theorem V.mH {a b:V} (h:a.Cb b=true) (hg:a.good O):b.good O:=by
 unfold V.Cb at h
 rcases Bool.or_eq_true _ _▸h with h | h
 ·exact V.qC h
 ·split at h
  ·simp only [Bool.and_eq_true] at h
   have e1:=A.aH h.1 O
   have e2:=NA h.2
   subst e2
   have hg:=V1.ah.1 (V.cg.1 hg)
   exact V.cg.2 (V1.ah.2 (zu6 e1 hg))
  ·cases h
theorem Ow:∀ {l l':List (Option V)},Ap l l'=true->l.length=l'.length/\∀ (t:Nat) v,nth l t=some v->∃ v',nth l' t=some v'/\v'.Cb v=true
 | [],[],_=>⟨rfl,fun t v h=>by cases t<;>simp [nth] at h⟩
 | none::l,_::l',h=>by
  obtain ⟨h1,h2⟩:=Ow (l:=l) (l':=l') h
  refine ⟨by simp [h1],fun t v hv=>?_⟩
  cases t with
  | zero=>simp [nth] at hv
  | succ t=>exact h2 t v hv
 | some v::l,some v'::l',h=>by
  simp only [Ap,Bool.and_eq_true] at h
  obtain ⟨h1,h2⟩:=Ow (l:=l) (l':=l') h.2
  refine ⟨by simp [h1],fun t u hu=>?_⟩
  cases t with
  | zero =>
   simp only [nth,Option.some.injEq] at hu
   subst hu
   exact ⟨v',rfl,h.1⟩
  | succ t=>exact h2 t u hu
 | [],_::_,h=>by cases h
 | none::_,[],h=>by cases h
 | some _::_,[],h=>by cases h
 | some _::_,none::_,h=>by cases h
theorem zlx {sl:List (Option V)} : ∀ {l:List Oper} {es:List h_},Im sl l es=true->∀ (i:Nat) (o:Oper) (e:h_),l[i]? = some o->es[i]? = some e->bI o.op=true->Ap e.sl sl=true
 | [],[],_,i,o,e,h,_,_=>by simp at h
 | x::l,y::es,hs,0,o,e,ho,he,eJ=>by
  simp only [Im,Bool.and_eq_true,Bool.or_eq_true,Bool.not_eq_true'] at hs
  rw [List.getElem?_cons_zero] at ho he
  cases ho;cases he
  rcases hs.1 with h | h
  ·rw [eJ] at h;cases h
  ·exact h
 | x::l,y::es,hs,i+1,o,e,ho,he,eJ=>by
  simp only [Im,Bool.and_eq_true] at hs
  rw [List.getElem?_cons_succ] at ho he
  exact zlx hs.2 i o e ho he eJ
 | [],_::_,hs,_,_,_,_,_,_=>by cases hs
 | _::_,[],hs,_,_,_,_,_,_=>by cases hs
theorem zqW {pre:List Oper} {es0:List h_} {base:Nat} : ∀ {l:List Oper} {es:List h_} {j:Nat},Ik pre es0 base j l es=true->∀ (i:Nat) (o:Oper) (e:h_),l[i]? = some o->es[i]? = some e->Cc pre es0 base (o,j+i) e=true
 | [],[],j,_,i,o,e,h,_=>by simp at h
 | x::l,y::es,j,hs,0,o,e,ho,he=>by
  simp only [Ik,Bool.and_eq_true] at hs
  rw [List.getElem?_cons_zero] at ho he
  cases ho;cases he
  exact hs.1
 | x::l,y::es,j,hs,i+1,o,e,ho,he=>by
  simp only [Ik,Bool.and_eq_true] at hs
  rw [List.getElem?_cons_succ] at ho he
  have:=zqW hs.2 i o e ho he
  rwa [show j+1+i=j+(i+1) from by omega] at this
 | [],_::_,j,hs,_,_,_,_,_=>by cases hs
 | _::_,[],j,hs,_,_,_,_,_=>by cases hs
theorem zqX {dead:List Nat} : ∀ (l:List (Option ag)) (j q:Nat) (bk:ag),nth (qg dead j l) q=some bk->nth l q=some bk/\(bk.own=true/\bk.shr=false)/\cJ (j+q) dead=false
 | [],j,q,bk,h=>by cases q<;>simp [qg,nth] at h
 | x::l,j,0,bk,h=>by
  simp only [qg,nth] at h
  split at h
  ·rename_i b
   split at h
   ·rename_i hc
    simp only [Bool.and_eq_true,Bool.not_eq_true'] at hc
    cases h
    exact ⟨rfl,hc.1,hc.2⟩
   ·cases h
  ·cases h
 | x::l,j,q+1,bk,h=>by
  simp only [qg,nth] at h ⊢
  have:=zqX l (j+1) q bk h
  rwa [show j+1+q=j+(q+1) from by omega] at this
theorem zog:∀ {es:List h_} (i:Nat) (e:h_) (q:Nat),es[i]? = some e->q∈e.ks->q∈Il es
 | [],i,e,q,h,_=>by simp at h
 | x::l,0,e,q,h,hq=>by
  rw [List.getElem?_cons_zero] at h;cases h
  exact List.mem_append_left _ hq
 | x::l,i+1,e,q,h,hq=>by
  rw [List.getElem?_cons_succ] at h
  exact List.mem_append_right _ (zog i e q h hq)
theorem Ub {base:Nat} : ∀ {l:List (Option ag)} {j:Nat} {bk:ag},nth (l.map (tR base)) j=some bk->∃ b,nth l j=some b/\bk=b.b9/\b.flat=true/\b.dh (fun q=>Nat.blt q base)=true
 | [],j,bk,h=>by cases j<;>simp [nth] at h
 | x::l,0,bk,h=>by
  simp only [List.map_cons,nth] at h ⊢
  unfold tR at h
  split at h
  ·rename_i b
   split at h
   ·rename_i hc
    simp only [Bool.and_eq_true] at hc
    cases h
    exact ⟨b,rfl,rfl,hc.1,hc.2⟩
   ·cases h
  ·cases h
 | x::l,j+1,bk,h=>Ub (l:=l) (j:=j) (by simpa [nth] using h)
theorem ag.r_ (b:ag):b.b9.flat=b.flat:=by cases b<;>rfl
theorem ag.mI (p:Nat->Bool) (b:ag):b.b9.dh p=b.dh p:=by cases b<;>rfl
theorem HS.JC {θ θ':Nat->Loc} {H:List (Option ag)} {w:World} (h:HS E O θ H w) (h0:E.n0=0) {p:Nat->Prop} (hp:∀ q,p q->θ' q=θ q) (hH:∀ q bk,nth H q=some bk->p q/\∃ b:Nat->Bool,(∀ r,b r=true->p r)/\bk.dh b=true):HS E O θ' H w:=by
 refine ⟨⟨fun q bk hq=>?_,fun q q' bk aS hq ho oJ hne b_ hn2=>?_⟩,fun q bk hq=>?_,h.fr,h.len,fun j hj=>by omega⟩
 ·obtain ⟨h1,b,h2,h3⟩:=hH q bk hq
  rw [hp q h1]
  exact (h.heap.aj q bk hq).refs (fun r hr=>hp r (h2 r hr)) h3
 ·rw [hp q (hH q bk hq).1] at b_ ⊢
  rw [hp q' (hH q' aS oJ).1] at hn2 ⊢
  exact h.heap.apart q q' bk aS hq ho oJ hne b_ hn2
 ·rw [hp q (hH q bk hq).1]
  exact h.old q bk hq
theorem zu7 (hS:bg P I gK S F) (hE:E.Ok gK) (hn0:S.n0=E.n0) (hI:∀ w,Fr E.W E.w0 w->I w) {ops:Array Oper} {n:Nat} {s:St} (iR:n<=ops.toList.length) (hm:RD ops.toList n=true) :
  M.sat F O (Cd P S ops.toList n s) (fun s'=>∀ U a w,RR O E U ⟨s,[]⟩ a w->∀ Q:Exit->Act->World->Prop,(∀ U' a' w',RR O E U' ⟨s',[]⟩ a' w'->Q .normal a' w') ->
   wpAny P .any ops Q ops.size (Array.replicate ops.size false) a w):=by
 unfold RD at hm
 unfold Cd
 generalize hpre:ops.toList.take n=pre at hm ⊢
 simp only [Bool.and_eq_true] at hm
 obtain ⟨⟨⟨iz,mD⟩,oR⟩,ec⟩:=hm
 have cY:nG .any ops:=by have:=gM ec;simpa using this
 have qD:pre.length=n:=by rw [<-hpre,List.length_take];omega
 refine aY (fun gz=>?_) (fun _=>aE)
 simp only [Bool.and_eq_true] at gz
 have hsw:=Ua (E:=E) (F:=F) (O:=O) hS hE hn0 hI (ops:=pre.toArray) (base:=s.hp.length) pre ⟨s,[]⟩ (s.hp.map (tR s.hp.length)) [] (fun o ho=>List.all_eq_true.1 iz o ho)
 simp only at hsw
 refine ak hsw fun z hz=>aY (fun m_=>?_) (fun _=>aE)
 simp only [Bool.and_eq_true] at m_
 obtain ⟨JD,JE⟩:=m_
 obtain ⟨rf,H,es⟩:=z
 simp only at hz JD JE ⊢
 refine ak (Gb (E:=E) hS hE hn0 hI (ops:=ops) (ops.toList.drop n) ⟨⟨rf.st.sl,s.hp++(qg (Il es) 0 H).drop s.hp.length⟩,rf.gl⟩) fun r2 me=>au fun U a w cF Q hQ=>?_
 have mE:bH s.hp=true:=gz.2
 generalize hbase:s.hp.length=base at *
 have A1:(s.hp.map (tR base)).length=base:=by simp [hbase]
 have wI:=hz.chain
 rw [A1] at wI
 have TY:base<=H.length:=wI.le
 have CU:∀ q,q<base->nth H q=nth (s.hp.map (tR base)) q:=fun q hq=>by
  have:=congrArg (fun l=>nth l q) hz.pre
  simp only [T9,A1,if_pos hq] at this
  exact this
 have oU:E.n0<=base:=by have:=cF.hs.len;simp only at this;omega
 have kq:∀ i,i<pre.length->∃ e,es[i]? = some e:=fun i hi=>⟨_,List.getElem?_eq_getElem (by rw [hz.len];exact hi)⟩
 have cA:∀ j:Nat,pre.toArray[j]? = pre[j]?:=fun j=>by simp
 have bL:∀ {i:Nat} {o:Oper},pre[i]? = some o->i<pre.length:=fun {i o} h=>by
  rcases Nat.lt_or_ge i pre.length with h1 | h1
  ·exact h1
  ·rw [List.getElem?_eq_none h1] at h;cases h
 have mJ:∀ {i:Nat} {e:h_},es[i]? = some e->i<pre.length:=fun {i e} h=>by
  rcases Nat.lt_or_ge i pre.length with h1 | h1
  ·exact h1
  ·rw [List.getElem?_eq_none (by rw [hz.len];exact h1)] at h;cases h
 have lT:∀ {i:Nat},i<pre.length->∃ o,pre[i]? = some o:=fun h=>⟨_,List.getElem?_eq_getElem h⟩
 -- who made which block
 let made:Nat->Nat->Prop:=fun i q=>∃ e:h_,es[i]? = some e/\e.a<=q/\q<e.b
 let known:Array Bool->Nat->Prop:=fun listed q=>q<base\/∃ i,listed.getD i false=true/\made i q
 let oV:Array Bool->Nat->Prop:=fun listed q=>∃ (k:Nat) (e:h_),es[k]? = some e/\listed.getD k false=true/\q∈e.ks
 let live:Array Bool->Nat->Prop:=fun listed q=>known listed q/\¬ oV listed q
 have tu:∀ {i j q:Nat},made i q->made j q->i=j:=by
  rintro i j q ⟨e,h1,h2,h3⟩ ⟨e',g1,g2,g3⟩
  rcases Nat.lt_trichotomy i j with h | h | h
  ·have:=wI.lt i j e e' h h1 g1;omega
  ·exact h
  ·have:=wI.lt j i e' e h g1 h1;omega
 have r9:∀ {i q:Nat},made i q->base<=q:=by
  rintro i q ⟨e,h1,h2,h3⟩
  have:=(wI.at i e h1).1;omega
 have si:∀ {listed:Array Bool} {i q:Nat},known listed q->known (listed.setIfInBounds i true) q:=by
  intro listed i q h
  rcases h with h | ⟨j,h2,h3⟩
  ·exact .inl h
  ·exact .inr ⟨j,uq h2,h3⟩
 have hnew:∀ {listed:Array Bool} {i q:Nat},known (listed.setIfInBounds i true) q->known listed q\/made i q:=by
  intro listed i q h
  rcases h with h | ⟨j,h2,h3⟩
  ·exact .inl (.inl h)
  ·rcases CH h2 with rfl | h2
   ·exact .inr h3
   ·exact .inl (.inr ⟨j,h2,h3⟩)
 have hfresh:∀ {listed:Array Bool} {i q:Nat},listed.getD i false=false->made i q->¬ known listed q:=by
  intro listed i q hl hq h
  rcases h with h | ⟨j,h2,h3⟩
  ·have:=r9 hq;omega
  ·have:=tu hq h3
   subst this
   rw [hl] at h2;cases h2
 -- what is known of an operation
 have jo:∀ {i:Nat} {o:Oper},pre[i]? = some o->(bI o.op=false->kN o.op=true)/\(bI o.op=true->o.guard=none):=fun {i o} h=>by
  have:=List.all_eq_true.1 iz o (List.mem_of_getElem? h)
  unfold Fy at this
  cases he:bI o.op<;>rw [he] at this<;>simp at this<;>simp [this]
 have oW:∀ {i:Nat} {o:Oper} {e:h_},pre[i]? = some o->es[i]? = some e->bI o.op=true ->
   (∀ q∈e.fp,q<base\/∃ j,made j q/\j∈jK pre i (ju o)) /\
   (∀ (j:Nat) (e':h_),es[j]? = some e'->j=i\/j∈jK pre i (ju o)\/∀ q∈e.ks,q∉e'.fp) /\
   (∀ t∈Ao o.op,∀ (j:Nat) o',pre[j]? = some o'->o'.dst=some t->j∈jK pre i (ju o)):=fun {i o e} ho he eJ=>by
  have:=zqW JD i o e ho he
  rw [Nat.zero_add] at this
  unfold Cc at this
  simp only [eJ,Bool.not_true,Bool.false_or,Bool.and_eq_true] at this
  have jX:sZ pre i=jK pre i (ju o):=by unfold sZ;rw [ho]
  rw [jX] at this
  obtain ⟨⟨h1,h2⟩,h3⟩:=this
  refine ⟨fun q hq=>?_,fun j e' hj=>?_,fun t ht j o' ho' hd=>?_⟩
  ·have:=List.all_eq_true.1 h1 q hq
   simp only [Bool.or_eq_true] at this
   rcases this with h | h
   ·exact .inl (by simpa [Nat.blt_eq] using h)
   ·obtain ⟨⟨e',j⟩,yV,hm2⟩:=List.any_eq_true.1 h
    simp only [Bool.and_eq_true] at hm2
    exact .inr ⟨j,⟨e',List.mem_zipIdx_iff_getElem?.1 yV,Nat.le_of_ble_eq_true hm2.1.1,by simpa [Nat.blt_eq] using hm2.1.2⟩,pT hm2.2⟩
  ·have:=List.all_eq_true.1 h2 (e',j) (List.mem_zipIdx_iff_getElem?.2 hj)
   simp only [Bool.or_eq_true] at this
   rcases this with (h | h) | h
   ·exact .inl (Nat.eq_of_beq_eq_true h)
   ·exact .inr (.inl (pT h))
   ·refine .inr (.inr fun q hq oJ=>?_)
    have:=List.all_eq_true.1 h q hq
    rw [CM oJ] at this;cases this
  ·have:=List.all_eq_true.1 h3 (o',j) (List.mem_zipIdx_iff_getElem?.2 ho')
   simp only [yN,hd,Bool.or_eq_true,Bool.not_eq_true'] at this
   rcases this with h | h
   ·rw [CM ht] at h;cases h
   ·exact pT h
 have bG:∀ i,i∈(pre.zipIdx.filter fun p=>bI p.1.op).map (·.2)↔∃ o,pre[i]? = some o/\bI o.op=true:=fun i=>by
  rw [List.mem_map]
  constructor
  ·rintro ⟨⟨o,j⟩,h,rfl⟩
   obtain ⟨h1,h2⟩:=List.mem_filter.1 h
   exact ⟨o,List.mem_zipIdx_iff_getElem?.1 h1,h2⟩
  ·rintro ⟨o,h1,h2⟩
   exact ⟨(o,i),List.mem_filter.2 ⟨List.mem_zipIdx_iff_getElem?.2 h1,h2⟩,rfl⟩
 -- blocks' kinds and what SH name
 have mA:∀ q bk,nth H q=some bk->q<H.length/\bk.flat=true/\((q<base/\bk.own=false/\bk.dh (fun r=>Nat.blt r base)=true/\∃ b,nth s.hp q=some b/\bk=b.b9)\/∃ (i:Nat) (o:Oper) (e:h_),pre[i]? = some o/\es[i]? = some e/\bI o.op=true/\e.a<=q/\q<e.b/\bk.dh (mc base e.fp e.a e.b)=true):=fun q bk hq=>by
  have xL:=iW hq
  refine ⟨xL,?_⟩
  rcases Nat.lt_or_ge q base with h | h
  ·rw [CU q h] at hq
   obtain ⟨b,g1,rfl,g2,g3⟩:=Ub hq
   exact ⟨by rw [ag.r_];exact g2,.inl ⟨h,ag.eV b,by rw [ag.mI];exact g3,b,g1,rfl⟩⟩
  ·obtain ⟨i,e,g1,g2,g3⟩:=wI.CZ q h xL
   obtain ⟨o,ho⟩:=lT (mJ g1)
   cases eJ:bI o.op with
   | false =>
    have:=(hz.still i o e ho g1 eJ).1
    omega
   | true =>
    have:=(hz.vj i o e ho g1 eJ).news q bk g2 g3 hq
    exact ⟨this.1,.inr ⟨i,o,e,ho,g1,eJ,g2,g3,this.2⟩⟩
 have JF:∀ {i:Nat} {o:Oper} {e:h_} {r:Nat},pre[i]? = some o->es[i]? = some e->bI o.op=true->mc base e.fp e.a e.b r=true->r<base\/(∃ j,made j r/\(j=i\/j∈jK pre i (ju o)))/\r<e.b:=fun {i o e r} ho he eJ hr=>by
  unfold mc at hr
  simp only [Bool.or_eq_true,Bool.and_eq_true] at hr
  rcases hr with (h | h) | h
  ·exact .inl (by simpa [Nat.blt_eq] using h)
  ·have hfp:=(hz.vj i o e ho he eJ).fpl r (pT h)
   rcases (oW ho he eJ).1 r (pT h) with g | ⟨j,g1,g2⟩
   ·exact .inl g
   ·exact .inr ⟨⟨j,g1,.inr g2⟩,by have:=(wI.at i e he).2.1;omega⟩
  ·have h1:=Nat.le_of_ble_eq_true h.1
   have h2:r<e.b:=by simpa [Nat.blt_eq] using h.2
   exact .inr ⟨⟨i,⟨e,he,h1,h2⟩,.inl rfl⟩,h2⟩
 refine Ol cY (ops.toList.drop n) pre.toArray (by rw [<-hpre];simp) (fun i hi o ho j hj=>?_) a w ?_
 ·have hi':n<=i:=by simpa [qD] using hi
  have CV:(o,i)∈ops.toList.zipIdx.drop n:=by
   rw [List.mem_iff_getElem?]
   refine ⟨i-n,?_⟩
   rw [List.getElem?_drop,show n+(i-n)=i from by omega,List.getElem?_zipIdx]
   have:ops.toList[i]? = some o:=by simpa using ho
   rw [this]
   simp
  have:=List.all_eq_true.1 mD _ CV
  exact pT (List.all_eq_true.1 this j (List.mem_range.2 hj))
 have gj:∀ (θ:Nat->Loc) (j:Nat),((List.zipWith (fun o e=>eA (e.v.aa O θ) o) pre es).toArray)[j]? = (match pre[j]?,es[j]? with | some o,some e=>some (eA (e.v.aa O θ) o) | _,_=>none):=fun θ j=>by
  simp [List.getElem?_zipWith]
  cases pre[j]?<;>cases es[j]?<;>rfl
 have cU:∀ (v:Value) (o:Oper),(eA v o).dst=o.dst/\(eA v o).guard=o.guard/\(eA v o).after=o.after:=fun v o=>by
  unfold eA;split<;>exact ⟨rfl,rfl,rfl⟩
 have hsz:∀ θ:Nat->Loc,(List.zipWith (fun o e=>eA (e.v.aa O θ) o) pre es).toArray.size=pre.toArray.size:=fun θ=>by simp [hz.len]
 have cu:∀ (θ:Nat->Loc) listed,Region.ready .any (List.zipWith (fun o e=>eA (e.v.aa O θ) o) pre es).toArray listed=Region.ready .any pre.toArray listed:=fun θ listed=>by
  unfold Region.ready
  rw [hsz θ]
  refine List.filter_congr fun j _=>?_
  rw [gj θ j,cA j]
  cases ho:pre[j]? with
  | none=>rfl
  | some o =>
   obtain ⟨e,he⟩:=kq j (bL ho)
   rw [he]
   have e1:=(cU (e.v.aa O θ) o).2.2
   dsimp only
   generalize eA (e.v.aa O θ) o=o1 at e1 ⊢
   cases o1;cases o
   simp only at e1
   subst e1
   rfl
 have eG:∀ (θ:Nat->Loc) (j:Nat),(((List.zipWith (fun o e=>eA (e.v.aa O θ) o) pre es).toArray)[j]?).bind (·.dst)=((pre.toArray)[j]?).bind (·.dst):=fun θ j=>by
  rw [gj θ j,cA j]
  cases ho:pre[j]? with
  | none=>rfl
  | some o =>
   obtain ⟨e,he⟩:=kq j (bL ho)
   rw [he]
   exact (cU _ o).1
 have wF:nG .any pre.toArray:=fun i o ho=>cY i o (by
  rw [cA] at ho
  have:ops.toList[i]? = some o:=by
   rw [<-hpre,List.getElem?_take] at ho
   split at ho
   ·exact ho
   ·cases ho
  simpa using this)
 have hw0:HS E O U s.hp w:=cF.hs
 generalize JG:TR s.hp U w=Eh
 have wJ:∀ b,¬ Eh.W b:=fun b hb=>by rw [<-JG] at hb;exact hb
 have C1:Eh.n0=0:=by rw [<-JG];rfl
 have wK:Eh.w0=w:=by rw [<-JG];rfl
 have hstart:∀ {θ:Nat->Loc} {L:Nat->Prop} {w1:World},HS E O θ s.hp w->HS Eh O θ (oT L H) w1->HS E O θ s.hp w1:=fun {θ L w1} h1 h2=>by
  have hf:=h2.fr
  rw [wK] at hf
  exact h1.bK (Fr.below (hf.weaken fun b hb=>absurd hb (wJ b)))
 have Ud:∀ {θ:Nat->Loc} {L:Nat->Prop} {w1:World},HS E O θ s.hp w->HS Eh O θ (oT L H) w1->I w1:=fun {θ L w1} h1 h2=>hI w1 (hstart h1 h2).fr
 refine zlr (P:=P) (Θ:=Nat->Loc) (ops:=pre.toArray) (ops':=fun θ=>(List.zipWith (fun o e=>eA (e.v.aa O θ) o) pre es).toArray) (st:=(pre.zipIdx.filter fun p=>bI p.1.op).map (·.2)) (val:=fun i θ=>(es.getD i default).v.aa O θ)
  (C:=fun θ w=>HS E O θ s.hp w) (D:=fun listed θ w1=>HS E O θ s.hp w/\HS Eh O θ (oT (live listed) H) w1/\∀ q bk,known listed q->nth H q=some bk->∃ p:Nat->Bool,(∀ r,p r=true->known listed r)/\bk.dh p=true)
  (Sm:=fun listed θ θ'=>∀ q,known listed q->θ' q=θ q) (Qf:=fun θ a'=>aJ O θ rf a')
  (tm:=fun i=>match pre[i]? with | some o=>Ao o.op | none=>[]) wF cu eG (fun θ i hi=>?_) (fun i hi=>?_) (fun listed θ θ' w1 hd gB=>?_) (fun listed θ w1 hd=>hstart hd.1 hd.2.1) (fun _ _ _ _=>rfl)
  (fun listed i θ θ' θ'' h1 h2 q hq=>(h2 q (si hq)).trans (h1 q hq)) (fun listed i θ θ' hi hs gB=>?_) (fun i o hi ho a1 w1 f args w2=>?_) (fun listed i θ w1 hi hd=>?_) (fun i o hi ho listed ee hrd t ht j o' ho' hd'=>?_)
  (fun i o hi ho listed hs fC hrd θ w1 hd a1 a2 mh lS=>?_) (fun θ a1 w1 listed hall j_ hd=>?_) pre.toArray.size (Array.replicate pre.toArray.size false) a w U (by simp) (Oj _ _) ?_ (fun θ' gB=>?_)
 ·-- what is zm
  show ((List.zipWith (fun o e=>eA (e.v.aa O θ) o) pre es).toArray)[i]? = _
  rw [gj θ i,cA i]
  cases ho:pre[i]? with
  | none=>rfl
  | some o =>
   obtain ⟨e,he⟩:=kq i (bL ho)
   rw [he]
   have:bI o.op=false:=by
    cases h:bI o.op with
    | false=>rfl
    | true=>exact absurd ((bG i).2 ⟨o,ho,h⟩) hi
   simp only [zqU this]
 ·obtain ⟨o,h1,h2⟩:=(bG i).1 hi
  obtain ⟨e,he⟩:=kq i (bL h1)
  refine ⟨o,by rw [cA];exact h1,(jo h1).2 h2,fun θ=>⟨eA (e.v.aa O θ) o,?_,by rw [(cU _ o).2.1];exact (jo h1).2 h2,(cU _ o).1,fun a1 w1=>?_⟩⟩
  ·show ((List.zipWith (fun o e=>eA (e.v.aa O θ) o) pre es).toArray)[i]? = _
   rw [gj θ i,h1,he]
  ·rw [zqV h2,List.getD_eq_getElem?_getD,he]
   simp [execOp,Act.eval]
 ·obtain ⟨d1,d2,d3⟩:=hd
  refine ⟨d1.mz mE (fun j hj=>gB j (.inl (by rw [<-hbase];exact hj))),d2.JC C1 (p:=known listed) gB (fun q bk hq=>?_),d3⟩
  obtain ⟨g1,g2⟩:=ni.1 hq
  exact ⟨g1.1,d3 q bk g1.1 g2⟩
 ·-- the values of what is listed
  obtain ⟨o,h1,h2⟩:=(bG i).1 hi
  have fY:=bL h1
  have wG:(listed.setIfInBounds i true).getD i false=true:=by
   have:i<listed.size:=by rw [hs];simpa using fY
   rw [Array.getD_eq_getD_getElem?,Array.getElem?_setIfInBounds_self_of_lt this]
   rfl
  obtain ⟨e,he⟩:=kq i fY
  simp only [List.getD_eq_getElem?_getD,he,Option.getD_some]
  refine V.fk (hz.vj i o e h1 he h2).val fun q hq=>?_
  unfold mc at hq
  simp only [cJ,Bool.or_eq_true,Bool.and_eq_true] at hq
  rcases hq with (hq | hq) | hq
  ·exact gB q (.inl (by simpa [Nat.blt_eq] using hq))
  ·cases hq
  ·exact gB q (.inr ⟨i,wG,e,he,Nat.le_of_ble_eq_true hq.1,by simpa [Nat.blt_eq] using hq.2⟩)
 ·rw [cA] at ho
  have:bI o.op=false:=by
   cases h:bI o.op with
   | false=>rfl
   | true=>exact absurd ((bG i).2 ⟨o,ho,h⟩) hi
  exact Og ((jo ho).1 this) a1 w1 f args w2
 ·-- what turns nothing
  obtain ⟨d1,d2,d3⟩:=hd
  have hno:∀ q,¬ made i q:=by
   rintro q ⟨e,h1,h2,h3⟩
   obtain ⟨o,ho⟩:=lT (mJ h1)
   cases eJ:bI o.op with
   | false=>have:=(hz.still i o e ho h1 eJ).1;omega
   | true=>exact hi ((bG i).2 ⟨o,ho,eJ⟩)
  have hkn:∀ q,known (listed.setIfInBounds i true) q↔known listed q:=fun q=>⟨fun h=>(hnew h).resolve_right (hno q),si⟩
  have gL:∀ q,oV (listed.setIfInBounds i true) q↔oV listed q:=fun q=>by
   constructor
   ·rintro ⟨k,e,h1,h2,h3⟩
    rcases CH h2 with rfl | h2
    ·obtain ⟨o,ho⟩:=lT (mJ h1)
     cases eJ:bI o.op with
     | false=>rw [(hz.still k o e ho h1 eJ).2] at h3;cases h3
     | true=>exact absurd ((bG k).2 ⟨o,ho,eJ⟩) hi
    ·exact ⟨k,e,h1,h2,h3⟩
   ·rintro ⟨k,e,h1,h2,h3⟩
    exact ⟨k,e,h1,uq h2,h3⟩
  have hlv:live (listed.setIfInBounds i true)=live listed:=funext fun q=>propext ⟨fun h=>⟨(hkn q).1 h.1,fun g=>h.2 ((gL q).2 g)⟩,fun h=>⟨(hkn q).2 h.1,fun g=>h.2 ((gL q).1 g)⟩⟩
  have hkf:known (listed.setIfInBounds i true)=known listed:=funext fun q=>propext (hkn q)
  rw [hlv,hkf]
  exact ⟨d1,d2,d3⟩
 ·rw [cA] at ho ho'
  obtain ⟨o2,h1,h2⟩:=(bG i).1 hi
  rw [ho] at h1;cases h1
  rw [ho] at ht
  obtain ⟨e,he⟩:=kq i (bL ho)
  have:=(oW ho he h2).2.2 t ht j o' ho' hd'
  exact xO ee (by rw [cA];exact ho) hrd j this
 ·-- one kC makes, or ends
  rw [cA] at ho
  obtain ⟨o2,h1,eJ⟩:=(bG i).1 hi
  rw [ho] at h1;cases h1
  rw [ho] at lS
  obtain ⟨d1,d2,d3⟩:=hd
  have fY:=bL ho
  have iR:listed.getD i false=false:=by
   obtain ⟨h4,_⟩:=mem_ready.1 hrd
   rw [<-tq (by rw [hs];simpa using fY)]
   exact h4
  obtain ⟨e,he⟩:=kq i fY
  have og:=hz.vj i o e ho he eJ
  obtain ⟨c1,c2,c3⟩:=oW ho he eJ
  have hat2:=wI.at i e he
  have jX:∀ j,j∈jK pre i (ju o)->listed.getD j false=true:=fun j hj=>xO fC (by rw [cA];exact ho) hrd j hj
  -- what waits for it is not listed
  have zo:∀ (k:Nat) (o':Oper),pre[k]? = some o'->listed.getD k false=true->i∉jK pre k (ju o'):=fun k o' ho' hk hi'=>by
   have:listed.getD i false=true:=Jh (ops:=pre.toArray) fC k (ju o') (fun x hx=>by
    obtain ⟨ed,h1,h2,rfl⟩:=N_ hx
    exact fC k o' (by rw [cA];exact ho') hk ed h1 h2) i hi'
   rw [iR] at this;cases this
  have oX:∀ q,e.a<=q->q<e.b->made i q:=fun q h1 h2=>⟨e,he,h1,h2⟩
  generalize Ox:dF e.fp 0 (H.take e.a)=R at *
  have hR:∀ q bk,nth R q=some bk->q∈e.fp/\q<e.a/\nth H q=some bk:=fun q bk h=>by
   rw [<-Ox,T8,Nat.zero_add] at h
   split at h
   ·rename_i hm
    rw [T9] at h
    split at h
    ·rename_i hl;exact ⟨pT hm,hl,h⟩
    ·cases h
   ·cases h
  have hkn:∀ q∈e.fp,known listed q:=fun q hq=>by
   rcases c1 q hq with h | ⟨j,h1,h2⟩
   ·exact .inl h
   ·exact .inr ⟨j,jX j h2,h1⟩
  have hnk:∀ q∈e.fp,¬ oV listed q:=by
   rintro q hq ⟨k,ek,g1,g2,g3⟩
   obtain ⟨ok,hok⟩:=lT (mJ g1)
   cases JH:bI ok.op with
   | false=>rw [(hz.still k ok ek hok g1 JH).2] at g3;cases g3
   | true =>
    rcases (oW hok g1 JH).2.1 i e he with h | h | h
    ·subst h;rw [iR] at g2;cases g2
    ·exact zo k ok hok g2 h
    ·exact h q g3 hq
  have hRL:∀ q bk,nth R q=some bk->live listed q/\nth H q=some bk:=fun q bk h=>⟨⟨hkn q (hR q bk h).1,hnk q (hR q bk h).1⟩,(hR q bk h).2.2⟩
  have zq:∀ q bk,nth R q=some bk->nth (oT (live listed) H) q=some bk:=fun q bk h=>ni.2 (hRL q bk h)
  have zn:∀ q bk,nth H q=some bk->∀ m,base<=m->(∀ (i':Nat) (o':Oper) (e':h_),pre[i']? = some o'->es[i']? = some e'->e'.a<=q->q<e'.b->e'.b<=m)->bk.dh (fun r=>Nat.blt r m)=true:=fun q bk h m hm hb=>by
   rcases (mA q bk h).2.2 with ⟨g1,g2,g3,_⟩ | ⟨i',o',e',g1,g2,g3,g4,g5,g6⟩
   ·exact ag.iA (fun r hr=>by
     have:r<base:=by simpa [Nat.blt_eq] using hr
     simp only [Nat.blt_eq];omega) g3
   ·have hb':=hb i' o' e' g1 g2 g4 g5
    exact ag.iA (fun r hr=>by
     rcases JF g1 g2 g3 hr with h | ⟨_,h⟩<;>simp only [Nat.blt_eq]<;>omega) g6
  have C2:HS (bA R θ w1) O θ R w1:=by
   refine ⟨⟨fun q bk hq=>(d2.heap.aj q bk (zq q bk hq)).flat (mA q bk (hR q bk hq).2.2).2.1,fun q q' bk aS hq lN oJ hne b_ hn2=>d2.heap.apart q q' bk aS (zq q bk hq) lN (zq q' aS oJ) hne b_ hn2⟩,fun q bk hq=>?_,Fr.refl _ _,Nat.le_refl _,fun _ _=>rfl⟩
   cases hn:(θ q).nil with
   | true=>exact .inl rfl
   | false =>
    cases lN:bk.own with
    | true=>exact .inr ⟨fun _ b hf=>.inr ⟨q,bk,hq,lN,hn,hf⟩,fun b hf=>.inr (.inr (.inl ⟨q,bk,hq,hn,hf⟩))⟩
    | false=>exact .inr ⟨fun o=>(by cases o),fun b hf=>.inr (.inr (.inl ⟨q,bk,hq,hn,hf⟩))⟩
  have Ue:w.heap.size<=w1.heap.size:=by have:=d2.fr.size;rw [wK] at this;exact this
  have C3:(bA R θ w1).Ok gK:=by
   have Uf:gK<=w.heap.size:=Nat.le_trans hE.1 hw0.fr.size
   refine ⟨Nat.le_trans Uf Ue,?_⟩
   rintro b ⟨j,x,hx,fy,fN,gX⟩
   rcases d2.old j x (zq j x hx) with g | g
   ·rw [fN] at g;cases g
   rcases g.wr fy b gX with g | g
   ·rw [wK] at g;omega
   ·exact absurd g (wJ _)
  have mK:=Ow (zlx JE i o e ho he eJ)
  have Gd:aJ O θ ⟨⟨e.sl,R⟩,[]⟩ a2:=by
   refine ⟨mh.defers,by rw [mh.size];exact mK.1.symm,fun t v ht=>?_,fun g hg=>by cases hg⟩
   obtain ⟨v',k1,k2⟩:=mK.2 t v ht
   exact ⟨V.mH k2 (mh.slot t v' k1).1,by rw [(mh.slot t v' k1).2,V.mG k2 θ]⟩
  have JI:∀ (θ2 U2:Nat->Loc),(∀ j,j<e.a->U2 j=θ j)->(∀ q,θ2 q=if e.a<=q/\q<e.b then U2 q else θ q)->e.v.aa O θ2=e.v.aa O U2:=fun θ2 U2 k1 k2=>by
   refine V.fk og.val fun q hq=>?_
   unfold mc at hq
   simp only [cJ,Bool.or_eq_true,Bool.and_eq_true] at hq
   rw [k2 q]
   rcases hq with (hq | hq) | hq
   ·have hqb:q<base:=by simpa [Nat.blt_eq] using hq
    rw [if_neg (by omega),k1 q (by omega)]
   ·cases hq
   ·rw [if_pos ⟨Nat.le_of_ble_eq_true hq.1,by simpa [Nat.blt_eq] using hq.2⟩]
  have zu:execOp a1.eval o=execOp a2.eval o:=ztk eJ lS
  rw [zu]
  refine (og.fact (bA R θ w1) C3 θ a2 (by rw [Ox];exact Gd) w1 (by rw [Ox];exact C2) (Ud d1 d2)).mono fun v w' ⟨U2,jn,k1,k2,k3,k4,k5,k6⟩=>?_
  rw [Ox] at k4 k5
  refine ⟨fun q=>if e.a<=q/\q<e.b then U2 q else θ q,fun q hq=>?_,?_,?_,?_,fun q bk hk hq=>?_⟩
  ·refine if_neg fun hh=>?_
   exact hfresh iR (oX q hh.1 hh.2) hq
  ·right
   simp only [List.getD_eq_getElem?_getD,he,Option.getD_some]
   rw [k3]
   exact JI _ U2 k1 fun _=>rfl
  ·exact d1.mz mE fun j hj=>if_neg (by omega)
  ·refine d2.JB wJ (fun q bk hq=>⟨(hRL q bk hq).1,(hR q bk hq).2.2,(mA q bk (hR q bk hq).2.2).2.1,?_⟩) (fun q bk hq=>(hR q bk hq).2.1) k2 k1 (fun q bk g1 g2 g3=>?_) (fun q hq=>?_) (fun q bk hq hqH=>?_) (by rw [C1];exact Nat.zero_le _) (fun q hq=>by omega)
   ·refine zn q bk (hR q bk hq).2.2 e.b (by omega) fun i' o' e' g1 g2 g3 g4=>?_
    have hqa:=(hR q bk hq).2.1
    rcases Nat.lt_trichotomy i' i with h | h | h
    ·have:=wI.lt i' i e' e h g2 he;omega
    ·subst h;rw [he] at g2;cases g2;exact Nat.le_refl _
    ·have:=wI.lt i i' e e' h he g2;omega
   ·refine ⟨by rw [k6 q g1 g2];exact g3,(mA q bk g3).2.1,zn q bk g3 e.b (by omega) fun i' o' e' m1 m2 m3 m4=>?_⟩
    have:i'=i:=tu ⟨e',m2,m3,m4⟩ (oX q g1 g2)
    subst this;rw [he] at m2;cases m2;exact Nat.le_refl _
   ·obtain ⟨g1,g2⟩:=hq
    rcases hnew g1 with h | ⟨e',m1,m2,m3⟩
    ·left
     refine ⟨⟨h,fun hk=>g2 ?_⟩,fun hh=>hfresh iR (oX q hh.1 hh.2) h,fun bk hb=>k5 q bk (hR q bk hb).2.1 hb fun hks=>g2 ?_⟩
     ·obtain ⟨k,ek,n1,n2,n3⟩:=hk
      exact ⟨k,ek,n1,uq n2,n3⟩
     ·refine ⟨i,e,he,?_,hks⟩
      have:i<listed.size:=by rw [hs];simpa using fY
      rw [Array.getD_eq_getD_getElem?,Array.getElem?_setIfInBounds_self_of_lt this]
      rfl
    ·rw [he] at m1;cases m1
     exact .inr ⟨m2,m3⟩
   ·obtain ⟨p,n1,n2⟩:=d3 q bk hq.1 hqH
    refine ag.iA (fun r hr=>?_) n2
    have hkr:=n1 r hr
    cases hx:Nat.ble e.a r&&Nat.blt r e.b with
    | false=>rfl
    | true =>
     simp only [Bool.and_eq_true] at hx
     exact absurd hkr (hfresh iR (oX r (Nat.le_of_ble_eq_true hx.1) (by simpa [Nat.blt_eq] using hx.2)))
  ·rcases hnew hk with h | h
   ·obtain ⟨p,n1,n2⟩:=d3 q bk h hq
    exact ⟨p,fun r hr=>si (n1 r hr),n2⟩
   ·obtain ⟨e',m1,m2,m3⟩:=h
    rw [he] at m1;cases m1
    have wG:(listed.setIfInBounds i true).getD i false=true:=by
     have:i<listed.size:=by rw [hs];simpa using fY
     rw [Array.getD_eq_getD_getElem?,Array.getElem?_setIfInBounds_self_of_lt this]
     rfl
    refine ⟨_,fun r hr=>?_,(og.news q bk m2 m3 hq).2⟩
    rcases JF ho he eJ hr with g | ⟨⟨j,g1,g2⟩,_⟩
    ·exact .inl g
    ·rcases g2 with rfl | g2
     ·exact .inr ⟨j,wG,g1⟩
     ·exact .inr ⟨j,uq (jX j g2),g1⟩
 ·-- all is listed
  obtain ⟨d1,d2,d3⟩:=hd
  show wpList P ops Q (ops.toList.drop n) a1 w1
  refine me θ a1 w1 ⟨⟨j_.defers,j_.size,j_.slot,j_.gl⟩,?_⟩ Q fun U' a' w' h'=>hQ U' a' w' h'.drop
  have hf:=d2.fr
  rw [wK] at hf
  have kD:Below w.heap.size w w1:=Fr.below (hf.weaken fun b hb=>absurd hb (wJ b))
  have r8:∀ q bk,base<=q->nth (s.hp++(qg (Il es) 0 H).drop base) q=some bk->nth (oT (live listed) H) q=some bk/\(bk.own=true/\bk.shr=false):=by
   intro q bk hq h
   rw [oI,if_neg (by omega),hbase,Jo,show base+(q-base)=q from by omega] at h
   obtain ⟨g1,g2,g3⟩:=zqX _ _ _ _ h
   rw [Nat.zero_add] at g3
   refine ⟨ni.2 ⟨⟨?_,?_⟩,g1⟩,g2⟩
   ·obtain ⟨i,e,k1,k2,k3⟩:=wI.CZ q hq (iW g1)
    exact .inr ⟨i,hall i (by simpa using mJ k1),e,k1,k2,k3⟩
   ·rintro ⟨k,e,k1,_,k3⟩
    rw [CM (zog k e q k1 k3)] at g3;cases g3
  refine d1.grow (N:=fun q=>base<=q) (base:=base) kD oU (by rw [List.length_append,hbase];omega) (fun _ _=>rfl) (fun q bk hq=>?_) (fun q q' bk aS hq oJ h ho h' hne b_ hn2=>?_)
  ·rcases Nat.lt_or_ge q base with h | h
   ·rw [oI,if_pos (by omega)] at hq
    have:=iO mE hq
    rw [hbase] at this
    exact .inl ⟨hq,rfl,this⟩
   ·obtain ⟨g1,g2⟩:=r8 q bk h hq
    refine .inr ⟨(d2.heap.aj q bk g1).flat (mA q bk (ni.1 g1).2).2.1,?_,h⟩
    rcases d2.old q bk g1 with o | o
    ·exact .inl o
    cases gn:(θ q).nil with
    | true=>exact .inl rfl
    | false =>
    have hfo:∀ b,bk.aB w1 (θ q) b->w.heap.size<=b:=fun b hf=>by
     rcases o.wr g2.1 b hf with o | o
     ·rw [wK] at o;exact o
     ·exact absurd o (wJ _)
    exact .inr ⟨fun _ b hf=>.inl (hfo b hf),fun b hf=>.inl (hfo b ((d2.heap.aj q bk g1).ex gn g2.1 g2.2 hf))⟩
  ·exact d2.heap.apart q q' bk aS (r8 q bk hq h).1 (r8 q bk hq h).2.1 (r8 q' aS oJ h').1 hne b_ hn2
 ·-- at first
  have hf0:∀ i,(Array.replicate pre.toArray.size false).getD i false=false:=fun i=>by
   rw [Array.getD_eq_getD_getElem?,Array.getElem?_replicate]
   split<;>rfl
  have gi:∀ q,known (Array.replicate pre.toArray.size false) q->q<base:=by
   rintro q (h | ⟨i,h,_⟩)
   ·exact h
   ·rw [hf0] at h;cases h
  have hin:∀ q bk,q<base->nth H q=some bk->∃ b,nth s.hp q=some b/\bk=b.b9/\b.flat=true/\bk.dh (fun r=>Nat.blt r base)=true:=fun q bk hq h=>by
   rw [CU q hq] at h
   obtain ⟨b,g1,rfl,g2,g3⟩:=Ub h
   exact ⟨b,g1,rfl,g2,by rw [ag.mI];exact g3⟩
  refine ⟨hw0,⟨⟨fun q bk hq=>?_,fun q q' bk aS hq ho _ _ _ _=>?_⟩,fun q bk hq=>?_,by rw [<-JG];exact Fr.refl _ _,by rw [C1];exact Nat.zero_le _,fun j hj=>by omega⟩,fun q bk hk hq=>?_⟩
  ·obtain ⟨g1,g2⟩:=ni.1 hq
   obtain ⟨b,k1,rfl,k2,_⟩:=hin q bk (gi q g1.1) g2
   exact ((hw0.heap.aj q b k1).flat k2).b9
  ·obtain ⟨g1,g2⟩:=ni.1 hq
   obtain ⟨b,k1,rfl,k2,_⟩:=hin q bk (gi q g1.1) g2
   rw [ag.eV] at ho;cases ho
  ·obtain ⟨g1,g2⟩:=ni.1 hq
   obtain ⟨b,k1,rfl,k2,_⟩:=hin q bk (gi q g1.1) g2
   cases hn:(U q).nil with
   | true=>exact .inl rfl
   | false=>exact .inr ⟨fun o=>(by rw [ag.eV] at o;cases o),fun b' hf=>.inr (.inr (by rw [<-JG];exact ⟨q,b,k1,hn,by rw [ag.kQ] at hf;exact hf⟩))⟩
  ·obtain ⟨b,k1,rfl,k2,k3⟩:=hin q bk (gi q hk) hq
   exact ⟨_,fun r hr=>.inl (by simpa [Nat.blt_eq] using hr),k3⟩
 ·have hU:∀ q,q<base->θ' q=U q:=fun q hq=>gB q (.inl hq)
  have j_:aJ O θ' ⟨s,[]⟩ a:=cF.act.ext (fun j hj=>hU j (by omega)) gz.1 (by simp) s.hp
  have fJ:HS E O θ' s.hp w:=cF.hs.mz mE (fun j hj=>hU j (by rw [<-hbase];exact hj))
  have CQ:=hz.quiet θ' a j_ ⟨w,fJ⟩ _ rfl (List.zipWith (fun o e=>eA (e.v.aa O θ') o) pre es).toArray (eG θ') (fun a'=>aJ O θ' rf a') (fun _ h=>h)
  have hB:Region.lexB .any (List.zipWith (fun o e=>eA (e.v.aa O θ') o) pre es).toArray=true:=by
   rw [<-oR]
   refine TU (by simp [hz.len]) fun j o1 o2 h1 h2=>?_
   rw [List.getElem?_map] at h2
   obtain ⟨o,g1,rfl⟩:=Option.map_eq_some_iff.1 h2
   obtain ⟨e,he⟩:=kq j (bL g1)
   rw [List.getElem?_zipWith,g1,he] at h1
   simp only [Option.some.injEq] at h1
   subst h1
   refine ⟨by rw [(cU _ o).1,(cU _ o).1],by rw [(cU _ o).2.1,(cU _ o).2.1],by rw [(cU _ o).2.2,(cU _ o).2.2],?_⟩
   unfold eA
   split
   ·exact .inr ⟨_,_,rfl,rfl⟩
   ·exact .inl rfl
  simp only [Region.lexB,Bool.and_eq_true] at hB
  have:=wpAnyQ_lex (P:=P) (C:=fun w=>HS E O θ' s.hp w) (md:=.any) hB.1 (List.zipWith (fun o e=>eA (e.v.aa O θ') o) pre es) 0 (Array.replicate (List.zipWith (fun o e=>eA (e.v.aa O θ') o) pre es).toArray.size false) a (by simp) (by simpa using hB.2) CQ
  rw [hsz θ'] at this
  simpa [hz.len] using this
end
end Go.Sx
end
