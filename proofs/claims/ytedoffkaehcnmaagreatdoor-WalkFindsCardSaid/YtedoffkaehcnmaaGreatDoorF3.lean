/- Regions, code, a whole function: the evaluator agrees with the model. -/
import Derived.Test.YtedoffkaehcnmaaGreatDoorF2
import Derived.Deep.Quiet
namespace Go.Sx
open Go.RowKit
section
variable {P:Program} {I:World→Prop} {S:Sigs} {F:FEnv} {E:Env} {gK:Nat} {ν:Nat→DV}
theorem zcL (a:Act) (d:Nat) (v:Value):a.put (some d) v = { a with tmps:=a.tmps.setIfInBounds d v }:=rfl
theorem zfM {d:Nat} {l:List GE} (h:zi2 d l=true):∀ e∈l,e.d≠d:=by
 intro e he hd
 have:=List.all_eq_true.1 h e he
 simp [hd] at this
theorem zjQ {t:Nat} {l:List GE} {e:GE} (h:e∈zqx t l):e∈l∧e.t≠t:=by
 unfold zqx at h
 have:=List.mem_filter.1 h
 refine ⟨this.1,fun ht=>?_⟩
 have h2:=this.2
 simp [ht] at h2
theorem zbN {r:RS} {dst:Option Tmp} {ov:Option V} : M.sat F ν (r.put dst ov) (fun r'=>r'.st.hp=r.st.hp∧∀ ρ a (x:Value),ARel ν ρ r a→(∀ v,ov=some v→v.good ν∧x=v.conc ν ρ) →
  ARel ν ρ r' (a.put dst x)):=by
 unfold RS.put
 cases dst with
 | none=>exact zab ⟨rfl,fun ρ a x h _=>h⟩
 | some d =>
  refine zae (fun hn=>zab ⟨rfl,fun ρ a x h hv=>?_⟩) (fun _=>zac)
  have hn:=zfM hn
  refine ⟨h.defers,by simp [zcL,zah,h.size],fun t v ht=>?_,fun e he=>?_⟩
  ·by_cases htd:d=t
   ·subst htd
    simp only at ht
    rw [zau] at ht
    split at ht
    ·rename_i hlt
     obtain ⟨h1,h2⟩:=hv v ht
     refine ⟨h1,?_⟩
     rw [zcL,h2]
     simp [h.size,hlt]
    ·cases ht
   ·simp only at ht
    rw [zay _ _ _ _ htd] at ht
    have:=h.slot t v ht
    refine ⟨this.1,?_⟩
    rw [zcL]
    simp only
    rw [Array.getElem?_setIfInBounds_ne htd]
    exact this.2
  ·obtain ⟨h1,h2⟩:=zjQ he
   have hd:=hn e h1
   have:=h.gl e h1
   rw [zcL]
   simp only
   rw [Array.getElem?_setIfInBounds_ne (Ne.symm hd),Array.getElem?_setIfInBounds_ne (Ne.symm h2)]
   exact this
theorem ziL {r:RS} {dst:Option Tmp} {v:V} {d:Nat} {want:Bool} : M.sat F ν (r.putG dst v d want) (fun r'=>r'.st.hp=r.st.hp∧∀ ρ a (x:Value),ARel ν ρ r a →
  (a.tmps[d]? = some (.bool want)→v.good ν∧x=v.conc ν ρ)→(a.tmps[d]?≠some (.bool want)→x=undef)→ARel ν ρ r' (a.put dst x)):=by
 unfold RS.putG
 cases dst with
 | none=>exact zab ⟨rfl,fun ρ a x h _ _=>h⟩
 | some t =>
  refine zae (fun hc=>zab ⟨rfl,fun ρ a x h h1 h2=>?_⟩) (fun _=>zac)
  simp only [Bool.and_eq_true,Bool.not_eq_true',decide_eq_true_eq] at hc
  obtain ⟨⟨hn,htd⟩,hlt⟩:=hc
  have hn:=zfM hn
  have htd:t≠d:=by intro e;subst e;simp at htd
  have hd:(a.put (some t) x).tmps[d]? = a.tmps[d]?:=by
   rw [zcL];simp only;rw [Array.getElem?_setIfInBounds_ne htd]
  have ht:(a.put (some t) x).tmps[t]? = some x:=by
   rw [zcL];simp [h.size,hlt]
  refine ⟨h.defers,by simp [zcL,zah,h.size],fun t' v' ht'=>?_,fun e he=>?_⟩
  ·by_cases hne:t=t'
   ·subst hne
    simp only at ht'
    rw [zau] at ht'
    split at ht'<;>cases ht'
   ·simp only at ht'
    rw [zay _ _ _ _ hne] at ht'
    have:=h.slot t' v' ht'
    refine ⟨this.1,?_⟩
    rw [zcL];simp only;rw [Array.getElem?_setIfInBounds_ne hne]
    exact this.2
  ·rcases List.mem_cons.1 he with rfl | he
   ·simp only [hd,ht]
    exact ⟨fun hw=>by obtain ⟨g1,g2⟩:=h1 hw;exact ⟨g1,by rw [g2]⟩,fun hw=>by rw [h2 hw]⟩
   ·obtain ⟨h3,h4⟩:=zjQ he
    have hd:=hn e h3
    have:=h.gl e h3
    rw [zcL]
    simp only
    rw [Array.getElem?_setIfInBounds_ne (Ne.symm hd),Array.getElem?_setIfInBounds_ne (Ne.symm h4)]
    exact this
theorem zil {t:Nat} : ∀ {l:List GE} {e:GE},zhs t l=some e→e∈l∧e.t=t
 | [],_,h=>by simp [zhs] at h
 | x::l,e,h=>by
  simp only [zhs] at h
  split at h
  ·cases h;exact ⟨by simp,Nat.eq_of_beq_eq_true ‹_›⟩
  ·obtain ⟨h1,h2⟩:=zil h
   exact ⟨List.mem_cons_of_mem _ h1,h2⟩
def zzN (ν:Nat→DV) (a:Act) (d:Nat) (want:Bool):Option (Ctx×List (A×Bool))→Prop
 | none=>a.tmps[d]?≠some (.bool want)
 | some (ctx,cs)=>(a.tmps[d]? = some (.bool want)→zdM ctx a∧∀ c∈cs,c.1.bool ν=c.2)∧(ctx=[]→a.tmps[d]? = some (.bool want))∧((∀ c∈cs,c.1.bool ν=c.2)→a.tmps[d]? = some (.bool want))
theorem zav {ρ:Nat→Loc} {r:RS} {a:Act} (h:ARel ν ρ r a):∀ (n d:Nat) (want:Bool) {res:Option (Ctx×List (A×Bool))},zbP r n d want=some res→zzN ν a d want res
 | 0,_,_,_,hg=>by simp [zbP] at hg
 | n+1,d,want,res,hg=>by
  simp only [zbP] at hg
  split at hg
  ·rename_i x hs
   have hv:=(h.slot d _ hs).2
   split at hg
   ·rename_i hb
    have:=zcW hb;subst this
    cases hg
    exact ⟨fun _=>⟨fun p hp=>by simp at hp,fun c hc=>by simp at hc⟩,fun _=>hv,fun _=>hv⟩
   ·rename_i hb
    cases hg
    have hne:=zoY hb
    intro heq
    rw [hv] at heq
    simp [V.conc,V1.conc,Lf.conc] at heq
    exact hne heq
  ·rename_i x _ hs
   have hv:=(h.slot d _ hs).2
   cases hg
   refine ⟨fun heq=>⟨fun p hp=>by simp at hp;subst hp;exact heq,fun c hc=>?_⟩,fun hc=>by simp at hc,fun hc=>?_⟩
   ·simp at hc;subst hc
    rw [hv] at heq
    simpa [V.conc,V1.conc,Lf.conc] using heq
   ·have:=hc (x,want) (by simp)
    rw [hv]
    simp only at this
    simp [V.conc,V1.conc,Lf.conc,this]
  ·rename_i x hs
   have hv:=(h.slot d _ hs).2
   cases hg
   intro heq
   rw [hv] at heq
   simp [V.conc,V1.conc,Lf.conc] at heq
  ·cases hg
  ·split at hg
   ·rename_i e he
    obtain ⟨hmem,rfl⟩:=zil he
    have hgl:=h.gl e hmem
    split at hg
    ·rename_i x hev
     split at hg
     ·rename_i ctx cs hrec
      have ih:=zav h n e.d e.want hrec
      have hguard:∀ b,a.tmps[e.t]? = some (.bool b)→a.tmps[e.d]? = some (.bool e.want):=fun b hb=>by
       by_cases hw:a.tmps[e.d]? = some (.bool e.want)
       ·exact hw
       ·have:=hgl.2 hw
        rw [this] at hb
        simp [undef] at hb
      split at hg
      ·rename_i y
       split at hg
       ·rename_i hb
        have:=zcW hb;subst this
        cases hg
        refine ⟨fun heq=>?_,fun hc=>by simp at hc,fun hc=>?_⟩
        ·have h1:=ih.1 (hguard _ heq)
         refine ⟨fun p hp=>?_,h1.2⟩
         rcases List.mem_cons.1 hp with rfl | hp
         ·exact heq
         ·exact h1.1 p hp
        ·have:=(hgl.1 (ih.2.2 hc)).2
         rw [this,hev]
         rfl
       ·rename_i hb
        cases hg
        intro heq
        have h1:=(hgl.1 (hguard _ heq)).2
        rw [h1,hev] at heq
        simp [V.conc,V1.conc,Lf.conc] at heq
        exact zoY hb heq
      ·cases hg
       refine ⟨fun heq=>?_,fun hc=>by simp at hc,fun hc=>?_⟩
       ·have h1:=ih.1 (hguard _ heq)
        refine ⟨fun p hp=>?_,fun c hc=>?_⟩
        ·rcases List.mem_cons.1 hp with rfl | hp
         ·exact heq
         ·exact h1.1 p hp
        ·rcases List.mem_cons.1 hc with rfl | hc
         ·have h2:=(hgl.1 (hguard _ heq)).2
          rw [h2,hev] at heq
          simpa [V.conc,V1.conc,Lf.conc] using heq
         ·exact h1.2 c hc
       ·have:=(hgl.1 (ih.2.2 fun c hcm=>hc c (List.mem_cons_of_mem _ hcm))).2
        rw [this,hev]
        have h2:=hc (x,want) (by simp)
        simp only at h2
        simp [V.conc,V1.conc,Lf.conc,h2]
     ·rename_i hrec
      cases hg
      have ih:=zav h n e.d e.want hrec
      intro heq
      have:=hgl.2 ih
      rw [this] at heq
      simp [undef] at heq
     ·cases hg
    ·cases hg
   ·cases hg
theorem zgd {o:Oper} {ops:Array Oper} {a:Act} {j d:Nat} {want:Bool} (hg:o.guard=some (j,want)) (hd:(ops[j]?).bind (·.dst)=some d) :
  Region.wanted o (yielded ops a.tmps)=true↔a.tmps[d]? = some (.bool want):=by
 simp only [Region.wanted,hg,yielded,hd,Option.bind_some]
 cases ht:a.tmps[d]? with
 | none=>simp
 | some v=>cases v<;>simp
def znY (P:Program) (ν:Nat→DV) (E:Env) (ops:Array Oper) (o:Oper) (r r':RS):Prop :=
 ∀ ρ a w,RR ν E ρ r a w→∀ (K:Act→World→Prop) (Q:Exit→Act→World→Prop),(∀ ρ' a' w',RR ν E ρ' r' a' w'→K a' w') →
  if Region.wanted o (yielded ops a.tmps)=true then o.wp P a w K Q else K (a.put o.dst undef) w
def zmD (P:Program) (ν:Nat→DV) (E:Env) (ops:Array Oper) (o:Oper) (r r':RS):Prop :=
 r'.st.hp=r.st.hp∧∀ ρ a,ARel ν ρ r a→(∃ w,HS E ν ρ r.st.hp w)→∀ C:World→Prop,C=(fun w=>HS E ν ρ r.st.hp w) →
  if Region.wanted o (yielded ops a.tmps)=true then ∃ v,(∀ w,C w→o.quietAt P a C w v)∧ARel ν ρ r' (a.put o.dst v) else ARel ν ρ r' (a.put o.dst undef)
theorem znZ {o:Oper} {a:Act} {w:World} {v:Value} {K:Act→World→Prop} {Q:Exit→Act→World→Prop} (h:zmu P (execOp a.eval o) w v)
  (hk:∀ w',Below w.heap.size w w'→K (a.put o.dst v) w'):o.wp P a w K Q:=by
 unfold Oper.wp
 rcases h with h | ⟨f,args,h,hc⟩
 ·rw [h];exact hk w (Below.refl _ _)
 ·rw [h]
  exact hc.mono fun e w' ⟨he,hb⟩=>by subst he;exact hk w' hb
theorem zn0 {o:Oper} {a:Act} {w w':World} {K:Act→World→Prop} {Q:Exit→Act→World→Prop} (h:(execOp a.eval o).run P w = .ok .skip w') (hk:K (a.put o.dst undef) w'):o.wp P a w K Q:=by
 unfold Oper.wp
 rw [h];exact hk
theorem ARel.ext {ρ ρ':Nat→Loc} {r:RS} {a:Act} {n:Nat} (h:ARel ν ρ r a) (hρ:∀ j,j<n→ρ' j=ρ j) (h1:r.st.sl.all (zao (V.lt n))=true) (h2:r.gl.all (fun e=>e.v.lt n)=true) (hp:List (Option Blk)) :
  ARel ν ρ' ⟨⟨r.st.sl,hp⟩,r.gl⟩ a:=by
 have hl:∀ l:Lf,l.lt n=true→l.conc ν ρ'=l.conc ν ρ:=fun l hl=>by
  exact Lf.keep_spec hρ hl
 have hv1:∀ v:V1,v.lt n=true→v.conc ν ρ'=v.conc ν ρ:=fun v hv=>by
  cases v with
  | one l=>exact hl l (by simpa [V1.lt,V1.cells] using hv)
  | agg l =>
   simp only [V1.conc]
   congr 2
   exact List.map_congr_left fun x hx=>hl x (List.all_eq_true.1 hv x hx)
 have hv:∀ v:V,v.lt n=true→v.conc ν ρ'=v.conc ν ρ:=fun v hv=>by
  cases v with
  | s v=>exact hv1 v hv
  | t l =>
   simp only [V.conc]
   congr 2
   exact List.map_congr_left fun x hx=>hv1 x (List.all_eq_true.1 hv x hx)
 refine ⟨h.defers,h.size,fun t v ht=>?_,fun e he=>?_⟩
 ·obtain ⟨g1,g2⟩:=h.slot t v ht
  exact ⟨g1,by rw [hv v (zan h1 ht)];exact g2⟩
 ·have:=h.gl e he
  rw [hv e.v (List.all_eq_true.1 h2 e he)]
  exact this
theorem zpk (hI:∀ w,Fr E.W E.w0 w→I w) {ops:Array Oper} {o:Oper} {r:RS} {x:OR} (hw:∀ ρ a,ARel ν ρ r a→Region.wanted o (yielded ops a.tmps)=true)
  (hx:∀ ρ a,ARel ν ρ r a→ORok P I E ν ρ r.st.hp (execOp a.eval o) x):M.sat F ν (zeN false r o.dst x) (znY P ν E ops o r):=by
 cases x with
 | val v =>
  refine zag zbN fun r' hr' ρ a w hrr K Q hK=>?_
  rw [if_pos (hw ρ a hrr.act)]
  obtain ⟨hg,hrun⟩:=hx ρ a hrr.act w hrr.hs (hI w hrr.hs.fr)
  refine znZ hrun fun w' hb=>hK ρ _ w' ?_
  have:=hrr.below hb
  exact ⟨hr'.2 ρ a _ hrr.act (fun v' hv'=>by cases hv';exact ⟨hg,rfl⟩),by rw [hr'.1];exact this.hs⟩
 | hp v hp' =>
  unfold zeN
  refine zae (fun hc=>?_) (fun _=>zac)
  simp only [Bool.not_false,Bool.true_and,Bool.and_eq_true] at hc
  refine zag zbN fun r' hr' ρ a w hrr K Q hK=>?_
  rw [if_pos (hw ρ a hrr.act)]
  have hrun:=hx ρ a hrr.act w hrr.hs (hI w hrr.hs.fr)
  have fin:∀ (nv:Option Value) (y:Value) (w':World),(∀ z,nv=some z→y=z)→(∃ ρ':Nat→Loc,(∀ j,j<r.st.hp.length→ρ' j=ρ j)∧HS E ν ρ' hp' w'∧∀ u,v=some u→u.good ν∧nv=some (u.conc ν ρ'))→K (a.put o.dst y) w':=by
   rintro nv y w' hy ⟨ρ',k1,k2,k3⟩
   refine hK ρ' _ w' ⟨hr'.2 ρ' a y (hrr.act.ext k1 hc.1 hc.2 hp') (fun u hu=>?_),by rw [hr'.1];exact k2⟩
   obtain ⟨g1,g2⟩:=k3 u hu
   exact ⟨g1,hy _ g2⟩
  rcases hrun with ⟨z,w',h1,h2⟩ | ⟨w',h1,h2⟩ | ⟨f,args,h1,h2⟩
  ·unfold Oper.wp
   rw [h1]
   exact fin _ z w' (fun z' e=>by cases e;rfl) h2
  ·exact zn0 h1 (fin _ undef w' (fun z' e=>by cases e) h2)
  ·unfold Oper.wp
   rw [h1]
   exact h2.mono fun e w' ⟨z,he,h3⟩=>by subst he;exact fin _ z w' (fun z' e=>by cases e;rfl) h3
theorem zim {o:Oper} {a:Act} {ρ:Nat→Loc} {hp:List (Option Blk)} {v:Value} {C:World→Prop} (hC:C=fun w=>HS E ν ρ hp w)
  (h:∀ w,HS E ν ρ hp w→zmu P (execOp a.eval o) w v):∀ w,C w→o.quietAt P a C w v:=by
 intro w hw
 have hw':HS E ν ρ hp w:=by rw [hC] at hw;exact hw
 unfold Oper.quietAt
 rcases h w hw' with h | ⟨f,args,h,hc⟩
 ·rw [h];exact ⟨rfl,rfl⟩
 ·rw [h]
  refine ⟨rfl,hc.mono fun e w'' ⟨he,hb⟩=>⟨he,?_⟩⟩
  rw [hC]
  exact hw'.of_below hb
theorem zn1 (hI:∀ w,Fr E.W E.w0 w→I w) {ops:Array Oper} {o:Oper} {r:RS} {x:OR} (hw:∀ ρ a,ARel ν ρ r a→Region.wanted o (yielded ops a.tmps)=true)
  (hx:∀ ρ a,ARel ν ρ r a→ORok P I E ν ρ r.st.hp (execOp a.eval o) x):M.sat F ν (zeN true r o.dst x) (zmD P ν E ops o r):=by
 cases x with
 | val v =>
  refine zag zbN fun r' hr'=>⟨hr'.1,fun ρ a ha hex C hC=>?_⟩
  rw [if_pos (hw ρ a ha)]
  obtain ⟨w,hw1⟩:=hex
  refine ⟨v.conc ν ρ,zim hC fun w hw=>(hx ρ a ha w hw (hI w hw.fr)).2,hr'.2 ρ a _ ha fun v' hv'=>?_⟩
  cases hv';exact ⟨(hx ρ a ha w hw1 (hI w hw1.fr)).1,rfl⟩
 | hp v hp'=>unfold zeN;simp only [Bool.not_true,Bool.false_and,Bool.false_eq_true,if_false];exact zac
theorem zn2 (hI:∀ w,Fr E.W E.w0 w→I w) {ops:Array Oper} {o:Oper} {r:RS} {d:Nat} {want:Bool} {x:OR} (hw:∀ (a:Act),Region.wanted o (yielded ops a.tmps)=true↔a.tmps[d]? = some (.bool want))
  (hx:∀ ρ a,ARel ν ρ r a→a.tmps[d]? = some (.bool want)→ORok P I E ν ρ r.st.hp (execOp a.eval o) x) :
  M.sat F ν (zml r o.dst d want x) (fun r'=>znY P ν E ops o r r'∧zmD P ν E ops o r r'):=by
 cases x with
 | val v =>
  refine zag ziL fun r' hr'=>⟨fun ρ a w hrr K Q hK=>?_,hr'.1,fun ρ a ha hex C hC=>?_⟩
  ·by_cases hg:Region.wanted o (yielded ops a.tmps)=true
   ·rw [if_pos hg]
    have hd:=(hw a).1 hg
    obtain ⟨hgood,hrun⟩:=hx ρ a hrr.act hd w hrr.hs (hI w hrr.hs.fr)
    refine znZ hrun fun w' hb=>hK ρ _ w' ?_
    have:=hrr.below hb
    exact ⟨hr'.2 ρ a _ hrr.act (fun _=>⟨hgood,rfl⟩) (fun hn=>absurd hd hn),by rw [hr'.1];exact this.hs⟩
   ·rw [if_neg hg]
    have hd:a.tmps[d]?≠some (.bool want):=fun h=>hg ((hw a).2 h)
    exact hK ρ _ w ⟨hr'.2 ρ a _ hrr.act (fun h=>absurd h hd) (fun _=>rfl),by rw [hr'.1];exact hrr.hs⟩
  ·by_cases hg:Region.wanted o (yielded ops a.tmps)=true
   ·rw [if_pos hg]
    have hd:=(hw a).1 hg
    obtain ⟨w,hw1⟩:=hex
    exact ⟨v.conc ν ρ,zim hC fun w hw=>(hx ρ a ha hd w hw (hI w hw.fr)).2,hr'.2 ρ a _ ha (fun _=>⟨(hx ρ a ha hd w hw1 (hI w hw1.fr)).1,rfl⟩) (fun hn=>absurd hd hn)⟩
   ·rw [if_neg hg]
    have hd:a.tmps[d]?≠some (.bool want):=fun h=>hg ((hw a).2 h)
    exact hr'.2 ρ a _ ha (fun h=>absurd h hd) (fun _=>rfl)
 | hp v hp'=>exact zac
theorem zmE:∀ (cs:List (A×Bool)),M.sat F ν (conj cs) (fun c=>c.bool ν=true↔∀ p∈cs,p.1.bool ν=p.2)
 | []=>zab ⟨fun _ p hp=>(by cases hp),fun _=>rfl⟩
 | (a,b)::l=>by
  unfold conj
  refine zaa (R:=fun x=>x.bool ν=true↔a.bool ν=b) ?_ fun x hx=>zaa (zmE l) fun r hr=>zag zjg fun c hc=>?_
  ·cases b
   ·exact zag zeS fun r hr=>by rw [hr];simp
   ·exact zab Iff.rfl
  ·rw [hc,Bool.and_eq_true,hx,hr]
   constructor
   ·rintro ⟨h1,h2⟩ p hp
    rcases List.mem_cons.1 hp with rfl | hp
    ·exact h1
    ·exact h2 p hp
   ·intro h
    exact ⟨h (a,b) (by simp),fun p hp=>h p (List.mem_cons_of_mem _ hp)⟩
theorem V.conc_agree {n:Nat} {ρ ρ':Nat→Loc} (hρ:∀ j,j<n→ρ' j=ρ j) {v:V} (hv:v.lt n=true):v.conc ν ρ'=v.conc ν ρ:=by
 have hl:∀ l:Lf,l.lt n=true→l.conc ν ρ'=l.conc ν ρ:=fun l hl=>by
  exact Lf.keep_spec hρ hl
 have hv1:∀ v:V1,v.lt n=true→v.conc ν ρ'=v.conc ν ρ:=fun v hv=>by
  cases v with
  | one l=>exact hl l (by simpa [V1.lt,V1.cells] using hv)
  | agg l =>
   simp only [V1.conc]
   congr 2
   exact List.map_congr_left fun x hx=>hl x (List.all_eq_true.1 hv x hx)
 cases v with
 | s v=>exact hv1 v hv
 | t l =>
  simp only [V.conc]
  congr 2
  exact List.map_congr_left fun x hx=>hv1 x (List.all_eq_true.1 hv x hx)
theorem HS.pushNone {ρ:Nat→Loc} {hp:List (Option Blk)} {w:World} (h:HS E ν ρ hp w):HS E ν ρ (hp++[none]) w:=by
 have hn:∀ j bk,nth (hp++[none]) j=some bk→nth hp j=some bk:=fun j bk hj=>by
  rw [zaE] at hj
  split at hj
  ·exact hj
  ·cases hk:j-hp.length with
   | zero=>rw [hk] at hj;cases hj
   | succ k=>rw [hk] at hj;cases k<;>cases hj
 exact ⟨⟨fun j bk hj=>h.heap.blk j bk (hn j bk hj),fun j j' bk bk' hj ho hj'=>h.heap.apart j j' bk bk' (hn j bk hj) ho (hn j' bk' hj')⟩,fun j bk hj=>h.old j bk (hn j bk hj),h.fr,by rw [List.length_append];have:=h.len;omega,h.keep⟩
theorem zlF {hp:List (Option Blk)} {b:Option Blk} (h:hpLt hp=true) (hb:b=none∨∃ o ts a,b=some (.v o ts a)):hpLt (hp++[b])=true:=by
 unfold hpLt at h ⊢
 rw [List.all_append,Bool.and_eq_true,List.length_append]
 refine ⟨List.all_eq_true.2 fun y hy=>?_,?_⟩
 ·have:=List.all_eq_true.1 h y hy
  cases y with
  | none=>rfl
  | some y=>exact Blk.lt_mono (Nat.le_add_right _ _) this
 ·rcases hb with rfl | ⟨o,ts,a,rfl⟩<;>rfl
theorem zcu:∀ (l:List (Option Blk)),M.sat F ν (zd6 l) (fun t=>t.length=l.length∧∀ ρ hp w,HS E ν ρ hp w→hpLt hp=true→∃ ρ',(∀ j,j<hp.length→ρ' j=ρ j)∧HS E ν ρ' (hp++t) w)
 | []=>zab ⟨rfl,fun ρ hp w h _=>⟨ρ,fun _ _=>rfl,by rw [List.append_nil];exact h⟩⟩
 | b::l=>by
  have skip:∀ {r:List (Option Blk)},(r.length=l.length∧∀ ρ hp w,HS E ν ρ hp w→hpLt hp=true→∃ ρ',(∀ j,j<hp.length→ρ' j=ρ j)∧HS E ν ρ' (hp++r) w) →
    ((none::r:List (Option Blk)).length=(b::l).length∧∀ ρ hp w,HS E ν ρ hp w→hpLt hp=true→∃ ρ',(∀ j,j<hp.length→ρ' j=ρ j)∧HS E ν ρ' (hp++none::r) w):=fun {r} hr =>
   ⟨by simp [hr.1],fun ρ hp w h hl=>by
    obtain ⟨ρ',h1,h2⟩:=hr.2 ρ (hp++[none]) w h.pushNone (zlF hl (.inl rfl))
    exact ⟨ρ',fun j hj=>h1 j (by rw [List.length_append];omega),by rw [List.append_cons];exact h2⟩⟩
  unfold zd6
  split
  ·rename_i o ts a
   refine zae (fun hc=>?_) (fun _=>zaa (zcu l) fun r hr=>zab (skip hr))
   have hpos:0<ts.length:=Nat.le_of_ble_eq_true hc
   refine zaa (zaf (Q:=fun q=>q.cells ν=[]) fun q h=>A.cells_of_den h) fun q hq=>zaa (zcu l) fun r hr=>zab ⟨by simp [hr.1],fun ρ hp w hw hl=>?_⟩
   have hw1:=hw.fresh (w':=w) (bk:=.v o ts q) (r:=⟨0,0,true,0,0,none⟩) hl (Below.refl _ w)
    (⟨fun _=>⟨rfl,rfl⟩,fun e=>(by cases e),hpos,by rw [hq];simp,Nat.le_refl _,fun j hj=>by rw [hq] at hj;simp at hj,fun _ e=>(by cases e),fun _ e=>(by cases e)⟩:VRel E w ⟨0,0,true,0,0,none⟩ o ts (q.cells ν)) (.inl rfl)
   obtain ⟨ρ',h1,h2⟩:=hr.2 _ _ w hw1 (zlF hl (.inr ⟨_,_,_,rfl⟩))
   refine ⟨ρ',fun j hj=>?_,by rw [List.append_cons];exact h2⟩
   rw [h1 j (by rw [List.length_append];omega),zbQ hj]
  ·exact zaa (zcu l) fun r hr=>zab (skip hr)
theorem zlb (hI:∀ w,Fr E.W E.w0 w→I w) {ops:Array Oper} {o:Oper} {r:RS} {d n0:Nat} (hEn:n0=E.n0) {want:Bool} {cs:List (A×Bool)} {v:Option V} {hp':List (Option Blk)}
  (hw:∀ (a:Act),Region.wanted o (yielded ops a.tmps)=true↔a.tmps[d]? = some (.bool want)) (hg:∀ ρ a,ARel ν ρ r a→(a.tmps[d]? = some (.bool want)↔∀ c∈cs,c.1.bool ν=c.2))
  (hx:∀ ρ a,ARel ν ρ r a→a.tmps[d]? = some (.bool want)→ORok P I E ν ρ r.st.hp (execOp a.eval o) (.hp v hp')):M.sat F ν (zi3 r o.dst d want cs n0 v hp') (znY P ν E ops o r):=by
 unfold zi3
 refine zae (fun hc=>?_) (fun _=>zac)
 simp only [Bool.and_eq_true] at hc
 obtain ⟨⟨⟨⟨hsl,hgl⟩,hle⟩,hle2⟩,hlt⟩:=hc
 have hle:=Nat.le_of_ble_eq_true hle
 have hle2:=Nat.le_of_ble_eq_true hle2
 rw [hEn] at hle
 refine zaa (zmE cs) fun c hcb=>zaa (zcu (E:=E) _) fun t ht=>zaa (zdj (E:=E) (Nat.le_trans hle hle2)) fun s hs=>?_
 -- the state that is joined
 have join:∀ ρ a w,RR ν E ρ r a w→(a.tmps[d]? = some (.bool want)→∀ ρ1 w1,(∀ j,j<r.st.hp.length→ρ1 j=ρ j)→HS E ν ρ1 hp' w1→∃ ρ2,(∀ j,j<hp'.length→ρ2 j=ρ1 j)∧RR ν E ρ2 ⟨s,r.gl⟩ a w1) ∧
   (a.tmps[d]?≠some (.bool want)→∃ ρ2,(∀ j,j<r.st.hp.length→ρ2 j=ρ j)∧RR ν E ρ2 ⟨s,r.gl⟩ a w):=by
  intro ρ a w hrr
  have glue:∀ ρ2 w2,(∀ j,j<r.st.hp.length→ρ2 j=ρ j)→RR ν E ρ2 ⟨s,[]⟩ a w2→RR ν E ρ2 ⟨s,r.gl⟩ a w2:=fun ρ2 w2 h1 h2 =>
   ⟨⟨h2.act.defers,h2.act.size,h2.act.slot,fun e he=>by
    have:=hrr.act.gl e he
    rw [V.conc_agree h1 (List.all_eq_true.1 hgl e he)]
    exact this⟩,h2.hs⟩
  refine ⟨fun hd ρ1 w1 h1 h2=>?_,fun hd=>?_⟩
  ·have hext:=hrr.act.ext h1 hsl hgl hp'
   obtain ⟨ρ2,e1,e2⟩:=(hs ρ1 a w1).1 (hcb.2 ((hg ρ a hrr.act).1 hd)) ⟨⟨hext.defers,hext.size,hext.slot,fun e he=>by cases he⟩,h2⟩
   exact ⟨ρ2,e1,glue ρ2 w1 (fun j hj=>(e1 j (by omega)).trans (h1 j hj)) e2⟩
  ·have hcf:c.bool ν=false:=by
    cases hc:c.bool ν with
    | false=>rfl
    | true=>exact absurd ((hg ρ a hrr.act).2 (hcb.1 hc)) hd
   obtain ⟨ρ1,h1,h2⟩:=ht.2 ρ r.st.hp w hrr.hs hlt
   have hext:=hrr.act.ext h1 hsl hgl (r.st.hp++t)
   obtain ⟨ρ2,e1,e2⟩:=(hs ρ1 a w).2 hcf ⟨⟨hext.defers,hext.size,hext.slot,fun e he=>by cases he⟩,h2⟩
   have e3:∀ j,j<r.st.hp.length→ρ2 j=ρ j:=fun j hj=>(e1 j (by omega)).trans (h1 j hj)
   exact ⟨ρ2,e3,glue ρ2 w e3 e2⟩
 cases v with
 | none =>
  refine zag zbN fun r' hr' ρ a w hrr K Q hK=>?_
  obtain ⟨j1,j2⟩:=join ρ a w hrr
  have fin:∀ ρ2 (y:Value) w2,RR ν E ρ2 ⟨s,r.gl⟩ a w2→K (a.put o.dst y) w2:=fun ρ2 y w2 h=>hK ρ2 _ w2 ⟨hr'.2 ρ2 a y h.act (fun u hu=>by cases hu),by rw [hr'.1];exact h.hs⟩
  split
  ·rename_i hwt
   have hd:=(hw a).1 hwt
   rcases hx ρ a hrr.act hd w hrr.hs (hI w hrr.hs.fr) with ⟨z,w',h1,ρ1,h2,h3,_⟩ | ⟨w',h1,ρ1,h2,h3,_⟩ | ⟨f,args,h1,h2⟩
   ·obtain ⟨ρ2,_,h4⟩:=j1 hd ρ1 w' h2 h3
    unfold Oper.wp
    rw [h1]
    exact fin ρ2 z w' h4
   ·obtain ⟨ρ2,_,h4⟩:=j1 hd ρ1 w' h2 h3
    exact zn0 h1 (fin ρ2 undef w' h4)
   ·unfold Oper.wp
    rw [h1]
    exact h2.mono fun e w' ⟨z,he,ρ1,h2,h3,_⟩=>by
     subst he
     obtain ⟨ρ2,_,h4⟩:=j1 hd ρ1 w' h2 h3
     exact fin ρ2 z w' h4
  ·rename_i hwt
   obtain ⟨ρ2,_,h4⟩:=j2 fun h=>hwt ((hw a).2 h)
   exact fin ρ2 undef w h4
 | some v =>
  refine zae (fun hv0=>?_) (fun _=>zac)
  refine zag ziL fun r' hr' ρ a w hrr K Q hK=>?_
  obtain ⟨j1,j2⟩:=join ρ a w hrr
  split
  ·rename_i hwt
   have hd:=(hw a).1 hwt
   have fin:∀ ρ1 ρ2 (y:Value) w2,(∀ j,j<hp'.length→ρ2 j=ρ1 j)→RR ν E ρ2 ⟨s,r.gl⟩ a w2→v.good ν→y=v.conc ν ρ1→K (a.put o.dst y) w2:=fun ρ1 ρ2 y w2 hag h hg hy =>
    hK ρ2 _ w2 ⟨hr'.2 ρ2 a y h.act (fun _=>⟨hg,by rw [hy];exact V.conc_agree (fun j hj=>(hag j hj).symm) hv0⟩) (fun hn=>absurd hd hn),by rw [hr'.1];exact h.hs⟩
   rcases hx ρ a hrr.act hd w hrr.hs (hI w hrr.hs.fr) with ⟨z,w',h1,ρ1,h2,h3,h5⟩ | ⟨w',h1,ρ1,h2,h3,h5⟩ | ⟨f,args,h1,h2⟩
   ·obtain ⟨ρ2,hag,h4⟩:=j1 hd ρ1 w' h2 h3
    obtain ⟨h6,h7⟩:=h5 v rfl
    unfold Oper.wp
    rw [h1]
    exact fin ρ1 ρ2 z w' hag h4 h6 (Option.some.inj h7)
   ·obtain ⟨h6,h7⟩:=h5 v rfl
    cases h7
   ·unfold Oper.wp
    rw [h1]
    exact h2.mono fun e w' ⟨z,he,ρ1,h2,h3,h5⟩=>by
     subst he
     obtain ⟨ρ2,hag,h4⟩:=j1 hd ρ1 w' h2 h3
     obtain ⟨h6,h7⟩:=h5 v rfl
     exact fin ρ1 ρ2 z w' hag h4 h6 (Option.some.inj h7)
  ·rename_i hwt
   have hd:a.tmps[d]?≠some (.bool want):=fun h=>hwt ((hw a).2 h)
   obtain ⟨ρ2,_,h4⟩:=j2 hd
   exact hK ρ2 _ w ⟨hr'.2 ρ2 a undef h4.act (fun h=>absurd h hd) (fun _=>rfl),by rw [hr'.1];exact h4.hs⟩
theorem zcQ (hS:SigsOK P I gK S F) (hE:E.Ok gK) (hn0:S.n0=E.n0) (hI:∀ w,Fr E.W E.w0 w→I w) {ops:Array Oper} {r:RS} {o:Oper} (q:Bool):M.sat F ν (zi4 P S q ops.toList r o) (fun r'=>(q=false→znY P ν E ops o r r')∧(q=true→zmD P ν E ops o r r')):=by
 unfold zi4
 have hboth:∀ {x:OR},(∀ ρ a,ARel ν ρ r a→Region.wanted o (yielded ops a.tmps)=true)→(∀ ρ a,ARel ν ρ r a→ORok P I E ν ρ r.st.hp (execOp a.eval o) x) →
   M.sat F ν (zeN q r o.dst x) (fun r'=>(q=false→znY P ν E ops o r r')∧(q=true→zmD P ν E ops o r r')):=by
  intro x h1 h2
  cases q
  ·exact zag (zpk hI h1 h2) fun r' h=>⟨fun _=>h,fun e=>by cases e⟩
  ·exact zag (zn1 hI h1 h2) fun r' h=>⟨fun e=>(by cases e),fun _=>h⟩
 split
 ·rename_i hg
  refine zaa (zeg hS hE) fun x hx=>hboth (fun ρ a _=>by simp [Region.wanted,hg]) fun ρ a ha=>hx ρ a ha (fun p hp=>by simp at hp)
 ·rename_i j want hg
  refine zaa (zad (Q:=fun d=>(ops[j]?).bind (·.dst)=some d) fun a h=>by simpa using h) fun d hd=>?_
  refine zaa (zad (Q:=fun res=>zbP r 8 d want=some res) fun a h=>h) fun res hres=>?_
  have hwd:∀ (a:Act),Region.wanted o (yielded ops a.tmps)=true↔a.tmps[d]? = some (.bool want):=fun a=>zgd hg hd
  split
  ·refine zag zbN fun r' hr'=>⟨fun _ ρ a w hrr K Q hK=>?_,fun _=>⟨hr'.1,fun ρ a ha _ C _=>?_⟩⟩
   ·have hn:a.tmps[d]?≠some (.bool want):=zav hrr.act 8 d want hres
    rw [if_neg (fun h=>hn ((hwd a).1 h))]
    exact hK ρ _ w ⟨hr'.2 ρ a _ hrr.act (fun v hv=>by cases hv;exact ⟨V.good_s.2 (V1.good_one.2 trivial),rfl⟩),by rw [hr'.1];exact hrr.hs⟩
   ·have hn:a.tmps[d]?≠some (.bool want):=zav ha 8 d want hres
    rw [if_neg (fun h=>hn ((hwd a).1 h))]
    exact hr'.2 ρ a _ ha (fun v hv=>by cases hv;exact ⟨V.good_s.2 (V1.good_one.2 trivial),rfl⟩)
  ·rename_i ctx cs
   split
   ·refine zaa (zeg hS hE) fun x hx=>hboth (fun ρ a ha=>?_) fun ρ a ha=>hx ρ a ha (fun p hp=>by simp at hp)
    have:=zav ha 8 d want hres
    exact (hwd a).2 (this.2.1 rfl)
   ·refine zaa (zeR (zeg hS hE (ctx:=ctx))) fun x hx=>?_
    have hx2:∀ ρ a,ARel ν ρ r a→a.tmps[d]? = some (.bool want)→ORok P I E ν ρ r.st.hp (execOp a.eval o) x:=fun ρ a ha hd'=>by
     have:=(zav ha 8 d want hres).1 hd'
     exact hx this.2 ρ a ha this.1
    cases x with
    | val v=>exact zag (zn2 hI hwd hx2) fun r' h=>⟨fun _=>h.1,fun _=>h.2⟩
    | hp v hp' =>
     refine zae (fun _=>zac) (fun hq=>?_)
     refine zag (zlb hI hn0 hwd (fun ρ a ha=>?_) hx2) fun r' h=>⟨fun _=>h,fun e=>absurd e hq⟩
     have:=zav ha 8 d want hres
     exact ⟨fun h=>(this.1 h).2,this.2.2⟩
end
end Go.Sx
namespace Go.Sx
open Go.RowKit
section
variable {P:Program} {md:Region.Mode}
theorem zs3 {o:Oper} {a:Act} {K K':Act→World→Prop} {Q Q':Exit→Act→World→Prop} {r:Result Next} (hk:∀ a w,K a w→K' a w) (hq:∀ e a w,e≠.normal→Q e a w→Q' e a w)
  (h:o.upon P a K Q r):o.upon P a K' Q' r:=by
 have hl:LetsOut Q→LetsOut Q':=fun ⟨a,w,h⟩=>⟨a,w,hq _ a w (by simp) h⟩
 cases r with
 | ok n w' =>
  cases n<;>simp only [Oper.upon] at h ⊢ <;>
   first
    | exact hk _ _ h
    | exact Calls.mono h (fun e w'' he=>by cases e<;>first | exact hk _ _ he | exact hq _ _ _ (by simp) he | exact hl he)
    | exact Rows.mono h (fun _ _ he=>hk _ _ he)
 | halt x w'=>cases x<;>simp only [Oper.upon] at h ⊢<;>first | exact hq _ _ _ (by simp) h | exact h
theorem zeh {o:Oper} {a:Act} {w:World} {K K':Act→World→Prop} {Q Q':Exit→Act→World→Prop} (hk:∀ a w,K a w→K' a w) (hq:∀ e a w,e≠.normal→Q e a w→Q' e a w)
  (h:o.wp P a w K Q∨(o.asks P a w∧LetsOut Q)):o.wp P a w K' Q'∨(o.asks P a w∧LetsOut Q'):=by
 rcases h with h | ⟨h1,a',w',h2⟩
 ·exact .inl (zs3 hk hq h)
 ·exact .inr ⟨h1,a',w',hq _ _ _ (by simp) h2⟩
theorem zge {ops ops':Array Oper} {i:Nat} {a:Act} {w:World} {K K':Act→World→Prop} {Q Q':Exit→Act→World→Prop} (ho:ops'[i]? = ops[i]?)
  (hg:∀ o,ops[i]? = some o→Region.wanted o (yielded ops' a.tmps)=Region.wanted o (yielded ops a.tmps)) (hk:∀ a w,K a w→K' a w) (hq:∀ e a w,e≠.normal→Q e a w→Q' e a w)
  (h:wpOp P ops Q i K a w):wpOp P ops' Q' i K' a w:=by
 unfold wpOp at h ⊢
 rw [ho]
 cases hop:ops[i]? with
 | none=>simp only [hop] at h ⊢;exact hk _ _ h
 | some o =>
  simp only [hop] at h ⊢
  rw [hg o hop]
  split
  ·rename_i hw;simp only [hw,if_true] at h;exact zeh hk hq h
  ·rename_i hw;simp only [hw] at h;exact hk _ _ h
theorem zhI {ops:Array Oper} {Q Q':Exit→Act→World→Prop} (hq:∀ e a w,Q e a w→Q' e a w):∀ (fuel:Nat) (listed:Array Bool) (a:Act) (w:World),wpAny P md ops Q fuel listed a w→wpAny P md ops Q' fuel listed a w
 | 0,_,_,_,h=>⟨h.1,hq _ _ _ h.2⟩
 | fuel+1,_,_,_,h=>⟨fun h0=>hq _ _ _ (h.1 h0),fun i hi=>zge rfl (fun _ _=>rfl) (zhI hq fuel _) (fun e a w _=>hq e a w) (h.2 i hi)⟩
theorem zaN (l:Array Bool) (j:Nat):(l.push false).getD j false=l.getD j false:=by
 rw [Array.getD_eq_getD_getElem?,Array.getD_eq_getD_getElem?,Array.getElem?_push]
 split
 ·rename_i h;subst h;simp
 ·rfl
theorem zn3 (l:Array Bool) {j:Nat} (h:j≠l.size) (d:Bool):(l.push false).getD j d=l.getD j d:=by
 rw [Array.getD_eq_getD_getElem?,Array.getD_eq_getD_getElem?,Array.getElem?_push,if_neg h]
theorem zbw {l:Array Bool} {j:Nat} (h:j<l.size):(l.push false).getD j true=l.getD j true:=zn3 l (by omega) true
theorem zin {l:Array Bool} {n:Nat} (h:l.size=n) (d:Bool):(l.push false).getD n d=false:=by
 rw [Array.getD_eq_getD_getElem?,Array.getElem?_push,if_pos h.symm];rfl
theorem zaz {l:Array Bool} {j:Nat} (h:j<l.size):l.getD j true=l.getD j false:=by simp [h]
def zbR (md:Region.Mode) (ops:Array Oper):Prop:=∀ (i:Nat) (o:Oper),ops[i]? = some o→(∀ e∈o.after,Region.binds md e=true→e.on<i)∧∀ j b,o.guard=some (j,b)→j<i
theorem zb0 {ops:Array Oper} {listed:Array Bool} (hs:listed.size=ops.size) (hb:zbR md ops) (h:Region.ready md ops listed=[]):∀ i,i<ops.size→listed.getD i false=true:=by
 intro i
 induction i using Nat.strongRecOn with
 | _ i ih =>
  intro hi
  cases hl:listed.getD i false with
  | true=>rfl
  | false =>
   exfalso
   have hmem:i∈Region.ready md ops listed:=mem_ready.2 ⟨by rw [zaz (by omega)];exact hl,ops[i],by simp [hi],fun e he hbd=>by
    have:=(hb i ops[i] (by simp [hi])).1 e he hbd
    exact ih e.on this (by omega)⟩
   rw [h] at hmem
   cases hmem
theorem zjR {head:Array Oper} {last:Oper} {o:Oper} {i:Nat} {tmps:Array Value} (hi:i≤head.size) (hg:∀ j b,o.guard=some (j,b)→j<i) :
  Region.wanted o (yielded (head.push last) tmps)=Region.wanted o (yielded head tmps):=by
 unfold Region.wanted
 cases hgd:o.guard with
 | none=>rfl
 | some p =>
  obtain ⟨j,b⟩:=p
  have:=hg j b hgd
  have:(head.push last)[j]? = head[j]?:=by rw [Array.getElem?_push,if_neg (by omega)]
  simp only [yielded,this]
theorem zrN {head:Array Oper} {last:Oper} {Q Qh:Exit→Act→World→Prop} (hb:zbR md (head.push last)) (hw:∀ i,i<head.size→∃ e∈last.after,Region.binds md e=true∧e.on=i)
  (hq:∀ e a w,e≠.normal→Qh e a w→Q e a w) (hl:∀ a w,Qh .normal a w→wpOp P (head.push last) Q head.size (Q .normal) a w) :
  ∀ (fuel:Nat) (listed:Array Bool) (a:Act) (w:World),listed.size=head.size→wpAny P md head Qh fuel listed a w→wpAny P md (head.push last) Q (fuel+1) (listed.push false) a w:=by
 have hbh:zbR md head:=fun i o ho=>hb i o (by
  have hi:i<head.size:=by
   rcases Nat.lt_or_ge i head.size with h | h
   ·exact h
   ·rw [Array.getElem?_eq_none h] at ho;cases ho
  rw [Array.getElem?_push,if_neg (by omega)];exact ho)
 have hlast:(head.push last)[head.size]? = some last:=by simp
 have hbl:=hb head.size last hlast
 -- what is ready
 have r1:∀ listed:Array Bool,listed.size=head.size→∀ i,i∈Region.ready md (head.push last) (listed.push false)→i=head.size∨(i<head.size∧i∈Region.ready md head listed):=by
  intro listed hs i hi
  obtain ⟨h1,oi,h2,h3⟩:=mem_ready.1 hi
  rcases Nat.lt_trichotomy i head.size with h | h | h
  ·right
   refine ⟨h,mem_ready.2 ⟨by rw [←zbw (by omega)];exact h1,oi,by rw [Array.getElem?_push,if_neg (by omega)] at h2;exact h2,fun e he hbd=>by rw [←zaN];exact h3 e he hbd⟩⟩
  ·exact .inl h
  ·rw [Array.getElem?_eq_none (by simp;omega)] at h2;cases h2
 have r2:∀ listed:Array Bool,listed.size=head.size→head.size∈Region.ready md (head.push last) (listed.push false)→Region.ready md head listed=[]:=by
  intro listed hs hi
  obtain ⟨_,oi,h2,h3⟩:=mem_ready.1 hi
  rw [hlast] at h2
  cases h2
  apply List.eq_nil_iff_forall_not_mem.2
  intro j hj
  obtain ⟨h4,oj,h5,_⟩:=mem_ready.1 hj
  have hjl:j<head.size:=by
   rcases Nat.lt_or_ge j head.size with h | h
   ·exact h
   ·rw [Array.getElem?_eq_none h] at h5;cases h5
  obtain ⟨e,he,hbd,hon⟩:=hw j hjl
  have:=h3 e he hbd
  rw [zaN,hon,←zaz (by omega),h4] at this
  cases this
 have r3:∀ listed:Array Bool,listed.size=head.size→Region.ready md head listed=[]→head.size∈Region.ready md (head.push last) (listed.push false):=by
  intro listed hs h0
  refine mem_ready.2 ⟨zin hs true,last,hlast,fun e he hbd=>?_⟩
  rw [zaN]
  exact zb0 hs hbh h0 e.on (hbl.1 e he hbd)
 have rend:∀ listed:Array Bool,listed.size=head.size→Region.ready md head listed=[]→Region.ready md (head.push last) ((listed.push false).setIfInBounds head.size true)=[]:=by
  intro listed hs h0
  apply List.eq_nil_iff_forall_not_mem.2
  intro j hj
  obtain ⟨h4,oj,h5,_⟩:=mem_ready.1 hj
  have hjl:j<head.size+1:=by
   rcases Nat.lt_or_ge j (head.size+1) with h | h
   ·exact h
   ·rw [Array.getElem?_eq_none (by simp;omega)] at h5;cases h5
  by_cases hjn:j=head.size
  ·subst hjn
   rw [Array.getD_eq_getD_getElem?,Array.getElem?_setIfInBounds_self_of_lt (by simp [hs])] at h4
   cases h4
  ·have:=zb0 hs hbh h0 j (by omega)
   rw [getD_set_ne true (Ne.symm hjn),zbw (by omega),zaz (by omega),this] at h4
   cases h4
 have fin:∀ (fuel:Nat) (listed:Array Bool) (a:Act) (w:World),listed.size=head.size→Region.ready md head listed=[]→Q .normal a w →
   wpAny P md (head.push last) Q fuel ((listed.push false).setIfInBounds head.size true) a w:=by
  intro fuel listed a w hs h0 hn
  have he:=rend listed hs h0
  cases fuel with
  | zero=>exact ⟨he,hn⟩
  | succ f=>exact ⟨fun _=>hn,fun i hi=>by rw [he] at hi;cases hi⟩
 intro fuel
 induction fuel with
 | zero =>
  intro listed a w hs h
  refine ⟨fun h0=>?_,fun i hi=>?_⟩
  ·have:=r3 listed hs h.1
   rw [h0] at this;cases this
  ·rcases r1 listed hs i hi with rfl | ⟨_,hi'⟩
   ·exact wpOp_mono (fun a' w' hn=>fin 0 listed a' w' hs h.1 hn) (hl a w h.2)
   ·rw [h.1] at hi';cases hi'
 | succ fuel ih =>
  intro listed a w hs h
  refine ⟨fun h0=>?_,fun i hi=>?_⟩
  ·exfalso
   have hz:Region.ready md head listed=[]:=by
    apply List.eq_nil_iff_forall_not_mem.2
    intro j hj
    obtain ⟨h4,oj,h5,h6⟩:=mem_ready.1 hj
    have hjl:j<head.size:=by
     rcases Nat.lt_or_ge j head.size with h | h
     ·exact h
     ·rw [Array.getElem?_eq_none h] at h5;cases h5
    have:j∈Region.ready md (head.push last) (listed.push false):=mem_ready.2 ⟨by rw [zbw (by omega)];exact h4,oj,by rw [Array.getElem?_push,if_neg (by omega)];exact h5,fun e he hbd=>by rw [zaN];exact h6 e he hbd⟩
    rw [h0] at this;cases this
   have:=r3 listed hs hz
   rw [h0] at this;cases this
  ·rcases r1 listed hs i hi with rfl | ⟨hil,hi'⟩
   ·have hz:=r2 listed hs hi
    exact wpOp_mono (fun a' w' hn=>fin (fuel+1) listed a' w' hs hz hn) (hl a w (h.1 hz))
   ·have h2:=h.2 i hi'
    have hset:(listed.push false).setIfInBounds i true=(listed.setIfInBounds i true).push false:=by
     apply Array.ext'
     simp only [Array.toList_setIfInBounds,Array.toList_push]
     rw [List.set_append_left _ _ (by simpa using (show i<listed.size from by omega))]
    rw [hset]
    refine zge (by rw [Array.getElem?_push,if_neg (by omega)]) (fun o ho=>?_) (fun a' w' h'=>ih _ a' w' (by simpa using hs) h') hq h2
    exact zjR (i:=i) (by omega) (hbh i o ho).2
theorem zjS {ops:Array Oper} {Q:Exit→Act→World→Prop} (hb:zbR md ops):∀ (rest:List Oper) (head:Array Oper),ops.toList=head.toList++rest →
  (∀ i,head.size≤i→∀ o,ops[i]? = some o→∀ j,j<i→∃ e∈o.after,Region.binds md e=true∧e.on=j) →
  ∀ a w,wpAny P md head (fun e a w=>match e with | .normal=>wpList P ops Q rest a w | e=>Q e a w) head.size (Array.replicate head.size false) a w →
  wpAny P md ops Q ops.size (Array.replicate ops.size false) a w
 | [],head,ho,_,a,w,h=>by
  have:head=ops:=by apply Array.ext';simpa using ho.symm
  subst this
  refine zhI (fun e a w hh=>?_) _ _ _ _ h
  cases e<;>exact hh
 | o::rest,head,ho,hw,a,w,h=>by
  have hpre:∀ i,i<head.size+1→(head.push o)[i]? = ops[i]?:=fun i hi=>by
   have h1:ops[i]? = ops.toList[i]?:=by simp
   rw [h1,ho]
   by_cases hih:i<head.size
   ·rw [List.getElem?_append_left (by simpa using hih),Array.getElem?_push,if_neg (by omega)];simp
   ·have:i=head.size:=by omega
    subst this
    simp
  have hbp:zbR md (head.push o):=fun i x hx=>hb i x (by
   rw [←hpre i (by
    rcases Nat.lt_or_ge i (head.size+1) with h | h
    ·exact h
    ·rw [Array.getElem?_eq_none (by simp;omega)] at hx;cases hx)]
   exact hx)
  have ho':ops[head.size]? = some o:=by rw [←hpre _ (by omega)];simp
  refine zjS hb rest (head.push o) (by simp [ho]) (fun i hi x hx j hj=>hw i (by simp at hi;omega) x hx j hj) a w ?_
  have:=zrN (P:=P) (md:=md) (head:=head) (last:=o) (Q:=fun e a w=>match e with | .normal=>wpList P ops Q rest a w | e=>Q e a w) hbp
   (fun i hi=>hw head.size (Nat.le_refl _) o ho' i hi) (Qh:=fun e a w=>match e with | .normal=>wpList P ops Q (o::rest) a w | e=>Q e a w)
   (fun e a w hne hh=>by cases e<;>first | exact absurd rfl hne | exact hh)
   (fun a w hh=>by
    simp only [wpList] at hh
    unfold wpOp
    have e1:(head.push o)[head.size]? = some o:=by simp
    simp only [e1]
    have hwd:Region.wanted o (yielded (head.push o) a.tmps)=Region.wanted o (yielded ops a.tmps):=by
     unfold Region.wanted
     cases hgd:o.guard with
     | none=>rfl
     | some p =>
      obtain ⟨j,b⟩:=p
      have:=(hb head.size o ho').2 j b hgd
      simp only [yielded,hpre j (by omega)]
    rw [hwd]
    split
    ·rename_i hwt
     simp only [hwt,if_true] at hh
     exact zeh (fun a w h=>h) (fun e a w hne h=>by cases e<;>first | exact absurd rfl hne | exact h) hh
    ·rename_i hwt
     simp only [hwt] at hh
     exact hh)
   head.size (Array.replicate head.size false) a w (by simp) h
  have hrep:(Array.replicate head.size false).push false=Array.replicate (head.push o).size false:=by
   simp [Array.replicate_succ]
  rw [hrep] at this
  simpa using this
end
end Go.Sx
namespace Go.Sx
open Go.RowKit
def zbM (ops:Array Oper) (listed:Array Bool):Prop:=∀ (i:Nat) (o:Oper),ops[i]? = some o→listed.getD i false=true→∀ e∈o.after,Region.binds .any e=true→listed.getD e.on false=true
theorem zaF {l:Array Bool} {i j:Nat} (h:l.getD j false=true):(l.setIfInBounds i true).getD j false=true:=by
 by_cases hij:i=j
 ·subst hij
  have:i<l.size:=by
   rcases Nat.lt_or_ge i l.size with h1 | h1
   ·exact h1
   ·rw [Array.getD_eq_getD_getElem?,Array.getElem?_eq_none h1] at h;cases h
  rw [Array.getD_eq_getD_getElem?,Array.getElem?_setIfInBounds_self_of_lt this]
  rfl
 ·rw [Array.getD_eq_getD_getElem?,Array.getElem?_setIfInBounds_ne hij,←Array.getD_eq_getD_getElem?]
  exact h
theorem zbY {l:Array Bool} {i j:Nat} (h:(l.setIfInBounds i true).getD j false=true):j=i∨l.getD j false=true:=by
 by_cases hij:i=j
 ·exact .inl hij.symm
 ·rw [Array.getD_eq_getD_getElem?,Array.getElem?_setIfInBounds_ne hij,←Array.getD_eq_getD_getElem?] at h
  exact .inr h
theorem zbM.set {ops:Array Oper} {listed:Array Bool} (h:zbM ops listed) {i:Nat} (hi:i∈Region.ready .any ops listed):zbM ops (listed.setIfInBounds i true):=by
 intro j o ho hj e he hb
 obtain ⟨_,oi,h2,h3⟩:=mem_ready.1 hi
 rcases zbY hj with rfl | hj
 ·rw [h2] at ho;cases ho
  exact zaF (h3 e he hb)
 ·exact zaF (h j o ho hj e he hb)
theorem zbb {n:Nat} : ∀ {l:List Nat},memN n l=true→n∈l
 | [],h=>by cases h
 | x::l,h=>by
  simp only [memN,Bool.or_eq_true] at h
  rcases h with h | h
  ·rw [Nat.eq_of_beq_eq_true h];simp
  ·exact List.mem_cons_of_mem _ (zbb h)
theorem zfw {o:Oper} {x:Nat} (h:x∈za6 o):∃ e∈o.after,Region.binds .any e=true∧e.on=x:=by
 unfold za6 at h
 obtain ⟨e,he,rfl⟩:=List.mem_map.1 h
 obtain ⟨h1,h2⟩:=List.mem_filter.1 he
 exact ⟨e,by simpa using h1,h2,rfl⟩
theorem zcv {ops:Array Oper} {listed:Array Bool} (hc:zbM ops listed):∀ (n:Nat) (l:List Nat),(∀ x∈l,listed.getD x false=true)→∀ x∈zax ops.toList n l,listed.getD x false=true
 | 0,l,h,x,hx=>h x hx
 | n+1,l,h,x,hx=>by
  simp only [zax] at hx
  split at hx
  ·rename_i hm
   refine zcv hc n _ (fun y hy=>?_) x hx
   rcases List.mem_append.1 hy with hy | hy
   ·cases ho:ops.toList[n]? with
    | none=>rw [ho] at hy;cases hy
    | some o =>
     rw [ho] at hy
     obtain ⟨e,he,hb,rfl⟩:=zfw hy
     exact hc n o (by simpa using ho) (h n (zbb hm)) e he hb
   ·exact h y hy
  ·exact zcv hc n l h x hx
theorem zbx {ops:Array Oper} {listed:Array Bool} (hc:zbM ops listed) {i:Nat} {o:Oper} (ho:ops[i]? = some o) (hi:i∈Region.ready .any ops listed):∀ x∈zax ops.toList i (za6 o),listed.getD x false=true:=by
 refine zcv hc i _ fun x hx=>?_
 obtain ⟨e,he,hb,rfl⟩:=zfw hx
 obtain ⟨_,oi,h2,h3⟩:=mem_ready.1 hi
 rw [ho] at h2;cases h2
 exact h3 e he hb
section
variable {P:Program}
theorem zgf {a:Act} {d:Option Tmp} {v:Value} {t:Nat} (h:d≠some t):(a.put d v).tmps[t]? = a.tmps[t]?:=by
 cases d with
 | none=>rfl
 | some d =>
  show (a.tmps.setIfInBounds d v)[t]? = _
  rw [Array.getElem?_setIfInBounds_ne (fun e=>h (by rw [e]))]
theorem zdl {ops:Array Oper} {C:World→Prop} {Q:Act→Prop} : ∀ (fuel:Nat) (listed:Array Bool) (a:Act),wpAnyQ P .any ops C Q fuel listed a →
  ∃ a',Q a'∧∀ t,(∀ (j:Nat) (o:Oper),ops[j]? = some o→o.dst=some t→listed.getD j true=true)→a'.tmps[t]? = a.tmps[t]?
 | 0,listed,a,h=>⟨a,h.2,fun _ _=>rfl⟩
 | fuel+1,listed,a,h=>by
  cases hr:Region.ready .any ops listed with
  | nil=>exact ⟨a,h.1 hr,fun _ _=>rfl⟩
  | cons i l =>
   have hi:i∈Region.ready .any ops listed:=by rw [hr];simp
   obtain ⟨hnl,oi,hoi,_⟩:=mem_ready.1 hi
   have hq:=h.2 i hi
   unfold qOp at hq
   rw [hoi] at hq
   simp only at hq
   have step:∀ v:Value,wpAnyQ P .any ops C Q fuel (listed.setIfInBounds i true) (a.put oi.dst v)→∃ a',Q a'∧∀ t,(∀ (j:Nat) (o:Oper),ops[j]? = some o→o.dst=some t→listed.getD j true=true)→a'.tmps[t]? = a.tmps[t]?:=by
    intro v hv
    obtain ⟨a',h1,h2⟩:=zdl fuel _ _ hv
    refine ⟨a',h1,fun t ht=>?_⟩
    have hne:oi.dst≠some t:=fun e=>by have:=ht i oi hoi e;rw [hnl] at this;cases this
    rw [h2 t (fun j o ho hd=>?_),zgf hne]
    have h3:=ht j o ho hd
    by_cases hij:i=j
    ·subst hij;rw [hnl] at h3;cases h3
    ·rw [Array.getD_eq_getD_getElem?,Array.getElem?_setIfInBounds_ne hij,←Array.getD_eq_getD_getElem?]
     exact h3
   split at hq
   ·obtain ⟨v,_,h2⟩:=hq
    exact step v h2
   ·exact step _ hq
theorem za0 {ops ops':Array Oper} (h:∀ j:Nat,(ops'[j]?).bind (·.dst)=(ops[j]?).bind (·.dst)) (tmps:Array Value):yielded ops' tmps=yielded ops tmps:=by
 funext j
 unfold yielded
 rw [h j]
theorem zpl {ops ops':Array Oper} {st:List Nat} {C:World→Prop} {D:Nat→World→Prop} {Qf:Act→Prop} {Q':Exit→Act→World→Prop} (hb:zbR .any ops)
  (hready:∀ listed,Region.ready .any ops' listed=Region.ready .any ops listed) (hdst:∀ j:Nat,(ops'[j]?).bind (·.dst)=(ops[j]?).bind (·.dst))
  (hns:∀ i:Nat,i∉st→ops'[i]? = ops[i]?) (hst:∀ i∈st,∃ o o':Oper,ops[i]? = some o∧ops'[i]? = some o'∧o.guard=none∧o'.dst=o.dst∧o'.guard=none)
  (hCD:∀ k w,k≤st.length→D k w→C w)
  (hpure:∀ (i:Nat) (o:Oper),i∉st→ops[i]? = some o→∀ (a:Act) (w:World) f args w',(execOp a.eval o).run P w≠.ok (.enter f args) w')
  (hprev:∀ (p q:Nat) (i j:Nat),p<q→st[p]? = some i→st[q]? = some j→∀ listed,zbM ops listed→j∈Region.ready .any ops listed→listed.getD i false=true)
  (hop:∀ (i:Nat) (o:Oper),i∈st→ops[i]? = some o→∀ listed,zbM ops listed→i∈Region.ready .any ops listed→∀ t∈zdH o.op,∀ (j:Nat) (o':Oper),ops[j]? = some o'→o'.dst=some t→listed.getD j false=true)
  (hstep:∀ (k i:Nat) (o o':Oper),st[k]? = some i→ops[i]? = some o→ops'[i]? = some o' →
   (o.dst=none∧∀ a a':Act,Qf a'→(∀ t∈zdH o.op,a'.tmps[t]? = a.tmps[t]?)→∀ w,D k w→∃ w',(execOp a.eval o).run P w = .ok .skip w'∧D (k+1) w') ∨
   (∃ v,(∀ (a:Act) (w:World),(execOp a.eval o').run P w = .ok (.value v) w)∧∀ (a:Act) w,D k w→∃ w',(execOp a.eval o).run P w = .ok (.value v) w'∧D (k+1) w'))
  (hQ:∀ a w,Qf a→D st.length w→Q' .normal a w) :
  ∀ (fuel:Nat) (listed:Array Bool) (a:Act) (w:World) (k:Nat),listed.size=ops.size→zbM ops listed→k≤st.length→(∀ p i,p<k→st[p]? = some i→listed.getD i false=true)→(∀ p i,k≤p→st[p]? = some i→listed.getD i false=false) →
   D k w→wpAnyQ P .any ops' C Qf fuel listed a→wpAny P .any ops Q' fuel listed a w:=by
 have hfin:∀ (listed:Array Bool) (k:Nat),listed.size=ops.size→k≤st.length→(∀ p i,k≤p→st[p]? = some i→listed.getD i false=false)→Region.ready .any ops listed=[]→k=st.length:=by
  intro listed k hs hk h2 h0
  rcases Nat.lt_or_ge k st.length with h | h
  ·have hi:=List.getElem?_eq_getElem h
   have h3:=h2 k _ (Nat.le_refl _) hi
   obtain ⟨o,_,ho,_⟩:=hst _ (List.mem_of_getElem? hi)
   have hlt:st[k]<ops.size:=by
    rcases Nat.lt_or_ge st[k] ops.size with h | h
    ·exact h
    ·rw [Array.getElem?_eq_none h] at ho;cases ho
   rw [zb0 hs hb h0 _ hlt] at h3
   cases h3
  ·omega
 intro fuel
 induction fuel with
 | zero =>
  intro listed a w k hs hcl hk h1 h2 hd h
  have h0:=h.1
  rw [hready] at h0
  have:=hfin listed k hs hk h2 h0
  subst this
  exact ⟨h0,hQ a w h.2 hd⟩
 | succ fuel ih =>
  intro listed a w k hs hcl hk h1 h2 hd h
  refine ⟨fun h0=>?_,fun i hi=>?_⟩
  ·have:=hfin listed k hs hk h2 h0
   subst this
   exact hQ a w (h.1 (by rw [hready];exact h0)) hd
  ·have hq:=h.2 i (by rw [hready];exact hi)
   have hs':(listed.setIfInBounds i true).size=ops.size:=by simpa using hs
   have hcl':=hcl.set hi
   obtain ⟨hnl,oi,hoi,_⟩:=mem_ready.1 hi
   have hil:i<ops.size:=by
    rcases Nat.lt_or_ge i ops.size with h | h
    ·exact h
    ·rw [Array.getElem?_eq_none h] at hoi;cases hoi
   by_cases him:i∈st
   ·obtain ⟨p,hp,hpi⟩:=List.mem_iff_getElem.1 him
    have hpi':st[p]? = some i:=by rw [List.getElem?_eq_getElem hp,hpi]
    have hnl':listed.getD i false=false:=by rw [←zaz (by omega)];exact hnl
    have hkp:k=p:=by
     rcases Nat.lt_trichotomy k p with hlt | heq | hgt
     ·have hq2:=List.getElem?_eq_getElem (show k<st.length by omega)
      have e1:=hprev k p _ i hlt hq2 hpi' listed hcl hi
      rw [h2 k _ (Nat.le_refl _) hq2] at e1
      cases e1
     ·exact heq
     ·rw [h1 p i hgt hpi'] at hnl'
      cases hnl'
    subst hkp
    obtain ⟨o,o',e1,e2,e4,e5,e6⟩:=hst i him
    rw [hoi] at e1;cases e1
    have hwd:Region.wanted oi (yielded ops a.tmps)=true:=by simp [Region.wanted,e4]
    have hwd':Region.wanted o' (yielded ops' a.tmps)=true:=by simp [Region.wanted,e6]
    -- all that goes on behind
    have behind:∀ a1 w',D (k+1) w'→wpAnyQ P .any ops' C Qf fuel (listed.setIfInBounds i true) a1→wpAny P .any ops Q' fuel (listed.setIfInBounds i true) a1 w':=fun a1 w' hd' hnext=>by
     refine ih _ a1 w' (k+1) hs' hcl' (by omega) (fun q j hq1 hq2=>?_) (fun q j hq1 hq2=>?_) hd' hnext
     ·rcases Nat.lt_or_ge q k with hqk | hqk
      ·exact zaF (h1 q j hqk hq2)
      ·have:q=k:=by omega
       subst this
       rw [hpi'] at hq2;cases hq2
       rw [Array.getD_eq_getD_getElem?,Array.getElem?_setIfInBounds_self_of_lt (by omega)]
       rfl
     ·cases hj:(listed.setIfInBounds i true).getD j false with
      | false=>rfl
      | true =>
       rcases zbY hj with rfl | hj
       ·have e7:=hprev k q j j (by omega) hpi' hq2 listed hcl hi
        rw [hnl'] at e7;cases e7
       ·rw [h2 q j (by omega) hq2] at hj;cases hj
    unfold qOp at hq
    rw [e2] at hq
    simp only at hq
    rw [if_pos hwd'] at hq
    obtain ⟨v,hv,h4⟩:=hq
    rw [e5] at h4
    unfold wpOp
    rw [hoi]
    simp only
    rw [if_pos hwd]
    refine .inl ?_
    unfold Oper.wp
    rcases hstep k i oi o' hpi' hoi e2 with ⟨e3,hstep⟩ | ⟨u,hu,hstep⟩
    ·rw [e3] at h4
     have hnext:wpAnyQ P .any ops' C Qf fuel (listed.setIfInBounds i true) a:=h4
     obtain ⟨a',ha',htm⟩:=zdl fuel _ _ hnext
     obtain ⟨w',hrun,hd'⟩:=hstep a a' ha' (fun t ht=>htm t fun j o'' ho'' hd''=>by
      have hjd:(ops[j]?).bind (·.dst)=some t:=by rw [←hdst j,ho''];exact hd''
      cases hoj:ops[j]? with
      | none=>rw [hoj] at hjd;cases hjd
      | some oj =>
       rw [hoj] at hjd
       have hjl:j<listed.size:=by
        rcases Nat.lt_or_ge j ops.size with h | h
        ·omega
        ·rw [Array.getElem?_eq_none h] at hoj;cases hoj
       have:=zaF (i:=i) (hop i oi him hoi listed hcl hi t ht j oj hoj hjd)
       rw [zaz (by simpa using hjl)]
       exact this) w hd
     rw [hrun]
     show wpAny P .any ops Q' fuel (listed.setIfInBounds i true) (a.put oi.dst undef) w'
     rw [e3]
     exact behind a w' hd' hnext
    ·obtain ⟨w',hrun,hd'⟩:=hstep a w hd
     have hvu:u=v:=by
      have h3:=hv w (hCD k w hk hd)
      unfold Oper.quietAt at h3
      rw [hu a w] at h3
      exact h3.2
     subst hvu
     rw [hrun]
     show wpAny P .any ops Q' fuel (listed.setIfInBounds i true) (a.put oi.dst u) w'
     exact behind _ w' hd' h4
   ·have hin:∀ q j,st[q]? = some j→j≠i:=fun q j hj e=>him (e▸List.mem_of_getElem? hj)
    have fin:∀ a',wpAnyQ P .any ops' C Qf fuel (listed.setIfInBounds i true) a'→wpAny P .any ops Q' fuel (listed.setIfInBounds i true) a' w:=fun a' h' =>
     ih _ a' w k hs' hcl' hk (fun q j hq1 hq2=>zaF (h1 q j hq1 hq2)) (fun q j hq1 hq2=>by
      cases hj:(listed.setIfInBounds i true).getD j false with
      | false=>rfl
      | true =>
       rcases zbY hj with e | hj
       ·exact absurd e (hin q j hq2)
       ·rw [h2 q j hq1 hq2] at hj;cases hj) hd h'
    unfold qOp at hq
    rw [hns i him,hoi] at hq
    simp only [za0 hdst] at hq
    unfold wpOp
    rw [hoi]
    simp only
    split
    ·rename_i hwt
     rw [if_pos hwt] at hq
     obtain ⟨v,hv1,hv2⟩:=hq
     refine .inl ?_
     have h3:=hv1 w (hCD k w hk hd)
     have hne:=hpure i oi him hoi a w
     unfold Oper.quietAt at h3
     unfold Oper.wp
     generalize (execOp a.eval oi).run P w=r at *
     cases r with
     | ok n w' =>
      cases n<;>simp only [Oper.quietUpon] at h3<;>simp only [Oper.upon]
      case value u =>
       obtain ⟨e1,e2⟩:=h3
       rw [e1,e2]
       exact fin _ hv2
      case skip =>
       obtain ⟨e1,e2⟩:=h3
       rw [e1,←e2]
       exact fin _ hv2
      case enter f args=>exact absurd rfl (hne f args w')
     | halt x w'=>simp only [Oper.quietUpon] at h3
    ·rename_i hwt
     rw [if_neg hwt] at hq
     exact fin _ hq
end
end Go.Sx
namespace Go.Sx
open Go.RowKit
section
variable {P:Program} {I:World→Prop} {S:Sigs} {F:FEnv} {E:Env} {gK:Nat} {ν:Nat→DV}
theorem zmF {α ι:Type} {x:M α} {Q:ι→α→Prop} (h:∀ i,M.sat F ν x (Q i)):M.sat F ν x (fun a=>∀ i,Q i a) :=
 fun n a n' e d h1 h2 h3 i=>h i n a n' e d h1 h2 h3
def RS.withHp (r:RS) (hp:List (Option Blk)):RS:=⟨⟨r.st.sl,hp⟩,r.gl⟩
theorem zgU (r:RS) (hp:List (Option Blk)) (ctx:Ctx) (x:Operand):rd (r.withHp hp) ctx x=rd r ctx x:=by cases x<;>rfl
theorem ARel.withHp {ρ:Nat→Loc} {r:RS} {a:Act} (h:ARel ν ρ r a) (hp:List (Option Blk)):ARel ν ρ (r.withHp hp) a:=⟨h.defers,h.size,h.slot,h.gl⟩
def zn4 (fx:List Nat) (hp0 hp:List (Option Blk)):Prop:=∀ b,memN b fx=false→nth hp b=nth hp0 b
theorem zdR {α β:Type} {o:Option α} {f g:α→M β} (h:∀ a,o=some a→f a=g a):(M.lift o >>= f)=(M.lift o >>= g):=by
 cases o with
 | none=>rfl
 | some a =>
  have:=h a rfl
  change M.bind (M.lift (some a)) f=M.bind (M.lift (some a)) g
  unfold M.bind M.lift
  simp only [this]
  rfl
def zmG:Op→Bool
 | .indexAddr _ _ _ | .call _=>false
 | _=>true
theorem zfN (r:RS) (hp:List (Option Blk)) (ctx:Ctx):∀ l,zcT (r.withHp hp) ctx l=zcT r ctx l
 | []=>rfl
 | x::l=>by simp only [zcT,zgU,zfN r hp ctx l]
theorem zpm {fx:List Nat} {r:RS} {hp:List (Option Blk)} (hag:zn4 fx r.st.hp hp) {ctx:Ctx} {op:Op} (h:zbo op=true) (h2:zmG op=true) (hq:zmm fx r ctx op=true):evOp P S (r.withHp hp) ctx op=evOp P S r ctx op:=by
 cases op<;>simp only [zbo] at h<;>simp only [zmG] at h2<;>first | (simp only [evOp,zgU,zfN,zqw];done) | contradiction | skip
 case convert sT dT x =>
  simp only [evOp,zgU]
  refine zdR fun v hv=>?_
  split
  ·rename_i b
   simp only [zmm,hv,Bool.not_eq_true'] at hq
   have hag2:=hag b hq
   have:zc7 hp b=zc7 r.st.hp b:=by unfold zc7;rw [hag2]
   show (do pure (.val (←znp P hp sT dT b)):M OR)=_
   unfold znp
   rw [this]
  ·rfl
  ·rfl
 rename_i t x
 simp only [evOp,zgU]
 refine zdR fun v hv=>?_
 split
 ·rename_i b off
  simp only [zmm,hv,Bool.and_eq_true,Bool.not_eq_true'] at hq
  obtain ⟨hb,hfl⟩:=hq
  have hag2:=hag b hb
  show (do let k ←M.lift (tk P t);let sz ←M.lift (zaO P t);match ←M.lift (nth hp b) with | .c _ cs=>pure (.val (.s (←zdE cs off (zb3 k) sz))) | .v _ ts a=>if ts.all LT.flat then (do pure (.val (.s (←zfZ ts a off (zb3 k) sz)))) else if hpLt hp then (do let q ←ziH ts a off (zb3 k) sz hp;pure (.hp (some (.s q.1)) q.2)) else M.fail | .l _ _ ts a=>if ts.all LT.flat then (do pure (.val (.s (←zfZ ts a off (zb3 k) sz)))) else M.fail | .obj _ _ _=>M.fail | .m _ _ _ _=>M.fail:M OR)=_
  rw [hag2]
  refine zdR fun k _=>zdR fun sz _=>zdR fun bk hbk=>?_
  cases bk with
  | c o cs=>rfl
  | v o ts a =>
   rw [hbk] at hfl
   have hfl:ts.all LT.flat=true:=hfl
   simp only [hfl,if_true]
  | obj o k a=>rfl
  | l o f ts a=>rfl
  | m=>rfl
 ·rfl
 ·rfl
def Hyp (E:Env) (ν:Nat→DV) (N:Nat) (hp:List (Option Blk)) (ρ:Nat→Loc):Prop:=(∃ w0,HS E ν ρ hp w0)∧(ρ hp.length).blk=N∧(ρ hp.length).off=0
theorem zmH (hS:SigsOK P I gK S F) (hE:E.Ok gK) {N:Nat} {fx:List Nat} {r:RS} {ctx:Ctx} {o:Oper} (hp:zbo o.op=true):M.sat F ν (zsD P S fx r ctx o.op) (fun res=>∀ hp':List (Option Blk),zn4 fx r.st.hp hp'→∀ ρ a,Hyp E ν N r.st.hp ρ→ARel ν ρ r a→zdM ctx a →
  ORok P I E ν ρ hp' (execOp a.eval o) res):=by
 unfold zsD
 refine zae (fun hq=>?_) (fun _=>zac)
 cases hpl:zmG o.op with
 | true =>
  refine zmF fun hp' n a n' e d h1 h2 h3 hag=>?_
  have:=zeg (E:=E) (F:=F) (ν:=ν) hS hE (r:=r.withHp hp') (ctx:=ctx) (o:=o)
  rw [zpm hag hp hpl hq] at this
  exact fun ρ a' _ ha hc=>this n a n' e d h1 h2 h3 ρ a' (ha.withHp hp') hc
 | false =>
  cases hop:o.op<;>rw [hop] at hpl hp<;>simp only [zmG] at hpl<;>first | cases hpl | skip
  ·rename_i t x ix
   simp only [evOp]
   refine zaa (zad (Q:=fun v=>rd r ctx x=some v) fun a h=>h) fun v hv=>?_
   refine zaa (zad (Q:=fun v=>rd r ctx ix=some v) fun a h=>h) fun u hu=>?_
   split
   ·rename_i b i
    refine zaa (zfK (E:=E)) fun z hz=>zab fun hp' _ ρ a ⟨⟨w0,hw0⟩,_⟩ ha hc w hw _=>?_
    have h1:=zal ha hc hv
    have h2:=zal ha hc hu
    refine ⟨V1.good_one.2 hz.1,.inl ?_⟩
    have:=hz.2 ρ w0 w hw0
    simp only [V.conc,V1.conc] at h1 h2 ⊢
    simp only [Lf.conc] at h1
    simp [execOp,hop,h1.2,h2.2,this]
   ·rename_i l i _
    by_cases hg:l.good ν
    ·refine zaa (ze3 hg) fun z hz=>zab fun hp' _ ρ a _ ha hc=>?_
     have h1:=zal ha hc hv
     have h2:=zal ha hc hu
     refine ORok.now (V1.good_one.2 hz.1) fun w _=>?_
     have:=hz.2 ρ w
     simp only [V.conc,V1.conc] at h1 h2 ⊢
     simp [execOp,hop,h1.2,h2.2,this]
    ·refine zaa zat fun z _=>zab fun hp' _ ρ a _ ha hc=>?_
     exact absurd (V1.good_one.1 (zal ha hc hv).1) hg
   ·exact zac
  ·rename_i c
   simp only [zbo] at hp
   split at hp
   ·rename_i hf
    simp only [evOp,hf]
    refine zaa (zad (Q:=fun vs=>zcB r ctx c.args.toList=some vs) fun a h=>h) fun vs hvs=>?_
    have hargs:∀ ρ a,ARel ν ρ r a→zdM ctx a→c.args.map a.eval=(vs.map (V.conc ν ρ)).toArray:=fun ρ a ha hc=>by
     apply Array.ext'
     simpa using zbL ha hc hvs
    split
    ·rename_i he;cases he
    ·rename_i he;cases he
    ·rename_i v _
     refine zaa (zad (Q:=fun t=>c.argTypes[0]? = some t) fun a h=>h) fun t ht=>?_
     refine zaa (znH (E:=E)) fun z hz=>zab fun hp' _ ρ a ⟨⟨w0,hw0⟩,_⟩ ha hc w hw _=>⟨hz.1,.inl ?_⟩
     have:=hz.2 ρ w0 w o.type c.argTypes ht hw0
     simp [execOp,hop,resolve,hf,hargs ρ a ha hc,invoke,builtin,this]
    ·rename_i he;cases he
    ·exact zac
   ·cases hp
def zmI (P:Program) (ν:Nat→DV) (E:Env) (N:Nat) (fx:List Nat) (ops:Array Oper) (o:Oper) (r r':RS):Prop :=
 r'.st.hp=r.st.hp∧∀ ρ a,Hyp E ν N r.st.hp ρ→ARel ν ρ r a→∀ C:World→Prop,(∀ w,C w→∃ hp,HS E ν ρ hp w∧zn4 fx r.st.hp hp)→(∀ w w',C w→Below w.heap.size w w'→C w')→(∃ w,C w) →
  if Region.wanted o (yielded ops a.tmps)=true then ∃ v,(∀ w,C w→o.quietAt P a C w v)∧ARel ν ρ r' (a.put o.dst v) else ARel ν ρ r' (a.put o.dst undef)
theorem zjT {o:Oper} {a:Act} {v:Value} {C:World→Prop} (hB:∀ w w',C w→Below w.heap.size w w'→C w')
  (h:∀ w,C w→zmu P (execOp a.eval o) w v):∀ w,C w→o.quietAt P a C w v:=by
 intro w hw
 unfold Oper.quietAt
 rcases h w hw with h | ⟨f,args,h,hc⟩
 ·rw [h];exact ⟨rfl,rfl⟩
 ·rw [h]
  exact ⟨rfl,hc.mono fun e w'' ⟨he,hb⟩=>⟨he,hB w w'' hw hb⟩⟩
theorem zlG (hI:∀ w,Fr E.W E.w0 w→I w) {N:Nat} {fx:List Nat} {ops:Array Oper} {o:Oper} {r:RS} {x:OR} (hw:∀ ρ a,ARel ν ρ r a→Region.wanted o (yielded ops a.tmps)=true)
  (hx:∀ hp',zn4 fx r.st.hp hp'→∀ ρ a,Hyp E ν N r.st.hp ρ→ARel ν ρ r a→ORok P I E ν ρ hp' (execOp a.eval o) x):M.sat F ν (zeN true r o.dst x) (zmI P ν E N fx ops o r):=by
 cases x with
 | val v =>
  refine zag zbN fun r' hr'=>⟨hr'.1,fun ρ a hh0 ha C hC hB hex=>?_⟩
  rw [if_pos (hw ρ a ha)]
  refine ⟨v.conc ν ρ,zjT hB fun w hw1=>?_,hr'.2 ρ a _ ha fun v' hv'=>?_⟩
  ·obtain ⟨hp,hh,hag⟩:=hC w hw1
   exact (hx hp hag ρ a hh0 ha w hh (hI w hh.fr)).2
  ·obtain ⟨w,hw1⟩:=hex
   obtain ⟨hp,hh,hag⟩:=hC w hw1
   cases hv';exact ⟨(hx hp hag ρ a hh0 ha w hh (hI w hh.fr)).1,rfl⟩
 | hp v hp'=>unfold zeN;simp only [Bool.not_true,Bool.false_and,Bool.false_eq_true,if_false];exact zac
theorem zpn (hI:∀ w,Fr E.W E.w0 w→I w) {N:Nat} {fx:List Nat} {ops:Array Oper} {o:Oper} {r:RS} {d:Nat} {want:Bool} {x:OR} (hw:∀ (a:Act),Region.wanted o (yielded ops a.tmps)=true↔a.tmps[d]? = some (.bool want))
  (hx:∀ hp',zn4 fx r.st.hp hp'→∀ ρ a,Hyp E ν N r.st.hp ρ→ARel ν ρ r a→a.tmps[d]? = some (.bool want)→ORok P I E ν ρ hp' (execOp a.eval o) x):M.sat F ν (zml r o.dst d want x) (zmI P ν E N fx ops o r):=by
 cases x with
 | val v =>
  refine zag ziL fun r' hr'=>⟨hr'.1,fun ρ a hh0 ha C hC hB hex=>?_⟩
  by_cases hg:Region.wanted o (yielded ops a.tmps)=true
  ·rw [if_pos hg]
   have hd:=(hw a).1 hg
   refine ⟨v.conc ν ρ,zjT hB fun w hw1=>?_,hr'.2 ρ a _ ha (fun _=>?_) (fun hn=>absurd hd hn)⟩
   ·obtain ⟨hp,hh,hag⟩:=hC w hw1
    exact (hx hp hag ρ a hh0 ha hd w hh (hI w hh.fr)).2
   ·obtain ⟨w,hw1⟩:=hex
    obtain ⟨hp,hh,hag⟩:=hC w hw1
    exact ⟨(hx hp hag ρ a hh0 ha hd w hh (hI w hh.fr)).1,rfl⟩
  ·rw [if_neg hg]
   have hd:a.tmps[d]?≠some (.bool want):=fun h=>hg ((hw a).2 h)
   exact hr'.2 ρ a _ ha (fun h=>absurd h hd) (fun _=>rfl)
 | hp v hp'=>exact zac
theorem zs4 {N:Nat} {o:Oper} (h:zbo o.op=true):nopN N o=o:=by
 unfold nopN
 have h1:zbX o.op=false:=by cases hop:o.op<;>rw [hop] at h<;>simp [zbo,zbX] at h ⊢
 have h2:allocOp o.op=false:=by cases hop:o.op<;>rw [hop] at h<;>simp [zbo,allocOp] at h ⊢
 simp [h1,h2]
theorem zrO (hS:SigsOK P I gK S F) (hE:E.Ok gK) (hI:∀ w,Fr E.W E.w0 w→I w) {N:Nat} {fx:List Nat} {ops ops':Array Oper} (hdst:∀ j:Nat,(ops[j]?).bind (·.dst)=(ops'[j]?).bind (·.dst)) {r:RS} {o:Oper} (hp:zbo o.op=true∨allocOp o.op=true) :
  M.sat F ν (zoQ P S fx ops.toList r o) (zmI P ν E N fx ops' (nopN N o) r):=by
 unfold zoQ
 refine zae (fun hal=>zae (fun hg=>?_) (fun _=>zac)) (fun hal=>?_)
 ·have hg:o.guard=none:=by simpa using hg
  refine zag zbN fun r' hr'=>⟨hr'.1,fun ρ a hh0 ha C hC hB hex=>?_⟩
  have hst:zbX o.op=false:=by cases hop:o.op<;>rw [hop] at hal<;>simp [zbX,allocOp] at hal ⊢
  have e1:nopN N o = { o with op:=.move (.const (.pointer (some ⟨N,0,none⟩))) }:=by unfold nopN;simp [hst,hal]
  rw [if_pos (by rw [e1];simp [Region.wanted,hg])]
  rw [e1]
  refine ⟨.pointer (some ⟨N,0,none⟩),fun w hw=>?_,hr'.2 ρ a _ ha fun v hv=>?_⟩
  ·unfold Oper.quietAt
   simp [execOp,Act.eval,Oper.quietUpon]
  ·cases hv
   refine ⟨V1.good_one.2 trivial,?_⟩
   simp [V.conc,V1.conc,Lf.conc,hh0.2.1,hh0.2.2,Off.val]
 have hp:zbo o.op=true:=by
  rcases hp with h | h
  ·exact h
  ·exact absurd h hal
 rw [zs4 hp]
 split
 ·rename_i hg
  refine zaa (zmH (E:=E) hS hE hp) fun x hx=>zlG hI (fun ρ a _=>by simp [Region.wanted,hg]) fun hp' hag ρ a hh0 ha=>hx hp' hag ρ a hh0 ha (fun p hp=>by simp at hp)
 ·rename_i j want hg
  refine zaa (zad (Q:=fun d=>(ops'[j]?).bind (·.dst)=some d) fun a h=>by rw [←hdst j];simpa using h) fun d hd=>?_
  refine zaa (zad (Q:=fun res=>zbP r 8 d want=some res) fun a h=>h) fun res hres=>?_
  have hwd:∀ (a:Act),Region.wanted o (yielded ops' a.tmps)=true↔a.tmps[d]? = some (.bool want):=fun a=>zgd hg hd
  split
  ·refine zag zbN fun r' hr'=>⟨hr'.1,fun ρ a _ ha C _ _ _=>?_⟩
   have hn:a.tmps[d]?≠some (.bool want):=zav ha 8 d want hres
   rw [if_neg (fun h=>hn ((hwd a).1 h))]
   exact hr'.2 ρ a _ ha (fun v hv=>by cases hv;exact ⟨V.good_s.2 (V1.good_one.2 trivial),rfl⟩)
  ·rename_i ctx cs
   split
   ·refine zaa (zmH (E:=E) hS hE hp) fun x hx=>zlG hI (fun ρ a ha=>?_) fun hp' hag ρ a hh0 ha=>hx hp' hag ρ a hh0 ha (fun p hp=>by simp at hp)
    have:=zav ha 8 d want hres
    exact (hwd a).2 (this.2.1 rfl)
   ·refine zaa (zeR (zmH (E:=E) (N:=N) hS hE hp (ctx:=ctx))) fun x hx=>?_
    have hx2:∀ hp',zn4 fx r.st.hp hp'→∀ ρ a,Hyp E ν N r.st.hp ρ→ARel ν ρ r a→a.tmps[d]? = some (.bool want)→ORok P I E ν ρ hp' (execOp a.eval o) x:=fun hp' hag ρ a hh0 ha hd'=>by
     have:=(zav ha 8 d want hres).1 hd'
     exact hx this.2 hp' hag ρ a hh0 ha this.1
    cases x with
    | val v=>exact zpn hI hwd hx2
    | hp v hp'=>exact zac
theorem zjU (hS:SigsOK P I gK S F) (hE:E.Ok gK) (hI:∀ w,Fr E.W E.w0 w→I w) {N:Nat} {fx:List Nat} {ops ops':Array Oper} (hdst:∀ j:Nat,(ops[j]?).bind (·.dst)=(ops'[j]?).bind (·.dst)):∀ (l:List Oper) (r:RS),(∀ o∈l,zbo o.op=true∨allocOp o.op=true)→M.sat F ν (zgA P S fx ops.toList l r) (fun r' =>
  ∀ ρ a,Hyp E ν N r.st.hp ρ→ARel ν ρ r a→∀ C:World→Prop,(∀ w,C w→∃ hp,HS E ν ρ hp w∧zn4 fx r.st.hp hp)→(∀ w w',C w→Below w.heap.size w w'→C w')→(∃ w,C w)→wpQuiet P ops' C (fun a'=>ARel ν ρ r' a') (l.map (nopN N)) a)
 | [],r,_=>zab fun ρ a _ h _ _ _ _=>h
 | o::l,r,hl=>by
  unfold zgA
  refine zaa (zrO (E:=E) (N:=N) (ops:=ops) hS hE hI hdst (hl o (by simp))) fun r1 h1=>zag (zjU (N:=N) hS hE hI hdst l r1 (fun o ho=>hl o (List.mem_cons_of_mem _ ho))) fun r' h2=>?_
  intro ρ a hh0 ha C hC hB hex
  obtain ⟨hhp,h1⟩:=h1
  rw [hhp] at h2
  have:=h1 ρ a hh0 ha C hC hB hex
  simp only [List.map_cons,wpQuiet]
  split
  ·rename_i hw
   rw [if_pos hw] at this
   obtain ⟨v,h3,h4⟩:=this
   exact ⟨v,h3,h2 ρ _ hh0 h4 C hC hB hex⟩
  ·rename_i hw
   rw [if_neg hw] at this
   exact h2 ρ _ hh0 this C hC hB hex
def NE (P:Program) (m:Sem Next):Prop:=∀ (w:World) (g:FuncId) (args:Array Value) (w':World),m.run P w≠.ok (.enter g args) w'
theorem NE.bind {α:Type} {m:Sem α} {f:α→Sem Next} (h:∀ x,NE P (f x)):NE P (m >>= f):=by
 intro w g args w'
 rw [Sem.run_bind]
 cases m.run P w with
 | halt x w1=>intro h;cases h
 | ok x w1=>exact h x w1 g args w'
theorem NE.value (v:Value):NE P (pure (.value v)):=fun w g args w' h=>by cases h
theorem NE.ite {c:Prop} [Decidable c] {x y:Sem Next} (hx:NE P x) (hy:NE P y):NE P (if c then x else y):=by split<;>assumption
theorem NE.panic:NE P (runtimePanic .nilDeref):=fun w g args w' h=>by simp [runtimePanic,goPanic] at h
theorem zdm {o:Oper} (h:zbo o.op=true) (a:Act) (w:World) (f:FuncId) (args:Array Value) (w':World):(execOp a.eval o).run P w≠.ok (.enter f args) w':=by
 have key:NE P (execOp a.eval o):=by
  cases hop:o.op<;>rw [hop] at h<;>simp only [zbo] at h<;>simp only [execOp,hop]<;>first | exact NE.value _ | exact NE.bind fun x=>NE.value _ | cases h | skip
  ·split<;>first | exact NE.panic | exact NE.value _ | skip
   split<;>first | exact NE.panic | exact NE.value _ | skip
   exact NE.bind fun x=>NE.bind fun y=>NE.ite (NE.bind fun z=>NE.value _) (NE.value _)
  ·rename_i c
   split at h
   ·rename_i hf
    intro w g args w'
    rw [Sem.run_bind]
    simp only [resolve,hf,Sem.run_pure,Result.andThen_ok,invoke,builtin]
    exact (NE.bind fun x=>NE.value _:NE P _) w g args w'
   ·cases h
 exact key w f args w'
theorem zhJ (N:Nat) (o:Oper):nopN N o=o∨∃ op,nopN N o = { o with op:=op }:=by
 unfold nopN
 split
 ·exact .inr ⟨_,rfl⟩
 ·split
  ·exact .inr ⟨_,rfl⟩
  ·exact .inl rfl
theorem zhK (N:Nat) (o:Oper):(nopN N o).after=o.after:=by
 rcases zhJ N o with h | ⟨op,h⟩<;>rw [h]
theorem zdn (N:Nat) (o:Oper):(nopN N o).dst=o.dst:=by
 rcases zhJ N o with h | ⟨op,h⟩<;>rw [h]
theorem zhL (N:Nat) (o:Oper):(nopN N o).guard=o.guard:=by
 rcases zhJ N o with h | ⟨op,h⟩<;>rw [h]
theorem zxr (o:Oper):(nop o).dst=o.dst:=by unfold nop;split<;>rfl
theorem zs5 {N:Nat} {o:Oper} (h:za7 o.op=false):nopN N o=o:=by
 unfold za7 at h
 rw [Bool.or_eq_false_iff] at h
 unfold nopN
 simp [h.1,h.2]
theorem zs6 {o:Oper} (h:zbo o.op=true∨za7 o.op=true):zbo (nop o).op=true∨allocOp (nop o).op=true:=by
 unfold nop
 split
 ·exact .inl rfl
 ·rename_i hs
  rcases h with h | h
  ·exact .inl h
  ·unfold za7 at h
   rw [Bool.or_eq_true] at h
   rcases h with h | h
   ·exact absurd h hs
   ·exact .inr h
theorem zvZ (N:Nat) (o:Oper):nopN N (nop o)=nopN N o:=by
 unfold nop
 split
 ·rename_i hs
  have e:nopN N o = { o with op:=.move (.const (.bool false)) }:=by unfold nopN;rw [if_pos hs]
  rw [e]
  rfl
 ·rfl
theorem zlH (N:Nat) {ops1 ops2:Array Oper} (h:∀ j:Nat,(ops1[j]?).bind (·.dst)=(ops2[j]?).bind (·.dst)) (o:Oper):(nopN N o).looksAt ops1=(nopN 0 o).looksAt ops2:=by
 unfold Oper.looksAt
 rw [zhL,zhL]
 congr 1
 ·unfold nopN
  repeat' split
  all_goals rfl
 ·cases o.guard with
  | none=>rfl
  | some p=>simp only [h p.1]
theorem zrP (N:Nat) {ops1 ops2:Array Oper} (h:∀ j:Nat,(ops1[j]?).bind (·.dst)=(ops2[j]?).bind (·.dst)) (x y:Oper):(nopN N x).apart ops1 (nopN N y)=(nopN 0 x).apart ops2 (nopN 0 y):=by
 unfold Oper.apart
 rw [zdn,zdn,zdn,zdn,zlH N h,zlH N h]
theorem zs7 (N:Nat) (l:List Oper):Region.lexB .any (l.map (nopN N)).toArray=Region.lexB .any (l.map (nopN 0)).toArray:=by
 have hat:∀ (M j:Nat),((l.map (nopN M)).toArray)[j]? = (l[j]?).map (nopN M):=fun M j=>by simp
 have hd:∀ j:Nat,(((l.map (nopN N)).toArray)[j]?).bind (·.dst)=(((l.map (nopN 0)).toArray)[j]?).bind (·.dst):=fun j=>by
  rw [hat,hat]
  cases l[j]? with
  | none=>rfl
  | some o=>simp [zdn]
 have hready:∀ listed,Region.ready .any (l.map (nopN N)).toArray listed=Region.ready .any (l.map (nopN 0)).toArray listed:=fun listed=>by
  unfold Region.ready
  rw [show (l.map (nopN N)).toArray.size=(l.map (nopN 0)).toArray.size from by simp]
  refine List.filter_congr fun j _=>?_
  rw [hat,hat]
  cases l[j]? with
  | none=>rfl
  | some o=>simp only [Option.map_some,zhK]
 have hfree:∀ listed i,Region.free .any (l.map (nopN N)).toArray listed i=Region.free .any (l.map (nopN 0)).toArray listed i:=fun listed i=>by
  unfold Region.free
  rw [hat,hat]
  cases l[i]? with
  | none=>rfl
  | some oi =>
   simp only [Option.map_some]
   rw [show (l.map (nopN N)).toArray.size=(l.map (nopN 0)).toArray.size from by simp]
   congr 1
   funext j
   rw [hat,hat]
   cases l[j]? with
   | none=>rfl
   | some oj=>simp only [Option.map_some,zhK,zrP N hd]
 have hlex:∀ (fuel k:Nat) (listed:Array Bool),Region.lexFrom .any (l.map (nopN N)).toArray fuel k listed=Region.lexFrom .any (l.map (nopN 0)).toArray fuel k listed:=by
  intro fuel
  induction fuel with
  | zero=>intro k listed;simp only [Region.lexFrom,hready]
  | succ fuel ih=>intro k listed;simp only [Region.lexFrom,hready,hfree,ih]
 unfold Region.lexB
 rw [hlex,show (l.map (nopN N)).toArray.size=(l.map (nopN 0)).toArray.size from by simp]
 congr 1
 unfold Region.noSelect
 simp only [List.all_toArray,List.all_map]
 congr 1
 funext o
 simp only [Function.comp]
 have key:nopN N o=nopN 0 o∨∃ x y,(nopN N o).op = .move x∧(nopN 0 o).op = .move y:=by
  by_cases h1:zbX o.op=true
  ·left
   unfold nopN
   rw [if_pos h1,if_pos h1]
  ·by_cases h2:allocOp o.op=true
   ·right
    unfold nopN
    rw [if_neg h1,if_pos h2,if_neg h1,if_pos h2]
    exact ⟨_,_,rfl,rfl⟩
   ·left
    unfold nopN
    rw [if_neg h1,if_neg h2,if_neg h1,if_neg h2]
 rcases key with h | ⟨x,y,h1,h2⟩
 ·rw [h]
 ·rw [h1,h2]
theorem zlI {b j:Nat} {fx:List Nat} (hb:memN b fx=true) (hj:memN j fx=false):j≠b:=fun e=>by subst e;rw [hb] at hj;cases hj
theorem ze5 {fx:List Nat} (sl:List (Option V)) (gl:List GE):∀ (l:List Oper) (hp:List (Option Blk)),M.sat F ν (zgB P S fx sl gl l hp) (fun hp'=>∃ hps:Nat→List (Option Blk),hps 0=hp∧hps l.length=hp'∧(∀ k,k≤l.length→zn4 fx hp (hps k)) ∧
  (∀ o t,l[0]? = some o→o.op = .alloc t→hpLt hp=true∧∀ ρ w,HS E ν ρ hp w→∀ a:Act,∃ w',(execOp a.eval o).run P w = .ok (.value (.pointer (some ⟨w.heap.size,0,none⟩))) w'∧HS E ν (ext ρ hp.length ⟨w.heap.size,0,false,0,0,none⟩) (hps 1) w') ∧
  ∀ k o,l[k]? = some o→zbX o.op=true→∀ ρ a,ARel ν ρ ⟨⟨sl,[]⟩,gl⟩ a→∀ w,HS E ν ρ (hps k) w→∃ w',(execOp a.eval o).run P w = .ok .skip w'∧HS E ν ρ (hps (k+1)) w')
 | [],hp=>zab ⟨fun _=>hp,rfl,rfl,fun _ _ _ _=>rfl,fun o t h=>by simp at h,fun k o h=>by simp at h⟩
 | o::l,hp=>by
  unfold zgB
  split
  ·rename_i t x y hop
   refine zaa (zad (Q:=fun v=>rd ⟨⟨sl,hp⟩,gl⟩ [] x=some v) fun a h=>h) fun v hv=>?_
   split
   ·rename_i b off
    refine zae (fun hb=>?_) (fun _=>zac)
    refine zaa (zxn (zjO (E:=E) hop) (zrM hv)) fun hp1 h1=>zag (ze5 sl gl l hp1) fun hp' ⟨hps,e1,e2,e4,_,e3⟩=>?_
    refine ⟨fun k=>match k with | 0=>hp | k+1=>hps k,rfl,e2,fun k hk j hj=>?_,fun o' t' ho' hot'=>(by simp at ho';subst ho';rw [hop] at hot';cases hot'),fun k o' hk hst ρ a ha w hw=>?_⟩
    ·cases k with
     | zero=>rfl
     | succ k =>
      have:=e4 k (by simpa using hk) j hj
      simp only
      rw [this]
      exact h1.2 j (zlI hb hj)
    ·cases k with
     | zero =>
      simp at hk;subst hk
      obtain ⟨w',g1,g2⟩:=h1.1 ρ a ⟨ha.defers,ha.size,ha.slot,ha.gl⟩ (fun p hp=>by simp at hp) w hw
      exact ⟨w',g1,by simp only;rw [e1];exact g2⟩
     | succ k=>exact e3 k o' (by simpa using hk) hst ρ a ha w hw
   ·exact zac
  ·rename_i t hop
   refine zaa (zad (Q:=fun v=>zeroCells P t=some v) fun a h=>h) fun z hz=>?_
   refine zae (fun hc=>?_) (fun _=>zac)
   simp only [Bool.and_eq_true] at hc
   obtain ⟨⟨⟨hb,_⟩,hlt⟩,hzl⟩:=hc
   refine zag (ze5 sl gl l _) fun hp' ⟨hps,e1,e2,e4,e5,e3⟩=>?_
   refine ⟨fun k=>match k with | 0=>hp | k+1=>hps k,rfl,e2,fun k hk j hj=>?_,fun o' t' ho' hot'=>?_,fun k o' hk hst ρ a ha w hw=>?_⟩
   ·cases k with
    | zero=>rfl
    | succ k =>
     have:=e4 k (by simpa using hk) j hj
     simp only
     rw [this,zaE]
     have hne:=zlI hb hj
     split
     ·rfl
     ·rename_i hjl
      have:j-hp.length≠0:=by omega
      cases hk2:j-hp.length with
      | zero=>omega
      | succ m =>
       have:nth hp j=none:=by
        cases hn:nth hp j with
        | none=>rfl
        | some x=>exact absurd (zaY hn) hjl
       rw [this]
       cases m<;>rfl
   ·simp at ho'
    subst ho'
    rw [hop] at hot'
    cases hot'
    refine ⟨hlt,fun ρ w hw a=>?_⟩
    obtain ⟨i,zv,hi,hzv,hzg,hzc⟩:=zbh (ν:=ν) hz
    have hnew:=hw.new hlt hzl hzg t
    rw [←hzc ρ] at hnew
    refine ⟨w.alloc (.cells zv.cells t),?_,by simp only;rw [e1];exact hnew⟩
    simp [execOp,hop,Instr.alloc,zeroValue,typeInfo,hi,hzv,newVar,newRow]
   ·cases k with
    | zero=>simp at hk;subst hk;rw [hop] at hst;cases hst
    | succ k=>exact e3 k o' (by simpa using hk) hst ρ a ha w hw
  ·exact zac
theorem zdo (ops:List Oper):∀ i,i∈storeAt ops↔∃ o,ops[i]? = some o∧za7 o.op=true:=by
 intro i
 unfold storeAt
 rw [List.mem_map]
 constructor
 ·rintro ⟨⟨o,j⟩,h,rfl⟩
  obtain ⟨h1,h2⟩:=List.mem_filter.1 h
  exact ⟨o,(List.mem_zipIdx_iff_getElem?.1 h1),h2⟩
 ·rintro ⟨o,h1,h2⟩
  exact ⟨(o,i),List.mem_filter.2 ⟨List.mem_zipIdx_iff_getElem?.2 h1,h2⟩,rfl⟩
theorem zfx:∀ (ops:List Oper) (n:Nat),((ops.zipIdx n).filter fun p=>za7 p.1.op).map (·.1)=ops.filter fun o=>za7 o.op
 | [],_=>rfl
 | o::l,n=>by
  rw [List.zipIdx_cons,List.filter_cons,List.filter_cons]
  split
  ·rw [List.map_cons,zfx l (n+1)]
  ·exact zfx l (n+1)
theorem zs8 (ops:List Oper) (k i:Nat) (h:(storeAt ops)[k]? = some i):∃ o,ops[i]? = some o∧(ops.filter fun o=>za7 o.op)[k]? = some o:=by
 unfold storeAt at h
 rw [List.getElem?_map] at h
 obtain ⟨⟨o,j⟩,h1,rfl⟩:=Option.map_eq_some_iff.1 h
 refine ⟨o,?_,?_⟩
 ·have:=(List.mem_filter.1 (List.mem_of_getElem? h1)).1
  exact List.mem_zipIdx_iff_getElem?.1 this
 ·have:=zfx ops 0
  rw [←this,List.getElem?_map,h1]
  rfl
theorem zjV:∀ {l:List Nat},zqy l=true→∀ p q i j:Nat,p<q→l[p]? = some i→l[q]? = some j→i<j
 | [],_,p,q,i,j,_,hi,_=>by simp at hi
 | [a],_,p,q,i,j,hpq,hi,hj=>by
  have:q<1:=by
   rcases Nat.lt_or_ge q 1 with h | h
   ·exact h
   ·rw [List.getElem?_eq_none (by simpa using h)] at hj;cases hj
  omega
 | a::b::l,h,p,q,i,j,hpq,hi,hj=>by
  simp only [zqy,Bool.and_eq_true] at h
  have h1:a<b:=by simpa [Nat.blt_eq] using h.1
  cases q with
  | zero=>omega
  | succ q =>
   simp only [List.getElem?_cons_succ] at hj
   cases p with
   | succ p=>exact zjV h.2 p q i j (by omega) (by simpa using hi) hj
   | zero =>
    simp at hi;subst hi
    cases q with
    | zero=>simp at hj;subst hj;exact h1
    | succ q=>exact Nat.lt_trans h1 (zjV h.2 0 (q+1) b j (by omega) rfl hj)
theorem zn5 {l m:List Nat} (h:sub1 l m=true):∀ x∈l,x∈m:=fun x hx=>zbb (List.all_eq_true.1 h x hx)
theorem zei {n:Nat} : ∀ {l:List Nat},n∈l→memN n l=true
 | x::l,h=>by
  rcases List.mem_cons.1 h with rfl | h
  ·simp [memN]
  ·simp [memN,zei h]
theorem backB_ok' {ops:List Oper} (h:zk7 ops=true):zbR .any ops.toArray:=by
 intro i o ho
 have ho':ops[i]? = some o:=by simpa using ho
 have hm:(o,i)∈ops.zipIdx:=by
  rw [List.mem_zipIdx_iff_getElem?]
  exact ho'
 have:=List.all_eq_true.1 h _ hm
 simp only [Bool.and_eq_true] at this
 refine ⟨fun e he hbd=>?_,fun j b hg=>?_⟩
 ·have h1:=this.1
  have:=Array.all_eq_true_iff_forall_mem.1 h1 e he
  simpa [Nat.blt_eq,hbd] using this
 ·have h2:=this.2
  rw [hg] at h2
  simpa [Nat.blt_eq] using h2
theorem zcw {a a':Act} {x:Operand} (h:∀ t∈zns x,a'.tmps[t]? = a.tmps[t]?):a.eval x=a'.eval x:=by
 cases x with
 | tmp t=>simp only [Act.eval,Array.getD_eq_getD_getElem?];rw [h t (by simp [zns])]
 | _=>rfl
theorem zmJ (hS:SigsOK P I gK S F) (hE:E.Ok gK) (hI:∀ w,Fr E.W E.w0 w→I w) {fx:List Nat} {ops:Array Oper} {s:St} (hm:zvP ops.toList=true) (hB:Region.lexB .any (ops.toList.map (nopN 0)).toArray=true) (hback:zk7 ops.toList=true) :
  M.sat F ν (zi5 P S fx ops.toList s) (fun s'=>∀ ρ a w,RR ν E ρ ⟨s,[]⟩ a w→∀ Q:Exit→Act→World→Prop,(∀ ρ' a' w',RR ν E ρ' ⟨s',[]⟩ a' w'→Q .normal a' w') →
   wpAny P .any ops Q ops.size (Array.replicate ops.size false) a w):=by
 simp only [zvP,Bool.and_eq_true] at hm
 obtain ⟨⟨⟨hkinds,hsorted⟩,hanc⟩,hfirst⟩:=hm
 have hk:∀ o∈ops.toList,zbo o.op=true∨(za7 o.op=true∧o.guard=none∧(allocOp o.op=true∨o.dst=none)):=fun o ho=>by
  have:=List.all_eq_true.1 hkinds o ho
  simp only [Bool.or_eq_true,Bool.and_eq_true,Option.isNone_iff_eq_none] at this
  rcases this with h | ⟨⟨h1,h2⟩,h3⟩
  ·exact .inl h
  ·exact .inr ⟨h1,h2,h3⟩
 unfold zi5
 refine zae (fun hchk=>?_) (fun _=>zac)
 simp only [Bool.and_eq_true] at hchk
 have hdd:∀ (N j:Nat),(((ops.toList.map nop).toArray)[j]?).bind (·.dst)=(((ops.toList.map (nopN N)).toArray)[j]?).bind (·.dst):=fun N j=>by
  have e1:((ops.toList.map nop).toArray)[j]? = (ops[j]?).map nop:=by simp
  have e2:((ops.toList.map (nopN N)).toArray)[j]? = (ops[j]?).map (nopN N):=by simp
  rw [e1,e2]
  cases ops[j]? with
  | none=>rfl
  | some o=>simp [zxr,zdn]
 have hops:=zmF fun N=>zjU (E:=E) (F:=F) (ν:=ν) hS hE hI (N:=N) (fx:=fx) (ops:=(ops.toList.map nop).toArray) (ops':=(ops.toList.map (nopN N)).toArray) (hdd N) (ops.toList.map nop) ⟨s,[]⟩ (fun o ho=>by
  obtain ⟨o',h1,rfl⟩:=List.mem_map.1 ho
  exact zs6 (by rcases hk o' h1 with h | h;exact .inl h;exact .inr h.1))
 simp only at hops
 refine zaa hops fun r hr=>zaa (ze5 (E:=E) r.st.sl r.gl _ s.hp) fun hp' ⟨hps,e1,e2,e4,e5,e3⟩=>zab fun ρ a w hrr Q hQ=>?_
 generalize hN:w.heap.size=N
 have ha1:ARel ν (ext ρ s.hp.length ⟨N,0,false,0,0,none⟩) ⟨s,[]⟩ a:=hrr.act.ext (fun j hj=>zbQ hj) hchk.1 (by simp) s.hp
 have hs1:HS E ν (ext ρ s.hp.length ⟨N,0,false,0,0,none⟩) s.hp w:=hrr.hs.reloc hchk.2 (fun j hj=>zbQ hj)
 have hn1:ext ρ s.hp.length ⟨N,0,false,0,0,none⟩ s.hp.length=⟨N,0,false,0,0,none⟩:=zbK _ _ _
 have hee:ext (ext ρ s.hp.length ⟨N,0,false,0,0,none⟩) s.hp.length ⟨N,0,false,0,0,none⟩=ext ρ s.hp.length ⟨N,0,false,0,0,none⟩:=by
  funext j
  simp only [ext]
  split<;>rfl
 generalize ext ρ s.hp.length ⟨N,0,false,0,0,none⟩=ρ1 at *
 have hr:=hr N
 rw [List.map_map,show nopN N∘nop=nopN N from funext fun o=>zvZ N o] at hr
 have hsz:(ops.toList.map (nopN N)).toArray.size=ops.size:=by simp
 have hat:∀ j:Nat,(ops.toList.map (nopN N)).toArray[j]? = (ops[j]?).map (nopN N):=fun j=>by simp
 have hlen:(storeAt ops.toList).length=(ops.toList.filter fun o=>za7 o.op).length:=by
  have:=congrArg List.length (zfx ops.toList 0)
  simp only [List.length_map] at this
  unfold storeAt
  simpa using this
 have hget:∀ (i:Nat) (o:Oper),ops[i]? = some o→ops.toList[i]? = some o:=fun i o h=>by simpa using h
 have hmem:∀ (i:Nat) (o:Oper),ops[i]? = some o→o∈ops.toList:=fun i o h=>List.mem_of_getElem? (hget i o h)
 have hancs:∀ (i:Nat) (o:Oper),i∈storeAt ops.toList→ops[i]? = some o→sub1 ((storeAt ops.toList).filter fun j=>Nat.blt j i) (zax ops.toList i (za6 o))=true ∧
   ops.toList.zipIdx.all (zmn (zax ops.toList i (za6 o)) (zdH o.op))=true:=fun i o hi ho=>by
  have:=List.all_eq_true.1 hanc i hi
  unfold zyt at this
  rw [hget i o ho] at this
  simpa only [Bool.and_eq_true] using this
 refine zpl (ops':=(ops.toList.map (nopN N)).toArray) (st:=storeAt ops.toList) (C:=fun w=>∃ k,k≤(ops.toList.filter fun o=>za7 o.op).length∧HS E ν ρ1 (hps k) w) (D:=fun k w=>HS E ν ρ1 (hps k) w∧(k=0→w.heap.size=N)) (Qf:=fun a'=>ARel ν ρ1 r a')
  (by have:=backB_ok' hback;simpa using this) (fun listed=>?_) (fun j=>?_) (fun i hi=>?_) (fun i hi=>?_) (fun k w hk h=>⟨k,by rw [←hlen];exact hk,h.1⟩) (fun i o hi ho=>?_) (fun p q i j hpq hi hj listed hcl hrd=>?_) (fun i o hi ho listed hcl hrd t ht j o' ho' hd'=>?_)
  (fun k i o o' hki ho ho'=>?_) (fun a1 w1 ha1 hw1=>?_) ops.size _ a w 0 (by simp) (fun i o _ hl=>?_) (Nat.zero_le _) (fun p i hp=>by omega) (fun p i _ _=>?_) ⟨by rw [e1];exact hs1,fun _=>hN⟩ ?_
 ·unfold Region.ready
  rw [hsz]
  refine List.filter_congr fun j _=>?_
  rw [hat j]
  cases ops[j]? with
  | none=>rfl
  | some o=>simp only [Option.map_some,zhK]
 ·rw [hat j]
  cases ops[j]? with
  | none=>rfl
  | some o=>simp [zdn]
 ·rw [hat i]
  cases ho:ops[i]? with
  | none=>rfl
  | some o =>
   have:za7 o.op=false:=by
    cases h:za7 o.op with
    | false=>rfl
    | true=>exact absurd ((zdo _ i).2 ⟨o,hget i o ho,h⟩) hi
   simp [zs5 this]
 ·obtain ⟨o,h1,h2⟩:=(zdo _ i).1 hi
  have h1':ops[i]? = some o:=by simpa using h1
  rcases hk o (List.mem_of_getElem? h1) with h | h
  ·exfalso
   cases hop:o.op<;>rw [hop] at h h2<;>simp [zbo,za7,zbX,allocOp] at h h2
  ·exact ⟨o,nopN N o,h1',by rw [hat i,h1'];rfl,h.2.1,by rw [zdn],by rw [zhL];exact h.2.1⟩
 ·rcases hk o (hmem i o ho) with h | h
  ·exact fun a w f args w'=>zdm h a w f args w'
  ·exact absurd ((zdo _ i).2 ⟨o,hget i o ho,h.1⟩) hi
 ·obtain ⟨o,h1,h2⟩:=(zdo _ j).1 (List.mem_of_getElem? hj)
  have h1':ops[j]? = some o:=by simpa using h1
  have hs:=(hancs j o (List.mem_of_getElem? hj) h1').1
  refine zbx hcl h1' hrd i (zn5 hs i (List.mem_filter.2 ⟨List.mem_of_getElem? hi,?_⟩))
  have:=zjV hsorted p q i j hpq hi hj
  simpa [Nat.blt_eq] using this
 ·have hs:=(hancs i o hi ho).2
  have:=List.all_eq_true.1 hs (o',j) (List.mem_zipIdx_iff_getElem?.2 (hget j o' ho'))
  simp only [zmn,hd',Bool.or_eq_true,Bool.not_eq_true'] at this
  rcases this with h | h
  ·rw [zei ht] at h;cases h
  ·exact zbx hcl ho hrd j (zbb h)
 ·obtain ⟨o2,h1,h2⟩:=zs8 ops.toList k i hki
  rw [hget i o ho] at h1;cases h1
  rw [hat i,ho] at ho'
  cases ho'
  have hst2:za7 o.op=true:=(List.mem_filter.1 (List.mem_of_getElem? h2)).2
  have hkk:=hk o (hmem i o ho)
  cases hso:zbX o.op with
  | true =>
   left
   have hal:allocOp o.op=false:=by cases hop:o.op<;>rw [hop] at hso<;>simp [zbX,allocOp] at hso ⊢
   refine ⟨?_,fun a1 a2 ha2 htm w1 hw1=>?_⟩
   ·rcases hkk with h | ⟨_,_,h | h⟩
    ·exfalso
     cases hop:o.op<;>rw [hop] at h hso<;>simp [zbo,zbX] at h hso
    ·rw [hal] at h;cases h
    ·exact h
   obtain ⟨w',g1,g2⟩:=e3 k o h2 hso ρ1 a2 ⟨ha2.defers,ha2.size,ha2.slot,ha2.gl⟩ w1 hw1.1
   refine ⟨w',?_,g2,fun h=>by omega⟩
   rw [←g1]
   congr 1
   cases hop:o.op<;>rw [hop] at hso<;>simp only [zbX] at hso<;>first | cases hso | skip
   rename_i t x y
   rw [hop] at htm
   have hx:a1.eval x=a2.eval x:=zcw fun t ht=>htm t (by simp [zdH,ht])
   have hy:a1.eval y=a2.eval y:=zcw fun t ht=>htm t (by simp [zdH,ht])
   simp only [execOp,hop,hx,hy]
  | false =>
   right
   have hal:allocOp o.op=true:=by unfold za7 at hst2;rw [hso,Bool.false_or] at hst2;exact hst2
   have hk0:k=0:=by
    rcases Nat.eq_zero_or_pos k with h | h
    ·exact h
    ·have h3:((ops.toList.filter fun o=>za7 o.op).drop 1)[k-1]? = some o:=by
      rw [List.getElem?_drop,show 1+(k-1)=k from by omega]
      exact h2
     have:=List.all_eq_true.1 hfirst o (List.mem_of_getElem? h3)
     rw [hso] at this;cases this
   subst hk0
   cases hop:o.op<;>rw [hop] at hal<;>simp only [allocOp] at hal<;>first | cases hal | skip
   rename_i t
   obtain ⟨_,h5⟩:=e5 o t h2 hop
   refine ⟨.pointer (some ⟨N,0,none⟩),fun a0 w0=>?_,fun a0 w1 hw1=>?_⟩
   ·have en:(nopN N o).op = .move (.const (.pointer (some ⟨N,0,none⟩))):=by
     unfold nopN
     rw [if_neg (by rw [hso];decide),if_pos (by rw [hop];rfl)]
    simp [execOp,en,Act.eval]
   ·have hw2:=hw1.1
    rw [e1] at hw2
    obtain ⟨w',g1,g2⟩:=h5 ρ1 w1 hw2 a0
    rw [hw1.2 rfl] at g1 g2
    rw [hee] at g2
    exact ⟨w',g1,g2,fun h=>by omega⟩
 ·refine hQ ρ1 a1 w1 ⟨⟨ha1.defers,ha1.size,ha1.slot,fun e he=>by cases he⟩,?_⟩
  have hw1:=hw1.1
  rw [hlen,e2] at hw1
  exact hw1
 ·have h0:(Array.replicate ops.size false).getD i false=false:=by
   rw [Array.getD_eq_getD_getElem?]
   rcases Nat.lt_or_ge i ops.size with h | h
   ·rw [Array.getElem?_eq_getElem (by simpa using h)];simp
   ·rw [Array.getElem?_eq_none (by simpa using h)];rfl
  rw [h0] at hl;cases hl
 ·rw [Array.getD_eq_getD_getElem?]
  rcases Nat.lt_or_ge i ops.size with h | h
  ·rw [Array.getElem?_eq_getElem (by simpa using h)];simp
  ·rw [Array.getElem?_eq_none (by simpa using h)];rfl
 ·have hwq:=hr ρ1 a ⟨⟨w,hs1⟩,by rw [hn1],by rw [hn1]⟩ ha1 (fun w=>∃ k,k≤(ops.toList.filter fun o=>za7 o.op).length∧HS E ν ρ1 (hps k) w) (fun w ⟨k,hk,h⟩=>⟨hps k,h,e4 k hk⟩) (fun w w' ⟨k,hk,h⟩ hb=>⟨k,hk,h.of_below hb⟩) ⟨w,0,Nat.zero_le _,by rw [e1];exact hs1⟩
  rw [←zs7 N] at hB
  simp only [Region.lexB,Bool.and_eq_true] at hB
  have:=wpAnyQ_lex (P:=P) (C:=fun w=>∃ k,k≤(ops.toList.filter fun o=>za7 o.op).length∧HS E ν ρ1 (hps k) w) (md:=.any) hB.1 (ops.toList.map (nopN N)) 0 (Array.replicate (ops.toList.map (nopN N)).toArray.size false) a (by simp) (by simpa using hB.2) hwq
  simpa using this
theorem zpo (hS:SigsOK P I gK S F) (hE:E.Ok gK) (hI:∀ w,Fr E.W E.w0 w→I w) {ops:Array Oper} {s:St} (hm:zvP ops.toList=true) (hB:Region.lexB .any (ops.toList.map (nopN 0)).toArray=true) (hback:zk7 ops.toList=true) :
  M.sat F ν (zoR P S ops.toList s) (fun s'=>∀ ρ a w,RR ν E ρ ⟨s,[]⟩ a w→∀ Q:Exit→Act→World→Prop,(∀ ρ' a' w',RR ν E ρ' ⟨s',[]⟩ a' w'→Q .normal a' w') →
   wpAny P .any ops Q ops.size (Array.replicate ops.size false) a w):=by
 intro n a n' e d h1 h2 h3
 unfold zoR at h1
 exact zmJ (E:=E) hS hE hI hm hB hback n a n' e d h1 h2 h3
end
end Go.Sx
namespace Go.Sx
open Go.RowKit
section
variable {P:Program}
theorem zpp {head:Array Oper} {last:Oper} {listed:Array Bool} (hs:listed.size=head.size) (hc:zbM head listed):zbM (head.push last) (listed.push false):=by
 intro i o ho hl e he hb
 rw [zaN] at hl ⊢
 have hi:i<head.size:=by
  rcases Nat.lt_or_ge i head.size with h | h
  ·exact h
  ·rw [Array.getD_eq_getD_getElem?,Array.getElem?_eq_none (by omega)] at hl;cases hl
 rw [Array.getElem?_push,if_neg (by omega)] at ho
 exact hc i o ho hl e he hb
theorem zpq {head:Array Oper} {last:Oper} {Q Qh:Exit→Act→World→Prop} (hb:zbR .any (head.push last)) (hw:∀ i,i<head.size→i∈zax (head.push last).toList head.size (za6 last))
  (hq:∀ e a w,e≠.normal→Qh e a w→Q e a w) (hl:∀ a w,Qh .normal a w→wpOp P (head.push last) Q head.size (Q .normal) a w) :
  ∀ (fuel:Nat) (listed:Array Bool) (a:Act) (w:World),listed.size=head.size→zbM head listed→wpAny P .any head Qh fuel listed a w→wpAny P .any (head.push last) Q (fuel+1) (listed.push false) a w:=by
 have hbh:zbR .any head:=fun i o ho=>hb i o (by
  have hi:i<head.size:=by
   rcases Nat.lt_or_ge i head.size with h | h
   ·exact h
   ·rw [Array.getElem?_eq_none h] at ho;cases ho
  rw [Array.getElem?_push,if_neg (by omega)];exact ho)
 have hlast:(head.push last)[head.size]? = some last:=by simp
 have hbl:=hb head.size last hlast
 have r1:∀ listed:Array Bool,listed.size=head.size→∀ i,i∈Region.ready .any (head.push last) (listed.push false)→i=head.size∨(i<head.size∧i∈Region.ready .any head listed):=by
  intro listed hs i hi
  obtain ⟨h1,oi,h2,h3⟩:=mem_ready.1 hi
  rcases Nat.lt_trichotomy i head.size with h | h | h
  ·right
   refine ⟨h,mem_ready.2 ⟨by rw [←zbw (by omega)];exact h1,oi,by rw [Array.getElem?_push,if_neg (by omega)] at h2;exact h2,fun e he hbd=>by rw [←zaN];exact h3 e he hbd⟩⟩
  ·exact .inl h
  ·rw [Array.getElem?_eq_none (by simp;omega)] at h2;cases h2
 have r2:∀ listed:Array Bool,listed.size=head.size→zbM head listed→head.size∈Region.ready .any (head.push last) (listed.push false)→Region.ready .any head listed=[]:=by
  intro listed hs hc hi
  have hall:=zbx (zpp hs hc) hlast hi
  apply List.eq_nil_iff_forall_not_mem.2
  intro j hj
  obtain ⟨h4,oj,h5,_⟩:=mem_ready.1 hj
  have hjl:j<head.size:=by
   rcases Nat.lt_or_ge j head.size with h | h
   ·exact h
   ·rw [Array.getElem?_eq_none h] at h5;cases h5
  have:=hall j (hw j hjl)
  rw [zaN,←zaz (by omega),h4] at this
  cases this
 have r3:∀ listed:Array Bool,listed.size=head.size→Region.ready .any head listed=[]→head.size∈Region.ready .any (head.push last) (listed.push false):=by
  intro listed hs h0
  refine mem_ready.2 ⟨zin hs true,last,hlast,fun e he hbd=>?_⟩
  rw [zaN]
  exact zb0 hs hbh h0 e.on (hbl.1 e he hbd)
 have rend:∀ listed:Array Bool,listed.size=head.size→Region.ready .any head listed=[]→Region.ready .any (head.push last) ((listed.push false).setIfInBounds head.size true)=[]:=by
  intro listed hs h0
  apply List.eq_nil_iff_forall_not_mem.2
  intro j hj
  obtain ⟨h4,oj,h5,_⟩:=mem_ready.1 hj
  have hjl:j<head.size+1:=by
   rcases Nat.lt_or_ge j (head.size+1) with h | h
   ·exact h
   ·rw [Array.getElem?_eq_none (by simp;omega)] at h5;cases h5
  by_cases hjn:j=head.size
  ·subst hjn
   rw [Array.getD_eq_getD_getElem?,Array.getElem?_setIfInBounds_self_of_lt (by simp [hs])] at h4
   cases h4
  ·have:=zb0 hs hbh h0 j (by omega)
   rw [getD_set_ne true (Ne.symm hjn),zbw (by omega),zaz (by omega),this] at h4
   cases h4
 have fin:∀ (fuel:Nat) (listed:Array Bool) (a:Act) (w:World),listed.size=head.size→Region.ready .any head listed=[]→Q .normal a w →
   wpAny P .any (head.push last) Q fuel ((listed.push false).setIfInBounds head.size true) a w:=by
  intro fuel listed a w hs h0 hn
  have he:=rend listed hs h0
  cases fuel with
  | zero=>exact ⟨he,hn⟩
  | succ f=>exact ⟨fun _=>hn,fun i hi=>by rw [he] at hi;cases hi⟩
 intro fuel
 induction fuel with
 | zero =>
  intro listed a w hs hc h
  refine ⟨fun h0=>?_,fun i hi=>?_⟩
  ·have:=r3 listed hs h.1
   rw [h0] at this;cases this
  ·rcases r1 listed hs i hi with rfl | ⟨_,hi'⟩
   ·exact wpOp_mono (fun a' w' hn=>fin 0 listed a' w' hs h.1 hn) (hl a w h.2)
   ·rw [h.1] at hi';cases hi'
 | succ fuel ih =>
  intro listed a w hs hc h
  refine ⟨fun h0=>?_,fun i hi=>?_⟩
  ·exfalso
   have hz:Region.ready .any head listed=[]:=by
    apply List.eq_nil_iff_forall_not_mem.2
    intro j hj
    obtain ⟨h4,oj,h5,h6⟩:=mem_ready.1 hj
    have hjl:j<head.size:=by
     rcases Nat.lt_or_ge j head.size with h | h
     ·exact h
     ·rw [Array.getElem?_eq_none h] at h5;cases h5
    have:j∈Region.ready .any (head.push last) (listed.push false):=mem_ready.2 ⟨by rw [zbw (by omega)];exact h4,oj,by rw [Array.getElem?_push,if_neg (by omega)];exact h5,fun e he hbd=>by rw [zaN];exact h6 e he hbd⟩
    rw [h0] at this;cases this
   have:=r3 listed hs hz
   rw [h0] at this;cases this
  ·rcases r1 listed hs i hi with rfl | ⟨hil,hi'⟩
   ·have hz:=r2 listed hs hc hi
    exact wpOp_mono (fun a' w' hn=>fin (fuel+1) listed a' w' hs hz hn) (hl a w (h.1 hz))
   ·have h2:=h.2 i hi'
    have hset:(listed.push false).setIfInBounds i true=(listed.setIfInBounds i true).push false:=by
     apply Array.ext'
     simp only [Array.toList_setIfInBounds,Array.toList_push]
     rw [List.set_append_left _ _ (by simpa using (show i<listed.size from by omega))]
    rw [hset]
    refine zge (by rw [Array.getElem?_push,if_neg (by omega)]) (fun o ho=>?_) (fun a' w' h'=>ih _ a' w' (by simpa using hs) (hc.set hi') h') hq h2
    exact zjR (i:=i) (by omega) (hbh i o ho).2
theorem zej (ops:Array Oper) (n:Nat):zbM ops (Array.replicate n false):=by
 intro i o _ hl
 rw [Array.getD_eq_getD_getElem?,Array.getElem?_replicate] at hl
 split at hl<;>simp at hl
theorem zdp {ops:Array Oper} {Q:Exit→Act→World→Prop} (hb:zbR .any ops):∀ (rest:List Oper) (head:Array Oper),ops.toList=head.toList++rest →
  (∀ i,head.size≤i→∀ o,ops[i]? = some o→∀ j,j<i→j∈zax (ops.toList.take (i+1)) i (za6 o)) →
  ∀ a w,wpAny P .any head (fun e a w=>match e with | .normal=>wpList P ops Q rest a w | e=>Q e a w) head.size (Array.replicate head.size false) a w →
  wpAny P .any ops Q ops.size (Array.replicate ops.size false) a w
 | [],head,ho,_,a,w,h=>by
  have:head=ops:=by apply Array.ext';simpa using ho.symm
  subst this
  refine zhI (fun e a w hh=>?_) _ _ _ _ h
  cases e<;>exact hh
 | o::rest,head,ho,hw,a,w,h=>by
  have hpre:∀ i,i<head.size+1→(head.push o)[i]? = ops[i]?:=fun i hi=>by
   have h1:ops[i]? = ops.toList[i]?:=by simp
   rw [h1,ho]
   by_cases hih:i<head.size
   ·rw [List.getElem?_append_left (by simpa using hih),Array.getElem?_push,if_neg (by omega)];simp
   ·have:i=head.size:=by omega
    subst this
    simp
  have hbp:zbR .any (head.push o):=fun i x hx=>hb i x (by
   rw [←hpre i (by
    rcases Nat.lt_or_ge i (head.size+1) with h | h
    ·exact h
    ·rw [Array.getElem?_eq_none (by simp;omega)] at hx;cases hx)]
   exact hx)
  have ho':ops[head.size]? = some o:=by rw [←hpre _ (by omega)];simp
  have htk:ops.toList.take (head.size+1)=(head.push o).toList:=by
   rw [ho,Array.toList_push]
   have:(head.toList++o::rest)=(head.toList++[o])++rest:=by simp
   rw [this,List.take_left' (by simp)]
  refine zdp hb rest (head.push o) (by simp [ho]) (fun i hi x hx j hj=>hw i (by simp at hi;omega) x hx j hj) a w ?_
  have:=zpq (P:=P) (head:=head) (last:=o) (Q:=fun e a w=>match e with | .normal=>wpList P ops Q rest a w | e=>Q e a w) hbp
   (fun i hi=>by rw [←htk];exact hw head.size (Nat.le_refl _) o ho' i hi) (Qh:=fun e a w=>match e with | .normal=>wpList P ops Q (o::rest) a w | e=>Q e a w)
   (fun e a w hne hh=>by cases e<;>first | exact absurd rfl hne | exact hh)
   (fun a w hh=>by
    simp only [wpList] at hh
    unfold wpOp
    have e1:(head.push o)[head.size]? = some o:=by simp
    simp only [e1]
    have hwd:Region.wanted o (yielded (head.push o) a.tmps)=Region.wanted o (yielded ops a.tmps):=by
     unfold Region.wanted
     cases hgd:o.guard with
     | none=>rfl
     | some p =>
      obtain ⟨j,b⟩:=p
      have:=(hb head.size o ho').2 j b hgd
      simp only [yielded,hpre j (by omega)]
    rw [hwd]
    split
    ·rename_i hwt
     simp only [hwt,if_true] at hh
     exact zeh (fun a w h=>h) (fun e a w hne h=>by cases e<;>first | exact absurd rfl hne | exact h) hh
    ·rename_i hwt
     simp only [hwt] at hh
     exact hh) head.size (Array.replicate head.size false) a w (by simp) (zej _ _) h
  have hr:(Array.replicate head.size false).push false=Array.replicate (head.push o).size false:=by
   simp [Array.replicate_succ]
  rw [hr] at this
  simpa using this
def zgV (P:Program) (m:Sem Next) (w:World) (K:Value→World→Prop):Prop :=
 (∃ v w',(m.run P w = .ok (.value v) w'∨(m.run P w = .ok .skip w'∧v=undef))∧K v w')∨∃ f args w1,m.run P w = .ok (.enter f args) w1∧Calls P f args w1 fun e w'=>∃ v,e = .returned v∧K v w'
theorem zjW {Θ:Type} {ops:Array Oper} {ops':Θ→Array Oper} {st:List Nat} {val:Nat→Θ→Value} {C:Θ→World→Prop} {D:Array Bool→Θ→World→Prop} {Sm:Array Bool→Θ→Θ→Prop}
  {Qf:Θ→Act→Prop} {Q':Exit→Act→World→Prop} {tm:Nat→List Nat} (hb:zbR .any ops)
  (hready:∀ θ listed,Region.ready .any (ops' θ) listed=Region.ready .any ops listed) (hdst:∀ θ (j:Nat),((ops' θ)[j]?).bind (·.dst)=(ops[j]?).bind (·.dst))
  (hns:∀ θ (i:Nat),i∉st→(ops' θ)[i]? = ops[i]?)
  (hst:∀ i∈st,∃ o,ops[i]? = some o∧∀ θ,∃ o',(ops' θ)[i]? = some o'∧o'.guard=o.guard∧o'.dst=o.dst∧∀ (a:Act) (w:World),(execOp a.eval o').run P w = .ok (.value (val i θ)) w)
  (hD:∀ listed θ θ' w,D listed θ w→Sm listed θ θ'→D listed θ' w) (hDC:∀ listed θ w,D listed θ w→C θ w)
  (hrefl:∀ listed θ,Sm listed θ θ) (htrans:∀ listed i θ θ' θ'',Sm listed θ θ'→Sm (listed.setIfInBounds i true) θ' θ''→Sm listed θ θ'')
  (hval:∀ (listed:Array Bool) i θ θ',i∈st→listed.size=ops.size→Sm (listed.setIfInBounds i true) θ θ'→val i θ'=val i θ)
  (hpure:∀ (i:Nat) (o:Oper),i∉st→ops[i]? = some o→∀ (a:Act) (w:World) f args w',(execOp a.eval o).run P w≠.ok (.enter f args) w')
  (hDset:∀ (listed:Array Bool) i θ w,i∉st→D listed θ w→D (listed.setIfInBounds i true) θ w)
  (hop:∀ (i:Nat) (o:Oper),i∈st→ops[i]? = some o→∀ listed,zbM ops listed→i∈Region.ready .any ops listed→∀ t∈tm i,∀ (j:Nat) (o':Oper),ops[j]? = some o'→o'.dst=some t→listed.getD j false=true)
  (hstep:∀ (i:Nat) (o:Oper),i∈st→ops[i]? = some o→∀ listed,listed.size=ops.size→zbM ops listed→i∈Region.ready .any ops listed→∀ θ w,D listed θ w→∀ a a':Act,Qf θ a'→(∀ t∈tm i,a'.tmps[t]? = a.tmps[t]?)→Region.wanted o (yielded ops a.tmps)=true →
   zgV P (execOp a.eval o) w fun v w'=>∃ θ',Sm listed θ θ'∧(o.dst=none∨val i θ'=v)∧D (listed.setIfInBounds i true) θ' w')
  (hskip:∀ (i:Nat) (o:Oper),i∈st→ops[i]? = some o→∀ listed,listed.size=ops.size→zbM ops listed→i∈Region.ready .any ops listed→∀ θ w,D listed θ w→∀ a a':Act,Qf θ a'→(∀ t∈tm i,a'.tmps[t]? = a.tmps[t]?)→Region.wanted o (yielded ops a.tmps)=false →
   ∃ θ',Sm listed θ θ'∧D (listed.setIfInBounds i true) θ' w)
  (hQ:∀ θ a w listed,(∀ i,i<ops.size→listed.getD i false=true)→Qf θ a→D listed θ w→Q' .normal a w) :
  ∀ (fuel:Nat) (listed:Array Bool) (a:Act) (w:World) (θ:Θ),listed.size=ops.size→zbM ops listed→D listed θ w→(∀ θ',Sm listed θ θ'→wpAnyQ P .any (ops' θ') (C θ') (Qf θ') fuel listed a)→wpAny P .any ops Q' fuel listed a w:=by
 intro fuel
 induction fuel with
 | zero =>
  intro listed a w θ hs hcl hd h
  have h0:=h θ (hrefl _ _)
  have h1:=h0.1
  rw [hready] at h1
  exact ⟨h1,hQ θ a w listed (zb0 hs hb h1) h0.2 hd⟩
 | succ fuel ih =>
  intro listed a w θ hs hcl hd h
  refine ⟨fun h1=>?_,fun i hi=>?_⟩
  ·have h0:=h θ (hrefl _ _)
   exact hQ θ a w listed (zb0 hs hb h1) (h0.1 (by rw [hready];exact h1)) hd
  ·have hs':(listed.setIfInBounds i true).size=ops.size:=by simpa using hs
   have hcl':=hcl.set hi
   obtain ⟨hnl,oi,hoi,_⟩:=mem_ready.1 hi
   have hil:i<ops.size:=by
    rcases Nat.lt_or_ge i ops.size with h | h
    ·exact h
    ·rw [Array.getElem?_eq_none h] at hoi;cases hoi
   by_cases him:i∈st
   ·obtain ⟨o,e1,e3⟩:=hst i him
    rw [hoi] at e1;cases e1
    have hsame:∀ θ' (o':Oper),o'.guard=oi.guard→Region.wanted o' (yielded (ops' θ') a.tmps)=Region.wanted oi (yielded ops a.tmps):=fun θ' o' hg=>by
     unfold Region.wanted
     rw [hg,za0 (hdst θ')]
    by_cases hwd:Region.wanted oi (yielded ops a.tmps)=true
    rotate_left
    ·-- it is passed over
     have hwd:=(Bool.not_eq_true _).mp hwd
     unfold wpOp
     rw [hoi]
     simp only
     rw [if_neg (by rw [hwd];decide)]
     have nxt:∀ θ',Sm listed θ θ'→wpAnyQ P .any (ops' θ') (C θ') (Qf θ') fuel (listed.setIfInBounds i true) (a.put oi.dst undef):=by
      intro θ' hsm0
      have hq:=(h θ' hsm0).2 i (by rw [hready];exact hi)
      obtain ⟨o',e4,e5,e6,e7⟩:=e3 θ'
      unfold qOp at hq
      rw [e4] at hq
      simp only at hq
      rw [if_neg (by rw [hsame θ' o' e5,hwd];decide),e6] at hq
      exact hq
     obtain ⟨a',ha',htm⟩:=zdl fuel _ _ (nxt θ (hrefl _ _))
     obtain ⟨θ1,hs1,hd1⟩:=hskip i oi him hoi listed hs hcl hi θ w hd a a' ha' (fun t ht=>by
      have hne:oi.dst≠some t:=fun e=>by
       have:=hop i oi him hoi listed hcl hi t ht i oi hoi e
       rw [←zaz (by omega),hnl] at this
       cases this
      rw [htm t (fun j o'' ho'' hd''=>?_),zgf hne]
      have hjd:(ops[j]?).bind (·.dst)=some t:=by rw [←hdst θ j,ho''];exact hd''
      cases hoj:ops[j]? with
      | none=>rw [hoj] at hjd;cases hjd
      | some oj =>
       rw [hoj] at hjd
       have hjl:j<listed.size:=by
        rcases Nat.lt_or_ge j ops.size with h | h
        ·omega
        ·rw [Array.getElem?_eq_none h] at hoj;cases hoj
       have:=zaF (i:=i) (hop i oi him hoi listed hcl hi t ht j oj hoj hjd)
       rw [zaz (by simpa using hjl)]
       exact this) hwd
     exact ih _ _ w θ1 hs' hcl' hd1 fun θ' hsm=>nxt θ' (htrans listed i θ θ1 θ' hs1 hsm)
    -- one step of each
    have next:∀ θ',Sm listed θ θ'→wpAnyQ P .any (ops' θ') (C θ') (Qf θ') fuel (listed.setIfInBounds i true) (a.put oi.dst (val i θ')):=by
     intro θ' hsm
     have hq:=(h θ' hsm).2 i (by rw [hready];exact hi)
     obtain ⟨o',e4,e5,e6,e7⟩:=e3 θ'
     have hwd':Region.wanted o' (yielded (ops' θ') a.tmps)=true:=by rw [hsame θ' o' e5];exact hwd
     unfold qOp at hq
     rw [e4] at hq
     simp only at hq
     rw [if_pos hwd'] at hq
     obtain ⟨v,hv,h4⟩:=hq
     have h3:=hv w (hDC _ _ _ (hD _ _ _ _ hd hsm))
     unfold Oper.quietAt at h3
     rw [e7 a w] at h3
     have hvv:val i θ'=v:=h3.2
     rw [hvv,←e6]
     exact h4
    have go:∀ v w',(∃ θ',Sm listed θ θ'∧(oi.dst=none∨val i θ'=v)∧D (listed.setIfInBounds i true) θ' w')→wpAny P .any ops Q' fuel (listed.setIfInBounds i true) (a.put oi.dst v) w':=by
     rintro v w' ⟨θ',hsm,hvv,hd'⟩
     have hpe:a.put oi.dst v=a.put oi.dst (val i θ'):=by
      rcases hvv with h | h
      ·rw [h];rfl
      ·rw [h]
     rw [hpe]
     refine ih _ _ w' θ' hs' hcl' hd' fun θ'' hsm'=>?_
     rw [←hval listed i θ' θ'' him hs hsm']
     exact next θ'' (htrans listed i θ θ' θ'' hsm hsm')
    obtain ⟨a',ha',htm⟩:=zdl fuel _ _ (next θ (hrefl _ _))
    have hst':=hstep i oi him hoi listed hs hcl hi θ w hd a a' ha' (fun t ht=>by
     have hne:oi.dst≠some t:=fun e=>by
      have:=hop i oi him hoi listed hcl hi t ht i oi hoi e
      rw [←zaz (by omega),hnl] at this
      cases this
     rw [htm t (fun j o'' ho'' hd''=>?_),zgf hne]
     have hjd:(ops[j]?).bind (·.dst)=some t:=by rw [←hdst θ j,ho''];exact hd''
     cases hoj:ops[j]? with
     | none=>rw [hoj] at hjd;cases hjd
     | some oj =>
      rw [hoj] at hjd
      have hjl:j<listed.size:=by
       rcases Nat.lt_or_ge j ops.size with h | h
       ·omega
       ·rw [Array.getElem?_eq_none h] at hoj;cases hoj
      have:=zaF (i:=i) (hop i oi him hoi listed hcl hi t ht j oj hoj hjd)
      rw [zaz (by simpa using hjl)]
      exact this) hwd
    unfold wpOp
    rw [hoi]
    simp only
    rw [if_pos hwd]
    refine .inl ?_
    unfold Oper.wp
    rcases hst' with ⟨v,w',hr | ⟨hr,rfl⟩,hk⟩ | ⟨f,args,w1,hr,hk⟩
    ·rw [hr]
     exact go v w' hk
    ·rw [hr]
     exact go undef w' hk
    ·rw [hr]
     exact Calls.mono hk fun e w' ⟨v,he,hk⟩=>by subst he;exact go v w' hk
   ·have hq:=(h θ (hrefl _ _)).2 i (by rw [hready];exact hi)
    unfold qOp at hq
    rw [hns θ i him,hoi] at hq
    simp only [za0 (hdst θ)] at hq
    unfold wpOp
    rw [hoi]
    simp only
    have each:∀ θ',Sm listed θ θ'→(if Region.wanted oi (yielded ops a.tmps)=true then ∃ v,(∀ w,C θ' w→oi.quietAt P a (C θ') w v)∧wpAnyQ P .any (ops' θ') (C θ') (Qf θ') fuel (listed.setIfInBounds i true) (a.put oi.dst v) else wpAnyQ P .any (ops' θ') (C θ') (Qf θ') fuel (listed.setIfInBounds i true) (a.put oi.dst undef)):=by
     intro θ' hsm
     have hq:=(h θ' hsm).2 i (by rw [hready];exact hi)
     unfold qOp at hq
     rw [hns θ' i him,hoi] at hq
     simp only [za0 (hdst θ')] at hq
     exact hq
    split
    ·rename_i hwt
     rw [if_pos hwt] at hq
     refine .inl ?_
     have hne:=hpure i oi him hoi a w
     have hval2:∀ θ',Sm listed θ θ'→∃ v,Oper.quietUpon P (C θ') w v ((execOp a.eval oi).run P w)∧wpAnyQ P .any (ops' θ') (C θ') (Qf θ') fuel (listed.setIfInBounds i true) (a.put oi.dst v):=by
      intro θ' hsm
      have:=each θ' hsm
      rw [if_pos hwt] at this
      obtain ⟨v,h1,h2⟩:=this
      exact ⟨v,h1 w (hDC _ _ _ (hD _ _ _ _ hd hsm)),h2⟩
     have sm1:∀ θ',Sm (listed.setIfInBounds i true) θ θ'→Sm listed θ θ':=fun θ' hsm=>htrans listed i θ θ θ' (hrefl _ _) hsm
     unfold Oper.wp
     generalize (execOp a.eval oi).run P w=r at *
     obtain ⟨v0,h3,_⟩:=hval2 θ (hrefl _ _)
     cases r with
     | ok n w' =>
      cases n<;>simp only [Oper.quietUpon] at h3<;>simp only [Oper.upon]
      case value u =>
       obtain ⟨e1,_⟩:=h3
       rw [e1]
       refine ih _ _ w θ hs' hcl' (hDset _ _ _ _ him hd) fun θ' hsm=>?_
       obtain ⟨v,h4,h5⟩:=hval2 θ' (sm1 θ' hsm)
       have h4:w'=w∧u=v:=h4
       rw [h4.2]
       exact h5
      case skip =>
       obtain ⟨e1,_⟩:=h3
       rw [e1]
       refine ih _ _ w θ hs' hcl' (hDset _ _ _ _ him hd) fun θ' hsm=>?_
       obtain ⟨v,h4,h5⟩:=hval2 θ' (sm1 θ' hsm)
       have h4:w'=w∧v=undef:=h4
       rw [h4.2] at h5
       exact h5
      case enter f args=>exact absurd rfl (hne f args w')
     | halt x w'=>simp only [Oper.quietUpon] at h3
    ·rename_i hwt
     rw [if_neg hwt] at hq
     refine ih _ _ w θ hs' hcl' (hDset _ _ _ _ him hd) fun θ' hsm=>?_
     have:=each θ' (htrans listed i θ θ θ' (hrefl _ _) hsm)
     rw [if_neg hwt] at this
     exact this
theorem zlJ {Θ:Type} {ops:Array Oper} {ops':Θ→Array Oper} {st:List Nat} {val:Nat→Θ→Value} {C:Θ→World→Prop} {D:Array Bool→Θ→World→Prop} {Sm:Array Bool→Θ→Θ→Prop}
  {Qf:Θ→Act→Prop} {Q':Exit→Act→World→Prop} {tm:Nat→List Nat} (hb:zbR .any ops)
  (hready:∀ θ listed,Region.ready .any (ops' θ) listed=Region.ready .any ops listed) (hdst:∀ θ (j:Nat),((ops' θ)[j]?).bind (·.dst)=(ops[j]?).bind (·.dst))
  (hns:∀ θ (i:Nat),i∉st→(ops' θ)[i]? = ops[i]?)
  (hst:∀ i∈st,∃ o,ops[i]? = some o∧o.guard=none∧∀ θ,∃ o',(ops' θ)[i]? = some o'∧o'.guard=none∧o'.dst=o.dst∧∀ (a:Act) (w:World),(execOp a.eval o').run P w = .ok (.value (val i θ)) w)
  (hD:∀ listed θ θ' w,D listed θ w→Sm listed θ θ'→D listed θ' w) (hDC:∀ listed θ w,D listed θ w→C θ w)
  (hrefl:∀ listed θ,Sm listed θ θ) (htrans:∀ listed i θ θ' θ'',Sm listed θ θ'→Sm (listed.setIfInBounds i true) θ' θ''→Sm listed θ θ'')
  (hval:∀ (listed:Array Bool) i θ θ',i∈st→listed.size=ops.size→Sm (listed.setIfInBounds i true) θ θ'→val i θ'=val i θ)
  (hpure:∀ (i:Nat) (o:Oper),i∉st→ops[i]? = some o→∀ (a:Act) (w:World) f args w',(execOp a.eval o).run P w≠.ok (.enter f args) w')
  (hDset:∀ (listed:Array Bool) i θ w,i∉st→D listed θ w→D (listed.setIfInBounds i true) θ w)
  (hop:∀ (i:Nat) (o:Oper),i∈st→ops[i]? = some o→∀ listed,zbM ops listed→i∈Region.ready .any ops listed→∀ t∈tm i,∀ (j:Nat) (o':Oper),ops[j]? = some o'→o'.dst=some t→listed.getD j false=true)
  (hstep:∀ (i:Nat) (o:Oper),i∈st→ops[i]? = some o→∀ listed,listed.size=ops.size→zbM ops listed→i∈Region.ready .any ops listed→∀ θ w,D listed θ w→∀ a a':Act,Qf θ a'→(∀ t∈tm i,a'.tmps[t]? = a.tmps[t]?) →
   zgV P (execOp a.eval o) w fun v w'=>∃ θ',Sm listed θ θ'∧(o.dst=none∨val i θ'=v)∧D (listed.setIfInBounds i true) θ' w')
  (hQ:∀ θ a w listed,(∀ i,i<ops.size→listed.getD i false=true)→Qf θ a→D listed θ w→Q' .normal a w) :
  ∀ (fuel:Nat) (listed:Array Bool) (a:Act) (w:World) (θ:Θ),listed.size=ops.size→zbM ops listed→D listed θ w→(∀ θ',Sm listed θ θ'→wpAnyQ P .any (ops' θ') (C θ') (Qf θ') fuel listed a)→wpAny P .any ops Q' fuel listed a w :=
 zjW hb hready hdst hns (fun i hi=>let ⟨o,h1,h2,h3⟩:=hst i hi;⟨o,h1,fun θ=>let ⟨o',g1,g2,g3,g4⟩:=h3 θ;⟨o',g1,g2.trans h2.symm,g3,g4⟩⟩) hD hDC hrefl htrans hval hpure hDset hop
  (fun i o hi ho listed hs hcl hr θ w hd a a' hq ht _=>hstep i o hi ho listed hs hcl hr θ w hd a a' hq ht)
  (fun i o hi ho listed _ _ _ θ w _ a _ _ _ hw=>by
   obtain ⟨o2,h1,h2,_⟩:=hst i hi
   rw [ho] at h1;cases h1
   simp [Region.wanted,h2] at hw) hQ
end
section
variable {F:FEnv} {E:Env} {ν:Nat→DV}
theorem HS.grow {ρ ρ':Nat→Loc} {hp hp':List (Option Blk)} {w w':World} {base:Nat} {N:Nat→Prop} (h:HS E ν ρ hp w) (hb:Below w.heap.size w w') (h0:E.n0≤base) (hl:E.n0≤hp'.length) (hρ:∀ b,b<base→ρ' b=ρ b)
  (hc:∀ b bk,nth hp' b=some bk→(nth hp b=some bk∧ρ' b=ρ b∧bk.lt base=true)∨(BlkRel E ν ρ' w' (ρ' b) bk∧((ρ' b).nil=true∨OldB (fun _=>False) (fun k=>∃ j bj,nth hp j=some bj∧bj.own=false∧(ρ j).nil=false∧bj.rfoot w (ρ j) k) w.heap.size bk.own (bk.foot w' (ρ' b)) (bk.rfoot w' (ρ' b)))∧N b))
  (hn:∀ b b' bk bk',N b→N b'→nth hp' b=some bk→bk.own=true→nth hp' b'=some bk'→b≠b'→(ρ' b).nil=false→(ρ' b').nil=false→∀ k,bk.foot w' (ρ' b) k→¬ bk'.rfoot w' (ρ' b') k):HS E ν ρ' hp' w':=by
 have hfe:∀ b bk,nth hp b=some bk→(ρ b).nil=false→∀ k,bk.foot w' (ρ b) k↔bk.foot w (ρ b) k:=fun b bk hb1 hnil k =>
  (h.heap.blk b bk hb1).foot_eq hnil (fun _ hf=>hb.block _ ((h.heap.blk b bk hb1).lt hnil hf)) k
 have hre:∀ b bk,nth hp b=some bk→(ρ b).nil=false→∀ k,bk.rfoot w' (ρ b) k↔bk.rfoot w (ρ b) k:=fun b bk hb1 hnil k =>
  (h.heap.blk b bk hb1).rfoot_eq hnil (fun _ hf=>hb.block _ ((h.heap.blk b bk hb1).lt hnil hf)) k
 refine ⟨⟨fun b bk hbk=>?_,fun b b' bk bk' hbk ho hbk' hne hn1 hn2 k hf1 hf2=>?_⟩,fun b bk hbk=>?_,h.fr.trans (Fr.of_below hb),hl,fun j hj=>by rw [hρ j (by omega)];exact h.keep j hj⟩
 ·rcases hc b bk hbk with ⟨h1,h2,h3⟩ | ⟨h1,_,_⟩
  ·rw [h2]
   exact ((h.heap.blk b bk h1).of_block hb.size (fun hnil _ hf=>hb.block _ ((h.heap.blk b bk h1).lt hnil hf))).keep hρ h3
  ·exact h1
 ·rcases hc b bk hbk with ⟨h1,h2,_⟩ | ⟨_,h2,h3⟩<;>rcases hc b' bk' hbk' with ⟨g1,g2,_⟩ | ⟨_,g2,g3⟩
  ·rw [h2] at hn1 hf1
   rw [g2] at hn2 hf2
   exact h.heap.apart b b' bk bk' h1 ho g1 hne hn1 hn2 k ((hfe b bk h1 hn1 k).1 hf1) ((hre b' bk' g1 hn2 k).1 hf2)
  ·rw [h2] at hn1 hf1
   have hf1:=(hfe b bk h1 hn1 k).1 hf1
   have:=(h.heap.blk b bk h1).lt hn1 ((h.heap.blk b bk h1).rd hn1 hf1)
   rcases g2 with g2 | g2
   ·rw [hn2] at g2;cases g2
   rcases g2.rd k hf2 with g2 | g2 | ⟨j,bj,e1,e2,e3,e4⟩
   ·omega
   ·exact g2.elim
   ·have hbj:b≠j:=fun e=>by
     subst e
     rw [h1] at e1;cases e1
     rw [ho] at e2;cases e2
    exact h.heap.apart b j bk bj h1 ho e1 hbj hn1 e3 k hf1 e4
  ·rw [g2] at hn2 hf2
   have hf2:=(hre b' bk' g1 hn2 k).1 hf2
   have:=(h.heap.blk b' bk' g1).lt hn2 hf2
   rcases h2 with h2 | h2
   ·rw [hn1] at h2;cases h2
   rcases h2.wr ho k hf1 with h2 | h2
   ·omega
   ·exact h2
  ·exact hn b b' bk bk' h3 g3 hbk ho hbk' hne hn1 hn2 k hf1 hf2
 ·rcases hc b bk hbk with ⟨h1,h2,_⟩ | ⟨_,h2,_⟩
  ·rw [h2]
   cases hnil:(ρ b).nil with
   | true=>exact .inl rfl
   | false =>
    rcases h.old b bk h1 with g | g
    ·rw [hnil] at g;cases g
    ·exact .inr ⟨fun o k hf=>g.wr o k ((hfe b bk h1 hnil k).1 hf),fun k hf=>g.rd k ((hre b bk h1 hnil k).1 hf)⟩
  ·rcases h2 with h2 | h2
   ·exact .inl h2
   refine .inr ⟨fun o k hf=>?_,fun k hf=>?_⟩
   ·rcases h2.wr o k hf with h2 | h2
    ·exact .inl (Nat.le_trans h.fr.size h2)
    ·exact h2.elim
   ·rcases h2.rd k hf with h2 | h2 | ⟨j,bj,e1,e2,e3,e4⟩
    ·exact .inl (Nat.le_trans h.fr.size h2)
    ·exact h2.elim
    ·rcases h.old j bj e1 with h | h
     ·rw [e3] at h;cases h
     exact h.rd k e4
end
end Go.Sx
namespace Go.Sx
open Go.RowKit
section
variable {P:Program} {I:World→Prop} {S:Sigs} {F:FEnv} {E:Env} {gK:Nat} {ν:Nat→DV}
theorem Lf.eqB_conc {a b:Lf} (h:a.eqB b=true) (ρ:Nat→Loc):a.conc ν ρ=b.conc ν ρ:=by
 unfold Lf.eqB at h
 split at h
 ·simp only [Bool.and_eq_true] at h
  have:=zcf h.1;subst this
  have:=A.beq_den h.2 ν
  simp only [Lf.conc,A.int,this]
 ·have:=A.beq_den h ν
  simp only [Lf.conc,A.bool,this]
 ·simp only [Bool.and_eq_true] at h
  have e1:=Nat.eq_of_beq_eq_true h.1
  have e2:=Nat.eq_of_beq_eq_true h.2
  subst e1;subst e2;rfl
 ·rfl
 ·have e1:=Nat.eq_of_beq_eq_true h
  subst e1;rfl
 ·have e1:=Nat.eq_of_beq_eq_true h
  subst e1;rfl
 ·simp only [Bool.and_eq_true] at h
  have e1:=Nat.eq_of_beq_eq_true h.1
  have e2:=Nat.eq_of_beq_eq_true h.2
  subst e1;subst e2;rfl
 ·have e1:=znB h
  subst e1;rfl
 ·simp only [Bool.and_eq_true] at h
  have e1:=LT.feq_eq h.1.1
  have e2:=A.beq_den h.1.2 ν
  have e3:=Nat.eq_of_beq_eq_true h.2
  subst e1;subst e3
  rename_i t a j a'
  cases t<;>simp only [Lf.conc,A.cells,e2]
 ·have:=A.beq_den h ν
  simp only [Lf.conc,A.cells,this]
 ·cases h
theorem zjX (ρ:Nat→Loc):∀ {a b:List Lf},zlk a b=true→a.map (Lf.conc ν ρ)=b.map (Lf.conc ν ρ)
 | [],[],_=>rfl
 | a::l,b::l',h=>by
  simp only [zlk,Bool.and_eq_true] at h
  simp only [List.map_cons,Lf.eqB_conc h.1 ρ,zjX ρ h.2]
 | [],_::_,h=>by cases h
 | _::_,[],h=>by cases h
theorem V.eqB_conc {a b:V} (h:a.eqB b=true) (ρ:Nat→Loc):a.conc ν ρ=b.conc ν ρ:=by
 unfold V.eqB at h
 split at h
 ·simp only [V.conc,V1.conc,Lf.eqB_conc h ρ]
 ·simp only [V.conc,V1.conc,zjX ρ h]
 ·cases h
theorem zlK (ρ:Nat→Loc):∀ {a b:List V},zoS a b=true→a.map (V.conc ν ρ)=b.map (V.conc ν ρ)
 | [],[],_=>rfl
 | a::l,b::l',h=>by
  simp only [zoS,Bool.and_eq_true] at h
  simp only [List.map_cons,V.eqB_conc h.1 ρ,zlK ρ h.2]
 | [],_::_,h=>by cases h
 | _::_,[],h=>by cases h
theorem Lf.inB_conc {p:Nat→Bool} {a:Lf} (h:a.inB p=true) {ρ ρ':Nat→Loc} (hρ:∀ q,p q=true→ρ' q=ρ q):a.conc ν ρ'=a.conc ν ρ:=by
 unfold Lf.inB at h
 split at h
 ·simp only [Lf.conc,hρ _ h]
 ·simp only [Lf.conc,hρ _ h]
 ·cases h
 ·cases h
 ·cases h
 ·cases h
 ·cases h
 ·cases h
 ·rename_i h1 h2 h3 h4 h5 h6 h7 h8
  cases a with
  | mp q=>exact absurd rfl (h7 q)
  | alt a l=>exact absurd rfl (h8 a l)
  | i k a=>rfl
  | b a=>rfl
  | p q o=>exact absurd rfl (h3 q o)
  | gp g o=>exact absurd rfl (h4 g o)
  | nilp=>rfl
  | vec q=>exact absurd rfl (h2 q)
  | fnp f bs=>exact absurd rfl (h5 f bs)
  | ifp t q=>exact absurd rfl (h6 t q)
  | str a=>rfl
  | v x=>rfl
  | e t a i=>cases t<;>rfl
theorem V.inB_conc {p:Nat→Bool} {a:V} (h:a.inB p=true) {ρ ρ':Nat→Loc} (hρ:∀ q,p q=true→ρ' q=ρ q):a.conc ν ρ'=a.conc ν ρ:=by
 have key:∀ l:List Lf,l.all (Lf.inB p)=true→l.map (Lf.conc ν ρ')=l.map (Lf.conc ν ρ):=fun l hl =>
  List.map_congr_left fun x hx=>Lf.inB_conc (List.all_eq_true.1 hl x hx) hρ
 have key1:∀ v:V1,v.cells.all (Lf.inB p)=true→v.conc ν ρ'=v.conc ν ρ:=fun v hv=>by
  cases v with
  | one l =>
   have:l.inB p=true:=by simpa [V1.cells] using hv
   simp only [V1.conc,Lf.inB_conc this hρ]
  | agg l=>simp only [V1.conc,key l hv]
 cases a with
 | s v =>
  cases v with
  | one l=>exact key1 (.one l) (by simpa [V.inB,V1.cells] using h)
  | agg l=>exact key1 (.agg l) h
 | t l =>
  simp only [V.conc]
  congr 2
  exact List.map_congr_left fun x hx=>key1 x (List.all_eq_true.1 h x hx)
theorem zrQ {o:Oper} {x:Operand} {args:List Operand} (hc:calleeOf o.op=some (x,args)) {r:RS} {f:Nat} {vs:List V} (hf:fnOf (rd r [] x)=some (f,[])) (hvs:zcB r [] args=some vs) {ρ:Nat→Loc} {a:Act} (ha:ARel ν ρ r a) (w:World) :
  (callFunc f (vs.map (V.conc ν ρ)).toArray).run P w = .ok (.enter f (vs.map (V.conc ν ρ)).toArray) w→(execOp a.eval o).run P w = .ok (.enter f (vs.map (V.conc ν ρ)).toArray) w:=by
 intro h4
 cases hop:o.op<;>rw [hop] at hc<;>simp only [calleeOf] at hc<;>try cases hc
 rename_i c
 split at hc
 ·rename_i y hcal
  cases hc
  have hctx:zdM [] a:=fun p hp=>by simp at hp
  have h1:=zbL ha hctx hvs
  have h0:=zjP ha hctx hf
  have h2:c.args.map a.eval=(vs.map (V.conc ν ρ)).toArray:=by
   apply Array.ext'
   simpa using h1
  rw [←h2] at h4 ⊢
  simp [execOp,hop,resolve,hcal,h0,Deferred.ofValue,invoke,zbd]
  exact h4
 ·cases hc
theorem zpr {o:Oper} {a a':Act} (hc:(calleeOf o.op).isSome=true) (h:∀ t∈zgC o.op,a'.tmps[t]? = a.tmps[t]?):execOp a.eval o=execOp a'.eval o:=by
 cases hop:o.op<;>rw [hop] at hc<;>simp only [calleeOf] at hc<;>try cases hc
 rename_i c
 split at hc
 ·rename_i y hcal
  have ht:∀ z:Operand,(z=y∨z∈c.args.toList)→a.eval z=a'.eval z:=fun z hz=>by
   refine zcw fun t ht=>h t ?_
   rw [hop]
   simp only [zgC,calleeOf,hcal]
   rcases hz with rfl | hz
   ·exact List.mem_append_left _ ht
   ·exact List.mem_append_right _ (List.mem_flatMap.2 ⟨z,hz,ht⟩)
  have hargs:c.args.map a.eval=c.args.map a'.eval:=by
   apply Array.ext'
   simp only [Array.toList_map]
   exact List.map_congr_left fun z hz=>ht z (.inr hz)
  simp only [execOp,hop,resolve,hcal,hargs,ht y (.inl rfl)]
 ·cases hc
def zps (hp:List (Option Blk)) (ρ:Nat→Loc) (w:World):Env :=
 ⟨fun _=>False,fun b=>∃ j bk,nth hp j=some bk∧(ρ j).nil=false∧bk.rfoot w (ρ j) b,w,0,ρ⟩
theorem zrR {hp:List (Option Blk)} {ρ:Nat→Loc} {w:World} (h:gK≤w.heap.size):(zps hp ρ w).Ok gK:=⟨h,fun _ hb=>hb.elim⟩
theorem HS.read {ρ : Nat → Loc} {hp hc : List (Option Blk)} {w : World} (h : HS E ν ρ hp w) (hc1 : ∀ j bk, nth hc j = some bk → nth hp j = some bk ∧ bk.flat = true ∧ bk.own = false) : HS (zps hc ρ w) ν ρ hc w :=
  ⟨⟨fun j bk hj => (h.heap.blk j bk (hc1 j bk hj).1).flat (hc1 j bk hj).2.1, fun j j' bk bk' hj ho => by rw [(hc1 j bk hj).2.2] at ho; cases ho⟩,
   fun j bk hj => by
     cases hn : (ρ j).nil with
     | true => exact .inl rfl
     | false => exact .inr ⟨fun o => (by rw [(hc1 j bk hj).2.2] at o; cases o), fun b hf => .inr (.inr ⟨j, bk, hj, hn, hf⟩)⟩,
   Fr.refl _ _, Nat.zero_le _, fun j hj => absurd hj (Nat.not_lt_zero _)⟩
theorem zs9 {l:List (Option Blk)} {j:Nat} {bk:Blk} (h:nth (l.map frz) j=some bk):nth l j=some bk∧bk.flat=true∧bk.own=false:=by
 induction l generalizing j with
 | nil=>cases j<;>simp [nth] at h
 | cons x l ih =>
  cases j with
  | zero =>
   simp only [List.map_cons,nth] at h ⊢
   unfold frz at h
   split at h
   ·split at h
    ·rename_i hc
     cases h
     simp only [Bool.and_eq_true,Bool.not_eq_true'] at hc
     exact ⟨rfl,hc.1,hc.2⟩
    ·cases h
   ·cases h
  | succ j=>exact ih (by simpa [nth] using h)
def CallFact (P:Program) (I:World→Prop) (gK:Nat) (ν:Nat→DV) (f:Nat) (vs:List V) (v:V) (hcall:List (Option Blk)) (news:List (Option Blk)):Prop :=
 ∀ (E2:Env),E2.Ok gK→∀ ρ w,(∀ v∈vs,V.good ν v)→HS E2 ν ρ hcall w→I w →
  (callFunc f (vs.map (V.conc ν ρ)).toArray).run P w = .ok (.enter f (vs.map (V.conc ν ρ)).toArray) w ∧
  Calls P f (vs.map (V.conc ν ρ)).toArray w fun e w'=>∃ ρ' hp1,(∀ j,j<hcall.length→ρ' j=ρ j)∧HS E2 ν ρ' hp1 w'∧(∀ p,nth news p≠none→nth hp1 (hcall.length+p)=nth news p)∧e = .returned (v.conc ν ρ')
theorem zgW {α:Type} (l:List (Option α)) (n p:Nat):nth (l.drop n) p=nth l (n+p):=by
 induction n generalizing l with
 | zero=>simp
 | succ n ih =>
  cases l with
  | nil=>simp [nth]
  | cons x l =>
   rw [List.drop_succ_cons,ih,show n+1+p=(n+p)+1 from by omega]
   rfl
theorem zn6 (hS:SigsOK P I gK S F) {f:Nat} {vs:List V} {hcall:List (Option Blk)} : M.sat F ν (znk P S f vs hcall) (fun res =>
  match res with
  | .val v=>CallFact P I gK ν f vs v hcall []
  | .hp (some v) hp1=>CallFact P I gK ν f vs v hcall (hp1.drop hcall.length)
  | .hp none _=>True):=by
 refine zag (zmF (ι:={ E2:Env // E2.Ok gK }) fun E2=>zlu (E:=E2.1) hS E2.2 (f:=f) (vs:=vs) (hp:=hcall)) fun res h=>?_
 cases res with
 | val v =>
  intro E2 hE2 ρ w hg hh hI
  obtain ⟨h1,_,h3⟩:=h ⟨E2,hE2⟩ ρ w hg hh hI
  exact ⟨h1,h3.mono fun e w' ⟨he,hb⟩=>⟨ρ,hcall,fun _ _=>rfl,hh.of_below hb,fun p hp=>absurd (by cases p<;>rfl) hp,he⟩⟩
 | hp v hp1 =>
  cases v with
  | none=>trivial
  | some v =>
   intro E2 hE2 ρ w hg hh hI
   obtain ⟨h1,h3⟩:=h ⟨E2,hE2⟩ ρ w hg hh hI
   exact ⟨h1,h3.mono fun e w' ⟨x,he,ρ',k1,k2,k3⟩=>⟨ρ',hp1,k1,k2,fun p _=>(zgW _ _ _).symm,by rw [he,(k3 v rfl).2]⟩⟩
def acnt (l:List Oper) (i:Nat):Nat:=((l.take i).filter fun o=>allocOp o.op).length
structure ManyOK (P:Program) (I:World→Prop) (gK:Nat) (ν:Nat→DV) (E:Env) (ops:Array Oper) (b0:Nat) (hc:List (Option Blk)) (l:List Oper) (b:Nat) (r:RS) (hn:List (Option Blk)) (r':RS) (hn':List (Option Blk)) (es:List (Nat×List V×V)) (s:Nat→Nat):Prop where
 len:es.length=l.length
 hp:r'.st.hp=r.st.hp
 s0:s 0=hn.length
 sn:s l.length=hn'.length
 mono:∀ i,i<l.length→s i≤s (i+1)
 pre:hn'.take hn.length=hn
 quiet:∀ ρ a,ARel ν ρ r a→(∃ w,HS E ν ρ r.st.hp w)→∀ C:World→Prop,C=(fun w=>HS E ν ρ r.st.hp w)→∀ ops':Array Oper,(∀ j:Nat,(ops'[j]?).bind (·.dst)=(ops[j]?).bind (·.dst)) →
  ∀ Q:Act→Prop,(∀ a',ARel ν ρ r' a'→Q a')→wpQuiet P ops' C Q (List.zipWith (fun o e=>nopW (e.2.2.conc ν ρ) o) l es) a
 alloc:∀ (i:Nat) o,l[i]? = some o→allocOp o.op=true→∃ e,es[i]? = some e∧e.2.2 = .s (.one (.p (b+acnt l i) (.c 0)))
 call:∀ (i:Nat) o x args,l[i]? = some o→calleeOf o.op=some (x,args)→∃ f vs v,es[i]? = some (f,vs,v) ∧
  v.inB (fun q=>Nat.blt q b0||(Nat.ble (hc.length+s i) q&&Nat.blt q (hc.length+s (i+1))))=true∧v.easy=true∧CallFact P I gK ν f vs v (hc++(hn'.take (s i)).map frz) ((hn'.take (s (i+1))).drop (s i))
 still:∀ (i:Nat) o,l[i]? = some o→(calleeOf o.op).isSome=false→s (i+1)=s i
def zta (n:Nat) (s:Nat→Nat):Nat→Nat
 | 0=>n
 | i+1=>s i
theorem zdq {α:Type} {l l1:List α} {n m:Nat} (h:l.take m=l1) (hn:n≤m):l.take n=l1.take n:=by
 rw [←h,List.take_take,Nat.min_eq_left hn]
theorem ManyOK.cons {ops:Array Oper} {b0:Nat} {hc:List (Option Blk)} {l:List Oper} {o:Oper} {e:Nat×List V×V} {b b1:Nat} {r r1 r':RS} {hn hn1 hn':List (Option Blk)} {es:List (Nat×List V×V)} {s1:Nat→Nat}
  (h:ManyOK P I gK ν E ops b0 hc l b1 r1 hn1 r' hn' es s1) (hb:∀ i,b+acnt (o::l) (i+1)=b1+acnt l i) (hhp:r1.st.hp=r.st.hp) (hpre:hn1.take hn.length=hn)
  (hq:∀ ρ a,ARel ν ρ r a→(∃ w,HS E ν ρ r.st.hp w)→∀ C:World→Prop,C=(fun w=>HS E ν ρ r.st.hp w)→∀ ops':Array Oper,(∀ j:Nat,(ops'[j]?).bind (·.dst)=(ops[j]?).bind (·.dst)) →
   if Region.wanted (nopW (e.2.2.conc ν ρ) o) (yielded ops' a.tmps)=true then ∃ v,(∀ w,C w→(nopW (e.2.2.conc ν ρ) o).quietAt P a C w v)∧ARel ν ρ r1 (a.put (nopW (e.2.2.conc ν ρ) o).dst v) else ARel ν ρ r1 (a.put (nopW (e.2.2.conc ν ρ) o).dst undef))
  (ha:allocOp o.op=true→e.2.2 = .s (.one (.p b (.c 0))))
  (hcl:∀ x args,calleeOf o.op=some (x,args)→∃ f vs v,e=(f,vs,v)∧v.inB (fun q=>Nat.blt q b0||(Nat.ble (hc.length+hn.length) q&&Nat.blt q (hc.length+hn1.length)))=true∧v.easy=true∧CallFact P I gK ν f vs v (hc++hn.map frz) (hn1.drop hn.length))
  (hst:(calleeOf o.op).isSome=false→hn1.length=hn.length):ManyOK P I gK ν E ops b0 hc (o::l) b r hn r' hn' (e::es) (zta hn.length s1):=by
 have hle:hn.length≤hn1.length:=by
  have:=congrArg List.length hpre
  rw [List.length_take] at this
  omega
 refine ⟨by simp [h.len],h.hp.trans hhp,rfl,h.sn,fun i hi=>?_,?_,fun ρ a hra hex C hC ops' hd Q hQ=>?_,fun i o' ho' hal=>?_,fun i o' x args ho' hc'=>?_,fun i o' ho' hc'=>?_⟩
 ·cases i with
  | zero=>show hn.length≤s1 0;rw [h.s0];exact hle
  | succ i=>exact h.mono i (by simpa using hi)
 ·rw [zdq h.pre hle,hpre]
 ·have:=hq ρ a hra hex C hC ops' hd
  simp only [List.zipWith_cons_cons,wpQuiet]
  split
  ·rename_i hw
   rw [if_pos hw] at this
   obtain ⟨v,h3,h4⟩:=this
   exact ⟨v,h3,h.quiet ρ _ h4 (by rw [hhp];exact hex) C (by rw [hhp];exact hC) ops' hd Q hQ⟩
  ·rename_i hw
   rw [if_neg hw] at this
   exact h.quiet ρ _ this (by rw [hhp];exact hex) C (by rw [hhp];exact hC) ops' hd Q hQ
 ·cases i with
  | zero =>
   simp at ho';subst ho'
   exact ⟨e,rfl,by rw [ha hal];rfl⟩
  | succ i =>
   obtain ⟨e',h1,h2⟩:=h.alloc i o' (by simpa using ho') hal
   exact ⟨e',by simpa using h1,by rw [h2,hb i]⟩
 ·cases i with
  | zero =>
   simp at ho';subst ho'
   obtain ⟨f,vs,v,h1,h2,h3,h4⟩:=hcl x args hc'
   refine ⟨f,vs,v,by simp [h1],?_,h3,?_⟩
   ·show V.inB (fun q=>Nat.blt q b0||(Nat.ble (hc.length+hn.length) q&&Nat.blt q (hc.length+s1 0))) v=true
    rw [h.s0];exact h2
   ·show CallFact P I gK ν f vs v (hc++(hn'.take hn.length).map frz) ((hn'.take (s1 0)).drop hn.length)
    rw [h.s0,h.pre,zdq h.pre hle,hpre]
    exact h4
  | succ i=>exact h.call i o' x args (by simpa using ho') hc'
 ·cases i with
  | zero =>
   simp at ho';subst ho'
   show s1 0=hn.length
   rw [h.s0];exact hst hc'
  | succ i=>exact h.still i o' (by simpa using ho') hc'
theorem zqP {v:Value} {o:Oper} (h:zch o.op=false):nopW v o=o:=by unfold nopW;rw [h];rfl
theorem zqQ {v:Value} {o:Oper} (h:zch o.op=true):nopW v o = { o with op:=.move (.const v) }:=by unfold nopW;rw [if_pos h]
theorem zaZ (o:Oper) (l:List Oper) (i:Nat):acnt (o::l) (i+1)=(if allocOp o.op then 1 else 0)+acnt l i:=by
 unfold acnt
 rw [List.take_succ_cons,List.filter_cons]
 split<;>simp<;>omega
theorem zmK {p p':Nat→Bool} (h:∀ q,p q=true→p' q=true) {v:V} (hv:v.inB p=true):v.inB p'=true:=by
 have key:∀ a:Lf,a.inB p=true→a.inB p'=true:=fun a ha=>by
  cases a with
  | p q o=>cases o<;>first | exact h _ ha | cases ha
  | vec q=>exact h _ ha
  | gp _ _=>cases ha
  | fnp _ _=>cases ha
  | ifp _ _=>cases ha
  | mp _=>cases ha
  | alt _ _=>cases ha
  | _=>rfl
 cases v with
 | s v =>
  cases v with
  | one l=>exact key l hv
  | agg l=>exact List.all_eq_true.2 fun x hx=>key x (List.all_eq_true.1 hv x hx)
 | t l=>exact List.all_eq_true.2 fun x hx=>List.all_eq_true.2 fun y hy=>key y (List.all_eq_true.1 (List.all_eq_true.1 hv x hx) y hy)
theorem zjY {o:Oper} {r r1:RS} {v:V} (he:zch o.op=true) (hg:o.guard=none) (hgood:v.good ν) (hput:∀ ρ a (x:Value),ARel ν ρ r a→(∀ u,some v=some u→u.good ν∧x=u.conc ν ρ)→ARel ν ρ r1 (a.put o.dst x))
  (ρ:Nat→Loc) (a:Act) (hra:ARel ν ρ r a) (C:World→Prop) (ops':Array Oper) :
  if Region.wanted (nopW (v.conc ν ρ) o) (yielded ops' a.tmps)=true then ∃ u,(∀ w,C w→(nopW (v.conc ν ρ) o).quietAt P a C w u)∧ARel ν ρ r1 (a.put (nopW (v.conc ν ρ) o).dst u) else ARel ν ρ r1 (a.put (nopW (v.conc ν ρ) o).dst undef):=by
 rw [zqQ he]
 rw [if_pos (by simp [Region.wanted,hg])]
 refine ⟨v.conc ν ρ,fun w _=>?_,hput ρ a _ hra fun u hu=>by cases hu;exact ⟨hgood,rfl⟩⟩
 unfold Oper.quietAt
 simp [execOp,Act.eval,Oper.quietUpon]
theorem zc0 (hS:SigsOK P I gK S F) (hE:E.Ok gK) (hn0:S.n0=E.n0) (hI:∀ w,Fr E.W E.w0 w→I w) {ops:Array Oper} {b0:Nat} {hc:List (Option Blk)} : ∀ (l:List Oper) (b:Nat) (r:RS) (hn:List (Option Blk)),(∀ o∈l,zi6 o=true) →
  M.sat F ν (zeO P S ops.toList b0 hc l b r hn) (fun z=>∃ s,ManyOK P I gK ν E ops b0 hc l b r hn z.1 z.2.1 z.2.2 s)
 | [],b,r,hn,_=>by
  unfold zeO
  exact zab ⟨fun _=>hn.length,rfl,rfl,rfl,rfl,fun i hi=>by simp at hi,by simp,fun ρ a h _ C _ ops' _ Q hQ=>hQ a h,fun i o h=>by simp at h,fun i o x args h=>by simp at h,fun i o h=>by simp at h⟩
 | o::l,b,r,hn,hl=>by
  have hh:=hl o (by simp)
  have hl':∀ o'∈l,zi6 o'=true:=fun o' h'=>hl o' (List.mem_cons_of_mem _ h')
  unfold zeO
  refine zae (fun hal=>?_) (fun hal=>?_)
  ·have heff:zch o.op=true:=by unfold zch;rw [hal];rfl
   have hg:o.guard=none:=by
    unfold zi6 at hh
    rw [heff] at hh
    simpa using hh
   have hno:calleeOf o.op=none:=by cases hop:o.op<;>rw [hop] at hal<;>simp [allocOp] at hal;rfl
   refine zaa zbN fun r1 hr1=>zaa (zc0 hS hE hn0 hI l (b+1) r1 hn hl') fun z ⟨s,hz⟩=>zab ⟨zta hn.length s,?_⟩
   refine hz.cons (fun i=>by rw [zaZ,if_pos hal];omega) hr1.1 (by simp) (fun ρ a hra hex C hC ops' hd=>?_) (fun _=>rfl) (fun x args h=>by rw [hno] at h;cases h) (fun _=>rfl)
   exact zjY (v:=.s (.one (.p b (.c 0)))) heff hg (V.good_s.2 (V1.good_one.2 trivial)) hr1.2 ρ a hra C ops'
  ·split
   ·rename_i x args hcal
    have heff:zch o.op=true:=by unfold zch;rw [hcal];simp
    have hg:o.guard=none:=by
     unfold zi6 at hh
     rw [heff] at hh
     simpa using hh
    refine zaa zat fun ⟨f,bs⟩ _=>zaa zat fun vs _=>zae (fun hbs=>?_) (fun _=>zac)
    refine zaa (zn6 (P:=P) (I:=I) hS) fun res hres=>?_
    have hlen:(hc++hn.map frz).length=hc.length+hn.length:=by simp
    split
    ·rename_i v
     refine zae (fun hv=>?_) (fun _=>zac)
     simp only [Bool.and_eq_true] at hv
     refine zaa zbN fun r1 hr1=>zaa (zc0 hS hE hn0 hI l b r1 hn hl') fun z ⟨s,hz⟩=>zab ⟨zta hn.length s,?_⟩
     refine hz.cons (fun i=>by rw [zaZ,if_neg hal];omega) hr1.1 (by simp) (fun ρ a hra hex C hC ops' hd=>?_) (fun h=>absurd h hal) (fun x' args' h=>⟨f,vs,v,rfl,zmK (fun q hq=>by simp only [hq,Bool.true_or]) hv.2,hv.1,?_⟩) (fun h=>by simp [hcal] at h)
     ·exact zjY heff hg (V.easy_good hv.1) hr1.2 ρ a hra C ops'
     ·rw [List.drop_length];exact hres
    ·rename_i v hp1
     refine zae (fun hv=>?_) (fun _=>zac)
     simp only [Bool.and_eq_true] at hv
     obtain ⟨⟨hv1,hv2⟩,hv3⟩:=hv
     have hv3:hc.length+hn.length≤hp1.length:=Nat.le_of_ble_eq_true hv3
     refine zaa zbN fun r1 hr1=>zaa (zc0 hS hE hn0 hI l b r1 _ hl') fun z ⟨s,hz⟩=>zab ⟨zta hn.length s,?_⟩
     refine hz.cons (fun i=>by rw [zaZ,if_neg hal];omega) hr1.1 (by simp) (fun ρ a hra hex C hC ops' hd=>?_) (fun h=>absurd h hal) (fun x' args' h=>⟨f,vs,v,rfl,?_,hv1,?_⟩) (fun h=>by simp [hcal] at h)
     ·exact zjY heff hg (V.easy_good hv1) hr1.2 ρ a hra C ops'
     ·rw [show hc.length+(hn++hp1.drop (hc.length+hn.length)).length=hp1.length from by simp;omega]
      exact hv2
     ·rw [List.drop_left,←hlen];exact hres
    ·exact zac
   ·rename_i hno
    have heff:zch o.op=false:=by
     unfold zch
     rw [hno]
     cases h:allocOp o.op with
     | true=>exact absurd h hal
     | false=>rfl
    refine zaa (zcQ (E:=E) (ops:=ops) hS hE hn0 hI true) fun r1 hr1=>zaa (zc0 hS hE hn0 hI l b r1 hn hl') fun z ⟨s,hz⟩=>zab ⟨zta hn.length s,?_⟩
    have hq:=hr1.2 rfl
    refine hz.cons (fun i=>by rw [zaZ,if_neg hal];omega) hq.1 (by simp) (fun ρ a hra hex C hC ops' hd=>?_) (fun h=>absurd h hal) (fun x args h=>by rw [hno] at h;cases h) (fun _=>rfl)
    rw [zqP heff,za0 hd]
    exact hq.2 ρ a hra hex C hC
end
end Go.Sx
namespace Go.Sx
open Go.RowKit
structure Alike (o1 o2:Oper):Prop where
 dst:o1.dst=o2.dst
 guard:o1.guard=o2.guard
 after:o1.after=o2.after
 op:o1.op=o2.op∨∃ x y,o1.op = .move (.const x)∧o2.op = .move (.const y)
theorem zhM {l1 l2:List Oper} (hlen:l1.length=l2.length) (h:∀ (j:Nat) o1 o2,l1[j]? = some o1→l2[j]? = some o2→Alike o1 o2):Region.lexB .any l1.toArray=Region.lexB .any l2.toArray:=by
 have hat:∀ (l:List Oper) (j:Nat),(l.toArray)[j]? = l[j]?:=fun l j=>by simp
 have hcase:∀ j:Nat,(l1[j]? = none∧l2[j]? = none)∨∃ o1 o2,l1[j]? = some o1∧l2[j]? = some o2∧Alike o1 o2:=fun j=>by
  rcases Nat.lt_or_ge j l1.length with hj | hj
  ·right
   have e1:=List.getElem?_eq_getElem hj
   have e2:=List.getElem?_eq_getElem (l:=l2) (i:=j) (by omega)
   exact ⟨_,_,e1,e2,h j _ _ e1 e2⟩
  ·exact .inl ⟨List.getElem?_eq_none hj,List.getElem?_eq_none (by omega)⟩
 have hd:∀ j:Nat,((l1.toArray)[j]?).bind (·.dst)=((l2.toArray)[j]?).bind (·.dst):=fun j=>by
  rw [hat,hat]
  rcases hcase j with ⟨h1,h2⟩ | ⟨o1,o2,h1,h2,h3⟩
  ·rw [h1,h2]
  ·rw [h1,h2];exact h3.dst
 have hsz:l1.toArray.size=l2.toArray.size:=by simpa using hlen
 have hready:∀ listed,Region.ready .any l1.toArray listed=Region.ready .any l2.toArray listed:=fun listed=>by
  unfold Region.ready
  rw [hsz]
  refine List.filter_congr fun j _=>?_
  rw [hat,hat]
  rcases hcase j with ⟨h1,h2⟩ | ⟨o1,o2,h1,h2,h3⟩
  ·rw [h1,h2]
  ·rw [h1,h2]
   have e:=h3.after
   cases o1;cases o2
   simp only at e
   subst e
   rfl
 have hlook:∀ o1 o2,Alike o1 o2→o1.looksAt l1.toArray=o2.looksAt l2.toArray:=fun o1 o2 h3=>by
  unfold Oper.looksAt
  rw [h3.guard]
  congr 1
  ·rcases h3.op with h | ⟨x,y,h,h'⟩
   ·rw [h]
   ·rw [h,h'];rfl
  ·cases o2.guard with
   | none=>rfl
   | some p=>exact congrArg Option.toList (hd p.1)
 have hapart:∀ o1 o2 p1 p2,Alike o1 o2→Alike p1 p2→o1.apart l1.toArray p1=o2.apart l2.toArray p2:=fun o1 o2 p1 p2 h3 h4=>by
  unfold Oper.apart
  rw [h3.dst,h4.dst,hlook _ _ h3,hlook _ _ h4]
 have hfree:∀ listed i,Region.free .any l1.toArray listed i=Region.free .any l2.toArray listed i:=fun listed i=>by
  unfold Region.free
  rw [hat,hat]
  rcases hcase i with ⟨h1,h2⟩ | ⟨o1,o2,h1,h2,h3⟩
  ·rw [h1,h2]
  ·rw [h1,h2]
   simp only
   rw [hsz]
   congr 1
   funext j
   rw [hat,hat]
   rcases hcase j with ⟨g1,g2⟩ | ⟨p1,p2,g1,g2,g3⟩
   ·rw [g1,g2]
   ·rw [g1,g2];simp only [g3.after,hapart _ _ _ _ h3 g3]
 have hlex:∀ (fuel k:Nat) (listed:Array Bool),Region.lexFrom .any l1.toArray fuel k listed=Region.lexFrom .any l2.toArray fuel k listed:=by
  intro fuel
  induction fuel with
  | zero=>intro k listed;simp only [Region.lexFrom,hready]
  | succ fuel ih=>intro k listed;simp only [Region.lexFrom,hready,hfree,ih]
 unfold Region.lexB
 rw [hlex,hsz]
 congr 1
 unfold Region.noSelect
 rw [Bool.eq_iff_iff,Array.all_eq_true,Array.all_eq_true]
 have key:∀ o1 o2,Alike o1 o2→∀ f:Op→Bool,(∀ x y,f (.move x)=f (.move y))→f o1.op=f o2.op:=fun o1 o2 h3 f hf=>by
  rcases h3.op with h | ⟨x,y,h,h'⟩
  ·rw [h]
  ·rw [h,h',hf]
 constructor
 ·intro hh j hj
  rcases hcase j with ⟨h1,h2⟩ | ⟨o1,o2,h1,h2,h3⟩
  ·rw [List.getElem?_eq_none_iff] at h2
   simp at hj;omega
  ·have:=hh j (by rw [hsz];exact hj)
   have e1:l1.toArray[j]'(by rw [hsz];exact hj)=o1:=by
    have:=hat l1 j;rw [h1,Array.getElem?_eq_getElem (by rw [hsz];exact hj)] at this;exact Option.some.inj this
   have e2:l2.toArray[j]=o2:=by
    have:=hat l2 j;rw [h2,Array.getElem?_eq_getElem hj] at this;exact Option.some.inj this
   rw [e1] at this
   rw [e2]
   rcases h3.op with h | ⟨x,y,h,h'⟩
   ·rw [←h];exact this
   ·rw [h']
 ·intro hh j hj
  rcases hcase j with ⟨h1,h2⟩ | ⟨o1,o2,h1,h2,h3⟩
  ·rw [List.getElem?_eq_none_iff] at h1
   simp at hj;omega
  ·have:=hh j (by rw [←hsz];exact hj)
   have e1:l1.toArray[j]=o1:=by
    have:=hat l1 j;rw [h1,Array.getElem?_eq_getElem hj] at this;exact Option.some.inj this
   have e2:l2.toArray[j]'(by rw [←hsz];exact hj)=o2:=by
    have:=hat l2 j;rw [h2,Array.getElem?_eq_getElem (by rw [←hsz];exact hj)] at this;exact Option.some.inj this
   rw [e2] at this
   rw [e1]
   rcases h3.op with h | ⟨x,y,h,h'⟩
   ·rw [h];exact this
   ·rw [h]
open Classical in
noncomputable def zb9 (L:Nat→Prop) (H:List (Option Blk)):List (Option Blk):=(List.range H.length).map fun q=>if L q then nth H q else none
theorem zfO {α:Type} : ∀ (l:List (Option α)) (q:Nat),nth l q=(l[q]?).join
 | [],q=>by cases q<;>rfl
 | x::l,0=>rfl
 | x::l,q+1=>by simp only [nth,List.getElem?_cons_succ,zfO l q]
theorem zaG {L:Nat→Prop} {H:List (Option Blk)} {q:Nat} {bk:Blk} : nth (zb9 L H) q=some bk↔L q∧nth H q=some bk:=by
 unfold zb9
 rw [zfO,List.getElem?_map]
 rcases Nat.lt_or_ge q H.length with h | h
 ·rw [List.getElem?_range h]
  simp only [Option.map_some,Option.join_some]
  split
  ·rename_i hl;simp [hl]
  ·rename_i hl;simp [hl]
 ·rw [List.getElem?_eq_none (by simpa using h)]
  constructor
  ·intro h;cases h
  ·rintro ⟨_,h2⟩
   have:=zaY h2
   omega
theorem ze6 (L:Nat→Prop) (H:List (Option Blk)):(zb9 L H).length=H.length:=by simp [zb9]
theorem ze7 (l:List Oper):acnt l 0=0:=by simp [acnt]
theorem zgX:∀ (l:List Oper) {i j:Nat},i≤j→acnt l i≤acnt l j
 | [],i,j,_=>by simp [acnt]
 | o::l,0,j,_=>by rw [ze7];omega
 | o::l,i+1,0,h=>by omega
 | o::l,i+1,j+1,h=>by
  rw [zaZ,zaZ]
  have:=zgX l (i:=i) (j:=j) (by omega)
  omega
theorem zmL:∀ (l:List Oper) {i:Nat} {o:Oper},l[i]? = some o→allocOp o.op=true→acnt l (i+1)=acnt l i+1
 | [],i,o,h,_=>by simp at h
 | x::l,0,o,h,ha=>by
  simp at h;subst h
  rw [zaZ,ze7,ze7,if_pos ha]
 | x::l,i+1,o,h,ha=>by
  rw [zaZ,zaZ,zmL l (i:=i) (by simpa using h) ha]
  omega
theorem zjZ:∀ (l:List Oper) {k:Nat},k<acnt l l.length→∃ i o,l[i]? = some o∧allocOp o.op=true∧acnt l i=k
 | [],k,h=>by simp [acnt] at h
 | x::l,k,h=>by
  rw [List.length_cons,zaZ] at h
  by_cases ha:allocOp x.op=true
  ·rw [if_pos ha] at h
   cases k with
   | zero=>exact ⟨0,x,rfl,ha,ze7 _⟩
   | succ k =>
    obtain ⟨i,o,h1,h2,h3⟩:=zjZ l (k:=k) (by omega)
    exact ⟨i+1,o,by simpa using h1,h2,by rw [zaZ,if_pos ha,h3];omega⟩
  ·rw [if_neg ha] at h
   obtain ⟨i,o,h1,h2,h3⟩:=zjZ l (k:=k) (by omega)
   exact ⟨i+1,o,by simpa using h1,h2,by rw [zaZ,if_neg ha,h3];omega⟩
theorem zv0 {l:List Oper} {i j:Nat} {o o':Oper} (hi:l[i]? = some o) (ha:allocOp o.op=true) (hj:l[j]? = some o') (ha':allocOp o'.op=true) (h:acnt l i=acnt l j):i=j:=by
 rcases Nat.lt_trichotomy i j with hlt | heq | hgt
 ·have:=zmL l hi ha
  have:=zgX l (i:=i+1) (j:=j) (by omega)
  omega
 ·exact heq
 ·have:=zmL l hj ha'
  have:=zgX l (i:=j+1) (j:=i) (by omega)
  omega
theorem ze8 {P:Program} : ∀ {l:List Oper} {zs:List (List Lf)},zf0 P l=some zs→zs.length=acnt l l.length∧∀ (i:Nat) o t,l[i]? = some o→o.op = .alloc t→∃ z,zs[acnt l i]? = some z∧zeroCells P t=some z
 | [],zs,h=>by
  simp [zf0] at h;subst h
  exact ⟨by simp [acnt],fun i o t h=>by simp at h⟩
 | x::l,zs,h=>by
  unfold zf0 at h
  split at h
  ·rename_i t hop
   split at h
   ·rename_i z zs' hz hzs
    cases h
    obtain ⟨h1,h2⟩:=ze8 hzs
    have ha:allocOp x.op=true:=by rw [hop];rfl
    refine ⟨by rw [List.length_cons,List.length_cons,zaZ,if_pos ha,h1];omega,fun i o t' ho hop'=>?_⟩
    cases i with
    | zero =>
     simp at ho;subst ho
     rw [hop] at hop';cases hop'
     exact ⟨z,by rw [ze7];rfl,hz⟩
    | succ i =>
     obtain ⟨z',h3,h4⟩:=h2 i o t' (by simpa using ho) hop'
     exact ⟨z',by rw [zaZ,if_pos ha,Nat.add_comm,List.getElem?_cons_succ];exact h3,h4⟩
   ·cases h
  ·rename_i hno
   obtain ⟨h1,h2⟩:=ze8 h
   have ha:¬ allocOp x.op=true:=fun ha=>by
    cases hop:x.op<;>rw [hop] at ha<;>simp [allocOp] at ha
    exact hno _ hop
   refine ⟨by rw [List.length_cons,zaZ,if_neg ha,h1];omega,fun i o t' ho hop'=>?_⟩
   cases i with
   | zero =>
    simp at ho;subst ho
    exact absurd hop' (hno t')
   | succ i =>
    obtain ⟨z',h3,h4⟩:=h2 i o t' (by simpa using ho) hop'
    exact ⟨z',by rw [zaZ,if_neg ha,Nat.zero_add];exact h3,h4⟩
theorem ztb {s:Nat→Nat} : ∀ {n p:Nat},(∀ i,i<n→s i≤s (i+1))→s 0=0→p<s n→∃ i,i<n∧s i≤p∧p<s (i+1)
 | 0,p,_,h0,h=>by omega
 | n+1,p,hm,h0,h=>by
  rcases Nat.lt_or_ge p (s n) with hlt | hge
  ·obtain ⟨i,h1,h2,h3⟩:=ztb (n:=n) (fun i hi=>hm i (by omega)) h0 hlt
   exact ⟨i,by omega,h2,h3⟩
  ·exact ⟨n,by omega,hge,h⟩
theorem zyF {s:Nat→Nat} {n:Nat} (hm:∀ i,i<n→s i≤s (i+1)):∀ {i j:Nat},i≤j→j≤n→s i≤s j:=by
 intro i j hij
 induction hij with
 | refl=>intro _;exact Nat.le_refl _
 | step h ih=>intro hj;exact Nat.le_trans (ih (by omega)) (hm _ (by omega))
theorem V.eqB_good {ν:Nat→DV} {a b:V} (h:a.eqB b=true):b.good ν:=by
 have key:∀ a b:Lf,a.eqB b=true→b.good ν:=fun a b h=>by
  unfold Lf.eqB at h
  split at h<;>first | trivial | cases h
 have keys:∀ a b:List Lf,zlk a b=true→∀ x∈b,x.good ν:=fun a=>by
  induction a with
  | nil=>intro b h x hx;cases b with
   | nil=>cases hx
   | cons y l=>cases h
  | cons a l ih =>
   intro b h x hx
   cases b with
   | nil=>cases hx
   | cons y l' =>
    simp only [zlk,Bool.and_eq_true] at h
    rcases List.mem_cons.1 hx with rfl | hx
    ·exact key _ _ h.1
    ·exact ih l' h.2 x hx
 unfold V.eqB at h
 split at h
 ·exact V.good_s.2 (V1.good_one.2 (key _ _ h))
 ·exact V.good_s.2 (V1.good_agg.2 (keys _ _ h))
 ·cases h
theorem zlL {ν:Nat→DV} : ∀ {a b:List V},zoS a b=true→∀ v∈b,v.good ν
 | [],[],_,v,hv=>by cases hv
 | a::l,b::l',h,v,hv=>by
  simp only [zoS,Bool.and_eq_true] at h
  rcases List.mem_cons.1 hv with rfl | hv
  ·exact V.eqB_good h.1
  ·exact zlL h.2 v hv
 | [],_::_,h,_,_=>by cases h
 | _::_,[],h,_,_=>by cases h
theorem zqR {r:RS} : ∀ {l:List Oper} {es:List (Nat×List V×V)},zvR r l es=true→∀ (i:Nat) o x args f vs v,l[i]? = some o→calleeOf o.op=some (x,args)→es[i]? = some (f,vs,v) →
  fnOf (rd r [] x)=some (f,[])∧∃ vs',zcB r [] args=some vs'∧zoS vs' vs=true
 | [],_,_,i,o,x,args,f,vs,v,ho,_,_=>by simp at ho
 | y::l,[],h,i,o,x,args,f,vs,v,ho,_,he=>by simp at he
 | y::l,e::es,h,i,o,x,args,f,vs,v,ho,hc,he=>by
  simp only [zvR,Bool.and_eq_true] at h
  cases i with
  | zero =>
   simp at ho he
   subst ho;subst he
   have h:=h.1
   rw [hc] at h
   simp only at h
   split at h
   ·rename_i f' vs' h1 h2
    simp only [Bool.and_eq_true] at h
    have:=Nat.eq_of_beq_eq_true h.1
    subst this
    exact ⟨h1,vs',h2,h.2⟩
   ·cases h
  | succ i=>exact zqR h.2 i o x args f vs v (by simpa using ho) hc (by simpa using he)
end Go.Sx
namespace Go.Sx
open Go.RowKit
section
variable {P:Program} {I:World→Prop} {S:Sigs} {F:FEnv} {E:Env} {gK:Nat} {ν:Nat→DV}
theorem zb1 (hS:SigsOK P I gK S F) (hE:E.Ok gK) (hn0:S.n0=E.n0) (hI:∀ w,Fr E.W E.w0 w→I w) {ops:Array Oper} : ∀ (l:List Oper) (r:RS),M.sat F ν (zcV P S false ops.toList l r) (fun r'=>∀ ρ a w,RR ν E ρ r a w →
  ∀ Q:Exit→Act→World→Prop,(∀ ρ' a' w',RR ν E ρ' r' a' w'→Q .normal a' w')→wpList P ops Q l a w)
 | [],r=>zab fun ρ a w h Q hQ=>hQ ρ a w h
 | o::l,r=>by
  unfold zcV
  refine zaa (zcQ (E:=E) hS hE hn0 hI false) fun r1 h1=>zag (zb1 hS hE hn0 hI l r1) fun r' h2 ρ a w hrr Q hQ=>?_
  have:=h1.1 rfl ρ a w hrr (wpList P ops Q l) Q (fun ρ' a' w' h'=>h2 ρ' a' w' h' Q hQ)
  simp only [wpList]
  split
  ·rename_i hw;rw [if_pos hw] at this;exact .inl this
  ·rename_i hw;rw [if_neg hw] at this;exact this
theorem RR.drop {ρ:Nat→Loc} {r:RS} {a:Act} {w:World} (h:RR ν E ρ r a w):RR ν E ρ ⟨r.st,[]⟩ a w :=
 ⟨⟨h.act.defers,h.act.size,h.act.slot,fun e he=>by cases he⟩,h.hs⟩
theorem zrS (hS:SigsOK P I gK S F) (hE:E.Ok gK) (hn0:S.n0=E.n0) (hI:∀ w,Fr E.W E.w0 w→I w) {ops:Array Oper} {n:Nat} {s:St} (hnl:n≤ops.toList.length) (hm:zxg ops.toList n=true) :
  M.sat F ν (zsF P S ops.toList n s) (fun s'=>∀ ρ a w,RR ν E ρ ⟨s,[]⟩ a w→∀ Q:Exit→Act→World→Prop,(∀ ρ' a' w',RR ν E ρ' ⟨s',[]⟩ a' w'→Q .normal a' w') →
   wpAny P .any ops Q ops.size (Array.replicate ops.size false) a w):=by
 unfold zxg at hm
 generalize hpre:ops.toList.take n=pre at hm
 simp only [Bool.and_eq_true] at hm
 obtain ⟨⟨⟨⟨hheads,heffs⟩,htail⟩,hlex⟩,hback⟩:=hm
 have hbk:zbR .any ops:=by have:=backB_ok' hback;simpa using this
 have hprel:pre.length=n:=by rw [←hpre,List.length_take];omega
 unfold zsF
 refine zae (fun hchk=>?_) (fun _=>zac)
 simp only [Bool.and_eq_true] at hchk
 rw [hpre]
 refine zaa (zad (Q:=fun zs=>zf0 P pre=some zs) fun a h=>h) fun zs hzs=>?_
 have hmany:=zc0 (E:=E) (F:=F) (ν:=ν) hS hE hn0 hI (ops:=pre.toArray) (b0:=s.hp.length) (hc:=(s.hp++zs.map fun _=>none).map frz) pre s.hp.length ⟨s,[]⟩ [] (fun o ho=>List.all_eq_true.1 hheads o ho)
 simp only at hmany
 refine zaa hmany fun z ⟨sg,hz⟩=>zae (fun hc2=>?_) (fun _=>zac)
 simp only [Bool.and_eq_true] at hc2
 obtain ⟨⟨hzlt,hnlt⟩,hargs⟩:=hc2
 obtain ⟨rf,hn',es⟩:=z
 simp only at hz hnlt hargs ⊢
 refine zaa (zb1 (E:=E) hS hE hn0 hI (ops:=ops) (ops.toList.drop n) ⟨⟨rf.st.sl,s.hp++zs.map (fun z=>some (.c true (z.map some)))++hn'⟩,rf.gl⟩) fun r2 hr2=>zab fun ρ a w hrr Q hQ=>?_
 obtain ⟨hzl,hza⟩:=ze8 hzs
 have hchk2:hpLt s.hp=true:=hchk.2
 generalize hbase:s.hp.length=base at *
 -- the whole heap
 generalize hH:s.hp++zs.map (fun z=>some (Blk.c true (z.map some)))++hn'=H at *
 have hHl:H.length=base+zs.length+hn'.length:=by rw [←hH];simp [hbase];omega
 have hHs:∀ q,q<base→nth H q=nth s.hp q:=fun q hq=>by
  rw [←hH,List.append_assoc,zaE,if_pos (by omega)]
 have hHz:∀ k z,zs[k]? = some z→nth H (base+k)=some (.c true (z.map some)):=fun k z hk=>by
  have hkl:k<zs.length:=by
   rcases Nat.lt_or_ge k zs.length with h | h
   ·exact h
   ·rw [List.getElem?_eq_none h] at hk;cases hk
  rw [←hH,zaE,if_pos (by simp [hbase];omega),zaE,if_neg (by omega),hbase,Nat.add_sub_cancel_left,zfO,List.getElem?_map,hk]
  rfl
 have hHn:∀ p,nth H (base+zs.length+p)=nth hn' p:=fun p=>by
  rw [←hH,zaE,if_neg (by simp [hbase]),List.length_append,List.length_map,hbase,Nat.add_sub_cancel_left]
 have hHlt:∀ q bk,nth H q=some bk→bk.lt base=true:=fun q bk hq=>by
  rcases Nat.lt_or_ge q base with h | h
  ·rw [hHs q h] at hq
   have:=zan hchk.2 hq
   rwa [hbase] at this
  ·rcases Nat.lt_or_ge q (base+zs.length) with h2 | h2
   ·have hk:=List.getElem?_eq_getElem (l:=zs) (i:=q-base) (by omega)
    have:=hHz _ _ hk
    rw [show base+(q-base)=q from by omega,hq] at this
    cases this
    have:=List.all_eq_true.1 hzlt _ (List.mem_of_getElem? hk)
    simp only [Bool.and_eq_true] at this
    have h3:=this.2
    simp only [Blk.lt,List.all_map]
    exact h3
   ·have:=hHn (q-(base+zs.length))
    rw [show base+zs.length+(q-(base+zs.length))=q from by omega,hq] at this
    have:=zan hnlt this.symm
    simp only [Bool.and_eq_true] at this
    exact this.2
 have hn'flat:∀ p bk,nth hn' p=some bk→bk.flat=true:=fun p bk hp=>by
  have:=zan hnlt hp
  simp only [Bool.and_eq_true] at this
  exact this.1
 -- who made which block
 have hs0:sg 0=0:=hz.s0
 have hsm:∀ {i j:Nat},i≤j→j≤pre.length→sg i≤sg j:=fun h1 h2=>zyF hz.mono h1 h2
 have hsn:∀ {i:Nat},i≤pre.length→sg i≤hn'.length:=fun h=>by rw [←hz.sn];exact hsm h (Nat.le_refl _)
 let made:Nat→Nat→Prop:=fun i q=>(∃ o,pre[i]? = some o∧allocOp o.op=true∧q=base+acnt pre i)∨(base+zs.length+sg i≤q∧q<base+zs.length+sg (i+1))
 let live:Array Bool→Nat→Prop:=fun listed q=>q<base∨∃ i,i<pre.length∧listed.getD i false=true∧made i q
 have hacl:∀ {i:Nat} {o:Oper},pre[i]? = some o→allocOp o.op=true→acnt pre i<zs.length:=fun {i o} h1 h2=>by
  have hil:i<pre.length:=by
   rcases Nat.lt_or_ge i pre.length with h | h
   ·exact h
   ·rw [List.getElem?_eq_none h] at h1;cases h1
  have:=zmL pre h1 h2
  have:=zgX pre (i:=i+1) (j:=pre.length) hil
  omega
 have hmade:∀ {i j q:Nat},i<pre.length→j<pre.length→made i q→made j q→i=j:=by
  intro i j q hi hj h1 h2
  rcases h1 with ⟨o,a1,a2,a3⟩ | ⟨a1,a2⟩<;>rcases h2 with ⟨o',b1,b2,b3⟩ | ⟨b1,b2⟩
  ·exact zv0 a1 a2 b1 b2 (by omega)
  ·have:=hacl a1 a2;omega
  ·have:=hacl b1 b2;omega
  ·rcases Nat.lt_trichotomy i j with h | h | h
   ·have:=hsm (i:=i+1) (j:=j) h (by omega);omega
   ·exact h
   ·have:=hsm (i:=j+1) (j:=i) h (by omega);omega
 have hmadeb:∀ {i q:Nat},made i q→base≤q:=by
  intro i q h
  rcases h with ⟨o,_,_,h⟩ | ⟨h,_⟩<;>omega
 have hlive:∀ {listed:Array Bool} {i q:Nat},live listed q→live (listed.setIfInBounds i true) q:=by
  intro listed i q h
  rcases h with h | ⟨j,h1,h2,h3⟩
  ·exact .inl h
  ·exact .inr ⟨j,h1,zaF h2,h3⟩
 have hnew:∀ {listed:Array Bool} {i q:Nat},live (listed.setIfInBounds i true) q→live listed q∨(i<pre.length∧made i q):=by
  intro listed i q h
  rcases h with h | ⟨j,h1,h2,h3⟩
  ·exact .inl (.inl h)
  ·rcases zbY h2 with rfl | h2
   ·exact .inr ⟨h1,h3⟩
   ·exact .inl (.inr ⟨j,h1,h2,h3⟩)
 have hfresh:∀ {listed:Array Bool} {i q:Nat},i<pre.length→listed.getD i false=false→made i q→¬ live listed q:=by
  intro listed i q hi hl hq h
  rcases h with h | ⟨j,h1,h2,h3⟩
  ·have:=hmadeb hq;omega
  ·have:=hmade hi h1 hq h3
   subst this
   rw [hl] at h2;cases h2
 have hlenH:E.n0≤H.length:=by have:=hrr.hs.len;rw [hHl];simp only at this;omega
 have hn0b:E.n0≤base:=by have:=hrr.hs.len;simp only at this;omega
 -- more or fewer known
 have hsub:∀ {L L':Nat→Prop} {θ θ':Nat→Loc} {w1:World},HS E ν θ (zb9 L H) w1→(∀ q,L' q→L q∧θ' q=θ q)→(∀ q,q<base→θ' q=θ q)→HS E ν θ' (zb9 L' H) w1:=fun {L L' θ θ' w1} h h1 h2 =>
  h.grow (N:=fun _=>False) (Below.refl _ _) hn0b (by rw [ze6];exact hlenH) h2 (fun q bk hq=>by
   obtain ⟨g1,g2⟩:=zaG.1 hq
   obtain ⟨g3,g4⟩:=h1 q g1
   exact .inl ⟨zaG.2 ⟨g3,g2⟩,g4,hHlt q bk g2⟩) (fun _ _ _ _ h=>h.elim)
 have hstart:∀ {listed:Array Bool} {θ:Nat→Loc} {w1:World},HS E ν θ (zb9 (live listed) H) w1→HS E ν θ s.hp w1:=fun {listed θ w1} h =>
  h.grow (N:=fun _=>False) (base:=base) (Below.refl _ _) hn0b (by rw [hbase];exact hn0b) (fun _ _=>rfl) (fun q bk hq=>by
   have hql:=zaY hq
   have e:=hHs q (by omega)
   rw [hq] at e
   exact .inl ⟨zaG.2 ⟨.inl (by omega),e⟩,rfl,hHlt q bk e⟩) (fun _ _ _ _ h=>h.elim)
 have hes:∀ i,i<pre.length→∃ e,es[i]? = some e:=fun i hi=>⟨_,List.getElem?_eq_getElem (by rw [hz.len];exact hi)⟩
 have hat:∀ j:Nat,pre.toArray[j]? = pre[j]?:=fun j=>by simp
 have hlt_of:∀ {i:Nat} {o:Oper},pre[i]? = some o→i<pre.length:=fun {i o} h=>by
  rcases Nat.lt_or_ge i pre.length with h1 | h1
  ·exact h1
  ·rw [List.getElem?_eq_none h1] at h;cases h
 have hops':∀ (θ:Nat→Loc) (j:Nat),((List.zipWith (fun o e=>nopW (e.2.2.conc ν θ) o) pre es).toArray)[j]? = (match pre[j]?,es[j]? with | some o,some e=>some (nopW (e.2.2.conc ν θ) o) | _,_=>none):=fun θ j=>by
  simp [List.getElem?_zipWith]
  cases pre[j]?<;>cases es[j]?<;>rfl
 have hnopWd:∀ (v:Value) (o:Oper),(nopW v o).dst=o.dst∧(nopW v o).guard=o.guard∧(nopW v o).after=o.after:=fun v o=>by
  unfold nopW;split<;>exact ⟨rfl,rfl,rfl⟩
 have hsz:∀ θ:Nat→Loc,(List.zipWith (fun o e=>nopW (e.2.2.conc ν θ) o) pre es).toArray.size=pre.toArray.size:=fun θ=>by simp [hz.len]
 have hkind:∀ {i:Nat} {o:Oper},pre[i]? = some o→(zch o.op=false→zbo o.op=true)∧(zch o.op=true→o.guard=none):=fun {i o} h=>by
  have:=List.all_eq_true.1 hheads o (List.mem_of_getElem? h)
  unfold zi6 at this
  cases he:zch o.op<;>rw [he] at this<;>simp at this<;>simp [this]
 have heffmem:∀ i,i∈zvQ pre↔∃ o,pre[i]? = some o∧zch o.op=true:=fun i=>by
  unfold zvQ
  rw [List.mem_map]
  constructor
  ·rintro ⟨⟨o,j⟩,h,rfl⟩
   obtain ⟨h1,h2⟩:=List.mem_filter.1 h
   exact ⟨o,List.mem_zipIdx_iff_getElem?.1 h1,h2⟩
  ·rintro ⟨o,h1,h2⟩
   exact ⟨(o,i),List.mem_filter.2 ⟨List.mem_zipIdx_iff_getElem?.2 h1,h2⟩,rfl⟩
 have hmanyAt:∀ {i:Nat} {o:Oper},pre[i]? = some o→zch o.op=true→((calleeOf o.op).isSome=true→∀ j,j<i→(∃ o',pre[j]? = some o'∧(calleeOf o'.op).isSome=true)→j∈zax pre i (za6 o)) ∧
   (∀ t∈zgC o.op,∀ (j:Nat) o',pre[j]? = some o'→o'.dst=some t→j∈zax pre i (za6 o)):=fun {i o} h he=>by
  have:=List.all_eq_true.1 heffs i ((heffmem i).2 ⟨o,h,he⟩)
  unfold zwJ at this
  rw [h] at this
  simp only [Bool.and_eq_true,Bool.or_eq_true,Bool.not_eq_true'] at this
  obtain ⟨h1,h2⟩:=this
  refine ⟨fun hc j hj ⟨o',g1,g2⟩=>?_,fun t ht j o' ho' hd=>?_⟩
  ·rcases h1 with h1 | h1
   ·rw [hc] at h1;cases h1
   ·refine zn5 h1 j (List.mem_filter.2 ⟨?_,by simpa [Nat.blt_eq] using hj⟩)
    unfold zwI
    exact List.mem_map.2 ⟨(o',j),List.mem_filter.2 ⟨List.mem_zipIdx_iff_getElem?.2 g1,g2⟩,rfl⟩
  ·have:=List.all_eq_true.1 h2 (o',j) (List.mem_zipIdx_iff_getElem?.2 ho')
   simp only [zmn,hd,Bool.or_eq_true,Bool.not_eq_true'] at this
   rcases this with h | h
   ·rw [zei ht] at h;cases h
   ·exact zbb h
 refine zdp hbk (ops.toList.drop n) pre.toArray (by rw [←hpre];simp) (fun i hi o ho j hj=>?_) a w ?_
 ·have hi':n≤i:=by simpa [hprel] using hi
  have hmm:(o,i)∈ops.toList.zipIdx.drop n:=by
   rw [List.mem_iff_getElem?]
   refine ⟨i-n,?_⟩
   rw [List.getElem?_drop,show n+(i-n)=i from by omega,List.getElem?_zipIdx]
   have:ops.toList[i]? = some o:=by simpa using ho
   rw [this]
   simp
  have:=List.all_eq_true.1 htail _ hmm
  exact zbb (List.all_eq_true.1 this j (List.mem_range.2 hj))
 have hready:∀ (θ:Nat→Loc) listed,Region.ready .any (List.zipWith (fun o e=>nopW (e.2.2.conc ν θ) o) pre es).toArray listed=Region.ready .any pre.toArray listed:=fun θ listed=>by
  unfold Region.ready
  rw [hsz θ]
  refine List.filter_congr fun j _=>?_
  rw [hops' θ j,hat j]
  cases ho:pre[j]? with
  | none=>rfl
  | some o =>
   obtain ⟨e,he⟩:=hes j (hlt_of ho)
   rw [he]
   have e1:=(hnopWd (e.2.2.conc ν θ) o).2.2
   dsimp only
   generalize nopW (e.2.2.conc ν θ) o=o1 at e1 ⊢
   cases o1;cases o
   simp only at e1
   subst e1
   rfl
 have hdst:∀ (θ:Nat→Loc) (j:Nat),(((List.zipWith (fun o e=>nopW (e.2.2.conc ν θ) o) pre es).toArray)[j]?).bind (·.dst)=((pre.toArray)[j]?).bind (·.dst):=fun θ j=>by
  rw [hops' θ j,hat j]
  cases ho:pre[j]? with
  | none=>rfl
  | some o =>
   obtain ⟨e,he⟩:=hes j (hlt_of ho)
   rw [he]
   exact (hnopWd _ o).1
 have hbkp:zbR .any pre.toArray:=fun i o ho=>hbk i o (by
  rw [hat] at ho
  have:ops.toList[i]? = some o:=by
   rw [←hpre,List.getElem?_take] at ho
   split at ho
   ·exact ho
   ·cases ho
  simpa using this)
 refine zlJ (P:=P) (Θ:=Nat→Loc) (ops:=pre.toArray) (ops':=fun θ=>(List.zipWith (fun o e=>nopW (e.2.2.conc ν θ) o) pre es).toArray) (st:=zvQ pre) (val:=fun i θ=>(es.getD i default).2.2.conc ν θ)
  (C:=fun θ w=>HS E ν θ s.hp w) (D:=fun listed θ w=>HS E ν θ (zb9 (live listed) H) w) (Sm:=fun listed θ θ'=>∀ q,live listed q→θ' q=θ q) (Qf:=fun θ a'=>ARel ν θ rf a')
  (tm:=fun i=>match pre[i]? with | some o=>zgC o.op | none=>[]) hbkp hready hdst (fun θ i hi=>?_) (fun i hi=>?_) (fun listed θ θ' w1 hd hsm1=>?_) (fun listed θ w1 hd=>hstart hd) (fun _ _ _ _=>rfl)
  (fun listed i θ θ' θ'' h1 h2 q hq=>(h2 q (hlive hq)).trans (h1 q hq)) (fun listed i θ θ' hi hs hsm1=>?_) (fun i o hi ho a1 w1 f args w2=>?_) (fun listed i θ w1 hi hd=>?_) (fun i o hi ho listed hcl hrd t ht j o' ho' hd'=>?_)
  (fun i o hi ho listed hs hcl' hrd θ w1 hd a1 a2 ha2 htm=>?_) (fun θ a1 w1 listed hall ha1 hd=>?_) pre.toArray.size (Array.replicate pre.toArray.size false) a w ρ (by simp) (zej _ _) ?_ (fun θ' hsm1=>?_)
 ·-- what is neither
  show ((List.zipWith (fun o e=>nopW (e.2.2.conc ν θ) o) pre es).toArray)[i]? = _
  rw [hops' θ i,hat i]
  cases ho:pre[i]? with
  | none=>rfl
  | some o =>
   obtain ⟨e,he⟩:=hes i (hlt_of ho)
   rw [he]
   have:zch o.op=false:=by
    cases h:zch o.op with
    | false=>rfl
    | true=>exact absurd ((heffmem i).2 ⟨o,ho,h⟩) hi
   simp only [zqP this]
 ·obtain ⟨o,h1,h2⟩:=(heffmem i).1 hi
  obtain ⟨e,he⟩:=hes i (hlt_of h1)
  refine ⟨o,by rw [hat];exact h1,(hkind h1).2 h2,fun θ=>⟨nopW (e.2.2.conc ν θ) o,?_,by rw [(hnopWd _ o).2.1];exact (hkind h1).2 h2,(hnopWd _ o).1,fun a1 w1=>?_⟩⟩
  ·show ((List.zipWith (fun o e=>nopW (e.2.2.conc ν θ) o) pre es).toArray)[i]? = _
   rw [hops' θ i,h1,he]
  ·rw [zqQ h2,List.getD_eq_getElem?_getD,he]
   simp [execOp,Act.eval]
 ·exact hsub hd (fun q hq=>⟨hq,hsm1 q hq⟩) (fun q hq=>hsm1 q (.inl hq))
 ·-- the values of what is listed
  obtain ⟨o,h1,h2⟩:=(heffmem i).1 hi
  have hil:=hlt_of h1
  have hli:(listed.setIfInBounds i true).getD i false=true:=by
   have:i<listed.size:=by rw [hs];simpa using hil
   rw [Array.getD_eq_getD_getElem?,Array.getElem?_setIfInBounds_self_of_lt this]
   rfl
  have hmk:∀ q,made i q→θ' q=θ q:=fun q hq=>hsm1 q (.inr ⟨i,hil,hli,hq⟩)
  cases hal:allocOp o.op with
  | true =>
   obtain ⟨e,he,hev⟩:=hz.alloc i o h1 hal
   simp only [List.getD_eq_getElem?_getD,he,Option.getD_some,hev,V.conc,V1.conc,Lf.conc]
   rw [hmk _ (.inl ⟨o,h1,hal,rfl⟩)]
  | false =>
   obtain ⟨⟨x,args⟩,hc⟩:=Option.isSome_iff_exists.1 (show (calleeOf o.op).isSome=true by
    unfold zch at h2;rw [hal] at h2;simpa using h2)
   obtain ⟨f,vs,v,he,hin,_,_⟩:=hz.call i o x args h1 hc
   simp only [List.getD_eq_getElem?_getD,he,Option.getD_some]
   refine V.inB_conc hin fun q hq=>?_
   simp only [Bool.or_eq_true,Bool.and_eq_true] at hq
   rcases hq with hq | ⟨hq1,hq2⟩
   ·exact hsm1 q (.inl (by simpa [Nat.blt_eq] using hq))
   ·refine hmk q (.inr ⟨?_,?_⟩)
    ·have:=Nat.le_of_ble_eq_true hq1;simp [hbase] at this;omega
    ·simp [Nat.blt_eq,hbase] at hq2;omega
 ·rw [hat] at ho
  have:zch o.op=false:=by
   cases h:zch o.op with
   | false=>rfl
   | true=>exact absurd ((heffmem i).2 ⟨o,ho,h⟩) hi
  exact zdm ((hkind ho).1 this) a1 w1 f args w2
 ·refine hsub hd (fun q hq=>⟨?_,rfl⟩) (fun _ _=>rfl)
  rcases hnew hq with h | ⟨hil,h⟩
  ·exact h
  ·exfalso
   have hio:=List.getElem?_eq_getElem hil
   have hne:zch pre[i].op=false:=by
    cases h:zch pre[i].op with
    | false=>rfl
    | true=>exact absurd ((heffmem i).2 ⟨_,hio,h⟩) hi
   unfold zch at hne
   rw [Bool.or_eq_false_iff] at hne
   rcases h with ⟨o,h1,h2,_⟩ | ⟨h1,h2⟩
   ·rw [hio] at h1;cases h1
    rw [hne.1] at h2;cases h2
   ·rw [hz.still i _ hio hne.2] at h2
    omega
 ·rw [hat] at ho ho'
  obtain ⟨o2,h1,h2⟩:=(heffmem i).1 hi
  rw [ho] at h1;cases h1
  rw [ho] at ht
  have:=(hmanyAt ho h2).2 t ht j o' ho' hd'
  exact zbx hcl (by rw [hat];exact ho) hrd j this
 ·-- a new block, or a call
  rw [hat] at ho
  obtain ⟨o2,h1,h2⟩:=(heffmem i).1 hi
  rw [ho] at h1;cases h1
  rw [ho] at htm
  have hil:=hlt_of ho
  have hnl:listed.getD i false=false:=by
   obtain ⟨h4,_⟩:=mem_ready.1 hrd
   rw [←zaz (by rw [hs];simpa using hil)]
   exact h4
  have hstl:=hstart hd
  cases hal:allocOp o.op with
  | true =>
   obtain ⟨t,hop⟩:∃ t,o.op = .alloc t:=by
    cases hop:o.op<;>rw [hop] at hal<;>simp [allocOp] at hal
    exact ⟨_,rfl⟩
   obtain ⟨z,hzk,hzc⟩:=hza i o t ho hop
   obtain ⟨inf,zv,hinf,hzv,hzg,hzcc⟩:=zbh (ν:=ν) hzc
   have hzlt2:z.all (Lf.lt s.hp.length)=true:=by
    have:=List.all_eq_true.1 hzlt z (List.mem_of_getElem? hzk)
    simp only [Bool.and_eq_true] at this
    rw [hbase];exact this.2
   have hnewb:=hstl.new hchk2 hzlt2 hzg t
   rw [←hzcc θ] at hnewb
   have hb0:base≤base+acnt pre i:=by omega
   refine .inl ⟨.pointer (some ⟨w1.heap.size,0,none⟩),w1.alloc (.cells zv.cells t),.inl ?_,fun q=>if q=base+acnt pre i then ⟨w1.heap.size,0,false,0,0,none⟩ else θ q,fun q hq=>?_,?_,?_⟩
   ·simp [execOp,hop,Instr.alloc,zeroValue,typeInfo,hinf,hzv,newVar,newRow]
   ·exact if_neg fun e=>hfresh hil hnl (.inl ⟨o,ho,hal,e⟩) hq
   ·right
    obtain ⟨e,he,hev⟩:=hz.alloc i o ho hal
    simp only [List.getD_eq_getElem?_getD,he,Option.getD_some,hev,V.conc,V1.conc,Lf.conc,if_pos,Off.val]
   ·refine hd.grow (N:=fun q=>q=base+acnt pre i) (base:=base) ⟨rfl,rfl,rfl,by simp,fun k hk=>Below.heap_alloc _ _ _ hk⟩ hn0b (by rw [ze6];exact hlenH) (fun q hq=>if_neg (by omega)) (fun q bk hq=>?_) (fun q q' _ _ h h' _ _ _ hne=>absurd (h.trans h'.symm) hne)
    obtain ⟨g1,g2⟩:=zaG.1 hq
    rcases hnew g1 with h | ⟨_,h⟩
    ·exact .inl ⟨zaG.2 ⟨h,g2⟩,if_neg fun e=>hfresh hil hnl (.inl ⟨o,ho,hal,e⟩) h,hHlt q bk g2⟩
    ·have hqe:q=base+acnt pre i:=by
      rcases h with ⟨o',k1,k2,k3⟩ | ⟨k1,k2⟩
      ·exact k3
      ·have hno:(calleeOf o.op).isSome=false:=by rw [hop];rfl
       rw [hz.still i o ho hno] at k2
       omega
     subst hqe
     rw [hHz _ _ hzk] at g2
     cases g2
     refine .inr ⟨?_,.inr ⟨fun _ k hf=>.inl (by have hf:k=_:=hf;rw [hf];simp),fun k hf=>.inl (by have hf:k=_:=hf;rw [hf];simp)⟩,rfl⟩
     have hb1:=hnewb.heap.blk s.hp.length (.c true (z.map some)) (by rw [zaE,if_neg (by omega),Nat.sub_self];rfl)
     rw [zbK] at hb1
     have hk:=hb1.keep (n:=base) (ρ':=fun q=>if q=base+acnt pre i then ⟨w1.heap.size,0,false,0,0,none⟩ else θ q) (fun k hk=>by
      rw [if_neg (by omega),zbQ (by omega)]) (hHlt _ _ (hHz _ _ hzk))
     simp only [if_pos]
     exact hk
  | false =>
   obtain ⟨⟨x,args⟩,hc⟩:=Option.isSome_iff_exists.1 (show (calleeOf o.op).isSome=true by
    unfold zch at h2;rw [hal] at h2;simpa using h2)
   obtain ⟨f,vs,v,he,hin,_,hfact⟩:=hz.call i o x args ho hc
   obtain ⟨hf,vs',hvs',heq⟩:=zqR hargs i o x args f vs v ho hc he
   have hcs:(calleeOf o.op).isSome=true:=by rw [hc];rfl
   have hsi1:=hsn (i:=i) (by omega)
   have hsi2:=hsn (i:=i+1) (by omega)
   have hsi3:=hz.mono i hil
   generalize hcl:(s.hp++zs.map fun _=>none).map frz++(hn'.take (sg i)).map frz=hcall at hfact
   have hcll:hcall.length=base+zs.length+sg i:=by rw [←hcl];simp [hbase];omega
   have hcin:∀ j bk,nth hcall j=some bk→nth (zb9 (live listed) H) j=some bk∧bk.flat=true∧bk.own=false:=by
    intro j bk hj
    rw [←hcl,zaE] at hj
    split at hj
    ·rename_i hjl
     obtain ⟨k1,k2,k3⟩:=zs9 hj
     rw [zaE] at k1
     split at k1
     ·rename_i hjb
      rw [hbase] at hjb
      exact ⟨zaG.2 ⟨.inl hjb,by rw [hHs j hjb];exact k1⟩,k2,k3⟩
     ·exfalso
      rw [zfO,List.getElem?_map] at k1
      cases h:zs[j-s.hp.length]?<;>rw [h] at k1<;>cases k1
    ·rename_i hjl
     have hjl2:base+zs.length≤j:=by simp [hbase] at hjl;omega
     have hlen3:((s.hp++zs.map fun _=>(none:Option Blk)).map frz).length=base+zs.length:=by simp [hbase]
     rw [hlen3] at hj
     obtain ⟨k1,k2,k3⟩:=zs9 hj
     have hp1:j-(base+zs.length)<sg i:=by
      have:=zaY k1
      rw [List.length_take] at this
      omega
     have k4:nth hn' (j-(base+zs.length))=some bk:=by
      rw [zfO,List.getElem?_take,if_pos hp1,←zfO] at k1
      exact k1
     obtain ⟨i',m1,m2,m3⟩:=ztb (fun k hk=>hz.mono k (by omega)) hs0 hp1
     have hio:=List.getElem?_eq_getElem (l:=pre) (i:=i') (by omega)
     have hcs':(calleeOf pre[i'].op).isSome=true:=by
      cases h:(calleeOf pre[i'].op).isSome with
      | true=>rfl
      | false =>
       rw [hz.still i' _ hio h] at m3
       omega
     have hanc:=(hmanyAt ho h2).1 hcs i' m1 ⟨_,hio,hcs'⟩
     have hli:=zbx hcl' (by rw [hat];exact ho) hrd i' hanc
     refine ⟨zaG.2 ⟨.inr ⟨i',by omega,hli,.inr ⟨by omega,by omega⟩⟩,?_⟩,k2,k3⟩
     have:=hHn (j-(base+zs.length))
     rw [show base+zs.length+(j-(base+zs.length))=j from by omega] at this
     rw [this];exact k4
   have hread:=hd.read hcin
   have hgood:=zlL (ν:=ν) heq
   have hargc:vs'.map (V.conc ν θ)=vs.map (V.conc ν θ):=zlK θ heq
   obtain ⟨hen,hcalls⟩:=hfact _ (zrR (Nat.le_trans hE.1 hd.fr.size)) θ w1 hgood hread (hI w1 hd.fr)
   refine .inr ⟨f,(vs.map (V.conc ν θ)).toArray,w1,?_,hcalls.mono fun e w' ⟨ρ2,hp1,k1,k2,k3,k4⟩=>⟨v.conc ν ρ2,k4,fun q=>if base+zs.length+sg i≤q∧q<base+zs.length+sg (i+1) then ρ2 q else θ q,fun q hq=>?_,?_,?_⟩⟩
   ·rw [zpr hcs htm,←hargc]
    rw [←hargc] at hen
    exact zrQ hc hf hvs' ha2 w1 hen
   ·exact if_neg fun hh=>hfresh hil hnl (.inr hh) hq
   ·right
    simp only [List.getD_eq_getElem?_getD,he,Option.getD_some]
    refine V.inB_conc hin fun q hq=>?_
    simp only [Bool.or_eq_true,Bool.and_eq_true] at hq
    rcases hq with hq | ⟨hq1,hq2⟩
    ·have hqb:q<base:=by simpa [Nat.blt_eq] using hq
     rw [if_neg (by omega),k1 q (by omega)]
    ·have e1:=Nat.le_of_ble_eq_true hq1
     simp [hbase] at e1
     simp [Nat.blt_eq,hbase] at hq2
     exact if_pos ⟨by omega,by omega⟩
   ·have hbel:Below w1.heap.size w1 w':=k2.fr.below
    have hent:∀ q bk,base+zs.length+sg i≤q→q<base+zs.length+sg (i+1)→nth H q=some bk→nth hp1 q=some bk:=by
     intro q bk hq1 hq2 hq
     have e1:=hHn (q-(base+zs.length))
     rw [show base+zs.length+(q-(base+zs.length))=q from by omega,hq] at e1
     have e2:nth ((hn'.take (sg (i+1))).drop (sg i)) (q-(base+zs.length)-sg i)=some bk:=by
      rw [zgW,show sg i+(q-(base+zs.length)-sg i)=q-(base+zs.length) from by omega,zfO,List.getElem?_take,if_pos (by omega),←zfO,←e1]
     have e3:=k3 (q-(base+zs.length)-sg i) (by rw [e2];simp)
     rw [e2,hcll,show base+zs.length+sg i+(q-(base+zs.length)-sg i)=q from by omega] at e3
     exact e3
    refine hd.grow (N:=fun q=>base+zs.length+sg i≤q∧q<base+zs.length+sg (i+1)) (base:=base) hbel hn0b (by rw [ze6];exact hlenH) (fun q hq=>if_neg (by omega)) (fun q bk hq=>?_) (fun q q' bk bk' h h' hq ho1 hq' hne hn1 hn2 k hf1 hf2=>?_)
    ·obtain ⟨g1,g2⟩:=zaG.1 hq
     rcases hnew g1 with h | ⟨_,h⟩
     ·exact .inl ⟨zaG.2 ⟨h,g2⟩,if_neg fun hh=>hfresh hil hnl (.inr hh) h,hHlt q bk g2⟩
     ·rcases h with ⟨o',m1,m2,m3⟩ | hr
      ·rw [ho] at m1;cases m1
       rw [hal] at m2;cases m2
      ·have e1:=hent q bk hr.1 hr.2 g2
       have hflat:bk.flat=true:=by
        have:=hHn (q-(base+zs.length))
        rw [show base+zs.length+(q-(base+zs.length))=q from by omega,g2] at this
        exact hn'flat _ _ this.symm
       refine .inr ⟨?_,?_,hr⟩
       ·rw [if_pos hr]
        exact ((k2.heap.blk q bk e1).flat hflat).keep (n:=base) (fun k hk=>by rw [if_neg (by omega)];exact (k1 k (by omega)).symm) (hHlt q bk g2)
       ·rw [if_pos hr]
        rcases k2.old q bk e1 with h | h
        ·exact .inl h
        ·refine .inr ⟨h.wr,fun k hf=>?_⟩
         rcases h.rd k hf with h | h | ⟨j,bj,n1,n2,n3⟩
         ·exact .inl h
         ·exact h.elim
         ·exact .inr (.inr ⟨j,bj,(hcin j bj n1).1,(hcin j bj n1).2.2,n2,n3⟩)
    ·have g2:=(zaG.1 hq).2
     have g2':=(zaG.1 hq').2
     simp only [if_pos h] at hn1 hf1
     simp only [if_pos h'] at hn2 hf2
     exact k2.heap.apart q q' bk bk' (hent q bk h.1 h.2 g2) ho1 (hent q' bk' h'.1 h'.2 g2') hne hn1 hn2 k hf1 hf2
 ·-- all is listed
  show wpList P ops Q (ops.toList.drop n) a1 w1
  refine hr2 θ a1 w1 ⟨⟨ha1.defers,ha1.size,ha1.slot,ha1.gl⟩,?_⟩ Q fun ρ' a' w' h'=>hQ ρ' a' w' h'.drop
  refine hd.grow (N:=fun _=>False) (base:=base) (Below.refl _ _) hn0b hlenH (fun _ _=>rfl) (fun q bk hq=>.inl ⟨zaG.2 ⟨?_,hq⟩,rfl,hHlt q bk hq⟩) (fun _ _ _ _ h=>h.elim)
  rcases Nat.lt_or_ge q base with h | h
  ·exact .inl h
  ·have hql:q<base+zs.length+hn'.length:=by rw [←hHl];exact zaY hq
   rcases Nat.lt_or_ge q (base+zs.length) with h2 | h2
   ·obtain ⟨i,o,k1,k2,k3⟩:=zjZ pre (k:=q-base) (by omega)
    exact .inr ⟨i,hlt_of k1,hall i (by simpa using hlt_of k1),.inl ⟨o,k1,k2,by omega⟩⟩
   ·obtain ⟨i,k1,k2,k3⟩:=ztb (s:=sg) (n:=pre.length) (p:=q-(base+zs.length)) hz.mono hs0 (by rw [hz.sn];omega)
    exact .inr ⟨i,k1,hall i (by simpa using k1),.inr ⟨by omega,by omega⟩⟩
 ·refine hrr.hs.grow (N:=fun _=>False) (base:=base) (Below.refl _ _) hn0b (by rw [ze6];exact hlenH) (fun _ _=>rfl) (fun q bk hq=>?_) (fun _ _ _ _ h=>h.elim)
  obtain ⟨g1,g2⟩:=zaG.1 hq
  rcases g1 with g1 | ⟨j,_,hj,_⟩
  ·exact .inl ⟨by rw [hHs q g1] at g2;exact g2,rfl,hHlt q bk g2⟩
  ·exfalso
   rw [Array.getD_eq_getD_getElem?,Array.getElem?_replicate] at hj
   split at hj<;>simp at hj
 ·have hρ:∀ q,q<base→θ' q=ρ q:=fun q hq=>hsm1 q (.inl hq)
  have ha1:ARel ν θ' ⟨s,[]⟩ a:=hrr.act.ext (fun j hj=>hρ j (by omega)) hchk.1 (by simp) s.hp
  have hs1:HS E ν θ' s.hp w:=hrr.hs.reloc hchk2 (fun j hj=>hρ j (by rw [←hbase];exact hj))
  have hwq:=hz.quiet θ' a ha1 ⟨w,hs1⟩ _ rfl (List.zipWith (fun o e=>nopW (e.2.2.conc ν θ') o) pre es).toArray (hdst θ') (fun a'=>ARel ν θ' rf a') (fun _ h=>h)
  have hB:Region.lexB .any (List.zipWith (fun o e=>nopW (e.2.2.conc ν θ') o) pre es).toArray=true:=by
   rw [←hlex]
   refine zhM (by simp [hz.len]) fun j o1 o2 h1 h2=>?_
   rw [List.getElem?_map] at h2
   obtain ⟨o,g1,rfl⟩:=Option.map_eq_some_iff.1 h2
   obtain ⟨e,he⟩:=hes j (hlt_of g1)
   rw [List.getElem?_zipWith,g1,he] at h1
   simp only [Option.some.injEq] at h1
   subst h1
   refine ⟨by rw [(hnopWd _ o).1,(hnopWd _ o).1],by rw [(hnopWd _ o).2.1,(hnopWd _ o).2.1],by rw [(hnopWd _ o).2.2,(hnopWd _ o).2.2],?_⟩
   unfold nopW
   split
   ·exact .inr ⟨_,_,rfl,rfl⟩
   ·exact .inl rfl
  simp only [Region.lexB,Bool.and_eq_true] at hB
  have:=wpAnyQ_lex (P:=P) (C:=fun w=>HS E ν θ' s.hp w) (md:=.any) hB.1 (List.zipWith (fun o e=>nopW (e.2.2.conc ν θ') o) pre es) 0 (Array.replicate (List.zipWith (fun o e=>nopW (e.2.2.conc ν θ') o) pre es).toArray.size false) a (by simp) (by simpa using hB.2) hwq
  rw [hsz θ'] at this
  simpa [hz.len] using this
end
end Go.Sx
namespace Go.Sx
open Go.RowKit
section
variable {P:Program} {I:World→Prop} {S:Sigs} {F:FEnv} {E:Env} {gK:Nat} {ν:Nat→DV}
theorem A.eqS_eq {a b:A} (h:a.eqS b=true):a=b:=by
 unfold A.eqS at h
 split at h
 ·rw [Nat.eq_of_beq_eq_true h]
 ·rw [of_decide_eq_true h]
 ·rw [zcW h]
 ·cases h
theorem Lf.eqS_eq {a b:Lf} (h:a.eqS b=true):a=b:=by
 unfold Lf.eqS at h
 split at h
 ·simp only [Bool.and_eq_true] at h
  rw [zcf h.1,A.eqS_eq h.2]
 ·rw [A.eqS_eq h]
 ·simp only [Bool.and_eq_true] at h
  rw [Nat.eq_of_beq_eq_true h.1,Nat.eq_of_beq_eq_true h.2]
 ·rfl
 ·rw [Nat.eq_of_beq_eq_true h]
 ·rw [Nat.eq_of_beq_eq_true h]
 ·simp only [Bool.and_eq_true] at h
  rw [LT.feq_eq h.1.1,A.eqS_eq h.1.2,Nat.eq_of_beq_eq_true h.2]
 ·cases h
theorem zgg:∀ {l l':List (Option Lf)},zfn l l'=true→l=l'
 | [],[],_=>rfl
 | none::l,none::l',h=>by
  simp only [zfn] at h
  rw [zgg h]
 | some a::l,some b::l',h=>by
  simp only [zfn,Bool.and_eq_true] at h
  rw [Lf.eqS_eq h.1,zgg h.2]
 | [],none::_,h=>by cases h
 | [],some _::_,h=>by cases h
 | none::_,[],h=>by cases h
 | some _::_,[],h=>by cases h
 | none::_,some _::_,h=>by cases h
 | some _::_,none::_,h=>by cases h
theorem Blk.eqS_eq {a b:Blk} (h:a.eqS b=true):a=b:=by
 unfold Blk.eqS at h
 split at h
 ·simp only [Bool.and_eq_true] at h
  rw [zcW h.1,zgg h.2]
 ·simp only [Bool.and_eq_true] at h
  rw [zcW h.1.1,zeX h.1.2,A.eqS_eq h.2]
 ·simp only [Bool.and_eq_true] at h
  rw [zcW h.1.1,Nat.eq_of_beq_eq_true h.1.2,A.eqS_eq h.2]
 ·simp only [Bool.and_eq_true] at h
  rw [zcW h.1.1.1,zcW h.1.1.2,zeX h.1.2,A.eqS_eq h.2]
 ·cases h
theorem ziM:∀ {R hp:List (Option Blk)} {q:Nat} {bk:Blk},zrl R hp=true→q<R.length→nth hp q=some bk→nth R q=some bk
 | [],_,q,bk,_,hq,_=>absurd hq (by simp)
 | x::l,none::l',0,bk,_,_,h=>by simp [nth] at h
 | x::l,none::l',q+1,bk,hk,hq,h=>ziM (R:=l) (hp:=l') hk (by simpa using hq) h
 | some x::l,some y::l',0,bk,hk,_,h=>by
  simp only [zrl,Bool.and_eq_true] at hk
  simp only [nth,Option.some.injEq] at h ⊢
  rw [Blk.eqS_eq hk.1,h]
 | some x::l,some y::l',q+1,bk,hk,hq,h=>by
  simp only [zrl,Bool.and_eq_true] at hk
  exact ziM (R:=l) (hp:=l') hk.2 (by simpa using hq) h
 | none::_,some _::_,_,_,hk,_,_=>by cases hk
 | some _::_,[],_,_,hk,_,_=>by cases hk
 | none::_,[],_,_,hk,_,_=>by cases hk
theorem zhN {fp:List Nat} : ∀ (l:List (Option Blk)) (j q:Nat),nth (keepAt fp j l) q=if memN (j+q) fp then nth l q else none
 | [],j,q=>by cases q<;>simp [keepAt,nth]
 | x::l,j,0=>by simp [keepAt,nth]
 | x::l,j,q+1=>by
  simp only [keepAt,nth]
  rw [zhN l (j+1) q,show j+1+q=j+(q+1) from by omega]
theorem zfy {fp:List Nat} : ∀ (l:List (Option Blk)) (j:Nat),(keepAt fp j l).length=l.length
 | [],_=>rfl
 | x::l,j=>by simp [keepAt,zfy l (j+1)]
theorem zlM {ts:List Nat} : ∀ (l:List (Option V)) (j:Nat),(zdg ts j l).length=l.length
 | [],_=>rfl
 | x::l,j=>by simp [zdg,zlM l (j+1)]
theorem zlN {ts:List Nat} : ∀ (l:List (Option V)) (j q:Nat),nth (zdg ts j l) q=if memN (j+q) ts then nth l q else none
 | [],j,q=>by cases q<;>simp [zdg,nth]
 | x::l,j,0=>by simp [zdg,nth]
 | x::l,j,q+1=>by
  simp only [zdg,nth]
  rw [zlN l (j+1) q,show j+1+q=j+(q+1) from by omega]
theorem BlkRel.refs {p:Nat→Bool} {ρ ρ':Nat→Loc} (hρ:∀ q,p q=true→ρ' q=ρ q) {w:World} {r:Loc} {b:Blk} (hl:b.refsIn p=true) (h:BlkRel E ν ρ w r b):BlkRel E ν ρ' w r b:=by
 cases b with
 | obj o k a=>exact h
 | v o ts a=>exact h
 | l o f ts a=>exact h
 | m=>cases hl
 | c o cs =>
  have h:CBlk ν ρ w r o cs:=h
  refine (⟨h.nil,h.lt,fun i l hi=>?_,h.own,h.fz⟩:CBlk ν ρ' w r o cs)
  obtain ⟨g1,g2⟩:=h.cell i l hi
  have hall:cs.all (zao (Lf.inB p))=true:=hl
  exact ⟨g1,by rw [g2,Lf.inB_conc (zan hall hi) hρ]⟩
theorem Blk.refsIn_mono {p p':Nat→Bool} (h:∀ q,p q=true→p' q=true) {b:Blk} (hb:b.refsIn p=true):b.refsIn p'=true:=by
 cases b with
 | obj o k a=>rfl
 | v o ts a=>rfl
 | l o f ts a=>rfl
 | m=>cases hb
 | c o cs =>
  refine List.all_eq_true.2 fun x hx=>?_
  have:=List.all_eq_true.1 hb x hx
  cases x with
  | none=>rfl
  | some l =>
   have hl:l.inB p=true:=this
   show l.inB p'=true
   have:=zmK (v:=.s (.one l)) h hl
   exact this
theorem zgV.mono {m:Sem Next} {w:World} {K K':Value→World→Prop} (h:zgV P m w K) (hk:∀ v w',K v w'→K' v w'):zgV P m w K':=by
 rcases h with ⟨v,w',h1,h2⟩ | ⟨f,args,w1,h1,h2⟩
 ·exact .inl ⟨v,w',h1,hk _ _ h2⟩
 ·exact .inr ⟨f,args,w1,h1,h2.mono fun e w' ⟨v,h3,h4⟩=>⟨v,h3,hk _ _ h4⟩⟩
def OpFact (P:Program) (I:World→Prop) (gK:Nat) (ν:Nat→DV) (o:Oper) (e:SwE) (R:List (Option Blk)) (H:List (Option Blk)):Prop :=
 ∀ (E2:Env),E2.Ok gK→∀ ρ a,ARel ν ρ ⟨⟨e.sl,R⟩,[]⟩ a→∀ w,HS E2 ν ρ R w→I w →
  zgV P (execOp a.eval o) w fun v w'=>∃ (ρ':Nat→Loc) (hp':List (Option Blk)),(∀ j,j<e.a→ρ' j=ρ j)∧HS E2 ν ρ' hp' w'∧v=e.v.conc ν ρ' ∧
   (∀ q bk,q<e.a→nth hp' q=some bk→nth R q=some bk)∧(∀ q bk,q<e.a→nth R q=some bk→q∉e.ks→nth hp' q=some bk)∧(∀ q,e.a≤q→q<e.b→nth hp' q=nth H q)
structure SwFact (P:Program) (I:World→Prop) (gK:Nat) (ν:Nat→DV) (base:Nat) (o:Oper) (e:SwE) (H:List (Option Blk)):Prop where
 fact:OpFact P I gK ν o e (keepAt e.fp 0 (H.take e.a)) H
 easy:e.v.easy=true
 val:e.v.inB (rngB base [] e.a e.b)=true
 ks:∀ q∈e.ks,base≤q∧q∈e.fp
 fpl:∀ q∈e.fp,q<e.a
 news:∀ q bk,e.a≤q→q<e.b→nth H q=some bk→bk.flat=true∧bk.refsIn (rngB base e.fp e.a e.b)=true
theorem zmM {α:Type} (l:List (Option α)) (n q:Nat):nth (l.take n) q=if q<n then nth l q else none:=by
 rw [zfO,List.getElem?_take]
 split
 ·rw [zfO]
 ·rfl
theorem ztc (hS:SigsOK P I gK S F) {base:Nat} {r:RS} {H:List (Option Blk)} {dead:List Nat} {o:Oper} :
  M.sat F ν (zxi P S base r H dead o) (fun z=>z.2.a=H.length∧z.2.a≤z.2.b∧z.2.b=z.1.length∧z.1.take H.length=H∧SwFact P I gK ν base o z.2 z.1):=by
 unfold zxi
 dsimp only
 generalize hsl:zdg (zeP o.op) 0 r.st.sl=sl
 generalize hfp:((ziI H 60 ((zeP o.op).flatMap fun t=>match nth r.st.sl t with | some v=>vIds v | none=>[]) []).filter fun q=>!memN q dead&&Nat.blt q H.length)=fp
 have hfpl:∀ q∈fp,q<H.length:=fun q hq=>by
  rw [←hfp] at hq
  have:=(List.mem_filter.1 hq).2
  simp only [Bool.and_eq_true,Nat.blt_eq] at this
  exact this.2
 refine zaa (zmF (ι:={ E2:Env // E2.Ok gK }) fun E2=>zeg (E:=E2.1) (r:=⟨⟨sl,keepAt fp 0 H⟩,[]⟩) (ctx:=[]) (o:=o) hS E2.2) fun res hres=>?_
 cases res with
 | val v =>
  refine zae (fun hc=>?_) (fun _=>zac)
  simp only [Bool.and_eq_true] at hc
  refine zab ⟨rfl,Nat.le_refl _,rfl,by simp,⟨?_,hc.1,zmK (fun q hq=>?_) hc.2,fun q hq=>(by cases hq),hfpl,fun q bk h1 h2=>(by dsimp only at h1 h2;omega)⟩⟩
  ·intro E2 hE2 ρ a ha w hh hI
   obtain ⟨hg,hr⟩:=hres ⟨E2,hE2⟩ ρ a (by simpa using ha) (fun p hp=>by simp at hp) w (by simpa using hh) hI
   rw [List.take_length] at hh ⊢
   rcases hr with hr | ⟨f,args,hr,hcl⟩
   ·exact .inl ⟨_,w,.inl hr,ρ,_,fun _ _=>rfl,hh,rfl,fun _ _ _ h=>h,fun _ _ _ h _=>h,fun q h1 h2=>(by dsimp only at h1 h2;omega)⟩
   ·exact .inr ⟨f,args,w,hr,hcl.mono fun e w' ⟨he,hb⟩=>⟨_,he,ρ,_,fun _ _=>rfl,hh.of_below hb,rfl,fun _ _ _ h=>h,fun _ _ _ h _=>h,fun q h1 h2=>(by dsimp only at h1 h2;omega)⟩⟩
  ·unfold rngB at hq ⊢
   simp only [memN,Bool.or_eq_true,Bool.and_eq_true] at hq ⊢
   rcases hq with (hq | hq) | hq
   ·exact .inl (.inl hq)
   ·cases hq
   ·have:=Nat.le_of_ble_eq_true hq.1
    have h2:=hq.2
    simp [Nat.blt_eq] at h2
 | hp v hp' =>
  cases v with
  | none=>exact zac
  | some v =>
   refine zae (fun hc=>?_) (fun _=>zac)
   simp only [Bool.and_eq_true] at hc
   obtain ⟨⟨⟨⟨⟨h1,h2⟩,h3⟩,h4⟩,h5⟩,h6⟩:=hc
   have h1:=Nat.le_of_ble_eq_true h1
   have hlen:(H++hp'.drop H.length).length=hp'.length:=by simp;omega
   have hnw:∀ q,H.length≤q→nth (H++hp'.drop H.length) q=nth hp' q:=fun q hq=>by
    rw [zaE,if_neg (by omega),zgW,show H.length+(q-H.length)=q from by omega]
   refine zab ⟨rfl,h1,hlen.symm,by simp,⟨?_,h5,h6,fun q hq=>?_,hfpl,fun q bk g1 g2 hq=>?_⟩⟩
   ·intro E2 hE2 ρ a ha w hh hI
    have htk:(H++hp'.drop H.length).take H.length=H:=by simp
    rw [htk] at ha hh ⊢
    have hr:=hres ⟨E2,hE2⟩ ρ a ha (fun p hp=>by simp at hp) w hh hI
    have key:∀ nv w',(∃ ρ':Nat→Loc,(∀ j,j<(keepAt fp 0 H).length→ρ' j=ρ j)∧HS E2 ν ρ' hp' w'∧∀ u,some v=some u→u.good ν∧nv=some (u.conc ν ρ')) →
      ∃ x,nv=some x∧∃ (ρ':Nat→Loc) (hp1:List (Option Blk)),(∀ j,j<H.length→ρ' j=ρ j)∧HS E2 ν ρ' hp1 w'∧x=v.conc ν ρ' ∧
       (∀ q bk,q<H.length→nth hp1 q=some bk→nth (keepAt fp 0 H) q=some bk)∧(∀ q bk,q<H.length→nth (keepAt fp 0 H) q=some bk→q∉(fp.filter fun q=>(nth (keepAt fp 0 H) q).isSome&&(nth hp' q).isNone)→nth hp1 q=some bk)∧(∀ q,H.length≤q→q<hp'.length→nth hp1 q=nth (H++hp'.drop H.length) q):=by
     rintro nv w' ⟨ρ',k1,k2,k3⟩
     rw [zfy] at k1
     refine ⟨_,(k3 v rfl).2,ρ',hp',k1,k2,rfl,fun q bk g1 g2=>ziM h2 (by rw [zfy];exact g1) g2,fun q bk g1 g2 g3=>?_,fun q g1 g2=>(hnw q g1).symm⟩
     have hm:memN q fp=true:=by
      rw [zhN] at g2
      split at g2
      ·rename_i h;simpa using h
      ·cases g2
     cases hx:nth hp' q with
     | none =>
      exfalso
      refine g3 (List.mem_filter.2 ⟨zbb hm,?_⟩)
      rw [g2,hx];rfl
     | some y =>
      have:=ziM h2 (by rw [zfy];exact g1) hx
      rw [g2] at this
      exact this.symm
    rcases hr with ⟨x,w',hr,hk⟩ | ⟨w',hr,hk⟩ | ⟨f,args,hr,hcl⟩
    ·obtain ⟨y,e1,e2⟩:=key _ _ hk
     cases e1
     exact .inl ⟨_,w',.inl hr,e2⟩
    ·obtain ⟨y,e1,_⟩:=key _ _ hk
     cases e1
    ·refine .inr ⟨f,args,w,hr,hcl.mono fun e w' ⟨x,he,hk⟩=>?_⟩
     obtain ⟨y,e1,e2⟩:=key _ _ hk
     cases e1
     exact ⟨_,he,e2⟩
   ·exact ⟨Nat.le_of_ble_eq_true (List.all_eq_true.1 h3 q hq),(List.mem_filter.1 hq).1⟩
   ·simp only at g1 g2 hq ⊢
    have e1:nth (hp'.drop H.length) (q-H.length)=some bk:=by
     rw [zgW,show H.length+(q-H.length)=q from by omega,←hnw q g1]
     exact hq
    have:=zan h4 e1
    simpa using this
def Chain:Nat→List SwE→Nat→Prop
 | n,[],m=>n=m
 | n,e::r,m=>e.a=n∧n≤e.b∧Chain e.b r m
theorem Chain.le:∀ {n m:Nat} {es:List SwE},Chain n es m→n≤m
 | n,m,[],h=>by cases h;exact Nat.le_refl _
 | n,m,e::r,h=>Nat.le_trans h.2.1 (Chain.le h.2.2)
theorem Chain.at:∀ {n m:Nat} {es:List SwE},Chain n es m→∀ (i:Nat) (e:SwE),es[i]? = some e→n≤e.a∧e.a≤e.b∧e.b≤m
 | n,m,[],_,i,e,h=>by simp at h
 | n,m,x::r,hc,0,e,h=>by
  simp at h;subst h
  exact ⟨by rw [hc.1];exact Nat.le_refl _,by rw [hc.1];exact hc.2.1,hc.2.2.le⟩
 | n,m,x::r,hc,i+1,e,h=>by
  have:=Chain.at hc.2.2 i e (by simpa using h)
  exact ⟨Nat.le_trans hc.2.1 this.1,this.2⟩
theorem Chain.lt {n m:Nat} {es:List SwE} (hc:Chain n es m):∀ (i j:Nat) (e e':SwE),i<j→es[i]? = some e→es[j]? = some e'→e.b≤e'.a:=by
 induction es generalizing n with
 | nil=>intro i j e e' _ h;simp at h
 | cons x r ih =>
  intro i j e e' hij h h'
  cases j with
  | zero=>omega
  | succ j =>
   rw [List.getElem?_cons_succ] at h'
   cases i with
   | zero =>
    rw [List.getElem?_cons_zero] at h
    cases h
    exact (Chain.at hc.2.2 j e' h').1
   | succ i =>
    rw [List.getElem?_cons_succ] at h
    exact ih hc.2.2 i j e e' (by omega) h h'
theorem Chain.surj:∀ {n m:Nat} {es:List SwE},Chain n es m→∀ q,n≤q→q<m→∃ (i:Nat) (e:SwE),es[i]? = some e∧e.a≤q∧q<e.b
 | n,m,[],h,q,h1,h2=>by cases h;omega
 | n,m,x::r,hc,q,h1,h2=>by
  rcases Nat.lt_or_ge q x.b with h | h
  ·exact ⟨0,x,rfl,by rw [hc.1];exact h1,h⟩
  ·obtain ⟨i,e,g1,g2⟩:=Chain.surj hc.2.2 q h h2
   exact ⟨i+1,e,by simpa using g1,g2⟩
structure SwOK (P:Program) (I:World→Prop) (gK:Nat) (ν:Nat→DV) (E:Env) (ops:Array Oper) (base:Nat) (l:List Oper) (r:RS) (H:List (Option Blk)) (r':RS) (H':List (Option Blk)) (es:List SwE):Prop where
 len:es.length=l.length
 hp:r'.st.hp=r.st.hp
 pre:H'.take H.length=H
 chain:Chain H.length es H'.length
 quiet:∀ ρ a,ARel ν ρ r a→(∃ w,HS E ν ρ r.st.hp w)→∀ C:World→Prop,C=(fun w=>HS E ν ρ r.st.hp w)→∀ ops':Array Oper,(∀ j:Nat,(ops'[j]?).bind (·.dst)=(ops[j]?).bind (·.dst)) →
  ∀ Q:Act→Prop,(∀ a',ARel ν ρ r' a'→Q a')→wpQuiet P ops' C Q (List.zipWith (fun o e=>nopX (e.v.conc ν ρ) o) l es) a
 eff:∀ (i:Nat) (o:Oper) (e:SwE),l[i]? = some o→es[i]? = some e→effOp2 o.op=true→SwFact P I gK ν base o e H'
 still:∀ (i:Nat) (o:Oper) (e:SwE),l[i]? = some o→es[i]? = some e→effOp2 o.op=false→e.a=e.b∧e.ks=[]
theorem zqS {v:Value} {o:Oper} (h:effOp2 o.op=false):nopX v o=o:=by unfold nopX;rw [h];rfl
theorem zqT {v:Value} {o:Oper} (h:effOp2 o.op=true):nopX v o = { o with op:=.move (.const v) }:=by unfold nopX;rw [if_pos h]
theorem zrT {o:Oper} {r r1:RS} {v:V} (he:effOp2 o.op=true) (hg:o.guard=none) (hgood:v.good ν) (hput:∀ ρ a (x:Value),ARel ν ρ r a→(∀ u,some v=some u→u.good ν∧x=u.conc ν ρ)→ARel ν ρ r1 (a.put o.dst x))
  (ρ:Nat→Loc) (a:Act) (hra:ARel ν ρ r a) (C:World→Prop) (ops':Array Oper) :
  if Region.wanted (nopX (v.conc ν ρ) o) (yielded ops' a.tmps)=true then ∃ u,(∀ w,C w→(nopX (v.conc ν ρ) o).quietAt P a C w u)∧ARel ν ρ r1 (a.put (nopX (v.conc ν ρ) o).dst u) else ARel ν ρ r1 (a.put (nopX (v.conc ν ρ) o).dst undef):=by
 rw [zqT he]
 rw [if_pos (by simp [Region.wanted,hg])]
 refine ⟨v.conc ν ρ,fun w _=>?_,hput ρ a _ hra fun u hu=>by cases hu;exact ⟨hgood,rfl⟩⟩
 unfold Oper.quietAt
 simp [execOp,Act.eval,Oper.quietUpon]
theorem SwFact.grow {base:Nat} {o:Oper} {e:SwE} {H H':List (Option Blk)} {n:Nat} (h:SwFact P I gK ν base o e H) (hb:e.b=H.length) (ha:e.a≤e.b) (hp:H'.take n=H) (hn:n=H.length):SwFact P I gK ν base o e H':=by
 subst hn
 have hq:∀ q,q<H.length→nth H' q=nth H q:=fun q hq=>by
  have:=congrArg (fun l=>nth l q) hp
  simp only [zmM,if_pos hq] at this
  exact this
 have ht:H'.take e.a=H.take e.a:=zdq hp (by omega)
 refine ⟨?_,h.easy,h.val,h.ks,h.fpl,fun q bk h1 h2 h3=>h.news q bk h1 h2 (by rw [←hq q (by omega)];exact h3)⟩
 rw [ht]
 intro E2 hE2 ρ a hra w hh hI
 refine (h.fact E2 hE2 ρ a hra w hh hI).mono fun v w' ⟨ρ',hp',k1,k2,k3,k4,k5,k6⟩=>⟨ρ',hp',k1,k2,k3,k4,k5,fun q g1 g2=>by rw [k6 q g1 g2,hq q (by omega)]⟩
end
end Go.Sx
namespace Go.Sx
open Go.RowKit
section
variable {P:Program} {I:World→Prop} {S:Sigs} {F:FEnv} {E:Env} {gK:Nat} {ν:Nat→DV}
theorem zj0 (hS:SigsOK P I gK S F) (hE:E.Ok gK) (hn0:S.n0=E.n0) (hI:∀ w,Fr E.W E.w0 w→I w) {ops:Array Oper} {base:Nat} : ∀ (l:List Oper) (r:RS) (H:List (Option Blk)) (dead:List Nat),(∀ o∈l,zhx o=true) →
  M.sat F ν (zrm P S ops.toList base l r H dead) (fun z=>SwOK P I gK ν E ops base l r H z.1 z.2.1 z.2.2)
 | [],r,H,dead,_=>by
  unfold zrm
  exact zab ⟨rfl,rfl,by simp,rfl,fun ρ a h _ C _ ops' _ Q hQ=>hQ a h,fun i o e h=>by simp at h,fun i o e h=>by simp at h⟩
 | o::l,r,H,dead,hl=>by
  have hh:=hl o (by simp)
  have hl':∀ o'∈l,zhx o'=true:=fun o' h'=>hl o' (List.mem_cons_of_mem _ h')
  unfold zrm
  refine zae (fun heff=>?_) (fun hne=>?_)
  ·have hg:o.guard=none:=by
    unfold zhx at hh
    rw [heff] at hh
    simpa using hh
   refine zaa (ztc (P:=P) (I:=I) hS) fun x hx=>?_
   obtain ⟨H1,e⟩:=x
   obtain ⟨h1,h2,h3,h4,h5⟩:=hx
   dsimp only at h1 h2 h3 h4 h5 ⊢
   refine zaa zbN fun r1 hr1=>zaa (zj0 hS hE hn0 hI l r1 H1 (e.ks++dead) hl') fun z hz=>zab ?_
   have hle:H.length≤H1.length:=by omega
   refine ⟨by simp [hz.len],hz.hp.trans hr1.1,by rw [zdq hz.pre hle,h4],⟨h1,by omega,by rw [h3];exact hz.chain⟩,fun ρ a hra hex C hC ops' hd Q hQ=>?_,fun i o' e' ho' he' hef=>?_,fun i o' e' ho' he' hef=>?_⟩
   ·have:=zrT (P:=P) heff hg (V.easy_good h5.easy) hr1.2 ρ a hra C ops'
    simp only [List.zipWith_cons_cons,wpQuiet]
    split
    ·rename_i hw
     rw [if_pos hw] at this
     obtain ⟨v,h7,h8⟩:=this
     exact ⟨v,h7,hz.quiet ρ _ h8 (by rw [hr1.1];exact hex) C (by rw [hr1.1];exact hC) ops' hd Q hQ⟩
    ·rename_i hw
     rw [if_neg hw] at this
     exact hz.quiet ρ _ this (by rw [hr1.1];exact hex) C (by rw [hr1.1];exact hC) ops' hd Q hQ
   ·cases i with
    | zero =>
     rw [List.getElem?_cons_zero] at ho' he'
     cases ho';cases he'
     exact h5.grow h3 h2 hz.pre rfl
    | succ i =>
     rw [List.getElem?_cons_succ] at ho' he'
     exact hz.eff i o' e' ho' he' hef
   ·cases i with
    | zero =>
     rw [List.getElem?_cons_zero] at ho' he'
     cases ho'
     rw [heff] at hef;cases hef
    | succ i =>
     rw [List.getElem?_cons_succ] at ho' he'
     exact hz.still i o' e' ho' he' hef
  ·have hne:effOp2 o.op=false:=by simpa using hne
   refine zaa (zcQ (E:=E) (ops:=ops) hS hE hn0 hI true) fun r1 hr1=>zaa (zj0 hS hE hn0 hI l r1 H dead hl') fun z hz=>zab ?_
   have hq:=hr1.2 rfl
   refine ⟨by simp [hz.len],hz.hp.trans hq.1,hz.pre,⟨rfl,Nat.le_refl _,hz.chain⟩,fun ρ a hra hex C hC ops' hd Q hQ=>?_,fun i o' e' ho' he' hef=>?_,fun i o' e' ho' he' hef=>?_⟩
   ·have:=hq.2 ρ a hra hex C hC
    simp only [List.zipWith_cons_cons,wpQuiet]
    rw [zqS hne,za0 hd]
    split
    ·rename_i hw
     rw [if_pos hw] at this
     obtain ⟨v,h7,h8⟩:=this
     exact ⟨v,h7,hz.quiet ρ _ h8 (by rw [hq.1];exact hex) C (by rw [hq.1];exact hC) ops' hd Q hQ⟩
    ·rename_i hw
     rw [if_neg hw] at this
     exact hz.quiet ρ _ this (by rw [hq.1];exact hex) C (by rw [hq.1];exact hC) ops' hd Q hQ
   ·cases i with
    | zero =>
     rw [List.getElem?_cons_zero] at ho' he'
     cases ho'
     rw [hne] at hef;cases hef
    | succ i =>
     rw [List.getElem?_cons_succ] at ho' he'
     exact hz.eff i o' e' ho' he' hef
   ·cases i with
    | zero =>
     rw [List.getElem?_cons_zero] at ho' he'
     cases he'
     exact ⟨rfl,rfl⟩
    | succ i =>
     rw [List.getElem?_cons_succ] at ho' he'
     exact hz.still i o' e' ho' he' hef
theorem zlO {α:Type} {q:α→Bool} : ∀ {l:List (Option α)},(∀ (i:Nat) (x:α),nth l i=some x→q x=true)→l.all (zao q)=true
 | [],_=>rfl
 | x::l,h=>by
  simp only [List.all_cons,Bool.and_eq_true]
  refine ⟨?_,zlO fun i y hy=>h (i+1) y hy⟩
  cases x with
  | none=>rfl
  | some y=>exact h 0 y rfl
theorem HS.swirl {θ ρ2:Nat→Loc} {H R hp2:List (Option Blk)} {L L':Nat→Prop} {w w':World} {n m:Nat} (h:HS E ν θ (zb9 L H) w) (hWE:∀ b,¬ E.W b)
  (hR:∀ q bk,nth R q=some bk→L q∧nth H q=some bk∧bk.flat=true∧bk.refsIn (fun r=>Nat.blt r m)=true)
  (hRl:∀ q bk,nth R q=some bk→q<n)
  (h2:HS (callEnv R θ w) ν ρ2 hp2 w') (hρ:∀ q,q<n→ρ2 q=θ q)
  (hnew:∀ q bk,n≤q→q<m→nth H q=some bk→nth hp2 q=some bk∧bk.flat=true∧bk.refsIn (fun r=>Nat.blt r m)=true)
  (hL':∀ q,L' q→(L q∧¬ (n≤q∧q<m)∧(∀ bk,nth R q=some bk→nth hp2 q=some bk))∨(n≤q∧q<m))
  (href:∀ q bk,L q→nth H q=some bk→bk.refsIn (fun r=>!(Nat.ble n r&&Nat.blt r m))=true)
  (hn0:E.n0≤H.length) (hk0:∀ q,q<E.n0→q<n):HS E ν (fun q=>if n≤q∧q<m then ρ2 q else θ q) (zb9 L' H) w':=by
 generalize hθ':(fun q=>if n≤q∧q<m then ρ2 q else θ q)=θ'
 have hout:∀ q,¬ (n≤q∧q<m)→θ' q=θ q:=fun q hq=>by rw [←hθ'];exact if_neg hq
 have hin:∀ q,n≤q→q<m→θ' q=ρ2 q:=fun q h1 h2=>by rw [←hθ'];exact if_pos ⟨h1,h2⟩
 have hlow:∀ q,q<m→θ' q=ρ2 q:=fun q hq=>by
  rcases Nat.lt_or_ge q n with h1 | h1
  ·rw [hout q (by omega),hρ q h1]
  ·exact hin q h1 hq
 have hLat:∀ q bk,L q→nth H q=some bk→nth (zb9 L H) q=some bk:=fun q bk h1 h2=>zaG.2 ⟨h1,h2⟩
 -- own blocks of R: not of what stood
 have hRb:∀ q bk,nth R q=some bk→nth (zb9 L H) q=some bk:=fun q bk hq=>hLat q bk (hR q bk hq).1 (hR q bk hq).2.1
 have hsame:∀ q bk,L q→nth H q=some bk→nth R q=none→(θ q).nil=false→∀ b,bk.rfoot w (θ q) b→w'.heap[b]? = w.heap[b]?:=by
  intro q bk hLq hq hRq hnil b hf
  refine h2.fr.block _ ((h.heap.blk q bk (hLat q bk hLq hq)).lt hnil hf) ?_
  rintro ⟨j,x,hx,hxo,hxn,he⟩
  refine h.heap.apart j q x bk (hRb j x hx) hxo (hLat q bk hLq hq) (fun e=>?_) hxn hnil b he hf
  subst e
  rw [hx] at hRq;cases hRq
 -- it stood, and none was to look at it; or it came back
 have hcase:∀ q bk,nth (zb9 L' H) q=some bk→(L q∧nth H q=some bk∧θ' q=θ q∧nth R q=none)∨(nth hp2 q=some bk∧θ' q=ρ2 q∧bk.flat=true∧bk.refsIn (fun r=>Nat.blt r m)=true):=by
  intro q bk hq
  obtain ⟨g1,g2⟩:=zaG.1 hq
  rcases hL' q g1 with ⟨k1,k2,k3⟩ | ⟨k1,k2⟩
  ·cases hr:nth R q with
   | none=>exact .inl ⟨k1,g2,hout q k2,rfl⟩
   | some x =>
    obtain ⟨_,e1,e2,e3⟩:=hR q x hr
    rw [g2] at e1;cases e1
    exact .inr ⟨k3 bk hr,by rw [hout q k2,hρ q (hRl q _ hr)],e2,e3⟩
  ·obtain ⟨e1,e2,e3⟩:=hnew q bk k1 k2 g2
   exact .inr ⟨e1,hin q k1 k2,e2,e3⟩
 have hRall:R.all (zao Blk.flat)=true:=zlO fun q bk hq=>(hR q bk hq).2.2.1
 have hfe:∀ q bk,L q→nth H q=some bk→nth R q=none→(θ q).nil=false→∀ b,bk.foot w' (θ q) b↔bk.foot w (θ q) b:=fun q bk hLq hq hRq hnil b =>
  (h.heap.blk q bk (hLat q bk hLq hq)).foot_eq hnil (hsame q bk hLq hq hRq hnil) b
 have hre:∀ q bk,L q→nth H q=some bk→nth R q=none→(θ q).nil=false→∀ b,bk.rfoot w' (θ q) b↔bk.rfoot w (θ q) b:=fun q bk hLq hq hRq hnil b =>
  (h.heap.blk q bk (hLat q bk hLq hq)).rfoot_eq hnil (hsame q bk hLq hq hRq hnil) b
 have hmixR:∀ q bk q' bk',L q→nth H q=some bk→nth R q=none→nth hp2 q'=some bk'→bk'.own=true→(θ q).nil=false→(ρ2 q').nil=false→∀ b,bk.rfoot w (θ q) b→¬ bk'.foot w' (ρ2 q') b:=by
  intro q bk q' bk' hLq hq hRq hq' ho hn1 hn2 b hf1 hf2
  have hl:=(h.heap.blk q bk (hLat q bk hLq hq)).lt hn1 hf1
  have hne:∀ j x,nth R j=some x→j≠q:=fun j x hx e=>by subst e;rw [hx] at hRq;cases hRq
  rcases h2.old q' bk' hq' with g | g
  ·rw [hn2] at g;cases g
  rcases g.wr ho b hf2 with g | ⟨j,x,hx,hxo,hxn,hxe⟩
  ·have:w.heap.size≤b:=g
   omega
  ·exact h.heap.apart j q x bk (hRb j x hx) hxo (hLat q bk hLq hq) (hne j x hx) hxn hn1 b hxe hf1
 have hmixW:∀ q bk q' bk',L q→nth H q=some bk→nth R q=none→nth hp2 q'=some bk'→bk.own=true→(θ q).nil=false→(ρ2 q').nil=false→∀ b,bk.foot w (θ q) b→¬ bk'.rfoot w' (ρ2 q') b:=by
  intro q bk q' bk' hLq hq hRq hq' ho hn1 hn2 b hf1 hf2
  have hl:=(h.heap.blk q bk (hLat q bk hLq hq)).lt hn1 ((h.heap.blk q bk (hLat q bk hLq hq)).rd hn1 hf1)
  have hne:∀ j x,nth R j=some x→j≠q:=fun j x hx e=>by subst e;rw [hx] at hRq;cases hRq
  rcases h2.old q' bk' hq' with g | g
  ·rw [hn2] at g;cases g
  rcases g.rd b hf2 with g | ⟨j,x,hx,hxo,hxn,hxe⟩ | ⟨j,x,hx,hxn,hxe⟩ | ⟨hnf,_⟩
  ·have:w.heap.size≤b:=g
   omega
  ·exact h.heap.apart j q x bk (hRb j x hx) hxo (hLat q bk hLq hq) (hne j x hx) hxn hn1 b hxe ((h.heap.blk q bk (hLat q bk hLq hq)).rd hn1 hf1)
  ·exact h.heap.apart q j bk x (hLat q bk hLq hq) ho (hRb j x hx) (Ne.symm (hne j x hx)) hn1 hxn b hf1 hxe
  ·rw [hRall] at hnf;cases hnf
 refine ⟨⟨fun q bk hq=>?_,fun q q' bk bk' hq ho hq' hne hn1 hn2 b hf1 hf2=>?_⟩,fun q bk hq=>?_,?_,by rw [ze6];exact hn0,fun j hj=>by rw [hout j (by have:=hk0 j hj;omega)];exact h.keep j hj⟩
 ·rcases hcase q bk hq with ⟨k1,k2,k3,hr⟩ | ⟨k4,k5,g1,g2⟩
  ·rw [k3]
   refine ((h.heap.blk q bk (hLat q bk k1 k2)).of_block h2.fr.size (hsame q bk k1 k2 hr)).refs (p:=fun r=>!(Nat.ble n r&&Nat.blt r m)) (fun r hrr=>hout r fun ⟨e1,e2⟩=>?_) (href q bk k1 k2)
   simp only [Bool.not_eq_true',Bool.and_eq_false_iff] at hrr
   rcases hrr with hrr | hrr
   ·rw [Nat.ble_eq_true_of_le e1] at hrr;cases hrr
   ·rw [show Nat.blt r m=true from by simpa [Nat.blt_eq] using e2] at hrr;cases hrr
  ·rw [k5]
   exact ((h2.heap.blk q bk k4).flat g1).refs (p:=fun r=>Nat.blt r m) (fun r hrr=>hlow r (by simpa [Nat.blt_eq] using hrr)) g2
 ·rcases hcase q bk hq with ⟨k1,k2,k3,k4⟩ | ⟨k4,k5,_,_⟩<;>rcases hcase q' bk' hq' with ⟨m1,m2,m3,m4⟩ | ⟨m4,m5,_,_⟩
  ·rw [k3] at hn1 hf1
   rw [m3] at hn2 hf2
   exact h.heap.apart q q' bk bk' (hLat q bk k1 k2) ho (hLat q' bk' m1 m2) hne hn1 hn2 b ((hfe q bk k1 k2 k4 hn1 b).1 hf1) ((hre q' bk' m1 m2 m4 hn2 b).1 hf2)
  ·rw [k3] at hn1 hf1
   rw [m5] at hn2 hf2
   exact hmixW q bk q' bk' k1 k2 k4 m4 ho hn1 hn2 b ((hfe q bk k1 k2 k4 hn1 b).1 hf1) hf2
  ·rw [k5] at hn1 hf1
   rw [m3] at hn2 hf2
   exact hmixR q' bk' q bk m1 m2 m4 k4 ho hn2 hn1 b ((hre q' bk' m1 m2 m4 hn2 b).1 hf2) hf1
  ·rw [k5] at hn1 hf1
   rw [m5] at hn2 hf2
   exact h2.heap.apart q q' bk bk' k4 ho m4 hne hn1 hn2 b hf1 hf2
 ·rcases hcase q bk hq with ⟨k1,k2,k3,k4⟩ | ⟨k4,k5,_,_⟩
  ·rw [k3]
   cases hn:(θ q).nil with
   | true=>exact .inl rfl
   | false =>
    rcases h.old q bk (hLat q bk k1 k2) with g | g
    ·rw [hn] at g;cases g
    ·exact .inr ⟨fun o b hf=>g.wr o b ((hfe q bk k1 k2 k4 hn b).1 hf),fun b hf=>g.rd b ((hre q bk k1 k2 k4 hn b).1 hf)⟩
  ·rw [k5]
   rcases h2.old q bk k4 with g | g
   ·exact .inl g
   have hx0:∀ j x b,nth R j=some x→x.own=true→(θ j).nil=false→x.foot w (θ j) b→E.w0.heap.size≤b:=fun j x b hx hxo hxn hxe=>by
    rcases h.old j x (hRb j x hx) with o | o
    ·rw [hxn] at o;cases o
    rcases o.wr hxo b hxe with o | o
    ·exact o
    ·exact absurd o (hWE _)
   refine .inr ⟨fun o b hf=>?_,fun b hf=>?_⟩
   ·rcases g.wr o b hf with g | ⟨j,x,hx,hxo,hxn,hxe⟩
    ·exact .inl (Nat.le_trans h.fr.size g)
    ·exact .inl (hx0 j x b hx hxo hxn hxe)
   ·rcases g.rd b hf with g | ⟨j,x,hx,hxo,hxn,hxe⟩ | ⟨j,x,hx,hxn,hxe⟩ | ⟨hnf,_⟩
    ·exact .inl (Nat.le_trans h.fr.size g)
    ·exact .inl (hx0 j x b hx hxo hxn hxe)
    ·rcases h.old j x (hRb j x hx) with o | o
     ·rw [hxn] at o;cases o
     exact o.rd b hxe
    ·rw [hRall] at hnf;cases hnf
 ·refine ⟨h2.fr.os.trans h.fr.os,h2.fr.tape.trans h.fr.tape,h2.fr.output.trans h.fr.output,Nat.le_trans h.fr.size h2.fr.size,fun b hb hW=>?_⟩
  refine (h2.fr.block b (Nat.lt_of_lt_of_le hb h.fr.size) ?_).trans (h.fr.block b hb hW)
  rintro ⟨j,x,hx,hxo,hxn,hxe⟩
  rcases h.old j x (hRb j x hx) with o | o
  ·rw [hxn] at o;cases o
  rcases o.wr hxo b hxe with o | o
  ·omega
  ·exact hWE _ o
end
end Go.Sx
namespace Go.Sx
open Go.RowKit
section
variable {P:Program} {I:World→Prop} {S:Sigs} {F:FEnv} {E:Env} {gK:Nat} {ν:Nat→DV}
theorem ztd {o:Oper} {a a':Act} (he:effOp2 o.op=true) (h:∀ t∈zeP o.op,a'.tmps[t]? = a.tmps[t]?):execOp a.eval o=execOp a'.eval o:=by
 have key:∀ x∈zoT o.op,a.eval x=a'.eval x:=fun x hx=>zcw fun t ht=>h t (List.mem_flatMap.2 ⟨x,hx,ht⟩)
 have keyo:∀ y:Option Operand,(∀ x∈y.toList,a.eval x=a'.eval x)→y.map a.eval=y.map a'.eval:=fun y hy=>by
  cases y with
  | none=>rfl
  | some x=>simp [hy x (by simp)]
 cases hop:o.op<;>rw [hop] at he key<;>simp only [effOp2] at he<;>(try cases he)<;>simp only [zoT] at key<;>simp only [execOp,hop]
 case box t x=>rw [key x (by simp)]
 case buildSlice t len ps =>
  have:(ps.map fun (i,x)=>(i,a.eval x))=ps.map fun (i,x)=>(i,a'.eval x):=by
   apply Array.ext'
   simp only [Array.toList_map]
   exact List.map_congr_left fun p hp=>by rw [key p.2 (List.mem_map.2 ⟨p,hp,rfl⟩)]
  rw [this]
 case makeSlice t l c=>rw [key l (by simp),key c (by simp)]
 case slice t x lo hi mx =>
  rw [key x (by simp),keyo lo fun y hy=>key y (by simp at hy ⊢;exact .inr (.inl hy)),keyo hi fun y hy=>key y (by simp at hy ⊢;exact .inr (.inr (.inl hy))),keyo mx fun y hy=>key y (by simp at hy ⊢;exact .inr (.inr (.inr hy)))]
 case call c =>
  have hargs:c.args.map a.eval=c.args.map a'.eval:=by
   apply Array.ext'
   simp only [Array.toList_map]
   exact List.map_congr_left fun z hz=>key z (List.mem_append_right _ hz)
  split at he
  ·rename_i y hcal
   simp only [resolve,hcal,hargs,key y (List.mem_append_left _ (by rw [hcal];simp))]
  ·rename_i hcal
   simp only [resolve,hcal,hargs]
  ·cases he
theorem zek:∀ {l l':List (Option V)},zdh l l'=true→l.length=l'.length∧∀ (t:Nat) v,nth l t=some v→∃ v',nth l' t=some v'∧v'.eqB v=true
 | [],[],_=>⟨rfl,fun t v h=>by cases t<;>simp [nth] at h⟩
 | none::l,_::l',h=>by
  obtain ⟨h1,h2⟩:=zek (l:=l) (l':=l') h
  refine ⟨by simp [h1],fun t v hv=>?_⟩
  cases t with
  | zero=>simp [nth] at hv
  | succ t=>exact h2 t v hv
 | some v::l,some v'::l',h=>by
  simp only [zdh,Bool.and_eq_true] at h
  obtain ⟨h1,h2⟩:=zek (l:=l) (l':=l') h.2
  refine ⟨by simp [h1],fun t u hu=>?_⟩
  cases t with
  | zero =>
   simp only [nth,Option.some.injEq] at hu
   subst hu
   exact ⟨v',rfl,h.1⟩
  | succ t=>exact h2 t u hu
 | [],_::_,h=>by cases h
 | none::_,[],h=>by cases h
 | some _::_,[],h=>by cases h
 | some _::_,none::_,h=>by cases h
theorem zlP {sl:List (Option V)} : ∀ {l:List Oper} {es:List SwE},zi7 sl l es=true→∀ (i:Nat) (o:Oper) (e:SwE),l[i]? = some o→es[i]? = some e→effOp2 o.op=true→zdh e.sl sl=true
 | [],[],_,i,o,e,h,_,_=>by simp at h
 | x::l,y::es,hs,0,o,e,ho,he,hef=>by
  simp only [zi7,Bool.and_eq_true,Bool.or_eq_true,Bool.not_eq_true'] at hs
  rw [List.getElem?_cons_zero] at ho he
  cases ho;cases he
  rcases hs.1 with h | h
  ·rw [hef] at h;cases h
  ·exact h
 | x::l,y::es,hs,i+1,o,e,ho,he,hef=>by
  simp only [zi7,Bool.and_eq_true] at hs
  rw [List.getElem?_cons_succ] at ho he
  exact zlP hs.2 i o e ho he hef
 | [],_::_,hs,_,_,_,_,_,_=>by cases hs
 | _::_,[],hs,_,_,_,_,_,_=>by cases hs
theorem zqU {pre:List Oper} {es0:List SwE} {base:Nat} : ∀ {l:List Oper} {es:List SwE} {j:Nat},zsG pre es0 base j l es=true→∀ (i:Nat) (o:Oper) (e:SwE),l[i]? = some o→es[i]? = some e→swAt pre es0 base (o,j+i) e=true
 | [],[],j,_,i,o,e,h,_=>by simp at h
 | x::l,y::es,j,hs,0,o,e,ho,he=>by
  simp only [zsG,Bool.and_eq_true] at hs
  rw [List.getElem?_cons_zero] at ho he
  cases ho;cases he
  exact hs.1
 | x::l,y::es,j,hs,i+1,o,e,ho,he=>by
  simp only [zsG,Bool.and_eq_true] at hs
  rw [List.getElem?_cons_succ] at ho he
  have:=zqU hs.2 i o e ho he
  rwa [show j+1+i=j+(i+1) from by omega] at this
 | [],_::_,j,hs,_,_,_,_,_=>by cases hs
 | _::_,[],j,hs,_,_,_,_,_=>by cases hs
theorem zqV {dead:List Nat} : ∀ (l:List (Option Blk)) (j q:Nat) (bk:Blk),nth (finH dead j l) q=some bk→nth l q=some bk∧(bk.own=true∧bk.shr=false)∧memN (j+q) dead=false
 | [],j,q,bk,h=>by cases q<;>simp [finH,nth] at h
 | x::l,j,0,bk,h=>by
  simp only [finH,nth] at h
  split at h
  ·rename_i b
   split at h
   ·rename_i hc
    simp only [Bool.and_eq_true,Bool.not_eq_true'] at hc
    cases h
    exact ⟨rfl,hc.1,hc.2⟩
   ·cases h
  ·cases h
 | x::l,j,q+1,bk,h=>by
  simp only [finH,nth] at h ⊢
  have:=zqV l (j+1) q bk h
  rwa [show j+1+q=j+(q+1) from by omega] at this
theorem zn7:∀ {es:List SwE} (i:Nat) (e:SwE) (q:Nat),es[i]? = some e→q∈e.ks→q∈zsH es
 | [],i,e,q,h,_=>by simp at h
 | x::l,0,e,q,h,hq=>by
  rw [List.getElem?_cons_zero] at h;cases h
  exact List.mem_append_left _ hq
 | x::l,i+1,e,q,h,hq=>by
  rw [List.getElem?_cons_succ] at h
  exact List.mem_append_right _ (zn7 i e q h hq)
theorem zmN {base:Nat} : ∀ {l:List (Option Blk)} {j:Nat} {bk:Blk},nth (l.map (frz2 base)) j=some bk→∃ b,nth l j=some b∧bk=b.froze∧b.flat=true∧b.refsIn (fun q=>Nat.blt q base)=true
 | [],j,bk,h=>by cases j<;>simp [nth] at h
 | x::l,0,bk,h=>by
  simp only [List.map_cons,nth] at h ⊢
  unfold frz2 at h
  split at h
  ·rename_i b
   split at h
   ·rename_i hc
    simp only [Bool.and_eq_true] at hc
    cases h
    exact ⟨b,rfl,rfl,hc.1,hc.2⟩
   ·cases h
  ·cases h
 | x::l,j+1,bk,h=>zmN (l:=l) (j:=j) (by simpa [nth] using h)
theorem Blk.froze_flat (b:Blk):b.froze.flat=b.flat:=by cases b<;>rfl
theorem Blk.froze_refs (p:Nat→Bool) (b:Blk):b.froze.refsIn p=b.refsIn p:=by cases b<;>rfl
theorem HS.moved {θ θ':Nat→Loc} {H:List (Option Blk)} {w:World} (h:HS E ν θ H w) (h0:E.n0=0) {p:Nat→Prop} (hp:∀ q,p q→θ' q=θ q) (hH:∀ q bk,nth H q=some bk→p q∧∃ b:Nat→Bool,(∀ r,b r=true→p r)∧bk.refsIn b=true):HS E ν θ' H w:=by
 refine ⟨⟨fun q bk hq=>?_,fun q q' bk bk' hq ho hq' hne hn1 hn2=>?_⟩,fun q bk hq=>?_,h.fr,h.len,fun j hj=>by omega⟩
 ·obtain ⟨h1,b,h2,h3⟩:=hH q bk hq
  rw [hp q h1]
  exact (h.heap.blk q bk hq).refs (fun r hr=>hp r (h2 r hr)) h3
 ·rw [hp q (hH q bk hq).1] at hn1 ⊢
  rw [hp q' (hH q' bk' hq').1] at hn2 ⊢
  exact h.heap.apart q q' bk bk' hq ho hq' hne hn1 hn2
 ·rw [hp q (hH q bk hq).1]
  exact h.old q bk hq
theorem zv1 (hS:SigsOK P I gK S F) (hE:E.Ok gK) (hn0:S.n0=E.n0) (hI:∀ w,Fr E.W E.w0 w→I w) {ops:Array Oper} {n:Nat} {s:St} (hnl:n≤ops.toList.length) (hm:swB ops.toList n=true) :
  M.sat F ν (evSw P S ops.toList n s) (fun s'=>∀ ρ a w,RR ν E ρ ⟨s,[]⟩ a w→∀ Q:Exit→Act→World→Prop,(∀ ρ' a' w',RR ν E ρ' ⟨s',[]⟩ a' w'→Q .normal a' w') →
   wpAny P .any ops Q ops.size (Array.replicate ops.size false) a w):=by
 unfold swB at hm
 unfold evSw
 generalize hpre:ops.toList.take n=pre at hm ⊢
 simp only [Bool.and_eq_true] at hm
 obtain ⟨⟨⟨hheads,htail⟩,hlex⟩,hback⟩:=hm
 have hbk:zbR .any ops:=by have:=backB_ok' hback;simpa using this
 have hprel:pre.length=n:=by rw [←hpre,List.length_take];omega
 refine zae (fun hchk=>?_) (fun _=>zac)
 simp only [Bool.and_eq_true] at hchk
 have hsw:=zj0 (E:=E) (F:=F) (ν:=ν) hS hE hn0 hI (ops:=pre.toArray) (base:=s.hp.length) pre ⟨s,[]⟩ (s.hp.map (frz2 s.hp.length)) [] (fun o ho=>List.all_eq_true.1 hheads o ho)
 simp only at hsw
 refine zaa hsw fun z hz=>zae (fun hc2=>?_) (fun _=>zac)
 simp only [Bool.and_eq_true] at hc2
 obtain ⟨hswc,hsws⟩:=hc2
 obtain ⟨rf,H,es⟩:=z
 simp only at hz hswc hsws ⊢
 refine zaa (zb1 (E:=E) hS hE hn0 hI (ops:=ops) (ops.toList.drop n) ⟨⟨rf.st.sl,s.hp++(finH (zsH es) 0 H).drop s.hp.length⟩,rf.gl⟩) fun r2 hr2=>zab fun ρ a w hrr Q hQ=>?_
 have hchk2:hpLt s.hp=true:=hchk.2
 generalize hbase:s.hp.length=base at *
 have hmapl:(s.hp.map (frz2 base)).length=base:=by simp [hbase]
 have hch:=hz.chain
 rw [hmapl] at hch
 have hHl:base≤H.length:=hch.le
 have hHs:∀ q,q<base→nth H q=nth (s.hp.map (frz2 base)) q:=fun q hq=>by
  have:=congrArg (fun l=>nth l q) hz.pre
  simp only [zmM,hmapl,if_pos hq] at this
  exact this
 have hn0b:E.n0≤base:=by have:=hrr.hs.len;simp only at this;omega
 have hes:∀ i,i<pre.length→∃ e,es[i]? = some e:=fun i hi=>⟨_,List.getElem?_eq_getElem (by rw [hz.len];exact hi)⟩
 have hat:∀ j:Nat,pre.toArray[j]? = pre[j]?:=fun j=>by simp
 have hlt_of:∀ {i:Nat} {o:Oper},pre[i]? = some o→i<pre.length:=fun {i o} h=>by
  rcases Nat.lt_or_ge i pre.length with h1 | h1
  ·exact h1
  ·rw [List.getElem?_eq_none h1] at h;cases h
 have hlt_es:∀ {i:Nat} {e:SwE},es[i]? = some e→i<pre.length:=fun {i e} h=>by
  rcases Nat.lt_or_ge i pre.length with h1 | h1
  ·exact h1
  ·rw [List.getElem?_eq_none (by rw [hz.len];exact h1)] at h;cases h
 have hops_of:∀ {i:Nat},i<pre.length→∃ o,pre[i]? = some o:=fun h=>⟨_,List.getElem?_eq_getElem h⟩
 -- who made which block
 let made:Nat→Nat→Prop:=fun i q=>∃ e:SwE,es[i]? = some e∧e.a≤q∧q<e.b
 let known:Array Bool→Nat→Prop:=fun listed q=>q<base∨∃ i,listed.getD i false=true∧made i q
 let killed:Array Bool→Nat→Prop:=fun listed q=>∃ (k:Nat) (e:SwE),es[k]? = some e∧listed.getD k false=true∧q∈e.ks
 let live:Array Bool→Nat→Prop:=fun listed q=>known listed q∧¬ killed listed q
 have hmade:∀ {i j q:Nat},made i q→made j q→i=j:=by
  rintro i j q ⟨e,h1,h2,h3⟩ ⟨e',g1,g2,g3⟩
  rcases Nat.lt_trichotomy i j with h | h | h
  ·have:=hch.lt i j e e' h h1 g1;omega
  ·exact h
  ·have:=hch.lt j i e' e h g1 h1;omega
 have hmadeb:∀ {i q:Nat},made i q→base≤q:=by
  rintro i q ⟨e,h1,h2,h3⟩
  have:=(hch.at i e h1).1;omega
 have hknown:∀ {listed:Array Bool} {i q:Nat},known listed q→known (listed.setIfInBounds i true) q:=by
  intro listed i q h
  rcases h with h | ⟨j,h2,h3⟩
  ·exact .inl h
  ·exact .inr ⟨j,zaF h2,h3⟩
 have hnew:∀ {listed:Array Bool} {i q:Nat},known (listed.setIfInBounds i true) q→known listed q∨made i q:=by
  intro listed i q h
  rcases h with h | ⟨j,h2,h3⟩
  ·exact .inl (.inl h)
  ·rcases zbY h2 with rfl | h2
   ·exact .inr h3
   ·exact .inl (.inr ⟨j,h2,h3⟩)
 have hfresh:∀ {listed:Array Bool} {i q:Nat},listed.getD i false=false→made i q→¬ known listed q:=by
  intro listed i q hl hq h
  rcases h with h | ⟨j,h2,h3⟩
  ·have:=hmadeb hq;omega
  ·have:=hmade hq h3
   subst this
   rw [hl] at h2;cases h2
 -- what is known of an operation
 have hkind:∀ {i:Nat} {o:Oper},pre[i]? = some o→(effOp2 o.op=false→zbo o.op=true)∧(effOp2 o.op=true→o.guard=none):=fun {i o} h=>by
  have:=List.all_eq_true.1 hheads o (List.mem_of_getElem? h)
  unfold zhx at this
  cases he:effOp2 o.op<;>rw [he] at this<;>simp at this<;>simp [this]
 have hchkat:∀ {i:Nat} {o:Oper} {e:SwE},pre[i]? = some o→es[i]? = some e→effOp2 o.op=true →
   (∀ q∈e.fp,q<base∨∃ j,made j q∧j∈zax pre i (za6 o)) ∧
   (∀ (j:Nat) (e':SwE),es[j]? = some e'→j=i∨j∈zax pre i (za6 o)∨∀ q∈e.ks,q∉e'.fp) ∧
   (∀ t∈zeP o.op,∀ (j:Nat) o',pre[j]? = some o'→o'.dst=some t→j∈zax pre i (za6 o)):=fun {i o e} ho he hef=>by
  have:=zqU hswc i o e ho he
  rw [Nat.zero_add] at this
  unfold swAt at this
  simp only [hef,Bool.not_true,Bool.false_or,Bool.and_eq_true] at this
  have hanc:zgD pre i=zax pre i (za6 o):=by unfold zgD;rw [ho]
  rw [hanc] at this
  obtain ⟨⟨h1,h2⟩,h3⟩:=this
  refine ⟨fun q hq=>?_,fun j e' hj=>?_,fun t ht j o' ho' hd=>?_⟩
  ·have:=List.all_eq_true.1 h1 q hq
   simp only [Bool.or_eq_true] at this
   rcases this with h | h
   ·exact .inl (by simpa [Nat.blt_eq] using h)
   ·obtain ⟨⟨e',j⟩,hm1,hm2⟩:=List.any_eq_true.1 h
    simp only [Bool.and_eq_true] at hm2
    exact .inr ⟨j,⟨e',List.mem_zipIdx_iff_getElem?.1 hm1,Nat.le_of_ble_eq_true hm2.1.1,by simpa [Nat.blt_eq] using hm2.1.2⟩,zbb hm2.2⟩
  ·have:=List.all_eq_true.1 h2 (e',j) (List.mem_zipIdx_iff_getElem?.2 hj)
   simp only [Bool.or_eq_true] at this
   rcases this with (h | h) | h
   ·exact .inl (Nat.eq_of_beq_eq_true h)
   ·exact .inr (.inl (zbb h))
   ·refine .inr (.inr fun q hq hq'=>?_)
    have:=List.all_eq_true.1 h q hq
    rw [zei hq'] at this;cases this
  ·have:=List.all_eq_true.1 h3 (o',j) (List.mem_zipIdx_iff_getElem?.2 ho')
   simp only [zmn,hd,Bool.or_eq_true,Bool.not_eq_true'] at this
   rcases this with h | h
   ·rw [zei ht] at h;cases h
   ·exact zbb h
 have heffmem:∀ i,i∈(pre.zipIdx.filter fun p=>effOp2 p.1.op).map (·.2)↔∃ o,pre[i]? = some o∧effOp2 o.op=true:=fun i=>by
  rw [List.mem_map]
  constructor
  ·rintro ⟨⟨o,j⟩,h,rfl⟩
   obtain ⟨h1,h2⟩:=List.mem_filter.1 h
   exact ⟨o,List.mem_zipIdx_iff_getElem?.1 h1,h2⟩
  ·rintro ⟨o,h1,h2⟩
   exact ⟨(o,i),List.mem_filter.2 ⟨List.mem_zipIdx_iff_getElem?.2 h1,h2⟩,rfl⟩
 -- blocks' kinds and what they name
 have hblk:∀ q bk,nth H q=some bk→q<H.length∧bk.flat=true∧((q<base∧bk.own=false∧bk.refsIn (fun r=>Nat.blt r base)=true∧∃ b,nth s.hp q=some b∧bk=b.froze)∨∃ (i:Nat) (o:Oper) (e:SwE),pre[i]? = some o∧es[i]? = some e∧effOp2 o.op=true∧e.a≤q∧q<e.b∧bk.refsIn (rngB base e.fp e.a e.b)=true):=fun q bk hq=>by
  have hql:=zaY hq
  refine ⟨hql,?_⟩
  rcases Nat.lt_or_ge q base with h | h
  ·rw [hHs q h] at hq
   obtain ⟨b,g1,rfl,g2,g3⟩:=zmN hq
   exact ⟨by rw [Blk.froze_flat];exact g2,.inl ⟨h,Blk.froze_own b,by rw [Blk.froze_refs];exact g3,b,g1,rfl⟩⟩
  ·obtain ⟨i,e,g1,g2,g3⟩:=hch.surj q h hql
   obtain ⟨o,ho⟩:=hops_of (hlt_es g1)
   cases hef:effOp2 o.op with
   | false =>
    have:=(hz.still i o e ho g1 hef).1
    omega
   | true =>
    have:=(hz.eff i o e ho g1 hef).news q bk g2 g3 hq
    exact ⟨this.1,.inr ⟨i,o,e,ho,g1,hef,g2,g3,this.2⟩⟩
 have hrng:∀ {i:Nat} {o:Oper} {e:SwE} {r:Nat},pre[i]? = some o→es[i]? = some e→effOp2 o.op=true→rngB base e.fp e.a e.b r=true→r<base∨(∃ j,made j r∧(j=i∨j∈zax pre i (za6 o)))∧r<e.b:=fun {i o e r} ho he hef hr=>by
  unfold rngB at hr
  simp only [Bool.or_eq_true,Bool.and_eq_true] at hr
  rcases hr with (h | h) | h
  ·exact .inl (by simpa [Nat.blt_eq] using h)
  ·have hfp:=(hz.eff i o e ho he hef).fpl r (zbb h)
   rcases (hchkat ho he hef).1 r (zbb h) with g | ⟨j,g1,g2⟩
   ·exact .inl g
   ·exact .inr ⟨⟨j,g1,.inr g2⟩,by have:=(hch.at i e he).2.1;omega⟩
  ·have h1:=Nat.le_of_ble_eq_true h.1
   have h2:r<e.b:=by simpa [Nat.blt_eq] using h.2
   exact .inr ⟨⟨i,⟨e,he,h1,h2⟩,.inl rfl⟩,h2⟩
 refine zdp hbk (ops.toList.drop n) pre.toArray (by rw [←hpre];simp) (fun i hi o ho j hj=>?_) a w ?_
 ·have hi':n≤i:=by simpa [hprel] using hi
  have hmm:(o,i)∈ops.toList.zipIdx.drop n:=by
   rw [List.mem_iff_getElem?]
   refine ⟨i-n,?_⟩
   rw [List.getElem?_drop,show n+(i-n)=i from by omega,List.getElem?_zipIdx]
   have:ops.toList[i]? = some o:=by simpa using ho
   rw [this]
   simp
  have:=List.all_eq_true.1 htail _ hmm
  exact zbb (List.all_eq_true.1 this j (List.mem_range.2 hj))
 have hops':∀ (θ:Nat→Loc) (j:Nat),((List.zipWith (fun o e=>nopX (e.v.conc ν θ) o) pre es).toArray)[j]? = (match pre[j]?,es[j]? with | some o,some e=>some (nopX (e.v.conc ν θ) o) | _,_=>none):=fun θ j=>by
  simp [List.getElem?_zipWith]
  cases pre[j]?<;>cases es[j]?<;>rfl
 have hnopWd:∀ (v:Value) (o:Oper),(nopX v o).dst=o.dst∧(nopX v o).guard=o.guard∧(nopX v o).after=o.after:=fun v o=>by
  unfold nopX;split<;>exact ⟨rfl,rfl,rfl⟩
 have hsz:∀ θ:Nat→Loc,(List.zipWith (fun o e=>nopX (e.v.conc ν θ) o) pre es).toArray.size=pre.toArray.size:=fun θ=>by simp [hz.len]
 have hready:∀ (θ:Nat→Loc) listed,Region.ready .any (List.zipWith (fun o e=>nopX (e.v.conc ν θ) o) pre es).toArray listed=Region.ready .any pre.toArray listed:=fun θ listed=>by
  unfold Region.ready
  rw [hsz θ]
  refine List.filter_congr fun j _=>?_
  rw [hops' θ j,hat j]
  cases ho:pre[j]? with
  | none=>rfl
  | some o =>
   obtain ⟨e,he⟩:=hes j (hlt_of ho)
   rw [he]
   have e1:=(hnopWd (e.v.conc ν θ) o).2.2
   dsimp only
   generalize nopX (e.v.conc ν θ) o=o1 at e1 ⊢
   cases o1;cases o
   simp only at e1
   subst e1
   rfl
 have hdst:∀ (θ:Nat→Loc) (j:Nat),(((List.zipWith (fun o e=>nopX (e.v.conc ν θ) o) pre es).toArray)[j]?).bind (·.dst)=((pre.toArray)[j]?).bind (·.dst):=fun θ j=>by
  rw [hops' θ j,hat j]
  cases ho:pre[j]? with
  | none=>rfl
  | some o =>
   obtain ⟨e,he⟩:=hes j (hlt_of ho)
   rw [he]
   exact (hnopWd _ o).1
 have hbkp:zbR .any pre.toArray:=fun i o ho=>hbk i o (by
  rw [hat] at ho
  have:ops.toList[i]? = some o:=by
   rw [←hpre,List.getElem?_take] at ho
   split at ho
   ·exact ho
   ·cases ho
  simpa using this)
 have hw0:HS E ν ρ s.hp w:=hrr.hs
 generalize hEh:zps s.hp ρ w=Eh
 have hEhW:∀ b,¬ Eh.W b:=fun b hb=>by rw [←hEh] at hb;exact hb
 have hEh0:Eh.n0=0:=by rw [←hEh];rfl
 have hEhw:Eh.w0=w:=by rw [←hEh];rfl
 have hstart:∀ {θ:Nat→Loc} {L:Nat→Prop} {w1:World},HS E ν θ s.hp w→HS Eh ν θ (zb9 L H) w1→HS E ν θ s.hp w1:=fun {θ L w1} h1 h2=>by
  have hf:=h2.fr
  rw [hEhw] at hf
  exact h1.of_below (Fr.below (hf.weaken fun b hb=>absurd hb (hEhW b)))
 have hIw:∀ {θ:Nat→Loc} {L:Nat→Prop} {w1:World},HS E ν θ s.hp w→HS Eh ν θ (zb9 L H) w1→I w1:=fun {θ L w1} h1 h2=>hI w1 (hstart h1 h2).fr
 refine zlJ (P:=P) (Θ:=Nat→Loc) (ops:=pre.toArray) (ops':=fun θ=>(List.zipWith (fun o e=>nopX (e.v.conc ν θ) o) pre es).toArray) (st:=(pre.zipIdx.filter fun p=>effOp2 p.1.op).map (·.2)) (val:=fun i θ=>(es.getD i default).v.conc ν θ)
  (C:=fun θ w=>HS E ν θ s.hp w) (D:=fun listed θ w1=>HS E ν θ s.hp w∧HS Eh ν θ (zb9 (live listed) H) w1∧∀ q bk,known listed q→nth H q=some bk→∃ p:Nat→Bool,(∀ r,p r=true→known listed r)∧bk.refsIn p=true)
  (Sm:=fun listed θ θ'=>∀ q,known listed q→θ' q=θ q) (Qf:=fun θ a'=>ARel ν θ rf a')
  (tm:=fun i=>match pre[i]? with | some o=>zeP o.op | none=>[]) hbkp hready hdst (fun θ i hi=>?_) (fun i hi=>?_) (fun listed θ θ' w1 hd hsm1=>?_) (fun listed θ w1 hd=>hstart hd.1 hd.2.1) (fun _ _ _ _=>rfl)
  (fun listed i θ θ' θ'' h1 h2 q hq=>(h2 q (hknown hq)).trans (h1 q hq)) (fun listed i θ θ' hi hs hsm1=>?_) (fun i o hi ho a1 w1 f args w2=>?_) (fun listed i θ w1 hi hd=>?_) (fun i o hi ho listed hcl hrd t ht j o' ho' hd'=>?_)
  (fun i o hi ho listed hs hcl' hrd θ w1 hd a1 a2 ha2 htm=>?_) (fun θ a1 w1 listed hall ha1 hd=>?_) pre.toArray.size (Array.replicate pre.toArray.size false) a w ρ (by simp) (zej _ _) ?_ (fun θ' hsm1=>?_)
 ·-- what is neither
  show ((List.zipWith (fun o e=>nopX (e.v.conc ν θ) o) pre es).toArray)[i]? = _
  rw [hops' θ i,hat i]
  cases ho:pre[i]? with
  | none=>rfl
  | some o =>
   obtain ⟨e,he⟩:=hes i (hlt_of ho)
   rw [he]
   have:effOp2 o.op=false:=by
    cases h:effOp2 o.op with
    | false=>rfl
    | true=>exact absurd ((heffmem i).2 ⟨o,ho,h⟩) hi
   simp only [zqS this]
 ·obtain ⟨o,h1,h2⟩:=(heffmem i).1 hi
  obtain ⟨e,he⟩:=hes i (hlt_of h1)
  refine ⟨o,by rw [hat];exact h1,(hkind h1).2 h2,fun θ=>⟨nopX (e.v.conc ν θ) o,?_,by rw [(hnopWd _ o).2.1];exact (hkind h1).2 h2,(hnopWd _ o).1,fun a1 w1=>?_⟩⟩
  ·show ((List.zipWith (fun o e=>nopX (e.v.conc ν θ) o) pre es).toArray)[i]? = _
   rw [hops' θ i,h1,he]
  ·rw [zqT h2,List.getD_eq_getElem?_getD,he]
   simp [execOp,Act.eval]
 ·obtain ⟨d1,d2,d3⟩:=hd
  refine ⟨d1.reloc hchk2 (fun j hj=>hsm1 j (.inl (by rw [←hbase];exact hj))),d2.moved hEh0 (p:=known listed) hsm1 (fun q bk hq=>?_),d3⟩
  obtain ⟨g1,g2⟩:=zaG.1 hq
  exact ⟨g1.1,d3 q bk g1.1 g2⟩
 ·-- the values of what is listed
  obtain ⟨o,h1,h2⟩:=(heffmem i).1 hi
  have hil:=hlt_of h1
  have hli:(listed.setIfInBounds i true).getD i false=true:=by
   have:i<listed.size:=by rw [hs];simpa using hil
   rw [Array.getD_eq_getD_getElem?,Array.getElem?_setIfInBounds_self_of_lt this]
   rfl
  obtain ⟨e,he⟩:=hes i hil
  simp only [List.getD_eq_getElem?_getD,he,Option.getD_some]
  refine V.inB_conc (hz.eff i o e h1 he h2).val fun q hq=>?_
  unfold rngB at hq
  simp only [memN,Bool.or_eq_true,Bool.and_eq_true] at hq
  rcases hq with (hq | hq) | hq
  ·exact hsm1 q (.inl (by simpa [Nat.blt_eq] using hq))
  ·cases hq
  ·exact hsm1 q (.inr ⟨i,hli,e,he,Nat.le_of_ble_eq_true hq.1,by simpa [Nat.blt_eq] using hq.2⟩)
 ·rw [hat] at ho
  have:effOp2 o.op=false:=by
   cases h:effOp2 o.op with
   | false=>rfl
   | true=>exact absurd ((heffmem i).2 ⟨o,ho,h⟩) hi
  exact zdm ((hkind ho).1 this) a1 w1 f args w2
 ·-- what turns nothing
  obtain ⟨d1,d2,d3⟩:=hd
  have hno:∀ q,¬ made i q:=by
   rintro q ⟨e,h1,h2,h3⟩
   obtain ⟨o,ho⟩:=hops_of (hlt_es h1)
   cases hef:effOp2 o.op with
   | false=>have:=(hz.still i o e ho h1 hef).1;omega
   | true=>exact hi ((heffmem i).2 ⟨o,ho,hef⟩)
  have hkn:∀ q,known (listed.setIfInBounds i true) q↔known listed q:=fun q=>⟨fun h=>(hnew h).resolve_right (hno q),hknown⟩
  have hkl:∀ q,killed (listed.setIfInBounds i true) q↔killed listed q:=fun q=>by
   constructor
   ·rintro ⟨k,e,h1,h2,h3⟩
    rcases zbY h2 with rfl | h2
    ·obtain ⟨o,ho⟩:=hops_of (hlt_es h1)
     cases hef:effOp2 o.op with
     | false=>rw [(hz.still k o e ho h1 hef).2] at h3;cases h3
     | true=>exact absurd ((heffmem k).2 ⟨o,ho,hef⟩) hi
    ·exact ⟨k,e,h1,h2,h3⟩
   ·rintro ⟨k,e,h1,h2,h3⟩
    exact ⟨k,e,h1,zaF h2,h3⟩
  have hlv:live (listed.setIfInBounds i true)=live listed:=funext fun q=>propext ⟨fun h=>⟨(hkn q).1 h.1,fun g=>h.2 ((hkl q).2 g)⟩,fun h=>⟨(hkn q).2 h.1,fun g=>h.2 ((hkl q).1 g)⟩⟩
  have hkf:known (listed.setIfInBounds i true)=known listed:=funext fun q=>propext (hkn q)
  rw [hlv,hkf]
  exact ⟨d1,d2,d3⟩
 ·rw [hat] at ho ho'
  obtain ⟨o2,h1,h2⟩:=(heffmem i).1 hi
  rw [ho] at h1;cases h1
  rw [ho] at ht
  obtain ⟨e,he⟩:=hes i (hlt_of ho)
  have:=(hchkat ho he h2).2.2 t ht j o' ho' hd'
  exact zbx hcl (by rw [hat];exact ho) hrd j this
 ·-- one that makes, or ends
  rw [hat] at ho
  obtain ⟨o2,h1,hef⟩:=(heffmem i).1 hi
  rw [ho] at h1;cases h1
  rw [ho] at htm
  obtain ⟨d1,d2,d3⟩:=hd
  have hil:=hlt_of ho
  have hnl:listed.getD i false=false:=by
   obtain ⟨h4,_⟩:=mem_ready.1 hrd
   rw [←zaz (by rw [hs];simpa using hil)]
   exact h4
  obtain ⟨e,he⟩:=hes i hil
  have hfact:=hz.eff i o e ho he hef
  obtain ⟨c1,c2,c3⟩:=hchkat ho he hef
  have hat2:=hch.at i e he
  have hanc:∀ j,j∈zax pre i (za6 o)→listed.getD j false=true:=fun j hj=>zbx hcl' (by rw [hat];exact ho) hrd j hj
  -- what waits for it is not listed
  have hbeh:∀ (k:Nat) (o':Oper),pre[k]? = some o'→listed.getD k false=true→i∉zax pre k (za6 o'):=fun k o' ho' hk hi'=>by
   have:listed.getD i false=true:=zcv (ops:=pre.toArray) hcl' k (za6 o') (fun x hx=>by
    obtain ⟨ed,h1,h2,rfl⟩:=zfw hx
    exact hcl' k o' (by rw [hat];exact ho') hk ed h1 h2) i hi'
   rw [hnl] at this;cases this
  have hmk_in:∀ q,e.a≤q→q<e.b→made i q:=fun q h1 h2=>⟨e,he,h1,h2⟩
  generalize hRd:keepAt e.fp 0 (H.take e.a)=R at *
  have hR:∀ q bk,nth R q=some bk→q∈e.fp∧q<e.a∧nth H q=some bk:=fun q bk h=>by
   rw [←hRd,zhN,Nat.zero_add] at h
   split at h
   ·rename_i hm
    rw [zmM] at h
    split at h
    ·rename_i hl;exact ⟨zbb hm,hl,h⟩
    ·cases h
   ·cases h
  have hkn:∀ q∈e.fp,known listed q:=fun q hq=>by
   rcases c1 q hq with h | ⟨j,h1,h2⟩
   ·exact .inl h
   ·exact .inr ⟨j,hanc j h2,h1⟩
  have hnk:∀ q∈e.fp,¬ killed listed q:=by
   rintro q hq ⟨k,ek,g1,g2,g3⟩
   obtain ⟨ok,hok⟩:=hops_of (hlt_es g1)
   cases hefk:effOp2 ok.op with
   | false=>rw [(hz.still k ok ek hok g1 hefk).2] at g3;cases g3
   | true =>
    rcases (hchkat hok g1 hefk).2.1 i e he with h | h | h
    ·subst h;rw [hnl] at g2;cases g2
    ·exact hbeh k ok hok g2 h
    ·exact h q g3 hq
  have hRL:∀ q bk,nth R q=some bk→live listed q∧nth H q=some bk:=fun q bk h=>⟨⟨hkn q (hR q bk h).1,hnk q (hR q bk h).1⟩,(hR q bk h).2.2⟩
  have hRbl:∀ q bk,nth R q=some bk→nth (zb9 (live listed) H) q=some bk:=fun q bk h=>zaG.2 (hRL q bk h)
  have href:∀ q bk,nth H q=some bk→∀ m,base≤m→(∀ (i':Nat) (o':Oper) (e':SwE),pre[i']? = some o'→es[i']? = some e'→e'.a≤q→q<e'.b→e'.b≤m)→bk.refsIn (fun r=>Nat.blt r m)=true:=fun q bk h m hm hb=>by
   rcases (hblk q bk h).2.2 with ⟨g1,g2,g3,_⟩ | ⟨i',o',e',g1,g2,g3,g4,g5,g6⟩
   ·exact Blk.refsIn_mono (fun r hr=>by
     have:r<base:=by simpa [Nat.blt_eq] using hr
     simp only [Nat.blt_eq];omega) g3
   ·have hb':=hb i' o' e' g1 g2 g4 g5
    exact Blk.refsIn_mono (fun r hr=>by
     rcases hrng g1 g2 g3 hr with h | ⟨_,h⟩<;>simp only [Nat.blt_eq]<;>omega) g6
  have hreadR:HS (callEnv R θ w1) ν θ R w1:=by
   refine ⟨⟨fun q bk hq=>(d2.heap.blk q bk (hRbl q bk hq)).flat (hblk q bk (hR q bk hq).2.2).2.1,fun q q' bk bk' hq hbo hq' hne hn1 hn2=>d2.heap.apart q q' bk bk' (hRbl q bk hq) hbo (hRbl q' bk' hq') hne hn1 hn2⟩,fun q bk hq=>?_,Fr.refl _ _,Nat.le_refl _,fun _ _=>rfl⟩
   cases hn:(θ q).nil with
   | true=>exact .inl rfl
   | false =>
    cases hbo:bk.own with
    | true=>exact .inr ⟨fun _ b hf=>.inr ⟨q,bk,hq,hbo,hn,hf⟩,fun b hf=>.inr (.inr (.inl ⟨q,bk,hq,hn,hf⟩))⟩
    | false=>exact .inr ⟨fun o=>(by cases o),fun b hf=>.inr (.inr (.inl ⟨q,bk,hq,hn,hf⟩))⟩
  have hsz1:w.heap.size≤w1.heap.size:=by have:=d2.fr.size;rw [hEhw] at this;exact this
  have hEok:(callEnv R θ w1).Ok gK:=by
   have hsw0:gK≤w.heap.size:=Nat.le_trans hE.1 hw0.fr.size
   refine ⟨Nat.le_trans hsw0 hsz1,?_⟩
   rintro b ⟨j,x,hx,hxo,hxn,hxe⟩
   rcases d2.old j x (hRbl j x hx) with g | g
   ·rw [hxn] at g;cases g
   rcases g.wr hxo b hxe with g | g
   ·rw [hEhw] at g;omega
   ·exact absurd g (hEhW _)
  have hslots:=zek (zlP hsws i o e ho he hef)
  have haR:ARel ν θ ⟨⟨e.sl,R⟩,[]⟩ a2:=by
   refine ⟨ha2.defers,by rw [ha2.size];exact hslots.1.symm,fun t v ht=>?_,fun g hg=>by cases hg⟩
   obtain ⟨v',k1,k2⟩:=hslots.2 t v ht
   exact ⟨V.eqB_good k2,by rw [(ha2.slot t v' k1).2,V.eqB_conc k2 θ]⟩
  have hval1:∀ (θ2 ρ2:Nat→Loc),(∀ j,j<e.a→ρ2 j=θ j)→(∀ q,θ2 q=if e.a≤q∧q<e.b then ρ2 q else θ q)→e.v.conc ν θ2=e.v.conc ν ρ2:=fun θ2 ρ2 k1 k2=>by
   refine V.inB_conc hfact.val fun q hq=>?_
   unfold rngB at hq
   simp only [memN,Bool.or_eq_true,Bool.and_eq_true] at hq
   rw [k2 q]
   rcases hq with (hq | hq) | hq
   ·have hqb:q<base:=by simpa [Nat.blt_eq] using hq
    rw [if_neg (by omega),k1 q (by omega)]
   ·cases hq
   ·rw [if_pos ⟨Nat.le_of_ble_eq_true hq.1,by simpa [Nat.blt_eq] using hq.2⟩]
  have hop1:execOp a1.eval o=execOp a2.eval o:=ztd hef htm
  rw [hop1]
  refine (hfact.fact (callEnv R θ w1) hEok θ a2 (by rw [hRd];exact haR) w1 (by rw [hRd];exact hreadR) (hIw d1 d2)).mono fun v w' ⟨ρ2,hp2,k1,k2,k3,k4,k5,k6⟩=>?_
  rw [hRd] at k4 k5
  refine ⟨fun q=>if e.a≤q∧q<e.b then ρ2 q else θ q,fun q hq=>?_,?_,?_,?_,fun q bk hk hq=>?_⟩
  ·refine if_neg fun hh=>?_
   exact hfresh hnl (hmk_in q hh.1 hh.2) hq
  ·right
   simp only [List.getD_eq_getElem?_getD,he,Option.getD_some]
   rw [k3]
   exact hval1 _ ρ2 k1 fun _=>rfl
  ·exact d1.reloc hchk2 fun j hj=>if_neg (by omega)
  ·refine d2.swirl hEhW (fun q bk hq=>⟨(hRL q bk hq).1,(hR q bk hq).2.2,(hblk q bk (hR q bk hq).2.2).2.1,?_⟩) (fun q bk hq=>(hR q bk hq).2.1) k2 k1 (fun q bk g1 g2 g3=>?_) (fun q hq=>?_) (fun q bk hq hqH=>?_) (by rw [hEh0];exact Nat.zero_le _) (fun q hq=>by omega)
   ·refine href q bk (hR q bk hq).2.2 e.b (by omega) fun i' o' e' g1 g2 g3 g4=>?_
    have hqa:=(hR q bk hq).2.1
    rcases Nat.lt_trichotomy i' i with h | h | h
    ·have:=hch.lt i' i e' e h g2 he;omega
    ·subst h;rw [he] at g2;cases g2;exact Nat.le_refl _
    ·have:=hch.lt i i' e e' h he g2;omega
   ·refine ⟨by rw [k6 q g1 g2];exact g3,(hblk q bk g3).2.1,href q bk g3 e.b (by omega) fun i' o' e' m1 m2 m3 m4=>?_⟩
    have:i'=i:=hmade ⟨e',m2,m3,m4⟩ (hmk_in q g1 g2)
    subst this;rw [he] at m2;cases m2;exact Nat.le_refl _
   ·obtain ⟨g1,g2⟩:=hq
    rcases hnew g1 with h | ⟨e',m1,m2,m3⟩
    ·left
     refine ⟨⟨h,fun hk=>g2 ?_⟩,fun hh=>hfresh hnl (hmk_in q hh.1 hh.2) h,fun bk hb=>k5 q bk (hR q bk hb).2.1 hb fun hks=>g2 ?_⟩
     ·obtain ⟨k,ek,n1,n2,n3⟩:=hk
      exact ⟨k,ek,n1,zaF n2,n3⟩
     ·refine ⟨i,e,he,?_,hks⟩
      have:i<listed.size:=by rw [hs];simpa using hil
      rw [Array.getD_eq_getD_getElem?,Array.getElem?_setIfInBounds_self_of_lt this]
      rfl
    ·rw [he] at m1;cases m1
     exact .inr ⟨m2,m3⟩
   ·obtain ⟨p,n1,n2⟩:=d3 q bk hq.1 hqH
    refine Blk.refsIn_mono (fun r hr=>?_) n2
    have hkr:=n1 r hr
    cases hx:Nat.ble e.a r&&Nat.blt r e.b with
    | false=>rfl
    | true =>
     simp only [Bool.and_eq_true] at hx
     exact absurd hkr (hfresh hnl (hmk_in r (Nat.le_of_ble_eq_true hx.1) (by simpa [Nat.blt_eq] using hx.2)))
  ·rcases hnew hk with h | h
   ·obtain ⟨p,n1,n2⟩:=d3 q bk h hq
    exact ⟨p,fun r hr=>hknown (n1 r hr),n2⟩
   ·obtain ⟨e',m1,m2,m3⟩:=h
    rw [he] at m1;cases m1
    have hli:(listed.setIfInBounds i true).getD i false=true:=by
     have:i<listed.size:=by rw [hs];simpa using hil
     rw [Array.getD_eq_getD_getElem?,Array.getElem?_setIfInBounds_self_of_lt this]
     rfl
    refine ⟨_,fun r hr=>?_,(hfact.news q bk m2 m3 hq).2⟩
    rcases hrng ho he hef hr with g | ⟨⟨j,g1,g2⟩,_⟩
    ·exact .inl g
    ·rcases g2 with rfl | g2
     ·exact .inr ⟨j,hli,g1⟩
     ·exact .inr ⟨j,zaF (hanc j g2),g1⟩
 ·-- all is listed
  obtain ⟨d1,d2,d3⟩:=hd
  show wpList P ops Q (ops.toList.drop n) a1 w1
  refine hr2 θ a1 w1 ⟨⟨ha1.defers,ha1.size,ha1.slot,ha1.gl⟩,?_⟩ Q fun ρ' a' w' h'=>hQ ρ' a' w' h'.drop
  have hf:=d2.fr
  rw [hEhw] at hf
  have hbel:Below w.heap.size w w1:=Fr.below (hf.weaken fun b hb=>absurd hb (hEhW b))
  have hfin:∀ q bk,base≤q→nth (s.hp++(finH (zsH es) 0 H).drop base) q=some bk→nth (zb9 (live listed) H) q=some bk∧(bk.own=true∧bk.shr=false):=by
   intro q bk hq h
   rw [zaE,if_neg (by omega),hbase,zgW,show base+(q-base)=q from by omega] at h
   obtain ⟨g1,g2,g3⟩:=zqV _ _ _ _ h
   rw [Nat.zero_add] at g3
   refine ⟨zaG.2 ⟨⟨?_,?_⟩,g1⟩,g2⟩
   ·obtain ⟨i,e,k1,k2,k3⟩:=hch.surj q hq (zaY g1)
    exact .inr ⟨i,hall i (by simpa using hlt_es k1),e,k1,k2,k3⟩
   ·rintro ⟨k,e,k1,_,k3⟩
    rw [zei (zn7 k e q k1 k3)] at g3;cases g3
  refine d1.grow (N:=fun q=>base≤q) (base:=base) hbel hn0b (by rw [List.length_append,hbase];omega) (fun _ _=>rfl) (fun q bk hq=>?_) (fun q q' bk bk' hq hq' h ho h' hne hn1 hn2=>?_)
  ·rcases Nat.lt_or_ge q base with h | h
   ·rw [zaE,if_pos (by omega)] at hq
    have:=zan hchk2 hq
    rw [hbase] at this
    exact .inl ⟨hq,rfl,this⟩
   ·obtain ⟨g1,g2⟩:=hfin q bk h hq
    refine .inr ⟨(d2.heap.blk q bk g1).flat (hblk q bk (zaG.1 g1).2).2.1,?_,h⟩
    rcases d2.old q bk g1 with o | o
    ·exact .inl o
    cases gn:(θ q).nil with
    | true=>exact .inl rfl
    | false =>
    have hfo:∀ b,bk.foot w1 (θ q) b→w.heap.size≤b:=fun b hf=>by
     rcases o.wr g2.1 b hf with o | o
     ·rw [hEhw] at o;exact o
     ·exact absurd o (hEhW _)
    exact .inr ⟨fun _ b hf=>.inl (hfo b hf),fun b hf=>.inl (hfo b ((d2.heap.blk q bk g1).ex gn g2.1 g2.2 hf))⟩
  ·exact d2.heap.apart q q' bk bk' (hfin q bk hq h).1 (hfin q bk hq h).2.1 (hfin q' bk' hq' h').1 hne hn1 hn2
 ·-- at first
  have hf0:∀ i,(Array.replicate pre.toArray.size false).getD i false=false:=fun i=>by
   rw [Array.getD_eq_getD_getElem?,Array.getElem?_replicate]
   split<;>rfl
  have hk0:∀ q,known (Array.replicate pre.toArray.size false) q→q<base:=by
   rintro q (h | ⟨i,h,_⟩)
   ·exact h
   ·rw [hf0] at h;cases h
  have hin:∀ q bk,q<base→nth H q=some bk→∃ b,nth s.hp q=some b∧bk=b.froze∧b.flat=true∧bk.refsIn (fun r=>Nat.blt r base)=true:=fun q bk hq h=>by
   rw [hHs q hq] at h
   obtain ⟨b,g1,rfl,g2,g3⟩:=zmN h
   exact ⟨b,g1,rfl,g2,by rw [Blk.froze_refs];exact g3⟩
  refine ⟨hw0,⟨⟨fun q bk hq=>?_,fun q q' bk bk' hq ho _ _ _ _=>?_⟩,fun q bk hq=>?_,by rw [←hEh];exact Fr.refl _ _,by rw [hEh0];exact Nat.zero_le _,fun j hj=>by omega⟩,fun q bk hk hq=>?_⟩
  ·obtain ⟨g1,g2⟩:=zaG.1 hq
   obtain ⟨b,k1,rfl,k2,_⟩:=hin q bk (hk0 q g1.1) g2
   exact ((hw0.heap.blk q b k1).flat k2).froze
  ·obtain ⟨g1,g2⟩:=zaG.1 hq
   obtain ⟨b,k1,rfl,k2,_⟩:=hin q bk (hk0 q g1.1) g2
   rw [Blk.froze_own] at ho;cases ho
  ·obtain ⟨g1,g2⟩:=zaG.1 hq
   obtain ⟨b,k1,rfl,k2,_⟩:=hin q bk (hk0 q g1.1) g2
   cases hn:(ρ q).nil with
   | true=>exact .inl rfl
   | false=>exact .inr ⟨fun o=>(by rw [Blk.froze_own] at o;cases o),fun b' hf=>.inr (.inr (by rw [←hEh];exact ⟨q,b,k1,hn,by rw [Blk.froze_rfoot] at hf;exact hf⟩))⟩
  ·obtain ⟨b,k1,rfl,k2,k3⟩:=hin q bk (hk0 q hk) hq
   exact ⟨_,fun r hr=>.inl (by simpa [Nat.blt_eq] using hr),k3⟩
 ·have hρ:∀ q,q<base→θ' q=ρ q:=fun q hq=>hsm1 q (.inl hq)
  have ha1:ARel ν θ' ⟨s,[]⟩ a:=hrr.act.ext (fun j hj=>hρ j (by omega)) hchk.1 (by simp) s.hp
  have hs1:HS E ν θ' s.hp w:=hrr.hs.reloc hchk2 (fun j hj=>hρ j (by rw [←hbase];exact hj))
  have hwq:=hz.quiet θ' a ha1 ⟨w,hs1⟩ _ rfl (List.zipWith (fun o e=>nopX (e.v.conc ν θ') o) pre es).toArray (hdst θ') (fun a'=>ARel ν θ' rf a') (fun _ h=>h)
  have hB:Region.lexB .any (List.zipWith (fun o e=>nopX (e.v.conc ν θ') o) pre es).toArray=true:=by
   rw [←hlex]
   refine zhM (by simp [hz.len]) fun j o1 o2 h1 h2=>?_
   rw [List.getElem?_map] at h2
   obtain ⟨o,g1,rfl⟩:=Option.map_eq_some_iff.1 h2
   obtain ⟨e,he⟩:=hes j (hlt_of g1)
   rw [List.getElem?_zipWith,g1,he] at h1
   simp only [Option.some.injEq] at h1
   subst h1
   refine ⟨by rw [(hnopWd _ o).1,(hnopWd _ o).1],by rw [(hnopWd _ o).2.1,(hnopWd _ o).2.1],by rw [(hnopWd _ o).2.2,(hnopWd _ o).2.2],?_⟩
   unfold nopX
   split
   ·exact .inr ⟨_,_,rfl,rfl⟩
   ·exact .inl rfl
  simp only [Region.lexB,Bool.and_eq_true] at hB
  have:=wpAnyQ_lex (P:=P) (C:=fun w=>HS E ν θ' s.hp w) (md:=.any) hB.1 (List.zipWith (fun o e=>nopX (e.v.conc ν θ') o) pre es) 0 (Array.replicate (List.zipWith (fun o e=>nopX (e.v.conc ν θ') o) pre es).toArray.size false) a (by simp) (by simpa using hB.2) hwq
  rw [hsz θ'] at this
  simpa [hz.len] using this
end
end Go.Sx
