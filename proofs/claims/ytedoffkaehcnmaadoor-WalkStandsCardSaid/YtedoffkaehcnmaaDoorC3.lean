/- Regions whose order is drawn: whatever the calls and the new blocks among them, any order does as the list does. -/
import Derived.Test.YtedoffkaehcnmaaDoorC2
namespace Go.Sx
open Go.RowKit
section
variable {P:Program}
theorem zon {head:Array Oper} {last:Oper} {listed:Array Bool} (hs:listed.size=head.size) (hc:zbL head listed):zbL (head.push last) (listed.push false):=by
 intro i o ho hl e he hb
 rw [zaK] at hl ⊢
 have hi:i<head.size:=by
  rcases Nat.lt_or_ge i head.size with h | h
  ·exact h
  ·rw [Array.getD_eq_getD_getElem?,Array.getElem?_eq_none (by omega)] at hl;cases hl
 rw [Array.getElem?_push,if_neg (by omega)] at ho
 exact hc i o ho hl e he hb
theorem zoo {head:Array Oper} {last:Oper} {Q Qh:Exit→Act→World→Prop} (hb:zb5 .any (head.push last)) (hw:∀ i,i<head.size→i∈zaA (head.push last).toList head.size (zbB last))
  (hq:∀ e a w,e≠.normal→Qh e a w→Q e a w) (hl:∀ a w,Qh .normal a w→wpOp P (head.push last) Q head.size (Q .normal) a w) :
  ∀ (fuel:Nat) (listed:Array Bool) (a:Act) (w:World),listed.size=head.size→zbL head listed→wpAny P .any head Qh fuel listed a w→wpAny P .any (head.push last) Q (fuel+1) (listed.push false) a w:=by
 have hbh:zb5 .any head:=fun i o ho=>hb i o (by
  have hi:i<head.size:=by
   rcases Nat.lt_or_ge i head.size with h | h
   ·exact h
   ·rw [Array.getElem?_eq_none h] at ho;cases ho
  rw [Array.getElem?_push,if_neg (by omega)];exact ho)
 have hlast:(head.push last)[head.size]? = some last:=by simp
 have hbl:=hb head.size last hlast
 have r1:∀ listed:Array Bool,listed.size=head.size→∀ i,i∈Region.ready .any (head.push last) (listed.push false)→i=head.size∨(i<head.size∧i∈Region.ready .any head listed):=by
  intro listed hs i hi
  obtain ⟨h1,oi,h2,h3⟩:=mem_ready.1 hi
  rcases Nat.lt_trichotomy i head.size with h | h | h
  ·right
   refine ⟨h,mem_ready.2 ⟨by rw [←zbv (by omega)];exact h1,oi,by rw [Array.getElem?_push,if_neg (by omega)] at h2;exact h2,fun e he hbd=>by rw [←zaK];exact h3 e he hbd⟩⟩
  ·exact .inl h
  ·rw [Array.getElem?_eq_none (by simp;omega)] at h2;cases h2
 have r2:∀ listed:Array Bool,listed.size=head.size→zbL head listed→head.size∈Region.ready .any (head.push last) (listed.push false)→Region.ready .any head listed=[]:=by
  intro listed hs hc hi
  have hall:=zbW (zon hs hc) hlast hi
  apply List.eq_nil_iff_forall_not_mem.2
  intro j hj
  obtain ⟨h4,oj,h5,_⟩:=mem_ready.1 hj
  have hjl:j<head.size:=by
   rcases Nat.lt_or_ge j head.size with h | h
   ·exact h
   ·rw [Array.getElem?_eq_none h] at h5;cases h5
  have:=hall j (hw j hjl)
  rw [zaK,←zaw (by omega),h4] at this
  cases this
 have r3:∀ listed:Array Bool,listed.size=head.size→Region.ready .any head listed=[]→head.size∈Region.ready .any (head.push last) (listed.push false):=by
  intro listed hs h0
  refine mem_ready.2 ⟨zhX hs true,last,hlast,fun e he hbd=>?_⟩
  rw [zaK]
  exact zbV hs hbh h0 e.on (hbl.1 e he hbd)
 have rend:∀ listed:Array Bool,listed.size=head.size→Region.ready .any head listed=[]→Region.ready .any (head.push last) ((listed.push false).setIfInBounds head.size true)=[]:=by
  intro listed hs h0
  apply List.eq_nil_iff_forall_not_mem.2
  intro j hj
  obtain ⟨h4,oj,h5,_⟩:=mem_ready.1 hj
  have hjl:j<head.size+1:=by
   rcases Nat.lt_or_ge j (head.size+1) with h | h
   ·exact h
   ·rw [Array.getElem?_eq_none (by simp;omega)] at h5;cases h5
  by_cases hjn:j=head.size
  ·subst hjn
   rw [Array.getD_eq_getD_getElem?,Array.getElem?_setIfInBounds_self_of_lt (by simp [hs])] at h4
   cases h4
  ·have:=zbV hs hbh h0 j (by omega)
   rw [getD_set_ne true (Ne.symm hjn),zbv (by omega),zaw (by omega),this] at h4
   cases h4
 have fin:∀ (fuel:Nat) (listed:Array Bool) (a:Act) (w:World),listed.size=head.size→Region.ready .any head listed=[]→Q .normal a w →
   wpAny P .any (head.push last) Q fuel ((listed.push false).setIfInBounds head.size true) a w:=by
  intro fuel listed a w hs h0 hn
  have he:=rend listed hs h0
  cases fuel with
  | zero=>exact ⟨he,hn⟩
  | succ f=>exact ⟨fun _=>hn,fun i hi=>by rw [he] at hi;cases hi⟩
 intro fuel
 induction fuel with
 | zero =>
  intro listed a w hs hc h
  refine ⟨fun h0=>?_,fun i hi=>?_⟩
  ·have:=r3 listed hs h.1
   rw [h0] at this;cases this
  ·rcases r1 listed hs i hi with rfl | ⟨_,hi'⟩
   ·exact wpOp_mono (fun a' w' hn=>fin 0 listed a' w' hs h.1 hn) (hl a w h.2)
   ·rw [h.1] at hi';cases hi'
 | succ fuel ih =>
  intro listed a w hs hc h
  refine ⟨fun h0=>?_,fun i hi=>?_⟩
  ·exfalso
   have hz:Region.ready .any head listed=[]:=by
    apply List.eq_nil_iff_forall_not_mem.2
    intro j hj
    obtain ⟨h4,oj,h5,h6⟩:=mem_ready.1 hj
    have hjl:j<head.size:=by
     rcases Nat.lt_or_ge j head.size with h | h
     ·exact h
     ·rw [Array.getElem?_eq_none h] at h5;cases h5
    have:j∈Region.ready .any (head.push last) (listed.push false):=mem_ready.2 ⟨by rw [zbv (by omega)];exact h4,oj,by rw [Array.getElem?_push,if_neg (by omega)];exact h5,fun e he hbd=>by rw [zaK];exact h6 e he hbd⟩
    rw [h0] at this;cases this
   have:=r3 listed hs hz
   rw [h0] at this;cases this
  ·rcases r1 listed hs i hi with rfl | ⟨hil,hi'⟩
   ·have hz:=r2 listed hs hc hi
    exact wpOp_mono (fun a' w' hn=>fin (fuel+1) listed a' w' hs hz hn) (hl a w (h.1 hz))
   ·have h2:=h.2 i hi'
    have hset:(listed.push false).setIfInBounds i true=(listed.setIfInBounds i true).push false:=by
     apply Array.ext'
     simp only [Array.toList_setIfInBounds,Array.toList_push]
     rw [List.set_append_left _ _ (by simpa using (show i<listed.size from by omega))]
    rw [hset]
    refine zfX (by rw [Array.getElem?_push,if_neg (by omega)]) (fun o ho=>?_) (fun a' w' h'=>ih _ a' w' (by simpa using hs) (hc.set hi') h') hq h2
    exact zjf (i:=i) (by omega) (hbh i o ho).2
theorem zfZ (ops:Array Oper) (n:Nat):zbL ops (Array.replicate n false):=by
 intro i o _ hl
 rw [Array.getD_eq_getD_getElem?,Array.getElem?_replicate] at hl
 split at hl<;>simp at hl
theorem zeM {ops:Array Oper} {Q:Exit→Act→World→Prop} (hb:zb5 .any ops):∀ (rest:List Oper) (head:Array Oper),ops.toList=head.toList++rest →
  (∀ i,head.size≤i→∀ o,ops[i]? = some o→∀ j,j<i→j∈zaA (ops.toList.take (i+1)) i (zbB o)) →
  ∀ a w,wpAny P .any head (fun e a w=>match e with | .normal=>wpList P ops Q rest a w | e=>Q e a w) head.size (Array.replicate head.size false) a w →
  wpAny P .any ops Q ops.size (Array.replicate ops.size false) a w
 | [],head,ho,_,a,w,h=>by
  have:head=ops:=by apply Array.ext';simpa using ho.symm
  subst this
  refine zhl (fun e a w hh=>?_) _ _ _ _ h
  cases e<;>exact hh
 | o::rest,head,ho,hw,a,w,h=>by
  have hpre:∀ i,i<head.size+1→(head.push o)[i]? = ops[i]?:=fun i hi=>by
   have h1:ops[i]? = ops.toList[i]?:=by simp
   rw [h1,ho]
   by_cases hih:i<head.size
   ·rw [List.getElem?_append_left (by simpa using hih),Array.getElem?_push,if_neg (by omega)];simp
   ·have:i=head.size:=by omega
    subst this
    simp
  have hbp:zb5 .any (head.push o):=fun i x hx=>hb i x (by
   rw [←hpre i (by
    rcases Nat.lt_or_ge i (head.size+1) with h | h
    ·exact h
    ·rw [Array.getElem?_eq_none (by simp;omega)] at hx;cases hx)]
   exact hx)
  have ho':ops[head.size]? = some o:=by rw [←hpre _ (by omega)];simp
  have htk:ops.toList.take (head.size+1)=(head.push o).toList:=by
   rw [ho,Array.toList_push]
   have:(head.toList++o::rest)=(head.toList++[o])++rest:=by simp
   rw [this,List.take_left' (by simp)]
  refine zeM hb rest (head.push o) (by simp [ho]) (fun i hi x hx j hj=>hw i (by simp at hi;omega) x hx j hj) a w ?_
  have:=zoo (P:=P) (head:=head) (last:=o) (Q:=fun e a w=>match e with | .normal=>wpList P ops Q rest a w | e=>Q e a w) hbp
   (fun i hi=>by rw [←htk];exact hw head.size (Nat.le_refl _) o ho' i hi) (Qh:=fun e a w=>match e with | .normal=>wpList P ops Q (o::rest) a w | e=>Q e a w)
   (fun e a w hne hh=>by cases e<;>first | exact absurd rfl hne | exact hh)
   (fun a w hh=>by
    simp only [wpList] at hh
    unfold wpOp
    have e1:(head.push o)[head.size]? = some o:=by simp
    simp only [e1]
    have hwd:Region.wanted o (yielded (head.push o) a.tmps)=Region.wanted o (yielded ops a.tmps):=by
     unfold Region.wanted
     cases hgd:o.guard with
     | none=>rfl
     | some p =>
      obtain ⟨j,b⟩:=p
      have:=(hb head.size o ho').2 j b hgd
      simp only [yielded,hpre j (by omega)]
    rw [hwd]
    split
    ·rename_i hwt
     simp only [hwt,if_true] at hh
     exact zd1 (fun a w h=>h) (fun e a w hne h=>by cases e<;>first | exact absurd rfl hne | exact h) hh
    ·rename_i hwt
     simp only [hwt] at hh
     exact hh) head.size (Array.replicate head.size false) a w (by simp) (zfZ _ _) h
  have hr:(Array.replicate head.size false).push false=Array.replicate (head.push o).size false:=by
   simp [Array.replicate_succ]
  rw [hr] at this
  simpa using this
def zgE (P:Program) (m:Sem Next) (w:World) (K:Value→World→Prop):Prop :=
 (∃ v w',(m.run P w = .ok (.value v) w'∨(m.run P w = .ok .skip w'∧v=undef))∧K v w')∨∃ f args w1,m.run P w = .ok (.enter f args) w1∧Calls P f args w1 fun e w'=>∃ v,e = .returned v∧K v w'
theorem zjk {Θ:Type} {ops:Array Oper} {ops':Θ→Array Oper} {st:List Nat} {val:Nat→Θ→Value} {C:Θ→World→Prop} {D:Array Bool→Θ→World→Prop} {Sm:Array Bool→Θ→Θ→Prop}
  {Qf:Θ→Act→Prop} {Q':Exit→Act→World→Prop} {tm:Nat→List Nat} (hb:zb5 .any ops)
  (hready:∀ θ listed,Region.ready .any (ops' θ) listed=Region.ready .any ops listed) (hdst:∀ θ (j:Nat),((ops' θ)[j]?).bind (·.dst)=(ops[j]?).bind (·.dst))
  (hns:∀ θ (i:Nat),i∉st→(ops' θ)[i]? = ops[i]?)
  (hst:∀ i∈st,∃ o,ops[i]? = some o∧∀ θ,∃ o',(ops' θ)[i]? = some o'∧o'.guard=o.guard∧o'.dst=o.dst∧∀ (a:Act) (w:World),(execOp a.eval o').run P w = .ok (.value (val i θ)) w)
  (hD:∀ listed θ θ' w,D listed θ w→Sm listed θ θ'→D listed θ' w) (hDC:∀ listed θ w,D listed θ w→C θ w)
  (hrefl:∀ listed θ,Sm listed θ θ) (htrans:∀ listed i θ θ' θ'',Sm listed θ θ'→Sm (listed.setIfInBounds i true) θ' θ''→Sm listed θ θ'')
  (hval:∀ (listed:Array Bool) i θ θ',i∈st→listed.size=ops.size→Sm (listed.setIfInBounds i true) θ θ'→val i θ'=val i θ)
  (hpure:∀ (i:Nat) (o:Oper),i∉st→ops[i]? = some o→∀ (a:Act) (w:World) f args w',(execOp a.eval o).run P w≠.ok (.enter f args) w')
  (hDset:∀ (listed:Array Bool) i θ w,i∉st→D listed θ w→D (listed.setIfInBounds i true) θ w)
  (hop:∀ (i:Nat) (o:Oper),i∈st→ops[i]? = some o→∀ listed,zbL ops listed→i∈Region.ready .any ops listed→∀ t∈tm i,∀ (j:Nat) (o':Oper),ops[j]? = some o'→o'.dst=some t→listed.getD j false=true)
  (hstep:∀ (i:Nat) (o:Oper),i∈st→ops[i]? = some o→∀ listed,listed.size=ops.size→zbL ops listed→i∈Region.ready .any ops listed→∀ θ w,D listed θ w→∀ a a':Act,Qf θ a'→(∀ t∈tm i,a'.tmps[t]? = a.tmps[t]?)→Region.wanted o (yielded ops a.tmps)=true →
   zgE P (execOp a.eval o) w fun v w'=>∃ θ',Sm listed θ θ'∧(o.dst=none∨val i θ'=v)∧D (listed.setIfInBounds i true) θ' w')
  (hskip:∀ (i:Nat) (o:Oper),i∈st→ops[i]? = some o→∀ listed,listed.size=ops.size→zbL ops listed→i∈Region.ready .any ops listed→∀ θ w,D listed θ w→∀ a a':Act,Qf θ a'→(∀ t∈tm i,a'.tmps[t]? = a.tmps[t]?)→Region.wanted o (yielded ops a.tmps)=false →
   ∃ θ',Sm listed θ θ'∧D (listed.setIfInBounds i true) θ' w)
  (hQ:∀ θ a w listed,(∀ i,i<ops.size→listed.getD i false=true)→Qf θ a→D listed θ w→Q' .normal a w) :
  ∀ (fuel:Nat) (listed:Array Bool) (a:Act) (w:World) (θ:Θ),listed.size=ops.size→zbL ops listed→D listed θ w→(∀ θ',Sm listed θ θ'→wpAnyQ P .any (ops' θ') (C θ') (Qf θ') fuel listed a)→wpAny P .any ops Q' fuel listed a w:=by
 intro fuel
 induction fuel with
 | zero =>
  intro listed a w θ hs hcl hd h
  have h0:=h θ (hrefl _ _)
  have h1:=h0.1
  rw [hready] at h1
  exact ⟨h1,hQ θ a w listed (zbV hs hb h1) h0.2 hd⟩
 | succ fuel ih =>
  intro listed a w θ hs hcl hd h
  refine ⟨fun h1=>?_,fun i hi=>?_⟩
  ·have h0:=h θ (hrefl _ _)
   exact hQ θ a w listed (zbV hs hb h1) (h0.1 (by rw [hready];exact h1)) hd
  ·have hs':(listed.setIfInBounds i true).size=ops.size:=by simpa using hs
   have hcl':=hcl.set hi
   obtain ⟨hnl,oi,hoi,_⟩:=mem_ready.1 hi
   have hil:i<ops.size:=by
    rcases Nat.lt_or_ge i ops.size with h | h
    ·exact h
    ·rw [Array.getElem?_eq_none h] at hoi;cases hoi
   by_cases him:i∈st
   ·obtain ⟨o,e1,e3⟩:=hst i him
    rw [hoi] at e1;cases e1
    have hsame:∀ θ' (o':Oper),o'.guard=oi.guard→Region.wanted o' (yielded (ops' θ') a.tmps)=Region.wanted oi (yielded ops a.tmps):=fun θ' o' hg=>by
     unfold Region.wanted
     rw [hg,zba (hdst θ')]
    by_cases hwd:Region.wanted oi (yielded ops a.tmps)=true
    rotate_left
    ·-- it is passed over
     have hwd:=(Bool.not_eq_true _).mp hwd
     unfold wpOp
     rw [hoi]
     simp only
     rw [if_neg (by rw [hwd];decide)]
     have nxt:∀ θ',Sm listed θ θ'→wpAnyQ P .any (ops' θ') (C θ') (Qf θ') fuel (listed.setIfInBounds i true) (a.put oi.dst undef):=by
      intro θ' hsm0
      have hq:=(h θ' hsm0).2 i (by rw [hready];exact hi)
      obtain ⟨o',e4,e5,e6,e7⟩:=e3 θ'
      unfold qOp at hq
      rw [e4] at hq
      simp only at hq
      rw [if_neg (by rw [hsame θ' o' e5,hwd];decide),e6] at hq
      exact hq
     obtain ⟨a',ha',htm⟩:=zda fuel _ _ (nxt θ (hrefl _ _))
     obtain ⟨θ1,hs1,hd1⟩:=hskip i oi him hoi listed hs hcl hi θ w hd a a' ha' (fun t ht=>by
      have hne:oi.dst≠some t:=fun e=>by
       have:=hop i oi him hoi listed hcl hi t ht i oi hoi e
       rw [←zaw (by omega),hnl] at this
       cases this
      rw [htm t (fun j o'' ho'' hd''=>?_),zfY hne]
      have hjd:(ops[j]?).bind (·.dst)=some t:=by rw [←hdst θ j,ho''];exact hd''
      cases hoj:ops[j]? with
      | none=>rw [hoj] at hjd;cases hjd
      | some oj =>
       rw [hoj] at hjd
       have hjl:j<listed.size:=by
        rcases Nat.lt_or_ge j ops.size with h | h
        ·omega
        ·rw [Array.getElem?_eq_none h] at hoj;cases hoj
       have:=zaX (i:=i) (hop i oi him hoi listed hcl hi t ht j oj hoj hjd)
       rw [zaw (by simpa using hjl)]
       exact this) hwd
     exact ih _ _ w θ1 hs' hcl' hd1 fun θ' hsm=>nxt θ' (htrans listed i θ θ1 θ' hs1 hsm)
    -- one step of each
    have next:∀ θ',Sm listed θ θ'→wpAnyQ P .any (ops' θ') (C θ') (Qf θ') fuel (listed.setIfInBounds i true) (a.put oi.dst (val i θ')):=by
     intro θ' hsm
     have hq:=(h θ' hsm).2 i (by rw [hready];exact hi)
     obtain ⟨o',e4,e5,e6,e7⟩:=e3 θ'
     have hwd':Region.wanted o' (yielded (ops' θ') a.tmps)=true:=by rw [hsame θ' o' e5];exact hwd
     unfold qOp at hq
     rw [e4] at hq
     simp only at hq
     rw [if_pos hwd'] at hq
     obtain ⟨v,hv,h4⟩:=hq
     have h3:=hv w (hDC _ _ _ (hD _ _ _ _ hd hsm))
     unfold Oper.quietAt at h3
     rw [e7 a w] at h3
     have hvv:val i θ'=v:=h3.2
     rw [hvv,←e6]
     exact h4
    have go:∀ v w',(∃ θ',Sm listed θ θ'∧(oi.dst=none∨val i θ'=v)∧D (listed.setIfInBounds i true) θ' w')→wpAny P .any ops Q' fuel (listed.setIfInBounds i true) (a.put oi.dst v) w':=by
     rintro v w' ⟨θ',hsm,hvv,hd'⟩
     have hpe:a.put oi.dst v=a.put oi.dst (val i θ'):=by
      rcases hvv with h | h
      ·rw [h];rfl
      ·rw [h]
     rw [hpe]
     refine ih _ _ w' θ' hs' hcl' hd' fun θ'' hsm'=>?_
     rw [←hval listed i θ' θ'' him hs hsm']
     exact next θ'' (htrans listed i θ θ' θ'' hsm hsm')
    obtain ⟨a',ha',htm⟩:=zda fuel _ _ (next θ (hrefl _ _))
    have hst':=hstep i oi him hoi listed hs hcl hi θ w hd a a' ha' (fun t ht=>by
     have hne:oi.dst≠some t:=fun e=>by
      have:=hop i oi him hoi listed hcl hi t ht i oi hoi e
      rw [←zaw (by omega),hnl] at this
      cases this
     rw [htm t (fun j o'' ho'' hd''=>?_),zfY hne]
     have hjd:(ops[j]?).bind (·.dst)=some t:=by rw [←hdst θ j,ho''];exact hd''
     cases hoj:ops[j]? with
     | none=>rw [hoj] at hjd;cases hjd
     | some oj =>
      rw [hoj] at hjd
      have hjl:j<listed.size:=by
       rcases Nat.lt_or_ge j ops.size with h | h
       ·omega
       ·rw [Array.getElem?_eq_none h] at hoj;cases hoj
      have:=zaX (i:=i) (hop i oi him hoi listed hcl hi t ht j oj hoj hjd)
      rw [zaw (by simpa using hjl)]
      exact this) hwd
    unfold wpOp
    rw [hoi]
    simp only
    rw [if_pos hwd]
    refine .inl ?_
    unfold Oper.wp
    rcases hst' with ⟨v,w',hr | ⟨hr,rfl⟩,hk⟩ | ⟨f,args,w1,hr,hk⟩
    ·rw [hr]
     exact go v w' hk
    ·rw [hr]
     exact go undef w' hk
    ·rw [hr]
     exact Calls.mono hk fun e w' ⟨v,he,hk⟩=>by subst he;exact go v w' hk
   ·have hq:=(h θ (hrefl _ _)).2 i (by rw [hready];exact hi)
    unfold qOp at hq
    rw [hns θ i him,hoi] at hq
    simp only [zba (hdst θ)] at hq
    unfold wpOp
    rw [hoi]
    simp only
    have each:∀ θ',Sm listed θ θ'→(if Region.wanted oi (yielded ops a.tmps)=true then ∃ v,(∀ w,C θ' w→oi.quietAt P a (C θ') w v)∧wpAnyQ P .any (ops' θ') (C θ') (Qf θ') fuel (listed.setIfInBounds i true) (a.put oi.dst v) else wpAnyQ P .any (ops' θ') (C θ') (Qf θ') fuel (listed.setIfInBounds i true) (a.put oi.dst undef)):=by
     intro θ' hsm
     have hq:=(h θ' hsm).2 i (by rw [hready];exact hi)
     unfold qOp at hq
     rw [hns θ' i him,hoi] at hq
     simp only [zba (hdst θ')] at hq
     exact hq
    split
    ·rename_i hwt
     rw [if_pos hwt] at hq
     refine .inl ?_
     have hne:=hpure i oi him hoi a w
     have hval2:∀ θ',Sm listed θ θ'→∃ v,Oper.quietUpon P (C θ') w v ((execOp a.eval oi).run P w)∧wpAnyQ P .any (ops' θ') (C θ') (Qf θ') fuel (listed.setIfInBounds i true) (a.put oi.dst v):=by
      intro θ' hsm
      have:=each θ' hsm
      rw [if_pos hwt] at this
      obtain ⟨v,h1,h2⟩:=this
      exact ⟨v,h1 w (hDC _ _ _ (hD _ _ _ _ hd hsm)),h2⟩
     have sm1:∀ θ',Sm (listed.setIfInBounds i true) θ θ'→Sm listed θ θ':=fun θ' hsm=>htrans listed i θ θ θ' (hrefl _ _) hsm
     unfold Oper.wp
     generalize (execOp a.eval oi).run P w=r at *
     obtain ⟨v0,h3,_⟩:=hval2 θ (hrefl _ _)
     cases r with
     | ok n w' =>
      cases n<;>simp only [Oper.quietUpon] at h3<;>simp only [Oper.upon]
      case value u =>
       obtain ⟨e1,_⟩:=h3
       rw [e1]
       refine ih _ _ w θ hs' hcl' (hDset _ _ _ _ him hd) fun θ' hsm=>?_
       obtain ⟨v,h4,h5⟩:=hval2 θ' (sm1 θ' hsm)
       have h4:w'=w∧u=v:=h4
       rw [h4.2]
       exact h5
      case skip =>
       obtain ⟨e1,_⟩:=h3
       rw [e1]
       refine ih _ _ w θ hs' hcl' (hDset _ _ _ _ him hd) fun θ' hsm=>?_
       obtain ⟨v,h4,h5⟩:=hval2 θ' (sm1 θ' hsm)
       have h4:w'=w∧v=undef:=h4
       rw [h4.2] at h5
       exact h5
      case enter f args=>exact absurd rfl (hne f args w')
     | halt x w'=>simp only [Oper.quietUpon] at h3
    ·rename_i hwt
     rw [if_neg hwt] at hq
     refine ih _ _ w θ hs' hcl' (hDset _ _ _ _ him hd) fun θ' hsm=>?_
     have:=each θ' (htrans listed i θ θ θ' (hrefl _ _) hsm)
     rw [if_neg hwt] at this
     exact this
theorem zqp {Θ:Type} {ops:Array Oper} {ops':Θ→Array Oper} {st:List Nat} {val:Nat→Θ→Value} {C:Θ→World→Prop} {D:Array Bool→Θ→World→Prop} {Sm:Array Bool→Θ→Θ→Prop}
  {Qf:Θ→Act→Prop} {Q':Exit→Act→World→Prop} {tm:Nat→List Nat} (hb:zb5 .any ops)
  (hready:∀ θ listed,Region.ready .any (ops' θ) listed=Region.ready .any ops listed) (hdst:∀ θ (j:Nat),((ops' θ)[j]?).bind (·.dst)=(ops[j]?).bind (·.dst))
  (hns:∀ θ (i:Nat),i∉st→(ops' θ)[i]? = ops[i]?)
  (hst:∀ i∈st,∃ o,ops[i]? = some o∧o.guard=none∧∀ θ,∃ o',(ops' θ)[i]? = some o'∧o'.guard=none∧o'.dst=o.dst∧∀ (a:Act) (w:World),(execOp a.eval o').run P w = .ok (.value (val i θ)) w)
  (hD:∀ listed θ θ' w,D listed θ w→Sm listed θ θ'→D listed θ' w) (hDC:∀ listed θ w,D listed θ w→C θ w)
  (hrefl:∀ listed θ,Sm listed θ θ) (htrans:∀ listed i θ θ' θ'',Sm listed θ θ'→Sm (listed.setIfInBounds i true) θ' θ''→Sm listed θ θ'')
  (hval:∀ (listed:Array Bool) i θ θ',i∈st→listed.size=ops.size→Sm (listed.setIfInBounds i true) θ θ'→val i θ'=val i θ)
  (hpure:∀ (i:Nat) (o:Oper),i∉st→ops[i]? = some o→∀ (a:Act) (w:World) f args w',(execOp a.eval o).run P w≠.ok (.enter f args) w')
  (hDset:∀ (listed:Array Bool) i θ w,i∉st→D listed θ w→D (listed.setIfInBounds i true) θ w)
  (hop:∀ (i:Nat) (o:Oper),i∈st→ops[i]? = some o→∀ listed,zbL ops listed→i∈Region.ready .any ops listed→∀ t∈tm i,∀ (j:Nat) (o':Oper),ops[j]? = some o'→o'.dst=some t→listed.getD j false=true)
  (hstep:∀ (i:Nat) (o:Oper),i∈st→ops[i]? = some o→∀ listed,listed.size=ops.size→zbL ops listed→i∈Region.ready .any ops listed→∀ θ w,D listed θ w→∀ a a':Act,Qf θ a'→(∀ t∈tm i,a'.tmps[t]? = a.tmps[t]?) →
   zgE P (execOp a.eval o) w fun v w'=>∃ θ',Sm listed θ θ'∧(o.dst=none∨val i θ'=v)∧D (listed.setIfInBounds i true) θ' w')
  (hQ:∀ θ a w listed,(∀ i,i<ops.size→listed.getD i false=true)→Qf θ a→D listed θ w→Q' .normal a w) :
  ∀ (fuel:Nat) (listed:Array Bool) (a:Act) (w:World) (θ:Θ),listed.size=ops.size→zbL ops listed→D listed θ w→(∀ θ',Sm listed θ θ'→wpAnyQ P .any (ops' θ') (C θ') (Qf θ') fuel listed a)→wpAny P .any ops Q' fuel listed a w :=
 zjk hb hready hdst hns (fun i hi=>let ⟨o,h1,h2,h3⟩:=hst i hi;⟨o,h1,fun θ=>let ⟨o',g1,g2,g3,g4⟩:=h3 θ;⟨o',g1,g2.trans h2.symm,g3,g4⟩⟩) hD hDC hrefl htrans hval hpure hDset hop
  (fun i o hi ho listed hs hcl hr θ w hd a a' hq ht _=>hstep i o hi ho listed hs hcl hr θ w hd a a' hq ht)
  (fun i o hi ho listed _ _ _ θ w _ a _ _ _ hw=>by
   obtain ⟨o2,h1,h2,_⟩:=hst i hi
   rw [ho] at h1;cases h1
   simp [Region.wanted,h2] at hw) hQ
end
section
variable {F:FEnv} {E:Env} {ν:Nat→DV}
theorem HS.grow {ρ ρ':Nat→Loc} {hp hp':List (Option Blk)} {w w':World} {base:Nat} {N:Nat→Prop} (h:HS E ν ρ hp w) (hb:Below w.heap.size w w') (h0:E.n0≤base) (hl:E.n0≤hp'.length) (hρ:∀ b,b<base→ρ' b=ρ b)
  (hc:∀ b bk,nth hp' b=some bk→(nth hp b=some bk∧ρ' b=ρ b∧bk.lt base=true)∨(BlkRel E ν ρ' w' (ρ' b) bk∧((ρ' b).nil=true∨OldB (fun _=>False) (fun k=>∃ j bj,nth hp j=some bj∧bj.own=false∧(ρ j).nil=false∧bj.rfoot w (ρ j) k) w.heap.size bk.own (bk.foot w' (ρ' b)) (bk.rfoot w' (ρ' b)))∧N b))
  (hn:∀ b b' bk bk',N b→N b'→nth hp' b=some bk→bk.own=true→nth hp' b'=some bk'→b≠b'→(ρ' b).nil=false→(ρ' b').nil=false→∀ k,bk.foot w' (ρ' b) k→¬ bk'.rfoot w' (ρ' b') k):HS E ν ρ' hp' w':=by
 have hfe:∀ b bk,nth hp b=some bk→(ρ b).nil=false→∀ k,bk.foot w' (ρ b) k↔bk.foot w (ρ b) k:=fun b bk hb1 hnil k =>
  (h.heap.blk b bk hb1).foot_eq hnil (fun _ hf=>hb.block _ ((h.heap.blk b bk hb1).lt hnil hf)) k
 have hre:∀ b bk,nth hp b=some bk→(ρ b).nil=false→∀ k,bk.rfoot w' (ρ b) k↔bk.rfoot w (ρ b) k:=fun b bk hb1 hnil k =>
  (h.heap.blk b bk hb1).rfoot_eq hnil (fun _ hf=>hb.block _ ((h.heap.blk b bk hb1).lt hnil hf)) k
 refine ⟨⟨fun b bk hbk=>?_,fun b b' bk bk' hbk ho hbk' hne hn1 hn2 k hf1 hf2=>?_⟩,fun b bk hbk=>?_,h.fr.trans (Fr.of_below hb),hl,fun j hj=>by rw [hρ j (by omega)];exact h.keep j hj⟩
 ·rcases hc b bk hbk with ⟨h1,h2,h3⟩ | ⟨h1,_,_⟩
  ·rw [h2]
   exact ((h.heap.blk b bk h1).of_block hb.size (fun hnil _ hf=>hb.block _ ((h.heap.blk b bk h1).lt hnil hf))).keep hρ h3
  ·exact h1
 ·rcases hc b bk hbk with ⟨h1,h2,_⟩ | ⟨_,h2,h3⟩<;>rcases hc b' bk' hbk' with ⟨g1,g2,_⟩ | ⟨_,g2,g3⟩
  ·rw [h2] at hn1 hf1
   rw [g2] at hn2 hf2
   exact h.heap.apart b b' bk bk' h1 ho g1 hne hn1 hn2 k ((hfe b bk h1 hn1 k).1 hf1) ((hre b' bk' g1 hn2 k).1 hf2)
  ·rw [h2] at hn1 hf1
   have hf1:=(hfe b bk h1 hn1 k).1 hf1
   have:=(h.heap.blk b bk h1).lt hn1 ((h.heap.blk b bk h1).rd hn1 hf1)
   rcases g2 with g2 | g2
   ·rw [hn2] at g2;cases g2
   rcases g2.rd k hf2 with g2 | g2 | ⟨j,bj,e1,e2,e3,e4⟩
   ·omega
   ·exact g2.elim
   ·have hbj:b≠j:=fun e=>by
     subst e
     rw [h1] at e1;cases e1
     rw [ho] at e2;cases e2
    exact h.heap.apart b j bk bj h1 ho e1 hbj hn1 e3 k hf1 e4
  ·rw [g2] at hn2 hf2
   have hf2:=(hre b' bk' g1 hn2 k).1 hf2
   have:=(h.heap.blk b' bk' g1).lt hn2 hf2
   rcases h2 with h2 | h2
   ·rw [hn1] at h2;cases h2
   rcases h2.wr ho k hf1 with h2 | h2
   ·omega
   ·exact h2
  ·exact hn b b' bk bk' h3 g3 hbk ho hbk' hne hn1 hn2 k hf1 hf2
 ·rcases hc b bk hbk with ⟨h1,h2,_⟩ | ⟨_,h2,_⟩
  ·rw [h2]
   cases hnil:(ρ b).nil with
   | true=>exact .inl rfl
   | false =>
    rcases h.old b bk h1 with g | g
    ·rw [hnil] at g;cases g
    ·exact .inr ⟨fun o k hf=>g.wr o k ((hfe b bk h1 hnil k).1 hf),fun k hf=>g.rd k ((hre b bk h1 hnil k).1 hf)⟩
  ·rcases h2 with h2 | h2
   ·exact .inl h2
   refine .inr ⟨fun o k hf=>?_,fun k hf=>?_⟩
   ·rcases h2.wr o k hf with h2 | h2
    ·exact .inl (Nat.le_trans h.fr.size h2)
    ·exact h2.elim
   ·rcases h2.rd k hf with h2 | h2 | ⟨j,bj,e1,e2,e3,e4⟩
    ·exact .inl (Nat.le_trans h.fr.size h2)
    ·exact h2.elim
    ·rcases h.old j bj e1 with h | h
     ·rw [e3] at h;cases h
     exact h.rd k e4
end
end Go.Sx
namespace Go.Sx
open Go.RowKit
section
variable {P:Program} {I:World→Prop} {S:Sigs} {F:FEnv} {E:Env} {gK:Nat} {ν:Nat→DV}
theorem Lf.eqB_conc {a b:Lf} (h:a.eqB b=true) (ρ:Nat→Loc):a.conc ν ρ=b.conc ν ρ:=by
 unfold Lf.eqB at h
 split at h
 ·simp only [Bool.and_eq_true] at h
  have:=zb7 h.1;subst this
  have:=A.beq_den h.2 ν
  simp only [Lf.conc,A.int,this]
 ·have:=A.beq_den h ν
  simp only [Lf.conc,A.bool,this]
 ·simp only [Bool.and_eq_true] at h
  have e1:=Nat.eq_of_beq_eq_true h.1
  have e2:=Nat.eq_of_beq_eq_true h.2
  subst e1;subst e2;rfl
 ·rfl
 ·have e1:=Nat.eq_of_beq_eq_true h
  subst e1;rfl
 ·have e1:=Nat.eq_of_beq_eq_true h
  subst e1;rfl
 ·simp only [Bool.and_eq_true] at h
  have e1:=Nat.eq_of_beq_eq_true h.1
  have e2:=Nat.eq_of_beq_eq_true h.2
  subst e1;subst e2;rfl
 ·have e1:=zmy h
  subst e1;rfl
 ·simp only [Bool.and_eq_true] at h
  have e1:=LT.feq_eq h.1.1
  have e2:=A.beq_den h.1.2 ν
  have e3:=Nat.eq_of_beq_eq_true h.2
  subst e1;subst e3
  rename_i t a j a'
  cases t<;>simp only [Lf.conc,A.cells,e2]
 ·have:=A.beq_den h ν
  simp only [Lf.conc,A.cells,this]
 ·cases h
theorem zjl (ρ:Nat→Loc):∀ {a b:List Lf},zkn a b=true→a.map (Lf.conc ν ρ)=b.map (Lf.conc ν ρ)
 | [],[],_=>rfl
 | a::l,b::l',h=>by
  simp only [zkn,Bool.and_eq_true] at h
  simp only [List.map_cons,Lf.eqB_conc h.1 ρ,zjl ρ h.2]
 | [],_::_,h=>by cases h
 | _::_,[],h=>by cases h
theorem V.eqB_conc {a b:V} (h:a.eqB b=true) (ρ:Nat→Loc):a.conc ν ρ=b.conc ν ρ:=by
 unfold V.eqB at h
 split at h
 ·simp only [V.conc,V1.conc,Lf.eqB_conc h ρ]
 ·simp only [V.conc,V1.conc,zjl ρ h]
 ·cases h
theorem zkM (ρ:Nat→Loc):∀ {a b:List V},znQ a b=true→a.map (V.conc ν ρ)=b.map (V.conc ν ρ)
 | [],[],_=>rfl
 | a::l,b::l',h=>by
  simp only [znQ,Bool.and_eq_true] at h
  simp only [List.map_cons,V.eqB_conc h.1 ρ,zkM ρ h.2]
 | [],_::_,h=>by cases h
 | _::_,[],h=>by cases h
theorem Lf.inB_conc {p:Nat→Bool} {a:Lf} (h:a.inB p=true) {ρ ρ':Nat→Loc} (hρ:∀ q,p q=true→ρ' q=ρ q):a.conc ν ρ'=a.conc ν ρ:=by
 unfold Lf.inB at h
 split at h
 ·simp only [Lf.conc,hρ _ h]
 ·simp only [Lf.conc,hρ _ h]
 ·cases h
 ·cases h
 ·cases h
 ·cases h
 ·cases h
 ·cases h
 ·rename_i h1 h2 h3 h4 h5 h6 h7 h8
  cases a with
  | mp q=>exact absurd rfl (h7 q)
  | alt a l=>exact absurd rfl (h8 a l)
  | i k a=>rfl
  | b a=>rfl
  | p q o=>exact absurd rfl (h3 q o)
  | gp g o=>exact absurd rfl (h4 g o)
  | nilp=>rfl
  | vec q=>exact absurd rfl (h2 q)
  | fnp f bs=>exact absurd rfl (h5 f bs)
  | ifp t q=>exact absurd rfl (h6 t q)
  | str a=>rfl
  | v x=>rfl
  | e t a i=>cases t<;>rfl
theorem V.inB_conc {p:Nat→Bool} {a:V} (h:a.inB p=true) {ρ ρ':Nat→Loc} (hρ:∀ q,p q=true→ρ' q=ρ q):a.conc ν ρ'=a.conc ν ρ:=by
 have key:∀ l:List Lf,l.all (Lf.inB p)=true→l.map (Lf.conc ν ρ')=l.map (Lf.conc ν ρ):=fun l hl =>
  List.map_congr_left fun x hx=>Lf.inB_conc (List.all_eq_true.1 hl x hx) hρ
 have key1:∀ v:V1,v.cells.all (Lf.inB p)=true→v.conc ν ρ'=v.conc ν ρ:=fun v hv=>by
  cases v with
  | one l =>
   have:l.inB p=true:=by simpa [V1.cells] using hv
   simp only [V1.conc,Lf.inB_conc this hρ]
  | agg l=>simp only [V1.conc,key l hv]
 cases a with
 | s v =>
  cases v with
  | one l=>exact key1 (.one l) (by simpa [V.inB,V1.cells] using h)
  | agg l=>exact key1 (.agg l) h
 | t l =>
  simp only [V.conc]
  congr 2
  exact List.map_congr_left fun x hx=>key1 x (List.all_eq_true.1 h x hx)
theorem zqq {o:Oper} {x:Operand} {args:List Operand} (hc:calleeOf o.op=some (x,args)) {r:RS} {f:Nat} {vs:List V} (hf:fnOf (rd r [] x)=some (f,[])) (hvs:zcz r [] args=some vs) {ρ:Nat→Loc} {a:Act} (ha:ARel ν ρ r a) (w:World) :
  (callFunc f (vs.map (V.conc ν ρ)).toArray).run P w = .ok (.enter f (vs.map (V.conc ν ρ)).toArray) w→(execOp a.eval o).run P w = .ok (.enter f (vs.map (V.conc ν ρ)).toArray) w:=by
 intro h4
 cases hop:o.op<;>rw [hop] at hc<;>simp only [calleeOf] at hc<;>try cases hc
 rename_i c
 split at hc
 ·rename_i y hcal
  cases hc
  have hctx:zdz [] a:=fun p hp=>by simp at hp
  have h1:=zbJ ha hctx hvs
  have h0:=zjd ha hctx hf
  have h2:c.args.map a.eval=(vs.map (V.conc ν ρ)).toArray:=by
   apply Array.ext'
   simpa using h1
  rw [←h2] at h4 ⊢
  simp [execOp,hop,resolve,hcal,h0,Deferred.ofValue,invoke,za9]
  exact h4
 ·cases hc
theorem zop {o:Oper} {a a':Act} (hc:(calleeOf o.op).isSome=true) (h:∀ t∈zgl o.op,a'.tmps[t]? = a.tmps[t]?):execOp a.eval o=execOp a'.eval o:=by
 cases hop:o.op<;>rw [hop] at hc<;>simp only [calleeOf] at hc<;>try cases hc
 rename_i c
 split at hc
 ·rename_i y hcal
  have ht:∀ z:Operand,(z=y∨z∈c.args.toList)→a.eval z=a'.eval z:=fun z hz=>by
   refine zdd fun t ht=>h t ?_
   rw [hop]
   simp only [zgl,calleeOf,hcal]
   rcases hz with rfl | hz
   ·exact List.mem_append_left _ ht
   ·exact List.mem_append_right _ (List.mem_flatMap.2 ⟨z,hz,ht⟩)
  have hargs:c.args.map a.eval=c.args.map a'.eval:=by
   apply Array.ext'
   simp only [Array.toList_map]
   exact List.map_congr_left fun z hz=>ht z (.inr hz)
  simp only [execOp,hop,resolve,hcal,hargs,ht y (.inl rfl)]
 ·cases hc
def zrG (hp:List (Option Blk)) (ρ:Nat→Loc) (w:World):Env :=
 ⟨fun _=>False,fun b=>∃ j bk,nth hp j=some bk∧(ρ j).nil=false∧bk.rfoot w (ρ j) b,w,0,ρ⟩
theorem zqr {hp:List (Option Blk)} {ρ:Nat→Loc} {w:World} (h:gK≤w.heap.size):(zrG hp ρ w).Ok gK:=⟨h,fun _ hb=>hb.elim⟩
theorem HS.read {ρ : Nat → Loc} {hp hc : List (Option Blk)} {w : World} (h : HS E ν ρ hp w) (hc1 : ∀ j bk, nth hc j = some bk → nth hp j = some bk ∧ bk.flat = true ∧ bk.own = false) : HS (zrG hc ρ w) ν ρ hc w :=
  ⟨⟨fun j bk hj => (h.heap.blk j bk (hc1 j bk hj).1).flat (hc1 j bk hj).2.1, fun j j' bk bk' hj ho => by rw [(hc1 j bk hj).2.2] at ho; cases ho⟩,
   fun j bk hj => by
     cases hn : (ρ j).nil with
     | true => exact .inl rfl
     | false => exact .inr ⟨fun o => (by rw [(hc1 j bk hj).2.2] at o; cases o), fun b hf => .inr (.inr ⟨j, bk, hj, hn, hf⟩)⟩,
   Fr.refl _ _, Nat.zero_le _, fun j hj => absurd hj (Nat.not_lt_zero _)⟩
theorem zrH {l:List (Option Blk)} {j:Nat} {bk:Blk} (h:nth (l.map frz) j=some bk):nth l j=some bk∧bk.flat=true∧bk.own=false:=by
 induction l generalizing j with
 | nil=>cases j<;>simp [nth] at h
 | cons x l ih =>
  cases j with
  | zero =>
   simp only [List.map_cons,nth] at h ⊢
   unfold frz at h
   split at h
   ·split at h
    ·rename_i hc
     cases h
     simp only [Bool.and_eq_true,Bool.not_eq_true'] at hc
     exact ⟨rfl,hc.1,hc.2⟩
    ·cases h
   ·cases h
  | succ j=>exact ih (by simpa [nth] using h)
def CallFact (P:Program) (I:World→Prop) (gK:Nat) (ν:Nat→DV) (f:Nat) (vs:List V) (v:V) (hcall:List (Option Blk)) (news:List (Option Blk)):Prop :=
 ∀ (E2:Env),E2.Ok gK→∀ ρ w,(∀ v∈vs,V.good ν v)→HS E2 ν ρ hcall w→I w →
  (callFunc f (vs.map (V.conc ν ρ)).toArray).run P w = .ok (.enter f (vs.map (V.conc ν ρ)).toArray) w ∧
  Calls P f (vs.map (V.conc ν ρ)).toArray w fun e w'=>∃ ρ' hp1,(∀ j,j<hcall.length→ρ' j=ρ j)∧HS E2 ν ρ' hp1 w'∧(∀ p,nth news p≠none→nth hp1 (hcall.length+p)=nth news p)∧e = .returned (v.conc ν ρ')
theorem zpw {α:Type} (l:List (Option α)) (n p:Nat):nth (l.drop n) p=nth l (n+p):=by
 induction n generalizing l with
 | zero=>simp
 | succ n ih =>
  cases l with
  | nil=>simp [nth]
  | cons x l =>
   rw [List.drop_succ_cons,ih,show n+1+p=(n+p)+1 from by omega]
   rfl
theorem zm3 (hS:SigsOK P I gK S F) {f:Nat} {vs:List V} {hcall:List (Option Blk)} : M.sat F ν (zmi P S f vs hcall) (fun res =>
  match res with
  | .val v=>CallFact P I gK ν f vs v hcall []
  | .hp (some v) hp1=>CallFact P I gK ν f vs v hcall (hp1.drop hcall.length)
  | .hp none _=>True):=by
 refine zah (zoj (ι:={ E2:Env // E2.Ok gK }) fun E2=>zkx (E:=E2.1) hS E2.2 (f:=f) (vs:=vs) (hp:=hcall)) fun res h=>?_
 cases res with
 | val v =>
  intro E2 hE2 ρ w hg hh hI
  obtain ⟨h1,_,h3⟩:=h ⟨E2,hE2⟩ ρ w hg hh hI
  exact ⟨h1,h3.mono fun e w' ⟨he,hb⟩=>⟨ρ,hcall,fun _ _=>rfl,hh.of_below hb,fun p hp=>absurd (by cases p<;>rfl) hp,he⟩⟩
 | hp v hp1 =>
  cases v with
  | none=>trivial
  | some v =>
   intro E2 hE2 ρ w hg hh hI
   obtain ⟨h1,h3⟩:=h ⟨E2,hE2⟩ ρ w hg hh hI
   exact ⟨h1,h3.mono fun e w' ⟨x,he,ρ',k1,k2,k3⟩=>⟨ρ',hp1,k1,k2,fun p _=>(zpw _ _ _).symm,by rw [he,(k3 v rfl).2]⟩⟩
def acnt (l:List Oper) (i:Nat):Nat:=((l.take i).filter fun o=>allocOp o.op).length
structure ManyOK (P:Program) (I:World→Prop) (gK:Nat) (ν:Nat→DV) (E:Env) (ops:Array Oper) (b0:Nat) (hc:List (Option Blk)) (l:List Oper) (b:Nat) (r:RS) (hn:List (Option Blk)) (r':RS) (hn':List (Option Blk)) (es:List (Nat×List V×V)) (s:Nat→Nat):Prop where
 len:es.length=l.length
 hp:r'.st.hp=r.st.hp
 s0:s 0=hn.length
 sn:s l.length=hn'.length
 mono:∀ i,i<l.length→s i≤s (i+1)
 pre:hn'.take hn.length=hn
 quiet:∀ ρ a,ARel ν ρ r a→(∃ w,HS E ν ρ r.st.hp w)→∀ C:World→Prop,C=(fun w=>HS E ν ρ r.st.hp w)→∀ ops':Array Oper,(∀ j:Nat,(ops'[j]?).bind (·.dst)=(ops[j]?).bind (·.dst)) →
  ∀ Q:Act→Prop,(∀ a',ARel ν ρ r' a'→Q a')→wpQuiet P ops' C Q (List.zipWith (fun o e=>nopW (e.2.2.conc ν ρ) o) l es) a
 alloc:∀ (i:Nat) o,l[i]? = some o→allocOp o.op=true→∃ e,es[i]? = some e∧e.2.2 = .s (.one (.p (b+acnt l i) (.c 0)))
 call:∀ (i:Nat) o x args,l[i]? = some o→calleeOf o.op=some (x,args)→∃ f vs v,es[i]? = some (f,vs,v) ∧
  v.inB (fun q=>Nat.blt q b0||(Nat.ble (hc.length+s i) q&&Nat.blt q (hc.length+s (i+1))))=true∧v.easy=true∧CallFact P I gK ν f vs v (hc++(hn'.take (s i)).map frz) ((hn'.take (s (i+1))).drop (s i))
 still:∀ (i:Nat) o,l[i]? = some o→(calleeOf o.op).isSome=false→s (i+1)=s i
def zrI (n:Nat) (s:Nat→Nat):Nat→Nat
 | 0=>n
 | i+1=>s i
theorem zeN {α:Type} {l l1:List α} {n m:Nat} (h:l.take m=l1) (hn:n≤m):l.take n=l1.take n:=by
 rw [←h,List.take_take,Nat.min_eq_left hn]
theorem ManyOK.cons {ops:Array Oper} {b0:Nat} {hc:List (Option Blk)} {l:List Oper} {o:Oper} {e:Nat×List V×V} {b b1:Nat} {r r1 r':RS} {hn hn1 hn':List (Option Blk)} {es:List (Nat×List V×V)} {s1:Nat→Nat}
  (h:ManyOK P I gK ν E ops b0 hc l b1 r1 hn1 r' hn' es s1) (hb:∀ i,b+acnt (o::l) (i+1)=b1+acnt l i) (hhp:r1.st.hp=r.st.hp) (hpre:hn1.take hn.length=hn)
  (hq:∀ ρ a,ARel ν ρ r a→(∃ w,HS E ν ρ r.st.hp w)→∀ C:World→Prop,C=(fun w=>HS E ν ρ r.st.hp w)→∀ ops':Array Oper,(∀ j:Nat,(ops'[j]?).bind (·.dst)=(ops[j]?).bind (·.dst)) →
   if Region.wanted (nopW (e.2.2.conc ν ρ) o) (yielded ops' a.tmps)=true then ∃ v,(∀ w,C w→(nopW (e.2.2.conc ν ρ) o).quietAt P a C w v)∧ARel ν ρ r1 (a.put (nopW (e.2.2.conc ν ρ) o).dst v) else ARel ν ρ r1 (a.put (nopW (e.2.2.conc ν ρ) o).dst undef))
  (ha:allocOp o.op=true→e.2.2 = .s (.one (.p b (.c 0))))
  (hcl:∀ x args,calleeOf o.op=some (x,args)→∃ f vs v,e=(f,vs,v)∧v.inB (fun q=>Nat.blt q b0||(Nat.ble (hc.length+hn.length) q&&Nat.blt q (hc.length+hn1.length)))=true∧v.easy=true∧CallFact P I gK ν f vs v (hc++hn.map frz) (hn1.drop hn.length))
  (hst:(calleeOf o.op).isSome=false→hn1.length=hn.length):ManyOK P I gK ν E ops b0 hc (o::l) b r hn r' hn' (e::es) (zrI hn.length s1):=by
 have hle:hn.length≤hn1.length:=by
  have:=congrArg List.length hpre
  rw [List.length_take] at this
  omega
 refine ⟨by simp [h.len],h.hp.trans hhp,rfl,h.sn,fun i hi=>?_,?_,fun ρ a hra hex C hC ops' hd Q hQ=>?_,fun i o' ho' hal=>?_,fun i o' x args ho' hc'=>?_,fun i o' ho' hc'=>?_⟩
 ·cases i with
  | zero=>show hn.length≤s1 0;rw [h.s0];exact hle
  | succ i=>exact h.mono i (by simpa using hi)
 ·rw [zeN h.pre hle,hpre]
 ·have:=hq ρ a hra hex C hC ops' hd
  simp only [List.zipWith_cons_cons,wpQuiet]
  split
  ·rename_i hw
   rw [if_pos hw] at this
   obtain ⟨v,h3,h4⟩:=this
   exact ⟨v,h3,h.quiet ρ _ h4 (by rw [hhp];exact hex) C (by rw [hhp];exact hC) ops' hd Q hQ⟩
  ·rename_i hw
   rw [if_neg hw] at this
   exact h.quiet ρ _ this (by rw [hhp];exact hex) C (by rw [hhp];exact hC) ops' hd Q hQ
 ·cases i with
  | zero =>
   simp at ho';subst ho'
   exact ⟨e,rfl,by rw [ha hal];rfl⟩
  | succ i =>
   obtain ⟨e',h1,h2⟩:=h.alloc i o' (by simpa using ho') hal
   exact ⟨e',by simpa using h1,by rw [h2,hb i]⟩
 ·cases i with
  | zero =>
   simp at ho';subst ho'
   obtain ⟨f,vs,v,h1,h2,h3,h4⟩:=hcl x args hc'
   refine ⟨f,vs,v,by simp [h1],?_,h3,?_⟩
   ·show V.inB (fun q=>Nat.blt q b0||(Nat.ble (hc.length+hn.length) q&&Nat.blt q (hc.length+s1 0))) v=true
    rw [h.s0];exact h2
   ·show CallFact P I gK ν f vs v (hc++(hn'.take hn.length).map frz) ((hn'.take (s1 0)).drop hn.length)
    rw [h.s0,h.pre,zeN h.pre hle,hpre]
    exact h4
  | succ i=>exact h.call i o' x args (by simpa using ho') hc'
 ·cases i with
  | zero =>
   simp at ho';subst ho'
   show s1 0=hn.length
   rw [h.s0];exact hst hc'
  | succ i=>exact h.still i o' (by simpa using ho') hc'
theorem zpx {v:Value} {o:Oper} (h:zca o.op=false):nopW v o=o:=by unfold nopW;rw [h];rfl
theorem zpy {v:Value} {o:Oper} (h:zca o.op=true):nopW v o = { o with op:=.move (.const v) }:=by unfold nopW;rw [if_pos h]
theorem zaW (o:Oper) (l:List Oper) (i:Nat):acnt (o::l) (i+1)=(if allocOp o.op then 1 else 0)+acnt l i:=by
 unfold acnt
 rw [List.take_succ_cons,List.filter_cons]
 split<;>simp<;>omega
theorem zts {p p':Nat→Bool} (h:∀ q,p q=true→p' q=true) {v:V} (hv:v.inB p=true):v.inB p'=true:=by
 have key:∀ a:Lf,a.inB p=true→a.inB p'=true:=fun a ha=>by
  cases a with
  | p q o=>cases o<;>first | exact h _ ha | cases ha
  | vec q=>exact h _ ha
  | gp _ _=>cases ha
  | fnp _ _=>cases ha
  | ifp _ _=>cases ha
  | mp _=>cases ha
  | alt _ _=>cases ha
  | _=>rfl
 cases v with
 | s v =>
  cases v with
  | one l=>exact key l hv
  | agg l=>exact List.all_eq_true.2 fun x hx=>key x (List.all_eq_true.1 hv x hx)
 | t l=>exact List.all_eq_true.2 fun x hx=>List.all_eq_true.2 fun y hy=>key y (List.all_eq_true.1 (List.all_eq_true.1 hv x hx) y hy)
theorem zjm {o:Oper} {r r1:RS} {v:V} (he:zca o.op=true) (hg:o.guard=none) (hgood:v.good ν) (hput:∀ ρ a (x:Value),ARel ν ρ r a→(∀ u,some v=some u→u.good ν∧x=u.conc ν ρ)→ARel ν ρ r1 (a.put o.dst x))
  (ρ:Nat→Loc) (a:Act) (hra:ARel ν ρ r a) (C:World→Prop) (ops':Array Oper) :
  if Region.wanted (nopW (v.conc ν ρ) o) (yielded ops' a.tmps)=true then ∃ u,(∀ w,C w→(nopW (v.conc ν ρ) o).quietAt P a C w u)∧ARel ν ρ r1 (a.put (nopW (v.conc ν ρ) o).dst u) else ARel ν ρ r1 (a.put (nopW (v.conc ν ρ) o).dst undef):=by
 rw [zpy he]
 rw [if_pos (by simp [Region.wanted,hg])]
 refine ⟨v.conc ν ρ,fun w _=>?_,hput ρ a _ hra fun u hu=>by cases hu;exact ⟨hgood,rfl⟩⟩
 unfold Oper.quietAt
 simp [execOp,Act.eval,Oper.quietUpon]
theorem zcT (hS:SigsOK P I gK S F) (hE:E.Ok gK) (hn0:S.n0=E.n0) (hI:∀ w,Fr E.W E.w0 w→I w) {ops:Array Oper} {b0:Nat} {hc:List (Option Blk)} : ∀ (l:List Oper) (b:Nat) (r:RS) (hn:List (Option Blk)),(∀ o∈l,ziw o=true) →
  M.sat F ν (zeu P S ops.toList b0 hc l b r hn) (fun z=>∃ s,ManyOK P I gK ν E ops b0 hc l b r hn z.1 z.2.1 z.2.2 s)
 | [],b,r,hn,_=>by
  unfold zeu
  exact zab ⟨fun _=>hn.length,rfl,rfl,rfl,rfl,fun i hi=>by simp at hi,by simp,fun ρ a h _ C _ ops' _ Q hQ=>hQ a h,fun i o h=>by simp at h,fun i o x args h=>by simp at h,fun i o h=>by simp at h⟩
 | o::l,b,r,hn,hl=>by
  have hh:=hl o (by simp)
  have hl':∀ o'∈l,ziw o'=true:=fun o' h'=>hl o' (List.mem_cons_of_mem _ h')
  unfold zeu
  refine zae (fun hal=>?_) (fun hal=>?_)
  ·have heff:zca o.op=true:=by unfold zca;rw [hal];rfl
   have hg:o.guard=none:=by
    unfold ziw at hh
    rw [heff] at hh
    simpa using hh
   have hno:calleeOf o.op=none:=by cases hop:o.op<;>rw [hop] at hal<;>simp [allocOp] at hal;rfl
   refine zaa zbT fun r1 hr1=>zaa (zcT hS hE hn0 hI l (b+1) r1 hn hl') fun z ⟨s,hz⟩=>zab ⟨zrI hn.length s,?_⟩
   refine hz.cons (fun i=>by rw [zaW,if_pos hal];omega) hr1.1 (by simp) (fun ρ a hra hex C hC ops' hd=>?_) (fun _=>rfl) (fun x args h=>by rw [hno] at h;cases h) (fun _=>rfl)
   exact zjm (v:=.s (.one (.p b (.c 0)))) heff hg (V.good_s.2 (V1.good_one.2 trivial)) hr1.2 ρ a hra C ops'
  ·split
   ·rename_i x args hcal
    have heff:zca o.op=true:=by unfold zca;rw [hcal];simp
    have hg:o.guard=none:=by
     unfold ziw at hh
     rw [heff] at hh
     simpa using hh
    refine zaa zap fun ⟨f,bs⟩ _=>zaa zap fun vs _=>zae (fun hbs=>?_) (fun _=>zac)
    refine zaa (zm3 (P:=P) (I:=I) hS) fun res hres=>?_
    have hlen:(hc++hn.map frz).length=hc.length+hn.length:=by simp
    split
    ·rename_i v
     refine zae (fun hv=>?_) (fun _=>zac)
     simp only [Bool.and_eq_true] at hv
     refine zaa zbT fun r1 hr1=>zaa (zcT hS hE hn0 hI l b r1 hn hl') fun z ⟨s,hz⟩=>zab ⟨zrI hn.length s,?_⟩
     refine hz.cons (fun i=>by rw [zaW,if_neg hal];omega) hr1.1 (by simp) (fun ρ a hra hex C hC ops' hd=>?_) (fun h=>absurd h hal) (fun x' args' h=>⟨f,vs,v,rfl,zts (fun q hq=>by simp only [hq,Bool.true_or]) hv.2,hv.1,?_⟩) (fun h=>by simp [hcal] at h)
     ·exact zjm heff hg (V.easy_good hv.1) hr1.2 ρ a hra C ops'
     ·rw [List.drop_length];exact hres
    ·rename_i v hp1
     refine zae (fun hv=>?_) (fun _=>zac)
     simp only [Bool.and_eq_true] at hv
     obtain ⟨⟨hv1,hv2⟩,hv3⟩:=hv
     have hv3:hc.length+hn.length≤hp1.length:=Nat.le_of_ble_eq_true hv3
     refine zaa zbT fun r1 hr1=>zaa (zcT hS hE hn0 hI l b r1 _ hl') fun z ⟨s,hz⟩=>zab ⟨zrI hn.length s,?_⟩
     refine hz.cons (fun i=>by rw [zaW,if_neg hal];omega) hr1.1 (by simp) (fun ρ a hra hex C hC ops' hd=>?_) (fun h=>absurd h hal) (fun x' args' h=>⟨f,vs,v,rfl,?_,hv1,?_⟩) (fun h=>by simp [hcal] at h)
     ·exact zjm heff hg (V.easy_good hv1) hr1.2 ρ a hra C ops'
     ·rw [show hc.length+(hn++hp1.drop (hc.length+hn.length)).length=hp1.length from by simp;omega]
      exact hv2
     ·rw [List.drop_left,←hlen];exact hres
    ·exact zac
   ·rename_i hno
    have heff:zca o.op=false:=by
     unfold zca
     rw [hno]
     cases h:allocOp o.op with
     | true=>exact absurd h hal
     | false=>rfl
    refine zaa (zdE (E:=E) (ops:=ops) hS hE hn0 hI true) fun r1 hr1=>zaa (zcT hS hE hn0 hI l b r1 hn hl') fun z ⟨s,hz⟩=>zab ⟨zrI hn.length s,?_⟩
    have hq:=hr1.2 rfl
    refine hz.cons (fun i=>by rw [zaW,if_neg hal];omega) hq.1 (by simp) (fun ρ a hra hex C hC ops' hd=>?_) (fun h=>absurd h hal) (fun x args h=>by rw [hno] at h;cases h) (fun _=>rfl)
    rw [zpx heff,zba hd]
    exact hq.2 ρ a hra hex C hC
end
end Go.Sx
namespace Go.Sx
open Go.RowKit
structure Alike (o1 o2:Oper):Prop where
 dst:o1.dst=o2.dst
 guard:o1.guard=o2.guard
 after:o1.after=o2.after
 op:o1.op=o2.op∨∃ x y,o1.op = .move (.const x)∧o2.op = .move (.const y)
theorem zkN {l1 l2:List Oper} (hlen:l1.length=l2.length) (h:∀ (j:Nat) o1 o2,l1[j]? = some o1→l2[j]? = some o2→Alike o1 o2):Region.lexB .any l1.toArray=Region.lexB .any l2.toArray:=by
 have hat:∀ (l:List Oper) (j:Nat),(l.toArray)[j]? = l[j]?:=fun l j=>by simp
 have hcase:∀ j:Nat,(l1[j]? = none∧l2[j]? = none)∨∃ o1 o2,l1[j]? = some o1∧l2[j]? = some o2∧Alike o1 o2:=fun j=>by
  rcases Nat.lt_or_ge j l1.length with hj | hj
  ·right
   have e1:=List.getElem?_eq_getElem hj
   have e2:=List.getElem?_eq_getElem (l:=l2) (i:=j) (by omega)
   exact ⟨_,_,e1,e2,h j _ _ e1 e2⟩
  ·exact .inl ⟨List.getElem?_eq_none hj,List.getElem?_eq_none (by omega)⟩
 have hd:∀ j:Nat,((l1.toArray)[j]?).bind (·.dst)=((l2.toArray)[j]?).bind (·.dst):=fun j=>by
  rw [hat,hat]
  rcases hcase j with ⟨h1,h2⟩ | ⟨o1,o2,h1,h2,h3⟩
  ·rw [h1,h2]
  ·rw [h1,h2];exact h3.dst
 have hsz:l1.toArray.size=l2.toArray.size:=by simpa using hlen
 have hready:∀ listed,Region.ready .any l1.toArray listed=Region.ready .any l2.toArray listed:=fun listed=>by
  unfold Region.ready
  rw [hsz]
  refine List.filter_congr fun j _=>?_
  rw [hat,hat]
  rcases hcase j with ⟨h1,h2⟩ | ⟨o1,o2,h1,h2,h3⟩
  ·rw [h1,h2]
  ·rw [h1,h2]
   have e:=h3.after
   cases o1;cases o2
   simp only at e
   subst e
   rfl
 have hlook:∀ o1 o2,Alike o1 o2→o1.looksAt l1.toArray=o2.looksAt l2.toArray:=fun o1 o2 h3=>by
  unfold Oper.looksAt
  rw [h3.guard]
  congr 1
  ·rcases h3.op with h | ⟨x,y,h,h'⟩
   ·rw [h]
   ·rw [h,h'];rfl
  ·cases o2.guard with
   | none=>rfl
   | some p=>exact congrArg Option.toList (hd p.1)
 have hapart:∀ o1 o2 p1 p2,Alike o1 o2→Alike p1 p2→o1.apart l1.toArray p1=o2.apart l2.toArray p2:=fun o1 o2 p1 p2 h3 h4=>by
  unfold Oper.apart
  rw [h3.dst,h4.dst,hlook _ _ h3,hlook _ _ h4]
 have hfree:∀ listed i,Region.free .any l1.toArray listed i=Region.free .any l2.toArray listed i:=fun listed i=>by
  unfold Region.free
  rw [hat,hat]
  rcases hcase i with ⟨h1,h2⟩ | ⟨o1,o2,h1,h2,h3⟩
  ·rw [h1,h2]
  ·rw [h1,h2]
   simp only
   rw [hsz]
   congr 1
   funext j
   rw [hat,hat]
   rcases hcase j with ⟨g1,g2⟩ | ⟨p1,p2,g1,g2,g3⟩
   ·rw [g1,g2]
   ·rw [g1,g2];simp only [g3.after,hapart _ _ _ _ h3 g3]
 have hlex:∀ (fuel k:Nat) (listed:Array Bool),Region.lexFrom .any l1.toArray fuel k listed=Region.lexFrom .any l2.toArray fuel k listed:=by
  intro fuel
  induction fuel with
  | zero=>intro k listed;simp only [Region.lexFrom,hready]
  | succ fuel ih=>intro k listed;simp only [Region.lexFrom,hready,hfree,ih]
 unfold Region.lexB
 rw [hlex,hsz]
 congr 1
 unfold Region.noSelect
 rw [Bool.eq_iff_iff,Array.all_eq_true,Array.all_eq_true]
 have key:∀ o1 o2,Alike o1 o2→∀ f:Op→Bool,(∀ x y,f (.move x)=f (.move y))→f o1.op=f o2.op:=fun o1 o2 h3 f hf=>by
  rcases h3.op with h | ⟨x,y,h,h'⟩
  ·rw [h]
  ·rw [h,h',hf]
 constructor
 ·intro hh j hj
  rcases hcase j with ⟨h1,h2⟩ | ⟨o1,o2,h1,h2,h3⟩
  ·rw [List.getElem?_eq_none_iff] at h2
   simp at hj;omega
  ·have:=hh j (by rw [hsz];exact hj)
   have e1:l1.toArray[j]'(by rw [hsz];exact hj)=o1:=by
    have:=hat l1 j;rw [h1,Array.getElem?_eq_getElem (by rw [hsz];exact hj)] at this;exact Option.some.inj this
   have e2:l2.toArray[j]=o2:=by
    have:=hat l2 j;rw [h2,Array.getElem?_eq_getElem hj] at this;exact Option.some.inj this
   rw [e1] at this
   rw [e2]
   rcases h3.op with h | ⟨x,y,h,h'⟩
   ·rw [←h];exact this
   ·rw [h']
 ·intro hh j hj
  rcases hcase j with ⟨h1,h2⟩ | ⟨o1,o2,h1,h2,h3⟩
  ·rw [List.getElem?_eq_none_iff] at h1
   simp at hj;omega
  ·have:=hh j (by rw [←hsz];exact hj)
   have e1:l1.toArray[j]=o1:=by
    have:=hat l1 j;rw [h1,Array.getElem?_eq_getElem hj] at this;exact Option.some.inj this
   have e2:l2.toArray[j]'(by rw [←hsz];exact hj)=o2:=by
    have:=hat l2 j;rw [h2,Array.getElem?_eq_getElem (by rw [←hsz];exact hj)] at this;exact Option.some.inj this
   rw [e2] at this
   rw [e1]
   rcases h3.op with h | ⟨x,y,h,h'⟩
   ·rw [h];exact this
   ·rw [h]
open Classical in
noncomputable def zgF (L:Nat→Prop) (H:List (Option Blk)):List (Option Blk):=(List.range H.length).map fun q=>if L q then nth H q else none
theorem zfx {α:Type} : ∀ (l:List (Option α)) (q:Nat),nth l q=(l[q]?).join
 | [],q=>by cases q<;>rfl
 | x::l,0=>rfl
 | x::l,q+1=>by simp only [nth,List.getElem?_cons_succ,zfx l q]
theorem zbm {L:Nat→Prop} {H:List (Option Blk)} {q:Nat} {bk:Blk} : nth (zgF L H) q=some bk↔L q∧nth H q=some bk:=by
 unfold zgF
 rw [zfx,List.getElem?_map]
 rcases Nat.lt_or_ge q H.length with h | h
 ·rw [List.getElem?_range h]
  simp only [Option.map_some,Option.join_some]
  split
  ·rename_i hl;simp [hl]
  ·rename_i hl;simp [hl]
 ·rw [List.getElem?_eq_none (by simpa using h)]
  constructor
  ·intro h;cases h
  ·rintro ⟨_,h2⟩
   have:=za4 h2
   omega
theorem zgG (L:Nat→Prop) (H:List (Option Blk)):(zgF L H).length=H.length:=by simp [zgF]
theorem zeO (l:List Oper):acnt l 0=0:=by simp [acnt]
theorem zgH:∀ (l:List Oper) {i j:Nat},i≤j→acnt l i≤acnt l j
 | [],i,j,_=>by simp [acnt]
 | o::l,0,j,_=>by rw [zeO];omega
 | o::l,i+1,0,h=>by omega
 | o::l,i+1,j+1,h=>by
  rw [zaW,zaW]
  have:=zgH l (i:=i) (j:=j) (by omega)
  omega
theorem zlQ:∀ (l:List Oper) {i:Nat} {o:Oper},l[i]? = some o→allocOp o.op=true→acnt l (i+1)=acnt l i+1
 | [],i,o,h,_=>by simp at h
 | x::l,0,o,h,ha=>by
  simp at h;subst h
  rw [zaW,zeO,zeO,if_pos ha]
 | x::l,i+1,o,h,ha=>by
  rw [zaW,zaW,zlQ l (i:=i) (by simpa using h) ha]
  omega
theorem zjn:∀ (l:List Oper) {k:Nat},k<acnt l l.length→∃ i o,l[i]? = some o∧allocOp o.op=true∧acnt l i=k
 | [],k,h=>by simp [acnt] at h
 | x::l,k,h=>by
  rw [List.length_cons,zaW] at h
  by_cases ha:allocOp x.op=true
  ·rw [if_pos ha] at h
   cases k with
   | zero=>exact ⟨0,x,rfl,ha,zeO _⟩
   | succ k =>
    obtain ⟨i,o,h1,h2,h3⟩:=zjn l (k:=k) (by omega)
    exact ⟨i+1,o,by simpa using h1,h2,by rw [zaW,if_pos ha,h3];omega⟩
  ·rw [if_neg ha] at h
   obtain ⟨i,o,h1,h2,h3⟩:=zjn l (k:=k) (by omega)
   exact ⟨i+1,o,by simpa using h1,h2,by rw [zaW,if_neg ha,h3];omega⟩
theorem ztt {l:List Oper} {i j:Nat} {o o':Oper} (hi:l[i]? = some o) (ha:allocOp o.op=true) (hj:l[j]? = some o') (ha':allocOp o'.op=true) (h:acnt l i=acnt l j):i=j:=by
 rcases Nat.lt_trichotomy i j with hlt | heq | hgt
 ·have:=zlQ l hi ha
  have:=zgH l (i:=i+1) (j:=j) (by omega)
  omega
 ·exact heq
 ·have:=zlQ l hj ha'
  have:=zgH l (i:=j+1) (j:=i) (by omega)
  omega
theorem zeP {P:Program} : ∀ {l:List Oper} {zs:List (List Lf)},zfJ P l=some zs→zs.length=acnt l l.length∧∀ (i:Nat) o t,l[i]? = some o→o.op = .alloc t→∃ z,zs[acnt l i]? = some z∧zeroCells P t=some z
 | [],zs,h=>by
  simp [zfJ] at h;subst h
  exact ⟨by simp [acnt],fun i o t h=>by simp at h⟩
 | x::l,zs,h=>by
  unfold zfJ at h
  split at h
  ·rename_i t hop
   split at h
   ·rename_i z zs' hz hzs
    cases h
    obtain ⟨h1,h2⟩:=zeP hzs
    have ha:allocOp x.op=true:=by rw [hop];rfl
    refine ⟨by rw [List.length_cons,List.length_cons,zaW,if_pos ha,h1];omega,fun i o t' ho hop'=>?_⟩
    cases i with
    | zero =>
     simp at ho;subst ho
     rw [hop] at hop';cases hop'
     exact ⟨z,by rw [zeO];rfl,hz⟩
    | succ i =>
     obtain ⟨z',h3,h4⟩:=h2 i o t' (by simpa using ho) hop'
     exact ⟨z',by rw [zaW,if_pos ha,Nat.add_comm,List.getElem?_cons_succ];exact h3,h4⟩
   ·cases h
  ·rename_i hno
   obtain ⟨h1,h2⟩:=zeP h
   have ha:¬ allocOp x.op=true:=fun ha=>by
    cases hop:x.op<;>rw [hop] at ha<;>simp [allocOp] at ha
    exact hno _ hop
   refine ⟨by rw [List.length_cons,zaW,if_neg ha,h1];omega,fun i o t' ho hop'=>?_⟩
   cases i with
   | zero =>
    simp at ho;subst ho
    exact absurd hop' (hno t')
   | succ i =>
    obtain ⟨z',h3,h4⟩:=h2 i o t' (by simpa using ho) hop'
    exact ⟨z',by rw [zaW,if_neg ha,Nat.zero_add];exact h3,h4⟩
theorem zrJ {s:Nat→Nat} : ∀ {n p:Nat},(∀ i,i<n→s i≤s (i+1))→s 0=0→p<s n→∃ i,i<n∧s i≤p∧p<s (i+1)
 | 0,p,_,h0,h=>by omega
 | n+1,p,hm,h0,h=>by
  rcases Nat.lt_or_ge p (s n) with hlt | hge
  ·obtain ⟨i,h1,h2,h3⟩:=zrJ (n:=n) (fun i hi=>hm i (by omega)) h0 hlt
   exact ⟨i,by omega,h2,h3⟩
  ·exact ⟨n,by omega,hge,h⟩
theorem zvW {s:Nat→Nat} {n:Nat} (hm:∀ i,i<n→s i≤s (i+1)):∀ {i j:Nat},i≤j→j≤n→s i≤s j:=by
 intro i j hij
 induction hij with
 | refl=>intro _;exact Nat.le_refl _
 | step h ih=>intro hj;exact Nat.le_trans (ih (by omega)) (hm _ (by omega))
theorem V.eqB_good {ν:Nat→DV} {a b:V} (h:a.eqB b=true):b.good ν:=by
 have key:∀ a b:Lf,a.eqB b=true→b.good ν:=fun a b h=>by
  unfold Lf.eqB at h
  split at h<;>first | trivial | cases h
 have keys:∀ a b:List Lf,zkn a b=true→∀ x∈b,x.good ν:=fun a=>by
  induction a with
  | nil=>intro b h x hx;cases b with
   | nil=>cases hx
   | cons y l=>cases h
  | cons a l ih =>
   intro b h x hx
   cases b with
   | nil=>cases hx
   | cons y l' =>
    simp only [zkn,Bool.and_eq_true] at h
    rcases List.mem_cons.1 hx with rfl | hx
    ·exact key _ _ h.1
    ·exact ih l' h.2 x hx
 unfold V.eqB at h
 split at h
 ·exact V.good_s.2 (V1.good_one.2 (key _ _ h))
 ·exact V.good_s.2 (V1.good_agg.2 (keys _ _ h))
 ·cases h
theorem zkO {ν:Nat→DV} : ∀ {a b:List V},znQ a b=true→∀ v∈b,v.good ν
 | [],[],_,v,hv=>by cases hv
 | a::l,b::l',h,v,hv=>by
  simp only [znQ,Bool.and_eq_true] at h
  rcases List.mem_cons.1 hv with rfl | hv
  ·exact V.eqB_good h.1
  ·exact zkO h.2 v hv
 | [],_::_,h,_,_=>by cases h
 | _::_,[],h,_,_=>by cases h
theorem zpz {r:RS} : ∀ {l:List Oper} {es:List (Nat×List V×V)},zti r l es=true→∀ (i:Nat) o x args f vs v,l[i]? = some o→calleeOf o.op=some (x,args)→es[i]? = some (f,vs,v) →
  fnOf (rd r [] x)=some (f,[])∧∃ vs',zcz r [] args=some vs'∧znQ vs' vs=true
 | [],_,_,i,o,x,args,f,vs,v,ho,_,_=>by simp at ho
 | y::l,[],h,i,o,x,args,f,vs,v,ho,_,he=>by simp at he
 | y::l,e::es,h,i,o,x,args,f,vs,v,ho,hc,he=>by
  simp only [zti,Bool.and_eq_true] at h
  cases i with
  | zero =>
   simp at ho he
   subst ho;subst he
   have h:=h.1
   rw [hc] at h
   simp only at h
   split at h
   ·rename_i f' vs' h1 h2
    simp only [Bool.and_eq_true] at h
    have:=Nat.eq_of_beq_eq_true h.1
    subst this
    exact ⟨h1,vs',h2,h.2⟩
   ·cases h
  | succ i=>exact zpz h.2 i o x args f vs v (by simpa using ho) hc (by simpa using he)
end Go.Sx
namespace Go.Sx
open Go.RowKit
section
variable {P:Program} {I:World→Prop} {S:Sigs} {F:FEnv} {E:Env} {gK:Nat} {ν:Nat→DV}
theorem zcs (hS:SigsOK P I gK S F) (hE:E.Ok gK) (hn0:S.n0=E.n0) (hI:∀ w,Fr E.W E.w0 w→I w) {ops:Array Oper} : ∀ (l:List Oper) (r:RS),M.sat F ν (zdl P S false ops.toList l r) (fun r'=>∀ ρ a w,RR ν E ρ r a w →
  ∀ Q:Exit→Act→World→Prop,(∀ ρ' a' w',RR ν E ρ' r' a' w'→Q .normal a' w')→wpList P ops Q l a w)
 | [],r=>zab fun ρ a w h Q hQ=>hQ ρ a w h
 | o::l,r=>by
  unfold zdl
  refine zaa (zdE (E:=E) hS hE hn0 hI false) fun r1 h1=>zah (zcs hS hE hn0 hI l r1) fun r' h2 ρ a w hrr Q hQ=>?_
  have:=h1.1 rfl ρ a w hrr (wpList P ops Q l) Q (fun ρ' a' w' h'=>h2 ρ' a' w' h' Q hQ)
  simp only [wpList]
  split
  ·rename_i hw;rw [if_pos hw] at this;exact .inl this
  ·rename_i hw;rw [if_neg hw] at this;exact this
theorem RR.drop {ρ:Nat→Loc} {r:RS} {a:Act} {w:World} (h:RR ν E ρ r a w):RR ν E ρ ⟨r.st,[]⟩ a w :=
 ⟨⟨h.act.defers,h.act.size,h.act.slot,fun e he=>by cases he⟩,h.hs⟩
theorem zqs (hS:SigsOK P I gK S F) (hE:E.Ok gK) (hn0:S.n0=E.n0) (hI:∀ w,Fr E.W E.w0 w→I w) {ops:Array Oper} {n:Nat} {s:St} (hnl:n≤ops.toList.length) (hm:zuE ops.toList n=true) :
  M.sat F ν (zrf P S ops.toList n s) (fun s'=>∀ ρ a w,RR ν E ρ ⟨s,[]⟩ a w→∀ Q:Exit→Act→World→Prop,(∀ ρ' a' w',RR ν E ρ' ⟨s',[]⟩ a' w'→Q .normal a' w') →
   wpAny P .any ops Q ops.size (Array.replicate ops.size false) a w):=by
 unfold zuE at hm
 generalize hpre:ops.toList.take n=pre at hm
 simp only [Bool.and_eq_true] at hm
 obtain ⟨⟨⟨⟨hheads,heffs⟩,htail⟩,hlex⟩,hback⟩:=hm
 have hbk:zb5 .any ops:=by have:=backB_ok' hback;simpa using this
 have hprel:pre.length=n:=by rw [←hpre,List.length_take];omega
 unfold zrf
 refine zae (fun hchk=>?_) (fun _=>zac)
 simp only [Bool.and_eq_true] at hchk
 rw [hpre]
 refine zaa (zad (Q:=fun zs=>zfJ P pre=some zs) fun a h=>h) fun zs hzs=>?_
 have hmany:=zcT (E:=E) (F:=F) (ν:=ν) hS hE hn0 hI (ops:=pre.toArray) (b0:=s.hp.length) (hc:=(s.hp++zs.map fun _=>none).map frz) pre s.hp.length ⟨s,[]⟩ [] (fun o ho=>List.all_eq_true.1 hheads o ho)
 simp only at hmany
 refine zaa hmany fun z ⟨sg,hz⟩=>zae (fun hc2=>?_) (fun _=>zac)
 simp only [Bool.and_eq_true] at hc2
 obtain ⟨⟨hzlt,hnlt⟩,hargs⟩:=hc2
 obtain ⟨rf,hn',es⟩:=z
 simp only at hz hnlt hargs ⊢
 refine zaa (zcs (E:=E) hS hE hn0 hI (ops:=ops) (ops.toList.drop n) ⟨⟨rf.st.sl,s.hp++zs.map (fun z=>some (.c true (z.map some)))++hn'⟩,rf.gl⟩) fun r2 hr2=>zab fun ρ a w hrr Q hQ=>?_
 obtain ⟨hzl,hza⟩:=zeP hzs
 have hchk2:hpLt s.hp=true:=hchk.2
 generalize hbase:s.hp.length=base at *
 -- the whole heap
 generalize hH:s.hp++zs.map (fun z=>some (Blk.c true (z.map some)))++hn'=H at *
 have hHl:H.length=base+zs.length+hn'.length:=by rw [←hH];simp [hbase];omega
 have hHs:∀ q,q<base→nth H q=nth s.hp q:=fun q hq=>by
  rw [←hH,List.append_assoc,zaL,if_pos (by omega)]
 have hHz:∀ k z,zs[k]? = some z→nth H (base+k)=some (.c true (z.map some)):=fun k z hk=>by
  have hkl:k<zs.length:=by
   rcases Nat.lt_or_ge k zs.length with h | h
   ·exact h
   ·rw [List.getElem?_eq_none h] at hk;cases hk
  rw [←hH,zaL,if_pos (by simp [hbase];omega),zaL,if_neg (by omega),hbase,Nat.add_sub_cancel_left,zfx,List.getElem?_map,hk]
  rfl
 have hHn:∀ p,nth H (base+zs.length+p)=nth hn' p:=fun p=>by
  rw [←hH,zaL,if_neg (by simp [hbase]),List.length_append,List.length_map,hbase,Nat.add_sub_cancel_left]
 have hHlt:∀ q bk,nth H q=some bk→bk.lt base=true:=fun q bk hq=>by
  rcases Nat.lt_or_ge q base with h | h
  ·rw [hHs q h] at hq
   have:=zam hchk.2 hq
   rwa [hbase] at this
  ·rcases Nat.lt_or_ge q (base+zs.length) with h2 | h2
   ·have hk:=List.getElem?_eq_getElem (l:=zs) (i:=q-base) (by omega)
    have:=hHz _ _ hk
    rw [show base+(q-base)=q from by omega,hq] at this
    cases this
    have:=List.all_eq_true.1 hzlt _ (List.mem_of_getElem? hk)
    simp only [Bool.and_eq_true] at this
    have h3:=this.2
    simp only [Blk.lt,List.all_map]
    exact h3
   ·have:=hHn (q-(base+zs.length))
    rw [show base+zs.length+(q-(base+zs.length))=q from by omega,hq] at this
    have:=zam hnlt this.symm
    simp only [Bool.and_eq_true] at this
    exact this.2
 have hn'flat:∀ p bk,nth hn' p=some bk→bk.flat=true:=fun p bk hp=>by
  have:=zam hnlt hp
  simp only [Bool.and_eq_true] at this
  exact this.1
 -- who made which block
 have hs0:sg 0=0:=hz.s0
 have hsm:∀ {i j:Nat},i≤j→j≤pre.length→sg i≤sg j:=fun h1 h2=>zvW hz.mono h1 h2
 have hsn:∀ {i:Nat},i≤pre.length→sg i≤hn'.length:=fun h=>by rw [←hz.sn];exact hsm h (Nat.le_refl _)
 let made:Nat→Nat→Prop:=fun i q=>(∃ o,pre[i]? = some o∧allocOp o.op=true∧q=base+acnt pre i)∨(base+zs.length+sg i≤q∧q<base+zs.length+sg (i+1))
 let live:Array Bool→Nat→Prop:=fun listed q=>q<base∨∃ i,i<pre.length∧listed.getD i false=true∧made i q
 have hacl:∀ {i:Nat} {o:Oper},pre[i]? = some o→allocOp o.op=true→acnt pre i<zs.length:=fun {i o} h1 h2=>by
  have hil:i<pre.length:=by
   rcases Nat.lt_or_ge i pre.length with h | h
   ·exact h
   ·rw [List.getElem?_eq_none h] at h1;cases h1
  have:=zlQ pre h1 h2
  have:=zgH pre (i:=i+1) (j:=pre.length) hil
  omega
 have hmade:∀ {i j q:Nat},i<pre.length→j<pre.length→made i q→made j q→i=j:=by
  intro i j q hi hj h1 h2
  rcases h1 with ⟨o,a1,a2,a3⟩ | ⟨a1,a2⟩<;>rcases h2 with ⟨o',b1,b2,b3⟩ | ⟨b1,b2⟩
  ·exact ztt a1 a2 b1 b2 (by omega)
  ·have:=hacl a1 a2;omega
  ·have:=hacl b1 b2;omega
  ·rcases Nat.lt_trichotomy i j with h | h | h
   ·have:=hsm (i:=i+1) (j:=j) h (by omega);omega
   ·exact h
   ·have:=hsm (i:=j+1) (j:=i) h (by omega);omega
 have hmadeb:∀ {i q:Nat},made i q→base≤q:=by
  intro i q h
  rcases h with ⟨o,_,_,h⟩ | ⟨h,_⟩<;>omega
 have hlive:∀ {listed:Array Bool} {i q:Nat},live listed q→live (listed.setIfInBounds i true) q:=by
  intro listed i q h
  rcases h with h | ⟨j,h1,h2,h3⟩
  ·exact .inl h
  ·exact .inr ⟨j,h1,zaX h2,h3⟩
 have hnew:∀ {listed:Array Bool} {i q:Nat},live (listed.setIfInBounds i true) q→live listed q∨(i<pre.length∧made i q):=by
  intro listed i q h
  rcases h with h | ⟨j,h1,h2,h3⟩
  ·exact .inl (.inl h)
  ·rcases zcS h2 with rfl | h2
   ·exact .inr ⟨h1,h3⟩
   ·exact .inl (.inr ⟨j,h1,h2,h3⟩)
 have hfresh:∀ {listed:Array Bool} {i q:Nat},i<pre.length→listed.getD i false=false→made i q→¬ live listed q:=by
  intro listed i q hi hl hq h
  rcases h with h | ⟨j,h1,h2,h3⟩
  ·have:=hmadeb hq;omega
  ·have:=hmade hi h1 hq h3
   subst this
   rw [hl] at h2;cases h2
 have hlenH:E.n0≤H.length:=by have:=hrr.hs.len;rw [hHl];simp only at this;omega
 have hn0b:E.n0≤base:=by have:=hrr.hs.len;simp only at this;omega
 -- more or fewer known
 have hsub:∀ {L L':Nat→Prop} {θ θ':Nat→Loc} {w1:World},HS E ν θ (zgF L H) w1→(∀ q,L' q→L q∧θ' q=θ q)→(∀ q,q<base→θ' q=θ q)→HS E ν θ' (zgF L' H) w1:=fun {L L' θ θ' w1} h h1 h2 =>
  h.grow (N:=fun _=>False) (Below.refl _ _) hn0b (by rw [zgG];exact hlenH) h2 (fun q bk hq=>by
   obtain ⟨g1,g2⟩:=zbm.1 hq
   obtain ⟨g3,g4⟩:=h1 q g1
   exact .inl ⟨zbm.2 ⟨g3,g2⟩,g4,hHlt q bk g2⟩) (fun _ _ _ _ h=>h.elim)
 have hstart:∀ {listed:Array Bool} {θ:Nat→Loc} {w1:World},HS E ν θ (zgF (live listed) H) w1→HS E ν θ s.hp w1:=fun {listed θ w1} h =>
  h.grow (N:=fun _=>False) (base:=base) (Below.refl _ _) hn0b (by rw [hbase];exact hn0b) (fun _ _=>rfl) (fun q bk hq=>by
   have hql:=za4 hq
   have e:=hHs q (by omega)
   rw [hq] at e
   exact .inl ⟨zbm.2 ⟨.inl (by omega),e⟩,rfl,hHlt q bk e⟩) (fun _ _ _ _ h=>h.elim)
 have hes:∀ i,i<pre.length→∃ e,es[i]? = some e:=fun i hi=>⟨_,List.getElem?_eq_getElem (by rw [hz.len];exact hi)⟩
 have hat:∀ j:Nat,pre.toArray[j]? = pre[j]?:=fun j=>by simp
 have hlt_of:∀ {i:Nat} {o:Oper},pre[i]? = some o→i<pre.length:=fun {i o} h=>by
  rcases Nat.lt_or_ge i pre.length with h1 | h1
  ·exact h1
  ·rw [List.getElem?_eq_none h1] at h;cases h
 have hops':∀ (θ:Nat→Loc) (j:Nat),((List.zipWith (fun o e=>nopW (e.2.2.conc ν θ) o) pre es).toArray)[j]? = (match pre[j]?,es[j]? with | some o,some e=>some (nopW (e.2.2.conc ν θ) o) | _,_=>none):=fun θ j=>by
  simp [List.getElem?_zipWith]
  cases pre[j]?<;>cases es[j]?<;>rfl
 have hnopWd:∀ (v:Value) (o:Oper),(nopW v o).dst=o.dst∧(nopW v o).guard=o.guard∧(nopW v o).after=o.after:=fun v o=>by
  unfold nopW;split<;>exact ⟨rfl,rfl,rfl⟩
 have hsz:∀ θ:Nat→Loc,(List.zipWith (fun o e=>nopW (e.2.2.conc ν θ) o) pre es).toArray.size=pre.toArray.size:=fun θ=>by simp [hz.len]
 have hkind:∀ {i:Nat} {o:Oper},pre[i]? = some o→(zca o.op=false→zbz o.op=true)∧(zca o.op=true→o.guard=none):=fun {i o} h=>by
  have:=List.all_eq_true.1 hheads o (List.mem_of_getElem? h)
  unfold ziw at this
  cases he:zca o.op<;>rw [he] at this<;>simp at this<;>simp [this]
 have heffmem:∀ i,i∈zth pre↔∃ o,pre[i]? = some o∧zca o.op=true:=fun i=>by
  unfold zth
  rw [List.mem_map]
  constructor
  ·rintro ⟨⟨o,j⟩,h,rfl⟩
   obtain ⟨h1,h2⟩:=List.mem_filter.1 h
   exact ⟨o,List.mem_zipIdx_iff_getElem?.1 h1,h2⟩
  ·rintro ⟨o,h1,h2⟩
   exact ⟨(o,i),List.mem_filter.2 ⟨List.mem_zipIdx_iff_getElem?.2 h1,h2⟩,rfl⟩
 have hmanyAt:∀ {i:Nat} {o:Oper},pre[i]? = some o→zca o.op=true→((calleeOf o.op).isSome=true→∀ j,j<i→(∃ o',pre[j]? = some o'∧(calleeOf o'.op).isSome=true)→j∈zaA pre i (zbB o)) ∧
   (∀ t∈zgl o.op,∀ (j:Nat) o',pre[j]? = some o'→o'.dst=some t→j∈zaA pre i (zbB o)):=fun {i o} h he=>by
  have:=List.all_eq_true.1 heffs i ((heffmem i).2 ⟨o,h,he⟩)
  unfold zt7 at this
  rw [h] at this
  simp only [Bool.and_eq_true,Bool.or_eq_true,Bool.not_eq_true'] at this
  obtain ⟨h1,h2⟩:=this
  refine ⟨fun hc j hj ⟨o',g1,g2⟩=>?_,fun t ht j o' ho' hd=>?_⟩
  ·rcases h1 with h1 | h1
   ·rw [hc] at h1;cases h1
   ·refine zm2 h1 j (List.mem_filter.2 ⟨?_,by simpa [Nat.blt_eq] using hj⟩)
    unfold zt6
    exact List.mem_map.2 ⟨(o',j),List.mem_filter.2 ⟨List.mem_zipIdx_iff_getElem?.2 g1,g2⟩,rfl⟩
  ·have:=List.all_eq_true.1 h2 (o',j) (List.mem_zipIdx_iff_getElem?.2 ho')
   simp only [znO,hd,Bool.or_eq_true,Bool.not_eq_true'] at this
   rcases this with h | h
   ·rw [zig ht] at h;cases h
   ·exact zcl h
 refine zeM hbk (ops.toList.drop n) pre.toArray (by rw [←hpre];simp) (fun i hi o ho j hj=>?_) a w ?_
 ·have hi':n≤i:=by simpa [hprel] using hi
  have hmm:(o,i)∈ops.toList.zipIdx.drop n:=by
   rw [List.mem_iff_getElem?]
   refine ⟨i-n,?_⟩
   rw [List.getElem?_drop,show n+(i-n)=i from by omega,List.getElem?_zipIdx]
   have:ops.toList[i]? = some o:=by simpa using ho
   rw [this]
   simp
  have:=List.all_eq_true.1 htail _ hmm
  exact zcl (List.all_eq_true.1 this j (List.mem_range.2 hj))
 have hready:∀ (θ:Nat→Loc) listed,Region.ready .any (List.zipWith (fun o e=>nopW (e.2.2.conc ν θ) o) pre es).toArray listed=Region.ready .any pre.toArray listed:=fun θ listed=>by
  unfold Region.ready
  rw [hsz θ]
  refine List.filter_congr fun j _=>?_
  rw [hops' θ j,hat j]
  cases ho:pre[j]? with
  | none=>rfl
  | some o =>
   obtain ⟨e,he⟩:=hes j (hlt_of ho)
   rw [he]
   have e1:=(hnopWd (e.2.2.conc ν θ) o).2.2
   dsimp only
   generalize nopW (e.2.2.conc ν θ) o=o1 at e1 ⊢
   cases o1;cases o
   simp only at e1
   subst e1
   rfl
 have hdst:∀ (θ:Nat→Loc) (j:Nat),(((List.zipWith (fun o e=>nopW (e.2.2.conc ν θ) o) pre es).toArray)[j]?).bind (·.dst)=((pre.toArray)[j]?).bind (·.dst):=fun θ j=>by
  rw [hops' θ j,hat j]
  cases ho:pre[j]? with
  | none=>rfl
  | some o =>
   obtain ⟨e,he⟩:=hes j (hlt_of ho)
   rw [he]
   exact (hnopWd _ o).1
 have hbkp:zb5 .any pre.toArray:=fun i o ho=>hbk i o (by
  rw [hat] at ho
  have:ops.toList[i]? = some o:=by
   rw [←hpre,List.getElem?_take] at ho
   split at ho
   ·exact ho
   ·cases ho
  simpa using this)
 refine zqp (P:=P) (Θ:=Nat→Loc) (ops:=pre.toArray) (ops':=fun θ=>(List.zipWith (fun o e=>nopW (e.2.2.conc ν θ) o) pre es).toArray) (st:=zth pre) (val:=fun i θ=>(es.getD i default).2.2.conc ν θ)
  (C:=fun θ w=>HS E ν θ s.hp w) (D:=fun listed θ w=>HS E ν θ (zgF (live listed) H) w) (Sm:=fun listed θ θ'=>∀ q,live listed q→θ' q=θ q) (Qf:=fun θ a'=>ARel ν θ rf a')
  (tm:=fun i=>match pre[i]? with | some o=>zgl o.op | none=>[]) hbkp hready hdst (fun θ i hi=>?_) (fun i hi=>?_) (fun listed θ θ' w1 hd hsm1=>?_) (fun listed θ w1 hd=>hstart hd) (fun _ _ _ _=>rfl)
  (fun listed i θ θ' θ'' h1 h2 q hq=>(h2 q (hlive hq)).trans (h1 q hq)) (fun listed i θ θ' hi hs hsm1=>?_) (fun i o hi ho a1 w1 f args w2=>?_) (fun listed i θ w1 hi hd=>?_) (fun i o hi ho listed hcl hrd t ht j o' ho' hd'=>?_)
  (fun i o hi ho listed hs hcl' hrd θ w1 hd a1 a2 ha2 htm=>?_) (fun θ a1 w1 listed hall ha1 hd=>?_) pre.toArray.size (Array.replicate pre.toArray.size false) a w ρ (by simp) (zfZ _ _) ?_ (fun θ' hsm1=>?_)
 ·-- what is neither
  show ((List.zipWith (fun o e=>nopW (e.2.2.conc ν θ) o) pre es).toArray)[i]? = _
  rw [hops' θ i,hat i]
  cases ho:pre[i]? with
  | none=>rfl
  | some o =>
   obtain ⟨e,he⟩:=hes i (hlt_of ho)
   rw [he]
   have:zca o.op=false:=by
    cases h:zca o.op with
    | false=>rfl
    | true=>exact absurd ((heffmem i).2 ⟨o,ho,h⟩) hi
   simp only [zpx this]
 ·obtain ⟨o,h1,h2⟩:=(heffmem i).1 hi
  obtain ⟨e,he⟩:=hes i (hlt_of h1)
  refine ⟨o,by rw [hat];exact h1,(hkind h1).2 h2,fun θ=>⟨nopW (e.2.2.conc ν θ) o,?_,by rw [(hnopWd _ o).2.1];exact (hkind h1).2 h2,(hnopWd _ o).1,fun a1 w1=>?_⟩⟩
  ·show ((List.zipWith (fun o e=>nopW (e.2.2.conc ν θ) o) pre es).toArray)[i]? = _
   rw [hops' θ i,h1,he]
  ·rw [zpy h2,List.getD_eq_getElem?_getD,he]
   simp [execOp,Act.eval]
 ·exact hsub hd (fun q hq=>⟨hq,hsm1 q hq⟩) (fun q hq=>hsm1 q (.inl hq))
 ·-- the values of what is listed
  obtain ⟨o,h1,h2⟩:=(heffmem i).1 hi
  have hil:=hlt_of h1
  have hli:(listed.setIfInBounds i true).getD i false=true:=by
   have:i<listed.size:=by rw [hs];simpa using hil
   rw [Array.getD_eq_getD_getElem?,Array.getElem?_setIfInBounds_self_of_lt this]
   rfl
  have hmk:∀ q,made i q→θ' q=θ q:=fun q hq=>hsm1 q (.inr ⟨i,hil,hli,hq⟩)
  cases hal:allocOp o.op with
  | true =>
   obtain ⟨e,he,hev⟩:=hz.alloc i o h1 hal
   simp only [List.getD_eq_getElem?_getD,he,Option.getD_some,hev,V.conc,V1.conc,Lf.conc]
   rw [hmk _ (.inl ⟨o,h1,hal,rfl⟩)]
  | false =>
   obtain ⟨⟨x,args⟩,hc⟩:=Option.isSome_iff_exists.1 (show (calleeOf o.op).isSome=true by
    unfold zca at h2;rw [hal] at h2;simpa using h2)
   obtain ⟨f,vs,v,he,hin,_,_⟩:=hz.call i o x args h1 hc
   simp only [List.getD_eq_getElem?_getD,he,Option.getD_some]
   refine V.inB_conc hin fun q hq=>?_
   simp only [Bool.or_eq_true,Bool.and_eq_true] at hq
   rcases hq with hq | ⟨hq1,hq2⟩
   ·exact hsm1 q (.inl (by simpa [Nat.blt_eq] using hq))
   ·refine hmk q (.inr ⟨?_,?_⟩)
    ·have:=Nat.le_of_ble_eq_true hq1;simp [hbase] at this;omega
    ·simp [Nat.blt_eq,hbase] at hq2;omega
 ·rw [hat] at ho
  have:zca o.op=false:=by
   cases h:zca o.op with
   | false=>rfl
   | true=>exact absurd ((heffmem i).2 ⟨o,ho,h⟩) hi
  exact zeK ((hkind ho).1 this) a1 w1 f args w2
 ·refine hsub hd (fun q hq=>⟨?_,rfl⟩) (fun _ _=>rfl)
  rcases hnew hq with h | ⟨hil,h⟩
  ·exact h
  ·exfalso
   have hio:=List.getElem?_eq_getElem hil
   have hne:zca pre[i].op=false:=by
    cases h:zca pre[i].op with
    | false=>rfl
    | true=>exact absurd ((heffmem i).2 ⟨_,hio,h⟩) hi
   unfold zca at hne
   rw [Bool.or_eq_false_iff] at hne
   rcases h with ⟨o,h1,h2,_⟩ | ⟨h1,h2⟩
   ·rw [hio] at h1;cases h1
    rw [hne.1] at h2;cases h2
   ·rw [hz.still i _ hio hne.2] at h2
    omega
 ·rw [hat] at ho ho'
  obtain ⟨o2,h1,h2⟩:=(heffmem i).1 hi
  rw [ho] at h1;cases h1
  rw [ho] at ht
  have:=(hmanyAt ho h2).2 t ht j o' ho' hd'
  exact zbW hcl (by rw [hat];exact ho) hrd j this
 ·-- a new block, or a call
  rw [hat] at ho
  obtain ⟨o2,h1,h2⟩:=(heffmem i).1 hi
  rw [ho] at h1;cases h1
  rw [ho] at htm
  have hil:=hlt_of ho
  have hnl:listed.getD i false=false:=by
   obtain ⟨h4,_⟩:=mem_ready.1 hrd
   rw [←zaw (by rw [hs];simpa using hil)]
   exact h4
  have hstl:=hstart hd
  cases hal:allocOp o.op with
  | true =>
   obtain ⟨t,hop⟩:∃ t,o.op = .alloc t:=by
    cases hop:o.op<;>rw [hop] at hal<;>simp [allocOp] at hal
    exact ⟨_,rfl⟩
   obtain ⟨z,hzk,hzc⟩:=hza i o t ho hop
   obtain ⟨inf,zv,hinf,hzv,hzg,hzcc⟩:=zbe (ν:=ν) hzc
   have hzlt2:z.all (Lf.lt s.hp.length)=true:=by
    have:=List.all_eq_true.1 hzlt z (List.mem_of_getElem? hzk)
    simp only [Bool.and_eq_true] at this
    rw [hbase];exact this.2
   have hnewb:=hstl.new hchk2 hzlt2 hzg t
   rw [←hzcc θ] at hnewb
   have hb0:base≤base+acnt pre i:=by omega
   refine .inl ⟨.pointer (some ⟨w1.heap.size,0,none⟩),w1.alloc (.cells zv.cells t),.inl ?_,fun q=>if q=base+acnt pre i then ⟨w1.heap.size,0,false,0,0,none⟩ else θ q,fun q hq=>?_,?_,?_⟩
   ·simp [execOp,hop,Instr.alloc,zeroValue,typeInfo,hinf,hzv,newVar,newRow]
   ·exact if_neg fun e=>hfresh hil hnl (.inl ⟨o,ho,hal,e⟩) hq
   ·right
    obtain ⟨e,he,hev⟩:=hz.alloc i o ho hal
    simp only [List.getD_eq_getElem?_getD,he,Option.getD_some,hev,V.conc,V1.conc,Lf.conc,if_pos,Off.val]
   ·refine hd.grow (N:=fun q=>q=base+acnt pre i) (base:=base) ⟨rfl,rfl,rfl,by simp,fun k hk=>Below.heap_alloc _ _ _ hk⟩ hn0b (by rw [zgG];exact hlenH) (fun q hq=>if_neg (by omega)) (fun q bk hq=>?_) (fun q q' _ _ h h' _ _ _ hne=>absurd (h.trans h'.symm) hne)
    obtain ⟨g1,g2⟩:=zbm.1 hq
    rcases hnew g1 with h | ⟨_,h⟩
    ·exact .inl ⟨zbm.2 ⟨h,g2⟩,if_neg fun e=>hfresh hil hnl (.inl ⟨o,ho,hal,e⟩) h,hHlt q bk g2⟩
    ·have hqe:q=base+acnt pre i:=by
      rcases h with ⟨o',k1,k2,k3⟩ | ⟨k1,k2⟩
      ·exact k3
      ·have hno:(calleeOf o.op).isSome=false:=by rw [hop];rfl
       rw [hz.still i o ho hno] at k2
       omega
     subst hqe
     rw [hHz _ _ hzk] at g2
     cases g2
     refine .inr ⟨?_,.inr ⟨fun _ k hf=>.inl (by have hf:k=_:=hf;rw [hf];simp),fun k hf=>.inl (by have hf:k=_:=hf;rw [hf];simp)⟩,rfl⟩
     have hb1:=hnewb.heap.blk s.hp.length (.c true (z.map some)) (by rw [zaL,if_neg (by omega),Nat.sub_self];rfl)
     rw [zbI] at hb1
     have hk:=hb1.keep (n:=base) (ρ':=fun q=>if q=base+acnt pre i then ⟨w1.heap.size,0,false,0,0,none⟩ else θ q) (fun k hk=>by
      rw [if_neg (by omega),zbO (by omega)]) (hHlt _ _ (hHz _ _ hzk))
     simp only [if_pos]
     exact hk
  | false =>
   obtain ⟨⟨x,args⟩,hc⟩:=Option.isSome_iff_exists.1 (show (calleeOf o.op).isSome=true by
    unfold zca at h2;rw [hal] at h2;simpa using h2)
   obtain ⟨f,vs,v,he,hin,_,hfact⟩:=hz.call i o x args ho hc
   obtain ⟨hf,vs',hvs',heq⟩:=zpz hargs i o x args f vs v ho hc he
   have hcs:(calleeOf o.op).isSome=true:=by rw [hc];rfl
   have hsi1:=hsn (i:=i) (by omega)
   have hsi2:=hsn (i:=i+1) (by omega)
   have hsi3:=hz.mono i hil
   generalize hcl:(s.hp++zs.map fun _=>none).map frz++(hn'.take (sg i)).map frz=hcall at hfact
   have hcll:hcall.length=base+zs.length+sg i:=by rw [←hcl];simp [hbase];omega
   have hcin:∀ j bk,nth hcall j=some bk→nth (zgF (live listed) H) j=some bk∧bk.flat=true∧bk.own=false:=by
    intro j bk hj
    rw [←hcl,zaL] at hj
    split at hj
    ·rename_i hjl
     obtain ⟨k1,k2,k3⟩:=zrH hj
     rw [zaL] at k1
     split at k1
     ·rename_i hjb
      rw [hbase] at hjb
      exact ⟨zbm.2 ⟨.inl hjb,by rw [hHs j hjb];exact k1⟩,k2,k3⟩
     ·exfalso
      rw [zfx,List.getElem?_map] at k1
      cases h:zs[j-s.hp.length]?<;>rw [h] at k1<;>cases k1
    ·rename_i hjl
     have hjl2:base+zs.length≤j:=by simp [hbase] at hjl;omega
     have hlen3:((s.hp++zs.map fun _=>(none:Option Blk)).map frz).length=base+zs.length:=by simp [hbase]
     rw [hlen3] at hj
     obtain ⟨k1,k2,k3⟩:=zrH hj
     have hp1:j-(base+zs.length)<sg i:=by
      have:=za4 k1
      rw [List.length_take] at this
      omega
     have k4:nth hn' (j-(base+zs.length))=some bk:=by
      rw [zfx,List.getElem?_take,if_pos hp1,←zfx] at k1
      exact k1
     obtain ⟨i',m1,m2,m3⟩:=zrJ (fun k hk=>hz.mono k (by omega)) hs0 hp1
     have hio:=List.getElem?_eq_getElem (l:=pre) (i:=i') (by omega)
     have hcs':(calleeOf pre[i'].op).isSome=true:=by
      cases h:(calleeOf pre[i'].op).isSome with
      | true=>rfl
      | false =>
       rw [hz.still i' _ hio h] at m3
       omega
     have hanc:=(hmanyAt ho h2).1 hcs i' m1 ⟨_,hio,hcs'⟩
     have hli:=zbW hcl' (by rw [hat];exact ho) hrd i' hanc
     refine ⟨zbm.2 ⟨.inr ⟨i',by omega,hli,.inr ⟨by omega,by omega⟩⟩,?_⟩,k2,k3⟩
     have:=hHn (j-(base+zs.length))
     rw [show base+zs.length+(j-(base+zs.length))=j from by omega] at this
     rw [this];exact k4
   have hread:=hd.read hcin
   have hgood:=zkO (ν:=ν) heq
   have hargc:vs'.map (V.conc ν θ)=vs.map (V.conc ν θ):=zkM θ heq
   obtain ⟨hen,hcalls⟩:=hfact _ (zqr (Nat.le_trans hE.1 hd.fr.size)) θ w1 hgood hread (hI w1 hd.fr)
   refine .inr ⟨f,(vs.map (V.conc ν θ)).toArray,w1,?_,hcalls.mono fun e w' ⟨ρ2,hp1,k1,k2,k3,k4⟩=>⟨v.conc ν ρ2,k4,fun q=>if base+zs.length+sg i≤q∧q<base+zs.length+sg (i+1) then ρ2 q else θ q,fun q hq=>?_,?_,?_⟩⟩
   ·rw [zop hcs htm,←hargc]
    rw [←hargc] at hen
    exact zqq hc hf hvs' ha2 w1 hen
   ·exact if_neg fun hh=>hfresh hil hnl (.inr hh) hq
   ·right
    simp only [List.getD_eq_getElem?_getD,he,Option.getD_some]
    refine V.inB_conc hin fun q hq=>?_
    simp only [Bool.or_eq_true,Bool.and_eq_true] at hq
    rcases hq with hq | ⟨hq1,hq2⟩
    ·have hqb:q<base:=by simpa [Nat.blt_eq] using hq
     rw [if_neg (by omega),k1 q (by omega)]
    ·have e1:=Nat.le_of_ble_eq_true hq1
     simp [hbase] at e1
     simp [Nat.blt_eq,hbase] at hq2
     exact if_pos ⟨by omega,by omega⟩
   ·have hbel:Below w1.heap.size w1 w':=k2.fr.below
    have hent:∀ q bk,base+zs.length+sg i≤q→q<base+zs.length+sg (i+1)→nth H q=some bk→nth hp1 q=some bk:=by
     intro q bk hq1 hq2 hq
     have e1:=hHn (q-(base+zs.length))
     rw [show base+zs.length+(q-(base+zs.length))=q from by omega,hq] at e1
     have e2:nth ((hn'.take (sg (i+1))).drop (sg i)) (q-(base+zs.length)-sg i)=some bk:=by
      rw [zpw,show sg i+(q-(base+zs.length)-sg i)=q-(base+zs.length) from by omega,zfx,List.getElem?_take,if_pos (by omega),←zfx,←e1]
     have e3:=k3 (q-(base+zs.length)-sg i) (by rw [e2];simp)
     rw [e2,hcll,show base+zs.length+sg i+(q-(base+zs.length)-sg i)=q from by omega] at e3
     exact e3
    refine hd.grow (N:=fun q=>base+zs.length+sg i≤q∧q<base+zs.length+sg (i+1)) (base:=base) hbel hn0b (by rw [zgG];exact hlenH) (fun q hq=>if_neg (by omega)) (fun q bk hq=>?_) (fun q q' bk bk' h h' hq ho1 hq' hne hn1 hn2 k hf1 hf2=>?_)
    ·obtain ⟨g1,g2⟩:=zbm.1 hq
     rcases hnew g1 with h | ⟨_,h⟩
     ·exact .inl ⟨zbm.2 ⟨h,g2⟩,if_neg fun hh=>hfresh hil hnl (.inr hh) h,hHlt q bk g2⟩
     ·rcases h with ⟨o',m1,m2,m3⟩ | hr
      ·rw [ho] at m1;cases m1
       rw [hal] at m2;cases m2
      ·have e1:=hent q bk hr.1 hr.2 g2
       have hflat:bk.flat=true:=by
        have:=hHn (q-(base+zs.length))
        rw [show base+zs.length+(q-(base+zs.length))=q from by omega,g2] at this
        exact hn'flat _ _ this.symm
       refine .inr ⟨?_,?_,hr⟩
       ·rw [if_pos hr]
        exact ((k2.heap.blk q bk e1).flat hflat).keep (n:=base) (fun k hk=>by rw [if_neg (by omega)];exact (k1 k (by omega)).symm) (hHlt q bk g2)
       ·rw [if_pos hr]
        rcases k2.old q bk e1 with h | h
        ·exact .inl h
        ·refine .inr ⟨h.wr,fun k hf=>?_⟩
         rcases h.rd k hf with h | h | ⟨j,bj,n1,n2,n3⟩
         ·exact .inl h
         ·exact h.elim
         ·exact .inr (.inr ⟨j,bj,(hcin j bj n1).1,(hcin j bj n1).2.2,n2,n3⟩)
    ·have g2:=(zbm.1 hq).2
     have g2':=(zbm.1 hq').2
     simp only [if_pos h] at hn1 hf1
     simp only [if_pos h'] at hn2 hf2
     exact k2.heap.apart q q' bk bk' (hent q bk h.1 h.2 g2) ho1 (hent q' bk' h'.1 h'.2 g2') hne hn1 hn2 k hf1 hf2
 ·-- all is listed
  show wpList P ops Q (ops.toList.drop n) a1 w1
  refine hr2 θ a1 w1 ⟨⟨ha1.defers,ha1.size,ha1.slot,ha1.gl⟩,?_⟩ Q fun ρ' a' w' h'=>hQ ρ' a' w' h'.drop
  refine hd.grow (N:=fun _=>False) (base:=base) (Below.refl _ _) hn0b hlenH (fun _ _=>rfl) (fun q bk hq=>.inl ⟨zbm.2 ⟨?_,hq⟩,rfl,hHlt q bk hq⟩) (fun _ _ _ _ h=>h.elim)
  rcases Nat.lt_or_ge q base with h | h
  ·exact .inl h
  ·have hql:q<base+zs.length+hn'.length:=by rw [←hHl];exact za4 hq
   rcases Nat.lt_or_ge q (base+zs.length) with h2 | h2
   ·obtain ⟨i,o,k1,k2,k3⟩:=zjn pre (k:=q-base) (by omega)
    exact .inr ⟨i,hlt_of k1,hall i (by simpa using hlt_of k1),.inl ⟨o,k1,k2,by omega⟩⟩
   ·obtain ⟨i,k1,k2,k3⟩:=zrJ (s:=sg) (n:=pre.length) (p:=q-(base+zs.length)) hz.mono hs0 (by rw [hz.sn];omega)
    exact .inr ⟨i,k1,hall i (by simpa using k1),.inr ⟨by omega,by omega⟩⟩
 ·refine hrr.hs.grow (N:=fun _=>False) (base:=base) (Below.refl _ _) hn0b (by rw [zgG];exact hlenH) (fun _ _=>rfl) (fun q bk hq=>?_) (fun _ _ _ _ h=>h.elim)
  obtain ⟨g1,g2⟩:=zbm.1 hq
  rcases g1 with g1 | ⟨j,_,hj,_⟩
  ·exact .inl ⟨by rw [hHs q g1] at g2;exact g2,rfl,hHlt q bk g2⟩
  ·exfalso
   rw [Array.getD_eq_getD_getElem?,Array.getElem?_replicate] at hj
   split at hj<;>simp at hj
 ·have hρ:∀ q,q<base→θ' q=ρ q:=fun q hq=>hsm1 q (.inl hq)
  have ha1:ARel ν θ' ⟨s,[]⟩ a:=hrr.act.ext (fun j hj=>hρ j (by omega)) hchk.1 (by simp) s.hp
  have hs1:HS E ν θ' s.hp w:=hrr.hs.reloc hchk2 (fun j hj=>hρ j (by rw [←hbase];exact hj))
  have hwq:=hz.quiet θ' a ha1 ⟨w,hs1⟩ _ rfl (List.zipWith (fun o e=>nopW (e.2.2.conc ν θ') o) pre es).toArray (hdst θ') (fun a'=>ARel ν θ' rf a') (fun _ h=>h)
  have hB:Region.lexB .any (List.zipWith (fun o e=>nopW (e.2.2.conc ν θ') o) pre es).toArray=true:=by
   rw [←hlex]
   refine zkN (by simp [hz.len]) fun j o1 o2 h1 h2=>?_
   rw [List.getElem?_map] at h2
   obtain ⟨o,g1,rfl⟩:=Option.map_eq_some_iff.1 h2
   obtain ⟨e,he⟩:=hes j (hlt_of g1)
   rw [List.getElem?_zipWith,g1,he] at h1
   simp only [Option.some.injEq] at h1
   subst h1
   refine ⟨by rw [(hnopWd _ o).1,(hnopWd _ o).1],by rw [(hnopWd _ o).2.1,(hnopWd _ o).2.1],by rw [(hnopWd _ o).2.2,(hnopWd _ o).2.2],?_⟩
   unfold nopW
   split
   ·exact .inr ⟨_,_,rfl,rfl⟩
   ·exact .inl rfl
  simp only [Region.lexB,Bool.and_eq_true] at hB
  have:=wpAnyQ_lex (P:=P) (C:=fun w=>HS E ν θ' s.hp w) (md:=.any) hB.1 (List.zipWith (fun o e=>nopW (e.2.2.conc ν θ') o) pre es) 0 (Array.replicate (List.zipWith (fun o e=>nopW (e.2.2.conc ν θ') o) pre es).toArray.size false) a (by simp) (by simpa using hB.2) hwq
  rw [hsz θ'] at this
  simpa [hz.len] using this
end
end Go.Sx
namespace Go.Sx
open Go.RowKit
section
variable {P:Program} {I:World→Prop} {S:Sigs} {F:FEnv} {E:Env} {gK:Nat} {ν:Nat→DV}
theorem A.eqS_eq {a b:A} (h:a.eqS b=true):a=b:=by
 unfold A.eqS at h
 split at h
 ·rw [Nat.eq_of_beq_eq_true h]
 ·rw [of_decide_eq_true h]
 ·rw [zcO h]
 ·cases h
theorem Lf.eqS_eq {a b:Lf} (h:a.eqS b=true):a=b:=by
 unfold Lf.eqS at h
 split at h
 ·simp only [Bool.and_eq_true] at h
  rw [zb7 h.1,A.eqS_eq h.2]
 ·rw [A.eqS_eq h]
 ·simp only [Bool.and_eq_true] at h
  rw [Nat.eq_of_beq_eq_true h.1,Nat.eq_of_beq_eq_true h.2]
 ·rfl
 ·rw [Nat.eq_of_beq_eq_true h]
 ·rw [Nat.eq_of_beq_eq_true h]
 ·simp only [Bool.and_eq_true] at h
  rw [LT.feq_eq h.1.1,A.eqS_eq h.1.2,Nat.eq_of_beq_eq_true h.2]
 ·cases h
theorem zf0:∀ {l l':List (Option Lf)},ze1 l l'=true→l=l'
 | [],[],_=>rfl
 | none::l,none::l',h=>by
  simp only [ze1] at h
  rw [zf0 h]
 | some a::l,some b::l',h=>by
  simp only [ze1,Bool.and_eq_true] at h
  rw [Lf.eqS_eq h.1,zf0 h.2]
 | [],none::_,h=>by cases h
 | [],some _::_,h=>by cases h
 | none::_,[],h=>by cases h
 | some _::_,[],h=>by cases h
 | none::_,some _::_,h=>by cases h
 | some _::_,none::_,h=>by cases h
theorem Blk.eqS_eq {a b:Blk} (h:a.eqS b=true):a=b:=by
 unfold Blk.eqS at h
 split at h
 ·simp only [Bool.and_eq_true] at h
  rw [zcO h.1,zf0 h.2]
 ·simp only [Bool.and_eq_true] at h
  rw [zcO h.1.1,zeC h.1.2,A.eqS_eq h.2]
 ·simp only [Bool.and_eq_true] at h
  rw [zcO h.1.1,Nat.eq_of_beq_eq_true h.1.2,A.eqS_eq h.2]
 ·simp only [Bool.and_eq_true] at h
  rw [zcO h.1.1.1,zcO h.1.1.2,zeC h.1.2,A.eqS_eq h.2]
 ·cases h
theorem zkP {ts:List Nat} : ∀ (l:List (Option V)) (j:Nat),(zef ts j l).length=l.length
 | [],_=>rfl
 | x::l,j=>by simp [zef,zkP l (j+1)]
theorem zkQ {ts:List Nat} : ∀ (l:List (Option V)) (j q:Nat),nth (zef ts j l) q=if memN (j+q) ts then nth l q else none
 | [],j,q=>by cases q<;>simp [zef,nth]
 | x::l,j,0=>by simp [zef,nth]
 | x::l,j,q+1=>by
  simp only [zef,nth]
  rw [zkQ l (j+1) q,show j+1+q=j+(q+1) from by omega]
theorem BlkRel.refs {p:Nat→Bool} {ρ ρ':Nat→Loc} (hρ:∀ q,p q=true→ρ' q=ρ q) {w:World} {r:Loc} {b:Blk} (hl:b.refsIn p=true) (h:BlkRel E ν ρ w r b):BlkRel E ν ρ' w r b:=by
 cases b with
 | obj o k a=>exact h
 | v o ts a=>exact h
 | l o f ts a=>exact h
 | m=>cases hl
 | c o cs =>
  have h:CBlk ν ρ w r o cs:=h
  refine (⟨h.nil,h.lt,fun i l hi=>?_,h.own,h.fz⟩:CBlk ν ρ' w r o cs)
  obtain ⟨g1,g2⟩:=h.cell i l hi
  have hall:cs.all (zao (Lf.inB p))=true:=hl
  exact ⟨g1,by rw [g2,Lf.inB_conc (zam hall hi) hρ]⟩
theorem zgE.mono {m:Sem Next} {w:World} {K K':Value→World→Prop} (h:zgE P m w K) (hk:∀ v w',K v w'→K' v w'):zgE P m w K':=by
 rcases h with ⟨v,w',h1,h2⟩ | ⟨f,args,w1,h1,h2⟩
 ·exact .inl ⟨v,w',h1,hk _ _ h2⟩
 ·exact .inr ⟨f,args,w1,h1,h2.mono fun e w' ⟨v,h3,h4⟩=>⟨v,h3,hk _ _ h4⟩⟩
def OpFact (P:Program) (I:World→Prop) (gK:Nat) (ν:Nat→DV) (o:Oper) (e:SwE) (R:List (Option Blk)) (H:List (Option Blk)):Prop :=
 ∀ (E2:Env),E2.Ok gK→∀ ρ a,ARel ν ρ ⟨⟨e.sl,R⟩,[]⟩ a→∀ w,HS E2 ν ρ R w→I w →
  zgE P (execOp a.eval o) w fun v w'=>∃ (ρ':Nat→Loc) (hp':List (Option Blk)),(∀ j,j<e.a→ρ' j=ρ j)∧HS E2 ν ρ' hp' w'∧v=e.v.conc ν ρ' ∧
   (∀ q bk,q<e.a→nth hp' q=some bk→nth R q=some bk)∧(∀ q bk,q<e.a→nth R q=some bk→q∉e.ks→nth hp' q=some bk)∧(∀ q,e.a≤q→q<e.b→nth hp' q=nth H q)
structure SwFact (P:Program) (I:World→Prop) (gK:Nat) (ν:Nat→DV) (base:Nat) (o:Oper) (e:SwE) (H:List (Option Blk)):Prop where
 fact:OpFact P I gK ν o e (keepAt e.fp 0 (H.take e.a)) H
 easy:e.v.easy=true
 val:e.v.inB (rngB base [] e.a e.b)=true
 ks:∀ q∈e.ks,base≤q∧q∈e.fp
 fpl:∀ q∈e.fp,q<e.a
 news:∀ q bk,e.a≤q→q<e.b→nth H q=some bk→bk.flat=true∧bk.refsIn (rngB base e.fp e.a e.b)=true
theorem ztu {α:Type} (l:List (Option α)) (n q:Nat):nth (l.take n) q=if q<n then nth l q else none:=by
 rw [zfx,List.getElem?_take]
 split
 ·rw [zfx]
 ·rfl
def Chain:Nat→List SwE→Nat→Prop
 | n,[],m=>n=m
 | n,e::r,m=>e.a=n∧n≤e.b∧Chain e.b r m
theorem Chain.le:∀ {n m:Nat} {es:List SwE},Chain n es m→n≤m
 | n,m,[],h=>by cases h;exact Nat.le_refl _
 | n,m,e::r,h=>Nat.le_trans h.2.1 (Chain.le h.2.2)
theorem Chain.at:∀ {n m:Nat} {es:List SwE},Chain n es m→∀ (i:Nat) (e:SwE),es[i]? = some e→n≤e.a∧e.a≤e.b∧e.b≤m
 | n,m,[],_,i,e,h=>by simp at h
 | n,m,x::r,hc,0,e,h=>by
  simp at h;subst h
  exact ⟨by rw [hc.1];exact Nat.le_refl _,by rw [hc.1];exact hc.2.1,hc.2.2.le⟩
 | n,m,x::r,hc,i+1,e,h=>by
  have:=Chain.at hc.2.2 i e (by simpa using h)
  exact ⟨Nat.le_trans hc.2.1 this.1,this.2⟩
theorem Chain.lt {n m:Nat} {es:List SwE} (hc:Chain n es m):∀ (i j:Nat) (e e':SwE),i<j→es[i]? = some e→es[j]? = some e'→e.b≤e'.a:=by
 induction es generalizing n with
 | nil=>intro i j e e' _ h;simp at h
 | cons x r ih =>
  intro i j e e' hij h h'
  cases j with
  | zero=>omega
  | succ j =>
   rw [List.getElem?_cons_succ] at h'
   cases i with
   | zero =>
    rw [List.getElem?_cons_zero] at h
    cases h
    exact (Chain.at hc.2.2 j e' h').1
   | succ i =>
    rw [List.getElem?_cons_succ] at h
    exact ih hc.2.2 i j e e' (by omega) h h'
structure SwOK (P:Program) (I:World→Prop) (gK:Nat) (ν:Nat→DV) (E:Env) (ops:Array Oper) (base:Nat) (l:List Oper) (r:RS) (H:List (Option Blk)) (r':RS) (H':List (Option Blk)) (es:List SwE):Prop where
 len:es.length=l.length
 hp:r'.st.hp=r.st.hp
 pre:H'.take H.length=H
 chain:Chain H.length es H'.length
 quiet:∀ ρ a,ARel ν ρ r a→(∃ w,HS E ν ρ r.st.hp w)→∀ C:World→Prop,C=(fun w=>HS E ν ρ r.st.hp w)→∀ ops':Array Oper,(∀ j:Nat,(ops'[j]?).bind (·.dst)=(ops[j]?).bind (·.dst)) →
  ∀ Q:Act→Prop,(∀ a',ARel ν ρ r' a'→Q a')→wpQuiet P ops' C Q (List.zipWith (fun o e=>nopX (e.v.conc ν ρ) o) l es) a
 eff:∀ (i:Nat) (o:Oper) (e:SwE),l[i]? = some o→es[i]? = some e→effOp2 o.op=true→SwFact P I gK ν base o e H'
 still:∀ (i:Nat) (o:Oper) (e:SwE),l[i]? = some o→es[i]? = some e→effOp2 o.op=false→e.a=e.b∧e.ks=[]
theorem SwFact.grow {base:Nat} {o:Oper} {e:SwE} {H H':List (Option Blk)} {n:Nat} (h:SwFact P I gK ν base o e H) (hb:e.b=H.length) (ha:e.a≤e.b) (hp:H'.take n=H) (hn:n=H.length):SwFact P I gK ν base o e H':=by
 subst hn
 have hq:∀ q,q<H.length→nth H' q=nth H q:=fun q hq=>by
  have:=congrArg (fun l=>nth l q) hp
  simp only [ztu,if_pos hq] at this
  exact this
 have ht:H'.take e.a=H.take e.a:=zeN hp (by omega)
 refine ⟨?_,h.easy,h.val,h.ks,h.fpl,fun q bk h1 h2 h3=>h.news q bk h1 h2 (by rw [←hq q (by omega)];exact h3)⟩
 rw [ht]
 intro E2 hE2 ρ a hra w hh hI
 refine (h.fact E2 hE2 ρ a hra w hh hI).mono fun v w' ⟨ρ',hp',k1,k2,k3,k4,k5,k6⟩=>⟨ρ',hp',k1,k2,k3,k4,k5,fun q g1 g2=>by rw [k6 q g1 g2,hq q (by omega)]⟩
end
end Go.Sx
namespace Go.Sx
open Go.RowKit
section
variable {P:Program} {I:World→Prop} {S:Sigs} {F:FEnv} {E:Env} {gK:Nat} {ν:Nat→DV}
end
end Go.Sx
namespace Go.Sx
open Go.RowKit
section
variable {P:Program} {I:World→Prop} {S:Sigs} {F:FEnv} {E:Env} {gK:Nat} {ν:Nat→DV}
theorem zf1:∀ {l l':List (Option V)},ze2 l l'=true→l.length=l'.length∧∀ (t:Nat) v,nth l t=some v→∃ v',nth l' t=some v'∧v'.eqB v=true
 | [],[],_=>⟨rfl,fun t v h=>by cases t<;>simp [nth] at h⟩
 | none::l,_::l',h=>by
  obtain ⟨h1,h2⟩:=zf1 (l:=l) (l':=l') h
  refine ⟨by simp [h1],fun t v hv=>?_⟩
  cases t with
  | zero=>simp [nth] at hv
  | succ t=>exact h2 t v hv
 | some v::l,some v'::l',h=>by
  simp only [ze2,Bool.and_eq_true] at h
  obtain ⟨h1,h2⟩:=zf1 (l:=l) (l':=l') h.2
  refine ⟨by simp [h1],fun t u hu=>?_⟩
  cases t with
  | zero =>
   simp only [nth,Option.some.injEq] at hu
   subst hu
   exact ⟨v',rfl,h.1⟩
  | succ t=>exact h2 t u hu
 | [],_::_,h=>by cases h
 | none::_,[],h=>by cases h
 | some _::_,[],h=>by cases h
 | some _::_,none::_,h=>by cases h
end
end Go.Sx
namespace Go.Sx
open Go.RowKit
section
variable {P:Program} {I:World→Prop} {S:Sigs} {F:FEnv} {E:Env} {gK:Nat} {ν:Nat→DV}
theorem zqt {o:Oper} {a a':Act} {l:List Operand} (he:zmq o.op=some l) (h:∀ t∈zix o.op,a'.tmps[t]? = a.tmps[t]?):execOp a.eval o=execOp a'.eval o:=by
 have key:∀ x∈l,a.eval x=a'.eval x:=fun x hx=>zdd fun t ht=>h t (by
  unfold zix
  rw [he]
  exact List.mem_flatMap.2 ⟨x,hx,ht⟩)
 have keyo:∀ y:Option Operand,(∀ x∈y.toList,a.eval x=a'.eval x)→y.map a.eval=y.map a'.eval:=fun y hy=>by
  cases y with
  | none=>rfl
  | some x=>simp [hy x (by simp)]
 cases hop:o.op<;>rw [hop] at he<;>simp only [zmq] at he<;>(try cases he)<;>simp only [execOp,hop]
 case box t x=>rw [key x (by simp)]
 case buildSlice t len ps =>
  have:(ps.map fun (i,x)=>(i,a.eval x))=ps.map fun (i,x)=>(i,a'.eval x):=by
   apply Array.ext'
   simp only [Array.toList_map]
   exact List.map_congr_left fun p hp=>by rw [key p.2 (List.mem_map.2 ⟨p,hp,rfl⟩)]
  rw [this]
 case insert t m k v=>rw [key m (by simp),key k (by simp),key v (by simp)]
 case store t x y=>rw [key x (by simp),key y (by simp)]
 case makeInterface t x=>rw [key x (by simp)]
 case convert t d x=>rw [key x (by simp)]
 case makeMap t r=>rw [keyo r fun y hy=>key y hy]
 case makeSlice t l c=>rw [key l (by simp),key c (by simp)]
 case slice t x lo hi mx =>
  rw [key x (by simp),keyo lo fun y hy=>key y (by simp at hy ⊢;exact .inr (.inl hy)),keyo hi fun y hy=>key y (by simp at hy ⊢;exact .inr (.inr (.inl hy))),keyo mx fun y hy=>key y (by simp at hy ⊢;exact .inr (.inr (.inr hy)))]
 case lookup t m k c=>rw [key m (by simp),key k (by simp)]
 case call c =>
  have hargs:c.args.map a.eval=c.args.map a'.eval:=by
   apply Array.ext'
   simp only [Array.toList_map]
   exact List.map_congr_left fun z hz=>key z (List.mem_append_right _ hz)
  cases hcal:c.callee with
  | value y=>simp only [resolve,hcal,hargs,key y (List.mem_append_left _ (by rw [hcal];simp))]
  | invoke y n=>simp only [resolve,hcal,hargs,key y (List.mem_append_left _ (by rw [hcal];simp))]
  | builtin b=>simp only [resolve,hcal,hargs]
theorem zpA {v:Value} {o:Oper} (h:eff4 o.op=false):nopY v o=o:=by unfold nopY;rw [h];rfl
theorem zih {v:Value} {o:Oper} (h:eff4 o.op=true):nopY v o = { o with op:=.move (.const v) }:=by unfold nopY;rw [if_pos h]
theorem zbP (v:Value) (o:Oper):(nopY v o).dst=o.dst∧(nopY v o).guard=o.guard∧(nopY v o).after=o.after:=by unfold nopY;split<;>exact ⟨rfl,rfl,rfl⟩
theorem zhq {o:Oper} {r r1:RS} {v:V} (he:eff4 o.op=true) (hg:o.guard=none) (hgood:v.good ν) (hput:∀ ρ a (x:Value),ARel ν ρ r a→(∀ u,some v=some u→u.good ν∧x=u.conc ν ρ)→ARel ν ρ r1 (a.put o.dst x))
  (ρ:Nat→Loc) (a:Act) (hra:ARel ν ρ r a) (C:World→Prop) (ops':Array Oper) :
  if Region.wanted (nopY (v.conc ν ρ) o) (yielded ops' a.tmps)=true then ∃ u,(∀ w,C w→(nopY (v.conc ν ρ) o).quietAt P a C w u)∧ARel ν ρ r1 (a.put (nopY (v.conc ν ρ) o).dst u) else ARel ν ρ r1 (a.put (nopY (v.conc ν ρ) o).dst undef):=by
 rw [zih he]
 rw [if_pos (by simp [Region.wanted,hg])]
 refine ⟨v.conc ν ρ,fun w _=>?_,hput ρ a _ hra fun u hu=>by cases hu;exact ⟨hgood,rfl⟩⟩
 unfold Oper.quietAt
 simp [execOp,Act.eval,Oper.quietUpon]
def ChFact (P:Program) (I:World→Prop) (E:Env) (ν:Nat→DV) (ops:Array Oper) (o:Oper) (e:ChE) (H:List (Option Blk)):Prop :=
 ∀ θ a w,ARel ν θ ⟨⟨e.sl,e.R⟩,e.gl⟩ a→Region.wanted o (yielded ops a.tmps)=true→HS E ν θ e.R w→I w →
  zgE P (execOp a.eval o) w fun v w'=>(turn4 o.op=true→∃ θ':Nat→Loc,(∀ q,q<H.length→θ' q=θ q)∧(o.dst=none∨e.v.conc ν θ'=v)∧HS E ν θ' e.H w') ∧
   (turn4 o.op=false→(o.dst=none∨e.v.conc ν θ=v)∧∀ H',HS E ν θ H' w→HS E ν θ H' w')
def ChSkip (E:Env) (ν:Nat→DV) (ops:Array Oper) (o:Oper) (e:ChE) (H:List (Option Blk)):Prop :=
 ∀ θ a w,ARel ν θ ⟨⟨e.sl,e.R⟩,e.gl⟩ a→Region.wanted o (yielded ops a.tmps)=false→HS E ν θ H w→∃ θ':Nat→Loc,(∀ q,q<H.length→θ' q=θ q)∧HS E ν θ' e.H w
structure ChEff (P:Program) (I:World→Prop) (E:Env) (ν:Nat→DV) (ops:Array Oper) (o:Oper) (e:ChE) (H:List (Option Blk)):Prop where
 lt:e.v.lt e.H.length=true
 lt0:turn4 o.op=false→e.v.lt 0=true
 R:turn4 o.op=true→e.R=H
 fact:ChFact P I E ν ops o e H
 skip:ChSkip E ν ops o e H
structure ChOK (P:Program) (I:World→Prop) (E:Env) (ν:Nat→DV) (ops:Array Oper) (l:List Oper) (r:RS) (H:List (Option Blk)) (r':RS) (es:List ChE):Prop where
 len:es.length=l.length
 hp:r'.st.hp=r.st.hp
 quiet:∀ ρ a,ARel ν ρ r a→(∃ w,HS E ν ρ r.st.hp w)→∀ C:World→Prop,C=(fun w=>HS E ν ρ r.st.hp w)→∀ ops':Array Oper,(∀ j:Nat,(ops'[j]?).bind (·.dst)=(ops[j]?).bind (·.dst)) →
  ∀ Q:Act→Prop,(∀ a',ARel ν ρ r' a'→Q a')→wpQuiet P ops' C Q (List.zipWith (fun o e=>nopY (e.v.conc ν ρ) o) l es) a
 eff:∀ (i:Nat) (o:Oper) (e:ChE),l[i]? = some o→es[i]? = some e→eff4 o.op=true→ChEff P I E ν ops o e (chBef H es i)
 mono:∀ i,i<l.length→(chBef H es i).length≤(chBef H es (i+1)).length
 lt:hpLt H=true→∀ i,i≤l.length→hpLt (chBef H es i)=true
 still:∀ (i:Nat) (o:Oper),l[i]? = some o→turn4 o.op=false→chBef H es (i+1)=chBef H es i
theorem zce (H:List (Option Blk)) (e:ChE) (es:List ChE) (i:Nat):chBef H (e::es) (i+1)=chBef e.H es i:=by
 cases i with
 | zero=>rfl
 | succ i=>simp [chBef]
theorem zkR (H:List (Option Blk)):∀ es:List ChE,chBef H es es.length=zpW H es
 | []=>rfl
 | e::es=>by rw [List.length_cons,zce,zkR e.H es];rfl
theorem zjo:zc2.good ν:=by
 unfold zc2
 exact V.good_s.2 (V1.good_one.2 trivial)
theorem zgI (n:Nat):V.lt n zc2=true:=rfl
theorem ChOK.cons {ops:Array Oper} {o:Oper} {l:List Oper} {r r1 r2:RS} {H:List (Option Blk)} {e:ChE} {es:List ChE} (h:ChOK P I E ν ops l r1 e.H r2 es) (hr:r1.st.hp=r.st.hp)
  (hq:∀ ρ a,ARel ν ρ r a→(∃ w,HS E ν ρ r.st.hp w)→∀ C:World→Prop,C=(fun w=>HS E ν ρ r.st.hp w)→∀ ops':Array Oper,(∀ j:Nat,(ops'[j]?).bind (·.dst)=(ops[j]?).bind (·.dst)) →
   if Region.wanted (nopY (e.v.conc ν ρ) o) (yielded ops' a.tmps)=true then ∃ u,(∀ w,C w→(nopY (e.v.conc ν ρ) o).quietAt P a C w u)∧ARel ν ρ r1 (a.put (nopY (e.v.conc ν ρ) o).dst u) else ARel ν ρ r1 (a.put (nopY (e.v.conc ν ρ) o).dst undef))
  (heff:eff4 o.op=true→ChEff P I E ν ops o e H) (hmono:H.length≤e.H.length) (hlt:hpLt H=true→hpLt e.H=true) (hst:turn4 o.op=false→e.H=H):ChOK P I E ν ops (o::l) r H r2 (e::es):=by
 refine ⟨by simp [h.len],h.hp.trans hr,fun ρ a hra hex C hC ops' hd Q hQ=>?_,fun i o' e' ho' he' hef=>?_,fun i hi=>?_,fun hl i hi=>?_,fun i o' ho' hef=>?_⟩
 ·have:=hq ρ a hra hex C hC ops' hd
  simp only [List.zipWith_cons_cons,wpQuiet]
  split
  ·rename_i hw
   rw [if_pos hw] at this
   obtain ⟨v,h7,h8⟩:=this
   exact ⟨v,h7,h.quiet ρ _ h8 (by rw [hr];exact hex) C (by rw [hr];exact hC) ops' hd Q hQ⟩
  ·rename_i hw
   rw [if_neg hw] at this
   exact h.quiet ρ _ this (by rw [hr];exact hex) C (by rw [hr];exact hC) ops' hd Q hQ
 ·cases i with
  | zero =>
   rw [List.getElem?_cons_zero] at ho' he'
   cases ho';cases he'
   exact heff hef
  | succ i =>
   rw [List.getElem?_cons_succ] at ho' he'
   rw [zce]
   exact h.eff i o' e' ho' he' hef
 ·cases i with
  | zero=>exact hmono
  | succ i =>
   rw [zce,zce]
   exact h.mono i (by simpa using hi)
 ·cases i with
  | zero=>exact hl
  | succ i =>
   rw [zce]
   exact h.lt (hlt hl) i (by simpa using hi)
 ·cases i with
  | zero =>
   rw [List.getElem?_cons_zero] at ho'
   cases ho'
   exact hst hef
  | succ i =>
   rw [List.getElem?_cons_succ] at ho'
   rw [zce,zce]
   exact h.still i o' ho' hef
theorem V.lt_mono {n m:Nat} (h:n≤m) {x:V} (hx:x.lt n=true):x.lt m=true:=by
 have h1:∀ y:V1,y.lt n=true→y.lt m=true:=fun y hy=>List.all_eq_true.2 fun z hz=>Lf.lt_mono h (List.all_eq_true.1 hy z hz)
 cases x with
 | s v=>exact h1 v hx
 | t l=>exact List.all_eq_true.2 fun z hz=>h1 z (List.all_eq_true.1 hx z hz)
theorem zqu {n0:Nat} (hn:n0=E.n0) {cs:List (A×Bool)} {H H':List (Option Blk)} : M.sat F ν (zrh n0 cs H H') (fun r=>H.length≤H'.length∧H'.length≤r.length∧hpLt r=true ∧
  ((∀ c∈cs,c.1.bool ν=c.2)→∀ ρ w,HS E ν ρ H' w→∃ ρ':Nat→Loc,(∀ j,j<H'.length→ρ' j=ρ j)∧HS E ν ρ' r w) ∧
  (¬ (∀ c∈cs,c.1.bool ν=c.2)→∀ ρ w,HS E ν ρ H w→∃ ρ':Nat→Loc,(∀ j,j<H.length→ρ' j=ρ j)∧HS E ν ρ' r w)):=by
 unfold zrh
 refine zae (fun hc=>?_) (fun _=>zac)
 simp only [Bool.and_eq_true] at hc
 obtain ⟨⟨c1,c2⟩,c3⟩:=hc
 have c1:=Nat.le_of_ble_eq_true c1
 have c2:=Nat.le_of_ble_eq_true c2
 refine zaa (zlL cs) fun c hcb=>zaa (zcr (E:=E) _) fun t ht=>zaa (zc7 (E:=E) (by omega)) fun s hs=>zae (fun hk=>zab ?_) (fun _=>zac)
 simp only [Bool.and_eq_true] at hk
 have rr:∀ (h:List (Option Blk)) (ρ:Nat→Loc) (w:World),HS E ν ρ h w→RR ν E ρ ⟨⟨[],h⟩,[]⟩ { tmps:=#[],defers:=[] } w:=fun h ρ w hw =>
  ⟨⟨rfl,rfl,fun t v ht=>(by cases t<;>cases ht),fun e he=>(by cases he)⟩,hw⟩
 refine ⟨c2,Nat.le_of_ble_eq_true hk.1,hk.2,fun hall ρ w hw=>?_,fun hall ρ w hw=>?_⟩
 ·obtain ⟨ρ',e1,e2⟩:=(hs ρ _ w).1 (hcb.2 hall) (rr _ ρ w hw)
  exact ⟨ρ',e1,e2.hs⟩
 ·have hcf:c.bool ν=false:=by
   cases h:c.bool ν with
   | false=>rfl
   | true=>exact absurd (hcb.1 h) hall
  obtain ⟨ρ1,e1,e2⟩:=ht.2 ρ H w hw c3
  obtain ⟨ρ2,e3,e4⟩:=(hs ρ1 _ w).2 hcf (rr _ ρ1 w e2)
  exact ⟨ρ2,fun j hj=>(e3 j (by omega)).trans (e1 j hj),e4.hs⟩
theorem ChFact.val {ops:Array Oper} {o:Oper} {e:ChE} {H:List (Option Blk)} (hR:turn4 o.op=true→e.R=H) (hH:e.H=H)
  (h:∀ θ a w,ARel ν θ ⟨⟨e.sl,e.R⟩,e.gl⟩ a→Region.wanted o (yielded ops a.tmps)=true→HS E ν θ e.R w→I w→zgE P (execOp a.eval o) w fun v w'=>e.v.conc ν θ=v∧∀ H',HS E ν θ H' w→HS E ν θ H' w'):ChFact P I E ν ops o e H:=by
 intro θ a w ha hwt hh hI
 refine (h θ a w ha hwt hh hI).mono fun v w' ⟨k1,k2⟩=>⟨fun ht=>⟨θ,fun _ _=>rfl,.inr k1,?_⟩,fun _=>⟨.inr k1,k2⟩⟩
 rw [hH]
 exact k2 H (by rw [←hR ht];exact hh)
theorem ChFact.turn {ops:Array Oper} {o:Oper} {e:ChE} {H:List (Option Blk)} (ht:turn4 o.op=true)
  (h:∀ θ a w,ARel ν θ ⟨⟨e.sl,e.R⟩,e.gl⟩ a→Region.wanted o (yielded ops a.tmps)=true→HS E ν θ e.R w→I w→zgE P (execOp a.eval o) w fun v w'=>∃ θ':Nat→Loc,(∀ q,q<H.length→θ' q=θ q)∧(o.dst=none∨e.v.conc ν θ'=v)∧HS E ν θ' e.H w'):ChFact P I E ν ops o e H:=by
 intro θ a w ha hwt hh hI
 exact (h θ a w ha hwt hh hI).mono fun v w' k=>⟨fun _=>k,fun hf=>by rw [ht] at hf;cases hf⟩
theorem ChSkip.none {ops:Array Oper} {o:Oper} {e:ChE} {H:List (Option Blk)} (hg:o.guard=none):ChSkip E ν ops o e H:=by
 intro θ a w _ hw
 simp [Region.wanted,hg] at hw
theorem ChSkip.still {ops:Array Oper} {o:Oper} {e:ChE} {H:List (Option Blk)} (hH:e.H=H):ChSkip E ν ops o e H:=fun θ a w _ _ hw=>⟨θ,fun _ _=>rfl,by rw [hH];exact hw⟩
theorem zct (hS:SigsOK P I gK S F) (hE:E.Ok gK) (hn0:S.n0=E.n0) (hI:∀ w,Fr E.W E.w0 w→I w) {ops:Array Oper} {HL:Option (List (Option Blk))} : ∀ (l:List Oper) (r:RS) (H:List (Option Blk)),(∀ o∈l,zrg o=true) →
  M.sat F ν (zh1 P S ops.toList HL l r H) (fun z=>ChOK P I E ν ops l r H z.1 z.2)
 | [],r,H,_=>by
  unfold zh1
  exact zab ⟨rfl,rfl,fun ρ a h _ C _ ops' _ Q hQ=>hQ a h,fun i o e h=>by simp at h,fun i h=>by simp at h,fun hl i hi=>by
   have:i=0:=by simpa using hi
   subst this;exact hl,fun i o h=>by simp at h⟩
 | o::l,r,H,hl=>by
  have hh:=hl o (by simp)
  have hl':∀ o'∈l,zrg o'=true:=fun o' h'=>hl o' (List.mem_cons_of_mem _ h')
  unfold zh1
  refine zae (fun heff=>?_) (fun hne=>?_)
  ·dsimp only
   have hR0:turn4 o.op=true→(if turn4 o.op=true then H else zuH HL H)=H:=fun ht=>by rw [if_pos ht]
   generalize (if turn4 o.op=true then H else zuH HL H)=R at hR0 ⊢
   split
   ·-- behind a guard
    rename_i j want hg
    refine zaa (zad (Q:=fun d=>(ops[j]?).bind (·.dst)=some d) fun a h=>by simpa using h) fun d hd=>?_
    have hwd:∀ (a:Act),Region.wanted o (yielded ops a.tmps)=true↔a.tmps[d]? = some (.bool want):=fun a=>zfW hg hd
    have hsub:∀ ρ a,ARel ν ρ r a→ARel ν ρ ⟨⟨zef (d::r.gl.map (·.d)++zix o.op) 0 r.st.sl,R⟩,r.gl⟩ a:=fun ρ a h=>by
     refine ⟨h.defers,by rw [h.size];exact (zkP _ _).symm,fun t v ht=>h.slot t v ?_,h.gl⟩
     simp only at ht
     rw [zkQ] at ht
     split at ht
     ·exact ht
     ·cases ht
    generalize zef (d::r.gl.map (·.d)++zix o.op) 0 r.st.sl=sl at hsub ⊢
    refine zaa (zad (Q:=fun res=>zbN ⟨⟨sl,R⟩,r.gl⟩ 8 d want=some res) fun a h=>h) fun res hres=>?_
    split
    ·refine zaa zbT fun r1 hr1=>zaa (zct hS hE hn0 hI l r1 H hl') fun z hz=>zab ?_
     refine ChOK.cons (e:=⟨sl,r.gl,zc2,H,R⟩) hz hr1.1 (fun ρ a hra hex C hC ops' hd'=>?_) (fun _=>⟨zgI _,fun _=>zgI _,hR0,fun θ a w ha hw _ _=>?_,.still rfl⟩) (Nat.le_refl _) id (fun _=>rfl)
     ·have hn:a.tmps[d]?≠some (.bool want):=zas (hsub ρ a hra) 8 d want hres
      rw [zih heff]
      have hw2:Region.wanted { o with op:=.move (.const (zc2.conc ν ρ)) } (yielded ops' a.tmps)=Region.wanted o (yielded ops a.tmps):=by rw [zba hd'];rfl
      rw [hw2,if_neg (fun h=>hn ((hwd a).1 h))]
      exact hr1.2 ρ a _ hra (fun v hv=>by cases hv;exact ⟨zjo,rfl⟩)
     ·exact absurd ((hwd a).1 hw) (zas ha 8 d want hres)
    ·rename_i ctx cs
     refine zaa (zew (zfb (E:=E) (r:=⟨⟨sl,R⟩,r.gl⟩) (ctx:=ctx) (o:=o) hS hE)) fun x hx=>?_
     have hx2:∀ ρ a,ARel ν ρ ⟨⟨sl,R⟩,r.gl⟩ a→a.tmps[d]? = some (.bool want)→ORok P I E ν ρ R (execOp a.eval o) x:=fun ρ a ha hd'=>by
      have:=(zas ha 8 d want hres).1 hd'
      exact hx this.2 ρ a ha this.1
     -- the slot
     have hput:∀ {v:V},v.easy=true→M.sat F ν (if ctx.isEmpty=true then r.put o.dst (some v) else r.putG o.dst v d want) (fun r1=>r1.st.hp=r.st.hp∧∀ ρ a (x:Value),ARel ν ρ r a→(a.tmps[d]? = some (.bool want)→x=v.conc ν ρ)→(a.tmps[d]?≠some (.bool want)→x=undef)→ARel ν ρ r1 (a.put o.dst x)):=by
      intro v hev
      refine zae (fun hemp=>?_) (fun _=>?_)
      ·have hemp:ctx=[]:=List.isEmpty_iff.1 hemp
       subst hemp
       refine zah zbT fun r1 hr1=>⟨hr1.1,fun ρ a x hra h1 _=>hr1.2 ρ a x hra fun u hu=>?_⟩
       cases hu
       exact ⟨V.easy_good hev,h1 ((zas (hsub ρ a hra) 8 d want hres).2.1 rfl)⟩
      ·exact zah zif fun r1 hr1=>⟨hr1.1,fun ρ a x hra h1 h2=>hr1.2 ρ a x hra (fun h=>⟨V.easy_good hev,h1 h⟩) h2⟩
     have hquiet:∀ {v:V} {r1:RS},(∀ ρ a (x:Value),ARel ν ρ r a→(a.tmps[d]? = some (.bool want)→x=v.conc ν ρ)→(a.tmps[d]?≠some (.bool want)→x=undef)→ARel ν ρ r1 (a.put o.dst x))→∀ ρ a,ARel ν ρ r a→∀ (C:World→Prop) (ops':Array Oper),(∀ j:Nat,(ops'[j]?).bind (·.dst)=(ops[j]?).bind (·.dst)) →
       if Region.wanted (nopY (v.conc ν ρ) o) (yielded ops' a.tmps)=true then ∃ u,(∀ w,C w→(nopY (v.conc ν ρ) o).quietAt P a C w u)∧ARel ν ρ r1 (a.put (nopY (v.conc ν ρ) o).dst u) else ARel ν ρ r1 (a.put (nopY (v.conc ν ρ) o).dst undef):=by
      intro v r1 hr1 ρ a hra C ops' hd'
      rw [zih heff]
      have hw2:Region.wanted { o with op:=.move (.const (v.conc ν ρ)) } (yielded ops' a.tmps)=Region.wanted o (yielded ops a.tmps):=by rw [zba hd'];rfl
      rw [hw2]
      split
      ·rename_i hw
       refine ⟨v.conc ν ρ,fun w _=>?_,hr1 ρ a _ hra (fun _=>rfl) fun h=>absurd ((hwd a).1 hw) h⟩
       unfold Oper.quietAt
       simp [execOp,Act.eval,Oper.quietUpon]
      ·rename_i hw
       exact hr1 ρ a _ hra (fun h=>absurd ((hwd a).2 h) hw) fun _=>rfl
     split
     ·rename_i v
      refine zae (fun hc=>?_) (fun _=>zac)
      simp only [Bool.and_eq_true,Bool.or_eq_true] at hc
      obtain ⟨⟨c1,c2⟩,c3⟩:=hc
      refine zaa (hput c1) fun r1 hr1=>zaa (zct hS hE hn0 hI l r1 H hl') fun z hz=>zab ?_
      refine ChOK.cons (e:=⟨sl,r.gl,v,H,R⟩) hz hr1.1 (fun ρ a hra hex C hC ops' hd'=>hquiet hr1.2 ρ a hra C ops' hd') (fun _=>⟨c2,fun ht=>c3.resolve_left (by rw [ht];decide),hR0,.val hR0 rfl fun θ a w ha hw hh hI'=>?_,.still rfl⟩) (Nat.le_refl _) id (fun _=>rfl)
      obtain ⟨hgd,hr⟩:=hx2 θ a ha ((hwd a).1 hw) w hh hI'
      rcases hr with hr | ⟨f,args,hr,hcl⟩
      ·exact .inl ⟨_,w,.inl hr,rfl,fun _ h=>h⟩
      ·exact .inr ⟨f,args,w,hr,hcl.mono fun e w' ⟨he,hb⟩=>⟨_,he,rfl,fun _ h=>h.of_below hb⟩⟩
     ·rename_i v H'
      refine zae (fun hc=>?_) (fun _=>zac)
      simp only [Bool.and_eq_true] at hc
      obtain ⟨⟨c1,c2⟩,c3⟩:=hc
      have hRH:=hR0 c1
      subst hRH
      refine zaa (zqu hn0) fun H2 ⟨j1,j2,j3,j4,j5⟩=>zaa (hput c2) fun r1 hr1=>zaa (zct hS hE hn0 hI l r1 H2 hl') fun z hz=>zab ?_
      refine ChOK.cons (e:=⟨sl,r.gl,v,H2,R⟩) hz hr1.1 (fun ρ a hra hex C hC ops' hd'=>hquiet hr1.2 ρ a hra C ops' hd') (fun _=>⟨V.lt_mono j2 c3,fun ht=>(by rw [c1] at ht;cases ht),hR0,.turn c1 fun θ a w ha hw hh hI'=>?_,fun θ a w ha hw hh=>?_⟩) (by show _≤H2.length;omega) (fun _=>j3) (fun h=>by rw [c1] at h;cases h)
      ·have hcs:=(zas ha 8 d want hres).1 ((hwd a).1 hw)
       have fin:∀ θ' w' (y:Value),(∀ q,q<R.length→θ' q=θ q)→HS E ν θ' H' w'→v.conc ν θ'=y→∃ θ2:Nat→Loc,(∀ q,q<R.length→θ2 q=θ q)∧(o.dst=none∨v.conc ν θ2=y)∧HS E ν θ2 H2 w':=fun θ' w' y k1 k2 k3=>by
        obtain ⟨θ2,e1,e2⟩:=j4 hcs.2 θ' w' k2
        exact ⟨θ2,fun q hq=>(e1 q (by omega)).trans (k1 q hq),.inr (by rw [V.conc_agree e1 c3];exact k3),e2⟩
       rcases hx2 θ a ha ((hwd a).1 hw) w hh hI' with ⟨y,w',hr,θ',k1,k2,k3⟩ | ⟨w',hr,θ',k1,k2,k3⟩ | ⟨f,args,hr,hcl⟩
       ·exact .inl ⟨y,w',.inl hr,fin θ' w' y k1 k2 (Option.some.inj (k3 v rfl).2).symm⟩
       ·have:=(k3 v rfl).2
        cases this
       ·exact .inr ⟨f,args,w,hr,hcl.mono fun e w' ⟨y,he,θ',k1,k2,k3⟩=>⟨y,he,fin θ' w' y k1 k2 (Option.some.inj (k3 v rfl).2).symm⟩⟩
      ·refine j5 (fun hall=>?_) θ w hh
       have:=(hwd a).2 ((zas ha 8 d want hres).2.2 hall)
       rw [hw] at this;cases this
     ·exact zac
   rename_i hg
   generalize hsl:zef (zix o.op) 0 r.st.sl=sl
   refine zaa (zfb (E:=E) (r:=⟨⟨sl,R⟩,[]⟩) (ctx:=[]) (o:=o) hS hE) fun res hres=>?_
   have hctx:∀ a:Act,zdz [] a:=fun a p hp=>by simp at hp
   split
   ·rename_i v
    refine zae (fun hc=>?_) (fun _=>zac)
    simp only [Bool.and_eq_true,Bool.or_eq_true] at hc
    obtain ⟨⟨c1,c2⟩,c3⟩:=hc
    refine zaa zbT fun r1 hr1=>zaa (zct hS hE hn0 hI l r1 H hl') fun z hz=>zab ?_
    refine ChOK.cons (e:=⟨sl,[],v,H,R⟩) hz hr1.1 (fun ρ a hra hex C hC ops' hd=>zhq (P:=P) heff hg (V.easy_good c1) hr1.2 ρ a hra C ops') (fun _=>⟨c2,fun ht=>c3.resolve_left (by rw [ht];decide),hR0,.val hR0 rfl fun θ a w ha _ hw hI'=>?_,.none hg⟩) (Nat.le_refl _) id (fun _=>rfl)
    obtain ⟨hgd,hr⟩:=hres θ a ha (hctx a) w hw hI'
    rcases hr with hr | ⟨f,args,hr,hcl⟩
    ·exact .inl ⟨_,w,.inl hr,rfl,fun _ h=>h⟩
    ·exact .inr ⟨f,args,w,hr,hcl.mono fun e w' ⟨he,hb⟩=>⟨_,he,rfl,fun _ h=>h.of_below hb⟩⟩
   ·rename_i v H'
    refine zae (fun hc=>?_) (fun _=>zac)
    simp only [Bool.and_eq_true] at hc
    obtain ⟨⟨⟨⟨c0,c1⟩,c2⟩,c3⟩,c4⟩:=hc
    have hRH:=hR0 c0
    subst hRH
    refine zaa zbT fun r1 hr1=>zaa (zct hS hE hn0 hI l r1 H' hl') fun z hz=>zab ?_
    refine ChOK.cons (e:=⟨sl,[],v,H',R⟩) hz hr1.1 (fun ρ a hra hex C hC ops' hd=>zhq (P:=P) heff hg (V.easy_good c1) hr1.2 ρ a hra C ops') (fun _=>⟨c2,fun ht=>(by rw [c0] at ht;cases ht),hR0,.turn c0 fun θ a w ha _ hw hI'=>?_,.none hg⟩) (Nat.le_of_ble_eq_true c3) (fun _=>c4) (fun h=>by rw [c0] at h;cases h)
    rcases hres θ a ha (hctx a) w hw hI' with ⟨x,w',hr,θ',k1,k2,k3⟩ | ⟨w',hr,θ',k1,k2,k3⟩ | ⟨f,args,hr,hcl⟩
    ·exact .inl ⟨x,w',.inl hr,θ',k1,.inr (by have:=(k3 v rfl).2;exact (Option.some.inj this).symm),k2⟩
    ·have:=(k3 v rfl).2
     cases this
    ·exact .inr ⟨f,args,w,hr,hcl.mono fun e w' ⟨x,he,θ',k1,k2,k3⟩=>⟨x,he,θ',k1,.inr (by have:=(k3 v rfl).2;exact (Option.some.inj this).symm),k2⟩⟩
   ·rename_i H'
    refine zae (fun hc=>?_) (fun _=>zac)
    simp only [Bool.and_eq_true] at hc
    obtain ⟨⟨⟨c0,c1⟩,c3⟩,c4⟩:=hc
    have hRH:=hR0 c0
    subst hRH
    have hdst:o.dst=none:=by simpa using c1
    refine zaa (zct hS hE hn0 hI l r H' hl') fun z hz=>zab ?_
    refine ChOK.cons (e:=⟨sl,[],zc2,H',R⟩) hz rfl (fun ρ a hra hex C hC ops' hd=>zhq (P:=P) heff hg zjo (fun ρ a x hra _=>by rw [hdst];exact hra) ρ a hra C ops') (fun _=>⟨zgI _,fun _=>zgI _,hR0,.turn c0 fun θ a w ha _ hw hI'=>?_,.none hg⟩) (Nat.le_of_ble_eq_true c3) (fun _=>c4) (fun h=>by rw [c0] at h;cases h)
    rcases hres θ a ha (hctx a) w hw hI' with ⟨x,w',hr,θ',k1,k2,k3⟩ | ⟨w',hr,θ',k1,k2,k3⟩ | ⟨f,args,hr,hcl⟩
    ·exact .inl ⟨x,w',.inl hr,θ',k1,.inl hdst,k2⟩
    ·exact .inl ⟨undef,w',.inr ⟨hr,rfl⟩,θ',k1,.inl hdst,k2⟩
    ·exact .inr ⟨f,args,w,hr,hcl.mono fun e w' ⟨x,he,θ',k1,k2,k3⟩=>⟨x,he,θ',k1,.inl hdst,k2⟩⟩
  ·have hne:eff4 o.op=false:=by simpa using hne
   refine zaa (zdE (E:=E) (ops:=ops) hS hE hn0 hI true) fun r1 hr1=>zaa (zct hS hE hn0 hI l r1 H hl') fun z hz=>zab ?_
   have hq:=hr1.2 rfl
   refine ChOK.cons (e:=⟨[],[],zc2,H,H⟩) hz hq.1 (fun ρ a hra hex C hC ops' hd=>?_) (fun h=>by rw [hne] at h;cases h) (Nat.le_refl _) id (fun _=>rfl)
   have:=hq.2 ρ a hra hex C hC
   rw [zpA hne,zba hd]
   exact this
theorem zdG:∀ {Hq H:List (Option Blk)},zev Hq H=true→∀ j bk,nth Hq j=some bk→nth H j=some bk
 | [],_,_,j,bk,h=>by cases j<;>cases h
 | none::l,H,hk,j,bk,h=>by
  simp only [zev] at hk
  cases j with
  | zero=>cases h
  | succ j =>
   have:=zdG hk j bk h
   cases H with
   | nil=>cases j<;>cases this
   | cons y l'=>exact this
 | some x::l,some y::l',hk,j,bk,h=>by
  simp only [zev,Bool.and_eq_true] at hk
  cases j with
  | zero=>cases h;rw [Blk.eqS_eq hk.1];rfl
  | succ j=>exact zdG hk.2 j bk h
 | some _::_,[],hk,_,_,_=>by simp [zev] at hk
 | some _::_,none::_,hk,_,_,_=>by simp [zev] at hk
theorem HS.forget {θ:Nat→Loc} {H Hq:List (Option Blk)} {w:World} (h:HS E ν θ H w) (hl:E.n0≤Hq.length) (hk:∀ j bk,nth Hq j=some bk→nth H j=some bk):HS E ν θ Hq w :=
 ⟨⟨fun j bk hj=>h.heap.blk j bk (hk j bk hj),fun j j' bk bk' hj ho hj' hne hn hn'=>h.heap.apart j j' bk bk' (hk j bk hj) ho (hk j' bk' hj') hne hn hn'⟩,fun j bk hj=>h.old j bk (hk j bk hj),h.fr,hl,h.keep⟩
theorem zkS {sl:List (Option V)} {gl:List GE} : ∀ {l:List Oper} {es:List ChE},zhb sl gl l es=true→∀ (i:Nat) (o:Oper) (e:ChE),l[i]? = some o→es[i]? = some e→eff4 o.op=true→ze2 e.sl sl=true∧∀ x∈e.gl,∃ y∈gl,y.eqB x=true
 | [],[],_,i,o,e,h,_,_=>by simp at h
 | o::l,e::r,h,i,o',e',h1,h2,h3=>by
  simp only [zhb,Bool.and_eq_true,Bool.or_eq_true,Bool.not_eq_true'] at h
  cases i with
  | zero =>
   rw [List.getElem?_cons_zero] at h1 h2
   cases h1;cases h2
   rcases h.1 with h | ⟨h,h'⟩
   ·rw [h3] at h;cases h
   ·exact ⟨h,fun x hx=>List.any_eq_true.1 (List.all_eq_true.1 h' x hx)⟩
  | succ i =>
   rw [List.getElem?_cons_succ] at h1 h2
   exact zkS h.2 i o' e' h1 h2 h3
 | [],_::_,h,_,_,_,_,_,_=>by simp [zhb] at h
 | _::_,[],h,_,_,_,_,_,_=>by simp [zhb] at h
def zbf (pre:List Oper) (listed:Array Bool):Nat→Nat
 | 0=>0
 | n+1=>if listed.getD n false&&zhC pre n then n+1 else zbf pre listed n
theorem zlR (pre:List Oper) (listed:Array Bool):∀ n,zbf pre listed n≤n
 | 0=>Nat.le_refl _
 | n+1=>by
  unfold zbf
  split
  ·exact Nat.le_refl _
  ·exact Nat.le_succ_of_le (zlR pre listed n)
theorem zfd {pre:List Oper} {listed:Array Bool} {i:Nat} {o:Oper} (ho:pre[i]? = some o) (he:turn4 o.op=true) (hl:listed.getD i false=true):∀ n,i<n→i+1≤zbf pre listed n
 | 0,h=>by omega
 | n+1,h=>by
  unfold zbf
  split
  ·omega
  ·rename_i hc
   have:i≠n:=fun e=>by
    subst e
    unfold zhC at hc
    rw [hl,ho] at hc
    simp [he] at hc
   exact zfd ho he hl n (by omega)
theorem zkT {pre:List Oper} {listed listed':Array Bool} (h:∀ j,listed.getD j false=true→listed'.getD j false=true):∀ n,zbf pre listed n≤zbf pre listed' n
 | 0=>Nat.le_refl _
 | n+1=>by
  have ih:=zkT (pre:=pre) h n
  unfold zbf
  split
  ·rename_i hc
   simp only [Bool.and_eq_true] at hc
   rw [if_pos (by simp only [Bool.and_eq_true];exact ⟨h n hc.1,hc.2⟩)]
   exact Nat.le_refl _
  ·split
   ·have:=zlR pre listed n;omega
   ·exact ih
theorem zlS {pre:List Oper} {listed:Array Bool} : ∀ {n:Nat},0<zbf pre listed n→∃ j o,zbf pre listed n=j+1∧pre[j]? = some o∧turn4 o.op=true∧listed.getD j false=true
 | 0,h=>by simp [zbf] at h
 | n+1,h=>by
  unfold zbf at h ⊢
  split at h
  ·rename_i hc
   rw [if_pos hc]
   simp only [Bool.and_eq_true] at hc
   obtain ⟨h1,h2⟩:=hc
   unfold zhC at h2
   cases ho:pre[n]? with
   | none=>rw [ho] at h2;cases h2
   | some o=>rw [ho] at h2;exact ⟨n,o,rfl,ho,h2,h1⟩
  ·rename_i hc
   rw [if_neg hc]
   exact zlS h
theorem zlT {l:List Oper} {r r':RS} {H:List (Option Blk)} {es:List ChE} {ops:Array Oper} (h:ChOK P I E ν ops l r H r' es) {i:Nat} : ∀ (k:Nat),i+k≤l.length→(∀ j o,i≤j→j<i+k→l[j]? = some o→turn4 o.op=false)→chBef H es (i+k)=chBef H es i
 | 0,_,_=>rfl
 | k+1,hk,hj=>by
  have hl:i+k<l.length:=by omega
  have e1:=h.still (i+k) _ (List.getElem?_eq_getElem hl) (hj (i+k) _ (by omega) (by omega) (List.getElem?_eq_getElem hl))
  rw [show i+(k+1)=i+k+1 from by omega,e1]
  exact zlT h k (by omega) fun j o h1 h2=>hj j o h1 (by omega)
theorem zd2 {o:Op} (h:turn4 o=true):eff4 o=true:=by unfold eff4;rw [h];rfl
theorem zoq {o:Op} (h:eff4 o=false):turn4 o=false:=by
 cases ht:turn4 o with
 | false=>rfl
 | true=>rw [zd2 ht] at h;cases h
theorem zjp {pre:List Oper} {listed:Array Bool} {i:Nat} (hne:zhC pre i=false):∀ n,zbf pre (listed.setIfInBounds i true) n=zbf pre listed n
 | 0=>rfl
 | n+1=>by
  unfold zbf
  rw [zjp hne n]
  by_cases hni:n=i
  ·subst hni
   rw [hne]
   simp
  ·have:(listed.setIfInBounds i true).getD n false=listed.getD n false:=by
    rw [Array.getD_eq_getD_getElem?,Array.getD_eq_getD_getElem?,Array.getElem?_setIfInBounds_ne (Ne.symm hni)]
   rw [this]
theorem zm4 {pre:List Oper} {anc:List Nat} : ∀ {n:Nat},zko pre anc n=0∨∃ j o,zko pre anc n=j+1∧j<n∧pre[j]? = some o∧turn4 o.op=true∧j∈anc
 | 0=>.inl rfl
 | n+1=>by
  unfold zko
  split
  ·rename_i hc
   simp only [Bool.and_eq_true] at hc
   obtain ⟨h1,h2⟩:=hc
   unfold zhC at h2
   cases ho:pre[n]? with
   | none=>rw [ho] at h2;cases h2
   | some o=>rw [ho] at h2;exact .inr ⟨n,o,rfl,by omega,ho,h2,zcl h1⟩
  ·rcases zm4 (pre:=pre) (anc:=anc) (n:=n) with h | ⟨j,o,h1,h2,h3⟩
   ·exact .inl h
   ·exact .inr ⟨j,o,h1,by omega,h3⟩
theorem zrK {nq:Nat} {H:List (Option Blk)} {pre:List Oper} {es:List ChE} (h:zt9 nq H pre es=true) {i:Nat} {o:Oper} {e:ChE} (ho:pre[i]? = some o) (he:es[i]? = some e) (hef:eff4 o.op=true) (htn:turn4 o.op=false) :
  nq≤e.R.length∧∀ t,t≤pre.length→zko pre (zlt pre i) pre.length≤t→zev e.R (chBef H es t)=true:=by
 have:=List.all_eq_true.1 h (o,i) (List.mem_zipIdx_iff_getElem?.2 ho)
 simp only [hef,htn,he,Bool.false_or,Bool.not_true,Bool.and_eq_true] at this
 refine ⟨Nat.le_of_ble_eq_true this.1,fun t h1 h2=>?_⟩
 have h3:=List.all_eq_true.1 this.2 t (List.mem_range.2 (by omega))
 simp only [Bool.or_eq_true,Nat.blt_eq] at h3
 rcases h3 with h3 | h3
 ·omega
 ·exact h3
theorem zgJ (hS:SigsOK P I gK S F) (hE:E.Ok gK) (hn0:S.n0=E.n0) (hI:∀ w,Fr E.W E.w0 w→I w) {ops:Array Oper} {n:Nat} {s:St} {Hq:List (Option Blk)} {HL:Option (List (Option Blk))} (hnl:n≤ops.toList.length) (hm:chB ops.toList n=true) :
  M.sat F ν (zgn P S ops.toList n s Hq HL) (fun s'=>∀ ρ a w,RR ν E ρ ⟨s,[]⟩ a w→∀ Q:Exit→Act→World→Prop,(∀ ρ' a' w',RR ν E ρ' ⟨s',[]⟩ a' w'→Q .normal a' w') →
   wpAny P .any ops Q ops.size (Array.replicate ops.size false) a w):=by
 unfold chB at hm
 generalize hpre:ops.toList.take n=pre at hm
 simp only [Bool.and_eq_true] at hm
 obtain ⟨⟨⟨⟨hheads,hchain⟩,htail⟩,hlex⟩,hback⟩:=hm
 have hbk:zb5 .any ops:=by have:=backB_ok' hback;simpa using this
 have hprel:pre.length=n:=by rw [←hpre,List.length_take];omega
 unfold zgn
 refine zae (fun hchk=>?_) (fun _=>zac)
 simp only [Bool.and_eq_true] at hchk
 obtain ⟨⟨⟨hslt,hplt⟩,hql⟩,hkq⟩:=hchk
 have hql:=Nat.eq_of_beq_eq_true hql
 rw [hpre]
 refine zaa (zct (E:=E) (F:=F) (ν:=ν) hS hE hn0 hI (ops:=pre.toArray) pre ⟨⟨s.sl,Hq⟩,[]⟩ s.hp (fun o ho=>List.all_eq_true.1 hheads o ho)) fun z hz=>zae (fun hc2=>?_) (fun _=>zac)
 simp only [Bool.and_eq_true] at hc2
 obtain ⟨⟨hkept,hsls⟩,hlate⟩:=hc2
 obtain ⟨rf,es⟩:=z
 simp only at hz hkept hsls hlate ⊢
 refine zaa (zcs (E:=E) hS hE hn0 hI (ops:=ops) (ops.toList.drop n) ⟨⟨rf.st.sl,zpW s.hp es⟩,rf.gl⟩) fun r2 hr2=>zab fun ρ a w hrr Q hQ=>?_
 have hn0q:E.n0≤Hq.length:=by have:=hrr.hs.len;simp only at this;omega
 have hat:∀ j:Nat,pre.toArray[j]? = pre[j]?:=fun j=>by simp
 have hlt_of:∀ {i:Nat} {o:Oper},pre[i]? = some o→i<pre.length:=fun {i o} h=>by
  rcases Nat.lt_or_ge i pre.length with h1 | h1
  ·exact h1
  ·rw [List.getElem?_eq_none h1] at h;cases h
 have hes:∀ i,i<pre.length→∃ e,es[i]? = some e:=fun i hi=>⟨_,List.getElem?_eq_getElem (by rw [hz.len];exact hi)⟩
 -- the blocks at a number
 let Hk:Nat→List (Option Blk):=chBef s.hp es
 have hHk:∀ {i:Nat} {e:ChE},es[i]? = some e→Hk (i+1)=e.H:=fun {i e} h=>by
  show (es.getD i default).H=e.H
  rw [List.getD_eq_getElem?_getD,h]
  rfl
 have hmono:∀ i k,i+k≤pre.length→(Hk i).length≤(Hk (i+k)).length:=fun i k=>by
  induction k with
  | zero=>exact fun _=>Nat.le_refl _
  | succ k ih=>exact fun h=>Nat.le_trans (ih (by omega)) (hz.mono (i+k) (by omega))
 have hmono2:∀ i j,i≤j→j≤pre.length→(Hk i).length≤(Hk j).length:=fun i j h1 h2=>by
  have:=hmono i (j-i) (by omega)
  rwa [show i+(j-i)=j from by omega] at this
 have hHlt:∀ i,i≤pre.length→hpLt (Hk i)=true:=fun i hi=>hz.lt hplt i hi
 have hHq:∀ i,i≤pre.length→∀ j bk,nth Hq j=some bk→nth (Hk i) j=some bk:=fun i hi j bk hj=>by
  cases i with
  | zero=>exact zdG hkq j bk hj
  | succ i =>
   obtain ⟨e,he⟩:=hes i (by omega)
   rw [hHk he]
   exact zdG (List.all_eq_true.1 hkept e (List.mem_of_getElem? he)) j bk hj
 have htop:∀ listed:Array Bool,zbf pre listed pre.length≤pre.length:=fun listed=>zlR pre listed _
 let Hat:Array Bool→List (Option Blk):=fun listed=>Hk (zbf pre listed pre.length)
 have hsetm:∀ (listed:Array Bool) (i:Nat),(Hat listed).length≤(Hat (listed.setIfInBounds i true)).length:=fun listed i =>
  hmono2 _ _ (zkT (fun j h=>zaX h) _) (htop _)
 have hkind:∀ {i:Nat} {o:Oper},pre[i]? = some o→(eff4 o.op=false→zbz o.op=true)∧(eff4 o.op=true→(zmq o.op).isSome=true):=fun {i o} h=>by
  have:=List.all_eq_true.1 hheads o (List.mem_of_getElem? h)
  unfold zrg at this
  refine ⟨fun he=>?_,fun he=>?_⟩
  ·have:=zoq he
   unfold turn4 at this
   simpa using this
  ·cases hp:zbz o.op with
   | false=>rw [hp] at this;simpa using this
   | true =>
    have hl:zuF o.op=true:=by
     unfold eff4 turn4 at he
     rw [hp] at he
     simpa using he
    unfold zuF at hl
    split at hl
    ·rename_i heq
     rw [heq];rfl
    ·cases hl
 have heffmem:∀ i,i∈(pre.zipIdx.filter fun p=>eff4 p.1.op).map (·.2)↔∃ o,pre[i]? = some o∧eff4 o.op=true:=fun i=>by
  rw [List.mem_map]
  constructor
  ·rintro ⟨⟨o,j⟩,h,rfl⟩
   obtain ⟨h1,h2⟩:=List.mem_filter.1 h
   exact ⟨o,List.mem_zipIdx_iff_getElem?.1 h1,h2⟩
  ·rintro ⟨o,h1,h2⟩
   exact ⟨(o,i),List.mem_filter.2 ⟨List.mem_zipIdx_iff_getElem?.2 h1,h2⟩,rfl⟩
 have hchAt:∀ {i:Nat} {o:Oper},pre[i]? = some o→eff4 o.op=true→(turn4 o.op=true→∀ j o',pre[j]? = some o'→turn4 o'.op=true→j<i→j∈zaA pre i (zbB o)) ∧
   (∀ t∈zgm pre o++zix o.op,∀ (j:Nat) o',pre[j]? = some o'→o'.dst=some t→j∈zaA pre i (zbB o)):=fun {i o} h he=>by
  have:=List.all_eq_true.1 hchain (o,i) (List.mem_zipIdx_iff_getElem?.2 h)
  unfold chAt at this
  simp only [he,Bool.not_true,Bool.false_or,Bool.and_eq_true] at this
  obtain ⟨h1,h2⟩:=this
  have hanc:zlt pre i=zaA pre i (zbB o):=by unfold zlt;rw [h]
  rw [hanc] at h1 h2
  refine ⟨fun htt j o' ho' he' hj=>?_,fun t ht j o' ho' hd=>?_⟩
  ·rw [htt,Bool.not_true,Bool.false_or] at h1
   have:=List.all_eq_true.1 h1 (o',j) (List.mem_zipIdx_iff_getElem?.2 ho')
   simp only [he',Bool.not_true,Bool.false_or,Bool.or_eq_true,Bool.not_eq_true'] at this
   rcases this with h | h
   ·rw [show Nat.blt j i=true from by simpa [Nat.blt_eq] using hj] at h;cases h
   ·exact zcl h
  ·have:=List.all_eq_true.1 h2 (o',j) (List.mem_zipIdx_iff_getElem?.2 ho')
   simp only [znO,hd,Bool.or_eq_true,Bool.not_eq_true'] at this
   rcases this with h | h
   ·rw [zig ht] at h;cases h
   ·exact zcl h
 refine zeM hbk (ops.toList.drop n) pre.toArray (by rw [←hpre];simp) (fun i hi o ho j hj=>?_) a w ?_
 ·have hi':n≤i:=by simpa [hprel] using hi
  have hmm:(o,i)∈ops.toList.zipIdx.drop n:=by
   rw [List.mem_iff_getElem?]
   refine ⟨i-n,?_⟩
   rw [List.getElem?_drop,show n+(i-n)=i from by omega,List.getElem?_zipIdx]
   have:ops.toList[i]? = some o:=by simpa using ho
   rw [this]
   simp
  have:=List.all_eq_true.1 htail _ hmm
  exact zcl (List.all_eq_true.1 this j (List.mem_range.2 hj))
 have hops':∀ (θ:Nat→Loc) (j:Nat),((List.zipWith (fun o e=>nopY (e.v.conc ν θ) o) pre es).toArray)[j]? = (match pre[j]?,es[j]? with | some o,some e=>some (nopY (e.v.conc ν θ) o) | _,_=>none):=fun θ j=>by
  simp [List.getElem?_zipWith]
  cases pre[j]?<;>cases es[j]?<;>rfl
 have hsz:∀ θ:Nat→Loc,(List.zipWith (fun o e=>nopY (e.v.conc ν θ) o) pre es).toArray.size=pre.toArray.size:=fun θ=>by simp [hz.len]
 have hready:∀ (θ:Nat→Loc) listed,Region.ready .any (List.zipWith (fun o e=>nopY (e.v.conc ν θ) o) pre es).toArray listed=Region.ready .any pre.toArray listed:=fun θ listed=>by
  unfold Region.ready
  rw [hsz θ]
  refine List.filter_congr fun j _=>?_
  rw [hops' θ j,hat j]
  cases ho:pre[j]? with
  | none=>rfl
  | some o =>
   obtain ⟨e,he⟩:=hes j (hlt_of ho)
   rw [he]
   have e1:=(zbP (e.v.conc ν θ) o).2.2
   dsimp only
   generalize nopY (e.v.conc ν θ) o=o1 at e1 ⊢
   cases o1;cases o
   simp only at e1
   subst e1
   rfl
 have hdst:∀ (θ:Nat→Loc) (j:Nat),(((List.zipWith (fun o e=>nopY (e.v.conc ν θ) o) pre es).toArray)[j]?).bind (·.dst)=((pre.toArray)[j]?).bind (·.dst):=fun θ j=>by
  rw [hops' θ j,hat j]
  cases ho:pre[j]? with
  | none=>rfl
  | some o =>
   obtain ⟨e,he⟩:=hes j (hlt_of ho)
   rw [he]
   exact (zbP _ o).1
 have hbkp:zb5 .any pre.toArray:=fun i o ho=>hbk i o (by
  rw [hat] at ho
  have:ops.toList[i]? = some o:=by
   rw [←hpre,List.getElem?_take] at ho
   split at ho
   ·exact ho
   ·cases ho
  simpa using this)
 have hstepH:∀ (i:Nat) (o:Oper) (e:ChE) (listed:Array Bool),pre[i]? = some o→turn4 o.op=true→es[i]? = some e→listed.size=pre.toArray.size→zbL pre.toArray listed→i∈Region.ready .any pre.toArray listed →
   Hat listed=chBef s.hp es i∧Hat (listed.setIfInBounds i true)=e.H:=by
  intro i o e listed ho hef0 he hs hcl' hrd
  have hef:=zd2 hef0
  have hil:=hlt_of ho
  have hnl:listed.getD i false=false:=by
   obtain ⟨h4,_⟩:=mem_ready.1 hrd
   rw [←zaw (by rw [hs];simpa using hil)]
   exact h4
  have hanc:∀ j,j∈zaA pre i (zbB o)→listed.getD j false=true:=fun j hj=>zbW hcl' (by rw [hat];exact ho) hrd j hj
  have hbeh:∀ (k:Nat) (o':Oper),pre[k]? = some o'→turn4 o'.op=true→listed.getD k false=true→k<i:=fun k o' ho' he' hk=>by
   rcases Nat.lt_trichotomy k i with h | h | h
   ·exact h
   ·subst h;rw [hnl] at hk;cases hk
   ·have:listed.getD i false=true:=zc9 (ops:=pre.toArray) hcl' k (zbB o') (fun x hx=>by
     obtain ⟨ed,h1,h2,rfl⟩:=zhm hx
     exact hcl' k o' (by rw [hat];exact ho') hk ed h1 h2) i ((hchAt ho' (zd2 he')).1 he' i o ho hef0 h)
    rw [hnl] at this;cases this
  refine ⟨?_,?_⟩
  ·have hti:zbf pre listed pre.length≤i:=by
    rcases Nat.eq_zero_or_pos (zbf pre listed pre.length) with h0 | h0
    ·omega
    ·obtain ⟨j,o',g1,g2,g3,g4⟩:=zlS h0
     have:=hbeh j o' g2 g3 g4
     omega
   have hmid:∀ j o',zbf pre listed pre.length≤j→j<i→pre[j]? = some o'→turn4 o'.op=false:=fun j o' g1 g2 g3=>by
    cases h:turn4 o'.op with
    | false=>rfl
    | true =>
     have:=zfd g3 h (hanc j ((hchAt ho hef).1 hef0 j o' g3 h g2)) pre.length (by omega)
     omega
   have:=zlT hz (i:=zbf pre listed pre.length) (i-zbf pre listed pre.length) (by omega) fun j o' g1 g2 g3=>hmid j o' g1 (by omega) g3
   rw [show zbf pre listed pre.length+(i-zbf pre listed pre.length)=i from by omega] at this
   exact this.symm
  ·have hli:(listed.setIfInBounds i true).getD i false=true:=by
    have:i<listed.size:=by rw [hs];simpa using hil
    rw [Array.getD_eq_getD_getElem?,Array.getElem?_setIfInBounds_self_of_lt this]
    rfl
   have h1:=zfd ho hef0 hli pre.length hil
   obtain ⟨j,o',g1,g2,g3,g4⟩:=zlS (pre:=pre) (listed:=listed.setIfInBounds i true) (n:=pre.length) (by omega)
   have:j=i:=by
    rcases zcS g4 with rfl | g4
    ·rfl
    ·have:=hbeh j o' g2 g3 g4
     omega
   subst this
   show Hk (zbf pre (listed.setIfInBounds j true) pre.length)=e.H
   rw [g1]
   exact hHk he
 have hacts:∀ (i:Nat) (o:Oper) (e:ChE) (θ:Nat→Loc) (a1 a2:Act),pre[i]? = some o→es[i]? = some e→eff4 o.op=true→ARel ν θ rf a2→(∀ t∈zgm pre o++zix o.op,a2.tmps[t]? = a1.tmps[t]?) →
   ARel ν θ ⟨⟨e.sl,e.R⟩,e.gl⟩ a2∧execOp a1.eval o=execOp a2.eval o∧Region.wanted o (yielded pre.toArray a2.tmps)=Region.wanted o (yielded pre.toArray a1.tmps):=by
  intro i o e θ a1 a2 ho he hef ha2 htm
  obtain ⟨hsl1,hgl1⟩:=zkS hsls i o e ho he hef
  have hslots:=zf1 hsl1
  refine ⟨⟨ha2.defers,by rw [ha2.size];exact hslots.1.symm,fun t v ht=>?_,fun g hg=>?_⟩,?_,?_⟩
  ·obtain ⟨v',k1,k2⟩:=hslots.2 t v ht
   exact ⟨V.eqB_good k2,by rw [(ha2.slot t v' k1).2,V.eqB_conc k2 θ]⟩
  ·obtain ⟨y,hy,hyg⟩:=hgl1 g hg
   simp only [GE.eqB,Bool.and_eq_true] at hyg
   obtain ⟨⟨⟨e1,e2⟩,e3⟩,e4⟩:=hyg
   have e1:=Nat.eq_of_beq_eq_true e1
   have e2:=Nat.eq_of_beq_eq_true e2
   have e3:=zcO e3
   obtain ⟨m1,m2⟩:=ha2.gl y hy
   rw [e2,e3,e1] at m1
   rw [e2,e3,e1] at m2
   exact ⟨fun h=>⟨V.eqB_good e4,by rw [(m1 h).2,V.eqB_conc e4 θ]⟩,m2⟩
  ·obtain ⟨lo,hlo⟩:=Option.isSome_iff_exists.1 ((hkind ho).2 hef)
   exact zqt hlo fun t ht=>htm t (List.mem_append_right _ ht)
  ·unfold Region.wanted
   cases hg:o.guard with
   | none=>rfl
   | some g =>
    obtain ⟨j,want⟩:=g
    simp only [yielded]
    cases hd:(pre.toArray[j]?).bind (·.dst) with
    | none=>rfl
    | some d =>
     have:a2.tmps[d]? = a1.tmps[d]?:=htm d (List.mem_append_left _ (by
      unfold zgm
      rw [hg]
      simp only
      rw [hat] at hd
      rw [hd]
      simp))
     simp only [Option.bind_some,this]
 have hlateH:∀ (i:Nat) (o:Oper) (e:ChE) (listed:Array Bool),pre[i]? = some o→eff4 o.op=true→turn4 o.op=false→es[i]? = some e→zbL pre.toArray listed→i∈Region.ready .any pre.toArray listed →
   E.n0≤e.R.length∧(∀ j bk,nth e.R j=some bk→nth (Hat listed) j=some bk):=by
  intro i o e listed ho hef htn he hcl' hrd
  obtain ⟨g1,g2⟩:=zrK hlate ho he hef htn
  refine ⟨by omega,fun j bk hj=>?_⟩
  have hanc:∀ j,j∈zaA pre i (zbB o)→listed.getD j false=true:=fun j hj=>zbW hcl' (by rw [hat];exact ho) hrd j hj
  have hao:zlt pre i=zaA pre i (zbB o):=by unfold zlt;rw [ho]
  refine zdG (g2 _ (htop listed) ?_) j bk hj
  rcases zm4 (pre:=pre) (anc:=zlt pre i) (n:=pre.length) with h | ⟨k,o',h1,h2,h3,h4,h5⟩
  ·omega
  ·rw [hao] at h5
   have:=zfd h3 h4 (hanc k h5) pre.length h2
   omega
 have hHset:∀ (i:Nat) (o:Oper) (listed:Array Bool),pre[i]? = some o→turn4 o.op=false→Hat (listed.setIfInBounds i true)=Hat listed:=fun i o listed ho htn=>by
  show Hk (zbf pre (listed.setIfInBounds i true) pre.length)=Hk (zbf pre listed pre.length)
  rw [zjp (by unfold zhC;rw [ho];exact htn)]
 refine zjk (P:=P) (Θ:=Nat→Loc) (ops:=pre.toArray) (ops':=fun θ=>(List.zipWith (fun o e=>nopY (e.v.conc ν θ) o) pre es).toArray) (st:=(pre.zipIdx.filter fun p=>eff4 p.1.op).map (·.2)) (val:=fun i θ=>(es.getD i default).v.conc ν θ)
  (C:=fun θ w=>HS E ν θ Hq w) (D:=fun listed θ w1=>HS E ν θ (Hat listed) w1) (Sm:=fun listed θ θ'=>∀ q,q<(Hat listed).length→θ' q=θ q) (Qf:=fun θ a'=>ARel ν θ rf a')
  (tm:=fun i=>match pre[i]? with | some o=>zgm pre o++zix o.op | none=>[]) hbkp hready hdst (fun θ i hi=>?_) (fun i hi=>?_) (fun listed θ θ' w1 hd hsm1=>hd.reloc (hHlt _ (htop _)) hsm1) (fun listed θ w1 hd=>hd.forget hn0q (hHq _ (htop _))) (fun _ _ _ _=>rfl)
  (fun listed i θ θ' θ'' h1 h2 q hq=>(h2 q (Nat.lt_of_lt_of_le hq (hsetm listed i))).trans (h1 q hq)) (fun listed i θ θ' hi hs hsm1=>?_) (fun i o hi ho a1 w1 f args w2=>?_) (fun listed i θ w1 hi hd=>?_) (fun i o hi ho listed hcl hrd t ht j o' ho' hd'=>?_)
  (fun i o hi ho listed hs hcl' hrd θ w1 hd a1 a2 ha2 htm hwnt=>?_) (fun i o hi ho listed hs hcl' hrd θ w1 hd a1 a2 ha2 htm hwnt=>?_) (fun θ a1 w1 listed hall ha1 hd=>?_) pre.toArray.size (Array.replicate pre.toArray.size false) a w ρ (by simp) (zfZ _ _) ?_ (fun θ' hsm1=>?_)
 ·show ((List.zipWith (fun o e=>nopY (e.v.conc ν θ) o) pre es).toArray)[i]? = _
  rw [hops' θ i,hat i]
  cases ho:pre[i]? with
  | none=>rfl
  | some o =>
   obtain ⟨e,he⟩:=hes i (hlt_of ho)
   rw [he]
   have:eff4 o.op=false:=by
    cases h:eff4 o.op with
    | false=>rfl
    | true=>exact absurd ((heffmem i).2 ⟨o,ho,h⟩) hi
   simp only [zpA this]
 ·obtain ⟨o,h1,h2⟩:=(heffmem i).1 hi
  obtain ⟨e,he⟩:=hes i (hlt_of h1)
  refine ⟨o,by rw [hat];exact h1,fun θ=>⟨nopY (e.v.conc ν θ) o,?_,(zbP _ o).2.1,(zbP _ o).1,fun a1 w1=>?_⟩⟩
  ·show ((List.zipWith (fun o e=>nopY (e.v.conc ν θ) o) pre es).toArray)[i]? = _
   rw [hops' θ i,h1,he]
  ·rw [zih h2,List.getD_eq_getElem?_getD,he]
   simp [execOp,Act.eval]
 ·-- the values of what is listed
  obtain ⟨o,h1,h2⟩:=(heffmem i).1 hi
  have hil:=hlt_of h1
  have hli:(listed.setIfInBounds i true).getD i false=true:=by
   have:i<listed.size:=by rw [hs];simpa using hil
   rw [Array.getD_eq_getD_getElem?,Array.getElem?_setIfInBounds_self_of_lt this]
   rfl
  obtain ⟨e,he⟩:=hes i hil
  simp only [List.getD_eq_getElem?_getD,he,Option.getD_some]
  have hlt:=(hz.eff i o e h1 he h2).lt
  cases htn:turn4 o.op with
  | false=>exact V.conc_agree (n:=0) (fun j hj=>by omega) ((hz.eff i o e h1 he h2).lt0 htn)
  | true =>
  have hge:=zfd h1 htn hli pre.length hil
  have hle:e.H.length≤(Hat (listed.setIfInBounds i true)).length:=by
   rw [←hHk he]
   exact hmono2 _ _ hge (htop _)
  exact V.conc_agree (fun j hj=>hsm1 j (Nat.lt_of_lt_of_le hj hle)) hlt
 ·rw [hat] at ho
  have:eff4 o.op=false:=by
   cases h:eff4 o.op with
   | false=>rfl
   | true=>exact absurd ((heffmem i).2 ⟨o,ho,h⟩) hi
  exact zeK ((hkind ho).1 this) a1 w1 f args w2
 ·-- what turns nothing
  have:zbf pre (listed.setIfInBounds i true) pre.length=zbf pre listed pre.length:=zjp (by
   unfold zhC
   cases ho:pre[i]? with
   | none=>rfl
   | some o =>
    cases h:turn4 o.op with
    | false=>exact h
    | true=>exact absurd ((heffmem i).2 ⟨o,ho,zd2 h⟩) hi) _
  show HS E ν θ (Hk (zbf pre (listed.setIfInBounds i true) pre.length)) w1
  rw [this]
  exact hd
 ·rw [hat] at ho ho'
  obtain ⟨o2,h1,h2⟩:=(heffmem i).1 hi
  rw [ho] at h1;cases h1
  rw [ho] at ht
  exact zbW hcl (by rw [hat];exact ho) hrd j ((hchAt ho h2).2 t ht j o' ho' hd')
 ·-- one that turns or makes something, or a late one
  rw [hat] at ho
  obtain ⟨o2,h1,hef⟩:=(heffmem i).1 hi
  rw [ho] at h1;cases h1
  rw [ho] at htm
  have hil:=hlt_of ho
  obtain ⟨e,he⟩:=hes i hil
  have hfe:=hz.eff i o e ho he hef
  obtain ⟨haR,hop1,hyl⟩:=hacts i o e θ a1 a2 ho he hef ha2 htm
  have hw2:Region.wanted o (yielded pre.toArray a2.tmps)=true:=by rw [←hwnt];exact hyl
  rw [hop1]
  have hd:HS E ν θ (Hat listed) w1:=hd
  cases htn:turn4 o.op with
  | true =>
   obtain ⟨hHi,hHn⟩:=hstepH i o e listed ho htn he hs hcl' hrd
   rw [hHi] at hd
   refine (hfe.fact θ a2 w1 haR hw2 (by rw [hfe.R htn];exact hd) (hI w1 hd.fr)).mono fun v w' hk=>?_
   obtain ⟨θ',k1,k2,k3⟩:=hk.1 htn
   refine ⟨θ',fun q hq=>k1 q (by rw [←hHi];exact hq),?_,?_⟩
   ·rcases k2 with k2 | k2
    ·exact .inl k2
    ·right
     simp only [List.getD_eq_getElem?_getD,he,Option.getD_some]
     exact k2
   ·show HS E ν θ' (Hat (listed.setIfInBounds i true)) w'
    rw [hHn];exact k3
  | false =>
   obtain ⟨g1,g2⟩:=hlateH i o e listed ho hef htn he hcl' hrd
   refine (hfe.fact θ a2 w1 haR hw2 (hd.forget g1 g2) (hI w1 hd.fr)).mono fun v w' hk=>?_
   obtain ⟨k1,k2⟩:=hk.2 htn
   refine ⟨θ,fun _ _=>rfl,?_,?_⟩
   ·rcases k1 with k1 | k1
    ·exact .inl k1
    ·right
     simp only [List.getD_eq_getElem?_getD,he,Option.getD_some]
     exact k1
   ·show HS E ν θ (Hat (listed.setIfInBounds i true)) w'
    rw [hHset i o listed ho htn]
    exact k2 _ hd
 ·-- one that is passed over
  rw [hat] at ho
  obtain ⟨o2,h1,hef⟩:=(heffmem i).1 hi
  rw [ho] at h1;cases h1
  rw [ho] at htm
  obtain ⟨e,he⟩:=hes i (hlt_of ho)
  have hfe:=hz.eff i o e ho he hef
  have hd:HS E ν θ (Hat listed) w1:=hd
  cases htn:turn4 o.op with
  | false=>exact ⟨θ,fun _ _=>rfl,by
    show HS E ν θ (Hat (listed.setIfInBounds i true)) w1
    rw [hHset i o listed ho htn];exact hd⟩
  | true =>
   obtain ⟨haR,hop1,hyl⟩:=hacts i o e θ a1 a2 ho he hef ha2 htm
   obtain ⟨hHi,hHn⟩:=hstepH i o e listed ho htn he hs hcl' hrd
   rw [hHi] at hd
   obtain ⟨θ',k1,k2⟩:=hfe.skip θ a2 w1 haR (by rw [←hwnt];exact hyl) hd
   refine ⟨θ',fun q hq=>k1 q (by rw [←hHi];exact hq),?_⟩
   show HS E ν θ' (Hat (listed.setIfInBounds i true)) w1
   rw [hHn];exact k2
 ·-- all is listed
  show wpList P ops Q (ops.toList.drop n) a1 w1
  refine hr2 θ a1 w1 ⟨⟨ha1.defers,ha1.size,ha1.slot,ha1.gl⟩,?_⟩ Q fun ρ' a' w' h'=>hQ ρ' a' w' h'.drop
  have hd:HS E ν θ (Hk (zbf pre listed pre.length)) w1:=hd
  have hH:Hk (zbf pre listed pre.length)=zpW s.hp es:=by
   have hmid:∀ j o',zbf pre listed pre.length≤j→pre[j]? = some o'→turn4 o'.op=false:=fun j o' g1 g3=>by
    cases h:turn4 o'.op with
    | false=>rfl
    | true =>
     have:=zfd g3 h (hall j (by simpa using hlt_of g3)) pre.length (hlt_of g3)
     omega
   have h0:=htop listed
   have:=zlT hz (i:=zbf pre listed pre.length) (pre.length-zbf pre listed pre.length) (by omega) fun j o' g1 g2 g3=>hmid j o' g1 g3
   rw [show zbf pre listed pre.length+(pre.length-zbf pre listed pre.length)=pre.length from by omega] at this
   rw [←zkR,hz.len]
   exact this.symm
  rw [←hH];exact hd
 ·-- at first
  have h0:∀ n,zbf pre (Array.replicate pre.toArray.size false) n=0:=fun n=>by
   induction n with
   | zero=>rfl
   | succ n ih =>
    unfold zbf
    rw [ih,if_neg]
    rw [Array.getD_eq_getD_getElem?,Array.getElem?_replicate]
    split<;>simp
  show HS E ν ρ (Hk (zbf pre _ pre.length)) w
  rw [h0]
  exact hrr.hs
 ·have h0:∀ n,zbf pre (Array.replicate pre.toArray.size false) n=0:=fun n=>by
   induction n with
   | zero=>rfl
   | succ n ih =>
    unfold zbf
    rw [ih,if_neg]
    rw [Array.getD_eq_getD_getElem?,Array.getElem?_replicate]
    split<;>simp
  have hρ:∀ q,q<s.hp.length→θ' q=ρ q:=fun q hq=>hsm1 q (by
   show q<(Hk (zbf pre _ pre.length)).length
   rw [h0];exact hq)
  have ha1:ARel ν θ' ⟨⟨s.sl,Hq⟩,[]⟩ a:=hrr.act.ext hρ hslt (by simp) Hq
  have hs1:HS E ν θ' Hq w:=(hrr.hs.reloc hplt hρ).forget hn0q (fun j bk hj=>zdG hkq j bk hj)
  have hwq:=hz.quiet θ' a ha1 ⟨w,hs1⟩ _ rfl (List.zipWith (fun o e=>nopY (e.v.conc ν θ') o) pre es).toArray (hdst θ') (fun a'=>ARel ν θ' rf a') (fun _ h=>h)
  have hB:Region.lexB .any (List.zipWith (fun o e=>nopY (e.v.conc ν θ') o) pre es).toArray=true:=by
   rw [←hlex]
   refine zkN (by simp [hz.len]) fun j o1 o2 h1 h2=>?_
   rw [List.getElem?_map] at h2
   obtain ⟨o,g1,rfl⟩:=Option.map_eq_some_iff.1 h2
   obtain ⟨e,he⟩:=hes j (hlt_of g1)
   rw [List.getElem?_zipWith,g1,he] at h1
   simp only [Option.some.injEq] at h1
   subst h1
   refine ⟨by rw [(zbP _ o).1,(zbP _ o).1],by rw [(zbP _ o).2.1,(zbP _ o).2.1],by rw [(zbP _ o).2.2,(zbP _ o).2.2],?_⟩
   unfold nopY
   split
   ·exact .inr ⟨_,_,rfl,rfl⟩
   ·exact .inl rfl
  simp only [Region.lexB,Bool.and_eq_true] at hB
  have:=wpAnyQ_lex (P:=P) (C:=fun w=>HS E ν θ' Hq w) (md:=.any) hB.1 (List.zipWith (fun o e=>nopY (e.v.conc ν θ') o) pre es) 0 (Array.replicate (List.zipWith (fun o e=>nopY (e.v.conc ν θ') o) pre es).toArray.size false) a (by simp) (by simpa using hB.2) hwq
  rw [hsz θ'] at this
  simpa [hz.len] using this
theorem zor (hS:SigsOK P I gK S F) (hE:E.Ok gK) (hn0:S.n0=E.n0) (hI:∀ w,Fr E.W E.w0 w→I w) {ops:Array Oper} {n:Nat} {s:St} (hnl:n≤ops.toList.length) (hm:chB ops.toList n=true) :
  M.sat F ν (znR P S ops.toList n s) (fun s'=>∀ ρ a w,RR ν E ρ ⟨s,[]⟩ a w→∀ Q:Exit→Act→World→Prop,(∀ ρ' a' w',RR ν E ρ' ⟨s',[]⟩ a' w'→Q .normal a' w') →
   wpAny P .any ops Q ops.size (Array.replicate ops.size false) a w):=by
 intro k s' n' e d h
 unfold znR at h
 split at h
 ·exact zgJ hS hE hn0 hI hnl hm k s' n' e d h
 ·exact zgJ hS hE hn0 hI hnl hm k s' n' e d h
end
end Go.Sx
namespace Go.Sx
open Go.RowKit
section
variable {P:Program} {I:World→Prop} {S:Sigs} {F:FEnv} {E:Env} {gK:Nat} {ν:Nat→DV}
theorem zgK (hS:SigsOK P I gK S F) (hE:E.Ok gK) (hn0:S.n0=E.n0) (hI:∀ w,Fr E.W E.w0 w→I w) {ops:Array Oper} : ∀ (l:List Oper) (r:RS),M.sat F ν (zdl P S true ops.toList l r) (fun r'=>r'.st.hp=r.st.hp ∧
  ∀ ρ a,ARel ν ρ r a→(∃ w,HS E ν ρ r.st.hp w)→∀ C:World→Prop,C=(fun w=>HS E ν ρ r.st.hp w) →
  ∀ Q:Act→Prop,(∀ a',ARel ν ρ r' a'→Q a')→wpQuiet P ops C Q l a)
 | [],r=>zab ⟨rfl,fun ρ a h _ C _ Q hQ=>hQ a h⟩
 | o::l,r=>by
  unfold zdl
  refine zaa (zdE (E:=E) hS hE hn0 hI true) fun r1 h1=>zah (zgK hS hE hn0 hI l r1) fun r' h2=>?_
  have h1:=h1.2 rfl
  refine ⟨h2.1.trans h1.1,fun ρ a ha hex C hC Q hQ=>?_⟩
  have:=h1.2 ρ a ha hex C hC
  simp only [wpQuiet]
  split
  ·rename_i hw
   rw [if_pos hw] at this
   obtain ⟨v,h3,h4⟩:=this
   exact ⟨v,h3,h2.2 ρ _ h4 (by rw [h1.1];exact hex) C (by rw [h1.1];exact hC) Q hQ⟩
  ·rename_i hw
   rw [if_neg hw] at this
   exact h2.2 ρ _ this (by rw [h1.1];exact hex) C (by rw [h1.1];exact hC) Q hQ
theorem HS.drawn {ρ:Nat→Loc} {hp:List (Option Blk)} {w:World} (h:HS E ν ρ hp w):HS E ν ρ hp { w with drawn:=w.drawn+1 } :=
 h.of_below ⟨rfl,rfl,rfl,Nat.le_refl _,fun _ _=>rfl⟩
theorem zpB {ops:List Oper} (h:zlr ops=true):zb5 .any ops.toArray:=backB_ok' h
theorem ztv {ops:List Oper} {n:Nat} (h:zvM ops n=true):∀ i,n≤i→∀ o,ops[i]? = some o→∀ j,j<i→∃ e∈o.after,Region.binds .any e=true∧e.on=j:=by
 intro i hi o ho j hj
 have hm:(o,i)∈ops.zipIdx.drop n:=by
  rw [List.mem_iff_getElem?]
  refine ⟨i-n,?_⟩
  rw [List.getElem?_drop,show n+(i-n)=i from by omega,List.getElem?_zipIdx,ho]
  simp
 have:=List.all_eq_true.1 h _ hm
 have:=List.all_eq_true.1 this j (List.mem_range.2 hj)
 obtain ⟨e,he,h2⟩:=Array.any_eq_true'.1 this
 simp only [Bool.and_eq_true] at h2
 exact ⟨e,he,h2.1,Nat.eq_of_beq_eq_true h2.2⟩
theorem zfe {α:Type} {x y:M α} {Q:α→Prop} (hx:M.sat F ν x Q) (hy:M.sat F ν y Q):M.sat F ν (x.orElse' y) Q:=by
 intro n a n' e d h1 h2 h3
 unfold M.orElse' at h1
 cases h:x n with
 | some r=>rw [h] at h1;exact hx n a n' e d (by rw [h];exact h1) h2 h3
 | none=>rw [h] at h1;exact hy n a n' e d h1 h2 h3
theorem zlU (hS:SigsOK P I gK S F) (hE:E.Ok gK) (hn0:S.n0=E.n0) (hI:∀ w,Fr E.W E.w0 w→I w) {ops:Array Oper} {s:St} : M.sat F ν (ziz P S ops s) (fun s'=>P.follows .mixedOrders=true∧∀ ρ a w,RR ν E ρ ⟨s,[]⟩ a w →
  ∀ Q:Exit→Act→World→Prop,(∀ ρ' a' w',RR ν E ρ' ⟨s',[]⟩ a' w'→Q .normal a' w')→wpAny P .any ops Q ops.size (Array.replicate ops.size false) a w):=by
 unfold ziz
 refine zae (fun hc=>?_) (fun _=>zac)
 simp only [Bool.and_eq_true] at hc
 refine zah (zqs (E:=E) hS hE hn0 hI (List.takeWhile_prefix _).length_le hc.1) fun s' hs'=>⟨hc.2,fun ρ a w hrr Q hQ=>hs' ρ a w hrr Q hQ⟩
theorem zlV (hS:SigsOK P I gK S F) (hE:E.Ok gK) (hn0:S.n0=E.n0) (hI:∀ w,Fr E.W E.w0 w→I w) {ops:Array Oper} {s:St} : M.sat F ν (ziA P S ops s) (fun s'=>P.follows .mixedOrders=true∧∀ ρ a w,RR ν E ρ ⟨s,[]⟩ a w →
  ∀ Q:Exit→Act→World→Prop,(∀ ρ' a' w',RR ν E ρ' ⟨s',[]⟩ a' w'→Q .normal a' w')→wpAny P .any ops Q ops.size (Array.replicate ops.size false) a w):=by
 unfold ziA
 refine zae (fun hc=>?_) (fun _=>zac)
 simp only [Bool.and_eq_true] at hc
 refine zah (zor (E:=E) hS hE hn0 hI (List.takeWhile_prefix _).length_le hc.1) fun s' hs'=>⟨hc.2,fun ρ a w hrr Q hQ=>hs' ρ a w hrr Q hQ⟩
theorem zkf (hS:SigsOK P I gK S F) (hE:E.Ok gK) (hn0:S.n0=E.n0) (hI:∀ w,Fr E.W E.w0 w→I w) {ops:Array Oper} {s:St} : M.sat F ν (zkp P S ops s) (fun s'=>P.follows .mixedOrders=true∧∀ ρ a w,RR ν E ρ ⟨s,[]⟩ a w →
  ∀ Q:Exit→Act→World→Prop,(∀ ρ' a' w',RR ν E ρ' ⟨s',[]⟩ a' w'→Q .normal a' w')→wpAny P .any ops Q ops.size (Array.replicate ops.size false) a w) :=
 zfe (zlV hS hE hn0 hI) (zlU hS hE hn0 hI)
theorem zlW (hS:SigsOK P I gK S F) (hE:E.Ok gK) (hn0:S.n0=E.n0) (hI:∀ w,Fr E.W E.w0 w→I w) {ops:Array Oper} {s:St} : M.sat F ν (ziy P S ops s) (fun s'=>P.follows .mixedOrders=true∧∀ ρ a w,RR ν E ρ ⟨s,[]⟩ a w →
  ∀ Q:Exit→Act→World→Prop,(∀ ρ' a' w',RR ν E ρ' ⟨s',[]⟩ a' w'→Q .normal a' w')→wpAny P .any ops Q ops.size (Array.replicate ops.size false) a w):=by
 unfold ziy
 dsimp only
 generalize hn:(ops.toList.takeWhile fun o=>zrd o.op).length=n
 refine zae (fun hc=>?_) (fun _=>zae (fun hmx=>?_) (fun _=>zac))
 rotate_left
 ·simp only [Bool.and_eq_true] at hmx
  obtain ⟨⟨⟨hmx,hm⟩,hB⟩,hback⟩:=hmx
  refine zah (zom (E:=E) hS hE hI hmx hB hback) fun s' hs'=>⟨hm,fun ρ a w hrr Q hQ=>hs' ρ a w hrr Q hQ⟩
 simp only [Bool.and_eq_true] at hc
 obtain ⟨hB,htail⟩:=hc
 refine zae (fun hc=>?_) (fun _=>zac)
 simp only [Bool.and_eq_true] at hc
 obtain ⟨hm,hback⟩:=hc
 have hq:=zgK (E:=E) (ν:=ν) hS hE hn0 hI (ops:=(ops.toList.take n).toArray) (ops.toList.take n) ⟨s,[]⟩
 simp only at hq
 refine zaa hq fun r hr=>?_
 refine zaa (zcs (E:=E) hS hE hn0 hI (ops.toList.drop n) r) fun r2 hr2=>zab ⟨hm,fun ρ a w hrr Q hQ=>?_⟩
 have hbk:zb5 .any ops:=by have:=zpB hback;simpa using this
 refine zjg hbk (ops.toList.drop n) (ops.toList.take n).toArray (by simp) (fun i hi o ho j hj=>?_) a w ?_
 ·have hlen:(ops.toList.take n).toArray.size=n:=by
   have:n≤ops.toList.length:=by
    rw [←hn]
    exact (List.takeWhile_prefix _).length_le
   simp at this ⊢
   omega
  exact ztv htail i (by omega) o (by simpa using ho) j hj
 ·have hhp:r.st.hp=s.hp:=hr.1
  simp only [Region.lexB,Bool.and_eq_true] at hB
  refine wpAny_of_quiet (C:=fun w=>HS E ν ρ s.hp w) (Q:=fun a'=>∀ w',(HS E ν ρ s.hp w')→wpList P ops Q (ops.toList.drop n) a' w') (fun _ w' hw' h=>h w' hw') _ _ _ _ hrr.hs ?_
  have hqq:=hr.2 ρ a hrr.act ⟨w,hrr.hs⟩ _ rfl (fun a'=>∀ w',(HS E ν ρ s.hp w')→wpList P ops Q (ops.toList.drop n) a' w') (fun a' ha' w' hw' =>
   hr2 ρ a' w' ⟨ha',by rw [hhp];exact hw'⟩ Q fun ρ' a'' w'' h'=>hQ ρ' a'' w'' h'.drop)
  have:=wpAnyQ_lex (P:=P) (C:=fun w=>HS E ν ρ s.hp w) (md:=.any) hB.1 (ops.toList.take n) 0 (Array.replicate (ops.toList.take n).toArray.size false) a (by simp) (by simpa using hB.2) hqq
  simpa using this
theorem zm5 (hS:SigsOK P I gK S F) (hE:E.Ok gK) (hn0:S.n0=E.n0) (hI:∀ w,Fr E.W E.w0 w→I w) {ops:Array Oper} {draw:Bool} {s:St} {id:Nat} : M.sat F ν (zlu P S ops draw s) (fun s'=>∀ ρ a w,RR ν E ρ ⟨s,[]⟩ a w →
  ∀ Q:Exit→Act→World→Prop,(∀ ρ' a' w',RR ν E ρ' ⟨s',[]⟩ a' w'→Q .normal a' w')→(Code.region id ops draw).wp P Q a w):=by
 unfold zlu
 cases draw
 ·simp only [Bool.false_eq_true,if_false]
  refine zaa (zcs (E:=E) hS hE hn0 hI ops.toList ⟨s,[]⟩) fun r hr=>zab fun ρ a w hrr Q hQ=>?_
  exact wp_region_list (hr ρ a w hrr Q fun ρ' a' w' h'=>hQ ρ' a' w' h'.drop)
 ·simp only [if_true]
  refine zah (zfe (zlW hS hE hn0 hI) (zkf hS hE hn0 hI)) fun s' hs' ρ a w hrr Q hQ=>?_
  exact wp_region_any hs'.1 (hs'.2 ρ a _ ⟨hrr.act,hrr.hs.drawn⟩ Q hQ)
def K.is:K→Exit→Prop
 | .normal,.normal=>True
 | .ret,.ret=>True
 | .exit i,.exit j=>i=j
 | .goto i,.goto j=>i=j
 | _,_=>False
def X.sel (ν:Nat→DV):X→K×St
 | .done k s=>(k,s)
 | .br c x y=>if c.bool ν then x.sel ν else y.sel ν
def XPost (ν:Nat→DV) (E:Env) (x:X):Exit→Act→World→Prop:=fun e a w=>(x.sel ν).1.is e∧∃ ρ,RR ν E ρ ⟨(x.sel ν).2,[]⟩ a w
theorem zgL:∀ (x:X),M.sat F ν x.nCond (fun c=>c.bool ν=(x.sel ν).1.isNormal)
 | .done k s=>zab rfl
 | .br c x y=>by
  unfold X.nCond
  refine zaa (zgL x) fun a ha=>zaa (zgL y) fun b hb=>zah ze6 fun r hr=>?_
  rw [hr,ha,hb]
  simp only [X.sel]
  cases c.bool ν<;>simp
theorem zos {c:A} {x y:St} : M.sat F ν (zfD E.n0 c x y) (fun s=>∀ ρ a w,(c.bool ν=true→RR ν E ρ ⟨x,[]⟩ a w→∃ ρ',RR ν E ρ' ⟨s,[]⟩ a w) ∧
  (c.bool ν=false→RR ν E ρ ⟨y,[]⟩ a w→∃ ρ',RR ν E ρ' ⟨s,[]⟩ a w)) :=
 zah (zc7 (Nat.le_refl _)) fun _ h ρ a w=>⟨fun hc hr=>let ⟨ρ',_,h2⟩:=(h ρ a w).1 hc hr;⟨ρ',h2⟩,fun hc hr=>let ⟨ρ',_,h2⟩:=(h ρ a w).2 hc hr;⟨ρ',h2⟩⟩
def zbg (P:Program) (c:Code) (Q:Exit→Act→World→Prop) (a:Act) (w:World):Prop :=
 ∀ (b:Frame) (k:List Item) (cs:List Frame),∃ e a' w',Q e a' w'∧Arrives P (lone (b.at a (.code c::.inLoop c::k)) cs w) b k cs e a' w'
theorem zbg.step {P:Program} {c:Code} {Q:Exit→Act→World→Prop} {a:Act} {w:World} (h:c.wp P (Exit.then (zbg P c Q) Q) a w):zbg P c Q a w:=by
 intro b k cs
 obtain ⟨e,a₁,w₁,hq,harr⟩:=h b (.inLoop c::k) cs
 cases e with
 | normal =>
  obtain ⟨e₂,a₂,w₂,hq₂,harr₂⟩:=hq b k cs
  exact ⟨e₂,a₂,w₂,hq₂,.of_steps (Steps.trans harr (.one step_inLoop)) harr₂⟩
 | exit id=>exact ⟨_,a₁,w₁,hq,.pass (x:=.inLoop c) rfl (fun _ _=>.inl (by simp)) harr⟩
 | goto l=>exact ⟨_,a₁,w₁,hq,.pass (x:=.inLoop c) rfl (fun _ _=>.inl (by simp)) harr⟩
 | ret=>exact ⟨_,a₁,w₁,hq,.pass (x:=.inLoop c) rfl (fun _ _=>.inl (by simp)) harr⟩
 | panic ch=>exact ⟨_,a₁,w₁,hq,.pass (x:=.inLoop c) rfl (fun _ _=>.inl (by simp)) harr⟩
 | outgrown=>exact ⟨_,a₁,w₁,hq,.pass (x:=.inLoop c) rfl (fun _ _=>.inl (by simp)) harr⟩
theorem zbg.wp {P:Program} {c:Code} {Q:Exit→Act→World→Prop} {a:Act} {w:World} (h:zbg P c Q a w):(Code.loop c).wp P Q a w:=by
 intro b k cs
 obtain ⟨e,a',w',hq,harr⟩:=h b k cs
 exact ⟨e,a',w',hq,.of_steps (.one step_loop) harr⟩
theorem zbg.mono {P:Program} {c:Code} {Q Q':Exit→Act→World→Prop} {a:Act} {w:World} (hq:∀ e a w,Q e a w→Q' e a w) (h:zbg P c Q a w):zbg P c Q' a w :=
 fun b k cs=>let ⟨e,a',w',q,r⟩:=h b k cs;⟨e,a',w',hq _ _ _ q,r⟩
theorem zjq:∀ (x:X),M.sat F ν (x.nSt E.n0) (fun o=>(x.sel ν).1.isNormal=true→∃ s,o=some s∧∀ ρ a w,RR ν E ρ ⟨(x.sel ν).2,[]⟩ a w→∃ ρ',RR ν E ρ' ⟨s,[]⟩ a w)
 | .done k s=>by
  refine zab fun h=>?_
  simp only [X.sel] at h ⊢
  exact ⟨s,by simp [h],fun ρ a w h=>⟨ρ,h⟩⟩
 | .br c x y=>by
  unfold X.nSt
  refine zaa (zjq x) fun ox hx=>zaa (zjq y) fun oy hy=>?_
  split
  ·rename_i a b
   refine zaa (zos (E:=E)) fun s hs=>zab fun h=>⟨s,rfl,fun ρ act w hr=>?_⟩
   simp only [X.sel] at h hr
   by_cases hc:c.bool ν=true
   ·simp only [hc,if_true] at h hr
    obtain ⟨s',hs',h2⟩:=hx h
    cases hs'
    obtain ⟨ρ',h3⟩:=h2 ρ act w hr
    exact (hs ρ' act w).1 hc h3
   ·simp only [hc] at h hr
    obtain ⟨s',hs',h2⟩:=hy h
    cases hs'
    obtain ⟨ρ',h3⟩:=h2 ρ act w hr
    exact (hs ρ' act w).2 (by simpa using hc) h3
  ·rename_i a
   refine zab fun h=>?_
   simp only [X.sel] at h ⊢
   by_cases hc:c.bool ν=true
   ·simp only [hc,if_true] at h ⊢
    exact hx h
   ·simp only [hc] at h ⊢
    obtain ⟨s',hs',_⟩:=hy h
    cases hs'
  ·rename_i b
   refine zab fun h=>?_
   simp only [X.sel] at h ⊢
   by_cases hc:c.bool ν=true
   ·simp only [hc,if_true] at h ⊢
    obtain ⟨s',hs',_⟩:=hx h
    cases hs'
   ·simp only [hc] at h ⊢
    exact hy h
  ·refine zab fun h=>?_
   simp only [X.sel] at h
   by_cases hc:c.bool ν=true
   ·simp only [hc,if_true] at h
    obtain ⟨s',hs',_⟩:=hx h
    cases hs'
   ·simp only [hc] at h
    obtain ⟨s',hs',_⟩:=hy h
    cases hs'
theorem zeQ:∀ (x:X),(x.sel ν).1.isNormal=false→∃ z,x.kill=some z∧z.sel ν=x.sel ν
 | .done k s,h=>by
  simp only [X.sel] at h
  exact ⟨.done k s,by simp [X.kill,h],rfl⟩
 | .br c x y,h=>by
  simp only [X.sel] at h
  by_cases hc:c.bool ν=true
  ·simp only [hc,if_true] at h
   obtain ⟨z,h1,h2⟩:=zeQ x h
   cases hy:y.kill with
   | none=>exact ⟨z,by simp [X.kill,h1,hy],by simp [X.sel,hc,h2]⟩
   | some z'=>exact ⟨.br c z z',by simp [X.kill,h1,hy],by simp [X.sel,hc,h2]⟩
  ·simp only [hc] at h
   obtain ⟨z,h1,h2⟩:=zeQ y h
   cases hx:x.kill with
   | none=>exact ⟨z,by simp [X.kill,h1,hx],by simp [X.sel,hc,h2]⟩
   | some z'=>exact ⟨.br c z' z,by simp [X.kill,h1,hx],by simp [X.sel,hc,h2]⟩
theorem K.is_normal {k:K} {e:Exit} (h:k.is e) (hn:k.isNormal=true):e = .normal:=by
 cases k<;>cases e<;>simp [K.is,K.isNormal] at h hn ⊢
theorem K.is_not {k:K} {e:Exit} (h:k.is e) (hn:k.isNormal=false):e≠.normal:=by
 cases k<;>cases e<;>simp [K.is,K.isNormal] at h hn ⊢
theorem zf2 {x:X} {f:St→M X} {_G:X→Prop} {N:(Exit→Act→World→Prop)→Act→World→Prop}
  (hf:∀ s,M.sat F ν (f s) (fun y=>∀ ρ a w,RR ν E ρ ⟨s,[]⟩ a w→N (XPost ν E y) a w))
  (hN:∀ (Q Q':Exit→Act→World→Prop) a w,(∀ e a w,Q e a w→Q' e a w)→N Q a w→N Q' a w) :
  M.sat F ν (x.andThen E.n0 f) (fun z=>∀ e a w,XPost ν E x e a w→Exit.then (N (XPost ν E z)) (XPost ν E z) e a w):=by
 unfold X.andThen
 refine zaa (zgL x) fun c hc=>zaa (zjq (E:=E) x) fun o ho=>?_
 split
 ·refine zab fun e a w hp=>?_
  obtain ⟨hk,ρ,hr⟩:=hp
  cases hn:(x.sel ν).1.isNormal with
  | true=>obtain ⟨s,hs,_⟩:=ho hn;cases hs
  | false =>
   have:=K.is_not hk hn
   cases e<;>first | exact absurd rfl this | exact ⟨hk,ρ,hr⟩
 ·rename_i s
  have hnorm:∀ e a w,XPost ν E x e a w→(x.sel ν).1.isNormal=true→e = .normal∧∃ ρ,RR ν E ρ ⟨s,[]⟩ a w:=fun e a w hp hn=>by
   obtain ⟨hk,ρ,hr⟩:=hp
   obtain ⟨s',hs',h2⟩:=ho hn
   cases hs'
   exact ⟨K.is_normal hk hn,h2 ρ a w hr⟩
  split
  ·rename_i hkill
   refine zah (hf s) fun y hy e a w hp=>?_
   have hn:(x.sel ν).1.isNormal=true:=by
    cases hn:(x.sel ν).1.isNormal with
    | true=>rfl
    | false=>obtain ⟨z,hz,_⟩:=zeQ x hn;rw [hkill] at hz;cases hz
   obtain ⟨rfl,ρ,hr⟩:=hnorm e a w hp hn
   exact hy ρ a w hr
  ·rename_i z hz
   split
   ·refine zah (hf s) fun y hy e a w hp=>?_
    have hn:(x.sel ν).1.isNormal=true:=by rw [←hc]
    obtain ⟨rfl,ρ,hr⟩:=hnorm e a w hp hn
    exact hy ρ a w hr
   ·refine zaa (zbt (hf s)) fun y hy=>zab fun e a w hp=>?_
    cases hn:(x.sel ν).1.isNormal with
    | true =>
     obtain ⟨rfl,ρ,hr⟩:=hnorm e a w hp hn
     have hct:c.bool ν=true:=by rw [hc,hn]
     refine hN (XPost ν E y) _ a w (fun e a w h=>?_) (hy hct ρ a w hr)
     unfold XPost at h ⊢
     simp only [X.sel,hct,if_true]
     exact h
    | false =>
     obtain ⟨hk,ρ,hr⟩:=hp
     have hne:=K.is_not hk hn
     have hcf:c.bool ν=false:=by rw [hc,hn]
     obtain ⟨z',hz',hsel⟩:=zeQ x hn
     rw [hz] at hz'
     cases hz'
     have hpost:XPost ν E (.br c y z) e a w:=by
      unfold XPost
      simp only [X.sel,hcf,Bool.false_eq_true,if_false,hsel]
      exact ⟨hk,ρ,hr⟩
     cases e<;>first | exact absurd rfl hne | exact hpost
theorem zf3 (id:Nat):∀ (x:X),(x.inBlock id).sel ν=((x.sel ν).1.inBlock id,(x.sel ν).2)
 | .done k s=>rfl
 | .br c x y=>by
  simp only [X.inBlock,X.sel,zf3 id x,zf3 id y]
  split<;>rfl
theorem zff:∀ (x:X),x.noGoto=true→∀ l,(x.sel ν).1≠.goto l
 | .done k s,h,l=>by
  simp only [X.sel]
  intro e
  subst e
  simp [X.noGoto] at h
 | .br c x y,h,l=>by
  simp only [X.noGoto,Bool.and_eq_true] at h
  simp only [X.sel]
  split
  ·exact zff x h.1 l
  ·exact zff y h.2 l
def zf4 (l:Nat):Exit→Exit
 | .normal=>.goto l
 | .goto m=>if m=l then .normal else .goto m
 | e=>e
theorem zot (l:Nat) (e:Exit):zf4 l (zf4 l e)=e:=by
 cases e<;>simp only [zf4,if_true]
 rename_i m
 by_cases h:m=l
 ·rw [if_pos h,h]
 ·rw [if_neg h]
  simp only [zf4,if_neg h]
theorem zlX (l:Nat):∀ x:X,(x.swap l).sel ν=((x.sel ν).1.swap l,(x.sel ν).2)
 | .done k s=>rfl
 | .br c x y=>by
  simp only [X.swap,X.sel,zlX l x,zlX l y]
  split<;>rfl
theorem K.is_swap {l:Nat} {k:K} {e:Exit} (h:k.is e):(k.swap l).is (zf4 l e):=by
 cases k<;>cases e<;>simp only [K.is] at h<;>first | exact h.elim | skip
 ·exact rfl
 ·trivial
 ·exact h
 ·rename_i i j
  subst h
  simp only [K.swap,zf4]
  by_cases hb:i=l
  ·subst hb
   simp [K.is]
  ·have:Nat.beq i l=false:=by
    cases hq:Nat.beq i l with
    | false=>rfl
    | true=>exact absurd (Nat.eq_of_beq_eq_true hq) hb
   rw [this,if_neg hb]
   exact rfl
theorem XPost.swap {x:X} {l:Nat} {e:Exit} {a:Act} {w:World} (h:XPost ν E x e a w):XPost ν E (x.swap l) (zf4 l e) a w:=by
 obtain ⟨hk,ρ,hr⟩:=h
 unfold XPost
 rw [zlX]
 exact ⟨K.is_swap hk,ρ,hr⟩
def zfg (P:Program) (c d:Code) (Q:Exit→Act→World→Prop) (a:Act) (w:World):Prop :=
 ∀ (b:Frame) (k:List Item) (cs:List Frame),∃ e a' w',Q e a' w'∧Arrives P (lone (b.at a (.code d::.inScope c::k)) cs w) b k cs e a' w'
def zuO (P:Program) (c:Code) (Q:Exit→Act→World→Prop):Exit→Act→World→Prop
 | .goto l,a,w=>∃ rest,findLabel c l=some rest∧zfg P c rest Q a w
 | e,a,w=>Q e a w
theorem zfg.of_wp {P:Program} {c d:Code} {Q:Exit→Act→World→Prop} {a:Act} {w:World} (h:d.wp P (zuO P c Q) a w):zfg P c d Q a w:=by
 intro b k cs
 obtain ⟨e,a₁,w₁,hq,harr⟩:=h b (.inScope c::k) cs
 cases e with
 | normal=>exact ⟨.normal,a₁,w₁,hq,Steps.trans harr (.one step_inScope)⟩
 | exit id=>exact ⟨.exit id,a₁,w₁,hq,fun k' hk=>harr k' (by simp [exitTo,hk])⟩
 | goto l =>
  obtain ⟨rest,hf,hrun⟩:=hq
  obtain ⟨e₂,a₂,w₂,hq₂,harr₂⟩:=hrun b k cs
  exact ⟨e₂,a₂,w₂,hq₂,.of_steps (harr _ (by simp [gotoIn,hf])) harr₂⟩
 | ret=>exact ⟨_,a₁,w₁,hq,harr⟩
 | panic ch=>exact ⟨_,a₁,w₁,hq,harr⟩
 | outgrown=>exact ⟨_,a₁,w₁,hq,harr⟩
theorem zfg.wp {P:Program} {c:Code} {Q:Exit→Act→World→Prop} {a:Act} {w:World} (h:zfg P c c Q a w):(Code.scope c).wp P Q a w:=by
 intro b k cs
 obtain ⟨e,a',w',hq,harr⟩:=h b k cs
 exact ⟨e,a',w',hq,.of_steps (.one step_scope) harr⟩
theorem zjr {ev:Code→St→M X} (hev:∀ c s,M.sat F ν (ev c s) (fun x=>∀ ρ a w,RR ν E ρ ⟨s,[]⟩ a w→c.wp P (XPost ν E x) a w)) (c:Code) :
  ∀ (t:Nat) (x:X),M.sat F ν (zlv E.n0 ev c t x) (fun z=>∀ e a w,XPost ν E x e a w→zuO P c (XPost ν E z) e a w)
 | 0,_=>zac
 | t+1,x=>by
  unfold zlv
  split
  ·refine zae (fun hg=>zab fun e a w hp=>?_) (fun _=>zac)
   cases e<;>first | exact hp | skip
   rename_i l
   have:=hp.1
   have hng:=zff (ν:=ν) x hg l
   generalize (x.sel ν).1=k at *
   cases k<;>simp only [K.is] at this
   subst this
   exact absurd rfl hng
  ·rename_i l _
   split
   ·exact zac
   ·rename_i rest hf
    refine zaa (zf2 (E:=E) (_G:=fun _=>True) (x:=x.swap l) (N:=fun Q a w=>rest.wp P (fun e=>Q (zf4 l e)) a w)
     (fun s'=>zaa (hev rest s') fun y hy=>zab fun ρ a w h=>wp_mono (hy ρ a w h) fun e a w hp=>hp.swap)
     (fun Q Q' a w h hw=>wp_mono hw fun e a w hp=>h _ a w hp)) fun z0 hz0=>?_
    refine zah (zjr hev c t (z0.swap l)) fun z hz e a w hp=>?_
    have hback:∀ e a w,XPost ν E z0 (zf4 l e) a w→zuO P c (XPost ν E z) e a w:=fun e a w h=>by
     have:=h.swap (l:=l)
     rw [zot] at this
     exact hz e a w this
    have h1:=hz0 (zf4 l e) a w hp.swap
    by_cases hl:e = .goto l
    ·subst hl
     simp only [zf4,if_true,Exit.then] at h1
     exact ⟨rest,hf,.of_wp (wp_mono h1 hback)⟩
    ·have hne:zf4 l e≠.normal:=by
      cases e<;>simp [zf4]
      rename_i m
      exact fun h=>hl (by rw [h])
     have h2:XPost ν E z0 (zf4 l e) a w:=by
      generalize zf4 l e=e' at *
      cases e'<;>first | exact absurd rfl hne | exact h1
     exact hback e a w h2
end
end Go.Sx
namespace Go.Sx
open Go.RowKit
theorem zug {a b:Nat} (h:Nat.blt a b=true):a<b:=by simpa [Nat.blt_eq] using h
theorem ztw {a b:Nat} (h:a<b):Nat.blt a b=true:=by simpa [Nat.blt_eq] using h
theorem zjs {base:Nat→DV} {n0 n i:Nat} {vs:List DV} (h:i<n0):look base n0 vs n i=base i:=by
 unfold look;rw [ztw h];rfl
theorem zdH {base:Nat→DV} {n0 n i:Nat} {vs:List DV} (h:n0≤i):look base n0 vs n i=vs.getD (n-1-i) default:=by
 unfold look
 have:Nat.blt i n0=false:=by
  cases hb:Nat.blt i n0 with
  | false=>rfl
  | true=>have:=zug hb;omega
 rw [this];rfl
theorem zlY {base:Nat→DV} {n0 n i:Nat} {vs:List DV} (hi:i<n) (d:DV):look base n0 (d::vs) (n+1) i=look base n0 vs n i:=by
 rcases Nat.lt_or_ge i n0 with h | h
 ·rw [zjs h,zjs h]
 ·rw [zdH h,zdH h,show n+1-1-i=(n-1-i)+1 from by omega];rfl
theorem zlZ {base:Nat→DV} {n0 n:Nat} {vs:List DV} (hn:n0≤n) (d:DV):look base n0 (d::vs) (n+1) n=d:=by
 rw [zdH hn,show n+1-1-n=0 from by omega];rfl
theorem A.den_congr {ν ν':Nat→DV} {n:Nat} (h:∀ i,i<n→ν i=ν' i) {a:A} (ha:a.below n=true):a.den ν=a.den ν':=by
 cases a with
 | r i=>exact h i (zug ha)
 | _=>rfl
theorem A.int_congr {ν ν':Nat→DV} {n:Nat} (h:∀ i,i<n→ν i=ν' i) {a:A} (ha:a.below n=true):a.int ν=a.int ν':=by simp [A.int,A.den_congr h ha]
theorem A.cells_congr {ν ν':Nat→DV} {n:Nat} (h:∀ i,i<n→ν i=ν' i) {a:A} (ha:a.below n=true):a.cells ν=a.cells ν':=by simp [A.cells,A.den_congr h ha]
theorem A.bool_congr {ν ν':Nat→DV} {n:Nat} (h:∀ i,i<n→ν i=ν' i) {a:A} (ha:a.below n=true):a.bool ν=a.bool ν':=by simp [A.bool,A.den_congr h ha]
theorem zcH {α β:Type} {p:α→Bool} {f g:α→β} {l:List α} (hl:l.all p=true) (h:∀ a,p a=true→f a=g a):l.map f=l.map g :=
 List.map_congr_left fun a ha=>h a (List.all_eq_true.1 hl a ha)
theorem zl0 {F:FEnv} {ν ν':Nat→DV} {n:Nat} (h:∀ i,i<n→ν i=ν' i) {x:Node} (hx:x.refs n=true):zbc F ν x=zbc F ν' x:=by
 cases x<;>simp only [Node.refs,Node.ops,List.all_cons,List.all_nil,Bool.and_true,Bool.and_eq_true] at hx<;>simp only [zbc] <;>
  first
   | rw [A.int_congr h hx.1,A.int_congr h hx.2]
   | rw [A.bool_congr h hx.1,A.bool_congr h hx.2]
   | rw [A.bool_congr h hx]
   | rw [A.int_congr h hx]
   | rw [A.bool_congr h hx.1,A.int_congr h hx.2.1,A.int_congr h hx.2.2]
   | rw [A.bool_congr h hx.1,A.bool_congr h hx.2.1,A.bool_congr h hx.2.2]
   | rw [zcH hx.2 (fun a ha=>A.int_congr h ha),A.int_congr h hx.1]
   | rw [zcH hx.2 (fun a ha=>A.bool_congr h ha),A.int_congr h hx.1]
   | rw [zcH hx (fun a ha=>A.den_congr h ha)]
   | rw [A.cells_congr h hx]
   | rw [A.cells_congr h hx.1,A.int_congr h hx.2.1,A.den_congr h hx.2.2]
   | rw [A.cells_congr h hx.1,A.int_congr h hx.2]
   | rw [A.cells_congr h hx.1,A.cells_congr h hx.2]
   | rw [zcH hx.2 (fun a ha=>A.den_congr h ha),A.int_congr h hx.1]
   | rw [A.bool_congr h hx.1,A.cells_congr h hx.2.1,A.cells_congr h hx.2.2]
theorem zcm {F:FEnv} {base:Nat→DV} {n0:Nat} : ∀ {nodes:Em} {vs:List DV} {n:Nat},n0≤n→zfK n nodes=true →
  (∀ i,i<n→look base n0 (zaS F base n0 nodes vs n) (n+nodes.length) i=look base n0 vs n i) ∧
  Sat F (look base n0 (zaS F base n0 nodes vs n) (n+nodes.length)) nodes
 | [],vs,n,_,_=>⟨fun i _=>rfl,fun p hp=>by cases hp⟩
 | (k,x)::r,vs,n,hn,hw=>by
  simp only [zfK,Bool.and_eq_true] at hw
  obtain ⟨⟨h1,h2⟩,h3⟩:=hw
  have hk:=Nat.eq_of_beq_eq_true h1
  subst hk
  obtain ⟨e2,e3⟩:=zcm (F:=F) (base:=base) (n0:=n0) (nodes:=r) (vs:=zbc F (look base n0 vs k) x::vs) (n:=k+1) (by omega) h3
  have hlen:k+((k,x)::r).length=k+1+r.length:=by simp;omega
  simp only [zaS]
  rw [hlen]
  have old:∀ i,i<k→look base n0 (zaS F base n0 r (zbc F (look base n0 vs k) x::vs) (k+1)) (k+1+r.length) i=look base n0 vs k i:=fun i hi=>by
   rw [e2 i (by omega),zlY hi]
  refine ⟨old,fun p hp=>?_⟩
  rcases List.mem_cons.1 hp with rfl | hp
  ·simp only
   rw [e2 k (by omega),zlZ hn]
   exact (zl0 (fun i hi=>old i hi) h2).symm
  ·exact e3 p hp
section
variable {P:Program} {I:World→Prop} {S:Sigs} {F:FEnv} {E:Env} {gK:Nat}
theorem LR.env_spec {l:LR} (ν:Nat→DV) {xs:List DV} (hx:xs.length=l.k) (hw:zfK (l.n+l.k) l.nodes=true) :
  (∀ i,i<l.n→l.env F ν xs i=ν i)∧(∀ j,j<l.k→l.env F ν xs (l.n+j)=xs.getD j default)∧Sat F (l.env F ν xs) l.nodes:=by
 obtain ⟨h1,h2⟩:=zcm (F:=F) (base:=ν) (n0:=l.n) (vs:=xs.reverse) (n:=l.n+l.k) (by omega) hw
 refine ⟨fun i hi=>?_,fun j hj=>?_,h2⟩
 ·unfold LR.env;rw [zjs hi]
 ·unfold LR.env
  rw [h1 (l.n+j) (by omega),zdH (by omega)]
  simp only [List.getD_eq_getElem?_getD]
  rw [List.getElem?_reverse (by omega),hx]
  congr 2
  omega
theorem K.beq_eq {a b:K} (h:a.beq b=true):a=b:=by
 cases a<;>cases b<;>simp [K.beq] at h<;>first | rfl | (subst h;rfl)
theorem zjt {k:K} : ∀ {l:List K} {i:Nat},zhD k l=some i→l[i]? = some k
 | [],_,h=>by simp [zhD] at h
 | x::l,i,h=>by
  simp only [zhD] at h
  split at h
  ·rename_i hx;cases h;have:=K.beq_eq hx;subst this;rfl
  ·obtain ⟨j,hj,rfl⟩:=Option.map_eq_some_iff.1 h
   simpa using zjt hj
theorem PEq.refl {ν:Nat→DV} : ∀ {ts:List Ty} {as:List A},as.length=ts.length→PEq ν ν ts as as
 | [],[],_=>trivial
 | t::ts,a::as,h=>⟨t.eqAt_refl _,PEq.refl (by simpa using h)⟩
theorem PEq.trans {ν1 ν2 ν3:Nat→DV} : ∀ {ts:List Ty} {as t bs:List A},PEq ν1 ν2 ts as t→PEq ν2 ν3 ts t bs→PEq ν1 ν3 ts as bs
 | [],[],[],[],_,_=>trivial
 | _::_,_::_,_::_,_::_,h,k=>⟨Ty.eqAt_trans h.1 k.1,PEq.trans h.2 k.2⟩
 | [],_::_,_,_,h,_=>h.elim
 | [],[],_::_,_,h,_=>h.elim
 | [],[],[],_::_,_,e=>e.elim
 | _::_,[],_,_,h,_=>h.elim
 | _::_,_::_,[],_,h,_=>h.elim
 | _::_,_::_,_::_,[],_,e=>e.elim
theorem PEq.of_teq {ν1 ν2:Nat→DV} : ∀ {ts:List Ty} {as bs:List A},TEq ts (bs.map (A.den ν2)) (as.map (A.den ν1))→PEq ν1 ν2 ts as bs
 | [],[],[],_=>trivial
 | _::_,_::_,_::_,e=>by
  simp only [List.map_cons,TEq] at e
  exact ⟨Ty.eqAt_symm e.1,PEq.of_teq e.2⟩
 | [],[],_::_,e=>e.elim
 | [],_::_,[],e=>e.elim
 | [],_::_,_::_,e=>e.elim
 | _::_,[],[],e=>e.elim
 | _::_,[],_::_,e=>e.elim
 | _::_,_::_,[],e=>e.elim
theorem TEq.len:∀ {ts:List Ty} {as bs:List DV},TEq ts as bs→as.length=bs.length
 | [],[],[],_=>rfl
 | _::_,_::_,_::_,h=>by simp [TEq.len h.2]
 | [],_::_,_,h=>h.elim
 | [],[],_::_,h=>h.elim
 | _::_,[],_,h=>h.elim
 | _::_,_::_,[],h=>h.elim
def FitsTo (ν:Nat→DV) (E:Env) (p:Pat) (s:St) (as:List A):Prop:=∀ ρ a w,RR ν E ρ ⟨s,[]⟩ a w→∃ ρ',RR ν E ρ' ⟨p.st.inst as,[]⟩ a w
theorem zou {ν:Nat→DV} {p:Pat} {s:St} {g:List A×List Nat} (h1:(p.st.inst g.1).sub g.2 s=true) (h2:zg5 g.2 E.n0=true) (h3:E.n0≤p.st.hp.length):FitsTo ν E p s g.1 :=
 fun _ _ _ h=>⟨_,h.sub h1 h2 (by simpa [St.inst] using h3)⟩
theorem zju {ν:Nat→DV} {pe:K→Pat} {tys:List Ty} {ks:List K} (hl:∀ k,E.n0≤(pe k).st.hp.length):∀ (x:X),M.sat F ν (x.couts E.n0 pe tys ks) (fun r=>∃ i as,zhD (x.sel ν).1 ks=some i∧FitsTo ν E (pe (x.sel ν).1) (x.sel ν).2 as ∧
  PEq ν ν (.i::tys) (.z i::as) r)
 | .done k s=>by
  unfold X.couts
  refine zaa (zad (Q:=fun i=>zhD k ks=some i) fun a h=>h) fun i hi=>?_
  dsimp only
  generalize hg:zdM tys.length (pe k).st s=g
  have hgl:g.1.length=tys.length:=by rw [←hg];exact zeE _ _ _
  refine zae (fun hc=>?_) (fun _=>zac)
  simp only [Bool.and_eq_true] at hc
  exact zab ⟨i,g.1,hi,zou hc.1 hc.2 (hl k),Ty.eqAt_refl _ _,PEq.refl hgl⟩
 | .br c x y=>by
  unfold X.couts
  refine zaa (zju hl x) fun a ha=>zaa (zju hl y) fun b hb=>zah (zcR _ _ _) fun r hr=>?_
  simp only [X.sel]
  by_cases hc:c.bool ν=true
  ·simp only [hc,if_true]
   obtain ⟨i,as,e1,e2,e3⟩:=ha
   exact ⟨i,as,e1,e2,e3.trans (hr.1 hc)⟩
  ·have hc':c.bool ν=false:=by simpa using hc
   simp only [hc',Bool.false_eq_true,if_false]
   obtain ⟨i,as,e1,e2,e3⟩:=hb
   exact ⟨i,as,e1,e2,e3.trans (hr.2 hc')⟩
structure RoundOK (P:Program) (ν:Nat→DV) (E:Env) (b:Code) (p:Pat) (sx:St) (r:Round):Prop where
 run:∀ ρ a w,RR ν E ρ ⟨sx,[]⟩ a w→b.wp P (XPost ν E r.x) a w
 cond:r.c.bool ν=(r.x.sel ν).1.isNormal
 next:(r.x.sel ν).1.isNormal=true→FitsTo ν E p (r.x.sel ν).2 r.nx
 out:(r.x.sel ν).1.isNormal=false→∃ (i:Nat) (as:List A),r.ks[i]? = some (r.x.sel ν).1∧FitsTo ν E (p.at r.als (r.x.sel ν).1) (r.x.sel ν).2 as∧PEq ν ν (.i::p.tys) (.z i::as) r.outs
theorem zov {ν:Nat→DV} {ev:St→M X} {b:Code} {p:Pat} {sx:St} (hl:E.n0≤p.st.hp.length) (hev:M.sat F ν (ev sx) (fun x=>∀ ρ a w,RR ν E ρ ⟨sx,[]⟩ a w→b.wp P (XPost ν E x) a w)) :
  M.sat F ν (znS E.n0 ev p sx) (RoundOK P ν E b p sx):=by
 unfold znS
 refine zaa hev fun x hx=>zaa (zgL x) fun c hc=>zaa (zjq (E:=E) x) fun o ho=>?_
 have hnx:M.sat F ν (zuI E.n0 p o) (fun nx=>(x.sel ν).1.isNormal=true→FitsTo ν E p (x.sel ν).2 nx):=by
  cases o with
  | none=>exact zab fun hn=>by obtain ⟨s,hs,_⟩:=ho hn;cases hs
  | some so =>
   unfold zuI
   dsimp only
   refine zae (fun hc=>?_) (fun _=>zac)
   simp only [Bool.and_eq_true] at hc
   refine zab fun hn ρ a w h=>?_
   obtain ⟨s,hs,h2⟩:=ho hn
   cases hs
   obtain ⟨ρ',h3⟩:=h2 ρ a w h
   exact zou hc.1 hc.2 hl ρ' a w h3
 refine zaa hnx fun nx hnx=>?_
 cases hz:x.kill with
 | none=>exact zac
 | some z =>
  unfold zph
  refine zaa (zju (pe:=p.at (z.als p)) (ks:=z.kinds) (fun _=>hl) z) fun outs houts=>zab ⟨hx,hc,hnx,fun hn=>?_⟩
  obtain ⟨z',hz',hsel⟩:=zeQ x hn
  rw [hz] at hz'
  cases hz'
  obtain ⟨i,as,e1,e2,e3⟩:=houts
  simp only
  rw [←hsel]
  exact ⟨i,as,zjt e1,e2,e3⟩
theorem zrL {ν:Nat→DV} {ka:A} {sf:K→St} : ∀ (ks:List K) (i:Nat),M.sat F ν (K.toX ka sf i ks) (fun x=>∀ j k,ks[j]? = some k→ka.int ν=((i+j:Nat):Int)→x.sel ν=(k,sf k))
 | [],i=>zac
 | [k],i=>zab fun j k' hk _=>by
  cases j with
  | zero=>simp at hk;subst hk;rfl
  | succ j=>simp at hk
 | k::k2::l,i=>by
  unfold K.toX
  refine zaa (zag (Q:=fun r=>r.bool ν=(ka.int ν==(i:Int))) fun r h=>A.bool_of_den h) fun e he=>zaa (zrL (k2::l) (i+1)) fun r hr=>zab fun j k' hk hka=>?_
  simp only [X.sel,he]
  cases j with
  | zero =>
   simp at hk;subst hk
   have:(ka.int ν==(i:Int))=true:=by simpa using hka
   simp [this]
  | succ j =>
   have hne:(ka.int ν==(i:Int))=false:=by rw [hka];simp;omega
   simp only [hne,Bool.false_eq_true,if_false]
   exact hr j k' (by simpa using hk) (by rw [hka];congr 1;omega)
theorem zpC {ν:Nat→DV} {l:LR} : M.sat F ν (obLp l) (fun _=>zaB F l):=by
 intro n u n' e d h _ hd
 unfold obLp at h
 simp only [Option.some.injEq,Prod.mk.injEq] at h
 obtain ⟨_,_,_,rfl⟩:=h
 exact hd (.lp l) (by simp)
theorem zm6 {ν:Nat→DV} : ∀ (ls:List LR),M.sat F ν (ztj ls) (fun _=>∀ l∈ls,zaB F l)
 | []=>zab fun l hl=>by cases hl
 | l::r=>by
  unfold ztj
  refine zaa zpC fun _ h1=>zah (zm6 r) fun _ h2 x hx=>?_
  rcases List.mem_cons.1 hx with rfl | hx
  ·exact h1
  ·exact h2 x hx
structure AtOK (F:FEnv) (ν:Nat→DV) (pe:K→Pat) (l:LR) (args:List A) (ks:List K) (x:X):Prop where
 pre:((F l.fid (args.map (A.den ν))).getD 0 default).toB=true
 out:∃ (os:List A) (ka:A),(∀ (j:Nat) (k:K),ks[j]? = some k→ka.int ν=(j:Int)→x.sel ν=(k,(pe k).st.inst os)) ∧
  (∀ vs:List DV,vs.length=l.outs.length→(F l.fid (args.map (A.den ν))).drop 1=vs→(ka::os).map (A.den ν)=vs)
theorem zm7 {ν:Nat→DV} {pe:K→Pat} {ins:List A} {l:LR} {ks:List K} :
  M.sat F ν (zlx l.fid pe ins l ks) (AtOK F ν pe l (l.inv.map A.r++ins) ks):=by
 unfold zlx
 dsimp only
 refine zaa (zag (Q:=fun r=>r.den ν=(F l.fid ((l.inv.map A.r++ins).map (A.den ν))).getD 0 default) fun r h=>h) fun q hq=>?_
 refine zaa (zbk (Q:=fun _=>q.bool ν=true) fun h=>h) fun _ hpre=>?_
 refine zaa (zeD l.outs.length 1) fun os hos=>?_
 refine zae (fun _=>zac) (fun hne=>?_)
 have hout:l.outs≠[]:=fun h=>hne (by rw [h];rfl)
 refine zah (zrL ks 0) fun x hx=>⟨by rw [←hq];exact hpre,os.tail,os.headD default,fun j k hk hka=>hx j k hk (by simpa using hka),fun vs hvl hvs=>?_⟩
 have hall:os.map (A.den ν)=vs:=by
  apply List.ext_getElem?
  intro i
  by_cases hi:i<os.length
  ·rw [List.getElem?_map,List.getElem?_eq_getElem hi]
   simp only [Option.map_some]
   rw [hos.2 i _ (List.getElem?_eq_getElem hi),←hvs,List.getElem?_drop]
   have hlen:1+i<(F l.fid ((l.inv.map A.r++ins).map (A.den ν))).length:=by
    have:=congrArg List.length hvs
    simp only [List.length_drop] at this
    have:=hos.1
    omega
   rw [List.getD_eq_getElem?_getD,List.getElem?_eq_getElem hlen]
   rfl
  ·rw [List.getElem?_eq_none (by simpa using hi),List.getElem?_eq_none (by have:=hos.1;omega)]
 cases os with
 | nil=>exact absurd (List.eq_nil_of_length_eq_zero (by simpa using hos.1.symm)) hout
 | cons o os=>exact hall
theorem zm8 {ν:Nat→DV} {ev:St→M X} {b:Code} {fid:Nat} {lh:LH} {p:Pat} {s:St}
  (hev:∀ (ν':Nat→DV) (s':St),M.sat F ν' (ev s') (fun x=>∀ ρ a w,RR ν' E ρ ⟨s',[]⟩ a w→b.wp P (XPost ν' E x) a w)) :
  M.sat F ν (ziC E.n0 ev fid lh p s) (fun z=>∀ ρ a w,RR ν E ρ ⟨s,[]⟩ a w→zbg P b (XPost ν E z) a w):=by
 intro n z n' e' d' h hsat hob
 unfold ziC at h
 dsimp only at h
 generalize hk0:p.tys.length=k at h
 generalize hg:zdM k p.st s=g at h
 have hgl:g.1.length=k:=by rw [←hg];exact zeE _ _ _
 split at h
 ·cases h
 rename_i r _ e d hround
 generalize hl:lrOf fid n k e d r p.tys lh=l at h
 have l1:l.fid=fid:=by subst hl;rfl
 have l2:l.n=n:=by subst hl;rfl
 have l3:l.k=k:=by subst hl;rfl
 have l4:l.nodes=e:=by subst hl;rfl
 have l5:l.owes=zh0 d:=by subst hl;rfl
 have l6:l.c=r.c:=by subst hl;rfl
 have l7:l.nx=r.nx:=by subst hl;rfl
 have l8:l.outs=r.outs:=by subst hl;rfl
 have l9:l.ts=p.tys:=by subst hl;rfl
 clear hl
 split at h
 rotate_left
 ·cases h
 rename_i hchk
 simp only [Bool.and_eq_true] at hchk
 obtain ⟨⟨⟨⟨⟨⟨hsub,hkeep⟩,hn0⟩,hty⟩,hwf⟩,hnxlen⟩,htye⟩:=hchk
 have hnxlen:=Nat.eq_of_beq_eq_true hnxlen
 have hn0:=Nat.le_of_ble_eq_true hn0
 -- what a round says, whatever goes round
 have hrnd:∀ xs:List DV,xs.length=k→(∀ q∈l.owes,Nd.holds (l.env F ν xs) q)→(∀ q∈zg2 d,zaB F q)→RoundOK P (l.env F ν xs) E b p (p.st.inst (zal n k)) r:=by
  intro xs hx ho hlp
  obtain ⟨_,_,hS⟩:=LR.env_spec (F:=F) (l:=l) ν (xs:=xs) (by rw [l3];exact hx) (by rw [l2,l3,l4];exact hwf)
  refine zov hn0 (hev (l.env F ν xs) (p.st.inst (zal n k))) (n+k) r _ e d hround (by rw [←l4];exact hS) ?_
  have key:∀ (d:List Ob),(∀ q∈zh0 d,Nd.holds (l.env F ν xs) q)→(∀ q∈zg2 d,zaB F q)→∀ q∈d,Ob.holds F (l.env F ν xs) q:=by
   intro d
   induction d with
   | nil=>intro _ _ q hq;cases hq
   | cons o d ih =>
    intro h1 h2 q hq
    cases o with
    | nd o =>
     rcases List.mem_cons.1 hq with rfl | hq
     ·exact h1 o (by simp [zh0])
     ·exact ih (fun q hq=>h1 q (by simp [zh0,hq])) h2 q hq
    | lp o =>
     rcases List.mem_cons.1 hq with rfl | hq
     ·exact h2 o (by simp [zg2])
     ·exact ih h1 (fun q hq=>h2 q (by simp [zg2,hq])) q hq
  exact key d (by rw [←l5];exact ho) hlp
 have hmain:M.sat F ν (lrGo fid (p.at r.als) g.1 d l r.ks) (fun x=>(∀ q∈zg2 d,zaB F q)∧zaB F l∧AtOK F ν (p.at r.als) l (l.inv.map A.r++g.1) r.ks x):=by
  unfold lrGo
  refine zaa (zm6 (zg2 d)) fun _ h1=>zaa zpC fun _ h2=>?_
  rw [←l1]
  exact zah zm7 fun x hx=>⟨h1,h2,hx⟩
 obtain ⟨hlps,⟨μ,hμ⟩,hA⟩:=hmain n z n' e' d' h hsat hob
 intro ρ a w hrr
 have hids:∀ xs:List DV,xs.length=k→(zal n k).map (A.den (l.env F ν xs))=xs:=by
  intro xs hx
  obtain ⟨_,h2,_⟩:=LR.env_spec (F:=F) (l:=l) ν (xs:=xs) (by rw [l3];exact hx) (by rw [l2,l3,l4];exact hwf)
  rw [zcP (fun i=>xs.getD i default) k n 0 (fun i hi=>by rw [←l2,h2 i (by rw [l3];exact hi)];simp)]
  exact zkw xs k hx
 have hold:∀ xs:List DV,xs.length=k→∀ i,i<n→l.env F ν xs i=ν i:=by
  intro xs hx
  obtain ⟨h1,_,_⟩:=LR.env_spec (F:=F) (l:=l) ν (xs:=xs) (by rw [l3];exact hx) (by rw [l2,l3,l4];exact hwf)
  intro i hi;exact h1 i (by rw [l2];exact hi)
 -- the loop, from a round's head
 have main:∀ (m:Nat) (xs:List DV),xs.length=k→μ (l.inv.map ν++xs)<m→((F l.fid (l.inv.map ν++xs)).getD 0 default).toB=true →
   F l.fid (l.inv.map ν++xs)=F l.fid ((l.inv.map A.r++g.1).map (A.den ν)) →
   ∀ ρ a w,RR (l.env F ν xs) E ρ ⟨p.st.inst (zal n k),[]⟩ a w→zbg P b (XPost ν E z) a w:=by
  intro m
  induction m with
  | zero=>intro xs _ h;omega
  | succ m ih =>
   intro xs hx hm hpre hF ρ a w hrr
   obtain ⟨g1,g2,g3⟩:=hμ ν xs (by rw [l3];exact hx) hpre
   have hr:=hrnd xs hx g1 hlps
   refine zbg.step (wp_mono (hr.run ρ a w hrr) fun e a' w' hp=>?_)
   obtain ⟨hk',ρ',hr'⟩:=hp
   cases hn:(r.x.sel (l.env F ν xs)).1.isNormal with
   | true =>
    have he:=K.is_normal hk' hn
    subst he
    have hc:l.c.bool (l.env F ν xs)=true:=by rw [l6,hr.cond,hn]
    obtain ⟨h1,h2,h3⟩:=g2 hc
    have hxs':(l.nx.map (A.den (l.env F ν xs))).length=k:=by rw [l7];simpa using hnxlen
    obtain ⟨ρ2,hr2⟩:=hr.next hn ρ' a' w' hr'
    refine ih _ hxs' (by omega) h1 (h2.trans hF) ρ2 a' w' ?_
    refine RR.inst (p:=A.below n) (fun x hx2=>A.den_congr (n:=n) (fun i hi=>by rw [hold xs hx i hi,hold _ hxs' i hi]) hx2) (PEq.of_den (by rw [hk0];exact hnxlen) ?_) hty hr2
    rw [hids _ hxs',l7]
   | false =>
    have hne:=K.is_not hk' hn
    have hc:l.c.bool (l.env F ν xs)=false:=by rw [l6,hr.cond,hn]
    have hF2:=g3 hc
    obtain ⟨i,as,h1,h2,h3⟩:=hr.out hn
    obtain ⟨os,ka,f4,f5⟩:=hA.out
    rw [hF] at hF2
    have f6:=f5 _ (by simpa using hF2.len) rfl
    rw [←f6,l9,l8] at hF2
    have h4:PEq (l.env F ν xs) ν (.i::p.tys) r.outs (ka::os):=PEq.of_teq hF2
    have h5:=h3.trans h4
    have hka:ka.int ν=(i:Int):=h5.1.symm
    have hsel:=f4 i _ h1 hka
    have hpost:XPost ν E z e a' w':=by
     unfold XPost
     rw [hsel]
     obtain ⟨ρ2,hr2⟩:=h2 ρ' a' w' hr'
     exact ⟨hk',ρ2,RR.inst (p:=A.below n) (fun x hx2=>A.den_congr (n:=n) (fun i hi=>hold xs hx i hi) hx2) h5.2 (List.all_eq_true.1 htye _ (List.mem_of_getElem? h1)) hr2⟩
    cases e<;>first | exact absurd rfl hne | exact hpost
 have hx0:(g.1.map (A.den ν)).length=k:=by simpa using hgl
 have harg:(l.inv.map A.r++g.1).map (A.den ν)=l.inv.map ν++g.1.map (A.den ν):=by
  rw [List.map_append,List.map_map]
  rfl
 obtain ⟨ρ2,hr2⟩:=zou (ν:=ν) (E:=E) (p:=p) hsub hkeep hn0 ρ a w hrr
 refine main (μ (l.inv.map ν++g.1.map (A.den ν))+1) (g.1.map (A.den ν)) hx0 (by omega) (by rw [←harg];exact hA.pre) (by rw [harg]) ρ2 a w ?_
 refine RR.inst (p:=A.below n) (fun x hx2=>A.den_congr (n:=n) (fun i hi=>(hold _ hx0 i hi).symm) hx2) (PEq.of_den (by rw [hk0];exact hgl) ?_) hty hr2
 rw [hids _ hx0]
theorem zm9 {ν:Nat→DV} {ev:St→M X} {b:Code} {fid:Nat} {D:List Nat} {lh:LH} {s:St}
  (hev:∀ (ν':Nat→DV) (s':St),M.sat F ν' (ev s') (fun x=>∀ ρ a w,RR ν' E ρ ⟨s',[]⟩ a w→b.wp P (XPost ν' E x) a w)) :
  M.sat F ν (zpi E.n0 ev fid D lh s) (fun z=>∀ ρ a w,RR ν E ρ ⟨s,[]⟩ a w→zbg P b (XPost ν E z) a w):=by
 intro n z n' e' d' h hsat hob
 unfold zpi at h
 exact zm8 hev n z n' e' d' h hsat hob
theorem zl1 {ν:Nat→DV} {ev:St→M X} {b:Code} {fid:Nat} {D:List Nat} {mat:List (Nat×List LT)} {s:St}
  (hev:∀ (ν':Nat→DV) (s':St),M.sat F ν' (ev s') (fun x=>∀ ρ a w,RR ν' E ρ ⟨s',[]⟩ a w→b.wp P (XPost ν' E x) a w)) :
  M.sat F ν (zrj E.n0 ev fid D mat s) (fun z=>∀ ρ a w,RR ν E ρ ⟨s,[]⟩ a w→zbg P b (XPost ν E z) a w):=by
 intro n z n' e' d' h hsat hob
 unfold zrj at h
 exact zm9 hev n z n' e' d' h hsat hob
theorem zkU {α:Type} {p:α→Bool} : ∀ {l:List (Option α)} {i:Nat} {v:α},l.all (zao p)=true→nth l i=some v→p v=true
 | [],i,v,_,h=>by cases i<;>cases h
 | x::r,0,v,h,hv=>by
  simp only [List.all_cons,Bool.and_eq_true] at h
  have:x=some v:=hv
  subst this
  exact h.1
 | x::r,i+1,v,h,hv=>by
  simp only [List.all_cons,Bool.and_eq_true] at h
  exact zkU h.2 hv
theorem zqv {ν:Nat→DV} {i:Nat} {ts:List LT} {s:St} : M.sat F ν (znT i ts s) (fun s1=>∀ ρ a w,RR ν E ρ ⟨s,[]⟩ a w→∃ ρ',RR ν E ρ' ⟨s1,[]⟩ a w):=by
 unfold znT
 split
 ·rename_i l hl
  refine zae (fun hc=>?_) (fun _=>zab fun ρ a w h=>⟨ρ,h⟩)
  simp only [Bool.and_eq_true] at hc
  refine zaa (zdw fun w=>zcp (E:=E) (w:=w) _ _ _) fun q hq=>?_
  split
  ·rename_i l' hl'
   refine zab fun ρ a w h=>?_
   have hn:=zhk hc.1.1
   obtain ⟨h1,h2,h3,h4,ρ',h5,h6,h7⟩:=hq w ρ h.hs hc.1.2 (by subst hn;rfl) (fun y hy=>by
    rcases List.mem_cons.1 hy with rfl | hy
    ·subst hn;trivial
    ·cases hy)
   rw [hl'] at h7 h3
   have h7:l'.conc ν ρ'=l.conc ν ρ:=by simpa using h7
   have hg:l'.good ν:=h3 l' (by simp)
   refine ⟨ρ',⟨h.act.defers,by rw [h.act.size];exact (zai _ _ _).symm,fun t v hv=>?_,fun e he=>by cases he⟩,h6⟩
   by_cases ht:t=i
   ·subst ht
    have h8:=h.act.slot t _ hl
    have hv:nth (zat (some (V.s (.one l'))) s.sl t) t=some v:=hv
    rw [zaq] at hv
    split at hv
    ·cases hv
     exact ⟨V1.good_one.2 hg,by rw [h8.2];exact congrArg some h7.symm⟩
    ·cases hv
   ·have hv:nth (zat (some (V.s (.one l'))) s.sl i) t=some v:=hv
    rw [zau _ _ _ _ (fun hc=>ht hc.symm)] at hv
    have h8:=h.act.slot t _ hv
    have hlt:v.lt s.hp.length=true:=zkU hc.2 hv
    exact ⟨h8.1,by rw [h8.2,V.conc_low hlt h5]⟩
  ·exact zac
 ·exact zab fun ρ a w h=>⟨ρ,h⟩
theorem zjv {ν:Nat→DV} : ∀ {h:List (Nat×List LT)} {s:St},M.sat F ν (zgp h s) (fun s1=>∀ ρ a w,RR ν E ρ ⟨s,[]⟩ a w→∃ ρ',RR ν E ρ' ⟨s1,[]⟩ a w)
 | [],s=>zab fun ρ a w h=>⟨ρ,h⟩
 | (i,ts)::r,s=>zaa zqv fun s1 h1=>zah (zjv (h:=r) (s:=s1)) fun s2 h2 ρ a w h=>by
  obtain ⟨ρ',h3⟩:=h1 ρ a w h
  exact h2 ρ' a w h3
theorem zna {ν:Nat→DV} {ev:St→M X} {b:Code} {fid:Nat} {D:List Nat} {lh:Option LH} {s:St}
  (hev:∀ (ν':Nat→DV) (s':St),M.sat F ν' (ev s') (fun x=>∀ ρ a w,RR ν' E ρ ⟨s',[]⟩ a w→b.wp P (XPost ν' E x) a w)) :
  M.sat F ν (zpk E.n0 ev fid D lh s) (fun z=>∀ ρ a w,RR ν E ρ ⟨s,[]⟩ a w→zbg P b (XPost ν E z) a w):=by
 intro n z n' e' d' h hsat hob
 have key:∀ {f:St→M X} (hs:List (Nat×List LT)),(∀ s1,M.sat F ν (f s1) (fun z=>∀ ρ a w,RR ν E ρ ⟨s1,[]⟩ a w→zbg P b (XPost ν E z) a w)) →
   M.sat F ν (do let s1 ←zgp hs s;f s1) (fun z=>∀ ρ a w,RR ν E ρ ⟨s,[]⟩ a w→zbg P b (XPost ν E z) a w):=fun hs hf =>
  zaa zjv fun s1 h1=>zah (hf s1) fun z hz ρ a w hr=>by
   obtain ⟨ρ',h3⟩:=h1 ρ a w hr
   exact hz ρ' a w h3
 unfold zpk at h
 split at h
 ·exact key _ (fun s1=>zm9 hev) n z n' e' d' h hsat hob
 ·split at h
  ·exact zfe (key _ fun s1=>zl1 hev) (zl1 hev) n z n' e' d' h hsat hob
  ·exact zl1 hev n z n' e' d' h hsat hob
theorem zrM {α:Type} {ν:Nat→DV} {x:M α} {Q:α→Prop} (h:M.sat F ν x Q):M.sat F ν (M.opt x) (fun o=>∀ a,o=some a→Q a):=by
 intro n a n' e d h1 h2 h3
 unfold M.opt at h1
 cases hx:x n with
 | some r =>
  obtain ⟨b,n1,e1,d1⟩:=r
  rw [hx] at h1
  simp only [Option.some.injEq,Prod.mk.injEq] at h1
  obtain ⟨rfl,rfl,rfl,rfl⟩:=h1
  intro c hc
  cases hc
  exact h n b n1 e1 d1 hx h2 h3
 | none =>
  rw [hx] at h1
  simp only [Option.some.injEq,Prod.mk.injEq] at h1
  obtain ⟨rfl,_⟩:=h1
  intro c hc
  cases hc
theorem zf5 {ops:Array Oper} {Q Q':Exit→Act→World→Prop} (h:∀ e a w,Q e a w→Q' e a w):∀ (l:List Oper) (a:Act) (w:World),wpList P ops Q l a w→wpList P ops Q' l a w
 | [],a,w,hh=>h _ _ _ hh
 | o::l,a,w,hh=>by
  simp only [wpList] at hh ⊢
  split
  ·rename_i hw
   rw [if_pos hw] at hh
   exact zd1 (zf5 h l) (fun e a w _=>h e a w) hh
  ·rename_i hw
   rw [if_neg hw] at hh
   exact zf5 h l _ _ hh
theorem zgM {r:RS} : ∀ {n d:Nat} {g:Nat×A},zgo r n d=some g→nth r.st.sl g.1=some (.s (.one (.b g.2)))
 | 0,_,_,h=>by cases h
 | n+1,d,g,h=>by
  unfold zgo at h
  split at h
  ·rename_i a ha
   cases h
   exact ha
  ·cases h
  ·split at h
   ·exact zgM h
   ·cases h
theorem zkV {ν:Nat→DV} {ρ:Nat→Loc} {d:Nat} {b:Bool} {a:Act} (hd:a.tmps[d]? = some (.bool b)):∀ (gl:List GE) (sl:List (Option V)),
  (∀ e∈gl,(a.tmps[e.d]? = some (.bool e.want)→e.v.good ν∧a.tmps[e.t]? = some (e.v.conc ν ρ))∧(a.tmps[e.d]?≠some (.bool e.want)→a.tmps[e.t]? = some undef)) →
  (∀ t v,nth sl t=some v→v.good ν∧a.tmps[t]? = some (v.conc ν ρ)) →
  (zpX d b gl sl).1.length=sl.length∧(∀ t v,nth (zpX d b gl sl).1 t=some v→v.good ν∧a.tmps[t]? = some (v.conc ν ρ)) ∧
  (∀ e∈(zpX d b gl sl).2,(a.tmps[e.d]? = some (.bool e.want)→e.v.good ν∧a.tmps[e.t]? = some (e.v.conc ν ρ))∧(a.tmps[e.d]?≠some (.bool e.want)→a.tmps[e.t]? = some undef))
 | [],sl,_,h2=>⟨rfl,h2,fun e he=>by cases he⟩
 | e::l,sl,h1,h2=>by
  obtain ⟨k1,k2,k3⟩:=zkV hd l sl (fun x hx=>h1 x (List.mem_cons_of_mem _ hx)) h2
  unfold zpX
  dsimp only
  split
  ·rename_i he
   have he:=Nat.eq_of_beq_eq_true he
   dsimp only
   refine ⟨?_,fun t v hv=>?_,k3⟩
   ·split
    ·rw [zai];exact k1
    ·exact k1
   ·split at hv
    ·rename_i hc
     by_cases ht:e.t=t
     ·subst ht
      rw [zaq] at hv
      split at hv
      ·split at hv
       ·rename_i hw
        cases hv
        exact (h1 e (by simp)).1 (by rw [he,zcO hw];exact hd)
       ·rename_i hw
        cases hv
        exact ⟨V.good_s.2 (V1.good_one.2 trivial),(h1 e (by simp)).2 (by rw [he,hd];intro hh;cases hh;exact znV hw rfl)⟩
      ·cases hv
     ·rw [zau _ _ _ _ ht] at hv
      exact k2 t v hv
    ·exact k2 t v hv
  ·dsimp only
   refine ⟨k1,k2,fun x hx=>?_⟩
   rcases List.mem_cons.1 hx with rfl | hx
   ·exact h1 x (by simp)
   ·exact k3 x hx
theorem RR.know_rel {ν:Nat→DV} {ρ:Nat→Loc} {r:RS} {a:Act} {w:World} {d:Nat} {c:A} {b:Bool} (h:RR ν E ρ r a w) (hd:nth r.st.sl d=some (.s (.one (.b c)))) (hc:c.bool ν=b):RR ν E ρ (r.know d b) a w:=by
 have h0:a.tmps[d]? = some (.bool b):=by
  rw [(h.act.slot d _ hd).2,←hc]
  rfl
 have hk:=zkV (ν:=ν) (ρ:=ρ) h0 r.gl (zat (some (.s (.one (.b (.t b))))) r.st.sl d) h.act.gl (fun t v hv=>by
  by_cases ht:d=t
  ·subst ht
   rw [zaq] at hv
   split at hv
   ·cases hv
    exact ⟨V.good_s.2 (V1.good_one.2 trivial),h0⟩
   ·cases hv
  ·rw [zau _ _ _ _ ht] at hv
   exact h.act.slot t v hv)
 refine ⟨⟨h.act.defers,?_,hk.2.1,hk.2.2⟩,h.hs⟩
 rw [h.act.size]
 exact (hk.1.trans (zai _ _ _)).symm
theorem zde (hS:SigsOK P I gK S F) (hE:E.Ok gK) (hn0:S.n0=E.n0) (hI:∀ w,Fr E.W E.w0 w→I w) {ν:Nat→DV} {ops:Array Oper} : ∀ (n:Nat) (l:List Oper) (r:RS),
  M.sat F ν (ze3 P S ops.toList n l r) (fun x=>∀ ρ a w,RR ν E ρ r a w→wpList P ops (XPost ν E x) l a w)
 | 0,_,_=>zac
 | _+1,[],r=>zab fun ρ a w h=>⟨trivial,ρ,h.drop⟩
 | n+1,o::l,r=>by
  unfold ze3
  refine zaa (zrM (zdE (E:=E) hS hE hn0 hI false)) fun z hz=>?_
  cases z with
  | some r1 =>
   refine zah (zde hS hE hn0 hI n l r1) fun x hx ρ a w h=>?_
   have:=(hz r1 rfl).1 rfl ρ a w h (wpList P ops (XPost ν E x) l) (XPost ν E x) (fun ρ' a' w' h'=>hx ρ' a' w' h')
   simp only [wpList]
   split
   ·rename_i hw;rw [if_pos hw] at this;exact .inl this
   ·rename_i hw;rw [if_neg hw] at this;exact this
  | none =>
   dsimp only
   split
   ·exact zac
   ·refine zaa zap fun d _=>zaa (zad (Q:=fun g=>zgo r 8 d=some g) fun a h=>h) fun g hg=>zae (fun _=>zac) (fun _=>?_)
    have hs:=zgM hg
    refine zaa (zbt (zde hS hE hn0 hI n (o::l) (r.know g.1 true))) fun x hx=>zaa (zbt (zde hS hE hn0 hI n (o::l) (r.know g.1 false))) fun y hy=>zab fun ρ a w h=>?_
    have hmono:∀ {z:X},(∀ e a w,XPost ν E z e a w→XPost ν E (.br g.2 x y) e a w)→wpList P ops (XPost ν E z) (o::l) a w→wpList P ops (XPost ν E (.br g.2 x y)) (o::l) a w:=fun hz hh=>zf5 hz _ _ _ hh
    cases hb:g.2.bool ν with
    | true=>exact hmono (fun e a w hp=>by unfold XPost at hp ⊢;simp only [X.sel,hb,if_true];exact hp) (hx hb ρ a w (h.know_rel hs hb))
    | false=>exact hmono (fun e a w hp=>by unfold XPost at hp ⊢;simp only [X.sel,hb,Bool.false_eq_true,if_false];exact hp) (hy hb ρ a w (h.know_rel hs hb))
theorem zeR {ν:Nat→DV} : ∀ (l:List (Option V)),M.sat F ν (ze4 l) (fun r=>r.length=l.length∧∀ i v,nth r i=some v→∃ u,nth l i=some u∧(V.good ν u→V.good ν v)∧∀ ρ,v.conc ν ρ=u.conc ν ρ)
 | []=>zab ⟨rfl,fun i v h=>⟨v,h,id,fun _=>rfl⟩⟩
 | some v::l=>by
  unfold ze4
  refine zaa zkB fun u hu=>zaa (zeR l) fun r hr=>zab ⟨by simp [hr.1],fun i x hx=>?_⟩
  cases i with
  | zero=>cases hx;exact ⟨v,rfl,hu.1,hu.2⟩
  | succ i=>exact hr.2 i x hx
 | none::l=>by
  unfold ze4
  refine zaa (zeR l) fun r hr=>zab ⟨by simp [hr.1],fun i x hx=>?_⟩
  cases i with
  | zero=>cases hx
  | succ i=>exact hr.2 i x hx
theorem zdf {ν:Nat→DV} : ∀ (l:List Nat) (hp:List (Option Blk)),M.sat F ν (ze5 l hp) (fun hp'=>∀ ρ w,HS E ν ρ hp w→HS E ν ρ hp' w)
 | [],hp=>zab fun _ _ h=>h
 | b::l,hp=>by
  unfold ze5
  split
  ·exact zae (fun _=>zaa (zi8 (E:=E)) fun hp1 h1=>zah (zdf l hp1) fun hp2 h2 ρ w h=>h2 ρ w (h1.2 ρ w h)) (fun _=>zdf l hp)
  ·exact zdf l hp
theorem znb {ν:Nat→DV} {s:St} : M.sat F ν (zly s) (fun s1=>∀ ρ a w,RR ν E ρ ⟨s,[]⟩ a w→RR ν E ρ ⟨s1,[]⟩ a w):=by
 unfold zly
 refine zae (fun _=>?_) (fun _=>zac)
 refine zaa (zeR _) fun sl hsl=>zaa (zdf (E:=E) _ _) fun hp hhp=>zab fun ρ a w h=>⟨⟨h.act.defers,by rw [h.act.size];exact hsl.1.symm,fun t v ht=>?_,fun e he=>by cases he⟩,hhp ρ w h.hs⟩
 obtain ⟨u,h1,h2,h3⟩:=hsl.2 t v ht
 obtain ⟨g1,g2⟩:=h.act.slot t u h1
 exact ⟨h2 g1,by rw [h3];exact g2⟩
theorem zrN {ν:Nat→DV} {ev:St→M X} {b:Code} {fid:Nat} {D:List Nat} {lh:Option LH} {s:St}
  (hev:∀ (ν':Nat→DV) (s':St),M.sat F ν' (ev s') (fun x=>∀ ρ a w,RR ν' E ρ ⟨s',[]⟩ a w→b.wp P (XPost ν' E x) a w)) :
  M.sat F ν (zrl E.n0 ev fid D lh s) (fun z=>∀ ρ a w,RR ν E ρ ⟨s,[]⟩ a w→zbg P b (XPost ν E z) a w):=by
 unfold zrl
 exact zfe (zna hev) (zaa (znb (E:=E)) fun s1 h1=>zah (zna hev) fun z hz ρ a w h=>hz ρ a w (h1 ρ a w h))
end
end Go.Sx
namespace Go.Sx
open Go.RowKit
section
variable {P:Program} {I:World→Prop} {S:Sigs} {F:FEnv} {E:Env} {gK:Nat}
def znc (P:Program) (ν:Nat→DV) (E:Env) (c:Code) (s:St) (x:X):Prop :=
 ∀ ρ a w,RR ν E ρ ⟨s,[]⟩ a w→c.wp P (XPost ν E x) a w∧∀ b,c = .loop b→zbg P b (XPost ν E x) a w
theorem znc.plain {ν:Nat→DV} {c:Code} {s:St} {x:X} (hc:∀ b,c≠.loop b) (h:∀ ρ a w,RR ν E ρ ⟨s,[]⟩ a w→c.wp P (XPost ν E x) a w):znc P ν E c s x :=
 fun ρ a w hr=>⟨h ρ a w hr,fun b hb=>absurd hb (hc b)⟩
theorem zgN (hS:SigsOK P I gK S F) (hE:E.Ok gK) (hn0:S.n0=E.n0) (hI:∀ w,Fr E.W E.w0 w→I w):∀ (n:Nat) (ν:Nat→DV) (c:Code) (s:St),M.sat F ν (zb2 P S n c s) (znc P ν E c s)
 | 0,_,_,_=>zac
 | n+1,ν,c,s=>by
  have evCode_sat:∀ (hS:SigsOK P I gK S F) (n':Nat) (hn:n'=n) (c:Code) (s:St),M.sat F ν (zb2 P S n' c s) (fun x=>∀ ρ a w,RR ν E ρ ⟨s,[]⟩ a w→c.wp P (XPost ν E x) a w) :=
   fun hS n' hn c s=>by subst hn;exact zah (zgN hS hE hn0 hI n' ν c s) fun x hx ρ a w h=>(hx ρ a w h).1
  have plain:∀ {x:M X} {Q:X→Prop},(∀ b,c≠.loop b)→M.sat F ν x (fun z=>∀ ρ a w,RR ν E ρ ⟨s,[]⟩ a w→c.wp P (XPost ν E z) a w)→M.sat F ν x (znc P ν E c s) :=
   fun hc h=>zah h fun z hz=>znc.plain hc hz
  cases c<;>simp only [zb2,hn0]
  case loop c =>
   refine zaa (evCode_sat hS n rfl c s) fun u hu=>?_
   refine zah (zf2 (_G:=fun _=>True) (N:=fun Q a w=>zbg P c Q a w) (fun s'=>zah (zgN hS hE hn0 hI n ν (.loop c) s') fun x hx ρ a w h=>(hx ρ a w h).2 c rfl) (fun Q Q' a w h hw=>zbg.mono h hw)) fun z hz ρ a w h=>?_
   have:=zbg.step (wp_mono (hu ρ a w h) hz)
   exact ⟨this.wp,fun b hb=>by cases hb;exact this⟩
  all_goals refine plain (Q:=fun _=>True) (fun b=>by simp) ?_
  case skip=>exact zab fun ρ a w h=>wp_skip ⟨trivial,ρ,h⟩
  case label l=>exact zab fun ρ a w h=>wp_label ⟨trivial,ρ,h⟩
  case region id ops draw =>
   refine zaa (zrM (zm5 (E:=E) (id:=id) hS hE hn0 hI)) fun z hz=>?_
   cases z with
   | some s'=>exact zab fun ρ a w h=>hz s' rfl ρ a w h _ fun ρ' a' w' h'=>⟨trivial,ρ',h'⟩
   | none =>
    refine zae (fun _=>zac) (fun hd=>?_)
    have hd:draw=false:=by simpa using hd
    subst hd
    exact zah (zde (E:=E) hS hE hn0 hI (ops:=ops) _ ops.toList ⟨s,[]⟩) fun x hx ρ a w h=>wp_region_list (hx ρ a w h)
  case seq x y =>
   refine zaa (evCode_sat hS n rfl x s) fun u hu=>?_
   refine zah (zf2 (_G:=fun _=>True) (N:=fun Q a w=>y.wp P Q a w) (fun s'=>evCode_sat hS n rfl y s') (fun Q Q' a w h hw=>wp_mono hw h)) fun z hz ρ a w h=>?_
   exact wp_seq (wp_mono (hu ρ a w h) hz)
  case cond c x y =>
   refine zaa (zad (Q:=fun v=>rd ⟨s,[]⟩ [] c=some v) fun a h=>h) fun v hv=>?_
   split
   ·rename_i b
    have hread:∀ ρ a w,RR ν E ρ ⟨s,[]⟩ a w→a.eval c = .bool (b.bool ν):=fun ρ a w h=>(zaj h.act (fun p hp=>by simp at hp) hv).2
    split
    ·exact zah (evCode_sat hS n rfl x s) fun u hu ρ a w h=>wp_cond_true (hread ρ a w h) (hu ρ a w h)
    ·exact zah (evCode_sat hS n rfl y s) fun u hu ρ a w h=>wp_cond_false (hread ρ a w h) (hu ρ a w h)
    ·refine zae (fun _=>?_) (fun _=>zae (fun _=>?_) (fun _=>?_))
     ·refine zaa zex fun q hq=>zaa (zbk (Q:=fun _=>b.bool ν=false) fun h=>by rw [hq] at h;simpa using h) fun _ hb=>?_
      exact zah (evCode_sat hS n rfl y s) fun u hu ρ a w h=>wp_cond_false (by rw [hread ρ a w h,hb]) (hu ρ a w h)
     ·refine zaa (zbk (Q:=fun _=>b.bool ν=true) fun h=>h) fun _ hb=>?_
      exact zah (evCode_sat hS n rfl x s) fun u hu ρ a w h=>wp_cond_true (by rw [hread ρ a w h,hb]) (hu ρ a w h)
     refine zaa (zbt (evCode_sat hS n rfl x s)) fun u hu=>zaa (zbt (evCode_sat hS n rfl y s)) fun v hv=>zab fun ρ a w h=>?_
     refine wp_cond_split (hread ρ a w h) (fun hb=>wp_mono (hu hb ρ a w h) fun e a w hp=>?_) (fun hb=>wp_mono (hv hb ρ a w h) fun e a w hp=>?_)
     ·unfold XPost at hp ⊢
      simp only [X.sel,hb,if_true];exact hp
     ·unfold XPost at hp ⊢
      simp only [X.sel,hb];exact hp
   ·exact zac
  case block id c =>
   have hblk:∀ {x:M X},M.sat F ν x (fun u=>∀ ρ a w,RR ν E ρ ⟨s,[]⟩ a w→c.wp P (XPost ν E u) a w) →
     M.sat F ν (do pure ((←x).inBlock id):M X) (fun z=>∀ ρ a w,RR ν E ρ ⟨s,[]⟩ a w→(Code.block id c).wp P (XPost ν E z) a w):=by
    intro x hx
    refine zaa hx fun u hu=>zab fun ρ a w h=>wp_block (wp_mono (hu ρ a w h) fun e a w hp=>?_)
    obtain ⟨hk,ρ',hr⟩:=hp
    have hpost:∀ e',((u.sel ν).1.inBlock id).is e'→XPost ν E (u.inBlock id) e' a w:=fun e' he'=>by
     unfold XPost
     rw [zf3]
     exact ⟨he',ρ',hr⟩
    generalize hkk:(u.sel ν).1=k at *
    cases k<;>cases e<;>simp only [K.is] at hk<;>first | exact hk.elim | skip
    ·exact hpost .normal trivial
    ·exact hpost .ret trivial
    ·rename_i i j
     subst hk
     simp only [Exit.inBlock]
     by_cases hij:i=id
     ·rw [if_pos hij];exact hpost .normal (by subst hij;simp [K.inBlock,K.is])
     ·rw [if_neg hij];exact hpost (.exit i) (by simp [K.inBlock,K.is,hij])
    ·subst hk;exact hpost _ rfl
   split
   ·split
    ·rename_i fid _ b
     refine hblk (zah (zrN (E:=E) (b:=b) fun ν' s'=>zah (zgN hS hE hn0 hI n ν' b s') fun x hx ρ a w h=>(hx ρ a w h).1) fun z hz ρ a w h=>(hz ρ a w h).wp)
    ·exact hblk (evCode_sat hS n rfl c s)
   ·exact hblk (evCode_sat hS n rfl c s)
  case exit id=>exact zab fun ρ a w h=>wp_exit ⟨rfl,ρ,h⟩
  case goto l=>exact zab fun ρ a w h=>wp_goto ⟨rfl,ρ,h⟩
  case scope c =>
   refine zaa (evCode_sat hS n rfl c s) fun u hu=>zae (fun hg=>zab fun ρ a w h=>wp_scope_straight (wp_mono (hu ρ a w h) fun e a w hp=>?_))
    (fun _=>zah (zjr (E:=E) (fun c s=>evCode_sat hS n rfl c s) c 16 u) fun z hz ρ a w h=>zfg.wp (.of_wp (wp_mono (hu ρ a w h) hz)))
   cases e<;>first | exact hp | skip
   rename_i l
   have:=hp.1
   have hng:=zff (ν:=ν) u hg l
   generalize (u.sel ν).1=k at *
   cases k<;>simp only [K.is] at this
   subst this
   exact absurd rfl hng
  case ret=>exact zab fun ρ a w h=>wp_ret ⟨trivial,ρ,h⟩
  all_goals exact zac
end
end Go.Sx
namespace Go.Sx
open Go.RowKit
section
variable {P:Program} {I:World→Prop} {S:Sigs} {F:FEnv} {E:Env} {gK:Nat} {ν:Nat→DV}
def zgO:List Value→Value
 | [v]=>v
 | l=>.tuple l.toArray
theorem zei (l:List V1) (ρ:Nat→Loc):(zdK l).conc ν ρ=zgO (l.map (V1.conc ν ρ))∧((∀ x∈l,V1.good ν x)→(zdK l).good ν):=by
 unfold zdK zgO
 match l with
 | []=>exact ⟨rfl,fun _=>by simp [V.good]⟩
 | [v]=>exact ⟨rfl,fun h=>h v (by simp)⟩
 | v::u::r=>exact ⟨rfl,fun h=>h⟩
def resM (tmps:Array Value):ResultVar→Sem Value
 | .tmp t=>pure (tmps.getD t undef)
 | .cell p t=>do loadVar t (←asAddr (tmps.getD p undef))
theorem znd (fn:Func) (tmps:Array Value):results fn tmps=(do let vs ←fn.results.mapM (resM tmps);pure (if h:vs.size=1 then vs[0] else .tuple vs)):=by
 unfold results
 congr 2
theorem zjw {s:St} : ∀ (l:List ResultVar),M.sat F ν (zpY P s l) (fun vs=>∀ ρ a w,ARel ν ρ ⟨s,[]⟩ a→HRel E ν ρ s.hp w →
  (∀ v∈vs,V1.good ν v)∧(l.mapM (resM a.tmps)).run P w = .ok (vs.map (V1.conc ν ρ)) w)
 | []=>zab fun ρ a w _ _=>⟨by simp,rfl⟩
 | .tmp t::l=>by
  unfold zpY
  refine zaa (zad (Q:=fun v=>nth s.sl t=some v) fun a h=>h) fun v hv=>?_
  split
  ·rename_i v1
   refine zaa (zjw l) fun vs hvs=>zab fun ρ a w ha hh=>?_
   obtain ⟨h1,h2⟩:=hvs ρ a w ha hh
   obtain ⟨g1,g2⟩:=ha.slot t _ hv
   refine ⟨fun x hx=>?_,?_⟩
   ·rcases List.mem_cons.1 hx with rfl | hx
    ·exact g1
    ·exact h1 x hx
   ·have e:a.tmps.getD t undef=v1.conc ν ρ:=by simp [g2,V.conc]
    rw [List.mapM_cons]
    simp only [Sem.run_bind,resM,Sem.run_pure,Result.andThen_ok,e,h2,List.map_cons]
  ·exact zac
 | .cell t ty::l=>by
  unfold zpY
  refine zaa (zad (Q:=fun v=>nth s.sl t=some v) fun a h=>h) fun v hv=>?_
  split
  ·rename_i b off
   refine zaa (zad (Q:=fun k=>tk P ty=some k) fun a h=>h) fun k hk=>?_
   refine zaa (zad (Q:=fun k=>zaM P ty=some k) fun a h=>h) fun sz hs=>?_
   refine zaa (zad (Q:=fun bk=>nth s.hp b=some bk) fun a h=>h) fun bk hbk=>?_
   split
   ·rename_i o cs
    by_cases hg:off.good ν
    ·refine zaa (zdT (own:=o) hk hs hg) fun u hu=>zaa (zjw l) fun vs hvs=>zab fun ρ a w ha hh=>?_
     obtain ⟨h1,h2⟩:=hvs ρ a w ha hh
     obtain ⟨g1,g2⟩:=ha.slot t _ hv
     obtain ⟨u1,u2⟩:=hu ρ w (ρ b) (hh.blk b _ hbk)
     refine ⟨fun x hx=>?_,?_⟩
     ·rcases List.mem_cons.1 hx with rfl | hx
      ·exact u1
      ·exact h1 x hx
     ·have e:a.tmps.getD t undef = .pointer (some ⟨(ρ b).blk,(ρ b).off+off.val ν,none⟩):=by simp [g2,V.conc,V1.conc,Lf.conc]
      have er:(resM a.tmps (.cell t ty)).run P w = .ok (u.conc ν ρ) w:=by
       simp only [resM,Sem.run_bind,e,asAddr,Sem.run_pure,Result.andThen_ok,u2]
      rw [List.mapM_cons]
      simp only [Sem.run_bind,er,Sem.run_pure,Result.andThen_ok,h2,List.map_cons]
    ·refine zaa zap fun u _=>zaa zap fun vs _=>zab fun ρ a w ha hh=>?_
     exact absurd ((ha.slot t _ hv).1 (.p b off) (by simp [V1.cells])) hg
   ·exact zac
  ·exact zac
theorem zqw {fn:Func} {tmps:Array Value} {w:World} {vals:List Value}
  (h:(fn.results.toList.mapM (resM tmps)).run P w = .ok vals w) :
  (results fn tmps).run P w = .ok (zgO vals) w:=by
 have hm:∀ (f:ResultVar→Sem Value),(fn.results.mapM f).run P w=((fn.results.toList.mapM f).run P w).andThen fun l w'=>.ok l.toArray w':=by
  intro f
  rw [Array.mapM_eq_mapM_toList]
  simp
 rw [znd,Sem.run_bind,hm,h]
 simp only [Result.andThen_ok,Sem.run_pure]
 match vals with
 | []=>rfl
 | [v]=>rfl
 | v::u::r=>rfl
theorem zow {rs:List ResultVar} {keep:Bool} (hk0:keep=false→E.n0=0):∀ (x:X),M.sat F ν (x.res P rs keep) (fun y=>(x.sel ν).1.ends=true∧(y.sel ν).1.isNormal=true∧∀ ρ a w,RR ν E ρ ⟨(x.sel ν).2,[]⟩ a w →
  ∃ v vals,(rs.mapM (resM a.tmps)).run P w = .ok vals w∧zgO vals=v∧RR ν E ρ ⟨(y.sel ν).2,[]⟩ (zkF v) w)
 | .done k s=>by
  unfold X.res
  refine zae (fun hk=>?_) (fun _=>zac)
  refine zaa (zjw (E:=E) rs) fun vs hvs=>zab ⟨hk,rfl,fun ρ a w h=>?_⟩
  obtain ⟨h1,h2⟩:=hvs ρ a w h.act h.hs.heap
  refine ⟨_,_,h2,rfl,⟨rfl,rfl,fun t v ht=>?_,fun e he=>by cases he⟩,?_⟩
  ·cases t with
   | zero =>
    cases ht
    exact ⟨(zei vs ρ).2 h1,by rw [(zei vs ρ).1];rfl⟩
   | succ t=>cases t<;>cases ht
  ·simp only [X.sel]
   cases keep with
   | true=>exact h.hs
   | false =>
    have hno:∀ j bk,nth ([]:List (Option Blk)) j=some bk→False:=fun j bk hj=>by cases j<;>cases hj
    exact ⟨⟨fun j bk hj=>(hno j bk hj).elim,fun j j' bk bk' hj=>(hno j bk hj).elim⟩,fun j bk hj=>(hno j bk hj).elim,h.hs.fr,by rw [hk0 rfl];exact Nat.zero_le _,fun j hj=>by rw [hk0 rfl] at hj;omega⟩
 | .br c x y=>by
  unfold X.res
  refine zaa (zbt (zow hk0 x)) fun u hu=>zaa (zbt (zow hk0 y)) fun v hv=>zab ?_
  simp only [X.sel]
  by_cases hc:c.bool ν=true
  ·simp only [hc,if_true]
   exact hu hc
  ·simp only [hc]
   exact hv (by simpa using hc)
def ow (path:List (Bool×Bool)) (a:Bool):Bool:=!(path.all fun c=>c.1==c.2)||a
def zcf (ν:Nat→DV) (l:List Nd):Bool:=(l.map fun q=>ow (q.path.map fun c=>(c.1.bool ν,c.2)) (q.a.bool ν)).all id
theorem zjx {l:List Nd} (h:zcf ν l=true):∀ q∈l,Nd.holds ν q:=by
 intro q hq hp
 have:=List.all_eq_true.1 h _ (List.mem_map.2 ⟨q,hq,rfl⟩)
 simp only [ow,id,Bool.or_eq_true,Bool.not_eq_true',List.all_map] at this
 rcases this with h' | h'
 ·have:(q.path.all ((fun c:Bool×Bool=>c.1==c.2)∘fun c=>(c.1.bool ν,c.2)))=true:=List.all_eq_true.2 fun c hc=>by simp [hp c hc]
  rw [this] at h';cases h'
 ·exact h'
theorem zgP {α:Type} (n i:Nat):nth (List.replicate n (none:Option α)) i=none:=by
 induction n generalizing i with
 | zero=>cases i<;>rfl
 | succ n ih=>cases i with
  | zero=>rfl
  | succ i=>exact ih i
def zpD (I:World→Prop) (gK:Nat):Prop:=∀ w w',w.heap.size≤w'.heap.size→(∀ b,b<gK→w'.heap[b]? = w.heap[b]?)→I w→I w'
def zaV (F:FEnv) (sg:Sig) (out:Out) (ds:List DV):Nat→DV :=
 look (fun _=>default) 0 (zaS F (fun _=>default) 0 out.nodes ds.reverse sg.nin) (sg.nin+out.nodes.length)
theorem zjy {F:FEnv} {ν:Nat→DV} : ∀ (d:List Ob),(∀ q∈zh0 d,Nd.holds ν q)→(∀ q∈zg2 d,zaB F q)→∀ q∈d,Ob.holds F ν q
 | [],_,_,q,hq=>by cases hq
 | .nd o::d,h1,h2,q,hq=>by
  rcases List.mem_cons.1 hq with rfl | hq
  ·exact h1 o (by simp [zh0])
  ·exact zjy d (fun q hq=>h1 q (by simp [zh0,hq])) h2 q hq
 | .lp o::d,h1,h2,q,hq=>by
  rcases List.mem_cons.1 hq with rfl | hq
  ·exact h2 o (by simp [zg2])
  ·exact zjy d h1 (fun q hq=>h2 q (by simp [zg2,hq])) q hq
theorem zjz {hin:List (Option Blk)} {m:List Nat} : ∀ {l:List (Option Blk)} {j:Nat},zms hin m j l=true→∀ i,i<l.length→stays hin (j+i)=true→rnm m (j+i)=j+i
 | [],_,_,i,hi,_=>by simp at hi
 | _::l,j,h,0,_,hs=>by
  simp only [zms,Bool.and_eq_true,Bool.or_eq_true,Bool.not_eq_true'] at h
  rw [Nat.add_zero] at hs ⊢
  rcases h.1 with h1 | h1
  ·rw [hs] at h1;cases h1
  ·exact Nat.eq_of_beq_eq_true h1
 | _::l,j,h,i+1,hi,hs=>by
  simp only [zms,Bool.and_eq_true] at h
  have:=zjz h.2 i (by simpa using hi) (by rwa [show j+1+i=j+(i+1) from by omega])
  rwa [show j+1+i=j+(i+1) from by omega] at this
theorem zqx {ks:List Nat} {s0:St} : M.sat F ν (zq9 ks s0) (fun s1=>∀ ρ a w,RR ν E ρ ⟨s0,[]⟩ a w→∃ ρ',RR ν E ρ' ⟨s1,[]⟩ a w):=by
 unfold zq9
 refine zae (fun _=>zab fun ρ a w h=>⟨ρ,h⟩) (fun _=>zae (fun hlt=>?_) (fun _=>zac))
 refine zaa (zi7 (E:=E)) fun hp1 h1=>zab fun ρ a w h=>?_
 obtain ⟨ρ',e1,e2⟩:=h1.2 ρ w h.hs
 exact ⟨ρ',h.act.ext e1 hlt (by simp) hp1,e2⟩
theorem zox {n:Nat} {pat z:St} : M.sat F ν (znH n pat z) (fun z1=>∀ ρ a w,RR ν E ρ ⟨z,[]⟩ a w→RR ν E ρ ⟨z1,[]⟩ a w):=by
 unfold znH
 refine zae (fun _=>?_) (fun _=>zab fun _ _ _ h=>h)
 exact zaa (zaG (E:=E) _ _ _) fun hp1 h1=>zab fun ρ a w h=>⟨⟨h.act.defers,h.act.size,h.act.slot,h.act.gl⟩,h1.2 ρ w h.hs⟩
theorem zqy {w:World} {pat:List (Option Blk)} {p v:Lf} {hp:List (Option Blk)} : M.sat F ν (zrn pat p v hp) (fun q=>hp.length≤q.2.length∧∀ ρ,HS E ν ρ hp w→v.good ν →
  q.1.good ν∧∃ ρ':Nat→Loc,(∀ j,j<hp.length→ρ' j=ρ j)∧HS E ν ρ' q.2 w∧q.1.conc ν ρ'=v.conc ν ρ):=by
 have keep:M.sat F ν (pure (v,hp):M (Lf×List (Option Blk))) (fun q=>hp.length≤q.2.length∧∀ ρ,HS E ν ρ hp w→v.good ν →
   q.1.good ν∧∃ ρ':Nat→Loc,(∀ j,j<hp.length→ρ' j=ρ j)∧HS E ν ρ' q.2 w∧q.1.conc ν ρ'=v.conc ν ρ) :=
  zab ⟨Nat.le_refl _,fun ρ h hg=>⟨hg,ρ,fun _ _=>rfl,h,rfl⟩⟩
 unfold zrn
 split
 ·split
  ·rename_i ko _ _
   split
   ·rename_i b
    refine zaa (R:=fun hp1=>hp1.length=hp.length∧∀ ρ w,HS E ν ρ hp w→HS E ν ρ hp1 w) ?_ fun hp1 h1=>zaa (zrx (E:=E)) fun hp2 h2=>zab ⟨by show _≤hp2.length;omega,fun ρ h _=>⟨?_,ρ,fun _ _=>rfl,h2.2 ρ w (h1.2 ρ w h),?_⟩⟩
    ·split
     ·exact zi6
     ·exact zab ⟨rfl,fun _ _ h=>h⟩
    ·exact ⟨by simp [A.int,A.den],by simp [A.int,A.den,zaN]⟩
    ·simp [Lf.conc,zbj,zaN,A.int,A.den,Alt.conc,Off.val]
   ·refine zae (fun hk=>?_) (fun _=>zac)
    simp only [Bool.and_eq_true] at hk
    obtain ⟨hk,hlt⟩:=hk
    refine zaa (zag (Q:=fun q=>q.cells ν=[.b false,.l []]) fun q h=>A.cells_of_den h) fun q hq=>zab ⟨by simp,fun ρ h _=>⟨?_,?_⟩⟩
    ·exact ⟨by simp [A.int,A.den],by simp [A.int,A.den,zaN]⟩
    ·have hw1:=h.freshO (w':=w) (bk:=.obj true ko q) (r:=⟨0,0,true,0,0,none⟩) hlt (Below.refl _ w)
      (⟨fun e=>(by rw [hk] at e;cases e),fun _=>⟨by rw [hq];rfl,fun e=>(by cases e)⟩⟩:zbi true ko w ⟨0,0,true,0,0,none⟩ (q.cells ν)) (.inl rfl)
     exact ⟨_,fun j hj=>zbO hj,hw1,by simp [Lf.conc,zbj,zaN,A.int,A.den,Alt.conc]⟩
   ·exact keep
  ·exact keep
 ·exact keep
theorem zjA {w:World} {pat:List (Option Blk)} : ∀ (ps vs:List Lf) (hp:List (Option Blk)),M.sat F ν (zlz pat ps vs hp) (fun q=>∀ ρ,HS E ν ρ hp w→vs.all (Lf.lt hp.length)=true→(∀ x∈vs,x.good ν) →
  (∀ x∈q.1,x.good ν)∧∃ ρ':Nat→Loc,(∀ j,j<hp.length→ρ' j=ρ j)∧HS E ν ρ' q.2 w∧q.1.map (Lf.conc ν ρ')=vs.map (Lf.conc ν ρ))
 | [],vs,hp=>zab fun ρ h _ hg=>⟨hg,ρ,fun _ _=>rfl,h,rfl⟩
 | _::_,[],hp=>zab fun ρ h _ hg=>⟨hg,ρ,fun _ _=>rfl,h,rfl⟩
 | p::ps,v::vs,hp=>by
  unfold zlz
  refine zaa (zqy (E:=E) (w:=w)) fun x hx=>zae (fun hlt=>?_) (fun _=>zac)
  refine zaa (zjA (w:=w) ps vs x.2) fun r hr=>zab fun ρ h hl hg=>?_
  simp only [List.all_cons,Bool.and_eq_true] at hl
  obtain ⟨g1,ρ1,a1,a2,a3⟩:=hx.2 ρ h (hg v (List.mem_cons_self ..))
  obtain ⟨g2,ρ2,b1,b2,b3⟩:=hr ρ1 a2 (List.all_eq_true.2 fun y hy=>Lf.lt_mono hx.1 (List.all_eq_true.1 hl.2 y hy)) (fun y hy=>hg y (List.mem_cons_of_mem _ hy))
  refine ⟨fun y hy=>?_,ρ2,fun j hj=>(b1 j (by omega)).trans (a1 j hj),b2,?_⟩
  ·rcases List.mem_cons.1 hy with rfl | hy
   ·exact g1
   ·exact g2 y hy
  ·simp only [List.map_cons,b3]
   rw [Lf.conc_keep b1 hlt,a3]
   congr 1
   exact List.map_congr_left fun y hy=>Lf.conc_keep a1 (List.all_eq_true.1 hl.2 y hy)
theorem zjB {ρ ρ':Nat→Loc} : ∀ {vs:List V1} {l:List Lf} {us:List V1},zhE vs l=some us→l.map (Lf.conc ν ρ')=(vs.flatMap V1.cells).map (Lf.conc ν ρ)→(∀ x∈l,x.good ν) →
  us.map (V1.conc ν ρ')=vs.map (V1.conc ν ρ)∧∀ u∈us,V1.good ν u:=by
 intro vs
 induction vs with
 | nil =>
  intro l us h _ _
  cases l with
  | nil=>cases h;exact ⟨rfl,fun u hu=>(by cases hu)⟩
  | cons x l=>cases h
 | cons v r ih =>
  intro l us h hc hg
  cases v with
  | one y =>
   cases l with
   | nil=>cases h
   | cons x l =>
    simp only [zhE,Option.map_eq_some_iff] at h
    obtain ⟨us',h1,rfl⟩:=h
    simp only [List.flatMap_cons,V1.cells,List.cons_append,List.nil_append,List.map_cons,List.cons.injEq] at hc
    obtain ⟨e1,e2⟩:=ih h1 hc.2 (fun z hz=>hg z (List.mem_cons_of_mem _ hz))
    refine ⟨?_,fun u hu=>?_⟩
    ·simp only [List.map_cons,e1]
     congr 1
     exact hc.1
    ·rcases List.mem_cons.1 hu with rfl | hu
     ·exact V1.good_one.2 (hg x (List.mem_cons_self ..))
     ·exact e2 u hu
  | agg ys =>
   have hr:zhE (.agg ys::r) l=if Nat.ble ys.length l.length then (zhE r (l.drop ys.length)).map (.agg (l.take ys.length)::·) else none:=by
    cases l<;>rfl
   rw [hr] at h
   split at h
   ·rename_i hle
    have hle:=Nat.le_of_ble_eq_true hle
    simp only [Option.map_eq_some_iff] at h
    obtain ⟨us',h1,rfl⟩:=h
    simp only [List.flatMap_cons,V1.cells,List.map_append] at hc
    rw [←List.take_append_drop ys.length l,List.map_append] at hc
    obtain ⟨c1,c2⟩:=List.append_inj hc (by simp only [List.length_map,List.length_take];omega)
    obtain ⟨e1,e2⟩:=ih h1 c2 (fun z hz=>hg z (List.mem_of_mem_drop hz))
    refine ⟨?_,fun u hu=>?_⟩
    ·simp only [List.map_cons,e1]
     congr 1
     simp only [V1.conc,c1]
    ·rcases List.mem_cons.1 hu with rfl | hu
     ·exact V1.good_agg.2 fun z hz=>hg z (List.mem_of_mem_take hz)
     ·exact e2 u hu
   ·cases h
theorem zqz {pat z:St} : M.sat F ν (zrp pat z) (fun z1=>∀ ρ a w,RR ν E ρ ⟨z,[]⟩ a w→∃ ρ',RR ν E ρ' ⟨z1,[]⟩ a w):=by
 have keep:M.sat F ν (pure z:M St) (fun z1=>∀ ρ a w,RR ν E ρ ⟨z,[]⟩ a w→∃ ρ',RR ν E ρ' ⟨z1,[]⟩ a w):=zab fun ρ a w h=>⟨ρ,h⟩
 unfold zrp
 split
 ·rename_i p v hp hv
  refine zae (fun _=>zae (fun hlt=>?_) (fun _=>zac)) (fun _=>keep)
  refine zaa (zdw fun w=>zjA (E:=E) (w:=w) _ _ _) fun q hq=>?_
  split
  ·rename_i u hu
   refine zab fun ρ a w h=>?_
   have hs0:=h.act.slot 0 v (by show nth z.sl 0=some v;rw [hv];rfl)
   have hsz:a.tmps.size=1:=by have:=h.act.size;simp only at this;rw [hv] at this;simpa using this
   have hall:v.cellsA.all (Lf.lt z.hp.length)=true:=by
    cases v with
    | s v=>exact hlt
    | t l =>
     exact List.all_eq_true.2 fun x hx=>by
      obtain ⟨y,h1,h2⟩:=List.mem_flatMap.1 hx
      exact List.all_eq_true.1 (List.all_eq_true.1 hlt y h1) x h2
   have hgood:∀ x∈v.cellsA,x.good ν:=by
    cases v with
    | s v=>exact fun x hx=>hs0.1 x hx
    | t l =>
     exact fun x hx=>by
      obtain ⟨y,h1,h2⟩:=List.mem_flatMap.1 hx
      exact hs0.1 y h1 x h2
   obtain ⟨g1,ρ',b1,b2,b3⟩:=hq w ρ h.hs hall hgood
   have huv:u.good ν∧u.conc ν ρ'=v.conc ν ρ:=by
    cases v with
    | s v =>
     simp only [zro] at hu
     split at hu
     ·rename_i u1 hu1
      cases hu
      obtain ⟨e1,e2⟩:=zjB (ρ:=ρ) hu1 (by rw [b3];simp [V.cellsA]) g1
      simp only [List.map_cons,List.map_nil,List.cons.injEq,and_true] at e1
      exact ⟨e2 u1 (List.mem_cons_self ..),e1⟩
     ·cases hu
    | t l =>
     simp only [zro,Option.map_eq_some_iff] at hu
     obtain ⟨us,hu1,rfl⟩:=hu
     obtain ⟨e1,e2⟩:=zjB hu1 b3 g1
     exact ⟨e2,by simp only [V.conc,e1]⟩
   refine ⟨ρ',⟨h.act.defers,hsz,fun t x ht=>?_,fun e he=>by cases he⟩,b2⟩
   cases t with
   | zero=>cases ht;exact ⟨huv.1,by rw [huv.2];exact hs0.2⟩
   | succ t=>cases t<;>cases ht
  ·exact zac
 ·exact keep
theorem zl2 {pat:St} : ∀ (x:X),M.sat F ν (x.prep pat) (fun y=>(y.sel ν).1=(x.sel ν).1∧∀ ρ a w,RR ν E ρ ⟨(x.sel ν).2,[]⟩ a w→∃ ρ',RR ν E ρ' ⟨(y.sel ν).2,[]⟩ a w)
 | .done k s=>by
  unfold X.prep
  exact zaa (zqz (E:=E)) fun z hz=>zab ⟨rfl,hz⟩
 | .br c x y=>by
  unfold X.prep
  refine zaa (zbt (zl2 x)) fun u hu=>zaa (zbt (zl2 y)) fun v hv=>zab ?_
  simp only [X.sel]
  by_cases hc:c.bool ν=true
  ·simp only [hc,if_true]
   exact hu hc
  ·simp only [hc]
   exact hv (by simpa using hc)
theorem ztx (hS:SigsOK P I gK S F) (hE:E.Ok gK) (hn0:S.n0=E.n0) (hI:∀ w,Fr E.W E.w0 w→I w) {fuel:Nat} {c:Code} {rs:List ResultVar} {keep:Bool} (hk0:keep=false→E.n0=0) {pn:Nat} {pat s0:St} :
  M.sat F ν (zpl P S fuel c rs keep pn pat s0) (fun z=>∀ ρ a w,RR ν E ρ ⟨s0,[]⟩ a w→c.wp P (fun e a' w'=>(e = .normal∨e = .ret)∧a'.defers=[] ∧
   ∃ v vals ρ',(rs.mapM (resM a'.tmps)).run P w' = .ok vals w'∧zgO vals=v∧RR ν E ρ' ⟨z,[]⟩ (zkF v) w') a w):=by
 unfold zpl
 rw [hn0]
 refine zaa (zqx (E:=E)) fun s1 hs1=>?_
 refine zaa (zgN hS hE hn0 hI fuel ν c s1) fun x hx=>zaa (zow hk0 x) fun y0 hy=>zaa (zl2 (E:=E) y0) fun y hp=>zaa (zjq (E:=E) y) fun o ho=>?_
 obtain ⟨z,hz,hz2⟩:=ho (by rw [hp.1];exact hy.2.1)
 subst hz
 refine zah (zox (E:=E) (z:=z)) fun z1 hz1=>fun ρ0 a w h0=>?_
 obtain ⟨ρ,h⟩:=hs1 ρ0 a w h0
 refine wp_mono (hx ρ a w h).1 fun e a' w' hpx=>?_
 obtain ⟨hk,ρ1,hr⟩:=hpx
 obtain ⟨v,vals,h1,h2,h3⟩:=hy.2.2 ρ1 a' w' hr
 obtain ⟨ρ3,h3⟩:=hp.2 ρ1 _ w' h3
 obtain ⟨ρ2,h4⟩:=hz2 ρ3 _ w' h3
 refine ⟨?_,hr.act.defers,v,vals,ρ2,h1,h2,hz1 ρ2 _ w' h4⟩
 have hend:=hy.1
 generalize (X.sel ν x).1=k at *
 cases k<;>cases e<;>simp [K.is,K.ends] at hk hend ⊢
theorem PEq.of_ids {ν1 ν2:Nat→DV} : ∀ (ts:List Ty) (k:Nat),(∀ (i:Nat) (t:Ty),ts[i]? = some t→t.eqAt (ν1 (k+i)) (ν2 (k+i)))→PEq ν1 ν2 ts (zal k ts.length) (zal k ts.length)
 | [],_,_=>trivial
 | t::ts,k,h=>⟨h 0 t rfl,PEq.of_ids ts (k+1) fun i u hi=>by have:=h (i+1) u (by simpa using hi);rw [show k+1+i=k+(i+1) from by omega];exact this⟩
theorem zuh {fuel:Nat} {f:FuncId} {fn:Func} {sg:Sig} {out:Out} {G:List DV→List DV} (hst:zpD I gK) (hS:SigsOK P I gK S F) (hf:P.funcs[f]? = some fn)
  (hev:evFn P S fuel fn sg=some out) (hlp:∀ l∈out.loops,zaB F l)
  (hG:∀ ds:List DV,ds.length=sg.nin→(sg.need=true→(dget (G ds) 0).toB=true)→∃ ν:Nat→DV,Sat F ν out.nodes∧(∀ (i:Nat) (t:Ty),sg.its[i]? = some t→t.eqAt (dget ds i) (ν i)) ∧
   zcf ν out.owes=true∧TEq sg.ots ((G ds).drop (if sg.need then 1 else 0)) (out.outs.map (A.den ν))) :
  FnOK P I gK f sg G:=by
 intro ds ρ0 w hIw hlen hneed hKw hKW hgood hheap
 obtain ⟨ν,hsat,hin,howes,houts⟩:=hG ds hlen hneed
 generalize hE0:callEnv sg.hinI ρ0 w=E at *
 have hEn:E.n0=sg.hin.length:=by rw [←hE0];simp [callEnv,Sig.hinI]
 have hEw:E.w0=w:=by rw [←hE0];rfl
 have hEρ:E.ρ0=ρ0:=by rw [←hE0];rfl
 have hEok:E.Ok gK:=⟨by rw [hEw];exact hKw,hKW⟩
 have hI:∀ w',Fr E.W E.w0 w'→I w':=fun w' h=>by
  rw [hEw] at h
  exact hst w w' h.size (fun b hb=>h.block b (by omega) (fun hW=>by have:=hKW b hW;omega)) hIw
 unfold evFn at hev
 cases hbody:fn.body with
 | none=>simp [hbody] at hev
 | some c =>
  simp only [hbody] at hev
  split at hev
  rotate_left
  ·cases hev
  rename_i hn0
  have hn0:S.n0=E.n0:=by rw [hEn];exact Nat.eq_of_beq_eq_true hn0
  generalize hkp:(!(sg.hin.isEmpty&&sg.hout.isEmpty))=keep at hev
  have hk0:keep=false→E.n0=0:=fun h=>by
   rw [h] at hkp
   rw [hEn]
   cases hh:sg.hin with
   | nil=>rfl
   | cons x l=>rw [hh] at hkp;simp at hkp
  cases hrun:zpl P S fuel c fn.results.toList keep sg.ots.length ⟨[some sg.out],sg.hout⟩ (sg.st0 fn.ntmps) sg.nin with
  | none=>simp [hrun] at hev
  | some r =>
   obtain ⟨z,n',e,d⟩:=r
   simp only [hrun] at hev
   unfold zvS at hev
   dsimp only at hev
   generalize hg:zdM sg.ots.length ⟨[some sg.out],sg.hout⟩ z=g at hev
   have hgl:g.1.length=sg.ots.length:=by rw [←hg];exact zeE _ _ _
   split at hev
   rotate_left
   ·cases hev
   rename_i hchk
   simp only [Option.some.injEq] at hev
   subst hev
   simp only at hsat howes houts hlp
   simp only [Bool.and_eq_true,St.inst,St.sub,Sig.ok] at hchk
   obtain ⟨⟨⟨⟨hs1,hs2⟩,hs3⟩,⟨⟨⟨⟨⟨⟨⟨k1,k2⟩,k3⟩,k4⟩,_⟩,_⟩,_⟩,k8⟩⟩,hkc⟩:=hchk
   have key:=ztx (E:=E) hS hEok hn0 hI hk0 sg.nin z n' e d hrun hsat (zjy d (zjx howes) hlp)
   -- where the results' values come from
   have hres:PEq ν (sg.res (G ds)) sg.ots g.1 (zal 0 sg.ots.length):=by
    have hl:((G ds).drop (if sg.need then 1 else 0)).length=sg.ots.length:=by rw [houts.len];simpa using hgl
    have hsame:(zal 0 sg.ots.length).map (A.den (sg.res (G ds)))=(G ds).drop (if sg.need then 1 else 0):=by
     rw [zcP (sg.res (G ds)) sg.ots.length 0 0 (fun _ _=>rfl)]
     apply List.ext_getElem?
     intro i
     by_cases hi:i<sg.ots.length
     ·rw [List.getElem?_map,List.getElem?_range' (by omega),List.getElem?_eq_getElem (l:=(G ds).drop _) (by omega)]
      simp only [Option.map_some,Option.some.injEq,Sig.res,dget]
      rw [List.getElem_drop,List.getD_eq_getElem?_getD,List.getElem?_eq_getElem (by simp only [List.length_drop] at hl;omega)]
      simp only [Option.getD_some]
      congr 1
      omega
     ·rw [List.getElem?_eq_none (by simpa using hi),List.getElem?_eq_none (by omega)]
    exact PEq.of_teq (by rw [hsame];exact houts)
   -- the state the call begins in
   have hvals:sg.insI.map (V.conc ν ρ0)=sg.insI.map (V.conc (dget ds) ρ0)∧(∀ v∈sg.insI,V.good ν v)∧HRel E ν ρ0 sg.hinI w:=by
    have hpi:PEq (dget ds) ν sg.its (zal 0 sg.nin) (zal 0 sg.nin):=PEq.of_ids _ _ fun i t h=>by rw [Nat.zero_add];exact hin i t h
    obtain ⟨e1,e2⟩:=Vs.inst_to zbE hpi k1
    exact ⟨e1 ρ0,e2 hgood,HRel.inst zbE hpi k2 hheap⟩
   obtain ⟨hv1,hv2,hv3⟩:=hvals
   have hst0:RR ν E ρ0 ⟨sg.st0 fn.ntmps,[]⟩ { tmps:=(sg.insI.map (V.conc (dget ds) ρ0)).toArray++Array.replicate (fn.ntmps-(sg.insI.map (V.conc (dget ds) ρ0)).toArray.size) undef,defers:=[] } w:=by
    refine ⟨⟨rfl,?_,fun t v ht=>?_,fun e he=>by cases he⟩,⟨hv3,fun j bk hj=>?_,?_,?_,fun j _=>by rw [hEρ]⟩⟩
    ·simp [Sig.st0,Sig.insI]
    ·change nth ((sg.insI).map some++List.replicate (fn.ntmps-sg.insI.length) none) t=some v at ht
     rw [zaL] at ht
     split at ht
     ·rename_i hlt
      rw [za1] at ht
      refine ⟨hv2 v (List.mem_of_getElem? ht),?_⟩
      have h1:(sg.insI.map (V.conc (dget ds) ρ0))[t]? = some (v.conc ν ρ0):=by rw [←hv1];simp [ht]
      simp only
      rw [Array.getElem?_append_left (by simp at hlt;simp;omega)]
      simpa using h1
     ·rw [zgP] at ht;cases ht
    ·change nth sg.hinI j=some bk at hj
     cases hn:(ρ0 j).nil with
     | true=>exact .inl rfl
     | false =>
      cases ho:bk.own with
      | true=>exact .inr ⟨fun _ b hfb=>.inr (by rw [←hE0];exact ⟨j,bk,hj,ho,hn,hfb⟩),fun b hfb=>.inr (.inr (by rw [←hE0];exact .inl ⟨j,bk,hj,hn,hfb⟩))⟩
      | false=>exact .inr ⟨fun o=>(by cases o),fun b hfb=>.inr (.inr (by rw [←hE0];exact .inl ⟨j,bk,hj,hn,hfb⟩))⟩
    ·rw [hEw];exact Fr.refl _ _
    ·rw [hEn];simp [Sig.st0]
   refine calls_of_wp hf hbody ?_
   refine wp_mono (key ρ0 _ w hst0) ?_
   intro e a' w' ⟨he,hd,v,vals,ρ',h1,h2,h3⟩
   have hout:∃ v ρ',(results fn a'.tmps).run P w' = .ok v w'∧CallOut sg (G ds) ρ0 w v ρ' w':=by
    obtain ⟨_,q2⟩:=zcF hs1
    obtain ⟨u,q3,q4⟩:=q2 0 (sg.out.inst g.1) rfl
    obtain ⟨q7,q8⟩:=h3.act.slot 0 u q3
    obtain ⟨q5,q6⟩:=V.sub_spec (ν:=ν) q4 q7
    have q9:v=u.conc ν ρ':=by
     have:(zkF v).tmps[0]? = some v:=rfl
     rw [this] at q8
     exact Option.some.inj q8
    obtain ⟨c1,c2⟩:=V.inst_to zbE hres k3
    have hh1:HRel E ν (fun j=>ρ' (rnm g.2 j)) (sg.hout.map (Option.map (Blk.inst g.1))) w':=h3.hs.heap.sub hs2 hs3
    refine ⟨v,fun j=>ρ' (rnm g.2 j),by rw [zqw h1,h2],?_,c2 q6,?_,?_,?_,fun j hj hjl=>?_⟩
    ·unfold Sig.outI
     rw [c1,q5 ρ']
     exact q9
    ·rw [hE0]
     exact HRel.inst zbE hres k4 hh1
    ·rw [hE0]
     have:=OldF.inst (bs:=zal 0 sg.ots.length) (h3.hs.old.sub hs2)
     rw [hEw] at this
     exact this
    ·rw [hE0]
     have:=h3.hs.fr
     rw [hEw] at this
     exact this
    ·have e1:=zjz hkc j hjl (by rwa [Nat.zero_add])
     rw [Nat.zero_add] at e1
     obtain ⟨x,hx⟩:=zpn hj
     have:=h3.hs.keep j (by rw [hEn];exact za4 hx)
     simp only [e1]
     rw [this,hEρ]
   obtain ⟨v2,ρ2,h4,h5⟩:=hout
   rcases he with rfl | rfl
   ·exact ⟨hd,v2,h4,v2,ρ2,rfl,h5⟩
   ·exact ⟨hd,v2,h4,v2,ρ2,rfl,h5⟩
theorem zb6 {fuel:Nat} {f:FuncId} {fn:Func} {sg:Sig} {out:Out} {G:List DV→List DV} (hst:zpD I gK) (hS:SigsOK P I gK S F) (hf:P.funcs[f]? = some fn)
  (hev:evFn P S fuel fn sg=some out) (hwf:zfK sg.nin out.nodes=true) (hlp:∀ l∈out.loops,zaB F l)
  (hG:∀ ds:List DV,ds.length=sg.nin→(sg.need=true→(dget (G ds) 0).toB=true) →
   zcf (zaV F sg out ds) out.owes=true ∧
   TEq sg.ots ((G ds).drop (if sg.need then 1 else 0)) (out.outs.map (A.den (zaV F sg out ds)))) :
  FnOK P I gK f sg G :=
 zuh hst hS hf hev hlp fun ds hlen hneed=>by
  obtain ⟨howes,houts⟩:=hG ds hlen hneed
  obtain ⟨hl2,hsat⟩:=zcm (F:=F) (base:=fun _=>default) (n0:=0) (vs:=ds.reverse) (n:=sg.nin) (by omega) hwf
  change Sat F (zaV F sg out ds) out.nodes at hsat
  have hl2':∀ i,i<sg.nin→zaV F sg out ds i=look (fun _=>default) 0 ds.reverse sg.nin i:=hl2
  refine ⟨zaV F sg out ds,hsat,fun i t ht=>Ty.eqAt_of (Eq.symm ?_),howes,houts⟩
  have hi:i<sg.nin:=(List.getElem?_eq_some_iff.1 ht).1
  rw [hl2' i hi,zdH (by omega)]
  unfold dget
  simp only [List.getD_eq_getElem?_getD]
  rw [List.getElem?_reverse (by omega),hlen]
  congr 2
  omega
end
theorem zaD {α:Type} {Q:Nat→α→Prop} {l:List (Nat×α)} (h:∀ p∈l,Q p.1 p.2) {f:Nat} {s:α} (hs:assoc l f=some s):Q f s:=by
 induction l with
 | nil=>cases hs
 | cons p l ih =>
  simp only [assoc] at hs
  split at hs
  ·rename_i e
   cases hs
   rw [Nat.eq_of_beq_eq_true e]
   exact h p (by simp)
  ·exact ih (fun q hq=>h q (List.mem_cons_of_mem _ hq)) hs
def eRun (a:A) (ts:List LT) (i n:Nat):List Lf:=(List.range n).map fun k=>.e (ts.getD (k%ts.length) .bool) a (i+k)
def zaQ (i f:Nat) (args:List A) (j:Nat):Nat→Em
 | 0=>[]
 | k+1=>(i,.call f args j)::zaQ (i+1) f args (j+1) k
end Go.Sx
namespace Go.Sx
section
variable (w c:List DV→Bool) (nx out:List DV→List DV)
def zdo:Nat→List DV→Option (List DV)
 | 0,_=>none
 | n+1,s=>if w s then (if c s then zdo n (nx s) else some (out s)) else none
def lcnt:Nat→List DV→Nat
 | 0,_=>0
 | n+1,s=>if c s then lcnt n (nx s)+1 else 0
open Classical in
noncomputable def zoy (s:List DV):Nat:=if h:∃ n r,zdo w c nx out n s=some r then Classical.choose h else 0
noncomputable def zcB (s:List DV):Option (List DV):=zdo w c nx out (zoy w c nx out s) s
variable {w c:List DV→Bool} {nx out:List DV→List DV}
theorem zkW:∀ {n:Nat} {s r:List DV},zdo w c nx out n s=some r→zdo w c nx out (n+1) s=some r
 | 0,_,_,h=>by cases h
 | n+1,s,r,h=>by
  simp only [zdo] at h
  rw [zdo]
  split at h
  ·rename_i h1
   rw [if_pos h1]
   split at h
   ·rename_i h2
    rw [if_pos h2]
    exact zkW h
   ·rename_i h2
    rw [if_neg h2]
    exact h
  ·cases h
theorem zpE {n m:Nat} {s r:List DV} (hl:n≤m) (h:zdo w c nx out n s=some r):zdo w c nx out m s=some r:=by
 induction hl with
 | refl=>exact h
 | step _ ih=>exact zkW ih
theorem zrO {n m:Nat} {s r r':List DV} (h:zdo w c nx out n s=some r) (h':zdo w c nx out m s=some r'):r=r':=by
 have h1:=zpE (Nat.le_max_left n m) h
 have h2:=zpE (Nat.le_max_right n m) h'
 exact Option.some.inj (h1.symm.trans h2)
theorem zpF:∀ {n m:Nat} {s r r':List DV},zdo w c nx out n s=some r→zdo w c nx out m s=some r'→lcnt c nx n s=lcnt c nx m s
 | 0,_,_,_,_,h,_=>by cases h
 | _+1,0,_,_,_,_,h=>by cases h
 | n+1,m+1,s,r,r',h,h'=>by
  simp only [zdo] at h h'
  simp only [lcnt]
  split at h
  ·rename_i h1
   rw [if_pos h1] at h'
   split at h
   ·rename_i h2
    rw [if_pos h2] at h'
    rw [if_pos h2,if_pos h2,zpF h h']
   ·rename_i h2
    rw [if_neg h2,if_neg h2]
  ·cases h
theorem zl3 {n:Nat} {s r:List DV} (h:zdo w c nx out n s=some r):zcB w c nx out s=some r:=by
 have he:∃ n r,zdo w c nx out n s=some r:=⟨n,r,h⟩
 unfold zcB zoy
 rw [dif_pos he]
 obtain ⟨r',hr'⟩:=Classical.choose_spec he
 rw [hr',zrO hr' h]
theorem zbX {s:List DV} (h1:w s=true) (h2:c s=true):zcB w c nx out s=zcB w c nx out (nx s):=by
 cases h:zcB w c nx out (nx s) with
 | some r=>exact zl3 (n:=zoy w c nx out (nx s)+1) (by simp only [zdo,h1,h2,if_true];exact h)
 | none =>
  cases h':zcB w c nx out s with
  | none=>rfl
  | some r =>
   unfold zcB at h'
   cases hn:zoy w c nx out s with
   | zero=>rw [hn] at h';cases h'
   | succ n =>
    rw [hn] at h'
    simp only [zdo,h1,h2,if_true] at h'
    rw [zl3 h'] at h
    cases h
theorem zbY {s:List DV} (h1:w s=true) (h2:c s=false):zcB w c nx out s=some (out s):=zl3 (n:=1) (by simp [zdo,h1,h2])
theorem zoz {s r:List DV} (h:zcB w c nx out s=some r):w s=true:=by
 unfold zcB at h
 cases hn:zoy w c nx out s with
 | zero=>rw [hn] at h;cases h
 | succ n =>
  rw [hn] at h
  simp only [zdo] at h
  split at h
  ·assumption
  ·cases h
noncomputable def lmu (w c:List DV→Bool) (nx out:List DV→List DV) (s:List DV):Nat:=lcnt c nx (zoy w c nx out s) s
theorem zty {s r:List DV} (h:zcB w c nx out s=some r) (h2:c s=true):lmu w c nx out (nx s)<lmu w c nx out s:=by
 have h1:=zoz h
 have h3:zcB w c nx out (nx s)=some r:=(zbX h1 h2).symm.trans h
 unfold lmu
 unfold zcB at h h3
 cases hn:zoy w c nx out s with
 | zero=>rw [hn] at h;cases h
 | succ n =>
  rw [hn] at h
  simp only [zdo,h1,h2,if_true] at h
  simp only [lcnt,h2,if_true]
  rw [zpF h3 h]
  omega
end
def zhY:Nat→List Ty→List DV→List DV
 | _,[],_=>[]
 | i,t::ts,ds=>nrm t (ds.getD i default)::zhY (i+1) ts ds
def nrms (ts:List Ty) (ds:List DV):List DV:=zhY 0 ts ds
theorem zkX:∀ (i:Nat) (ts:List Ty) (ds:List DV) (j:Nat),(zhY i ts ds)[j]? = ts[j]?.map fun t=>nrm t (ds.getD (i+j) default)
 | _,[],_,j=>by simp [zhY]
 | i,t::ts,ds,0=>by simp [zhY]
 | i,t::ts,ds,j+1=>by
  simp only [zhY,List.getElem?_cons_succ]
  rw [zkX (i+1) ts ds j,show i+1+j=i+(j+1) from by omega]
theorem zgQ (ts:List Ty) (ds:List DV) (j:Nat):(nrms ts ds)[j]? = ts[j]?.map fun t=>nrm t (ds.getD j default):=by
 unfold nrms
 rw [zkX,Nat.zero_add]
theorem zuP (t:Ty) (d:DV):nrm t (nrm t d)=nrm t d:=by cases t<;>rfl
theorem zvX {t:Ty} {d e:DV} (h:nrm t d=nrm t e):t.eqAt d e:=by
 cases t<;>simpa [nrm,Ty.eqAt] using h
theorem zii (ts:List Ty) (ds:List DV):(nrms ts ds).length=ts.length:=by
 have key:∀ (i:Nat) (ts:List Ty),(zhY i ts ds).length=ts.length:=fun i ts=>by
  induction ts generalizing i with
  | nil=>rfl
  | cons t ts ih=>simp [zhY,ih]
 exact key 0 ts
theorem zdI (ts:List Ty) (ds:List DV):nrms ts (nrms ts ds)=nrms ts ds:=by
 apply List.ext_getElem?
 intro j
 rw [zgQ,zgQ]
 cases h:ts[j]? with
 | none=>rfl
 | some t =>
  simp only [Option.map_some,Option.some.injEq]
  rw [List.getD_eq_getElem?_getD,zgQ,h]
  simp [zuP]
theorem zkY:∀ {ts:List Ty} {as bs:List DV},as.length=ts.length→bs.length=ts.length →
  (∀ (j:Nat) (t:Ty),ts[j]? = some t→nrm t (as.getD j default)=nrm t (bs.getD j default))→TEq ts as bs
 | [],[],[],_,_,_=>trivial
 | t::ts,a::as,b::bs,h1,h2,h=>by
  refine ⟨zvX (by simpa using h 0 t rfl),zkY (by simpa using h1) (by simpa using h2) fun j t' ht=>?_⟩
  have:=h (j+1) t' (by simpa using ht)
  simpa using this
 | [],_::_,_,h,_,_=>by simp at h
 | [],[],_::_,_,h,_=>by simp at h
 | _::_,[],_,h,_,_=>by simp at h
 | _::_,_::_,[],_,h,_=>by simp at h
theorem zay {ts:List Ty} {as bs:List DV} (h:nrms ts as=nrms ts bs) (h1:as.length=ts.length) (h2:bs.length=ts.length):TEq ts as bs :=
 zkY h1 h2 fun j t ht=>by
  have:=congrArg (fun l=>l[j]?) h
  simp only [zgQ,ht,Option.map_some,Option.some.injEq] at this
  exact this
noncomputable def ztz (ots:List Ty) (o:Option (List DV)):List DV:=.b o.isSome::nrms ots (o.getD [])
theorem zjC {F:FEnv} {l:LR} {w c:List DV→Bool} {nx out:List DV→List DV} (tys:List Ty)
  (hF:∀ ds,F l.fid ds=ztz (.i::l.ts) (zcB w c nx out (nrms tys ds)))
  (hlen:l.outs.length=l.ts.length+1)
  (hw:∀ ν xs,xs.length=l.k→zcf (l.env F ν xs) l.owes=w (nrms tys (l.inv.map ν++xs)))
  (hc:∀ ν xs,xs.length=l.k→l.c.bool (l.env F ν xs)=c (nrms tys (l.inv.map ν++xs)))
  (hn:∀ ν xs,xs.length=l.k→nrms tys (l.inv.map ν++l.nx.map (A.den (l.env F ν xs)))=nx (nrms tys (l.inv.map ν++xs)))
  (ho:∀ ν xs,xs.length=l.k→nrms (.i::l.ts) (l.outs.map (A.den (l.env F ν xs)))=out (nrms tys (l.inv.map ν++xs))):zaB F l:=by
 refine ⟨fun raw=>lmu w c nx out (nrms tys raw),fun ν xs hx hp=>?_⟩
 rw [hF] at hp
 generalize hs:nrms tys (l.inv.map ν++xs)=s at *
 cases hl:zcB w c nx out s with
 | none=>rw [hl] at hp;cases hp
 | some r =>
  have h1:=zoz hl
  refine ⟨zjx (by rw [hw ν xs hx,hs];exact h1),fun h2=>?_,fun h2=>?_⟩
  ·rw [hc ν xs hx,hs] at h2
   have h3:=hn ν xs hx
   rw [hs] at h3
   rw [hF,hF,h3,hs,←zbX h1 h2,hl]
   exact ⟨rfl,rfl,by show lmu w c nx out (nrms tys _)<lmu w c nx out (nrms tys _);rw [h3,hs];exact zty hl h2⟩
  ·rw [hc ν xs hx,hs] at h2
   rw [hF,hs,zbY h1 h2]
   show TEq _ (nrms (.i::l.ts) (out s)) _
   refine zay ?_ (by simp [zii]) (by simpa using hlen)
   rw [zdI,ho ν xs hx,hs]
   have h4:=ho ν xs hx
   rw [hs] at h4
   rw [←h4,zdI]
end Go.Sx
