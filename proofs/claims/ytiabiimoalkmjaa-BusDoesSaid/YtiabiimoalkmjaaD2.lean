/- Operations on rows agree with the model. -/
import Derived.Test.YtiabiimoalkmjaaD1
import Derived.Deep.AppendSrc
import Derived.Deep.DeepAppendWide
import Derived.Laws.MakeOwn
import Derived.Laws.Externs
import Derived.KernelRfl
namespace Go.Sx
open Go.RowKit
section
variable {P:Program} {I:World->Prop} {S:bN} {F:aC} {E:Env} {O:Nat->DV}
theorem pR {t:TypeId} {e:Nat} (h:tk P t=some (.slice e)):P.underlying t=some (.slice e):=by
 obtain ⟨d,hd,hk⟩:=As h
 cases d<;>simp [oB] at hk
 subst hk
 exact hd
theorem SV {hp:List (Option ag)} {b:Nat} {r:Bool×List LT×A} (h:Ai hp b=some r):nth hp b=some (.v r.1 r.2.1 r.2.2):=by
 unfold Ai at h
 split at h
 ·rename_i hb
  cases h
  exact hb
 ·cases h
theorem FZ {hp:List (Option ag)} {b:Nat} {r:Bool×List LT×A} (h:rj hp b=some r) {U:Nat->Loc} {w:World} (hw:HS E O U hp w):bf E w (U b) r.1 r.2.1 (r.2.2.cells O):=by
 unfold rj at h
 split at h
 ·rename_i hb
  cases h
  exact hw.heap.aj b _ hb
 ·rename_i hb
  cases h
  exact eu.row (hw.heap.aj b _ hb)
 ·cases h
theorem zs4 {hp:List (Option ag)} {b:Nat} {r:Bool×List LT×A} (h:rj hp b=some r):(∃ o,nth hp b=some (.v o r.2.1 r.2.2)/\r.1=o)\/∃ o f,nth hp b=some (.l o f r.2.1 r.2.2):=by
 unfold rj at h
 split at h
 ·rename_i hb
  cases h
  exact .inl ⟨_,hb,rfl⟩
 ·rename_i hb
  cases h
  exact .inr ⟨_,_,hb⟩
 ·cases h
theorem SW {hp:List (Option ag)} {b:Nat} {r:Bool×List LT×A} (h:Ai hp b=some r) {U:Nat->Loc} {w:World} (hw:HS E O U hp w):bf E w (U b) r.1 r.2.1 (r.2.2.cells O) :=
 hw.heap.aj b _ (SV h)
theorem bf.elems {w:World} {r:Loc} {o:Bool} {ts:List LT} {xs:List DV} (h:bf E w r o ts xs):xs.length/ts.length=r.len:=by
 rw [h.len];exact Nat.mul_div_cancel _ h.pos
theorem Ct {a b:A} : M.sat F O (yL a b) (fun _=>a.int O<=b.int O):=by
 unfold yL
 split
 ·exact aY (fun h=>au (by simpa using h)) (fun _=>aE)
 ·refine ak (cz (Q:=fun r=>r.bool O=decide (a.int O<=b.int O)) fun r h=>A.aq h) fun r hr=>?_
  exact n6 fun h=>by rw [hr] at h;simpa using h
theorem znQ {hp:List (Option ag)} {t:TypeId} {v:V} : M.sat F O (Re P hp t v) (fun u=>u.good O/\∀ U w w1 ty (ts:Array TypeId),ts[0]? = some t->HS E O U hp w ->
  (Builtin.len_ ts ty #[v.aa O U]).run P w1 = .ok (u.aa O U) w1):=by
 unfold Re
 refine bh fun k hk=>?_
 split
 ·rename_i e b
  refine bh fun r hr=>?_
  refine ak (cz (Q:=fun q=>q.int O=((r.2.2.cells O).length/r.2.1.length:Nat)) fun q h=>A.aM h) fun q hq=>au ⟨V1.ah.2 trivial,fun U w w1 ty ts hts hw=>?_⟩
  have hl:=(FZ hr hw).elems
  simp [Builtin.len_,hts,run_underlying hk,V.aa,V1.aa,Lf.aa,Loc.slice,goInt,hq,hl]
 ·refine au ⟨V1.ah.2 trivial,fun U w w1 ty ts hts hw=>?_⟩
  simp [Builtin.len_,hts,run_underlying hk,V.aa,V1.aa,Lf.aa,goInt]
 ·refine au ⟨V1.ah.2 trivial,fun U w w1 ty ts hts hw=>?_⟩
  simp [Builtin.len_,hts,run_underlying hk,V.aa,V1.aa,Lf.aa,goInt]
 ·rename_i a
  refine ak (cz (Q:=fun q=>q.int O=((a.cells O).length/1:Nat)) fun q h=>A.aM h) fun q hq=>au ⟨V1.ah.2 trivial,fun U w w1 ty ts hts hw=>?_⟩
  have hz:(qY (a.cells O)).size=(a.cells O).length:=by
   show ((a.cells O).map DV.byte).toArray.size=_
   rw [List.size_toArray,List.length_map]
  simp [Builtin.len_,hts,run_underlying hk,V.aa,V1.aa,Lf.aa,goInt,hq,hz]
 ·refine au ⟨V1.ah.2 trivial,fun U w w1 ty ts hts hw=>?_⟩
  simp [Builtin.len_,hts,run_underlying hk,V.aa,V1.aa,Lf.aa,goInt]
 ·exact aE
theorem zrE (w:World) (l:List DV) (acc:ByteArray) (f:Value->ByteArray->Sem (ForInStep ByteArray))
  (hf:∀ (d:DV) (a:ByteArray),(f (.int .u8 d.ai) a).run P w = .ok (.yield (a.push d.byte)) w) :
  (forIn (l.map fun d=>Value.int .u8 d.ai) acc f).run P w = .ok ⟨acc.data++(l.map DV.byte).toArray⟩ w:=by
 induction l generalizing acc with
 | nil=>simp
 | cons d l ih =>
  simp only [List.map_cons,List.forIn_cons,Sem.run_bind,hf,Result.andThen_ok]
  rw [ih]
  simp [ByteArray.push]
theorem zrF {hp:List (Option ag)} {s d:TypeId} {b:Nat} : M.sat F O (HV P hp s d b) (fun v=>v.good O/\∀ U w w1,HS E O U hp w->w1=w ->
  (convert s d ((Lf.vec b).aa O U)).run P w1 = .ok (v.aa O U) w1):=by
 unfold HV
 refine bh fun k hk=>?_
 refine bh fun kd hkd=>?_
 split
 ·rename_i e
  have hks:=pR hk
  refine bh fun ke AI=>?_
  refine bh fun r hr=>?_
  split
  ·rename_i o a
   refine au ⟨V1.ah.2 trivial,fun U w w1 hw he=>?_⟩
   subst he
   have hv:=FZ hr hw
   have hue:=Nw AI
   have hlen:((a.cells O).map fun d=>Value.int .u8 d.ai).length=(U b).len:=by
    rw [List.length_map];simpa using hv.len
   have hld:∀ x:Addr,(∀ j v,((a.cells O).map fun d=>Value.int .u8 d.ai)[j]? = some v->w1.cell? (x.add j)=some v) ->
     (Conv.bytesToString (.slice (some x) (U b).len (U b).cap)).run P w1 = .ok (.string (qY (a.cells O))) w1:=by
    intro x hx
    have h1:=run_loadCells_list (P:=P) w1 x _ hx
    rw [hlen] at h1
    simp only [Conv.bytesToString,Sem.run_bind,h1,Result.andThen_ok]
    rw [<-Array.forIn_toList,zrE (P:=P) w1 (a.cells O) ByteArray.empty _ (fun d acc=>by simp [DV.byte])]
    have he:ByteArray.empty.data = #[]:=rfl
    simp [qY,he]
   have ng:∀ x:Option Addr,(x=none->a.cells O=[])->(∀ y,x=some y->∀ j v,((a.cells O).map fun d=>Value.int .u8 d.ai)[j]? = some v->w1.cell? (y.add j)=some v) ->
     (convert s d (.slice x (U b).len (U b).cap)).run P w1 = .ok (.string (qY (a.cells O))) w1:=by
    intro x h0 h1
    cases x with
    | none =>
     have he:ByteArray.empty=⟨#[]⟩:=rfl
     simp [convert,run_underlying hks,run_underlying hkd,run_underlying hue,Conv.bytesToString,qY,h0 rfl,he]
    | some y =>
     have:=hld y (h1 y rfl)
     simp [convert,run_underlying hks,run_underlying hkd,run_underlying hue,this]
   cases hn:(U b).nil with
   | true =>
    have h0:=(hv.nil hn).1
    have hl:a.cells O=[]:=by
     have h1:=hv.len
     simp only at h1
     rw [h0,Nat.zero_mul] at h1
     exact List.eq_nil_of_length_eq_zero h1
    have:=ng (U b).raw (fun _=>hl) (fun y _ j v h=>by simp [hl] at h)
    simpa [V.aa,V1.aa,Lf.aa,Loc.slice,hn] using this
   | false =>
    have:=ng (some ⟨(U b).aj,(U b).off,none⟩) (fun h=>by cases h) (fun y hy j v h=>by
     cases hy
     rw [List.getElem?_map] at h
     cases hd:(a.cells O)[j]? with
     | none=>rw [hd] at h;cases h
     | some d =>
      rw [hd] at h
      cases h
      have hj:j<(a.cells O).length:=by
       rcases Nat.lt_or_ge j (a.cells O).length with h | h
       ·exact h
       ·rw [List.getElem?_eq_none h] at hd;cases hd
      obtain ⟨v,h1,h2⟩:=hv.cell j hj
      rw [s_,h1]
      simp only [List.length_singleton,Nat.mod_one,List.getD_cons_zero] at h2
      rw [show (a.cells O).getD j default=d from by simp [List.getD,hd]] at h2
      cases h2
      rfl)
    simpa [V.aa,V1.aa,Lf.aa,Loc.slice,hn] using this
  ·exact aE
 ·exact aE
theorem zlf {i n s:Nat} (h:i<n/s):(i+1)*s<=n:=by
 have:(i+1)*s<=n/s*s:=Nat.mul_le_mul_right _ h
 exact Nat.le_trans this (Nat.div_mul_le_self n s)
theorem zfA {hp:List (Option ag)} {t:TypeId} {b:Nat} {ix:Lf} : M.sat F O (Rf P hp t b ix) (fun l=>l.good O/\∀ U w w1,HS E O U hp w ->
  (Instr.indexAt t (U b).slice (ix.aa O U)).run P w1 = .ok (l.aa O U) w1):=by
 unfold Rf
 refine bh fun k hk=>?_
 split
 ·rename_i elem ki i
  have hu:=pR hk
  refine bh fun sz hs=>?_
  refine bh fun r hr=>?_
  refine aY (fun hc=>?_) (fun _=>aE)
  have hc:=Nat.eq_of_beq_eq_true hc
  refine ak yP fun _ h0=>?_
  refine ak (cz (Q:=fun q=>q.int O=((r.2.2.cells O).length/r.2.1.length:Nat)) fun q h=>A.aM h) fun n hn=>?_
  refine ak (cz (Q:=fun q=>q.bool O=decide (i.int O<n.int O)) fun q h=>A.aq h) fun q hq=>?_
  refine ak (n6 (Q:=fun _=>i.int O<n.int O) fun h=>by rw [hq] at h;simpa using h) fun _ hlt=>au ⟨⟨h0,?_⟩,fun U w w1 hw=>?_⟩
  ·rw [hn] at hlt
   rw [hc]
   exact zlf (by omega)
  ·have hv:=FZ hr hw
   rw [hn,hv.elems] at hlt
   have aZ:(U b).nil=false:=by
    cases hx:(U b).nil with
    | false=>rfl
    | true=>have:=(hv.nil hx).1;omega
   simp [Instr.indexAt,asIntOf,Lf.aa,Loc.slice,aZ,run_underlying hu,h0,hlt,pO hs,s_,bV.val]
 ·exact aE
theorem NQ {sz:Nat} {ix a0 a:A} (h0:0<=ix.int O) (h1:((ix.int O).toNat+1)*sz<=(a0.cells O).length):M.sat F O (Fs sz ix a0 a) (fun _=>((ix.int O).toNat+1)*sz<=(a.cells O).length):=by
 unfold Fs
 refine aY (fun h=>au ?_) (fun _=>?_)
 ·have:=A.aH h O
  rwa [show A.cells O a=A.cells O a0 from by simp [A.cells,this]]
 ·refine ak (cz (Q:=fun q=>q.int O=((a.cells O).length/sz:Nat)) fun q h=>A.aM h) fun n hn=>?_
  refine ak (cz (Q:=fun q=>q.bool O=decide (ix.int O<n.int O)) fun q h=>A.aq h) fun q hq=>?_
  exact n6 fun h=>by
   rw [hq,hn] at h
   exact zlf (by have:=of_decide_eq_true h;omega)
theorem bf.at {w:World} {r:Loc} {o:Bool} {ts:List LT} {xs:List DV} (h:bf E w r o ts xs) {i j:Nat} (hj:j<ts.length) (hi:(i+1)*ts.length<=xs.length) :
  ∃ v,w.cell? ⟨r.aj,r.off+(j+i*ts.length),none⟩=some v/\eD E (ts.getD j .bool) (xs.getD (i*ts.length+j) default) v:=by
 have hlt:i*ts.length+j<xs.length:=by rw [Nat.add_mul] at hi;omega
 obtain ⟨v,h1,h2⟩:=h.cell _ hlt
 rw [Nat.mul_comm i,Nat.mul_add_mod,Nat.mod_eq_of_lt hj] at h2
 refine ⟨v,?_,by rw [Nat.mul_comm i];exact h2⟩
 rw [<-h1]
 congr 2
 omega
theorem SX {ts:List LT} {a ix:A} {j:Nat} (hj:j<ts.length) (hl:((ix.int O).toNat+1)*ts.length<=(a.cells O).length) :
  M.sat F O (Ft ts.length j a ix (ts.getD j .bool)) (fun x=>x.good O/\∀ (U:Nat->Loc) (w:World) (r:Loc) o,bf E w r o ts (a.cells O) ->
   w.cell? ⟨r.aj,r.off+(j+(ix.int O).toNat*ts.length),none⟩=some (x.aa O U)):=by
 cases ht:ts.getD j .bool with
 | int k =>
  unfold Ft
  refine ak (cz (Q:=fun q=>q.int O=((a.cells O).getD ((ix.int O).toNat*ts.length+j) default).ai) fun q h=>A.aM h) fun q hq=>au ⟨trivial,fun U w r o hv=>?_⟩
  obtain ⟨v,h1,h2⟩:=hv.at hj hl
  rw [ht] at h2
  rw [h1]
  cases h2
  simp [Lf.aa,hq]
 | bool =>
  unfold Ft
  refine ak (cz (Q:=fun q=>q.bool O=((a.cells O).getD ((ix.int O).toNat*ts.length+j) default).aA) fun q h=>A.aq h) fun q hq=>au ⟨trivial,fun U w r o hv=>?_⟩
  obtain ⟨v,h1,h2⟩:=hv.at hj hl
  rw [ht] at h2
  rw [h1]
  cases h2
  simp [Lf.aa,hq]
 | vec us=>exact aE
theorem SY {ts:List LT} {a ix:A} (hl:((ix.int O).toNat+1)*ts.length<=(a.cells O).length):∀ (n j:Nat),j+n<=ts.length ->
  M.sat F O (HW ts a ix j n) (fun xs=>xs.length=n/\(∀ x∈xs,Lf.good O x)/\∀ i x,xs[i]? = some x->∀ (U:Nat->Loc) (w:World) (r:Loc) o,bf E w r o ts (a.cells O) ->
   w.cell? ⟨r.aj,r.off+(j+i+(ix.int O).toNat*ts.length),none⟩=some (x.aa O U))
 | 0,j,_=>au ⟨rfl,fun x hx=>(by cases hx),fun i x h=>(by simp at h)⟩
 | n+1,j,hj=>by
  unfold HW
  refine ak (SX (E:=E) (show j<ts.length by omega) hl) fun x hx=>ak (SY hl n (j+1) (by omega)) fun r hr=>au ⟨by simp [hr.1],fun y hy=>?_,fun i y hi=>?_⟩
  ·rcases List.mem_cons.1 hy with rfl | hy
   ·exact hx.1
   ·exact hr.2.1 y hy
  ·cases i with
   | zero=>simp at hi;subst hi;exact hx.2
   | succ i =>
    have:=hr.2.2 i y (by simpa using hi)
    rwa [show j+1+i=j+(i+1) from by omega] at this
theorem zpj {ts:List LT} {base size:Nat} {t:LT} (h:Rg ts base size=some t):t.flat=true/\∀ i,i<size->ts.getD (base+i) .bool=t:=by
 unfold Rg at h
 split at h
 ·rename_i u l hl
  split at h
  ·rename_i hc
   cases h
   simp only [Bool.and_eq_true] at hc
   obtain ⟨⟨⟨_,c2⟩,c3⟩,c4⟩:=hc
   have c2:=Nat.eq_of_beq_eq_true c2
   refine ⟨c3,fun i hi=>?_⟩
   have e:ts[base+i]? = (t::l)[i]?:=by rw [<-hl,List.getElem?_take_of_lt hi,List.getElem?_drop]
   rw [List.getD_eq_getElem?_getD,e]
   cases i with
   | zero=>rfl
   | succ i =>
    rw [List.getElem?_cons_succ,List.getElem?_eq_getElem (by omega)]
    exact (LT.jv (List.all_eq_true.1 c4 _ (List.getElem_mem _))).symm
  ·cases h
 ·cases h
theorem zqK (t:LT) (a:A):∀ (n i:Nat),(oF t a i n).length=n
 | 0,_=>rfl
 | n+1,i=>by simp [oF,zqK t a n]
theorem zqL {t:LT} {a:A} : ∀ {n i j:Nat} {x:Lf},(oF t a i n)[j]? = some x->j<n/\x = .e t a (i+j)
 | 0,i,j,x,h=>by simp [oF] at h
 | n+1,i,0,x,h=>by simp [oF] at h;exact ⟨by omega,h.symm⟩
 | n+1,i,j+1,x,h=>by
  simp only [oF,List.getElem?_cons_succ] at h
  obtain ⟨h1,h2⟩:=zqL h
  exact ⟨by omega,by rw [h2];congr 1;omega⟩
theorem znR {t:LT} {a:A} {x:Lf} : ∀ {n i:Nat},x∈oF t a i n->x.good O
 | 0,_,h=>by cases h
 | n+1,i,h=>by
  rcases List.mem_cons.1 h with rfl | h
  ·trivial
  ·exact znR h
theorem SZ {t:TypeId} {k:TK} {sz:Nat} {ts:List LT} {a:A} {off:bV} (hk:tk P t=some k) (hs:hM P t=some sz) (hg:off.good O) :
  M.sat F O (B4 ts a off (oC k) sz) (fun v=>v.good O/\∀ (U:Nat->Loc) (w:World) (r:Loc) o,bf E w r o ts (a.cells O)->(loadVar t ⟨r.aj,r.off+off.val O,none⟩).run P w = .ok (v.aa O U) w):=by
 unfold B4
 split
 ·rename_i base ix sz' a0
  refine aY (fun hc=>?_) (fun _=>aE)
  simp only [Bool.and_eq_true] at hc
  have h1:=Nat.eq_of_beq_eq_true hc.1
  have h2:=Nat.le_of_ble_eq_true hc.2
  subst h1
  refine ak (NQ hg.1 hg.2) fun _ hl=>?_
  refine aY (fun ha=>?_) (fun ha=>?_)
  ·split
   ·rename_i u hgr
    have hgs:=zpj hgr
    refine ak (cz (Q:=fun q=>q.cells O=(List.range sz).map fun k=>(a.cells O).getD ((ix.int O).toNat*ts.length+base+k) default) fun q h=>A.aK h) fun q hq=>au ⟨V1.aP.2 fun x hx=>znR hx,fun U w r o hv=>?_⟩
    refine IK hk ha hs (by simp [zqK]) fun i v hi=>?_
    rw [List.getElem?_map] at hi
    obtain ⟨l,hl',rfl⟩:=Option.map_eq_some_iff.1 hi
    obtain ⟨hi2,rfl⟩:=zqL hl'
    obtain ⟨v,g1,g2⟩:=hv.at (i:=(ix.int O).toNat) (j:=base+i) (by omega) hl
    rw [hgs.2 i hi2] at g2
    have e1:(⟨r.aj,r.off+(bV.v base ix ts.length a0).val O+i,none⟩:Addr)=⟨r.aj,r.off+(base+i+(ix.int O).toNat*ts.length),none⟩:=by
     simp only [bV.val];congr 1;omega
    rw [e1,g1]
    have e2:(q.cells O).getD (0+i) default=(a.cells O).getD ((ix.int O).toNat*ts.length+(base+i)) default:=by
     rw [hq,List.getD_eq_getElem?_getD,List.getElem?_map,List.getElem?_range (by omega),Nat.zero_add]
     show (a.cells O).getD ((ix.int O).toNat*ts.length+base+i) default=_
     congr 1
     omega
    congr 1
    have hfl:=hgs.1
    cases u with
    | int kk=>cases g2;simp only [Lf.aa];rw [e2]
    | bool=>cases g2;simp only [Lf.aa];rw [e2]
    | vec us=>cases hfl
   ·refine ak (SY (E:=E) hl sz base h2) fun xs hxs=>au ⟨V1.aP.2 hxs.2.1,fun U w r o hv=>?_⟩
    refine IK hk ha hs (by simpa using hxs.1) fun i v hi=>?_
    rw [List.getElem?_map] at hi
    obtain ⟨l,hl',rfl⟩:=Option.map_eq_some_iff.1 hi
    have:=hxs.2.2 i l hl' U w r o hv
    rw [<-this]
    simp only [bV.val]
    congr 2
    omega
  ·refine aY (fun hb=>?_) (fun _=>aE)
   have hb:base<ts.length:=Nat.le_of_ble_eq_true hb
   refine ak (SX (E:=E) hb hl) fun x hx=>au ⟨V1.ah.2 hx.1,fun U w r o hv=>?_⟩
   exact FT hk ha (hx.2 U w r o hv)
 ·rename_i base ix sz' a0 hY jI fe
  refine aY (fun hc=>?_) (fun _=>aE)
  simp only [Bool.and_eq_true,Bool.not_eq_true'] at hc
  obtain ⟨⟨⟨ha,h1⟩,h2⟩,h3⟩:=hc
  have h1:=Nat.eq_of_beq_eq_true h1
  have h2:=Nat.le_of_ble_eq_true h2
  have h3:=Nat.eq_of_beq_eq_true h3
  subst h1 h3
  refine ak (NQ hg.1.1 hg.1.2) fun _ hl=>ak (SY (E:=E) hl fe base h2) fun xs hxs=>ak (FP hxs.1 hg.2.1 hg.2.2) fun x hx=>au ⟨V1.ah.2 hx.1,fun U w r o hv=>?_⟩
  obtain ⟨y,e1,e2⟩:=hx.2 U
  refine FT hk (by rw [ha];decide) ?_
  have:=hxs.2.2 _ y e1 U w r o hv
  rw [V1.aa,e2,<-this]
  simp only [bV.val]
  congr 2
  omega
 ·exact aE
theorem Lf.dV {n m:Nat} (h:n<=m) {x:Lf} (hx:x.lt n=true):x.lt m=true:=by
 cases x<;>simp only [Lf.lt,decide_eq_true_eq] at hx ⊢<;>try omega
 ·exact List.all_eq_true.2 fun b hb=>by have:=List.all_eq_true.1 hx b hb;simp only [decide_eq_true_eq] at this ⊢;omega
 ·refine List.all_eq_true.2 fun b hb=>?_
  have:=List.all_eq_true.1 hx b hb
  obtain ⟨k,y⟩:=b
  cases y<;>simp only [Alt.lt,decide_eq_true_eq] at this ⊢<;>omega
theorem ag.dV {n m:Nat} (h:n<=m) {x:ag} (hx:x.lt n=true):x.lt m=true:=by
 cases x with
 | obj=>rfl
 | v o ts a=>rfl
 | l o f ts a=>rfl
 | m o kt vt cs=>exact List.all_eq_true.2 fun y hy=>Lf.dV h (List.all_eq_true.1 (show cs.all (Lf.lt n)=true from hx) y hy)
 | c o cs =>
  refine List.all_eq_true.2 fun y hy=>?_
  have:=List.all_eq_true.1 (show cs.all (dw (Lf.lt n))=true from hx) y hy
  cases y with
  | none=>rfl
  | some l=>exact Lf.dV h this
theorem zs5 {hp:List (Option ag)} (h:bH hp=true) {bk:ag} (hb:bk.lt (hp.length+1)=true):bH (hp++[some bk])=true:=by
 unfold bH at *
 rw [List.all_append,List.length_append]
 simp only [List.all_cons,List.all_nil,Bool.and_true,Bool.and_eq_true,List.length_cons,List.length_nil]
 refine ⟨List.all_eq_true.2 fun x hx=>?_,hb⟩
 have:=List.all_eq_true.1 h x hx
 cases x with
 | none=>rfl
 | some b=>exact ag.dV (by omega) this
theorem eD.y8 {us:List LT} {d:DV} {v:Value} (h:eD E (.vec us) d v):∃ (r:Loc) (vs:Nat->Value),v=r.slice/\(r.nil=true->r.len=0/\r.cap=0)/\(r.nil=false->r.aj<E.w0.heap.size/\¬ E.W r.aj/\E.V r.aj) /\
  0<us.length/\d.ay.length=r.len*us.length/\r.len<=r.cap/\(∀ i,i<d.ay.length->E.w0.cell? ⟨r.aj,r.off+i,none⟩=some (vs i))/\∀ i,i<d.ay.length->eD E (us.getD (i%us.length) .bool) (d.ay.getD i default) (vs i):=by
 cases h with
 | vec _ _ r vs aZ hlt hpos hlen hcap hv hc=>exact ⟨r,vs,rfl,aZ,hlt,hpos,hlen,hcap,hv,hc⟩
theorem S0 {ts:List LT} {a ix:A} (hl:((ix.int O).toNat+1)*ts.length<=(a.cells O).length):∀ (n j:Nat) (hp:List (Option ag)),j+n<=ts.length ->
  M.sat F O (HX ts a ix j n hp) (fun q=>∀ U w,HS E O U hp w->bH hp=true->∀ (r:Loc) o,bf E w r o ts (a.cells O) ->
   q.1.length=n/\(∀ x∈q.1,Lf.good O x)/\∃ U':Nat->Loc,(∀ k,k<hp.length->U' k=U k)/\HS E O U' q.2 w/\∀ i x,q.1[i]? = some x ->
    w.cell? ⟨r.aj,r.off+(j+i+(ix.int O).toNat*ts.length),none⟩=some (x.aa O U'))
 | 0,j,hp,_=>au fun U w h _ r o hv=>⟨rfl,fun x hx=>(by cases hx),U,fun _ _=>rfl,h,fun i x h=>(by simp at h)⟩
 | n+1,j,hp,hj=>by
  unfold HX
  have hj2:j<ts.length:=by omega
  split
  ·rename_i us AJ
   refine aY (fun hfl=>?_) (fun _=>aE)
   refine ak (cz (Q:=fun q=>q.cells O=((a.cells O).getD ((ix.int O).toNat*ts.length+j) default).ay) fun q h=>A.aK h) fun q hq=>?_
   refine ak (S0 hl n (j+1) (hp++[some (.v false us q)]) (by omega)) fun z hz=>au fun U w h hlt r o hv=>?_
   obtain ⟨v,h1,h2⟩:=hv.at hj2 hl
   rw [AJ] at h2
   generalize hd:(a.cells O).getD ((ix.int O).toNat*ts.length+j) default=d at *
   obtain ⟨r2,vs,rfl,aZ,oN,hpos,hlen,hcap,ng,hc⟩:=eD.y8 h2
   have kD:Below w.heap.size w w:=Below.refl _ _
   have hsame:r2.nil=false->∀ i,w.cell? ⟨r2.aj,r2.off+i,none⟩=E.w0.cell? ⟨r2.aj,r2.off+i,none⟩:=fun hn i=>by
    obtain ⟨k1,k2,_⟩:=oN hn
    exact World.cell?_of_block (w:=E.w0) (h.fr.block _ k1 k2)
   have hrel:bf E w r2 false us (q.cells O):=by
    rw [hq]
    refine ⟨aZ,fun hn=>Nat.lt_of_lt_of_le (oN hn).1 h.fr.size,hpos,hlen,hcap,fun i hi=>?_,fun e=>(by cases e),fun e=>by cases e⟩
    cases hn:r2.nil with
    | true =>
     have:=(aZ hn).1
     rw [hlen,this,Nat.zero_mul] at hi
     omega
    | false=>exact ⟨vs i,by rw [hsame hn i];exact ng i hi,hc i hi⟩
   have I2:=h.qt hlt kD (bk:=.v false us q) (r:=r2) hrel (fun k b' hk hn hn'=>⟨fun o=>(by cases o),fun ho hfo=>by
    obtain ⟨k1,k2,_⟩:=oN hn
    rcases h.old k b' hk with g | g
    ·rw [hn'] at g;cases g
    ·rcases g.wr ho _ hfo with g | g
     ·omega
     ·exact k2 g⟩) (by
    cases hn:r2.nil with
    | true=>exact .inl rfl
    | false=>exact .inr (.inr (.inr ⟨rfl,(oN hn).2.2⟩)))
   obtain ⟨z1,z2,U',z3,z4,z5⟩:=hz _ w I2 (zs5 hlt rfl) r o hv
   rw [List.length_append,List.length_cons,List.length_nil] at z3
   refine ⟨by simp [z1],fun x hx=>?_,U',fun k hk=>by rw [z3 k (by omega),nD hk],z4,fun i x hi=>?_⟩
   ·rcases List.mem_cons.1 hx with rfl | hx
    ·trivial
    ·exact z2 x hx
   ·cases i with
    | zero =>
     simp only [List.getElem?_cons_zero,Option.some.injEq] at hi
     subst hi
     rw [Nat.add_zero,h1]
     simp only [Lf.aa,z3 hp.length (by omega),uf]
    | succ i =>
     rw [List.getElem?_cons_succ] at hi
     have:=z5 i x hi
     rwa [show j+1+i=j+(i+1) from by omega] at this
  ·refine ak (SX (E:=E) hj2 hl) fun x hx=>ak (S0 hl n (j+1) hp (by omega)) fun z hz=>au fun U w h hlt r o hv=>?_
   obtain ⟨z1,z2,U',z3,z4,z5⟩:=hz U w h hlt r o hv
   refine ⟨by simp [z1],fun y hy=>?_,U',z3,z4,fun i y hi=>?_⟩
   ·rcases List.mem_cons.1 hy with rfl | hy
    ·exact hx.1
    ·exact z2 y hy
   ·cases i with
    | zero =>
     simp only [List.getElem?_cons_zero,Option.some.injEq] at hi
     subst hi
     exact hx.2 U' w r o hv
    | succ i =>
     rw [List.getElem?_cons_succ] at hi
     have:=z5 i y hi
     rwa [show j+1+i=j+(i+1) from by omega] at this
theorem znS {t:TypeId} {k:TK} {sz:Nat} {ts:List LT} {a:A} {off:bV} {hp:List (Option ag)} (hk:tk P t=some k) (hs:hM P t=some sz) (hg:off.good O) :
  M.sat F O (M9 ts a off (oC k) sz hp) (fun q=>∀ U w,HS E O U hp w->bH hp=true->∀ (r:Loc) o,bf E w r o ts (a.cells O) ->
   q.1.good O/\∃ U':Nat->Loc,(∀ k,k<hp.length->U' k=U k)/\HS E O U' q.2 w/\(loadVar t ⟨r.aj,r.off+off.val O,none⟩).run P w = .ok (q.1.aa O U') w):=by
 unfold M9
 split
 ·rename_i base ix sz' a0
  refine aY (fun hc=>?_) (fun _=>aE)
  simp only [Bool.and_eq_true] at hc
  have h1:=Nat.eq_of_beq_eq_true hc.1.1
  have h2:=Nat.le_of_ble_eq_true hc.1.2
  subst h1
  refine ak (NQ hg.1 hg.2) fun _ hl=>ak (S0 (E:=E) hl sz base hp h2) fun z hz=>?_
  refine aY (fun ha=>?_) (fun ha=>?_)
  ·refine au fun U w h hlt r o hv=>?_
   obtain ⟨z1,z2,U',z3,z4,z5⟩:=hz U w h hlt r o hv
   refine ⟨V1.aP.2 z2,U',z3,z4,IK hk ha hs (by simpa using z1) fun i v hi=>?_⟩
   rw [List.getElem?_map] at hi
   obtain ⟨l,hl',rfl⟩:=Option.map_eq_some_iff.1 hi
   have:=z5 i l hl'
   rw [<-this]
   simp only [bV.val]
   congr 2
   omega
  ·split
   ·rename_i x hx
    refine au fun U w h hlt r o hv=>?_
    obtain ⟨z1,z2,U',z3,z4,z5⟩:=hz U w h hlt r o hv
    rw [hx] at z2 z5
    refine ⟨V1.ah.2 (z2 x (by simp)),U',z3,z4,FT hk ha ?_⟩
    have:=z5 0 x rfl
    rw [Nat.add_zero] at this
    exact this
   ·exact aE
 ·refine ak (SZ (E:=E) hk hs hg) fun v hv=>au fun U w h hlt r o hr=>?_
  exact ⟨hv.1,U,fun _ _=>rfl,h,hv.2 U w r o hr⟩
 ·exact aE
def y9:List DV->Nat->List DV->List DV
 | l,_,[]=>l
 | l,p,v::vs=>y9 (l.set p v) (p+1) vs
theorem znT:∀ (vs l:List DV) (p:Nat),(y9 l p vs).length=l.length
 | [],_,_=>rfl
 | v::vs,l,p=>by rw [y9,znT vs];simp
theorem S3:∀ (vs l:List DV) (p i:Nat),(i<p\/p+vs.length<=i)->(y9 l p vs)[i]? = l[i]?
 | [],_,_,_,_=>rfl
 | v::vs,l,p,i,h=>by
  simp only [List.length_cons] at h
  rw [y9,S3 vs _ _ i (by omega),List.getElem?_set_ne (by omega)]
theorem zqM:∀ (vs l:List DV) (p k:Nat),k<vs.length->p+k<l.length->(y9 l p vs)[p+k]? = vs[k]?
 | [],_,_,_,h,_=>by simp at h
 | v::vs,l,p,0,_,h2=>by
  simp only [y9,Nat.add_zero] at h2 ⊢
  rw [S3 vs _ _ p (by omega),List.getElem?_set_self (by simpa using h2)]
  rfl
 | v::vs,l,p,k+1,h1,h2=>by
  rw [y9,show p+(k+1)=p+1+k from by omega,zqM vs _ (p+1) k (by simpa using h1) (by simp;omega)]
  rfl
theorem S4 {t:LT} {x:Lf} {a:A} (h:HU t x=some a):x.good O/\x.ok=true/\∀ U,eD E t (nrm (HT t) (a.den O)) (x.aa O U):=by
 unfold HU at h
 split at h
 ·split at h
  ·rename_i hk
   have:=pN hk;subst this
   cases h
   exact ⟨trivial,rfl,fun U=>.int _ (.i _)⟩
  ·cases h
 ·cases h
  exact ⟨trivial,rfl,fun U=>.bool (.b _)⟩
 ·cases h
theorem zgC {ts:List LT} {ix:A} : ∀ (xs:List Lf) (j:Nat) (a:A),
  M.sat F O (M_ ts ix j a xs) (fun a'=>∃ vs:List DV,vs.length=xs.length/\a'.cells O=y9 (a.cells O) ((ix.int O).toNat*ts.length+j) vs/\(∀ x∈xs,x.good O/\x.ok=true) /\
   ∀ i x v,xs[i]? = some x->vs[i]? = some v->∀ U,eD E (ts.getD (j+i) .bool) v (x.aa O U))
 | [],j,a=>au ⟨[],rfl,rfl,fun x hx=>(by cases hx),fun i x v h=>(by simp at h)⟩
 | x::xs,j,a=>by
  unfold M_
  refine bh fun v hv=>?_
  refine ak (cz (Q:=fun q=>q.cells O=(a.cells O).set ((ix.int O).toNat*ts.length+j) (nrm (HT (ts.getD j .bool)) (v.den O))) fun q h=>A.aK h) fun q hq=>?_
  refine cH (zgC xs (j+1) q) fun a' ⟨vs,h1,h2,h3,h4⟩=>⟨nrm (HT (ts.getD j .bool)) (v.den O)::vs,by simp [h1],?_,?_,?_⟩
  ·rw [h2,hq]
   rfl
  ·intro y hy
   rcases List.mem_cons.1 hy with rfl | hy
   ·have:=S4 (E:=E) (O:=O) hv
    exact ⟨this.1,this.2.1⟩
   ·exact h3 y hy
  ·intro i y u hi hu U
   cases i with
   | zero=>simp at hi hu;subst hi;subst hu;exact (S4 hv).2.2 U
   | succ i =>
    have:=h4 i y u (by simpa using hi) (by simpa using hu) U
    rwa [show j+1+i=j+(i+1) from by omega] at this
theorem znU {ts:List LT} {a:A} {off:bV} {xs:List Lf} (hg:off.good O) (hne:xs≠[]) :
  M.sat F O (Rh ts a off xs) (fun a'=>∀ (U:Nat->Loc) (w:World) (r:Loc),bf E w r true ts (a.cells O)->r.nil=false/\(∀ x∈xs,x.ok=true) /\
   (storeCells ⟨r.aj,r.off+off.val O,none⟩ (xs.map (Lf.aa O U))).run P w = .ok () (w.setCells r.aj (r.off+off.val O) (xs.map (Lf.aa O U))) /\
   bf E (w.setCells r.aj (r.off+off.val O) (xs.map (Lf.aa O U))) r true ts (a'.cells O)):=by
 unfold Rh
 split
 ·rename_i base ix sz' a0
  refine aY (fun hc=>?_) (fun _=>aE)
  simp only [Bool.and_eq_true] at hc
  have h1:=Nat.eq_of_beq_eq_true hc.1
  have h2:=Nat.le_of_ble_eq_true hc.2
  subst h1
  refine ak (NQ hg.1 hg.2) fun _ hl=>?_
  refine cH (zgC (E:=E) xs base a) fun a' ⟨vs,k1,k2,k3,k4⟩ U w r hv=>?_
  have hpos:0<xs.length:=by cases xs with | nil=>exact absurd rfl hne | cons x xs=>simp
  have hcap:((ix.int O).toNat+1)*ts.length<=r.cap*ts.length:=by
   have:=hv.len
   have h3:r.len*ts.length<=r.cap*ts.length:=Nat.mul_le_mul_right _ hv.cap
   omega
  have aZ:r.nil=false:=by
   cases hx:r.nil with
   | false=>rfl
   | true =>
    have:=(hv.nil hx).2
    rw [this,Nat.zero_mul] at hcap
    have:=hv.pos
    rw [Nat.add_mul] at hcap
    omega
  rw [Nat.add_mul,Nat.one_mul] at hl hcap
  rw [Nat.add_comm] at k2
  have hmod:∀ k,k<xs.length->(base+(ix.int O).toNat*ts.length+k)%ts.length=base+k:=fun k hk=>by
   rw [show base+(ix.int O).toNat*ts.length+k=ts.length*(ix.int O).toNat+(base+k) from by rw [Nat.mul_comm];omega,Nat.mul_add_mod,Nat.mod_eq_of_lt (by omega)]
  have hroom:base+(ix.int O).toNat*ts.length+xs.length<=(a.cells O).length:=by omega
  have S5:base+(ix.int O).toNat*ts.length+xs.length<=r.cap*ts.length:=by omega
  simp only [bV.val]
  generalize base+(ix.int O).toNat*ts.length=p at *
  have hex:∀ k,k<xs.length->(w.cell? ⟨r.aj,r.off+p+k,none⟩).isSome=true/\w.frozen? ⟨r.aj,r.off+p+k,none⟩=false:=fun k hk=>by
   have:=hv.own rfl aZ (p+k) (by omega)
   rwa [<-Nat.add_assoc] at this
  refine ⟨aZ,fun x hx=>(k3 x hx).2,?_,?_⟩
  ·have:=run_storeCells_cells (P:=P) r.aj (r.off+p) (xs.map (Lf.aa O U)) 0 w (by simpa using fun k hk=>(hex k hk).1) (by simpa using fun k hk=>(hex k hk).2)
    (fun v hv=>by obtain ⟨l,hl,rfl⟩:=List.mem_map.1 hv;exact Lf.iM (k3 l hl).2 U)
   simpa using this
  ·have hlen:(a'.cells O).length=(a.cells O).length:=by rw [k2,znT]
   refine ⟨hv.nil,fun e=>by rw [yU];exact hv.lt e,hv.pos,by rw [hlen];exact hv.len,hv.cap,fun i hi=>?_,fun _ e i hi=>?_,fun ho e=>⟨(hv.fz ho e).1,fun o=>by rw [World.frozen?_setCells];exact (hv.fz ho e).2 o⟩⟩
   ·rw [hlen] at hi
    by_cases hin:p<=i/\i<p+xs.length
    ·obtain ⟨k,hk⟩:∃ k,i=p+k:=⟨i-p,by omega⟩
     have gL:k<xs.length:=by omega
     have e1:=World.cell?_setCells_in r.aj (xs.map (Lf.aa O U)) (r.off+p) w (by simpa using fun k hk=>(hex k hk).1) k (by simpa using gL)
     refine ⟨(xs[k]).aa O U,?_,?_⟩
     ·rw [hk,<-Nat.add_assoc,e1]
      simp
     ·have e2:=zqM vs (a.cells O) p k (by omega) (by omega)
      have hkv:k<vs.length:=by omega
      have e3:(a'.cells O).getD i default=vs[k]:=by
       subst hk
       rw [List.getD_eq_getElem?_getD,k2,e2,List.getElem?_eq_getElem hkv]
       rfl
      have e4:=k4 k xs[k] vs[k] (List.getElem?_eq_getElem gL) (List.getElem?_eq_getElem hkv) U
      rw [e3,hk,hmod k gL]
      exact e4
    ·obtain ⟨v,g1,g2⟩:=hv.cell i hi
     refine ⟨v,?_,?_⟩
     ·rw [World.cell?_setCells_out _ _ _ _ _ (fun _ _=>by simp;omega)]
      exact g1
     ·have:(a'.cells O).getD i default=(a.cells O).getD i default:=by
       rw [List.getD_eq_getElem?_getD,List.getD_eq_getElem?_getD,k2,S3 vs _ _ i (by omega)]
      rw [this]
      exact g2
   ·rw [World.frozen?_setCells]
    have:=hv.own rfl e i hi
    refine ⟨?_,this.2⟩
    by_cases hi2:p<=i/\i<p+xs.length
    ·obtain ⟨k,hk⟩:∃ k,i=p+k:=⟨i-p,by omega⟩
     have gL:k<xs.length:=by omega
     have e1:=World.cell?_setCells_in r.aj (xs.map (Lf.aa O U)) (r.off+p) w (by simpa using fun k hk=>(hex k hk).1) k (by simpa using gL)
     rw [hk,<-Nat.add_assoc,e1]
     rfl
    ·rw [World.cell?_setCells_out _ _ _ _ _ (fun _ _=>by simp;omega)]
     exact this.1
 ·exact aE
def jL (E:Env) (O:Nat->DV) (U:Nat->Loc) (hp:List (Option ag)) (v:Value) (w':World):OR->Prop
 | .hp (some u) hp'=>u.good O/\∃ U':Nat->Loc,(∀ j,j<hp.length->U' j=U j)/\HS E O U' hp' w'/\v=u.aa O U'
 | _=>False
theorem jL.run {U:Nat->Loc} {hp:List (Option ag)} {x:Sem Next} {y:Sem Value} {z:OR} (hx:∀ w v w',y.run P w = .ok v w'->x.run P w = .ok (.value v) w')
  (h:∀ w,HS E O U hp w->∃ v w',y.run P w = .ok v w'/\jL E O U hp v w' z):cT P I E O U hp x z:=by
 cases z with
 | val v=>intro w hw _;obtain ⟨_,_,_,h2⟩:=h w hw;exact h2.elim
 | hp v hp' =>
  intro w hw _
  obtain ⟨u,w',h1,h2⟩:=h w hw
  cases v with
  | none=>exact h2.elim
  | some v =>
   obtain ⟨g,U',h3,h4,h5⟩:=h2
   exact .inl ⟨u,w',hx w u w' h1,U',h3,h4,fun q hq=>by cases hq;exact ⟨g,by rw [h5]⟩⟩
theorem jL.mk {U:Nat->Loc} {hp c6:List (Option ag)} {w':World} {v:Value} {bk:ag} {r:Loc} (_hl:c6.length=hp.length) (hv:v=r.slice) (h:HS E O (ext U hp.length r) (c6++[some bk]) w') :
  jL E O U hp v w' (.hp (some (.s (.one (.vec hp.length)))) (c6++[some bk])) :=
 ⟨V1.ah.2 trivial,ext U hp.length r,fun j hj=>nD hj,h,by rw [hv];simp [V.aa,V1.aa,Lf.aa,uf]⟩
def AK (x:Option Value) (d n:Nat):Prop:=(x=none/\n=d)\/∃ k,x=some (.int k n)
theorem zeI {b:Bool} {len cap l h:Nat} {lo hi:Option Value} (hlo:AK lo 0 l) (hhi:AK hi len h) (h1:l<=h) (h2:h<=cap) (h3:len<=cap) (w:World) :
  (Instr.sliceBounds b len cap lo hi none).run P w = .ok (l,h,cap) w:=by
 rcases hlo with ⟨rfl,rfl⟩ | ⟨k,rfl⟩<;>rcases hhi with ⟨rfl,rfl⟩ | ⟨k',rfl⟩<;>simp [Instr.sliceBounds,Instr.sliceBound,asIntOf,h1,h2,Int.ofNat_le]
theorem zgD {t:TypeId} {e sz:Nat} (ht:P.underlying t=some (.slice e)) (hs:hM P e=some sz) {r:Loc} {lo hi:Option Value} {l h:Nat} (hlo:AK lo 0 l) (hhi:AK hi r.len h) (h1:l<=h) (h2:h<=r.len) (h3:r.len<=r.cap) (w:World) :
  (Instr.sliceAt t r.slice lo hi none).run P w = .ok (Loc.slice ⟨r.aj,if r.cap=l then r.off else r.off+l*sz,r.nil,h-l,r.cap-l,if r.cap=l then r.raw else r.raw.map fun x:Addr=>x.add (l*sz)⟩) w:=by
 have hb:=zeI (P:=P) (b:=true) (cap:=r.cap) hlo hhi h1 (by omega) h3 w
 simp only [Instr.sliceAt,Instr.slice,Loc.slice,Sem.run_bind,run_underlying ht,Result.andThen_ok,hb,pO hs,Sem.run_pure]
 cases r.nil
 ·by_cases hc:r.cap=l<;>simp [hc,s_]
 ·simp
theorem zmj {t:TypeId} {n e sz:Nat} (ht:P.underlying t=some (.array n e)) (hs:hM P e=some sz) {b o:Nat} {lo hi:Option Value} {l h:Nat} (hlo:AK lo 0 l) (hhi:AK hi n h) (h1:l<=h) (h2:h<=n) (w:World) :
  (Instr.sliceAt t (.pointer (some ⟨b,o,none⟩)) lo hi none).run P w = .ok (Loc.slice ⟨b,if n=l then o else o+l*sz,false,h-l,n-l,none⟩) w:=by
 have hb:=zeI (P:=P) (b:=false) (cap:=n) hlo hhi h1 h2 (Nat.le_refl _) w
 simp only [Instr.sliceAt,Loc.slice,Sem.run_bind,run_underlying ht,Result.andThen_ok,hb,pO hs,Sem.run_pure,Instr.sureAddr]
 by_cases hc:n=l<;>simp [hc,s_]
theorem bf.cut {w:World} {r:Loc} {o:Bool} {ts:List LT} {xs:List DV} (hv:bf E w r o ts xs) {l h:Nat} (h1:l<=h) (h2:h<=r.len) {x:Option Addr} :
  bf E w ⟨r.aj,if r.cap=l then r.off else r.off+l*ts.length,r.nil,h-l,r.cap-l,x⟩ o ts ((xs.take (h*ts.length)).drop (l*ts.length)):=by
 have hle:h*ts.length<=xs.length:=by rw [hv.len];exact Nat.mul_le_mul_right _ h2
 have hlen:((xs.take (h*ts.length)).drop (l*ts.length)).length=(h-l)*ts.length:=by
  rw [List.length_drop,List.length_take,Nat.min_eq_left hle,Nat.sub_mul]
 have hcap:=hv.cap
 refine ⟨fun hn=>?_,hv.lt,hv.pos,hlen,by show h-l<=r.cap-l;omega,fun i hi=>?_,fun ho hn i hi=>?_,fun ho hn=>⟨Nat.le_trans (Nat.sub_le _ _) (hv.fz ho hn).1,(hv.fz ho hn).2⟩⟩
 ·have:=hv.nil hn
  exact ⟨by show h-l=0;omega,by show r.cap-l=0;omega⟩
 ·rw [hlen] at hi
  have hlh:l<h:=by
   rcases Nat.lt_or_ge l h with h | h
   ·exact h
   ·rw [Nat.sub_eq_zero_of_le h,Nat.zero_mul] at hi;omega
  rw [Nat.sub_mul] at hi
  obtain ⟨v,e1,e2⟩:=hv.cell (l*ts.length+i) (by omega)
  refine ⟨v,?_,?_⟩
  ·show w.cell? ⟨r.aj,(if r.cap=l then r.off else r.off+l*ts.length)+i,none⟩=some v
   rw [if_neg (by omega),<-e1]
   congr 2
   omega
  ·have e3:((xs.take (h*ts.length)).drop (l*ts.length)).getD i default=xs.getD (l*ts.length+i) default:=by
    simp only [List.getD_eq_getElem?_getD]
    rw [List.getElem?_drop,List.getElem?_take_of_lt (by omega)]
   rw [e3]
   have e4:(l*ts.length+i)%ts.length=i%ts.length:=by rw [Nat.mul_comm l,Nat.mul_add_mod]
   rw [<-e4]
   exact e2
 ·have hi:i<(r.cap-l)*ts.length:=hi
  have hlc:l<r.cap:=by
   rcases Nat.lt_or_ge l r.cap with h | h
   ·exact h
   ·rw [Nat.sub_eq_zero_of_le h,Nat.zero_mul] at hi;omega
  have rV:l*ts.length<=r.cap*ts.length:=Nat.mul_le_mul_right _ (by omega)
  rw [Nat.sub_mul] at hi
  have:=hv.own ho hn (l*ts.length+i) (by omega)
  show (w.cell? ⟨r.aj,(if r.cap=l then r.off else r.off+l*ts.length)+i,none⟩).isSome=true/\w.frozen? ⟨r.aj,(if r.cap=l then r.off else r.off+l*ts.length)+i,none⟩=false
  rw [if_neg (by omega),Nat.add_assoc]
  exact this
theorem S6 {sz:Nat} {a:A} {high:Option Lf} (hd:(a.cells O).length%sz=0):M.sat F O (HZ sz a high) (fun q=>∃ h:Nat,h<=(a.cells O).length/sz/\q.2.int O=h/\q.1.cells O=(a.cells O).take (h*sz) /\
  ∀ U:Nat->Loc,AK (high.map (Lf.aa O U)) ((a.cells O).length/sz) h):=by
 unfold HZ
 split
 ·refine ak (cz (Q:=fun q=>q.int O=((a.cells O).length/sz:Nat)) fun q h=>A.aM h) fun n hn=>au ⟨_,Nat.le_refl _,hn,?_,fun U=>.inl ⟨rfl,rfl⟩⟩
  rw [Nat.div_mul_cancel (Nat.dvd_of_mod_eq_zero hd),List.take_length]
 ·rename_i k h
  refine ak yP fun _ h0=>?_
  refine ak (cz (Q:=fun q=>q.int O=((a.cells O).length/sz:Nat)) fun q h=>A.aM h) fun n hn=>?_
  refine ak Ct fun _ h1=>?_
  refine ak (cz (Q:=fun q=>q.cells O=(a.cells O).take ((h.int O).toNat*sz)) fun q h=>A.aK h) fun q hq=>au ⟨(h.int O).toNat,by omega,by show h.int O=((h.int O).toNat:Int);omega,hq,fun U=>.inr ⟨k,?_⟩⟩
  simp [Lf.aa,Int.toNat_of_nonneg h0]
 ·exact aE
theorem S7 {sz:Nat} {a n:A} {low:Option Lf} {h:Nat} (hn:n.int O=h):M.sat F O (H6 sz a n low) (fun q=>∃ l:Nat,l<=h/\q.cells O=(a.cells O).drop (l*sz)/\∀ U:Nat->Loc,AK (low.map (Lf.aa O U)) 0 l):=by
 unfold H6
 split
 ·exact au ⟨0,Nat.zero_le _,by simp,fun U=>.inl ⟨rfl,rfl⟩⟩
 ·rename_i k l
  refine ak yP fun _ h0=>ak Ct fun _ h1=>?_
  refine cz fun q hq=>⟨(l.int O).toNat,by omega,A.aK hq,fun U=>.inr ⟨k,?_⟩⟩
  simp [Lf.aa,Int.toNat_of_nonneg h0]
 ·exact aE
theorem I3 {ts:List LT} : ∀ {cs:List (Option Lf)} {i:Nat} {r:List Ty×List A},xC ts i cs=some r->r.1.length=cs.length/\r.2.length=cs.length /\
  ∀ j,j<cs.length->∃ x,nth cs j=some x/\x.ok=true/\x.good O/\∀ U,eD E (ts.getD ((i+j)%ts.length) .bool) ((ey r.1 (r.2.map (A.den O))).getD j default) (x.aa O U)
 | [],i,r,h=>by simp [xC] at h;subst h;exact ⟨rfl,rfl,fun j hj=>by simp at hj⟩
 | c::cs,i,r,h=>by
  simp only [xC] at h
  cases c with
  | none=>simp at h
  | some x =>
   simp only [Option.bind_some] at h
   cases hx:HU (ts.getD (i%ts.length) .bool) x with
   | none=>simp only [hx] at h;cases h
   | some a =>
    simp only [hx] at h
    cases hr:xC ts (i+1) cs with
    | none=>simp only [hr] at h;cases h
    | some r' =>
     simp only [hr,Option.some.injEq] at h
     subst h
     obtain ⟨h1,h2,h3⟩:=I3 hr
     refine ⟨by simp [h1],by simp [h2],fun j hj=>?_⟩
     cases j with
     | zero =>
      have:=S4 (E:=E) (O:=O) hx
      exact ⟨x,rfl,this.2.1,this.1,fun U=>this.2.2 U⟩
     | succ j =>
      obtain ⟨y,k1,k2,k3,k4⟩:=h3 j (by simpa using hj)
      refine ⟨y,k1,k2,k3,fun U=>?_⟩
      have:=k4 U
      rw [show i+1+j=i+(j+1) from by omega] at this
      exact this
theorem I4:∀ {ts:List Ty} {ds:List DV},ts.length=ds.length->(ey ts ds).length=ds.length
 | [],[],_=>rfl
 | t::ts,d::ds,h=>by simp [ey,I4 (show ts.length=ds.length by simpa using h)]
 | [],_::_,h=>by simp at h
 | _::_,[],h=>by simp at h
theorem NR:∀ {l:List Lf} {ts:List LT},rm l=some ts->ts.length=l.length
 | [],ts,h=>by simp [rm] at h;subst h;rfl
 | .i k a::l,ts,h=>by
  simp only [rm] at h
  obtain ⟨r,hr,rfl⟩:=Option.map_eq_some_iff.1 h
  simp [NR hr]
 | .b a::l,ts,h=>by
  simp only [rm] at h
  obtain ⟨r,hr,rfl⟩:=Option.map_eq_some_iff.1 h
  simp [NR hr]
 | .p _ _::_,_,h=>by simp [rm] at h
 | .gp _ _::_,_,h=>by simp [rm] at h
 | .cG::_,_,h=>by simp [rm] at h
 | .vec _::_,_,h=>by simp [rm] at h
 | .kL _ _::_,_,h=>by simp [rm] at h
 | .v _::_,_,h=>by simp [rm] at h
theorem cK.row {U:Nat->Loc} {w:World} {r:Loc} {o:Bool} {cs:List (Option Lf)} (h:cK O U w r o cs) {ts:List LT} {q:List Ty×List A} (hq:xC ts 0 cs=some q) {n:Nat} (hn:cs.length=n*ts.length) (hpos:0<ts.length) (S8:n<=9223372036854775807) :
  bf E w ⟨r.aj,r.off,false,n,n,none⟩ o ts (ey q.1 (q.2.map (A.den O))):=by
 obtain ⟨h1,h2,h3⟩:=I3 (E:=E) (O:=O) hq
 have hl:(ey q.1 (q.2.map (A.den O))).length=cs.length:=by rw [I4 (by simp [h1,h2]),List.length_map,h2]
 refine ⟨fun e=>(by cases e),fun _=>h.lt,hpos,by rw [hl,hn],Nat.le_refl _,fun i hi=>?_,fun ho _ i hi=>h.own ho i (by rw [hn];exact hi),fun ho _=>⟨S8,fun o=>h.fz ho o⟩⟩
 rw [hl] at hi
 obtain ⟨x,k1,_,_,k4⟩:=h3 i hi
 rw [Nat.zero_add] at k4
 exact ⟨_,(h.cell i x k1).2,k4 U⟩
theorem zpk {hp:List (Option ag)} {t:TypeId} {x:V} {low high:Option Lf} : M.sat F O (Rj P hp t x low high) (fun z=>∀ U w,HS E O U hp w ->
  ∃ v w',(Instr.sliceAt t (x.aa O U) (low.map (Lf.aa O U)) (high.map (Lf.aa O U)) none).run P w = .ok v w'/\jL E O U hp v w' z):=by
 unfold Rj
 refine bh fun k hk=>?_
 split
 ·rename_i elem b
  refine bh fun sz hs=>?_
  refine bh fun r hr=>?_
  refine aY (fun hc=>?_) (fun _=>aE)
  simp only [Bool.and_eq_true] at hc
  have h1:=Nat.eq_of_beq_eq_true hc.1
  have hlt:=hc.2
  subst h1
  by_cases hd:(r.2.2.cells O).length%r.2.1.length=0
  ·refine ak (S6 hd) fun q ⟨h,k1,k2,k3,k4⟩=>ak (S7 k2) fun q2 ⟨l,m1,m2,m3⟩=>au fun U w hw=>?_
   have hv:=SW hr hw
   rw [hv.elems] at k1 k4
   have hrun:=zgD (P:=P) (pR hk) hs (r:=U b) (m3 U) (k4 U) m1 k1 hv.cap w
   have ij:=hv.cut m1 k1 (x:=if (U b).cap=l then (U b).raw else (U b).raw.map fun x:Addr=>x.add (l*r.2.1.length))
   rw [<-k3,<-m2] at ij
   refine ⟨_,w,hrun,jL.mk (by split<;>simp [iL]) rfl ?_⟩
   have cY:=SV hr
   cases ho:r.1 with
   | true =>
    rw [ho] at ij cY
    simp only [if_true]
    have lM:=(hw.kill b).qt (w':=w) (bk:=.v true r.2.1 q2) (r:=⟨(U b).aj,if (U b).cap=l then (U b).off else (U b).off+l*r.2.1.length,(U b).nil,h-l,(U b).cap-l,if (U b).cap=l then (U b).raw else (U b).raw.map fun x:Addr=>x.add (l*r.2.1.length)⟩) (FY hlt) (Below.refl _ w) ij
     (fun j b' hj b_ hn2=>⟨fun _=>hw.heap.apart b j _ b' cY rfl (nE hj).2 (Ne.symm (nE hj).1) b_ hn2 _ rfl,
      fun _ hfo=>hw.heap.apart b j _ b' cY rfl (nE hj).2 (Ne.symm (nE hj).1) b_ hn2 _ rfl ((hw.heap.aj j b' (nE hj).2).rd hn2 hfo)⟩) (by
      rcases hw.yZ cY with h | h | h | h
      ·exact .inl h
      ·exact .inr (.inl h)
      ·exact .inr (.inr (.inl h))
      ·cases h.1)
    rw [iL] at lM
    exact lM
   | false =>
    rw [ho] at ij cY
    simp only [Bool.false_eq_true,if_false]
    refine hw.qt (w':=w) (bk:=.v false r.2.1 q2) hlt (Below.refl _ w) ij (fun j b' hj b_ hn2=>⟨fun o=>(by cases o),fun vh hfo=>?_⟩) (by
     rcases hw.yZ cY with h | h | h | h
     ·exact .inl h
     ·exact .inr (.inl h)
     ·exact .inr (.inr (.inl h))
     ·exact .inr (.inr (.inr ⟨rfl,h.2⟩)))
    by_cases i_:j=b
    ·subst i_
     rw [cY] at hj
     cases hj
     cases vh
    ·exact hw.heap.apart j b b' _ hj vh cY i_ hn2 b_ _ hfo rfl
  ·refine ak gU fun q _=>ak gU fun q2 _=>au fun U w hw=>?_
   have hv:=SW hr hw
   exact absurd (by rw [hv.len];exact Nat.mul_mod_left _ _) hd
 ·rename_i n elem b
  refine bh fun bk cY=>?_
  split
  ·rename_i o cs
   refine bh fun sz hs=>?_
   refine ak gU fun z _=>?_
   refine ak gU fun ts _=>?_
   refine bh fun r hr=>?_
   refine aY (fun hc=>?_) (fun _=>aE)
   simp only [Bool.and_eq_true] at hc
   obtain ⟨⟨⟨⟨c1,c2⟩,c3⟩,c4⟩,hlt⟩:=hc
   have c4:=Nat.le_of_ble_eq_true c4
   have c1:=Nat.eq_of_beq_eq_true c1
   have c2:0<sz:=Nat.le_of_ble_eq_true c2
   have c3:=Nat.eq_of_beq_eq_true c3
   subst c1
   refine ak (cz (Q:=fun q=>q.cells O=ey r.1 (r.2.map (A.den O))) fun q h=>A.aK h) fun q0 AL=>?_
   have hlen:(q0.cells O).length=n*ts.length:=by
    obtain ⟨l1,l2,_⟩:=I3 (E:=E) (O:=O) hr
    rw [AL,I4 (by simp [l1,l2]),List.length_map,l2,c3]
   refine ak (S6 (by rw [hlen];exact Nat.mul_mod_left _ _)) fun q ⟨h,k1,k2,k3,k4⟩=>ak (S7 k2) fun q2 ⟨l,m1,m2,m3⟩=>au fun U w hw=>?_
   rw [hlen,Nat.mul_div_cancel _ c2] at k1 k4
   have hb0:cK O U w (U b) o cs:=hw.heap.aj b _ cY
   have hv:=hb0.row (E:=E) hr c3 c2 (by omega)
   rw [<-AL] at hv
   have hrun:=zmj (P:=P) (FL hk) hs (b:=(U b).aj) (o:=(U b).off) (m3 U) (k4 U) m1 k1 w
   have ij:=hv.cut m1 k1 (x:=none)
   rw [<-k3,<-m2] at ij
   refine ⟨_,w,by simpa [V.aa,V1.aa,Lf.aa,bV.val] using hrun,jL.mk (iL _ _ _) rfl ?_⟩
   have lM:=(hw.kill b).qt (w':=w) (bk:=.v o ts q2) (r:=⟨(U b).aj,if n=l then (U b).off else (U b).off+l*ts.length,false,h-l,n-l,none⟩) (FY hlt) (Below.refl _ w) ij
     (fun j b' hj b_ hn2=>by
      obtain ⟨i_,hj⟩:=nE hj
      exact ⟨fun vh hfo=>hw.heap.apart b j _ b' cY vh hj (Ne.symm i_) hb0.nil hn2 _ rfl hfo,fun vh hfo=>hw.heap.apart j b b' _ hj vh cY i_ hn2 hb0.nil _ hfo rfl⟩) (by
      rcases hw.yZ cY with h | h | h | h
      ·rw [hb0.nil] at h;cases h
      ·exact .inr (.inl h)
      ·exact .inr (.inr (.inl h))
      ·exact .inr (.inr (.inr h)))
   rw [iL] at lM
   exact lM
  ·exact aE
 ·exact aE
def kR (w:World) (r:Loc) (n:Nat):List Value:=(List.range n).map fun i=>(w.cell? ⟨r.aj,r.off+i,none⟩).getD undef
theorem ug (w:World) (r:Loc) (n:Nat):(kR w r n).length=n:=by simp [kR]
theorem eD.one {t:LT} {d:DV} {v:Value} (h:eD E t d v):v.oneCell'=true:=by cases h<;>rfl
theorem bf.vals {w:World} {r:Loc} {o:Bool} {ts:List LT} {xs:List DV} (h:bf E w r o ts xs):(∀ (j:Nat) (v:Value),(kR w r xs.length)[j]? = some v->w.cell? ⟨r.aj,r.off+j,none⟩=some v/\eD E (ts.getD (j%ts.length) .bool) (xs.getD j default) v) /\
  (∀ v∈kR w r xs.length,v.oneCell'=true):=by
 have key:∀ (j:Nat) (v:Value),(kR w r xs.length)[j]? = some v->w.cell? ⟨r.aj,r.off+j,none⟩=some v/\eD E (ts.getD (j%ts.length) .bool) (xs.getD j default) v:=by
  intro j v hj
  have hl:j<xs.length:=by
   have:=(List.getElem?_eq_some_iff.1 hj).1
   rwa [ug] at this
  obtain ⟨u,h1,h2⟩:=h.cell j hl
  unfold kR at hj
  rw [List.getElem?_map,List.getElem?_range hl,Option.map_some,h1] at hj
  simp only [Option.getD_some,Option.some.injEq] at hj
  subst hj
  exact ⟨h1,h2⟩
 refine ⟨key,fun v hv=>?_⟩
 obtain ⟨j,hj,rfl⟩:=List.mem_iff_getElem.1 hv
 exact (key j _ (List.getElem?_eq_getElem hj)).2.one
theorem S9 {t:TypeId} {n:Nat} (h:B2 P t=some n):∃ i,P.info? t=some i/\i.bytes=n:=by
 unfold B2 at h
 cases hi:P.info? t with
 | none=>simp [hi] at h
 | some i=>simp [hi] at h;exact ⟨i,rfl,h⟩
theorem Cu {t:TypeId} {z:List Lf} (h:zeroCells P t=some z):∃ i v,P.info? t=some i/\i.zero=some v/\(∀ x∈z,x.good O)/\∀ U,v.cells.toList=z.map (Lf.aa O U):=by
 unfold zeroCells at h
 split at h
 ·cases h
 ·rename_i i hi
  split at h
  ·cases h
  ·rename_i v hv
   have:=Sw (O:=O) h
   exact ⟨i,v,hi,hv,this.1,fun U=>(this.2 U).symm⟩
theorem S_ {n kM:Nat} (h:n<=vN kM):(0<n->(n+n/4+192)*kM<=281474976710656)/\n*kM<=281474976710656/\n<=9223372036854775807:=by
 unfold vN at h
 generalize hb:(bif Nat.beq kM 0 then 1 else kM)=b at h
 have xJ:kM<=b:=by
  rw [<-hb]
  cases e:Nat.beq kM 0 with
  | true=>have:=Nat.eq_of_beq_eq_true e;omega
  | false=>exact Nat.le_refl _
 have hD:281474976710656/b*b<=281474976710656:=Nat.div_mul_le_self _ _
 have F1:281474976710656/b<=281474976710656:=Nat.div_le_self _ _
 generalize 281474976710656/b=D at *
 have hn:n<=D:=by omega
 refine ⟨fun h0=>?_,Nat.le_trans (Nat.mul_le_mul hn xJ) hD,by omega⟩
 exact Nat.le_trans (Nat.mul_le_mul (show n+n/4+192<=D by omega) xJ) hD
theorem Ta {tx ex:TypeId} {i:TypeInfo} {w:World} {rc:Loc} {o':Bool} {ts:List LT} {xc:List DV} (pS:tk P tx=some (.slice ex)) (kg:bf E w rc o' ts xc) (wh:i.size=ts.length):Src P i.size tx rc.slice rc.len (kR w rc xc.length) w:=by
 have hv:=kg.vals
 cases aZ:rc.nil with
 | true =>
  have h0:=kg.nil aZ
  have:xc.length=0:=by rw [kg.len,h0.1,Nat.zero_mul]
  rw [this]
  cases Cv:rc.raw with
  | none =>
   have:=Src.ofNil w (size:=i.size) (pR pS) 0
   simpa [Loc.slice,aZ,h0,kR,Cv] using this
  | some a =>
   have:=Src.ofSlice w (size:=i.size) (pR pS) a 0 0 [] (by simp) (fun j v hj=>by simp at hj) (by simp)
   simpa [Loc.slice,aZ,h0,kR,Cv] using this
 | false =>
  have:=Src.ofSlice w (size:=i.size) (pR pS) ⟨rc.aj,rc.off,none⟩ rc.len rc.cap (kR w rc xc.length) (by rw [ug,kg.len,wh])
   (fun j v hj=>by rw [s_];exact (hv.1 j v hj).1) hv.2
  simpa [Loc.slice,aZ] using this
theorem znV {w:World} {rb rc:Loc} {o o':Bool} {ts:List LT} {xb xc:List DV} (ia:bf E w rb o ts xb) (kg:bf E w rc o' ts xc):∀ (w':World) (r':Loc),(∀ j,j<xb.length->w'.cell? ⟨r'.aj,r'.off+j,none⟩=w.cell? ⟨rb.aj,rb.off+j,none⟩) ->
   (∀ j v,(kR w rc xc.length)[j]? = some v->w'.cell? ⟨r'.aj,r'.off+(xb.length+j),none⟩=some v) ->
   ∀ j,j<(xb++xc).length->∃ v,w'.cell? ⟨r'.aj,r'.off+j,none⟩=some v/\eD E (ts.getD (j%ts.length) .bool) ((xb++xc).getD j default) v:=by
 intro w' r' h1 h2 j hj
 rw [List.length_append] at hj
 rcases Nat.lt_or_ge j xb.length with NS | NS
 ·obtain ⟨v,g1,g2⟩:=ia.cell j NS
  refine ⟨v,by rw [h1 j NS];exact g1,?_⟩
  have e0:(xb++xc).getD j default=xb.getD j default:=by
   simp only [List.getD_eq_getElem?_getD]
   rw [List.getElem?_append_left NS]
  rw [e0]
  exact g2
 ·obtain ⟨k,rfl⟩:∃ k,j=xb.length+k:=⟨j-xb.length,by omega⟩
  have hk:k<(kR w rc xc.length).length:=by rw [ug];omega
  have g:=kg.vals.1 k _ (List.getElem?_eq_getElem hk)
  refine ⟨_,h2 k _ (List.getElem?_eq_getElem hk),?_⟩
  have e1:(xb.length+k)%ts.length=k%ts.length:=by rw [ia.len,Nat.mul_comm,Nat.mul_add_mod]
  have e0:(xb++xc).getD (xb.length+k) default=xc.getD k default:=by
   simp only [List.getD_eq_getElem?_getD]
   rw [List.getElem?_append_right (by omega),Nat.add_sub_cancel_left]
  rw [e1,e0]
  exact g.2
theorem zjr {t tx ty elem ex:TypeId} {w:World} {rb rc:Loc} {o o':Bool} {ts:List LT} {xb xc:List DV} {z:List Lf} {sz kM:Nat} (hk:tk P t=some (.slice elem)) (pS:tk P tx=some (.slice ex)) (hz:zeroCells P elem=some z) (hs:hM P elem=some sz)
  (hby:B2 P elem=some kM) (c4:sz=ts.length) (c5:sz=z.length) (ia:bf E w rb o ts xb) (kg:bf E w rc o' ts xc) (uh:rb.len+rc.len<=vN kM) (hroom:rb.cap<rb.len+rc.len) :
  ∃ w' r',(Builtin.append_ #[t,tx] ty #[rb.slice,rc.slice]).run P w = .ok r'.slice w'/\r'.nil=false/\r'.aj=w.heap.size/\Below w.heap.size w w'/\bf E w' r' true ts (xb++xc):=by
 obtain ⟨i,zv,hi,vi,_,rW⟩:=Cu (O:=fun _=>default) hz
 obtain ⟨i1,hi1,hsz⟩:=FN hs
 obtain ⟨i2,hi2,hbz⟩:=S9 hby
 rw [hi] at hi1 hi2
 cases hi1
 cases hi2
 have wh:i.size=ts.length:=by rw [hsz];exact c4
 have hpos:=ia.pos
 have Cw:(xb++xc).length=(rb.len+rc.len)*ts.length:=by rw [List.length_append,ia.len,kg.len,Nat.add_mul]
 obtain ⟨ga,_,Aw⟩:=S_ uh
 rw [<-hbz] at ga
 have hsrc:=Ta pS kg wh
 have hold:(Builtin.firstCells i.size rb.len (.slice (bif rb.nil then rb.raw else some ⟨rb.aj,rb.off,none⟩) rb.len rb.cap)).run P w.drew = .ok (kR w rb xb.length).toArray w.drew:=by
  cases aZ:rb.nil with
  | true =>
   have h0:=ia.nil aZ
   have:xb.length=0:=by rw [ia.len,h0.1,Nat.zero_mul]
   rw [this]
   cases Cv:rb.raw with
   | none=>exact run_firstCells_none w.drew _ _ _ _
   | some a =>
    rw [h0.1]
    exact run_firstCells_some w.drew i.size 0 a _ _ _ (by simp [kR]) (fun j v hj=>by simp [kR] at hj)
  | false =>
   exact run_firstCells_some w.drew i.size _ ⟨rb.aj,rb.off,none⟩ _ _ _ (by rw [ug,ia.len,wh]) (fun j v hj=>by
    rw [s_]
    simpa using (ia.vals.1 j v hj).1)
 have hrun:=run_append_grow_src (P:=P) w t tx ty elem i zv (pR hk) hi vi _ _ _ _ hold rc.slice _ _ hsrc hroom (by omega) (growslice_fits_wide hroom (ga (by omega)))
 have hge:=grownCap_ge w (rb.len+rc.len) rb.cap elem
 have NT:=grownCap_le_maxLen w (rb.len+rc.len) rb.cap elem (by unfold maxLen;omega)
 unfold maxLen at NT
 generalize hcp:grownCap w (rb.len+rc.len) rb.cap elem=cp at *
 generalize oO:(.cells ((kR w rb xb.length++kR w rc xc.length).toArray++Builtin.zeroCells zv.cells (cp-(rb.len+rc.len))) elem:Obj)=ob
 have kD:Below w.heap.size w (w.drew.alloc ob):=⟨rfl,rfl,rfl,by simp,fun k hk=>Below.heap_alloc w.drew _ _ hk⟩
 have hnew:∀ j,(w.drew.alloc ob).cell? ⟨w.heap.size,j,none⟩=((kR w rb xb.length++kR w rc xc.length).toArray++Builtin.zeroCells zv.cells (cp-(rb.len+rc.len)))[j]?:=fun j=>by
  rw [<-oO]
  exact World.cell?_alloc_new w.drew _ _ j
 have qu:∀ j,(w.drew.alloc ob).frozen? ⟨w.heap.size,j,none⟩=false:=fun j=>by
  rw [<-oO]
  exact World.frozen?_alloc_new w.drew _ _ j
 refine ⟨w.drew.alloc ob,⟨w.heap.size,0,false,rb.len+rc.len,cp,none⟩,by rw [oO] at hrun;exact hrun,rfl,rfl,kD,⟨fun e=>(by cases e),fun _=>by simp,hpos,Cw,hge,fun j hj=>?_,fun _ _ j hj=>?_,fun _ _=>⟨NT,fun o=>qu o⟩⟩⟩
 ·refine znV ia kg (w.drew.alloc ob) ⟨w.heap.size,0,false,rb.len+rc.len,cp,none⟩ (fun j hj=>?_) (fun j v hj=>?_) j hj
  ·simp only [Nat.zero_add]
   rw [hnew,Array.getElem?_append_left (by simp [ug];omega)]
   obtain ⟨v,g1,_⟩:=ia.cell j hj
   rw [g1,List.getElem?_toArray,List.getElem?_append_left (by rw [ug];exact hj)]
   unfold kR
   rw [List.getElem?_map,List.getElem?_range hj,Option.map_some,g1]
   rfl
  ·have hjl:=(List.getElem?_eq_some_iff.1 hj).1
   simp only [Nat.zero_add]
   rw [hnew,Array.getElem?_append_left (by simp [ug] at hjl ⊢;omega),List.getElem?_toArray,List.getElem?_append_right (by rw [ug];omega),ug,Nat.add_sub_cancel_left]
   exact hj
 ·simp only [Nat.zero_add]
  refine ⟨?_,qu j⟩
  rw [hnew]
  have Tb:((kR w rb xb.length++kR w rc xc.length).toArray++Builtin.zeroCells zv.cells (cp-(rb.len+rc.len))).size=cp*ts.length:=by
   have hzs:zv.cells.size=ts.length:=by
    rw [<-Array.length_toList,rW (fun _=>default),List.length_map,<-c5,c4]
   rw [Array.size_append,size_zeroCells,hzs,List.size_toArray,List.length_append,ug,ug,ia.len,kg.len,<-Nat.add_mul,<-Nat.add_mul]
   congr 1
   omega
  have hj:j<cp*ts.length:=hj
  rw [Array.getElem?_eq_getElem (by rw [Tb];exact hj)]
  rfl
theorem zjs {hp:List (Option ag)} {t tx elem ex:TypeId} {b c:Nat} {r u:Bool×List LT×A} {z:List Lf} {sz kM:Nat} {q n:A} (hk:tk P t=some (.slice elem)) (pS:tk P tx=some (.slice ex)) (hr:Ai hp b=some r) (hu:rj hp c=some u)
  (hz:zeroCells P elem=some z) (hs:hM P elem=some sz) (hby:B2 P elem=some kM) (c1:r.1=true) (c3:r.2.1=u.2.1) (c4:sz=r.2.1.length) (c5:sz=z.length) (hlt:bH hp=true)
  (hq:q.cells O=r.2.2.cells O++u.2.2.cells O) (hn:n.int O=((q.cells O).length/sz:Nat)) (hle:n.int O<=(A.z (vN kM)).int O) (U:Nat->Loc) (w:World) (ty:TypeId) (hw:HS E O U hp w) :
  ∃ v w',(Builtin.append_ #[t,tx] ty #[(U b).slice,(U c).slice]).run P w = .ok v w'/\jL E O U hp v w' (.hp (some (.s (.one (.vec hp.length)))) (eg none hp b++[some (.v true r.2.1 q)])):=by
 obtain ⟨i,zv,hi,vi,_,rW⟩:=Cu (O:=O) hz
 obtain ⟨i1,hi1,hsz⟩:=FN hs
 obtain ⟨i2,hi2,hbz⟩:=S9 hby
 rw [hi] at hi1 hi2
 cases hi1
 cases hi2
 have ia:=SW hr hw
 have kg:=FZ hu hw
 rw [<-c3] at kg
 rw [c1] at ia
 have wh:i.size=r.2.1.length:=by rw [hsz];exact c4
 have hpos:=ia.pos
 have Cw:(q.cells O).length=((U b).len+(U c).len)*r.2.1.length:=by rw [hq,List.length_append,ia.len,kg.len,Nat.add_mul]
 have uh:(U b).len+(U c).len<=vN kM:=by
  rw [hn,Cw,c4,Nat.mul_div_cancel _ hpos] at hle
  exact Int.ofNat_le.1 hle
 obtain ⟨ga,_,Aw⟩:=S_ uh
 rw [<-hbz] at ga
 have hsrc:=Ta pS kg wh
 have hcells:∀ (w':World) (r':Loc),_:=znV ia kg
 rw [<-hq] at hcells
 have ee:(u.2.2.cells O).length=(U c).len*r.2.1.length:=kg.len
 rcases Nat.lt_or_ge (U b).cap ((U b).len+(U c).len) with hroom | hroom
 ·obtain ⟨w',r',hrun,g1,g2,g3,g4⟩:=zjr (ty:=ty) hk pS hz hs hby c4 c5 ia kg uh hroom
  refine ⟨_,w',hrun,jL.mk (r:=r') (iL _ _ _) rfl ?_⟩
  rw [<-hq] at g4
  have lM:=(hw.kill b).fresh (w':=w') (bk:=.v true r.2.1 q) (r:=r') (FY hlt) g3 g4 (.inr (by rw [g2];exact Nat.le_refl _))
  rw [iL] at lM
  exact lM
 ·-- there is room
  cases aZ:(U b).nil with
  | true =>
   have h0:=ia.nil aZ
   have hc0:(U c).len=0:=by omega
   have hr0:(r.2.2.cells O).length=0:=by rw [ia.len,h0.1,Nat.zero_mul]
   have AL:(q.cells O).length=0:=by rw [Cw,h0.1,hc0];simp
   have hun:(u.2.2.cells O).length=0:=by rw [kg.len,hc0,Nat.zero_mul]
   have hrun:(Builtin.append_ #[t,tx] ty #[.slice (U b).raw 0 0,(U c).slice]).run P w = .ok (.slice (U b).raw 0 0) w:=by
    have hlen:=hsrc.len w
    have uj:=hsrc.cells
    rw [hc0] at hlen uj
    rw [hun] at uj
    cases (U b).raw<;>simp [kR,storeCells,Builtin.append_,run_underlying (pR hk),run_underlying (pR pS),sizeOf,typeInfo,hi,hlen,uj]
   refine ⟨.slice (U b).raw 0 0,w,by simpa [V.aa,V1.aa,Lf.aa,Loc.slice,aZ,h0] using hrun,jL.mk (r:=⟨0,0,true,0,0,(U b).raw⟩) (iL _ _ _) rfl ?_⟩
   have lM:=(hw.kill b).fresh (w':=w) (bk:=.v true r.2.1 q) (r:=⟨0,0,true,0,0,(U b).raw⟩) (FY hlt) (Below.refl _ w)
    (⟨fun _=>⟨rfl,rfl⟩,fun e=>(by cases e),hpos,by rw [AL];simp,Nat.le_refl _,fun j hj=>by omega,fun _ e=>(by cases e),fun _ e=>(by cases e)⟩:bf E w ⟨0,0,true,0,0,(U b).raw⟩ true r.2.1 (q.cells O)) (.inl rfl)
   rw [iL] at lM
   exact lM
  | false =>
   have hcb:((U b).len+(U c).len)*r.2.1.length<=(U b).cap*r.2.1.length:=Nat.mul_le_mul_right _ hroom
   rw [Nat.add_mul] at hcb
   have hlb:=ia.len
   have hex:∀ j,j<(kR w (U c) (u.2.2.cells O).length).length->(w.cell? ⟨(U b).aj,(U b).off+(r.2.2.cells O).length+j,none⟩).isSome=true/\w.frozen? ⟨(U b).aj,(U b).off+(r.2.2.cells O).length+j,none⟩=false:=fun j hj=>by
    rw [ug] at hj
    have:=ia.own rfl aZ ((r.2.2.cells O).length+j) (by omega)
    rwa [<-Nat.add_assoc] at this
   have hrun:=run_append_room_src (P:=P) w t tx ty elem i (pR hk) hi (U b).aj (U b).off (U b).len (U b).cap (U c).slice _ _ hsrc hroom (by rw [wh,<-hlb];exact fun j hj=>(hex j hj).1) (by rw [wh,<-hlb];exact fun j hj=>(hex j hj).2)
   rw [wh,<-hlb] at hrun
   refine ⟨_,_,by simpa [V.aa,V1.aa,Lf.aa,Loc.slice,aZ] using hrun,jL.mk (r:=⟨(U b).aj,(U b).off,false,(U b).len+(U c).len,(U b).cap,none⟩) (iL _ _ _) rfl ?_⟩
   generalize hvs:kR w (U c) (u.2.2.cells O).length=vs at *
   have hvl:vs.length=(u.2.2.cells O).length:=by rw [<-hvs,ug]
   have cY:=SV hr
   rw [c1] at cY
   have hkw:=hw.I1 (w':=w.setCells (U b).aj ((U b).off+(r.2.2.cells O).length) vs) cY rfl aZ (yU _ _ _ _) (tY _ _ _ _).1 (tY _ _ _ _).2.1 (tY _ _ _ _).2.2 (fun k hk=>Cl _ _ _ _ k hk)
   have lM:=hkw.qt (w':=w.setCells (U b).aj ((U b).off+(r.2.2.cells O).length) vs) (bk:=.v true r.2.1 q) (r:=⟨(U b).aj,(U b).off,false,(U b).len+(U c).len,(U b).cap,none⟩) (FY hlt) (Below.refl _ _)
    (⟨fun e=>(by cases e),fun _=>by rw [yU];exact ia.lt aZ,hpos,Cw,hroom,fun j hj=>?_,fun _ _ j hj=>?_,fun _ _=>⟨(ia.fz rfl aZ).1,fun o=>by rw [World.frozen?_setCells];exact (ia.fz rfl aZ).2 o⟩⟩:bf E _ ⟨(U b).aj,(U b).off,false,(U b).len+(U c).len,(U b).cap,none⟩ true r.2.1 (q.cells O))
    (fun j b' hj b_ hn2=>by
     have h0:=hw.heap.apart b j _ b' cY rfl (nE hj).2 (Ne.symm (nE hj).1) aZ hn2
     exact ⟨fun _ hfo=>h0 _ rfl (((hw.heap.aj j b' (nE hj).2).cN hn2 (fun k hf=>Cl _ _ _ _ k fun e=>h0 k e hf) _).1 hfo),
      fun _ hfo=>h0 _ rfl ((hw.heap.aj j b' (nE hj).2).rd hn2 (((hw.heap.aj j b' (nE hj).2).dU hn2 (fun k hf=>Cl _ _ _ _ k fun e=>h0 k e hf) _).1 hfo))⟩) (by
     rcases hw.yZ cY with h | h | h | h
     ·rw [aZ] at h;cases h
     ·exact .inr (.inl h)
     ·exact .inr (.inr (.inl h))
     ·cases h.1)
   ·rw [iL] at lM
    exact lM
   ·refine hcells _ ⟨(U b).aj,(U b).off,false,(U b).len+(U c).len,(U b).cap,none⟩ (fun j hj=>?_) (fun j v hj=>?_) j hj
    ·exact World.cell?_setCells_out _ _ _ _ _ (fun _ _=>by simp;omega)
    ·have hjl:=(List.getElem?_eq_some_iff.1 hj).1
     have e1:=World.cell?_setCells_in (U b).aj vs ((U b).off+(r.2.2.cells O).length) w (fun k hk=>(hex k hk).1) j hjl
     simp only
     rw [<-Nat.add_assoc,e1,<-hj,List.getElem?_eq_getElem hjl]
   ·have hj:j<(U b).cap*r.2.1.length:=hj
    rw [World.frozen?_setCells]
    have:=ia.own rfl aZ j hj
    refine ⟨?_,this.2⟩
    by_cases hin:(r.2.2.cells O).length<=j/\j<(r.2.2.cells O).length+vs.length
    ·obtain ⟨k,rfl⟩:∃ k,j=(r.2.2.cells O).length+k:=⟨j-(r.2.2.cells O).length,by omega⟩
     have e1:=World.cell?_setCells_in (U b).aj vs ((U b).off+(r.2.2.cells O).length) w (fun k hk=>(hex k hk).1) k (by omega)
     simp only
     rw [<-Nat.add_assoc,e1]
     rfl
    ·rw [World.cell?_setCells_out _ _ _ _ _ (fun _ _=>by simp;omega)]
     exact this.1
theorem Tc {hp:List (Option ag)} {t tx:TypeId} {s x:V} : M.sat F O (HY P hp t tx s x) (fun z=>∀ U w ty,HS E O U hp w ->
  ∃ v w',(Builtin.append_ #[t,tx] ty #[s.aa O U,x.aa O U]).run P w = .ok v w'/\jL E O U hp v w' z):=by
 unfold HY
 refine bh fun k hk=>?_
 refine bh fun kx pS=>?_
 split
 ·rename_i elem ex b c
  refine bh fun r hr=>?_
  refine bh fun u hu=>?_
  refine bh fun z hz=>?_
  refine bh fun sz hs=>?_
  refine bh fun kM hby=>?_
  refine aY (fun hc=>?_) (fun _=>aE)
  simp only [Bool.and_eq_true,Bool.not_eq_true'] at hc
  obtain ⟨⟨⟨⟨⟨c1,c2⟩,c3⟩,c4⟩,c5⟩,hlt⟩:=hc
  have c2:b≠c:=fun e=>by subst e;rw [Nat.beq_refl] at c2;cases c2
  have c3:=ld.beq_eq c3
  have c4:=Nat.eq_of_beq_eq_true c4
  have c5:=Nat.eq_of_beq_eq_true c5
  refine ak (cz (Q:=fun q=>q.cells O=r.2.2.cells O++u.2.2.cells O) fun q h=>A.aK h) fun q hq=>?_
  refine ak (cz (Q:=fun n=>n.int O=((q.cells O).length/sz:Nat)) fun q h=>A.aM h) fun n hn=>?_
  refine ak Ct fun _ hle=>au fun U w ty hw=>?_
  exact zjs hk pS hr hu hz hs hby c1 c3 c4 c5 hlt hq hn hle U w ty hw
 ·exact aE
theorem Lf.iQ {U U':Nat->Loc} {n:Nat} (h:∀ k,k<n->U' k=U k) {l:Lf} (hl:l.lt n=true):l.aa O U'=l.aa O U:=Lf.eU h hl
theorem Td {α:Type} (l:List α) (hl:0<l.length):∀ (n j:Nat),j<n*l.length->(List.replicate n l).flatten[j]? = l[j%l.length]?
 | 0,j,h=>by simp at h
 | n+1,j,h=>by
  rw [List.replicate_succ,List.flatten_cons]
  rcases Nat.lt_or_ge j l.length with hj | hj
  ·rw [List.getElem?_append_left hj,Nat.mod_eq_of_lt hj]
  ·rw [List.getElem?_append_right hj,Td l hl n (j-l.length) (by rw [Nat.succ_mul] at h;omega)]
   congr 1
   exact (Nat.mod_eq_sub_mod hj).symm
theorem NU {α:Type} (l:List α) (n:Nat):(List.replicate n l).flatten.length=n*l.length:=by simp
theorem zrG {hp:List (Option ag)} {t:TypeId} {l c:Lf} : M.sat F O (Ri P hp t l c) (fun x=>∀ U w,HS E O U hp w ->
  ∃ v w',(Instr.makeSlice t (l.aa O U) (c.aa O U)).run P w = .ok v w'/\jL E O U hp v w' x):=by
 unfold Ri
 refine bh fun k hk=>?_
 split
 ·rename_i elem kn n km m
  refine bh fun z hz=>?_
  refine bh fun ts hts=>?_
  refine bh fun r hr=>?_
  refine bh fun sz hs=>?_
  refine bh fun kM hby=>?_
  refine aY (fun hc=>?_) (fun _=>aE)
  simp only [Bool.and_eq_true] at hc
  obtain ⟨⟨c1,c2⟩,hlt⟩:=hc
  have c1:=Nat.eq_of_beq_eq_true c1
  have c2:0<sz:=Nat.le_of_ble_eq_true c2
  refine ak yP fun _ h0=>ak Ct fun _ h1=>ak Ct fun _ h2=>?_
  refine ak (cz (Q:=fun q=>q.cells O=(List.replicate (n.int O).toNat (ey r.1 (r.2.map (A.den O)))).flatten) fun q h=>A.aK h) fun q hq=>au fun U w hw=>?_
  obtain ⟨i,zv,hi,vi,_,rW⟩:=Cu (O:=O) hz
  obtain ⟨i1,hi1,hsz⟩:=FN hs
  obtain ⟨i2,hi2,hbz⟩:=S9 hby
  rw [hi] at hi1 hi2
  cases hi1
  cases hi2
  have NV:=NR hts
  obtain ⟨l1,l2,l3⟩:=I3 (E:=E) (O:=O) hr
  have ee:(ey r.1 (r.2.map (A.den O))).length=ts.length:=by
   rw [I4 (by simp [l1,l2]),List.length_map,l2,List.length_map,NV]
  have hzs:zv.cells.size=ts.length:=by rw [<-Array.length_toList,rW U,List.length_map,NV]
  have hst:sz=ts.length:=by omega
  have Te:(m.int O).toNat<=vN kM:=by
   have h2:m.int O<=(vN kM:Int):=h2
   omega
  obtain ⟨_,q1,q2⟩:=S_ Te
  have vc:(i.bytes:Int)*m.int O<=281474976710656:=by
   have e:((m.int O).toNat:Int)=m.int O:=Int.toNat_of_nonneg (by omega)
   rw [<-e,<-Int.natCast_mul,Nat.mul_comm,hbz]
   omega
  have hrun:=run_make (P:=P) w t elem i zv (pR hk) hi vi kn km (n.int O) (m.int O) h0 h1 vc (by omega)
  generalize oO:(.cells (madeCells zv.cells ((m.int O).toNat*i.size)) elem:Obj)=ob at *
  have kD:Below w.heap.size w (w.alloc ob):=⟨rfl,rfl,rfl,by simp,fun k hk=>Below.heap_alloc w _ _ hk⟩
  have hnew:∀ j,(w.alloc ob).cell? ⟨w.heap.size,j,none⟩=(madeCells zv.cells ((m.int O).toNat*i.size))[j]?:=fun j=>by
   rw [<-oO]
   exact World.cell?_alloc_new w _ _ j
  have qu:∀ j,(w.alloc ob).frozen? ⟨w.heap.size,j,none⟩=false:=fun j=>by
   rw [<-oO]
   exact World.frozen?_alloc_new w _ _ j
  have iX:∀ j,j<(m.int O).toNat*ts.length->∃ x,nth (z.map some) (j%ts.length)=some x/\(madeCells zv.cells ((m.int O).toNat*i.size))[j]? = some (x.aa O U)/\eD E (ts.getD (j%ts.length) .bool) ((ey r.1 (r.2.map (A.den O))).getD (j%ts.length) default) (x.aa O U):=fun j hj=>by
   have FU:j%ts.length<z.length:=by rw [<-NV];exact Nat.mod_lt _ (by omega)
   obtain ⟨x,k1,_,_,k4⟩:=l3 (j%ts.length) (by simpa using FU)
   have k4:=k4 U
   rw [Nat.zero_add,Nat.mod_mod] at k4
   refine ⟨x,k1,?_,k4⟩
   have hx:z[j%ts.length]? = some x:=by rw [xE] at k1;exact k1
   have hzx:zv.cells[j%zv.cells.size]! = x.aa O U:=by
    have:zv.cells.toList[j%ts.length]? = some (x.aa O U):=by rw [rW U,List.getElem?_map,hx];rfl
    rw [Array.getElem?_toList] at this
    rw [hzs,Array.getElem!_eq_getD,Array.getD_eq_getD_getElem?,this]
    rfl
   unfold madeCells
   rw [Array.getElem?_map,Array.getElem?_range,if_pos (by rw [hsz,hst];exact hj)]
   simp [hzx]
  refine ⟨_,_,hrun,jL.mk (r:=⟨w.heap.size,0,false,(n.int O).toNat,(m.int O).toNat,none⟩) rfl rfl ?_⟩
  have hnm:(n.int O).toNat*ts.length<=(m.int O).toNat*ts.length:=Nat.mul_le_mul_right _ (by omega)
  refine hw.fresh (w':=w.alloc ob) (bk:=.v true ts q) hlt kD (⟨fun e=>(by cases e),fun _=>by simp,by omega,by rw [hq,NU,ee],by show (n.int O).toNat<=(m.int O).toNat;omega,fun j hj=>?_,fun _ _ j hj=>?_,fun _ _=>⟨by show (m.int O).toNat<=_;omega,fun o=>qu o⟩⟩:bf E (w.alloc ob) ⟨w.heap.size,0,false,(n.int O).toNat,(m.int O).toNat,none⟩ true ts (q.cells O)) (.inr (Nat.le_refl _))
  ·rw [hq,NU,ee] at hj
   obtain ⟨x,_,k2,k3⟩:=iX j (by omega)
   refine ⟨x.aa O U,by show (w.alloc ob).cell? ⟨w.heap.size,0+j,none⟩=_;rw [Nat.zero_add,hnew];exact k2,?_⟩
   have e:(q.cells O).getD j default=(ey r.1 (r.2.map (A.den O))).getD (j%ts.length) default:=by
    simp only [List.getD_eq_getElem?_getD]
    rw [hq,Td _ (by rw [ee];omega) _ _ (by rw [ee];exact hj),ee]
   rw [e]
   exact k3
  ·have hj:j<(m.int O).toNat*ts.length:=hj
   obtain ⟨x,_,k2,_⟩:=iX j hj
   show ((w.alloc ob).cell? ⟨w.heap.size,0+j,none⟩).isSome=true/\(w.alloc ob).frozen? ⟨w.heap.size,0+j,none⟩=false
   rw [Nat.zero_add,hnew,k2]
   exact ⟨rfl,qu j⟩
 ·exact aE
theorem zpm (ts:List LT) (cs:List Lf):M.sat F O (Rd ts cs) (fun q=>(q.cells O).length=cs.length/\∀ j,j<cs.length->∃ x,cs[j]? = some x/\∀ U,eD E (ts.getD (j%ts.length) .bool) ((q.cells O).getD j default) (x.aa O U)):=by
 unfold Rd
 split
 ·rename_i t a i0 l
  refine aY (fun hc=>?_) (fun _=>aE)
  simp only [Bool.and_eq_true] at hc
  obtain ⟨⟨c1,c2⟩,c3⟩:=hc
  have c3:=Nat.eq_of_beq_eq_true c3
  refine cz fun q hq=>?_
  have hq:q.cells O=(List.range (l.length+1)).map fun k=>(a.cells O).getD (Int.toNat 0*1+i0+k) default:=A.aK hq
  refine ⟨by rw [hq];simp,fun j hj=>?_⟩
  have hj:j<l.length+1:=by simpa using hj
  refine ⟨_,List.getElem?_eq_getElem hj,fun U=>?_⟩
  obtain ⟨b,hb,he⟩:=IC c1 j _ (List.getElem?_eq_getElem hj)
  have ht:ts.getD (j%ts.length) .bool=t:=by
   rw [c3,Nat.mod_eq_of_lt hj,List.getD_eq_getElem?_getD,List.getElem?_eq_getElem (by omega)]
   exact (LT.jv (List.all_eq_true.1 c2 _ (List.getElem_mem _))).symm
  have hcell:(q.cells O).getD j default=(b.cells O).getD (i0+j*1) default:=by
   rw [hq,List.getD_eq_getElem?_getD,List.getElem?_map,List.getElem?_range hj]
   have:a.cells O=b.cells O:=by simp only [A.cells,A.aH hb O]
   rw [this]
   show (b.cells O).getD (Int.toNat 0*1+i0+j) default=_
   congr 1
   show 0*1+i0+j=_
   omega
  rw [ht,hcell]
  have he2:((.e t a i0::l:List Lf)[j]'hj) = .e t b (i0+j*1):=he
  rw [he2]
  cases t with
  | int k=>exact eD.int k _
  | bool=>exact eD.bool _
  | vec us =>
   have:=List.all_eq_true.1 c2 (ts[0]'(by omega)) (List.getElem_mem _)
   simp only [LT.vE] at this
   cases this
 ·refine ak (lg (Q:=fun r=>xC ts 0 (cs.map some)=some r) fun a h=>h) fun r hr=>cz fun q hq=>?_
  have hq:q.cells O=ey r.1 (r.2.map (A.den O)):=A.aK hq
  obtain ⟨l1,l2,l3⟩:=I3 (E:=E) (O:=O) hr
  refine ⟨by rw [hq,I4 (by simp [l1,l2]),List.length_map,l2,List.length_map],fun j hj=>?_⟩
  obtain ⟨x,k1,_,_,k4⟩:=l3 j (by simpa using hj)
  rw [xE] at k1
  refine ⟨x,k1,fun U=>?_⟩
  have k4:=k4 U
  rw [Nat.zero_add,<-hq] at k4
  exact k4
theorem zik {hp:List (Option ag)} {t:TypeId} {len:Nat} {ps:List (Nat×V1)} (_hg:∀ p∈ps,p.2.good O):M.sat F O (Rk P hp t len ps) (fun x=>∀ U w,HS E O U hp w ->
  ∃ v w',(Instr.buildSlice t len (ps.map fun p=>(p.1,p.2.aa O U)).toArray).run P w = .ok v w'/\jL E O U hp v w' x):=by
 unfold Rk
 refine bh fun k hk=>?_
 split
 ·rename_i elem
  refine bh fun sz hs=>?_
  refine bh fun z hz=>?_
  refine bh fun ts hts=>?_
  refine bh fun cs hcs=>?_
  refine aY (fun hc=>?_) (fun _=>aE)
  simp only [Bool.and_eq_true] at hc
  obtain ⟨⟨⟨c1,c2⟩,c3⟩,hlt⟩:=hc
  have c1:=Nat.eq_of_beq_eq_true c1
  have c2:0<sz:=Nat.le_of_ble_eq_true c2
  have c3:=Nat.le_of_ble_eq_true c3
  refine ak (zpm (E:=E) ts cs) fun q hq=>au fun U w hw=>?_
  obtain ⟨i,zv,hi,vi,Cx,rW⟩:=Cu (O:=O) hz
  have NV:=NR hts
  have hzs:zv.cells.size=sz:=by rw [<-Array.length_toList,rW U,List.length_map,c1]
  have I5:((Array.range (len*sz)).map (zv.cells[· % zv.cells.size]!)).toList=(List.replicate len z).flatten.map (Lf.aa O U):=by
   apply List.ext_getElem?
   intro j
   rw [Array.getElem?_toList,Array.getElem?_map,List.getElem?_map,Array.getElem?_range]
   by_cases hj:j<len*sz
   ·obtain ⟨zx,hzj⟩:∃ zx,z[j%z.length]? = some zx:=⟨_,List.getElem?_eq_getElem (Nat.mod_lt _ (by omega))⟩
    rw [if_pos hj,Td z (by omega) _ _ (by rw [<-c1];exact hj),hzj]
    have:zv.cells.toList[j%z.length]? = some (zx.aa O U):=by rw [rW U,List.getElem?_map,hzj];rfl
    rw [Array.getElem?_toList] at this
    simp only [Option.map_some,Option.some.injEq]
    rw [hzs,c1,Array.getElem!_eq_getD,Array.getD_eq_getD_getElem?,this]
    rfl
   ·rw [if_neg hj,List.getElem?_eq_none (by rw [NU,<-c1];omega)]
    rfl
  obtain ⟨B,hB,F2⟩:=NP (O:=O) (U:=U) (place':=fun i=>some (i*sz,sz)) (fun i=>rfl) ps _ cs _ I5 hcs
  obtain ⟨l1,l3⟩:=hq
  have hfl:∀ (ps:List (Nat×V1)) (cs r:List Lf),tQ (fun i=>some (i*sz,sz)) cs ps=some r->r.length=cs.length:=by
   intro ps
   induction ps with
   | nil=>intro cs r h;simp [tQ] at h;rw [h]
   | cons p ps ih =>
    intro cs r h
    simp only [tQ] at h
    split at h
    ·rw [ih _ _ h]
     have:∀ (l cs:List Lf) (o:Nat),(Ag cs o l).length=cs.length:=fun l=>by
      induction l with
      | nil=>intro cs o;rfl
      | cons c l ih=>intro cs o;rw [Ag,ih];simp
     exact this _ _ _
    ·cases h
  have ee:cs.length=len*sz:=by rw [hfl _ _ _ hcs,NU,c1]
  have xL:(q.cells O).length=len*sz:=by rw [l1,ee]
  have hBs:B.size=len*sz:=by rw [<-Array.length_toList,F2,List.length_map,ee]
  have hrun:(Instr.buildSlice t len (ps.map fun p=>(p.1,p.2.aa O U)).toArray).run P w = .ok (.slice (some ⟨w.heap.size,0,none⟩) len len) (w.alloc (.cells B elem)):=by
   have c3':¬ (16777216<len*sz):=by omega
   by_cases h0:len*sz=0
   ·have hB':Instr.fill (fun i=>some (i*sz,sz)) #[] (ps.map fun p=>(p.1,p.2.aa O U))=some B:=by
     have e:((Array.range (len*sz)).map (zv.cells[· % zv.cells.size]!)) = #[]:=by rw [h0];simp
     rw [e] at hB
     exact hB
    simp [Instr.buildSlice,run_underlying (pR hk),pO hs,h0,hB',newRow,Array.range_zero']
   ·simp [Instr.buildSlice,run_underlying (pR hk),pO hs,h0,c3',zeroValue,typeInfo,hi,vi,hB,newRow]
  generalize oO:(.cells B elem:Obj)=ob at *
  have kD:Below w.heap.size w (w.alloc ob):=⟨rfl,rfl,rfl,by simp,fun k hk=>Below.heap_alloc w _ _ hk⟩
  have hnew:∀ j,(w.alloc ob).cell? ⟨w.heap.size,j,none⟩=B[j]?:=fun j=>by
   rw [<-oO]
   exact World.cell?_alloc_new w _ _ j
  have qu:∀ j,(w.alloc ob).frozen? ⟨w.heap.size,j,none⟩=false:=fun j=>by
   rw [<-oO]
   exact World.frozen?_alloc_new w _ _ j
  have hst:sz=ts.length:=by omega
  refine ⟨_,_,hrun,jL.mk (r:=⟨w.heap.size,0,false,len,len,none⟩) rfl rfl ?_⟩
  refine hw.fresh (w':=w.alloc ob) (bk:=.v true ts q) hlt kD (⟨fun e=>(by cases e),fun _=>by simp,by omega,by rw [xL,hst],Nat.le_refl _,fun j hj=>?_,fun _ _ j hj=>?_,fun _ _=>⟨by show len<=_;have:=Nat.le_mul_of_pos_right len (show 0<sz by omega);omega,fun o=>qu o⟩⟩:bf E (w.alloc ob) ⟨w.heap.size,0,false,len,len,none⟩ true ts (q.cells O)) (.inr (Nat.le_refl _))
  ·rw [xL] at hj
   obtain ⟨x,k1,k4⟩:=l3 j (by simpa [ee] using hj)
   have k4:=k4 U
   refine ⟨x.aa O U,?_,k4⟩
   show (w.alloc ob).cell? ⟨w.heap.size,0+j,none⟩=_
   rw [Nat.zero_add,hnew,<-Array.getElem?_toList,F2,List.getElem?_map]
   rw [k1]
   rfl
  ·have hj:j<len*ts.length:=hj
   show ((w.alloc ob).cell? ⟨w.heap.size,0+j,none⟩).isSome=true/\(w.alloc ob).frozen? ⟨w.heap.size,0+j,none⟩=false
   rw [Nat.zero_add,hnew,Array.getElem?_eq_getElem (by rw [hBs,hst];exact hj)]
   exact ⟨rfl,qu j⟩
 ·exact aE
theorem Tf {x:Lf} (h:x.isNil=true):x = .v (.slice none 0 0):=by
 unfold Lf.isNil at h
 split at h
 ·rfl
 ·cases h
theorem I6 {w:World} : ∀ (lt:List LT) (cs:List Lf) (hp:List (Option ag)),M.sat F O (uV lt cs hp) (fun q=>∀ U,HS E O U hp w->bH hp=true->(cs.all (Lf.lt hp.length)=true)->(∀ x∈cs,x.good O) ->
  bH q.2=true/\q.1.all (Lf.lt q.2.length)=true/\(∀ x∈q.1,x.good O)/\hp.length<=q.2.length/\∃ U':Nat->Loc,(∀ j,j<hp.length->U' j=U j)/\HS E O U' q.2 w/\q.1.map (Lf.aa O U')=cs.map (Lf.aa O U)):=by
 intro lt cs
 induction cs generalizing lt with
 | nil =>
  intro hp
  have e:uV lt [] hp=pure ([],hp):=by cases lt<;>rfl
  rw [e]
  exact au fun U hw hlt _ _=>⟨hlt,rfl,fun x hx=>(by cases hx),Nat.le_refl _,U,fun _ _=>rfl,hw,rfl⟩
 | cons x l ih =>
  intro hp
  -- a cell kC stays
  have keep:∀ (lt':List LT),M.sat F O (do let r <-uV lt' l hp;pure (x::r.1,r.2)) (fun q=>∀ U,HS E O U hp w->bH hp=true->((x::l).all (Lf.lt hp.length)=true)->(∀ y∈x::l,Lf.good O y) ->
    bH q.2=true/\q.1.all (Lf.lt q.2.length)=true/\(∀ x∈q.1,Lf.good O x)/\hp.length<=q.2.length/\∃ U':Nat->Loc,(∀ j,j<hp.length->U' j=U j)/\HS E O U' q.2 w/\q.1.map (Lf.aa O U')=(x::l).map (Lf.aa O U)):=fun lt'=>by
   refine ak (ih lt' hp) fun r hr=>au fun U hw hlt hcs hg=>?_
   simp only [List.all_cons,Bool.and_eq_true] at hcs
   obtain ⟨h1,h2,h3,h4,U',h5,h6,h7⟩:=hr U hw hlt hcs.2 (fun y hy=>hg y (List.mem_cons_of_mem _ hy))
   refine ⟨h1,?_,fun y hy=>?_,h4,U',h5,h6,?_⟩
   ·simp only [List.all_cons,Bool.and_eq_true]
    exact ⟨Lf.dV h4 hcs.1,h2⟩
   ·rcases List.mem_cons.1 hy with rfl | hy
    ·exact hg _ (by simp)
    ·exact h3 y hy
   ·simp only [List.map_cons]
    rw [h7,Lf.iQ h5 hcs.1]
  cases lt with
  | nil=>exact au fun U hw hlt hcs hg=>⟨hlt,hcs,hg,Nat.le_refl _,U,fun _ _=>rfl,hw,rfl⟩
  | cons t lt' =>
   cases t with
   | int k=>exact keep lt'
   | bool=>exact keep lt'
   | vec ts =>
    simp only [uV]
    refine aY (fun hc=>?_) (fun _=>keep lt')
    simp only [Bool.and_eq_true] at hc
    have hx:=Tf hc.1
    have hpos:0<ts.length:=Nat.le_of_ble_eq_true hc.2
    refine ak (cz (Q:=fun q=>q.cells O=[]) fun q h=>A.aK h) fun q hq=>ak (ih lt' (hp++[some (.v true ts q)])) fun r hr=>au fun U hw hlt hcs hg=>?_
    simp only [List.all_cons,Bool.and_eq_true] at hcs
    have hw1:=hw.fresh (w':=w) (bk:=.v true ts q) (r:=⟨0,0,true,0,0,none⟩) hlt (Below.refl _ w)
     (⟨fun _=>⟨rfl,rfl⟩,fun e=>(by cases e),hpos,by rw [hq];simp,Nat.le_refl _,fun j hj=>by rw [hq] at hj;simp at hj,fun _ e=>(by cases e),fun _ e=>(by cases e)⟩:bf E w ⟨0,0,true,0,0,none⟩ true ts (q.cells O)) (.inl rfl)
    have Co:bH (hp++[some (.v true ts q)])=true:=by
     unfold bH at hlt ⊢
     rw [List.all_append,Bool.and_eq_true,List.length_append]
     refine ⟨List.all_eq_true.2 fun y hy=>?_,rfl⟩
     have:=List.all_eq_true.1 hlt y hy
     cases y with
     | none=>rfl
     | some b=>exact ag.dV (Nat.le_add_right _ _) this
    have Tg:l.all (Lf.lt (hp++[some (ag.v true ts q)]).length)=true:=by
     refine List.all_eq_true.2 fun y hy=>Lf.dV (by simp) (List.all_eq_true.1 hcs.2 y hy)
    obtain ⟨h1,h2,h3,h4,U',h5,h6,h7⟩:=hr _ hw1 Co Tg (fun y hy=>hg y (List.mem_cons_of_mem _ hy))
    rw [List.length_append] at h4 h5
    simp only [List.length_cons,List.length_nil] at h4 h5
    refine ⟨h1,?_,fun y hy=>?_,by show hp.length<=r.2.length;omega,U',fun j hj=>by rw [h5 j (by omega),nD hj],h6,?_⟩
    ·simp only [List.all_cons,Bool.and_eq_true,Lf.lt,decide_eq_true_eq]
     exact ⟨by omega,h2⟩
    ·rcases List.mem_cons.1 hy with rfl | hy
     ·trivial
     ·exact h3 y hy
    ·simp only [List.map_cons,h7]
     rw [hx]
     simp only [Lf.aa]
     rw [h5 _ (by omega),uf]
     congr 1
     exact List.map_congr_left fun y hy=>Lf.iQ (fun j hj=>nD hj) (List.all_eq_true.1 hcs.2 y hy)
end
theorem V1.fQ {O:Nat->DV} {v:V1} {n:Nat} (h:v.lt n=true) {U U':Nat->Loc} (hU:∀ j,j<n->U' j=U j):v.aa O U'=v.aa O U:=by
 have h1:∀ l:Lf,l.lt n=true->l.aa O U'=l.aa O U:=fun l hl=>Lf.eU hU hl
 cases v with
 | one l=>exact h1 l (by simpa [V1.lt,V1.cells] using h)
 | agg l =>
  have hl:∀ x∈l,x.lt n=true:=fun x hx=>List.all_eq_true.1 h x hx
  simp only [V1.aa]
  congr 2
  exact List.map_congr_left fun x hx=>h1 x (hl x hx)
theorem V.fQ {O:Nat->DV} {v:V} {n:Nat} (h:v.lt n=true) {U U':Nat->Loc} (hU:∀ j,j<n->U' j=U j):v.aa O U'=v.aa O U:=by
 cases v with
 | s v=>exact V1.fQ h hU
 | t l =>
  have hl:∀ x∈l,x.lt n=true:=fun x hx=>List.all_eq_true.1 h x hx
  simp only [V.aa]
  congr 2
  exact List.map_congr_left fun x hx=>V1.fQ (hl x hx) hU
section
variable {P:Program} {F:aC} {E:Env} {O:Nat->DV}
theorem zmk {hp:List (Option ag)} {t tx:TypeId} {s x:V} : M.sat F O (Rl P hp t tx s x) (fun z=>∀ U w ty,HS E O U hp w ->
  ∃ v w',(Builtin.append_ #[t,tx] ty #[s.aa O U,x.aa O U]).run P w = .ok v w'/\jL E O U hp v w' z):=by
 unfold Rl
 split
 ·rename_i l
  refine aY (fun hc=>?_) (fun _=>Tc)
  simp only [Bool.and_eq_true] at hc
  refine ak gU fun k _=>?_
  split
  ·refine ak gU fun z0 _=>ak gU fun ts _=>ak (zdt fun w=>I6 (E:=E) (w:=w) _ _ _) fun q hq=>?_
   split
   ·rename_i l' hl'
    refine cH (Tc (E:=E)) fun z hz U w ty hw=>?_
    have hn:=Tf hc.1.1
    obtain ⟨h1,h2,h3,h4,U',h5,h6,h7⟩:=hq w U hw hc.1.2 (by subst hn;rfl) (fun y hy=>by
     rcases List.mem_cons.1 hy with rfl | hy
     ·subst hn;trivial
     ·cases hy)
    rw [hl'] at h7
    have h7:l'.aa O U'=l.aa O U:=by simpa using h7
    obtain ⟨v,w',g1,g2⟩:=hz U' w ty h6
    have e1:(V.s (.one l')).aa O U'=(V.s (.one l)).aa O U:=h7
    rw [e1,V.fQ hc.2 h5] at g1
    refine ⟨v,w',g1,?_⟩
    cases z with
    | val _=>exact g2
    | hp u hp' =>
     cases u with
     | none=>exact g2
     | some u =>
      obtain ⟨a1,U2,a2,a3,a4⟩:=g2
      exact ⟨a1,U2,fun j hj=>by rw [a2 j (by omega),h5 j hj],a3,a4⟩
   ·exact aE
  ·exact aE
 ·exact Tc
end
end Go.Sx
namespace Go.Sx
open Go.RowKit
section
variable {P:Program} {F:aC} {O:Nat->DV}
theorem zh5 (n:String) (hg:Extern.allGenericRows.lookup n=none) (ht:Extern.allTypedRows.lookup n=none) {fn:Func} (hn:fn.name=n) {e:Array Value->Sem Value} (hr:Extern.allRows.lookup n=some e):Extern.find fn=some e:=by
 unfold Extern.find
 simp only [hn,hg,ht,hr]
 rfl
theorem znW (n : String) (h : Extern.allNextRows.lookup n = none) (h0 : Extern.allNextRows.lookup "" = none) {fn : Func} (hn : fn.name = n) (ho : fn.origin = "") : Extern.findNext fn = none := by
 unfold Extern.findNext
 simp only [hn,ho,h,h0]
 rfl
def zvR:Array Value->Sem Value:=fun args=>do
 let (x, y, c) <- Extern.MathBitsCarry.three "Add64" args
 pure (Extern.MathBitsCarry.pair ((x+y+c)%Extern.MathBitsCarry.m64) ((x+y+c)/Extern.MathBitsCarry.m64))
def zvS:Array Value->Sem Value:=fun args=>do
 let (x, y, b) <- Extern.MathBitsCarry.three "Sub64" args
 pure (Extern.MathBitsCarry.pair ((x+Extern.MathBitsCarry.m64-y-b)%Extern.MathBitsCarry.m64) (if x<y+b then 1 else 0))
theorem znX (n:String) (x y c:Nat) (hc:¬ c>1) (w:World):(Extern.MathBitsCarry.three n #[.int .u64 x,.int .u64 y,.int .u64 c]).run P w = .ok (x,y,c) w:=by
 have:Extern.MathBitsCarry.three n #[.int .u64 x,.int .u64 y,.int .u64 c]=(do
  let c0 <-asInt (.int .u64 (c:Int))
  if c0.toNat > 1 then unsupported (.noEntry ("extern/math/bits." ++ n ++ ": a carry that is neither 0 nor 1"))
  let x0 <-asInt (.int .u64 (x:Int))
  let y0 <-asInt (.int .u64 (y:Int))
  pure (x0.toNat,y0.toNat,c0.toNat)):=rfl
 have h:∀ x:Nat,asInt (.int .u64 (x:Int))=pure (x:Int):=fun _=>rfl
 rw [this]
 simp only [h,pure_bind,Int.toNat_natCast,if_neg hc]
 rfl
theorem zrH {fn : Func} (hn : fn.name = "math/bits.Add64") : Extern.find fn = some zvR :=
 zh5 "math/bits.Add64" (by kernel_rfl) (by kernel_rfl) hn (by kernel_rfl)
theorem zrI {fn : Func} (hn : fn.name = "math/bits.Sub64") : Extern.find fn = some zvS :=
 zh5 "math/bits.Sub64" (by kernel_rfl) (by kernel_rfl) hn (by kernel_rfl)
theorem zrJ {fn : Func} (hn : fn.name = "math/bits.Add64") (ho : fn.origin = "") : Extern.findNext fn = none :=
 znW "math/bits.Add64" (by kernel_rfl) (by kernel_rfl) hn ho
theorem zrK {fn : Func} (hn : fn.name = "math/bits.Sub64") (ho : fn.origin = "") : Extern.findNext fn = none :=
 znW "math/bits.Sub64" (by kernel_rfl) (by kernel_rfl) hn ho
theorem zml {f : FuncId} {add : Bool} (h : M7 P f = some add) : ∃ fn, P.funcs[f]? = some fn /\ fn.body.isNone = true /\ fn.origin = "" /\ fn.name = bif add then "math/bits.Add64" else "math/bits.Sub64" := by
 unfold M7 at h
 split at h
 ·rename_i fn hf
  split at h
  ·rename_i hb
   simp only [Bool.and_eq_true,beq_iff_eq] at hb
   refine ⟨fn,hf,hb.1,hb.2,?_⟩
   split at h
   ·rename_i hn;cases h;simpa using hn
   ·split at h
    ·rename_i hn;cases h;simpa using hn
    ·cases h
  ·cases h
 ·cases h
theorem zxY (n:Int):IntKind.wrap .u64 n=n%18446744073709551616:=by simp [IntKind.wrap,IntKind.signed,IntKind.bits]
theorem zqN {a:A} : M.sat F O (yK a) (fun _=>0<=a.int O/\a.int O<18446744073709551616):=by
 unfold yK
 refine ak (cz (Q:=fun r=>r.bool O=decide (a.int O>=0)) fun r h=>A.aq h) fun q hq=>?_
 refine ak (n6 (Q:=fun _=>0<=a.int O) fun h=>by rw [hq] at h;simpa using h) fun _ h0=>?_
 refine ak (cz (Q:=fun r=>r.bool O=decide (a.int O<18446744073709551616)) fun r h=>A.aq h) fun q hq=>?_
 exact n6 fun h=>⟨h0,by rw [hq] at h;simpa using h⟩
theorem zpn {add:Bool} {a b q:A} : M.sat F O (Rc add a b q) (fun z=>∃ s k:A,z = .val (.t [.one (.i .u64 s),.one (.i .u64 k)]) /\
  ∀ f,M7 P f=some add->∀ w,(callFunc f #[.int .u64 (a.int O),.int .u64 (b.int O),.int .u64 (q.int O)]).run P w = .ok (.value (.tuple #[.int .u64 (s.int O),.int .u64 (k.int O)])) w):=by
 unfold Rc
 refine ak zqN fun _ ha=>ak zqN fun _ hb=>?_
 refine ak (cz (Q:=fun r=>r.bool O=decide (q.int O>=0)) fun r h=>A.aq h) fun x hx=>?_
 refine ak (n6 (Q:=fun _=>0<=q.int O) fun h=>by rw [hx] at h;simpa using h) fun _ AL=>?_
 refine ak (cz (Q:=fun r=>r.bool O=decide (q.int O<2)) fun r h=>A.aq h) fun x hx=>?_
 refine ak (n6 (Q:=fun _=>q.int O<2) fun h=>by rw [hx] at h;simpa using h) fun _ rU=>?_
 refine ak (cz (Q:=fun r=>r.bool O=(q.int O==1)) fun r h=>A.aq h) fun one hone=>?_
 refine ak (cz (Q:=fun r=>r.int O=IntKind.wrap .u64 (if add then a.int O+b.int O else a.int O-b.int O)) fun r h=>by cases add<;>exact A.aM h) fun s1 fJ=>?_
 refine ak (cz (Q:=fun r=>r.int O=IntKind.wrap .u64 (if add then s1.int O+q.int O else s1.int O-q.int O)) fun r h=>by cases add<;>exact A.aM h) fun s hs=>?_
 refine ak (cz (Q:=fun r=>r.bool O=(if add then decide (s.int O<a.int O) else decide (a.int O<b.int O))) fun r h=>by cases add<;>exact A.aq h) fun low Cy=>?_
 refine ak (cz (Q:=fun r=>r.bool O=(if add then s.int O==a.int O else a.int O==b.int O)) fun r h=>by cases add<;>exact A.aq h) fun same hsame=>?_
 refine ak (cz (Q:=fun r=>r.bool O=(one.bool O&&same.bool O)) fun r h=>A.aq h) fun both mq=>?_
 refine ak (cz (Q:=fun r=>r.bool O=(low.bool O||both.bool O)) fun r h=>A.aq h) fun c hc=>?_
 refine ak (cz (Q:=fun r=>r.int O=bif c.bool O then 1 else 0) fun r h=>A.aM h) fun k hk=>au ⟨s,k,rfl,fun f hf w=>?_⟩
 obtain ⟨fn,h1,h2,h3,h4⟩:=zml hf
 generalize a.int O=x at *
 generalize b.int O=y at *
 generalize q.int O=z at *
 generalize s.int O=s at *
 generalize k.int O=k at *
 generalize s1.int O=s1 at *
 obtain ⟨X,rfl⟩:=Int.eq_ofNat_of_zero_le ha.1
 obtain ⟨Y,rfl⟩:=Int.eq_ofNat_of_zero_le hb.1
 obtain ⟨Z,rfl⟩:=Int.eq_ofNat_of_zero_le AL
 have hZ:¬ Z>1:=by omega
 rw [hc,Cy,mq,hone,hsame] at hk
 cases add
 ·simp only [cond_false] at h4
  rw [run_callFunc_extern h1 (by rw [h4];rfl) h2 (zrK h4 h3) (zrI h4)]
  simp only [Bool.false_eq_true,if_false] at fJ hs hk
  rw [zxY] at fJ hs
  unfold zvS
  rw [Sem.run_bind,znX _ _ _ _ hZ]
  have e1:s=((X+2^64-Y-Z:Nat):Int)%18446744073709551616:=by omega
  have e2:k=((if X<Y+Z then 1 else 0:Nat):Int):=by
   rw [hk,Bool.cond_eq_ite]
   simp only [Bool.or_eq_true,decide_eq_true_eq,Bool.and_eq_true,beq_iff_eq]
   split<;>split<;>omega
  simp [e1,e2,Extern.MathBitsCarry.pair,Extern.MathBitsCarry.m64]
 ·simp only [cond_true] at h4
  rw [run_callFunc_extern h1 (by rw [h4];rfl) h2 (zrJ h4 h3) (zrH h4)]
  simp only [if_true] at fJ hs hk
  rw [zxY] at fJ hs
  unfold zvR
  rw [Sem.run_bind,znX _ _ _ _ hZ]
  have e1:s=((X+Y+Z:Nat):Int)%18446744073709551616:=by omega
  have e2:k=(((X+Y+Z)/18446744073709551616:Nat):Int):=by
   rw [hk,Bool.cond_eq_ite]
   simp only [Bool.or_eq_true,decide_eq_true_eq,Bool.and_eq_true,beq_iff_eq]
   split<;>omega
  simp [e1,e2,Extern.MathBitsCarry.pair,Extern.MathBitsCarry.m64]
end
end Go.Sx
namespace Go.Sx
open Go.RowKit
section
variable {P:Program} {I:World->Prop} {S:bN} {F:aC} {E:Env} {O:Nat->DV}
theorem Th {n:Nat} {bk:ag} (hk:bk.ez n=true) (w:World) (r:Loc):dP (m8 n) w r bk=bk.aB w r:=by
 cases bk with
 | c=>rfl
 | v=>rfl
 | l=>rfl
 | m=>rfl
 | obj o k a =>
  simp only [ag.ez,Bool.and_eq_true,Nat.blt_eq,Bool.not_eq_true'] at hk
  simp only [dP,ag.aB,m8,if_pos hk.1,u_ hk.2]
theorem Ti {n:Nat} {bk:ag} (hk:bk.ez n=true) (w:World) (r:Loc):bx (m8 n) w r bk=bk.av w r:=by
 cases bk with
 | c=>rfl
 | v=>rfl
 | l=>rfl
 | m=>rfl
 | obj o k a =>
  simp only [ag.ez,Bool.and_eq_true,Nat.blt_eq,Bool.not_eq_true'] at hk
  simp only [bx,ag.av,m8,if_pos hk.1,u_ hk.2]
theorem aD.ofK {n:Nat} {U:Nat->Loc} {w:World} {r:Loc} {bk:ag} (hk:bk.ez n=true) (h:bO (m8 n) O U w r bk):aD E O U w r bk:=by
 cases bk with
 | c=>exact h
 | v o ts a=>exact h.2.1.congr h.1 (fun _=>rfl)
 | l o f ts a=>exact eu.congr h.1 h.2.1 (fun _=>rfl)
 | m=>exact h
 | obj o k a =>
  simp only [ag.ez,Bool.and_eq_true,Nat.blt_eq,Bool.not_eq_true'] at hk
  have h2:=h.2
  rw [m8,if_pos hk.1] at h2
  exact (fW.plain hk.2).2 ⟨h.1,h2⟩
theorem ag.cw (ops:List A) (n:Nat) (bk:ag):(bk.inst ops).ez n=bk.ez n:=by cases bk<;>rfl
theorem Lf.od {U U':Nat->Loc} {l:Lf} (hl:l.nw=true) (h0:(U' 0).aj=(U 0).aj/\(U' 0).off=(U 0).off) (h:∀ i,i≠0->U' i=U i):l.aa O U'=l.aa O U:=by
 cases l with
 | p b o =>
  simp only [Lf.aa]
  by_cases hb:b=0
  ·subst hb;rw [h0.1,h0.2]
  ·rw [h b hb]
 | vec b =>
  simp only [Lf.aa]
  have:b≠0:=fun e=>by subst e;simp [Lf.nw] at hl
  rw [h b this]
 | kL _ _=>cases hl
 | fV _ _=>cases hl
 | mp _=>cases hl
 | alt _ _=>cases hl
 | str=>rfl
 | e t _ _=>cases t<;>rfl
 | i=>rfl
 | b=>rfl
 | gp=>rfl
 | cG=>rfl
 | v=>rfl
theorem mg.Cz {K:Nat->nA} {p:aV} (hok:p.ok=true) {w:World} {b o:Nat} {d:List DV} {U:Nat->Loc} (h:mg K p w b o d U) {r:Loc} (h1:r.aj=b) (h2:r.off=o) (h3:r.nil=false) :
  mg K p w b o d (fun j=>if j=0 then r else U j):=by
 simp only [aV.ok,Bool.and_eq_true] at hok
 obtain ⟨⟨hr,_⟩,hv⟩:=hok
 have cA:∀ j,j≠0->(if j=0 then r else U j)=U j:=fun j hj=>if_neg hj
 have hroot:∀ bk,nth p.hp 0=some bk->∃ co cs,bk = .c co cs:=fun bk hb=>by
  rw [hb] at hr
  cases bk with
  | c co cs=>exact ⟨co,cs,rfl⟩
  | v=>cases hr
  | obj=>cases hr
  | l=>cases hr
  | m=>cases hr
 have hcb:∀ j co cs,nth p.hp j=some (.c co cs)->cK (fun i=>d.getD i default) U w (U j) co cs->cK (fun i=>d.getD i default) (fun j=>if j=0 then r else U j) w (if j=0 then r else U j) co cs:=fun j co cs hj hc=>by
  have lN:(if j=0 then r else U j).aj=(U j).aj/\(if j=0 then r else U j).off=(U j).off/\(if j=0 then r else U j).nil=(U j).nil:=by
   by_cases h0:j=0
   ·subst h0;rw [if_pos rfl];exact ⟨h1.trans h.aj.symm,h2.trans h.off.symm,by rw [h3,hc.nil]⟩
   ·rw [if_neg h0];exact ⟨rfl,rfl,rfl⟩
  refine ⟨lN.2.2.trans hc.nil,by rw [lN.1];exact hc.lt,fun i l hl=>?_,fun ho i hi=>by rw [lN.1,lN.2.1];exact hc.own ho i hi,fun ho o=>by rw [lN.1];exact hc.fz ho o⟩
  have CA:ag.nw (.c co cs)=true:=iO hv hj
  have CA:cs.all (dw Lf.nw)=true:=CA
  rw [lN.1,lN.2.1,Lf.od (iO CA hl) (by rw [if_pos rfl];exact ⟨h1.trans h.aj.symm,h2.trans h.off.symm⟩) cA]
  exact hc.cell i l hl
 have oN:∀ j bk,nth p.hp j=some bk->((if j=0 then r else U j):Loc).nil=(U j).nil/\dP K w (if j=0 then r else U j) bk=dP K w (U j) bk/\bx K w (if j=0 then r else U j) bk=bx K w (U j) bk:=fun j bk hj=>by
  by_cases h0:j=0
  ·subst h0
   obtain ⟨co,cs,rfl⟩:=hroot bk hj
   rw [if_pos rfl]
   have hc:cK _ U w (U 0) co cs:=h.h.aj 0 _ hj
   refine ⟨by rw [h3,hc.nil],?_,?_⟩<;>(funext x;simp only [dP,bx];rw [h1,h.aj])
  ·rw [if_neg h0];exact ⟨rfl,rfl,rfl⟩
 refine ⟨h.len,by rw [if_pos rfl];exact h1,by rw [if_pos rfl];exact h2,fun j bk hj=>?_,fun j j' bk aS hj ho hj' hne hn hn' x hf hf'=>?_⟩
 ·by_cases h0:j=0
  ·subst h0
   obtain ⟨co,cs,rfl⟩:=hroot bk hj
   exact hcb 0 co cs hj (h.h.aj 0 _ hj)
  ·have:=h.h.aj j bk hj
   cases bk with
   | c co cs=>exact hcb j co cs hj this
   | v o ts a =>
    show bO K _ _ w (if j=0 then r else U j) _
    rw [if_neg h0];exact this
   | obj o k a =>
    show bO K _ _ w (if j=0 then r else U j) _
    rw [if_neg h0];exact this
   | l o f ts a =>
    show bO K _ _ w (if j=0 then r else U j) _
    rw [if_neg h0];exact this
   | m o kt vt cs =>
    have this:eS _ U w (U j) kt vt cs:=this
    show eS _ (fun j=>if j=0 then r else U j) w (if j=0 then r else U j) kt vt cs
    rw [if_neg h0]
    obtain ⟨es,clock,m1,m2⟩:=this.nB
    have CA:ag.nw (.m o kt vt cs)=true:=iO hv hj
    have CA:cs.all Lf.nw=true:=CA
    refine ⟨this.nil,⟨es,clock,m1,?_⟩,this.good⟩
    rw [FR (cs:=cs) (cs':=cs) (O':=fun i=>d.getD i default) (U':=U) (List.map_congr_left fun x hx=>Lf.od (List.all_eq_true.1 CA x hx) (by rw [if_pos rfl];exact ⟨h1.trans h.aj.symm,h2.trans h.off.symm⟩) cA)]
    exact m2
 ·rw [(oN j bk hj).1] at hn
  rw [(oN j' aS hj').1] at hn'
  rw [(oN j bk hj).2.1] at hf
  rw [(oN j' aS hj').2.2] at hf'
  exact h.h.apart j j' bk aS hj ho hj' hne hn hn' x hf hf'
theorem zqO {a:A} : ∀ (ts:List Ty) (i:Nat),M.sat F O (yI a i ts) (fun as=>gb (af (a.cells O)) O ts (eL i ts.length) as)
 | [],i=>au trivial
 | t::ts,i=>by
  unfold yI
  refine ak (cz (Q:=fun r=>t.gT (af (a.cells O) i) (r.den O)) fun r h=>?_) fun x hx=>?_
  ·rw [h]
   have e:(A.int O (.z 0)).toNat*1+i=i:=by simp [A.int,DV.ai]
   cases t<;>simp only [lJ,Ty.gT,DV.ai,DV.aA,DV.ay]<;>rw [e]
  ·exact ak (zqO ts (i+1)) fun r hr=>au ⟨hx,hr⟩
theorem NW {n b k:Nat} : bz (HO n b k) 0=b/\∀ i,i<k->bz (HO n b k) (i+1)=n+i:=by
 refine ⟨rfl,fun i hi=>?_⟩
 unfold bz HO
 rw [List.getD_cons_succ,List.getD_eq_getElem?_getD,List.getElem?_map,List.getElem?_range hi]
 rfl
theorem aV.wj (p:aV) (o:Bool):(p.rd o).ids=p.ids.rd o:=by
 cases o with
 | true=>rfl
 | false =>
  simp only [aV.ids,aV.rd,Bool.false_eq_true,if_false,List.map_map,aV.mk.injEq,and_true]
  refine List.map_congr_left fun x _=>?_
  cases x with
  | none=>rfl
  | some b=>cases b<;>rfl
theorem dH {α:Type} {q:α->Bool} : ∀ {l:List (Option α)},(∀ i x,nth l i=some x->q x=true)->l.all (dw q)=true
 | [],_=>rfl
 | none::l,h=>by
  simp only [List.all_cons,dw,Bool.true_and]
  exact dH fun i x hx=>h (i+1) x hx
 | some a::l,h=>by
  simp only [List.all_cons,dw,Bool.and_eq_true]
  exact ⟨h 0 a rfl,dH fun i x hx=>h (i+1) x hx⟩
theorem zrL {o:Bool} {k b:Nat} {a:A} {hp:List (Option ag)} (hb:nth hp b=some (.obj o (k+2) a)) :
  M.sat F O (Q5 o k b a hp) (fun hp'=>hp.length<=hp'.length/\∀ U w,HS E O U hp w->∃ U':Nat->Loc,(∀ j,j<hp.length->U' j=U j)/\HS E O U' hp' w):=by
 unfold Q5
 refine bh fun p pP=>?_
 refine aY (fun hc=>?_) (fun _=>aE)
 simp only [Bool.and_eq_true,Bool.not_eq_true'] at hc
 obtain ⟨⟨⟨hok,hfit⟩,hlt⟩,hno⟩:=hc
 simp only [aV.fit,Bool.and_eq_true] at hfit
 obtain ⟨⟨hfl,oM⟩,tj⟩:=hfit
 have y_:p.ids.ok=true:=by simp only [qZ,Bool.and_eq_true] at hok;exact hok.1.1
 generalize ud:p.rd o=p'
 have wm:p'.tys=p.tys:=by rw [<-ud];cases o<;>rfl
 have jz:p'.ids=p.ids.rd o:=by rw [<-ud];exact aV.wj p o
 have uk:p'.ids.ok=true:=by rw [jz];exact aV.ql y_ o
 have jU:∀ i x,nth p'.hp i=some x->∃ y,nth p.hp i=some y/\x=if o then y else y.b9:=fun i x hx=>by rw [<-ud] at hx;exact aV.kO hx
 have gL:∀ i x,nth p'.hp i=some x->x.ez (k+2)=true:=fun i x hx=>by
  obtain ⟨y,hy,e⟩:=jU i x hx
  have lq:=hok
  simp only [qZ,Bool.and_eq_true] at lq
  have:=iO lq.1.2 (show nth p.ids.hp i=some (y.inst (eL 0 p.tys.length)) from by unfold aV.ids;rw [jy,hy];rfl)
  rw [ag.cw] at this
  rw [e]
  cases o
  ·simp only [Bool.false_eq_true,if_false];rw [<-this];cases y<;>rfl
  ·exact this
 have oM:p'.hp.all (dw (ag.lt p'.hp.length))=true:=dH fun i x hx=>by
  obtain ⟨y,hy,e⟩:=jU i x hx
  have h1:=iO oM hy
  have hl:p'.hp.length=p.hp.length:=by rw [<-ud];cases o<;>simp [aV.rd]
  rw [hl,e]
  cases o
  ·simp only [Bool.false_eq_true,if_false];rw [<-h1];cases y<;>rfl
  ·exact h1
 have tj:p'.hp.all (dw (ag.bn A.const p'.tys))=true:=dH fun i x hx=>by
  obtain ⟨y,hy,e⟩:=jU i x hx
  have h1:=iO tj hy
  rw [wm,e]
  cases o
  ·simp only [Bool.false_eq_true,if_false];rw [<-h1];cases y<;>rfl
  ·exact h1
 have hlen:p'.hp.length=p.hp.length:=by rw [<-ud];cases o<;>simp [aV.rd]
 rw [<-wm,<-hlen]
 refine ak (zqO p'.tys 0) fun as has=>au ⟨by rw [List.length_append,iL];omega,fun U w h=>?_⟩
 generalize hm:HO hp.length b (p'.hp.length-1)=m
 have oL:=iW hb
 have AM:aD E O U w (U b) (.obj o (k+2) a):=h.heap.aj b _ hb
 have AM:(U b).nil=false/\(bQ (k+2)).rel o w (U b).aj (U b).off (a.cells O):=(fW.plain hno).1 AM
 obtain ⟨hnb,U0,hD0⟩:(U b).nil=false/\∃ U0,mg (m8 (k+2)) p'.ids w (U b).aj (U b).off (a.cells O) U0:=⟨AM.1,by have:=AM.2;rw [yS pP hok] at this;rw [jz];exact this⟩
 have hD:=hD0.Cz uk (r:=U b) rfl rfl hnb
 generalize hU1:(fun j=>if j=0 then U b else U0 j)=U1 at hD
 have I7:U1 0=U b:=by rw [<-hU1];rfl
 have hidx:∀ i x,nth p'.hp i=some x->nth p'.ids.hp i=some (x.inst (eL 0 p'.tys.length)):=fun i x hx=>by unfold aV.ids;rw [jy,hx];rfl
 have I8:∀ i x,nth p'.hp i=some x->x.own=true->(U1 i).nil=false->∀ y,x.aB w (U1 i) y->(ag.obj o (k+2) a).aB w (U b) y:=fun i x hx ho hn y hf=>by
  show (bQ (kb (k+2))).aB w (U b).aj (U b).off y
  rw [u_ hno,yS pP hok]
  obtain ⟨y',hy',e⟩:=jU i x hx
  have qs:o=true:=by
   cases o with
   | true=>rfl
   | false=>rw [e] at ho;simp only [Bool.false_eq_true,if_false] at ho;rw [ag.eV] at ho;cases ho
  have F1:=hD
  rw [jz,qs] at F1
  have hO:=hidx i x hx
  rw [jz,qs] at hO
  exact ⟨_,U1,F1,i,_,hO,by rw [ag.cC];exact ho,hn,by rw [Th (by rw [ag.cw];exact gL i x hx),ag.cX];exact hf⟩
 have hox:∀ i x,nth p'.hp i=some x->x.own=true->o=true:=fun i x hx ho=>by
  obtain ⟨y',hy',e⟩:=jU i x hx
  cases o with
  | true=>rfl
  | false=>rw [e] at ho;simp only [Bool.false_eq_true,if_false] at ho;rw [ag.eV] at ho;cases ho
 have vh:∀ i x,nth p'.hp i=some x->(U1 i).nil=false->∀ y,x.av w (U1 i) y->(ag.obj o (k+2) a).av w (U b) y:=fun i x hx hn y hf=>by
  show (bQ (kb (k+2))).av w (U b).aj (U b).off y
  rw [u_ hno,yS pP hok]
  have F1:=hD
  rw [jz] at F1
  have hO:=hidx i x hx
  rw [jz] at hO
  obtain ⟨z,hz,e⟩:=aV.kO hO
  refine ⟨_,U1,F1.xG _,i,_,aV.n_ (o:=false) hz,hn,?_⟩
  simp only [Bool.false_eq_true,if_false]
  rw [Au]
  have h3:bx (m8 (k+2)) w (U1 i) z=bx (m8 (k+2)) w (U1 i) (x.inst (eL 0 p'.tys.length)):=by
   rw [e]
   cases o
   ·simp only [Bool.false_eq_true,if_false];rw [Au]
   ·rfl
  rw [h3,Ti (by rw [ag.cw];exact gL i x hx),ag.di]
  exact hf
 have Tj:∀ i,i<p'.hp.length->(fun j=>if j<hp.length then U j else U1 (j-hp.length+1)) (bz m i)=U1 i:=fun i hi=>by
  rw [<-hm]
  cases i with
  | zero=>rw [NW.1];simp only [if_pos oL];exact I7.symm
  | succ i =>
   rw [NW.2 i (by omega)]
   simp only
   rw [if_neg (by omega),show hp.length+i-hp.length+1=i+1 from by omega]
 generalize hU':(fun j=>if j<hp.length then U j else U1 (j-hp.length+1))=U' at Tj
 have hold:∀ j,j<hp.length->U' j=U j:=fun j hj=>by rw [<-hU'];exact if_pos hj
 refine ⟨U',hold,?_⟩
 generalize hl:p'.hp.map (Option.map fun x=>(x.inst as).eR m)=l
 have FV:l.length=p'.hp.length:=by rw [<-hl];simp
 have c6:0<p'.hp.length:=by
  simp only [aV.ok,Bool.and_eq_true] at uk
  have hr:=uk.1.1
  unfold aV.ids at hr
  cases hpp:p'.hp with
  | nil=>rw [hpp] at hr;cases hr
  | cons _ _=>simp
 have iR:∀ i bk,nth l i=some bk->∃ x,nth p'.hp i=some x/\bk=(x.inst as).eR m:=fun i bk hi=>by
  rw [<-hl,jy] at hi
  obtain ⟨x,hx,rfl⟩:=Option.map_eq_some_iff.1 hi
  exact ⟨x,hx,rfl⟩
 have bM:∀ j bk,nth (eg (l.headD none) hp b++l.tail) j=some bk ->
   (∃ i x,nth p'.hp i=some x/\j=bz m i/\bk=(x.inst as).eR m/\U' j=U1 i)\/(nth hp j=some bk/\j≠b/\j<hp.length/\U' j=U j):=by
  intro j bk hj
  rw [oI,iL] at hj
  split at hj
  ·rename_i hjl
   by_cases i_:b=j
   ·subst i_
    rw [rO,if_pos hjl] at hj
    have h0:nth l 0=some bk:=by
     cases l with
     | nil=>cases hj
     | cons x l=>exact hj
    obtain ⟨x,hx,e⟩:=iR 0 bk h0
    exact .inl ⟨0,x,hx,by rw [<-hm];exact NW.1.symm,e,by rw [hold _ hjl];exact I7.symm⟩
   ·rw [qi _ _ _ _ i_] at hj
    exact .inr ⟨hj,fun e=>i_ e.symm,hjl,hold j hjl⟩
  ·rename_i hjl
   have h1:nth l (j-hp.length+1)=some bk:=by
    cases l with
    | nil=>cases hj
    | cons x l=>exact hj
   obtain ⟨x,hx,e⟩:=iR _ bk h1
   have Tk:=iW hx
   have FU:j=bz m (j-hp.length+1):=by rw [<-hm,NW.2 _ (by omega)];omega
   exact .inl ⟨_,x,hx,FU,e,by have:=Tj _ Tk;rw [<-FU] at this;exact this⟩
 have mA:∀ i x,nth p'.hp i=some x->aD E O U' w (U1 i) ((x.inst as).eR m):=fun i x hx=>by
  have h1:=hD.h.aj i _ (hidx i x hx)
  have h2:aD E (af (a.cells O)) U1 w (U1 i) (x.inst (eL 0 p'.tys.length)):=aD.ofK (by rw [ag.cw];exact gL i x hx) h1
  have h3:=ag.aX xH has (iO tj hx) h2
  exact h3.eR Tj (by rw [ag.dM];exact iO oM hx)
 have hfo:∀ (x:ag) w r,((x.inst as).eR m).aB w r=x.aB w r:=fun x w r=>by rw [ag.jT,ag.cX]
 have hro:∀ (x:ag) w r,((x.inst as).eR m).av w r=x.av w r:=fun x w r=>by rw [ag.fM,ag.di]
 have hown:∀ x:ag,((x.inst as).eR m).own=x.own:=fun x=>by rw [ag.jS,ag.cC]
 refine ⟨⟨fun j bk hj=>?_,fun j j' bk aS hj ho hj' hne hn hn' y hf hf'=>?_⟩,fun j bk hj=>?_,h.fr,?_,fun j hj=>by rw [hold j (by have:=h.len;omega)];exact h.keep j hj⟩
 ·rcases bM j bk hj with ⟨i,x,hx,e1,e2,e3⟩ | ⟨e1,e2,e3,e4⟩
  ·rw [e3,e2];exact mA i x hx
  ·rw [e4];exact (h.heap.aj j bk e1).keep hold (iO hlt e1)
 ·rcases bM j bk hj with ⟨i,x,hx,e1,e2,e3⟩ | ⟨e1,e2,e3,e4⟩<;>rcases bM j' aS hj' with ⟨i',x',hx',f1,f2,f3⟩ | ⟨f1,f2,f3,f4⟩
  ·rw [e3] at hn hf
   rw [f3] at hn' hf'
   rw [e2,hfo] at hf
   rw [f2,hro] at hf'
   rw [e2,hown] at ho
   have:=hD.h.apart i i' _ _ (hidx i x hx) (by rw [ag.cC];exact ho) (hidx i' x' hx') (fun e=>hne (by rw [e1,f1,e])) hn hn' y
   rw [Th (by rw [ag.cw];exact gL i x hx),Ti (by rw [ag.cw];exact gL i' x' hx'),ag.cX,ag.di] at this
   exact this hf hf'
  ·rw [e3] at hn hf
   rw [f4] at hn' hf'
   rw [e2,hfo] at hf
   rw [e2,hown] at ho
   exact h.heap.apart b j' _ aS hb (hox i x hx ho) f1 (fun e=>f2 e.symm) hnb hn' y (I8 i x hx ho hn y hf) hf'
  ·rw [e4] at hn hf
   rw [f3] at hn' hf'
   rw [f2,hro] at hf'
   exact h.heap.apart j b bk _ e1 ho hb e2 hn hnb y hf (vh i' x' hx' hn' y hf')
  ·rw [e4] at hn hf
   rw [f4] at hn' hf'
   exact h.heap.apart j j' bk aS e1 ho f1 hne hn hn' y hf hf'
 ·rcases bM j bk hj with ⟨i,x,hx,e1,e2,e3⟩ | ⟨e1,e2,e3,e4⟩
  ·rw [e3]
   cases hn:(U1 i).nil with
   | true=>exact .inl rfl
   | false =>
    rcases h.old b _ hb with g | g
    ·rw [hnb] at g;cases g
    ·refine .inr ⟨fun o1 y hf=>?_,fun y hf=>?_⟩
     ·rw [e2,hfo] at hf
      rw [e2,hown] at o1
      exact g.wr (hox i x hx o1) y (I8 i x hx o1 hn y hf)
     ·rw [e2,hro] at hf
      exact g.rd y (vh i x hx hn y hf)
  ·rw [e4];exact h.old j bk e1
 ·rw [List.length_append,iL];have:=h.len;omega
theorem Tl {m:List Nat} : ∀ {l:List (Option ag)} {j:Nat} {hp:List (Option ag)},(xB m j l hp).length=hp.length /\
  ∀ q bk,nth (xB m j l hp) q=some bk->nth hp q=some bk/\(∀ i,j<=i->i<j+l.length->bz m i=q->bk.jm=false)
 | [],j,hp=>⟨rfl,fun q bk h=>⟨h,fun i h1 h2 _=>by simp at h2;omega⟩⟩
 | x::l,j,hp=>by
  have step:∀ c6:List (Option ag),c6.length=hp.length->(∀ q bk,nth c6 q=some bk->nth hp q=some bk/\(bz m j=q->bk.jm=false)) ->
    (xB m (j+1) l c6).length=hp.length/\∀ q bk,nth (xB m (j+1) l c6) q=some bk->nth hp q=some bk/\(∀ i,j<=i->i<j+(x::l).length->bz m i=q->bk.jm=false):=by
   intro c6 h1 h2
   obtain ⟨e1,e2⟩:=Tl (l:=l) (j:=j+1) (hp:=c6) (m:=m)
   refine ⟨e1.trans h1,fun q bk hq=>?_⟩
   obtain ⟨g1,g2⟩:=e2 q bk hq
   obtain ⟨k1,k2⟩:=h2 q bk g1
   refine ⟨k1,fun i a1 a2 a3=>?_⟩
   rcases Nat.eq_or_lt_of_le a1 with rfl | a1
   ·exact k2 a3
   ·exact g2 i a1 (by simp at a2;omega) a3
  unfold xB
  cases hn:nth hp (bz m j) with
  | none=>exact step hp rfl fun q bk hq=>⟨hq,fun e=>by rw [<-e,hn] at hq;cases hq⟩
  | some y =>
   simp only
   split
   ·refine step _ (iL _ _ _) fun q bk hq=>?_
    obtain ⟨k1,k2⟩:=nE hq
    exact ⟨k2,fun e=>absurd e.symm k1⟩
   ·rename_i ho
    refine step hp rfl fun q bk hq=>⟨hq,fun e=>?_⟩
    rw [<-e,hn] at hq
    cases hq
    simpa using ho
def jV (bk:Option ag) (r:Loc):Loc :=
 match bk with
 | some (.v _ _ _)=>if r.cap=0 then ⟨r.aj,r.off,true,r.len,r.cap,bif r.nil then r.raw else some ⟨r.aj,r.off,none⟩⟩ else r
 | some (.l _ _ _ _)=>if r.cap=0 then ⟨r.aj,r.off,true,r.len,r.cap,bif r.nil then r.raw else some ⟨r.aj,r.off,none⟩⟩ else r
 | _=>r
theorem zu2 (bk:Option ag) (r:Loc):(jV bk r).len=r.len/\(jV bk r).cap=r.cap:=by
 unfold jV
 split
 ·split<;>exact ⟨rfl,rfl⟩
 ·split<;>exact ⟨rfl,rfl⟩
 ·exact ⟨rfl,rfl⟩
theorem znY (bk:Option ag) (r:Loc):(jV bk r).aj=r.aj/\(jV bk r).off=r.off/\(jV bk r).slice=r.slice/\((jV bk r).nil=false->r.nil=false):=by
 unfold jV
 split
 ·split
  ·refine ⟨rfl,rfl,?_,fun h=>by cases h⟩
   simp only [Loc.slice,cond_true]
  ·exact ⟨rfl,rfl,rfl,id⟩
 ·split
  ·refine ⟨rfl,rfl,?_,fun h=>by cases h⟩
   simp only [Loc.slice,cond_true]
  ·exact ⟨rfl,rfl,rfl,id⟩
 ·exact ⟨rfl,rfl,rfl,id⟩
theorem Lf.oe {U U':Nat->Loc} (h:∀ i,(U' i).aj=(U i).aj/\(U' i).off=(U i).off/\(U' i).slice=(U i).slice) (l:Lf):l.aa O U'=l.aa O U:=by
 cases l with
 | p b o=>simp only [Lf.aa];rw [(h b).1,(h b).2.1]
 | vec b=>simp only [Lf.aa];exact (h b).2.2
 | kL f bs =>
  simp only [Lf.aa,p9]
  congr 3
  funext b
  rw [(h b).1,(h b).2.1]
 | fV t b=>simp only [Lf.aa];rw [(h b).1,(h b).2.1]
 | mp b=>simp only [Lf.aa];rw [(h b).1]
 | alt a l =>
  simp only [Lf.aa,nX]
  split
  ·rename_i x _
   cases x with
   | p b n=>simp only [Alt.aa];rw [(h b).1,(h b).2.1]
   | fV t b=>simp only [Alt.aa];rw [(h b).1,(h b).2.1]
   | cG=>rfl
   | nu=>rfl
  ·rfl
 | str=>rfl
 | e t _ _=>cases t<;>rfl
 | i=>rfl
 | b=>rfl
 | gp=>rfl
 | cG=>rfl
 | v=>rfl
theorem aD.rX {U:Nat->Loc} {w:World} {r:Loc} {bk:ag} (h:aD E O U w r bk) (hs:bk.jm=false) (ho:bk.own=true) {b:Nat} : ¬ bk.aB w r b:=by
 cases bk with
 | l o f ts a =>
  have ho:o=true:=ho
  subst ho
  have hf:f=true:=by simpa [ag.jm] using hs
  intro hb
  have:=eu.full h hf
  have vc:=hb.2
  omega
 | c=>exact absurd (hs.symm.trans ho) (by decide)
 | v=>exact absurd (hs.symm.trans ho) (by decide)
 | obj=>exact absurd (hs.symm.trans ho) (by decide)
 | m=>exact absurd (hs.symm.trans ho) (by decide)
theorem aD.toK {n:Nat} {U U':Nat->Loc} {w:World} {r:Loc} {bk:ag} (hk:bk.ez n=true) (hfl:bk.flat=true) (h:aD E O U w r bk)
  (hs:∀ i,(U' i).aj=(U i).aj/\(U' i).off=(U i).off/\(U' i).slice=(U i).slice):bO (m8 n) O U' w (jV (some bk) r) bk:=by
 cases bk with
 | c o cs =>
  have h:cK O U w r o cs:=h
  exact (⟨h.nil,h.lt,fun i l hl=>by rw [Lf.oe hs];exact h.cell i l hl,h.own,h.fz⟩:cK O U' w r o cs)
 | obj o k a =>
  simp only [ag.ez,Bool.and_eq_true,Nat.blt_eq,Bool.not_eq_true'] at hk
  have h:=(fW.plain hk.2).1 h
  refine ⟨h.1,?_⟩
  rw [m8,if_pos hk.1]
  exact h.2
 | m o kt vt cs =>
  have h:eS O U w r kt vt cs:=h
  obtain ⟨es,clock,m1,m2⟩:=h.nB
  refine (⟨h.nil,⟨es,clock,m1,?_⟩,h.good⟩:eS O U' w r kt vt cs)
  rw [FR (cs:=cs) (cs':=cs) (O':=O) (U':=U) (List.map_congr_left fun x _=>Lf.oe hs x)]
  exact m2
 | l o f ts a =>
  have h:eu E w r o f ts (a.cells O):=h
  have hfl:ts.all LT.flat=true:=hfl
  refine ⟨hfl,?_,?_⟩
  ·simp only [jV]
   split
   ·rename_i hc
    have hl:r.len=0:=by have:=h.row.cap;omega
    refine ⟨⟨fun _=>⟨hl,hc⟩,fun e=>(by cases e),h.row.pos,h.row.len,h.row.cap,fun i hi=>?_,fun _ e=>(by cases e),fun _ e=>by cases e⟩,fun _ e=>?_,h.full⟩
    ·rw [h.row.len,hl,Nat.zero_mul] at hi
     omega
    ·have e:r.len<r.cap:=e
     omega
   ·exact eu.congr hfl h fun _=>rfl
  ·simp only [jV]
   split
   ·intro _;rfl
   ·rename_i hc;intro e;exact absurd e hc
 | v o ts a =>
  have h:bf E w r o ts (a.cells O):=h
  have hfl:ts.all LT.flat=true:=hfl
  refine ⟨hfl,?_,?_⟩
  ·simp only [jV]
   split
   ·rename_i hc
    have hl:r.len=0:=by have:=h.cap;omega
    refine ⟨fun _=>⟨hl,hc⟩,fun e=>(by cases e),h.pos,h.len,h.cap,fun i hi=>?_,fun _ e=>(by cases e),fun _ e=>by cases e⟩
    rw [h.len,hl,Nat.zero_mul] at hi
    omega
   ·exact h.congr hfl fun _=>rfl
  ·simp only [jV]
   split
   ·intro _;rfl
   ·rename_i hc;intro e;exact absurd e hc
theorem zju:∀ {ts:List Ty} {ds:List DV},ds.length=ts.length->(ey ts ds).length=ts.length
 | [],[],_=>rfl
 | [],_::_,h=>by simp at h
 | _::_,[],h=>by simp at h
 | t::ts,d::ds,h=>by simp [ey,zju (ts:=ts) (ds:=ds) (by simpa using h)]
theorem zqP (t:Ty) (d:DV):t.gT d (nrm t d):=by cases t<;>rfl
theorem zqQ:∀ {ts:List Ty} {as:List A} (pre:List DV),as.length=ts.length->gb O (af (pre++ey ts (as.map (A.den O)))) ts as (eL pre.length ts.length)
 | [],[],_,_=>trivial
 | [],_::_,_,h=>by simp at h
 | _::_,[],_,h=>by simp at h
 | t::ts,a::as,pre,h=>by
  refine ⟨?_,?_⟩
  ·have:af (pre++ey (t::ts) ((a::as).map (A.den O))) pre.length=nrm t (a.den O):=by
    simp [ey]
   show t.gT (a.den O) (af _ pre.length)
   rw [this]
   exact zqP t _
  ·have:=zqQ (ts:=ts) (as:=as) (pre++[nrm t (a.den O)]) (by simpa using h)
   simp only [List.append_assoc,List.singleton_append,List.length_append,List.length_cons,List.length_nil,Nat.zero_add] at this
   exact this
theorem zjv {o:Bool} {k b:Nat} {hp:List (Option ag)} : M.sat F O (M0 o k b hp) (fun hp'=>hp'.length=hp.length/\∀ U w,HS E O U hp w->HS E O U hp' w):=by
 unfold M0
 refine bh fun p pP=>?_
 dsimp only
 generalize hg:oD p.tys.length ⟨[some (.s (.one (.p 0 (.c 0))))],p.hp⟩ ⟨[some (.s (.one (.p b (.c 0))))],hp⟩=g
 have lO:g.1.length=p.tys.length:=by rw [<-hg];exact IV _ _ _
 refine aY (fun hc=>?_) (fun _=>aE)
 simp only [Bool.and_eq_true,Bool.not_eq_true'] at hc
 obtain ⟨⟨⟨⟨⟨hok,hfit⟩,hm0⟩,fJ⟩,uc⟩,hno⟩:=hc
 have hm0:=Nat.eq_of_beq_eq_true hm0
 simp only [aV.fit,Bool.and_eq_true] at hfit
 obtain ⟨⟨hfl,oM⟩,tj⟩:=hfit
 have y_:p.ids.ok=true:=by simp only [qZ,Bool.and_eq_true] at hok;exact hok.1.1
 generalize ud:p.rd o=p' at fJ uc
 have wm:p'.tys=p.tys:=by rw [<-ud];cases o<;>rfl
 have hlen:p'.hp.length=p.hp.length:=by rw [<-ud];cases o<;>simp [aV.rd]
 have jz:p'.ids=p.ids.rd o:=by rw [<-ud];exact aV.wj p o
 have uk:p'.ids.ok=true:=by rw [jz];exact aV.ql y_ o
 have jU:∀ i x,nth p'.hp i=some x->∃ y,nth p.hp i=some y/\x=if o then y else y.b9:=fun i x hx=>by rw [<-ud] at hx;exact aV.kO hx
 have gL:∀ i x,nth p'.hp i=some x->x.ez (k+2)=true:=fun i x hx=>by
  obtain ⟨y,hy,e⟩:=jU i x hx
  have lq:=hok
  simp only [qZ,Bool.and_eq_true] at lq
  have:=iO lq.1.2 (show nth p.ids.hp i=some (y.inst (eL 0 p.tys.length)) from by unfold aV.ids;rw [jy,hy];rfl)
  rw [ag.cw] at this
  rw [e]
  cases o
  ·simp only [Bool.false_eq_true,if_false];rw [<-this];cases y<;>rfl
  ·exact this
 have hfl:p'.hp.all (dw ag.flat)=true:=dH fun i x hx=>by
  obtain ⟨y,hy,e⟩:=jU i x hx
  have h1:=iO hfl hy
  rw [e]
  cases o
  ·simp only [Bool.false_eq_true,if_false];rw [<-h1];cases y<;>rfl
  ·exact h1
 have tj:p'.hp.all (dw (ag.bn A.const p'.tys))=true:=dH fun i x hx=>by
  obtain ⟨y,hy,e⟩:=jU i x hx
  have h1:=iO tj hy
  rw [wm,e]
  cases o
  ·simp only [Bool.false_eq_true,if_false];rw [<-h1];cases y<;>rfl
  ·exact h1
 rw [<-wm] at lO ⊢
 refine ak (cz (Q:=fun q=>q.cells O=ey p'.tys (g.1.map (A.den O))) fun q h=>A.aK h) fun q hq=>au ⟨?_,fun U w h=>?_⟩
 ·rw [iL,(Tl (m:=g.2)).1]
 have hk:=Tl (m:=g.2) (l:=p.hp.tail) (j:=1) (hp:=hp)
 generalize xB g.2 1 p.hp.tail hp=hpk at hk ⊢
 obtain ⟨Tm,hks⟩:=hk
 -- the pattern holds
 have FW:gb O (af (q.cells O)) p'.tys g.1 (eL 0 p'.tys.length):=by
  rw [hq]
  exact zqQ [] lO
 have hsub:eT E O (fun j=>U (bz g.2 j)) (p'.hp.map (Option.map (ag.inst g.1))) w:=h.heap.sub fJ uc
 have hrel:eT E (af (q.cells O)) (fun j=>U (bz g.2 j)) (p'.hp.map (Option.map (ag.inst (eL 0 p'.tys.length)))) w:=eT.inst xH FW tj hsub
 generalize NY:(fun i=>jV (nth p'.ids.hp i) (U (bz g.2 i)))=Uc
 have hcs:∀ i,(Uc i).aj=(U (bz g.2 i)).aj/\(Uc i).off=(U (bz g.2 i)).off/\(Uc i).slice=(U (bz g.2 i)).slice:=fun i=>by
  rw [<-NY];have:=znY (nth p'.ids.hp i) (U (bz g.2 i));exact ⟨this.1,this.2.1,this.2.2.1⟩
 have NZ:∀ i,(Uc i).nil=false->(U (bz g.2 i)).nil=false:=fun i=>by
  rw [<-NY];exact (znY (nth p'.ids.hp i) (U (bz g.2 i))).2.2.2
 have hidx:∀ i x,nth p'.hp i=some x->nth p'.ids.hp i=some (x.inst (eL 0 p'.tys.length)):=fun i x hx=>by unfold aV.ids;rw [jy,hx];rfl
 have qv:∀ i y,nth p'.ids.hp i=some y->∃ x,nth p'.hp i=some x/\y=x.inst (eL 0 p'.tys.length):=fun i y hy=>by
  unfold aV.ids at hy
  rw [jy] at hy
  obtain ⟨x,hx,e⟩:=Option.map_eq_some_iff.1 hy
  exact ⟨x,hx,e.symm⟩
 have N0:∀ i x,nth p'.hp i=some x->dP (m8 (k+2)) w (Uc i) (x.inst (eL 0 p'.tys.length))=x.aB w (U (bz g.2 i))/\bx (m8 (k+2)) w (Uc i) (x.inst (eL 0 p'.tys.length))=x.av w (U (bz g.2 i)):=fun i x hx=>by
  rw [Th (by rw [ag.cw];exact gL i x hx),Ti (by rw [ag.cw];exact gL i x hx),ag.cX,ag.di]
  have:=hcs i
  have FV:(Uc i).len=(U (bz g.2 i)).len/\(Uc i).cap=(U (bz g.2 i)).cap:=by rw [<-NY];exact zu2 _ _
  cases x<;>refine ⟨?_,?_⟩<;>simp only [ag.aB,ag.av]<;>first | rw [this.1,FV.1,FV.2] | rw [this.1,this.2.1] | rw [this.1]
 have hD:mg (m8 (k+2)) p'.ids w (U b).aj (U b).off (q.cells O) Uc:=by
  refine ⟨by rw [hq];exact zju (by simpa using lO),by rw [(hcs 0).1,hm0],by rw [(hcs 0).2.1,hm0],fun i y hy=>?_,fun i i' y y' hy ho hy' hne hn hn' z hf hf'=>?_⟩
  ·obtain ⟨x,hx,e⟩:=qv i y hy
   have:=(hrel.aj i y (by rw [<-hy];rfl)).toK (n:=k+2) (U':=Uc) (by rw [e,ag.cw];exact gL i x hx) (by rw [e,ag.iP];exact iO hfl hx) hcs
   rw [<-hy] at this
   rw [<-NY] at this ⊢
   exact this
  ·obtain ⟨x,hx,rfl⟩:=qv i y hy
   obtain ⟨x',hx',rfl⟩:=qv i' y' hy'
   rw [(N0 i x hx).1] at hf
   rw [(N0 i' x' hx').2] at hf'
   have:=hrel.apart i i' _ _ hy ho hy' hne (NZ i hn) (NZ i' hn') z
   rw [ag.cX,ag.di] at this
   exact this hf hf'
 have hact:∀ i x,nth p'.hp i=some x->∃ x',nth hp (bz g.2 i)=some x'/\(x.own=true->x'.own=true)/\(x.own=true->∀ w r b,x.aB w r b->x'.aB w r b)/\∀ w r,x.av w r=x'.av w r:=fun i x hx=>by
  obtain ⟨x',e1,_,e3⟩:=NK fJ (j:=i) (b:=x.inst g.1) (by rw [jy,hx];rfl)
  refine ⟨x',e1,fun ho=>(ag.bu (E:=E) (O:=O) e3).1 (by rw [ag.cC];exact ho),fun ho w r b hb=>?_,fun w r=>?_⟩
  ·exact ag.iu e3 (by rw [ag.cC];exact ho) (by rw [ag.cX];exact hb)
  ·rw [<-ag.iN e3,ag.di]
 have hroot:∃ x0,nth p'.hp 0=some x0/\(U b).nil=false:=by
  have lq:=uk
  simp only [aV.ok,Bool.and_eq_true] at lq
  have hr:=lq.1.1
  cases h0:nth p'.hp 0 with
  | none=>unfold aV.ids at hr;rw [jy,h0] at hr;cases hr
  | some x0 =>
   refine ⟨x0,rfl,?_⟩
   rw [hidx 0 x0 h0] at hr
   have:=hrel.aj 0 _ (hidx 0 x0 h0)
   cases x0 with
   | c o cs =>
    have:=cK.nil this
    rwa [hm0] at this
   | v=>cases hr
   | obj=>cases hr
   | l=>cases hr
   | m=>cases hr
 obtain ⟨x0,hx0,hnb⟩:=hroot
 have v8:aD E O U w (U b) (.obj o (k+2) q):=(fW.plain hno).2 ⟨hnb,by rw [yS pP hok];rw [jz] at hD;exact ⟨Uc,hD⟩⟩
 -- what it writes and looks at
 have I8:o=true->∀ z,(ag.obj o (k+2) q).aB w (U b) z->∃ i x,nth p'.hp i=some x/\x.own=true/\(U (bz g.2 i)).nil=false/\x.aB w (U (bz g.2 i)) z:=fun qs z hz=>by
  have hz:(bQ (kb (k+2))).aB w (U b).aj (U b).off z:=hz
  rw [u_ hno,yS pP hok] at hz
  obtain ⟨d1,U1,D1,i,y,hy,ho,hn,hf⟩:=hz
  rw [<-qs,<-jz] at D1 hy
  obtain ⟨x,hx,rfl⟩:=qv i y hy
  have hu:=D1.uniq _ uk hD (i+1) i _ (by omega) hy
  have hn2:=(hu.nil _ (D1.h.aj i _ hy) (hD.h.aj i _ hy)).symm.trans hn
  rw [hu.aB _ hn,(N0 i x hx).1] at hf
  exact ⟨i,x,hx,by rw [ag.cC] at ho;exact ho,NZ i hn2,hf⟩
 have vh:∀ z,(ag.obj o (k+2) q).av w (U b) z->∃ i x,nth p'.hp i=some x/\(U (bz g.2 i)).nil=false/\x.av w (U (bz g.2 i)) z:=fun z hz=>by
  have hz:(bQ (kb (k+2))).av w (U b).aj (U b).off z:=hz
  rw [u_ hno,yS pP hok] at hz
  obtain ⟨d1,U1,D1,i,y,hy,hn,hf⟩:=hz
  obtain ⟨z0,za,e⟩:=aV.kO hy
  simp only [Bool.false_eq_true,if_false] at e
  have pQ:nth p'.ids.hp i=some (if o then z0 else z0.b9):=by rw [jz];exact aV.n_ za
  obtain ⟨x,hx,e2⟩:=qv i _ pQ
  have hDF:mg (m8 (k+2)) (p.ids.rd false) w (U b).aj (U b).off (q.cells O) Uc:=by
   have:=hD
   rw [jz] at this
   exact this.xG _
  have hu:=D1.uniq _ (aV.ql y_ false) hDF (i+1) i _ (by omega) hy
  have hn2:=(hu.nil _ (D1.h.aj i _ hy) (hDF.h.aj i _ hy)).symm.trans hn
  rw [hu.av _ hn,e,Au] at hf
  have h3:bx (m8 (k+2)) w (Uc i) z0=bx (m8 (k+2)) w (Uc i) (x.inst (eL 0 p'.tys.length)):=by
   rw [<-e2]
   cases o
   ·simp only [Bool.false_eq_true,if_false];rw [Au]
   ·rfl
  rw [h3,(N0 i x hx).2] at hf
  exact ⟨i,x,hx,NZ i hn2,hf⟩
 have oL:b<hp.length:=by
  obtain ⟨x',e1,_⟩:=hact 0 x0 hx0
  rw [hm0] at e1
  exact iW e1
 have bM:∀ j bk,nth (eg (some (.obj o (k+2) q)) hpk b) j=some bk->(j=b/\bk = .obj o (k+2) q)\/(j≠b/\nth hp j=some bk/\∀ i x,nth p'.hp i=some x->bz g.2 i=j->bk.jm=false):=by
  intro j bk hj
  by_cases i_:b=j
  ·subst i_
   rw [rO,if_pos (by omega)] at hj
   cases hj
   exact .inl ⟨rfl,rfl⟩
  ·rw [qi _ _ _ _ i_] at hj
   obtain ⟨g1,g2⟩:=hks j bk hj
   refine .inr ⟨fun e=>i_ e.symm,g1,fun i x hx hi=>?_⟩
   cases i with
   | zero=>rw [hm0] at hi;exact absurd hi i_
   | succ i=>exact g2 (i+1) (by omega) (by have:=iW hx;rw [List.length_tail,<-hlen];omega) hi
 refine ⟨⟨fun j bk hj=>?_,fun j j' bk aS hj ho hj' hne hn hn' z hf hf'=>?_⟩,fun j bk hj=>?_,h.fr,by rw [iL,Tm];exact h.len,h.keep⟩
 ·rcases bM j bk hj with ⟨rfl,rfl⟩ | ⟨_,e1,_⟩
  ·exact v8
  ·exact h.heap.aj j bk e1
 ·rcases bM j bk hj with ⟨e1,e2⟩ | ⟨e1,e2,e3⟩<;>rcases bM j' aS hj' with ⟨f1,f2⟩ | ⟨f1,f2,f3⟩
  ·exact absurd (e1.trans f1.symm) hne
  ·subst e1
   rw [e2] at hf
   rw [e2] at ho
   obtain ⟨i,x,hx,fy,fN,rY⟩:=I8 ho z hf
   obtain ⟨x',g1,g2,g3,_⟩:=hact i x hx
   have rY:=g3 fy _ _ _ rY
   refine h.heap.apart (bz g.2 i) j' x' aS g1 (g2 fy) f2 (fun e=>?_) fN hn' z rY hf'
   have:=f3 i x hx e
   rw [e,f2] at g1
   cases g1
   rw [e] at rY
   exact (h.heap.aj _ _ f2).rX this (g2 fy) rY
  ·subst f1
   rw [f2] at hf'
   obtain ⟨i,x,hx,fN,rY⟩:=vh z hf'
   obtain ⟨x',g1,_,_,g3⟩:=hact i x hx
   rw [g3] at rY
   refine h.heap.apart j (bz g.2 i) bk x' e2 ho g1 (fun e=>?_) hn fN z hf rY
   exact (h.heap.aj _ _ e2).rX (e3 i x hx e.symm) ho hf
  ·exact h.heap.apart j j' bk aS e2 ho f2 hne hn hn' z hf hf'
 ·rcases bM j bk hj with ⟨rfl,rfl⟩ | ⟨_,e1,_⟩
  ·refine .inr ⟨fun qs z hf=>?_,fun z hf=>?_⟩
   ·obtain ⟨i,x,hx,fy,fN,rY⟩:=I8 qs z hf
    obtain ⟨x',g1,g2,g3,_⟩:=hact i x hx
    have rY:=g3 fy _ _ _ rY
    rcases h.old _ _ g1 with o | o
    ·rw [fN] at o;cases o
    ·exact o.wr (g2 fy) z rY
   ·obtain ⟨i,x,hx,fN,rY⟩:=vh z hf
    obtain ⟨x',g1,_,_,g3⟩:=hact i x hx
    rw [g3] at rY
    rcases h.old _ _ g1 with o | o
    ·rw [fN] at o;cases o
    ·exact o.rd z rY
  ·exact h.old j bk e1
theorem N1 {ks:List Nat} : ∀ (n j:Nat) (hp:List (Option ag)),M.sat F O (Fp ks n j hp) (fun hp'=>hp.length<=hp'.length/\∀ U w,HS E O U hp w->∃ U':Nat->Loc,(∀ j,j<hp.length->U' j=U j)/\HS E O U' hp' w)
 | 0,j,hp=>au ⟨Nat.le_refl _,fun U w h=>⟨U,fun _ _=>rfl,h⟩⟩
 | n+1,j,hp=>by
  unfold Fp
  refine aY (fun _=>?_) (fun _=>au ⟨Nat.le_refl _,fun U w h=>⟨U,fun _ _=>rfl,h⟩⟩)
  split
  ·rename_i o k a hj
   refine aY (fun _=>?_) (fun _=>N1 n (j+1) hp)
   refine ak (zrL (E:=E) hj) fun c6 h1=>cH (N1 n (j+1) c6) fun jn h2=>⟨Nat.le_trans h1.1 h2.1,fun U w h=>?_⟩
   obtain ⟨U1,e1,e2⟩:=h1.2 U w h
   obtain ⟨U2,e3,e4⟩:=h2.2 U1 w e2
   exact ⟨U2,fun i hi=>(e3 i (Nat.lt_of_lt_of_le hi h1.1)).trans (e1 i hi),e4⟩
  ·exact N1 n (j+1) hp
theorem zjw {ks:List Nat} {hp:List (Option ag)} : M.sat F O (MZ ks hp) (fun hp'=>hp.length<=hp'.length/\∀ U w,HS E O U hp w->∃ U':Nat->Loc,(∀ j,j<hp.length->U' j=U j)/\HS E O U' hp' w):=by
 unfold MZ
 exact aY (fun _=>au ⟨Nat.le_refl _,fun U w h=>⟨U,fun _ _=>rfl,h⟩⟩) (fun _=>N1 _ _ _)
theorem HS.wo {U:Nat->Loc} {hp:List (Option ag)} {w:World} {b:Nat} {bk aS:ag} (h:HS E O U hp w) (hb:nth hp b=some bk) (ho:aS.own=bk.own) (hf:∀ w r,aS.aB w r=bk.aB w r)
  (hr:∀ w r,aS.av w r=bk.av w r) (hrel:aD E O U w (U b) aS):HS E O U (eg (some aS) hp b) w:=by
 have oL:=iW hb
 have at':∀ j x,nth (eg (some aS) hp b) j=some x->∃ y,nth hp j=some y/\x.own=y.own/\(∀ w r,x.aB w r=y.aB w r)/\(∀ w r,x.av w r=y.av w r)/\aD E O U w (U j) x:=fun j x hj=>by
  by_cases he:b=j
  ·subst he
   rw [rO,if_pos oL] at hj
   cases hj
   exact ⟨bk,hb,ho,hf,hr,hrel⟩
  ·rw [qi _ _ _ _ he] at hj
   exact ⟨x,hj,rfl,fun _ _=>rfl,fun _ _=>rfl,h.heap.aj j x hj⟩
 refine ⟨⟨fun j x hj=>(at' j x hj).choose_spec.2.2.2.2,fun j j' x x' hj fy hj' hne hn hn' z hz=>?_⟩,fun j x hj=>?_,h.fr,by rw [iL];exact h.len,h.keep⟩
 ·obtain ⟨y,a1,a2,a3,a4,_⟩:=at' j x hj
  obtain ⟨y',b1,b2,b3,b4,_⟩:=at' j' x' hj'
  rw [a3] at hz
  rw [b4]
  exact h.heap.apart j j' y y' a1 (by rw [<-a2];exact fy) b1 hne hn hn' z hz
 ·obtain ⟨y,a1,a2,a3,a4,_⟩:=at' j x hj
  rw [a2,a3,a4]
  exact h.old j y a1
theorem Tn {k:Nat} : kb (k+1000)=k:=by
 have:nY (k+1000)=true:=Nat.ble_eq_true_of_le (by omega)
 rw [zvP this];omega
theorem zs7 {b:Nat} {hp:List (Option ag)} : M.sat F O (Q6 b hp) (fun hp'=>hp'.length=hp.length/\∀ U w,HS E O U hp w->HS E O U hp' w):=by
 unfold Q6
 split
 ·rename_i o k a hb
  refine aY (fun _=>aE) (fun hk=>?_)
  have hk:nY k=false:=by simpa using hk
  refine ak (cz (Q:=fun q=>q.cells O=[.b true,.l (a.cells O)]) fun q h=>A.aK h) fun q hq=>au ⟨iL _ _ _,fun U w h=>?_⟩
  have h1:=(fW.plain hk).1 (h.heap.aj b _ hb)
  have ho:nY (k+1000)=true:=Nat.ble_eq_true_of_le (by omega)
  refine h.wo hb rfl (fun w r=>?_) (fun w r=>?_) ⟨fun e=>(by rw [ho] at e;cases e),fun _=>?_⟩
  ·simp only [ag.aB,Tn,u_ hk]
  ·simp only [ag.av,Tn,u_ hk]
  ·rw [Tn,hq]
   exact ⟨by rw [h1.1];rfl,fun _=>h1.2⟩
 ·exact aE
theorem zjx {b:Nat} {hp:List (Option ag)} : M.sat F O (M1 b hp) (fun hp'=>hp'.length=hp.length/\∀ U w,HS E O U hp w->HS E O U hp' w):=by
 unfold M1
 split
 ·rename_i o k a hb
  refine aY (fun hk=>?_) (fun _=>aE)
  simp only [Bool.and_eq_true,Bool.not_eq_true'] at hk
  obtain ⟨hk,hk2⟩:=hk
  refine ak (cz (Q:=fun r=>r.bool O=((a.cells O).getD 0 default).aA) fun r h=>A.aq (by rw [h];simp [lJ])) fun r hr=>?_
  refine ak (n6 (Q:=fun _=>((a.cells O).getD 0 default).aA=true) fun h=>by rw [<-hr];exact h) fun _ hg=>?_
  refine ak (cz (Q:=fun q=>q.cells O=((a.cells O).getD 1 default).ay) fun q h=>A.aK (by rw [h];simp [lJ])) fun q hq=>au ⟨iL _ _ _,fun U w h=>?_⟩
  have h1:fW o k w (U b) (a.cells O):=h.heap.aj b _ hb
  obtain ⟨h2,h3⟩:=h1.2 hk
  have hn:(U b).nil=false:=by
   rw [hg] at h2
   cases hx:(U b).nil with
   | false=>rfl
   | true=>rw [hx] at h2;cases h2
  have h3:=h3 hn
  have AH:=zvP hk
  generalize k-1000=k' at hk2 AH ⊢
  have hown:(ag.obj o k' q).own=(ag.obj o k a).own:=rfl
  refine h.wo hb hown (fun w r=>?_) (fun w r=>?_) ((fW.plain hk2).2 ⟨hn,?_⟩)
  ·simp only [ag.aB,AH,u_ hk2]
  ·simp only [ag.av,AH,u_ hk2]
  ·rw [AH] at h3
   rw [hq];exact h3
 ·exact aE
theorem um {m:List Nat} : ∀ (l:List (Option ag)) (j:Nat) (hp:List (Option ag)),M.sat F O (yJ m j l hp) (fun hp'=>hp'.length=hp.length/\∀ U w,HS E O U hp w->HS E O U hp' w)
 | [],j,hp=>au ⟨rfl,fun _ _ h=>h⟩
 | none::l,j,hp=>um l (j+1) hp
 | some (.c _ _)::l,j,hp=>um l (j+1) hp
 | some (.v _ _ _)::l,j,hp=>um l (j+1) hp
 | some (.l _ _ _ _)::l,j,hp=>um l (j+1) hp
 | some (.m _ _ _ _)::l,j,hp=>um l (j+1) hp
 | some (.obj _ 0 _)::l,j,hp=>um l (j+1) hp
 | some (.obj _ 1 _)::l,j,hp=>um l (j+1) hp
 | some (.obj _ (k+2) _)::l,j,hp=>by
  unfold yJ
  split
  ·exact ak (zjv (E:=E)) fun c6 h1=>cH (um l (j+1) c6) fun jn h2=>⟨h2.1.trans h1.1,fun U w h=>h2.2 U w (h1.2 U w h)⟩
  ·exact aY (fun _=>ak (zjx (E:=E)) fun c6 h1=>cH (um l (j+1) c6) fun jn h2=>⟨h2.1.trans h1.1,fun U w h=>h2.2 U w (h1.2 U w h)⟩) (fun _=>um l (j+1) hp)
  ·exact um l (j+1) hp
theorem zjy {K:Nat} (hS:bg P I K S F) (hE:E.Ok K) {f:FuncId} {vs:List V} {hp:List (Option ag)} : M.sat F O (M4 P S f vs hp) (fun res=>∀ U w,(∀ v∈vs,V.good O v)->HS E O U hp w->I w ->
  (callFunc f (vs.map (V.aa O U)).toArray).run P w = .ok (.enter f (vs.map (V.aa O U)).toArray) w/\ve P E O f vs hp U w res):=by
 unfold M4
 refine ak (R:=fun c6=>c6.length=hp.length/\∀ U w,HS E O U hp w->HS E O U c6 w) ?_ fun c6 h1=>?_
 ·split
  ·exact aY (fun _=>um _ _ _) (fun _=>au ⟨rfl,fun _ _ h=>h⟩)
  ·exact au ⟨rfl,fun _ _ h=>h⟩
 refine ak (zlc hS hE) fun res hres=>?_
 split
 ·exact au fun U w hvs hh hI=>hres U w hvs (h1.2 U w hh) hI
 ·rename_i v jn
  refine aY (fun _=>au fun U w hvs hh hI=>?_) (fun _=>aY (fun hv=>?_) (fun _=>aE))
  ·obtain ⟨e1,e2⟩:=hres U w hvs (h1.2 U w hh) hI
   refine ⟨e1,Calls.mono e2 fun e w' ⟨x,hx,U',a1,a2,a3⟩=>⟨x,hx,U',fun j hj=>a1 j (by rw [h1.1];exact hj),a2,a3⟩⟩
  ·refine ak (zjw (E:=E)) fun hp3 h3=>au fun U w hvs hh hI=>?_
   obtain ⟨e1,e2⟩:=hres U w hvs (h1.2 U w hh) hI
   refine ⟨e1,Calls.mono e2 fun e w' ⟨x,hx,U',a1,a2,a3⟩=>?_⟩
   obtain ⟨U2,b1,b2⟩:=h3.2 U' w' a2
   simp only [Bool.and_eq_true] at hv
   have hle:c6.length<=jn.length:=Nat.le_of_ble_eq_true hv.2
   refine ⟨x,hx,U2,fun j hj=>(b1 j (by have:=h1.1;omega)).trans (a1 j (by rw [h1.1];exact hj)),b2,fun u hu=>⟨(a3 u hu).1,?_⟩⟩
   subst hu
   rw [(a3 u rfl).2]
   exact (V.fQ hv.1 b1).symm
theorem zrM {U U':Nat->Loc} : ∀ {vs:List V} {l:List Lf} {us:List V},B0 vs l=some us->l.map (Lf.aa O U')=(vs.flatMap V.iq).map (Lf.aa O U)->(∀ x∈l,x.good O) ->
  us.map (V.aa O U')=vs.map (V.aa O U)/\∀ u∈us,V.good O u:=by
 intro vs
 induction vs with
 | nil =>
  intro l us h _ _
  cases l with
  | nil=>cases h;exact ⟨rfl,fun u hu=>(by cases hu)⟩
  | cons x l=>cases h
 | cons v r ih =>
  intro l us h hc hg
  cases v with
  | t z=>cases l<;>cases h
  | s v =>
   cases v with
   | one y =>
    cases l with
    | nil=>cases h
    | cons x l =>
     simp only [B0,Option.map_eq_some_iff] at h
     obtain ⟨us',h1,rfl⟩:=h
     simp only [List.flatMap_cons,V.iq,V1.cells,List.cons_append,List.nil_append,List.map_cons,List.cons.injEq] at hc
     obtain ⟨e1,e2⟩:=ih h1 hc.2 (fun z hz=>hg z (List.mem_cons_of_mem _ hz))
     refine ⟨?_,fun u hu=>?_⟩
     ·simp only [List.map_cons,e1]
      congr 1
      exact hc.1
     ·rcases List.mem_cons.1 hu with rfl | hu
      ·exact V1.ah.2 (hg x (List.mem_cons_self ..))
      ·exact e2 u hu
   | agg ys =>
    have hr:B0 (.s (.agg ys)::r) l=if Nat.ble ys.length l.length then (B0 r (l.drop ys.length)).map (.s (.agg (l.take ys.length))::·) else none:=by
     cases l<;>rfl
    rw [hr] at h
    split at h
    ·rename_i hle
     have hle:=Nat.le_of_ble_eq_true hle
     simp only [Option.map_eq_some_iff] at h
     obtain ⟨us',h1,rfl⟩:=h
     simp only [List.flatMap_cons,V.iq,V1.cells,List.map_append] at hc
     rw [<-List.take_append_drop ys.length l,List.map_append] at hc
     obtain ⟨c1,c2⟩:=List.append_inj hc (by simp only [List.length_map,List.length_take];omega)
     obtain ⟨e1,e2⟩:=ih h1 c2 (fun z hz=>hg z (List.mem_of_mem_drop hz))
     refine ⟨?_,fun u hu=>?_⟩
     ·simp only [List.map_cons,e1]
      congr 1
      simp only [V.aa,V1.aa,c1]
     ·rcases List.mem_cons.1 hu with rfl | hu
      ·exact V1.aP.2 fun z hz=>hg z (List.mem_of_mem_take hz)
      ·exact e2 u hu
    ·cases h
theorem zpo {K:Nat} (hS:bg P I K S F) (hE:E.Ok K) {f:FuncId} {vs:List V} {hp:List (Option ag)} : M.sat F O (Q9 P S f vs hp) (fun res=>∀ U w,(∀ v∈vs,V.good O v)->HS E O U hp w->I w ->
  (callFunc f (vs.map (V.aa O U)).toArray).run P w = .ok (.enter f (vs.map (V.aa O U)).toArray) w/\ve P E O f vs hp U w res):=by
 unfold Q9
 dsimp only
 generalize (match S.get f with | some sg=>(sg.ins.flatMap V.iq).map (HQ sg.hin) | none=>[])=lf
 refine aY (fun _=>aY (fun hlt=>?_) (fun _=>aE)) (fun _=>zjy hS hE)
 simp only [Bool.and_eq_true] at hlt
 refine ak (zdt fun w=>I6 (E:=E) (w:=w) _ _ _) fun q hq=>?_
 refine bh fun us AJ=>?_
 refine ak (zjy hS hE) fun res hres=>?_
 have key:∀ U w,(∀ v∈vs,V.good O v)->HS E O U hp w->∃ U':Nat->Loc,hp.length<=q.2.length/\(∀ j,j<hp.length->U' j=U j)/\HS E O U' q.2 w/\us.map (V.aa O U')=vs.map (V.aa O U)/\∀ u∈us,V.good O u:=fun U w hv hh=>by
  obtain ⟨_,_,h3,h4,U',h5,h6,h7⟩:=hq w U hh hlt.1 hlt.2 (fun x hx=>by
   obtain ⟨v,lQ,ij⟩:=List.mem_flatMap.1 hx
   have:=hv v lQ
   cases v with
   | s v=>exact this x ij
   | t l=>cases ij)
  obtain ⟨e1,e2⟩:=zrM AJ h7 h3
  exact ⟨U',h4,h5,h6,e1,e2⟩
 split
 ·refine aY (fun hvl=>au fun U w hv hh hI=>?_) (fun _=>aE)
  obtain ⟨U',h4,h5,h6,e1,e2⟩:=key U w hv hh
  obtain ⟨d1,d2⟩:=hres U' w e2 h6 hI
  simp only [ve] at d2 ⊢
  rw [e1] at d1 d2
  rw [V.fQ hvl h5] at d2
  exact ⟨d1,d2⟩
 ·refine au fun U w hv hh hI=>?_
  obtain ⟨U',h4,h5,h6,e1,e2⟩:=key U w hv hh
  obtain ⟨d1,d2⟩:=hres U' w e2 h6 hI
  simp only [ve] at d2 ⊢
  rw [e1] at d1 d2
  exact ⟨d1,Calls.mono d2 fun e w' ⟨x,hx,U2,a1,a2,a3⟩=>⟨x,hx,U2,fun j hj=>(a1 j (by omega)).trans (h5 j hj),a2,a3⟩⟩
theorem zlg {p v:V} : M.sat F O (M5 p v) (fun u=>(V.good O v->V.good O u)/\∀ U,u.aa O U=v.aa O U):=by
 unfold M5
 split
 ·rename_i b a l
  split
  ·rename_i x hx
   split
   ·rename_i q hq
    refine ak (cz (Q:=fun r=>r.bool O=(a.int O==((x.1:Nat):Int))) fun r h=>A.aq h) fun r hr=>?_
    refine ak (n6 (Q:=fun _=>a.int O=((x.1:Nat):Int)) fun h=>by rw [hr] at h;simpa using h) fun _ ha=>au ⟨fun _=>V1.ah.2 trivial,fun U=>?_⟩
    have:(a.int O).toNat=x.1:=by rw [ha];simp
    simp only [V.aa,V1.aa,Lf.aa,nX,this,hq,Alt.aa,bV.val]
   ·exact au ⟨id,fun _=>rfl⟩
  ·exact au ⟨id,fun _=>rfl⟩
 ·exact au ⟨id,fun _=>rfl⟩
theorem zjz:∀ (ps vs:List V),M.sat F O (M6 ps vs) (fun us=>((∀ v∈vs,V.good O v)->∀ u∈us,V.good O u)/\∀ U,us.map (V.aa O U)=vs.map (V.aa O U))
 | [],vs=>au ⟨id,fun _=>rfl⟩
 | _::_,[]=>au ⟨id,fun _=>rfl⟩
 | p::ps,v::vs=>by
  unfold M6
  refine ak zlg fun x hx=>ak (zjz ps vs) fun r hr=>au ⟨fun hv u hu=>?_,fun U=>?_⟩
  ·rcases List.mem_cons.1 hu with rfl | hu
   ·exact hx.1 (hv v (List.mem_cons_self ..))
   ·exact hr.1 (fun y hy=>hv y (List.mem_cons_of_mem _ hy)) u hu
  ·simp only [List.map_cons,hx.2 U,hr.2 U]
theorem To {K:Nat} (hS:bg P I K S F) (hE:E.Ok K) {f:FuncId} {vs:List V} {hp:List (Option ag)} : M.sat F O (B1 P S f vs hp) (fun res=>∀ U w,(∀ v∈vs,V.good O v)->HS E O U hp w->I w ->
  (callFunc f (vs.map (V.aa O U)).toArray).run P w = .ok (.enter f (vs.map (V.aa O U)).toArray) w/\ve P E O f vs hp U w res):=by
 unfold B1
 refine ak (zjz _ _) fun us AJ=>cH (zpo hS hE) fun res hres U w hv hh hI=>?_
 obtain ⟨h1,h2⟩:=hres U w (AJ.1 hv) hh hI
 rw [AJ.2 U] at h1
 refine ⟨h1,?_⟩
 cases res with
 | val v=>simp only [ve,AJ.2 U] at h2 ⊢;exact h2
 | hp v hp'=>simp only [ve,AJ.2 U] at h2 ⊢;exact h2
theorem znZ {t:TypeId} {name:String} {f:FuncId} (h:Fq P t name=some f) (v:Value) (w:World):(method (P.types.size+Made.depth) t v name).run P w = .ok (f,v) w:=by
 unfold Fq at h
 split at h
 ·rename_i i e hi hk
  split at h
  ·rename_i m hm
   split at h
   ·rename_i f' hp hf
    cases h
    have h2:=AE hk
    rw [show P.types.size+Made.depth=(P.types.size+99)+1 from rfl]
    unfold method
    simp [typeInfo,hi,hm,hp,hf,follow,receiverAt,underlying,h2,Place.get]
   ·cases h
  ·cases h
 ·cases h
theorem zrN (y:Value) (zs:Array Value):(#[y]++zs).extract 1 (#[y]++zs).size=zs/\(#[y]++zs)[0]? = some y:=by
 constructor
 ·apply Array.ext'
  simp only [Array.toList_extract,Array.toList_append,List.extract_eq_take_drop,Array.size_append,List.size_toArray,List.length_cons,List.length_nil]
  simp only [List.cons_append,List.nil_append,List.drop_succ_cons,List.drop_zero]
  exact List.take_of_length_le (by simp)
 ·rw [Array.getElem?_append_left (by simp)];rfl
theorem zlh {t:TypeId} {name:String} {f:FuncId} (h:Fq P t name=some f) (v:Value) (args:Array Value) (w:World):(invoke (.fn (.method name) #[]) (#[.iface t v]++args)).run P w=(callFunc f (#[v]++args)).run P w:=by
 have h1:=zrN (.iface t v) args
 have h2:=znZ (P:=P) h v w
 simp only [invoke,h1.1,h1.2,callMethod]
 simp [h2]
theorem xM (w:World) (d:Nat) (t u:TypeId) (v:Value) {ms:Array (String×TypeId)} (h:P.underlying t=some (.interface ms)) :
  (Op.equalIn (d+1) t (.iface u v) .nilIface).run P w = .ok false w/\(Op.equalIn (d+1) t .nilIface .nilIface).run P w = .ok true w:=by
 constructor<;>simp [Op.equalIn,run_underlying h]
theorem zrO {op:BinOp} {t:TypeId} {l:Lf} {q:Bool} {y:Operand} (h:M3 P op t l=some q) (hy:HP y=true) (U:Nat->Loc) (x:Operand) (w:World) (a:Act) :
  (eqGuard op t x y (l.aa O U) (a.eval y)).run P w = .ok () w/\(binOp op t (l.aa O U) (a.eval y)).run P w = .ok (.bool q) w:=by
 unfold HP at hy
 split at hy
 ·have he:a.eval (.const .nilIface) = .nilIface:=rfl
  rw [he]
  unfold M3 at h
  split at h
  ·rename_i ms hu
   split at h
   ·cases h;exact ⟨by simp [eqGuard,Lf.aa],by simp [binOp,Op.equal,Op.maxDepth,Lf.aa,(xM w 9999 t _ _ hu).1,(xM w 9999 t 0 .nilIface hu).2]⟩
   ·cases h;exact ⟨by simp [eqGuard,Lf.aa],by simp [binOp,Op.equal,Op.maxDepth,Lf.aa,(xM w 9999 t _ _ hu).1,(xM w 9999 t 0 .nilIface hu).2]⟩
   ·cases h;exact ⟨by simp [eqGuard,Lf.aa],by simp [binOp,Op.equal,Op.maxDepth,Lf.aa,(xM w 9999 t _ _ hu).1,(xM w 9999 t 0 .nilIface hu).2]⟩
   ·cases h;exact ⟨by simp [eqGuard,Lf.aa],by simp [binOp,Op.equal,Op.maxDepth,Lf.aa,(xM w 9999 t _ _ hu).1,(xM w 9999 t 0 .nilIface hu).2]⟩
   ·cases h
  ·cases h
 ·cases hy
end
end Go.Sx
namespace Go.Sx
open Go.RowKit
section
variable {P:Program} {F:aC} {E:Env} {O:Nat->DV}
theorem zgF {α:Type} (x y:α):∀ (l:List α) (n:Nat),eg x (eg y l n) n=eg x l n
 | [],n=>by cases n<;>rfl
 | _::_,0=>rfl
 | z::l,n+1=>by simp only [eg,zgF x y l n]
theorem zli {hp:List (Option ag)} {b:Nat} {r:Bool×Bool×List LT×A} (h:Ia hp b=some r):nth hp b=some (.l r.1 r.2.1 r.2.2.1 r.2.2.2):=by
 unfold Ia at h
 split at h
 ·rename_i hb
  cases h
  exact hb
 ·cases h
theorem HS.swap {U:Nat->Loc} {hp hp':List (Option ag)} {w:World} (h:HS E O U hp w) (hl:hp'.length=hp.length)
  (hs:∀ j x',nth hp' j=some x'->∃ x,nth hp j=some x/\aD E O U w (U j) x'/\(x'.own=true->x.own=true/\∀ b,x'.aB w (U j) b->x.aB w (U j) b)/\∀ b,x'.av w (U j) b->x.av w (U j) b):HS E O U hp' w:=by
 refine ⟨⟨fun j x' hj=>(hs j x' hj).choose_spec.2.1,fun j j' x' y' hj ho hj' hne hn hn' b hf hf'=>?_⟩,fun j x' hj=>?_,h.fr,by rw [hl];exact h.len,h.keep⟩
 ·obtain ⟨x,e1,_,e2,_⟩:=hs j x' hj
  obtain ⟨y,f1,_,_,f2⟩:=hs j' y' hj'
  exact h.heap.apart j j' x y e1 (e2 ho).1 f1 hne hn hn' b ((e2 ho).2 b hf) (f2 b hf')
 ·obtain ⟨x,e1,_,e2,e3⟩:=hs j x' hj
  rcases h.old j x e1 with o | o
  ·exact .inl o
  ·exact .inr ⟨fun ho b hb=>o.wr (e2 ho).1 b ((e2 ho).2 b hb),fun b hb=>o.rd b (e3 b hb)⟩
theorem CB (hp:List (Option ag)) (b:Nat):(bJ hp b).length=hp.length:=by
 unfold bJ
 split
 ·split
  ·exact iL _ _ _
  ·rfl
 ·rfl
theorem zh6 {hp:List (Option ag)} {b:Nat} (h:bH hp=true):bH (bJ hp b)=true:=by
 unfold bJ
 split
 ·split
  ·exact FY h
  ·exact h
 ·exact h
theorem HS.bJ {U:Nat->Loc} {hp:List (Option ag)} {w:World} (h:HS E O U hp w) (b:Nat):HS E O U (bJ hp b) w:=by
 unfold Go.Sx.bJ
 split
 ·split
  ·exact h.kill b
  ·exact h
 ·exact h
theorem zgG {hp:List (Option ag)} {b j:Nat} {x:ag} (h:nth (bJ hp b) j=some x):nth hp j=some x/\(j=b->x.jm=false):=by
 unfold bJ at h
 split at h
 ·rename_i y hy
  split at h
  ·obtain ⟨h1,h2⟩:=nE h
   exact ⟨h2,fun e=>absurd e h1⟩
  ·rename_i hs
   refine ⟨h,fun e=>?_⟩
   subst e
   rw [hy] at h;cases h
   simpa using hs
 ·rename_i hy
  exact ⟨h,fun e=>by subst e;rw [hy] at h;cases h⟩
theorem HS.oP {U:Nat->Loc} {hp:List (Option ag)} {w:World} (h:HS E O U hp w) (hlt:bH hp=true) {b:Nat} {bk:ag} (cY:nth hp b=some bk) (N2:∀ x,x=(U b).aj->bk.av w (U b) x) {r:Loc} {o f:Bool} {ts:List LT} {q:A}
  (aZ:r.nil=false->(U b).nil=false/\r.aj=(U b).aj) (hrel:aD E O (ext U hp.length r) w r (.l o f ts q))
  (hfo:o=true->r.nil=false->∀ x,x=r.aj/\r.len<r.cap->bk.own=true/\bk.aB w (U b) x/\bk.jm=true):HS E O (ext U hp.length r) (Go.Sx.bJ hp b++[some (.l o f ts q)]) w:=by
 have hk:=(h.bJ b).push (w':=w) (bk:=.l o f ts q) (r:=r) (zh6 hlt) (Below.refl _ w) (by rw [CB];exact hrel) (fun j b' hj hn hn'=>⟨fun ho x hx hx'=>?_,fun ho x hx hx'=>?_⟩) ?_
 ·rw [CB] at hk;exact hk
 ·obtain ⟨h1,h2⟩:=zgG hj
  obtain ⟨g1,g2,g3⟩:=hfo ho hn x hx
  have i_:j≠b:=fun e=>by
   have:=h2 e
   subst e
   rw [cY] at h1;cases h1
   rw [g3] at this;cases this
  exact h.heap.apart b j bk b' cY g1 h1 (Ne.symm i_) (aZ hn).1 hn' x g2 hx'
 ·obtain ⟨h1,h2⟩:=zgG hj
  have hx':x=r.aj:=hx'
  by_cases i_:j=b
  ·exact (h.heap.aj j b' h1).rX (h2 i_) ho hx
  ·exact h.heap.apart j b b' bk h1 ho cY i_ hn' (aZ hn).1 x hx (N2 x (hx'.trans (aZ hn).2))
 ·cases hn:r.nil with
  | true=>exact .inl rfl
  | false =>
   rcases h.old b bk cY with g | g
   ·rw [(aZ hn).1] at g;cases g
   ·refine .inr ⟨fun ho x hx=>?_,fun x hx=>?_⟩
    ·obtain ⟨g1,g2,_⟩:=hfo ho hn x hx
     exact g.wr g1 x g2
    ·have hx:x=r.aj:=hx
     exact g.rd x (N2 x (hx.trans (aZ hn).2))
theorem zpp {t tx ty elem ex:TypeId} {w:World} {rb rc:Loc} {o o':Bool} {ts:List LT} {xb xc:List DV} {sz:Nat} (hk:tk P t=some (.slice elem)) (pS:tk P tx=some (.slice ex)) (hs:hM P elem=some sz) (c4:sz=ts.length)
  (ia:bf E w rb o ts xb) (kg:bf E w rc o' ts xc) (h0:rc.len=0):(Builtin.append_ #[t,tx] ty #[rb.slice,rc.slice]).run P w = .ok rb.slice w:=by
 obtain ⟨i,hi,hsz⟩:=FN hs
 have wh:i.size=ts.length:=by rw [hsz];exact c4
 have hsrc:=Ta pS kg wh
 have hun:xc.length=0:=by rw [kg.len,h0,Nat.zero_mul]
 have ru:kR w rc xc.length=[]:=by rw [hun];rfl
 rw [ru,h0] at hsrc
 have hcap:=ia.cap
 cases aZ:rb.nil with
 | true =>
  have g0:=ia.nil aZ
  have hlen:=hsrc.len w
  have uj:=hsrc.cells
  unfold Loc.slice at hlen uj ⊢
  rw [aZ,g0.1,g0.2]
  simp only [cond_true]
  cases rb.raw<;>simp [storeCells,Builtin.append_,run_underlying (pR hk),run_underlying (pR pS),sizeOf,typeInfo,hi,hlen,uj]
 | false =>
  have hrun:=run_append_room_src (P:=P) w t tx ty elem i (pR hk) hi rb.aj rb.off rb.len rb.cap rc.slice 0 [] hsrc hcap (fun j hj=>by simp at hj) (fun j hj=>by simp at hj)
  simpa [Loc.slice,aZ,World.setCells] using hrun
theorem zmo {hp:List (Option ag)} {t tx:TypeId} {s x:V} : M.sat F O (Rm P hp t tx s x) (fun z=>∀ U w ty,HS E O U hp w ->
  ∃ v w',(Builtin.append_ #[t,tx] ty #[s.aa O U,x.aa O U]).run P w = .ok v w'/\jL E O U hp v w' z):=by
 unfold Rm
 refine bh fun k hk=>?_
 refine bh fun kx pS=>?_
 split
 ·rename_i elem ex b c
  refine bh fun r hr=>?_
  refine bh fun u hu=>?_
  refine bh fun z hz=>?_
  refine bh fun sz hs=>?_
  refine bh fun kM hby=>?_
  refine aY (fun hc=>?_) (fun _=>aE)
  obtain ⟨o,f,ts,a⟩:=r
  simp only [Bool.and_eq_true,Bool.not_eq_true'] at hc
  obtain ⟨⟨⟨⟨⟨c1,c2⟩,c3⟩,c4⟩,c5⟩,hlt⟩:=hc
  have c2:b≠c:=fun e=>by subst e;rw [Nat.beq_refl] at c2;cases c2
  have c3:=ld.beq_eq c3
  have c4:=Nat.eq_of_beq_eq_true c4
  have c5:=Nat.eq_of_beq_eq_true c5
  subst c1
  have cY:=zli hr
  simp only at cY c3 c4
  refine ak (cz (Q:=fun q=>q.cells O=a.cells O++u.2.2.cells O) fun q h=>A.aK h) fun q hq=>?_
  refine ak (cz (Q:=fun n=>n.int O=((q.cells O).length/sz:Nat)) fun q h=>A.aM h) fun n hn=>?_
  refine ak Ct fun _ hle=>au fun U w ty hw=>?_
  have hL:eu E w (U b) true f ts (a.cells O):=hw.heap.aj b _ cY
  have kg:=FZ hu hw
  rw [<-c3] at kg
  have ia:=hL.row
  have hpos:=ia.pos
  have uh:(U b).len+(U c).len<=vN kM:=by
   have Cw:(q.cells O).length=((U b).len+(U c).len)*ts.length:=by rw [hq,List.length_append,ia.len,kg.len,Nat.add_mul]
   rw [hn,Cw,c4,Nat.mul_div_cancel _ hpos] at hle
   exact Int.ofNat_le.1 hle
  show ∃ v w',(Builtin.append_ #[t,tx] ty #[(U b).slice,(U c).slice]).run P w = .ok v w'/\_
  rcases Nat.lt_or_ge (U b).cap ((U b).len+(U c).len) with hroom | hroom
  ·obtain ⟨w',r',hrun,g1,g2,g3,g4⟩:=zjr (ty:=ty) hk pS hz hs hby c4 c5 ia kg uh hroom
   rw [<-hq] at g4
   refine ⟨_,w',hrun,jL.mk (r:=r') (CB _ _) rfl ?_⟩
   have lM:=(hw.bJ b).rT (w':=w') (bk:=.l true false ts q) (r:=r') (zh6 hlt) g3
    (⟨⟨g4.nil,g4.lt,g4.pos,g4.len,g4.cap,g4.cell,fun e=>(by cases e),fun e=>by cases e⟩,fun _ _=>g4,fun e=>by cases e⟩:eu E w' r' true false ts (q.cells O))
    (.inr fun x hx=>by have hx:x=r'.aj:=hx;rw [hx,g2];exact Nat.le_refl _)
   rw [CB] at lM
   exact lM
  ·rcases Nat.eq_zero_or_pos (U c).len with h0 | h0
   ·refine ⟨_,w,zpp hk pS hs c4 ia kg h0,jL.mk (r:=U b) (CB _ _) rfl ?_⟩
    have AL:q.cells O=a.cells O:=by
     have:(u.2.2.cells O).length=0:=by rw [kg.len,h0,Nat.zero_mul]
     rw [hq,List.eq_nil_of_length_eq_zero this,List.append_nil]
    refine hw.oP hlt cY (fun x hx=>hx) (fun h=>⟨h,rfl⟩) (?_:eu E w (U b) true false ts (q.cells O)) fun _ _ x hx=>⟨rfl,hx,?_⟩
    ·rw [AL]
     exact ⟨ia,hL.spare,fun e=>by cases e⟩
    ·cases f with
     | false=>rfl
     | true=>have:=hL.full rfl;omega
   ·have hcap:(U b).len<(U b).cap:=by omega
    have hf:f=false:=by
     cases f with
     | false=>rfl
     | true=>have:=hL.full rfl;omega
    subst hf
    have lQ:=hL.spare rfl hcap
    have hnb:b<hp.length:=iW cY
    -- as a row of lY own
    have hA:HS E O U (eg (some (.v true ts a)) hp b) w:=by
     refine hw.swap (iL _ _ _) fun j x' hj=>?_
     by_cases i_:b=j
     ·subst i_
      rw [rO,if_pos hnb] at hj
      cases hj
      exact ⟨_,cY,lQ,fun _=>⟨rfl,fun x hx=>⟨hx,hcap⟩⟩,fun x hx=>hx⟩
     ·rw [qi _ _ _ _ i_] at hj
      exact ⟨x',hj,hw.heap.aj j x' hj,fun ho=>⟨ho,fun _ h=>h⟩,fun _ h=>h⟩
    have hrA:Ai (eg (some (.v true ts a)) hp b) b=some (true,ts,a):=by
     unfold Ai
     rw [rO,if_pos hnb]
    have huA:rj (eg (some (.v true ts a)) hp b) c=some u:=by
     unfold rj at hu ⊢
     rw [qi _ _ _ _ c2]
     exact hu
    have Tp:bH (eg (some (.v true ts a)) hp b)=true:=by
     unfold bH
     rw [iL]
     refine dH fun j x hj=>?_
     by_cases i_:b=j
     ·subst i_
      rw [rO,if_pos hnb] at hj
      cases hj
      rfl
     ·rw [qi _ _ _ _ i_] at hj
      exact iO hlt hj
    obtain ⟨v,w',hrun,hnew⟩:=zjs (q:=q) (n:=n) hk pS hrA huA hz hs hby rfl c3 c4 c5 Tp hq hn hle U w ty hA
    refine ⟨v,w',hrun,?_⟩
    obtain ⟨g1,U',g2,g3,g4⟩:=hnew
    rw [iL] at g1 g2 g4
    refine ⟨g1,U',g2,?_,g4⟩
    have hks:bJ hp b=eg none hp b:=by
     unfold bJ
     rw [cY]
     rfl
    rw [hks]
    have Tq:eg none (eg (some (.v true ts a)) hp b) b=eg none hp b:=zgF _ _ _ _
    rw [Tq] at g3
    refine g3.swap (by simp) fun j x' hj=>?_
    rw [oI] at hj
    split at hj
    ·rename_i hjl
     have:nth (eg none hp b++[some (.v true ts q)]) j=some x':=by rw [oI,if_pos hjl];exact hj
     exact ⟨x',this,g3.heap.aj j x' this,fun ho=>⟨ho,fun _ h=>h⟩,fun _ h=>h⟩
    ·rename_i hjl
     have e0:j-(eg none hp b).length=0:=by
      cases hd:j-(eg none hp b).length with
      | zero=>rfl
      | succ k=>rw [hd] at hj;cases k<;>cases hj
     rw [e0] at hj
     cases hj
     have:nth (eg none hp b++[some (.v true ts q)]) j=some (.v true ts q):=by rw [oI,if_neg hjl,e0];rfl
     have hv:=g3.heap.aj j _ this
     exact ⟨_,this,⟨⟨bf.nil hv,bf.lt hv,bf.pos hv,bf.len hv,bf.cap hv,bf.cell hv,fun e=>(by cases e),fun e=>by cases e⟩,fun _ _=>hv,fun e=>by cases e⟩,fun _=>⟨rfl,fun x hx=>hx.1⟩,fun x hx=>hx⟩
 ·exact aE
theorem zn0 {hp:List (Option ag)} {t:TypeId} {x:V} {low:Option Lf} : M.sat F O (Ro P hp t x low) (fun z=>∀ U w,HS E O U hp w ->
  ∃ v w',(Instr.sliceAt t (x.aa O U) (low.map (Lf.aa O U)) none none).run P w = .ok v w'/\jL E O U hp v w' z):=by
 unfold Ro
 refine bh fun k hk=>?_
 split
 ·rename_i elem b
  refine bh fun sz hs=>?_
  refine bh fun r hr=>?_
  refine aY (fun hc=>?_) (fun _=>aE)
  obtain ⟨o,f,ts,a⟩:=r
  simp only [Bool.and_eq_true] at hc
  have h1:=Nat.eq_of_beq_eq_true hc.1
  have hlt:=hc.2
  subst h1
  have cY:=zli hr
  simp only at cY
  by_cases hd:(a.cells O).length%ts.length=0
  ·refine ak (S6 hd) fun q ⟨h,k1,k2,k3,k4⟩=>ak (S7 k2) fun q2 ⟨l,m1,m2,m3⟩=>au fun U w hw=>?_
   have hL:eu E w (U b) o f ts (a.cells O):=hw.heap.aj b _ cY
   have hv:=hL.row
   rw [hv.elems] at k1 k4
   have k4:=k4 U
   have hh:h=(U b).len:=by
    rcases k4 with ⟨_,e⟩ | ⟨_,e⟩
    ·exact e
    ·cases e
   have hrun:=zgD (P:=P) (pR hk) hs (r:=U b) (m3 U) k4 m1 k1 hv.cap w
   have ij:=hv.cut m1 k1 (x:=if (U b).cap=l then (U b).raw else (U b).raw.map fun x:Addr=>x.add (l*ts.length))
   rw [<-k3,<-m2] at ij
   refine ⟨_,w,hrun,jL.mk (CB _ _) rfl ?_⟩
   refine hw.oP hlt cY (fun x hx=>hx) (fun e=>⟨e,rfl⟩) (⟨ij,fun ho ee=>?_,fun hf=>?_⟩:eu E w _ o f ts (q2.cells O)) fun ho hn x hx=>?_
   ·have ee:h-l<(U b).cap-l:=ee
    have zb:=(hL.spare ho (by omega)).cut m1 k1 (x:=if (U b).cap=l then (U b).raw else (U b).raw.map fun x:Addr=>x.add (l*ts.length))
    rw [<-k3,<-m2] at zb
    exact zb
   ·have:=hL.full hf
    show (U b).cap-l=h-l
    omega
   ·have ee:h-l<(U b).cap-l:=hx.2
    refine ⟨ho,⟨hx.1,by omega⟩,?_⟩
    show (o&&!f)=true
    cases f with
    | false=>rw [show o=true from ho];rfl
    | true=>have:=hL.full rfl;omega
  ·refine ak gU fun q _=>ak gU fun q2 _=>au fun U w hw=>?_
   have hv:=eu.row (hw.heap.aj b _ cY)
   exact absurd (by rw [hv.len];exact Nat.mul_mod_left _ _) hd
 ·exact aE
theorem zkT {t:TypeId} {e sz:Nat} (ht:P.underlying t=some (.slice e)) (hs:hM P e=some sz) {r:Loc} {k k':IntKind} {h:Nat} (h2:h<=r.len) (h3:r.len<=r.cap) (w:World) :
  (Instr.sliceAt t r.slice none (some (.int k h)) (some (.int k' h))).run P w = .ok (Loc.slice ⟨r.aj,r.off,r.nil,h,h,r.raw⟩) w:=by
 have hb:(Instr.sliceBounds true r.len r.cap none (some (.int k h)) (some (.int k' h))).run P w = .ok (0,h,h) w:=by
  simp [Instr.sliceBounds,Instr.sliceBound,asIntOf,Int.ofNat_le,Nat.le_trans h2 h3]
 simp only [Instr.sliceAt,Instr.slice,Loc.slice,Sem.run_bind,run_underlying ht,Result.andThen_ok,hb,pO hs,Sem.run_pure,Nat.sub_zero,Nat.zero_mul]
 congr 2
 split
 ·rfl
 ·cases r.nil with
  | false=>simp [Addr.add]
  | true=>cases r.raw<;>simp [Addr.add]
theorem zn1 {hp:List (Option ag)} {t:TypeId} {x:V} {high max:Lf} : M.sat F O (Rp P hp t x high max) (fun z=>∀ U w,HS E O U hp w ->
  ∃ v w',(Instr.sliceAt t (x.aa O U) none (some (high.aa O U)) (some (max.aa O U))).run P w = .ok v w'/\jL E O U hp v w' z):=by
 unfold Rp
 refine bh fun k hk=>?_
 split
 ·rename_i elem b kh h km m
  refine bh fun sz hs=>?_
  refine bh fun r hr=>?_
  refine aY (fun hc=>?_) (fun _=>aE)
  simp only [Bool.and_eq_true] at hc
  have h1:=Nat.eq_of_beq_eq_true hc.1
  have hlt:=hc.2
  subst h1
  refine ak yP fun _ h0=>?_
  refine ak (cz (Q:=fun e=>e.bool O=(h.int O==m.int O)) fun q h=>A.aq h) fun e he=>?_
  refine ak (n6 (Q:=fun _=>h.int O=m.int O) fun hb=>by rw [he] at hb;simpa using hb) fun _ hm=>?_
  refine ak (cz (Q:=fun n=>n.int O=((r.2.2.cells O).length/r.2.1.length:Nat)) fun q h=>A.aM h) fun n hn=>?_
  refine ak Ct fun _ hle=>?_
  refine ak (cz (Q:=fun q=>q.cells O=(r.2.2.cells O).take ((h.int O).toNat*r.2.1.length)) fun q h=>A.aK h) fun q hq=>au fun U w hw=>?_
  have ru:=FZ hr hw
  have hv:bf E w (U b) false r.2.1 (r.2.2.cells O):=⟨ru.nil,ru.lt,ru.pos,ru.len,ru.cap,ru.cell,fun e=>(by cases e),fun e=>by cases e⟩
  rw [hv.elems] at hn
  obtain ⟨n0,hn0⟩:∃ n0:Nat,h.int O=n0:=⟨(h.int O).toNat,by omega⟩
  have rV:n0<=(U b).len:=by omega
  have hrun:=zkT (P:=P) (pR hk) hs (r:=U b) (k:=kh) (k':=km) rV hv.cap w
  refine ⟨_,w,(by simpa [V.aa,V1.aa,Lf.aa,<-hm,hn0] using hrun),jL.mk (CB _ _) rfl ?_⟩
  have ij:=hv.cut (Nat.zero_le n0) rV (x:=(U b).raw)
  simp only [Nat.zero_mul,List.drop_zero,Nat.sub_zero] at ij
  have Tr:q.cells O=(r.2.2.cells O).take (n0*r.2.1.length):=by rw [hq,hn0];rfl
  rw [<-Tr] at ij
  have zb:bf E w ⟨(U b).aj,(U b).off,(U b).nil,n0,n0,(U b).raw⟩ false r.2.1 (q.cells O) :=
   ⟨fun e=>by have:=hv.nil e;exact ⟨by show n0=0;omega,by show n0=0;omega⟩,hv.lt,hv.pos,ij.len,Nat.le_refl _,fun i hi=>by
    obtain ⟨v,e1,e2⟩:=ij.cell i hi
    refine ⟨v,?_,e2⟩
    rw [<-e1]
    show w.cell? ⟨(U b).aj,(U b).off+i,none⟩=w.cell? ⟨(U b).aj,(if (U b).cap=0 then (U b).off else (U b).off+0)+i,none⟩
    congr 2
    split<;>rfl,fun e=>(by cases e),fun e=>by cases e⟩
  obtain ⟨bk,cY,N2⟩:∃ bk,nth hp b=some bk/\∀ x,x=(U b).aj->bk.av w (U b) x:=by
   rcases zs4 hr with ⟨o,e,_⟩ | ⟨o,f,e⟩
   ·exact ⟨_,e,fun x hx=>hx⟩
   ·exact ⟨_,e,fun x hx=>hx⟩
  exact hw.oP hlt cY N2 (fun e=>⟨e,rfl⟩) (⟨zb,fun _ ee=>absurd ee (Nat.lt_irrefl _),fun _=>rfl⟩:eu E w _ true true r.2.1 (q.cells O)) fun _ _ x hx=>absurd hx.2 (Nat.lt_irrefl _)
 ·exact aE
theorem zn2 {hp:List (Option ag)} {t:TypeId} {x:V} {low high max:Option Lf} : M.sat F O (Rq P hp t x low high max) (fun z=>∀ U w,HS E O U hp w ->
  ∃ v w',(Instr.sliceAt t (x.aa O U) (low.map (Lf.aa O U)) (high.map (Lf.aa O U)) (max.map (Lf.aa O U))).run P w = .ok v w'/\jL E O U hp v w' z):=by
 unfold Rq
 split
 ·split
  ·exact zn1
  ·exact aE
 ·refine aY (fun _=>?_) (fun _=>zpk)
  split
  ·exact zn0
  ·exact aE
theorem zmp {hp:List (Option ag)} {t tx:TypeId} {s x:V} :
  M.sat F O (Rn P hp t tx s x) (fun z=>∀ U w ty,HS E O U hp w->∃ v w',(Builtin.append_ #[t,tx] ty #[s.aa O U,x.aa O U]).run P w = .ok v w'/\jL E O U hp v w' z):=by
 unfold Rn
 exact aY (fun _=>cH zmo fun z h U w ty hw=>h U w ty hw) (fun _=>zmk)
end
end Go.Sx
namespace Go.Sx
open Go.RowKit
section
variable {P:Program} {I:World->Prop} {S:bN} {F:aC} {E:Env} {O:Nat->DV}
theorem I9 {c:A} : ∀ (ts:List Ty) (as bs:List A),M.sat F O (yE c ts as bs) (fun r=>(c.bool O=true->gb O O ts as r)/\(c.bool O=false->gb O O ts bs r))
 | .i::ts,a::l,b::l'=>by
  unfold yE
  refine ak Cj fun x hx=>ak (I9 ts l l') fun r hr=>au ⟨fun h=>⟨?_,hr.1 h⟩,fun h=>⟨?_,hr.2 h⟩⟩
  ·show a.int O=x.int O
   rw [hx,h];rfl
  ·show b.int O=x.int O
   rw [hx,h];rfl
 | .b::ts,a::l,b::l'=>by
  unfold yE
  refine ak Nv fun x hx=>ak (I9 ts l l') fun r hr=>au ⟨fun h=>⟨?_,hr.1 h⟩,fun h=>⟨?_,hr.2 h⟩⟩
  ·show a.bool O=x.bool O
   rw [hx,h];rfl
  ·show b.bool O=x.bool O
   rw [hx,h];rfl
 | .l::ts,a::l,b::l'=>by
  unfold yE
  refine ak zrv fun x hx=>ak (I9 ts l l') fun r hr=>au ⟨fun h=>⟨?_,hr.1 h⟩,fun h=>⟨?_,hr.2 h⟩⟩
  ·show a.cells O=x.cells O
   rw [hx,h];rfl
  ·show b.cells O=x.cells O
   rw [hx,h];rfl
 | [],[],[]=>au ⟨fun _=>trivial,fun _=>trivial⟩
 | [],[],_::_=>aE
 | [],_::_,_=>aE
 | .i::_,[],_=>aE
 | .i::_,_::_,[]=>aE
 | .b::_,[],_=>aE
 | .b::_,_::_,[]=>aE
 | .l::_,[],_=>aE
 | .l::_,_::_,[]=>aE
theorem zlj {m:List Nat} {n k:Nat} (h:tO m n=true) (hk:k<=n):tO m k=true:=by
 have:=IT h
 induction k with
 | zero=>rfl
 | succ k ih=>simp only [tO,Bool.and_eq_true];exact ⟨ih (by omega),by rw [this k (by omega)];exact Nat.beq_refl _⟩
theorem N3 {n0:Nat} (hn:E.n0<=n0) {c:A} {x y:St} : M.sat F O (BV n0 c x y) (fun s=>∀ U a w,(c.bool O=true->RR O E U ⟨x,[]⟩ a w->∃ U',(∀ j,j<n0->U' j=U j)/\RR O E U' ⟨s,[]⟩ a w) /\
  (c.bool O=false->RR O E U ⟨y,[]⟩ a w->∃ U',(∀ j,j<n0->U' j=U j)/\RR O E U' ⟨s,[]⟩ a w)):=by
 unfold BV
 dsimp only
 generalize ZY x y=p
 generalize oD p.tys.length p.st x=gx
 generalize oD p.tys.length p.st y=gy
 refine aY (fun hc=>?_) (fun _=>aE)
 simp only [Bool.and_eq_true] at hc
 obtain ⟨⟨⟨⟨⟨h1,h2⟩,h3⟩,h4⟩,h5⟩,h6⟩:=hc
 have h6:=Nat.le_of_ble_eq_true h6
 refine ak (I9 _ _ _) fun ops rZ=>au fun U a w=>⟨fun hb h=>?_,fun hb h=>?_⟩
 ·exact ⟨fun j=>U (bz gx.2 j),fun j hj=>congrArg U (IT h4 j hj),RR.inst (fun _ _=>rfl) (rZ.1 hb) h1 (h.sub h2 (zlj h4 hn) (by simp only [St.inst,List.length_map];omega))⟩
 ·exact ⟨fun j=>U (bz gy.2 j),fun j hj=>congrArg U (IT h5 j hj),RR.inst (fun _ _=>rfl) (rZ.2 hb) h1 (h.sub h3 (zlj h5 hn) (by simp only [St.inst,List.length_map];omega))⟩
def F4 (v:Value):Act:={ tmps:=#[v],defers:=[] }
theorem zrP {n0:Nat} (hn:E.n0<=n0) {c:A} {x y:V×List (Option ag)} : M.sat F O (Q_ n0 c x y) (fun z =>
  (c.bool O=true->∀ U w,HS E O U x.2 w->x.1.good O->∃ U',(∀ j,j<n0->U' j=U j)/\HS E O U' z.2 w/\z.1.good O/\z.1.aa O U'=x.1.aa O U) /\
  (c.bool O=false->∀ U w,HS E O U y.2 w->y.1.good O->∃ U',(∀ j,j<n0->U' j=U j)/\HS E O U' z.2 w/\z.1.good O/\z.1.aa O U'=y.1.aa O U)):=by
 unfold Q_
 refine ak (N3 (E:=E) hn) fun s hs=>?_
 obtain ⟨sl,hp⟩:=s
 split
 ·rename_i v hv
  simp only at hv
  subst hv
  have one:∀ (u:V) (h:List (Option ag)) (U:Nat->Loc) (w:World),HS E O U h w->u.good O->RR O E U ⟨⟨[some u],h⟩,[]⟩ (F4 (u.aa O U)) w:=fun u h U w hw hg =>
   ⟨⟨rfl,rfl,fun t v ht=>(by
    cases t with
    | zero=>cases ht;exact ⟨hg,rfl⟩
    | succ t=>cases t<;>cases ht),fun e he=>by cases he⟩,hw⟩
  have back:∀ (u:Value) (U':Nat->Loc) (w:World),RR O E U' ⟨⟨[some v],hp⟩,[]⟩ (F4 u) w->HS E O U' hp w/\v.good O/\v.aa O U'=u:=fun u U' w h=>by
   obtain ⟨h1,h2⟩:=h.act.slot 0 v rfl
   refine ⟨h.hs,h1,?_⟩
   have:(F4 u).tmps[0]? = some u:=rfl
   rw [this] at h2
   exact (Option.some.inj h2).symm
  refine au ⟨fun hc U w hw hg=>?_,fun hc U w hw hg=>?_⟩
  ·obtain ⟨U',h1,h2⟩:=(hs U _ w).1 hc (one _ _ U w hw hg)
   exact ⟨U',h1,back _ _ _ h2⟩
  ·obtain ⟨U',h1,h2⟩:=(hs U _ w).2 hc (one _ _ U w hw hg)
   exact ⟨U',h1,back _ _ _ h2⟩
 ·exact aE
theorem zn3 {a:A} {q:Nat} (h0:0<=a.int O):∀ (l:List (Nat×Alt)),M.sat F O (HH a q l) (fun r=>∀ x,eI l (a.int O).toNat=some x->∃ n,x = .p q n/\r.int O=(n:Int)/\n<Af l)
 | []=>aE
 | [x]=>by
  unfold HH
  split
  ·rename_i q' n hx
   refine aY (fun hq=>au fun y hy=>?_) (fun _=>aE)
   simp only [eI] at hy
   split at hy
   ·cases hy
    rw [<-Nat.eq_of_beq_eq_true hq] at hx
    exact ⟨n,hx,rfl,by simp only [Af,hx];omega⟩
   ·cases hy
  ·exact aE
 | x::y::l=>by
  unfold HH
  split
  ·rename_i q' n hx
   refine aY (fun hq=>?_) (fun _=>aE)
   refine ak (cz (Q:=fun c=>c.bool O=(a.int O==((x.1:Nat):Int))) fun c h=>A.aq h) fun c hc=>ak (zn3 h0 (y::l)) fun r hr=>cH Cj fun z hz u hu=>?_
   rw [FX h0] at hc
   rw [eI] at hu
   split at hu
   ·rename_i he
    cases hu
    rw [<-Nat.eq_of_beq_eq_true hq] at hx
    have he:=Nat.eq_of_beq_eq_true he
    refine ⟨n,hx,?_,?_⟩
    ·rw [hz,hc,<-he];simp
    ·rw [Af,hx];simp only;omega
   ·rename_i he
    obtain ⟨m,h1,h2,h3⟩:=hr u hu
    refine ⟨m,h1,?_,?_⟩
    ·rw [hz,hc]
     have:(a.int O).toNat≠x.1:=fun e=>he (by rw [e];exact Nat.beq_refl _)
     simp [this,h2]
    ·rw [Af,hx];simp only;omega
  ·exact aE
theorem zh7 {p:Nat×Alt->Bool} : ∀ {l:List (Nat×Alt)} {k:Nat} {x:Alt},eI l k=some x->(∀ y,(k,y)∈l->p (k,y)=true)->eI (l.filter p) k=some x
 | [],_,_,h,_=>by simp [eI] at h
 | y::l,k,x,h,hp=>by
  simp only [eI] at h
  split at h
  ·rename_i he
   cases h
   have he:=Nat.eq_of_beq_eq_true he
   have:p y=true:=by
    have:=hp y.2 (by rw [<-he];exact List.mem_cons_self)
    rw [<-he] at this;exact this
   rw [List.filter_cons,if_pos this]
   simp only [eI,he,Nat.beq_refl,if_true]
  ·rename_i he
   have ih:=zh7 (l:=l) h (fun y hy=>hp y (List.mem_cons_of_mem _ hy))
   rw [List.filter_cons]
   split
   ·simp only [eI]
    rw [if_neg he];exact ih
   ·exact ih
theorem zll {iface:Bool} {l:List (Nat×Alt)} (hok:BX iface (nZ l) l=true) {k:Nat} {x:Alt} (hx:eI l k=some x) (hk:k≠nZ l):eI (l.filter fun x=>!x.2.isNil) k=some x:=by
 refine zh7 hx fun y hy=>?_
 have:=List.all_eq_true.1 hok _ hy
 simp only at this
 cases y<;>cases iface<;>first | rfl | (simp only at this;cases this;done) | exact absurd (Nat.eq_of_beq_eq_true this) hk
theorem zn4 {a:A} {l:List (Nat×Alt)} (hg:(Lf.alt a l).good O):M.sat F O (QX a l) (fun r=>r.good O/\∀ U,r.aa O U=(Lf.alt a l).aa O U/\∃ ad,r.aa O U = .pointer (some ad)):=by
 unfold QX
 refine aY (fun hok=>?_) (fun _=>aE)
 obtain ⟨h0,h1⟩:=hg
 obtain ⟨y,hy⟩:=Option.isSome_iff_exists.1 h1
 refine ak (cz (Q:=fun c=>c.bool O=(a.int O != ((nZ l:Nat):Int))) fun c h=>A.aq h) fun c hc=>?_
 refine ak (n6 (Q:=fun _=>(a.int O).toNat≠nZ l) fun h=>by
  rw [hc,bne,FX h0] at h
  simpa using h) fun _ hne=>?_
 have hy2:=zll hok hy hne
 split
 ·exact aE
 ·rename_i x r hfl
  rw [hfl] at hy2
  split
  ·rename_i q n hx
   refine ak (zn3 h0 _) fun ix hix=>au ?_
   obtain ⟨m,e1,e2,e3⟩:=hix y hy2
   refine ⟨⟨by rw [e2];exact Int.natCast_nonneg _,by rw [e2];exact Int.ofNat_lt.2 e3⟩,fun U=>?_⟩
   have Ts:(Lf.p q (.s 0 ix 1 (Af (x::r)))).aa O U = .pointer (some ⟨(U q).aj,(U q).off+m,none⟩):=by
    simp only [Lf.aa,bV.val,e2,Int.toNat_natCast,Nat.zero_add,Nat.mul_one]
   refine ⟨?_,_,Ts⟩
   rw [Ts]
   simp only [Lf.aa,nX,hy,e1,Alt.aa]
  ·exact aE
theorem zu3 {hp:List (Option ag)} {f:FuncId} {vs:List V} {z:OR} : M.sat F O (vM hp z) (fun r=>∀ U w,HS E O U hp w->ve P E O f vs hp U w z->ve P E O f vs hp U w (.hp (some r.1) r.2)):=by
 unfold vM
 split
 ·rename_i v
  refine au fun U w hw h=>?_
  obtain ⟨h1,h2⟩:=h
  exact h2.mono fun e w' ⟨he,hb⟩=>⟨_,he,U,fun _ _=>rfl,hw.bK hb,fun u hu=>by cases hu;exact ⟨h1,rfl⟩⟩
 ·exact au fun U w _ h=>h
 ·exact aE
theorem zh8 {K:Nat} (hS:bg P I K S F) (hE:E.Ok K) {name:String} {vs:List V} {hp:List (Option ag)} {a:A} (hlen:E.n0<=hp.length) (h0:0<=a.int O):∀ (l:List (Nat×Alt)),M.sat F O (HR P S name vs hp a l) (fun z =>
  ∀ t b,eI l (a.int O).toNat=some (.fV t b)->∃ f,Fq P t name=some f/\∀ U w,(∀ v∈vs,V.good O v)->HS E O U hp w->I w ->
   (callFunc f ((V.s (.one (.p b (.c 0)))::vs).map (V.aa O U)).toArray).run P w = .ok (.enter f ((V.s (.one (.p b (.c 0)))::vs).map (V.aa O U)).toArray) w /\
   ve P E O f (V.s (.one (.p b (.c 0)))::vs) hp U w (.hp (some z.1) z.2))
 | []=>aE
 | x::l=>by
  unfold HR
  split
  ·rename_i t b hx
   refine bh fun f hf=>?_
   have fR:(∀ v∈vs,V.good O v)->∀ v∈V.s (.one (.p b (.c 0)))::vs,V.good O v:=fun h v hv=>by
    rcases List.mem_cons.1 hv with rfl | hv
    ·exact V.cg.2 (V1.ah.2 trivial)
    ·exact h v hv
   have hone:M.sat F O (do vM hp (<-B1 P S f (.s (.one (.p b (.c 0)))::vs) hp):M (V×List (Option ag))) (fun z=>∀ U w,(∀ v∈vs,V.good O v)->HS E O U hp w->I w ->
     (callFunc f ((V.s (.one (.p b (.c 0)))::vs).map (V.aa O U)).toArray).run P w = .ok (.enter f ((V.s (.one (.p b (.c 0)))::vs).map (V.aa O U)).toArray) w /\
     ve P E O f (V.s (.one (.p b (.c 0)))::vs) hp U w (.hp (some z.1) z.2)):=by
    refine ak (To (E:=E) hS hE) fun z hz=>cH (zu3 (P:=P) (E:=E) (f:=f) (vs:=V.s (.one (.p b (.c 0)))::vs)) fun r hr U w hv hw hI=>?_
    obtain ⟨g1,g2⟩:=hz U w (fR hv) hw hI
    exact ⟨g1,hr U w hw g2⟩
   refine aY (fun lu=>?_) (fun _=>?_)
   ·refine cH hone fun z hz t' b' cA=>?_
    have hl:l=[]:=List.isEmpty_iff.1 lu
    subst hl
    simp only [eI] at cA
    split at cA
    ·simp only [Option.some.injEq] at cA
     rw [hx] at cA
     cases cA
     exact ⟨f,hf,hz⟩
    ·cases cA
   ·refine ak (cz (Q:=fun c=>c.bool O=(a.int O==((x.1:Nat):Int))) fun c h=>A.aq h) fun c hc=>?_
    rw [FX h0] at hc
    refine ak (uY hone) fun u hu=>ak (uY (zh8 hS hE hlen h0 l)) fun v hv=>cH (zrP (E:=E) hlen) fun z hz t' b' cA=>?_
    simp only [eI] at cA
    split at cA
    ·rename_i he
     simp only [Option.some.injEq] at cA
     rw [hx] at cA
     cases cA
     have I_:c.bool O=true:=by rw [hc];simpa using (Nat.eq_of_beq_eq_true he).symm
     refine ⟨f,hf,fun U w hvs hw hI=>?_⟩
     obtain ⟨g1,g2⟩:=hu I_ U w hvs hw hI
     refine ⟨g1,Calls.mono g2 fun e w' ⟨r,hr,U',k1,k2,k3⟩=>?_⟩
     obtain ⟨k4,k5⟩:=k3 _ rfl
     obtain ⟨U2,m1,m2,m3,m4⟩:=hz.1 I_ U' w' k2 k4
     exact ⟨r,hr,U2,fun j hj=>(m1 j hj).trans (k1 j hj),m2,fun q hq=>by cases hq;exact ⟨m3,by rw [k5,m4]⟩⟩
    ·rename_i he
     have AN:c.bool O=false:=by
      rw [hc]
      simp only [decide_eq_false_iff_not]
      intro e
      exact he (by rw [e];exact Nat.beq_refl _)
     obtain ⟨f',hf',d_⟩:=hv AN t' b' cA
     refine ⟨f',hf',fun U w hvs hw hI=>?_⟩
     obtain ⟨g1,g2⟩:=d_ U w hvs hw hI
     refine ⟨g1,Calls.mono g2 fun e w' ⟨r,hr,U',k1,k2,k3⟩=>?_⟩
     obtain ⟨k4,k5⟩:=k3 _ rfl
     obtain ⟨U2,m1,m2,m3,m4⟩:=hz.2 AN U' w' k2 k4
     exact ⟨r,hr,U2,fun j hj=>(m1 j hj).trans (k1 j hj),m2,fun q hq=>by cases hq;exact ⟨m3,by rw [k5,m4]⟩⟩
  ·exact aE
end
end Go.Sx
namespace Go.Sx
open Go.RowKit
section
variable {P:Program} {I:World->Prop} {S:bN} {F:aC} {E:Env} {O:Nat->DV}
theorem bV.ef (o:bV) (k:Nat):(o.plus k).val O=o.val O+k/\(o.good O->(o.plus k).good O):=by
 cases o with
 | c n=>exact ⟨rfl,id⟩
 | s b ix sz len=>exact ⟨by simp [bV.plus,bV.val];omega,id⟩
 | v b ix sz a=>exact ⟨by simp [bV.plus,bV.val];omega,id⟩
 | d b ix sz len hY jI fe=>exact ⟨by simp [bV.plus,bV.val];omega,id⟩
 | w b ix sz a hY jI fe=>exact ⟨by simp [bV.plus,bV.val];omega,id⟩
theorem F5 {ix:A} {len:Nat} : M.sat F O (Ae ix len) (fun _=>0<=ix.int O/\ix.int O<len):=by
 unfold Ae
 refine ak (cz (Q:=fun r=>r.bool O=decide (ix.int O>=0)) fun r h=>A.aq h) fun r hr=>?_
 refine ak (n6 (Q:=fun _=>0<=ix.int O) fun h=>by rw [hr] at h;simpa using h) fun _ h0=>?_
 refine ak (cz (Q:=fun r=>r.bool O=decide (ix.int O<(len:Int))) fun r h=>A.aq h) fun r hr=>?_
 exact n6 fun h=>by rw [hr] at h;exact ⟨h0,by simpa using h⟩
theorem zeK {t:TypeId} {x ix:Lf} (hx:x.good O):M.sat F O (Q1 P t x ix) (fun l=>l.good O/\∀ (U:Nat->Loc) (w:World),
  (Instr.indexAt t (x.aa O U) (ix.aa O U)).run P w = .ok (l.aa O U) w):=by
 unfold Q1
 refine bh fun k hk=>?_
 split
 ·rename_i len elem aj off ki a
  have hu:=FL hk
  refine bh fun sz hs=>?_
  have run:∀ (U:Nat->Loc) (w:World),0<=a.int O->a.int O<len ->
    (Instr.indexAt t ((Lf.p aj off).aa O U) ((Lf.i ki a).aa O U)).run P w = .ok (.pointer (some ⟨(U aj).aj,(U aj).off+off.val O+(a.int O).toNat*sz,none⟩)) w:=fun U w h0 h1=>by
   simp [Instr.indexAt,asIntOf,Lf.aa,run_underlying hu,Instr.sureAddr,h0,h1,pO hs,s_]
  split
  ·rename_i n
   refine aY (fun h=>?_) (fun _=>aE)
   refine au ⟨(bV.ef off _).2 hx,fun U w=>?_⟩
   rw [run U w h.1 h.2]
   simp [Lf.aa,(bV.ef (O:=O) off _).1,Nat.add_assoc]
  ·split
   ·rename_i o
    refine ak F5 fun _ hb=>au ⟨hb,fun U w=>?_⟩
    rw [run U w hb.1 hb.2]
    simp [Lf.aa,bV.val,Nat.add_assoc]
   ·rename_i o HI HJ HK
    refine ak F5 fun _ hb=>au ⟨⟨hx,hb⟩,fun U w=>?_⟩
    rw [run U w hb.1 hb.2]
    simp [Lf.aa,bV.val,Nat.add_assoc]
   ·rename_i o HI HJ a0
    refine ak F5 fun _ hb=>au ⟨⟨hx,hb⟩,fun U w=>?_⟩
    rw [run U w hb.1 hb.2]
    simp [Lf.aa,bV.val,Nat.add_assoc]
   ·exact aE
 ·rename_i len elem g off ki a
  have hu:=FL hk
  refine bh fun sz hs=>?_
  have run:∀ (U:Nat->Loc) (w:World),0<=a.int O->a.int O<len ->
    (Instr.indexAt t ((Lf.gp g off).aa O U) ((Lf.i ki a).aa O U)).run P w = .ok (.pointer (some ⟨g,off.val O+(a.int O).toNat*sz,none⟩)) w:=fun U w h0 h1=>by
   simp [Instr.indexAt,asIntOf,Lf.aa,run_underlying hu,Instr.sureAddr,h0,h1,pO hs,s_]
  split
  ·rename_i n
   refine aY (fun h=>?_) (fun _=>aE)
   refine au ⟨(bV.ef off _).2 hx,fun U w=>?_⟩
   rw [run U w h.1 h.2]
   simp [Lf.aa,(bV.ef (O:=O) off _).1]
  ·split
   ·rename_i o
    refine ak F5 fun _ hb=>au ⟨hb,fun U w=>?_⟩
    rw [run U w hb.1 hb.2]
    simp [Lf.aa,bV.val]
   ·exact aE
 ·exact aE
theorem zpq {t:TypeId} {x:List Lf} {ix:Lf} (hx:∀ l∈x,Lf.good O l):M.sat F O (Q2 P t x ix) (fun v=>v.good O/\∀ (U:Nat->Loc) (w:World),
  (Instr.index t (.agg (x.map (Lf.aa O U)).toArray) (ix.aa O U)).run P w = .ok (v.aa O U) w):=by
 unfold Q2
 refine bh fun k hk=>?_
 split
 ·rename_i len elem ki a
  have hu:=FL hk
  refine bh fun ke AI=>?_
  refine bh fun sz hs=>?_
  have run:∀ (U:Nat->Loc) (w:World),0<=a.int O->a.int O<len ->
    (Instr.index t (.agg (x.map (Lf.aa O U)).toArray) ((Lf.i ki a).aa O U)).run P w=(part elem (x.map (Lf.aa O U)).toArray ((a.int O).toNat*sz)).run P w:=fun U w h0 h1=>by
   simp [Instr.index,asIntOf,Lf.aa,run_underlying hu,h0,h1,pO hs]
  split
  ·rename_i n
   refine aY (fun h=>?_) (fun _=>aE)
   refine cH (ID hx) fun v hv=>⟨hv.1,fun U w=>?_⟩
   rw [run U w h.1 h.2]
   exact hv.2 U w
  ·refine ak F5 fun _ hb=>?_
   refine aY (fun ha=>?_) (fun ha=>?_)
   ·refine ak (Sd hb.1 hb.2 sz 0) fun xs hxs=>au ⟨V1.aP.2 hxs.2.1,fun U w=>?_⟩
    rw [run U w hb.1 hb.2]
    simp only [part,Sem.run_bind,FO AI,ha,Result.andThen_ok,if_true,pO hs,Sem.run_pure,V1.aa]
    congr 2
    apply Array.ext'
    rw [Array.toList_extract,List.extract_eq_take_drop]
    apply List.ext_getElem?
    intro j
    rw [List.getElem?_take]
    by_cases hj:j<sz
    ·obtain ⟨u,y,h1,h2,h3⟩:=hxs.2.2 U j hj
     rw [xE] at h2
     rw [if_pos (by omega),List.getElem?_drop]
     simp only [List.getElem?_map,h1,Option.map_some]
     rw [show (A.int O a).toNat*sz+j=0+j+(A.int O a).toNat*sz from by omega,h2]
     simp [h3]
    ·rw [if_neg (by omega)]
     simp only [List.getElem?_map]
     rw [List.getElem?_eq_none (by have:=hxs.1;omega)]
     rfl
   ·refine bh fun row hrow=>?_
    obtain ⟨h1,h2⟩:=FM hrow
    refine ak (FP h1 hb.1 hb.2) fun u hu'=>au ⟨V1.ah.2 hu'.1,fun U w=>?_⟩
    rw [run U w hb.1 hb.2]
    obtain ⟨y,hy,he⟩:=hu'.2 U
    rw [<-h2 _ (by have:=hb.1;have:=hb.2;omega),xE,Nat.zero_add] at hy
    simp [part,FO AI,ha,hy,V1.aa,he]
 ·exact aE
theorem zpr {t:TypeId} {x:List Lf} {f:Nat} (hx:∀ l∈x,Lf.good O l):M.sat F O (Q3 P t x f) (fun v=>v.good O/\∀ (U:Nat->Loc) (w:World),
  (Instr.field t (.agg (x.map (Lf.aa O U)).toArray) f).run P w = .ok (v.aa O U) w):=by
 unfold Q3
 refine bh fun k hk=>?_
 split
 ·rename_i fs
  obtain ⟨fl,hu,yQ⟩:=IB hk
  refine bh fun fd AO=>?_
  subst yQ
  rw [List.getElem?_map] at AO
  obtain ⟨g,hg,rfl⟩:=Option.map_eq_some_iff.1 AO
  refine cH (ID hx) fun v hv=>⟨hv.1,fun U w=>?_⟩
  have hg':fl[f]? = some g:=by simpa using hg
  simp only [Instr.field,Sem.run_bind,run_underlying hu,Result.andThen_ok,hg',asAgg,Sem.run_pure]
  exact hv.2 U w
 ·exact aE
theorem zjA {t:TypeId} {x:Lf} {f:Nat} (hx:x.good O):M.sat F O (Q4 P t x f) (fun l=>l.good O/\∀ (U:Nat->Loc) (w:World),
  (Instr.fieldAt t (x.aa O U) f).run P w = .ok (l.aa O U) w):=by
 unfold Q4
 refine bh fun k hk=>?_
 split
 ·rename_i fs aj off
  obtain ⟨fl,hu,yQ⟩:=IB hk
  refine bh fun fd AO=>?_
  refine bh fun sz hs=>?_
  refine aY (fun _=>aE) (fun hz=>?_)
  have nF:sz≠0:=fun h=>hz (by subst h;rfl)
  subst yQ
  rw [List.getElem?_map] at AO
  obtain ⟨g,hg,rfl⟩:=Option.map_eq_some_iff.1 AO
  refine au ⟨(bV.ef off _).2 hx,fun U w=>?_⟩
  have hg':fl[f]? = some g:=by simpa using hg
  simp [Instr.fieldAt,run_underlying hu,hg',Lf.aa,Instr.sureAddr,fieldPlace,pO hs,nF,s_,(bV.ef (O:=O) off _).1,Nat.add_assoc]
 ·rename_i fs gl off
  obtain ⟨fl,hu,yQ⟩:=IB hk
  refine bh fun fd AO=>?_
  refine bh fun sz hs=>?_
  refine aY (fun _=>aE) (fun hz=>?_)
  have nF:sz≠0:=fun h=>hz (by subst h;rfl)
  subst yQ
  rw [List.getElem?_map] at AO
  obtain ⟨g,hg,rfl⟩:=Option.map_eq_some_iff.1 AO
  refine au ⟨(bV.ef off _).2 hx,fun U w=>?_⟩
  have hg':fl[f]? = some g:=by simpa using hg
  simp [Instr.fieldAt,run_underlying hu,hg',Lf.aa,Instr.sureAddr,fieldPlace,pO hs,nF,s_,(bV.ef (O:=O) off _).1]
 ·exact aE
theorem zc {U:Nat->Loc} {r:RS} {a:Act} {ctx:Ctx} (h:aJ O U r a) (hc:oa ctx a):∀ {xs:List Operand} {vs:List V},oE r ctx xs=some vs->xs.map a.eval=vs.map (V.aa O U)
 | [],vs,hv=>by simp [oE] at hv;subst hv;rfl
 | x::xs,vs,hv=>by
  simp only [oE] at hv
  cases h1:rd r ctx x with
  | none=>simp [h1] at hv
  | some v =>
   simp only [h1] at hv
   cases h2:oE r ctx xs with
   | none=>simp [h2] at hv
   | some vs' =>
    simp only [h2,Option.some.injEq] at hv
    subst hv
    simp only [List.map_cons,(dA h hc h1).2,zc h hc h2]
theorem zrQ {r:RS} {ctx:Ctx} {c a b:Operand} : M.sat F O (M8 r ctx c a b) (fun v=>∀ U act,aJ O U r act->oa ctx act ->
  v.good O/\∃ t:Bool,act.eval c = .bool t/\(if t then act.eval a else act.eval b)=v.aa O U):=by
 unfold M8
 split
 ·rename_i hc
  refine lg fun v hv U act xN gw=>?_
  have h1:=(dA xN gw hc).2
  have h2:=dA xN gw hv
  exact ⟨h2.1,true,h1,h2.2⟩
 ·rename_i hc
  refine lg fun v hv U act xN gw=>?_
  have h1:=(dA xN gw hc).2
  have h2:=dA xN gw hv
  exact ⟨h2.1,false,h1,h2.2⟩
 ·rename_i x _ _ hc
  refine ak (lg (Q:=fun va=>rd r (match c with | .tmp t=>((t,true)::ctx,(t,false)::ctx) | _=>(ctx,ctx)).1 a=some va) fun v h=>h) fun va SN=>?_
  refine ak (lg (Q:=fun vb=>rd r (match c with | .tmp t=>((t,true)::ctx,(t,false)::ctx) | _=>(ctx,ctx)).2 b=some vb) fun v h=>h) fun vb ia=>?_
  refine cH zjj fun v hv U act xN gw=>?_
  have h1:=(dA xN gw hc).2
  have xF:act.eval c = .bool (x.bool O):=h1
  have uo:∀ t,c = .tmp t->act.tmps[t]? = some (.bool (x.bool O)):=by
   intro t ht
   subst ht
   exact (znI xN gw (show r.slot ctx t=some _ from hc)).2
  cases hx:x.bool O with
  | true =>
   have hca:oa (match c with | .tmp t=>((t,true)::ctx,(t,false)::ctx) | _=>(ctx,ctx)).1 act:=by
    split
    ·intro p hp
     rcases List.mem_cons.1 hp with rfl | h
     ·rw [uo _ rfl,hx]
     ·exact gw p h
    ·exact gw
   have h2:=dA xN hca SN
   have h3:=hv.1 hx h2.1
   exact ⟨h3.2,true,by rw [xF,hx],by simp only [if_true];rw [h3.1 U];exact h2.2⟩
  | false =>
   have hcb:oa (match c with | .tmp t=>((t,true)::ctx,(t,false)::ctx) | _=>(ctx,ctx)).2 act:=by
    split
    ·intro p hp
     rcases List.mem_cons.1 hp with rfl | h
     ·rw [uo _ rfl,hx]
     ·exact gw p h
    ·exact gw
   have h2:=dA xN hcb ia
   have h3:=hv.2 hx h2.1
   exact ⟨h3.2,false,by rw [xF,hx],by simp only [Bool.false_eq_true,if_false];rw [h3.1 U];exact h2.2⟩
 ·exact aE
theorem Lf.gh {l:Lf} (h:l.scalar=true) (U U':Nat->Loc):l.aa O U=l.aa O U':=by
 cases l<;>first | rfl | (rename_i t _ _;cases t<;>rfl) | cases h
theorem V1.gh {v:V1} (h:v.cells.all Lf.scalar=true) (U U':Nat->Loc):v.aa O U=v.aa O U':=by
 cases v with
 | one l=>exact Lf.gh (by simpa [V1.cells] using h) U U'
 | agg l =>
  simp only [V1.aa]
  congr 2
  exact List.map_congr_left fun y hy=>Lf.gh (List.all_eq_true.1 h y hy) U U'
theorem N4 {U:Nat->Loc} {r:RS} {a:Act} {ctx:Ctx} (h:aJ O U r a) (hc:oa ctx a):∀ {xs:List (Nat×Operand)} {vs:List (Nat×V1)},yH r ctx xs=some vs ->
  xs.map (fun p=>(p.1,a.eval p.2))=vs.map (fun p=>(p.1,p.2.aa O U))/\∀ p∈vs,p.2.good O
 | [],vs,hv=>by simp [yH] at hv;subst hv;exact ⟨rfl,fun p hp=>by cases hp⟩
 | x::xs,vs,hv=>by
  simp only [yH] at hv
  split at hv
  ·rename_i v h1
   split at hv
   ·cases hv
   ·rename_i vs' h2
    cases hv
    have e1:=dA h hc h1
    have e2:=N4 h hc h2
    refine ⟨by simp only [List.map_cons,e2.1,e1.2];rfl,fun p hp=>?_⟩
    rcases List.mem_cons.1 hp with rfl | hp
    ·exact e1.1
    ·exact e2.2 p hp
  ·cases hv
theorem zfB {f:Field->Nat×TypeId} (hf:∀ d,f d=(d.offset,d.type)) (w:World):∀ (l:List Field) (places:List (Nat×Nat)),
  p_ (fun f:Nat×TypeId=>(hM P f.2).map fun n=>(f.1,n)) (l.map f)=some places ->
  (l.mapM fun (d:Field)=>(do pure (d.offset,<-sizeOf d.type):Sem (Nat×Nat))).run P w = .ok places w
 | [],places,h=>by simp [p_] at h;subst h;simp
 | d::l,places,h=>by
  simp only [List.map_cons,p_,hf] at h
  split at h
  ·cases h
  ·rename_i b hb
   split at h
   ·cases h
   ·rename_i r hr
    cases h
    obtain ⟨n,hn,rfl⟩:=Option.map_eq_some_iff.1 hb
    simp only [List.mapM_cons,Sem.run_bind,pO hn,Result.andThen_ok,Sem.run_pure,zfB hf w l r hr]
theorem zn5 {t:TypeId} {ps:List (Nat×V1)} {r:List Lf} (h:MY P t ps=some r) (hg:∀ p∈ps,p.2.good O):(∀ x∈r,Lf.good O x)/\∀ (U:Nat->Loc) (w:World),
  (Instr.build t (ps.map fun p=>(p.1,p.2.aa O U)).toArray).run P w = .ok (.agg (r.map (Lf.aa O U)).toArray) w:=by
 unfold MY at h
 split at h
 ·cases h
 ·rename_i z hz
  unfold zeroCells at hz
  split at hz
  ·cases hz
  ·rename_i i hi
   split at hz
   ·cases hz
   ·rename_i zv vi
    have hzs:=Sw (O:=O) hz
    have hzero:∀ w,(zeroValue t).run P w = .ok zv w:=fun w=>by simp [zeroValue,typeInfo,hi,vi]
    have hin:∀ U,zv.cells.toList=z.map (Lf.aa O U):=fun U=>(hzs.2 U).symm
    split at h
    ·rename_i fs hk
     obtain ⟨fl,hu,yQ⟩:=IB hk
     split at h
     ·cases h
     ·rename_i places j9
      refine ⟨SS _ _ _ hzs.1 hg h,fun U w=>?_⟩
      obtain ⟨B,hB,F2⟩:=NP (O:=O) (U:=U) (place':=fun i=>places.toArray[i]?) (fun i=>by simp) ps z r zv.cells (hin U) h
      subst yQ
      have hm:=zfB (P:=P) (fun _=>rfl) w fl.toList places j9
      simp only [Instr.build,Sem.run_bind,hzero,Result.andThen_ok,run_underlying hu,Array.mapM_eq_mapM_toList,Sem.run_map,hm]
      rw [hB,<-F2]
      rfl
    ·rename_i len elem hk
     have hu:=FL hk
     split at h
     ·cases h
     ·rename_i sz hs
      refine ⟨SS _ _ _ hzs.1 hg h,fun U w=>?_⟩
      obtain ⟨B,hB,F2⟩:=NP (O:=O) (U:=U) (place':=fun i=>some (i*sz,sz)) (fun i=>rfl) ps z r zv.cells (hin U) h
      simp only [Instr.build,Sem.run_bind,hzero,Result.andThen_ok,run_underlying hu,pO hs,Sem.run_pure,hB]
      rw [<-F2]
    ·cases h
theorem N5 {U:Nat->Loc} {r:RS} {a:Act} {ctx:Ctx} (h:aJ O U r a) (hc:oa ctx a):∀ {xs:List Operand} {vs:List V},oE r ctx xs=some vs->∀ v∈vs,V.good O v
 | [],vs,hv=>by simp [oE] at hv;subst hv;intro v hv;cases hv
 | x::xs,vs,hv=>by
  simp only [oE] at hv
  cases h1:rd r ctx x with
  | none=>simp [h1] at hv
  | some v =>
   simp only [h1] at hv
   cases h2:oE r ctx xs with
   | none=>simp [h2] at hv
   | some vs' =>
    simp only [h2,Option.some.injEq] at hv
    subst hv
    intro u hu
    rcases List.mem_cons.1 hu with rfl | hu
    ·exact (dA h hc h1).1
    ·exact N5 h hc h2 u hu
theorem zjB {r:RS} {ctx:Ctx} {o:Oper} {t:TypeId} {x y:Operand} (hop:o.op = .store t x y):M.sat F O (Fu P r ctx t x y) (fun hp'=>∀ U a,aJ O U r a->oa ctx a ->
 ∀ w,HS E O U r.st.hp w->∃ w',(execOp a.eval o).run P w = .ok .skip w'/\HS E O U hp' w'):=by
 unfold Fu
 refine bh fun v hv=>?_
 refine bh fun u hu=>?_
 split
 ·rename_i b off v1
  refine bh fun sz hs=>?_
  refine bh fun bk cY=>?_
  split
  ·rename_i cs
   refine aY (fun qw=>?_) (fun _=>aE)
   simp only [Bool.and_eq_true] at qw
   obtain ⟨hlen,hok⟩:=qw
   have hlen:=Nat.eq_of_beq_eq_true hlen
   by_cases hg:off.good O
   ·refine ak (zhg hg) fun cs' hd=>au fun U a ha hc w hw=>?_
    have h1:=dA ha hc hv
    have h2:=dA ha hc hu
    have hb0:cK O U w (U b) true cs:=hw.heap.aj b _ cY
    have hst:=cK.store (P:=P) hb0 hd h2.1 (by simpa using hok)
    have hcells:(a.eval y).cells.toList=v1.cells.map (Lf.aa O U):=by
     rw [h2.2]
     cases v1 with
     | one l =>
      have h1:(l.aa O U).oneCell'=true:=Lf.iM (by simpa [V1.cells] using hok) U
      simp only [V.aa,V1.aa,V1.cells,NG h1,List.map_cons,List.map_nil]
     | agg l=>simp [V.aa,V1.aa,V1.cells,Value.cells]
    have hsz:(a.eval y).cells.size=sz:=by
     rw [<-Array.length_toList,hcells];simpa using hlen
    refine ⟨_,?_,hw.e_ (w':=w.setCells (U b).aj ((U b).off+off.val O) (v1.cells.map (Lf.aa O U))) cY rfl rfl hst.2 hb0.nil (yU _ _ _ _) (tY _ _ _ _).1 (tY _ _ _ _).2.1 (tY _ _ _ _).2.2 (fun k hk=>Cl _ _ _ _ k hk)⟩
    simp [execOp,hop,h1.2,V.aa,V1.aa,Lf.aa,Instr.storeAt,Instr.sureAddr,storeVar,pO hs,hsz,hcells,hst.1]
   ·refine ak gU fun v _=>au fun U a ha hc=>?_
    exact absurd ((dA ha hc hv).1 (.p b off) (by simp [V1.cells])) hg
  ·rename_i ts q
   refine aY (fun qw=>?_) (fun _=>aE)
   simp only [Bool.and_eq_true] at qw
   obtain ⟨hlen,hpos⟩:=qw
   have hlen:=Nat.eq_of_beq_eq_true hlen
   have hpos:0<sz:=Nat.le_of_ble_eq_true hpos
   have hne:v1.cells≠[]:=fun e=>by rw [e] at hlen;simp at hlen;omega
   by_cases hg:off.good O
   ·refine ak (znU (P:=P) (E:=E) hg hne) fun q' hd=>au fun U a ha hc w hw=>?_
    have h1:=dA ha hc hv
    have h2:=dA ha hc hu
    have hb0:bf E w (U b) true ts (q.cells O):=hw.heap.aj b _ cY
    obtain ⟨d1,d2,d3,d4⟩:=hd U w (U b) hb0
    have hcells:(a.eval y).cells.toList=v1.cells.map (Lf.aa O U):=by
     rw [h2.2,show (V.s v1).aa O U=v1.aa O U from rfl,V1.mu (List.all_eq_true.2 d2) U]
    have hsz:(a.eval y).cells.size=sz:=by
     rw [<-Array.length_toList,hcells];simpa using hlen
    refine ⟨_,?_,hw.e_ (w':=w.setCells (U b).aj ((U b).off+off.val O) (v1.cells.map (Lf.aa O U))) (nb:=.v true ts q') cY rfl rfl d4 d1 (yU _ _ _ _) (tY _ _ _ _).1 (tY _ _ _ _).2.1 (tY _ _ _ _).2.2 (fun k hk=>Cl _ _ _ _ k hk)⟩
    simp [execOp,hop,h1.2,V.aa,V1.aa,Lf.aa,Instr.storeAt,Instr.sureAddr,storeVar,pO hs,hsz,hcells,d3]
   ·refine ak gU fun v _=>au fun U a ha hc=>?_
    exact absurd ((dA ha hc hv).1 (.p b off) (by simp [V1.cells])) hg
  ·exact aE
 ·exact aE
theorem zrR {r:RS} {ctx:Ctx} {t:TypeId} {x y:Operand} {b:Nat} {off:bV} (hx:rd r ctx x=some (.s (.one (.p b off)))):M.sat F O (Fu P r ctx t x y) (fun hp'=>∀ j,j≠b->nth hp' j=nth r.st.hp j):=by
 unfold Fu
 refine bh fun v hv=>?_
 refine ak gU fun u _=>?_
 rw [hx] at hv
 cases hv
 split
 ·rename_i b' off' v1 he
  cases he
  refine ak gU fun sz _=>ak gU fun bk _=>?_
  split
  ·exact aY (fun _=>ak gU fun _ _=>au fun j hj=>qi _ _ _ _ (Ne.symm hj)) (fun _=>aE)
  ·exact aY (fun _=>ak gU fun _ _=>au fun j hj=>qi _ _ _ _ (Ne.symm hj)) (fun _=>aE)
  ·exact aE
 ·exact aE
theorem Tt {U:Nat->Loc} {r:RS} {a:Act} {ctx:Ctx} (h:aJ O U r a) (hc:oa ctx a) {x:Option Operand} {l:Option Lf} (hl:H7 r ctx x=some l):x.map a.eval=l.map (Lf.aa O U):=by
 unfold H7 at hl
 split at hl
 ·cases hl;rfl
 ·split at hl
  ·rename_i hrd
   cases hl
   simp only [Option.map_some]
   rw [(dA h hc hrd).2]
   rfl
  ·cases hl
theorem zlm (U:Nat->Loc):∀ {vs:List V} {bs:List Nat},p_ Ic vs=some bs->vs.map (V.aa O U)=bs.map fun b=>Value.pointer (some ⟨(U b).aj,(U b).off+0,none⟩)
 | [],bs,h=>by simp [p_] at h;subst h;rfl
 | v::l,bs,h=>by
  simp only [p_] at h
  cases hf:Ic v with
  | none=>simp [hf] at h
  | some b =>
   simp only [hf] at h
   cases hr:p_ Ic l with
   | none=>simp [hr] at h
   | some r =>
    simp only [hr,Option.some.injEq] at h
    subst h
    unfold Ic at hf
    split at hf
    ·cases hf
     simp only [List.map_cons]
     rw [zlm U hr]
     rfl
    ·cases hf
theorem Tu {U:Nat->Loc} {r:RS} {a:Act} {ctx:Ctx} (h:aJ O U r a) (hc:oa ctx a) {x:Operand} {f:Nat} {bs:List Nat} (hf:qb (rd r ctx x)=some (f,bs)) :
  a.eval x = .func (.func f) #[] (p9 U bs):=by
 unfold qb at hf
 split at hf
 ·rename_i g u v hrd
  split at hf
  ·rename_i m_
   cases hf
   simp only [Bool.and_eq_true] at m_
   rw [(dA h hc hrd).2]
   simp only [V.aa,V1.aa,Lf.aa]
   rw [Array.eq_empty_of_size_eq_zero (Nat.eq_of_beq_eq_true m_.1),Array.eq_empty_of_size_eq_zero (Nat.eq_of_beq_eq_true m_.2)]
   rfl
  ·cases hf
 ·rename_i g u hrd
  cases hf
  exact (dA h hc hrd).2
 ·cases hf
theorem Tv:∀ {l:List Lf} {r:List Ty×List A},Aj l=some r->∀ (a:A) (pre:List DV),a.cells O=pre++ey r.1 (r.2.map (A.den O))->(∀ U:Nat->Loc,(Ak a pre.length l).map (Lf.aa O U)=l.map (Lf.aa O U))/\∀ x∈Ak a pre.length l,x.good O
 | [],r,_,a,pre,_=>⟨fun _=>rfl,fun x hx=>by cases hx⟩
 | .i k b::l,r,h,a,pre,ha=>by
  simp only [Aj] at h
  cases hr:Aj l with
  | none=>rw [hr] at h;cases h
  | some r' =>
   rw [hr] at h
   cases h
   have nC:a.cells O=(pre++[nrm .i (b.den O)])++ey r'.1 (r'.2.map (A.den O)):=by rw [ha];simp [ey]
   obtain ⟨h1,h2⟩:=Tv hr a _ nC
   simp only [List.length_append,List.length_cons,List.length_nil,Nat.zero_add] at h1 h2
   have hd:(a.cells O).getD pre.length default=nrm .i (b.den O):=by rw [ha];simp [ey]
   refine ⟨fun U=>?_,fun x hx=>?_⟩
   ·simp only [Ak,List.map_cons,h1 U,Lf.aa,hd,A.int]
    rfl
   ·rcases List.mem_cons.1 hx with rfl | hx
    ·exact trivial
    ·exact h2 x hx
 | .b b::l,r,h,a,pre,ha=>by
  simp only [Aj] at h
  cases hr:Aj l with
  | none=>rw [hr] at h;cases h
  | some r' =>
   rw [hr] at h
   cases h
   have nC:a.cells O=(pre++[nrm .b (b.den O)])++ey r'.1 (r'.2.map (A.den O)):=by rw [ha];simp [ey]
   obtain ⟨h1,h2⟩:=Tv hr a _ nC
   simp only [List.length_append,List.length_cons,List.length_nil,Nat.zero_add] at h1 h2
   have hd:(a.cells O).getD pre.length default=nrm .b (b.den O):=by rw [ha];simp [ey]
   refine ⟨fun U=>?_,fun x hx=>?_⟩
   ·simp only [Ak,List.map_cons,h1 U,Lf.aa,hd,A.bool]
    rfl
   ·rcases List.mem_cons.1 hx with rfl | hx
    ·exact trivial
    ·exact h2 x hx
theorem zs8 (z:List Lf) (o n:Nat):M.sat F O (Rr z o n) fun z'=>(∀ U:Nat->Loc,z'.map (Lf.aa O U)=z.map (Lf.aa O U))/\((∀ x∈z,x.good O)->∀ x∈z',x.good O):=by
 unfold Rr
 split
 ·exact au ⟨fun _=>rfl,id⟩
 ·rename_i r hr
  refine ak (cz (Q:=fun a=>a.den O=lJ F O (.sR r.1 r.2)) fun a h=>h) fun a ha=>au ?_
  have hc:a.cells O=[]++ey r.1 (r.2.map (A.den O)):=by rw [List.nil_append];exact A.aK ha
  obtain ⟨h1,h2⟩:=Tv hr a _ hc
  refine ⟨fun U=>?_,fun hg x hx=>?_⟩
  ·have:=h1 U
   rw [List.length_nil] at this
   rw [List.map_append,List.map_append,this,<-List.map_append,<-List.map_append]
   congr 1
   rw [List.append_assoc,List.take_append_drop,List.take_append_drop]
  ·rw [List.mem_append,List.mem_append] at hx
   rcases hx with (hx | hx) | hx
   ·exact hg x (List.mem_of_mem_take hx)
   ·exact h2 x hx
   ·exact hg x (List.mem_of_mem_drop (List.mem_of_mem_drop hx))
theorem Ja:∀ (gs:List (Nat×Nat)) (z:List Lf),M.sat F O (B5 gs z) fun z'=>(∀ U:Nat->Loc,z'.map (Lf.aa O U)=z.map (Lf.aa O U))/\((∀ x∈z,x.good O)->∀ x∈z',x.good O)
 | [],z=>au ⟨fun _=>rfl,id⟩
 | g::gs,z=>by
  unfold B5
  exact ak (zs8 z g.1 g.2) fun z1 h1=>cH (Ja gs z1) fun z2 h2=>⟨fun U=>(h2.1 U).trans (h1.1 U),fun hg=>h2.2 (h1.2 hg)⟩
theorem zn6 {r:RS} {ctx:Ctx} {o:Oper} {neg:Bool} {t yt:TypeId} {x y:Operand} {b:A} {l:List (Nat×Alt)} (hop:o.op = .binOp (if neg then .neq else .eql) t x y yt) (hy:HP y=true) (hif:Q7 P t=true)
  (hv:rd r ctx x=some (.s (.one (.alt b l)))):M.sat F O (do pure (OR.val (.s (.one (<-BY true neg b l)))):M OR) (fun res=>∀ U a,aJ O U r a->oa ctx a->cT P I E O U r.st.hp (execOp a.eval o) res):=by
 have N6:∃ ms,P.underlying t=some (.interface ms):=by
  unfold Q7 at hif
  split at hif
  ·rename_i ms h;exact ⟨ms,h⟩
  ·cases hif
 obtain ⟨ms,N6⟩:=N6
 by_cases hg:(Lf.alt b l).good O
 ·refine ak (SO hg) fun z ⟨c,hz,ng,hok⟩=>au fun U a ha hc=>?_
  subst hz
  have h1:=dA ha hc hv
  refine cT.now (V1.ah.2 trivial) fun w _=>?_
  obtain ⟨h0,h2⟩:=hg
  obtain ⟨u,hu⟩:=Option.isSome_iff_exists.1 h2
  have hval:a.eval x=u.aa U:=by rw [h1.2];simp only [V.aa,V1.aa,Lf.aa,nX,hu]
  have hyc:y = .const .nilIface:=by
   unfold HP at hy
   split at hy
   ·rfl
   ·cases hy
  have hyv:a.eval (.const .nilIface) = .nilIface:=rfl
  rcases NO hok hu with ⟨e1,e2⟩ | ⟨e1,t',q,e2⟩
  ·rw [e2] at hval
   have hval:a.eval x = .nilIface:=hval
   cases neg<;>simp [execOp,hop,hval,hyv,hyc,eqGuard,Go.binOp,Op.equal,Op.maxDepth,V.aa,V1.aa,Lf.aa,(xM w 9999 t 0 .nilIface N6).2,ng,e1]
  ·rw [e2] at hval
   have hval:a.eval x = .iface t' (.pointer (some ⟨(U q).aj,(U q).off+0,none⟩)):=hval
   cases neg<;>simp [execOp,hop,hval,hyv,hyc,eqGuard,Go.binOp,Op.equal,Op.maxDepth,V.aa,V1.aa,Lf.aa,(xM w 9999 t _ _ N6).1,ng,e1]
 ·refine ak gU fun z _=>au fun U a ha hc=>?_
  exact absurd (V1.ah.1 (dA ha hc hv).1) hg
theorem zs9 {K:Nat} (hS:bg P I K S F) (hE:E.Ok K) {r:RS} {ctx:Ctx} {o:Oper} {c:Call} {x:Operand} {name:String} {b:A} {l:List (Nat×Alt)} {vs:List V} (hop:o.op = .call c) (hf:c.callee = .invoke x name) (hv:rd r ctx x=some (.s (.one (.alt b l))))
  (hvs:oE r ctx c.args.toList=some vs) (hok:BX true (nZ l) l=true):M.sat F O (do
   let c <-emit (.neq b (.z (nZ l)))
   lX c
   let z <-HR P S name vs r.st.hp b (l.filter fun x=>!x.2.isNil)
   pure (.hp (some z.1) z.2):M OR) (fun res=>∀ U a,aJ O U r a->oa ctx a->cT P I E O U r.st.hp (execOp a.eval o) res):=by
 by_cases hg:(Lf.alt b l).good O/\E.n0<=r.st.hp.length
 ·obtain ⟨⟨h0,h1⟩,hlen⟩:=hg
  refine ak (cz (Q:=fun q=>q.bool O=(b.int O != ((nZ l:Nat):Int))) fun q h=>A.aq h) fun q hq=>?_
  refine ak (n6 (Q:=fun _=>(b.int O).toNat≠nZ l) fun h=>by
   rw [hq,bne,FX h0] at h
   simpa using h) fun _ hne=>?_
  refine ak (zh8 (E:=E) hS hE hlen h0 _) fun z hz=>au fun U a ha hc=>?_
  obtain ⟨u,hu⟩:=Option.isSome_iff_exists.1 h1
  have h2:=(dA ha hc hv).2
  have h3:=zc ha hc hvs
  rcases NO hok hu with ⟨e1,_⟩ | ⟨_,t,q',e2⟩
  ·exact absurd e1 hne
  ·have hu2:=zll hok hu hne
   rw [e2] at hu2
   obtain ⟨f,hfn,d_⟩:=hz t q' hu2
   have h6:a.eval x = .iface t ((V.s (.one (.p q' (.c 0)))).aa O U):=by
    rw [h2]
    simp only [V.aa,V1.aa,Lf.aa,nX,hu,e2,Alt.aa,bV.val]
   have h7 : #[(V.s (.one (.p q' (.c 0)))).aa O U]++c.args.map a.eval=((V.s (.one (.p q' (.c 0)))::vs).map (V.aa O U)).toArray:=by
    apply Array.ext'
    simp only [Array.toList_append,Array.toList_map,h3,List.map_cons]
    rfl
   intro w hw hI
   obtain ⟨g1,g2⟩:=d_ U w (N5 ha hc hvs) hw hI
   refine .inr (.inr ⟨f,_,?_,g2.mono fun e w' ⟨x,he,U',k1,k2,k3⟩=>⟨x,he,U',k1,k2,fun u hu=>⟨(k3 u hu).1,by rw [(k3 u hu).2]⟩⟩⟩)
   rw [<-g1,<-h7]
   have:=zlh (P:=P) hfn ((V.s (.one (.p q' (.c 0)))).aa O U) (c.args.map a.eval) w
   rw [<-this,<-h6]
   simp only [execOp,hop,resolve,hf,pure_bind]
 ·refine ak gU fun q _=>ak gU fun _ _=>ak gU fun z _=>au fun U a ha hc w hw _=>?_
  exact absurd ⟨V1.ah.1 (dA ha hc hv).1,hw.len⟩ hg
set_option maxHeartbeats 1000000 in
theorem CC {K:Nat} (hS:bg P I K S F) (hE:E.Ok K) {r:RS} {ctx:Ctx} {o:Oper} : M.sat F O (iV P S r ctx o.op) (fun res=>∀ U a,aJ O U r a->oa ctx a ->
  cT P I E O U r.st.hp (execOp a.eval o) res):=by
 cases hop:o.op<;>simp only [iV]
 case move x =>
  refine ak (lg (Q:=fun v=>rd r ctx x=some v) fun a h=>h) fun v hv=>au fun U a ha hc=>?_
  have:=dA ha hc hv
  exact cT.now this.1 fun w _=>by simp [execOp,hop,this.2]
 case assign x =>
  refine ak (lg (Q:=fun v=>rd r ctx x=some v) fun a h=>h) fun v hv=>au fun U a ha hc=>?_
  have:=dA ha hc hv
  exact cT.now this.1 fun w _=>by simp [execOp,hop,this.2]
 case pick c x y =>
  refine ak zrQ fun v hv=>au fun U a ha hc=>?_
  obtain ⟨hg,t,h1,h2⟩:=hv U a ha hc
  exact cT.now hg fun w _=>by simp [execOp,hop,h1,asBool,<-h2]
 case build t parts =>
  refine bh fun ps hps=>?_
  refine ak (lg (Q:=fun v=>MY P t ps=some v) fun a h=>h) fun cs hcs=>au fun U a ha hc=>?_
  have h1:=N4 ha hc hps
  have h2:=zn5 hcs h1.2
  refine cT.now (V1.aP.2 h2.1) fun w _=>?_
  have h3:(parts.map fun (p:Nat×Operand)=>(p.1,a.eval p.2))=(ps.map fun p=>(p.1,p.2.aa O U)).toArray:=by
   apply Array.ext'
   simpa using h1.1
  have h4:=h2.2 U w
  rw [<-h3] at h4
  simp only [execOp,hop,V.aa,V1.aa]
  simp [h4]
 case alloc t =>
  refine bh fun cs hcs=>?_
  obtain ⟨i,z,hi,hz,Cx,rW⟩:=Cu (O:=O) hcs
  have Cq:∀ n,cs.all (Lf.lt n)=true:=fun n=>by
   unfold zeroCells at hcs
   rw [hi] at hcs
   simp only [hz] at hcs
   obtain ⟨_,h2⟩:=Sv hcs
   refine List.all_eq_true.2 fun x hx=>?_
   obtain ⟨j,hj,rfl⟩:=List.mem_iff_getElem.1 hx
   obtain ⟨v,_,hv⟩:=h2 j _ (List.getElem?_eq_getElem hj)
   unfold BO at hv
   split at hv<;>first | (cases hv;rfl) | (rw [<-Option.some.inj hv];rfl) | cases hv
  have hrun:∀ (o':Act) (w:World),(execOp o'.eval o).run P w = .ok (.value (.pointer (some ⟨w.heap.size,0,none⟩))) (w.alloc (.cells z.cells t)):=fun o' w=>by
   simp [execOp,hop,Instr.alloc,zeroValue,typeInfo,hi,hz,newVar,newRow]
  refine aY (fun hn=>aY (fun hlt=>?_) (fun _=>aE)) (fun hn=>?_)
  ·refine ak (zdt fun w=>I6 (E:=E) (w:=w) _ _ _) fun q hq=>ak (Ja _ _) fun z' nF=>?_
   unfold Al
   refine aY (fun hc=>?_) (fun _=>aE)
   simp only [Bool.and_eq_true] at hc
   refine au fun U a ha Jb w hw _=>?_
   obtain ⟨h1,h2,h3,h4,U',h5,h6,h7⟩:=hq w U hw hlt (Cq _) Cx
   have hnew:=h6.new hc.1 hc.2 (nF.2 h3) t
   rw [nF.1,h7,<-rW U] at hnew
   refine .inl ⟨.pointer (some ⟨w.heap.size,0,none⟩),w.alloc (.cells z.cells t),hrun a w,_,fun j hj=>by rw [nD (by omega),h5 j hj],hnew,fun u hu=>?_⟩
   cases hu
   exact ⟨V1.ah.2 trivial,by simp [V.aa,V1.aa,Lf.aa,uf,bV.val]⟩
  ·refine ak (Ja _ _) fun z' nF=>?_
   unfold Al
   refine aY (fun hc=>?_) (fun _=>aE)
   simp only [Bool.and_eq_true] at hc
   refine au fun U a ha Jb w hw _=>?_
   have hnew:=hw.new hc.1 hc.2 (nF.2 Cx) t
   rw [nF.1,<-rW U] at hnew
   refine .inl ⟨.pointer (some ⟨w.heap.size,0,none⟩),w.alloc (.cells z.cells t),hrun a w,_,fun j hj=>nD hj,hnew,fun u hu=>?_⟩
   cases hu
   exact ⟨V1.ah.2 trivial,by simp [V.aa,V1.aa,Lf.aa,uf,bV.val]⟩
 case box t x =>
  refine bh fun v hv=>?_
  split
  ·rename_i v1
   refine aY (fun hok=>?_) (fun _=>aE)
   refine aY (fun _=>aY (fun hlt=>?_) (fun _=>aE)) (fun _=>?_)
   ·simp only [Bool.and_eq_true] at hlt
    refine ak (zdt fun w=>I6 (E:=E) (w:=w) _ _ _) fun q hq=>ak (Ja _ _) fun z' nF=>?_
    unfold Al
    refine aY (fun hc=>?_) (fun _=>aE)
    simp only [Bool.and_eq_true] at hc
    refine au fun U a ha Jb w hw _=>?_
    have:=dA ha Jb hv
    have hcell:(a.eval x).cells=(v1.cells.map (Lf.aa O U)).toArray:=by
     rw [this.2]
     cases v1 with
     | one l =>
      have h1:(l.aa O U).oneCell'=true:=Lf.iM (by simpa [V1.cells] using hok) U
      exact NG h1
     | agg l=>rfl
    obtain ⟨h1,h2,h3,h4,U',h5,h6,h7⟩:=hq w U hw hlt.1 hlt.2 this.1
    have hnew:=h6.new hc.1 hc.2 (nF.2 h3) t
    rw [nF.1,h7] at hnew
    refine .inl ⟨.pointer (some ⟨w.heap.size,0,none⟩),w.alloc (.cells (v1.cells.map (Lf.aa O U)).toArray t),?_,_,fun j hj=>by rw [nD (by omega),h5 j hj],hnew,fun u hu=>?_⟩
    ·simp [execOp,hop,Instr.box,newVar,newRow,hcell]
    ·cases hu
     exact ⟨V1.ah.2 trivial,by simp [V.aa,V1.aa,Lf.aa,uf,bV.val]⟩
   ·refine ak (Ja _ _) fun z' nF=>?_
    unfold Al
    refine aY (fun hc=>?_) (fun _=>aE)
    simp only [Bool.and_eq_true] at hc
    refine au fun U a ha Jb w hw _=>?_
    have:=dA ha Jb hv
    have hcell:(a.eval x).cells=(v1.cells.map (Lf.aa O U)).toArray:=by
     rw [this.2]
     cases v1 with
     | one l =>
      have h1:(l.aa O U).oneCell'=true:=Lf.iM (by simpa [V1.cells] using hok) U
      exact NG h1
     | agg l=>rfl
    refine .inl ⟨.pointer (some ⟨w.heap.size,0,none⟩),w.alloc (.cells (v1.cells.map (Lf.aa O U)).toArray t),?_,_,fun j hj=>nD hj,(by have hnew:=hw.new hc.1 hc.2 (nF.2 this.1) t;rw [nF.1] at hnew;exact hnew),fun u hu=>?_⟩
    ·simp [execOp,hop,Instr.box,newVar,newRow,hcell]
    ·cases hu
     exact ⟨V1.ah.2 trivial,by simp [V.aa,V1.aa,Lf.aa,uf,bV.val]⟩
  ·exact aE
 case load t x =>
  refine bh fun v hv=>?_
  split
  ·rename_i b off
   refine bh fun k hk=>?_
   refine bh fun sz hs=>?_
   refine bh fun bk cY=>?_
   split
   ·rename_i o cs
    by_cases hg:off.good O
    ·refine ak (Sp (own:=o) hk hs hg) fun v hl=>au fun U a ha hc w hw _=>?_
     have hr:=dA ha hc hv
     have:=hl U w (U b) (hw.heap.aj b _ cY)
     exact ⟨this.1,.inl (by simp [execOp,hop,hr.2,V.aa,V1.aa,Lf.aa,Instr.loadAt,Instr.sureAddr,this.2])⟩
    ·refine ak gU fun v _=>au fun U a ha hc w hw _=>?_
     exact absurd ((dA ha hc hv).1 (.p b off) (by simp [V1.cells])) hg
   ·rename_i o ts q
    refine aY (fun hfl=>?_) (fun hfl=>aY (fun j9=>?_) (fun _=>aE))
    rotate_left
    ·by_cases hg:off.good O
     ·refine ak (znS (E:=E) hk hs hg) fun z hz=>au fun U a ha hc w hw _=>?_
      have hr:=dA ha hc hv
      obtain ⟨z1,U',z2,z3,z4⟩:=hz U w hw j9 (U b) o (hw.heap.aj b _ cY)
      have he:a.eval x = .pointer (some ⟨(U b).aj,(U b).off+off.val O,none⟩):=hr.2
      exact .inl ⟨V1.aa O U' z.1,w,by simp [execOp,hop,he,Instr.loadAt,Instr.sureAddr,z4],U',z2,z3,fun u hu=>by cases hu;exact ⟨z1,rfl⟩⟩
     ·refine ak gU fun v _=>au fun U a ha hc w hw _=>?_
      exact absurd ((dA ha hc hv).1 (.p b off) (by simp [V1.cells])) hg
    by_cases hg:off.good O
    ·refine ak (SZ (E:=E) hk hs hg) fun v hl=>au fun U a ha hc w hw _=>?_
     have hr:=dA ha hc hv
     have:=hl.2 U w (U b) o (hw.heap.aj b _ cY)
     exact ⟨hl.1,.inl (by simp [execOp,hop,hr.2,V.aa,V1.aa,Lf.aa,Instr.loadAt,Instr.sureAddr,this])⟩
    ·refine ak gU fun v _=>au fun U a ha hc w hw _=>?_
     exact absurd ((dA ha hc hv).1 (.p b off) (by simp [V1.cells])) hg
   ·rename_i o f ts q
    refine aY (fun hfl=>?_) (fun _=>aE)
    by_cases hg:off.good O
    ·refine ak (SZ (E:=E) hk hs hg) fun v hl=>au fun U a ha hc w hw _=>?_
     have hr:=dA ha hc hv
     have:=hl.2 U w (U b) false (eu.row (hw.heap.aj b _ cY))
     exact ⟨hl.1,.inl (by simp [execOp,hop,hr.2,V.aa,V1.aa,Lf.aa,Instr.loadAt,Instr.sureAddr,this])⟩
    ·refine ak gU fun v _=>au fun U a ha hc w hw _=>?_
     exact absurd ((dA ha hc hv).1 (.p b off) (by simp [V1.cells])) hg
   ·exact aE
   ·exact aE
  ·rename_i g off
   refine bh fun k hk=>?_
   refine bh fun sz hs=>?_
   refine bh fun cs hcs=>?_
   by_cases hg:off.good O
   ·refine ak (Sp (own:=false) hk hs hg) fun v hl=>aY (fun hsc=>au fun U a ha hc w hw hI=>?_) (fun _=>aE)
    have hr:=dA ha hc hv
    obtain ⟨hg1,hg2⟩:=hS.IP g cs hcs w hI
    have hb:cK O (fun _=>⟨g,0,false,0,0,none⟩) w ⟨g,0,false,0,0,none⟩ false (cs.map some):=⟨rfl,hg1,fun i l hi=>by
     rw [xE] at hi
     have:=hg2 i l hi O (fun _=>⟨g,0,false,0,0,none⟩)
     simpa using this,fun h=>(by cases h),fun h=>by cases h⟩
    have:=hl (fun _=>⟨g,0,false,0,0,none⟩) w _ hb
    have Jc:v.aa O (fun _=>⟨g,0,false,0,0,none⟩)=v.aa O U:=V1.gh hsc _ _
    have h2:=this.2
    rw [Jc] at h2
    simp only [Nat.zero_add] at h2
    have dY:a.eval x = .pointer (some ⟨g,off.val O,none⟩):=hr.2
    have h3:(execOp a.eval o).run P w=((loadVar t ⟨g,off.val O,none⟩).run P w).andThen fun v w'=>.ok (.value v) w':=by
     simp [execOp,hop,dY,Instr.loadAt,Instr.sureAddr]
    exact ⟨this.1,.inl (by rw [h3,h2];rfl)⟩
   ·refine ak gU fun v _=>aY (fun _=>au fun U a ha hc w hw _=>?_) (fun _=>aE)
    exact absurd ((dA ha hc hv).1 (.gp g off) (by simp [V1.cells])) hg
  ·exact aE
 case store t x y =>
  refine ak (zjB (E:=E) hop) fun hp' h=>au fun U a ha hc w hw _=>?_
  obtain ⟨w',h1,h2⟩:=h U a ha hc w hw
  exact .inr (.inl ⟨w',h1,U,fun _ _=>rfl,h2,fun u hu=>by cases hu⟩)
 case nilCheck x =>
  refine bh fun v hv=>?_
  split
  ·refine au fun U a ha hc=>?_
   have:=dA ha hc hv
   exact cT.now this.1 fun w _=>by simp [execOp,hop,this.2,V.aa,V1.aa,Lf.aa]
  ·refine au fun U a ha hc=>?_
   have:=dA ha hc hv
   exact cT.now this.1 fun w _=>by simp [execOp,hop,this.2,V.aa,V1.aa,Lf.aa]
  ·rename_i b l
   by_cases hg:(Lf.alt b l).good O
   ·refine ak (zn4 hg) fun z hz=>au fun U a ha hc=>?_
    have:=dA ha hc hv
    obtain ⟨e1,ad,e2⟩:=hz.2 U
    refine cT.now (V1.ah.2 hz.1) fun w _=>?_
    have e3:a.eval x = .pointer (some ad):=by rw [this.2,<-e2,e1];rfl
    have e4:(V.s (.one z)).aa O U = .pointer (some ad):=e2
    simp [execOp,hop,e3,e4]
   ·refine ak gU fun z _=>au fun U a ha hc=>?_
    exact absurd (V1.ah.1 (dA ha hc hv).1) hg
  ·exact aE
 case binOp op t x y yt =>
  refine aY (fun hy=>?_) (fun _=>?_)
  ·refine bh fun v hv=>?_
   split
   ·rename_i b l
    refine aY (fun hif=>?_) (fun _=>aE)
    split
    ·exact zn6 (neg:=false) hop hy hif hv
    ·exact zn6 (neg:=true) hop hy hif hv
    ·exact aE
   ·rename_i l _
    refine ak (lg (Q:=fun q=>M3 P op t l=some q) fun a h=>h) fun q hq=>au fun U a ha hc=>?_
    have h1:=dA ha hc hv
    refine cT.now (V1.ah.2 trivial) fun w _=>?_
    have h2:=zrO (O:=O) hq hy U x w a
    simp only [execOp,hop]
    have h3:a.eval x=l.aa O U:=h1.2
    simp only [V.aa,V1.aa]
    rw [show (Lf.b (.t q)).aa O U=Value.bool q from rfl,h3]
    simp [h2.1,h2.2]
   ·exact aE
  ·refine bh fun v hv=>?_
   refine bh fun u hu=>?_
   by_cases hg:v.good O/\u.good O
   ·refine ak (zrD hg.1 hg.2) fun z hz=>au fun U a ha hc=>?_
    have h1:=dA ha hc hv
    have h2:=dA ha hc hu
    refine cT.now hz.1 fun w _=>?_
    have:=hz.2 U w x y
    simp [execOp,hop,h1.2,h2.2,this.1,this.2]
   ·refine ak gU fun z _=>au fun U a ha hc=>?_
    exact absurd ⟨(dA ha hc hv).1,(dA ha hc hu).1⟩ hg
 case unOp op t x =>
  refine bh fun v hv=>?_
  split
  ·rename_i l
   refine ak (Ci fun U (w:World)=>zuY (P:=P) (U:=U) (w:=w)) fun z hz=>au fun U a ha hc=>?_
   have h1:=dA ha hc hv
   refine cT.now (V1.ah.2 hz.1) fun w _=>?_
   have:=hz.2 U w
   simp only [V.aa,V1.aa] at h1 ⊢
   simp [execOp,hop,h1.2,this]
  ·exact aE
 case convert s d x =>
  refine bh fun v hv=>?_
  split
  ·rename_i q
   refine ak (zrF (E:=E)) fun z hz=>au fun U a ha hc w hw _=>?_
   have h1:=dA ha hc hv
   refine ⟨hz.1,.inl ?_⟩
   have:=hz.2 U w w hw rfl
   have h2:a.eval x=(Lf.vec q).aa O U:=h1.2
   simp [execOp,hop,h2,this]
  ·rename_i l _
   refine ak (Ci fun U (w:World)=>zrw (P:=P) (U:=U) (w:=w)) fun z hz=>au fun U a ha hc=>?_
   have h1:=dA ha hc hv
   refine cT.now (V1.ah.2 hz.1) fun w _=>?_
   have:=hz.2 U w
   simp only [V.aa,V1.aa] at h1 ⊢
   simp [execOp,hop,h1.2,this]
  ·exact aE
 case fieldAddr t x f =>
  refine bh fun v hv=>?_
  split
  ·rename_i l
   by_cases hg:l.good O
   ·refine ak (zjA hg) fun z hz=>au fun U a ha hc=>?_
    have h1:=dA ha hc hv
    refine cT.now (V1.ah.2 hz.1) fun w _=>?_
    have:=hz.2 U w
    simp only [V.aa,V1.aa] at h1 ⊢
    simp [execOp,hop,h1.2,this]
   ·refine ak gU fun z _=>au fun U a ha hc=>?_
    exact absurd (V1.ah.1 (dA ha hc hv).1) hg
  ·exact aE
 case field t x f =>
  refine bh fun v hv=>?_
  split
  ·rename_i l
   by_cases hg:∀ y∈l,Lf.good O y
   ·refine ak (zpr hg) fun z hz=>au fun U a ha hc=>?_
    have h1:=dA ha hc hv
    refine cT.now hz.1 fun w _=>?_
    have:=hz.2 U w
    simp only [V.aa,V1.aa] at h1 ⊢
    simp [execOp,hop,h1.2,this]
    rfl
   ·refine ak gU fun z _=>au fun U a ha hc=>?_
    exact absurd (V1.aP.1 (dA ha hc hv).1) hg
  ·exact aE
 case indexAddr t x ix =>
  refine bh fun v hv=>?_
  refine bh fun u hu=>?_
  split
  ·rename_i b i
   refine ak (zfA (E:=E)) fun z hz=>au fun U a ha hc w hw _=>?_
   have h1:=dA ha hc hv
   have h2:=dA ha hc hu
   refine ⟨V1.ah.2 hz.1,.inl ?_⟩
   have:=hz.2 U w w hw
   simp only [V.aa,V1.aa] at h1 h2 ⊢
   simp only [Lf.aa] at h1
   simp [execOp,hop,h1.2,h2.2,this]
  ·rename_i l i _
   by_cases hg:l.good O
   ·refine ak (zeK hg) fun z hz=>au fun U a ha hc=>?_
    have h1:=dA ha hc hv
    have h2:=dA ha hc hu
    refine cT.now (V1.ah.2 hz.1) fun w _=>?_
    have:=hz.2 U w
    simp only [V.aa,V1.aa] at h1 h2 ⊢
    simp [execOp,hop,h1.2,h2.2,this]
   ·refine ak gU fun z _=>au fun U a ha hc=>?_
    exact absurd (V1.ah.1 (dA ha hc hv).1) hg
  ·exact aE
 case index t x ix =>
  refine bh fun v hv=>?_
  refine bh fun u hu=>?_
  split
  ·rename_i l i
   by_cases hg:∀ y∈l,Lf.good O y
   ·refine ak (zpq hg) fun z hz=>au fun U a ha hc=>?_
    have h1:=dA ha hc hv
    have h2:=dA ha hc hu
    refine cT.now hz.1 fun w _=>?_
    have:=hz.2 U w
    simp only [V.aa,V1.aa] at h1 h2 ⊢
    simp [execOp,hop,h1.2,h2.2,this]
    rfl
   ·refine ak gU fun z _=>au fun U a ha hc=>?_
    exact absurd (V1.aP.1 (dA ha hc hv).1) hg
  ·rename_i s ki i
   refine bh fun d hd=>?_
   split
   ·refine ak F5 fun _ hb=>?_
    refine ak (cz (Q:=fun r=>r.int O=((s.data.toList.map fun b=>A.z b.toNat).map (A.int O)).getD (i.int O).toNat 0) fun r h=>A.aM h) fun q hq=>au fun U a ha hc=>?_
    have h1:=dA ha hc hv
    have h2:=dA ha hc hu
    refine cT.now (V1.ah.2 trivial) fun w _=>?_
    have hlt:(i.int O).toNat<s.size:=by omega
    have h3:s[(i.int O).toNat]? = some s[(i.int O).toNat]:=by
     rw [getElem?_pos]
    have h4:q.int O=(s[(i.int O).toNat]).toNat:=by
     rw [hq,List.map_map,List.getD_eq_getElem?_getD,List.getElem?_map]
     have:s.data.toList[(i.int O).toNat]? = some s[(i.int O).toNat]:=by
      rw [Array.getElem?_toList]
      exact Array.getElem?_eq_getElem hlt
     rw [this]
     rfl
    simp only [V.aa,V1.aa,Lf.aa] at h1 h2 ⊢
    simp [execOp,hop,h1.2,h2.2,Instr.index,asIntOf,run_underlying hd,hb.1,h3,h4]
   ·exact aE
  ·exact aE
 case extract x n =>
  refine bh fun v hv=>?_
  split
  ·rename_i l
   refine ak (lg (Q:=fun u=>l[n]? = some u) fun a h=>h) fun u hu=>au fun U a ha hc=>?_
   have h1:=dA ha hc hv
   refine cT.now (V.cg.2 (h1.1 u (List.mem_of_getElem? hu))) fun w _=>?_
   simp [execOp,hop,h1.2,V.aa,Instr.extract,hu]
  ·exact aE
 case makeFunc fn first cap =>
  split
  ·rename_i f
   refine bh fun vs hvs=>?_
   refine bh fun bs Jd=>?_
   refine aY (fun he=>au fun U a ha hc=>?_) (fun _=>aE)
   have h1:=zc ha hc hvs
   have h2:=zlm (O:=O) U Jd
   have h3:cap.map a.eval=p9 U bs:=by
    apply Array.ext'
    rw [Array.toList_map,h1,h2];simp [p9]
   have h4:first = #[]:=by simpa using he
   refine cT.now (V1.ah.2 trivial) fun w _=>?_
   simp [execOp,hop,Instr.makeFunc,h3,h4,V.aa,V1.aa,Lf.aa]
  ·exact aE
 case makeInterface t x =>
  refine bh fun v hv=>?_
  split
  ·rename_i b
   refine bh fun k hk=>?_
   split
   ·rename_i e
    refine au fun U a ha hc=>cT.now (V1.ah.2 trivial) fun w _=>?_
    have h1:=dA ha hc hv
    have h2:=AE hk
    simp [execOp,hop,h1.2,Instr.makeInterface,underlying,h2,V.aa,V1.aa,Lf.aa,bV.val]
   ·exact aE
  ·exact aE
 case call c =>
  split
  ·rename_i x hf
   refine ak (lg (Q:=fun p=>qb (rd r ctx x)=some p) fun a h=>h) fun ⟨f,bs⟩ hfn=>?_
   refine bh fun vs hvs=>?_
   split
   ·rename_i add xa xb xq oL Jd
    dsimp only at oL Jd
    subst Jd
    refine cH (zpn (P:=P)) fun z hz U a ha hc=>?_
    obtain ⟨s,k,rfl,hr⟩:=hz
    have h1:=zc ha hc hvs
    have h0:=Tu ha hc hfn
    have h2:c.args.map a.eval = #[.int .u64 (xa.int O),.int .u64 (xb.int O),.int .u64 (xq.int O)]:=by
     apply Array.ext'
     rw [Array.toList_map,h1];rfl
    refine cT.now (fun u hu=>?_) fun w _=>?_
    ·rcases List.mem_cons.1 hu with rfl | hu
     ·exact V1.ah.2 trivial
     ·rcases List.mem_cons.1 hu with rfl | hu
      ·exact V1.ah.2 trivial
      ·cases hu
    ·have h3:=hr f oL w
     have h4:p9 U [] = #[]:=rfl
     simp only [execOp,hop,resolve,hf,h0,Deferred.ofValue,invoke,pure_bind,h2,h4,Array.append_empty]
     exact h3
   ·exact aE
   ·rename_i vs q1 q2 q3 q4
    refine cH (To (E:=E) hS hE) fun z hz U a ha hc=>?_
    have h1:=zc ha hc hvs
    have h0:=Tu ha hc hfn
    have h2:c.args.map a.eval++p9 U bs=((vs++bs.map fun b=>V.s (.one (.p b (.c 0)))).map (V.aa O U)).toArray:=by
     apply Array.ext'
     simp only [Array.toList_append,Array.toList_map,h1,p9,List.map_append,List.map_map]
     rfl
    have Je:∀ v∈vs++bs.map fun b=>V.s (.one (.p b (.c 0))),V.good O v:=fun v hv=>by
     rcases List.mem_append.1 hv with hv | hv
     ·exact N5 ha hc hvs v hv
     ·obtain ⟨b,_,rfl⟩:=List.mem_map.1 hv
      exact V.cg.2 (V1.ah.2 trivial)
    generalize vs++bs.map (fun b=>V.s (.one (.p b (.c 0))))=us at *
    have h5:∀ w,(callFunc f (us.map (V.aa O U)).toArray).run P w = .ok (.enter f (us.map (V.aa O U)).toArray) w->(execOp a.eval o).run P w = .ok (.enter f (us.map (V.aa O U)).toArray) w:=fun w h4=>by
     rw [<-h2] at h4 ⊢
     simp [execOp,hop,resolve,hf,h0,Deferred.ofValue,invoke]
     exact h4
    cases z with
    | val v =>
     intro w hw hI
     obtain ⟨h3,h4,h6⟩:=hz U w Je hw hI
     exact ⟨h4,.inr ⟨f,_,h5 w h3,h6⟩⟩
    | hp v hp' =>
     intro w hw hI
     obtain ⟨h3,h4⟩:=hz U w Je hw hI
     exact .inr (.inr ⟨f,_,h5 w h3,h4.mono fun e w' ⟨x,he,U',k1,k2,k3⟩=>⟨x,he,U',k1,k2,fun u hu=>⟨(k3 u hu).1,by rw [(k3 u hu).2]⟩⟩⟩)
  ·rename_i b hf
   refine bh fun vs hvs=>?_
   have hargs:∀ U a,aJ O U r a->oa ctx a->c.args.map a.eval=(vs.map (V.aa O U)).toArray:=fun U a ha hc=>by
    apply Array.ext'
    simpa using zc ha hc hvs
   split
   ·rename_i k x k' y
    refine aY (fun hk=>?_) (fun _=>aE)
    have:=pN hk;subst this
    split
    ·refine au fun U a ha hc=>cT.now (V1.ah.2 trivial) fun w _=>?_
     simp [execOp,hop,resolve,hf,hargs U a ha hc,invoke,builtin,Builtin.max_,Builtin.max2,V.aa,V1.aa,Lf.aa,List.foldlM]
    ·refine ak (cz (Q:=fun r=>r.bool O=decide (y.int O>x.int O)) fun r h=>A.aq h) fun q hq=>?_
     refine ak Cj fun z hz=>au fun U a ha hc=>cT.now (V1.ah.2 trivial) fun w _=>?_
     rw [hq] at hz
     simp [execOp,hop,resolve,hf,hargs U a ha hc,invoke,builtin,Builtin.max_,Builtin.max2,V.aa,V1.aa,Lf.aa,List.foldlM,hz]
   ·rename_i k x k' y
    refine aY (fun hk=>?_) (fun _=>aE)
    have:=pN hk;subst this
    split
    ·refine au fun U a ha hc=>cT.now (V1.ah.2 trivial) fun w _=>?_
     simp [execOp,hop,resolve,hf,hargs U a ha hc,invoke,builtin,Builtin.min_,Builtin.min2,V.aa,V1.aa,Lf.aa,List.foldlM]
    ·refine ak (cz (Q:=fun r=>r.bool O=decide (y.int O<x.int O)) fun r h=>A.aq h) fun q hq=>?_
     refine ak Cj fun z hz=>au fun U a ha hc=>cT.now (V1.ah.2 trivial) fun w _=>?_
     rw [hq] at hz
     simp [execOp,hop,resolve,hf,hargs U a ha hc,invoke,builtin,Builtin.min_,Builtin.min2,V.aa,V1.aa,Lf.aa,List.foldlM,hz]
   ·rename_i v
    refine bh fun t ht=>?_
    refine ak (znQ (E:=E)) fun z hz=>au fun U a ha hc w hw _=>⟨hz.1,.inl ?_⟩
    have:=hz.2 U w w o.type c.argTypes ht hw
    simp [execOp,hop,resolve,hf,hargs U a ha hc,invoke,builtin,this]
   ·rename_i s x
    refine bh fun t ht=>?_
    refine bh fun tx htx=>?_
    refine cH (zmp (E:=E)) fun z hz U a ha hc=>?_
    refine jL.run (y:=Builtin.append_ c.argTypes o.type #[s.aa O U,x.aa O U]) (fun w v w' h=>?_) (fun w hw=>?_)
    ·simp [execOp,hop,resolve,hf,hargs U a ha hc,invoke,builtin,h]
    ·obtain ⟨v,w',h1,h2⟩:=hz U w o.type hw
     refine ⟨v,w',?_,h2⟩
     rw [<-h1]
     simp only [Builtin.append_,ht,htx,List.getElem?_toArray,List.getElem?_cons_zero,List.getElem?_cons_succ]
   ·exact aE
  ·rename_i x name hf
   refine bh fun v hv=>?_
   split
   ·rename_i t b
    refine bh fun f hfn=>?_
    refine bh fun vs hvs=>?_
    refine cH (To (E:=E) hS hE) fun z hz U a ha hc=>?_
    have h1:=zc ha hc hvs
    have h0:=(dA ha hc hv).2
    have h2 : #[(V.s (.one (.p b (.c 0)))).aa O U]++c.args.map a.eval=((V.s (.one (.p b (.c 0)))::vs).map (V.aa O U)).toArray:=by
     apply Array.ext'
     simp only [Array.toList_append,Array.toList_map,h1,List.map_cons]
     rfl
    have Je:∀ v∈V.s (.one (.p b (.c 0)))::vs,V.good O v:=fun v hv=>by
     rcases List.mem_cons.1 hv with rfl | hv
     ·exact V.cg.2 (V1.ah.2 trivial)
     ·exact N5 ha hc hvs v hv
    have h6:a.eval x = .iface t ((V.s (.one (.p b (.c 0)))).aa O U):=h0
    have h5:∀ w,(callFunc f ((V.s (.one (.p b (.c 0)))::vs).map (V.aa O U)).toArray).run P w = .ok (.enter f ((V.s (.one (.p b (.c 0)))::vs).map (V.aa O U)).toArray) w ->
      (execOp a.eval o).run P w = .ok (.enter f ((V.s (.one (.p b (.c 0)))::vs).map (V.aa O U)).toArray) w:=fun w h4=>by
     rw [<-h4,<-h2]
     have:=zlh (P:=P) hfn ((V.s (.one (.p b (.c 0)))).aa O U) (c.args.map a.eval) w
     rw [<-this,<-h6]
     simp only [execOp,hop,resolve,hf,pure_bind]
    generalize V.s (.one (.p b (.c 0)))::vs=us at *
    cases z with
    | val v =>
     intro w hw hI
     obtain ⟨h3,h4,h6⟩:=hz U w Je hw hI
     exact ⟨h4,.inr ⟨f,_,h5 w h3,h6⟩⟩
    | hp v hp' =>
     intro w hw hI
     obtain ⟨h3,h4⟩:=hz U w Je hw hI
     exact .inr (.inr ⟨f,_,h5 w h3,h4.mono fun e w' ⟨x,he,U',k1,k2,k3⟩=>⟨x,he,U',k1,k2,fun u hu=>⟨(k3 u hu).1,by rw [(k3 u hu).2]⟩⟩⟩)
   ·rename_i b l
    refine bh fun vs hvs=>?_
    exact aY (fun hok=>zs9 hS hE hop hf hv hvs (by simp only [Bool.and_eq_true] at hok;exact hok.1)) (fun _=>aE)
   ·exact aE
 case buildSlice t len parts =>
  refine bh fun ps hps=>?_
  by_cases hg:∀ p∈ps,p.2.good O
  ·refine cH (zik (E:=E) hg) fun z hz U a ha hc=>?_
   have h1:=N4 ha hc hps
   have h3:(parts.map fun (p:Nat×Operand)=>(p.1,a.eval p.2))=(ps.map fun p=>(p.1,p.2.aa O U)).toArray:=by
    apply Array.ext'
    simpa using h1.1
   refine jL.run (y:=Instr.buildSlice t len (ps.map fun p=>(p.1,p.2.aa O U)).toArray) (fun w v w' h=>?_) (hz U)
   rw [<-h3] at h
   simp only [execOp,hop]
   simp [h]
  ·refine cH gU fun z _ U a ha hc=>?_
   exact absurd (N4 ha hc hps).2 hg
 case makeSlice t l c =>
  refine bh fun v hv=>?_
  refine bh fun u hu=>?_
  split
  ·rename_i x y
   refine cH (zrG (E:=E)) fun z hz U a ha hc=>?_
   have h1:=dA ha hc hv
   have h2:=dA ha hc hu
   refine jL.run (y:=Instr.makeSlice t (x.aa O U) (y.aa O U)) (fun w v w' h=>?_) (hz U)
   simp only [V.aa,V1.aa] at h1 h2
   simp [execOp,hop,h1.2,h2.2,h]
  ·exact aE
 case slice t x low high max =>
  refine bh fun v hv=>?_
  refine bh fun lo hlo=>?_
  refine bh fun hi hhi=>?_
  refine bh fun mx F6=>?_
  refine cH (zn2 (E:=E)) fun z hz U a ha hc=>?_
  have h1:=dA ha hc hv
  refine jL.run (y:=Instr.sliceAt t (v.aa O U) (lo.map (Lf.aa O U)) (hi.map (Lf.aa O U)) (mx.map (Lf.aa O U))) (fun w v w' h=>?_) (hz U)
  rw [<-Tt ha hc hlo,<-Tt ha hc hhi,<-Tt ha hc F6] at h
  simp [execOp,hop,h1.2,h]
 all_goals exact aE
end
end Go.Sx
