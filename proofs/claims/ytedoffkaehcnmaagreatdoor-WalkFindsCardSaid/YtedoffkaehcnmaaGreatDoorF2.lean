/- Operations on rows agree with the model. -/
import Derived.Test.YtedoffkaehcnmaaGreatDoorF1
import Derived.Deep.AppendSrc
import Derived.Laws.MakeOwn
import Derived.Laws.Externs
import Derived.KernelRfl
namespace Go.Sx
open Go.RowKit
section
variable {P:Program} {I:World→Prop} {S:Sigs} {F:FEnv} {E:Env} {ν:Nat→DV}
theorem zba {t:TypeId} {e:Nat} (h:tk P t=some (.slice e)):P.underlying t=some (.slice e):=by
 obtain ⟨d,hd,hk⟩:=zeT h
 cases d<;>simp [tkOf] at hk
 subst hk
 exact hd
theorem zhE {hp:List (Option Blk)} {b:Nat} {r:Bool×List LT×A} (h:zk6 hp b=some r):nth hp b=some (.v r.1 r.2.1 r.2.2):=by
 unfold zk6 at h
 split at h
 ·rename_i hb
  cases h
  exact hb
 ·cases h
theorem zdQ {hp:List (Option Blk)} {b:Nat} {r:Bool×List LT×A} (h:zc7 hp b=some r) {ρ:Nat→Loc} {w:World} (hw:HS E ν ρ hp w):VRel E w (ρ b) r.1 r.2.1 (r.2.2.cells ν):=by
 unfold zc7 at h
 split at h
 ·rename_i hb
  cases h
  exact hw.heap.blk b _ hb
 ·rename_i hb
  cases h
  exact LRel.row (hw.heap.blk b _ hb)
 ·cases h
theorem zsX {hp:List (Option Blk)} {b:Nat} {r:Bool×List LT×A} (h:zc7 hp b=some r):(∃ o,nth hp b=some (.v o r.2.1 r.2.2)∧r.1=o)∨∃ o f,nth hp b=some (.l o f r.2.1 r.2.2):=by
 unfold zc7 at h
 split at h
 ·rename_i hb
  cases h
  exact .inl ⟨_,hb,rfl⟩
 ·rename_i hb
  cases h
  exact .inr ⟨_,_,hb⟩
 ·cases h
theorem zpa {hp:List (Option Blk)} {b:Nat} {r:Bool×List LT×A} (h:zk6 hp b=some r) {ρ:Nat→Loc} {w:World} (hw:HS E ν ρ hp w):VRel E w (ρ b) r.1 r.2.1 (r.2.2.cells ν) :=
 hw.heap.blk b _ (zhE h)
theorem VRel.elems {w:World} {r:Loc} {o:Bool} {ts:List LT} {xs:List DV} (h:VRel E w r o ts xs):xs.length/ts.length=r.len:=by
 rw [h.len];exact Nat.mul_div_cancel _ h.pos
theorem zck {a b:A} : M.sat F ν (zgx a b) (fun _=>a.int ν≤b.int ν):=by
 unfold zgx
 split
 ·exact zae (fun h=>zab (by simpa using h)) (fun _=>zac)
 ·refine zaa (zaf (Q:=fun r=>r.bool ν=decide (a.int ν≤b.int ν)) fun r h=>A.bool_of_den h) fun r hr=>?_
  exact zbl fun h=>by rw [hr] at h;simpa using h
theorem znH {hp:List (Option Blk)} {t:TypeId} {v:V} : M.sat F ν (zxd P hp t v) (fun u=>u.good ν∧∀ ρ w w1 ty (ts:Array TypeId),ts[0]? = some t→HS E ν ρ hp w →
  (Builtin.len_ ts ty #[v.conc ν ρ]).run P w1 = .ok (u.conc ν ρ) w1):=by
 unfold zxd
 refine zaa (zad (Q:=fun k=>P.underlying t=some k) fun a h=>h) fun k hk=>?_
 split
 ·rename_i e b
  refine zaa (zad (Q:=fun r=>zc7 hp b=some r) fun a h=>h) fun r hr=>?_
  refine zaa (zaf (Q:=fun q=>q.int ν=((r.2.2.cells ν).length/r.2.1.length:Nat)) fun q h=>A.int_of_den h) fun q hq=>zab ⟨V1.good_one.2 trivial,fun ρ w w1 ty ts hts hw=>?_⟩
  have hl:=(zdQ hr hw).elems
  simp [Builtin.len_,hts,run_underlying hk,V.conc,V1.conc,Lf.conc,Loc.slice,goInt,hq,hl]
 ·refine zab ⟨V1.good_one.2 trivial,fun ρ w w1 ty ts hts hw=>?_⟩
  simp [Builtin.len_,hts,run_underlying hk,V.conc,V1.conc,Lf.conc,goInt]
 ·refine zab ⟨V1.good_one.2 trivial,fun ρ w w1 ty ts hts hw=>?_⟩
  simp [Builtin.len_,hts,run_underlying hk,V.conc,V1.conc,Lf.conc,goInt]
 ·rename_i a
  refine zaa (zaf (Q:=fun q=>q.int ν=((a.cells ν).length/1:Nat)) fun q h=>A.int_of_den h) fun q hq=>zab ⟨V1.good_one.2 trivial,fun ρ w w1 ty ts hts hw=>?_⟩
  have hz:(zfC (a.cells ν)).size=(a.cells ν).length:=by
   show ((a.cells ν).map DV.byte).toArray.size=_
   rw [List.size_toArray,List.length_map]
  simp [Builtin.len_,hts,run_underlying hk,V.conc,V1.conc,Lf.conc,goInt,hq,hz]
 ·refine zab ⟨V1.good_one.2 trivial,fun ρ w w1 ty ts hts hw=>?_⟩
  simp [Builtin.len_,hts,run_underlying hk,V.conc,V1.conc,Lf.conc,goInt]
 ·exact zac
theorem zrz (w:World) (l:List DV) (acc:ByteArray) (f:Value→ByteArray→Sem (ForInStep ByteArray))
  (hf:∀ (d:DV) (a:ByteArray),(f (.int .u8 d.toI) a).run P w = .ok (.yield (a.push d.byte)) w) :
  (forIn (l.map fun d=>Value.int .u8 d.toI) acc f).run P w = .ok ⟨acc.data++(l.map DV.byte).toArray⟩ w:=by
 induction l generalizing acc with
 | nil=>simp
 | cons d l ih =>
  simp only [List.map_cons,List.forIn_cons,Sem.run_bind,hf,Result.andThen_ok]
  rw [ih]
  simp [ByteArray.push]
theorem zrA {hp:List (Option Blk)} {s d:TypeId} {b:Nat} : M.sat F ν (znp P hp s d b) (fun v=>v.good ν∧∀ ρ w w1,HS E ν ρ hp w→w1=w →
  (convert s d ((Lf.vec b).conc ν ρ)).run P w1 = .ok (v.conc ν ρ) w1):=by
 unfold znp
 refine zaa (zad (Q:=fun k=>tk P s=some k) fun a h=>h) fun k hk=>?_
 refine zaa (zad (Q:=fun k=>P.underlying d=some k) fun a h=>h) fun kd hkd=>?_
 split
 ·rename_i e
  have hks:=zba hk
  refine zaa (zad (Q:=fun k=>tk P e=some k) fun a h=>h) fun ke hke=>?_
  refine zaa (zad (Q:=fun r=>zc7 hp b=some r) fun a h=>h) fun r hr=>?_
  split
  ·rename_i o a
   refine zab ⟨V1.good_one.2 trivial,fun ρ w w1 hw he=>?_⟩
   subst he
   have hv:=zdQ hr hw
   have hue:=zqF hke
   have hlen:((a.cells ν).map fun d=>Value.int .u8 d.toI).length=(ρ b).len:=by
    rw [List.length_map];simpa using hv.len
   have hld:∀ x:Addr,(∀ j v,((a.cells ν).map fun d=>Value.int .u8 d.toI)[j]? = some v→w1.cell? (x.add j)=some v) →
     (Conv.bytesToString (.slice (some x) (ρ b).len (ρ b).cap)).run P w1 = .ok (.string (zfC (a.cells ν))) w1:=by
    intro x hx
    have h1:=run_loadCells_list (P:=P) w1 x _ hx
    rw [hlen] at h1
    simp only [Conv.bytesToString,Sem.run_bind,h1,Result.andThen_ok]
    rw [←Array.forIn_toList,zrz (P:=P) w1 (a.cells ν) ByteArray.empty _ (fun d acc=>by simp [DV.byte])]
    have he:ByteArray.empty.data = #[]:=rfl
    simp [zfC,he]
   have hcv:∀ x:Option Addr,(x=none→a.cells ν=[])→(∀ y,x=some y→∀ j v,((a.cells ν).map fun d=>Value.int .u8 d.toI)[j]? = some v→w1.cell? (y.add j)=some v) →
     (convert s d (.slice x (ρ b).len (ρ b).cap)).run P w1 = .ok (.string (zfC (a.cells ν))) w1:=by
    intro x h0 h1
    cases x with
    | none =>
     have he:ByteArray.empty=⟨#[]⟩:=rfl
     simp [convert,run_underlying hks,run_underlying hkd,run_underlying hue,Conv.bytesToString,zfC,h0 rfl,he]
    | some y =>
     have:=hld y (h1 y rfl)
     simp [convert,run_underlying hks,run_underlying hkd,run_underlying hue,this]
   cases hn:(ρ b).nil with
   | true =>
    have h0:=(hv.nil hn).1
    have hl:a.cells ν=[]:=by
     have h1:=hv.len
     simp only at h1
     rw [h0,Nat.zero_mul] at h1
     exact List.eq_nil_of_length_eq_zero h1
    have:=hcv (ρ b).raw (fun _=>hl) (fun y _ j v h=>by simp [hl] at h)
    simpa [V.conc,V1.conc,Lf.conc,Loc.slice,hn] using this
   | false =>
    have:=hcv (some ⟨(ρ b).blk,(ρ b).off,none⟩) (fun h=>by cases h) (fun y hy j v h=>by
     cases hy
     rw [List.getElem?_map] at h
     cases hd:(a.cells ν)[j]? with
     | none=>rw [hd] at h;cases h
     | some d =>
      rw [hd] at h
      cases h
      have hj:j<(a.cells ν).length:=by
       rcases Nat.lt_or_ge j (a.cells ν).length with h | h
       ·exact h
       ·rw [List.getElem?_eq_none h] at hd;cases hd
      obtain ⟨v,h1,h2⟩:=hv.cell j hj
      rw [zbJ,h1]
      simp only [List.length_singleton,Nat.mod_one,List.getD_cons_zero] at h2
      rw [show (a.cells ν).getD j default=d from by simp [List.getD,hd]] at h2
      cases h2
      rfl)
    simpa [V.conc,V1.conc,Lf.conc,Loc.slice,hn] using this
  ·exact zac
 ·exact zac
theorem zlx {i n s:Nat} (h:i<n/s):(i+1)*s≤n:=by
 have:(i+1)*s≤n/s*s:=Nat.mul_le_mul_right _ h
 exact Nat.le_trans this (Nat.div_mul_le_self n s)
theorem zfK {hp:List (Option Blk)} {t:TypeId} {b:Nat} {ix:Lf} : M.sat F ν (zht P hp t b ix) (fun l=>l.good ν∧∀ ρ w w1,HS E ν ρ hp w →
  (Instr.indexAt t (ρ b).slice (ix.conc ν ρ)).run P w1 = .ok (l.conc ν ρ) w1):=by
 unfold zht
 refine zaa (zad (Q:=fun k=>tk P t=some k) fun a h=>h) fun k hk=>?_
 split
 ·rename_i elem ki i
  have hu:=zba hk
  refine zaa (zad (Q:=fun k=>zaO P elem=some k) fun a h=>h) fun sz hs=>?_
  refine zaa (zad (Q:=fun r=>zc7 hp b=some r) fun a h=>h) fun r hr=>?_
  refine zae (fun hc=>?_) (fun _=>zac)
  have hc:=Nat.eq_of_beq_eq_true hc
  refine zaa zbH fun _ h0=>?_
  refine zaa (zaf (Q:=fun q=>q.int ν=((r.2.2.cells ν).length/r.2.1.length:Nat)) fun q h=>A.int_of_den h) fun n hn=>?_
  refine zaa (zaf (Q:=fun q=>q.bool ν=decide (i.int ν<n.int ν)) fun q h=>A.bool_of_den h) fun q hq=>?_
  refine zaa (zbl (Q:=fun _=>i.int ν<n.int ν) fun h=>by rw [hq] at h;simpa using h) fun _ hlt=>zab ⟨⟨h0,?_⟩,fun ρ w w1 hw=>?_⟩
  ·rw [hn] at hlt
   rw [hc]
   exact zlx (by omega)
  ·have hv:=zdQ hr hw
   rw [hn,hv.elems] at hlt
   have hnil:(ρ b).nil=false:=by
    cases hx:(ρ b).nil with
    | false=>rfl
    | true=>have:=(hv.nil hx).1;omega
   simp [Instr.indexAt,asIntOf,Lf.conc,Loc.slice,hnil,run_underlying hu,h0,hlt,za9 hs,zbJ,Off.val]
 ·exact zac
theorem zec {sz:Nat} {ix a0 a:A} (h0:0≤ix.int ν) (h1:((ix.int ν).toNat+1)*sz≤(a0.cells ν).length):M.sat F ν (zhu sz ix a0 a) (fun _=>((ix.int ν).toNat+1)*sz≤(a.cells ν).length):=by
 unfold zhu
 refine zae (fun h=>zab ?_) (fun _=>?_)
 ·have:=A.beq_den h ν
  rwa [show A.cells ν a=A.cells ν a0 from by simp [A.cells,this]]
 ·refine zaa (zaf (Q:=fun q=>q.int ν=((a.cells ν).length/sz:Nat)) fun q h=>A.int_of_den h) fun n hn=>?_
  refine zaa (zaf (Q:=fun q=>q.bool ν=decide (ix.int ν<n.int ν)) fun q h=>A.bool_of_den h) fun q hq=>?_
  exact zbl fun h=>by
   rw [hq,hn] at h
   exact zlx (by have:=of_decide_eq_true h;omega)
theorem VRel.at {w:World} {r:Loc} {o:Bool} {ts:List LT} {xs:List DV} (h:VRel E w r o ts xs) {i j:Nat} (hj:j<ts.length) (hi:(i+1)*ts.length≤xs.length) :
  ∃ v,w.cell? ⟨r.blk,r.off+(j+i*ts.length),none⟩=some v∧CRel E (ts.getD j .bool) (xs.getD (i*ts.length+j) default) v:=by
 have hlt:i*ts.length+j<xs.length:=by rw [Nat.add_mul] at hi;omega
 obtain ⟨v,h1,h2⟩:=h.cell _ hlt
 rw [Nat.mul_comm i,Nat.mul_add_mod,Nat.mod_eq_of_lt hj] at h2
 refine ⟨v,?_,by rw [Nat.mul_comm i];exact h2⟩
 rw [←h1]
 congr 2
 omega
theorem zf6 {ts:List LT} {a ix:A} {j:Nat} (hj:j<ts.length) (hl:((ix.int ν).toNat+1)*ts.length≤(a.cells ν).length) :
  M.sat F ν (zhv ts.length j a ix (ts.getD j .bool)) (fun x=>x.good ν∧∀ (ρ:Nat→Loc) (w:World) (r:Loc) o,VRel E w r o ts (a.cells ν) →
   w.cell? ⟨r.blk,r.off+(j+(ix.int ν).toNat*ts.length),none⟩=some (x.conc ν ρ)):=by
 cases ht:ts.getD j .bool with
 | int k =>
  unfold zhv
  refine zaa (zaf (Q:=fun q=>q.int ν=((a.cells ν).getD ((ix.int ν).toNat*ts.length+j) default).toI) fun q h=>A.int_of_den h) fun q hq=>zab ⟨trivial,fun ρ w r o hv=>?_⟩
  obtain ⟨v,h1,h2⟩:=hv.at hj hl
  rw [ht] at h2
  rw [h1]
  cases h2
  simp [Lf.conc,hq]
 | bool =>
  unfold zhv
  refine zaa (zaf (Q:=fun q=>q.bool ν=((a.cells ν).getD ((ix.int ν).toNat*ts.length+j) default).toB) fun q h=>A.bool_of_den h) fun q hq=>zab ⟨trivial,fun ρ w r o hv=>?_⟩
  obtain ⟨v,h1,h2⟩:=hv.at hj hl
  rw [ht] at h2
  rw [h1]
  cases h2
  simp [Lf.conc,hq]
 | vec us=>exact zac
theorem zed {ts:List LT} {a ix:A} (hl:((ix.int ν).toNat+1)*ts.length≤(a.cells ν).length):∀ (n j:Nat),j+n≤ts.length →
  M.sat F ν (zeK ts a ix j n) (fun xs=>xs.length=n∧(∀ x∈xs,Lf.good ν x)∧∀ i x,xs[i]? = some x→∀ (ρ:Nat→Loc) (w:World) (r:Loc) o,VRel E w r o ts (a.cells ν) →
   w.cell? ⟨r.blk,r.off+(j+i+(ix.int ν).toNat*ts.length),none⟩=some (x.conc ν ρ))
 | 0,j,_=>zab ⟨rfl,fun x hx=>(by cases hx),fun i x h=>(by simp at h)⟩
 | n+1,j,hj=>by
  unfold zeK
  refine zaa (zf6 (E:=E) (show j<ts.length by omega) hl) fun x hx=>zaa (zed hl n (j+1) (by omega)) fun r hr=>zab ⟨by simp [hr.1],fun y hy=>?_,fun i y hi=>?_⟩
  ·rcases List.mem_cons.1 hy with rfl | hy
   ·exact hx.1
   ·exact hr.2.1 y hy
  ·cases i with
   | zero=>simp at hi;subst hi;exact hx.2
   | succ i =>
    have:=hr.2.2 i y (by simpa using hi)
    rwa [show j+1+i=j+(i+1) from by omega] at this
theorem zpb {ts:List LT} {base size:Nat} {t:LT} (h:zsz ts base size=some t):t.flat=true∧∀ i,i<size→ts.getD (base+i) .bool=t:=by
 unfold zsz at h
 split at h
 ·rename_i u l hl
  split at h
  ·rename_i hc
   cases h
   simp only [Bool.and_eq_true] at hc
   obtain ⟨⟨⟨_,c2⟩,c3⟩,c4⟩:=hc
   have c2:=Nat.eq_of_beq_eq_true c2
   refine ⟨c3,fun i hi=>?_⟩
   have e:ts[base+i]? = (t::l)[i]?:=by rw [←hl,List.getElem?_take_of_lt hi,List.getElem?_drop]
   rw [List.getD_eq_getElem?_getD,e]
   cases i with
   | zero=>rfl
   | succ i =>
    rw [List.getElem?_cons_succ,List.getElem?_eq_getElem (by omega)]
    exact (LT.feq_eq (List.all_eq_true.1 c4 _ (List.getElem_mem _))).symm
  ·cases h
 ·cases h
theorem zqI (t:LT) (a:A):∀ (n i:Nat),(allE t a i n).length=n
 | 0,_=>rfl
 | n+1,i=>by simp [allE,zqI t a n]
theorem zqJ {t:LT} {a:A} : ∀ {n i j:Nat} {x:Lf},(allE t a i n)[j]? = some x→j<n∧x = .e t a (i+j)
 | 0,i,j,x,h=>by simp [allE] at h
 | n+1,i,0,x,h=>by simp [allE] at h;exact ⟨by omega,h.symm⟩
 | n+1,i,j+1,x,h=>by
  simp only [allE,List.getElem?_cons_succ] at h
  obtain ⟨h1,h2⟩:=zqJ h
  exact ⟨by omega,by rw [h2];congr 1;omega⟩
theorem znI {t:LT} {a:A} {x:Lf} : ∀ {n i:Nat},x∈allE t a i n→x.good ν
 | 0,_,h=>by cases h
 | n+1,i,h=>by
  rcases List.mem_cons.1 h with rfl | h
  ·trivial
  ·exact znI h
theorem zf7 {t:TypeId} {k:TK} {sz:Nat} {ts:List LT} {a:A} {off:Off} (hk:tk P t=some k) (hs:zaO P t=some sz) (hg:off.good ν) :
  M.sat F ν (zfZ ts a off (zb3 k) sz) (fun v=>v.good ν∧∀ (ρ:Nat→Loc) (w:World) (r:Loc) o,VRel E w r o ts (a.cells ν)→(loadVar t ⟨r.blk,r.off+off.val ν,none⟩).run P w = .ok (v.conc ν ρ) w):=by
 unfold zfZ
 split
 ·rename_i base ix sz' a0
  refine zae (fun hc=>?_) (fun _=>zac)
  simp only [Bool.and_eq_true] at hc
  have h1:=Nat.eq_of_beq_eq_true hc.1
  have h2:=Nat.le_of_ble_eq_true hc.2
  subst h1
  refine zaa (zec hg.1 hg.2) fun _ hl=>?_
  refine zae (fun ha=>?_) (fun ha=>?_)
  ·split
   ·rename_i u hgr
    have hgs:=zpb hgr
    refine zaa (zaf (Q:=fun q=>q.cells ν=(List.range sz).map fun k=>(a.cells ν).getD ((ix.int ν).toNat*ts.length+base+k) default) fun q h=>A.cells_of_den h) fun q hq=>zab ⟨V1.good_agg.2 fun x hx=>znI hx,fun ρ w r o hv=>?_⟩
    refine zbC hk ha hs (by simp [zqI]) fun i v hi=>?_
    rw [List.getElem?_map] at hi
    obtain ⟨l,hl',rfl⟩:=Option.map_eq_some_iff.1 hi
    obtain ⟨hi2,rfl⟩:=zqJ hl'
    obtain ⟨v,g1,g2⟩:=hv.at (i:=(ix.int ν).toNat) (j:=base+i) (by omega) hl
    rw [hgs.2 i hi2] at g2
    have e1:(⟨r.blk,r.off+(Off.v base ix ts.length a0).val ν+i,none⟩:Addr)=⟨r.blk,r.off+(base+i+(ix.int ν).toNat*ts.length),none⟩:=by
     simp only [Off.val];congr 1;omega
    rw [e1,g1]
    have e2:(q.cells ν).getD (0+i) default=(a.cells ν).getD ((ix.int ν).toNat*ts.length+(base+i)) default:=by
     rw [hq,List.getD_eq_getElem?_getD,List.getElem?_map,List.getElem?_range (by omega),Nat.zero_add]
     show (a.cells ν).getD ((ix.int ν).toNat*ts.length+base+i) default=_
     congr 1
     omega
    congr 1
    have hfl:=hgs.1
    cases u with
    | int kk=>cases g2;simp only [Lf.conc];rw [e2]
    | bool=>cases g2;simp only [Lf.conc];rw [e2]
    | vec us=>cases hfl
   ·refine zaa (zed (E:=E) hl sz base h2) fun xs hxs=>zab ⟨V1.good_agg.2 hxs.2.1,fun ρ w r o hv=>?_⟩
    refine zbC hk ha hs (by simpa using hxs.1) fun i v hi=>?_
    rw [List.getElem?_map] at hi
    obtain ⟨l,hl',rfl⟩:=Option.map_eq_some_iff.1 hi
    have:=hxs.2.2 i l hl' ρ w r o hv
    rw [←this]
    simp only [Off.val]
    congr 2
    omega
  ·refine zae (fun hb=>?_) (fun _=>zac)
   have hb:base<ts.length:=Nat.le_of_ble_eq_true hb
   refine zaa (zf6 (E:=E) hb hl) fun x hx=>zab ⟨V1.good_one.2 hx.1,fun ρ w r o hv=>?_⟩
   exact zbm hk ha (hx.2 ρ w r o hv)
 ·rename_i base ix sz' a0 ix2 sz2 len2
  refine zae (fun hc=>?_) (fun _=>zac)
  simp only [Bool.and_eq_true,Bool.not_eq_true'] at hc
  obtain ⟨⟨⟨ha,h1⟩,h2⟩,h3⟩:=hc
  have h1:=Nat.eq_of_beq_eq_true h1
  have h2:=Nat.le_of_ble_eq_true h2
  have h3:=Nat.eq_of_beq_eq_true h3
  subst h1 h3
  refine zaa (zec hg.1.1 hg.1.2) fun _ hl=>zaa (zed (E:=E) hl len2 base h2) fun xs hxs=>zaa (zcj hxs.1 hg.2.1 hg.2.2) fun x hx=>zab ⟨V1.good_one.2 hx.1,fun ρ w r o hv=>?_⟩
  obtain ⟨y,e1,e2⟩:=hx.2 ρ
  refine zbm hk (by rw [ha];decide) ?_
  have:=hxs.2.2 _ y e1 ρ w r o hv
  rw [V1.conc,e2,←this]
  simp only [Off.val]
  congr 2
  omega
 ·exact zac
theorem Lf.lt_mono {n m:Nat} (h:n≤m) {x:Lf} (hx:x.lt n=true):x.lt m=true:=by
 cases x<;>simp only [Lf.lt,decide_eq_true_eq] at hx ⊢<;>try omega
 ·exact List.all_eq_true.2 fun b hb=>by have:=List.all_eq_true.1 hx b hb;simp only [decide_eq_true_eq] at this ⊢;omega
 ·refine List.all_eq_true.2 fun b hb=>?_
  have:=List.all_eq_true.1 hx b hb
  obtain ⟨k,y⟩:=b
  cases y<;>simp only [Alt.lt,decide_eq_true_eq] at this ⊢<;>omega
theorem Blk.lt_mono {n m:Nat} (h:n≤m) {x:Blk} (hx:x.lt n=true):x.lt m=true:=by
 cases x with
 | obj=>rfl
 | v o ts a=>rfl
 | l o f ts a=>rfl
 | m o kt vt cs=>exact List.all_eq_true.2 fun y hy=>Lf.lt_mono h (List.all_eq_true.1 (show cs.all (Lf.lt n)=true from hx) y hy)
 | c o cs =>
  refine List.all_eq_true.2 fun y hy=>?_
  have:=List.all_eq_true.1 (show cs.all (zao (Lf.lt n))=true from hx) y hy
  cases y with
  | none=>rfl
  | some l=>exact Lf.lt_mono h this
theorem zsY {hp:List (Option Blk)} (h:hpLt hp=true) {bk:Blk} (hb:bk.lt (hp.length+1)=true):hpLt (hp++[some bk])=true:=by
 unfold hpLt at *
 rw [List.all_append,List.length_append]
 simp only [List.all_cons,List.all_nil,Bool.and_true,Bool.and_eq_true,List.length_cons,List.length_nil]
 refine ⟨List.all_eq_true.2 fun x hx=>?_,hb⟩
 have:=List.all_eq_true.1 h x hx
 cases x with
 | none=>rfl
 | some b=>exact Blk.lt_mono (by omega) this
theorem CRel.vec_inv {us:List LT} {d:DV} {v:Value} (h:CRel E (.vec us) d v):∃ (r:Loc) (vs:Nat→Value),v=r.slice∧(r.nil=true→r.len=0∧r.cap=0)∧(r.nil=false→r.blk<E.w0.heap.size∧¬ E.W r.blk∧E.V r.blk) ∧
  0<us.length∧d.toL.length=r.len*us.length∧r.len≤r.cap∧(∀ i,i<d.toL.length→E.w0.cell? ⟨r.blk,r.off+i,none⟩=some (vs i))∧∀ i,i<d.toL.length→CRel E (us.getD (i%us.length) .bool) (d.toL.getD i default) (vs i):=by
 cases h with
 | vec _ _ r vs hnil hlt hpos hlen hcap hv hc=>exact ⟨r,vs,rfl,hnil,hlt,hpos,hlen,hcap,hv,hc⟩
theorem zdx {ts:List LT} {a ix:A} (hl:((ix.int ν).toNat+1)*ts.length≤(a.cells ν).length):∀ (n j:Nat) (hp:List (Option Blk)),j+n≤ts.length →
  M.sat F ν (zdG ts a ix j n hp) (fun q=>∀ ρ w,HS E ν ρ hp w→hpLt hp=true→∀ (r:Loc) o,VRel E w r o ts (a.cells ν) →
   q.1.length=n∧(∀ x∈q.1,Lf.good ν x)∧∃ ρ':Nat→Loc,(∀ k,k<hp.length→ρ' k=ρ k)∧HS E ν ρ' q.2 w∧∀ i x,q.1[i]? = some x →
    w.cell? ⟨r.blk,r.off+(j+i+(ix.int ν).toNat*ts.length),none⟩=some (x.conc ν ρ'))
 | 0,j,hp,_=>zab fun ρ w h _ r o hv=>⟨rfl,fun x hx=>(by cases hx),ρ,fun _ _=>rfl,h,fun i x h=>(by simp at h)⟩
 | n+1,j,hp,hj=>by
  unfold zdG
  have hj2:j<ts.length:=by omega
  split
  ·rename_i us hus
   refine zae (fun hfl=>?_) (fun _=>zac)
   refine zaa (zaf (Q:=fun q=>q.cells ν=((a.cells ν).getD ((ix.int ν).toNat*ts.length+j) default).toL) fun q h=>A.cells_of_den h) fun q hq=>?_
   refine zaa (zdx hl n (j+1) (hp++[some (.v false us q)]) (by omega)) fun z hz=>zab fun ρ w h hlt r o hv=>?_
   obtain ⟨v,h1,h2⟩:=hv.at hj2 hl
   rw [hus] at h2
   generalize hd:(a.cells ν).getD ((ix.int ν).toNat*ts.length+j) default=d at *
   obtain ⟨r2,vs,rfl,hnil,hloc,hpos,hlen,hcap,hcv,hc⟩:=CRel.vec_inv h2
   have hbel:Below w.heap.size w w:=Below.refl _ _
   have hsame:r2.nil=false→∀ i,w.cell? ⟨r2.blk,r2.off+i,none⟩=E.w0.cell? ⟨r2.blk,r2.off+i,none⟩:=fun hn i=>by
    obtain ⟨k1,k2,_⟩:=hloc hn
    exact World.cell?_of_block (w:=E.w0) (h.fr.block _ k1 k2)
   have hrel:VRel E w r2 false us (q.cells ν):=by
    rw [hq]
    refine ⟨hnil,fun hn=>Nat.lt_of_lt_of_le (hloc hn).1 h.fr.size,hpos,hlen,hcap,fun i hi=>?_,fun e=>(by cases e),fun e=>by cases e⟩
    cases hn:r2.nil with
    | true =>
     have:=(hnil hn).1
     rw [hlen,this,Nat.zero_mul] at hi
     omega
    | false=>exact ⟨vs i,by rw [hsame hn i];exact hcv i hi,hc i hi⟩
   have hpush:=h.pushP hlt hbel (bk:=.v false us q) (r:=r2) hrel (fun k b' hk hn hn'=>⟨fun o=>(by cases o),fun ho hfo=>by
    obtain ⟨k1,k2,_⟩:=hloc hn
    rcases h.old k b' hk with g | g
    ·rw [hn'] at g;cases g
    ·rcases g.wr ho _ hfo with g | g
     ·omega
     ·exact k2 g⟩) (by
    cases hn:r2.nil with
    | true=>exact .inl rfl
    | false=>exact .inr (.inr (.inr ⟨rfl,(hloc hn).2.2⟩)))
   obtain ⟨z1,z2,ρ',z3,z4,z5⟩:=hz _ w hpush (zsY hlt rfl) r o hv
   rw [List.length_append,List.length_cons,List.length_nil] at z3
   refine ⟨by simp [z1],fun x hx=>?_,ρ',fun k hk=>by rw [z3 k (by omega),zbQ hk],z4,fun i x hi=>?_⟩
   ·rcases List.mem_cons.1 hx with rfl | hx
    ·trivial
    ·exact z2 x hx
   ·cases i with
    | zero =>
     simp only [List.getElem?_cons_zero,Option.some.injEq] at hi
     subst hi
     rw [Nat.add_zero,h1]
     simp only [Lf.conc,z3 hp.length (by omega),zbK]
    | succ i =>
     rw [List.getElem?_cons_succ] at hi
     have:=z5 i x hi
     rwa [show j+1+i=j+(i+1) from by omega] at this
  ·refine zaa (zf6 (E:=E) hj2 hl) fun x hx=>zaa (zdx hl n (j+1) hp (by omega)) fun z hz=>zab fun ρ w h hlt r o hv=>?_
   obtain ⟨z1,z2,ρ',z3,z4,z5⟩:=hz ρ w h hlt r o hv
   refine ⟨by simp [z1],fun y hy=>?_,ρ',z3,z4,fun i y hi=>?_⟩
   ·rcases List.mem_cons.1 hy with rfl | hy
    ·exact hx.1
    ·exact z2 y hy
   ·cases i with
    | zero =>
     simp only [List.getElem?_cons_zero,Option.some.injEq] at hi
     subst hi
     exact hx.2 ρ' w r o hv
    | succ i =>
     rw [List.getElem?_cons_succ] at hi
     have:=z5 i y hi
     rwa [show j+1+i=j+(i+1) from by omega] at this
theorem znJ {t:TypeId} {k:TK} {sz:Nat} {ts:List LT} {a:A} {off:Off} {hp:List (Option Blk)} (hk:tk P t=some k) (hs:zaO P t=some sz) (hg:off.good ν) :
  M.sat F ν (ziH ts a off (zb3 k) sz hp) (fun q=>∀ ρ w,HS E ν ρ hp w→hpLt hp=true→∀ (r:Loc) o,VRel E w r o ts (a.cells ν) →
   q.1.good ν∧∃ ρ':Nat→Loc,(∀ k,k<hp.length→ρ' k=ρ k)∧HS E ν ρ' q.2 w∧(loadVar t ⟨r.blk,r.off+off.val ν,none⟩).run P w = .ok (q.1.conc ν ρ') w):=by
 unfold ziH
 split
 ·rename_i base ix sz' a0
  refine zae (fun hc=>?_) (fun _=>zac)
  simp only [Bool.and_eq_true] at hc
  have h1:=Nat.eq_of_beq_eq_true hc.1.1
  have h2:=Nat.le_of_ble_eq_true hc.1.2
  subst h1
  refine zaa (zec hg.1 hg.2) fun _ hl=>zaa (zdx (E:=E) hl sz base hp h2) fun z hz=>?_
  refine zae (fun ha=>?_) (fun ha=>?_)
  ·refine zab fun ρ w h hlt r o hv=>?_
   obtain ⟨z1,z2,ρ',z3,z4,z5⟩:=hz ρ w h hlt r o hv
   refine ⟨V1.good_agg.2 z2,ρ',z3,z4,zbC hk ha hs (by simpa using z1) fun i v hi=>?_⟩
   rw [List.getElem?_map] at hi
   obtain ⟨l,hl',rfl⟩:=Option.map_eq_some_iff.1 hi
   have:=z5 i l hl'
   rw [←this]
   simp only [Off.val]
   congr 2
   omega
  ·split
   ·rename_i x hx
    refine zab fun ρ w h hlt r o hv=>?_
    obtain ⟨z1,z2,ρ',z3,z4,z5⟩:=hz ρ w h hlt r o hv
    rw [hx] at z2 z5
    refine ⟨V1.good_one.2 (z2 x (by simp)),ρ',z3,z4,zbm hk ha ?_⟩
    have:=z5 0 x rfl
    rw [Nat.add_zero] at this
    exact this
   ·exact zac
 ·refine zaa (zf7 (E:=E) hk hs hg) fun v hv=>zab fun ρ w h hlt r o hr=>?_
  exact ⟨hv.1,ρ,fun _ _=>rfl,h,hv.2 ρ w r o hr⟩
 ·exact zac
def zmv:List DV→Nat→List DV→List DV
 | l,_,[]=>l
 | l,p,v::vs=>zmv (l.set p v) (p+1) vs
theorem znK:∀ (vs l:List DV) (p:Nat),(zmv l p vs).length=l.length
 | [],_,_=>rfl
 | v::vs,l,p=>by rw [zmv,znK vs];simp
theorem zjD:∀ (vs l:List DV) (p i:Nat),(i<p∨p+vs.length≤i)→(zmv l p vs)[i]? = l[i]?
 | [],_,_,_,_=>rfl
 | v::vs,l,p,i,h=>by
  simp only [List.length_cons] at h
  rw [zmv,zjD vs _ _ i (by omega),List.getElem?_set_ne (by omega)]
theorem zqK:∀ (vs l:List DV) (p k:Nat),k<vs.length→p+k<l.length→(zmv l p vs)[p+k]? = vs[k]?
 | [],_,_,_,h,_=>by simp at h
 | v::vs,l,p,0,_,h2=>by
  simp only [zmv,Nat.add_zero] at h2 ⊢
  rw [zjD vs _ _ p (by omega),List.getElem?_set_self (by simpa using h2)]
  rfl
 | v::vs,l,p,k+1,h1,h2=>by
  rw [zmv,show p+(k+1)=p+1+k from by omega,zqK vs _ (p+1) k (by simpa using h1) (by simp;omega)]
  rfl
theorem zf8 {t:LT} {x:Lf} {a:A} (h:zlj t x=some a):x.good ν∧x.ok=true∧∀ ρ,CRel E t (nrm (zno t) (a.den ν)) (x.conc ν ρ):=by
 unfold zlj at h
 split at h
 ·split at h
  ·rename_i hk
   have:=zcf hk;subst this
   cases h
   exact ⟨trivial,rfl,fun ρ=>.int _ (.i _)⟩
  ·cases h
 ·cases h
  exact ⟨trivial,rfl,fun ρ=>.bool (.b _)⟩
 ·cases h
theorem zgP {ts:List LT} {ix:A} : ∀ (xs:List Lf) (j:Nat) (a:A),
  M.sat F ν (zgy ts ix j a xs) (fun a'=>∃ vs:List DV,vs.length=xs.length∧a'.cells ν=zmv (a.cells ν) ((ix.int ν).toNat*ts.length+j) vs∧(∀ x∈xs,x.good ν∧x.ok=true) ∧
   ∀ i x v,xs[i]? = some x→vs[i]? = some v→∀ ρ,CRel E (ts.getD (j+i) .bool) v (x.conc ν ρ))
 | [],j,a=>zab ⟨[],rfl,rfl,fun x hx=>(by cases hx),fun i x v h=>(by simp at h)⟩
 | x::xs,j,a=>by
  unfold zgy
  refine zaa (zad (Q:=fun v=>zlj (ts.getD j .bool) x=some v) fun a h=>h) fun v hv=>?_
  refine zaa (zaf (Q:=fun q=>q.cells ν=(a.cells ν).set ((ix.int ν).toNat*ts.length+j) (nrm (zno (ts.getD j .bool)) (v.den ν))) fun q h=>A.cells_of_den h) fun q hq=>?_
  refine zag (zgP xs (j+1) q) fun a' ⟨vs,h1,h2,h3,h4⟩=>⟨nrm (zno (ts.getD j .bool)) (v.den ν)::vs,by simp [h1],?_,?_,?_⟩
  ·rw [h2,hq]
   rfl
  ·intro y hy
   rcases List.mem_cons.1 hy with rfl | hy
   ·have:=zf8 (E:=E) (ν:=ν) hv
    exact ⟨this.1,this.2.1⟩
   ·exact h3 y hy
  ·intro i y u hi hu ρ
   cases i with
   | zero=>simp at hi hu;subst hi;subst hu;exact (zf8 hv).2.2 ρ
   | succ i =>
    have:=h4 i y u (by simpa using hi) (by simpa using hu) ρ
    rwa [show j+1+i=j+(i+1) from by omega] at this
theorem znL {ts:List LT} {a:A} {off:Off} {xs:List Lf} (hg:off.good ν) (hne:xs≠[]) :
  M.sat F ν (zmh ts a off xs) (fun a'=>∀ (ρ:Nat→Loc) (w:World) (r:Loc),VRel E w r true ts (a.cells ν)→r.nil=false∧(∀ x∈xs,x.ok=true) ∧
   (storeCells ⟨r.blk,r.off+off.val ν,none⟩ (xs.map (Lf.conc ν ρ))).run P w = .ok () (w.setCells r.blk (r.off+off.val ν) (xs.map (Lf.conc ν ρ))) ∧
   VRel E (w.setCells r.blk (r.off+off.val ν) (xs.map (Lf.conc ν ρ))) r true ts (a'.cells ν)):=by
 unfold zmh
 split
 ·rename_i base ix sz' a0
  refine zae (fun hc=>?_) (fun _=>zac)
  simp only [Bool.and_eq_true] at hc
  have h1:=Nat.eq_of_beq_eq_true hc.1
  have h2:=Nat.le_of_ble_eq_true hc.2
  subst h1
  refine zaa (zec hg.1 hg.2) fun _ hl=>?_
  refine zag (zgP (E:=E) xs base a) fun a' ⟨vs,k1,k2,k3,k4⟩ ρ w r hv=>?_
  have hpos:0<xs.length:=by cases xs with | nil=>exact absurd rfl hne | cons x xs=>simp
  have hcap:((ix.int ν).toNat+1)*ts.length≤r.cap*ts.length:=by
   have:=hv.len
   have h3:r.len*ts.length≤r.cap*ts.length:=Nat.mul_le_mul_right _ hv.cap
   omega
  have hnil:r.nil=false:=by
   cases hx:r.nil with
   | false=>rfl
   | true =>
    have:=(hv.nil hx).2
    rw [this,Nat.zero_mul] at hcap
    have:=hv.pos
    rw [Nat.add_mul] at hcap
    omega
  rw [Nat.add_mul,Nat.one_mul] at hl hcap
  rw [Nat.add_comm] at k2
  have hmod:∀ k,k<xs.length→(base+(ix.int ν).toNat*ts.length+k)%ts.length=base+k:=fun k hk=>by
   rw [show base+(ix.int ν).toNat*ts.length+k=ts.length*(ix.int ν).toNat+(base+k) from by rw [Nat.mul_comm];omega,Nat.mul_add_mod,Nat.mod_eq_of_lt (by omega)]
  have hroom:base+(ix.int ν).toNat*ts.length+xs.length≤(a.cells ν).length:=by omega
  have hroom2:base+(ix.int ν).toNat*ts.length+xs.length≤r.cap*ts.length:=by omega
  simp only [Off.val]
  generalize base+(ix.int ν).toNat*ts.length=p at *
  have hex:∀ k,k<xs.length→(w.cell? ⟨r.blk,r.off+p+k,none⟩).isSome=true∧w.frozen? ⟨r.blk,r.off+p+k,none⟩=false:=fun k hk=>by
   have:=hv.own rfl hnil (p+k) (by omega)
   rwa [←Nat.add_assoc] at this
  refine ⟨hnil,fun x hx=>(k3 x hx).2,?_,?_⟩
  ·have:=run_storeCells_cells (P:=P) r.blk (r.off+p) (xs.map (Lf.conc ν ρ)) 0 w (by simpa using fun k hk=>(hex k hk).1) (by simpa using fun k hk=>(hex k hk).2)
    (fun v hv=>by obtain ⟨l,hl,rfl⟩:=List.mem_map.1 hv;exact Lf.ok_conc (k3 l hl).2 ρ)
   simpa using this
  ·have hlen:(a'.cells ν).length=(a.cells ν).length:=by rw [k2,znK]
   refine ⟨hv.nil,fun e=>by rw [zbr];exact hv.lt e,hv.pos,by rw [hlen];exact hv.len,hv.cap,fun i hi=>?_,fun _ e i hi=>?_,fun ho e=>⟨(hv.fz ho e).1,fun o=>by rw [World.frozen?_setCells];exact (hv.fz ho e).2 o⟩⟩
   ·rw [hlen] at hi
    by_cases hin:p≤i∧i<p+xs.length
    ·obtain ⟨k,hk⟩:∃ k,i=p+k:=⟨i-p,by omega⟩
     have hkl:k<xs.length:=by omega
     have e1:=World.cell?_setCells_in r.blk (xs.map (Lf.conc ν ρ)) (r.off+p) w (by simpa using fun k hk=>(hex k hk).1) k (by simpa using hkl)
     refine ⟨(xs[k]).conc ν ρ,?_,?_⟩
     ·rw [hk,←Nat.add_assoc,e1]
      simp
     ·have e2:=zqK vs (a.cells ν) p k (by omega) (by omega)
      have hkv:k<vs.length:=by omega
      have e3:(a'.cells ν).getD i default=vs[k]:=by
       subst hk
       rw [List.getD_eq_getElem?_getD,k2,e2,List.getElem?_eq_getElem hkv]
       rfl
      have e4:=k4 k xs[k] vs[k] (List.getElem?_eq_getElem hkl) (List.getElem?_eq_getElem hkv) ρ
      rw [e3,hk,hmod k hkl]
      exact e4
    ·obtain ⟨v,g1,g2⟩:=hv.cell i hi
     refine ⟨v,?_,?_⟩
     ·rw [World.cell?_setCells_out _ _ _ _ _ (fun _ _=>by simp;omega)]
      exact g1
     ·have:(a'.cells ν).getD i default=(a.cells ν).getD i default:=by
       rw [List.getD_eq_getElem?_getD,List.getD_eq_getElem?_getD,k2,zjD vs _ _ i (by omega)]
      rw [this]
      exact g2
   ·rw [World.frozen?_setCells]
    have:=hv.own rfl e i hi
    refine ⟨?_,this.2⟩
    by_cases hi2:p≤i∧i<p+xs.length
    ·obtain ⟨k,hk⟩:∃ k,i=p+k:=⟨i-p,by omega⟩
     have hkl:k<xs.length:=by omega
     have e1:=World.cell?_setCells_in r.blk (xs.map (Lf.conc ν ρ)) (r.off+p) w (by simpa using fun k hk=>(hex k hk).1) k (by simpa using hkl)
     rw [hk,←Nat.add_assoc,e1]
     rfl
    ·rw [World.cell?_setCells_out _ _ _ _ _ (fun _ _=>by simp;omega)]
     exact this.1
 ·exact zac
def zbc (E:Env) (ν:Nat→DV) (ρ:Nat→Loc) (hp:List (Option Blk)) (v:Value) (w':World):OR→Prop
 | .hp (some u) hp'=>u.good ν∧∃ ρ':Nat→Loc,(∀ j,j<hp.length→ρ' j=ρ j)∧HS E ν ρ' hp' w'∧v=u.conc ν ρ'
 | _=>False
theorem zbc.run {ρ:Nat→Loc} {hp:List (Option Blk)} {x:Sem Next} {y:Sem Value} {z:OR} (hx:∀ w v w',y.run P w = .ok v w'→x.run P w = .ok (.value v) w')
  (h:∀ w,HS E ν ρ hp w→∃ v w',y.run P w = .ok v w'∧zbc E ν ρ hp v w' z):ORok P I E ν ρ hp x z:=by
 cases z with
 | val v=>intro w hw _;obtain ⟨_,_,_,h2⟩:=h w hw;exact h2.elim
 | hp v hp' =>
  intro w hw _
  obtain ⟨u,w',h1,h2⟩:=h w hw
  cases v with
  | none=>exact h2.elim
  | some v =>
   obtain ⟨g,ρ',h3,h4,h5⟩:=h2
   exact .inl ⟨u,w',hx w u w' h1,ρ',h3,h4,fun q hq=>by cases hq;exact ⟨g,by rw [h5]⟩⟩
theorem zbc.mk {ρ:Nat→Loc} {hp hp1:List (Option Blk)} {w':World} {v:Value} {bk:Blk} {r:Loc} (_hl:hp1.length=hp.length) (hv:v=r.slice) (h:HS E ν (ext ρ hp.length r) (hp1++[some bk]) w') :
  zbc E ν ρ hp v w' (.hp (some (.s (.one (.vec hp.length)))) (hp1++[some bk])) :=
 ⟨V1.good_one.2 trivial,ext ρ hp.length r,fun j hj=>zbQ hj,h,by rw [hv];simp [V.conc,V1.conc,Lf.conc,zbK]⟩
def ze0 (x:Option Value) (d n:Nat):Prop:=(x=none∧n=d)∨∃ k,x=some (.int k n)
theorem ze1 {b:Bool} {len cap l h:Nat} {lo hi:Option Value} (hlo:ze0 lo 0 l) (hhi:ze0 hi len h) (h1:l≤h) (h2:h≤cap) (h3:len≤cap) (w:World) :
  (Instr.sliceBounds b len cap lo hi none).run P w = .ok (l,h,cap) w:=by
 rcases hlo with ⟨rfl,rfl⟩ | ⟨k,rfl⟩<;>rcases hhi with ⟨rfl,rfl⟩ | ⟨k',rfl⟩<;>simp [Instr.sliceBounds,Instr.sliceBound,asIntOf,h1,h2,Int.ofNat_le]
theorem zgQ {t:TypeId} {e sz:Nat} (ht:P.underlying t=some (.slice e)) (hs:zaO P e=some sz) {r:Loc} {lo hi:Option Value} {l h:Nat} (hlo:ze0 lo 0 l) (hhi:ze0 hi r.len h) (h1:l≤h) (h2:h≤r.len) (h3:r.len≤r.cap) (w:World) :
  (Instr.sliceAt t r.slice lo hi none).run P w = .ok (Loc.slice ⟨r.blk,if r.cap=l then r.off else r.off+l*sz,r.nil,h-l,r.cap-l,if r.cap=l then r.raw else r.raw.map fun x:Addr=>x.add (l*sz)⟩) w:=by
 have hb:=ze1 (P:=P) (b:=true) (cap:=r.cap) hlo hhi h1 (by omega) h3 w
 simp only [Instr.sliceAt,Instr.slice,Loc.slice,Sem.run_bind,run_underlying ht,Result.andThen_ok,hb,za9 hs,Sem.run_pure]
 cases r.nil
 ·by_cases hc:r.cap=l<;>simp [hc,zbJ]
 ·simp
theorem zmw {t:TypeId} {n e sz:Nat} (ht:P.underlying t=some (.array n e)) (hs:zaO P e=some sz) {b o:Nat} {lo hi:Option Value} {l h:Nat} (hlo:ze0 lo 0 l) (hhi:ze0 hi n h) (h1:l≤h) (h2:h≤n) (w:World) :
  (Instr.sliceAt t (.pointer (some ⟨b,o,none⟩)) lo hi none).run P w = .ok (Loc.slice ⟨b,if n=l then o else o+l*sz,false,h-l,n-l,none⟩) w:=by
 have hb:=ze1 (P:=P) (b:=false) (cap:=n) hlo hhi h1 h2 (Nat.le_refl _) w
 simp only [Instr.sliceAt,Loc.slice,Sem.run_bind,run_underlying ht,Result.andThen_ok,hb,za9 hs,Sem.run_pure,Instr.sureAddr]
 by_cases hc:n=l<;>simp [hc,zbJ]
theorem VRel.cut {w:World} {r:Loc} {o:Bool} {ts:List LT} {xs:List DV} (hv:VRel E w r o ts xs) {l h:Nat} (h1:l≤h) (h2:h≤r.len) {x:Option Addr} :
  VRel E w ⟨r.blk,if r.cap=l then r.off else r.off+l*ts.length,r.nil,h-l,r.cap-l,x⟩ o ts ((xs.take (h*ts.length)).drop (l*ts.length)):=by
 have hle:h*ts.length≤xs.length:=by rw [hv.len];exact Nat.mul_le_mul_right _ h2
 have hlen:((xs.take (h*ts.length)).drop (l*ts.length)).length=(h-l)*ts.length:=by
  rw [List.length_drop,List.length_take,Nat.min_eq_left hle,Nat.sub_mul]
 have hcap:=hv.cap
 refine ⟨fun hn=>?_,hv.lt,hv.pos,hlen,by show h-l≤r.cap-l;omega,fun i hi=>?_,fun ho hn i hi=>?_,fun ho hn=>⟨Nat.le_trans (Nat.sub_le _ _) (hv.fz ho hn).1,(hv.fz ho hn).2⟩⟩
 ·have:=hv.nil hn
  exact ⟨by show h-l=0;omega,by show r.cap-l=0;omega⟩
 ·rw [hlen] at hi
  have hlh:l<h:=by
   rcases Nat.lt_or_ge l h with h | h
   ·exact h
   ·rw [Nat.sub_eq_zero_of_le h,Nat.zero_mul] at hi;omega
  rw [Nat.sub_mul] at hi
  obtain ⟨v,e1,e2⟩:=hv.cell (l*ts.length+i) (by omega)
  refine ⟨v,?_,?_⟩
  ·show w.cell? ⟨r.blk,(if r.cap=l then r.off else r.off+l*ts.length)+i,none⟩=some v
   rw [if_neg (by omega),←e1]
   congr 2
   omega
  ·have e3:((xs.take (h*ts.length)).drop (l*ts.length)).getD i default=xs.getD (l*ts.length+i) default:=by
    simp only [List.getD_eq_getElem?_getD]
    rw [List.getElem?_drop,List.getElem?_take_of_lt (by omega)]
   rw [e3]
   have e4:(l*ts.length+i)%ts.length=i%ts.length:=by rw [Nat.mul_comm l,Nat.mul_add_mod]
   rw [←e4]
   exact e2
 ·have hi:i<(r.cap-l)*ts.length:=hi
  have hlc:l<r.cap:=by
   rcases Nat.lt_or_ge l r.cap with h | h
   ·exact h
   ·rw [Nat.sub_eq_zero_of_le h,Nat.zero_mul] at hi;omega
  have hle2:l*ts.length≤r.cap*ts.length:=Nat.mul_le_mul_right _ (by omega)
  rw [Nat.sub_mul] at hi
  have:=hv.own ho hn (l*ts.length+i) (by omega)
  show (w.cell? ⟨r.blk,(if r.cap=l then r.off else r.off+l*ts.length)+i,none⟩).isSome=true∧w.frozen? ⟨r.blk,(if r.cap=l then r.off else r.off+l*ts.length)+i,none⟩=false
  rw [if_neg (by omega),Nat.add_assoc]
  exact this
theorem zf9 {sz:Nat} {a:A} {high:Option Lf} (hd:(a.cells ν).length%sz=0):M.sat F ν (ziY sz a high) (fun q=>∃ h:Nat,h≤(a.cells ν).length/sz∧q.2.int ν=h∧q.1.cells ν=(a.cells ν).take (h*sz) ∧
  ∀ ρ:Nat→Loc,ze0 (high.map (Lf.conc ν ρ)) ((a.cells ν).length/sz) h):=by
 unfold ziY
 split
 ·refine zaa (zaf (Q:=fun q=>q.int ν=((a.cells ν).length/sz:Nat)) fun q h=>A.int_of_den h) fun n hn=>zab ⟨_,Nat.le_refl _,hn,?_,fun ρ=>.inl ⟨rfl,rfl⟩⟩
  rw [Nat.div_mul_cancel (Nat.dvd_of_mod_eq_zero hd),List.take_length]
 ·rename_i k h
  refine zaa zbH fun _ h0=>?_
  refine zaa (zaf (Q:=fun q=>q.int ν=((a.cells ν).length/sz:Nat)) fun q h=>A.int_of_den h) fun n hn=>?_
  refine zaa zck fun _ h1=>?_
  refine zaa (zaf (Q:=fun q=>q.cells ν=(a.cells ν).take ((h.int ν).toNat*sz)) fun q h=>A.cells_of_den h) fun q hq=>zab ⟨(h.int ν).toNat,by omega,by show h.int ν=((h.int ν).toNat:Int);omega,hq,fun ρ=>.inr ⟨k,?_⟩⟩
  simp [Lf.conc,Int.toNat_of_nonneg h0]
 ·exact zac
theorem zhF {sz:Nat} {a n:A} {low:Option Lf} {h:Nat} (hn:n.int ν=h):M.sat F ν (znq sz a n low) (fun q=>∃ l:Nat,l≤h∧q.cells ν=(a.cells ν).drop (l*sz)∧∀ ρ:Nat→Loc,ze0 (low.map (Lf.conc ν ρ)) 0 l):=by
 unfold znq
 split
 ·exact zab ⟨0,Nat.zero_le _,by simp,fun ρ=>.inl ⟨rfl,rfl⟩⟩
 ·rename_i k l
  refine zaa zbH fun _ h0=>zaa zck fun _ h1=>?_
  refine zaf fun q hq=>⟨(l.int ν).toNat,by omega,A.cells_of_den hq,fun ρ=>.inr ⟨k,?_⟩⟩
  simp [Lf.conc,Int.toNat_of_nonneg h0]
 ·exact zac
theorem zcr {ts:List LT} : ∀ {cs:List (Option Lf)} {i:Nat} {r:List Ty×List A},zcC ts i cs=some r→r.1.length=cs.length∧r.2.length=cs.length ∧
  ∀ j,j<cs.length→∃ x,nth cs j=some x∧x.ok=true∧x.good ν∧∀ ρ,CRel E (ts.getD ((i+j)%ts.length) .bool) ((nrmZ r.1 (r.2.map (A.den ν))).getD j default) (x.conc ν ρ)
 | [],i,r,h=>by simp [zcC] at h;subst h;exact ⟨rfl,rfl,fun j hj=>by simp at hj⟩
 | c::cs,i,r,h=>by
  simp only [zcC] at h
  cases c with
  | none=>simp at h
  | some x =>
   simp only [Option.bind_some] at h
   cases hx:zlj (ts.getD (i%ts.length) .bool) x with
   | none=>simp only [hx] at h;cases h
   | some a =>
    simp only [hx] at h
    cases hr:zcC ts (i+1) cs with
    | none=>simp only [hr] at h;cases h
    | some r' =>
     simp only [hr,Option.some.injEq] at h
     subst h
     obtain ⟨h1,h2,h3⟩:=zcr hr
     refine ⟨by simp [h1],by simp [h2],fun j hj=>?_⟩
     cases j with
     | zero =>
      have:=zf8 (E:=E) (ν:=ν) hx
      exact ⟨x,rfl,this.2.1,this.1,fun ρ=>this.2.2 ρ⟩
     | succ j =>
      obtain ⟨y,k1,k2,k3,k4⟩:=h3 j (by simpa using hj)
      refine ⟨y,k1,k2,k3,fun ρ=>?_⟩
      have:=k4 ρ
      rw [show i+1+j=i+(j+1) from by omega] at this
      exact this
theorem zgR:∀ {ts:List Ty} {ds:List DV},ts.length=ds.length→(nrmZ ts ds).length=ds.length
 | [],[],_=>rfl
 | t::ts,d::ds,h=>by simp [nrmZ,zgR (show ts.length=ds.length by simpa using h)]
 | [],_::_,h=>by simp at h
 | _::_,[],h=>by simp at h
theorem zee:∀ {l:List Lf} {ts:List LT},zbz l=some ts→ts.length=l.length
 | [],ts,h=>by simp [zbz] at h;subst h;rfl
 | .i k a::l,ts,h=>by
  simp only [zbz] at h
  obtain ⟨r,hr,rfl⟩:=Option.map_eq_some_iff.1 h
  simp [zee hr]
 | .b a::l,ts,h=>by
  simp only [zbz] at h
  obtain ⟨r,hr,rfl⟩:=Option.map_eq_some_iff.1 h
  simp [zee hr]
 | .p _ _::_,_,h=>by simp [zbz] at h
 | .gp _ _::_,_,h=>by simp [zbz] at h
 | .nilp::_,_,h=>by simp [zbz] at h
 | .vec _::_,_,h=>by simp [zbz] at h
 | .fnp _ _::_,_,h=>by simp [zbz] at h
 | .v _::_,_,h=>by simp [zbz] at h
theorem CBlk.row {ρ:Nat→Loc} {w:World} {r:Loc} {o:Bool} {cs:List (Option Lf)} (h:CBlk ν ρ w r o cs) {ts:List LT} {q:List Ty×List A} (hq:zcC ts 0 cs=some q) {n:Nat} (hn:cs.length=n*ts.length) (hpos:0<ts.length) (hn63:n≤9223372036854775807) :
  VRel E w ⟨r.blk,r.off,false,n,n,none⟩ o ts (nrmZ q.1 (q.2.map (A.den ν))):=by
 obtain ⟨h1,h2,h3⟩:=zcr (E:=E) (ν:=ν) hq
 have hl:(nrmZ q.1 (q.2.map (A.den ν))).length=cs.length:=by rw [zgR (by simp [h1,h2]),List.length_map,h2]
 refine ⟨fun e=>(by cases e),fun _=>h.lt,hpos,by rw [hl,hn],Nat.le_refl _,fun i hi=>?_,fun ho _ i hi=>h.own ho i (by rw [hn];exact hi),fun ho _=>⟨hn63,fun o=>h.fz ho o⟩⟩
 rw [hl] at hi
 obtain ⟨x,k1,_,_,k4⟩:=h3 i hi
 rw [Nat.zero_add] at k4
 exact ⟨_,(h.cell i x k1).2,k4 ρ⟩
theorem zpc {hp:List (Option Blk)} {t:TypeId} {x:V} {low high:Option Lf} : M.sat F ν (zoO P hp t x low high) (fun z=>∀ ρ w,HS E ν ρ hp w →
  ∃ v w',(Instr.sliceAt t (x.conc ν ρ) (low.map (Lf.conc ν ρ)) (high.map (Lf.conc ν ρ)) none).run P w = .ok v w'∧zbc E ν ρ hp v w' z):=by
 unfold zoO
 refine zaa (zad (Q:=fun k=>tk P t=some k) fun a h=>h) fun k hk=>?_
 split
 ·rename_i elem b
  refine zaa (zad (Q:=fun k=>zaO P elem=some k) fun a h=>h) fun sz hs=>?_
  refine zaa (zad (Q:=fun r=>zk6 hp b=some r) fun a h=>h) fun r hr=>?_
  refine zae (fun hc=>?_) (fun _=>zac)
  simp only [Bool.and_eq_true] at hc
  have h1:=Nat.eq_of_beq_eq_true hc.1
  have hlt:=hc.2
  subst h1
  by_cases hd:(r.2.2.cells ν).length%r.2.1.length=0
  ·refine zaa (zf9 hd) fun q ⟨h,k1,k2,k3,k4⟩=>zaa (zhF k2) fun q2 ⟨l,m1,m2,m3⟩=>zab fun ρ w hw=>?_
   have hv:=zpa hr hw
   rw [hv.elems] at k1 k4
   have hrun:=zgQ (P:=P) (zba hk) hs (r:=ρ b) (m3 ρ) (k4 ρ) m1 k1 hv.cap w
   have hv2:=hv.cut m1 k1 (x:=if (ρ b).cap=l then (ρ b).raw else (ρ b).raw.map fun x:Addr=>x.add (l*r.2.1.length))
   rw [←k3,←m2] at hv2
   refine ⟨_,w,hrun,zbc.mk (by split<;>simp [zah]) rfl ?_⟩
   have hbk:=zhE hr
   cases ho:r.1 with
   | true =>
    rw [ho] at hv2 hbk
    simp only [if_true]
    have hk1:=(hw.kill b).pushP (w':=w) (bk:=.v true r.2.1 q2) (r:=⟨(ρ b).blk,if (ρ b).cap=l then (ρ b).off else (ρ b).off+l*r.2.1.length,(ρ b).nil,h-l,(ρ b).cap-l,if (ρ b).cap=l then (ρ b).raw else (ρ b).raw.map fun x:Addr=>x.add (l*r.2.1.length)⟩) (zdP hlt) (Below.refl _ w) hv2
     (fun j b' hj hn1 hn2=>⟨fun _=>hw.heap.apart b j _ b' hbk rfl (zaT hj).2 (Ne.symm (zaT hj).1) hn1 hn2 _ rfl,
      fun _ hfo=>hw.heap.apart b j _ b' hbk rfl (zaT hj).2 (Ne.symm (zaT hj).1) hn1 hn2 _ rfl ((hw.heap.blk j b' (zaT hj).2).rd hn2 hfo)⟩) (by
      rcases hw.oldP hbk with h | h | h | h
      ·exact .inl h
      ·exact .inr (.inl h)
      ·exact .inr (.inr (.inl h))
      ·cases h.1)
    rw [zah] at hk1
    exact hk1
   | false =>
    rw [ho] at hv2 hbk
    simp only [Bool.false_eq_true,if_false]
    refine hw.pushP (w':=w) (bk:=.v false r.2.1 q2) hlt (Below.refl _ w) hv2 (fun j b' hj hn1 hn2=>⟨fun o=>(by cases o),fun hor hfo=>?_⟩) (by
     rcases hw.oldP hbk with h | h | h | h
     ·exact .inl h
     ·exact .inr (.inl h)
     ·exact .inr (.inr (.inl h))
     ·exact .inr (.inr (.inr ⟨rfl,h.2⟩)))
    by_cases hjb:j=b
    ·subst hjb
     rw [hbk] at hj
     cases hj
     cases hor
    ·exact hw.heap.apart j b b' _ hj hor hbk hjb hn2 hn1 _ hfo rfl
  ·refine zaa zat fun q _=>zaa zat fun q2 _=>zab fun ρ w hw=>?_
   have hv:=zpa hr hw
   exact absurd (by rw [hv.len];exact Nat.mul_mod_left _ _) hd
 ·rename_i n elem b
  refine zaa (zad (Q:=fun bk=>nth hp b=some bk) fun a h=>h) fun bk hbk=>?_
  split
  ·rename_i o cs
   refine zaa (zad (Q:=fun k=>zaO P elem=some k) fun a h=>h) fun sz hs=>?_
   refine zaa zat fun z _=>?_
   refine zaa zat fun ts _=>?_
   refine zaa (zad (Q:=fun r=>zcC ts 0 cs=some r) fun a h=>h) fun r hr=>?_
   refine zae (fun hc=>?_) (fun _=>zac)
   simp only [Bool.and_eq_true] at hc
   obtain ⟨⟨⟨⟨c1,c2⟩,c3⟩,c4⟩,hlt⟩:=hc
   have c4:=Nat.le_of_ble_eq_true c4
   have c1:=Nat.eq_of_beq_eq_true c1
   have c2:0<sz:=Nat.le_of_ble_eq_true c2
   have c3:=Nat.eq_of_beq_eq_true c3
   subst c1
   refine zaa (zaf (Q:=fun q=>q.cells ν=nrmZ r.1 (r.2.map (A.den ν))) fun q h=>A.cells_of_den h) fun q0 hq0=>?_
   have hlen:(q0.cells ν).length=n*ts.length:=by
    obtain ⟨l1,l2,_⟩:=zcr (E:=E) (ν:=ν) hr
    rw [hq0,zgR (by simp [l1,l2]),List.length_map,l2,c3]
   refine zaa (zf9 (by rw [hlen];exact Nat.mul_mod_left _ _)) fun q ⟨h,k1,k2,k3,k4⟩=>zaa (zhF k2) fun q2 ⟨l,m1,m2,m3⟩=>zab fun ρ w hw=>?_
   rw [hlen,Nat.mul_div_cancel _ c2] at k1 k4
   have hb0:CBlk ν ρ w (ρ b) o cs:=hw.heap.blk b _ hbk
   have hv:=hb0.row (E:=E) hr c3 c2 (by omega)
   rw [←hq0] at hv
   have hrun:=zmw (P:=P) (zlo hk) hs (b:=(ρ b).blk) (o:=(ρ b).off) (m3 ρ) (k4 ρ) m1 k1 w
   have hv2:=hv.cut m1 k1 (x:=none)
   rw [←k3,←m2] at hv2
   refine ⟨_,w,by simpa [V.conc,V1.conc,Lf.conc,Off.val] using hrun,zbc.mk (zah _ _ _) rfl ?_⟩
   have hk1:=(hw.kill b).pushP (w':=w) (bk:=.v o ts q2) (r:=⟨(ρ b).blk,if n=l then (ρ b).off else (ρ b).off+l*ts.length,false,h-l,n-l,none⟩) (zdP hlt) (Below.refl _ w) hv2
     (fun j b' hj hn1 hn2=>by
      obtain ⟨hjb,hj⟩:=zaT hj
      exact ⟨fun hor hfo=>hw.heap.apart b j _ b' hbk hor hj (Ne.symm hjb) hb0.nil hn2 _ rfl hfo,fun hor hfo=>hw.heap.apart j b b' _ hj hor hbk hjb hn2 hb0.nil _ hfo rfl⟩) (by
      rcases hw.oldP hbk with h | h | h | h
      ·rw [hb0.nil] at h;cases h
      ·exact .inr (.inl h)
      ·exact .inr (.inr (.inl h))
      ·exact .inr (.inr (.inr h)))
   rw [zah] at hk1
   exact hk1
  ·exact zac
 ·exact zac
def zaW (w:World) (r:Loc) (n:Nat):List Value:=(List.range n).map fun i=>(w.cell? ⟨r.blk,r.off+i,none⟩).getD undef
theorem zaR (w:World) (r:Loc) (n:Nat):(zaW w r n).length=n:=by simp [zaW]
theorem CRel.one {t:LT} {d:DV} {v:Value} (h:CRel E t d v):v.oneCell'=true:=by cases h<;>rfl
theorem VRel.vals {w:World} {r:Loc} {o:Bool} {ts:List LT} {xs:List DV} (h:VRel E w r o ts xs):(∀ (j:Nat) (v:Value),(zaW w r xs.length)[j]? = some v→w.cell? ⟨r.blk,r.off+j,none⟩=some v∧CRel E (ts.getD (j%ts.length) .bool) (xs.getD j default) v) ∧
  (∀ v∈zaW w r xs.length,v.oneCell'=true):=by
 have key:∀ (j:Nat) (v:Value),(zaW w r xs.length)[j]? = some v→w.cell? ⟨r.blk,r.off+j,none⟩=some v∧CRel E (ts.getD (j%ts.length) .bool) (xs.getD j default) v:=by
  intro j v hj
  have hl:j<xs.length:=by
   have:=(List.getElem?_eq_some_iff.1 hj).1
   rwa [zaR] at this
  obtain ⟨u,h1,h2⟩:=h.cell j hl
  unfold zaW at hj
  rw [List.getElem?_map,List.getElem?_range hl,Option.map_some,h1] at hj
  simp only [Option.getD_some,Option.some.injEq] at hj
  subst hj
  exact ⟨h1,h2⟩
 refine ⟨key,fun v hv=>?_⟩
 obtain ⟨j,hj,rfl⟩:=List.mem_iff_getElem.1 hv
 exact (key j _ (List.getElem?_eq_getElem hj)).2.one
theorem zga {t:TypeId} {n:Nat} (h:zfE P t=some n):∃ i,P.info? t=some i∧i.bytes=n:=by
 unfold zfE at h
 cases hi:P.info? t with
 | none=>simp [hi] at h
 | some i=>simp [hi] at h;exact ⟨i,rfl,h⟩
theorem zbh {t:TypeId} {z:List Lf} (h:zeroCells P t=some z):∃ i v,P.info? t=some i∧i.zero=some v∧(∀ x∈z,x.good ν)∧∀ ρ,v.cells.toList=z.map (Lf.conc ν ρ):=by
 unfold zeroCells at h
 split at h
 ·cases h
 ·rename_i i hi
  split at h
  ·cases h
  ·rename_i v hv
   have:=zd9 (ν:=ν) h
   exact ⟨i,v,hi,hv,this.1,fun ρ=>(this.2 ρ).symm⟩
theorem zhG {n by_:Nat} (h:n≤zeJ by_):n*by_≤140737488355328∧n≤9223372036854775807:=by
 unfold zeJ at h
 have h1:n*(by_+1)≤70368744177664:=(Nat.le_div_iff_mul_le (by omega)).1 h
 have h2:n*by_≤n*(by_+1):=Nat.mul_le_mul_left _ (by omega)
 have h3:n≤n*(by_+1):=Nat.le_mul_of_pos_right _ (by omega)
 exact ⟨by omega,by omega⟩
theorem zpd {tx ex:TypeId} {i:TypeInfo} {w:World} {rc:Loc} {o':Bool} {ts:List LT} {xc:List DV} (hkx:tk P tx=some (.slice ex)) (hvc:VRel E w rc o' ts xc) (hsr:i.size=ts.length):Src P i.size tx rc.slice rc.len (zaW w rc xc.length) w:=by
 have hv:=hvc.vals
 cases hnil:rc.nil with
 | true =>
  have h0:=hvc.nil hnil
  have:xc.length=0:=by rw [hvc.len,h0.1,Nat.zero_mul]
  rw [this]
  cases hraw:rc.raw with
  | none =>
   have:=Src.ofNil w (size:=i.size) (zba hkx) 0
   simpa [Loc.slice,hnil,h0,zaW,hraw] using this
  | some a =>
   have:=Src.ofSlice w (size:=i.size) (zba hkx) a 0 0 [] (by simp) (fun j v hj=>by simp at hj) (by simp)
   simpa [Loc.slice,hnil,h0,zaW,hraw] using this
 | false =>
  have:=Src.ofSlice w (size:=i.size) (zba hkx) ⟨rc.blk,rc.off,none⟩ rc.len rc.cap (zaW w rc xc.length) (by rw [zaR,hvc.len,hsr])
   (fun j v hj=>by rw [zbJ];exact (hv.1 j v hj).1) hv.2
  simpa [Loc.slice,hnil] using this
theorem znM {w:World} {rb rc:Loc} {o o':Bool} {ts:List LT} {xb xc:List DV} (hvb:VRel E w rb o ts xb) (hvc:VRel E w rc o' ts xc):∀ (w':World) (r':Loc),(∀ j,j<xb.length→w'.cell? ⟨r'.blk,r'.off+j,none⟩=w.cell? ⟨rb.blk,rb.off+j,none⟩) →
   (∀ j v,(zaW w rc xc.length)[j]? = some v→w'.cell? ⟨r'.blk,r'.off+(xb.length+j),none⟩=some v) →
   ∀ j,j<(xb++xc).length→∃ v,w'.cell? ⟨r'.blk,r'.off+j,none⟩=some v∧CRel E (ts.getD (j%ts.length) .bool) ((xb++xc).getD j default) v:=by
 intro w' r' h1 h2 j hj
 rw [List.length_append] at hj
 rcases Nat.lt_or_ge j xb.length with hj1 | hj1
 ·obtain ⟨v,g1,g2⟩:=hvb.cell j hj1
  refine ⟨v,by rw [h1 j hj1];exact g1,?_⟩
  have e0:(xb++xc).getD j default=xb.getD j default:=by
   simp only [List.getD_eq_getElem?_getD]
   rw [List.getElem?_append_left hj1]
  rw [e0]
  exact g2
 ·obtain ⟨k,rfl⟩:∃ k,j=xb.length+k:=⟨j-xb.length,by omega⟩
  have hk:k<(zaW w rc xc.length).length:=by rw [zaR];omega
  have g:=hvc.vals.1 k _ (List.getElem?_eq_getElem hk)
  refine ⟨_,h2 k _ (List.getElem?_eq_getElem hk),?_⟩
  have e1:(xb.length+k)%ts.length=k%ts.length:=by rw [hvb.len,Nat.mul_comm,Nat.mul_add_mod]
  have e0:(xb++xc).getD (xb.length+k) default=xc.getD k default:=by
   simp only [List.getD_eq_getElem?_getD]
   rw [List.getElem?_append_right (by omega),Nat.add_sub_cancel_left]
  rw [e1,e0]
  exact g.2
theorem zjE {t tx ty elem ex:TypeId} {w:World} {rb rc:Loc} {o o':Bool} {ts:List LT} {xb xc:List DV} {z:List Lf} {sz by_:Nat} (hk:tk P t=some (.slice elem)) (hkx:tk P tx=some (.slice ex)) (hz:zeroCells P elem=some z) (hs:zaO P elem=some sz)
  (hby:zfE P elem=some by_) (c4:sz=ts.length) (c5:sz=z.length) (hvb:VRel E w rb o ts xb) (hvc:VRel E w rc o' ts xc) (hnn:rb.len+rc.len≤zeJ by_) (hroom:rb.cap<rb.len+rc.len) :
  ∃ w' r',(Builtin.append_ #[t,tx] ty #[rb.slice,rc.slice]).run P w = .ok r'.slice w'∧r'.nil=false∧r'.blk=w.heap.size∧Below w.heap.size w w'∧VRel E w' r' true ts (xb++xc):=by
 obtain ⟨i,zv,hi,hzv,_,hzc⟩:=zbh (ν:=fun _=>default) hz
 obtain ⟨i1,hi1,hsz⟩:=zcO hs
 obtain ⟨i2,hi2,hbz⟩:=zga hby
 rw [hi] at hi1 hi2
 cases hi1
 cases hi2
 have hsr:i.size=ts.length:=by rw [hsz];exact c4
 have hpos:=hvb.pos
 have hqn:(xb++xc).length=(rb.len+rc.len)*ts.length:=by rw [List.length_append,hvb.len,hvc.len,Nat.add_mul]
 obtain ⟨hl1,hl2⟩:=zhG hnn
 rw [←hbz] at hl1
 have hsrc:=zpd hkx hvc hsr
 have hold:(Builtin.firstCells i.size rb.len (.slice (bif rb.nil then rb.raw else some ⟨rb.blk,rb.off,none⟩) rb.len rb.cap)).run P w.drew = .ok (zaW w rb xb.length).toArray w.drew:=by
  cases hnil:rb.nil with
  | true =>
   have h0:=hvb.nil hnil
   have:xb.length=0:=by rw [hvb.len,h0.1,Nat.zero_mul]
   rw [this]
   cases hraw:rb.raw with
   | none=>exact run_firstCells_none w.drew _ _ _ _
   | some a =>
    rw [h0.1]
    exact run_firstCells_some w.drew i.size 0 a _ _ _ (by simp [zaW]) (fun j v hj=>by simp [zaW] at hj)
  | false =>
   exact run_firstCells_some w.drew i.size _ ⟨rb.blk,rb.off,none⟩ _ _ _ (by rw [zaR,hvb.len,hsr]) (fun j v hj=>by
    rw [zbJ]
    simpa using (hvb.vals.1 j v hj).1)
 have hrun:=run_append_grow_src (P:=P) w t tx ty elem i zv (zba hk) hi hzv _ _ _ _ hold rc.slice _ _ hsrc hroom (by omega) (growslice_fits hroom (by omega))
 have hge:=grownCap_ge w (rb.len+rc.len) rb.cap elem
 have hgm:=grownCap_le_maxLen w (rb.len+rc.len) rb.cap elem (by unfold maxLen;omega)
 unfold maxLen at hgm
 generalize hcp:grownCap w (rb.len+rc.len) rb.cap elem=cp at *
 generalize hob:(.cells ((zaW w rb xb.length++zaW w rc xc.length).toArray++Builtin.zeroCells zv.cells (cp-(rb.len+rc.len))) elem:Obj)=ob
 have hbel:Below w.heap.size w (w.drew.alloc ob):=⟨rfl,rfl,rfl,by simp,fun k hk=>Below.heap_alloc w.drew _ _ hk⟩
 have hnew:∀ j,(w.drew.alloc ob).cell? ⟨w.heap.size,j,none⟩=((zaW w rb xb.length++zaW w rc xc.length).toArray++Builtin.zeroCells zv.cells (cp-(rb.len+rc.len)))[j]?:=fun j=>by
  rw [←hob]
  exact World.cell?_alloc_new w.drew _ _ j
 have hfrz:∀ j,(w.drew.alloc ob).frozen? ⟨w.heap.size,j,none⟩=false:=fun j=>by
  rw [←hob]
  exact World.frozen?_alloc_new w.drew _ _ j
 refine ⟨w.drew.alloc ob,⟨w.heap.size,0,false,rb.len+rc.len,cp,none⟩,by rw [hob] at hrun;exact hrun,rfl,rfl,hbel,⟨fun e=>(by cases e),fun _=>by simp,hpos,hqn,hge,fun j hj=>?_,fun _ _ j hj=>?_,fun _ _=>⟨hgm,fun o=>hfrz o⟩⟩⟩
 ·refine znM hvb hvc (w.drew.alloc ob) ⟨w.heap.size,0,false,rb.len+rc.len,cp,none⟩ (fun j hj=>?_) (fun j v hj=>?_) j hj
  ·simp only [Nat.zero_add]
   rw [hnew,Array.getElem?_append_left (by simp [zaR];omega)]
   obtain ⟨v,g1,_⟩:=hvb.cell j hj
   rw [g1,List.getElem?_toArray,List.getElem?_append_left (by rw [zaR];exact hj)]
   unfold zaW
   rw [List.getElem?_map,List.getElem?_range hj,Option.map_some,g1]
   rfl
  ·have hjl:=(List.getElem?_eq_some_iff.1 hj).1
   simp only [Nat.zero_add]
   rw [hnew,Array.getElem?_append_left (by simp [zaR] at hjl ⊢;omega),List.getElem?_toArray,List.getElem?_append_right (by rw [zaR];omega),zaR,Nat.add_sub_cancel_left]
   exact hj
 ·simp only [Nat.zero_add]
  refine ⟨?_,hfrz j⟩
  rw [hnew]
  have hsz2:((zaW w rb xb.length++zaW w rc xc.length).toArray++Builtin.zeroCells zv.cells (cp-(rb.len+rc.len))).size=cp*ts.length:=by
   have hzs:zv.cells.size=ts.length:=by
    rw [←Array.length_toList,hzc (fun _=>default),List.length_map,←c5,c4]
   rw [Array.size_append,size_zeroCells,hzs,List.size_toArray,List.length_append,zaR,zaR,hvb.len,hvc.len,←Nat.add_mul,←Nat.add_mul]
   congr 1
   omega
  have hj:j<cp*ts.length:=hj
  rw [Array.getElem?_eq_getElem (by rw [hsz2];exact hj)]
  rfl
theorem zjF {hp:List (Option Blk)} {t tx elem ex:TypeId} {b c:Nat} {r u:Bool×List LT×A} {z:List Lf} {sz by_:Nat} {q n:A} (hk:tk P t=some (.slice elem)) (hkx:tk P tx=some (.slice ex)) (hr:zk6 hp b=some r) (hu:zc7 hp c=some u)
  (hz:zeroCells P elem=some z) (hs:zaO P elem=some sz) (hby:zfE P elem=some by_) (c1:r.1=true) (c3:r.2.1=u.2.1) (c4:sz=r.2.1.length) (c5:sz=z.length) (hlt:hpLt hp=true)
  (hq:q.cells ν=r.2.2.cells ν++u.2.2.cells ν) (hn:n.int ν=((q.cells ν).length/sz:Nat)) (hle:n.int ν≤(A.z (zeJ by_)).int ν) (ρ:Nat→Loc) (w:World) (ty:TypeId) (hw:HS E ν ρ hp w) :
  ∃ v w',(Builtin.append_ #[t,tx] ty #[(ρ b).slice,(ρ c).slice]).run P w = .ok v w'∧zbc E ν ρ hp v w' (.hp (some (.s (.one (.vec hp.length)))) (zaw none hp b++[some (.v true r.2.1 q)])):=by
 obtain ⟨i,zv,hi,hzv,_,hzc⟩:=zbh (ν:=ν) hz
 obtain ⟨i1,hi1,hsz⟩:=zcO hs
 obtain ⟨i2,hi2,hbz⟩:=zga hby
 rw [hi] at hi1 hi2
 cases hi1
 cases hi2
 have hvb:=zpa hr hw
 have hvc:=zdQ hu hw
 rw [←c3] at hvc
 rw [c1] at hvb
 have hsr:i.size=r.2.1.length:=by rw [hsz];exact c4
 have hpos:=hvb.pos
 have hqn:(q.cells ν).length=((ρ b).len+(ρ c).len)*r.2.1.length:=by rw [hq,List.length_append,hvb.len,hvc.len,Nat.add_mul]
 have hnn:(ρ b).len+(ρ c).len≤zeJ by_:=by
  rw [hn,hqn,c4,Nat.mul_div_cancel _ hpos] at hle
  exact Int.ofNat_le.1 hle
 obtain ⟨hl1,hl2⟩:=zhG hnn
 rw [←hbz] at hl1
 have hsrc:=zpd hkx hvc hsr
 have hcells:∀ (w':World) (r':Loc),_:=znM hvb hvc
 rw [←hq] at hcells
 have hcl:(u.2.2.cells ν).length=(ρ c).len*r.2.1.length:=hvc.len
 rcases Nat.lt_or_ge (ρ b).cap ((ρ b).len+(ρ c).len) with hroom | hroom
 ·obtain ⟨w',r',hrun,g1,g2,g3,g4⟩:=zjE (ty:=ty) hk hkx hz hs hby c4 c5 hvb hvc hnn hroom
  refine ⟨_,w',hrun,zbc.mk (r:=r') (zah _ _ _) rfl ?_⟩
  rw [←hq] at g4
  have hk1:=(hw.kill b).fresh (w':=w') (bk:=.v true r.2.1 q) (r:=r') (zdP hlt) g3 g4 (.inr (by rw [g2];exact Nat.le_refl _))
  rw [zah] at hk1
  exact hk1
 ·-- there is room
  cases hnil:(ρ b).nil with
  | true =>
   have h0:=hvb.nil hnil
   have hc0:(ρ c).len=0:=by omega
   have hr0:(r.2.2.cells ν).length=0:=by rw [hvb.len,h0.1,Nat.zero_mul]
   have hq0:(q.cells ν).length=0:=by rw [hqn,h0.1,hc0];simp
   have hun:(u.2.2.cells ν).length=0:=by rw [hvc.len,hc0,Nat.zero_mul]
   have hrun:(Builtin.append_ #[t,tx] ty #[.slice (ρ b).raw 0 0,(ρ c).slice]).run P w = .ok (.slice (ρ b).raw 0 0) w:=by
    have hlen:=hsrc.len w
    have hcel:=hsrc.cells
    rw [hc0] at hlen hcel
    rw [hun] at hcel
    cases (ρ b).raw<;>simp [zaW,storeCells,Builtin.append_,run_underlying (zba hk),run_underlying (zba hkx),sizeOf,typeInfo,hi,hlen,hcel]
   refine ⟨.slice (ρ b).raw 0 0,w,by simpa [V.conc,V1.conc,Lf.conc,Loc.slice,hnil,h0] using hrun,zbc.mk (r:=⟨0,0,true,0,0,(ρ b).raw⟩) (zah _ _ _) rfl ?_⟩
   have hk1:=(hw.kill b).fresh (w':=w) (bk:=.v true r.2.1 q) (r:=⟨0,0,true,0,0,(ρ b).raw⟩) (zdP hlt) (Below.refl _ w)
    (⟨fun _=>⟨rfl,rfl⟩,fun e=>(by cases e),hpos,by rw [hq0];simp,Nat.le_refl _,fun j hj=>by omega,fun _ e=>(by cases e),fun _ e=>(by cases e)⟩:VRel E w ⟨0,0,true,0,0,(ρ b).raw⟩ true r.2.1 (q.cells ν)) (.inl rfl)
   rw [zah] at hk1
   exact hk1
  | false =>
   have hcb:((ρ b).len+(ρ c).len)*r.2.1.length≤(ρ b).cap*r.2.1.length:=Nat.mul_le_mul_right _ hroom
   rw [Nat.add_mul] at hcb
   have hlb:=hvb.len
   have hex:∀ j,j<(zaW w (ρ c) (u.2.2.cells ν).length).length→(w.cell? ⟨(ρ b).blk,(ρ b).off+(r.2.2.cells ν).length+j,none⟩).isSome=true∧w.frozen? ⟨(ρ b).blk,(ρ b).off+(r.2.2.cells ν).length+j,none⟩=false:=fun j hj=>by
    rw [zaR] at hj
    have:=hvb.own rfl hnil ((r.2.2.cells ν).length+j) (by omega)
    rwa [←Nat.add_assoc] at this
   have hrun:=run_append_room_src (P:=P) w t tx ty elem i (zba hk) hi (ρ b).blk (ρ b).off (ρ b).len (ρ b).cap (ρ c).slice _ _ hsrc hroom (by rw [hsr,←hlb];exact fun j hj=>(hex j hj).1) (by rw [hsr,←hlb];exact fun j hj=>(hex j hj).2)
   rw [hsr,←hlb] at hrun
   refine ⟨_,_,by simpa [V.conc,V1.conc,Lf.conc,Loc.slice,hnil] using hrun,zbc.mk (r:=⟨(ρ b).blk,(ρ b).off,false,(ρ b).len+(ρ c).len,(ρ b).cap,none⟩) (zah _ _ _) rfl ?_⟩
   generalize hvs:zaW w (ρ c) (u.2.2.cells ν).length=vs at *
   have hvl:vs.length=(u.2.2.cells ν).length:=by rw [←hvs,zaR]
   have hbk:=zhE hr
   rw [c1] at hbk
   have hkw:=hw.killw (w':=w.setCells (ρ b).blk ((ρ b).off+(r.2.2.cells ν).length) vs) hbk rfl hnil (zbr _ _ _ _) (zbg _ _ _ _).1 (zbg _ _ _ _).2.1 (zbg _ _ _ _).2.2 (fun k hk=>zbv _ _ _ _ k hk)
   have hk1:=hkw.pushP (w':=w.setCells (ρ b).blk ((ρ b).off+(r.2.2.cells ν).length) vs) (bk:=.v true r.2.1 q) (r:=⟨(ρ b).blk,(ρ b).off,false,(ρ b).len+(ρ c).len,(ρ b).cap,none⟩) (zdP hlt) (Below.refl _ _)
    (⟨fun e=>(by cases e),fun _=>by rw [zbr];exact hvb.lt hnil,hpos,hqn,hroom,fun j hj=>?_,fun _ _ j hj=>?_,fun _ _=>⟨(hvb.fz rfl hnil).1,fun o=>by rw [World.frozen?_setCells];exact (hvb.fz rfl hnil).2 o⟩⟩:VRel E _ ⟨(ρ b).blk,(ρ b).off,false,(ρ b).len+(ρ c).len,(ρ b).cap,none⟩ true r.2.1 (q.cells ν))
    (fun j b' hj hn1 hn2=>by
     have h0:=hw.heap.apart b j _ b' hbk rfl (zaT hj).2 (Ne.symm (zaT hj).1) hnil hn2
     exact ⟨fun _ hfo=>h0 _ rfl (((hw.heap.blk j b' (zaT hj).2).rfoot_eq hn2 (fun k hf=>zbv _ _ _ _ k fun e=>h0 k e hf) _).1 hfo),
      fun _ hfo=>h0 _ rfl ((hw.heap.blk j b' (zaT hj).2).rd hn2 (((hw.heap.blk j b' (zaT hj).2).foot_eq hn2 (fun k hf=>zbv _ _ _ _ k fun e=>h0 k e hf) _).1 hfo))⟩) (by
     rcases hw.oldP hbk with h | h | h | h
     ·rw [hnil] at h;cases h
     ·exact .inr (.inl h)
     ·exact .inr (.inr (.inl h))
     ·cases h.1)
   ·rw [zah] at hk1
    exact hk1
   ·refine hcells _ ⟨(ρ b).blk,(ρ b).off,false,(ρ b).len+(ρ c).len,(ρ b).cap,none⟩ (fun j hj=>?_) (fun j v hj=>?_) j hj
    ·exact World.cell?_setCells_out _ _ _ _ _ (fun _ _=>by simp;omega)
    ·have hjl:=(List.getElem?_eq_some_iff.1 hj).1
     have e1:=World.cell?_setCells_in (ρ b).blk vs ((ρ b).off+(r.2.2.cells ν).length) w (fun k hk=>(hex k hk).1) j hjl
     simp only
     rw [←Nat.add_assoc,e1,←hj,List.getElem?_eq_getElem hjl]
   ·have hj:j<(ρ b).cap*r.2.1.length:=hj
    rw [World.frozen?_setCells]
    have:=hvb.own rfl hnil j hj
    refine ⟨?_,this.2⟩
    by_cases hin:(r.2.2.cells ν).length≤j∧j<(r.2.2.cells ν).length+vs.length
    ·obtain ⟨k,rfl⟩:∃ k,j=(r.2.2.cells ν).length+k:=⟨j-(r.2.2.cells ν).length,by omega⟩
     have e1:=World.cell?_setCells_in (ρ b).blk vs ((ρ b).off+(r.2.2.cells ν).length) w (fun k hk=>(hex k hk).1) k (by omega)
     simp only
     rw [←Nat.add_assoc,e1]
     rfl
    ·rw [World.cell?_setCells_out _ _ _ _ _ (fun _ _=>by simp;omega)]
     exact this.1
theorem ze2 {hp:List (Option Blk)} {t tx:TypeId} {s x:V} : M.sat F ν (zgz P hp t tx s x) (fun z=>∀ ρ w ty,HS E ν ρ hp w →
  ∃ v w',(Builtin.append_ #[t,tx] ty #[s.conc ν ρ,x.conc ν ρ]).run P w = .ok v w'∧zbc E ν ρ hp v w' z):=by
 unfold zgz
 refine zaa (zad (Q:=fun k=>tk P t=some k) fun a h=>h) fun k hk=>?_
 refine zaa (zad (Q:=fun k=>tk P tx=some k) fun a h=>h) fun kx hkx=>?_
 split
 ·rename_i elem ex b c
  refine zaa (zad (Q:=fun r=>zk6 hp b=some r) fun a h=>h) fun r hr=>?_
  refine zaa (zad (Q:=fun r=>zc7 hp c=some r) fun a h=>h) fun u hu=>?_
  refine zaa (zad (Q:=fun z=>zeroCells P elem=some z) fun a h=>h) fun z hz=>?_
  refine zaa (zad (Q:=fun k=>zaO P elem=some k) fun a h=>h) fun sz hs=>?_
  refine zaa (zad (Q:=fun k=>zfE P elem=some k) fun a h=>h) fun by_ hby=>?_
  refine zae (fun hc=>?_) (fun _=>zac)
  simp only [Bool.and_eq_true,Bool.not_eq_true'] at hc
  obtain ⟨⟨⟨⟨⟨c1,c2⟩,c3⟩,c4⟩,c5⟩,hlt⟩:=hc
  have c2:b≠c:=fun e=>by subst e;rw [Nat.beq_refl] at c2;cases c2
  have c3:=LTs.beq_eq c3
  have c4:=Nat.eq_of_beq_eq_true c4
  have c5:=Nat.eq_of_beq_eq_true c5
  refine zaa (zaf (Q:=fun q=>q.cells ν=r.2.2.cells ν++u.2.2.cells ν) fun q h=>A.cells_of_den h) fun q hq=>?_
  refine zaa (zaf (Q:=fun n=>n.int ν=((q.cells ν).length/sz:Nat)) fun q h=>A.int_of_den h) fun n hn=>?_
  refine zaa zck fun _ hle=>zab fun ρ w ty hw=>?_
  exact zjF hk hkx hr hu hz hs hby c1 c3 c4 c5 hlt hq hn hle ρ w ty hw
 ·exact zac
theorem Lf.conc_keep {ρ ρ':Nat→Loc} {n:Nat} (h:∀ k,k<n→ρ' k=ρ k) {l:Lf} (hl:l.lt n=true):l.conc ν ρ'=l.conc ν ρ:=Lf.keep_spec h hl
theorem zcY {α:Type} (l:List α) (hl:0<l.length):∀ (n j:Nat),j<n*l.length→(List.replicate n l).flatten[j]? = l[j%l.length]?
 | 0,j,h=>by simp at h
 | n+1,j,h=>by
  rw [List.replicate_succ,List.flatten_cons]
  rcases Nat.lt_or_ge j l.length with hj | hj
  ·rw [List.getElem?_append_left hj,Nat.mod_eq_of_lt hj]
  ·rw [List.getElem?_append_right hj,zcY l hl n (j-l.length) (by rw [Nat.succ_mul] at h;omega)]
   congr 1
   exact (Nat.mod_eq_sub_mod hj).symm
theorem zb8 {α:Type} (l:List α) (n:Nat):(List.replicate n l).flatten.length=n*l.length:=by simp
theorem zrB {hp:List (Option Blk)} {t:TypeId} {l c:Lf} : M.sat F ν (zsA P hp t l c) (fun x=>∀ ρ w,HS E ν ρ hp w →
  ∃ v w',(Instr.makeSlice t (l.conc ν ρ) (c.conc ν ρ)).run P w = .ok v w'∧zbc E ν ρ hp v w' x):=by
 unfold zsA
 refine zaa (zad (Q:=fun k=>tk P t=some k) fun a h=>h) fun k hk=>?_
 split
 ·rename_i elem kn n km m
  refine zaa (zad (Q:=fun z=>zeroCells P elem=some z) fun a h=>h) fun z hz=>?_
  refine zaa (zad (Q:=fun ts=>zbz z=some ts) fun a h=>h) fun ts hts=>?_
  refine zaa (zad (Q:=fun r=>zcC ts 0 (z.map some)=some r) fun a h=>h) fun r hr=>?_
  refine zaa (zad (Q:=fun k=>zaO P elem=some k) fun a h=>h) fun sz hs=>?_
  refine zaa (zad (Q:=fun k=>zfE P elem=some k) fun a h=>h) fun by_ hby=>?_
  refine zae (fun hc=>?_) (fun _=>zac)
  simp only [Bool.and_eq_true] at hc
  obtain ⟨⟨c1,c2⟩,hlt⟩:=hc
  have c1:=Nat.eq_of_beq_eq_true c1
  have c2:0<sz:=Nat.le_of_ble_eq_true c2
  refine zaa zbH fun _ h0=>zaa zck fun _ h1=>zaa zck fun _ h2=>?_
  refine zaa (zaf (Q:=fun q=>q.cells ν=(List.replicate (n.int ν).toNat (nrmZ r.1 (r.2.map (A.den ν)))).flatten) fun q h=>A.cells_of_den h) fun q hq=>zab fun ρ w hw=>?_
  obtain ⟨i,zv,hi,hzv,_,hzc⟩:=zbh (ν:=ν) hz
  obtain ⟨i1,hi1,hsz⟩:=zcO hs
  obtain ⟨i2,hi2,hbz⟩:=zga hby
  rw [hi] at hi1 hi2
  cases hi1
  cases hi2
  have htl:=zee hts
  obtain ⟨l1,l2,l3⟩:=zcr (E:=E) (ν:=ν) hr
  have hcl:(nrmZ r.1 (r.2.map (A.den ν))).length=ts.length:=by
   rw [zgR (by simp [l1,l2]),List.length_map,l2,List.length_map,htl]
  have hzs:zv.cells.size=ts.length:=by rw [←Array.length_toList,hzc ρ,List.length_map,htl]
  have hst:sz=ts.length:=by omega
  have hlim:(m.int ν).toNat≤zeJ by_:=by
   have h2:m.int ν≤(zeJ by_:Int):=h2
   omega
  obtain ⟨q1,q2⟩:=zhG hlim
  have hb2:(i.bytes:Int)*m.int ν≤281474976710656:=by
   have e:((m.int ν).toNat:Int)=m.int ν:=Int.toNat_of_nonneg (by omega)
   rw [←e,←Int.natCast_mul,Nat.mul_comm,hbz]
   omega
  have hrun:=run_make (P:=P) w t elem i zv (zba hk) hi hzv kn km (n.int ν) (m.int ν) h0 h1 hb2 (by omega)
  generalize hob:(.cells (madeCells zv.cells ((m.int ν).toNat*i.size)) elem:Obj)=ob at *
  have hbel:Below w.heap.size w (w.alloc ob):=⟨rfl,rfl,rfl,by simp,fun k hk=>Below.heap_alloc w _ _ hk⟩
  have hnew:∀ j,(w.alloc ob).cell? ⟨w.heap.size,j,none⟩=(madeCells zv.cells ((m.int ν).toNat*i.size))[j]?:=fun j=>by
   rw [←hob]
   exact World.cell?_alloc_new w _ _ j
  have hfrz:∀ j,(w.alloc ob).frozen? ⟨w.heap.size,j,none⟩=false:=fun j=>by
   rw [←hob]
   exact World.frozen?_alloc_new w _ _ j
  have hget:∀ j,j<(m.int ν).toNat*ts.length→∃ x,nth (z.map some) (j%ts.length)=some x∧(madeCells zv.cells ((m.int ν).toNat*i.size))[j]? = some (x.conc ν ρ)∧CRel E (ts.getD (j%ts.length) .bool) ((nrmZ r.1 (r.2.map (A.den ν))).getD (j%ts.length) default) (x.conc ν ρ):=fun j hj=>by
   have hjm:j%ts.length<z.length:=by rw [←htl];exact Nat.mod_lt _ (by omega)
   obtain ⟨x,k1,_,_,k4⟩:=l3 (j%ts.length) (by simpa using hjm)
   have k4:=k4 ρ
   rw [Nat.zero_add,Nat.mod_mod] at k4
   refine ⟨x,k1,?_,k4⟩
   have hx:z[j%ts.length]? = some x:=by rw [za3] at k1;exact k1
   have hzx:zv.cells[j%zv.cells.size]! = x.conc ν ρ:=by
    have:zv.cells.toList[j%ts.length]? = some (x.conc ν ρ):=by rw [hzc ρ,List.getElem?_map,hx];rfl
    rw [Array.getElem?_toList] at this
    rw [hzs,Array.getElem!_eq_getD,Array.getD_eq_getD_getElem?,this]
    rfl
   unfold madeCells
   rw [Array.getElem?_map,Array.getElem?_range,if_pos (by rw [hsz,hst];exact hj)]
   simp [hzx]
  refine ⟨_,_,hrun,zbc.mk (r:=⟨w.heap.size,0,false,(n.int ν).toNat,(m.int ν).toNat,none⟩) rfl rfl ?_⟩
  have hnm:(n.int ν).toNat*ts.length≤(m.int ν).toNat*ts.length:=Nat.mul_le_mul_right _ (by omega)
  refine hw.fresh (w':=w.alloc ob) (bk:=.v true ts q) hlt hbel (⟨fun e=>(by cases e),fun _=>by simp,by omega,by rw [hq,zb8,hcl],by show (n.int ν).toNat≤(m.int ν).toNat;omega,fun j hj=>?_,fun _ _ j hj=>?_,fun _ _=>⟨by show (m.int ν).toNat≤_;omega,fun o=>hfrz o⟩⟩:VRel E (w.alloc ob) ⟨w.heap.size,0,false,(n.int ν).toNat,(m.int ν).toNat,none⟩ true ts (q.cells ν)) (.inr (Nat.le_refl _))
  ·rw [hq,zb8,hcl] at hj
   obtain ⟨x,_,k2,k3⟩:=hget j (by omega)
   refine ⟨x.conc ν ρ,by show (w.alloc ob).cell? ⟨w.heap.size,0+j,none⟩=_;rw [Nat.zero_add,hnew];exact k2,?_⟩
   have e:(q.cells ν).getD j default=(nrmZ r.1 (r.2.map (A.den ν))).getD (j%ts.length) default:=by
    simp only [List.getD_eq_getElem?_getD]
    rw [hq,zcY _ (by rw [hcl];omega) _ _ (by rw [hcl];exact hj),hcl]
   rw [e]
   exact k3
  ·have hj:j<(m.int ν).toNat*ts.length:=hj
   obtain ⟨x,_,k2,_⟩:=hget j hj
   show ((w.alloc ob).cell? ⟨w.heap.size,0+j,none⟩).isSome=true∧(w.alloc ob).frozen? ⟨w.heap.size,0+j,none⟩=false
   rw [Nat.zero_add,hnew,k2]
   exact ⟨rfl,hfrz j⟩
 ·exact zac
theorem zpe (ts:List LT) (cs:List Lf):M.sat F ν (zoN ts cs) (fun q=>(q.cells ν).length=cs.length∧∀ j,j<cs.length→∃ x,cs[j]? = some x∧∀ ρ,CRel E (ts.getD (j%ts.length) .bool) ((q.cells ν).getD j default) (x.conc ν ρ)):=by
 unfold zoN
 split
 ·rename_i t a i0 l
  refine zae (fun hc=>?_) (fun _=>zac)
  simp only [Bool.and_eq_true] at hc
  obtain ⟨⟨c1,c2⟩,c3⟩:=hc
  have c3:=Nat.eq_of_beq_eq_true c3
  refine zaf fun q hq=>?_
  have hq:q.cells ν=(List.range (l.length+1)).map fun k=>(a.cells ν).getD (Int.toNat 0*1+i0+k) default:=A.cells_of_den hq
  refine ⟨by rw [hq];simp,fun j hj=>?_⟩
  have hj:j<l.length+1:=by simpa using hj
  refine ⟨_,List.getElem?_eq_getElem hj,fun ρ=>?_⟩
  obtain ⟨b,hb,he⟩:=zeV c1 j _ (List.getElem?_eq_getElem hj)
  have ht:ts.getD (j%ts.length) .bool=t:=by
   rw [c3,Nat.mod_eq_of_lt hj,List.getD_eq_getElem?_getD,List.getElem?_eq_getElem (by omega)]
   exact (LT.feq_eq (List.all_eq_true.1 c2 _ (List.getElem_mem _))).symm
  have hcell:(q.cells ν).getD j default=(b.cells ν).getD (i0+j*1) default:=by
   rw [hq,List.getD_eq_getElem?_getD,List.getElem?_map,List.getElem?_range hj]
   have:a.cells ν=b.cells ν:=by simp only [A.cells,A.beq_den hb ν]
   rw [this]
   show (b.cells ν).getD (Int.toNat 0*1+i0+j) default=_
   congr 1
   show 0*1+i0+j=_
   omega
  rw [ht,hcell]
  have he2:((.e t a i0::l:List Lf)[j]'hj) = .e t b (i0+j*1):=he
  rw [he2]
  cases t with
  | int k=>exact CRel.int k _
  | bool=>exact CRel.bool _
  | vec us =>
   have:=List.all_eq_true.1 c2 (ts[0]'(by omega)) (List.getElem_mem _)
   simp only [LT.feq] at this
   cases this
 ·refine zaa (zad (Q:=fun r=>zcC ts 0 (cs.map some)=some r) fun a h=>h) fun r hr=>zaf fun q hq=>?_
  have hq:q.cells ν=nrmZ r.1 (r.2.map (A.den ν)):=A.cells_of_den hq
  obtain ⟨l1,l2,l3⟩:=zcr (E:=E) (ν:=ν) hr
  refine ⟨by rw [hq,zgR (by simp [l1,l2]),List.length_map,l2,List.length_map],fun j hj=>?_⟩
  obtain ⟨x,k1,_,_,k4⟩:=l3 j (by simpa using hj)
  rw [za3] at k1
  refine ⟨x,k1,fun ρ=>?_⟩
  have k4:=k4 ρ
  rw [Nat.zero_add,←hq] at k4
  exact k4
theorem zit {hp:List (Option Blk)} {t:TypeId} {len:Nat} {ps:List (Nat×V1)} (_hg:∀ p∈ps,p.2.good ν):M.sat F ν (zeM P hp t len ps) (fun x=>∀ ρ w,HS E ν ρ hp w →
  ∃ v w',(Instr.buildSlice t len (ps.map fun p=>(p.1,p.2.conc ν ρ)).toArray).run P w = .ok v w'∧zbc E ν ρ hp v w' x):=by
 unfold zeM
 refine zaa (zad (Q:=fun k=>tk P t=some k) fun a h=>h) fun k hk=>?_
 split
 ·rename_i elem
  refine zaa (zad (Q:=fun k=>zaO P elem=some k) fun a h=>h) fun sz hs=>?_
  refine zaa (zad (Q:=fun z=>zeroCells P elem=some z) fun a h=>h) fun z hz=>?_
  refine zaa (zad (Q:=fun ts=>zbz z=some ts) fun a h=>h) fun ts hts=>?_
  refine zaa (zad (Q:=fun cs=>zgu (fun i=>some (i*sz,sz)) (List.replicate len z).flatten ps=some cs) fun a h=>h) fun cs hcs=>?_
  refine zae (fun hc=>?_) (fun _=>zac)
  simp only [Bool.and_eq_true] at hc
  obtain ⟨⟨⟨c1,c2⟩,c3⟩,hlt⟩:=hc
  have c1:=Nat.eq_of_beq_eq_true c1
  have c2:0<sz:=Nat.le_of_ble_eq_true c2
  have c3:=Nat.le_of_ble_eq_true c3
  refine zaa (zpe (E:=E) ts cs) fun q hq=>zab fun ρ w hw=>?_
  obtain ⟨i,zv,hi,hzv,hzg,hzc⟩:=zbh (ν:=ν) hz
  have htl:=zee hts
  have hzs:zv.cells.size=sz:=by rw [←Array.length_toList,hzc ρ,List.length_map,c1]
  have hinit:((Array.range (len*sz)).map (zv.cells[· % zv.cells.size]!)).toList=(List.replicate len z).flatten.map (Lf.conc ν ρ):=by
   apply List.ext_getElem?
   intro j
   rw [Array.getElem?_toList,Array.getElem?_map,List.getElem?_map,Array.getElem?_range]
   by_cases hj:j<len*sz
   ·obtain ⟨zx,hzj⟩:∃ zx,z[j%z.length]? = some zx:=⟨_,List.getElem?_eq_getElem (Nat.mod_lt _ (by omega))⟩
    rw [if_pos hj,zcY z (by omega) _ _ (by rw [←c1];exact hj),hzj]
    have:zv.cells.toList[j%z.length]? = some (zx.conc ν ρ):=by rw [hzc ρ,List.getElem?_map,hzj];rfl
    rw [Array.getElem?_toList] at this
    simp only [Option.map_some,Option.some.injEq]
    rw [hzs,c1,Array.getElem!_eq_getD,Array.getD_eq_getD_getElem?,this]
    rfl
   ·rw [if_neg hj,List.getElem?_eq_none (by rw [zb8,←c1];omega)]
    rfl
  obtain ⟨B,hB,hB2⟩:=zfu (ν:=ν) (ρ:=ρ) (place':=fun i=>some (i*sz,sz)) (fun i=>rfl) ps _ cs _ hinit hcs
  obtain ⟨l1,l3⟩:=hq
  have hfl:∀ (ps:List (Nat×V1)) (cs r:List Lf),zgu (fun i=>some (i*sz,sz)) cs ps=some r→r.length=cs.length:=by
   intro ps
   induction ps with
   | nil=>intro cs r h;simp [zgu] at h;rw [h]
   | cons p ps ih =>
    intro cs r h
    simp only [zgu] at h
    split at h
    ·rw [ih _ _ h]
     have:∀ (l cs:List Lf) (o:Nat),(zcq cs o l).length=cs.length:=fun l=>by
      induction l with
      | nil=>intro cs o;rfl
      | cons c l ih=>intro cs o;rw [zcq,ih];simp
     exact this _ _ _
    ·cases h
  have hcl:cs.length=len*sz:=by rw [hfl _ _ _ hcs,zb8,c1]
  have hql:(q.cells ν).length=len*sz:=by rw [l1,hcl]
  have hBs:B.size=len*sz:=by rw [←Array.length_toList,hB2,List.length_map,hcl]
  have hrun:(Instr.buildSlice t len (ps.map fun p=>(p.1,p.2.conc ν ρ)).toArray).run P w = .ok (.slice (some ⟨w.heap.size,0,none⟩) len len) (w.alloc (.cells B elem)):=by
   have c3':¬ (16777216<len*sz):=by omega
   by_cases h0:len*sz=0
   ·have hB':Instr.fill (fun i=>some (i*sz,sz)) #[] (ps.map fun p=>(p.1,p.2.conc ν ρ))=some B:=by
     have e:((Array.range (len*sz)).map (zv.cells[· % zv.cells.size]!)) = #[]:=by rw [h0];simp
     rw [e] at hB
     exact hB
    simp [Instr.buildSlice,run_underlying (zba hk),za9 hs,h0,hB',newRow,Array.range_zero']
   ·simp [Instr.buildSlice,run_underlying (zba hk),za9 hs,h0,c3',zeroValue,typeInfo,hi,hzv,hB,newRow]
  generalize hob:(.cells B elem:Obj)=ob at *
  have hbel:Below w.heap.size w (w.alloc ob):=⟨rfl,rfl,rfl,by simp,fun k hk=>Below.heap_alloc w _ _ hk⟩
  have hnew:∀ j,(w.alloc ob).cell? ⟨w.heap.size,j,none⟩=B[j]?:=fun j=>by
   rw [←hob]
   exact World.cell?_alloc_new w _ _ j
  have hfrz:∀ j,(w.alloc ob).frozen? ⟨w.heap.size,j,none⟩=false:=fun j=>by
   rw [←hob]
   exact World.frozen?_alloc_new w _ _ j
  have hst:sz=ts.length:=by omega
  refine ⟨_,_,hrun,zbc.mk (r:=⟨w.heap.size,0,false,len,len,none⟩) rfl rfl ?_⟩
  refine hw.fresh (w':=w.alloc ob) (bk:=.v true ts q) hlt hbel (⟨fun e=>(by cases e),fun _=>by simp,by omega,by rw [hql,hst],Nat.le_refl _,fun j hj=>?_,fun _ _ j hj=>?_,fun _ _=>⟨by show len≤_;have:=Nat.le_mul_of_pos_right len (show 0<sz by omega);omega,fun o=>hfrz o⟩⟩:VRel E (w.alloc ob) ⟨w.heap.size,0,false,len,len,none⟩ true ts (q.cells ν)) (.inr (Nat.le_refl _))
  ·rw [hql] at hj
   obtain ⟨x,k1,k4⟩:=l3 j (by simpa [hcl] using hj)
   have k4:=k4 ρ
   refine ⟨x.conc ν ρ,?_,k4⟩
   show (w.alloc ob).cell? ⟨w.heap.size,0+j,none⟩=_
   rw [Nat.zero_add,hnew,←Array.getElem?_toList,hB2,List.getElem?_map]
   rw [k1]
   rfl
  ·have hj:j<len*ts.length:=hj
   show ((w.alloc ob).cell? ⟨w.heap.size,0+j,none⟩).isSome=true∧(w.alloc ob).frozen? ⟨w.heap.size,0+j,none⟩=false
   rw [Nat.zero_add,hnew,Array.getElem?_eq_getElem (by rw [hBs,hst];exact hj)]
   exact ⟨rfl,hfrz j⟩
 ·exact zac
theorem zhH {x:Lf} (h:x.isNil=true):x = .v (.slice none 0 0):=by
 unfold Lf.isNil at h
 split at h
 ·rfl
 ·cases h
theorem zcs {w:World} : ∀ (lt:List LT) (cs:List Lf) (hp:List (Option Blk)),M.sat F ν (zbV lt cs hp) (fun q=>∀ ρ,HS E ν ρ hp w→hpLt hp=true→(cs.all (Lf.lt hp.length)=true)→(∀ x∈cs,x.good ν) →
  hpLt q.2=true∧q.1.all (Lf.lt q.2.length)=true∧(∀ x∈q.1,x.good ν)∧hp.length≤q.2.length∧∃ ρ':Nat→Loc,(∀ j,j<hp.length→ρ' j=ρ j)∧HS E ν ρ' q.2 w∧q.1.map (Lf.conc ν ρ')=cs.map (Lf.conc ν ρ)):=by
 intro lt cs
 induction cs generalizing lt with
 | nil =>
  intro hp
  have e:zbV lt [] hp=pure ([],hp):=by cases lt<;>rfl
  rw [e]
  exact zab fun ρ hw hlt _ _=>⟨hlt,rfl,fun x hx=>(by cases hx),Nat.le_refl _,ρ,fun _ _=>rfl,hw,rfl⟩
 | cons x l ih =>
  intro hp
  -- a cell that stays
  have keep:∀ (lt':List LT),M.sat F ν (do let r ←zbV lt' l hp;pure (x::r.1,r.2)) (fun q=>∀ ρ,HS E ν ρ hp w→hpLt hp=true→((x::l).all (Lf.lt hp.length)=true)→(∀ y∈x::l,Lf.good ν y) →
    hpLt q.2=true∧q.1.all (Lf.lt q.2.length)=true∧(∀ x∈q.1,Lf.good ν x)∧hp.length≤q.2.length∧∃ ρ':Nat→Loc,(∀ j,j<hp.length→ρ' j=ρ j)∧HS E ν ρ' q.2 w∧q.1.map (Lf.conc ν ρ')=(x::l).map (Lf.conc ν ρ)):=fun lt'=>by
   refine zaa (ih lt' hp) fun r hr=>zab fun ρ hw hlt hcs hg=>?_
   simp only [List.all_cons,Bool.and_eq_true] at hcs
   obtain ⟨h1,h2,h3,h4,ρ',h5,h6,h7⟩:=hr ρ hw hlt hcs.2 (fun y hy=>hg y (List.mem_cons_of_mem _ hy))
   refine ⟨h1,?_,fun y hy=>?_,h4,ρ',h5,h6,?_⟩
   ·simp only [List.all_cons,Bool.and_eq_true]
    exact ⟨Lf.lt_mono h4 hcs.1,h2⟩
   ·rcases List.mem_cons.1 hy with rfl | hy
    ·exact hg _ (by simp)
    ·exact h3 y hy
   ·simp only [List.map_cons]
    rw [h7,Lf.conc_keep h5 hcs.1]
  cases lt with
  | nil=>exact zab fun ρ hw hlt hcs hg=>⟨hlt,hcs,hg,Nat.le_refl _,ρ,fun _ _=>rfl,hw,rfl⟩
  | cons t lt' =>
   cases t with
   | int k=>exact keep lt'
   | bool=>exact keep lt'
   | vec ts =>
    simp only [zbV]
    refine zae (fun hc=>?_) (fun _=>keep lt')
    simp only [Bool.and_eq_true] at hc
    have hx:=zhH hc.1
    have hpos:0<ts.length:=Nat.le_of_ble_eq_true hc.2
    refine zaa (zaf (Q:=fun q=>q.cells ν=[]) fun q h=>A.cells_of_den h) fun q hq=>zaa (ih lt' (hp++[some (.v true ts q)])) fun r hr=>zab fun ρ hw hlt hcs hg=>?_
    simp only [List.all_cons,Bool.and_eq_true] at hcs
    have hw1:=hw.fresh (w':=w) (bk:=.v true ts q) (r:=⟨0,0,true,0,0,none⟩) hlt (Below.refl _ w)
     (⟨fun _=>⟨rfl,rfl⟩,fun e=>(by cases e),hpos,by rw [hq];simp,Nat.le_refl _,fun j hj=>by rw [hq] at hj;simp at hj,fun _ e=>(by cases e),fun _ e=>(by cases e)⟩:VRel E w ⟨0,0,true,0,0,none⟩ true ts (q.cells ν)) (.inl rfl)
    have hlt1:hpLt (hp++[some (.v true ts q)])=true:=by
     unfold hpLt at hlt ⊢
     rw [List.all_append,Bool.and_eq_true,List.length_append]
     refine ⟨List.all_eq_true.2 fun y hy=>?_,rfl⟩
     have:=List.all_eq_true.1 hlt y hy
     cases y with
     | none=>rfl
     | some b=>exact Blk.lt_mono (Nat.le_add_right _ _) this
    have hcs1:l.all (Lf.lt (hp++[some (Blk.v true ts q)]).length)=true:=by
     refine List.all_eq_true.2 fun y hy=>Lf.lt_mono (by simp) (List.all_eq_true.1 hcs.2 y hy)
    obtain ⟨h1,h2,h3,h4,ρ',h5,h6,h7⟩:=hr _ hw1 hlt1 hcs1 (fun y hy=>hg y (List.mem_cons_of_mem _ hy))
    rw [List.length_append] at h4 h5
    simp only [List.length_cons,List.length_nil] at h4 h5
    refine ⟨h1,?_,fun y hy=>?_,by show hp.length≤r.2.length;omega,ρ',fun j hj=>by rw [h5 j (by omega),zbQ hj],h6,?_⟩
    ·simp only [List.all_cons,Bool.and_eq_true,Lf.lt,decide_eq_true_eq]
     exact ⟨by omega,h2⟩
    ·rcases List.mem_cons.1 hy with rfl | hy
     ·trivial
     ·exact h3 y hy
    ·simp only [List.map_cons,h7]
     rw [hx]
     simp only [Lf.conc]
     rw [h5 _ (by omega),zbK]
     congr 1
     exact List.map_congr_left fun y hy=>Lf.conc_keep (fun j hj=>zbQ hj) (List.all_eq_true.1 hcs.2 y hy)
end
theorem V1.conc_low {ν:Nat→DV} {v:V1} {n:Nat} (h:v.lt n=true) {ρ ρ':Nat→Loc} (hρ:∀ j,j<n→ρ' j=ρ j):v.conc ν ρ'=v.conc ν ρ:=by
 have h1:∀ l:Lf,l.lt n=true→l.conc ν ρ'=l.conc ν ρ:=fun l hl=>Lf.keep_spec hρ hl
 cases v with
 | one l=>exact h1 l (by simpa [V1.lt,V1.cells] using h)
 | agg l =>
  have hl:∀ x∈l,x.lt n=true:=fun x hx=>List.all_eq_true.1 h x hx
  simp only [V1.conc]
  congr 2
  exact List.map_congr_left fun x hx=>h1 x (hl x hx)
theorem V.conc_low {ν:Nat→DV} {v:V} {n:Nat} (h:v.lt n=true) {ρ ρ':Nat→Loc} (hρ:∀ j,j<n→ρ' j=ρ j):v.conc ν ρ'=v.conc ν ρ:=by
 cases v with
 | s v=>exact V1.conc_low h hρ
 | t l =>
  have hl:∀ x∈l,x.lt n=true:=fun x hx=>List.all_eq_true.1 h x hx
  simp only [V.conc]
  congr 2
  exact List.map_congr_left fun x hx=>V1.conc_low (hl x hx) hρ
section
variable {P:Program} {F:FEnv} {E:Env} {ν:Nat→DV}
theorem zmx {hp:List (Option Blk)} {t tx:TypeId} {s x:V} : M.sat F ν (ziZ P hp t tx s x) (fun z=>∀ ρ w ty,HS E ν ρ hp w →
  ∃ v w',(Builtin.append_ #[t,tx] ty #[s.conc ν ρ,x.conc ν ρ]).run P w = .ok v w'∧zbc E ν ρ hp v w' z):=by
 unfold ziZ
 split
 ·rename_i l
  refine zae (fun hc=>?_) (fun _=>ze2)
  simp only [Bool.and_eq_true] at hc
  refine zaa zat fun k _=>?_
  split
  ·refine zaa zat fun z0 _=>zaa zat fun ts _=>zaa (zdI fun w=>zcs (E:=E) (w:=w) _ _ _) fun q hq=>?_
   split
   ·rename_i l' hl'
    refine zag (ze2 (E:=E)) fun z hz ρ w ty hw=>?_
    have hn:=zhH hc.1.1
    obtain ⟨h1,h2,h3,h4,ρ',h5,h6,h7⟩:=hq w ρ hw hc.1.2 (by subst hn;rfl) (fun y hy=>by
     rcases List.mem_cons.1 hy with rfl | hy
     ·subst hn;trivial
     ·cases hy)
    rw [hl'] at h7
    have h7:l'.conc ν ρ'=l.conc ν ρ:=by simpa using h7
    obtain ⟨v,w',g1,g2⟩:=hz ρ' w ty h6
    have e1:(V.s (.one l')).conc ν ρ'=(V.s (.one l)).conc ν ρ:=h7
    rw [e1,V.conc_low hc.2 h5] at g1
    refine ⟨v,w',g1,?_⟩
    cases z with
    | val _=>exact g2
    | hp u hp' =>
     cases u with
     | none=>exact g2
     | some u =>
      obtain ⟨a1,ρ2,a2,a3,a4⟩:=g2
      exact ⟨a1,ρ2,fun j hj=>by rw [a2 j (by omega),h5 j hj],a3,a4⟩
   ·exact zac
  ·exact zac
 ·exact ze2
end
end Go.Sx
namespace Go.Sx
open Go.RowKit
section
variable {P:Program} {F:FEnv} {ν:Nat→DV}
theorem zih (n:String) (hg:Extern.allGenericRows.lookup n=none) (ht:Extern.allTypedRows.lookup n=none) {fn:Func} (hn:fn.name=n) {e:Array Value→Sem Value} (hr:Extern.allRows.lookup n=some e):Extern.find fn=some e:=by
 unfold Extern.find
 simp only [hn,hg,ht,hr]
 rfl
theorem znN (n : String) (h : Extern.allNextRows.lookup n = none) (h0 : Extern.allNextRows.lookup "" = none) {fn : Func} (hn : fn.name = n) (ho : fn.origin = "") : Extern.findNext fn = none := by
 unfold Extern.findNext
 simp only [hn,ho,h,h0]
 rfl
def zwP:Array Value→Sem Value:=fun args=>do
 let (x, y, c) ← Extern.MathBitsCarry.three "Add64" args
 pure (Extern.MathBitsCarry.pair ((x+y+c)%Extern.MathBitsCarry.m64) ((x+y+c)/Extern.MathBitsCarry.m64))
def zwQ:Array Value→Sem Value:=fun args=>do
 let (x, y, b) ← Extern.MathBitsCarry.three "Sub64" args
 pure (Extern.MathBitsCarry.pair ((x+Extern.MathBitsCarry.m64-y-b)%Extern.MathBitsCarry.m64) (if x<y+b then 1 else 0))
theorem znO (n:String) (x y c:Nat) (hc:¬ c>1) (w:World):(Extern.MathBitsCarry.three n #[.int .u64 x,.int .u64 y,.int .u64 c]).run P w = .ok (x,y,c) w:=by
 have:Extern.MathBitsCarry.three n #[.int .u64 x,.int .u64 y,.int .u64 c]=(do
  let c0 ←asInt (.int .u64 (c:Int))
  if c0.toNat > 1 then unsupported (.noEntry ("extern/math/bits." ++ n ++ ": a carry that is neither 0 nor 1"))
  let x0 ←asInt (.int .u64 (x:Int))
  let y0 ←asInt (.int .u64 (y:Int))
  pure (x0.toNat,y0.toNat,c0.toNat)):=rfl
 have h:∀ x:Nat,asInt (.int .u64 (x:Int))=pure (x:Int):=fun _=>rfl
 rw [this]
 simp only [h,pure_bind,Int.toNat_natCast,if_neg hc]
 rfl
theorem zrC {fn : Func} (hn : fn.name = "math/bits.Add64") : Extern.find fn = some zwP :=
 zih "math/bits.Add64" (by kernel_rfl) (by kernel_rfl) hn (by kernel_rfl)
theorem zrD {fn : Func} (hn : fn.name = "math/bits.Sub64") : Extern.find fn = some zwQ :=
 zih "math/bits.Sub64" (by kernel_rfl) (by kernel_rfl) hn (by kernel_rfl)
theorem zrE {fn : Func} (hn : fn.name = "math/bits.Add64") (ho : fn.origin = "") : Extern.findNext fn = none :=
 znN "math/bits.Add64" (by kernel_rfl) (by kernel_rfl) hn ho
theorem zrF {fn : Func} (hn : fn.name = "math/bits.Sub64") (ho : fn.origin = "") : Extern.findNext fn = none :=
 znN "math/bits.Sub64" (by kernel_rfl) (by kernel_rfl) hn ho
theorem zmy {f : FuncId} {add : Bool} (h : ziG P f = some add) : ∃ fn, P.funcs[f]? = some fn ∧ fn.body.isNone = true ∧ fn.origin = "" ∧ fn.name = bif add then "math/bits.Add64" else "math/bits.Sub64" := by
 unfold ziG at h
 split at h
 ·rename_i fn hf
  split at h
  ·rename_i hb
   simp only [Bool.and_eq_true,beq_iff_eq] at hb
   refine ⟨fn,hf,hb.1,hb.2,?_⟩
   split at h
   ·rename_i hn;cases h;simpa using hn
   ·split at h
    ·rename_i hn;cases h;simpa using hn
    ·cases h
  ·cases h
 ·cases h
theorem zyE (n:Int):IntKind.wrap .u64 n=n%18446744073709551616:=by simp [IntKind.wrap,IntKind.signed,IntKind.bits]
theorem zqL {a:A} : M.sat F ν (oweU a) (fun _=>0≤a.int ν∧a.int ν<18446744073709551616):=by
 unfold oweU
 refine zaa (zaf (Q:=fun r=>r.bool ν=decide (a.int ν≥0)) fun r h=>A.bool_of_den h) fun q hq=>?_
 refine zaa (zbl (Q:=fun _=>0≤a.int ν) fun h=>by rw [hq] at h;simpa using h) fun _ h0=>?_
 refine zaa (zaf (Q:=fun r=>r.bool ν=decide (a.int ν<18446744073709551616)) fun r h=>A.bool_of_den h) fun q hq=>?_
 exact zbl fun h=>⟨h0,by rw [hq] at h;simpa using h⟩
theorem zpf {add:Bool} {a b q:A} : M.sat F ν (zoM add a b q) (fun z=>∃ s k:A,z = .val (.t [.one (.i .u64 s),.one (.i .u64 k)]) ∧
  ∀ f,ziG P f=some add→∀ w,(callFunc f #[.int .u64 (a.int ν),.int .u64 (b.int ν),.int .u64 (q.int ν)]).run P w = .ok (.value (.tuple #[.int .u64 (s.int ν),.int .u64 (k.int ν)])) w):=by
 unfold zoM
 refine zaa zqL fun _ ha=>zaa zqL fun _ hb=>?_
 refine zaa (zaf (Q:=fun r=>r.bool ν=decide (q.int ν≥0)) fun r h=>A.bool_of_den h) fun x hx=>?_
 refine zaa (zbl (Q:=fun _=>0≤q.int ν) fun h=>by rw [hx] at h;simpa using h) fun _ hq0=>?_
 refine zaa (zaf (Q:=fun r=>r.bool ν=decide (q.int ν<2)) fun r h=>A.bool_of_den h) fun x hx=>?_
 refine zaa (zbl (Q:=fun _=>q.int ν<2) fun h=>by rw [hx] at h;simpa using h) fun _ hq1=>?_
 refine zaa (zaf (Q:=fun r=>r.bool ν=(q.int ν==1)) fun r h=>A.bool_of_den h) fun one hone=>?_
 refine zaa (zaf (Q:=fun r=>r.int ν=IntKind.wrap .u64 (if add then a.int ν+b.int ν else a.int ν-b.int ν)) fun r h=>by cases add<;>exact A.int_of_den h) fun s1 hs1=>?_
 refine zaa (zaf (Q:=fun r=>r.int ν=IntKind.wrap .u64 (if add then s1.int ν+q.int ν else s1.int ν-q.int ν)) fun r h=>by cases add<;>exact A.int_of_den h) fun s hs=>?_
 refine zaa (zaf (Q:=fun r=>r.bool ν=(if add then decide (s.int ν<a.int ν) else decide (a.int ν<b.int ν))) fun r h=>by cases add<;>exact A.bool_of_den h) fun low hlow=>?_
 refine zaa (zaf (Q:=fun r=>r.bool ν=(if add then s.int ν==a.int ν else a.int ν==b.int ν)) fun r h=>by cases add<;>exact A.bool_of_den h) fun same hsame=>?_
 refine zaa (zaf (Q:=fun r=>r.bool ν=(one.bool ν&&same.bool ν)) fun r h=>A.bool_of_den h) fun both hboth=>?_
 refine zaa (zaf (Q:=fun r=>r.bool ν=(low.bool ν||both.bool ν)) fun r h=>A.bool_of_den h) fun c hc=>?_
 refine zaa (zaf (Q:=fun r=>r.int ν=bif c.bool ν then 1 else 0) fun r h=>A.int_of_den h) fun k hk=>zab ⟨s,k,rfl,fun f hf w=>?_⟩
 obtain ⟨fn,h1,h2,h3,h4⟩:=zmy hf
 generalize a.int ν=x at *
 generalize b.int ν=y at *
 generalize q.int ν=z at *
 generalize s.int ν=s at *
 generalize k.int ν=k at *
 generalize s1.int ν=s1 at *
 obtain ⟨X,rfl⟩:=Int.eq_ofNat_of_zero_le ha.1
 obtain ⟨Y,rfl⟩:=Int.eq_ofNat_of_zero_le hb.1
 obtain ⟨Z,rfl⟩:=Int.eq_ofNat_of_zero_le hq0
 have hZ:¬ Z>1:=by omega
 rw [hc,hlow,hboth,hone,hsame] at hk
 cases add
 ·simp only [cond_false] at h4
  rw [run_callFunc_extern h1 (by rw [h4];rfl) h2 (zrF h4 h3) (zrD h4)]
  simp only [Bool.false_eq_true,if_false] at hs1 hs hk
  rw [zyE] at hs1 hs
  unfold zwQ
  rw [Sem.run_bind,znO _ _ _ _ hZ]
  have e1:s=((X+2^64-Y-Z:Nat):Int)%18446744073709551616:=by omega
  have e2:k=((if X<Y+Z then 1 else 0:Nat):Int):=by
   rw [hk,Bool.cond_eq_ite]
   simp only [Bool.or_eq_true,decide_eq_true_eq,Bool.and_eq_true,beq_iff_eq]
   split<;>split<;>omega
  simp [e1,e2,Extern.MathBitsCarry.pair,Extern.MathBitsCarry.m64]
 ·simp only [cond_true] at h4
  rw [run_callFunc_extern h1 (by rw [h4];rfl) h2 (zrE h4 h3) (zrC h4)]
  simp only [if_true] at hs1 hs hk
  rw [zyE] at hs1 hs
  unfold zwP
  rw [Sem.run_bind,znO _ _ _ _ hZ]
  have e1:s=((X+Y+Z:Nat):Int)%18446744073709551616:=by omega
  have e2:k=(((X+Y+Z)/18446744073709551616:Nat):Int):=by
   rw [hk,Bool.cond_eq_ite]
   simp only [Bool.or_eq_true,decide_eq_true_eq,Bool.and_eq_true,beq_iff_eq]
   split<;>omega
  simp [e1,e2,Extern.MathBitsCarry.pair,Extern.MathBitsCarry.m64]
end
end Go.Sx
namespace Go.Sx
open Go.RowKit
section
variable {P:Program} {I:World→Prop} {S:Sigs} {F:FEnv} {E:Env} {ν:Nat→DV}
theorem zmz {n:Nat} {bk:Blk} (hk:bk.kindLt n=true) (w:World) (r:Loc):footK (zc8 n) w r bk=bk.foot w r:=by
 cases bk with
 | c=>rfl
 | v=>rfl
 | l=>rfl
 | m=>rfl
 | obj o k a =>
  simp only [Blk.kindLt,Bool.and_eq_true,Nat.blt_eq,Bool.not_eq_true'] at hk
  simp only [footK,Blk.foot,zc8,if_pos hk.1,zey hk.2]
theorem zjG {n:Nat} {bk:Blk} (hk:bk.kindLt n=true) (w:World) (r:Loc):rfootK (zc8 n) w r bk=bk.rfoot w r:=by
 cases bk with
 | c=>rfl
 | v=>rfl
 | l=>rfl
 | m=>rfl
 | obj o k a =>
  simp only [Blk.kindLt,Bool.and_eq_true,Nat.blt_eq,Bool.not_eq_true'] at hk
  simp only [rfootK,Blk.rfoot,zc8,if_pos hk.1,zey hk.2]
theorem BlkRel.ofK {n:Nat} {ρ:Nat→Loc} {w:World} {r:Loc} {bk:Blk} (hk:bk.kindLt n=true) (h:BlkRelK (zc8 n) ν ρ w r bk):BlkRel E ν ρ w r bk:=by
 cases bk with
 | c=>exact h
 | v o ts a=>exact h.2.1.congr h.1 (fun _=>rfl)
 | l o f ts a=>exact LRel.congr h.1 h.2.1 (fun _=>rfl)
 | m=>exact h
 | obj o k a =>
  simp only [Blk.kindLt,Bool.and_eq_true,Nat.blt_eq,Bool.not_eq_true'] at hk
  have h2:=h.2
  rw [zc8,if_pos hk.1] at h2
  exact (zbn.plain hk.2).2 ⟨h.1,h2⟩
theorem Blk.inst_kindLt (ops:List A) (n:Nat) (bk:Blk):(bk.inst ops).kindLt n=bk.kindLt n:=by cases bk<;>rfl
theorem Lf.conc_root {ρ ρ':Nat→Loc} {l:Lf} (hl:l.noV0=true) (h0:(ρ' 0).blk=(ρ 0).blk∧(ρ' 0).off=(ρ 0).off) (h:∀ i,i≠0→ρ' i=ρ i):l.conc ν ρ'=l.conc ν ρ:=by
 cases l with
 | p b o =>
  simp only [Lf.conc]
  by_cases hb:b=0
  ·subst hb;rw [h0.1,h0.2]
  ·rw [h b hb]
 | vec b =>
  simp only [Lf.conc]
  have:b≠0:=fun e=>by subst e;simp [Lf.noV0] at hl
  rw [h b this]
 | fnp _ _=>cases hl
 | ifp _ _=>cases hl
 | mp _=>cases hl
 | alt _ _=>cases hl
 | str=>rfl
 | e t _ _=>cases t<;>rfl
 | i=>rfl
 | b=>rfl
 | gp=>rfl
 | nilp=>rfl
 | v=>rfl
theorem Dec.reroot {K:Nat→ObjK} {p:PatD} (hok:p.ok=true) {w:World} {b o:Nat} {d:List DV} {ρ:Nat→Loc} (h:Dec K p w b o d ρ) {r:Loc} (h1:r.blk=b) (h2:r.off=o) (h3:r.nil=false) :
  Dec K p w b o d (fun j=>if j=0 then r else ρ j):=by
 simp only [PatD.ok,Bool.and_eq_true] at hok
 obtain ⟨⟨hr,_⟩,hv⟩:=hok
 have hat:∀ j,j≠0→(if j=0 then r else ρ j)=ρ j:=fun j hj=>if_neg hj
 have hroot:∀ bk,nth p.hp 0=some bk→∃ co cs,bk = .c co cs:=fun bk hb=>by
  rw [hb] at hr
  cases bk with
  | c co cs=>exact ⟨co,cs,rfl⟩
  | v=>cases hr
  | obj=>cases hr
  | l=>cases hr
  | m=>cases hr
 have hcb:∀ j co cs,nth p.hp j=some (.c co cs)→CBlk (fun i=>d.getD i default) ρ w (ρ j) co cs→CBlk (fun i=>d.getD i default) (fun j=>if j=0 then r else ρ j) w (if j=0 then r else ρ j) co cs:=fun j co cs hj hc=>by
  have hbo:(if j=0 then r else ρ j).blk=(ρ j).blk∧(if j=0 then r else ρ j).off=(ρ j).off∧(if j=0 then r else ρ j).nil=(ρ j).nil:=by
   by_cases h0:j=0
   ·subst h0;rw [if_pos rfl];exact ⟨h1.trans h.blk.symm,h2.trans h.off.symm,by rw [h3,hc.nil]⟩
   ·rw [if_neg h0];exact ⟨rfl,rfl,rfl⟩
  refine ⟨hbo.2.2.trans hc.nil,by rw [hbo.1];exact hc.lt,fun i l hl=>?_,fun ho i hi=>by rw [hbo.1,hbo.2.1];exact hc.own ho i hi,fun ho o=>by rw [hbo.1];exact hc.fz ho o⟩
  have hnv:Blk.noV0 (.c co cs)=true:=zan hv hj
  have hnv:cs.all (zao Lf.noV0)=true:=hnv
  rw [hbo.1,hbo.2.1,Lf.conc_root (zan hnv hl) (by rw [if_pos rfl];exact ⟨h1.trans h.blk.symm,h2.trans h.off.symm⟩) hat]
  exact hc.cell i l hl
 have hloc:∀ j bk,nth p.hp j=some bk→((if j=0 then r else ρ j):Loc).nil=(ρ j).nil∧footK K w (if j=0 then r else ρ j) bk=footK K w (ρ j) bk∧rfootK K w (if j=0 then r else ρ j) bk=rfootK K w (ρ j) bk:=fun j bk hj=>by
  by_cases h0:j=0
  ·subst h0
   obtain ⟨co,cs,rfl⟩:=hroot bk hj
   rw [if_pos rfl]
   have hc:CBlk _ ρ w (ρ 0) co cs:=h.h.blk 0 _ hj
   refine ⟨by rw [h3,hc.nil],?_,?_⟩<;>(funext x;simp only [footK,rfootK];rw [h1,h.blk])
  ·rw [if_neg h0];exact ⟨rfl,rfl,rfl⟩
 refine ⟨h.len,by rw [if_pos rfl];exact h1,by rw [if_pos rfl];exact h2,fun j bk hj=>?_,fun j j' bk bk' hj ho hj' hne hn hn' x hf hf'=>?_⟩
 ·by_cases h0:j=0
  ·subst h0
   obtain ⟨co,cs,rfl⟩:=hroot bk hj
   exact hcb 0 co cs hj (h.h.blk 0 _ hj)
  ·have:=h.h.blk j bk hj
   cases bk with
   | c co cs=>exact hcb j co cs hj this
   | v o ts a =>
    show BlkRelK K _ _ w (if j=0 then r else ρ j) _
    rw [if_neg h0];exact this
   | obj o k a =>
    show BlkRelK K _ _ w (if j=0 then r else ρ j) _
    rw [if_neg h0];exact this
   | l o f ts a =>
    show BlkRelK K _ _ w (if j=0 then r else ρ j) _
    rw [if_neg h0];exact this
   | m o kt vt cs =>
    have this:MRel _ ρ w (ρ j) kt vt cs:=this
    show MRel _ (fun j=>if j=0 then r else ρ j) w (if j=0 then r else ρ j) kt vt cs
    rw [if_neg h0]
    obtain ⟨es,clock,m1,m2⟩:=this.ents
    have hnv:Blk.noV0 (.m o kt vt cs)=true:=zan hv hj
    have hnv:cs.all Lf.noV0=true:=hnv
    refine ⟨this.nil,⟨es,clock,m1,?_⟩,this.good⟩
    rw [zcP (cs:=cs) (cs':=cs) (ν':=fun i=>d.getD i default) (ρ':=ρ) (List.map_congr_left fun x hx=>Lf.conc_root (List.all_eq_true.1 hnv x hx) (by rw [if_pos rfl];exact ⟨h1.trans h.blk.symm,h2.trans h.off.symm⟩) hat)]
    exact m2
 ·rw [(hloc j bk hj).1] at hn
  rw [(hloc j' bk' hj').1] at hn'
  rw [(hloc j bk hj).2.1] at hf
  rw [(hloc j' bk' hj').2.2] at hf'
  exact h.h.apart j j' bk bk' hj ho hj' hne hn hn' x hf hf'
theorem zqM {a:A} : ∀ (ts:List Ty) (i:Nat),M.sat F ν (opnA a i ts) (fun as=>PEq (dget (a.cells ν)) ν ts (zap i ts.length) as)
 | [],i=>zab trivial
 | t::ts,i=>by
  unfold opnA
  refine zaa (zaf (Q:=fun r=>t.eqAt (dget (a.cells ν) i) (r.den ν)) fun r h=>?_) fun x hx=>?_
  ·rw [h]
   have e:(A.int ν (.z 0)).toNat*1+i=i:=by simp [A.int,DV.toI]
   cases t<;>simp only [zbf,Ty.eqAt,DV.toI,DV.toB,DV.toL]<;>rw [e]
  ·exact zaa (zqM ts (i+1)) fun r hr=>zab ⟨hx,hr⟩
theorem zmA {n b k:Nat} : rnm (znl n b k) 0=b∧∀ i,i<k→rnm (znl n b k) (i+1)=n+i:=by
 refine ⟨rfl,fun i hi=>?_⟩
 unfold rnm znl
 rw [List.getD_cons_succ,List.getD_eq_getElem?_getD,List.getElem?_map,List.getElem?_range hi]
 rfl
theorem PatD.ids_rd (p:PatD) (o:Bool):(p.rd o).ids=p.ids.rd o:=by
 cases o with
 | true=>rfl
 | false =>
  simp only [PatD.ids,PatD.rd,Bool.false_eq_true,if_false,List.map_map,PatD.mk.injEq,and_true]
  refine List.map_congr_left fun x _=>?_
  cases x with
  | none=>rfl
  | some b=>cases b<;>rfl
theorem all_of_nth' {α:Type} {q:α→Bool} : ∀ {l:List (Option α)},(∀ i x,nth l i=some x→q x=true)→l.all (zao q)=true
 | [],_=>rfl
 | none::l,h=>by
  simp only [List.all_cons,zao,Bool.true_and]
  exact all_of_nth' fun i x hx=>h (i+1) x hx
 | some a::l,h=>by
  simp only [List.all_cons,zao,Bool.and_eq_true]
  exact ⟨h 0 a rfl,all_of_nth' fun i x hx=>h (i+1) x hx⟩
theorem zrG {o:Bool} {k b:Nat} {a:A} {hp:List (Option Blk)} (hb:nth hp b=some (.obj o (k+2) a)) :
  M.sat F ν (zsv o k b a hp) (fun hp'=>hp.length≤hp'.length∧∀ ρ w,HS E ν ρ hp w→∃ ρ':Nat→Loc,(∀ j,j<hp.length→ρ' j=ρ j)∧HS E ν ρ' hp' w):=by
 unfold zsv
 refine zaa (zad (Q:=fun p=>pats[k]? = some p) fun a h=>h) fun p hp0=>?_
 refine zae (fun hc=>?_) (fun _=>zac)
 simp only [Bool.and_eq_true,Bool.not_eq_true'] at hc
 obtain ⟨⟨⟨hok,hfit⟩,hlt⟩,hno⟩:=hc
 simp only [PatD.fit,Bool.and_eq_true] at hfit
 obtain ⟨⟨hfl,hplt⟩,hty⟩:=hfit
 have hoki:p.ids.ok=true:=by simp only [zfD,Bool.and_eq_true] at hok;exact hok.1.1
 generalize hpo:p.rd o=p'
 have htys:p'.tys=p.tys:=by rw [←hpo];cases o<;>rfl
 have hids:p'.ids=p.ids.rd o:=by rw [←hpo];exact PatD.ids_rd p o
 have hok1:p'.ids.ok=true:=by rw [hids];exact PatD.rd_ok hoki o
 have hfrom:∀ i x,nth p'.hp i=some x→∃ y,nth p.hp i=some y∧x=if o then y else y.froze:=fun i x hx=>by rw [←hpo] at hx;exact PatD.rd_of hx
 have hkl:∀ i x,nth p'.hp i=some x→x.kindLt (k+2)=true:=fun i x hx=>by
  obtain ⟨y,hy,e⟩:=hfrom i x hx
  have hok2:=hok
  simp only [zfD,Bool.and_eq_true] at hok2
  have:=zan hok2.1.2 (show nth p.ids.hp i=some (y.inst (zap 0 p.tys.length)) from by unfold PatD.ids;rw [zaI,hy];rfl)
  rw [Blk.inst_kindLt] at this
  rw [e]
  cases o
  ·simp only [Bool.false_eq_true,if_false];rw [←this];cases y<;>rfl
  ·exact this
 have hplt:p'.hp.all (zao (Blk.lt p'.hp.length))=true:=all_of_nth' fun i x hx=>by
  obtain ⟨y,hy,e⟩:=hfrom i x hx
  have h1:=zan hplt hy
  have hl:p'.hp.length=p.hp.length:=by rw [←hpo];cases o<;>simp [PatD.rd]
  rw [hl,e]
  cases o
  ·simp only [Bool.false_eq_true,if_false];rw [←h1];cases y<;>rfl
  ·exact h1
 have hty:p'.hp.all (zao (Blk.tyOk A.const p'.tys))=true:=all_of_nth' fun i x hx=>by
  obtain ⟨y,hy,e⟩:=hfrom i x hx
  have h1:=zan hty hy
  rw [htys,e]
  cases o
  ·simp only [Bool.false_eq_true,if_false];rw [←h1];cases y<;>rfl
  ·exact h1
 have hlen:p'.hp.length=p.hp.length:=by rw [←hpo];cases o<;>simp [PatD.rd]
 rw [←htys,←hlen]
 refine zaa (zqM p'.tys 0) fun as has=>zab ⟨by rw [List.length_append,zah];omega,fun ρ w h=>?_⟩
 generalize hm:znl hp.length b (p'.hp.length-1)=m
 have hbl:=zaY hb
 have hbr:BlkRel E ν ρ w (ρ b) (.obj o (k+2) a):=h.heap.blk b _ hb
 have hbr:(ρ b).nil=false∧(objK (k+2)).rel o w (ρ b).blk (ρ b).off (a.cells ν):=(zbn.plain hno).1 hbr
 obtain ⟨hnb,ρ0,hD0⟩:(ρ b).nil=false∧∃ ρ0,Dec (zc8 (k+2)) p'.ids w (ρ b).blk (ρ b).off (a.cells ν) ρ0:=⟨hbr.1,by have:=hbr.2;rw [zcJ hp0 hok] at this;rw [hids];exact this⟩
 have hD:=hD0.reroot hok1 (r:=ρ b) rfl rfl hnb
 generalize hρ1:(fun j=>if j=0 then ρ b else ρ0 j)=ρ1 at hD
 have hρ10:ρ1 0=ρ b:=by rw [←hρ1];rfl
 have hidx:∀ i x,nth p'.hp i=some x→nth p'.ids.hp i=some (x.inst (zap 0 p'.tys.length)):=fun i x hx=>by unfold PatD.ids;rw [zaI,hx];rfl
 have hof:∀ i x,nth p'.hp i=some x→x.own=true→(ρ1 i).nil=false→∀ y,x.foot w (ρ1 i) y→(Blk.obj o (k+2) a).foot w (ρ b) y:=fun i x hx ho hn y hf=>by
  show (objK (kb (k+2))).foot w (ρ b).blk (ρ b).off y
  rw [zey hno,zcJ hp0 hok]
  obtain ⟨y',hy',e⟩:=hfrom i x hx
  have ho1:o=true:=by
   cases o with
   | true=>rfl
   | false=>rw [e] at ho;simp only [Bool.false_eq_true,if_false] at ho;rw [Blk.froze_own] at ho;cases ho
  have hD2:=hD
  rw [hids,ho1] at hD2
  have hx2:=hidx i x hx
  rw [hids,ho1] at hx2
  exact ⟨_,ρ1,hD2,i,_,hx2,by rw [Blk.inst_own];exact ho,hn,by rw [zmz (by rw [Blk.inst_kindLt];exact hkl i x hx),Blk.inst_foot];exact hf⟩
 have hox:∀ i x,nth p'.hp i=some x→x.own=true→o=true:=fun i x hx ho=>by
  obtain ⟨y',hy',e⟩:=hfrom i x hx
  cases o with
  | true=>rfl
  | false=>rw [e] at ho;simp only [Bool.false_eq_true,if_false] at ho;rw [Blk.froze_own] at ho;cases ho
 have hor:∀ i x,nth p'.hp i=some x→(ρ1 i).nil=false→∀ y,x.rfoot w (ρ1 i) y→(Blk.obj o (k+2) a).rfoot w (ρ b) y:=fun i x hx hn y hf=>by
  show (objK (kb (k+2))).rfoot w (ρ b).blk (ρ b).off y
  rw [zey hno,zcJ hp0 hok]
  have hD2:=hD
  rw [hids] at hD2
  have hx2:=hidx i x hx
  rw [hids] at hx2
  obtain ⟨z,hz,e⟩:=PatD.rd_of hx2
  refine ⟨_,ρ1,hD2.rdF _,i,_,PatD.rd_at (o:=false) hz,hn,?_⟩
  simp only [Bool.false_eq_true,if_false]
  rw [zbp]
  have h3:rfootK (zc8 (k+2)) w (ρ1 i) z=rfootK (zc8 (k+2)) w (ρ1 i) (x.inst (zap 0 p'.tys.length)):=by
   rw [e]
   cases o
   ·simp only [Bool.false_eq_true,if_false];rw [zbp]
   ·rfl
  rw [h3,zjG (by rw [Blk.inst_kindLt];exact hkl i x hx),Blk.inst_rfoot]
  exact hf
 have hρm:∀ i,i<p'.hp.length→(fun j=>if j<hp.length then ρ j else ρ1 (j-hp.length+1)) (rnm m i)=ρ1 i:=fun i hi=>by
  rw [←hm]
  cases i with
  | zero=>rw [zmA.1];simp only [if_pos hbl];exact hρ10.symm
  | succ i =>
   rw [zmA.2 i (by omega)]
   simp only
   rw [if_neg (by omega),show hp.length+i-hp.length+1=i+1 from by omega]
 generalize hρ':(fun j=>if j<hp.length then ρ j else ρ1 (j-hp.length+1))=ρ' at hρm
 have hold:∀ j,j<hp.length→ρ' j=ρ j:=fun j hj=>by rw [←hρ'];exact if_pos hj
 refine ⟨ρ',hold,?_⟩
 generalize hl:p'.hp.map (Option.map fun x=>(x.inst as).ren m)=l
 have hll:l.length=p'.hp.length:=by rw [←hl];simp
 have hp1:0<p'.hp.length:=by
  simp only [PatD.ok,Bool.and_eq_true] at hok1
  have hr:=hok1.1.1
  unfold PatD.ids at hr
  cases hpp:p'.hp with
  | nil=>rw [hpp] at hr;cases hr
  | cons _ _=>simp
 have hnl:∀ i bk,nth l i=some bk→∃ x,nth p'.hp i=some x∧bk=(x.inst as).ren m:=fun i bk hi=>by
  rw [←hl,zaI] at hi
  obtain ⟨x,hx,rfl⟩:=Option.map_eq_some_iff.1 hi
  exact ⟨x,hx,rfl⟩
 have hcase:∀ j bk,nth (zaw (l.headD none) hp b++l.tail) j=some bk →
   (∃ i x,nth p'.hp i=some x∧j=rnm m i∧bk=(x.inst as).ren m∧ρ' j=ρ1 i)∨(nth hp j=some bk∧j≠b∧j<hp.length∧ρ' j=ρ j):=by
  intro j bk hj
  rw [zaE,zah] at hj
  split at hj
  ·rename_i hjl
   by_cases hjb:b=j
   ·subst hjb
    rw [zau,if_pos hjl] at hj
    have h0:nth l 0=some bk:=by
     cases l with
     | nil=>cases hj
     | cons x l=>exact hj
    obtain ⟨x,hx,e⟩:=hnl 0 bk h0
    exact .inl ⟨0,x,hx,by rw [←hm];exact zmA.1.symm,e,by rw [hold _ hjl];exact hρ10.symm⟩
   ·rw [zay _ _ _ _ hjb] at hj
    exact .inr ⟨hj,fun e=>hjb e.symm,hjl,hold j hjl⟩
  ·rename_i hjl
   have h1:nth l (j-hp.length+1)=some bk:=by
    cases l with
    | nil=>cases hj
    | cons x l=>exact hj
   obtain ⟨x,hx,e⟩:=hnl _ bk h1
   have hlt2:=zaY hx
   have hjm:j=rnm m (j-hp.length+1):=by rw [←hm,zmA.2 _ (by omega)];omega
   exact .inl ⟨_,x,hx,hjm,e,by have:=hρm _ hlt2;rw [←hjm] at this;exact this⟩
 have hblk:∀ i x,nth p'.hp i=some x→BlkRel E ν ρ' w (ρ1 i) ((x.inst as).ren m):=fun i x hx=>by
  have h1:=hD.h.blk i _ (hidx i x hx)
  have h2:BlkRel E (dget (a.cells ν)) ρ1 w (ρ1 i) (x.inst (zap 0 p'.tys.length)):=BlkRel.ofK (by rw [Blk.inst_kindLt];exact hkl i x hx) h1
  have h3:=Blk.inst_to zbE has (zan hty hx) h2
  exact h3.ren hρm (by rw [Blk.inst_lt];exact zan hplt hx)
 have hfo:∀ (x:Blk) w r,((x.inst as).ren m).foot w r=x.foot w r:=fun x w r=>by rw [Blk.ren_foot,Blk.inst_foot]
 have hro:∀ (x:Blk) w r,((x.inst as).ren m).rfoot w r=x.rfoot w r:=fun x w r=>by rw [Blk.ren_rfoot,Blk.inst_rfoot]
 have hown:∀ x:Blk,((x.inst as).ren m).own=x.own:=fun x=>by rw [Blk.ren_own,Blk.inst_own]
 refine ⟨⟨fun j bk hj=>?_,fun j j' bk bk' hj ho hj' hne hn hn' y hf hf'=>?_⟩,fun j bk hj=>?_,h.fr,?_,fun j hj=>by rw [hold j (by have:=h.len;omega)];exact h.keep j hj⟩
 ·rcases hcase j bk hj with ⟨i,x,hx,e1,e2,e3⟩ | ⟨e1,e2,e3,e4⟩
  ·rw [e3,e2];exact hblk i x hx
  ·rw [e4];exact (h.heap.blk j bk e1).keep hold (zan hlt e1)
 ·rcases hcase j bk hj with ⟨i,x,hx,e1,e2,e3⟩ | ⟨e1,e2,e3,e4⟩<;>rcases hcase j' bk' hj' with ⟨i',x',hx',f1,f2,f3⟩ | ⟨f1,f2,f3,f4⟩
  ·rw [e3] at hn hf
   rw [f3] at hn' hf'
   rw [e2,hfo] at hf
   rw [f2,hro] at hf'
   rw [e2,hown] at ho
   have:=hD.h.apart i i' _ _ (hidx i x hx) (by rw [Blk.inst_own];exact ho) (hidx i' x' hx') (fun e=>hne (by rw [e1,f1,e])) hn hn' y
   rw [zmz (by rw [Blk.inst_kindLt];exact hkl i x hx),zjG (by rw [Blk.inst_kindLt];exact hkl i' x' hx'),Blk.inst_foot,Blk.inst_rfoot] at this
   exact this hf hf'
  ·rw [e3] at hn hf
   rw [f4] at hn' hf'
   rw [e2,hfo] at hf
   rw [e2,hown] at ho
   exact h.heap.apart b j' _ bk' hb (hox i x hx ho) f1 (fun e=>f2 e.symm) hnb hn' y (hof i x hx ho hn y hf) hf'
  ·rw [e4] at hn hf
   rw [f3] at hn' hf'
   rw [f2,hro] at hf'
   exact h.heap.apart j b bk _ e1 ho hb e2 hn hnb y hf (hor i' x' hx' hn' y hf')
  ·rw [e4] at hn hf
   rw [f4] at hn' hf'
   exact h.heap.apart j j' bk bk' e1 ho f1 hne hn hn' y hf hf'
 ·rcases hcase j bk hj with ⟨i,x,hx,e1,e2,e3⟩ | ⟨e1,e2,e3,e4⟩
  ·rw [e3]
   cases hn:(ρ1 i).nil with
   | true=>exact .inl rfl
   | false =>
    rcases h.old b _ hb with g | g
    ·rw [hnb] at g;cases g
    ·refine .inr ⟨fun o1 y hf=>?_,fun y hf=>?_⟩
     ·rw [e2,hfo] at hf
      rw [e2,hown] at o1
      exact g.wr (hox i x hx o1) y (hof i x hx o1 hn y hf)
     ·rw [e2,hro] at hf
      exact g.rd y (hor i x hx hn y hf)
  ·rw [e4];exact h.old j bk e1
 ·rw [List.length_append,zah];have:=h.len;omega
theorem zef {m:List Nat} : ∀ {l:List (Option Blk)} {j:Nat} {hp:List (Option Blk)},(zco m j l hp).length=hp.length ∧
  ∀ q bk,nth (zco m j l hp) q=some bk→nth hp q=some bk∧(∀ i,j≤i→i<j+l.length→rnm m i=q→bk.solid=false)
 | [],j,hp=>⟨rfl,fun q bk h=>⟨h,fun i h1 h2 _=>by simp at h2;omega⟩⟩
 | x::l,j,hp=>by
  have step:∀ hp1:List (Option Blk),hp1.length=hp.length→(∀ q bk,nth hp1 q=some bk→nth hp q=some bk∧(rnm m j=q→bk.solid=false)) →
    (zco m (j+1) l hp1).length=hp.length∧∀ q bk,nth (zco m (j+1) l hp1) q=some bk→nth hp q=some bk∧(∀ i,j≤i→i<j+(x::l).length→rnm m i=q→bk.solid=false):=by
   intro hp1 h1 h2
   obtain ⟨e1,e2⟩:=zef (l:=l) (j:=j+1) (hp:=hp1) (m:=m)
   refine ⟨e1.trans h1,fun q bk hq=>?_⟩
   obtain ⟨g1,g2⟩:=e2 q bk hq
   obtain ⟨k1,k2⟩:=h2 q bk g1
   refine ⟨k1,fun i a1 a2 a3=>?_⟩
   rcases Nat.eq_or_lt_of_le a1 with rfl | a1
   ·exact k2 a3
   ·exact g2 i a1 (by simp at a2;omega) a3
  unfold zco
  cases hn:nth hp (rnm m j) with
  | none=>exact step hp rfl fun q bk hq=>⟨hq,fun e=>by rw [←e,hn] at hq;cases hq⟩
  | some y =>
   simp only
   split
   ·refine step _ (zah _ _ _) fun q bk hq=>?_
    obtain ⟨k1,k2⟩:=zaT hq
    exact ⟨k2,fun e=>absurd e.symm k1⟩
   ·rename_i ho
    refine step hp rfl fun q bk hq=>⟨hq,fun e=>?_⟩
    rw [←e,hn] at hq
    cases hq
    simpa using ho
def canL (bk:Option Blk) (r:Loc):Loc :=
 match bk with
 | some (.v _ _ _)=>if r.cap=0 then ⟨r.blk,r.off,true,r.len,r.cap,bif r.nil then r.raw else some ⟨r.blk,r.off,none⟩⟩ else r
 | some (.l _ _ _ _)=>if r.cap=0 then ⟨r.blk,r.off,true,r.len,r.cap,bif r.nil then r.raw else some ⟨r.blk,r.off,none⟩⟩ else r
 | _=>r
theorem zvX (bk:Option Blk) (r:Loc):(canL bk r).len=r.len∧(canL bk r).cap=r.cap:=by
 unfold canL
 split
 ·split<;>exact ⟨rfl,rfl⟩
 ·split<;>exact ⟨rfl,rfl⟩
 ·exact ⟨rfl,rfl⟩
theorem znP (bk:Option Blk) (r:Loc):(canL bk r).blk=r.blk∧(canL bk r).off=r.off∧(canL bk r).slice=r.slice∧((canL bk r).nil=false→r.nil=false):=by
 unfold canL
 split
 ·split
  ·refine ⟨rfl,rfl,?_,fun h=>by cases h⟩
   simp only [Loc.slice,cond_true]
  ·exact ⟨rfl,rfl,rfl,id⟩
 ·split
  ·refine ⟨rfl,rfl,?_,fun h=>by cases h⟩
   simp only [Loc.slice,cond_true]
  ·exact ⟨rfl,rfl,rfl,id⟩
 ·exact ⟨rfl,rfl,rfl,id⟩
theorem Lf.conc_same {ρ ρ':Nat→Loc} (h:∀ i,(ρ' i).blk=(ρ i).blk∧(ρ' i).off=(ρ i).off∧(ρ' i).slice=(ρ i).slice) (l:Lf):l.conc ν ρ'=l.conc ν ρ:=by
 cases l with
 | p b o=>simp only [Lf.conc];rw [(h b).1,(h b).2.1]
 | vec b=>simp only [Lf.conc];exact (h b).2.2
 | fnp f bs =>
  simp only [Lf.conc,zbd]
  congr 3
  funext b
  rw [(h b).1,(h b).2.1]
 | ifp t b=>simp only [Lf.conc];rw [(h b).1,(h b).2.1]
 | mp b=>simp only [Lf.conc];rw [(h b).1]
 | alt a l =>
  simp only [Lf.conc,zbk]
  split
  ·rename_i x _
   cases x with
   | p b n=>simp only [Alt.conc];rw [(h b).1,(h b).2.1]
   | ifp t b=>simp only [Alt.conc];rw [(h b).1,(h b).2.1]
   | nilp=>rfl
   | nili=>rfl
  ·rfl
 | str=>rfl
 | e t _ _=>cases t<;>rfl
 | i=>rfl
 | b=>rfl
 | gp=>rfl
 | nilp=>rfl
 | v=>rfl
theorem BlkRel.nofoot {ρ:Nat→Loc} {w:World} {r:Loc} {bk:Blk} (h:BlkRel E ν ρ w r bk) (hs:bk.solid=false) (ho:bk.own=true) {b:Nat} : ¬ bk.foot w r b:=by
 cases bk with
 | l o f ts a =>
  have ho:o=true:=ho
  subst ho
  have hf:f=true:=by simpa [Blk.solid] using hs
  intro hb
  have:=LRel.full h hf
  have hb2:=hb.2
  omega
 | c=>exact absurd (hs.symm.trans ho) (by decide)
 | v=>exact absurd (hs.symm.trans ho) (by decide)
 | obj=>exact absurd (hs.symm.trans ho) (by decide)
 | m=>exact absurd (hs.symm.trans ho) (by decide)
theorem BlkRel.toK {n:Nat} {ρ ρ':Nat→Loc} {w:World} {r:Loc} {bk:Blk} (hk:bk.kindLt n=true) (hfl:bk.flat=true) (h:BlkRel E ν ρ w r bk)
  (hs:∀ i,(ρ' i).blk=(ρ i).blk∧(ρ' i).off=(ρ i).off∧(ρ' i).slice=(ρ i).slice):BlkRelK (zc8 n) ν ρ' w (canL (some bk) r) bk:=by
 cases bk with
 | c o cs =>
  have h:CBlk ν ρ w r o cs:=h
  exact (⟨h.nil,h.lt,fun i l hl=>by rw [Lf.conc_same hs];exact h.cell i l hl,h.own,h.fz⟩:CBlk ν ρ' w r o cs)
 | obj o k a =>
  simp only [Blk.kindLt,Bool.and_eq_true,Nat.blt_eq,Bool.not_eq_true'] at hk
  have h:=(zbn.plain hk.2).1 h
  refine ⟨h.1,?_⟩
  rw [zc8,if_pos hk.1]
  exact h.2
 | m o kt vt cs =>
  have h:MRel ν ρ w r kt vt cs:=h
  obtain ⟨es,clock,m1,m2⟩:=h.ents
  refine (⟨h.nil,⟨es,clock,m1,?_⟩,h.good⟩:MRel ν ρ' w r kt vt cs)
  rw [zcP (cs:=cs) (cs':=cs) (ν':=ν) (ρ':=ρ) (List.map_congr_left fun x _=>Lf.conc_same hs x)]
  exact m2
 | l o f ts a =>
  have h:LRel E w r o f ts (a.cells ν):=h
  have hfl:ts.all LT.flat=true:=hfl
  refine ⟨hfl,?_,?_⟩
  ·simp only [canL]
   split
   ·rename_i hc
    have hl:r.len=0:=by have:=h.row.cap;omega
    refine ⟨⟨fun _=>⟨hl,hc⟩,fun e=>(by cases e),h.row.pos,h.row.len,h.row.cap,fun i hi=>?_,fun _ e=>(by cases e),fun _ e=>by cases e⟩,fun _ e=>?_,h.full⟩
    ·rw [h.row.len,hl,Nat.zero_mul] at hi
     omega
    ·have e:r.len<r.cap:=e
     omega
   ·exact LRel.congr hfl h fun _=>rfl
  ·simp only [canL]
   split
   ·intro _;rfl
   ·rename_i hc;intro e;exact absurd e hc
 | v o ts a =>
  have h:VRel E w r o ts (a.cells ν):=h
  have hfl:ts.all LT.flat=true:=hfl
  refine ⟨hfl,?_,?_⟩
  ·simp only [canL]
   split
   ·rename_i hc
    have hl:r.len=0:=by have:=h.cap;omega
    refine ⟨fun _=>⟨hl,hc⟩,fun e=>(by cases e),h.pos,h.len,h.cap,fun i hi=>?_,fun _ e=>(by cases e),fun _ e=>by cases e⟩
    rw [h.len,hl,Nat.zero_mul] at hi
    omega
   ·exact h.congr hfl fun _=>rfl
  ·simp only [canL]
   split
   ·intro _;rfl
   ·rename_i hc;intro e;exact absurd e hc
theorem zjH:∀ {ts:List Ty} {ds:List DV},ds.length=ts.length→(nrmZ ts ds).length=ts.length
 | [],[],_=>rfl
 | [],_::_,h=>by simp at h
 | _::_,[],h=>by simp at h
 | t::ts,d::ds,h=>by simp [nrmZ,zjH (ts:=ts) (ds:=ds) (by simpa using h)]
theorem zqN (t:Ty) (d:DV):t.eqAt d (nrm t d):=by cases t<;>rfl
theorem zqO:∀ {ts:List Ty} {as:List A} (pre:List DV),as.length=ts.length→PEq ν (dget (pre++nrmZ ts (as.map (A.den ν)))) ts as (zap pre.length ts.length)
 | [],[],_,_=>trivial
 | [],_::_,_,h=>by simp at h
 | _::_,[],_,h=>by simp at h
 | t::ts,a::as,pre,h=>by
  refine ⟨?_,?_⟩
  ·have:dget (pre++nrmZ (t::ts) ((a::as).map (A.den ν))) pre.length=nrm t (a.den ν):=by
    simp [nrmZ]
   show t.eqAt (a.den ν) (dget _ pre.length)
   rw [this]
   exact zqN t _
  ·have:=zqO (ts:=ts) (as:=as) (pre++[nrm t (a.den ν)]) (by simpa using h)
   simp only [List.append_assoc,List.singleton_append,List.length_append,List.length_cons,List.length_nil,Nat.zero_add] at this
   exact this
theorem zjI {o:Bool} {k b:Nat} {hp:List (Option Blk)} : M.sat F ν (zmd o k b hp) (fun hp'=>hp'.length=hp.length∧∀ ρ w,HS E ν ρ hp w→HS E ν ρ hp' w):=by
 unfold zmd
 refine zaa (zad (Q:=fun p=>pats[k]? = some p) fun a h=>h) fun p hp0=>?_
 dsimp only
 generalize hg:zd1 p.tys.length ⟨[some (.s (.one (.p 0 (.c 0))))],p.hp⟩ ⟨[some (.s (.one (.p b (.c 0))))],hp⟩=g
 have hgl:g.1.length=p.tys.length:=by rw [←hg];exact zeZ _ _ _
 refine zae (fun hc=>?_) (fun _=>zac)
 simp only [Bool.and_eq_true,Bool.not_eq_true'] at hc
 obtain ⟨⟨⟨⟨⟨hok,hfit⟩,hm0⟩,hs1⟩,hs2⟩,hno⟩:=hc
 have hm0:=Nat.eq_of_beq_eq_true hm0
 simp only [PatD.fit,Bool.and_eq_true] at hfit
 obtain ⟨⟨hfl,hplt⟩,hty⟩:=hfit
 have hoki:p.ids.ok=true:=by simp only [zfD,Bool.and_eq_true] at hok;exact hok.1.1
 generalize hpo:p.rd o=p' at hs1 hs2
 have htys:p'.tys=p.tys:=by rw [←hpo];cases o<;>rfl
 have hlen:p'.hp.length=p.hp.length:=by rw [←hpo];cases o<;>simp [PatD.rd]
 have hids:p'.ids=p.ids.rd o:=by rw [←hpo];exact PatD.ids_rd p o
 have hok1:p'.ids.ok=true:=by rw [hids];exact PatD.rd_ok hoki o
 have hfrom:∀ i x,nth p'.hp i=some x→∃ y,nth p.hp i=some y∧x=if o then y else y.froze:=fun i x hx=>by rw [←hpo] at hx;exact PatD.rd_of hx
 have hkl:∀ i x,nth p'.hp i=some x→x.kindLt (k+2)=true:=fun i x hx=>by
  obtain ⟨y,hy,e⟩:=hfrom i x hx
  have hok2:=hok
  simp only [zfD,Bool.and_eq_true] at hok2
  have:=zan hok2.1.2 (show nth p.ids.hp i=some (y.inst (zap 0 p.tys.length)) from by unfold PatD.ids;rw [zaI,hy];rfl)
  rw [Blk.inst_kindLt] at this
  rw [e]
  cases o
  ·simp only [Bool.false_eq_true,if_false];rw [←this];cases y<;>rfl
  ·exact this
 have hfl:p'.hp.all (zao Blk.flat)=true:=all_of_nth' fun i x hx=>by
  obtain ⟨y,hy,e⟩:=hfrom i x hx
  have h1:=zan hfl hy
  rw [e]
  cases o
  ·simp only [Bool.false_eq_true,if_false];rw [←h1];cases y<;>rfl
  ·exact h1
 have hty:p'.hp.all (zao (Blk.tyOk A.const p'.tys))=true:=all_of_nth' fun i x hx=>by
  obtain ⟨y,hy,e⟩:=hfrom i x hx
  have h1:=zan hty hy
  rw [htys,e]
  cases o
  ·simp only [Bool.false_eq_true,if_false];rw [←h1];cases y<;>rfl
  ·exact h1
 rw [←htys] at hgl ⊢
 refine zaa (zaf (Q:=fun q=>q.cells ν=nrmZ p'.tys (g.1.map (A.den ν))) fun q h=>A.cells_of_den h) fun q hq=>zab ⟨?_,fun ρ w h=>?_⟩
 ·rw [zah,(zef (m:=g.2)).1]
 have hk:=zef (m:=g.2) (l:=p.hp.tail) (j:=1) (hp:=hp)
 generalize zco g.2 1 p.hp.tail hp=hpk at hk ⊢
 obtain ⟨hkl1,hks⟩:=hk
 -- the pattern holds
 have hpe:PEq ν (dget (q.cells ν)) p'.tys g.1 (zap 0 p'.tys.length):=by
  rw [hq]
  exact zqO [] hgl
 have hsub:HRel E ν (fun j=>ρ (rnm g.2 j)) (p'.hp.map (Option.map (Blk.inst g.1))) w:=h.heap.sub hs1 hs2
 have hrel:HRel E (dget (q.cells ν)) (fun j=>ρ (rnm g.2 j)) (p'.hp.map (Option.map (Blk.inst (zap 0 p'.tys.length)))) w:=HRel.inst zbE hpe hty hsub
 generalize hρc:(fun i=>canL (nth p'.ids.hp i) (ρ (rnm g.2 i)))=ρc
 have hcs:∀ i,(ρc i).blk=(ρ (rnm g.2 i)).blk∧(ρc i).off=(ρ (rnm g.2 i)).off∧(ρc i).slice=(ρ (rnm g.2 i)).slice:=fun i=>by
  rw [←hρc];have:=znP (nth p'.ids.hp i) (ρ (rnm g.2 i));exact ⟨this.1,this.2.1,this.2.2.1⟩
 have hcn:∀ i,(ρc i).nil=false→(ρ (rnm g.2 i)).nil=false:=fun i=>by
  rw [←hρc];exact (znP (nth p'.ids.hp i) (ρ (rnm g.2 i))).2.2.2
 have hidx:∀ i x,nth p'.hp i=some x→nth p'.ids.hp i=some (x.inst (zap 0 p'.tys.length)):=fun i x hx=>by unfold PatD.ids;rw [zaI,hx];rfl
 have hidx':∀ i y,nth p'.ids.hp i=some y→∃ x,nth p'.hp i=some x∧y=x.inst (zap 0 p'.tys.length):=fun i y hy=>by
  unfold PatD.ids at hy
  rw [zaI] at hy
  obtain ⟨x,hx,e⟩:=Option.map_eq_some_iff.1 hy
  exact ⟨x,hx,e.symm⟩
 have hfK:∀ i x,nth p'.hp i=some x→footK (zc8 (k+2)) w (ρc i) (x.inst (zap 0 p'.tys.length))=x.foot w (ρ (rnm g.2 i))∧rfootK (zc8 (k+2)) w (ρc i) (x.inst (zap 0 p'.tys.length))=x.rfoot w (ρ (rnm g.2 i)):=fun i x hx=>by
  rw [zmz (by rw [Blk.inst_kindLt];exact hkl i x hx),zjG (by rw [Blk.inst_kindLt];exact hkl i x hx),Blk.inst_foot,Blk.inst_rfoot]
  have:=hcs i
  have hll:(ρc i).len=(ρ (rnm g.2 i)).len∧(ρc i).cap=(ρ (rnm g.2 i)).cap:=by rw [←hρc];exact zvX _ _
  cases x<;>refine ⟨?_,?_⟩<;>simp only [Blk.foot,Blk.rfoot]<;>first | rw [this.1,hll.1,hll.2] | rw [this.1,this.2.1] | rw [this.1]
 have hD:Dec (zc8 (k+2)) p'.ids w (ρ b).blk (ρ b).off (q.cells ν) ρc:=by
  refine ⟨by rw [hq];exact zjH (by simpa using hgl),by rw [(hcs 0).1,hm0],by rw [(hcs 0).2.1,hm0],fun i y hy=>?_,fun i i' y y' hy ho hy' hne hn hn' z hf hf'=>?_⟩
  ·obtain ⟨x,hx,e⟩:=hidx' i y hy
   have:=(hrel.blk i y (by rw [←hy];rfl)).toK (n:=k+2) (ρ':=ρc) (by rw [e,Blk.inst_kindLt];exact hkl i x hx) (by rw [e,Blk.inst_flat];exact zan hfl hx) hcs
   rw [←hy] at this
   rw [←hρc] at this ⊢
   exact this
  ·obtain ⟨x,hx,rfl⟩:=hidx' i y hy
   obtain ⟨x',hx',rfl⟩:=hidx' i' y' hy'
   rw [(hfK i x hx).1] at hf
   rw [(hfK i' x' hx').2] at hf'
   have:=hrel.apart i i' _ _ hy ho hy' hne (hcn i hn) (hcn i' hn') z
   rw [Blk.inst_foot,Blk.inst_rfoot] at this
   exact this hf hf'
 have hact:∀ i x,nth p'.hp i=some x→∃ x',nth hp (rnm g.2 i)=some x'∧(x.own=true→x'.own=true)∧(x.own=true→∀ w r b,x.foot w r b→x'.foot w r b)∧∀ w r,x.rfoot w r=x'.rfoot w r:=fun i x hx=>by
  obtain ⟨x',e1,_,e3⟩:=zft hs1 (j:=i) (b:=x.inst g.1) (by rw [zaI,hx];rfl)
  refine ⟨x',e1,fun ho=>(Blk.sub_spec (E:=E) (ν:=ν) e3).1 (by rw [Blk.inst_own];exact ho),fun ho w r b hb=>?_,fun w r=>?_⟩
  ·exact Blk.sub_foot e3 (by rw [Blk.inst_own];exact ho) (by rw [Blk.inst_foot];exact hb)
  ·rw [←Blk.sub_rfoot e3,Blk.inst_rfoot]
 have hroot:∃ x0,nth p'.hp 0=some x0∧(ρ b).nil=false:=by
  have hok2:=hok1
  simp only [PatD.ok,Bool.and_eq_true] at hok2
  have hr:=hok2.1.1
  cases h0:nth p'.hp 0 with
  | none=>unfold PatD.ids at hr;rw [zaI,h0] at hr;cases hr
  | some x0 =>
   refine ⟨x0,rfl,?_⟩
   rw [hidx 0 x0 h0] at hr
   have:=hrel.blk 0 _ (hidx 0 x0 h0)
   cases x0 with
   | c o cs =>
    have:=CBlk.nil this
    rwa [hm0] at this
   | v=>cases hr
   | obj=>cases hr
   | l=>cases hr
   | m=>cases hr
 obtain ⟨x0,hx0,hnb⟩:=hroot
 have hobj:BlkRel E ν ρ w (ρ b) (.obj o (k+2) q):=(zbn.plain hno).2 ⟨hnb,by rw [zcJ hp0 hok];rw [hids] at hD;exact ⟨ρc,hD⟩⟩
 -- what it writes and looks at
 have hof:o=true→∀ z,(Blk.obj o (k+2) q).foot w (ρ b) z→∃ i x,nth p'.hp i=some x∧x.own=true∧(ρ (rnm g.2 i)).nil=false∧x.foot w (ρ (rnm g.2 i)) z:=fun ho1 z hz=>by
  have hz:(objK (kb (k+2))).foot w (ρ b).blk (ρ b).off z:=hz
  rw [zey hno,zcJ hp0 hok] at hz
  obtain ⟨d1,ρ1,D1,i,y,hy,ho,hn,hf⟩:=hz
  rw [←ho1,←hids] at D1 hy
  obtain ⟨x,hx,rfl⟩:=hidx' i y hy
  have hu:=D1.uniq _ hok1 hD (i+1) i _ (by omega) hy
  have hn2:=(hu.nil _ (D1.h.blk i _ hy) (hD.h.blk i _ hy)).symm.trans hn
  rw [hu.foot _ hn,(hfK i x hx).1] at hf
  exact ⟨i,x,hx,by rw [Blk.inst_own] at ho;exact ho,hcn i hn2,hf⟩
 have hor:∀ z,(Blk.obj o (k+2) q).rfoot w (ρ b) z→∃ i x,nth p'.hp i=some x∧(ρ (rnm g.2 i)).nil=false∧x.rfoot w (ρ (rnm g.2 i)) z:=fun z hz=>by
  have hz:(objK (kb (k+2))).rfoot w (ρ b).blk (ρ b).off z:=hz
  rw [zey hno,zcJ hp0 hok] at hz
  obtain ⟨d1,ρ1,D1,i,y,hy,hn,hf⟩:=hz
  obtain ⟨z0,hz0,e⟩:=PatD.rd_of hy
  simp only [Bool.false_eq_true,if_false] at e
  have hyo:nth p'.ids.hp i=some (if o then z0 else z0.froze):=by rw [hids];exact PatD.rd_at hz0
  obtain ⟨x,hx,e2⟩:=hidx' i _ hyo
  have hDF:Dec (zc8 (k+2)) (p.ids.rd false) w (ρ b).blk (ρ b).off (q.cells ν) ρc:=by
   have:=hD
   rw [hids] at this
   exact this.rdF _
  have hu:=D1.uniq _ (PatD.rd_ok hoki false) hDF (i+1) i _ (by omega) hy
  have hn2:=(hu.nil _ (D1.h.blk i _ hy) (hDF.h.blk i _ hy)).symm.trans hn
  rw [hu.rfoot _ hn,e,zbp] at hf
  have h3:rfootK (zc8 (k+2)) w (ρc i) z0=rfootK (zc8 (k+2)) w (ρc i) (x.inst (zap 0 p'.tys.length)):=by
   rw [←e2]
   cases o
   ·simp only [Bool.false_eq_true,if_false];rw [zbp]
   ·rfl
  rw [h3,(hfK i x hx).2] at hf
  exact ⟨i,x,hx,hcn i hn2,hf⟩
 have hbl:b<hp.length:=by
  obtain ⟨x',e1,_⟩:=hact 0 x0 hx0
  rw [hm0] at e1
  exact zaY e1
 have hcase:∀ j bk,nth (zaw (some (.obj o (k+2) q)) hpk b) j=some bk→(j=b∧bk = .obj o (k+2) q)∨(j≠b∧nth hp j=some bk∧∀ i x,nth p'.hp i=some x→rnm g.2 i=j→bk.solid=false):=by
  intro j bk hj
  by_cases hjb:b=j
  ·subst hjb
   rw [zau,if_pos (by omega)] at hj
   cases hj
   exact .inl ⟨rfl,rfl⟩
  ·rw [zay _ _ _ _ hjb] at hj
   obtain ⟨g1,g2⟩:=hks j bk hj
   refine .inr ⟨fun e=>hjb e.symm,g1,fun i x hx hi=>?_⟩
   cases i with
   | zero=>rw [hm0] at hi;exact absurd hi hjb
   | succ i=>exact g2 (i+1) (by omega) (by have:=zaY hx;rw [List.length_tail,←hlen];omega) hi
 refine ⟨⟨fun j bk hj=>?_,fun j j' bk bk' hj ho hj' hne hn hn' z hf hf'=>?_⟩,fun j bk hj=>?_,h.fr,by rw [zah,hkl1];exact h.len,h.keep⟩
 ·rcases hcase j bk hj with ⟨rfl,rfl⟩ | ⟨_,e1,_⟩
  ·exact hobj
  ·exact h.heap.blk j bk e1
 ·rcases hcase j bk hj with ⟨e1,e2⟩ | ⟨e1,e2,e3⟩<;>rcases hcase j' bk' hj' with ⟨f1,f2⟩ | ⟨f1,f2,f3⟩
  ·exact absurd (e1.trans f1.symm) hne
  ·subst e1
   rw [e2] at hf
   rw [e2] at ho
   obtain ⟨i,x,hx,hxo,hxn,hxf⟩:=hof ho z hf
   obtain ⟨x',g1,g2,g3,_⟩:=hact i x hx
   have hxf:=g3 hxo _ _ _ hxf
   refine h.heap.apart (rnm g.2 i) j' x' bk' g1 (g2 hxo) f2 (fun e=>?_) hxn hn' z hxf hf'
   have:=f3 i x hx e
   rw [e,f2] at g1
   cases g1
   rw [e] at hxf
   exact (h.heap.blk _ _ f2).nofoot this (g2 hxo) hxf
  ·subst f1
   rw [f2] at hf'
   obtain ⟨i,x,hx,hxn,hxf⟩:=hor z hf'
   obtain ⟨x',g1,_,_,g3⟩:=hact i x hx
   rw [g3] at hxf
   refine h.heap.apart j (rnm g.2 i) bk x' e2 ho g1 (fun e=>?_) hn hxn z hf hxf
   exact (h.heap.blk _ _ e2).nofoot (e3 i x hx e.symm) ho hf
  ·exact h.heap.apart j j' bk bk' e2 ho f2 hne hn hn' z hf hf'
 ·rcases hcase j bk hj with ⟨rfl,rfl⟩ | ⟨_,e1,_⟩
  ·refine .inr ⟨fun ho1 z hf=>?_,fun z hf=>?_⟩
   ·obtain ⟨i,x,hx,hxo,hxn,hxf⟩:=hof ho1 z hf
    obtain ⟨x',g1,g2,g3,_⟩:=hact i x hx
    have hxf:=g3 hxo _ _ _ hxf
    rcases h.old _ _ g1 with o | o
    ·rw [hxn] at o;cases o
    ·exact o.wr (g2 hxo) z hxf
   ·obtain ⟨i,x,hx,hxn,hxf⟩:=hor z hf
    obtain ⟨x',g1,_,_,g3⟩:=hact i x hx
    rw [g3] at hxf
    rcases h.old _ _ g1 with o | o
    ·rw [hxn] at o;cases o
    ·exact o.rd z hxf
  ·exact h.old j bk e1
theorem zdi {ks:List Nat} : ∀ (n j:Nat) (hp:List (Option Blk)),M.sat F ν (zfm ks n j hp) (fun hp'=>hp.length≤hp'.length∧∀ ρ w,HS E ν ρ hp w→∃ ρ':Nat→Loc,(∀ j,j<hp.length→ρ' j=ρ j)∧HS E ν ρ' hp' w)
 | 0,j,hp=>zab ⟨Nat.le_refl _,fun ρ w h=>⟨ρ,fun _ _=>rfl,h⟩⟩
 | n+1,j,hp=>by
  unfold zfm
  refine zae (fun _=>?_) (fun _=>zab ⟨Nat.le_refl _,fun ρ w h=>⟨ρ,fun _ _=>rfl,h⟩⟩)
  split
  ·rename_i o k a hj
   refine zae (fun _=>?_) (fun _=>zdi n (j+1) hp)
   refine zaa (zrG (E:=E) hj) fun hp1 h1=>zag (zdi n (j+1) hp1) fun hp2 h2=>⟨Nat.le_trans h1.1 h2.1,fun ρ w h=>?_⟩
   obtain ⟨ρ1,e1,e2⟩:=h1.2 ρ w h
   obtain ⟨ρ2,e3,e4⟩:=h2.2 ρ1 w e2
   exact ⟨ρ2,fun i hi=>(e3 i (Nat.lt_of_lt_of_le hi h1.1)).trans (e1 i hi),e4⟩
  ·exact zdi n (j+1) hp
theorem zjJ {ks:List Nat} {hp:List (Option Blk)} : M.sat F ν (zmc ks hp) (fun hp'=>hp.length≤hp'.length∧∀ ρ w,HS E ν ρ hp w→∃ ρ':Nat→Loc,(∀ j,j<hp.length→ρ' j=ρ j)∧HS E ν ρ' hp' w):=by
 unfold zmc
 exact zae (fun _=>zab ⟨Nat.le_refl _,fun ρ w h=>⟨ρ,fun _ _=>rfl,h⟩⟩) (fun _=>zdi _ _ _)
theorem HS.retell {ρ:Nat→Loc} {hp:List (Option Blk)} {w:World} {b:Nat} {bk bk':Blk} (h:HS E ν ρ hp w) (hb:nth hp b=some bk) (ho:bk'.own=bk.own) (hf:∀ w r,bk'.foot w r=bk.foot w r)
  (hr:∀ w r,bk'.rfoot w r=bk.rfoot w r) (hrel:BlkRel E ν ρ w (ρ b) bk'):HS E ν ρ (zaw (some bk') hp b) w:=by
 have hbl:=zaY hb
 have at':∀ j x,nth (zaw (some bk') hp b) j=some x→∃ y,nth hp j=some y∧x.own=y.own∧(∀ w r,x.foot w r=y.foot w r)∧(∀ w r,x.rfoot w r=y.rfoot w r)∧BlkRel E ν ρ w (ρ j) x:=fun j x hj=>by
  by_cases he:b=j
  ·subst he
   rw [zau,if_pos hbl] at hj
   cases hj
   exact ⟨bk,hb,ho,hf,hr,hrel⟩
  ·rw [zay _ _ _ _ he] at hj
   exact ⟨x,hj,rfl,fun _ _=>rfl,fun _ _=>rfl,h.heap.blk j x hj⟩
 refine ⟨⟨fun j x hj=>(at' j x hj).choose_spec.2.2.2.2,fun j j' x x' hj hxo hj' hne hn hn' z hz=>?_⟩,fun j x hj=>?_,h.fr,by rw [zah];exact h.len,h.keep⟩
 ·obtain ⟨y,a1,a2,a3,a4,_⟩:=at' j x hj
  obtain ⟨y',b1,b2,b3,b4,_⟩:=at' j' x' hj'
  rw [a3] at hz
  rw [b4]
  exact h.heap.apart j j' y y' a1 (by rw [←a2];exact hxo) b1 hne hn hn' z hz
 ·obtain ⟨y,a1,a2,a3,a4,_⟩:=at' j x hj
  rw [a2,a3,a4]
  exact h.old j y a1
theorem zsZ {k:Nat} : kb (k+1000)=k:=by
 have:zdD (k+1000)=true:=Nat.ble_eq_true_of_le (by omega)
 rw [zwN this];omega
theorem zs0 {b:Nat} {hp:List (Option Blk)} : M.sat F ν (zxb b hp) (fun hp'=>hp'.length=hp.length∧∀ ρ w,HS E ν ρ hp w→HS E ν ρ hp' w):=by
 unfold zxb
 split
 ·rename_i o k a hb
  refine zae (fun _=>zac) (fun hk=>?_)
  have hk:zdD k=false:=by simpa using hk
  refine zaa (zaf (Q:=fun q=>q.cells ν=[.b true,.l (a.cells ν)]) fun q h=>A.cells_of_den h) fun q hq=>zab ⟨zah _ _ _,fun ρ w h=>?_⟩
  have h1:=(zbn.plain hk).1 (h.heap.blk b _ hb)
  have ho:zdD (k+1000)=true:=Nat.ble_eq_true_of_le (by omega)
  refine h.retell hb rfl (fun w r=>?_) (fun w r=>?_) ⟨fun e=>(by rw [ho] at e;cases e),fun _=>?_⟩
  ·simp only [Blk.foot,zsZ,zey hk]
  ·simp only [Blk.rfoot,zsZ,zey hk]
  ·rw [zsZ,hq]
   exact ⟨by rw [h1.1];rfl,fun _=>h1.2⟩
 ·exact zac
theorem zjK {b:Nat} {hp:List (Option Blk)} : M.sat F ν (zme b hp) (fun hp'=>hp'.length=hp.length∧∀ ρ w,HS E ν ρ hp w→HS E ν ρ hp' w):=by
 unfold zme
 split
 ·rename_i o k a hb
  refine zae (fun hk=>?_) (fun _=>zac)
  simp only [Bool.and_eq_true,Bool.not_eq_true'] at hk
  obtain ⟨hk,hk2⟩:=hk
  refine zaa (zaf (Q:=fun r=>r.bool ν=((a.cells ν).getD 0 default).toB) fun r h=>A.bool_of_den (by rw [h];simp [zbf])) fun r hr=>?_
  refine zaa (zbl (Q:=fun _=>((a.cells ν).getD 0 default).toB=true) fun h=>by rw [←hr];exact h) fun _ hg=>?_
  refine zaa (zaf (Q:=fun q=>q.cells ν=((a.cells ν).getD 1 default).toL) fun q h=>A.cells_of_den (by rw [h];simp [zbf])) fun q hq=>zab ⟨zah _ _ _,fun ρ w h=>?_⟩
  have h1:zbn o k w (ρ b) (a.cells ν):=h.heap.blk b _ hb
  obtain ⟨h2,h3⟩:=h1.2 hk
  have hn:(ρ b).nil=false:=by
   rw [hg] at h2
   cases hx:(ρ b).nil with
   | false=>rfl
   | true=>rw [hx] at h2;cases h2
  have h3:=h3 hn
  have hkb:=zwN hk
  generalize k-1000=k' at hk2 hkb ⊢
  have hown:(Blk.obj o k' q).own=(Blk.obj o k a).own:=rfl
  refine h.retell hb hown (fun w r=>?_) (fun w r=>?_) ((zbn.plain hk2).2 ⟨hn,?_⟩)
  ·simp only [Blk.foot,hkb,zey hk2]
  ·simp only [Blk.rfoot,hkb,zey hk2]
  ·rw [hkb] at h3
   rw [hq];exact h3
 ·exact zac
theorem zaL {m:List Nat} : ∀ (l:List (Option Blk)) (j:Nat) (hp:List (Option Blk)),M.sat F ν (zcI m j l hp) (fun hp'=>hp'.length=hp.length∧∀ ρ w,HS E ν ρ hp w→HS E ν ρ hp' w)
 | [],j,hp=>zab ⟨rfl,fun _ _ h=>h⟩
 | none::l,j,hp=>zaL l (j+1) hp
 | some (.c _ _)::l,j,hp=>zaL l (j+1) hp
 | some (.v _ _ _)::l,j,hp=>zaL l (j+1) hp
 | some (.l _ _ _ _)::l,j,hp=>zaL l (j+1) hp
 | some (.m _ _ _ _)::l,j,hp=>zaL l (j+1) hp
 | some (.obj _ 0 _)::l,j,hp=>zaL l (j+1) hp
 | some (.obj _ 1 _)::l,j,hp=>zaL l (j+1) hp
 | some (.obj _ (k+2) _)::l,j,hp=>by
  unfold zcI
  split
  ·exact zaa (zjI (E:=E)) fun hp1 h1=>zag (zaL l (j+1) hp1) fun hp2 h2=>⟨h2.1.trans h1.1,fun ρ w h=>h2.2 ρ w (h1.2 ρ w h)⟩
  ·exact zae (fun _=>zaa (zjK (E:=E)) fun hp1 h1=>zag (zaL l (j+1) hp1) fun hp2 h2=>⟨h2.1.trans h1.1,fun ρ w h=>h2.2 ρ w (h1.2 ρ w h)⟩) (fun _=>zaL l (j+1) hp)
  ·exact zaL l (j+1) hp
theorem zjL {K:Nat} (hS:SigsOK P I K S F) (hE:E.Ok K) {f:FuncId} {vs:List V} {hp:List (Option Blk)} : M.sat F ν (zmf P S f vs hp) (fun res=>∀ ρ w,(∀ v∈vs,V.good ν v)→HS E ν ρ hp w→I w →
  (callFunc f (vs.map (V.conc ν ρ)).toArray).run P w = .ok (.enter f (vs.map (V.conc ν ρ)).toArray) w∧zez P E ν f vs hp ρ w res):=by
 unfold zmf
 refine zaa (R:=fun hp1=>hp1.length=hp.length∧∀ ρ w,HS E ν ρ hp w→HS E ν ρ hp1 w) ?_ fun hp1 h1=>?_
 ·split
  ·exact zae (fun _=>zaL _ _ _) (fun _=>zab ⟨rfl,fun _ _ h=>h⟩)
  ·exact zab ⟨rfl,fun _ _ h=>h⟩
 refine zaa (zlu hS hE) fun res hres=>?_
 split
 ·exact zab fun ρ w hvs hh hI=>hres ρ w hvs (h1.2 ρ w hh) hI
 ·rename_i v hp2
  refine zae (fun _=>zab fun ρ w hvs hh hI=>?_) (fun _=>zae (fun hv=>?_) (fun _=>zac))
  ·obtain ⟨e1,e2⟩:=hres ρ w hvs (h1.2 ρ w hh) hI
   refine ⟨e1,Calls.mono e2 fun e w' ⟨x,hx,ρ',a1,a2,a3⟩=>⟨x,hx,ρ',fun j hj=>a1 j (by rw [h1.1];exact hj),a2,a3⟩⟩
  ·refine zaa (zjJ (E:=E)) fun hp3 h3=>zab fun ρ w hvs hh hI=>?_
   obtain ⟨e1,e2⟩:=hres ρ w hvs (h1.2 ρ w hh) hI
   refine ⟨e1,Calls.mono e2 fun e w' ⟨x,hx,ρ',a1,a2,a3⟩=>?_⟩
   obtain ⟨ρ2,b1,b2⟩:=h3.2 ρ' w' a2
   simp only [Bool.and_eq_true] at hv
   have hle:hp1.length≤hp2.length:=Nat.le_of_ble_eq_true hv.2
   refine ⟨x,hx,ρ2,fun j hj=>(b1 j (by have:=h1.1;omega)).trans (a1 j (by rw [h1.1];exact hj)),b2,fun u hu=>⟨(a3 u hu).1,?_⟩⟩
   subst hu
   rw [(a3 u rfl).2]
   exact (V.conc_low hv.1 b1).symm
theorem zrH {ρ ρ':Nat→Loc} : ∀ {vs:List V} {l:List Lf} {us:List V},znn vs l=some us→l.map (Lf.conc ν ρ')=(vs.flatMap V.cells1).map (Lf.conc ν ρ)→(∀ x∈l,x.good ν) →
  us.map (V.conc ν ρ')=vs.map (V.conc ν ρ)∧∀ u∈us,V.good ν u:=by
 intro vs
 induction vs with
 | nil =>
  intro l us h _ _
  cases l with
  | nil=>cases h;exact ⟨rfl,fun u hu=>(by cases hu)⟩
  | cons x l=>cases h
 | cons v r ih =>
  intro l us h hc hg
  cases v with
  | t z=>cases l<;>cases h
  | s v =>
   cases v with
   | one y =>
    cases l with
    | nil=>cases h
    | cons x l =>
     simp only [znn,Option.map_eq_some_iff] at h
     obtain ⟨us',h1,rfl⟩:=h
     simp only [List.flatMap_cons,V.cells1,V1.cells,List.cons_append,List.nil_append,List.map_cons,List.cons.injEq] at hc
     obtain ⟨e1,e2⟩:=ih h1 hc.2 (fun z hz=>hg z (List.mem_cons_of_mem _ hz))
     refine ⟨?_,fun u hu=>?_⟩
     ·simp only [List.map_cons,e1]
      congr 1
      exact hc.1
     ·rcases List.mem_cons.1 hu with rfl | hu
      ·exact V1.good_one.2 (hg x (List.mem_cons_self ..))
      ·exact e2 u hu
   | agg ys =>
    have hr:znn (.s (.agg ys)::r) l=if Nat.ble ys.length l.length then (znn r (l.drop ys.length)).map (.s (.agg (l.take ys.length))::·) else none:=by
     cases l<;>rfl
    rw [hr] at h
    split at h
    ·rename_i hle
     have hle:=Nat.le_of_ble_eq_true hle
     simp only [Option.map_eq_some_iff] at h
     obtain ⟨us',h1,rfl⟩:=h
     simp only [List.flatMap_cons,V.cells1,V1.cells,List.map_append] at hc
     rw [←List.take_append_drop ys.length l,List.map_append] at hc
     obtain ⟨c1,c2⟩:=List.append_inj hc (by simp only [List.length_map,List.length_take];omega)
     obtain ⟨e1,e2⟩:=ih h1 c2 (fun z hz=>hg z (List.mem_of_mem_drop hz))
     refine ⟨?_,fun u hu=>?_⟩
     ·simp only [List.map_cons,e1]
      congr 1
      simp only [V.conc,V1.conc,c1]
     ·rcases List.mem_cons.1 hu with rfl | hu
      ·exact V1.good_agg.2 fun z hz=>hg z (List.mem_of_mem_take hz)
      ·exact e2 u hu
    ·cases h
theorem zpg {K:Nat} (hS:SigsOK P I K S F) (hE:E.Ok K) {f:FuncId} {vs:List V} {hp:List (Option Blk)} : M.sat F ν (zoK P S f vs hp) (fun res=>∀ ρ w,(∀ v∈vs,V.good ν v)→HS E ν ρ hp w→I w →
  (callFunc f (vs.map (V.conc ν ρ)).toArray).run P w = .ok (.enter f (vs.map (V.conc ν ρ)).toArray) w∧zez P E ν f vs hp ρ w res):=by
 unfold zoK
 dsimp only
 generalize (match S.get f with | some sg=>(sg.ins.flatMap V.cells1).map (ltOf sg.hin) | none=>[])=lts
 refine zae (fun _=>zae (fun hlt=>?_) (fun _=>zac)) (fun _=>zjL hS hE)
 simp only [Bool.and_eq_true] at hlt
 refine zaa (zdI fun w=>zcs (E:=E) (w:=w) _ _ _) fun q hq=>?_
 refine zaa (zad (Q:=fun us=>znn vs q.1=some us) fun a h=>h) fun us hus=>?_
 refine zaa (zjL hS hE) fun res hres=>?_
 have key:∀ ρ w,(∀ v∈vs,V.good ν v)→HS E ν ρ hp w→∃ ρ':Nat→Loc,hp.length≤q.2.length∧(∀ j,j<hp.length→ρ' j=ρ j)∧HS E ν ρ' q.2 w∧us.map (V.conc ν ρ')=vs.map (V.conc ν ρ)∧∀ u∈us,V.good ν u:=fun ρ w hv hh=>by
  obtain ⟨_,_,h3,h4,ρ',h5,h6,h7⟩:=hq w ρ hh hlt.1 hlt.2 (fun x hx=>by
   obtain ⟨v,hv1,hv2⟩:=List.mem_flatMap.1 hx
   have:=hv v hv1
   cases v with
   | s v=>exact this x hv2
   | t l=>cases hv2)
  obtain ⟨e1,e2⟩:=zrH hus h7 h3
  exact ⟨ρ',h4,h5,h6,e1,e2⟩
 split
 ·refine zae (fun hvl=>zab fun ρ w hv hh hI=>?_) (fun _=>zac)
  obtain ⟨ρ',h4,h5,h6,e1,e2⟩:=key ρ w hv hh
  obtain ⟨d1,d2⟩:=hres ρ' w e2 h6 hI
  simp only [zez] at d2 ⊢
  rw [e1] at d1 d2
  rw [V.conc_low hvl h5] at d2
  exact ⟨d1,d2⟩
 ·refine zab fun ρ w hv hh hI=>?_
  obtain ⟨ρ',h4,h5,h6,e1,e2⟩:=key ρ w hv hh
  obtain ⟨d1,d2⟩:=hres ρ' w e2 h6 hI
  simp only [zez] at d2 ⊢
  rw [e1] at d1 d2
  exact ⟨d1,Calls.mono d2 fun e w' ⟨x,hx,ρ2,a1,a2,a3⟩=>⟨x,hx,ρ2,fun j hj=>(a1 j (by omega)).trans (h5 j hj),a2,a3⟩⟩
theorem zly {p v:V} : M.sat F ν (zqv p v) (fun u=>(V.good ν v→V.good ν u)∧∀ ρ,u.conc ν ρ=v.conc ν ρ):=by
 unfold zqv
 split
 ·rename_i b a l
  split
  ·rename_i x hx
   split
   ·rename_i q hq
    refine zaa (zaf (Q:=fun r=>r.bool ν=(a.int ν==((x.1:Nat):Int))) fun r h=>A.bool_of_den h) fun r hr=>?_
    refine zaa (zbl (Q:=fun _=>a.int ν=((x.1:Nat):Int)) fun h=>by rw [hr] at h;simpa using h) fun _ ha=>zab ⟨fun _=>V1.good_one.2 trivial,fun ρ=>?_⟩
    have:(a.int ν).toNat=x.1:=by rw [ha];simp
    simp only [V.conc,V1.conc,Lf.conc,zbk,this,hq,Alt.conc,Off.val]
   ·exact zab ⟨id,fun _=>rfl⟩
  ·exact zab ⟨id,fun _=>rfl⟩
 ·exact zab ⟨id,fun _=>rfl⟩
theorem zjM:∀ (ps vs:List V),M.sat F ν (zmg ps vs) (fun us=>((∀ v∈vs,V.good ν v)→∀ u∈us,V.good ν u)∧∀ ρ,us.map (V.conc ν ρ)=vs.map (V.conc ν ρ))
 | [],vs=>zab ⟨id,fun _=>rfl⟩
 | _::_,[]=>zab ⟨id,fun _=>rfl⟩
 | p::ps,v::vs=>by
  unfold zmg
  refine zaa zly fun x hx=>zaa (zjM ps vs) fun r hr=>zab ⟨fun hv u hu=>?_,fun ρ=>?_⟩
  ·rcases List.mem_cons.1 hu with rfl | hu
   ·exact hx.1 (hv v (List.mem_cons_self ..))
   ·exact hr.1 (fun y hy=>hv y (List.mem_cons_of_mem _ hy)) u hu
  ·simp only [List.map_cons,hx.2 ρ,hr.2 ρ]
theorem zgb {K:Nat} (hS:SigsOK P I K S F) (hE:E.Ok K) {f:FuncId} {vs:List V} {hp:List (Option Blk)} : M.sat F ν (zfY P S f vs hp) (fun res=>∀ ρ w,(∀ v∈vs,V.good ν v)→HS E ν ρ hp w→I w →
  (callFunc f (vs.map (V.conc ν ρ)).toArray).run P w = .ok (.enter f (vs.map (V.conc ν ρ)).toArray) w∧zez P E ν f vs hp ρ w res):=by
 unfold zfY
 refine zaa (zjM _ _) fun us hus=>zag (zpg hS hE) fun res hres ρ w hv hh hI=>?_
 obtain ⟨h1,h2⟩:=hres ρ w (hus.1 hv) hh hI
 rw [hus.2 ρ] at h1
 refine ⟨h1,?_⟩
 cases res with
 | val v=>simp only [zez,hus.2 ρ] at h2 ⊢;exact h2
 | hp v hp'=>simp only [zez,hus.2 ρ] at h2 ⊢;exact h2
theorem znQ {t:TypeId} {name:String} {f:FuncId} (h:zdf P t name=some f) (v:Value) (w:World):(method (P.types.size+Made.depth) t v name).run P w = .ok (f,v) w:=by
 unfold zdf at h
 split at h
 ·rename_i i e hi hk
  split at h
  ·rename_i m hm
   split at h
   ·rename_i f' hp hf
    cases h
    have h2:=zig hk
    rw [show P.types.size+Made.depth=(P.types.size+99)+1 from rfl]
    unfold method
    simp [typeInfo,hi,hm,hp,hf,follow,receiverAt,underlying,h2,Place.get]
   ·cases h
  ·cases h
 ·cases h
theorem zrI (y:Value) (zs:Array Value):(#[y]++zs).extract 1 (#[y]++zs).size=zs∧(#[y]++zs)[0]? = some y:=by
 constructor
 ·apply Array.ext'
  simp only [Array.toList_extract,Array.toList_append,List.extract_eq_take_drop,Array.size_append,List.size_toArray,List.length_cons,List.length_nil]
  simp only [List.cons_append,List.nil_append,List.drop_succ_cons,List.drop_zero]
  exact List.take_of_length_le (by simp)
 ·rw [Array.getElem?_append_left (by simp)];rfl
theorem zlz {t:TypeId} {name:String} {f:FuncId} (h:zdf P t name=some f) (v:Value) (args:Array Value) (w:World):(invoke (.fn (.method name) #[]) (#[.iface t v]++args)).run P w=(callFunc f (#[v]++args)).run P w:=by
 have h1:=zrI (.iface t v) args
 have h2:=znQ (P:=P) h v w
 simp only [invoke,h1.1,h1.2,callMethod]
 simp [h2]
theorem zaM (w:World) (d:Nat) (t u:TypeId) (v:Value) {ms:Array (String×TypeId)} (h:P.underlying t=some (.interface ms)) :
  (Op.equalIn (d+1) t (.iface u v) .nilIface).run P w = .ok false w∧(Op.equalIn (d+1) t .nilIface .nilIface).run P w = .ok true w:=by
 constructor<;>simp [Op.equalIn,run_underlying h]
theorem zrJ {op:BinOp} {t:TypeId} {l:Lf} {q:Bool} {y:Operand} (h:zqu P op t l=some q) (hy:znm y=true) (ρ:Nat→Loc) (x:Operand) (w:World) (a:Act) :
  (eqGuard op t x y (l.conc ν ρ) (a.eval y)).run P w = .ok () w∧(binOp op t (l.conc ν ρ) (a.eval y)).run P w = .ok (.bool q) w:=by
 unfold znm at hy
 split at hy
 ·have he:a.eval (.const .nilIface) = .nilIface:=rfl
  rw [he]
  unfold zqu at h
  split at h
  ·rename_i ms hu
   split at h
   ·cases h;exact ⟨by simp [eqGuard,Lf.conc],by simp [binOp,Op.equal,Op.maxDepth,Lf.conc,(zaM w 9999 t _ _ hu).1,(zaM w 9999 t 0 .nilIface hu).2]⟩
   ·cases h;exact ⟨by simp [eqGuard,Lf.conc],by simp [binOp,Op.equal,Op.maxDepth,Lf.conc,(zaM w 9999 t _ _ hu).1,(zaM w 9999 t 0 .nilIface hu).2]⟩
   ·cases h;exact ⟨by simp [eqGuard,Lf.conc],by simp [binOp,Op.equal,Op.maxDepth,Lf.conc,(zaM w 9999 t _ _ hu).1,(zaM w 9999 t 0 .nilIface hu).2]⟩
   ·cases h;exact ⟨by simp [eqGuard,Lf.conc],by simp [binOp,Op.equal,Op.maxDepth,Lf.conc,(zaM w 9999 t _ _ hu).1,(zaM w 9999 t 0 .nilIface hu).2]⟩
   ·cases h
  ·cases h
 ·cases hy
end
end Go.Sx
namespace Go.Sx
open Go.RowKit
section
variable {P:Program} {F:FEnv} {E:Env} {ν:Nat→DV}
theorem zgS {α:Type} (x y:α):∀ (l:List α) (n:Nat),zaw x (zaw y l n) n=zaw x l n
 | [],n=>by cases n<;>rfl
 | _::_,0=>rfl
 | z::l,n+1=>by simp only [zaw,zgS x y l n]
theorem zlA {hp:List (Option Blk)} {b:Nat} {r:Bool×Bool×List LT×A} (h:zoP hp b=some r):nth hp b=some (.l r.1 r.2.1 r.2.2.1 r.2.2.2):=by
 unfold zoP at h
 split at h
 ·rename_i hb
  cases h
  exact hb
 ·cases h
theorem HS.swap {ρ:Nat→Loc} {hp hp':List (Option Blk)} {w:World} (h:HS E ν ρ hp w) (hl:hp'.length=hp.length)
  (hs:∀ j x',nth hp' j=some x'→∃ x,nth hp j=some x∧BlkRel E ν ρ w (ρ j) x'∧(x'.own=true→x.own=true∧∀ b,x'.foot w (ρ j) b→x.foot w (ρ j) b)∧∀ b,x'.rfoot w (ρ j) b→x.rfoot w (ρ j) b):HS E ν ρ hp' w:=by
 refine ⟨⟨fun j x' hj=>(hs j x' hj).choose_spec.2.1,fun j j' x' y' hj ho hj' hne hn hn' b hf hf'=>?_⟩,fun j x' hj=>?_,h.fr,by rw [hl];exact h.len,h.keep⟩
 ·obtain ⟨x,e1,_,e2,_⟩:=hs j x' hj
  obtain ⟨y,f1,_,_,f2⟩:=hs j' y' hj'
  exact h.heap.apart j j' x y e1 (e2 ho).1 f1 hne hn hn' b ((e2 ho).2 b hf) (f2 b hf')
 ·obtain ⟨x,e1,_,e2,e3⟩:=hs j x' hj
  rcases h.old j x e1 with o | o
  ·exact .inl o
  ·exact .inr ⟨fun ho b hb=>o.wr (e2 ho).1 b ((e2 ho).2 b hb),fun b hb=>o.rd b (e3 b hb)⟩
theorem zbs (hp:List (Option Blk)) (b:Nat):(killSolid hp b).length=hp.length:=by
 unfold killSolid
 split
 ·split
  ·exact zah _ _ _
  ·rfl
 ·rfl
theorem zii {hp:List (Option Blk)} {b:Nat} (h:hpLt hp=true):hpLt (killSolid hp b)=true:=by
 unfold killSolid
 split
 ·split
  ·exact zdP h
  ·exact h
 ·exact h
theorem HS.killSolid {ρ:Nat→Loc} {hp:List (Option Blk)} {w:World} (h:HS E ν ρ hp w) (b:Nat):HS E ν ρ (killSolid hp b) w:=by
 unfold Go.Sx.killSolid
 split
 ·split
  ·exact h.kill b
  ·exact h
 ·exact h
theorem zgT {hp:List (Option Blk)} {b j:Nat} {x:Blk} (h:nth (killSolid hp b) j=some x):nth hp j=some x∧(j=b→x.solid=false):=by
 unfold killSolid at h
 split at h
 ·rename_i y hy
  split at h
  ·obtain ⟨h1,h2⟩:=zaT h
   exact ⟨h2,fun e=>absurd e h1⟩
  ·rename_i hs
   refine ⟨h,fun e=>?_⟩
   subst e
   rw [hy] at h;cases h
   simpa using hs
 ·rename_i hy
  exact ⟨h,fun e=>by subst e;rw [hy] at h;cases h⟩
theorem HS.pushLog {ρ:Nat→Loc} {hp:List (Option Blk)} {w:World} (h:HS E ν ρ hp w) (hlt:hpLt hp=true) {b:Nat} {bk:Blk} (hbk:nth hp b=some bk) (hrf:∀ x,x=(ρ b).blk→bk.rfoot w (ρ b) x) {r:Loc} {o f:Bool} {ts:List LT} {q:A}
  (hnil:r.nil=false→(ρ b).nil=false∧r.blk=(ρ b).blk) (hrel:BlkRel E ν (ext ρ hp.length r) w r (.l o f ts q))
  (hfo:o=true→r.nil=false→∀ x,x=r.blk∧r.len<r.cap→bk.own=true∧bk.foot w (ρ b) x∧bk.solid=true):HS E ν (ext ρ hp.length r) (Go.Sx.killSolid hp b++[some (.l o f ts q)]) w:=by
 have hk:=(h.killSolid b).push (w':=w) (bk:=.l o f ts q) (r:=r) (zii hlt) (Below.refl _ w) (by rw [zbs];exact hrel) (fun j b' hj hn hn'=>⟨fun ho x hx hx'=>?_,fun ho x hx hx'=>?_⟩) ?_
 ·rw [zbs] at hk;exact hk
 ·obtain ⟨h1,h2⟩:=zgT hj
  obtain ⟨g1,g2,g3⟩:=hfo ho hn x hx
  have hjb:j≠b:=fun e=>by
   have:=h2 e
   subst e
   rw [hbk] at h1;cases h1
   rw [g3] at this;cases this
  exact h.heap.apart b j bk b' hbk g1 h1 (Ne.symm hjb) (hnil hn).1 hn' x g2 hx'
 ·obtain ⟨h1,h2⟩:=zgT hj
  have hx':x=r.blk:=hx'
  by_cases hjb:j=b
  ·exact (h.heap.blk j b' h1).nofoot (h2 hjb) ho hx
  ·exact h.heap.apart j b b' bk h1 ho hbk hjb hn' (hnil hn).1 x hx (hrf x (hx'.trans (hnil hn).2))
 ·cases hn:r.nil with
  | true=>exact .inl rfl
  | false =>
   rcases h.old b bk hbk with g | g
   ·rw [(hnil hn).1] at g;cases g
   ·refine .inr ⟨fun ho x hx=>?_,fun x hx=>?_⟩
    ·obtain ⟨g1,g2,_⟩:=hfo ho hn x hx
     exact g.wr g1 x g2
    ·have hx:x=r.blk:=hx
     exact g.rd x (hrf x (hx.trans (hnil hn).2))
theorem zph {t tx ty elem ex:TypeId} {w:World} {rb rc:Loc} {o o':Bool} {ts:List LT} {xb xc:List DV} {sz:Nat} (hk:tk P t=some (.slice elem)) (hkx:tk P tx=some (.slice ex)) (hs:zaO P elem=some sz) (c4:sz=ts.length)
  (hvb:VRel E w rb o ts xb) (hvc:VRel E w rc o' ts xc) (h0:rc.len=0):(Builtin.append_ #[t,tx] ty #[rb.slice,rc.slice]).run P w = .ok rb.slice w:=by
 obtain ⟨i,hi,hsz⟩:=zcO hs
 have hsr:i.size=ts.length:=by rw [hsz];exact c4
 have hsrc:=zpd hkx hvc hsr
 have hun:xc.length=0:=by rw [hvc.len,h0,Nat.zero_mul]
 have hv0:zaW w rc xc.length=[]:=by rw [hun];rfl
 rw [hv0,h0] at hsrc
 have hcap:=hvb.cap
 cases hnil:rb.nil with
 | true =>
  have g0:=hvb.nil hnil
  have hlen:=hsrc.len w
  have hcel:=hsrc.cells
  unfold Loc.slice at hlen hcel ⊢
  rw [hnil,g0.1,g0.2]
  simp only [cond_true]
  cases rb.raw<;>simp [storeCells,Builtin.append_,run_underlying (zba hk),run_underlying (zba hkx),sizeOf,typeInfo,hi,hlen,hcel]
 | false =>
  have hrun:=run_append_room_src (P:=P) w t tx ty elem i (zba hk) hi rb.blk rb.off rb.len rb.cap rc.slice 0 [] hsrc hcap (fun j hj=>by simp at hj) (fun j hj=>by simp at hj)
  simpa [Loc.slice,hnil,World.setCells] using hrun
theorem zmB {hp:List (Option Blk)} {t tx:TypeId} {s x:V} : M.sat F ν (zi0 P hp t tx s x) (fun z=>∀ ρ w ty,HS E ν ρ hp w →
  ∃ v w',(Builtin.append_ #[t,tx] ty #[s.conc ν ρ,x.conc ν ρ]).run P w = .ok v w'∧zbc E ν ρ hp v w' z):=by
 unfold zi0
 refine zaa (zad (Q:=fun k=>tk P t=some k) fun a h=>h) fun k hk=>?_
 refine zaa (zad (Q:=fun k=>tk P tx=some k) fun a h=>h) fun kx hkx=>?_
 split
 ·rename_i elem ex b c
  refine zaa (zad (Q:=fun r=>zoP hp b=some r) fun a h=>h) fun r hr=>?_
  refine zaa (zad (Q:=fun r=>zc7 hp c=some r) fun a h=>h) fun u hu=>?_
  refine zaa (zad (Q:=fun z=>zeroCells P elem=some z) fun a h=>h) fun z hz=>?_
  refine zaa (zad (Q:=fun k=>zaO P elem=some k) fun a h=>h) fun sz hs=>?_
  refine zaa (zad (Q:=fun k=>zfE P elem=some k) fun a h=>h) fun by_ hby=>?_
  refine zae (fun hc=>?_) (fun _=>zac)
  obtain ⟨o,f,ts,a⟩:=r
  simp only [Bool.and_eq_true,Bool.not_eq_true'] at hc
  obtain ⟨⟨⟨⟨⟨c1,c2⟩,c3⟩,c4⟩,c5⟩,hlt⟩:=hc
  have c2:b≠c:=fun e=>by subst e;rw [Nat.beq_refl] at c2;cases c2
  have c3:=LTs.beq_eq c3
  have c4:=Nat.eq_of_beq_eq_true c4
  have c5:=Nat.eq_of_beq_eq_true c5
  subst c1
  have hbk:=zlA hr
  simp only at hbk c3 c4
  refine zaa (zaf (Q:=fun q=>q.cells ν=a.cells ν++u.2.2.cells ν) fun q h=>A.cells_of_den h) fun q hq=>?_
  refine zaa (zaf (Q:=fun n=>n.int ν=((q.cells ν).length/sz:Nat)) fun q h=>A.int_of_den h) fun n hn=>?_
  refine zaa zck fun _ hle=>zab fun ρ w ty hw=>?_
  have hL:LRel E w (ρ b) true f ts (a.cells ν):=hw.heap.blk b _ hbk
  have hvc:=zdQ hu hw
  rw [←c3] at hvc
  have hvb:=hL.row
  have hpos:=hvb.pos
  have hnn:(ρ b).len+(ρ c).len≤zeJ by_:=by
   have hqn:(q.cells ν).length=((ρ b).len+(ρ c).len)*ts.length:=by rw [hq,List.length_append,hvb.len,hvc.len,Nat.add_mul]
   rw [hn,hqn,c4,Nat.mul_div_cancel _ hpos] at hle
   exact Int.ofNat_le.1 hle
  show ∃ v w',(Builtin.append_ #[t,tx] ty #[(ρ b).slice,(ρ c).slice]).run P w = .ok v w'∧_
  rcases Nat.lt_or_ge (ρ b).cap ((ρ b).len+(ρ c).len) with hroom | hroom
  ·obtain ⟨w',r',hrun,g1,g2,g3,g4⟩:=zjE (ty:=ty) hk hkx hz hs hby c4 c5 hvb hvc hnn hroom
   rw [←hq] at g4
   refine ⟨_,w',hrun,zbc.mk (r:=r') (zbs _ _) rfl ?_⟩
   have hk1:=(hw.killSolid b).freshO (w':=w') (bk:=.l true false ts q) (r:=r') (zii hlt) g3
    (⟨⟨g4.nil,g4.lt,g4.pos,g4.len,g4.cap,g4.cell,fun e=>(by cases e),fun e=>by cases e⟩,fun _ _=>g4,fun e=>by cases e⟩:LRel E w' r' true false ts (q.cells ν))
    (.inr fun x hx=>by have hx:x=r'.blk:=hx;rw [hx,g2];exact Nat.le_refl _)
   rw [zbs] at hk1
   exact hk1
  ·rcases Nat.eq_zero_or_pos (ρ c).len with h0 | h0
   ·refine ⟨_,w,zph hk hkx hs c4 hvb hvc h0,zbc.mk (r:=ρ b) (zbs _ _) rfl ?_⟩
    have hq0:q.cells ν=a.cells ν:=by
     have:(u.2.2.cells ν).length=0:=by rw [hvc.len,h0,Nat.zero_mul]
     rw [hq,List.eq_nil_of_length_eq_zero this,List.append_nil]
    refine hw.pushLog hlt hbk (fun x hx=>hx) (fun h=>⟨h,rfl⟩) (?_:LRel E w (ρ b) true false ts (q.cells ν)) fun _ _ x hx=>⟨rfl,hx,?_⟩
    ·rw [hq0]
     exact ⟨hvb,hL.spare,fun e=>by cases e⟩
    ·cases f with
     | false=>rfl
     | true=>have:=hL.full rfl;omega
   ·have hcap:(ρ b).len<(ρ b).cap:=by omega
    have hf:f=false:=by
     cases f with
     | false=>rfl
     | true=>have:=hL.full rfl;omega
    subst hf
    have hv1:=hL.spare rfl hcap
    have hnb:b<hp.length:=zaY hbk
    -- as a row of its own
    have hA:HS E ν ρ (zaw (some (.v true ts a)) hp b) w:=by
     refine hw.swap (zah _ _ _) fun j x' hj=>?_
     by_cases hjb:b=j
     ·subst hjb
      rw [zau,if_pos hnb] at hj
      cases hj
      exact ⟨_,hbk,hv1,fun _=>⟨rfl,fun x hx=>⟨hx,hcap⟩⟩,fun x hx=>hx⟩
     ·rw [zay _ _ _ _ hjb] at hj
      exact ⟨x',hj,hw.heap.blk j x' hj,fun ho=>⟨ho,fun _ h=>h⟩,fun _ h=>h⟩
    have hrA:zk6 (zaw (some (.v true ts a)) hp b) b=some (true,ts,a):=by
     unfold zk6
     rw [zau,if_pos hnb]
    have huA:zc7 (zaw (some (.v true ts a)) hp b) c=some u:=by
     unfold zc7 at hu ⊢
     rw [zay _ _ _ _ c2]
     exact hu
    have hltA:hpLt (zaw (some (.v true ts a)) hp b)=true:=by
     unfold hpLt
     rw [zah]
     refine all_of_nth' fun j x hj=>?_
     by_cases hjb:b=j
     ·subst hjb
      rw [zau,if_pos hnb] at hj
      cases hj
      rfl
     ·rw [zay _ _ _ _ hjb] at hj
      exact zan hlt hj
    obtain ⟨v,w',hrun,hnew⟩:=zjF (q:=q) (n:=n) hk hkx hrA huA hz hs hby rfl c3 c4 c5 hltA hq hn hle ρ w ty hA
    refine ⟨v,w',hrun,?_⟩
    obtain ⟨g1,ρ',g2,g3,g4⟩:=hnew
    rw [zah] at g1 g2 g4
    refine ⟨g1,ρ',g2,?_,g4⟩
    have hks:killSolid hp b=zaw none hp b:=by
     unfold killSolid
     rw [hbk]
     rfl
    rw [hks]
    have hss:zaw none (zaw (some (.v true ts a)) hp b) b=zaw none hp b:=zgS _ _ _ _
    rw [hss] at g3
    refine g3.swap (by simp) fun j x' hj=>?_
    rw [zaE] at hj
    split at hj
    ·rename_i hjl
     have:nth (zaw none hp b++[some (.v true ts q)]) j=some x':=by rw [zaE,if_pos hjl];exact hj
     exact ⟨x',this,g3.heap.blk j x' this,fun ho=>⟨ho,fun _ h=>h⟩,fun _ h=>h⟩
    ·rename_i hjl
     have e0:j-(zaw none hp b).length=0:=by
      cases hd:j-(zaw none hp b).length with
      | zero=>rfl
      | succ k=>rw [hd] at hj;cases k<;>cases hj
     rw [e0] at hj
     cases hj
     have:nth (zaw none hp b++[some (.v true ts q)]) j=some (.v true ts q):=by rw [zaE,if_neg hjl,e0];rfl
     have hv:=g3.heap.blk j _ this
     exact ⟨_,this,⟨⟨VRel.nil hv,VRel.lt hv,VRel.pos hv,VRel.len hv,VRel.cap hv,VRel.cell hv,fun e=>(by cases e),fun e=>by cases e⟩,fun _ _=>hv,fun e=>by cases e⟩,fun _=>⟨rfl,fun x hx=>hx.1⟩,fun x hx=>hx⟩
 ·exact zac
theorem znR {hp:List (Option Blk)} {t:TypeId} {x:V} {low:Option Lf} : M.sat F ν (zmi P hp t x low) (fun z=>∀ ρ w,HS E ν ρ hp w →
  ∃ v w',(Instr.sliceAt t (x.conc ν ρ) (low.map (Lf.conc ν ρ)) none none).run P w = .ok v w'∧zbc E ν ρ hp v w' z):=by
 unfold zmi
 refine zaa (zad (Q:=fun k=>tk P t=some k) fun a h=>h) fun k hk=>?_
 split
 ·rename_i elem b
  refine zaa (zad (Q:=fun k=>zaO P elem=some k) fun a h=>h) fun sz hs=>?_
  refine zaa (zad (Q:=fun r=>zoP hp b=some r) fun a h=>h) fun r hr=>?_
  refine zae (fun hc=>?_) (fun _=>zac)
  obtain ⟨o,f,ts,a⟩:=r
  simp only [Bool.and_eq_true] at hc
  have h1:=Nat.eq_of_beq_eq_true hc.1
  have hlt:=hc.2
  subst h1
  have hbk:=zlA hr
  simp only at hbk
  by_cases hd:(a.cells ν).length%ts.length=0
  ·refine zaa (zf9 hd) fun q ⟨h,k1,k2,k3,k4⟩=>zaa (zhF k2) fun q2 ⟨l,m1,m2,m3⟩=>zab fun ρ w hw=>?_
   have hL:LRel E w (ρ b) o f ts (a.cells ν):=hw.heap.blk b _ hbk
   have hv:=hL.row
   rw [hv.elems] at k1 k4
   have k4:=k4 ρ
   have hh:h=(ρ b).len:=by
    rcases k4 with ⟨_,e⟩ | ⟨_,e⟩
    ·exact e
    ·cases e
   have hrun:=zgQ (P:=P) (zba hk) hs (r:=ρ b) (m3 ρ) k4 m1 k1 hv.cap w
   have hv2:=hv.cut m1 k1 (x:=if (ρ b).cap=l then (ρ b).raw else (ρ b).raw.map fun x:Addr=>x.add (l*ts.length))
   rw [←k3,←m2] at hv2
   refine ⟨_,w,hrun,zbc.mk (zbs _ _) rfl ?_⟩
   refine hw.pushLog hlt hbk (fun x hx=>hx) (fun e=>⟨e,rfl⟩) (⟨hv2,fun ho hcl=>?_,fun hf=>?_⟩:LRel E w _ o f ts (q2.cells ν)) fun ho hn x hx=>?_
   ·have hcl:h-l<(ρ b).cap-l:=hcl
    have hv3:=(hL.spare ho (by omega)).cut m1 k1 (x:=if (ρ b).cap=l then (ρ b).raw else (ρ b).raw.map fun x:Addr=>x.add (l*ts.length))
    rw [←k3,←m2] at hv3
    exact hv3
   ·have:=hL.full hf
    show (ρ b).cap-l=h-l
    omega
   ·have hcl:h-l<(ρ b).cap-l:=hx.2
    refine ⟨ho,⟨hx.1,by omega⟩,?_⟩
    show (o&&!f)=true
    cases f with
    | false=>rw [show o=true from ho];rfl
    | true=>have:=hL.full rfl;omega
  ·refine zaa zat fun q _=>zaa zat fun q2 _=>zab fun ρ w hw=>?_
   have hv:=LRel.row (hw.heap.blk b _ hbk)
   exact absurd (by rw [hv.len];exact Nat.mul_mod_left _ _) hd
 ·exact zac
theorem zla {t:TypeId} {e sz:Nat} (ht:P.underlying t=some (.slice e)) (hs:zaO P e=some sz) {r:Loc} {k k':IntKind} {h:Nat} (h2:h≤r.len) (h3:r.len≤r.cap) (w:World) :
  (Instr.sliceAt t r.slice none (some (.int k h)) (some (.int k' h))).run P w = .ok (Loc.slice ⟨r.blk,r.off,r.nil,h,h,r.raw⟩) w:=by
 have hb:(Instr.sliceBounds true r.len r.cap none (some (.int k h)) (some (.int k' h))).run P w = .ok (0,h,h) w:=by
  simp [Instr.sliceBounds,Instr.sliceBound,asIntOf,Int.ofNat_le,Nat.le_trans h2 h3]
 simp only [Instr.sliceAt,Instr.slice,Loc.slice,Sem.run_bind,run_underlying ht,Result.andThen_ok,hb,za9 hs,Sem.run_pure,Nat.sub_zero,Nat.zero_mul]
 congr 2
 split
 ·rfl
 ·cases r.nil with
  | false=>simp [Addr.add]
  | true=>cases r.raw<;>simp [Addr.add]
theorem znS {hp:List (Option Blk)} {t:TypeId} {x:V} {high max:Lf} : M.sat F ν (zmj P hp t x high max) (fun z=>∀ ρ w,HS E ν ρ hp w →
  ∃ v w',(Instr.sliceAt t (x.conc ν ρ) none (some (high.conc ν ρ)) (some (max.conc ν ρ))).run P w = .ok v w'∧zbc E ν ρ hp v w' z):=by
 unfold zmj
 refine zaa (zad (Q:=fun k=>tk P t=some k) fun a h=>h) fun k hk=>?_
 split
 ·rename_i elem b kh h km m
  refine zaa (zad (Q:=fun k=>zaO P elem=some k) fun a h=>h) fun sz hs=>?_
  refine zaa (zad (Q:=fun r=>zc7 hp b=some r) fun a h=>h) fun r hr=>?_
  refine zae (fun hc=>?_) (fun _=>zac)
  simp only [Bool.and_eq_true] at hc
  have h1:=Nat.eq_of_beq_eq_true hc.1
  have hlt:=hc.2
  subst h1
  refine zaa zbH fun _ h0=>?_
  refine zaa (zaf (Q:=fun e=>e.bool ν=(h.int ν==m.int ν)) fun q h=>A.bool_of_den h) fun e he=>?_
  refine zaa (zbl (Q:=fun _=>h.int ν=m.int ν) fun hb=>by rw [he] at hb;simpa using hb) fun _ hm=>?_
  refine zaa (zaf (Q:=fun n=>n.int ν=((r.2.2.cells ν).length/r.2.1.length:Nat)) fun q h=>A.int_of_den h) fun n hn=>?_
  refine zaa zck fun _ hle=>?_
  refine zaa (zaf (Q:=fun q=>q.cells ν=(r.2.2.cells ν).take ((h.int ν).toNat*r.2.1.length)) fun q h=>A.cells_of_den h) fun q hq=>zab fun ρ w hw=>?_
  have hv0:=zdQ hr hw
  have hv:VRel E w (ρ b) false r.2.1 (r.2.2.cells ν):=⟨hv0.nil,hv0.lt,hv0.pos,hv0.len,hv0.cap,hv0.cell,fun e=>(by cases e),fun e=>by cases e⟩
  rw [hv.elems] at hn
  obtain ⟨n0,hn0⟩:∃ n0:Nat,h.int ν=n0:=⟨(h.int ν).toNat,by omega⟩
  have hle2:n0≤(ρ b).len:=by omega
  have hrun:=zla (P:=P) (zba hk) hs (r:=ρ b) (k:=kh) (k':=km) hle2 hv.cap w
  refine ⟨_,w,(by simpa [V.conc,V1.conc,Lf.conc,←hm,hn0] using hrun),zbc.mk (zbs _ _) rfl ?_⟩
  have hv2:=hv.cut (Nat.zero_le n0) hle2 (x:=(ρ b).raw)
  simp only [Nat.zero_mul,List.drop_zero,Nat.sub_zero] at hv2
  have hqe:q.cells ν=(r.2.2.cells ν).take (n0*r.2.1.length):=by rw [hq,hn0];rfl
  rw [←hqe] at hv2
  have hv3:VRel E w ⟨(ρ b).blk,(ρ b).off,(ρ b).nil,n0,n0,(ρ b).raw⟩ false r.2.1 (q.cells ν) :=
   ⟨fun e=>by have:=hv.nil e;exact ⟨by show n0=0;omega,by show n0=0;omega⟩,hv.lt,hv.pos,hv2.len,Nat.le_refl _,fun i hi=>by
    obtain ⟨v,e1,e2⟩:=hv2.cell i hi
    refine ⟨v,?_,e2⟩
    rw [←e1]
    show w.cell? ⟨(ρ b).blk,(ρ b).off+i,none⟩=w.cell? ⟨(ρ b).blk,(if (ρ b).cap=0 then (ρ b).off else (ρ b).off+0)+i,none⟩
    congr 2
    split<;>rfl,fun e=>(by cases e),fun e=>by cases e⟩
  obtain ⟨bk,hbk,hrf⟩:∃ bk,nth hp b=some bk∧∀ x,x=(ρ b).blk→bk.rfoot w (ρ b) x:=by
   rcases zsX hr with ⟨o,e,_⟩ | ⟨o,f,e⟩
   ·exact ⟨_,e,fun x hx=>hx⟩
   ·exact ⟨_,e,fun x hx=>hx⟩
  exact hw.pushLog hlt hbk hrf (fun e=>⟨e,rfl⟩) (⟨hv3,fun _ hcl=>absurd hcl (Nat.lt_irrefl _),fun _=>rfl⟩:LRel E w _ true true r.2.1 (q.cells ν)) fun _ _ x hx=>absurd hx.2 (Nat.lt_irrefl _)
 ·exact zac
theorem znT {hp:List (Option Blk)} {t:TypeId} {x:V} {low high max:Option Lf} : M.sat F ν (zmk P hp t x low high max) (fun z=>∀ ρ w,HS E ν ρ hp w →
  ∃ v w',(Instr.sliceAt t (x.conc ν ρ) (low.map (Lf.conc ν ρ)) (high.map (Lf.conc ν ρ)) (max.map (Lf.conc ν ρ))).run P w = .ok v w'∧zbc E ν ρ hp v w' z):=by
 unfold zmk
 split
 ·split
  ·exact znS
  ·exact zac
 ·refine zae (fun _=>?_) (fun _=>zpc)
  split
  ·exact znR
  ·exact zac
theorem zmC {hp:List (Option Blk)} {t tx:TypeId} {s x:V} :
  M.sat F ν (zi1 P hp t tx s x) (fun z=>∀ ρ w ty,HS E ν ρ hp w→∃ v w',(Builtin.append_ #[t,tx] ty #[s.conc ν ρ,x.conc ν ρ]).run P w = .ok v w'∧zbc E ν ρ hp v w' z):=by
 unfold zi1
 exact zae (fun _=>zag zmB fun z h ρ w ty hw=>h ρ w ty hw) (fun _=>zmx)
end
end Go.Sx
namespace Go.Sx
open Go.RowKit
section
variable {P:Program} {I:World→Prop} {S:Sigs} {F:FEnv} {E:Env} {ν:Nat→DV}
theorem zcZ {c:A} : ∀ (ts:List Ty) (as bs:List A),M.sat F ν (zd2 c ts as bs) (fun r=>(c.bool ν=true→PEq ν ν ts as r)∧(c.bool ν=false→PEq ν ν ts bs r))
 | .i::ts,a::l,b::l'=>by
  unfold zd2
  refine zaa zci fun x hx=>zaa (zcZ ts l l') fun r hr=>zab ⟨fun h=>⟨?_,hr.1 h⟩,fun h=>⟨?_,hr.2 h⟩⟩
  ·show a.int ν=x.int ν
   rw [hx,h];rfl
  ·show b.int ν=x.int ν
   rw [hx,h];rfl
 | .b::ts,a::l,b::l'=>by
  unfold zd2
  refine zaa zfr fun x hx=>zaa (zcZ ts l l') fun r hr=>zab ⟨fun h=>⟨?_,hr.1 h⟩,fun h=>⟨?_,hr.2 h⟩⟩
  ·show a.bool ν=x.bool ν
   rw [hx,h];rfl
  ·show b.bool ν=x.bool ν
   rw [hx,h];rfl
 | .l::ts,a::l,b::l'=>by
  unfold zd2
  refine zaa zrq fun x hx=>zaa (zcZ ts l l') fun r hr=>zab ⟨fun h=>⟨?_,hr.1 h⟩,fun h=>⟨?_,hr.2 h⟩⟩
  ·show a.cells ν=x.cells ν
   rw [hx,h];rfl
  ·show b.cells ν=x.cells ν
   rw [hx,h];rfl
 | [],[],[]=>zab ⟨fun _=>trivial,fun _=>trivial⟩
 | [],[],_::_=>zac
 | [],_::_,_=>zac
 | .i::_,[],_=>zac
 | .i::_,_::_,[]=>zac
 | .b::_,[],_=>zac
 | .b::_,_::_,[]=>zac
 | .l::_,[],_=>zac
 | .l::_,_::_,[]=>zac
theorem zlB {m:List Nat} {n k:Nat} (h:zhr m n=true) (hk:k≤n):zhr m k=true:=by
 have:=zdN h
 induction k with
 | zero=>rfl
 | succ k ih=>simp only [zhr,Bool.and_eq_true];exact ⟨ih (by omega),by rw [this k (by omega)];exact Nat.beq_refl _⟩
theorem zdj {n0:Nat} (hn:E.n0≤n0) {c:A} {x y:St} : M.sat F ν (zfU n0 c x y) (fun s=>∀ ρ a w,(c.bool ν=true→RR ν E ρ ⟨x,[]⟩ a w→∃ ρ',(∀ j,j<n0→ρ' j=ρ j)∧RR ν E ρ' ⟨s,[]⟩ a w) ∧
  (c.bool ν=false→RR ν E ρ ⟨y,[]⟩ a w→∃ ρ',(∀ j,j<n0→ρ' j=ρ j)∧RR ν E ρ' ⟨s,[]⟩ a w)):=by
 unfold zfU
 dsimp only
 generalize zsn x y=p
 generalize zd1 p.tys.length p.st x=gx
 generalize zd1 p.tys.length p.st y=gy
 refine zae (fun hc=>?_) (fun _=>zac)
 simp only [Bool.and_eq_true] at hc
 obtain ⟨⟨⟨⟨⟨h1,h2⟩,h3⟩,h4⟩,h5⟩,h6⟩:=hc
 have h6:=Nat.le_of_ble_eq_true h6
 refine zaa (zcZ _ _ _) fun ops hops=>zab fun ρ a w=>⟨fun hb h=>?_,fun hb h=>?_⟩
 ·exact ⟨fun j=>ρ (rnm gx.2 j),fun j hj=>congrArg ρ (zdN h4 j hj),RR.inst (fun _ _=>rfl) (hops.1 hb) h1 (h.sub h2 (zlB h4 hn) (by simp only [St.inst,List.length_map];omega))⟩
 ·exact ⟨fun j=>ρ (rnm gy.2 j),fun j hj=>congrArg ρ (zdN h5 j hj),RR.inst (fun _ _=>rfl) (hops.2 hb) h1 (h.sub h3 (zlB h5 hn) (by simp only [St.inst,List.length_map];omega))⟩
def zlC (v:Value):Act:={ tmps:=#[v],defers:=[] }
theorem zrK {n0:Nat} (hn:E.n0≤n0) {c:A} {x y:V×List (Option Blk)} : M.sat F ν (zsx n0 c x y) (fun z =>
  (c.bool ν=true→∀ ρ w,HS E ν ρ x.2 w→x.1.good ν→∃ ρ',(∀ j,j<n0→ρ' j=ρ j)∧HS E ν ρ' z.2 w∧z.1.good ν∧z.1.conc ν ρ'=x.1.conc ν ρ) ∧
  (c.bool ν=false→∀ ρ w,HS E ν ρ y.2 w→y.1.good ν→∃ ρ',(∀ j,j<n0→ρ' j=ρ j)∧HS E ν ρ' z.2 w∧z.1.good ν∧z.1.conc ν ρ'=y.1.conc ν ρ)):=by
 unfold zsx
 refine zaa (zdj (E:=E) hn) fun s hs=>?_
 obtain ⟨sl,hp⟩:=s
 split
 ·rename_i v hv
  simp only at hv
  subst hv
  have one:∀ (u:V) (h:List (Option Blk)) (ρ:Nat→Loc) (w:World),HS E ν ρ h w→u.good ν→RR ν E ρ ⟨⟨[some u],h⟩,[]⟩ (zlC (u.conc ν ρ)) w:=fun u h ρ w hw hg =>
   ⟨⟨rfl,rfl,fun t v ht=>(by
    cases t with
    | zero=>cases ht;exact ⟨hg,rfl⟩
    | succ t=>cases t<;>cases ht),fun e he=>by cases he⟩,hw⟩
  have back:∀ (u:Value) (ρ':Nat→Loc) (w:World),RR ν E ρ' ⟨⟨[some v],hp⟩,[]⟩ (zlC u) w→HS E ν ρ' hp w∧v.good ν∧v.conc ν ρ'=u:=fun u ρ' w h=>by
   obtain ⟨h1,h2⟩:=h.act.slot 0 v rfl
   refine ⟨h.hs,h1,?_⟩
   have:(zlC u).tmps[0]? = some u:=rfl
   rw [this] at h2
   exact (Option.some.inj h2).symm
  refine zab ⟨fun hc ρ w hw hg=>?_,fun hc ρ w hw hg=>?_⟩
  ·obtain ⟨ρ',h1,h2⟩:=(hs ρ _ w).1 hc (one _ _ ρ w hw hg)
   exact ⟨ρ',h1,back _ _ _ h2⟩
  ·obtain ⟨ρ',h1,h2⟩:=(hs ρ _ w).2 hc (one _ _ ρ w hw hg)
   exact ⟨ρ',h1,back _ _ _ h2⟩
 ·exact zac
theorem znU {a:A} {q:Nat} (h0:0≤a.int ν):∀ (l:List (Nat×Alt)),M.sat F ν (zss a q l) (fun r=>∀ x,zaP l (a.int ν).toNat=some x→∃ n,x = .p q n∧r.int ν=(n:Int)∧n<zhY l)
 | []=>zac
 | [x]=>by
  unfold zss
  split
  ·rename_i q' n hx
   refine zae (fun hq=>zab fun y hy=>?_) (fun _=>zac)
   simp only [zaP] at hy
   split at hy
   ·cases hy
    rw [←Nat.eq_of_beq_eq_true hq] at hx
    exact ⟨n,hx,rfl,by simp only [zhY,hx];omega⟩
   ·cases hy
  ·exact zac
 | x::y::l=>by
  unfold zss
  split
  ·rename_i q' n hx
   refine zae (fun hq=>?_) (fun _=>zac)
   refine zaa (zaf (Q:=fun c=>c.bool ν=(a.int ν==((x.1:Nat):Int))) fun c h=>A.bool_of_den h) fun c hc=>zaa (znU h0 (y::l)) fun r hr=>zag zci fun z hz u hu=>?_
   rw [zlv h0] at hc
   rw [zaP] at hu
   split at hu
   ·rename_i he
    cases hu
    rw [←Nat.eq_of_beq_eq_true hq] at hx
    have he:=Nat.eq_of_beq_eq_true he
    refine ⟨n,hx,?_,?_⟩
    ·rw [hz,hc,←he];simp
    ·rw [zhY,hx];simp only;omega
   ·rename_i he
    obtain ⟨m,h1,h2,h3⟩:=hr u hu
    refine ⟨m,h1,?_,?_⟩
    ·rw [hz,hc]
     have:(a.int ν).toNat≠x.1:=fun e=>he (by rw [e];exact Nat.beq_refl _)
     simp [this,h2]
    ·rw [zhY,hx];simp only;omega
  ·exact zac
theorem zij {p:Nat×Alt→Bool} : ∀ {l:List (Nat×Alt)} {k:Nat} {x:Alt},zaP l k=some x→(∀ y,(k,y)∈l→p (k,y)=true)→zaP (l.filter p) k=some x
 | [],_,_,h,_=>by simp [zaP] at h
 | y::l,k,x,h,hp=>by
  simp only [zaP] at h
  split at h
  ·rename_i he
   cases h
   have he:=Nat.eq_of_beq_eq_true he
   have:p y=true:=by
    have:=hp y.2 (by rw [←he];exact List.mem_cons_self)
    rw [←he] at this;exact this
   rw [List.filter_cons,if_pos this]
   simp only [zaP,he,Nat.beq_refl,if_true]
  ·rename_i he
   have ih:=zij (l:=l) h (fun y hy=>hp y (List.mem_cons_of_mem _ hy))
   rw [List.filter_cons]
   split
   ·simp only [zaP]
    rw [if_neg he];exact ih
   ·exact ih
theorem zlD {iface:Bool} {l:List (Nat×Alt)} (hok:zd4 iface (zaJ l) l=true) {k:Nat} {x:Alt} (hx:zaP l k=some x) (hk:k≠zaJ l):zaP (l.filter fun x=>!x.2.isNil) k=some x:=by
 refine zij hx fun y hy=>?_
 have:=List.all_eq_true.1 hok _ hy
 simp only at this
 cases y<;>cases iface<;>first | rfl | (simp only at this;cases this;done) | exact absurd (Nat.eq_of_beq_eq_true this) hk
theorem znV {a:A} {l:List (Nat×Alt)} (hg:(Lf.alt a l).good ν):M.sat F ν (zl9 a l) (fun r=>r.good ν∧∀ ρ,r.conc ν ρ=(Lf.alt a l).conc ν ρ∧∃ ad,r.conc ν ρ = .pointer (some ad)):=by
 unfold zl9
 refine zae (fun hok=>?_) (fun _=>zac)
 obtain ⟨h0,h1⟩:=hg
 obtain ⟨y,hy⟩:=Option.isSome_iff_exists.1 h1
 refine zaa (zaf (Q:=fun c=>c.bool ν=(a.int ν != ((zaJ l:Nat):Int))) fun c h=>A.bool_of_den h) fun c hc=>?_
 refine zaa (zbl (Q:=fun _=>(a.int ν).toNat≠zaJ l) fun h=>by
  rw [hc,bne,zlv h0] at h
  simpa using h) fun _ hne=>?_
 have hy2:=zlD hok hy hne
 split
 ·exact zac
 ·rename_i x r hfl
  rw [hfl] at hy2
  split
  ·rename_i q n hx
   refine zaa (znU h0 _) fun ix hix=>zab ?_
   obtain ⟨m,e1,e2,e3⟩:=hix y hy2
   refine ⟨⟨by rw [e2];exact Int.natCast_nonneg _,by rw [e2];exact Int.ofNat_lt.2 e3⟩,fun ρ=>?_⟩
   have hcc:(Lf.p q (.s 0 ix 1 (zhY (x::r)))).conc ν ρ = .pointer (some ⟨(ρ q).blk,(ρ q).off+m,none⟩):=by
    simp only [Lf.conc,Off.val,e2,Int.toNat_natCast,Nat.zero_add,Nat.mul_one]
   refine ⟨?_,_,hcc⟩
   rw [hcc]
   simp only [Lf.conc,zbk,hy,e1,Alt.conc]
  ·exact zac
theorem zvY {hp:List (Option Blk)} {f:FuncId} {vs:List V} {z:OR} : M.sat F ν (orOf hp z) (fun r=>∀ ρ w,HS E ν ρ hp w→zez P E ν f vs hp ρ w z→zez P E ν f vs hp ρ w (.hp (some r.1) r.2)):=by
 unfold orOf
 split
 ·rename_i v
  refine zab fun ρ w hw h=>?_
  obtain ⟨h1,h2⟩:=h
  exact h2.mono fun e w' ⟨he,hb⟩=>⟨_,he,ρ,fun _ _=>rfl,hw.of_below hb,fun u hu=>by cases hu;exact ⟨h1,rfl⟩⟩
 ·exact zab fun ρ w _ h=>h
 ·exact zac
theorem zik {K:Nat} (hS:SigsOK P I K S F) (hE:E.Ok K) {name:String} {vs:List V} {hp:List (Option Blk)} {a:A} (hlen:E.n0≤hp.length) (h0:0≤a.int ν):∀ (l:List (Nat×Alt)),M.sat F ν (zgw P S name vs hp a l) (fun z =>
  ∀ t b,zaP l (a.int ν).toNat=some (.ifp t b)→∃ f,zdf P t name=some f∧∀ ρ w,(∀ v∈vs,V.good ν v)→HS E ν ρ hp w→I w →
   (callFunc f ((V.s (.one (.p b (.c 0)))::vs).map (V.conc ν ρ)).toArray).run P w = .ok (.enter f ((V.s (.one (.p b (.c 0)))::vs).map (V.conc ν ρ)).toArray) w ∧
   zez P E ν f (V.s (.one (.p b (.c 0)))::vs) hp ρ w (.hp (some z.1) z.2))
 | []=>zac
 | x::l=>by
  unfold zgw
  split
  ·rename_i t b hx
   refine zaa (zad (Q:=fun f=>zdf P t name=some f) fun a h=>h) fun f hf=>?_
   have hgood:(∀ v∈vs,V.good ν v)→∀ v∈V.s (.one (.p b (.c 0)))::vs,V.good ν v:=fun h v hv=>by
    rcases List.mem_cons.1 hv with rfl | hv
    ·exact V.good_s.2 (V1.good_one.2 trivial)
    ·exact h v hv
   have hone:M.sat F ν (do orOf hp (←zfY P S f (.s (.one (.p b (.c 0)))::vs) hp):M (V×List (Option Blk))) (fun z=>∀ ρ w,(∀ v∈vs,V.good ν v)→HS E ν ρ hp w→I w →
     (callFunc f ((V.s (.one (.p b (.c 0)))::vs).map (V.conc ν ρ)).toArray).run P w = .ok (.enter f ((V.s (.one (.p b (.c 0)))::vs).map (V.conc ν ρ)).toArray) w ∧
     zez P E ν f (V.s (.one (.p b (.c 0)))::vs) hp ρ w (.hp (some z.1) z.2)):=by
    refine zaa (zgb (E:=E) hS hE) fun z hz=>zag (zvY (P:=P) (E:=E) (f:=f) (vs:=V.s (.one (.p b (.c 0)))::vs)) fun r hr ρ w hv hw hI=>?_
    obtain ⟨g1,g2⟩:=hz ρ w (hgood hv) hw hI
    exact ⟨g1,hr ρ w hw g2⟩
   refine zae (fun hemp=>?_) (fun _=>?_)
   ·refine zag hone fun z hz t' b' hat=>?_
    have hl:l=[]:=List.isEmpty_iff.1 hemp
    subst hl
    simp only [zaP] at hat
    split at hat
    ·simp only [Option.some.injEq] at hat
     rw [hx] at hat
     cases hat
     exact ⟨f,hf,hz⟩
    ·cases hat
   ·refine zaa (zaf (Q:=fun c=>c.bool ν=(a.int ν==((x.1:Nat):Int))) fun c h=>A.bool_of_den h) fun c hc=>?_
    rw [zlv h0] at hc
    refine zaa (zbu hone) fun u hu=>zaa (zbu (zik hS hE hlen h0 l)) fun v hv=>zag (zrK (E:=E) hlen) fun z hz t' b' hat=>?_
    simp only [zaP] at hat
    split at hat
    ·rename_i he
     simp only [Option.some.injEq] at hat
     rw [hx] at hat
     cases hat
     have hct:c.bool ν=true:=by rw [hc];simpa using (Nat.eq_of_beq_eq_true he).symm
     refine ⟨f,hf,fun ρ w hvs hw hI=>?_⟩
     obtain ⟨g1,g2⟩:=hu hct ρ w hvs hw hI
     refine ⟨g1,Calls.mono g2 fun e w' ⟨r,hr,ρ',k1,k2,k3⟩=>?_⟩
     obtain ⟨k4,k5⟩:=k3 _ rfl
     obtain ⟨ρ2,m1,m2,m3,m4⟩:=hz.1 hct ρ' w' k2 k4
     exact ⟨r,hr,ρ2,fun j hj=>(m1 j hj).trans (k1 j hj),m2,fun q hq=>by cases hq;exact ⟨m3,by rw [k5,m4]⟩⟩
    ·rename_i he
     have hcf:c.bool ν=false:=by
      rw [hc]
      simp only [decide_eq_false_iff_not]
      intro e
      exact he (by rw [e];exact Nat.beq_refl _)
     obtain ⟨f',hf',hcall⟩:=hv hcf t' b' hat
     refine ⟨f',hf',fun ρ w hvs hw hI=>?_⟩
     obtain ⟨g1,g2⟩:=hcall ρ w hvs hw hI
     refine ⟨g1,Calls.mono g2 fun e w' ⟨r,hr,ρ',k1,k2,k3⟩=>?_⟩
     obtain ⟨k4,k5⟩:=k3 _ rfl
     obtain ⟨ρ2,m1,m2,m3,m4⟩:=hz.2 hcf ρ' w' k2 k4
     exact ⟨r,hr,ρ2,fun j hj=>(m1 j hj).trans (k1 j hj),m2,fun q hq=>by cases hq;exact ⟨m3,by rw [k5,m4]⟩⟩
  ·exact zac
end
end Go.Sx
namespace Go.Sx
open Go.RowKit
section
variable {P:Program} {I:World→Prop} {S:Sigs} {F:FEnv} {E:Env} {ν:Nat→DV}
theorem Off.plus_spec (o:Off) (k:Nat):(o.plus k).val ν=o.val ν+k∧(o.good ν→(o.plus k).good ν):=by
 cases o with
 | c n=>exact ⟨rfl,id⟩
 | s b ix sz len=>exact ⟨by simp [Off.plus,Off.val];omega,id⟩
 | v b ix sz a=>exact ⟨by simp [Off.plus,Off.val];omega,id⟩
 | d b ix sz len ix2 sz2 len2=>exact ⟨by simp [Off.plus,Off.val];omega,id⟩
 | w b ix sz a ix2 sz2 len2=>exact ⟨by simp [Off.plus,Off.val];omega,id⟩
theorem zbZ {ix:A} {len:Nat} : M.sat F ν (zde ix len) (fun _=>0≤ix.int ν∧ix.int ν<len):=by
 unfold zde
 refine zaa (zaf (Q:=fun r=>r.bool ν=decide (ix.int ν≥0)) fun r h=>A.bool_of_den h) fun r hr=>?_
 refine zaa (zbl (Q:=fun _=>0≤ix.int ν) fun h=>by rw [hr] at h;simpa using h) fun _ h0=>?_
 refine zaa (zaf (Q:=fun r=>r.bool ν=decide (ix.int ν<(len:Int))) fun r h=>A.bool_of_den h) fun r hr=>?_
 exact zbl fun h=>by rw [hr] at h;exact ⟨h0,by simpa using h⟩
theorem ze3 {t:TypeId} {x ix:Lf} (hx:x.good ν):M.sat F ν (zfW P t x ix) (fun l=>l.good ν∧∀ (ρ:Nat→Loc) (w:World),
  (Instr.indexAt t (x.conc ν ρ) (ix.conc ν ρ)).run P w = .ok (l.conc ν ρ) w):=by
 unfold zfW
 refine zaa (zad (Q:=fun k=>tk P t=some k) fun a h=>h) fun k hk=>?_
 split
 ·rename_i len elem blk off ki a
  have hu:=zlo hk
  refine zaa (zad (Q:=fun k=>zaO P elem=some k) fun a h=>h) fun sz hs=>?_
  have run:∀ (ρ:Nat→Loc) (w:World),0≤a.int ν→a.int ν<len →
    (Instr.indexAt t ((Lf.p blk off).conc ν ρ) ((Lf.i ki a).conc ν ρ)).run P w = .ok (.pointer (some ⟨(ρ blk).blk,(ρ blk).off+off.val ν+(a.int ν).toNat*sz,none⟩)) w:=fun ρ w h0 h1=>by
   simp [Instr.indexAt,asIntOf,Lf.conc,run_underlying hu,Instr.sureAddr,h0,h1,za9 hs,zbJ]
  split
  ·rename_i n
   refine zae (fun h=>?_) (fun _=>zac)
   refine zab ⟨(Off.plus_spec off _).2 hx,fun ρ w=>?_⟩
   rw [run ρ w h.1 h.2]
   simp [Lf.conc,(Off.plus_spec (ν:=ν) off _).1,Nat.add_assoc]
  ·split
   ·rename_i o
    refine zaa zbZ fun _ hb=>zab ⟨hb,fun ρ w=>?_⟩
    rw [run ρ w hb.1 hb.2]
    simp [Lf.conc,Off.val,Nat.add_assoc]
   ·rename_i o ix0 sz0 len0
    refine zaa zbZ fun _ hb=>zab ⟨⟨hx,hb⟩,fun ρ w=>?_⟩
    rw [run ρ w hb.1 hb.2]
    simp [Lf.conc,Off.val,Nat.add_assoc]
   ·rename_i o ix0 sz0 a0
    refine zaa zbZ fun _ hb=>zab ⟨⟨hx,hb⟩,fun ρ w=>?_⟩
    rw [run ρ w hb.1 hb.2]
    simp [Lf.conc,Off.val,Nat.add_assoc]
   ·exact zac
 ·rename_i len elem g off ki a
  have hu:=zlo hk
  refine zaa (zad (Q:=fun k=>zaO P elem=some k) fun a h=>h) fun sz hs=>?_
  have run:∀ (ρ:Nat→Loc) (w:World),0≤a.int ν→a.int ν<len →
    (Instr.indexAt t ((Lf.gp g off).conc ν ρ) ((Lf.i ki a).conc ν ρ)).run P w = .ok (.pointer (some ⟨g,off.val ν+(a.int ν).toNat*sz,none⟩)) w:=fun ρ w h0 h1=>by
   simp [Instr.indexAt,asIntOf,Lf.conc,run_underlying hu,Instr.sureAddr,h0,h1,za9 hs,zbJ]
  split
  ·rename_i n
   refine zae (fun h=>?_) (fun _=>zac)
   refine zab ⟨(Off.plus_spec off _).2 hx,fun ρ w=>?_⟩
   rw [run ρ w h.1 h.2]
   simp [Lf.conc,(Off.plus_spec (ν:=ν) off _).1]
  ·split
   ·rename_i o
    refine zaa zbZ fun _ hb=>zab ⟨hb,fun ρ w=>?_⟩
    rw [run ρ w hb.1 hb.2]
    simp [Lf.conc,Off.val]
   ·exact zac
 ·exact zac
theorem zpi {t:TypeId} {x:List Lf} {ix:Lf} (hx:∀ l∈x,Lf.good ν l):M.sat F ν (zoH P t x ix) (fun v=>v.good ν∧∀ (ρ:Nat→Loc) (w:World),
  (Instr.index t (.agg (x.map (Lf.conc ν ρ)).toArray) (ix.conc ν ρ)).run P w = .ok (v.conc ν ρ) w):=by
 unfold zoH
 refine zaa (zad (Q:=fun k=>tk P t=some k) fun a h=>h) fun k hk=>?_
 split
 ·rename_i len elem ki a
  have hu:=zlo hk
  refine zaa (zad (Q:=fun k=>tk P elem=some k) fun a h=>h) fun ke hke=>?_
  refine zaa (zad (Q:=fun k=>zaO P elem=some k) fun a h=>h) fun sz hs=>?_
  have run:∀ (ρ:Nat→Loc) (w:World),0≤a.int ν→a.int ν<len →
    (Instr.index t (.agg (x.map (Lf.conc ν ρ)).toArray) ((Lf.i ki a).conc ν ρ)).run P w=(part elem (x.map (Lf.conc ν ρ)).toArray ((a.int ν).toNat*sz)).run P w:=fun ρ w h0 h1=>by
   simp [Instr.index,asIntOf,Lf.conc,run_underlying hu,h0,h1,za9 hs]
  split
  ·rename_i n
   refine zae (fun h=>?_) (fun _=>zac)
   refine zag (zdK hx) fun v hv=>⟨hv.1,fun ρ w=>?_⟩
   rw [run ρ w h.1 h.2]
   exact hv.2 ρ w
  ·refine zaa zbZ fun _ hb=>?_
   refine zae (fun ha=>?_) (fun ha=>?_)
   ·refine zaa (zhz hb.1 hb.2 sz 0) fun xs hxs=>zab ⟨V1.good_agg.2 hxs.2.1,fun ρ w=>?_⟩
    rw [run ρ w hb.1 hb.2]
    simp only [part,Sem.run_bind,zdJ hke,ha,Result.andThen_ok,if_true,za9 hs,Sem.run_pure,V1.conc]
    congr 2
    apply Array.ext'
    rw [Array.toList_extract,List.extract_eq_take_drop]
    apply List.ext_getElem?
    intro j
    rw [List.getElem?_take]
    by_cases hj:j<sz
    ·obtain ⟨u,y,h1,h2,h3⟩:=hxs.2.2 ρ j hj
     rw [za3] at h2
     rw [if_pos (by omega),List.getElem?_drop]
     simp only [List.getElem?_map,h1,Option.map_some]
     rw [show (A.int ν a).toNat*sz+j=0+j+(A.int ν a).toNat*sz from by omega,h2]
     simp [h3]
    ·rw [if_neg (by omega)]
     simp only [List.getElem?_map]
     rw [List.getElem?_eq_none (by have:=hxs.1;omega)]
     rfl
   ·refine zaa (zad (Q:=fun row=>zbA (x.map some) 0 sz len=some row) fun a h=>h) fun row hrow=>?_
    obtain ⟨h1,h2⟩:=zbI hrow
    refine zaa (zcj h1 hb.1 hb.2) fun u hu'=>zab ⟨V1.good_one.2 hu'.1,fun ρ w=>?_⟩
    rw [run ρ w hb.1 hb.2]
    obtain ⟨y,hy,he⟩:=hu'.2 ρ
    rw [←h2 _ (by have:=hb.1;have:=hb.2;omega),za3,Nat.zero_add] at hy
    simp [part,zdJ hke,ha,hy,V1.conc,he]
 ·exact zac
theorem zpj {t:TypeId} {x:List Lf} {f:Nat} (hx:∀ l∈x,Lf.good ν l):M.sat F ν (zoI P t x f) (fun v=>v.good ν∧∀ (ρ:Nat→Loc) (w:World),
  (Instr.field t (.agg (x.map (Lf.conc ν ρ)).toArray) f).run P w = .ok (v.conc ν ρ) w):=by
 unfold zoI
 refine zaa (zad (Q:=fun k=>tk P t=some k) fun a h=>h) fun k hk=>?_
 split
 ·rename_i fs
  obtain ⟨fl,hu,hfs⟩:=zeU hk
  refine zaa (zad (Q:=fun fd=>fs[f]? = some fd) fun a h=>h) fun fd hfd=>?_
  subst hfs
  rw [List.getElem?_map] at hfd
  obtain ⟨g,hg,rfl⟩:=Option.map_eq_some_iff.1 hfd
  refine zag (zdK hx) fun v hv=>⟨hv.1,fun ρ w=>?_⟩
  have hg':fl[f]? = some g:=by simpa using hg
  simp only [Instr.field,Sem.run_bind,run_underlying hu,Result.andThen_ok,hg',asAgg,Sem.run_pure]
  exact hv.2 ρ w
 ·exact zac
theorem zjN {t:TypeId} {x:Lf} {f:Nat} (hx:x.good ν):M.sat F ν (zfX P t x f) (fun l=>l.good ν∧∀ (ρ:Nat→Loc) (w:World),
  (Instr.fieldAt t (x.conc ν ρ) f).run P w = .ok (l.conc ν ρ) w):=by
 unfold zfX
 refine zaa (zad (Q:=fun k=>tk P t=some k) fun a h=>h) fun k hk=>?_
 split
 ·rename_i fs blk off
  obtain ⟨fl,hu,hfs⟩:=zeU hk
  refine zaa (zad (Q:=fun fd=>fs[f]? = some fd) fun a h=>h) fun fd hfd=>?_
  refine zaa (zad (Q:=fun k=>zaO P fd.2=some k) fun a h=>h) fun sz hs=>?_
  refine zae (fun _=>zac) (fun hz=>?_)
  have hz':sz≠0:=fun h=>hz (by subst h;rfl)
  subst hfs
  rw [List.getElem?_map] at hfd
  obtain ⟨g,hg,rfl⟩:=Option.map_eq_some_iff.1 hfd
  refine zab ⟨(Off.plus_spec off _).2 hx,fun ρ w=>?_⟩
  have hg':fl[f]? = some g:=by simpa using hg
  simp [Instr.fieldAt,run_underlying hu,hg',Lf.conc,Instr.sureAddr,fieldPlace,za9 hs,hz',zbJ,(Off.plus_spec (ν:=ν) off _).1,Nat.add_assoc]
 ·rename_i fs gl off
  obtain ⟨fl,hu,hfs⟩:=zeU hk
  refine zaa (zad (Q:=fun fd=>fs[f]? = some fd) fun a h=>h) fun fd hfd=>?_
  refine zaa (zad (Q:=fun k=>zaO P fd.2=some k) fun a h=>h) fun sz hs=>?_
  refine zae (fun _=>zac) (fun hz=>?_)
  have hz':sz≠0:=fun h=>hz (by subst h;rfl)
  subst hfs
  rw [List.getElem?_map] at hfd
  obtain ⟨g,hg,rfl⟩:=Option.map_eq_some_iff.1 hfd
  refine zab ⟨(Off.plus_spec off _).2 hx,fun ρ w=>?_⟩
  have hg':fl[f]? = some g:=by simpa using hg
  simp [Instr.fieldAt,run_underlying hu,hg',Lf.conc,Instr.sureAddr,fieldPlace,za9 hs,hz',zbJ,(Off.plus_spec (ν:=ν) off _).1]
 ·exact zac
theorem zbL {ρ:Nat→Loc} {r:RS} {a:Act} {ctx:Ctx} (h:ARel ν ρ r a) (hc:zdM ctx a):∀ {xs:List Operand} {vs:List V},zcB r ctx xs=some vs→xs.map a.eval=vs.map (V.conc ν ρ)
 | [],vs,hv=>by simp [zcB] at hv;subst hv;rfl
 | x::xs,vs,hv=>by
  simp only [zcB] at hv
  cases h1:rd r ctx x with
  | none=>simp [h1] at hv
  | some v =>
   simp only [h1] at hv
   cases h2:zcB r ctx xs with
   | none=>simp [h2] at hv
   | some vs' =>
    simp only [h2,Option.some.injEq] at hv
    subst hv
    simp only [List.map_cons,(zal h hc h1).2,zbL h hc h2]
theorem zrL {r:RS} {ctx:Ctx} {c a b:Operand} : M.sat F ν (zqw r ctx c a b) (fun v=>∀ ρ act,ARel ν ρ r act→zdM ctx act →
  v.good ν∧∃ t:Bool,act.eval c = .bool t∧(if t then act.eval a else act.eval b)=v.conc ν ρ):=by
 unfold zqw
 split
 ·rename_i hc
  refine zad fun v hv ρ act har hctx=>?_
  have h1:=(zal har hctx hc).2
  have h2:=zal har hctx hv
  exact ⟨h2.1,true,h1,h2.2⟩
 ·rename_i hc
  refine zad fun v hv ρ act har hctx=>?_
  have h1:=(zal har hctx hc).2
  have h2:=zal har hctx hv
  exact ⟨h2.1,false,h1,h2.2⟩
 ·rename_i x _ _ hc
  refine zaa (zad (Q:=fun va=>rd r (match c with | .tmp t=>((t,true)::ctx,(t,false)::ctx) | _=>(ctx,ctx)).1 a=some va) fun v h=>h) fun va hva=>?_
  refine zaa (zad (Q:=fun vb=>rd r (match c with | .tmp t=>((t,true)::ctx,(t,false)::ctx) | _=>(ctx,ctx)).2 b=some vb) fun v h=>h) fun vb hvb=>?_
  refine zag zjw fun v hv ρ act har hctx=>?_
  have h1:=(zal har hctx hc).2
  have h1':act.eval c = .bool (x.bool ν):=h1
  have hsl:∀ t,c = .tmp t→act.tmps[t]? = some (.bool (x.bool ν)):=by
   intro t ht
   subst ht
   exact (znz har hctx (show r.slot ctx t=some _ from hc)).2
  cases hx:x.bool ν with
  | true =>
   have hca:zdM (match c with | .tmp t=>((t,true)::ctx,(t,false)::ctx) | _=>(ctx,ctx)).1 act:=by
    split
    ·intro p hp
     rcases List.mem_cons.1 hp with rfl | h
     ·rw [hsl _ rfl,hx]
     ·exact hctx p h
    ·exact hctx
   have h2:=zal har hca hva
   have h3:=hv.1 hx h2.1
   exact ⟨h3.2,true,by rw [h1',hx],by simp only [if_true];rw [h3.1 ρ];exact h2.2⟩
  | false =>
   have hcb:zdM (match c with | .tmp t=>((t,true)::ctx,(t,false)::ctx) | _=>(ctx,ctx)).2 act:=by
    split
    ·intro p hp
     rcases List.mem_cons.1 hp with rfl | h
     ·rw [hsl _ rfl,hx]
     ·exact hctx p h
    ·exact hctx
   have h2:=zal har hcb hvb
   have h3:=hv.2 hx h2.1
   exact ⟨h3.2,false,by rw [h1',hx],by simp only [Bool.false_eq_true,if_false];rw [h3.1 ρ];exact h2.2⟩
 ·exact zac
theorem Lf.conc_scalar {l:Lf} (h:l.scalar=true) (ρ ρ':Nat→Loc):l.conc ν ρ=l.conc ν ρ':=by
 cases l<;>first | rfl | (rename_i t _ _;cases t<;>rfl) | cases h
theorem V1.conc_scalar {v:V1} (h:v.cells.all Lf.scalar=true) (ρ ρ':Nat→Loc):v.conc ν ρ=v.conc ν ρ':=by
 cases v with
 | one l=>exact Lf.conc_scalar (by simpa [V1.cells] using h) ρ ρ'
 | agg l =>
  simp only [V1.conc]
  congr 2
  exact List.map_congr_left fun y hy=>Lf.conc_scalar (List.all_eq_true.1 h y hy) ρ ρ'
theorem zdk {ρ:Nat→Loc} {r:RS} {a:Act} {ctx:Ctx} (h:ARel ν ρ r a) (hc:zdM ctx a):∀ {xs:List (Nat×Operand)} {vs:List (Nat×V1)},zcT r ctx xs=some vs →
  xs.map (fun p=>(p.1,a.eval p.2))=vs.map (fun p=>(p.1,p.2.conc ν ρ))∧∀ p∈vs,p.2.good ν
 | [],vs,hv=>by simp [zcT] at hv;subst hv;exact ⟨rfl,fun p hp=>by cases hp⟩
 | x::xs,vs,hv=>by
  simp only [zcT] at hv
  split at hv
  ·rename_i v h1
   split at hv
   ·cases hv
   ·rename_i vs' h2
    cases hv
    have e1:=zal h hc h1
    have e2:=zdk h hc h2
    refine ⟨by simp only [List.map_cons,e2.1,e1.2];rfl,fun p hp=>?_⟩
    rcases List.mem_cons.1 hp with rfl | hp
    ·exact e1.1
    ·exact e2.2 p hp
  ·cases hv
theorem zfL {f:Field→Nat×TypeId} (hf:∀ d,f d=(d.offset,d.type)) (w:World):∀ (l:List Field) (places:List (Nat×Nat)),
  zby (fun f:Nat×TypeId=>(zaO P f.2).map fun n=>(f.1,n)) (l.map f)=some places →
  (l.mapM fun (d:Field)=>(do pure (d.offset,←sizeOf d.type):Sem (Nat×Nat))).run P w = .ok places w
 | [],places,h=>by simp [zby] at h;subst h;simp
 | d::l,places,h=>by
  simp only [List.map_cons,zby,hf] at h
  split at h
  ·cases h
  ·rename_i b hb
   split at h
   ·cases h
   ·rename_i r hr
    cases h
    obtain ⟨n,hn,rfl⟩:=Option.map_eq_some_iff.1 hb
    simp only [List.mapM_cons,Sem.run_bind,za9 hn,Result.andThen_ok,Sem.run_pure,zfL hf w l r hr]
theorem znW {t:TypeId} {ps:List (Nat×V1)} {r:List Lf} (h:zmb P t ps=some r) (hg:∀ p∈ps,p.2.good ν):(∀ x∈r,Lf.good ν x)∧∀ (ρ:Nat→Loc) (w:World),
  (Instr.build t (ps.map fun p=>(p.1,p.2.conc ν ρ)).toArray).run P w = .ok (.agg (r.map (Lf.conc ν ρ)).toArray) w:=by
 unfold zmb at h
 split at h
 ·cases h
 ·rename_i z hz
  unfold zeroCells at hz
  split at hz
  ·cases hz
  ·rename_i i hi
   split at hz
   ·cases hz
   ·rename_i zv hzv
    have hzs:=zd9 (ν:=ν) hz
    have hzero:∀ w,(zeroValue t).run P w = .ok zv w:=fun w=>by simp [zeroValue,typeInfo,hi,hzv]
    have hin:∀ ρ,zv.cells.toList=z.map (Lf.conc ν ρ):=fun ρ=>(hzs.2 ρ).symm
    split at h
    ·rename_i fs hk
     obtain ⟨fl,hu,hfs⟩:=zeU hk
     split at h
     ·cases h
     ·rename_i places hpl
      refine ⟨zhD _ _ _ hzs.1 hg h,fun ρ w=>?_⟩
      obtain ⟨B,hB,hB2⟩:=zfu (ν:=ν) (ρ:=ρ) (place':=fun i=>places.toArray[i]?) (fun i=>by simp) ps z r zv.cells (hin ρ) h
      subst hfs
      have hm:=zfL (P:=P) (fun _=>rfl) w fl.toList places hpl
      simp only [Instr.build,Sem.run_bind,hzero,Result.andThen_ok,run_underlying hu,Array.mapM_eq_mapM_toList,Sem.run_map,hm]
      rw [hB,←hB2]
      rfl
    ·rename_i len elem hk
     have hu:=zlo hk
     split at h
     ·cases h
     ·rename_i sz hs
      refine ⟨zhD _ _ _ hzs.1 hg h,fun ρ w=>?_⟩
      obtain ⟨B,hB,hB2⟩:=zfu (ν:=ν) (ρ:=ρ) (place':=fun i=>some (i*sz,sz)) (fun i=>rfl) ps z r zv.cells (hin ρ) h
      simp only [Instr.build,Sem.run_bind,hzero,Result.andThen_ok,run_underlying hu,za9 hs,Sem.run_pure,hB]
      rw [←hB2]
    ·cases h
theorem zfv {ρ:Nat→Loc} {r:RS} {a:Act} {ctx:Ctx} (h:ARel ν ρ r a) (hc:zdM ctx a):∀ {xs:List Operand} {vs:List V},zcB r ctx xs=some vs→∀ v∈vs,V.good ν v
 | [],vs,hv=>by simp [zcB] at hv;subst hv;intro v hv;cases hv
 | x::xs,vs,hv=>by
  simp only [zcB] at hv
  cases h1:rd r ctx x with
  | none=>simp [h1] at hv
  | some v =>
   simp only [h1] at hv
   cases h2:zcB r ctx xs with
   | none=>simp [h2] at hv
   | some vs' =>
    simp only [h2,Option.some.injEq] at hv
    subst hv
    intro u hu
    rcases List.mem_cons.1 hu with rfl | hu
    ·exact (zal h hc h1).1
    ·exact zfv h hc h2 u hu
theorem zjO {r:RS} {ctx:Ctx} {o:Oper} {t:TypeId} {x y:Operand} (hop:o.op = .store t x y):M.sat F ν (zhw P r ctx t x y) (fun hp'=>∀ ρ a,ARel ν ρ r a→zdM ctx a →
 ∀ w,HS E ν ρ r.st.hp w→∃ w',(execOp a.eval o).run P w = .ok .skip w'∧HS E ν ρ hp' w'):=by
 unfold zhw
 refine zaa (zad (Q:=fun v=>rd r ctx x=some v) fun a h=>h) fun v hv=>?_
 refine zaa (zad (Q:=fun v=>rd r ctx y=some v) fun a h=>h) fun u hu=>?_
 split
 ·rename_i b off v1
  refine zaa (zad (Q:=fun k=>zaO P t=some k) fun a h=>h) fun sz hs=>?_
  refine zaa (zad (Q:=fun bk=>nth r.st.hp b=some bk) fun a h=>h) fun bk hbk=>?_
  split
  ·rename_i cs
   refine zae (fun hcond=>?_) (fun _=>zac)
   simp only [Bool.and_eq_true] at hcond
   obtain ⟨hlen,hok⟩:=hcond
   have hlen:=Nat.eq_of_beq_eq_true hlen
   by_cases hg:off.good ν
   ·refine zaa (zhB hg) fun cs' hd=>zab fun ρ a ha hc w hw=>?_
    have h1:=zal ha hc hv
    have h2:=zal ha hc hu
    have hb0:CBlk ν ρ w (ρ b) true cs:=hw.heap.blk b _ hbk
    have hst:=CBlk.store (P:=P) hb0 hd h2.1 (by simpa using hok)
    have hcells:(a.eval y).cells.toList=v1.cells.map (Lf.conc ν ρ):=by
     rw [h2.2]
     cases v1 with
     | one l =>
      have h1:(l.conc ν ρ).oneCell'=true:=Lf.ok_conc (by simpa [V1.cells] using hok) ρ
      simp only [V.conc,V1.conc,V1.cells,zgN h1,List.map_cons,List.map_nil]
     | agg l=>simp [V.conc,V1.conc,V1.cells,Value.cells]
    have hsz:(a.eval y).cells.size=sz:=by
     rw [←Array.length_toList,hcells];simpa using hlen
    refine ⟨_,?_,hw.upd (w':=w.setCells (ρ b).blk ((ρ b).off+off.val ν) (v1.cells.map (Lf.conc ν ρ))) hbk rfl rfl hst.2 hb0.nil (zbr _ _ _ _) (zbg _ _ _ _).1 (zbg _ _ _ _).2.1 (zbg _ _ _ _).2.2 (fun k hk=>zbv _ _ _ _ k hk)⟩
    simp [execOp,hop,h1.2,V.conc,V1.conc,Lf.conc,Instr.storeAt,Instr.sureAddr,storeVar,za9 hs,hsz,hcells,hst.1]
   ·refine zaa zat fun v _=>zab fun ρ a ha hc=>?_
    exact absurd ((zal ha hc hv).1 (.p b off) (by simp [V1.cells])) hg
  ·rename_i ts q
   refine zae (fun hcond=>?_) (fun _=>zac)
   simp only [Bool.and_eq_true] at hcond
   obtain ⟨hlen,hpos⟩:=hcond
   have hlen:=Nat.eq_of_beq_eq_true hlen
   have hpos:0<sz:=Nat.le_of_ble_eq_true hpos
   have hne:v1.cells≠[]:=fun e=>by rw [e] at hlen;simp at hlen;omega
   by_cases hg:off.good ν
   ·refine zaa (znL (P:=P) (E:=E) hg hne) fun q' hd=>zab fun ρ a ha hc w hw=>?_
    have h1:=zal ha hc hv
    have h2:=zal ha hc hu
    have hb0:VRel E w (ρ b) true ts (q.cells ν):=hw.heap.blk b _ hbk
    obtain ⟨d1,d2,d3,d4⟩:=hd ρ w (ρ b) hb0
    have hcells:(a.eval y).cells.toList=v1.cells.map (Lf.conc ν ρ):=by
     rw [h2.2,show (V.s v1).conc ν ρ=v1.conc ν ρ from rfl,V1.cells_conc (List.all_eq_true.2 d2) ρ]
    have hsz:(a.eval y).cells.size=sz:=by
     rw [←Array.length_toList,hcells];simpa using hlen
    refine ⟨_,?_,hw.upd (w':=w.setCells (ρ b).blk ((ρ b).off+off.val ν) (v1.cells.map (Lf.conc ν ρ))) (nb:=.v true ts q') hbk rfl rfl d4 d1 (zbr _ _ _ _) (zbg _ _ _ _).1 (zbg _ _ _ _).2.1 (zbg _ _ _ _).2.2 (fun k hk=>zbv _ _ _ _ k hk)⟩
    simp [execOp,hop,h1.2,V.conc,V1.conc,Lf.conc,Instr.storeAt,Instr.sureAddr,storeVar,za9 hs,hsz,hcells,d3]
   ·refine zaa zat fun v _=>zab fun ρ a ha hc=>?_
    exact absurd ((zal ha hc hv).1 (.p b off) (by simp [V1.cells])) hg
  ·exact zac
 ·exact zac
theorem zrM {r:RS} {ctx:Ctx} {t:TypeId} {x y:Operand} {b:Nat} {off:Off} (hx:rd r ctx x=some (.s (.one (.p b off)))):M.sat F ν (zhw P r ctx t x y) (fun hp'=>∀ j,j≠b→nth hp' j=nth r.st.hp j):=by
 unfold zhw
 refine zaa (zad (Q:=fun v=>rd r ctx x=some v) fun a h=>h) fun v hv=>?_
 refine zaa zat fun u _=>?_
 rw [hx] at hv
 cases hv
 split
 ·rename_i b' off' v1 he
  cases he
  refine zaa zat fun sz _=>zaa zat fun bk _=>?_
  split
  ·exact zae (fun _=>zaa zat fun _ _=>zab fun j hj=>zay _ _ _ _ (Ne.symm hj)) (fun _=>zac)
  ·exact zae (fun _=>zaa zat fun _ _=>zab fun j hj=>zay _ _ _ _ (Ne.symm hj)) (fun _=>zac)
  ·exact zac
 ·exact zac
theorem ze4 {ρ:Nat→Loc} {r:RS} {a:Act} {ctx:Ctx} (h:ARel ν ρ r a) (hc:zdM ctx a) {x:Option Operand} {l:Option Lf} (hl:zeL r ctx x=some l):x.map a.eval=l.map (Lf.conc ν ρ):=by
 unfold zeL at hl
 split at hl
 ·cases hl;rfl
 ·split at hl
  ·rename_i hrd
   cases hl
   simp only [Option.map_some]
   rw [(zal h hc hrd).2]
   rfl
  ·cases hl
theorem zlE (ρ:Nat→Loc):∀ {vs:List V} {bs:List Nat},zby zrk vs=some bs→vs.map (V.conc ν ρ)=bs.map fun b=>Value.pointer (some ⟨(ρ b).blk,(ρ b).off+0,none⟩)
 | [],bs,h=>by simp [zby] at h;subst h;rfl
 | v::l,bs,h=>by
  simp only [zby] at h
  cases hf:zrk v with
  | none=>simp [hf] at h
  | some b =>
   simp only [hf] at h
   cases hr:zby zrk l with
   | none=>simp [hr] at h
   | some r =>
    simp only [hr,Option.some.injEq] at h
    subst h
    unfold zrk at hf
    split at hf
    ·cases hf
     simp only [List.map_cons]
     rw [zlE ρ hr]
     rfl
    ·cases hf
theorem zjP {ρ:Nat→Loc} {r:RS} {a:Act} {ctx:Ctx} (h:ARel ν ρ r a) (hc:zdM ctx a) {x:Operand} {f:Nat} {bs:List Nat} (hf:fnOf (rd r ctx x)=some (f,bs)) :
  a.eval x = .func (.func f) #[] (zbd ρ bs):=by
 unfold fnOf at hf
 split at hf
 ·rename_i g u v hrd
  split at hf
  ·rename_i hc2
   cases hf
   simp only [Bool.and_eq_true] at hc2
   rw [(zal h hc hrd).2]
   simp only [V.conc,V1.conc,Lf.conc]
   rw [Array.eq_empty_of_size_eq_zero (Nat.eq_of_beq_eq_true hc2.1),Array.eq_empty_of_size_eq_zero (Nat.eq_of_beq_eq_true hc2.2)]
   rfl
  ·cases hf
 ·rename_i g u hrd
  cases hf
  exact (zal h hc hrd).2
 ·cases hf
theorem zgc:∀ {l:List Lf} {r:List Ty×List A},zhZ l=some r→∀ (a:A) (pre:List DV),a.cells ν=pre++nrmZ r.1 (r.2.map (A.den ν))→(∀ ρ:Nat→Loc,(zh0 a pre.length l).map (Lf.conc ν ρ)=l.map (Lf.conc ν ρ))∧∀ x∈zh0 a pre.length l,x.good ν
 | [],r,_,a,pre,_=>⟨fun _=>rfl,fun x hx=>by cases hx⟩
 | .i k b::l,r,h,a,pre,ha=>by
  simp only [zhZ] at h
  cases hr:zhZ l with
  | none=>rw [hr] at h;cases h
  | some r' =>
   rw [hr] at h
   cases h
   have ha':a.cells ν=(pre++[nrm .i (b.den ν)])++nrmZ r'.1 (r'.2.map (A.den ν)):=by rw [ha];simp [nrmZ]
   obtain ⟨h1,h2⟩:=zgc hr a _ ha'
   simp only [List.length_append,List.length_cons,List.length_nil,Nat.zero_add] at h1 h2
   have hd:(a.cells ν).getD pre.length default=nrm .i (b.den ν):=by rw [ha];simp [nrmZ]
   refine ⟨fun ρ=>?_,fun x hx=>?_⟩
   ·simp only [zh0,List.map_cons,h1 ρ,Lf.conc,hd,A.int]
    rfl
   ·rcases List.mem_cons.1 hx with rfl | hx
    ·exact trivial
    ·exact h2 x hx
 | .b b::l,r,h,a,pre,ha=>by
  simp only [zhZ] at h
  cases hr:zhZ l with
  | none=>rw [hr] at h;cases h
  | some r' =>
   rw [hr] at h
   cases h
   have ha':a.cells ν=(pre++[nrm .b (b.den ν)])++nrmZ r'.1 (r'.2.map (A.den ν)):=by rw [ha];simp [nrmZ]
   obtain ⟨h1,h2⟩:=zgc hr a _ ha'
   simp only [List.length_append,List.length_cons,List.length_nil,Nat.zero_add] at h1 h2
   have hd:(a.cells ν).getD pre.length default=nrm .b (b.den ν):=by rw [ha];simp [nrmZ]
   refine ⟨fun ρ=>?_,fun x hx=>?_⟩
   ·simp only [zh0,List.map_cons,h1 ρ,Lf.conc,hd,A.bool]
    rfl
   ·rcases List.mem_cons.1 hx with rfl | hx
    ·exact trivial
    ·exact h2 x hx
theorem zs1 (z:List Lf) (o n:Nat):M.sat F ν (zxe z o n) fun z'=>(∀ ρ:Nat→Loc,z'.map (Lf.conc ν ρ)=z.map (Lf.conc ν ρ))∧((∀ x∈z,x.good ν)→∀ x∈z',x.good ν):=by
 unfold zxe
 split
 ·exact zab ⟨fun _=>rfl,id⟩
 ·rename_i r hr
  refine zaa (zaf (Q:=fun a=>a.den ν=zbf F ν (.lmk r.1 r.2)) fun a h=>h) fun a ha=>zab ?_
  have hc:a.cells ν=[]++nrmZ r.1 (r.2.map (A.den ν)):=by rw [List.nil_append];exact A.cells_of_den ha
  obtain ⟨h1,h2⟩:=zgc hr a _ hc
  refine ⟨fun ρ=>?_,fun hg x hx=>?_⟩
  ·have:=h1 ρ
   rw [List.length_nil] at this
   rw [List.map_append,List.map_append,this,←List.map_append,←List.map_append]
   congr 1
   rw [List.append_assoc,List.take_append_drop,List.take_append_drop]
  ·rw [List.mem_append,List.mem_append] at hx
   rcases hx with (hx | hx) | hx
   ·exact hg x (List.mem_of_mem_take hx)
   ·exact h2 x hx
   ·exact hg x (List.mem_of_mem_drop (List.mem_of_mem_drop hx))
theorem zct:∀ (gs:List (Nat×Nat)) (z:List Lf),M.sat F ν (zd5 gs z) fun z'=>(∀ ρ:Nat→Loc,z'.map (Lf.conc ν ρ)=z.map (Lf.conc ν ρ))∧((∀ x∈z,x.good ν)→∀ x∈z',x.good ν)
 | [],z=>zab ⟨fun _=>rfl,id⟩
 | g::gs,z=>by
  unfold zd5
  exact zaa (zs1 z g.1 g.2) fun z1 h1=>zag (zct gs z1) fun z2 h2=>⟨fun ρ=>(h2.1 ρ).trans (h1.1 ρ),fun hg=>h2.2 (h1.2 hg)⟩
theorem znX {r:RS} {ctx:Ctx} {o:Oper} {neg:Bool} {t yt:TypeId} {x y:Operand} {b:A} {l:List (Nat×Alt)} (hop:o.op = .binOp (if neg then .neq else .eql) t x y yt) (hy:znm y=true) (hif:zoJ P t=true)
  (hv:rd r ctx x=some (.s (.one (.alt b l)))):M.sat F ν (do pure (OR.val (.s (.one (←ziX true neg b l)))):M OR) (fun res=>∀ ρ a,ARel ν ρ r a→zdM ctx a→ORok P I E ν ρ r.st.hp (execOp a.eval o) res):=by
 have hms:∃ ms,P.underlying t=some (.interface ms):=by
  unfold zoJ at hif
  split at hif
  ·rename_i ms h;exact ⟨ms,h⟩
  ·cases hif
 obtain ⟨ms,hms⟩:=hms
 by_cases hg:(Lf.alt b l).good ν
 ·refine zaa (zhC hg) fun z ⟨c,hz,hcv,hok⟩=>zab fun ρ a ha hc=>?_
  subst hz
  have h1:=zal ha hc hv
  refine ORok.now (V1.good_one.2 trivial) fun w _=>?_
  obtain ⟨h0,h2⟩:=hg
  obtain ⟨u,hu⟩:=Option.isSome_iff_exists.1 h2
  have hval:a.eval x=u.conc ρ:=by rw [h1.2];simp only [V.conc,V1.conc,Lf.conc,zbk,hu]
  have hyc:y = .const .nilIface:=by
   unfold znm at hy
   split at hy
   ·rfl
   ·cases hy
  have hyv:a.eval (.const .nilIface) = .nilIface:=rfl
  rcases zeb hok hu with ⟨e1,e2⟩ | ⟨e1,t',q,e2⟩
  ·rw [e2] at hval
   have hval:a.eval x = .nilIface:=hval
   cases neg<;>simp [execOp,hop,hval,hyv,hyc,eqGuard,Go.binOp,Op.equal,Op.maxDepth,V.conc,V1.conc,Lf.conc,(zaM w 9999 t 0 .nilIface hms).2,hcv,e1]
  ·rw [e2] at hval
   have hval:a.eval x = .iface t' (.pointer (some ⟨(ρ q).blk,(ρ q).off+0,none⟩)):=hval
   cases neg<;>simp [execOp,hop,hval,hyv,hyc,eqGuard,Go.binOp,Op.equal,Op.maxDepth,V.conc,V1.conc,Lf.conc,(zaM w 9999 t _ _ hms).1,hcv,e1]
 ·refine zaa zat fun z _=>zab fun ρ a ha hc=>?_
  exact absurd (V1.good_one.1 (zal ha hc hv).1) hg
theorem zs2 {K:Nat} (hS:SigsOK P I K S F) (hE:E.Ok K) {r:RS} {ctx:Ctx} {o:Oper} {c:Call} {x:Operand} {name:String} {b:A} {l:List (Nat×Alt)} {vs:List V} (hop:o.op = .call c) (hf:c.callee = .invoke x name) (hv:rd r ctx x=some (.s (.one (.alt b l))))
  (hvs:zcB r ctx c.args.toList=some vs) (hok:zd4 true (zaJ l) l=true):M.sat F ν (do
   let c ←emit (.neq b (.z (zaJ l)))
   owe c
   let z ←zgw P S name vs r.st.hp b (l.filter fun x=>!x.2.isNil)
   pure (.hp (some z.1) z.2):M OR) (fun res=>∀ ρ a,ARel ν ρ r a→zdM ctx a→ORok P I E ν ρ r.st.hp (execOp a.eval o) res):=by
 by_cases hg:(Lf.alt b l).good ν∧E.n0≤r.st.hp.length
 ·obtain ⟨⟨h0,h1⟩,hlen⟩:=hg
  refine zaa (zaf (Q:=fun q=>q.bool ν=(b.int ν != ((zaJ l:Nat):Int))) fun q h=>A.bool_of_den h) fun q hq=>?_
  refine zaa (zbl (Q:=fun _=>(b.int ν).toNat≠zaJ l) fun h=>by
   rw [hq,bne,zlv h0] at h
   simpa using h) fun _ hne=>?_
  refine zaa (zik (E:=E) hS hE hlen h0 _) fun z hz=>zab fun ρ a ha hc=>?_
  obtain ⟨u,hu⟩:=Option.isSome_iff_exists.1 h1
  have h2:=(zal ha hc hv).2
  have h3:=zbL ha hc hvs
  rcases zeb hok hu with ⟨e1,_⟩ | ⟨_,t,q',e2⟩
  ·exact absurd e1 hne
  ·have hu2:=zlD hok hu hne
   rw [e2] at hu2
   obtain ⟨f,hfn,hcall⟩:=hz t q' hu2
   have h6:a.eval x = .iface t ((V.s (.one (.p q' (.c 0)))).conc ν ρ):=by
    rw [h2]
    simp only [V.conc,V1.conc,Lf.conc,zbk,hu,e2,Alt.conc,Off.val]
   have h7 : #[(V.s (.one (.p q' (.c 0)))).conc ν ρ]++c.args.map a.eval=((V.s (.one (.p q' (.c 0)))::vs).map (V.conc ν ρ)).toArray:=by
    apply Array.ext'
    simp only [Array.toList_append,Array.toList_map,h3,List.map_cons]
    rfl
   intro w hw hI
   obtain ⟨g1,g2⟩:=hcall ρ w (zfv ha hc hvs) hw hI
   refine .inr (.inr ⟨f,_,?_,g2.mono fun e w' ⟨x,he,ρ',k1,k2,k3⟩=>⟨x,he,ρ',k1,k2,fun u hu=>⟨(k3 u hu).1,by rw [(k3 u hu).2]⟩⟩⟩)
   rw [←g1,←h7]
   have:=zlz (P:=P) hfn ((V.s (.one (.p q' (.c 0)))).conc ν ρ) (c.args.map a.eval) w
   rw [←this,←h6]
   simp only [execOp,hop,resolve,hf,pure_bind]
 ·refine zaa zat fun q _=>zaa zat fun _ _=>zaa zat fun z _=>zab fun ρ a ha hc w hw _=>?_
  exact absurd ⟨V1.good_one.1 (zal ha hc hv).1,hw.len⟩ hg
set_option maxHeartbeats 1000000 in
theorem zeg {K:Nat} (hS:SigsOK P I K S F) (hE:E.Ok K) {r:RS} {ctx:Ctx} {o:Oper} : M.sat F ν (evOp P S r ctx o.op) (fun res=>∀ ρ a,ARel ν ρ r a→zdM ctx a →
  ORok P I E ν ρ r.st.hp (execOp a.eval o) res):=by
 cases hop:o.op<;>simp only [evOp]
 case move x =>
  refine zaa (zad (Q:=fun v=>rd r ctx x=some v) fun a h=>h) fun v hv=>zab fun ρ a ha hc=>?_
  have:=zal ha hc hv
  exact ORok.now this.1 fun w _=>by simp [execOp,hop,this.2]
 case assign x =>
  refine zaa (zad (Q:=fun v=>rd r ctx x=some v) fun a h=>h) fun v hv=>zab fun ρ a ha hc=>?_
  have:=zal ha hc hv
  exact ORok.now this.1 fun w _=>by simp [execOp,hop,this.2]
 case pick c x y =>
  refine zaa zrL fun v hv=>zab fun ρ a ha hc=>?_
  obtain ⟨hg,t,h1,h2⟩:=hv ρ a ha hc
  exact ORok.now hg fun w _=>by simp [execOp,hop,h1,asBool,←h2]
 case build t parts =>
  refine zaa (zad (Q:=fun v=>zcT r ctx parts.toList=some v) fun a h=>h) fun ps hps=>?_
  refine zaa (zad (Q:=fun v=>zmb P t ps=some v) fun a h=>h) fun cs hcs=>zab fun ρ a ha hc=>?_
  have h1:=zdk ha hc hps
  have h2:=znW hcs h1.2
  refine ORok.now (V1.good_agg.2 h2.1) fun w _=>?_
  have h3:(parts.map fun (p:Nat×Operand)=>(p.1,a.eval p.2))=(ps.map fun p=>(p.1,p.2.conc ν ρ)).toArray:=by
   apply Array.ext'
   simpa using h1.1
  have h4:=h2.2 ρ w
  rw [←h3] at h4
  simp only [execOp,hop,V.conc,V1.conc]
  simp [h4]
 case alloc t =>
  refine zaa (zad (Q:=fun v=>zeroCells P t=some v) fun a h=>h) fun cs hcs=>?_
  obtain ⟨i,z,hi,hz,hzg,hzc⟩:=zbh (ν:=ν) hcs
  have hlt0:∀ n,cs.all (Lf.lt n)=true:=fun n=>by
   unfold zeroCells at hcs
   rw [hi] at hcs
   simp only [hz] at hcs
   obtain ⟨_,h2⟩:=zeW hcs
   refine List.all_eq_true.2 fun x hx=>?_
   obtain ⟨j,hj,rfl⟩:=List.mem_iff_getElem.1 hx
   obtain ⟨v,_,hv⟩:=h2 j _ (List.getElem?_eq_getElem hj)
   unfold ziV at hv
   split at hv<;>first | (cases hv;rfl) | (rw [←Option.some.inj hv];rfl) | cases hv
  have hrun:∀ (o':Act) (w:World),(execOp o'.eval o).run P w = .ok (.value (.pointer (some ⟨w.heap.size,0,none⟩))) (w.alloc (.cells z.cells t)):=fun o' w=>by
   simp [execOp,hop,Instr.alloc,zeroValue,typeInfo,hi,hz,newVar,newRow]
  refine zae (fun hn=>zae (fun hlt=>?_) (fun _=>zac)) (fun hn=>?_)
  ·refine zaa (zdI fun w=>zcs (E:=E) (w:=w) _ _ _) fun q hq=>zaa (zct _ _) fun z' hz'=>?_
   unfold zh1
   refine zae (fun hc=>?_) (fun _=>zac)
   simp only [Bool.and_eq_true] at hc
   refine zab fun ρ a ha hcx w hw _=>?_
   obtain ⟨h1,h2,h3,h4,ρ',h5,h6,h7⟩:=hq w ρ hw hlt (hlt0 _) hzg
   have hnew:=h6.new hc.1 hc.2 (hz'.2 h3) t
   rw [hz'.1,h7,←hzc ρ] at hnew
   refine .inl ⟨.pointer (some ⟨w.heap.size,0,none⟩),w.alloc (.cells z.cells t),hrun a w,_,fun j hj=>by rw [zbQ (by omega),h5 j hj],hnew,fun u hu=>?_⟩
   cases hu
   exact ⟨V1.good_one.2 trivial,by simp [V.conc,V1.conc,Lf.conc,zbK,Off.val]⟩
  ·refine zaa (zct _ _) fun z' hz'=>?_
   unfold zh1
   refine zae (fun hc=>?_) (fun _=>zac)
   simp only [Bool.and_eq_true] at hc
   refine zab fun ρ a ha hcx w hw _=>?_
   have hnew:=hw.new hc.1 hc.2 (hz'.2 hzg) t
   rw [hz'.1,←hzc ρ] at hnew
   refine .inl ⟨.pointer (some ⟨w.heap.size,0,none⟩),w.alloc (.cells z.cells t),hrun a w,_,fun j hj=>zbQ hj,hnew,fun u hu=>?_⟩
   cases hu
   exact ⟨V1.good_one.2 trivial,by simp [V.conc,V1.conc,Lf.conc,zbK,Off.val]⟩
 case box t x =>
  refine zaa (zad (Q:=fun v=>rd r ctx x=some v) fun a h=>h) fun v hv=>?_
  split
  ·rename_i v1
   refine zae (fun hok=>?_) (fun _=>zac)
   refine zae (fun _=>zae (fun hlt=>?_) (fun _=>zac)) (fun _=>?_)
   ·simp only [Bool.and_eq_true] at hlt
    refine zaa (zdI fun w=>zcs (E:=E) (w:=w) _ _ _) fun q hq=>zaa (zct _ _) fun z' hz'=>?_
    unfold zh1
    refine zae (fun hc=>?_) (fun _=>zac)
    simp only [Bool.and_eq_true] at hc
    refine zab fun ρ a ha hcx w hw _=>?_
    have:=zal ha hcx hv
    have hcell:(a.eval x).cells=(v1.cells.map (Lf.conc ν ρ)).toArray:=by
     rw [this.2]
     cases v1 with
     | one l =>
      have h1:(l.conc ν ρ).oneCell'=true:=Lf.ok_conc (by simpa [V1.cells] using hok) ρ
      exact zgN h1
     | agg l=>rfl
    obtain ⟨h1,h2,h3,h4,ρ',h5,h6,h7⟩:=hq w ρ hw hlt.1 hlt.2 this.1
    have hnew:=h6.new hc.1 hc.2 (hz'.2 h3) t
    rw [hz'.1,h7] at hnew
    refine .inl ⟨.pointer (some ⟨w.heap.size,0,none⟩),w.alloc (.cells (v1.cells.map (Lf.conc ν ρ)).toArray t),?_,_,fun j hj=>by rw [zbQ (by omega),h5 j hj],hnew,fun u hu=>?_⟩
    ·simp [execOp,hop,Instr.box,newVar,newRow,hcell]
    ·cases hu
     exact ⟨V1.good_one.2 trivial,by simp [V.conc,V1.conc,Lf.conc,zbK,Off.val]⟩
   ·refine zaa (zct _ _) fun z' hz'=>?_
    unfold zh1
    refine zae (fun hc=>?_) (fun _=>zac)
    simp only [Bool.and_eq_true] at hc
    refine zab fun ρ a ha hcx w hw _=>?_
    have:=zal ha hcx hv
    have hcell:(a.eval x).cells=(v1.cells.map (Lf.conc ν ρ)).toArray:=by
     rw [this.2]
     cases v1 with
     | one l =>
      have h1:(l.conc ν ρ).oneCell'=true:=Lf.ok_conc (by simpa [V1.cells] using hok) ρ
      exact zgN h1
     | agg l=>rfl
    refine .inl ⟨.pointer (some ⟨w.heap.size,0,none⟩),w.alloc (.cells (v1.cells.map (Lf.conc ν ρ)).toArray t),?_,_,fun j hj=>zbQ hj,(by have hnew:=hw.new hc.1 hc.2 (hz'.2 this.1) t;rw [hz'.1] at hnew;exact hnew),fun u hu=>?_⟩
    ·simp [execOp,hop,Instr.box,newVar,newRow,hcell]
    ·cases hu
     exact ⟨V1.good_one.2 trivial,by simp [V.conc,V1.conc,Lf.conc,zbK,Off.val]⟩
  ·exact zac
 case load t x =>
  refine zaa (zad (Q:=fun v=>rd r ctx x=some v) fun a h=>h) fun v hv=>?_
  split
  ·rename_i b off
   refine zaa (zad (Q:=fun k=>tk P t=some k) fun a h=>h) fun k hk=>?_
   refine zaa (zad (Q:=fun k=>zaO P t=some k) fun a h=>h) fun sz hs=>?_
   refine zaa (zad (Q:=fun bk=>nth r.st.hp b=some bk) fun a h=>h) fun bk hbk=>?_
   split
   ·rename_i o cs
    by_cases hg:off.good ν
    ·refine zaa (zd8 (own:=o) hk hs hg) fun v hl=>zab fun ρ a ha hc w hw _=>?_
     have hr:=zal ha hc hv
     have:=hl ρ w (ρ b) (hw.heap.blk b _ hbk)
     exact ⟨this.1,.inl (by simp [execOp,hop,hr.2,V.conc,V1.conc,Lf.conc,Instr.loadAt,Instr.sureAddr,this.2])⟩
    ·refine zaa zat fun v _=>zab fun ρ a ha hc w hw _=>?_
     exact absurd ((zal ha hc hv).1 (.p b off) (by simp [V1.cells])) hg
   ·rename_i o ts q
    refine zae (fun hfl=>?_) (fun hfl=>zae (fun hpl=>?_) (fun _=>zac))
    rotate_left
    ·by_cases hg:off.good ν
     ·refine zaa (znJ (E:=E) hk hs hg) fun z hz=>zab fun ρ a ha hc w hw _=>?_
      have hr:=zal ha hc hv
      obtain ⟨z1,ρ',z2,z3,z4⟩:=hz ρ w hw hpl (ρ b) o (hw.heap.blk b _ hbk)
      have he:a.eval x = .pointer (some ⟨(ρ b).blk,(ρ b).off+off.val ν,none⟩):=hr.2
      exact .inl ⟨V1.conc ν ρ' z.1,w,by simp [execOp,hop,he,Instr.loadAt,Instr.sureAddr,z4],ρ',z2,z3,fun u hu=>by cases hu;exact ⟨z1,rfl⟩⟩
     ·refine zaa zat fun v _=>zab fun ρ a ha hc w hw _=>?_
      exact absurd ((zal ha hc hv).1 (.p b off) (by simp [V1.cells])) hg
    by_cases hg:off.good ν
    ·refine zaa (zf7 (E:=E) hk hs hg) fun v hl=>zab fun ρ a ha hc w hw _=>?_
     have hr:=zal ha hc hv
     have:=hl.2 ρ w (ρ b) o (hw.heap.blk b _ hbk)
     exact ⟨hl.1,.inl (by simp [execOp,hop,hr.2,V.conc,V1.conc,Lf.conc,Instr.loadAt,Instr.sureAddr,this])⟩
    ·refine zaa zat fun v _=>zab fun ρ a ha hc w hw _=>?_
     exact absurd ((zal ha hc hv).1 (.p b off) (by simp [V1.cells])) hg
   ·rename_i o f ts q
    refine zae (fun hfl=>?_) (fun _=>zac)
    by_cases hg:off.good ν
    ·refine zaa (zf7 (E:=E) hk hs hg) fun v hl=>zab fun ρ a ha hc w hw _=>?_
     have hr:=zal ha hc hv
     have:=hl.2 ρ w (ρ b) false (LRel.row (hw.heap.blk b _ hbk))
     exact ⟨hl.1,.inl (by simp [execOp,hop,hr.2,V.conc,V1.conc,Lf.conc,Instr.loadAt,Instr.sureAddr,this])⟩
    ·refine zaa zat fun v _=>zab fun ρ a ha hc w hw _=>?_
     exact absurd ((zal ha hc hv).1 (.p b off) (by simp [V1.cells])) hg
   ·exact zac
   ·exact zac
  ·rename_i g off
   refine zaa (zad (Q:=fun k=>tk P t=some k) fun a h=>h) fun k hk=>?_
   refine zaa (zad (Q:=fun k=>zaO P t=some k) fun a h=>h) fun sz hs=>?_
   refine zaa (zad (Q:=fun cs=>assoc S.gs g=some cs) fun a h=>h) fun cs hcs=>?_
   by_cases hg:off.good ν
   ·refine zaa (zd8 (own:=false) hk hs hg) fun v hl=>zae (fun hsc=>zab fun ρ a ha hc w hw hI=>?_) (fun _=>zac)
    have hr:=zal ha hc hv
    obtain ⟨hg1,hg2⟩:=hS.globs g cs hcs w hI
    have hb:CBlk ν (fun _=>⟨g,0,false,0,0,none⟩) w ⟨g,0,false,0,0,none⟩ false (cs.map some):=⟨rfl,hg1,fun i l hi=>by
     rw [za3] at hi
     have:=hg2 i l hi ν (fun _=>⟨g,0,false,0,0,none⟩)
     simpa using this,fun h=>(by cases h),fun h=>by cases h⟩
    have:=hl (fun _=>⟨g,0,false,0,0,none⟩) w _ hb
    have hconc:v.conc ν (fun _=>⟨g,0,false,0,0,none⟩)=v.conc ν ρ:=V1.conc_scalar hsc _ _
    have h2:=this.2
    rw [hconc] at h2
    simp only [Nat.zero_add] at h2
    have hev:a.eval x = .pointer (some ⟨g,off.val ν,none⟩):=hr.2
    have h3:(execOp a.eval o).run P w=((loadVar t ⟨g,off.val ν,none⟩).run P w).andThen fun v w'=>.ok (.value v) w':=by
     simp [execOp,hop,hev,Instr.loadAt,Instr.sureAddr]
    exact ⟨this.1,.inl (by rw [h3,h2];rfl)⟩
   ·refine zaa zat fun v _=>zae (fun _=>zab fun ρ a ha hc w hw _=>?_) (fun _=>zac)
    exact absurd ((zal ha hc hv).1 (.gp g off) (by simp [V1.cells])) hg
  ·exact zac
 case store t x y =>
  refine zaa (zjO (E:=E) hop) fun hp' h=>zab fun ρ a ha hc w hw _=>?_
  obtain ⟨w',h1,h2⟩:=h ρ a ha hc w hw
  exact .inr (.inl ⟨w',h1,ρ,fun _ _=>rfl,h2,fun u hu=>by cases hu⟩)
 case nilCheck x =>
  refine zaa (zad (Q:=fun v=>rd r ctx x=some v) fun a h=>h) fun v hv=>?_
  split
  ·refine zab fun ρ a ha hc=>?_
   have:=zal ha hc hv
   exact ORok.now this.1 fun w _=>by simp [execOp,hop,this.2,V.conc,V1.conc,Lf.conc]
  ·refine zab fun ρ a ha hc=>?_
   have:=zal ha hc hv
   exact ORok.now this.1 fun w _=>by simp [execOp,hop,this.2,V.conc,V1.conc,Lf.conc]
  ·rename_i b l
   by_cases hg:(Lf.alt b l).good ν
   ·refine zaa (znV hg) fun z hz=>zab fun ρ a ha hc=>?_
    have:=zal ha hc hv
    obtain ⟨e1,ad,e2⟩:=hz.2 ρ
    refine ORok.now (V1.good_one.2 hz.1) fun w _=>?_
    have e3:a.eval x = .pointer (some ad):=by rw [this.2,←e2,e1];rfl
    have e4:(V.s (.one z)).conc ν ρ = .pointer (some ad):=e2
    simp [execOp,hop,e3,e4]
   ·refine zaa zat fun z _=>zab fun ρ a ha hc=>?_
    exact absurd (V1.good_one.1 (zal ha hc hv).1) hg
  ·exact zac
 case binOp op t x y yt =>
  refine zae (fun hy=>?_) (fun _=>?_)
  ·refine zaa (zad (Q:=fun v=>rd r ctx x=some v) fun a h=>h) fun v hv=>?_
   split
   ·rename_i b l
    refine zae (fun hif=>?_) (fun _=>zac)
    split
    ·exact znX (neg:=false) hop hy hif hv
    ·exact znX (neg:=true) hop hy hif hv
    ·exact zac
   ·rename_i l _
    refine zaa (zad (Q:=fun q=>zqu P op t l=some q) fun a h=>h) fun q hq=>zab fun ρ a ha hc=>?_
    have h1:=zal ha hc hv
    refine ORok.now (V1.good_one.2 trivial) fun w _=>?_
    have h2:=zrJ (ν:=ν) hq hy ρ x w a
    simp only [execOp,hop]
    have h3:a.eval x=l.conc ν ρ:=h1.2
    simp only [V.conc,V1.conc]
    rw [show (Lf.b (.t q)).conc ν ρ=Value.bool q from rfl,h3]
    simp [h2.1,h2.2]
   ·exact zac
  ·refine zaa (zad (Q:=fun v=>rd r ctx x=some v) fun a h=>h) fun v hv=>?_
   refine zaa (zad (Q:=fun v=>rd r ctx y=some v) fun a h=>h) fun u hu=>?_
   by_cases hg:v.good ν∧u.good ν
   ·refine zaa (zry hg.1 hg.2) fun z hz=>zab fun ρ a ha hc=>?_
    have h1:=zal ha hc hv
    have h2:=zal ha hc hu
    refine ORok.now hz.1 fun w _=>?_
    have:=hz.2 ρ w x y
    simp [execOp,hop,h1.2,h2.2,this.1,this.2]
   ·refine zaa zat fun z _=>zab fun ρ a ha hc=>?_
    exact absurd ⟨(zal ha hc hv).1,(zal ha hc hu).1⟩ hg
 case unOp op t x =>
  refine zaa (zad (Q:=fun v=>rd r ctx x=some v) fun a h=>h) fun v hv=>?_
  split
  ·rename_i l
   refine zaa (zd7 fun ρ (w:World)=>zvT (P:=P) (ρ:=ρ) (w:=w)) fun z hz=>zab fun ρ a ha hc=>?_
   have h1:=zal ha hc hv
   refine ORok.now (V1.good_one.2 hz.1) fun w _=>?_
   have:=hz.2 ρ w
   simp only [V.conc,V1.conc] at h1 ⊢
   simp [execOp,hop,h1.2,this]
  ·exact zac
 case convert s d x =>
  refine zaa (zad (Q:=fun v=>rd r ctx x=some v) fun a h=>h) fun v hv=>?_
  split
  ·rename_i q
   refine zaa (zrA (E:=E)) fun z hz=>zab fun ρ a ha hc w hw _=>?_
   have h1:=zal ha hc hv
   refine ⟨hz.1,.inl ?_⟩
   have:=hz.2 ρ w w hw rfl
   have h2:a.eval x=(Lf.vec q).conc ν ρ:=h1.2
   simp [execOp,hop,h2,this]
  ·rename_i l _
   refine zaa (zd7 fun ρ (w:World)=>zrr (P:=P) (ρ:=ρ) (w:=w)) fun z hz=>zab fun ρ a ha hc=>?_
   have h1:=zal ha hc hv
   refine ORok.now (V1.good_one.2 hz.1) fun w _=>?_
   have:=hz.2 ρ w
   simp only [V.conc,V1.conc] at h1 ⊢
   simp [execOp,hop,h1.2,this]
  ·exact zac
 case fieldAddr t x f =>
  refine zaa (zad (Q:=fun v=>rd r ctx x=some v) fun a h=>h) fun v hv=>?_
  split
  ·rename_i l
   by_cases hg:l.good ν
   ·refine zaa (zjN hg) fun z hz=>zab fun ρ a ha hc=>?_
    have h1:=zal ha hc hv
    refine ORok.now (V1.good_one.2 hz.1) fun w _=>?_
    have:=hz.2 ρ w
    simp only [V.conc,V1.conc] at h1 ⊢
    simp [execOp,hop,h1.2,this]
   ·refine zaa zat fun z _=>zab fun ρ a ha hc=>?_
    exact absurd (V1.good_one.1 (zal ha hc hv).1) hg
  ·exact zac
 case field t x f =>
  refine zaa (zad (Q:=fun v=>rd r ctx x=some v) fun a h=>h) fun v hv=>?_
  split
  ·rename_i l
   by_cases hg:∀ y∈l,Lf.good ν y
   ·refine zaa (zpj hg) fun z hz=>zab fun ρ a ha hc=>?_
    have h1:=zal ha hc hv
    refine ORok.now hz.1 fun w _=>?_
    have:=hz.2 ρ w
    simp only [V.conc,V1.conc] at h1 ⊢
    simp [execOp,hop,h1.2,this]
    rfl
   ·refine zaa zat fun z _=>zab fun ρ a ha hc=>?_
    exact absurd (V1.good_agg.1 (zal ha hc hv).1) hg
  ·exact zac
 case indexAddr t x ix =>
  refine zaa (zad (Q:=fun v=>rd r ctx x=some v) fun a h=>h) fun v hv=>?_
  refine zaa (zad (Q:=fun v=>rd r ctx ix=some v) fun a h=>h) fun u hu=>?_
  split
  ·rename_i b i
   refine zaa (zfK (E:=E)) fun z hz=>zab fun ρ a ha hc w hw _=>?_
   have h1:=zal ha hc hv
   have h2:=zal ha hc hu
   refine ⟨V1.good_one.2 hz.1,.inl ?_⟩
   have:=hz.2 ρ w w hw
   simp only [V.conc,V1.conc] at h1 h2 ⊢
   simp only [Lf.conc] at h1
   simp [execOp,hop,h1.2,h2.2,this]
  ·rename_i l i _
   by_cases hg:l.good ν
   ·refine zaa (ze3 hg) fun z hz=>zab fun ρ a ha hc=>?_
    have h1:=zal ha hc hv
    have h2:=zal ha hc hu
    refine ORok.now (V1.good_one.2 hz.1) fun w _=>?_
    have:=hz.2 ρ w
    simp only [V.conc,V1.conc] at h1 h2 ⊢
    simp [execOp,hop,h1.2,h2.2,this]
   ·refine zaa zat fun z _=>zab fun ρ a ha hc=>?_
    exact absurd (V1.good_one.1 (zal ha hc hv).1) hg
  ·exact zac
 case index t x ix =>
  refine zaa (zad (Q:=fun v=>rd r ctx x=some v) fun a h=>h) fun v hv=>?_
  refine zaa (zad (Q:=fun v=>rd r ctx ix=some v) fun a h=>h) fun u hu=>?_
  split
  ·rename_i l i
   by_cases hg:∀ y∈l,Lf.good ν y
   ·refine zaa (zpi hg) fun z hz=>zab fun ρ a ha hc=>?_
    have h1:=zal ha hc hv
    have h2:=zal ha hc hu
    refine ORok.now hz.1 fun w _=>?_
    have:=hz.2 ρ w
    simp only [V.conc,V1.conc] at h1 h2 ⊢
    simp [execOp,hop,h1.2,h2.2,this]
    rfl
   ·refine zaa zat fun z _=>zab fun ρ a ha hc=>?_
    exact absurd (V1.good_agg.1 (zal ha hc hv).1) hg
  ·rename_i s ki i
   refine zaa (zad (Q:=fun d=>tk0 P t=some d) fun a h=>h) fun d hd=>?_
   split
   ·refine zaa zbZ fun _ hb=>?_
    refine zaa (zaf (Q:=fun r=>r.int ν=((s.data.toList.map fun b=>A.z b.toNat).map (A.int ν)).getD (i.int ν).toNat 0) fun r h=>A.int_of_den h) fun q hq=>zab fun ρ a ha hc=>?_
    have h1:=zal ha hc hv
    have h2:=zal ha hc hu
    refine ORok.now (V1.good_one.2 trivial) fun w _=>?_
    have hlt:(i.int ν).toNat<s.size:=by omega
    have h3:s[(i.int ν).toNat]? = some s[(i.int ν).toNat]:=by
     rw [getElem?_pos]
    have h4:q.int ν=(s[(i.int ν).toNat]).toNat:=by
     rw [hq,List.map_map,List.getD_eq_getElem?_getD,List.getElem?_map]
     have:s.data.toList[(i.int ν).toNat]? = some s[(i.int ν).toNat]:=by
      rw [Array.getElem?_toList]
      exact Array.getElem?_eq_getElem hlt
     rw [this]
     rfl
    simp only [V.conc,V1.conc,Lf.conc] at h1 h2 ⊢
    simp [execOp,hop,h1.2,h2.2,Instr.index,asIntOf,run_underlying hd,hb.1,h3,h4]
   ·exact zac
  ·exact zac
 case extract x n =>
  refine zaa (zad (Q:=fun v=>rd r ctx x=some v) fun a h=>h) fun v hv=>?_
  split
  ·rename_i l
   refine zaa (zad (Q:=fun u=>l[n]? = some u) fun a h=>h) fun u hu=>zab fun ρ a ha hc=>?_
   have h1:=zal ha hc hv
   refine ORok.now (V.good_s.2 (h1.1 u (List.mem_of_getElem? hu))) fun w _=>?_
   simp [execOp,hop,h1.2,V.conc,Instr.extract,hu]
  ·exact zac
 case makeFunc fn first cap =>
  split
  ·rename_i f
   refine zaa (zad (Q:=fun vs=>zcB r ctx cap.toList=some vs) fun a h=>h) fun vs hvs=>?_
   refine zaa (zad (Q:=fun bs=>zby zrk vs=some bs) fun a h=>h) fun bs hbs=>?_
   refine zae (fun he=>zab fun ρ a ha hc=>?_) (fun _=>zac)
   have h1:=zbL ha hc hvs
   have h2:=zlE (ν:=ν) ρ hbs
   have h3:cap.map a.eval=zbd ρ bs:=by
    apply Array.ext'
    rw [Array.toList_map,h1,h2];simp [zbd]
   have h4:first = #[]:=by simpa using he
   refine ORok.now (V1.good_one.2 trivial) fun w _=>?_
   simp [execOp,hop,Instr.makeFunc,h3,h4,V.conc,V1.conc,Lf.conc]
  ·exact zac
 case makeInterface t x =>
  refine zaa (zad (Q:=fun v=>rd r ctx x=some v) fun a h=>h) fun v hv=>?_
  split
  ·rename_i b
   refine zaa (zad (Q:=fun k=>tk P t=some k) fun a h=>h) fun k hk=>?_
   split
   ·rename_i e
    refine zab fun ρ a ha hc=>ORok.now (V1.good_one.2 trivial) fun w _=>?_
    have h1:=zal ha hc hv
    have h2:=zig hk
    simp [execOp,hop,h1.2,Instr.makeInterface,underlying,h2,V.conc,V1.conc,Lf.conc,Off.val]
   ·exact zac
  ·exact zac
 case call c =>
  split
  ·rename_i x hf
   refine zaa (zad (Q:=fun p=>fnOf (rd r ctx x)=some p) fun a h=>h) fun ⟨f,bs⟩ hfn=>?_
   refine zaa (zad (Q:=fun vs=>zcB r ctx c.args.toList=some vs) fun a h=>h) fun vs hvs=>?_
   split
   ·rename_i add xa xb xq hbl hbs
    dsimp only at hbl hbs
    subst hbs
    refine zag (zpf (P:=P)) fun z hz ρ a ha hc=>?_
    obtain ⟨s,k,rfl,hr⟩:=hz
    have h1:=zbL ha hc hvs
    have h0:=zjP ha hc hfn
    have h2:c.args.map a.eval = #[.int .u64 (xa.int ν),.int .u64 (xb.int ν),.int .u64 (xq.int ν)]:=by
     apply Array.ext'
     rw [Array.toList_map,h1];rfl
    refine ORok.now (fun u hu=>?_) fun w _=>?_
    ·rcases List.mem_cons.1 hu with rfl | hu
     ·exact V1.good_one.2 trivial
     ·rcases List.mem_cons.1 hu with rfl | hu
      ·exact V1.good_one.2 trivial
      ·cases hu
    ·have h3:=hr f hbl w
     have h4:zbd ρ [] = #[]:=rfl
     simp only [execOp,hop,resolve,hf,h0,Deferred.ofValue,invoke,pure_bind,h2,h4,Array.append_empty]
     exact h3
   ·exact zac
   ·rename_i vs q1 q2 q3 q4
    refine zag (zgb (E:=E) hS hE) fun z hz ρ a ha hc=>?_
    have h1:=zbL ha hc hvs
    have h0:=zjP ha hc hfn
    have h2:c.args.map a.eval++zbd ρ bs=((vs++bs.map fun b=>V.s (.one (.p b (.c 0)))).map (V.conc ν ρ)).toArray:=by
     apply Array.ext'
     simp only [Array.toList_append,Array.toList_map,h1,zbd,List.map_append,List.map_map]
     rfl
    have hgv:∀ v∈vs++bs.map fun b=>V.s (.one (.p b (.c 0))),V.good ν v:=fun v hv=>by
     rcases List.mem_append.1 hv with hv | hv
     ·exact zfv ha hc hvs v hv
     ·obtain ⟨b,_,rfl⟩:=List.mem_map.1 hv
      exact V.good_s.2 (V1.good_one.2 trivial)
    generalize vs++bs.map (fun b=>V.s (.one (.p b (.c 0))))=us at *
    have h5:∀ w,(callFunc f (us.map (V.conc ν ρ)).toArray).run P w = .ok (.enter f (us.map (V.conc ν ρ)).toArray) w→(execOp a.eval o).run P w = .ok (.enter f (us.map (V.conc ν ρ)).toArray) w:=fun w h4=>by
     rw [←h2] at h4 ⊢
     simp [execOp,hop,resolve,hf,h0,Deferred.ofValue,invoke]
     exact h4
    cases z with
    | val v =>
     intro w hw hI
     obtain ⟨h3,h4,h6⟩:=hz ρ w hgv hw hI
     exact ⟨h4,.inr ⟨f,_,h5 w h3,h6⟩⟩
    | hp v hp' =>
     intro w hw hI
     obtain ⟨h3,h4⟩:=hz ρ w hgv hw hI
     exact .inr (.inr ⟨f,_,h5 w h3,h4.mono fun e w' ⟨x,he,ρ',k1,k2,k3⟩=>⟨x,he,ρ',k1,k2,fun u hu=>⟨(k3 u hu).1,by rw [(k3 u hu).2]⟩⟩⟩)
  ·rename_i b hf
   refine zaa (zad (Q:=fun vs=>zcB r ctx c.args.toList=some vs) fun a h=>h) fun vs hvs=>?_
   have hargs:∀ ρ a,ARel ν ρ r a→zdM ctx a→c.args.map a.eval=(vs.map (V.conc ν ρ)).toArray:=fun ρ a ha hc=>by
    apply Array.ext'
    simpa using zbL ha hc hvs
   split
   ·rename_i k x k' y
    refine zae (fun hk=>?_) (fun _=>zac)
    have:=zcf hk;subst this
    split
    ·refine zab fun ρ a ha hc=>ORok.now (V1.good_one.2 trivial) fun w _=>?_
     simp [execOp,hop,resolve,hf,hargs ρ a ha hc,invoke,builtin,Builtin.max_,Builtin.max2,V.conc,V1.conc,Lf.conc,List.foldlM]
    ·refine zaa (zaf (Q:=fun r=>r.bool ν=decide (y.int ν>x.int ν)) fun r h=>A.bool_of_den h) fun q hq=>?_
     refine zaa zci fun z hz=>zab fun ρ a ha hc=>ORok.now (V1.good_one.2 trivial) fun w _=>?_
     rw [hq] at hz
     simp [execOp,hop,resolve,hf,hargs ρ a ha hc,invoke,builtin,Builtin.max_,Builtin.max2,V.conc,V1.conc,Lf.conc,List.foldlM,hz]
   ·rename_i k x k' y
    refine zae (fun hk=>?_) (fun _=>zac)
    have:=zcf hk;subst this
    split
    ·refine zab fun ρ a ha hc=>ORok.now (V1.good_one.2 trivial) fun w _=>?_
     simp [execOp,hop,resolve,hf,hargs ρ a ha hc,invoke,builtin,Builtin.min_,Builtin.min2,V.conc,V1.conc,Lf.conc,List.foldlM]
    ·refine zaa (zaf (Q:=fun r=>r.bool ν=decide (y.int ν<x.int ν)) fun r h=>A.bool_of_den h) fun q hq=>?_
     refine zaa zci fun z hz=>zab fun ρ a ha hc=>ORok.now (V1.good_one.2 trivial) fun w _=>?_
     rw [hq] at hz
     simp [execOp,hop,resolve,hf,hargs ρ a ha hc,invoke,builtin,Builtin.min_,Builtin.min2,V.conc,V1.conc,Lf.conc,List.foldlM,hz]
   ·rename_i v
    refine zaa (zad (Q:=fun t=>c.argTypes[0]? = some t) fun a h=>h) fun t ht=>?_
    refine zaa (znH (E:=E)) fun z hz=>zab fun ρ a ha hc w hw _=>⟨hz.1,.inl ?_⟩
    have:=hz.2 ρ w w o.type c.argTypes ht hw
    simp [execOp,hop,resolve,hf,hargs ρ a ha hc,invoke,builtin,this]
   ·rename_i s x
    refine zaa (zad (Q:=fun t=>c.argTypes[0]? = some t) fun a h=>h) fun t ht=>?_
    refine zaa (zad (Q:=fun t=>c.argTypes[1]? = some t) fun a h=>h) fun tx htx=>?_
    refine zag (zmC (E:=E)) fun z hz ρ a ha hc=>?_
    refine zbc.run (y:=Builtin.append_ c.argTypes o.type #[s.conc ν ρ,x.conc ν ρ]) (fun w v w' h=>?_) (fun w hw=>?_)
    ·simp [execOp,hop,resolve,hf,hargs ρ a ha hc,invoke,builtin,h]
    ·obtain ⟨v,w',h1,h2⟩:=hz ρ w o.type hw
     refine ⟨v,w',?_,h2⟩
     rw [←h1]
     simp only [Builtin.append_,ht,htx,List.getElem?_toArray,List.getElem?_cons_zero,List.getElem?_cons_succ]
   ·exact zac
  ·rename_i x name hf
   refine zaa (zad (Q:=fun v=>rd r ctx x=some v) fun a h=>h) fun v hv=>?_
   split
   ·rename_i t b
    refine zaa (zad (Q:=fun f=>zdf P t name=some f) fun a h=>h) fun f hfn=>?_
    refine zaa (zad (Q:=fun vs=>zcB r ctx c.args.toList=some vs) fun a h=>h) fun vs hvs=>?_
    refine zag (zgb (E:=E) hS hE) fun z hz ρ a ha hc=>?_
    have h1:=zbL ha hc hvs
    have h0:=(zal ha hc hv).2
    have h2 : #[(V.s (.one (.p b (.c 0)))).conc ν ρ]++c.args.map a.eval=((V.s (.one (.p b (.c 0)))::vs).map (V.conc ν ρ)).toArray:=by
     apply Array.ext'
     simp only [Array.toList_append,Array.toList_map,h1,List.map_cons]
     rfl
    have hgv:∀ v∈V.s (.one (.p b (.c 0)))::vs,V.good ν v:=fun v hv=>by
     rcases List.mem_cons.1 hv with rfl | hv
     ·exact V.good_s.2 (V1.good_one.2 trivial)
     ·exact zfv ha hc hvs v hv
    have h6:a.eval x = .iface t ((V.s (.one (.p b (.c 0)))).conc ν ρ):=h0
    have h5:∀ w,(callFunc f ((V.s (.one (.p b (.c 0)))::vs).map (V.conc ν ρ)).toArray).run P w = .ok (.enter f ((V.s (.one (.p b (.c 0)))::vs).map (V.conc ν ρ)).toArray) w →
      (execOp a.eval o).run P w = .ok (.enter f ((V.s (.one (.p b (.c 0)))::vs).map (V.conc ν ρ)).toArray) w:=fun w h4=>by
     rw [←h4,←h2]
     have:=zlz (P:=P) hfn ((V.s (.one (.p b (.c 0)))).conc ν ρ) (c.args.map a.eval) w
     rw [←this,←h6]
     simp only [execOp,hop,resolve,hf,pure_bind]
    generalize V.s (.one (.p b (.c 0)))::vs=us at *
    cases z with
    | val v =>
     intro w hw hI
     obtain ⟨h3,h4,h6⟩:=hz ρ w hgv hw hI
     exact ⟨h4,.inr ⟨f,_,h5 w h3,h6⟩⟩
    | hp v hp' =>
     intro w hw hI
     obtain ⟨h3,h4⟩:=hz ρ w hgv hw hI
     exact .inr (.inr ⟨f,_,h5 w h3,h4.mono fun e w' ⟨x,he,ρ',k1,k2,k3⟩=>⟨x,he,ρ',k1,k2,fun u hu=>⟨(k3 u hu).1,by rw [(k3 u hu).2]⟩⟩⟩)
   ·rename_i b l
    refine zaa (zad (Q:=fun v=>zcB r ctx c.args.toList=some v) fun a h=>h) fun vs hvs=>?_
    exact zae (fun hok=>zs2 hS hE hop hf hv hvs (by simp only [Bool.and_eq_true] at hok;exact hok.1)) (fun _=>zac)
   ·exact zac
 case buildSlice t len parts =>
  refine zaa (zad (Q:=fun v=>zcT r ctx parts.toList=some v) fun a h=>h) fun ps hps=>?_
  by_cases hg:∀ p∈ps,p.2.good ν
  ·refine zag (zit (E:=E) hg) fun z hz ρ a ha hc=>?_
   have h1:=zdk ha hc hps
   have h3:(parts.map fun (p:Nat×Operand)=>(p.1,a.eval p.2))=(ps.map fun p=>(p.1,p.2.conc ν ρ)).toArray:=by
    apply Array.ext'
    simpa using h1.1
   refine zbc.run (y:=Instr.buildSlice t len (ps.map fun p=>(p.1,p.2.conc ν ρ)).toArray) (fun w v w' h=>?_) (hz ρ)
   rw [←h3] at h
   simp only [execOp,hop]
   simp [h]
  ·refine zag zat fun z _ ρ a ha hc=>?_
   exact absurd (zdk ha hc hps).2 hg
 case makeSlice t l c =>
  refine zaa (zad (Q:=fun v=>rd r ctx l=some v) fun a h=>h) fun v hv=>?_
  refine zaa (zad (Q:=fun v=>rd r ctx c=some v) fun a h=>h) fun u hu=>?_
  split
  ·rename_i x y
   refine zag (zrB (E:=E)) fun z hz ρ a ha hc=>?_
   have h1:=zal ha hc hv
   have h2:=zal ha hc hu
   refine zbc.run (y:=Instr.makeSlice t (x.conc ν ρ) (y.conc ν ρ)) (fun w v w' h=>?_) (hz ρ)
   simp only [V.conc,V1.conc] at h1 h2
   simp [execOp,hop,h1.2,h2.2,h]
  ·exact zac
 case slice t x low high max =>
  refine zaa (zad (Q:=fun v=>rd r ctx x=some v) fun a h=>h) fun v hv=>?_
  refine zaa (zad (Q:=fun v=>zeL r ctx low=some v) fun a h=>h) fun lo hlo=>?_
  refine zaa (zad (Q:=fun v=>zeL r ctx high=some v) fun a h=>h) fun hi hhi=>?_
  refine zaa (zad (Q:=fun v=>zeL r ctx max=some v) fun a h=>h) fun mx hmx=>?_
  refine zag (znT (E:=E)) fun z hz ρ a ha hc=>?_
  have h1:=zal ha hc hv
  refine zbc.run (y:=Instr.sliceAt t (v.conc ν ρ) (lo.map (Lf.conc ν ρ)) (hi.map (Lf.conc ν ρ)) (mx.map (Lf.conc ν ρ))) (fun w v w' h=>?_) (hz ρ)
  rw [←ze4 ha hc hlo,←ze4 ha hc hhi,←ze4 ha hc hmx] at h
  simp [execOp,hop,h1.2,h]
 all_goals exact zac
end
end Go.Sx
