/- A struct with all that it leads to: apart, and as one. -/
import Derived.Test.YtedoffkaehcnmaaDoorC1
import Derived.Deep.Quiet
namespace Go.Sx
open Go.RowKit
section
variable {P:Program} {I:World→Prop} {S:Sigs} {F:FEnv} {E:Env} {ν:Nat→DV}
theorem zlG {n:Nat} {bk:Blk} (hk:bk.kindLt n=true) (w:World) (r:Loc):footK (zcZ n) w r bk=bk.foot w r:=by
 cases bk with
 | c=>rfl
 | v=>rfl
 | l=>rfl
 | m=>rfl
 | obj o k a =>
  simp only [Blk.kindLt,Bool.and_eq_true,Nat.blt_eq,Bool.not_eq_true'] at hk
  simp only [footK,Blk.foot,zcZ,if_pos hk.1,zeg hk.2]
theorem zi4 {n:Nat} {bk:Blk} (hk:bk.kindLt n=true) (w:World) (r:Loc):rfootK (zcZ n) w r bk=bk.rfoot w r:=by
 cases bk with
 | c=>rfl
 | v=>rfl
 | l=>rfl
 | m=>rfl
 | obj o k a =>
  simp only [Blk.kindLt,Bool.and_eq_true,Nat.blt_eq,Bool.not_eq_true'] at hk
  simp only [rfootK,Blk.rfoot,zcZ,if_pos hk.1,zeg hk.2]
theorem BlkRel.ofK {n:Nat} {ρ:Nat→Loc} {w:World} {r:Loc} {bk:Blk} (hk:bk.kindLt n=true) (h:BlkRelK (zcZ n) ν ρ w r bk):BlkRel E ν ρ w r bk:=by
 cases bk with
 | c=>exact h
 | v o ts a=>exact h.2.1.congr h.1 (fun _=>rfl)
 | l o f ts a=>exact LRel.congr h.1 h.2.1 (fun _=>rfl)
 | m=>exact h
 | obj o k a =>
  simp only [Blk.kindLt,Bool.and_eq_true,Nat.blt_eq,Bool.not_eq_true'] at hk
  have h2:=h.2
  rw [zcZ,if_pos hk.1] at h2
  exact (zbi.plain hk.2).2 ⟨h.1,h2⟩
theorem Blk.inst_kindLt (ops:List A) (n:Nat) (bk:Blk):(bk.inst ops).kindLt n=bk.kindLt n:=by cases bk<;>rfl
theorem Lf.conc_root {ρ ρ':Nat→Loc} {l:Lf} (hl:l.noV0=true) (h0:(ρ' 0).blk=(ρ 0).blk∧(ρ' 0).off=(ρ 0).off) (h:∀ i,i≠0→ρ' i=ρ i):l.conc ν ρ'=l.conc ν ρ:=by
 cases l with
 | p b o =>
  simp only [Lf.conc]
  by_cases hb:b=0
  ·subst hb;rw [h0.1,h0.2]
  ·rw [h b hb]
 | vec b =>
  simp only [Lf.conc]
  have:b≠0:=fun e=>by subst e;simp [Lf.noV0] at hl
  rw [h b this]
 | fnp _ _=>cases hl
 | ifp _ _=>cases hl
 | mp _=>cases hl
 | alt _ _=>cases hl
 | str=>rfl
 | e t _ _=>cases t<;>rfl
 | i=>rfl
 | b=>rfl
 | gp=>rfl
 | nilp=>rfl
 | v=>rfl
theorem Dec.reroot {K:Nat→ObjK} {p:PatD} (hok:p.ok=true) {w:World} {b o:Nat} {d:List DV} {ρ:Nat→Loc} (h:Dec K p w b o d ρ) {r:Loc} (h1:r.blk=b) (h2:r.off=o) (h3:r.nil=false) :
  Dec K p w b o d (fun j=>if j=0 then r else ρ j):=by
 simp only [PatD.ok,Bool.and_eq_true] at hok
 obtain ⟨⟨hr,_⟩,hv⟩:=hok
 have hat:∀ j,j≠0→(if j=0 then r else ρ j)=ρ j:=fun j hj=>if_neg hj
 have hroot:∀ bk,nth p.hp 0=some bk→∃ co cs,bk = .c co cs:=fun bk hb=>by
  rw [hb] at hr
  cases bk with
  | c co cs=>exact ⟨co,cs,rfl⟩
  | v=>cases hr
  | obj=>cases hr
  | l=>cases hr
  | m=>cases hr
 have hcb:∀ j co cs,nth p.hp j=some (.c co cs)→CBlk (fun i=>d.getD i default) ρ w (ρ j) co cs→CBlk (fun i=>d.getD i default) (fun j=>if j=0 then r else ρ j) w (if j=0 then r else ρ j) co cs:=fun j co cs hj hc=>by
  have hbo:(if j=0 then r else ρ j).blk=(ρ j).blk∧(if j=0 then r else ρ j).off=(ρ j).off∧(if j=0 then r else ρ j).nil=(ρ j).nil:=by
   by_cases h0:j=0
   ·subst h0;rw [if_pos rfl];exact ⟨h1.trans h.blk.symm,h2.trans h.off.symm,by rw [h3,hc.nil]⟩
   ·rw [if_neg h0];exact ⟨rfl,rfl,rfl⟩
  refine ⟨hbo.2.2.trans hc.nil,by rw [hbo.1];exact hc.lt,fun i l hl=>?_,fun ho i hi=>by rw [hbo.1,hbo.2.1];exact hc.own ho i hi,fun ho o=>by rw [hbo.1];exact hc.fz ho o⟩
  have hnv:Blk.noV0 (.c co cs)=true:=zam hv hj
  have hnv:cs.all (zao Lf.noV0)=true:=hnv
  rw [hbo.1,hbo.2.1,Lf.conc_root (zam hnv hl) (by rw [if_pos rfl];exact ⟨h1.trans h.blk.symm,h2.trans h.off.symm⟩) hat]
  exact hc.cell i l hl
 have hloc:∀ j bk,nth p.hp j=some bk→((if j=0 then r else ρ j):Loc).nil=(ρ j).nil∧footK K w (if j=0 then r else ρ j) bk=footK K w (ρ j) bk∧rfootK K w (if j=0 then r else ρ j) bk=rfootK K w (ρ j) bk:=fun j bk hj=>by
  by_cases h0:j=0
  ·subst h0
   obtain ⟨co,cs,rfl⟩:=hroot bk hj
   rw [if_pos rfl]
   have hc:CBlk _ ρ w (ρ 0) co cs:=h.h.blk 0 _ hj
   refine ⟨by rw [h3,hc.nil],?_,?_⟩<;>(funext x;simp only [footK,rfootK];rw [h1,h.blk])
  ·rw [if_neg h0];exact ⟨rfl,rfl,rfl⟩
 refine ⟨h.len,by rw [if_pos rfl];exact h1,by rw [if_pos rfl];exact h2,fun j bk hj=>?_,fun j j' bk bk' hj ho hj' hne hn hn' x hf hf'=>?_⟩
 ·by_cases h0:j=0
  ·subst h0
   obtain ⟨co,cs,rfl⟩:=hroot bk hj
   exact hcb 0 co cs hj (h.h.blk 0 _ hj)
  ·have:=h.h.blk j bk hj
   cases bk with
   | c co cs=>exact hcb j co cs hj this
   | v o ts a =>
    show BlkRelK K _ _ w (if j=0 then r else ρ j) _
    rw [if_neg h0];exact this
   | obj o k a =>
    show BlkRelK K _ _ w (if j=0 then r else ρ j) _
    rw [if_neg h0];exact this
   | l o f ts a =>
    show BlkRelK K _ _ w (if j=0 then r else ρ j) _
    rw [if_neg h0];exact this
   | m o kt vt cs =>
    have this:MRel _ ρ w (ρ j) kt vt cs:=this
    show MRel _ (fun j=>if j=0 then r else ρ j) w (if j=0 then r else ρ j) kt vt cs
    rw [if_neg h0]
    obtain ⟨es,clock,m1,m2⟩:=this.ents
    have hnv:Blk.noV0 (.m o kt vt cs)=true:=zam hv hj
    have hnv:cs.all Lf.noV0=true:=hnv
    refine ⟨this.nil,⟨es,clock,m1,?_⟩,this.good⟩
    rw [zcK (cs:=cs) (cs':=cs) (ν':=fun i=>d.getD i default) (ρ':=ρ) (List.map_congr_left fun x hx=>Lf.conc_root (List.all_eq_true.1 hnv x hx) (by rw [if_pos rfl];exact ⟨h1.trans h.blk.symm,h2.trans h.off.symm⟩) hat)]
    exact m2
 ·rw [(hloc j bk hj).1] at hn
  rw [(hloc j' bk' hj').1] at hn'
  rw [(hloc j bk hj).2.1] at hf
  rw [(hloc j' bk' hj').2.2] at hf'
  exact h.h.apart j j' bk bk' hj ho hj' hne hn hn' x hf hf'
theorem zpt {a:A} : ∀ (ts:List Ty) (i:Nat),M.sat F ν (opnA a i ts) (fun as=>PEq (dget (a.cells ν)) ν ts (zal i ts.length) as)
 | [],i=>zab trivial
 | t::ts,i=>by
  unfold opnA
  refine zaa (zag (Q:=fun r=>t.eqAt (dget (a.cells ν) i) (r.den ν)) fun r h=>?_) fun x hx=>?_
  ·rw [h]
   have e:(A.int ν (.z 0)).toNat*1+i=i:=by simp [A.int,DV.toI]
   cases t<;>simp only [zbc,Ty.eqAt,DV.toI,DV.toB,DV.toL]<;>rw [e]
  ·exact zaa (zpt ts (i+1)) fun r hr=>zab ⟨hx,hr⟩
theorem zlH {n b k:Nat} : rnm (zmj n b k) 0=b∧∀ i,i<k→rnm (zmj n b k) (i+1)=n+i:=by
 refine ⟨rfl,fun i hi=>?_⟩
 unfold rnm zmj
 rw [List.getD_cons_succ,List.getD_eq_getElem?_getD,List.getElem?_map,List.getElem?_range hi]
 rfl
theorem PatD.ids_rd (p:PatD) (o:Bool):(p.rd o).ids=p.ids.rd o:=by
 cases o with
 | true=>rfl
 | false =>
  simp only [PatD.ids,PatD.rd,Bool.false_eq_true,if_false,List.map_map,PatD.mk.injEq,and_true]
  refine List.map_congr_left fun x _=>?_
  cases x with
  | none=>rfl
  | some b=>cases b<;>rfl
theorem all_of_nth' {α:Type} {q:α→Bool} : ∀ {l:List (Option α)},(∀ i x,nth l i=some x→q x=true)→l.all (zao q)=true
 | [],_=>rfl
 | none::l,h=>by
  simp only [List.all_cons,zao,Bool.true_and]
  exact all_of_nth' fun i x hx=>h (i+1) x hx
 | some a::l,h=>by
  simp only [List.all_cons,zao,Bool.and_eq_true]
  exact ⟨h 0 a rfl,all_of_nth' fun i x hx=>h (i+1) x hx⟩
theorem zqf {o:Bool} {k b:Nat} {a:A} {hp:List (Option Blk)} (hb:nth hp b=some (.obj o (k+2) a)) :
  M.sat F ν (zq6 o k b a hp) (fun hp'=>hp.length≤hp'.length∧∀ ρ w,HS E ν ρ hp w→∃ ρ':Nat→Loc,(∀ j,j<hp.length→ρ' j=ρ j)∧HS E ν ρ' hp' w):=by
 unfold zq6
 refine zaa (zad (Q:=fun p=>pats[k]? = some p) fun a h=>h) fun p hp0=>?_
 refine zae (fun hc=>?_) (fun _=>zac)
 simp only [Bool.and_eq_true,Bool.not_eq_true'] at hc
 obtain ⟨⟨⟨hok,hfit⟩,hlt⟩,hno⟩:=hc
 simp only [PatD.fit,Bool.and_eq_true] at hfit
 obtain ⟨⟨hfl,hplt⟩,hty⟩:=hfit
 have hoki:p.ids.ok=true:=by simp only [zfi,Bool.and_eq_true] at hok;exact hok.1.1
 generalize hpo:p.rd o=p'
 have htys:p'.tys=p.tys:=by rw [←hpo];cases o<;>rfl
 have hids:p'.ids=p.ids.rd o:=by rw [←hpo];exact PatD.ids_rd p o
 have hok1:p'.ids.ok=true:=by rw [hids];exact PatD.rd_ok hoki o
 have hfrom:∀ i x,nth p'.hp i=some x→∃ y,nth p.hp i=some y∧x=if o then y else y.froze:=fun i x hx=>by rw [←hpo] at hx;exact PatD.rd_of hx
 have hkl:∀ i x,nth p'.hp i=some x→x.kindLt (k+2)=true:=fun i x hx=>by
  obtain ⟨y,hy,e⟩:=hfrom i x hx
  have hok2:=hok
  simp only [zfi,Bool.and_eq_true] at hok2
  have:=zam hok2.1.2 (show nth p.ids.hp i=some (y.inst (zal 0 p.tys.length)) from by unfold PatD.ids;rw [zaE,hy];rfl)
  rw [Blk.inst_kindLt] at this
  rw [e]
  cases o
  ·simp only [Bool.false_eq_true,if_false];rw [←this];cases y<;>rfl
  ·exact this
 have hplt:p'.hp.all (zao (Blk.lt p'.hp.length))=true:=all_of_nth' fun i x hx=>by
  obtain ⟨y,hy,e⟩:=hfrom i x hx
  have h1:=zam hplt hy
  have hl:p'.hp.length=p.hp.length:=by rw [←hpo];cases o<;>simp [PatD.rd]
  rw [hl,e]
  cases o
  ·simp only [Bool.false_eq_true,if_false];rw [←h1];cases y<;>rfl
  ·exact h1
 have hty:p'.hp.all (zao (Blk.tyOk A.const p'.tys))=true:=all_of_nth' fun i x hx=>by
  obtain ⟨y,hy,e⟩:=hfrom i x hx
  have h1:=zam hty hy
  rw [htys,e]
  cases o
  ·simp only [Bool.false_eq_true,if_false];rw [←h1];cases y<;>rfl
  ·exact h1
 have hlen:p'.hp.length=p.hp.length:=by rw [←hpo];cases o<;>simp [PatD.rd]
 rw [←htys,←hlen]
 refine zaa (zpt p'.tys 0) fun as has=>zab ⟨by rw [List.length_append,zai];omega,fun ρ w h=>?_⟩
 generalize hm:zmj hp.length b (p'.hp.length-1)=m
 have hbl:=za4 hb
 have hbr:BlkRel E ν ρ w (ρ b) (.obj o (k+2) a):=h.heap.blk b _ hb
 have hbr:(ρ b).nil=false∧(objK (k+2)).rel o w (ρ b).blk (ρ b).off (a.cells ν):=(zbi.plain hno).1 hbr
 obtain ⟨hnb,ρ0,hD0⟩:(ρ b).nil=false∧∃ ρ0,Dec (zcZ (k+2)) p'.ids w (ρ b).blk (ρ b).off (a.cells ν) ρ0:=⟨hbr.1,by have:=hbr.2;rw [zcE hp0 hok] at this;rw [hids];exact this⟩
 have hD:=hD0.reroot hok1 (r:=ρ b) rfl rfl hnb
 generalize hρ1:(fun j=>if j=0 then ρ b else ρ0 j)=ρ1 at hD
 have hρ10:ρ1 0=ρ b:=by rw [←hρ1];rfl
 have hidx:∀ i x,nth p'.hp i=some x→nth p'.ids.hp i=some (x.inst (zal 0 p'.tys.length)):=fun i x hx=>by unfold PatD.ids;rw [zaE,hx];rfl
 have hof:∀ i x,nth p'.hp i=some x→x.own=true→(ρ1 i).nil=false→∀ y,x.foot w (ρ1 i) y→(Blk.obj o (k+2) a).foot w (ρ b) y:=fun i x hx ho hn y hf=>by
  show (objK (kb (k+2))).foot w (ρ b).blk (ρ b).off y
  rw [zeg hno,zcE hp0 hok]
  obtain ⟨y',hy',e⟩:=hfrom i x hx
  have ho1:o=true:=by
   cases o with
   | true=>rfl
   | false=>rw [e] at ho;simp only [Bool.false_eq_true,if_false] at ho;rw [Blk.froze_own] at ho;cases ho
  have hD2:=hD
  rw [hids,ho1] at hD2
  have hx2:=hidx i x hx
  rw [hids,ho1] at hx2
  exact ⟨_,ρ1,hD2,i,_,hx2,by rw [Blk.inst_own];exact ho,hn,by rw [zlG (by rw [Blk.inst_kindLt];exact hkl i x hx),Blk.inst_foot];exact hf⟩
 have hox:∀ i x,nth p'.hp i=some x→x.own=true→o=true:=fun i x hx ho=>by
  obtain ⟨y',hy',e⟩:=hfrom i x hx
  cases o with
  | true=>rfl
  | false=>rw [e] at ho;simp only [Bool.false_eq_true,if_false] at ho;rw [Blk.froze_own] at ho;cases ho
 have hor:∀ i x,nth p'.hp i=some x→(ρ1 i).nil=false→∀ y,x.rfoot w (ρ1 i) y→(Blk.obj o (k+2) a).rfoot w (ρ b) y:=fun i x hx hn y hf=>by
  show (objK (kb (k+2))).rfoot w (ρ b).blk (ρ b).off y
  rw [zeg hno,zcE hp0 hok]
  have hD2:=hD
  rw [hids] at hD2
  have hx2:=hidx i x hx
  rw [hids] at hx2
  obtain ⟨z,hz,e⟩:=PatD.rd_of hx2
  refine ⟨_,ρ1,hD2.rdF _,i,_,PatD.rd_at (o:=false) hz,hn,?_⟩
  simp only [Bool.false_eq_true,if_false]
  rw [zbn]
  have h3:rfootK (zcZ (k+2)) w (ρ1 i) z=rfootK (zcZ (k+2)) w (ρ1 i) (x.inst (zal 0 p'.tys.length)):=by
   rw [e]
   cases o
   ·simp only [Bool.false_eq_true,if_false];rw [zbn]
   ·rfl
  rw [h3,zi4 (by rw [Blk.inst_kindLt];exact hkl i x hx),Blk.inst_rfoot]
  exact hf
 have hρm:∀ i,i<p'.hp.length→(fun j=>if j<hp.length then ρ j else ρ1 (j-hp.length+1)) (rnm m i)=ρ1 i:=fun i hi=>by
  rw [←hm]
  cases i with
  | zero=>rw [zlH.1];simp only [if_pos hbl];exact hρ10.symm
  | succ i =>
   rw [zlH.2 i (by omega)]
   simp only
   rw [if_neg (by omega),show hp.length+i-hp.length+1=i+1 from by omega]
 generalize hρ':(fun j=>if j<hp.length then ρ j else ρ1 (j-hp.length+1))=ρ' at hρm
 have hold:∀ j,j<hp.length→ρ' j=ρ j:=fun j hj=>by rw [←hρ'];exact if_pos hj
 refine ⟨ρ',hold,?_⟩
 generalize hl:p'.hp.map (Option.map fun x=>(x.inst as).ren m)=l
 have hll:l.length=p'.hp.length:=by rw [←hl];simp
 have hp1:0<p'.hp.length:=by
  simp only [PatD.ok,Bool.and_eq_true] at hok1
  have hr:=hok1.1.1
  unfold PatD.ids at hr
  cases hpp:p'.hp with
  | nil=>rw [hpp] at hr;cases hr
  | cons _ _=>simp
 have hnl:∀ i bk,nth l i=some bk→∃ x,nth p'.hp i=some x∧bk=(x.inst as).ren m:=fun i bk hi=>by
  rw [←hl,zaE] at hi
  obtain ⟨x,hx,rfl⟩:=Option.map_eq_some_iff.1 hi
  exact ⟨x,hx,rfl⟩
 have hcase:∀ j bk,nth (zat (l.headD none) hp b++l.tail) j=some bk →
   (∃ i x,nth p'.hp i=some x∧j=rnm m i∧bk=(x.inst as).ren m∧ρ' j=ρ1 i)∨(nth hp j=some bk∧j≠b∧j<hp.length∧ρ' j=ρ j):=by
  intro j bk hj
  rw [zaL,zai] at hj
  split at hj
  ·rename_i hjl
   by_cases hjb:b=j
   ·subst hjb
    rw [zaq,if_pos hjl] at hj
    have h0:nth l 0=some bk:=by
     cases l with
     | nil=>cases hj
     | cons x l=>exact hj
    obtain ⟨x,hx,e⟩:=hnl 0 bk h0
    exact .inl ⟨0,x,hx,by rw [←hm];exact zlH.1.symm,e,by rw [hold _ hjl];exact hρ10.symm⟩
   ·rw [zau _ _ _ _ hjb] at hj
    exact .inr ⟨hj,fun e=>hjb e.symm,hjl,hold j hjl⟩
  ·rename_i hjl
   have h1:nth l (j-hp.length+1)=some bk:=by
    cases l with
    | nil=>cases hj
    | cons x l=>exact hj
   obtain ⟨x,hx,e⟩:=hnl _ bk h1
   have hlt2:=za4 hx
   have hjm:j=rnm m (j-hp.length+1):=by rw [←hm,zlH.2 _ (by omega)];omega
   exact .inl ⟨_,x,hx,hjm,e,by have:=hρm _ hlt2;rw [←hjm] at this;exact this⟩
 have hblk:∀ i x,nth p'.hp i=some x→BlkRel E ν ρ' w (ρ1 i) ((x.inst as).ren m):=fun i x hx=>by
  have h1:=hD.h.blk i _ (hidx i x hx)
  have h2:BlkRel E (dget (a.cells ν)) ρ1 w (ρ1 i) (x.inst (zal 0 p'.tys.length)):=BlkRel.ofK (by rw [Blk.inst_kindLt];exact hkl i x hx) h1
  have h3:=Blk.inst_to zbE has (zam hty hx) h2
  exact h3.ren hρm (by rw [Blk.inst_lt];exact zam hplt hx)
 have hfo:∀ (x:Blk) w r,((x.inst as).ren m).foot w r=x.foot w r:=fun x w r=>by rw [Blk.ren_foot,Blk.inst_foot]
 have hro:∀ (x:Blk) w r,((x.inst as).ren m).rfoot w r=x.rfoot w r:=fun x w r=>by rw [Blk.ren_rfoot,Blk.inst_rfoot]
 have hown:∀ x:Blk,((x.inst as).ren m).own=x.own:=fun x=>by rw [Blk.ren_own,Blk.inst_own]
 refine ⟨⟨fun j bk hj=>?_,fun j j' bk bk' hj ho hj' hne hn hn' y hf hf'=>?_⟩,fun j bk hj=>?_,h.fr,?_,fun j hj=>by rw [hold j (by have:=h.len;omega)];exact h.keep j hj⟩
 ·rcases hcase j bk hj with ⟨i,x,hx,e1,e2,e3⟩ | ⟨e1,e2,e3,e4⟩
  ·rw [e3,e2];exact hblk i x hx
  ·rw [e4];exact (h.heap.blk j bk e1).keep hold (zam hlt e1)
 ·rcases hcase j bk hj with ⟨i,x,hx,e1,e2,e3⟩ | ⟨e1,e2,e3,e4⟩<;>rcases hcase j' bk' hj' with ⟨i',x',hx',f1,f2,f3⟩ | ⟨f1,f2,f3,f4⟩
  ·rw [e3] at hn hf
   rw [f3] at hn' hf'
   rw [e2,hfo] at hf
   rw [f2,hro] at hf'
   rw [e2,hown] at ho
   have:=hD.h.apart i i' _ _ (hidx i x hx) (by rw [Blk.inst_own];exact ho) (hidx i' x' hx') (fun e=>hne (by rw [e1,f1,e])) hn hn' y
   rw [zlG (by rw [Blk.inst_kindLt];exact hkl i x hx),zi4 (by rw [Blk.inst_kindLt];exact hkl i' x' hx'),Blk.inst_foot,Blk.inst_rfoot] at this
   exact this hf hf'
  ·rw [e3] at hn hf
   rw [f4] at hn' hf'
   rw [e2,hfo] at hf
   rw [e2,hown] at ho
   exact h.heap.apart b j' _ bk' hb (hox i x hx ho) f1 (fun e=>f2 e.symm) hnb hn' y (hof i x hx ho hn y hf) hf'
  ·rw [e4] at hn hf
   rw [f3] at hn' hf'
   rw [f2,hro] at hf'
   exact h.heap.apart j b bk _ e1 ho hb e2 hn hnb y hf (hor i' x' hx' hn' y hf')
  ·rw [e4] at hn hf
   rw [f4] at hn' hf'
   exact h.heap.apart j j' bk bk' e1 ho f1 hne hn hn' y hf hf'
 ·rcases hcase j bk hj with ⟨i,x,hx,e1,e2,e3⟩ | ⟨e1,e2,e3,e4⟩
  ·rw [e3]
   cases hn:(ρ1 i).nil with
   | true=>exact .inl rfl
   | false =>
    rcases h.old b _ hb with g | g
    ·rw [hnb] at g;cases g
    ·refine .inr ⟨fun o1 y hf=>?_,fun y hf=>?_⟩
     ·rw [e2,hfo] at hf
      rw [e2,hown] at o1
      exact g.wr (hox i x hx o1) y (hof i x hx o1 hn y hf)
     ·rw [e2,hro] at hf
      exact g.rd y (hor i x hx hn y hf)
  ·rw [e4];exact h.old j bk e1
 ·rw [List.length_append,zai];have:=h.len;omega
theorem zd0 {m:List Nat} : ∀ {l:List (Option Blk)} {j:Nat} {hp:List (Option Blk)},(zck m j l hp).length=hp.length ∧
  ∀ q bk,nth (zck m j l hp) q=some bk→nth hp q=some bk∧(∀ i,j≤i→i<j+l.length→rnm m i=q→bk.solid=false)
 | [],j,hp=>⟨rfl,fun q bk h=>⟨h,fun i h1 h2 _=>by simp at h2;omega⟩⟩
 | x::l,j,hp=>by
  have step:∀ hp1:List (Option Blk),hp1.length=hp.length→(∀ q bk,nth hp1 q=some bk→nth hp q=some bk∧(rnm m j=q→bk.solid=false)) →
    (zck m (j+1) l hp1).length=hp.length∧∀ q bk,nth (zck m (j+1) l hp1) q=some bk→nth hp q=some bk∧(∀ i,j≤i→i<j+(x::l).length→rnm m i=q→bk.solid=false):=by
   intro hp1 h1 h2
   obtain ⟨e1,e2⟩:=zd0 (l:=l) (j:=j+1) (hp:=hp1) (m:=m)
   refine ⟨e1.trans h1,fun q bk hq=>?_⟩
   obtain ⟨g1,g2⟩:=e2 q bk hq
   obtain ⟨k1,k2⟩:=h2 q bk g1
   refine ⟨k1,fun i a1 a2 a3=>?_⟩
   rcases Nat.eq_or_lt_of_le a1 with rfl | a1
   ·exact k2 a3
   ·exact g2 i a1 (by simp at a2;omega) a3
  unfold zck
  cases hn:nth hp (rnm m j) with
  | none=>exact step hp rfl fun q bk hq=>⟨hq,fun e=>by rw [←e,hn] at hq;cases hq⟩
  | some y =>
   simp only
   split
   ·refine step _ (zai _ _ _) fun q bk hq=>?_
    obtain ⟨k1,k2⟩:=zaR hq
    exact ⟨k2,fun e=>absurd e.symm k1⟩
   ·rename_i ho
    refine step hp rfl fun q bk hq=>⟨hq,fun e=>?_⟩
    rw [←e,hn] at hq
    cases hq
    simpa using ho
def canL (bk:Option Blk) (r:Loc):Loc :=
 match bk with
 | some (.v _ _ _)=>if r.cap=0 then ⟨r.blk,r.off,true,r.len,r.cap,bif r.nil then r.raw else some ⟨r.blk,r.off,none⟩⟩ else r
 | some (.l _ _ _ _)=>if r.cap=0 then ⟨r.blk,r.off,true,r.len,r.cap,bif r.nil then r.raw else some ⟨r.blk,r.off,none⟩⟩ else r
 | _=>r
theorem ztp (bk:Option Blk) (r:Loc):(canL bk r).len=r.len∧(canL bk r).cap=r.cap:=by
 unfold canL
 split
 ·split<;>exact ⟨rfl,rfl⟩
 ·split<;>exact ⟨rfl,rfl⟩
 ·exact ⟨rfl,rfl⟩
theorem zmM (bk:Option Blk) (r:Loc):(canL bk r).blk=r.blk∧(canL bk r).off=r.off∧(canL bk r).slice=r.slice∧((canL bk r).nil=false→r.nil=false):=by
 unfold canL
 split
 ·split
  ·refine ⟨rfl,rfl,?_,fun h=>by cases h⟩
   simp only [Loc.slice,cond_true]
  ·exact ⟨rfl,rfl,rfl,id⟩
 ·split
  ·refine ⟨rfl,rfl,?_,fun h=>by cases h⟩
   simp only [Loc.slice,cond_true]
  ·exact ⟨rfl,rfl,rfl,id⟩
 ·exact ⟨rfl,rfl,rfl,id⟩
theorem Lf.conc_same {ρ ρ':Nat→Loc} (h:∀ i,(ρ' i).blk=(ρ i).blk∧(ρ' i).off=(ρ i).off∧(ρ' i).slice=(ρ i).slice) (l:Lf):l.conc ν ρ'=l.conc ν ρ:=by
 cases l with
 | p b o=>simp only [Lf.conc];rw [(h b).1,(h b).2.1]
 | vec b=>simp only [Lf.conc];exact (h b).2.2
 | fnp f bs =>
  simp only [Lf.conc,za9]
  congr 3
  funext b
  rw [(h b).1,(h b).2.1]
 | ifp t b=>simp only [Lf.conc];rw [(h b).1,(h b).2.1]
 | mp b=>simp only [Lf.conc];rw [(h b).1]
 | alt a l =>
  simp only [Lf.conc,zbj]
  split
  ·rename_i x _
   cases x with
   | p b n=>simp only [Alt.conc];rw [(h b).1,(h b).2.1]
   | ifp t b=>simp only [Alt.conc];rw [(h b).1,(h b).2.1]
   | nilp=>rfl
   | nili=>rfl
  ·rfl
 | str=>rfl
 | e t _ _=>cases t<;>rfl
 | i=>rfl
 | b=>rfl
 | gp=>rfl
 | nilp=>rfl
 | v=>rfl
theorem BlkRel.nofoot {ρ:Nat→Loc} {w:World} {r:Loc} {bk:Blk} (h:BlkRel E ν ρ w r bk) (hs:bk.solid=false) (ho:bk.own=true) {b:Nat} : ¬ bk.foot w r b:=by
 cases bk with
 | l o f ts a =>
  have ho:o=true:=ho
  subst ho
  have hf:f=true:=by simpa [Blk.solid] using hs
  intro hb
  have:=LRel.full h hf
  have hb2:=hb.2
  omega
 | c=>exact absurd (hs.symm.trans ho) (by decide)
 | v=>exact absurd (hs.symm.trans ho) (by decide)
 | obj=>exact absurd (hs.symm.trans ho) (by decide)
 | m=>exact absurd (hs.symm.trans ho) (by decide)
theorem BlkRel.toK {n:Nat} {ρ ρ':Nat→Loc} {w:World} {r:Loc} {bk:Blk} (hk:bk.kindLt n=true) (hfl:bk.flat=true) (h:BlkRel E ν ρ w r bk)
  (hs:∀ i,(ρ' i).blk=(ρ i).blk∧(ρ' i).off=(ρ i).off∧(ρ' i).slice=(ρ i).slice):BlkRelK (zcZ n) ν ρ' w (canL (some bk) r) bk:=by
 cases bk with
 | c o cs =>
  have h:CBlk ν ρ w r o cs:=h
  exact (⟨h.nil,h.lt,fun i l hl=>by rw [Lf.conc_same hs];exact h.cell i l hl,h.own,h.fz⟩:CBlk ν ρ' w r o cs)
 | obj o k a =>
  simp only [Blk.kindLt,Bool.and_eq_true,Nat.blt_eq,Bool.not_eq_true'] at hk
  have h:=(zbi.plain hk.2).1 h
  refine ⟨h.1,?_⟩
  rw [zcZ,if_pos hk.1]
  exact h.2
 | m o kt vt cs =>
  have h:MRel ν ρ w r kt vt cs:=h
  obtain ⟨es,clock,m1,m2⟩:=h.ents
  refine (⟨h.nil,⟨es,clock,m1,?_⟩,h.good⟩:MRel ν ρ' w r kt vt cs)
  rw [zcK (cs:=cs) (cs':=cs) (ν':=ν) (ρ':=ρ) (List.map_congr_left fun x _=>Lf.conc_same hs x)]
  exact m2
 | l o f ts a =>
  have h:LRel E w r o f ts (a.cells ν):=h
  have hfl:ts.all LT.flat=true:=hfl
  refine ⟨hfl,?_,?_⟩
  ·simp only [canL]
   split
   ·rename_i hc
    have hl:r.len=0:=by have:=h.row.cap;omega
    refine ⟨⟨fun _=>⟨hl,hc⟩,fun e=>(by cases e),h.row.pos,h.row.len,h.row.cap,fun i hi=>?_,fun _ e=>(by cases e),fun _ e=>by cases e⟩,fun _ e=>?_,h.full⟩
    ·rw [h.row.len,hl,Nat.zero_mul] at hi
     omega
    ·have e:r.len<r.cap:=e
     omega
   ·exact LRel.congr hfl h fun _=>rfl
  ·simp only [canL]
   split
   ·intro _;rfl
   ·rename_i hc;intro e;exact absurd e hc
 | v o ts a =>
  have h:VRel E w r o ts (a.cells ν):=h
  have hfl:ts.all LT.flat=true:=hfl
  refine ⟨hfl,?_,?_⟩
  ·simp only [canL]
   split
   ·rename_i hc
    have hl:r.len=0:=by have:=h.cap;omega
    refine ⟨fun _=>⟨hl,hc⟩,fun e=>(by cases e),h.pos,h.len,h.cap,fun i hi=>?_,fun _ e=>(by cases e),fun _ e=>by cases e⟩
    rw [h.len,hl,Nat.zero_mul] at hi
    omega
   ·exact h.congr hfl fun _=>rfl
  ·simp only [canL]
   split
   ·intro _;rfl
   ·rename_i hc;intro e;exact absurd e hc
theorem zi5:∀ {ts:List Ty} {ds:List DV},ds.length=ts.length→(nrmZ ts ds).length=ts.length
 | [],[],_=>rfl
 | [],_::_,h=>by simp at h
 | _::_,[],h=>by simp at h
 | t::ts,d::ds,h=>by simp [nrmZ,zi5 (ts:=ts) (ds:=ds) (by simpa using h)]
theorem zpu (t:Ty) (d:DV):t.eqAt d (nrm t d):=by cases t<;>rfl
theorem zpv:∀ {ts:List Ty} {as:List A} (pre:List DV),as.length=ts.length→PEq ν (dget (pre++nrmZ ts (as.map (A.den ν)))) ts as (zal pre.length ts.length)
 | [],[],_,_=>trivial
 | [],_::_,_,h=>by simp at h
 | _::_,[],_,h=>by simp at h
 | t::ts,a::as,pre,h=>by
  refine ⟨?_,?_⟩
  ·have:dget (pre++nrmZ (t::ts) ((a::as).map (A.den ν))) pre.length=nrm t (a.den ν):=by
    simp [nrmZ]
   show t.eqAt (a.den ν) (dget _ pre.length)
   rw [this]
   exact zpu t _
  ·have:=zpv (ts:=ts) (as:=as) (pre++[nrm t (a.den ν)]) (by simpa using h)
   simp only [List.append_assoc,List.singleton_append,List.length_append,List.length_cons,List.length_nil,Nat.zero_add] at this
   exact this
theorem zi6 {o:Bool} {k b:Nat} {hp:List (Option Blk)} : M.sat F ν (zli o k b hp) (fun hp'=>hp'.length=hp.length∧∀ ρ w,HS E ν ρ hp w→HS E ν ρ hp' w):=by
 unfold zli
 refine zaa (zad (Q:=fun p=>pats[k]? = some p) fun a h=>h) fun p hp0=>?_
 dsimp only
 generalize hg:zdM p.tys.length ⟨[some (.s (.one (.p 0 (.c 0))))],p.hp⟩ ⟨[some (.s (.one (.p b (.c 0))))],hp⟩=g
 have hgl:g.1.length=p.tys.length:=by rw [←hg];exact zeE _ _ _
 refine zae (fun hc=>?_) (fun _=>zac)
 simp only [Bool.and_eq_true,Bool.not_eq_true'] at hc
 obtain ⟨⟨⟨⟨⟨hok,hfit⟩,hm0⟩,hs1⟩,hs2⟩,hno⟩:=hc
 have hm0:=Nat.eq_of_beq_eq_true hm0
 simp only [PatD.fit,Bool.and_eq_true] at hfit
 obtain ⟨⟨hfl,hplt⟩,hty⟩:=hfit
 have hoki:p.ids.ok=true:=by simp only [zfi,Bool.and_eq_true] at hok;exact hok.1.1
 generalize hpo:p.rd o=p' at hs1 hs2
 have htys:p'.tys=p.tys:=by rw [←hpo];cases o<;>rfl
 have hlen:p'.hp.length=p.hp.length:=by rw [←hpo];cases o<;>simp [PatD.rd]
 have hids:p'.ids=p.ids.rd o:=by rw [←hpo];exact PatD.ids_rd p o
 have hok1:p'.ids.ok=true:=by rw [hids];exact PatD.rd_ok hoki o
 have hfrom:∀ i x,nth p'.hp i=some x→∃ y,nth p.hp i=some y∧x=if o then y else y.froze:=fun i x hx=>by rw [←hpo] at hx;exact PatD.rd_of hx
 have hkl:∀ i x,nth p'.hp i=some x→x.kindLt (k+2)=true:=fun i x hx=>by
  obtain ⟨y,hy,e⟩:=hfrom i x hx
  have hok2:=hok
  simp only [zfi,Bool.and_eq_true] at hok2
  have:=zam hok2.1.2 (show nth p.ids.hp i=some (y.inst (zal 0 p.tys.length)) from by unfold PatD.ids;rw [zaE,hy];rfl)
  rw [Blk.inst_kindLt] at this
  rw [e]
  cases o
  ·simp only [Bool.false_eq_true,if_false];rw [←this];cases y<;>rfl
  ·exact this
 have hfl:p'.hp.all (zao Blk.flat)=true:=all_of_nth' fun i x hx=>by
  obtain ⟨y,hy,e⟩:=hfrom i x hx
  have h1:=zam hfl hy
  rw [e]
  cases o
  ·simp only [Bool.false_eq_true,if_false];rw [←h1];cases y<;>rfl
  ·exact h1
 have hty:p'.hp.all (zao (Blk.tyOk A.const p'.tys))=true:=all_of_nth' fun i x hx=>by
  obtain ⟨y,hy,e⟩:=hfrom i x hx
  have h1:=zam hty hy
  rw [htys,e]
  cases o
  ·simp only [Bool.false_eq_true,if_false];rw [←h1];cases y<;>rfl
  ·exact h1
 rw [←htys] at hgl ⊢
 refine zaa (zag (Q:=fun q=>q.cells ν=nrmZ p'.tys (g.1.map (A.den ν))) fun q h=>A.cells_of_den h) fun q hq=>zab ⟨?_,fun ρ w h=>?_⟩
 ·rw [zai,(zd0 (m:=g.2)).1]
 have hk:=zd0 (m:=g.2) (l:=p.hp.tail) (j:=1) (hp:=hp)
 generalize zck g.2 1 p.hp.tail hp=hpk at hk ⊢
 obtain ⟨hkl1,hks⟩:=hk
 -- the pattern holds
 have hpe:PEq ν (dget (q.cells ν)) p'.tys g.1 (zal 0 p'.tys.length):=by
  rw [hq]
  exact zpv [] hgl
 have hsub:HRel E ν (fun j=>ρ (rnm g.2 j)) (p'.hp.map (Option.map (Blk.inst g.1))) w:=h.heap.sub hs1 hs2
 have hrel:HRel E (dget (q.cells ν)) (fun j=>ρ (rnm g.2 j)) (p'.hp.map (Option.map (Blk.inst (zal 0 p'.tys.length)))) w:=HRel.inst zbE hpe hty hsub
 generalize hρc:(fun i=>canL (nth p'.ids.hp i) (ρ (rnm g.2 i)))=ρc
 have hcs:∀ i,(ρc i).blk=(ρ (rnm g.2 i)).blk∧(ρc i).off=(ρ (rnm g.2 i)).off∧(ρc i).slice=(ρ (rnm g.2 i)).slice:=fun i=>by
  rw [←hρc];have:=zmM (nth p'.ids.hp i) (ρ (rnm g.2 i));exact ⟨this.1,this.2.1,this.2.2.1⟩
 have hcn:∀ i,(ρc i).nil=false→(ρ (rnm g.2 i)).nil=false:=fun i=>by
  rw [←hρc];exact (zmM (nth p'.ids.hp i) (ρ (rnm g.2 i))).2.2.2
 have hidx:∀ i x,nth p'.hp i=some x→nth p'.ids.hp i=some (x.inst (zal 0 p'.tys.length)):=fun i x hx=>by unfold PatD.ids;rw [zaE,hx];rfl
 have hidx':∀ i y,nth p'.ids.hp i=some y→∃ x,nth p'.hp i=some x∧y=x.inst (zal 0 p'.tys.length):=fun i y hy=>by
  unfold PatD.ids at hy
  rw [zaE] at hy
  obtain ⟨x,hx,e⟩:=Option.map_eq_some_iff.1 hy
  exact ⟨x,hx,e.symm⟩
 have hfK:∀ i x,nth p'.hp i=some x→footK (zcZ (k+2)) w (ρc i) (x.inst (zal 0 p'.tys.length))=x.foot w (ρ (rnm g.2 i))∧rfootK (zcZ (k+2)) w (ρc i) (x.inst (zal 0 p'.tys.length))=x.rfoot w (ρ (rnm g.2 i)):=fun i x hx=>by
  rw [zlG (by rw [Blk.inst_kindLt];exact hkl i x hx),zi4 (by rw [Blk.inst_kindLt];exact hkl i x hx),Blk.inst_foot,Blk.inst_rfoot]
  have:=hcs i
  have hll:(ρc i).len=(ρ (rnm g.2 i)).len∧(ρc i).cap=(ρ (rnm g.2 i)).cap:=by rw [←hρc];exact ztp _ _
  cases x<;>refine ⟨?_,?_⟩<;>simp only [Blk.foot,Blk.rfoot]<;>first | rw [this.1,hll.1,hll.2] | rw [this.1,this.2.1] | rw [this.1]
 have hD:Dec (zcZ (k+2)) p'.ids w (ρ b).blk (ρ b).off (q.cells ν) ρc:=by
  refine ⟨by rw [hq];exact zi5 (by simpa using hgl),by rw [(hcs 0).1,hm0],by rw [(hcs 0).2.1,hm0],fun i y hy=>?_,fun i i' y y' hy ho hy' hne hn hn' z hf hf'=>?_⟩
  ·obtain ⟨x,hx,e⟩:=hidx' i y hy
   have:=(hrel.blk i y (by rw [←hy];rfl)).toK (n:=k+2) (ρ':=ρc) (by rw [e,Blk.inst_kindLt];exact hkl i x hx) (by rw [e,Blk.inst_flat];exact zam hfl hx) hcs
   rw [←hy] at this
   rw [←hρc] at this ⊢
   exact this
  ·obtain ⟨x,hx,rfl⟩:=hidx' i y hy
   obtain ⟨x',hx',rfl⟩:=hidx' i' y' hy'
   rw [(hfK i x hx).1] at hf
   rw [(hfK i' x' hx').2] at hf'
   have:=hrel.apart i i' _ _ hy ho hy' hne (hcn i hn) (hcn i' hn') z
   rw [Blk.inst_foot,Blk.inst_rfoot] at this
   exact this hf hf'
 have hact:∀ i x,nth p'.hp i=some x→∃ x',nth hp (rnm g.2 i)=some x'∧(x.own=true→x'.own=true)∧(x.own=true→∀ w r b,x.foot w r b→x'.foot w r b)∧∀ w r,x.rfoot w r=x'.rfoot w r:=fun i x hx=>by
  obtain ⟨x',e1,_,e3⟩:=ze8 hs1 (j:=i) (b:=x.inst g.1) (by rw [zaE,hx];rfl)
  refine ⟨x',e1,fun ho=>(Blk.sub_spec (E:=E) (ν:=ν) e3).1 (by rw [Blk.inst_own];exact ho),fun ho w r b hb=>?_,fun w r=>?_⟩
  ·exact Blk.sub_foot e3 (by rw [Blk.inst_own];exact ho) (by rw [Blk.inst_foot];exact hb)
  ·rw [←Blk.sub_rfoot e3,Blk.inst_rfoot]
 have hroot:∃ x0,nth p'.hp 0=some x0∧(ρ b).nil=false:=by
  have hok2:=hok1
  simp only [PatD.ok,Bool.and_eq_true] at hok2
  have hr:=hok2.1.1
  cases h0:nth p'.hp 0 with
  | none=>unfold PatD.ids at hr;rw [zaE,h0] at hr;cases hr
  | some x0 =>
   refine ⟨x0,rfl,?_⟩
   rw [hidx 0 x0 h0] at hr
   have:=hrel.blk 0 _ (hidx 0 x0 h0)
   cases x0 with
   | c o cs =>
    have:=CBlk.nil this
    rwa [hm0] at this
   | v=>cases hr
   | obj=>cases hr
   | l=>cases hr
   | m=>cases hr
 obtain ⟨x0,hx0,hnb⟩:=hroot
 have hobj:BlkRel E ν ρ w (ρ b) (.obj o (k+2) q):=(zbi.plain hno).2 ⟨hnb,by rw [zcE hp0 hok];rw [hids] at hD;exact ⟨ρc,hD⟩⟩
 -- what it writes and looks at
 have hof:o=true→∀ z,(Blk.obj o (k+2) q).foot w (ρ b) z→∃ i x,nth p'.hp i=some x∧x.own=true∧(ρ (rnm g.2 i)).nil=false∧x.foot w (ρ (rnm g.2 i)) z:=fun ho1 z hz=>by
  have hz:(objK (kb (k+2))).foot w (ρ b).blk (ρ b).off z:=hz
  rw [zeg hno,zcE hp0 hok] at hz
  obtain ⟨d1,ρ1,D1,i,y,hy,ho,hn,hf⟩:=hz
  rw [←ho1,←hids] at D1 hy
  obtain ⟨x,hx,rfl⟩:=hidx' i y hy
  have hu:=D1.uniq _ hok1 hD (i+1) i _ (by omega) hy
  have hn2:=(hu.nil _ (D1.h.blk i _ hy) (hD.h.blk i _ hy)).symm.trans hn
  rw [hu.foot _ hn,(hfK i x hx).1] at hf
  exact ⟨i,x,hx,by rw [Blk.inst_own] at ho;exact ho,hcn i hn2,hf⟩
 have hor:∀ z,(Blk.obj o (k+2) q).rfoot w (ρ b) z→∃ i x,nth p'.hp i=some x∧(ρ (rnm g.2 i)).nil=false∧x.rfoot w (ρ (rnm g.2 i)) z:=fun z hz=>by
  have hz:(objK (kb (k+2))).rfoot w (ρ b).blk (ρ b).off z:=hz
  rw [zeg hno,zcE hp0 hok] at hz
  obtain ⟨d1,ρ1,D1,i,y,hy,hn,hf⟩:=hz
  obtain ⟨z0,hz0,e⟩:=PatD.rd_of hy
  simp only [Bool.false_eq_true,if_false] at e
  have hyo:nth p'.ids.hp i=some (if o then z0 else z0.froze):=by rw [hids];exact PatD.rd_at hz0
  obtain ⟨x,hx,e2⟩:=hidx' i _ hyo
  have hDF:Dec (zcZ (k+2)) (p.ids.rd false) w (ρ b).blk (ρ b).off (q.cells ν) ρc:=by
   have:=hD
   rw [hids] at this
   exact this.rdF _
  have hu:=D1.uniq _ (PatD.rd_ok hoki false) hDF (i+1) i _ (by omega) hy
  have hn2:=(hu.nil _ (D1.h.blk i _ hy) (hDF.h.blk i _ hy)).symm.trans hn
  rw [hu.rfoot _ hn,e,zbn] at hf
  have h3:rfootK (zcZ (k+2)) w (ρc i) z0=rfootK (zcZ (k+2)) w (ρc i) (x.inst (zal 0 p'.tys.length)):=by
   rw [←e2]
   cases o
   ·simp only [Bool.false_eq_true,if_false];rw [zbn]
   ·rfl
  rw [h3,(hfK i x hx).2] at hf
  exact ⟨i,x,hx,hcn i hn2,hf⟩
 have hbl:b<hp.length:=by
  obtain ⟨x',e1,_⟩:=hact 0 x0 hx0
  rw [hm0] at e1
  exact za4 e1
 have hcase:∀ j bk,nth (zat (some (.obj o (k+2) q)) hpk b) j=some bk→(j=b∧bk = .obj o (k+2) q)∨(j≠b∧nth hp j=some bk∧∀ i x,nth p'.hp i=some x→rnm g.2 i=j→bk.solid=false):=by
  intro j bk hj
  by_cases hjb:b=j
  ·subst hjb
   rw [zaq,if_pos (by omega)] at hj
   cases hj
   exact .inl ⟨rfl,rfl⟩
  ·rw [zau _ _ _ _ hjb] at hj
   obtain ⟨g1,g2⟩:=hks j bk hj
   refine .inr ⟨fun e=>hjb e.symm,g1,fun i x hx hi=>?_⟩
   cases i with
   | zero=>rw [hm0] at hi;exact absurd hi hjb
   | succ i=>exact g2 (i+1) (by omega) (by have:=za4 hx;rw [List.length_tail,←hlen];omega) hi
 refine ⟨⟨fun j bk hj=>?_,fun j j' bk bk' hj ho hj' hne hn hn' z hf hf'=>?_⟩,fun j bk hj=>?_,h.fr,by rw [zai,hkl1];exact h.len,h.keep⟩
 ·rcases hcase j bk hj with ⟨rfl,rfl⟩ | ⟨_,e1,_⟩
  ·exact hobj
  ·exact h.heap.blk j bk e1
 ·rcases hcase j bk hj with ⟨e1,e2⟩ | ⟨e1,e2,e3⟩<;>rcases hcase j' bk' hj' with ⟨f1,f2⟩ | ⟨f1,f2,f3⟩
  ·exact absurd (e1.trans f1.symm) hne
  ·subst e1
   rw [e2] at hf
   rw [e2] at ho
   obtain ⟨i,x,hx,hxo,hxn,hxf⟩:=hof ho z hf
   obtain ⟨x',g1,g2,g3,_⟩:=hact i x hx
   have hxf:=g3 hxo _ _ _ hxf
   refine h.heap.apart (rnm g.2 i) j' x' bk' g1 (g2 hxo) f2 (fun e=>?_) hxn hn' z hxf hf'
   have:=f3 i x hx e
   rw [e,f2] at g1
   cases g1
   rw [e] at hxf
   exact (h.heap.blk _ _ f2).nofoot this (g2 hxo) hxf
  ·subst f1
   rw [f2] at hf'
   obtain ⟨i,x,hx,hxn,hxf⟩:=hor z hf'
   obtain ⟨x',g1,_,_,g3⟩:=hact i x hx
   rw [g3] at hxf
   refine h.heap.apart j (rnm g.2 i) bk x' e2 ho g1 (fun e=>?_) hn hxn z hf hxf
   exact (h.heap.blk _ _ e2).nofoot (e3 i x hx e.symm) ho hf
  ·exact h.heap.apart j j' bk bk' e2 ho f2 hne hn hn' z hf hf'
 ·rcases hcase j bk hj with ⟨rfl,rfl⟩ | ⟨_,e1,_⟩
  ·refine .inr ⟨fun ho1 z hf=>?_,fun z hf=>?_⟩
   ·obtain ⟨i,x,hx,hxo,hxn,hxf⟩:=hof ho1 z hf
    obtain ⟨x',g1,g2,g3,_⟩:=hact i x hx
    have hxf:=g3 hxo _ _ _ hxf
    rcases h.old _ _ g1 with o | o
    ·rw [hxn] at o;cases o
    ·exact o.wr (g2 hxo) z hxf
   ·obtain ⟨i,x,hx,hxn,hxf⟩:=hor z hf
    obtain ⟨x',g1,_,_,g3⟩:=hact i x hx
    rw [g3] at hxf
    rcases h.old _ _ g1 with o | o
    ·rw [hxn] at o;cases o
    ·exact o.rd z hxf
  ·exact h.old j bk e1
theorem zc6 {ks:List Nat} : ∀ (n j:Nat) (hp:List (Option Blk)),M.sat F ν (ze0 ks n j hp) (fun hp'=>hp.length≤hp'.length∧∀ ρ w,HS E ν ρ hp w→∃ ρ':Nat→Loc,(∀ j,j<hp.length→ρ' j=ρ j)∧HS E ν ρ' hp' w)
 | 0,j,hp=>zab ⟨Nat.le_refl _,fun ρ w h=>⟨ρ,fun _ _=>rfl,h⟩⟩
 | n+1,j,hp=>by
  unfold ze0
  refine zae (fun _=>?_) (fun _=>zab ⟨Nat.le_refl _,fun ρ w h=>⟨ρ,fun _ _=>rfl,h⟩⟩)
  split
  ·rename_i o k a hj
   refine zae (fun _=>?_) (fun _=>zc6 n (j+1) hp)
   refine zaa (zqf (E:=E) hj) fun hp1 h1=>zah (zc6 n (j+1) hp1) fun hp2 h2=>⟨Nat.le_trans h1.1 h2.1,fun ρ w h=>?_⟩
   obtain ⟨ρ1,e1,e2⟩:=h1.2 ρ w h
   obtain ⟨ρ2,e3,e4⟩:=h2.2 ρ1 w e2
   exact ⟨ρ2,fun i hi=>(e3 i (Nat.lt_of_lt_of_le hi h1.1)).trans (e1 i hi),e4⟩
  ·exact zc6 n (j+1) hp
theorem zi7 {ks:List Nat} {hp:List (Option Blk)} : M.sat F ν (zlh ks hp) (fun hp'=>hp.length≤hp'.length∧∀ ρ w,HS E ν ρ hp w→∃ ρ':Nat→Loc,(∀ j,j<hp.length→ρ' j=ρ j)∧HS E ν ρ' hp' w):=by
 unfold zlh
 exact zae (fun _=>zab ⟨Nat.le_refl _,fun ρ w h=>⟨ρ,fun _ _=>rfl,h⟩⟩) (fun _=>zc6 _ _ _)
theorem HS.retell {ρ:Nat→Loc} {hp:List (Option Blk)} {w:World} {b:Nat} {bk bk':Blk} (h:HS E ν ρ hp w) (hb:nth hp b=some bk) (ho:bk'.own=bk.own) (hf:∀ w r,bk'.foot w r=bk.foot w r)
  (hr:∀ w r,bk'.rfoot w r=bk.rfoot w r) (hrel:BlkRel E ν ρ w (ρ b) bk'):HS E ν ρ (zat (some bk') hp b) w:=by
 have hbl:=za4 hb
 have at':∀ j x,nth (zat (some bk') hp b) j=some x→∃ y,nth hp j=some y∧x.own=y.own∧(∀ w r,x.foot w r=y.foot w r)∧(∀ w r,x.rfoot w r=y.rfoot w r)∧BlkRel E ν ρ w (ρ j) x:=fun j x hj=>by
  by_cases he:b=j
  ·subst he
   rw [zaq,if_pos hbl] at hj
   cases hj
   exact ⟨bk,hb,ho,hf,hr,hrel⟩
  ·rw [zau _ _ _ _ he] at hj
   exact ⟨x,hj,rfl,fun _ _=>rfl,fun _ _=>rfl,h.heap.blk j x hj⟩
 refine ⟨⟨fun j x hj=>(at' j x hj).choose_spec.2.2.2.2,fun j j' x x' hj hxo hj' hne hn hn' z hz=>?_⟩,fun j x hj=>?_,h.fr,by rw [zai];exact h.len,h.keep⟩
 ·obtain ⟨y,a1,a2,a3,a4,_⟩:=at' j x hj
  obtain ⟨y',b1,b2,b3,b4,_⟩:=at' j' x' hj'
  rw [a3] at hz
  rw [b4]
  exact h.heap.apart j j' y y' a1 (by rw [←a2];exact hxo) b1 hne hn hn' z hz
 ·obtain ⟨y,a1,a2,a3,a4,_⟩:=at' j x hj
  rw [a2,a3,a4]
  exact h.old j y a1
theorem zrw {k:Nat} : kb (k+1000)=k:=by
 have:zdr (k+1000)=true:=Nat.ble_eq_true_of_le (by omega)
 rw [zuc this];omega
theorem zrx {b:Nat} {hp:List (Option Blk)} : M.sat F ν (zuz b hp) (fun hp'=>hp'.length=hp.length∧∀ ρ w,HS E ν ρ hp w→HS E ν ρ hp' w):=by
 unfold zuz
 split
 ·rename_i o k a hb
  refine zae (fun _=>zac) (fun hk=>?_)
  have hk:zdr k=false:=by simpa using hk
  refine zaa (zag (Q:=fun q=>q.cells ν=[.b true,.l (a.cells ν)]) fun q h=>A.cells_of_den h) fun q hq=>zab ⟨zai _ _ _,fun ρ w h=>?_⟩
  have h1:=(zbi.plain hk).1 (h.heap.blk b _ hb)
  have ho:zdr (k+1000)=true:=Nat.ble_eq_true_of_le (by omega)
  refine h.retell hb rfl (fun w r=>?_) (fun w r=>?_) ⟨fun e=>(by rw [ho] at e;cases e),fun _=>?_⟩
  ·simp only [Blk.foot,zrw,zeg hk]
  ·simp only [Blk.rfoot,zrw,zeg hk]
  ·rw [zrw,hq]
   exact ⟨by rw [h1.1];rfl,fun _=>h1.2⟩
 ·exact zac
theorem zi8 {b:Nat} {hp:List (Option Blk)} : M.sat F ν (zlj b hp) (fun hp'=>hp'.length=hp.length∧∀ ρ w,HS E ν ρ hp w→HS E ν ρ hp' w):=by
 unfold zlj
 split
 ·rename_i o k a hb
  refine zae (fun hk=>?_) (fun _=>zac)
  simp only [Bool.and_eq_true,Bool.not_eq_true'] at hk
  obtain ⟨hk,hk2⟩:=hk
  refine zaa (zag (Q:=fun r=>r.bool ν=((a.cells ν).getD 0 default).toB) fun r h=>A.bool_of_den (by rw [h];simp [zbc])) fun r hr=>?_
  refine zaa (zbk (Q:=fun _=>((a.cells ν).getD 0 default).toB=true) fun h=>by rw [←hr];exact h) fun _ hg=>?_
  refine zaa (zag (Q:=fun q=>q.cells ν=((a.cells ν).getD 1 default).toL) fun q h=>A.cells_of_den (by rw [h];simp [zbc])) fun q hq=>zab ⟨zai _ _ _,fun ρ w h=>?_⟩
  have h1:zbi o k w (ρ b) (a.cells ν):=h.heap.blk b _ hb
  obtain ⟨h2,h3⟩:=h1.2 hk
  have hn:(ρ b).nil=false:=by
   rw [hg] at h2
   cases hx:(ρ b).nil with
   | false=>rfl
   | true=>rw [hx] at h2;cases h2
  have h3:=h3 hn
  have hkb:=zuc hk
  generalize k-1000=k' at hk2 hkb ⊢
  have hown:(Blk.obj o k' q).own=(Blk.obj o k a).own:=rfl
  refine h.retell hb hown (fun w r=>?_) (fun w r=>?_) ((zbi.plain hk2).2 ⟨hn,?_⟩)
  ·simp only [Blk.foot,hkb,zeg hk2]
  ·simp only [Blk.rfoot,hkb,zeg hk2]
  ·rw [hkb] at h3
   rw [hq];exact h3
 ·exact zac
theorem zaG {m:List Nat} : ∀ (l:List (Option Blk)) (j:Nat) (hp:List (Option Blk)),M.sat F ν (zcD m j l hp) (fun hp'=>hp'.length=hp.length∧∀ ρ w,HS E ν ρ hp w→HS E ν ρ hp' w)
 | [],j,hp=>zab ⟨rfl,fun _ _ h=>h⟩
 | none::l,j,hp=>zaG l (j+1) hp
 | some (.c _ _)::l,j,hp=>zaG l (j+1) hp
 | some (.v _ _ _)::l,j,hp=>zaG l (j+1) hp
 | some (.l _ _ _ _)::l,j,hp=>zaG l (j+1) hp
 | some (.m _ _ _ _)::l,j,hp=>zaG l (j+1) hp
 | some (.obj _ 0 _)::l,j,hp=>zaG l (j+1) hp
 | some (.obj _ 1 _)::l,j,hp=>zaG l (j+1) hp
 | some (.obj _ (k+2) _)::l,j,hp=>by
  unfold zcD
  split
  ·exact zaa (zi6 (E:=E)) fun hp1 h1=>zah (zaG l (j+1) hp1) fun hp2 h2=>⟨h2.1.trans h1.1,fun ρ w h=>h2.2 ρ w (h1.2 ρ w h)⟩
  ·exact zae (fun _=>zaa (zi8 (E:=E)) fun hp1 h1=>zah (zaG l (j+1) hp1) fun hp2 h2=>⟨h2.1.trans h1.1,fun ρ w h=>h2.2 ρ w (h1.2 ρ w h)⟩) (fun _=>zaG l (j+1) hp)
  ·exact zaG l (j+1) hp
theorem zi9 {K:Nat} (hS:SigsOK P I K S F) (hE:E.Ok K) {f:FuncId} {vs:List V} {hp:List (Option Blk)} : M.sat F ν (zlk P S f vs hp) (fun res=>∀ ρ w,(∀ v∈vs,V.good ν v)→HS E ν ρ hp w→I w →
  (callFunc f (vs.map (V.conc ν ρ)).toArray).run P w = .ok (.enter f (vs.map (V.conc ν ρ)).toArray) w∧zeh P E ν f vs hp ρ w res):=by
 unfold zlk
 refine zaa (R:=fun hp1=>hp1.length=hp.length∧∀ ρ w,HS E ν ρ hp w→HS E ν ρ hp1 w) ?_ fun hp1 h1=>?_
 ·split
  ·exact zae (fun _=>zaG _ _ _) (fun _=>zab ⟨rfl,fun _ _ h=>h⟩)
  ·exact zab ⟨rfl,fun _ _ h=>h⟩
 refine zaa (zkx hS hE) fun res hres=>?_
 split
 ·exact zab fun ρ w hvs hh hI=>hres ρ w hvs (h1.2 ρ w hh) hI
 ·rename_i v hp2
  refine zae (fun _=>zab fun ρ w hvs hh hI=>?_) (fun _=>zae (fun hv=>?_) (fun _=>zac))
  ·obtain ⟨e1,e2⟩:=hres ρ w hvs (h1.2 ρ w hh) hI
   refine ⟨e1,Calls.mono e2 fun e w' ⟨x,hx,ρ',a1,a2,a3⟩=>⟨x,hx,ρ',fun j hj=>a1 j (by rw [h1.1];exact hj),a2,a3⟩⟩
  ·refine zaa (zi7 (E:=E)) fun hp3 h3=>zab fun ρ w hvs hh hI=>?_
   obtain ⟨e1,e2⟩:=hres ρ w hvs (h1.2 ρ w hh) hI
   refine ⟨e1,Calls.mono e2 fun e w' ⟨x,hx,ρ',a1,a2,a3⟩=>?_⟩
   obtain ⟨ρ2,b1,b2⟩:=h3.2 ρ' w' a2
   simp only [Bool.and_eq_true] at hv
   have hle:hp1.length≤hp2.length:=Nat.le_of_ble_eq_true hv.2
   refine ⟨x,hx,ρ2,fun j hj=>(b1 j (by have:=h1.1;omega)).trans (a1 j (by rw [h1.1];exact hj)),b2,fun u hu=>⟨(a3 u hu).1,?_⟩⟩
   subst hu
   rw [(a3 u rfl).2]
   exact (V.conc_low hv.1 b1).symm
theorem zqg {ρ ρ':Nat→Loc} : ∀ {vs:List V} {l:List Lf} {us:List V},zml vs l=some us→l.map (Lf.conc ν ρ')=(vs.flatMap V.cells1).map (Lf.conc ν ρ)→(∀ x∈l,x.good ν) →
  us.map (V.conc ν ρ')=vs.map (V.conc ν ρ)∧∀ u∈us,V.good ν u:=by
 intro vs
 induction vs with
 | nil =>
  intro l us h _ _
  cases l with
  | nil=>cases h;exact ⟨rfl,fun u hu=>(by cases hu)⟩
  | cons x l=>cases h
 | cons v r ih =>
  intro l us h hc hg
  cases v with
  | t z=>cases l<;>cases h
  | s v =>
   cases v with
   | one y =>
    cases l with
    | nil=>cases h
    | cons x l =>
     simp only [zml,Option.map_eq_some_iff] at h
     obtain ⟨us',h1,rfl⟩:=h
     simp only [List.flatMap_cons,V.cells1,V1.cells,List.cons_append,List.nil_append,List.map_cons,List.cons.injEq] at hc
     obtain ⟨e1,e2⟩:=ih h1 hc.2 (fun z hz=>hg z (List.mem_cons_of_mem _ hz))
     refine ⟨?_,fun u hu=>?_⟩
     ·simp only [List.map_cons,e1]
      congr 1
      exact hc.1
     ·rcases List.mem_cons.1 hu with rfl | hu
      ·exact V1.good_one.2 (hg x (List.mem_cons_self ..))
      ·exact e2 u hu
   | agg ys =>
    have hr:zml (.s (.agg ys)::r) l=if Nat.ble ys.length l.length then (zml r (l.drop ys.length)).map (.s (.agg (l.take ys.length))::·) else none:=by
     cases l<;>rfl
    rw [hr] at h
    split at h
    ·rename_i hle
     have hle:=Nat.le_of_ble_eq_true hle
     simp only [Option.map_eq_some_iff] at h
     obtain ⟨us',h1,rfl⟩:=h
     simp only [List.flatMap_cons,V.cells1,V1.cells,List.map_append] at hc
     rw [←List.take_append_drop ys.length l,List.map_append] at hc
     obtain ⟨c1,c2⟩:=List.append_inj hc (by simp only [List.length_map,List.length_take];omega)
     obtain ⟨e1,e2⟩:=ih h1 c2 (fun z hz=>hg z (List.mem_of_mem_drop hz))
     refine ⟨?_,fun u hu=>?_⟩
     ·simp only [List.map_cons,e1]
      congr 1
      simp only [V.conc,V1.conc,c1]
     ·rcases List.mem_cons.1 hu with rfl | hu
      ·exact V1.good_agg.2 fun z hz=>hg z (List.mem_of_mem_take hz)
      ·exact e2 u hu
    ·cases h
theorem zod {K:Nat} (hS:SigsOK P I K S F) (hE:E.Ok K) {f:FuncId} {vs:List V} {hp:List (Option Blk)} : M.sat F ν (znG P S f vs hp) (fun res=>∀ ρ w,(∀ v∈vs,V.good ν v)→HS E ν ρ hp w→I w →
  (callFunc f (vs.map (V.conc ν ρ)).toArray).run P w = .ok (.enter f (vs.map (V.conc ν ρ)).toArray) w∧zeh P E ν f vs hp ρ w res):=by
 unfold znG
 dsimp only
 generalize (match S.get f with | some sg=>(sg.ins.flatMap V.cells1).map (ltOf sg.hin) | none=>[])=lts
 refine zae (fun _=>zae (fun hlt=>?_) (fun _=>zac)) (fun _=>zi9 hS hE)
 simp only [Bool.and_eq_true] at hlt
 refine zaa (zdw fun w=>zcp (E:=E) (w:=w) _ _ _) fun q hq=>?_
 refine zaa (zad (Q:=fun us=>zml vs q.1=some us) fun a h=>h) fun us hus=>?_
 refine zaa (zi9 hS hE) fun res hres=>?_
 have key:∀ ρ w,(∀ v∈vs,V.good ν v)→HS E ν ρ hp w→∃ ρ':Nat→Loc,hp.length≤q.2.length∧(∀ j,j<hp.length→ρ' j=ρ j)∧HS E ν ρ' q.2 w∧us.map (V.conc ν ρ')=vs.map (V.conc ν ρ)∧∀ u∈us,V.good ν u:=fun ρ w hv hh=>by
  obtain ⟨_,_,h3,h4,ρ',h5,h6,h7⟩:=hq w ρ hh hlt.1 hlt.2 (fun x hx=>by
   obtain ⟨v,hv1,hv2⟩:=List.mem_flatMap.1 hx
   have:=hv v hv1
   cases v with
   | s v=>exact this x hv2
   | t l=>cases hv2)
  obtain ⟨e1,e2⟩:=zqg hus h7 h3
  exact ⟨ρ',h4,h5,h6,e1,e2⟩
 split
 ·refine zae (fun hvl=>zab fun ρ w hv hh hI=>?_) (fun _=>zac)
  obtain ⟨ρ',h4,h5,h6,e1,e2⟩:=key ρ w hv hh
  obtain ⟨d1,d2⟩:=hres ρ' w e2 h6 hI
  simp only [zeh] at d2 ⊢
  rw [e1] at d1 d2
  rw [V.conc_low hvl h5] at d2
  exact ⟨d1,d2⟩
 ·refine zab fun ρ w hv hh hI=>?_
  obtain ⟨ρ',h4,h5,h6,e1,e2⟩:=key ρ w hv hh
  obtain ⟨d1,d2⟩:=hres ρ' w e2 h6 hI
  simp only [zeh] at d2 ⊢
  rw [e1] at d1 d2
  exact ⟨d1,Calls.mono d2 fun e w' ⟨x,hx,ρ2,a1,a2,a3⟩=>⟨x,hx,ρ2,fun j hj=>(a1 j (by omega)).trans (h5 j hj),a2,a3⟩⟩
theorem zkB {p v:V} : M.sat F ν (zpc p v) (fun u=>(V.good ν v→V.good ν u)∧∀ ρ,u.conc ν ρ=v.conc ν ρ):=by
 unfold zpc
 split
 ·rename_i b a l
  split
  ·rename_i x hx
   split
   ·rename_i q hq
    refine zaa (zag (Q:=fun r=>r.bool ν=(a.int ν==((x.1:Nat):Int))) fun r h=>A.bool_of_den h) fun r hr=>?_
    refine zaa (zbk (Q:=fun _=>a.int ν=((x.1:Nat):Int)) fun h=>by rw [hr] at h;simpa using h) fun _ ha=>zab ⟨fun _=>V1.good_one.2 trivial,fun ρ=>?_⟩
    have:(a.int ν).toNat=x.1:=by rw [ha];simp
    simp only [V.conc,V1.conc,Lf.conc,zbj,this,hq,Alt.conc,Off.val]
   ·exact zab ⟨id,fun _=>rfl⟩
  ·exact zab ⟨id,fun _=>rfl⟩
 ·exact zab ⟨id,fun _=>rfl⟩
theorem zja:∀ (ps vs:List V),M.sat F ν (zll ps vs) (fun us=>((∀ v∈vs,V.good ν v)→∀ u∈us,V.good ν u)∧∀ ρ,us.map (V.conc ν ρ)=vs.map (V.conc ν ρ))
 | [],vs=>zab ⟨id,fun _=>rfl⟩
 | _::_,[]=>zab ⟨id,fun _=>rfl⟩
 | p::ps,v::vs=>by
  unfold zll
  refine zaa zkB fun x hx=>zaa (zja ps vs) fun r hr=>zab ⟨fun hv u hu=>?_,fun ρ=>?_⟩
  ·rcases List.mem_cons.1 hu with rfl | hu
   ·exact hx.1 (hv v (List.mem_cons_self ..))
   ·exact hr.1 (fun y hy=>hv y (List.mem_cons_of_mem _ hy)) u hu
  ·simp only [List.map_cons,hx.2 ρ,hr.2 ρ]
theorem zfU {K:Nat} (hS:SigsOK P I K S F) (hE:E.Ok K) {f:FuncId} {vs:List V} {hp:List (Option Blk)} : M.sat F ν (zfH P S f vs hp) (fun res=>∀ ρ w,(∀ v∈vs,V.good ν v)→HS E ν ρ hp w→I w →
  (callFunc f (vs.map (V.conc ν ρ)).toArray).run P w = .ok (.enter f (vs.map (V.conc ν ρ)).toArray) w∧zeh P E ν f vs hp ρ w res):=by
 unfold zfH
 refine zaa (zja _ _) fun us hus=>zah (zod hS hE) fun res hres ρ w hv hh hI=>?_
 obtain ⟨h1,h2⟩:=hres ρ w (hus.1 hv) hh hI
 rw [hus.2 ρ] at h1
 refine ⟨h1,?_⟩
 cases res with
 | val v=>simp only [zeh,hus.2 ρ] at h2 ⊢;exact h2
 | hp v hp'=>simp only [zeh,hus.2 ρ] at h2 ⊢;exact h2
theorem zmN {t:TypeId} {name:String} {f:FuncId} (h:zc4 P t name=some f) (v:Value) (w:World):(method (P.types.size+Made.depth) t v name).run P w = .ok (f,v) w:=by
 unfold zc4 at h
 split at h
 ·rename_i i e hi hk
  split at h
  ·rename_i m hm
   split at h
   ·rename_i f' hp hf
    cases h
    have h2:=zhQ hk
    rw [show P.types.size+Made.depth=(P.types.size+99)+1 from rfl]
    unfold method
    simp [typeInfo,hi,hm,hp,hf,follow,receiverAt,underlying,h2,Place.get]
   ·cases h
  ·cases h
 ·cases h
theorem zqh (y:Value) (zs:Array Value):(#[y]++zs).extract 1 (#[y]++zs).size=zs∧(#[y]++zs)[0]? = some y:=by
 constructor
 ·apply Array.ext'
  simp only [Array.toList_extract,Array.toList_append,List.extract_eq_take_drop,Array.size_append,List.size_toArray,List.length_cons,List.length_nil]
  simp only [List.cons_append,List.nil_append,List.drop_succ_cons,List.drop_zero]
  exact List.take_of_length_le (by simp)
 ·rw [Array.getElem?_append_left (by simp)];rfl
theorem zkC {t:TypeId} {name:String} {f:FuncId} (h:zc4 P t name=some f) (v:Value) (args:Array Value) (w:World):(invoke (.fn (.method name) #[]) (#[.iface t v]++args)).run P w=(callFunc f (#[v]++args)).run P w:=by
 have h1:=zqh (.iface t v) args
 have h2:=zmN (P:=P) h v w
 simp only [invoke,h1.1,h1.2,callMethod]
 simp [h2]
theorem zaJ (w:World) (d:Nat) (t u:TypeId) (v:Value) {ms:Array (String×TypeId)} (h:P.underlying t=some (.interface ms)) :
  (Op.equalIn (d+1) t (.iface u v) .nilIface).run P w = .ok false w∧(Op.equalIn (d+1) t .nilIface .nilIface).run P w = .ok true w:=by
 constructor<;>simp [Op.equalIn,run_underlying h]
theorem zqi {op:BinOp} {t:TypeId} {l:Lf} {q:Bool} {y:Operand} (h:zpb P op t l=some q) (hy:zmk y=true) (ρ:Nat→Loc) (x:Operand) (w:World) (a:Act) :
  (eqGuard op t x y (l.conc ν ρ) (a.eval y)).run P w = .ok () w∧(binOp op t (l.conc ν ρ) (a.eval y)).run P w = .ok (.bool q) w:=by
 unfold zmk at hy
 split at hy
 ·have he:a.eval (.const .nilIface) = .nilIface:=rfl
  rw [he]
  unfold zpb at h
  split at h
  ·rename_i ms hu
   split at h
   ·cases h;exact ⟨by simp [eqGuard,Lf.conc],by simp [binOp,Op.equal,Op.maxDepth,Lf.conc,(zaJ w 9999 t _ _ hu).1,(zaJ w 9999 t 0 .nilIface hu).2]⟩
   ·cases h;exact ⟨by simp [eqGuard,Lf.conc],by simp [binOp,Op.equal,Op.maxDepth,Lf.conc,(zaJ w 9999 t _ _ hu).1,(zaJ w 9999 t 0 .nilIface hu).2]⟩
   ·cases h;exact ⟨by simp [eqGuard,Lf.conc],by simp [binOp,Op.equal,Op.maxDepth,Lf.conc,(zaJ w 9999 t _ _ hu).1,(zaJ w 9999 t 0 .nilIface hu).2]⟩
   ·cases h;exact ⟨by simp [eqGuard,Lf.conc],by simp [binOp,Op.equal,Op.maxDepth,Lf.conc,(zaJ w 9999 t _ _ hu).1,(zaJ w 9999 t 0 .nilIface hu).2]⟩
   ·cases h
  ·cases h
 ·cases hy
end
end Go.Sx
namespace Go.Sx
open Go.RowKit
section
variable {P:Program} {F:FEnv} {E:Env} {ν:Nat→DV}
theorem zgB {α:Type} (x y:α):∀ (l:List α) (n:Nat),zat x (zat y l n) n=zat x l n
 | [],n=>by cases n<;>rfl
 | _::_,0=>rfl
 | z::l,n+1=>by simp only [zat,zgB x y l n]
theorem zkD {hp:List (Option Blk)} {b:Nat} {r:Bool×Bool×List LT×A} (h:znL hp b=some r):nth hp b=some (.l r.1 r.2.1 r.2.2.1 r.2.2.2):=by
 unfold znL at h
 split at h
 ·rename_i hb
  cases h
  exact hb
 ·cases h
theorem HS.swap {ρ:Nat→Loc} {hp hp':List (Option Blk)} {w:World} (h:HS E ν ρ hp w) (hl:hp'.length=hp.length)
  (hs:∀ j x',nth hp' j=some x'→∃ x,nth hp j=some x∧BlkRel E ν ρ w (ρ j) x'∧(x'.own=true→x.own=true∧∀ b,x'.foot w (ρ j) b→x.foot w (ρ j) b)∧∀ b,x'.rfoot w (ρ j) b→x.rfoot w (ρ j) b):HS E ν ρ hp' w:=by
 refine ⟨⟨fun j x' hj=>(hs j x' hj).choose_spec.2.1,fun j j' x' y' hj ho hj' hne hn hn' b hf hf'=>?_⟩,fun j x' hj=>?_,h.fr,by rw [hl];exact h.len,h.keep⟩
 ·obtain ⟨x,e1,_,e2,_⟩:=hs j x' hj
  obtain ⟨y,f1,_,_,f2⟩:=hs j' y' hj'
  exact h.heap.apart j j' x y e1 (e2 ho).1 f1 hne hn hn' b ((e2 ho).2 b hf) (f2 b hf')
 ·obtain ⟨x,e1,_,e2,e3⟩:=hs j x' hj
  rcases h.old j x e1 with o | o
  ·exact .inl o
  ·exact .inr ⟨fun ho b hb=>o.wr (e2 ho).1 b ((e2 ho).2 b hb),fun b hb=>o.rd b (e3 b hb)⟩
theorem zbr (hp:List (Option Blk)) (b:Nat):(killSolid hp b).length=hp.length:=by
 unfold killSolid
 split
 ·split
  ·exact zai _ _ _
  ·rfl
 ·rfl
theorem zhS {hp:List (Option Blk)} {b:Nat} (h:hpLt hp=true):hpLt (killSolid hp b)=true:=by
 unfold killSolid
 split
 ·split
  ·exact zdC h
  ·exact h
 ·exact h
theorem HS.killSolid {ρ:Nat→Loc} {hp:List (Option Blk)} {w:World} (h:HS E ν ρ hp w) (b:Nat):HS E ν ρ (killSolid hp b) w:=by
 unfold Go.Sx.killSolid
 split
 ·split
  ·exact h.kill b
  ·exact h
 ·exact h
theorem zgC {hp:List (Option Blk)} {b j:Nat} {x:Blk} (h:nth (killSolid hp b) j=some x):nth hp j=some x∧(j=b→x.solid=false):=by
 unfold killSolid at h
 split at h
 ·rename_i y hy
  split at h
  ·obtain ⟨h1,h2⟩:=zaR h
   exact ⟨h2,fun e=>absurd e h1⟩
  ·rename_i hs
   refine ⟨h,fun e=>?_⟩
   subst e
   rw [hy] at h;cases h
   simpa using hs
 ·rename_i hy
  exact ⟨h,fun e=>by subst e;rw [hy] at h;cases h⟩
theorem HS.pushLog {ρ:Nat→Loc} {hp:List (Option Blk)} {w:World} (h:HS E ν ρ hp w) (hlt:hpLt hp=true) {b:Nat} {bk:Blk} (hbk:nth hp b=some bk) (hrf:∀ x,x=(ρ b).blk→bk.rfoot w (ρ b) x) {r:Loc} {o f:Bool} {ts:List LT} {q:A}
  (hnil:r.nil=false→(ρ b).nil=false∧r.blk=(ρ b).blk) (hrel:BlkRel E ν (ext ρ hp.length r) w r (.l o f ts q))
  (hfo:o=true→r.nil=false→∀ x,x=r.blk∧r.len<r.cap→bk.own=true∧bk.foot w (ρ b) x∧bk.solid=true):HS E ν (ext ρ hp.length r) (Go.Sx.killSolid hp b++[some (.l o f ts q)]) w:=by
 have hk:=(h.killSolid b).push (w':=w) (bk:=.l o f ts q) (r:=r) (zhS hlt) (Below.refl _ w) (by rw [zbr];exact hrel) (fun j b' hj hn hn'=>⟨fun ho x hx hx'=>?_,fun ho x hx hx'=>?_⟩) ?_
 ·rw [zbr] at hk;exact hk
 ·obtain ⟨h1,h2⟩:=zgC hj
  obtain ⟨g1,g2,g3⟩:=hfo ho hn x hx
  have hjb:j≠b:=fun e=>by
   have:=h2 e
   subst e
   rw [hbk] at h1;cases h1
   rw [g3] at this;cases this
  exact h.heap.apart b j bk b' hbk g1 h1 (Ne.symm hjb) (hnil hn).1 hn' x g2 hx'
 ·obtain ⟨h1,h2⟩:=zgC hj
  have hx':x=r.blk:=hx'
  by_cases hjb:j=b
  ·exact (h.heap.blk j b' h1).nofoot (h2 hjb) ho hx
  ·exact h.heap.apart j b b' bk h1 ho hbk hjb hn' (hnil hn).1 x hx (hrf x (hx'.trans (hnil hn).2))
 ·cases hn:r.nil with
  | true=>exact .inl rfl
  | false =>
   rcases h.old b bk hbk with g | g
   ·rw [(hnil hn).1] at g;cases g
   ·refine .inr ⟨fun ho x hx=>?_,fun x hx=>?_⟩
    ·obtain ⟨g1,g2,_⟩:=hfo ho hn x hx
     exact g.wr g1 x g2
    ·have hx:x=r.blk:=hx
     exact g.rd x (hrf x (hx.trans (hnil hn).2))
theorem zoe {t tx ty elem ex:TypeId} {w:World} {rb rc:Loc} {o o':Bool} {ts:List LT} {xb xc:List DV} {sz:Nat} (hk:tk P t=some (.slice elem)) (hkx:tk P tx=some (.slice ex)) (hs:zaM P elem=some sz) (c4:sz=ts.length)
  (hvb:VRel E w rb o ts xb) (hvc:VRel E w rc o' ts xc) (h0:rc.len=0):(Builtin.append_ #[t,tx] ty #[rb.slice,rc.slice]).run P w = .ok rb.slice w:=by
 obtain ⟨i,hi,hsz⟩:=zcJ hs
 have hsr:i.size=ts.length:=by rw [hsz];exact c4
 have hsrc:=zoa hkx hvc hsr
 have hun:xc.length=0:=by rw [hvc.len,h0,Nat.zero_mul]
 have hv0:zaU w rc xc.length=[]:=by rw [hun];rfl
 rw [hv0,h0] at hsrc
 have hcap:=hvb.cap
 cases hnil:rb.nil with
 | true =>
  have g0:=hvb.nil hnil
  have hlen:=hsrc.len w
  have hcel:=hsrc.cells
  unfold Loc.slice at hlen hcel ⊢
  rw [hnil,g0.1,g0.2]
  simp only [cond_true]
  cases rb.raw<;>simp [storeCells,Builtin.append_,run_underlying (za7 hk),run_underlying (za7 hkx),sizeOf,typeInfo,hi,hlen,hcel]
 | false =>
  have hrun:=run_append_room_src (P:=P) w t tx ty elem i (za7 hk) hi rb.blk rb.off rb.len rb.cap rc.slice 0 [] hsrc hcap (fun j hj=>by simp at hj) (fun j hj=>by simp at hj)
  simpa [Loc.slice,hnil,World.setCells] using hrun
theorem zlI {hp:List (Option Blk)} {t tx:TypeId} {s x:V} : M.sat F ν (zir P hp t tx s x) (fun z=>∀ ρ w ty,HS E ν ρ hp w →
  ∃ v w',(Builtin.append_ #[t,tx] ty #[s.conc ν ρ,x.conc ν ρ]).run P w = .ok v w'∧za8 E ν ρ hp v w' z):=by
 unfold zir
 refine zaa (zad (Q:=fun k=>tk P t=some k) fun a h=>h) fun k hk=>?_
 refine zaa (zad (Q:=fun k=>tk P tx=some k) fun a h=>h) fun kx hkx=>?_
 split
 ·rename_i elem ex b c
  refine zaa (zad (Q:=fun r=>znL hp b=some r) fun a h=>h) fun r hr=>?_
  refine zaa (zad (Q:=fun r=>zcY hp c=some r) fun a h=>h) fun u hu=>?_
  refine zaa (zad (Q:=fun z=>zeroCells P elem=some z) fun a h=>h) fun z hz=>?_
  refine zaa (zad (Q:=fun k=>zaM P elem=some k) fun a h=>h) fun sz hs=>?_
  refine zaa (zad (Q:=fun k=>zfn P elem=some k) fun a h=>h) fun by_ hby=>?_
  refine zae (fun hc=>?_) (fun _=>zac)
  obtain ⟨o,f,ts,a⟩:=r
  simp only [Bool.and_eq_true,Bool.not_eq_true'] at hc
  obtain ⟨⟨⟨⟨⟨c1,c2⟩,c3⟩,c4⟩,c5⟩,hlt⟩:=hc
  have c2:b≠c:=fun e=>by subst e;rw [Nat.beq_refl] at c2;cases c2
  have c3:=LTs.beq_eq c3
  have c4:=Nat.eq_of_beq_eq_true c4
  have c5:=Nat.eq_of_beq_eq_true c5
  subst c1
  have hbk:=zkD hr
  simp only at hbk c3 c4
  refine zaa (zag (Q:=fun q=>q.cells ν=a.cells ν++u.2.2.cells ν) fun q h=>A.cells_of_den h) fun q hq=>?_
  refine zaa (zag (Q:=fun n=>n.int ν=((q.cells ν).length/sz:Nat)) fun q h=>A.int_of_den h) fun n hn=>?_
  refine zaa zcd fun _ hle=>zab fun ρ w ty hw=>?_
  have hL:LRel E w (ρ b) true f ts (a.cells ν):=hw.heap.blk b _ hbk
  have hvc:=zdD hu hw
  rw [←c3] at hvc
  have hvb:=hL.row
  have hpos:=hvb.pos
  have hnn:(ρ b).len+(ρ c).len≤zep by_:=by
   have hqn:(q.cells ν).length=((ρ b).len+(ρ c).len)*ts.length:=by rw [hq,List.length_append,hvb.len,hvc.len,Nat.add_mul]
   rw [hn,hqn,c4,Nat.mul_div_cancel _ hpos] at hle
   exact Int.ofNat_le.1 hle
  show ∃ v w',(Builtin.append_ #[t,tx] ty #[(ρ b).slice,(ρ c).slice]).run P w = .ok v w'∧_
  rcases Nat.lt_or_ge (ρ b).cap ((ρ b).len+(ρ c).len) with hroom | hroom
  ·obtain ⟨w',r',hrun,g1,g2,g3,g4⟩:=zi2 (ty:=ty) hk hkx hz hs hby c4 c5 hvb hvc hnn hroom
   rw [←hq] at g4
   refine ⟨_,w',hrun,za8.mk (r:=r') (zbr _ _) rfl ?_⟩
   have hk1:=(hw.killSolid b).freshO (w':=w') (bk:=.l true false ts q) (r:=r') (zhS hlt) g3
    (⟨⟨g4.nil,g4.lt,g4.pos,g4.len,g4.cap,g4.cell,fun e=>(by cases e),fun e=>by cases e⟩,fun _ _=>g4,fun e=>by cases e⟩:LRel E w' r' true false ts (q.cells ν))
    (.inr fun x hx=>by have hx:x=r'.blk:=hx;rw [hx,g2];exact Nat.le_refl _)
   rw [zbr] at hk1
   exact hk1
  ·rcases Nat.eq_zero_or_pos (ρ c).len with h0 | h0
   ·refine ⟨_,w,zoe hk hkx hs c4 hvb hvc h0,za8.mk (r:=ρ b) (zbr _ _) rfl ?_⟩
    have hq0:q.cells ν=a.cells ν:=by
     have:(u.2.2.cells ν).length=0:=by rw [hvc.len,h0,Nat.zero_mul]
     rw [hq,List.eq_nil_of_length_eq_zero this,List.append_nil]
    refine hw.pushLog hlt hbk (fun x hx=>hx) (fun h=>⟨h,rfl⟩) (?_:LRel E w (ρ b) true false ts (q.cells ν)) fun _ _ x hx=>⟨rfl,hx,?_⟩
    ·rw [hq0]
     exact ⟨hvb,hL.spare,fun e=>by cases e⟩
    ·cases f with
     | false=>rfl
     | true=>have:=hL.full rfl;omega
   ·have hcap:(ρ b).len<(ρ b).cap:=by omega
    have hf:f=false:=by
     cases f with
     | false=>rfl
     | true=>have:=hL.full rfl;omega
    subst hf
    have hv1:=hL.spare rfl hcap
    have hnb:b<hp.length:=za4 hbk
    -- as a row of its own
    have hA:HS E ν ρ (zat (some (.v true ts a)) hp b) w:=by
     refine hw.swap (zai _ _ _) fun j x' hj=>?_
     by_cases hjb:b=j
     ·subst hjb
      rw [zaq,if_pos hnb] at hj
      cases hj
      exact ⟨_,hbk,hv1,fun _=>⟨rfl,fun x hx=>⟨hx,hcap⟩⟩,fun x hx=>hx⟩
     ·rw [zau _ _ _ _ hjb] at hj
      exact ⟨x',hj,hw.heap.blk j x' hj,fun ho=>⟨ho,fun _ h=>h⟩,fun _ h=>h⟩
    have hrA:zkb (zat (some (.v true ts a)) hp b) b=some (true,ts,a):=by
     unfold zkb
     rw [zaq,if_pos hnb]
    have huA:zcY (zat (some (.v true ts a)) hp b) c=some u:=by
     unfold zcY at hu ⊢
     rw [zau _ _ _ _ c2]
     exact hu
    have hltA:hpLt (zat (some (.v true ts a)) hp b)=true:=by
     unfold hpLt
     rw [zai]
     refine all_of_nth' fun j x hj=>?_
     by_cases hjb:b=j
     ·subst hjb
      rw [zaq,if_pos hnb] at hj
      cases hj
      rfl
     ·rw [zau _ _ _ _ hjb] at hj
      exact zam hlt hj
    obtain ⟨v,w',hrun,hnew⟩:=zi3 (q:=q) (n:=n) hk hkx hrA huA hz hs hby rfl c3 c4 c5 hltA hq hn hle ρ w ty hA
    refine ⟨v,w',hrun,?_⟩
    obtain ⟨g1,ρ',g2,g3,g4⟩:=hnew
    rw [zai] at g1 g2 g4
    refine ⟨g1,ρ',g2,?_,g4⟩
    have hks:killSolid hp b=zat none hp b:=by
     unfold killSolid
     rw [hbk]
     rfl
    rw [hks]
    have hss:zat none (zat (some (.v true ts a)) hp b) b=zat none hp b:=zgB _ _ _ _
    rw [hss] at g3
    refine g3.swap (by simp) fun j x' hj=>?_
    rw [zaL] at hj
    split at hj
    ·rename_i hjl
     have:nth (zat none hp b++[some (.v true ts q)]) j=some x':=by rw [zaL,if_pos hjl];exact hj
     exact ⟨x',this,g3.heap.blk j x' this,fun ho=>⟨ho,fun _ h=>h⟩,fun _ h=>h⟩
    ·rename_i hjl
     have e0:j-(zat none hp b).length=0:=by
      cases hd:j-(zat none hp b).length with
      | zero=>rfl
      | succ k=>rw [hd] at hj;cases k<;>cases hj
     rw [e0] at hj
     cases hj
     have:nth (zat none hp b++[some (.v true ts q)]) j=some (.v true ts q):=by rw [zaL,if_neg hjl,e0];rfl
     have hv:=g3.heap.blk j _ this
     exact ⟨_,this,⟨⟨VRel.nil hv,VRel.lt hv,VRel.pos hv,VRel.len hv,VRel.cap hv,VRel.cell hv,fun e=>(by cases e),fun e=>by cases e⟩,fun _ _=>hv,fun e=>by cases e⟩,fun _=>⟨rfl,fun x hx=>hx.1⟩,fun x hx=>hx⟩
 ·exact zac
theorem zmO {hp:List (Option Blk)} {t:TypeId} {x:V} {low:Option Lf} : M.sat F ν (zln P hp t x low) (fun z=>∀ ρ w,HS E ν ρ hp w →
  ∃ v w',(Instr.sliceAt t (x.conc ν ρ) (low.map (Lf.conc ν ρ)) none none).run P w = .ok v w'∧za8 E ν ρ hp v w' z):=by
 unfold zln
 refine zaa (zad (Q:=fun k=>tk P t=some k) fun a h=>h) fun k hk=>?_
 split
 ·rename_i elem b
  refine zaa (zad (Q:=fun k=>zaM P elem=some k) fun a h=>h) fun sz hs=>?_
  refine zaa (zad (Q:=fun r=>znL hp b=some r) fun a h=>h) fun r hr=>?_
  refine zae (fun hc=>?_) (fun _=>zac)
  obtain ⟨o,f,ts,a⟩:=r
  simp only [Bool.and_eq_true] at hc
  have h1:=Nat.eq_of_beq_eq_true hc.1
  have hlt:=hc.2
  subst h1
  have hbk:=zkD hr
  simp only at hbk
  by_cases hd:(a.cells ν).length%ts.length=0
  ·refine zaa (zfS hd) fun q ⟨h,k1,k2,k3,k4⟩=>zaa (zhi k2) fun q2 ⟨l,m1,m2,m3⟩=>zab fun ρ w hw=>?_
   have hL:LRel E w (ρ b) o f ts (a.cells ν):=hw.heap.blk b _ hbk
   have hv:=hL.row
   rw [hv.elems] at k1 k4
   have k4:=k4 ρ
   have hh:h=(ρ b).len:=by
    rcases k4 with ⟨_,e⟩ | ⟨_,e⟩
    ·exact e
    ·cases e
   have hrun:=zgz (P:=P) (za7 hk) hs (r:=ρ b) (m3 ρ) k4 m1 k1 hv.cap w
   have hv2:=hv.cut m1 k1 (x:=if (ρ b).cap=l then (ρ b).raw else (ρ b).raw.map fun x:Addr=>x.add (l*ts.length))
   rw [←k3,←m2] at hv2
   refine ⟨_,w,hrun,za8.mk (zbr _ _) rfl ?_⟩
   refine hw.pushLog hlt hbk (fun x hx=>hx) (fun e=>⟨e,rfl⟩) (⟨hv2,fun ho hcl=>?_,fun hf=>?_⟩:LRel E w _ o f ts (q2.cells ν)) fun ho hn x hx=>?_
   ·have hcl:h-l<(ρ b).cap-l:=hcl
    have hv3:=(hL.spare ho (by omega)).cut m1 k1 (x:=if (ρ b).cap=l then (ρ b).raw else (ρ b).raw.map fun x:Addr=>x.add (l*ts.length))
    rw [←k3,←m2] at hv3
    exact hv3
   ·have:=hL.full hf
    show (ρ b).cap-l=h-l
    omega
   ·have hcl:h-l<(ρ b).cap-l:=hx.2
    refine ⟨ho,⟨hx.1,by omega⟩,?_⟩
    show (o&&!f)=true
    cases f with
    | false=>rw [show o=true from ho];rfl
    | true=>have:=hL.full rfl;omega
  ·refine zaa zap fun q _=>zaa zap fun q2 _=>zab fun ρ w hw=>?_
   have hv:=LRel.row (hw.heap.blk b _ hbk)
   exact absurd (by rw [hv.len];exact Nat.mul_mod_left _ _) hd
 ·exact zac
theorem zkd {t:TypeId} {e sz:Nat} (ht:P.underlying t=some (.slice e)) (hs:zaM P e=some sz) {r:Loc} {k k':IntKind} {h:Nat} (h2:h≤r.len) (h3:r.len≤r.cap) (w:World) :
  (Instr.sliceAt t r.slice none (some (.int k h)) (some (.int k' h))).run P w = .ok (Loc.slice ⟨r.blk,r.off,r.nil,h,h,r.raw⟩) w:=by
 have hb:(Instr.sliceBounds true r.len r.cap none (some (.int k h)) (some (.int k' h))).run P w = .ok (0,h,h) w:=by
  simp [Instr.sliceBounds,Instr.sliceBound,asIntOf,Int.ofNat_le,Nat.le_trans h2 h3]
 simp only [Instr.sliceAt,Instr.slice,Loc.slice,Sem.run_bind,run_underlying ht,Result.andThen_ok,hb,za6 hs,Sem.run_pure,Nat.sub_zero,Nat.zero_mul]
 congr 2
 split
 ·rfl
 ·cases r.nil with
  | false=>simp [Addr.add]
  | true=>cases r.raw<;>simp [Addr.add]
theorem zmP {hp:List (Option Blk)} {t:TypeId} {x:V} {high max:Lf} : M.sat F ν (zlo P hp t x high max) (fun z=>∀ ρ w,HS E ν ρ hp w →
  ∃ v w',(Instr.sliceAt t (x.conc ν ρ) none (some (high.conc ν ρ)) (some (max.conc ν ρ))).run P w = .ok v w'∧za8 E ν ρ hp v w' z):=by
 unfold zlo
 refine zaa (zad (Q:=fun k=>tk P t=some k) fun a h=>h) fun k hk=>?_
 split
 ·rename_i elem b kh h km m
  refine zaa (zad (Q:=fun k=>zaM P elem=some k) fun a h=>h) fun sz hs=>?_
  refine zaa (zad (Q:=fun r=>zcY hp b=some r) fun a h=>h) fun r hr=>?_
  refine zae (fun hc=>?_) (fun _=>zac)
  simp only [Bool.and_eq_true] at hc
  have h1:=Nat.eq_of_beq_eq_true hc.1
  have hlt:=hc.2
  subst h1
  refine zaa zbF fun _ h0=>?_
  refine zaa (zag (Q:=fun e=>e.bool ν=(h.int ν==m.int ν)) fun q h=>A.bool_of_den h) fun e he=>?_
  refine zaa (zbk (Q:=fun _=>h.int ν=m.int ν) fun hb=>by rw [he] at hb;simpa using hb) fun _ hm=>?_
  refine zaa (zag (Q:=fun n=>n.int ν=((r.2.2.cells ν).length/r.2.1.length:Nat)) fun q h=>A.int_of_den h) fun n hn=>?_
  refine zaa zcd fun _ hle=>?_
  refine zaa (zag (Q:=fun q=>q.cells ν=(r.2.2.cells ν).take ((h.int ν).toNat*r.2.1.length)) fun q h=>A.cells_of_den h) fun q hq=>zab fun ρ w hw=>?_
  have hv0:=zdD hr hw
  have hv:VRel E w (ρ b) false r.2.1 (r.2.2.cells ν):=⟨hv0.nil,hv0.lt,hv0.pos,hv0.len,hv0.cap,hv0.cell,fun e=>(by cases e),fun e=>by cases e⟩
  rw [hv.elems] at hn
  obtain ⟨n0,hn0⟩:∃ n0:Nat,h.int ν=n0:=⟨(h.int ν).toNat,by omega⟩
  have hle2:n0≤(ρ b).len:=by omega
  have hrun:=zkd (P:=P) (za7 hk) hs (r:=ρ b) (k:=kh) (k':=km) hle2 hv.cap w
  refine ⟨_,w,(by simpa [V.conc,V1.conc,Lf.conc,←hm,hn0] using hrun),za8.mk (zbr _ _) rfl ?_⟩
  have hv2:=hv.cut (Nat.zero_le n0) hle2 (x:=(ρ b).raw)
  simp only [Nat.zero_mul,List.drop_zero,Nat.sub_zero] at hv2
  have hqe:q.cells ν=(r.2.2.cells ν).take (n0*r.2.1.length):=by rw [hq,hn0];rfl
  rw [←hqe] at hv2
  have hv3:VRel E w ⟨(ρ b).blk,(ρ b).off,(ρ b).nil,n0,n0,(ρ b).raw⟩ false r.2.1 (q.cells ν) :=
   ⟨fun e=>by have:=hv.nil e;exact ⟨by show n0=0;omega,by show n0=0;omega⟩,hv.lt,hv.pos,hv2.len,Nat.le_refl _,fun i hi=>by
    obtain ⟨v,e1,e2⟩:=hv2.cell i hi
    refine ⟨v,?_,e2⟩
    rw [←e1]
    show w.cell? ⟨(ρ b).blk,(ρ b).off+i,none⟩=w.cell? ⟨(ρ b).blk,(if (ρ b).cap=0 then (ρ b).off else (ρ b).off+0)+i,none⟩
    congr 2
    split<;>rfl,fun e=>(by cases e),fun e=>by cases e⟩
  obtain ⟨bk,hbk,hrf⟩:∃ bk,nth hp b=some bk∧∀ x,x=(ρ b).blk→bk.rfoot w (ρ b) x:=by
   rcases zru hr with ⟨o,e,_⟩ | ⟨o,f,e⟩
   ·exact ⟨_,e,fun x hx=>hx⟩
   ·exact ⟨_,e,fun x hx=>hx⟩
  exact hw.pushLog hlt hbk hrf (fun e=>⟨e,rfl⟩) (⟨hv3,fun _ hcl=>absurd hcl (Nat.lt_irrefl _),fun _=>rfl⟩:LRel E w _ true true r.2.1 (q.cells ν)) fun _ _ x hx=>absurd hx.2 (Nat.lt_irrefl _)
 ·exact zac
theorem zmQ {hp:List (Option Blk)} {t:TypeId} {x:V} {low high max:Option Lf} : M.sat F ν (zlp P hp t x low high max) (fun z=>∀ ρ w,HS E ν ρ hp w →
  ∃ v w',(Instr.sliceAt t (x.conc ν ρ) (low.map (Lf.conc ν ρ)) (high.map (Lf.conc ν ρ)) (max.map (Lf.conc ν ρ))).run P w = .ok v w'∧za8 E ν ρ hp v w' z):=by
 unfold zlp
 split
 ·split
  ·exact zmP
  ·exact zac
 ·refine zae (fun _=>?_) (fun _=>zn9)
  split
  ·exact zmO
  ·exact zac
theorem zlJ {hp:List (Option Blk)} {t tx:TypeId} {s x:V} :
  M.sat F ν (zis P hp t tx s x) (fun z=>∀ ρ w ty,HS E ν ρ hp w→∃ v w',(Builtin.append_ #[t,tx] ty #[s.conc ν ρ,x.conc ν ρ]).run P w = .ok v w'∧za8 E ν ρ hp v w' z):=by
 unfold zis
 exact zae (fun _=>zah zlI fun z h ρ w ty hw=>h ρ w ty hw) (fun _=>zlE)
end
end Go.Sx
namespace Go.Sx
open Go.RowKit
section
variable {P:Program} {I:World→Prop} {S:Sigs} {F:FEnv} {E:Env} {ν:Nat→DV}
theorem zcR {c:A} : ∀ (ts:List Ty) (as bs:List A),M.sat F ν (zdN c ts as bs) (fun r=>(c.bool ν=true→PEq ν ν ts as r)∧(c.bool ν=false→PEq ν ν ts bs r))
 | .i::ts,a::l,b::l'=>by
  unfold zdN
  refine zaa zcb fun x hx=>zaa (zcR ts l l') fun r hr=>zab ⟨fun h=>⟨?_,hr.1 h⟩,fun h=>⟨?_,hr.2 h⟩⟩
  ·show a.int ν=x.int ν
   rw [hx,h];rfl
  ·show b.int ν=x.int ν
   rw [hx,h];rfl
 | .b::ts,a::l,b::l'=>by
  unfold zdN
  refine zaa ze6 fun x hx=>zaa (zcR ts l l') fun r hr=>zab ⟨fun h=>⟨?_,hr.1 h⟩,fun h=>⟨?_,hr.2 h⟩⟩
  ·show a.bool ν=x.bool ν
   rw [hx,h];rfl
  ·show b.bool ν=x.bool ν
   rw [hx,h];rfl
 | .l::ts,a::l,b::l'=>by
  unfold zdN
  refine zaa zpZ fun x hx=>zaa (zcR ts l l') fun r hr=>zab ⟨fun h=>⟨?_,hr.1 h⟩,fun h=>⟨?_,hr.2 h⟩⟩
  ·show a.cells ν=x.cells ν
   rw [hx,h];rfl
  ·show b.cells ν=x.cells ν
   rw [hx,h];rfl
 | [],[],[]=>zab ⟨fun _=>trivial,fun _=>trivial⟩
 | [],[],_::_=>zac
 | [],_::_,_=>zac
 | .i::_,[],_=>zac
 | .i::_,_::_,[]=>zac
 | .b::_,[],_=>zac
 | .b::_,_::_,[]=>zac
 | .l::_,[],_=>zac
 | .l::_,_::_,[]=>zac
theorem zkE {m:List Nat} {n k:Nat} (h:zg5 m n=true) (hk:k≤n):zg5 m k=true:=by
 have:=zdA h
 induction k with
 | zero=>rfl
 | succ k ih=>simp only [zg5,Bool.and_eq_true];exact ⟨ih (by omega),by rw [this k (by omega)];exact Nat.beq_refl _⟩
theorem zc7 {n0:Nat} (hn:E.n0≤n0) {c:A} {x y:St} : M.sat F ν (zfD n0 c x y) (fun s=>∀ ρ a w,(c.bool ν=true→RR ν E ρ ⟨x,[]⟩ a w→∃ ρ',(∀ j,j<n0→ρ' j=ρ j)∧RR ν E ρ' ⟨s,[]⟩ a w) ∧
  (c.bool ν=false→RR ν E ρ ⟨y,[]⟩ a w→∃ ρ',(∀ j,j<n0→ρ' j=ρ j)∧RR ν E ρ' ⟨s,[]⟩ a w)):=by
 unfold zfD
 dsimp only
 generalize zqY x y=p
 generalize zdM p.tys.length p.st x=gx
 generalize zdM p.tys.length p.st y=gy
 refine zae (fun hc=>?_) (fun _=>zac)
 simp only [Bool.and_eq_true] at hc
 obtain ⟨⟨⟨⟨⟨h1,h2⟩,h3⟩,h4⟩,h5⟩,h6⟩:=hc
 have h6:=Nat.le_of_ble_eq_true h6
 refine zaa (zcR _ _ _) fun ops hops=>zab fun ρ a w=>⟨fun hb h=>?_,fun hb h=>?_⟩
 ·exact ⟨fun j=>ρ (rnm gx.2 j),fun j hj=>congrArg ρ (zdA h4 j hj),RR.inst (fun _ _=>rfl) (hops.1 hb) h1 (h.sub h2 (zkE h4 hn) (by simp only [St.inst,List.length_map];omega))⟩
 ·exact ⟨fun j=>ρ (rnm gy.2 j),fun j hj=>congrArg ρ (zdA h5 j hj),RR.inst (fun _ _=>rfl) (hops.2 hb) h1 (h.sub h3 (zkE h5 hn) (by simp only [St.inst,List.length_map];omega))⟩
def zkF (v:Value):Act:={ tmps:=#[v],defers:=[] }
theorem zqj {n0:Nat} (hn:E.n0≤n0) {c:A} {x y:V×List (Option Blk)} : M.sat F ν (zq8 n0 c x y) (fun z =>
  (c.bool ν=true→∀ ρ w,HS E ν ρ x.2 w→x.1.good ν→∃ ρ',(∀ j,j<n0→ρ' j=ρ j)∧HS E ν ρ' z.2 w∧z.1.good ν∧z.1.conc ν ρ'=x.1.conc ν ρ) ∧
  (c.bool ν=false→∀ ρ w,HS E ν ρ y.2 w→y.1.good ν→∃ ρ',(∀ j,j<n0→ρ' j=ρ j)∧HS E ν ρ' z.2 w∧z.1.good ν∧z.1.conc ν ρ'=y.1.conc ν ρ)):=by
 unfold zq8
 refine zaa (zc7 (E:=E) hn) fun s hs=>?_
 obtain ⟨sl,hp⟩:=s
 split
 ·rename_i v hv
  simp only at hv
  subst hv
  have one:∀ (u:V) (h:List (Option Blk)) (ρ:Nat→Loc) (w:World),HS E ν ρ h w→u.good ν→RR ν E ρ ⟨⟨[some u],h⟩,[]⟩ (zkF (u.conc ν ρ)) w:=fun u h ρ w hw hg =>
   ⟨⟨rfl,rfl,fun t v ht=>(by
    cases t with
    | zero=>cases ht;exact ⟨hg,rfl⟩
    | succ t=>cases t<;>cases ht),fun e he=>by cases he⟩,hw⟩
  have back:∀ (u:Value) (ρ':Nat→Loc) (w:World),RR ν E ρ' ⟨⟨[some v],hp⟩,[]⟩ (zkF u) w→HS E ν ρ' hp w∧v.good ν∧v.conc ν ρ'=u:=fun u ρ' w h=>by
   obtain ⟨h1,h2⟩:=h.act.slot 0 v rfl
   refine ⟨h.hs,h1,?_⟩
   have:(zkF u).tmps[0]? = some u:=rfl
   rw [this] at h2
   exact (Option.some.inj h2).symm
  refine zab ⟨fun hc ρ w hw hg=>?_,fun hc ρ w hw hg=>?_⟩
  ·obtain ⟨ρ',h1,h2⟩:=(hs ρ _ w).1 hc (one _ _ ρ w hw hg)
   exact ⟨ρ',h1,back _ _ _ h2⟩
  ·obtain ⟨ρ',h1,h2⟩:=(hs ρ _ w).2 hc (one _ _ ρ w hw hg)
   exact ⟨ρ',h1,back _ _ _ h2⟩
 ·exact zac
theorem zmR {a:A} {q:Nat} (h0:0≤a.int ν):∀ (l:List (Nat×Alt)),M.sat F ν (zq3 a q l) (fun r=>∀ x,zaN l (a.int ν).toNat=some x→∃ n,x = .p q n∧r.int ν=(n:Int)∧n<zhy l)
 | []=>zac
 | [x]=>by
  unfold zq3
  split
  ·rename_i q' n hx
   refine zae (fun hq=>zab fun y hy=>?_) (fun _=>zac)
   simp only [zaN] at hy
   split at hy
   ·cases hy
    rw [←Nat.eq_of_beq_eq_true hq] at hx
    exact ⟨n,hx,rfl,by simp only [zhy,hx];omega⟩
   ·cases hy
  ·exact zac
 | x::y::l=>by
  unfold zq3
  split
  ·rename_i q' n hx
   refine zae (fun hq=>?_) (fun _=>zac)
   refine zaa (zag (Q:=fun c=>c.bool ν=(a.int ν==((x.1:Nat):Int))) fun c h=>A.bool_of_den h) fun c hc=>zaa (zmR h0 (y::l)) fun r hr=>zah zcb fun z hz u hu=>?_
   rw [zky h0] at hc
   rw [zaN] at hu
   split at hu
   ·rename_i he
    cases hu
    rw [←Nat.eq_of_beq_eq_true hq] at hx
    have he:=Nat.eq_of_beq_eq_true he
    refine ⟨n,hx,?_,?_⟩
    ·rw [hz,hc,←he];simp
    ·rw [zhy,hx];simp only;omega
   ·rename_i he
    obtain ⟨m,h1,h2,h3⟩:=hr u hu
    refine ⟨m,h1,?_,?_⟩
    ·rw [hz,hc]
     have:(a.int ν).toNat≠x.1:=fun e=>he (by rw [e];exact Nat.beq_refl _)
     simp [this,h2]
    ·rw [zhy,hx];simp only;omega
  ·exact zac
theorem zhT {p:Nat×Alt→Bool} : ∀ {l:List (Nat×Alt)} {k:Nat} {x:Alt},zaN l k=some x→(∀ y,(k,y)∈l→p (k,y)=true)→zaN (l.filter p) k=some x
 | [],_,_,h,_=>by simp [zaN] at h
 | y::l,k,x,h,hp=>by
  simp only [zaN] at h
  split at h
  ·rename_i he
   cases h
   have he:=Nat.eq_of_beq_eq_true he
   have:p y=true:=by
    have:=hp y.2 (by rw [←he];exact List.mem_cons_self)
    rw [←he] at this;exact this
   rw [List.filter_cons,if_pos this]
   simp only [zaN,he,Nat.beq_refl,if_true]
  ·rename_i he
   have ih:=zhT (l:=l) h (fun y hy=>hp y (List.mem_cons_of_mem _ hy))
   rw [List.filter_cons]
   split
   ·simp only [zaN]
    rw [if_neg he];exact ih
   ·exact ih
theorem zkG {iface:Bool} {l:List (Nat×Alt)} (hok:zdP iface (zaF l) l=true) {k:Nat} {x:Alt} (hx:zaN l k=some x) (hk:k≠zaF l):zaN (l.filter fun x=>!x.2.isNil) k=some x:=by
 refine zhT hx fun y hy=>?_
 have:=List.all_eq_true.1 hok _ hy
 simp only at this
 cases y<;>cases iface<;>first | rfl | (simp only at this;cases this;done) | exact absurd (Nat.eq_of_beq_eq_true this) hk
theorem zmS {a:A} {l:List (Nat×Alt)} (hg:(Lf.alt a l).good ν):M.sat F ν (zle a l) (fun r=>r.good ν∧∀ ρ,r.conc ν ρ=(Lf.alt a l).conc ν ρ∧∃ ad,r.conc ν ρ = .pointer (some ad)):=by
 unfold zle
 refine zae (fun hok=>?_) (fun _=>zac)
 obtain ⟨h0,h1⟩:=hg
 obtain ⟨y,hy⟩:=Option.isSome_iff_exists.1 h1
 refine zaa (zag (Q:=fun c=>c.bool ν=(a.int ν != ((zaF l:Nat):Int))) fun c h=>A.bool_of_den h) fun c hc=>?_
 refine zaa (zbk (Q:=fun _=>(a.int ν).toNat≠zaF l) fun h=>by
  rw [hc,bne,zky h0] at h
  simpa using h) fun _ hne=>?_
 have hy2:=zkG hok hy hne
 split
 ·exact zac
 ·rename_i x r hfl
  rw [hfl] at hy2
  split
  ·rename_i q n hx
   refine zaa (zmR h0 _) fun ix hix=>zab ?_
   obtain ⟨m,e1,e2,e3⟩:=hix y hy2
   refine ⟨⟨by rw [e2];exact Int.natCast_nonneg _,by rw [e2];exact Int.ofNat_lt.2 e3⟩,fun ρ=>?_⟩
   have hcc:(Lf.p q (.s 0 ix 1 (zhy (x::r)))).conc ν ρ = .pointer (some ⟨(ρ q).blk,(ρ q).off+m,none⟩):=by
    simp only [Lf.conc,Off.val,e2,Int.toNat_natCast,Nat.zero_add,Nat.mul_one]
   refine ⟨?_,_,hcc⟩
   rw [hcc]
   simp only [Lf.conc,zbj,hy,e1,Alt.conc]
  ·exact zac
theorem ztq {hp:List (Option Blk)} {f:FuncId} {vs:List V} {z:OR} : M.sat F ν (orOf hp z) (fun r=>∀ ρ w,HS E ν ρ hp w→zeh P E ν f vs hp ρ w z→zeh P E ν f vs hp ρ w (.hp (some r.1) r.2)):=by
 unfold orOf
 split
 ·rename_i v
  refine zab fun ρ w hw h=>?_
  obtain ⟨h1,h2⟩:=h
  exact h2.mono fun e w' ⟨he,hb⟩=>⟨_,he,ρ,fun _ _=>rfl,hw.of_below hb,fun u hu=>by cases hu;exact ⟨h1,rfl⟩⟩
 ·exact zab fun ρ w _ h=>h
 ·exact zac
theorem zhU {K:Nat} (hS:SigsOK P I K S F) (hE:E.Ok K) {name:String} {vs:List V} {hp:List (Option Blk)} {a:A} (hlen:E.n0≤hp.length) (h0:0≤a.int ν):∀ (l:List (Nat×Alt)),M.sat F ν (zgf P S name vs hp a l) (fun z =>
  ∀ t b,zaN l (a.int ν).toNat=some (.ifp t b)→∃ f,zc4 P t name=some f∧∀ ρ w,(∀ v∈vs,V.good ν v)→HS E ν ρ hp w→I w →
   (callFunc f ((V.s (.one (.p b (.c 0)))::vs).map (V.conc ν ρ)).toArray).run P w = .ok (.enter f ((V.s (.one (.p b (.c 0)))::vs).map (V.conc ν ρ)).toArray) w ∧
   zeh P E ν f (V.s (.one (.p b (.c 0)))::vs) hp ρ w (.hp (some z.1) z.2))
 | []=>zac
 | x::l=>by
  unfold zgf
  split
  ·rename_i t b hx
   refine zaa (zad (Q:=fun f=>zc4 P t name=some f) fun a h=>h) fun f hf=>?_
   have hgood:(∀ v∈vs,V.good ν v)→∀ v∈V.s (.one (.p b (.c 0)))::vs,V.good ν v:=fun h v hv=>by
    rcases List.mem_cons.1 hv with rfl | hv
    ·exact V.good_s.2 (V1.good_one.2 trivial)
    ·exact h v hv
   have hone:M.sat F ν (do orOf hp (←zfH P S f (.s (.one (.p b (.c 0)))::vs) hp):M (V×List (Option Blk))) (fun z=>∀ ρ w,(∀ v∈vs,V.good ν v)→HS E ν ρ hp w→I w →
     (callFunc f ((V.s (.one (.p b (.c 0)))::vs).map (V.conc ν ρ)).toArray).run P w = .ok (.enter f ((V.s (.one (.p b (.c 0)))::vs).map (V.conc ν ρ)).toArray) w ∧
     zeh P E ν f (V.s (.one (.p b (.c 0)))::vs) hp ρ w (.hp (some z.1) z.2)):=by
    refine zaa (zfU (E:=E) hS hE) fun z hz=>zah (ztq (P:=P) (E:=E) (f:=f) (vs:=V.s (.one (.p b (.c 0)))::vs)) fun r hr ρ w hv hw hI=>?_
    obtain ⟨g1,g2⟩:=hz ρ w (hgood hv) hw hI
    exact ⟨g1,hr ρ w hw g2⟩
   refine zae (fun hemp=>?_) (fun _=>?_)
   ·refine zah hone fun z hz t' b' hat=>?_
    have hl:l=[]:=List.isEmpty_iff.1 hemp
    subst hl
    simp only [zaN] at hat
    split at hat
    ·simp only [Option.some.injEq] at hat
     rw [hx] at hat
     cases hat
     exact ⟨f,hf,hz⟩
    ·cases hat
   ·refine zaa (zag (Q:=fun c=>c.bool ν=(a.int ν==((x.1:Nat):Int))) fun c h=>A.bool_of_den h) fun c hc=>?_
    rw [zky h0] at hc
    refine zaa (zbt hone) fun u hu=>zaa (zbt (zhU hS hE hlen h0 l)) fun v hv=>zah (zqj (E:=E) hlen) fun z hz t' b' hat=>?_
    simp only [zaN] at hat
    split at hat
    ·rename_i he
     simp only [Option.some.injEq] at hat
     rw [hx] at hat
     cases hat
     have hct:c.bool ν=true:=by rw [hc];simpa using (Nat.eq_of_beq_eq_true he).symm
     refine ⟨f,hf,fun ρ w hvs hw hI=>?_⟩
     obtain ⟨g1,g2⟩:=hu hct ρ w hvs hw hI
     refine ⟨g1,Calls.mono g2 fun e w' ⟨r,hr,ρ',k1,k2,k3⟩=>?_⟩
     obtain ⟨k4,k5⟩:=k3 _ rfl
     obtain ⟨ρ2,m1,m2,m3,m4⟩:=hz.1 hct ρ' w' k2 k4
     exact ⟨r,hr,ρ2,fun j hj=>(m1 j hj).trans (k1 j hj),m2,fun q hq=>by cases hq;exact ⟨m3,by rw [k5,m4]⟩⟩
    ·rename_i he
     have hcf:c.bool ν=false:=by
      rw [hc]
      simp only [decide_eq_false_iff_not]
      intro e
      exact he (by rw [e];exact Nat.beq_refl _)
     obtain ⟨f',hf',hcall⟩:=hv hcf t' b' hat
     refine ⟨f',hf',fun ρ w hvs hw hI=>?_⟩
     obtain ⟨g1,g2⟩:=hcall ρ w hvs hw hI
     refine ⟨g1,Calls.mono g2 fun e w' ⟨r,hr,ρ',k1,k2,k3⟩=>?_⟩
     obtain ⟨k4,k5⟩:=k3 _ rfl
     obtain ⟨ρ2,m1,m2,m3,m4⟩:=hz.2 hcf ρ' w' k2 k4
     exact ⟨r,hr,ρ2,fun j hj=>(m1 j hj).trans (k1 j hj),m2,fun q hq=>by cases hq;exact ⟨m3,by rw [k5,m4]⟩⟩
  ·exact zac
end
end Go.Sx
namespace Go.Sx
open Go.RowKit
section
variable {P:Program} {I:World→Prop} {S:Sigs} {F:FEnv} {E:Env} {ν:Nat→DV}
theorem Off.plus_spec (o:Off) (k:Nat):(o.plus k).val ν=o.val ν+k∧(o.good ν→(o.plus k).good ν):=by
 cases o with
 | c n=>exact ⟨rfl,id⟩
 | s b ix sz len=>exact ⟨by simp [Off.plus,Off.val];omega,id⟩
 | v b ix sz a=>exact ⟨by simp [Off.plus,Off.val];omega,id⟩
 | d b ix sz len ix2 sz2 len2=>exact ⟨by simp [Off.plus,Off.val];omega,id⟩
 | w b ix sz a ix2 sz2 len2=>exact ⟨by simp [Off.plus,Off.val];omega,id⟩
theorem zbU {ix:A} {len:Nat} : M.sat F ν (zc3 ix len) (fun _=>0≤ix.int ν∧ix.int ν<len):=by
 unfold zc3
 refine zaa (zag (Q:=fun r=>r.bool ν=decide (ix.int ν≥0)) fun r h=>A.bool_of_den h) fun r hr=>?_
 refine zaa (zbk (Q:=fun _=>0≤ix.int ν) fun h=>by rw [hr] at h;simpa using h) fun _ h0=>?_
 refine zaa (zag (Q:=fun r=>r.bool ν=decide (ix.int ν<(len:Int))) fun r h=>A.bool_of_den h) fun r hr=>?_
 exact zbk fun h=>by rw [hr] at h;exact ⟨h0,by simpa using h⟩
theorem zeI {t:TypeId} {x ix:Lf} (hx:x.good ν):M.sat F ν (zfF P t x ix) (fun l=>l.good ν∧∀ (ρ:Nat→Loc) (w:World),
  (Instr.indexAt t (x.conc ν ρ) (ix.conc ν ρ)).run P w = .ok (l.conc ν ρ) w):=by
 unfold zfF
 refine zaa (zad (Q:=fun k=>tk P t=some k) fun a h=>h) fun k hk=>?_
 split
 ·rename_i len elem blk off ki a
  have hu:=zkr hk
  refine zaa (zad (Q:=fun k=>zaM P elem=some k) fun a h=>h) fun sz hs=>?_
  have run:∀ (ρ:Nat→Loc) (w:World),0≤a.int ν→a.int ν<len →
    (Instr.indexAt t ((Lf.p blk off).conc ν ρ) ((Lf.i ki a).conc ν ρ)).run P w = .ok (.pointer (some ⟨(ρ blk).blk,(ρ blk).off+off.val ν+(a.int ν).toNat*sz,none⟩)) w:=fun ρ w h0 h1=>by
   simp [Instr.indexAt,asIntOf,Lf.conc,run_underlying hu,Instr.sureAddr,h0,h1,za6 hs,zbH]
  split
  ·rename_i n
   refine zae (fun h=>?_) (fun _=>zac)
   refine zab ⟨(Off.plus_spec off _).2 hx,fun ρ w=>?_⟩
   rw [run ρ w h.1 h.2]
   simp [Lf.conc,(Off.plus_spec (ν:=ν) off _).1,Nat.add_assoc]
  ·split
   ·rename_i o
    refine zaa zbU fun _ hb=>zab ⟨hb,fun ρ w=>?_⟩
    rw [run ρ w hb.1 hb.2]
    simp [Lf.conc,Off.val,Nat.add_assoc]
   ·rename_i o ix0 sz0 len0
    refine zaa zbU fun _ hb=>zab ⟨⟨hx,hb⟩,fun ρ w=>?_⟩
    rw [run ρ w hb.1 hb.2]
    simp [Lf.conc,Off.val,Nat.add_assoc]
   ·rename_i o ix0 sz0 a0
    refine zaa zbU fun _ hb=>zab ⟨⟨hx,hb⟩,fun ρ w=>?_⟩
    rw [run ρ w hb.1 hb.2]
    simp [Lf.conc,Off.val,Nat.add_assoc]
   ·exact zac
 ·rename_i len elem g off ki a
  have hu:=zkr hk
  refine zaa (zad (Q:=fun k=>zaM P elem=some k) fun a h=>h) fun sz hs=>?_
  have run:∀ (ρ:Nat→Loc) (w:World),0≤a.int ν→a.int ν<len →
    (Instr.indexAt t ((Lf.gp g off).conc ν ρ) ((Lf.i ki a).conc ν ρ)).run P w = .ok (.pointer (some ⟨g,off.val ν+(a.int ν).toNat*sz,none⟩)) w:=fun ρ w h0 h1=>by
   simp [Instr.indexAt,asIntOf,Lf.conc,run_underlying hu,Instr.sureAddr,h0,h1,za6 hs,zbH]
  split
  ·rename_i n
   refine zae (fun h=>?_) (fun _=>zac)
   refine zab ⟨(Off.plus_spec off _).2 hx,fun ρ w=>?_⟩
   rw [run ρ w h.1 h.2]
   simp [Lf.conc,(Off.plus_spec (ν:=ν) off _).1]
  ·split
   ·rename_i o
    refine zaa zbU fun _ hb=>zab ⟨hb,fun ρ w=>?_⟩
    rw [run ρ w hb.1 hb.2]
    simp [Lf.conc,Off.val]
   ·exact zac
 ·exact zac
theorem zof {t:TypeId} {x:List Lf} {ix:Lf} (hx:∀ l∈x,Lf.good ν l):M.sat F ν (znD P t x ix) (fun v=>v.good ν∧∀ (ρ:Nat→Loc) (w:World),
  (Instr.index t (.agg (x.map (Lf.conc ν ρ)).toArray) (ix.conc ν ρ)).run P w = .ok (v.conc ν ρ) w):=by
 unfold znD
 refine zaa (zad (Q:=fun k=>tk P t=some k) fun a h=>h) fun k hk=>?_
 split
 ·rename_i len elem ki a
  have hu:=zkr hk
  refine zaa (zad (Q:=fun k=>tk P elem=some k) fun a h=>h) fun ke hke=>?_
  refine zaa (zad (Q:=fun k=>zaM P elem=some k) fun a h=>h) fun sz hs=>?_
  have run:∀ (ρ:Nat→Loc) (w:World),0≤a.int ν→a.int ν<len →
    (Instr.index t (.agg (x.map (Lf.conc ν ρ)).toArray) ((Lf.i ki a).conc ν ρ)).run P w=(part elem (x.map (Lf.conc ν ρ)).toArray ((a.int ν).toNat*sz)).run P w:=fun ρ w h0 h1=>by
   simp [Instr.index,asIntOf,Lf.conc,run_underlying hu,h0,h1,za6 hs]
  split
  ·rename_i n
   refine zae (fun h=>?_) (fun _=>zac)
   refine zah (zdy hx) fun v hv=>⟨hv.1,fun ρ w=>?_⟩
   rw [run ρ w h.1 h.2]
   exact hv.2 ρ w
  ·refine zaa zbU fun _ hb=>?_
   refine zae (fun ha=>?_) (fun ha=>?_)
   ·refine zaa (zhc hb.1 hb.2 sz 0) fun xs hxs=>zab ⟨V1.good_agg.2 hxs.2.1,fun ρ w=>?_⟩
    rw [run ρ w hb.1 hb.2]
    simp only [part,Sem.run_bind,zdx hke,ha,Result.andThen_ok,if_true,za6 hs,Sem.run_pure,V1.conc]
    congr 2
    apply Array.ext'
    rw [Array.toList_extract,List.extract_eq_take_drop]
    apply List.ext_getElem?
    intro j
    rw [List.getElem?_take]
    by_cases hj:j<sz
    ·obtain ⟨u,y,h1,h2,h3⟩:=hxs.2.2 ρ j hj
     rw [za1] at h2
     rw [if_pos (by omega),List.getElem?_drop]
     simp only [List.getElem?_map,h1,Option.map_some]
     rw [show (A.int ν a).toNat*sz+j=0+j+(A.int ν a).toNat*sz from by omega,h2]
     simp [h3]
    ·rw [if_neg (by omega)]
     simp only [List.getElem?_map]
     rw [List.getElem?_eq_none (by have:=hxs.1;omega)]
     rfl
   ·refine zaa (zad (Q:=fun row=>zby (x.map some) 0 sz len=some row) fun a h=>h) fun row hrow=>?_
    obtain ⟨h1,h2⟩:=zbG hrow
    refine zaa (zcc h1 hb.1 hb.2) fun u hu'=>zab ⟨V1.good_one.2 hu'.1,fun ρ w=>?_⟩
    rw [run ρ w hb.1 hb.2]
    obtain ⟨y,hy,he⟩:=hu'.2 ρ
    rw [←h2 _ (by have:=hb.1;have:=hb.2;omega),za1,Nat.zero_add] at hy
    simp [part,zdx hke,ha,hy,V1.conc,he]
 ·exact zac
theorem zog {t:TypeId} {x:List Lf} {f:Nat} (hx:∀ l∈x,Lf.good ν l):M.sat F ν (znE P t x f) (fun v=>v.good ν∧∀ (ρ:Nat→Loc) (w:World),
  (Instr.field t (.agg (x.map (Lf.conc ν ρ)).toArray) f).run P w = .ok (v.conc ν ρ) w):=by
 unfold znE
 refine zaa (zad (Q:=fun k=>tk P t=some k) fun a h=>h) fun k hk=>?_
 split
 ·rename_i fs
  obtain ⟨fl,hu,hfs⟩:=zez hk
  refine zaa (zad (Q:=fun fd=>fs[f]? = some fd) fun a h=>h) fun fd hfd=>?_
  subst hfs
  rw [List.getElem?_map] at hfd
  obtain ⟨g,hg,rfl⟩:=Option.map_eq_some_iff.1 hfd
  refine zah (zdy hx) fun v hv=>⟨hv.1,fun ρ w=>?_⟩
  have hg':fl[f]? = some g:=by simpa using hg
  simp only [Instr.field,Sem.run_bind,run_underlying hu,Result.andThen_ok,hg',asAgg,Sem.run_pure]
  exact hv.2 ρ w
 ·exact zac
theorem zjb {t:TypeId} {x:Lf} {f:Nat} (hx:x.good ν):M.sat F ν (zfG P t x f) (fun l=>l.good ν∧∀ (ρ:Nat→Loc) (w:World),
  (Instr.fieldAt t (x.conc ν ρ) f).run P w = .ok (l.conc ν ρ) w):=by
 unfold zfG
 refine zaa (zad (Q:=fun k=>tk P t=some k) fun a h=>h) fun k hk=>?_
 split
 ·rename_i fs blk off
  obtain ⟨fl,hu,hfs⟩:=zez hk
  refine zaa (zad (Q:=fun fd=>fs[f]? = some fd) fun a h=>h) fun fd hfd=>?_
  refine zaa (zad (Q:=fun k=>zaM P fd.2=some k) fun a h=>h) fun sz hs=>?_
  refine zae (fun _=>zac) (fun hz=>?_)
  have hz':sz≠0:=fun h=>hz (by subst h;rfl)
  subst hfs
  rw [List.getElem?_map] at hfd
  obtain ⟨g,hg,rfl⟩:=Option.map_eq_some_iff.1 hfd
  refine zab ⟨(Off.plus_spec off _).2 hx,fun ρ w=>?_⟩
  have hg':fl[f]? = some g:=by simpa using hg
  simp [Instr.fieldAt,run_underlying hu,hg',Lf.conc,Instr.sureAddr,fieldPlace,za6 hs,hz',zbH,(Off.plus_spec (ν:=ν) off _).1,Nat.add_assoc]
 ·rename_i fs gl off
  obtain ⟨fl,hu,hfs⟩:=zez hk
  refine zaa (zad (Q:=fun fd=>fs[f]? = some fd) fun a h=>h) fun fd hfd=>?_
  refine zaa (zad (Q:=fun k=>zaM P fd.2=some k) fun a h=>h) fun sz hs=>?_
  refine zae (fun _=>zac) (fun hz=>?_)
  have hz':sz≠0:=fun h=>hz (by subst h;rfl)
  subst hfs
  rw [List.getElem?_map] at hfd
  obtain ⟨g,hg,rfl⟩:=Option.map_eq_some_iff.1 hfd
  refine zab ⟨(Off.plus_spec off _).2 hx,fun ρ w=>?_⟩
  have hg':fl[f]? = some g:=by simpa using hg
  simp [Instr.fieldAt,run_underlying hu,hg',Lf.conc,Instr.sureAddr,fieldPlace,za6 hs,hz',zbH,(Off.plus_spec (ν:=ν) off _).1]
 ·exact zac
theorem zbJ {ρ:Nat→Loc} {r:RS} {a:Act} {ctx:Ctx} (h:ARel ν ρ r a) (hc:zdz ctx a):∀ {xs:List Operand} {vs:List V},zcz r ctx xs=some vs→xs.map a.eval=vs.map (V.conc ν ρ)
 | [],vs,hv=>by simp [zcz] at hv;subst hv;rfl
 | x::xs,vs,hv=>by
  simp only [zcz] at hv
  cases h1:rd r ctx x with
  | none=>simp [h1] at hv
  | some v =>
   simp only [h1] at hv
   cases h2:zcz r ctx xs with
   | none=>simp [h2] at hv
   | some vs' =>
    simp only [h2,Option.some.injEq] at hv
    subst hv
    simp only [List.map_cons,(zaj h hc h1).2,zbJ h hc h2]
theorem zqk {r:RS} {ctx:Ctx} {c a b:Operand} : M.sat F ν (zpd r ctx c a b) (fun v=>∀ ρ act,ARel ν ρ r act→zdz ctx act →
  v.good ν∧∃ t:Bool,act.eval c = .bool t∧(if t then act.eval a else act.eval b)=v.conc ν ρ):=by
 unfold zpd
 split
 ·rename_i hc
  refine zad fun v hv ρ act har hctx=>?_
  have h1:=(zaj har hctx hc).2
  have h2:=zaj har hctx hv
  exact ⟨h2.1,true,h1,h2.2⟩
 ·rename_i hc
  refine zad fun v hv ρ act har hctx=>?_
  have h1:=(zaj har hctx hc).2
  have h2:=zaj har hctx hv
  exact ⟨h2.1,false,h1,h2.2⟩
 ·rename_i x _ _ hc
  refine zaa (zad (Q:=fun va=>rd r (match c with | .tmp t=>((t,true)::ctx,(t,false)::ctx) | _=>(ctx,ctx)).1 a=some va) fun v h=>h) fun va hva=>?_
  refine zaa (zad (Q:=fun vb=>rd r (match c with | .tmp t=>((t,true)::ctx,(t,false)::ctx) | _=>(ctx,ctx)).2 b=some vb) fun v h=>h) fun vb hvb=>?_
  refine zah ziU fun v hv ρ act har hctx=>?_
  have h1:=(zaj har hctx hc).2
  have h1':act.eval c = .bool (x.bool ν):=h1
  have hsl:∀ t,c = .tmp t→act.tmps[t]? = some (.bool (x.bool ν)):=by
   intro t ht
   subst ht
   exact (zmw har hctx (show r.slot ctx t=some _ from hc)).2
  cases hx:x.bool ν with
  | true =>
   have hca:zdz (match c with | .tmp t=>((t,true)::ctx,(t,false)::ctx) | _=>(ctx,ctx)).1 act:=by
    split
    ·intro p hp
     rcases List.mem_cons.1 hp with rfl | h
     ·rw [hsl _ rfl,hx]
     ·exact hctx p h
    ·exact hctx
   have h2:=zaj har hca hva
   have h3:=hv.1 hx h2.1
   exact ⟨h3.2,true,by rw [h1',hx],by simp only [if_true];rw [h3.1 ρ];exact h2.2⟩
  | false =>
   have hcb:zdz (match c with | .tmp t=>((t,true)::ctx,(t,false)::ctx) | _=>(ctx,ctx)).2 act:=by
    split
    ·intro p hp
     rcases List.mem_cons.1 hp with rfl | h
     ·rw [hsl _ rfl,hx]
     ·exact hctx p h
    ·exact hctx
   have h2:=zaj har hcb hvb
   have h3:=hv.2 hx h2.1
   exact ⟨h3.2,false,by rw [h1',hx],by simp only [Bool.false_eq_true,if_false];rw [h3.1 ρ];exact h2.2⟩
 ·exact zac
theorem Lf.conc_scalar {l:Lf} (h:l.scalar=true) (ρ ρ':Nat→Loc):l.conc ν ρ=l.conc ν ρ':=by
 cases l<;>first | rfl | (rename_i t _ _;cases t<;>rfl) | cases h
theorem V1.conc_scalar {v:V1} (h:v.cells.all Lf.scalar=true) (ρ ρ':Nat→Loc):v.conc ν ρ=v.conc ν ρ':=by
 cases v with
 | one l=>exact Lf.conc_scalar (by simpa [V1.cells] using h) ρ ρ'
 | agg l =>
  simp only [V1.conc]
  congr 2
  exact List.map_congr_left fun y hy=>Lf.conc_scalar (List.all_eq_true.1 h y hy) ρ ρ'
theorem zc8 {ρ:Nat→Loc} {r:RS} {a:Act} {ctx:Ctx} (h:ARel ν ρ r a) (hc:zdz ctx a):∀ {xs:List (Nat×Operand)} {vs:List (Nat×V1)},zcM r ctx xs=some vs →
  xs.map (fun p=>(p.1,a.eval p.2))=vs.map (fun p=>(p.1,p.2.conc ν ρ))∧∀ p∈vs,p.2.good ν
 | [],vs,hv=>by simp [zcM] at hv;subst hv;exact ⟨rfl,fun p hp=>by cases hp⟩
 | x::xs,vs,hv=>by
  simp only [zcM] at hv
  split at hv
  ·rename_i v h1
   split at hv
   ·cases hv
   ·rename_i vs' h2
    cases hv
    have e1:=zaj h hc h1
    have e2:=zc8 h hc h2
    refine ⟨by simp only [List.map_cons,e2.1,e1.2];rfl,fun p hp=>?_⟩
    rcases List.mem_cons.1 hp with rfl | hp
    ·exact e1.1
    ·exact e2.2 p hp
  ·cases hv
theorem zfu {f:Field→Nat×TypeId} (hf:∀ d,f d=(d.offset,d.type)) (w:World):∀ (l:List Field) (places:List (Nat×Nat)),
  zbw (fun f:Nat×TypeId=>(zaM P f.2).map fun n=>(f.1,n)) (l.map f)=some places →
  (l.mapM fun (d:Field)=>(do pure (d.offset,←sizeOf d.type):Sem (Nat×Nat))).run P w = .ok places w
 | [],places,h=>by simp [zbw] at h;subst h;simp
 | d::l,places,h=>by
  simp only [List.map_cons,zbw,hf] at h
  split at h
  ·cases h
  ·rename_i b hb
   split at h
   ·cases h
   ·rename_i r hr
    cases h
    obtain ⟨n,hn,rfl⟩:=Option.map_eq_some_iff.1 hb
    simp only [List.mapM_cons,Sem.run_bind,za6 hn,Result.andThen_ok,Sem.run_pure,zfu hf w l r hr]
theorem zmT {t:TypeId} {ps:List (Nat×V1)} {r:List Lf} (h:zlg P t ps=some r) (hg:∀ p∈ps,p.2.good ν):(∀ x∈r,Lf.good ν x)∧∀ (ρ:Nat→Loc) (w:World),
  (Instr.build t (ps.map fun p=>(p.1,p.2.conc ν ρ)).toArray).run P w = .ok (.agg (r.map (Lf.conc ν ρ)).toArray) w:=by
 unfold zlg at h
 split at h
 ·cases h
 ·rename_i z hz
  unfold zeroCells at hz
  split at hz
  ·cases hz
  ·rename_i i hi
   split at hz
   ·cases hz
   ·rename_i zv hzv
    have hzs:=zdU (ν:=ν) hz
    have hzero:∀ w,(zeroValue t).run P w = .ok zv w:=fun w=>by simp [zeroValue,typeInfo,hi,hzv]
    have hin:∀ ρ,zv.cells.toList=z.map (Lf.conc ν ρ):=fun ρ=>(hzs.2 ρ).symm
    split at h
    ·rename_i fs hk
     obtain ⟨fl,hu,hfs⟩:=zez hk
     split at h
     ·cases h
     ·rename_i places hpl
      refine ⟨zhg _ _ _ hzs.1 hg h,fun ρ w=>?_⟩
      obtain ⟨B,hB,hB2⟩:=ze9 (ν:=ν) (ρ:=ρ) (place':=fun i=>places.toArray[i]?) (fun i=>by simp) ps z r zv.cells (hin ρ) h
      subst hfs
      have hm:=zfu (P:=P) (fun _=>rfl) w fl.toList places hpl
      simp only [Instr.build,Sem.run_bind,hzero,Result.andThen_ok,run_underlying hu,Array.mapM_eq_mapM_toList,Sem.run_map,hm]
      rw [hB,←hB2]
      rfl
    ·rename_i len elem hk
     have hu:=zkr hk
     split at h
     ·cases h
     ·rename_i sz hs
      refine ⟨zhg _ _ _ hzs.1 hg h,fun ρ w=>?_⟩
      obtain ⟨B,hB,hB2⟩:=ze9 (ν:=ν) (ρ:=ρ) (place':=fun i=>some (i*sz,sz)) (fun i=>rfl) ps z r zv.cells (hin ρ) h
      simp only [Instr.build,Sem.run_bind,hzero,Result.andThen_ok,run_underlying hu,za6 hs,Sem.run_pure,hB]
      rw [←hB2]
    ·cases h
theorem zfa {ρ:Nat→Loc} {r:RS} {a:Act} {ctx:Ctx} (h:ARel ν ρ r a) (hc:zdz ctx a):∀ {xs:List Operand} {vs:List V},zcz r ctx xs=some vs→∀ v∈vs,V.good ν v
 | [],vs,hv=>by simp [zcz] at hv;subst hv;intro v hv;cases hv
 | x::xs,vs,hv=>by
  simp only [zcz] at hv
  cases h1:rd r ctx x with
  | none=>simp [h1] at hv
  | some v =>
   simp only [h1] at hv
   cases h2:zcz r ctx xs with
   | none=>simp [h2] at hv
   | some vs' =>
    simp only [h2,Option.some.injEq] at hv
    subst hv
    intro u hu
    rcases List.mem_cons.1 hu with rfl | hu
    ·exact (zaj h hc h1).1
    ·exact zfa h hc h2 u hu
theorem zjc {r:RS} {ctx:Ctx} {o:Oper} {t:TypeId} {x y:Operand} (hop:o.op = .store t x y):M.sat F ν (zha P r ctx t x y) (fun hp'=>∀ ρ a,ARel ν ρ r a→zdz ctx a →
 ∀ w,HS E ν ρ r.st.hp w→∃ w',(execOp a.eval o).run P w = .ok .skip w'∧HS E ν ρ hp' w'):=by
 unfold zha
 refine zaa (zad (Q:=fun v=>rd r ctx x=some v) fun a h=>h) fun v hv=>?_
 refine zaa (zad (Q:=fun v=>rd r ctx y=some v) fun a h=>h) fun u hu=>?_
 split
 ·rename_i b off v1
  refine zaa (zad (Q:=fun k=>zaM P t=some k) fun a h=>h) fun sz hs=>?_
  refine zaa (zad (Q:=fun bk=>nth r.st.hp b=some bk) fun a h=>h) fun bk hbk=>?_
  split
  ·rename_i cs
   refine zae (fun hcond=>?_) (fun _=>zac)
   simp only [Bool.and_eq_true] at hcond
   obtain ⟨hlen,hok⟩:=hcond
   have hlen:=Nat.eq_of_beq_eq_true hlen
   by_cases hg:off.good ν
   ·refine zaa (zhe hg) fun cs' hd=>zab fun ρ a ha hc w hw=>?_
    have h1:=zaj ha hc hv
    have h2:=zaj ha hc hu
    have hb0:CBlk ν ρ w (ρ b) true cs:=hw.heap.blk b _ hbk
    have hst:=CBlk.store (P:=P) hb0 hd h2.1 (by simpa using hok)
    have hcells:(a.eval y).cells.toList=v1.cells.map (Lf.conc ν ρ):=by
     rw [h2.2]
     cases v1 with
     | one l =>
      have h1:(l.conc ν ρ).oneCell'=true:=Lf.ok_conc (by simpa [V1.cells] using hok) ρ
      simp only [V.conc,V1.conc,V1.cells,zgw h1,List.map_cons,List.map_nil]
     | agg l=>simp [V.conc,V1.conc,V1.cells,Value.cells]
    have hsz:(a.eval y).cells.size=sz:=by
     rw [←Array.length_toList,hcells];simpa using hlen
    refine ⟨_,?_,hw.upd (w':=w.setCells (ρ b).blk ((ρ b).off+off.val ν) (v1.cells.map (Lf.conc ν ρ))) hbk rfl rfl hst.2 hb0.nil (zbq _ _ _ _) (zbd _ _ _ _).1 (zbd _ _ _ _).2.1 (zbd _ _ _ _).2.2 (fun k hk=>zbu _ _ _ _ k hk)⟩
    simp [execOp,hop,h1.2,V.conc,V1.conc,Lf.conc,Instr.storeAt,Instr.sureAddr,storeVar,za6 hs,hsz,hcells,hst.1]
   ·refine zaa zap fun v _=>zab fun ρ a ha hc=>?_
    exact absurd ((zaj ha hc hv).1 (.p b off) (by simp [V1.cells])) hg
  ·rename_i ts q
   refine zae (fun hcond=>?_) (fun _=>zac)
   simp only [Bool.and_eq_true] at hcond
   obtain ⟨hlen,hpos⟩:=hcond
   have hlen:=Nat.eq_of_beq_eq_true hlen
   have hpos:0<sz:=Nat.le_of_ble_eq_true hpos
   have hne:v1.cells≠[]:=fun e=>by rw [e] at hlen;simp at hlen;omega
   by_cases hg:off.good ν
   ·refine zaa (zmI (P:=P) (E:=E) hg hne) fun q' hd=>zab fun ρ a ha hc w hw=>?_
    have h1:=zaj ha hc hv
    have h2:=zaj ha hc hu
    have hb0:VRel E w (ρ b) true ts (q.cells ν):=hw.heap.blk b _ hbk
    obtain ⟨d1,d2,d3,d4⟩:=hd ρ w (ρ b) hb0
    have hcells:(a.eval y).cells.toList=v1.cells.map (Lf.conc ν ρ):=by
     rw [h2.2,show (V.s v1).conc ν ρ=v1.conc ν ρ from rfl,V1.cells_conc (List.all_eq_true.2 d2) ρ]
    have hsz:(a.eval y).cells.size=sz:=by
     rw [←Array.length_toList,hcells];simpa using hlen
    refine ⟨_,?_,hw.upd (w':=w.setCells (ρ b).blk ((ρ b).off+off.val ν) (v1.cells.map (Lf.conc ν ρ))) (nb:=.v true ts q') hbk rfl rfl d4 d1 (zbq _ _ _ _) (zbd _ _ _ _).1 (zbd _ _ _ _).2.1 (zbd _ _ _ _).2.2 (fun k hk=>zbu _ _ _ _ k hk)⟩
    simp [execOp,hop,h1.2,V.conc,V1.conc,Lf.conc,Instr.storeAt,Instr.sureAddr,storeVar,za6 hs,hsz,hcells,d3]
   ·refine zaa zap fun v _=>zab fun ρ a ha hc=>?_
    exact absurd ((zaj ha hc hv).1 (.p b off) (by simp [V1.cells])) hg
  ·exact zac
 ·exact zac
theorem zql {r:RS} {ctx:Ctx} {t:TypeId} {x y:Operand} {b:Nat} {off:Off} (hx:rd r ctx x=some (.s (.one (.p b off)))):M.sat F ν (zha P r ctx t x y) (fun hp'=>∀ j,j≠b→nth hp' j=nth r.st.hp j):=by
 unfold zha
 refine zaa (zad (Q:=fun v=>rd r ctx x=some v) fun a h=>h) fun v hv=>?_
 refine zaa zap fun u _=>?_
 rw [hx] at hv
 cases hv
 split
 ·rename_i b' off' v1 he
  cases he
  refine zaa zap fun sz _=>zaa zap fun bk _=>?_
  split
  ·exact zae (fun _=>zaa zap fun _ _=>zab fun j hj=>zau _ _ _ _ (Ne.symm hj)) (fun _=>zac)
  ·exact zae (fun _=>zaa zap fun _ _=>zab fun j hj=>zau _ _ _ _ (Ne.symm hj)) (fun _=>zac)
  ·exact zac
 ·exact zac
theorem zeJ {ρ:Nat→Loc} {r:RS} {a:Act} {ctx:Ctx} (h:ARel ν ρ r a) (hc:zdz ctx a) {x:Option Operand} {l:Option Lf} (hl:zer r ctx x=some l):x.map a.eval=l.map (Lf.conc ν ρ):=by
 unfold zer at hl
 split at hl
 ·cases hl;rfl
 ·split at hl
  ·rename_i hrd
   cases hl
   simp only [Option.map_some]
   rw [(zaj h hc hrd).2]
   rfl
  ·cases hl
theorem zkH (ρ:Nat→Loc):∀ {vs:List V} {bs:List Nat},zbw zpV vs=some bs→vs.map (V.conc ν ρ)=bs.map fun b=>Value.pointer (some ⟨(ρ b).blk,(ρ b).off+0,none⟩)
 | [],bs,h=>by simp [zbw] at h;subst h;rfl
 | v::l,bs,h=>by
  simp only [zbw] at h
  cases hf:zpV v with
  | none=>simp [hf] at h
  | some b =>
   simp only [hf] at h
   cases hr:zbw zpV l with
   | none=>simp [hr] at h
   | some r =>
    simp only [hr,Option.some.injEq] at h
    subst h
    unfold zpV at hf
    split at hf
    ·cases hf
     simp only [List.map_cons]
     rw [zkH ρ hr]
     rfl
    ·cases hf
theorem zjd {ρ:Nat→Loc} {r:RS} {a:Act} {ctx:Ctx} (h:ARel ν ρ r a) (hc:zdz ctx a) {x:Operand} {f:Nat} {bs:List Nat} (hf:fnOf (rd r ctx x)=some (f,bs)) :
  a.eval x = .func (.func f) #[] (za9 ρ bs):=by
 unfold fnOf at hf
 split at hf
 ·rename_i g u v hrd
  split at hf
  ·rename_i hc2
   cases hf
   simp only [Bool.and_eq_true] at hc2
   rw [(zaj h hc hrd).2]
   simp only [V.conc,V1.conc,Lf.conc]
   rw [Array.eq_empty_of_size_eq_zero (Nat.eq_of_beq_eq_true hc2.1),Array.eq_empty_of_size_eq_zero (Nat.eq_of_beq_eq_true hc2.2)]
   rfl
  ·cases hf
 ·rename_i g u hrd
  cases hf
  exact (zaj h hc hrd).2
 ·cases hf
theorem zfV:∀ {l:List Lf} {r:List Ty×List A},zhz l=some r→∀ (a:A) (pre:List DV),a.cells ν=pre++nrmZ r.1 (r.2.map (A.den ν))→(∀ ρ:Nat→Loc,(zhA a pre.length l).map (Lf.conc ν ρ)=l.map (Lf.conc ν ρ))∧∀ x∈zhA a pre.length l,x.good ν
 | [],r,_,a,pre,_=>⟨fun _=>rfl,fun x hx=>by cases hx⟩
 | .i k b::l,r,h,a,pre,ha=>by
  simp only [zhz] at h
  cases hr:zhz l with
  | none=>rw [hr] at h;cases h
  | some r' =>
   rw [hr] at h
   cases h
   have ha':a.cells ν=(pre++[nrm .i (b.den ν)])++nrmZ r'.1 (r'.2.map (A.den ν)):=by rw [ha];simp [nrmZ]
   obtain ⟨h1,h2⟩:=zfV hr a _ ha'
   simp only [List.length_append,List.length_cons,List.length_nil,Nat.zero_add] at h1 h2
   have hd:(a.cells ν).getD pre.length default=nrm .i (b.den ν):=by rw [ha];simp [nrmZ]
   refine ⟨fun ρ=>?_,fun x hx=>?_⟩
   ·simp only [zhA,List.map_cons,h1 ρ,Lf.conc,hd,A.int]
    rfl
   ·rcases List.mem_cons.1 hx with rfl | hx
    ·exact trivial
    ·exact h2 x hx
 | .b b::l,r,h,a,pre,ha=>by
  simp only [zhz] at h
  cases hr:zhz l with
  | none=>rw [hr] at h;cases h
  | some r' =>
   rw [hr] at h
   cases h
   have ha':a.cells ν=(pre++[nrm .b (b.den ν)])++nrmZ r'.1 (r'.2.map (A.den ν)):=by rw [ha];simp [nrmZ]
   obtain ⟨h1,h2⟩:=zfV hr a _ ha'
   simp only [List.length_append,List.length_cons,List.length_nil,Nat.zero_add] at h1 h2
   have hd:(a.cells ν).getD pre.length default=nrm .b (b.den ν):=by rw [ha];simp [nrmZ]
   refine ⟨fun ρ=>?_,fun x hx=>?_⟩
   ·simp only [zhA,List.map_cons,h1 ρ,Lf.conc,hd,A.bool]
    rfl
   ·rcases List.mem_cons.1 hx with rfl | hx
    ·exact trivial
    ·exact h2 x hx
theorem zry (z:List Lf) (o n:Nat):M.sat F ν (zuC z o n) fun z'=>(∀ ρ:Nat→Loc,z'.map (Lf.conc ν ρ)=z.map (Lf.conc ν ρ))∧((∀ x∈z,x.good ν)→∀ x∈z',x.good ν):=by
 unfold zuC
 split
 ·exact zab ⟨fun _=>rfl,id⟩
 ·rename_i r hr
  refine zaa (zag (Q:=fun a=>a.den ν=zbc F ν (.lmk r.1 r.2)) fun a h=>h) fun a ha=>zab ?_
  have hc:a.cells ν=[]++nrmZ r.1 (r.2.map (A.den ν)):=by rw [List.nil_append];exact A.cells_of_den ha
  obtain ⟨h1,h2⟩:=zfV hr a _ hc
  refine ⟨fun ρ=>?_,fun hg x hx=>?_⟩
  ·have:=h1 ρ
   rw [List.length_nil] at this
   rw [List.map_append,List.map_append,this,←List.map_append,←List.map_append]
   congr 1
   rw [List.append_assoc,List.take_append_drop,List.take_append_drop]
  ·rw [List.mem_append,List.mem_append] at hx
   rcases hx with (hx | hx) | hx
   ·exact hg x (List.mem_of_mem_take hx)
   ·exact h2 x hx
   ·exact hg x (List.mem_of_mem_drop (List.mem_of_mem_drop hx))
theorem zcq:∀ (gs:List (Nat×Nat)) (z:List Lf),M.sat F ν (zdQ gs z) fun z'=>(∀ ρ:Nat→Loc,z'.map (Lf.conc ν ρ)=z.map (Lf.conc ν ρ))∧((∀ x∈z,x.good ν)→∀ x∈z',x.good ν)
 | [],z=>zab ⟨fun _=>rfl,id⟩
 | g::gs,z=>by
  unfold zdQ
  exact zaa (zry z g.1 g.2) fun z1 h1=>zah (zcq gs z1) fun z2 h2=>⟨fun ρ=>(h2.1 ρ).trans (h1.1 ρ),fun hg=>h2.2 (h1.2 hg)⟩
theorem zmU {r:RS} {ctx:Ctx} {o:Oper} {neg:Bool} {t yt:TypeId} {x y:Operand} {b:A} {l:List (Nat×Alt)} (hop:o.op = .binOp (if neg then .neq else .eql) t x y yt) (hy:zmk y=true) (hif:znF P t=true)
  (hv:rd r ctx x=some (.s (.one (.alt b l)))):M.sat F ν (do pure (OR.val (.s (.one (←zin true neg b l)))):M OR) (fun res=>∀ ρ a,ARel ν ρ r a→zdz ctx a→ORok P I E ν ρ r.st.hp (execOp a.eval o) res):=by
 have hms:∃ ms,P.underlying t=some (.interface ms):=by
  unfold znF at hif
  split at hif
  ·rename_i ms h;exact ⟨ms,h⟩
  ·cases hif
 obtain ⟨ms,hms⟩:=hms
 by_cases hg:(Lf.alt b l).good ν
 ·refine zaa (zhf hg) fun z ⟨c,hz,hcv,hok⟩=>zab fun ρ a ha hc=>?_
  subst hz
  have h1:=zaj ha hc hv
  refine ORok.now (V1.good_one.2 trivial) fun w _=>?_
  obtain ⟨h0,h2⟩:=hg
  obtain ⟨u,hu⟩:=Option.isSome_iff_exists.1 h2
  have hval:a.eval x=u.conc ρ:=by rw [h1.2];simp only [V.conc,V1.conc,Lf.conc,zbj,hu]
  have hyc:y = .const .nilIface:=by
   unfold zmk at hy
   split at hy
   ·rfl
   ·cases hy
  have hyv:a.eval (.const .nilIface) = .nilIface:=rfl
  rcases zdW hok hu with ⟨e1,e2⟩ | ⟨e1,t',q,e2⟩
  ·rw [e2] at hval
   have hval:a.eval x = .nilIface:=hval
   cases neg<;>simp [execOp,hop,hval,hyv,hyc,eqGuard,Go.binOp,Op.equal,Op.maxDepth,V.conc,V1.conc,Lf.conc,(zaJ w 9999 t 0 .nilIface hms).2,hcv,e1]
  ·rw [e2] at hval
   have hval:a.eval x = .iface t' (.pointer (some ⟨(ρ q).blk,(ρ q).off+0,none⟩)):=hval
   cases neg<;>simp [execOp,hop,hval,hyv,hyc,eqGuard,Go.binOp,Op.equal,Op.maxDepth,V.conc,V1.conc,Lf.conc,(zaJ w 9999 t _ _ hms).1,hcv,e1]
 ·refine zaa zap fun z _=>zab fun ρ a ha hc=>?_
  exact absurd (V1.good_one.1 (zaj ha hc hv).1) hg
theorem zrz {K:Nat} (hS:SigsOK P I K S F) (hE:E.Ok K) {r:RS} {ctx:Ctx} {o:Oper} {c:Call} {x:Operand} {name:String} {b:A} {l:List (Nat×Alt)} {vs:List V} (hop:o.op = .call c) (hf:c.callee = .invoke x name) (hv:rd r ctx x=some (.s (.one (.alt b l))))
  (hvs:zcz r ctx c.args.toList=some vs) (hok:zdP true (zaF l) l=true):M.sat F ν (do
   let c ←emit (.neq b (.z (zaF l)))
   owe c
   let z ←zgf P S name vs r.st.hp b (l.filter fun x=>!x.2.isNil)
   pure (.hp (some z.1) z.2):M OR) (fun res=>∀ ρ a,ARel ν ρ r a→zdz ctx a→ORok P I E ν ρ r.st.hp (execOp a.eval o) res):=by
 by_cases hg:(Lf.alt b l).good ν∧E.n0≤r.st.hp.length
 ·obtain ⟨⟨h0,h1⟩,hlen⟩:=hg
  refine zaa (zag (Q:=fun q=>q.bool ν=(b.int ν != ((zaF l:Nat):Int))) fun q h=>A.bool_of_den h) fun q hq=>?_
  refine zaa (zbk (Q:=fun _=>(b.int ν).toNat≠zaF l) fun h=>by
   rw [hq,bne,zky h0] at h
   simpa using h) fun _ hne=>?_
  refine zaa (zhU (E:=E) hS hE hlen h0 _) fun z hz=>zab fun ρ a ha hc=>?_
  obtain ⟨u,hu⟩:=Option.isSome_iff_exists.1 h1
  have h2:=(zaj ha hc hv).2
  have h3:=zbJ ha hc hvs
  rcases zdW hok hu with ⟨e1,_⟩ | ⟨_,t,q',e2⟩
  ·exact absurd e1 hne
  ·have hu2:=zkG hok hu hne
   rw [e2] at hu2
   obtain ⟨f,hfn,hcall⟩:=hz t q' hu2
   have h6:a.eval x = .iface t ((V.s (.one (.p q' (.c 0)))).conc ν ρ):=by
    rw [h2]
    simp only [V.conc,V1.conc,Lf.conc,zbj,hu,e2,Alt.conc,Off.val]
   have h7 : #[(V.s (.one (.p q' (.c 0)))).conc ν ρ]++c.args.map a.eval=((V.s (.one (.p q' (.c 0)))::vs).map (V.conc ν ρ)).toArray:=by
    apply Array.ext'
    simp only [Array.toList_append,Array.toList_map,h3,List.map_cons]
    rfl
   intro w hw hI
   obtain ⟨g1,g2⟩:=hcall ρ w (zfa ha hc hvs) hw hI
   refine .inr (.inr ⟨f,_,?_,g2.mono fun e w' ⟨x,he,ρ',k1,k2,k3⟩=>⟨x,he,ρ',k1,k2,fun u hu=>⟨(k3 u hu).1,by rw [(k3 u hu).2]⟩⟩⟩)
   rw [←g1,←h7]
   have:=zkC (P:=P) hfn ((V.s (.one (.p q' (.c 0)))).conc ν ρ) (c.args.map a.eval) w
   rw [←this,←h6]
   simp only [execOp,hop,resolve,hf,pure_bind]
 ·refine zaa zap fun q _=>zaa zap fun _ _=>zaa zap fun z _=>zab fun ρ a ha hc w hw _=>?_
  exact absurd ⟨V1.good_one.1 (zaj ha hc hv).1,hw.len⟩ hg
set_option maxHeartbeats 1000000 in
theorem zfb {K:Nat} (hS:SigsOK P I K S F) (hE:E.Ok K) {r:RS} {ctx:Ctx} {o:Oper} : M.sat F ν (evOp P S r ctx o.op) (fun res=>∀ ρ a,ARel ν ρ r a→zdz ctx a →
  ORok P I E ν ρ r.st.hp (execOp a.eval o) res):=by
 cases hop:o.op<;>simp only [evOp]
 case move x =>
  refine zaa (zad (Q:=fun v=>rd r ctx x=some v) fun a h=>h) fun v hv=>zab fun ρ a ha hc=>?_
  have:=zaj ha hc hv
  exact ORok.now this.1 fun w _=>by simp [execOp,hop,this.2]
 case assign x =>
  refine zaa (zad (Q:=fun v=>rd r ctx x=some v) fun a h=>h) fun v hv=>zab fun ρ a ha hc=>?_
  have:=zaj ha hc hv
  exact ORok.now this.1 fun w _=>by simp [execOp,hop,this.2]
 case pick c x y =>
  refine zaa zqk fun v hv=>zab fun ρ a ha hc=>?_
  obtain ⟨hg,t,h1,h2⟩:=hv ρ a ha hc
  exact ORok.now hg fun w _=>by simp [execOp,hop,h1,asBool,←h2]
 case build t parts =>
  refine zaa (zad (Q:=fun v=>zcM r ctx parts.toList=some v) fun a h=>h) fun ps hps=>?_
  refine zaa (zad (Q:=fun v=>zlg P t ps=some v) fun a h=>h) fun cs hcs=>zab fun ρ a ha hc=>?_
  have h1:=zc8 ha hc hps
  have h2:=zmT hcs h1.2
  refine ORok.now (V1.good_agg.2 h2.1) fun w _=>?_
  have h3:(parts.map fun (p:Nat×Operand)=>(p.1,a.eval p.2))=(ps.map fun p=>(p.1,p.2.conc ν ρ)).toArray:=by
   apply Array.ext'
   simpa using h1.1
  have h4:=h2.2 ρ w
  rw [←h3] at h4
  simp only [execOp,hop,V.conc,V1.conc]
  simp [h4]
 case alloc t =>
  refine zaa (zad (Q:=fun v=>zeroCells P t=some v) fun a h=>h) fun cs hcs=>?_
  obtain ⟨i,z,hi,hz,hzg,hzc⟩:=zbe (ν:=ν) hcs
  have hlt0:∀ n,cs.all (Lf.lt n)=true:=fun n=>by
   unfold zeroCells at hcs
   rw [hi] at hcs
   simp only [hz] at hcs
   obtain ⟨_,h2⟩:=zeB hcs
   refine List.all_eq_true.2 fun x hx=>?_
   obtain ⟨j,hj,rfl⟩:=List.mem_iff_getElem.1 hx
   obtain ⟨v,_,hv⟩:=h2 j _ (List.getElem?_eq_getElem hj)
   unfold zil at hv
   split at hv<;>first | (cases hv;rfl) | (rw [←Option.some.inj hv];rfl) | cases hv
  have hrun:∀ (o':Act) (w:World),(execOp o'.eval o).run P w = .ok (.value (.pointer (some ⟨w.heap.size,0,none⟩))) (w.alloc (.cells z.cells t)):=fun o' w=>by
   simp [execOp,hop,Instr.alloc,zeroValue,typeInfo,hi,hz,newVar,newRow]
  refine zae (fun hn=>zae (fun hlt=>?_) (fun _=>zac)) (fun hn=>?_)
  ·refine zaa (zdw fun w=>zcp (E:=E) (w:=w) _ _ _) fun q hq=>zaa (zcq _ _) fun z' hz'=>?_
   unfold zhB
   refine zae (fun hc=>?_) (fun _=>zac)
   simp only [Bool.and_eq_true] at hc
   refine zab fun ρ a ha hcx w hw _=>?_
   obtain ⟨h1,h2,h3,h4,ρ',h5,h6,h7⟩:=hq w ρ hw hlt (hlt0 _) hzg
   have hnew:=h6.new hc.1 hc.2 (hz'.2 h3) t
   rw [hz'.1,h7,←hzc ρ] at hnew
   refine .inl ⟨.pointer (some ⟨w.heap.size,0,none⟩),w.alloc (.cells z.cells t),hrun a w,_,fun j hj=>by rw [zbO (by omega),h5 j hj],hnew,fun u hu=>?_⟩
   cases hu
   exact ⟨V1.good_one.2 trivial,by simp [V.conc,V1.conc,Lf.conc,zbI,Off.val]⟩
  ·refine zaa (zcq _ _) fun z' hz'=>?_
   unfold zhB
   refine zae (fun hc=>?_) (fun _=>zac)
   simp only [Bool.and_eq_true] at hc
   refine zab fun ρ a ha hcx w hw _=>?_
   have hnew:=hw.new hc.1 hc.2 (hz'.2 hzg) t
   rw [hz'.1,←hzc ρ] at hnew
   refine .inl ⟨.pointer (some ⟨w.heap.size,0,none⟩),w.alloc (.cells z.cells t),hrun a w,_,fun j hj=>zbO hj,hnew,fun u hu=>?_⟩
   cases hu
   exact ⟨V1.good_one.2 trivial,by simp [V.conc,V1.conc,Lf.conc,zbI,Off.val]⟩
 case box t x =>
  refine zaa (zad (Q:=fun v=>rd r ctx x=some v) fun a h=>h) fun v hv=>?_
  split
  ·rename_i v1
   refine zae (fun hok=>?_) (fun _=>zac)
   refine zae (fun _=>zae (fun hlt=>?_) (fun _=>zac)) (fun _=>?_)
   ·simp only [Bool.and_eq_true] at hlt
    refine zaa (zdw fun w=>zcp (E:=E) (w:=w) _ _ _) fun q hq=>zaa (zcq _ _) fun z' hz'=>?_
    unfold zhB
    refine zae (fun hc=>?_) (fun _=>zac)
    simp only [Bool.and_eq_true] at hc
    refine zab fun ρ a ha hcx w hw _=>?_
    have:=zaj ha hcx hv
    have hcell:(a.eval x).cells=(v1.cells.map (Lf.conc ν ρ)).toArray:=by
     rw [this.2]
     cases v1 with
     | one l =>
      have h1:(l.conc ν ρ).oneCell'=true:=Lf.ok_conc (by simpa [V1.cells] using hok) ρ
      exact zgw h1
     | agg l=>rfl
    obtain ⟨h1,h2,h3,h4,ρ',h5,h6,h7⟩:=hq w ρ hw hlt.1 hlt.2 this.1
    have hnew:=h6.new hc.1 hc.2 (hz'.2 h3) t
    rw [hz'.1,h7] at hnew
    refine .inl ⟨.pointer (some ⟨w.heap.size,0,none⟩),w.alloc (.cells (v1.cells.map (Lf.conc ν ρ)).toArray t),?_,_,fun j hj=>by rw [zbO (by omega),h5 j hj],hnew,fun u hu=>?_⟩
    ·simp [execOp,hop,Instr.box,newVar,newRow,hcell]
    ·cases hu
     exact ⟨V1.good_one.2 trivial,by simp [V.conc,V1.conc,Lf.conc,zbI,Off.val]⟩
   ·refine zaa (zcq _ _) fun z' hz'=>?_
    unfold zhB
    refine zae (fun hc=>?_) (fun _=>zac)
    simp only [Bool.and_eq_true] at hc
    refine zab fun ρ a ha hcx w hw _=>?_
    have:=zaj ha hcx hv
    have hcell:(a.eval x).cells=(v1.cells.map (Lf.conc ν ρ)).toArray:=by
     rw [this.2]
     cases v1 with
     | one l =>
      have h1:(l.conc ν ρ).oneCell'=true:=Lf.ok_conc (by simpa [V1.cells] using hok) ρ
      exact zgw h1
     | agg l=>rfl
    refine .inl ⟨.pointer (some ⟨w.heap.size,0,none⟩),w.alloc (.cells (v1.cells.map (Lf.conc ν ρ)).toArray t),?_,_,fun j hj=>zbO hj,(by have hnew:=hw.new hc.1 hc.2 (hz'.2 this.1) t;rw [hz'.1] at hnew;exact hnew),fun u hu=>?_⟩
    ·simp [execOp,hop,Instr.box,newVar,newRow,hcell]
    ·cases hu
     exact ⟨V1.good_one.2 trivial,by simp [V.conc,V1.conc,Lf.conc,zbI,Off.val]⟩
  ·exact zac
 case load t x =>
  refine zaa (zad (Q:=fun v=>rd r ctx x=some v) fun a h=>h) fun v hv=>?_
  split
  ·rename_i b off
   refine zaa (zad (Q:=fun k=>tk P t=some k) fun a h=>h) fun k hk=>?_
   refine zaa (zad (Q:=fun k=>zaM P t=some k) fun a h=>h) fun sz hs=>?_
   refine zaa (zad (Q:=fun bk=>nth r.st.hp b=some bk) fun a h=>h) fun bk hbk=>?_
   split
   ·rename_i o cs
    by_cases hg:off.good ν
    ·refine zaa (zdT (own:=o) hk hs hg) fun v hl=>zab fun ρ a ha hc w hw _=>?_
     have hr:=zaj ha hc hv
     have:=hl ρ w (ρ b) (hw.heap.blk b _ hbk)
     exact ⟨this.1,.inl (by simp [execOp,hop,hr.2,V.conc,V1.conc,Lf.conc,Instr.loadAt,Instr.sureAddr,this.2])⟩
    ·refine zaa zap fun v _=>zab fun ρ a ha hc w hw _=>?_
     exact absurd ((zaj ha hc hv).1 (.p b off) (by simp [V1.cells])) hg
   ·rename_i o ts q
    refine zae (fun hfl=>?_) (fun hfl=>zae (fun hpl=>?_) (fun _=>zac))
    rotate_left
    ·by_cases hg:off.good ν
     ·refine zaa (zmG (E:=E) hk hs hg) fun z hz=>zab fun ρ a ha hc w hw _=>?_
      have hr:=zaj ha hc hv
      obtain ⟨z1,ρ',z2,z3,z4⟩:=hz ρ w hw hpl (ρ b) o (hw.heap.blk b _ hbk)
      have he:a.eval x = .pointer (some ⟨(ρ b).blk,(ρ b).off+off.val ν,none⟩):=hr.2
      exact .inl ⟨V1.conc ν ρ' z.1,w,by simp [execOp,hop,he,Instr.loadAt,Instr.sureAddr,z4],ρ',z2,z3,fun u hu=>by cases hu;exact ⟨z1,rfl⟩⟩
     ·refine zaa zap fun v _=>zab fun ρ a ha hc w hw _=>?_
      exact absurd ((zaj ha hc hv).1 (.p b off) (by simp [V1.cells])) hg
    by_cases hg:off.good ν
    ·refine zaa (zfQ (E:=E) hk hs hg) fun v hl=>zab fun ρ a ha hc w hw _=>?_
     have hr:=zaj ha hc hv
     have:=hl.2 ρ w (ρ b) o (hw.heap.blk b _ hbk)
     exact ⟨hl.1,.inl (by simp [execOp,hop,hr.2,V.conc,V1.conc,Lf.conc,Instr.loadAt,Instr.sureAddr,this])⟩
    ·refine zaa zap fun v _=>zab fun ρ a ha hc w hw _=>?_
     exact absurd ((zaj ha hc hv).1 (.p b off) (by simp [V1.cells])) hg
   ·rename_i o f ts q
    refine zae (fun hfl=>?_) (fun _=>zac)
    by_cases hg:off.good ν
    ·refine zaa (zfQ (E:=E) hk hs hg) fun v hl=>zab fun ρ a ha hc w hw _=>?_
     have hr:=zaj ha hc hv
     have:=hl.2 ρ w (ρ b) false (LRel.row (hw.heap.blk b _ hbk))
     exact ⟨hl.1,.inl (by simp [execOp,hop,hr.2,V.conc,V1.conc,Lf.conc,Instr.loadAt,Instr.sureAddr,this])⟩
    ·refine zaa zap fun v _=>zab fun ρ a ha hc w hw _=>?_
     exact absurd ((zaj ha hc hv).1 (.p b off) (by simp [V1.cells])) hg
   ·exact zac
   ·exact zac
  ·rename_i g off
   refine zaa (zad (Q:=fun k=>tk P t=some k) fun a h=>h) fun k hk=>?_
   refine zaa (zad (Q:=fun k=>zaM P t=some k) fun a h=>h) fun sz hs=>?_
   refine zaa (zad (Q:=fun cs=>assoc S.gs g=some cs) fun a h=>h) fun cs hcs=>?_
   by_cases hg:off.good ν
   ·refine zaa (zdT (own:=false) hk hs hg) fun v hl=>zae (fun hsc=>zab fun ρ a ha hc w hw hI=>?_) (fun _=>zac)
    have hr:=zaj ha hc hv
    obtain ⟨hg1,hg2⟩:=hS.globs g cs hcs w hI
    have hb:CBlk ν (fun _=>⟨g,0,false,0,0,none⟩) w ⟨g,0,false,0,0,none⟩ false (cs.map some):=⟨rfl,hg1,fun i l hi=>by
     rw [za1] at hi
     have:=hg2 i l hi ν (fun _=>⟨g,0,false,0,0,none⟩)
     simpa using this,fun h=>(by cases h),fun h=>by cases h⟩
    have:=hl (fun _=>⟨g,0,false,0,0,none⟩) w _ hb
    have hconc:v.conc ν (fun _=>⟨g,0,false,0,0,none⟩)=v.conc ν ρ:=V1.conc_scalar hsc _ _
    have h2:=this.2
    rw [hconc] at h2
    simp only [Nat.zero_add] at h2
    have hev:a.eval x = .pointer (some ⟨g,off.val ν,none⟩):=hr.2
    have h3:(execOp a.eval o).run P w=((loadVar t ⟨g,off.val ν,none⟩).run P w).andThen fun v w'=>.ok (.value v) w':=by
     simp [execOp,hop,hev,Instr.loadAt,Instr.sureAddr]
    exact ⟨this.1,.inl (by rw [h3,h2];rfl)⟩
   ·refine zaa zap fun v _=>zae (fun _=>zab fun ρ a ha hc w hw _=>?_) (fun _=>zac)
    exact absurd ((zaj ha hc hv).1 (.gp g off) (by simp [V1.cells])) hg
  ·exact zac
 case store t x y =>
  refine zaa (zjc (E:=E) hop) fun hp' h=>zab fun ρ a ha hc w hw _=>?_
  obtain ⟨w',h1,h2⟩:=h ρ a ha hc w hw
  exact .inr (.inl ⟨w',h1,ρ,fun _ _=>rfl,h2,fun u hu=>by cases hu⟩)
 case nilCheck x =>
  refine zaa (zad (Q:=fun v=>rd r ctx x=some v) fun a h=>h) fun v hv=>?_
  split
  ·refine zab fun ρ a ha hc=>?_
   have:=zaj ha hc hv
   exact ORok.now this.1 fun w _=>by simp [execOp,hop,this.2,V.conc,V1.conc,Lf.conc]
  ·refine zab fun ρ a ha hc=>?_
   have:=zaj ha hc hv
   exact ORok.now this.1 fun w _=>by simp [execOp,hop,this.2,V.conc,V1.conc,Lf.conc]
  ·rename_i b l
   by_cases hg:(Lf.alt b l).good ν
   ·refine zaa (zmS hg) fun z hz=>zab fun ρ a ha hc=>?_
    have:=zaj ha hc hv
    obtain ⟨e1,ad,e2⟩:=hz.2 ρ
    refine ORok.now (V1.good_one.2 hz.1) fun w _=>?_
    have e3:a.eval x = .pointer (some ad):=by rw [this.2,←e2,e1];rfl
    have e4:(V.s (.one z)).conc ν ρ = .pointer (some ad):=e2
    simp [execOp,hop,e3,e4]
   ·refine zaa zap fun z _=>zab fun ρ a ha hc=>?_
    exact absurd (V1.good_one.1 (zaj ha hc hv).1) hg
  ·exact zac
 case binOp op t x y yt =>
  refine zae (fun hy=>?_) (fun _=>?_)
  ·refine zaa (zad (Q:=fun v=>rd r ctx x=some v) fun a h=>h) fun v hv=>?_
   split
   ·rename_i b l
    refine zae (fun hif=>?_) (fun _=>zac)
    split
    ·exact zmU (neg:=false) hop hy hif hv
    ·exact zmU (neg:=true) hop hy hif hv
    ·exact zac
   ·rename_i l _
    refine zaa (zad (Q:=fun q=>zpb P op t l=some q) fun a h=>h) fun q hq=>zab fun ρ a ha hc=>?_
    have h1:=zaj ha hc hv
    refine ORok.now (V1.good_one.2 trivial) fun w _=>?_
    have h2:=zqi (ν:=ν) hq hy ρ x w a
    simp only [execOp,hop]
    have h3:a.eval x=l.conc ν ρ:=h1.2
    simp only [V.conc,V1.conc]
    rw [show (Lf.b (.t q)).conc ν ρ=Value.bool q from rfl,h3]
    simp [h2.1,h2.2]
   ·exact zac
  ·refine zaa (zad (Q:=fun v=>rd r ctx x=some v) fun a h=>h) fun v hv=>?_
   refine zaa (zad (Q:=fun v=>rd r ctx y=some v) fun a h=>h) fun u hu=>?_
   by_cases hg:v.good ν∧u.good ν
   ·refine zaa (zp7 hg.1 hg.2) fun z hz=>zab fun ρ a ha hc=>?_
    have h1:=zaj ha hc hv
    have h2:=zaj ha hc hu
    refine ORok.now hz.1 fun w _=>?_
    have:=hz.2 ρ w x y
    simp [execOp,hop,h1.2,h2.2,this.1,this.2]
   ·refine zaa zap fun z _=>zab fun ρ a ha hc=>?_
    exact absurd ⟨(zaj ha hc hv).1,(zaj ha hc hu).1⟩ hg
 case unOp op t x =>
  refine zaa (zad (Q:=fun v=>rd r ctx x=some v) fun a h=>h) fun v hv=>?_
  split
  ·rename_i l
   refine zaa (zdS fun ρ (w:World)=>ztk (P:=P) (ρ:=ρ) (w:=w)) fun z hz=>zab fun ρ a ha hc=>?_
   have h1:=zaj ha hc hv
   refine ORok.now (V1.good_one.2 hz.1) fun w _=>?_
   have:=hz.2 ρ w
   simp only [V.conc,V1.conc] at h1 ⊢
   simp [execOp,hop,h1.2,this]
  ·exact zac
 case convert s d x =>
  refine zaa (zad (Q:=fun v=>rd r ctx x=some v) fun a h=>h) fun v hv=>?_
  split
  ·rename_i q
   refine zaa (zp9 (E:=E)) fun z hz=>zab fun ρ a ha hc w hw _=>?_
   have h1:=zaj ha hc hv
   refine ⟨hz.1,.inl ?_⟩
   have:=hz.2 ρ w w hw rfl
   have h2:a.eval x=(Lf.vec q).conc ν ρ:=h1.2
   simp [execOp,hop,h2,this]
  ·rename_i l _
   refine zaa (zdS fun ρ (w:World)=>zp0 (P:=P) (ρ:=ρ) (w:=w)) fun z hz=>zab fun ρ a ha hc=>?_
   have h1:=zaj ha hc hv
   refine ORok.now (V1.good_one.2 hz.1) fun w _=>?_
   have:=hz.2 ρ w
   simp only [V.conc,V1.conc] at h1 ⊢
   simp [execOp,hop,h1.2,this]
  ·exact zac
 case fieldAddr t x f =>
  refine zaa (zad (Q:=fun v=>rd r ctx x=some v) fun a h=>h) fun v hv=>?_
  split
  ·rename_i l
   by_cases hg:l.good ν
   ·refine zaa (zjb hg) fun z hz=>zab fun ρ a ha hc=>?_
    have h1:=zaj ha hc hv
    refine ORok.now (V1.good_one.2 hz.1) fun w _=>?_
    have:=hz.2 ρ w
    simp only [V.conc,V1.conc] at h1 ⊢
    simp [execOp,hop,h1.2,this]
   ·refine zaa zap fun z _=>zab fun ρ a ha hc=>?_
    exact absurd (V1.good_one.1 (zaj ha hc hv).1) hg
  ·exact zac
 case field t x f =>
  refine zaa (zad (Q:=fun v=>rd r ctx x=some v) fun a h=>h) fun v hv=>?_
  split
  ·rename_i l
   by_cases hg:∀ y∈l,Lf.good ν y
   ·refine zaa (zog hg) fun z hz=>zab fun ρ a ha hc=>?_
    have h1:=zaj ha hc hv
    refine ORok.now hz.1 fun w _=>?_
    have:=hz.2 ρ w
    simp only [V.conc,V1.conc] at h1 ⊢
    simp [execOp,hop,h1.2,this]
    rfl
   ·refine zaa zap fun z _=>zab fun ρ a ha hc=>?_
    exact absurd (V1.good_agg.1 (zaj ha hc hv).1) hg
  ·exact zac
 case indexAddr t x ix =>
  refine zaa (zad (Q:=fun v=>rd r ctx x=some v) fun a h=>h) fun v hv=>?_
  refine zaa (zad (Q:=fun v=>rd r ctx ix=some v) fun a h=>h) fun u hu=>?_
  split
  ·rename_i b i
   refine zaa (zft (E:=E)) fun z hz=>zab fun ρ a ha hc w hw _=>?_
   have h1:=zaj ha hc hv
   have h2:=zaj ha hc hu
   refine ⟨V1.good_one.2 hz.1,.inl ?_⟩
   have:=hz.2 ρ w w hw
   simp only [V.conc,V1.conc] at h1 h2 ⊢
   simp only [Lf.conc] at h1
   simp [execOp,hop,h1.2,h2.2,this]
  ·rename_i l i _
   by_cases hg:l.good ν
   ·refine zaa (zeI hg) fun z hz=>zab fun ρ a ha hc=>?_
    have h1:=zaj ha hc hv
    have h2:=zaj ha hc hu
    refine ORok.now (V1.good_one.2 hz.1) fun w _=>?_
    have:=hz.2 ρ w
    simp only [V.conc,V1.conc] at h1 h2 ⊢
    simp [execOp,hop,h1.2,h2.2,this]
   ·refine zaa zap fun z _=>zab fun ρ a ha hc=>?_
    exact absurd (V1.good_one.1 (zaj ha hc hv).1) hg
  ·exact zac
 case index t x ix =>
  refine zaa (zad (Q:=fun v=>rd r ctx x=some v) fun a h=>h) fun v hv=>?_
  refine zaa (zad (Q:=fun v=>rd r ctx ix=some v) fun a h=>h) fun u hu=>?_
  split
  ·rename_i l i
   by_cases hg:∀ y∈l,Lf.good ν y
   ·refine zaa (zof hg) fun z hz=>zab fun ρ a ha hc=>?_
    have h1:=zaj ha hc hv
    have h2:=zaj ha hc hu
    refine ORok.now hz.1 fun w _=>?_
    have:=hz.2 ρ w
    simp only [V.conc,V1.conc] at h1 h2 ⊢
    simp [execOp,hop,h1.2,h2.2,this]
    rfl
   ·refine zaa zap fun z _=>zab fun ρ a ha hc=>?_
    exact absurd (V1.good_agg.1 (zaj ha hc hv).1) hg
  ·rename_i s ki i
   refine zaa (zad (Q:=fun d=>tk0 P t=some d) fun a h=>h) fun d hd=>?_
   split
   ·refine zaa zbU fun _ hb=>?_
    refine zaa (zag (Q:=fun r=>r.int ν=((s.data.toList.map fun b=>A.z b.toNat).map (A.int ν)).getD (i.int ν).toNat 0) fun r h=>A.int_of_den h) fun q hq=>zab fun ρ a ha hc=>?_
    have h1:=zaj ha hc hv
    have h2:=zaj ha hc hu
    refine ORok.now (V1.good_one.2 trivial) fun w _=>?_
    have hlt:(i.int ν).toNat<s.size:=by omega
    have h3:s[(i.int ν).toNat]? = some s[(i.int ν).toNat]:=by
     rw [getElem?_pos]
    have h4:q.int ν=(s[(i.int ν).toNat]).toNat:=by
     rw [hq,List.map_map,List.getD_eq_getElem?_getD,List.getElem?_map]
     have:s.data.toList[(i.int ν).toNat]? = some s[(i.int ν).toNat]:=by
      rw [Array.getElem?_toList]
      exact Array.getElem?_eq_getElem hlt
     rw [this]
     rfl
    simp only [V.conc,V1.conc,Lf.conc] at h1 h2 ⊢
    simp [execOp,hop,h1.2,h2.2,Instr.index,asIntOf,run_underlying hd,hb.1,h3,h4]
   ·exact zac
  ·exact zac
 case extract x n =>
  refine zaa (zad (Q:=fun v=>rd r ctx x=some v) fun a h=>h) fun v hv=>?_
  split
  ·rename_i l
   refine zaa (zad (Q:=fun u=>l[n]? = some u) fun a h=>h) fun u hu=>zab fun ρ a ha hc=>?_
   have h1:=zaj ha hc hv
   refine ORok.now (V.good_s.2 (h1.1 u (List.mem_of_getElem? hu))) fun w _=>?_
   simp [execOp,hop,h1.2,V.conc,Instr.extract,hu]
  ·exact zac
 case makeFunc fn first cap =>
  split
  ·rename_i f
   refine zaa (zad (Q:=fun vs=>zcz r ctx cap.toList=some vs) fun a h=>h) fun vs hvs=>?_
   refine zaa (zad (Q:=fun bs=>zbw zpV vs=some bs) fun a h=>h) fun bs hbs=>?_
   refine zae (fun he=>zab fun ρ a ha hc=>?_) (fun _=>zac)
   have h1:=zbJ ha hc hvs
   have h2:=zkH (ν:=ν) ρ hbs
   have h3:cap.map a.eval=za9 ρ bs:=by
    apply Array.ext'
    rw [Array.toList_map,h1,h2];simp [za9]
   have h4:first = #[]:=by simpa using he
   refine ORok.now (V1.good_one.2 trivial) fun w _=>?_
   simp [execOp,hop,Instr.makeFunc,h3,h4,V.conc,V1.conc,Lf.conc]
  ·exact zac
 case makeInterface t x =>
  refine zaa (zad (Q:=fun v=>rd r ctx x=some v) fun a h=>h) fun v hv=>?_
  split
  ·rename_i b
   refine zaa (zad (Q:=fun k=>tk P t=some k) fun a h=>h) fun k hk=>?_
   split
   ·rename_i e
    refine zab fun ρ a ha hc=>ORok.now (V1.good_one.2 trivial) fun w _=>?_
    have h1:=zaj ha hc hv
    have h2:=zhQ hk
    simp [execOp,hop,h1.2,Instr.makeInterface,underlying,h2,V.conc,V1.conc,Lf.conc,Off.val]
   ·exact zac
  ·exact zac
 case call c =>
  split
  ·rename_i x hf
   refine zaa (zad (Q:=fun p=>fnOf (rd r ctx x)=some p) fun a h=>h) fun ⟨f,bs⟩ hfn=>?_
   refine zaa (zad (Q:=fun vs=>zcz r ctx c.args.toList=some vs) fun a h=>h) fun vs hvs=>?_
   split
   ·rename_i add xa xb xq hbl hbs
    dsimp only at hbl hbs
    subst hbs
    refine zah (zoc (P:=P)) fun z hz ρ a ha hc=>?_
    obtain ⟨s,k,rfl,hr⟩:=hz
    have h1:=zbJ ha hc hvs
    have h0:=zjd ha hc hfn
    have h2:c.args.map a.eval = #[.int .u64 (xa.int ν),.int .u64 (xb.int ν),.int .u64 (xq.int ν)]:=by
     apply Array.ext'
     rw [Array.toList_map,h1];rfl
    refine ORok.now (fun u hu=>?_) fun w _=>?_
    ·rcases List.mem_cons.1 hu with rfl | hu
     ·exact V1.good_one.2 trivial
     ·rcases List.mem_cons.1 hu with rfl | hu
      ·exact V1.good_one.2 trivial
      ·cases hu
    ·have h3:=hr f hbl w
     have h4:za9 ρ [] = #[]:=rfl
     simp only [execOp,hop,resolve,hf,h0,Deferred.ofValue,invoke,pure_bind,h2,h4,Array.append_empty]
     exact h3
   ·exact zac
   ·rename_i vs q1 q2 q3 q4
    refine zah (zfU (E:=E) hS hE) fun z hz ρ a ha hc=>?_
    have h1:=zbJ ha hc hvs
    have h0:=zjd ha hc hfn
    have h2:c.args.map a.eval++za9 ρ bs=((vs++bs.map fun b=>V.s (.one (.p b (.c 0)))).map (V.conc ν ρ)).toArray:=by
     apply Array.ext'
     simp only [Array.toList_append,Array.toList_map,h1,za9,List.map_append,List.map_map]
     rfl
    have hgv:∀ v∈vs++bs.map fun b=>V.s (.one (.p b (.c 0))),V.good ν v:=fun v hv=>by
     rcases List.mem_append.1 hv with hv | hv
     ·exact zfa ha hc hvs v hv
     ·obtain ⟨b,_,rfl⟩:=List.mem_map.1 hv
      exact V.good_s.2 (V1.good_one.2 trivial)
    generalize vs++bs.map (fun b=>V.s (.one (.p b (.c 0))))=us at *
    have h5:∀ w,(callFunc f (us.map (V.conc ν ρ)).toArray).run P w = .ok (.enter f (us.map (V.conc ν ρ)).toArray) w→(execOp a.eval o).run P w = .ok (.enter f (us.map (V.conc ν ρ)).toArray) w:=fun w h4=>by
     rw [←h2] at h4 ⊢
     simp [execOp,hop,resolve,hf,h0,Deferred.ofValue,invoke]
     exact h4
    cases z with
    | val v =>
     intro w hw hI
     obtain ⟨h3,h4,h6⟩:=hz ρ w hgv hw hI
     exact ⟨h4,.inr ⟨f,_,h5 w h3,h6⟩⟩
    | hp v hp' =>
     intro w hw hI
     obtain ⟨h3,h4⟩:=hz ρ w hgv hw hI
     exact .inr (.inr ⟨f,_,h5 w h3,h4.mono fun e w' ⟨x,he,ρ',k1,k2,k3⟩=>⟨x,he,ρ',k1,k2,fun u hu=>⟨(k3 u hu).1,by rw [(k3 u hu).2]⟩⟩⟩)
  ·rename_i b hf
   refine zaa (zad (Q:=fun vs=>zcz r ctx c.args.toList=some vs) fun a h=>h) fun vs hvs=>?_
   have hargs:∀ ρ a,ARel ν ρ r a→zdz ctx a→c.args.map a.eval=(vs.map (V.conc ν ρ)).toArray:=fun ρ a ha hc=>by
    apply Array.ext'
    simpa using zbJ ha hc hvs
   split
   ·rename_i k x k' y
    refine zae (fun hk=>?_) (fun _=>zac)
    have:=zb7 hk;subst this
    split
    ·refine zab fun ρ a ha hc=>ORok.now (V1.good_one.2 trivial) fun w _=>?_
     simp [execOp,hop,resolve,hf,hargs ρ a ha hc,invoke,builtin,Builtin.max_,Builtin.max2,V.conc,V1.conc,Lf.conc,List.foldlM]
    ·refine zaa (zag (Q:=fun r=>r.bool ν=decide (y.int ν>x.int ν)) fun r h=>A.bool_of_den h) fun q hq=>?_
     refine zaa zcb fun z hz=>zab fun ρ a ha hc=>ORok.now (V1.good_one.2 trivial) fun w _=>?_
     rw [hq] at hz
     simp [execOp,hop,resolve,hf,hargs ρ a ha hc,invoke,builtin,Builtin.max_,Builtin.max2,V.conc,V1.conc,Lf.conc,List.foldlM,hz]
   ·rename_i k x k' y
    refine zae (fun hk=>?_) (fun _=>zac)
    have:=zb7 hk;subst this
    split
    ·refine zab fun ρ a ha hc=>ORok.now (V1.good_one.2 trivial) fun w _=>?_
     simp [execOp,hop,resolve,hf,hargs ρ a ha hc,invoke,builtin,Builtin.min_,Builtin.min2,V.conc,V1.conc,Lf.conc,List.foldlM]
    ·refine zaa (zag (Q:=fun r=>r.bool ν=decide (y.int ν<x.int ν)) fun r h=>A.bool_of_den h) fun q hq=>?_
     refine zaa zcb fun z hz=>zab fun ρ a ha hc=>ORok.now (V1.good_one.2 trivial) fun w _=>?_
     rw [hq] at hz
     simp [execOp,hop,resolve,hf,hargs ρ a ha hc,invoke,builtin,Builtin.min_,Builtin.min2,V.conc,V1.conc,Lf.conc,List.foldlM,hz]
   ·rename_i v
    refine zaa (zad (Q:=fun t=>c.argTypes[0]? = some t) fun a h=>h) fun t ht=>?_
    refine zaa (zmE (E:=E)) fun z hz=>zab fun ρ a ha hc w hw _=>⟨hz.1,.inl ?_⟩
    have:=hz.2 ρ w w o.type c.argTypes ht hw
    simp [execOp,hop,resolve,hf,hargs ρ a ha hc,invoke,builtin,this]
   ·rename_i s x
    refine zaa (zad (Q:=fun t=>c.argTypes[0]? = some t) fun a h=>h) fun t ht=>?_
    refine zaa (zad (Q:=fun t=>c.argTypes[1]? = some t) fun a h=>h) fun tx htx=>?_
    refine zah (zlJ (E:=E)) fun z hz ρ a ha hc=>?_
    refine za8.run (y:=Builtin.append_ c.argTypes o.type #[s.conc ν ρ,x.conc ν ρ]) (fun w v w' h=>?_) (fun w hw=>?_)
    ·simp [execOp,hop,resolve,hf,hargs ρ a ha hc,invoke,builtin,h]
    ·obtain ⟨v,w',h1,h2⟩:=hz ρ w o.type hw
     refine ⟨v,w',?_,h2⟩
     rw [←h1]
     simp only [Builtin.append_,ht,htx,List.getElem?_toArray,List.getElem?_cons_zero,List.getElem?_cons_succ]
   ·exact zac
  ·rename_i x name hf
   refine zaa (zad (Q:=fun v=>rd r ctx x=some v) fun a h=>h) fun v hv=>?_
   split
   ·rename_i t b
    refine zaa (zad (Q:=fun f=>zc4 P t name=some f) fun a h=>h) fun f hfn=>?_
    refine zaa (zad (Q:=fun vs=>zcz r ctx c.args.toList=some vs) fun a h=>h) fun vs hvs=>?_
    refine zah (zfU (E:=E) hS hE) fun z hz ρ a ha hc=>?_
    have h1:=zbJ ha hc hvs
    have h0:=(zaj ha hc hv).2
    have h2 : #[(V.s (.one (.p b (.c 0)))).conc ν ρ]++c.args.map a.eval=((V.s (.one (.p b (.c 0)))::vs).map (V.conc ν ρ)).toArray:=by
     apply Array.ext'
     simp only [Array.toList_append,Array.toList_map,h1,List.map_cons]
     rfl
    have hgv:∀ v∈V.s (.one (.p b (.c 0)))::vs,V.good ν v:=fun v hv=>by
     rcases List.mem_cons.1 hv with rfl | hv
     ·exact V.good_s.2 (V1.good_one.2 trivial)
     ·exact zfa ha hc hvs v hv
    have h6:a.eval x = .iface t ((V.s (.one (.p b (.c 0)))).conc ν ρ):=h0
    have h5:∀ w,(callFunc f ((V.s (.one (.p b (.c 0)))::vs).map (V.conc ν ρ)).toArray).run P w = .ok (.enter f ((V.s (.one (.p b (.c 0)))::vs).map (V.conc ν ρ)).toArray) w →
      (execOp a.eval o).run P w = .ok (.enter f ((V.s (.one (.p b (.c 0)))::vs).map (V.conc ν ρ)).toArray) w:=fun w h4=>by
     rw [←h4,←h2]
     have:=zkC (P:=P) hfn ((V.s (.one (.p b (.c 0)))).conc ν ρ) (c.args.map a.eval) w
     rw [←this,←h6]
     simp only [execOp,hop,resolve,hf,pure_bind]
    generalize V.s (.one (.p b (.c 0)))::vs=us at *
    cases z with
    | val v =>
     intro w hw hI
     obtain ⟨h3,h4,h6⟩:=hz ρ w hgv hw hI
     exact ⟨h4,.inr ⟨f,_,h5 w h3,h6⟩⟩
    | hp v hp' =>
     intro w hw hI
     obtain ⟨h3,h4⟩:=hz ρ w hgv hw hI
     exact .inr (.inr ⟨f,_,h5 w h3,h4.mono fun e w' ⟨x,he,ρ',k1,k2,k3⟩=>⟨x,he,ρ',k1,k2,fun u hu=>⟨(k3 u hu).1,by rw [(k3 u hu).2]⟩⟩⟩)
   ·rename_i b l
    refine zaa (zad (Q:=fun v=>zcz r ctx c.args.toList=some v) fun a h=>h) fun vs hvs=>?_
    exact zae (fun hok=>zrz hS hE hop hf hv hvs (by simp only [Bool.and_eq_true] at hok;exact hok.1)) (fun _=>zac)
   ·exact zac
 case buildSlice t len parts =>
  refine zaa (zad (Q:=fun v=>zcM r ctx parts.toList=some v) fun a h=>h) fun ps hps=>?_
  by_cases hg:∀ p∈ps,p.2.good ν
  ·refine zah (zh2 (E:=E) hg) fun z hz ρ a ha hc=>?_
   have h1:=zc8 ha hc hps
   have h3:(parts.map fun (p:Nat×Operand)=>(p.1,a.eval p.2))=(ps.map fun p=>(p.1,p.2.conc ν ρ)).toArray:=by
    apply Array.ext'
    simpa using h1.1
   refine za8.run (y:=Instr.buildSlice t len (ps.map fun p=>(p.1,p.2.conc ν ρ)).toArray) (fun w v w' h=>?_) (hz ρ)
   rw [←h3] at h
   simp only [execOp,hop]
   simp [h]
  ·refine zah zap fun z _ ρ a ha hc=>?_
   exact absurd (zc8 ha hc hps).2 hg
 case makeSlice t l c =>
  refine zaa (zad (Q:=fun v=>rd r ctx l=some v) fun a h=>h) fun v hv=>?_
  refine zaa (zad (Q:=fun v=>rd r ctx c=some v) fun a h=>h) fun u hu=>?_
  split
  ·rename_i x y
   refine zah (zqa (E:=E)) fun z hz ρ a ha hc=>?_
   have h1:=zaj ha hc hv
   have h2:=zaj ha hc hu
   refine za8.run (y:=Instr.makeSlice t (x.conc ν ρ) (y.conc ν ρ)) (fun w v w' h=>?_) (hz ρ)
   simp only [V.conc,V1.conc] at h1 h2
   simp [execOp,hop,h1.2,h2.2,h]
  ·exact zac
 case slice t x low high max =>
  refine zaa (zad (Q:=fun v=>rd r ctx x=some v) fun a h=>h) fun v hv=>?_
  refine zaa (zad (Q:=fun v=>zer r ctx low=some v) fun a h=>h) fun lo hlo=>?_
  refine zaa (zad (Q:=fun v=>zer r ctx high=some v) fun a h=>h) fun hi hhi=>?_
  refine zaa (zad (Q:=fun v=>zer r ctx max=some v) fun a h=>h) fun mx hmx=>?_
  refine zah (zmQ (E:=E)) fun z hz ρ a ha hc=>?_
  have h1:=zaj ha hc hv
  refine za8.run (y:=Instr.sliceAt t (v.conc ν ρ) (lo.map (Lf.conc ν ρ)) (hi.map (Lf.conc ν ρ)) (mx.map (Lf.conc ν ρ))) (fun w v w' h=>?_) (hz ρ)
  rw [←zeJ ha hc hlo,←zeJ ha hc hhi,←zeJ ha hc hmx] at h
  simp [execOp,hop,h1.2,h]
 all_goals exact zac
end
end Go.Sx
namespace Go.Sx
open Go.RowKit
section
variable {P:Program} {I:World→Prop} {S:Sigs} {F:FEnv} {E:Env} {gK:Nat} {ν:Nat→DV}
theorem zcG (a:Act) (d:Nat) (v:Value):a.put (some d) v = { a with tmps:=a.tmps.setIfInBounds d v }:=rfl
theorem zfv {d:Nat} {l:List GE} (h:zit d l=true):∀ e∈l,e.d≠d:=by
 intro e he hd
 have:=List.all_eq_true.1 h e he
 simp [hd] at this
theorem zje {t:Nat} {l:List GE} {e:GE} (h:e∈zpe t l):e∈l∧e.t≠t:=by
 unfold zpe at h
 have:=List.mem_filter.1 h
 refine ⟨this.1,fun ht=>?_⟩
 have h2:=this.2
 simp [ht] at h2
theorem zbT {r:RS} {dst:Option Tmp} {ov:Option V} : M.sat F ν (r.put dst ov) (fun r'=>r'.st.hp=r.st.hp∧∀ ρ a (x:Value),ARel ν ρ r a→(∀ v,ov=some v→v.good ν∧x=v.conc ν ρ) →
  ARel ν ρ r' (a.put dst x)):=by
 unfold RS.put
 cases dst with
 | none=>exact zab ⟨rfl,fun ρ a x h _=>h⟩
 | some d =>
  refine zae (fun hn=>zab ⟨rfl,fun ρ a x h hv=>?_⟩) (fun _=>zac)
  have hn:=zfv hn
  refine ⟨h.defers,by simp [zcG,zai,h.size],fun t v ht=>?_,fun e he=>?_⟩
  ·by_cases htd:d=t
   ·subst htd
    simp only at ht
    rw [zaq] at ht
    split at ht
    ·rename_i hlt
     obtain ⟨h1,h2⟩:=hv v ht
     refine ⟨h1,?_⟩
     rw [zcG,h2]
     simp [h.size,hlt]
    ·cases ht
   ·simp only at ht
    rw [zau _ _ _ _ htd] at ht
    have:=h.slot t v ht
    refine ⟨this.1,?_⟩
    rw [zcG]
    simp only
    rw [Array.getElem?_setIfInBounds_ne htd]
    exact this.2
  ·obtain ⟨h1,h2⟩:=zje he
   have hd:=hn e h1
   have:=h.gl e h1
   rw [zcG]
   simp only
   rw [Array.getElem?_setIfInBounds_ne (Ne.symm hd),Array.getElem?_setIfInBounds_ne (Ne.symm h2)]
   exact this
theorem zif {r:RS} {dst:Option Tmp} {v:V} {d:Nat} {want:Bool} : M.sat F ν (r.putG dst v d want) (fun r'=>r'.st.hp=r.st.hp∧∀ ρ a (x:Value),ARel ν ρ r a →
  (a.tmps[d]? = some (.bool want)→v.good ν∧x=v.conc ν ρ)→(a.tmps[d]?≠some (.bool want)→x=undef)→ARel ν ρ r' (a.put dst x)):=by
 unfold RS.putG
 cases dst with
 | none=>exact zab ⟨rfl,fun ρ a x h _ _=>h⟩
 | some t =>
  refine zae (fun hc=>zab ⟨rfl,fun ρ a x h h1 h2=>?_⟩) (fun _=>zac)
  simp only [Bool.and_eq_true,Bool.not_eq_true',decide_eq_true_eq] at hc
  obtain ⟨⟨hn,htd⟩,hlt⟩:=hc
  have hn:=zfv hn
  have htd:t≠d:=by intro e;subst e;simp at htd
  have hd:(a.put (some t) x).tmps[d]? = a.tmps[d]?:=by
   rw [zcG];simp only;rw [Array.getElem?_setIfInBounds_ne htd]
  have ht:(a.put (some t) x).tmps[t]? = some x:=by
   rw [zcG];simp [h.size,hlt]
  refine ⟨h.defers,by simp [zcG,zai,h.size],fun t' v' ht'=>?_,fun e he=>?_⟩
  ·by_cases hne:t=t'
   ·subst hne
    simp only at ht'
    rw [zaq] at ht'
    split at ht'<;>cases ht'
   ·simp only at ht'
    rw [zau _ _ _ _ hne] at ht'
    have:=h.slot t' v' ht'
    refine ⟨this.1,?_⟩
    rw [zcG];simp only;rw [Array.getElem?_setIfInBounds_ne hne]
    exact this.2
  ·rcases List.mem_cons.1 he with rfl | he
   ·simp only [hd,ht]
    exact ⟨fun hw=>by obtain ⟨g1,g2⟩:=h1 hw;exact ⟨g1,by rw [g2]⟩,fun hw=>by rw [h2 hw]⟩
   ·obtain ⟨h3,h4⟩:=zje he
    have hd:=hn e h3
    have:=h.gl e h3
    rw [zcG]
    simp only
    rw [Array.getElem?_setIfInBounds_ne (Ne.symm hd),Array.getElem?_setIfInBounds_ne (Ne.symm h4)]
    exact this
theorem zhV {t:Nat} : ∀ {l:List GE} {e:GE},zg6 t l=some e→e∈l∧e.t=t
 | [],_,h=>by simp [zg6] at h
 | x::l,e,h=>by
  simp only [zg6] at h
  split at h
  ·cases h;exact ⟨by simp,Nat.eq_of_beq_eq_true ‹_›⟩
  ·obtain ⟨h1,h2⟩:=zhV h
   exact ⟨List.mem_cons_of_mem _ h1,h2⟩
def zwZ (ν:Nat→DV) (a:Act) (d:Nat) (want:Bool):Option (Ctx×List (A×Bool))→Prop
 | none=>a.tmps[d]?≠some (.bool want)
 | some (ctx,cs)=>(a.tmps[d]? = some (.bool want)→zdz ctx a∧∀ c∈cs,c.1.bool ν=c.2)∧(ctx=[]→a.tmps[d]? = some (.bool want))∧((∀ c∈cs,c.1.bool ν=c.2)→a.tmps[d]? = some (.bool want))
theorem zas {ρ:Nat→Loc} {r:RS} {a:Act} (h:ARel ν ρ r a):∀ (n d:Nat) (want:Bool) {res:Option (Ctx×List (A×Bool))},zbN r n d want=some res→zwZ ν a d want res
 | 0,_,_,_,hg=>by simp [zbN] at hg
 | n+1,d,want,res,hg=>by
  simp only [zbN] at hg
  split at hg
  ·rename_i x hs
   have hv:=(h.slot d _ hs).2
   split at hg
   ·rename_i hb
    have:=zcO hb;subst this
    cases hg
    exact ⟨fun _=>⟨fun p hp=>by simp at hp,fun c hc=>by simp at hc⟩,fun _=>hv,fun _=>hv⟩
   ·rename_i hb
    cases hg
    have hne:=znV hb
    intro heq
    rw [hv] at heq
    simp [V.conc,V1.conc,Lf.conc] at heq
    exact hne heq
  ·rename_i x _ hs
   have hv:=(h.slot d _ hs).2
   cases hg
   refine ⟨fun heq=>⟨fun p hp=>by simp at hp;subst hp;exact heq,fun c hc=>?_⟩,fun hc=>by simp at hc,fun hc=>?_⟩
   ·simp at hc;subst hc
    rw [hv] at heq
    simpa [V.conc,V1.conc,Lf.conc] using heq
   ·have:=hc (x,want) (by simp)
    rw [hv]
    simp only at this
    simp [V.conc,V1.conc,Lf.conc,this]
  ·rename_i x hs
   have hv:=(h.slot d _ hs).2
   cases hg
   intro heq
   rw [hv] at heq
   simp [V.conc,V1.conc,Lf.conc] at heq
  ·cases hg
  ·split at hg
   ·rename_i e he
    obtain ⟨hmem,rfl⟩:=zhV he
    have hgl:=h.gl e hmem
    split at hg
    ·rename_i x hev
     split at hg
     ·rename_i ctx cs hrec
      have ih:=zas h n e.d e.want hrec
      have hguard:∀ b,a.tmps[e.t]? = some (.bool b)→a.tmps[e.d]? = some (.bool e.want):=fun b hb=>by
       by_cases hw:a.tmps[e.d]? = some (.bool e.want)
       ·exact hw
       ·have:=hgl.2 hw
        rw [this] at hb
        simp [undef] at hb
      split at hg
      ·rename_i y
       split at hg
       ·rename_i hb
        have:=zcO hb;subst this
        cases hg
        refine ⟨fun heq=>?_,fun hc=>by simp at hc,fun hc=>?_⟩
        ·have h1:=ih.1 (hguard _ heq)
         refine ⟨fun p hp=>?_,h1.2⟩
         rcases List.mem_cons.1 hp with rfl | hp
         ·exact heq
         ·exact h1.1 p hp
        ·have:=(hgl.1 (ih.2.2 hc)).2
         rw [this,hev]
         rfl
       ·rename_i hb
        cases hg
        intro heq
        have h1:=(hgl.1 (hguard _ heq)).2
        rw [h1,hev] at heq
        simp [V.conc,V1.conc,Lf.conc] at heq
        exact znV hb heq
      ·cases hg
       refine ⟨fun heq=>?_,fun hc=>by simp at hc,fun hc=>?_⟩
       ·have h1:=ih.1 (hguard _ heq)
        refine ⟨fun p hp=>?_,fun c hc=>?_⟩
        ·rcases List.mem_cons.1 hp with rfl | hp
         ·exact heq
         ·exact h1.1 p hp
        ·rcases List.mem_cons.1 hc with rfl | hc
         ·have h2:=(hgl.1 (hguard _ heq)).2
          rw [h2,hev] at heq
          simpa [V.conc,V1.conc,Lf.conc] using heq
         ·exact h1.2 c hc
       ·have:=(hgl.1 (ih.2.2 fun c hcm=>hc c (List.mem_cons_of_mem _ hcm))).2
        rw [this,hev]
        have h2:=hc (x,want) (by simp)
        simp only at h2
        simp [V.conc,V1.conc,Lf.conc,h2]
     ·rename_i hrec
      cases hg
      have ih:=zas h n e.d e.want hrec
      intro heq
      have:=hgl.2 ih
      rw [this] at heq
      simp [undef] at heq
     ·cases hg
    ·cases hg
   ·cases hg
theorem zfW {o:Oper} {ops:Array Oper} {a:Act} {j d:Nat} {want:Bool} (hg:o.guard=some (j,want)) (hd:(ops[j]?).bind (·.dst)=some d) :
  Region.wanted o (yielded ops a.tmps)=true↔a.tmps[d]? = some (.bool want):=by
 simp only [Region.wanted,hg,yielded,hd,Option.bind_some]
 cases ht:a.tmps[d]? with
 | none=>simp
 | some v=>cases v<;>simp
def zmV (P:Program) (ν:Nat→DV) (E:Env) (ops:Array Oper) (o:Oper) (r r':RS):Prop :=
 ∀ ρ a w,RR ν E ρ r a w→∀ (K:Act→World→Prop) (Q:Exit→Act→World→Prop),(∀ ρ' a' w',RR ν E ρ' r' a' w'→K a' w') →
  if Region.wanted o (yielded ops a.tmps)=true then o.wp P a w K Q else K (a.put o.dst undef) w
def zlK (P:Program) (ν:Nat→DV) (E:Env) (ops:Array Oper) (o:Oper) (r r':RS):Prop :=
 r'.st.hp=r.st.hp∧∀ ρ a,ARel ν ρ r a→(∃ w,HS E ν ρ r.st.hp w)→∀ C:World→Prop,C=(fun w=>HS E ν ρ r.st.hp w) →
  if Region.wanted o (yielded ops a.tmps)=true then ∃ v,(∀ w,C w→o.quietAt P a C w v)∧ARel ν ρ r' (a.put o.dst v) else ARel ν ρ r' (a.put o.dst undef)
theorem zmW {o:Oper} {a:Act} {w:World} {v:Value} {K:Act→World→Prop} {Q:Exit→Act→World→Prop} (h:zlB P (execOp a.eval o) w v)
  (hk:∀ w',Below w.heap.size w w'→K (a.put o.dst v) w'):o.wp P a w K Q:=by
 unfold Oper.wp
 rcases h with h | ⟨f,args,h,hc⟩
 ·rw [h];exact hk w (Below.refl _ _)
 ·rw [h]
  exact hc.mono fun e w' ⟨he,hb⟩=>by subst he;exact hk w' hb
theorem zmX {o:Oper} {a:Act} {w w':World} {K:Act→World→Prop} {Q:Exit→Act→World→Prop} (h:(execOp a.eval o).run P w = .ok .skip w') (hk:K (a.put o.dst undef) w'):o.wp P a w K Q:=by
 unfold Oper.wp
 rw [h];exact hk
theorem ARel.ext {ρ ρ':Nat→Loc} {r:RS} {a:Act} {n:Nat} (h:ARel ν ρ r a) (hρ:∀ j,j<n→ρ' j=ρ j) (h1:r.st.sl.all (zao (V.lt n))=true) (h2:r.gl.all (fun e=>e.v.lt n)=true) (hp:List (Option Blk)) :
  ARel ν ρ' ⟨⟨r.st.sl,hp⟩,r.gl⟩ a:=by
 have hl:∀ l:Lf,l.lt n=true→l.conc ν ρ'=l.conc ν ρ:=fun l hl=>by
  exact Lf.keep_spec hρ hl
 have hv1:∀ v:V1,v.lt n=true→v.conc ν ρ'=v.conc ν ρ:=fun v hv=>by
  cases v with
  | one l=>exact hl l (by simpa [V1.lt,V1.cells] using hv)
  | agg l =>
   simp only [V1.conc]
   congr 2
   exact List.map_congr_left fun x hx=>hl x (List.all_eq_true.1 hv x hx)
 have hv:∀ v:V,v.lt n=true→v.conc ν ρ'=v.conc ν ρ:=fun v hv=>by
  cases v with
  | s v=>exact hv1 v hv
  | t l =>
   simp only [V.conc]
   congr 2
   exact List.map_congr_left fun x hx=>hv1 x (List.all_eq_true.1 hv x hx)
 refine ⟨h.defers,h.size,fun t v ht=>?_,fun e he=>?_⟩
 ·obtain ⟨g1,g2⟩:=h.slot t v ht
  exact ⟨g1,by rw [hv v (zam h1 ht)];exact g2⟩
 ·have:=h.gl e he
  rw [hv e.v (List.all_eq_true.1 h2 e he)]
  exact this
theorem zoh (hI:∀ w,Fr E.W E.w0 w→I w) {ops:Array Oper} {o:Oper} {r:RS} {x:OR} (hw:∀ ρ a,ARel ν ρ r a→Region.wanted o (yielded ops a.tmps)=true)
  (hx:∀ ρ a,ARel ν ρ r a→ORok P I E ν ρ r.st.hp (execOp a.eval o) x):M.sat F ν (zet false r o.dst x) (zmV P ν E ops o r):=by
 cases x with
 | val v =>
  refine zah zbT fun r' hr' ρ a w hrr K Q hK=>?_
  rw [if_pos (hw ρ a hrr.act)]
  obtain ⟨hg,hrun⟩:=hx ρ a hrr.act w hrr.hs (hI w hrr.hs.fr)
  refine zmW hrun fun w' hb=>hK ρ _ w' ?_
  have:=hrr.below hb
  exact ⟨hr'.2 ρ a _ hrr.act (fun v' hv'=>by cases hv';exact ⟨hg,rfl⟩),by rw [hr'.1];exact this.hs⟩
 | hp v hp' =>
  unfold zet
  refine zae (fun hc=>?_) (fun _=>zac)
  simp only [Bool.not_false,Bool.true_and,Bool.and_eq_true] at hc
  refine zah zbT fun r' hr' ρ a w hrr K Q hK=>?_
  rw [if_pos (hw ρ a hrr.act)]
  have hrun:=hx ρ a hrr.act w hrr.hs (hI w hrr.hs.fr)
  have fin:∀ (nv:Option Value) (y:Value) (w':World),(∀ z,nv=some z→y=z)→(∃ ρ':Nat→Loc,(∀ j,j<r.st.hp.length→ρ' j=ρ j)∧HS E ν ρ' hp' w'∧∀ u,v=some u→u.good ν∧nv=some (u.conc ν ρ'))→K (a.put o.dst y) w':=by
   rintro nv y w' hy ⟨ρ',k1,k2,k3⟩
   refine hK ρ' _ w' ⟨hr'.2 ρ' a y (hrr.act.ext k1 hc.1 hc.2 hp') (fun u hu=>?_),by rw [hr'.1];exact k2⟩
   obtain ⟨g1,g2⟩:=k3 u hu
   exact ⟨g1,hy _ g2⟩
  rcases hrun with ⟨z,w',h1,h2⟩ | ⟨w',h1,h2⟩ | ⟨f,args,h1,h2⟩
  ·unfold Oper.wp
   rw [h1]
   exact fin _ z w' (fun z' e=>by cases e;rfl) h2
  ·exact zmX h1 (fin _ undef w' (fun z' e=>by cases e) h2)
  ·unfold Oper.wp
   rw [h1]
   exact h2.mono fun e w' ⟨z,he,h3⟩=>by subst he;exact fin _ z w' (fun z' e=>by cases e;rfl) h3
theorem zhW {o:Oper} {a:Act} {ρ:Nat→Loc} {hp:List (Option Blk)} {v:Value} {C:World→Prop} (hC:C=fun w=>HS E ν ρ hp w)
  (h:∀ w,HS E ν ρ hp w→zlB P (execOp a.eval o) w v):∀ w,C w→o.quietAt P a C w v:=by
 intro w hw
 have hw':HS E ν ρ hp w:=by rw [hC] at hw;exact hw
 unfold Oper.quietAt
 rcases h w hw' with h | ⟨f,args,h,hc⟩
 ·rw [h];exact ⟨rfl,rfl⟩
 ·rw [h]
  refine ⟨rfl,hc.mono fun e w'' ⟨he,hb⟩=>⟨he,?_⟩⟩
  rw [hC]
  exact hw'.of_below hb
theorem zmY (hI:∀ w,Fr E.W E.w0 w→I w) {ops:Array Oper} {o:Oper} {r:RS} {x:OR} (hw:∀ ρ a,ARel ν ρ r a→Region.wanted o (yielded ops a.tmps)=true)
  (hx:∀ ρ a,ARel ν ρ r a→ORok P I E ν ρ r.st.hp (execOp a.eval o) x):M.sat F ν (zet true r o.dst x) (zlK P ν E ops o r):=by
 cases x with
 | val v =>
  refine zah zbT fun r' hr'=>⟨hr'.1,fun ρ a ha hex C hC=>?_⟩
  rw [if_pos (hw ρ a ha)]
  obtain ⟨w,hw1⟩:=hex
  refine ⟨v.conc ν ρ,zhW hC fun w hw=>(hx ρ a ha w hw (hI w hw.fr)).2,hr'.2 ρ a _ ha fun v' hv'=>?_⟩
  cases hv';exact ⟨(hx ρ a ha w hw1 (hI w hw1.fr)).1,rfl⟩
 | hp v hp'=>unfold zet;simp only [Bool.not_true,Bool.false_and,Bool.false_eq_true,if_false];exact zac
theorem zmZ (hI:∀ w,Fr E.W E.w0 w→I w) {ops:Array Oper} {o:Oper} {r:RS} {d:Nat} {want:Bool} {x:OR} (hw:∀ (a:Act),Region.wanted o (yielded ops a.tmps)=true↔a.tmps[d]? = some (.bool want))
  (hx:∀ ρ a,ARel ν ρ r a→a.tmps[d]? = some (.bool want)→ORok P I E ν ρ r.st.hp (execOp a.eval o) x) :
  M.sat F ν (zlq r o.dst d want x) (fun r'=>zmV P ν E ops o r r'∧zlK P ν E ops o r r'):=by
 cases x with
 | val v =>
  refine zah zif fun r' hr'=>⟨fun ρ a w hrr K Q hK=>?_,hr'.1,fun ρ a ha hex C hC=>?_⟩
  ·by_cases hg:Region.wanted o (yielded ops a.tmps)=true
   ·rw [if_pos hg]
    have hd:=(hw a).1 hg
    obtain ⟨hgood,hrun⟩:=hx ρ a hrr.act hd w hrr.hs (hI w hrr.hs.fr)
    refine zmW hrun fun w' hb=>hK ρ _ w' ?_
    have:=hrr.below hb
    exact ⟨hr'.2 ρ a _ hrr.act (fun _=>⟨hgood,rfl⟩) (fun hn=>absurd hd hn),by rw [hr'.1];exact this.hs⟩
   ·rw [if_neg hg]
    have hd:a.tmps[d]?≠some (.bool want):=fun h=>hg ((hw a).2 h)
    exact hK ρ _ w ⟨hr'.2 ρ a _ hrr.act (fun h=>absurd h hd) (fun _=>rfl),by rw [hr'.1];exact hrr.hs⟩
  ·by_cases hg:Region.wanted o (yielded ops a.tmps)=true
   ·rw [if_pos hg]
    have hd:=(hw a).1 hg
    obtain ⟨w,hw1⟩:=hex
    exact ⟨v.conc ν ρ,zhW hC fun w hw=>(hx ρ a ha hd w hw (hI w hw.fr)).2,hr'.2 ρ a _ ha (fun _=>⟨(hx ρ a ha hd w hw1 (hI w hw1.fr)).1,rfl⟩) (fun hn=>absurd hd hn)⟩
   ·rw [if_neg hg]
    have hd:a.tmps[d]?≠some (.bool want):=fun h=>hg ((hw a).2 h)
    exact hr'.2 ρ a _ ha (fun h=>absurd h hd) (fun _=>rfl)
 | hp v hp'=>exact zac
theorem zlL:∀ (cs:List (A×Bool)),M.sat F ν (conj cs) (fun c=>c.bool ν=true↔∀ p∈cs,p.1.bool ν=p.2)
 | []=>zab ⟨fun _ p hp=>(by cases hp),fun _=>rfl⟩
 | (a,b)::l=>by
  unfold conj
  refine zaa (R:=fun x=>x.bool ν=true↔a.bool ν=b) ?_ fun x hx=>zaa (zlL l) fun r hr=>zah ziE fun c hc=>?_
  ·cases b
   ·exact zah zex fun r hr=>by rw [hr];simp
   ·exact zab Iff.rfl
  ·rw [hc,Bool.and_eq_true,hx,hr]
   constructor
   ·rintro ⟨h1,h2⟩ p hp
    rcases List.mem_cons.1 hp with rfl | hp
    ·exact h1
    ·exact h2 p hp
   ·intro h
    exact ⟨h (a,b) (by simp),fun p hp=>h p (List.mem_cons_of_mem _ hp)⟩
theorem V.conc_agree {n:Nat} {ρ ρ':Nat→Loc} (hρ:∀ j,j<n→ρ' j=ρ j) {v:V} (hv:v.lt n=true):v.conc ν ρ'=v.conc ν ρ:=by
 have hl:∀ l:Lf,l.lt n=true→l.conc ν ρ'=l.conc ν ρ:=fun l hl=>by
  exact Lf.keep_spec hρ hl
 have hv1:∀ v:V1,v.lt n=true→v.conc ν ρ'=v.conc ν ρ:=fun v hv=>by
  cases v with
  | one l=>exact hl l (by simpa [V1.lt,V1.cells] using hv)
  | agg l =>
   simp only [V1.conc]
   congr 2
   exact List.map_congr_left fun x hx=>hl x (List.all_eq_true.1 hv x hx)
 cases v with
 | s v=>exact hv1 v hv
 | t l =>
  simp only [V.conc]
  congr 2
  exact List.map_congr_left fun x hx=>hv1 x (List.all_eq_true.1 hv x hx)
theorem HS.pushNone {ρ:Nat→Loc} {hp:List (Option Blk)} {w:World} (h:HS E ν ρ hp w):HS E ν ρ (hp++[none]) w:=by
 have hn:∀ j bk,nth (hp++[none]) j=some bk→nth hp j=some bk:=fun j bk hj=>by
  rw [zaL] at hj
  split at hj
  ·exact hj
  ·cases hk:j-hp.length with
   | zero=>rw [hk] at hj;cases hj
   | succ k=>rw [hk] at hj;cases k<;>cases hj
 exact ⟨⟨fun j bk hj=>h.heap.blk j bk (hn j bk hj),fun j j' bk bk' hj ho hj'=>h.heap.apart j j' bk bk' (hn j bk hj) ho (hn j' bk' hj')⟩,fun j bk hj=>h.old j bk (hn j bk hj),h.fr,by rw [List.length_append];have:=h.len;omega,h.keep⟩
theorem zkI {hp:List (Option Blk)} {b:Option Blk} (h:hpLt hp=true) (hb:b=none∨∃ o ts a,b=some (.v o ts a)):hpLt (hp++[b])=true:=by
 unfold hpLt at h ⊢
 rw [List.all_append,Bool.and_eq_true,List.length_append]
 refine ⟨List.all_eq_true.2 fun y hy=>?_,?_⟩
 ·have:=List.all_eq_true.1 h y hy
  cases y with
  | none=>rfl
  | some y=>exact Blk.lt_mono (Nat.le_add_right _ _) this
 ·rcases hb with rfl | ⟨o,ts,a,rfl⟩<;>rfl
theorem zcr:∀ (l:List (Option Blk)),M.sat F ν (zdR l) (fun t=>t.length=l.length∧∀ ρ hp w,HS E ν ρ hp w→hpLt hp=true→∃ ρ',(∀ j,j<hp.length→ρ' j=ρ j)∧HS E ν ρ' (hp++t) w)
 | []=>zab ⟨rfl,fun ρ hp w h _=>⟨ρ,fun _ _=>rfl,by rw [List.append_nil];exact h⟩⟩
 | b::l=>by
  have skip:∀ {r:List (Option Blk)},(r.length=l.length∧∀ ρ hp w,HS E ν ρ hp w→hpLt hp=true→∃ ρ',(∀ j,j<hp.length→ρ' j=ρ j)∧HS E ν ρ' (hp++r) w) →
    ((none::r:List (Option Blk)).length=(b::l).length∧∀ ρ hp w,HS E ν ρ hp w→hpLt hp=true→∃ ρ',(∀ j,j<hp.length→ρ' j=ρ j)∧HS E ν ρ' (hp++none::r) w):=fun {r} hr =>
   ⟨by simp [hr.1],fun ρ hp w h hl=>by
    obtain ⟨ρ',h1,h2⟩:=hr.2 ρ (hp++[none]) w h.pushNone (zkI hl (.inl rfl))
    exact ⟨ρ',fun j hj=>h1 j (by rw [List.length_append];omega),by rw [List.append_cons];exact h2⟩⟩
  unfold zdR
  split
  ·rename_i o ts a
   refine zae (fun hc=>?_) (fun _=>zaa (zcr l) fun r hr=>zab (skip hr))
   have hpos:0<ts.length:=Nat.le_of_ble_eq_true hc
   refine zaa (zag (Q:=fun q=>q.cells ν=[]) fun q h=>A.cells_of_den h) fun q hq=>zaa (zcr l) fun r hr=>zab ⟨by simp [hr.1],fun ρ hp w hw hl=>?_⟩
   have hw1:=hw.fresh (w':=w) (bk:=.v o ts q) (r:=⟨0,0,true,0,0,none⟩) hl (Below.refl _ w)
    (⟨fun _=>⟨rfl,rfl⟩,fun e=>(by cases e),hpos,by rw [hq];simp,Nat.le_refl _,fun j hj=>by rw [hq] at hj;simp at hj,fun _ e=>(by cases e),fun _ e=>(by cases e)⟩:VRel E w ⟨0,0,true,0,0,none⟩ o ts (q.cells ν)) (.inl rfl)
   obtain ⟨ρ',h1,h2⟩:=hr.2 _ _ w hw1 (zkI hl (.inr ⟨_,_,_,rfl⟩))
   refine ⟨ρ',fun j hj=>?_,by rw [List.append_cons];exact h2⟩
   rw [h1 j (by rw [List.length_append];omega),zbO hj]
  ·exact zaa (zcr l) fun r hr=>zab (skip hr)
theorem zke (hI:∀ w,Fr E.W E.w0 w→I w) {ops:Array Oper} {o:Oper} {r:RS} {d n0:Nat} (hEn:n0=E.n0) {want:Bool} {cs:List (A×Bool)} {v:Option V} {hp':List (Option Blk)}
  (hw:∀ (a:Act),Region.wanted o (yielded ops a.tmps)=true↔a.tmps[d]? = some (.bool want)) (hg:∀ ρ a,ARel ν ρ r a→(a.tmps[d]? = some (.bool want)↔∀ c∈cs,c.1.bool ν=c.2))
  (hx:∀ ρ a,ARel ν ρ r a→a.tmps[d]? = some (.bool want)→ORok P I E ν ρ r.st.hp (execOp a.eval o) (.hp v hp')):M.sat F ν (ziu r o.dst d want cs n0 v hp') (zmV P ν E ops o r):=by
 unfold ziu
 refine zae (fun hc=>?_) (fun _=>zac)
 simp only [Bool.and_eq_true] at hc
 obtain ⟨⟨⟨⟨hsl,hgl⟩,hle⟩,hle2⟩,hlt⟩:=hc
 have hle:=Nat.le_of_ble_eq_true hle
 have hle2:=Nat.le_of_ble_eq_true hle2
 rw [hEn] at hle
 refine zaa (zlL cs) fun c hcb=>zaa (zcr (E:=E) _) fun t ht=>zaa (zc7 (E:=E) (Nat.le_trans hle hle2)) fun s hs=>?_
 -- the state that is joined
 have join:∀ ρ a w,RR ν E ρ r a w→(a.tmps[d]? = some (.bool want)→∀ ρ1 w1,(∀ j,j<r.st.hp.length→ρ1 j=ρ j)→HS E ν ρ1 hp' w1→∃ ρ2,(∀ j,j<hp'.length→ρ2 j=ρ1 j)∧RR ν E ρ2 ⟨s,r.gl⟩ a w1) ∧
   (a.tmps[d]?≠some (.bool want)→∃ ρ2,(∀ j,j<r.st.hp.length→ρ2 j=ρ j)∧RR ν E ρ2 ⟨s,r.gl⟩ a w):=by
  intro ρ a w hrr
  have glue:∀ ρ2 w2,(∀ j,j<r.st.hp.length→ρ2 j=ρ j)→RR ν E ρ2 ⟨s,[]⟩ a w2→RR ν E ρ2 ⟨s,r.gl⟩ a w2:=fun ρ2 w2 h1 h2 =>
   ⟨⟨h2.act.defers,h2.act.size,h2.act.slot,fun e he=>by
    have:=hrr.act.gl e he
    rw [V.conc_agree h1 (List.all_eq_true.1 hgl e he)]
    exact this⟩,h2.hs⟩
  refine ⟨fun hd ρ1 w1 h1 h2=>?_,fun hd=>?_⟩
  ·have hext:=hrr.act.ext h1 hsl hgl hp'
   obtain ⟨ρ2,e1,e2⟩:=(hs ρ1 a w1).1 (hcb.2 ((hg ρ a hrr.act).1 hd)) ⟨⟨hext.defers,hext.size,hext.slot,fun e he=>by cases he⟩,h2⟩
   exact ⟨ρ2,e1,glue ρ2 w1 (fun j hj=>(e1 j (by omega)).trans (h1 j hj)) e2⟩
  ·have hcf:c.bool ν=false:=by
    cases hc:c.bool ν with
    | false=>rfl
    | true=>exact absurd ((hg ρ a hrr.act).2 (hcb.1 hc)) hd
   obtain ⟨ρ1,h1,h2⟩:=ht.2 ρ r.st.hp w hrr.hs hlt
   have hext:=hrr.act.ext h1 hsl hgl (r.st.hp++t)
   obtain ⟨ρ2,e1,e2⟩:=(hs ρ1 a w).2 hcf ⟨⟨hext.defers,hext.size,hext.slot,fun e he=>by cases he⟩,h2⟩
   have e3:∀ j,j<r.st.hp.length→ρ2 j=ρ j:=fun j hj=>(e1 j (by omega)).trans (h1 j hj)
   exact ⟨ρ2,e3,glue ρ2 w e3 e2⟩
 cases v with
 | none =>
  refine zah zbT fun r' hr' ρ a w hrr K Q hK=>?_
  obtain ⟨j1,j2⟩:=join ρ a w hrr
  have fin:∀ ρ2 (y:Value) w2,RR ν E ρ2 ⟨s,r.gl⟩ a w2→K (a.put o.dst y) w2:=fun ρ2 y w2 h=>hK ρ2 _ w2 ⟨hr'.2 ρ2 a y h.act (fun u hu=>by cases hu),by rw [hr'.1];exact h.hs⟩
  split
  ·rename_i hwt
   have hd:=(hw a).1 hwt
   rcases hx ρ a hrr.act hd w hrr.hs (hI w hrr.hs.fr) with ⟨z,w',h1,ρ1,h2,h3,_⟩ | ⟨w',h1,ρ1,h2,h3,_⟩ | ⟨f,args,h1,h2⟩
   ·obtain ⟨ρ2,_,h4⟩:=j1 hd ρ1 w' h2 h3
    unfold Oper.wp
    rw [h1]
    exact fin ρ2 z w' h4
   ·obtain ⟨ρ2,_,h4⟩:=j1 hd ρ1 w' h2 h3
    exact zmX h1 (fin ρ2 undef w' h4)
   ·unfold Oper.wp
    rw [h1]
    exact h2.mono fun e w' ⟨z,he,ρ1,h2,h3,_⟩=>by
     subst he
     obtain ⟨ρ2,_,h4⟩:=j1 hd ρ1 w' h2 h3
     exact fin ρ2 z w' h4
  ·rename_i hwt
   obtain ⟨ρ2,_,h4⟩:=j2 fun h=>hwt ((hw a).2 h)
   exact fin ρ2 undef w h4
 | some v =>
  refine zae (fun hv0=>?_) (fun _=>zac)
  refine zah zif fun r' hr' ρ a w hrr K Q hK=>?_
  obtain ⟨j1,j2⟩:=join ρ a w hrr
  split
  ·rename_i hwt
   have hd:=(hw a).1 hwt
   have fin:∀ ρ1 ρ2 (y:Value) w2,(∀ j,j<hp'.length→ρ2 j=ρ1 j)→RR ν E ρ2 ⟨s,r.gl⟩ a w2→v.good ν→y=v.conc ν ρ1→K (a.put o.dst y) w2:=fun ρ1 ρ2 y w2 hag h hg hy =>
    hK ρ2 _ w2 ⟨hr'.2 ρ2 a y h.act (fun _=>⟨hg,by rw [hy];exact V.conc_agree (fun j hj=>(hag j hj).symm) hv0⟩) (fun hn=>absurd hd hn),by rw [hr'.1];exact h.hs⟩
   rcases hx ρ a hrr.act hd w hrr.hs (hI w hrr.hs.fr) with ⟨z,w',h1,ρ1,h2,h3,h5⟩ | ⟨w',h1,ρ1,h2,h3,h5⟩ | ⟨f,args,h1,h2⟩
   ·obtain ⟨ρ2,hag,h4⟩:=j1 hd ρ1 w' h2 h3
    obtain ⟨h6,h7⟩:=h5 v rfl
    unfold Oper.wp
    rw [h1]
    exact fin ρ1 ρ2 z w' hag h4 h6 (Option.some.inj h7)
   ·obtain ⟨h6,h7⟩:=h5 v rfl
    cases h7
   ·unfold Oper.wp
    rw [h1]
    exact h2.mono fun e w' ⟨z,he,ρ1,h2,h3,h5⟩=>by
     subst he
     obtain ⟨ρ2,hag,h4⟩:=j1 hd ρ1 w' h2 h3
     obtain ⟨h6,h7⟩:=h5 v rfl
     exact fin ρ1 ρ2 z w' hag h4 h6 (Option.some.inj h7)
  ·rename_i hwt
   have hd:a.tmps[d]?≠some (.bool want):=fun h=>hwt ((hw a).2 h)
   obtain ⟨ρ2,_,h4⟩:=j2 hd
   exact hK ρ2 _ w ⟨hr'.2 ρ2 a undef h4.act (fun h=>absurd h hd) (fun _=>rfl),by rw [hr'.1];exact h4.hs⟩
theorem zdE (hS:SigsOK P I gK S F) (hE:E.Ok gK) (hn0:S.n0=E.n0) (hI:∀ w,Fr E.W E.w0 w→I w) {ops:Array Oper} {r:RS} {o:Oper} (q:Bool):M.sat F ν (zkm P S q ops.toList r o) (fun r'=>(q=false→zmV P ν E ops o r r')∧(q=true→zlK P ν E ops o r r')):=by
 unfold zkm
 have hboth:∀ {x:OR},(∀ ρ a,ARel ν ρ r a→Region.wanted o (yielded ops a.tmps)=true)→(∀ ρ a,ARel ν ρ r a→ORok P I E ν ρ r.st.hp (execOp a.eval o) x) →
   M.sat F ν (zet q r o.dst x) (fun r'=>(q=false→zmV P ν E ops o r r')∧(q=true→zlK P ν E ops o r r')):=by
  intro x h1 h2
  cases q
  ·exact zah (zoh hI h1 h2) fun r' h=>⟨fun _=>h,fun e=>by cases e⟩
  ·exact zah (zmY hI h1 h2) fun r' h=>⟨fun e=>(by cases e),fun _=>h⟩
 split
 ·rename_i hg
  refine zaa (zfb hS hE) fun x hx=>hboth (fun ρ a _=>by simp [Region.wanted,hg]) fun ρ a ha=>hx ρ a ha (fun p hp=>by simp at hp)
 ·rename_i j want hg
  refine zaa (zad (Q:=fun d=>(ops[j]?).bind (·.dst)=some d) fun a h=>by simpa using h) fun d hd=>?_
  refine zaa (zad (Q:=fun res=>zbN r 8 d want=some res) fun a h=>h) fun res hres=>?_
  have hwd:∀ (a:Act),Region.wanted o (yielded ops a.tmps)=true↔a.tmps[d]? = some (.bool want):=fun a=>zfW hg hd
  split
  ·refine zah zbT fun r' hr'=>⟨fun _ ρ a w hrr K Q hK=>?_,fun _=>⟨hr'.1,fun ρ a ha _ C _=>?_⟩⟩
   ·have hn:a.tmps[d]?≠some (.bool want):=zas hrr.act 8 d want hres
    rw [if_neg (fun h=>hn ((hwd a).1 h))]
    exact hK ρ _ w ⟨hr'.2 ρ a _ hrr.act (fun v hv=>by cases hv;exact ⟨V.good_s.2 (V1.good_one.2 trivial),rfl⟩),by rw [hr'.1];exact hrr.hs⟩
   ·have hn:a.tmps[d]?≠some (.bool want):=zas ha 8 d want hres
    rw [if_neg (fun h=>hn ((hwd a).1 h))]
    exact hr'.2 ρ a _ ha (fun v hv=>by cases hv;exact ⟨V.good_s.2 (V1.good_one.2 trivial),rfl⟩)
  ·rename_i ctx cs
   split
   ·refine zaa (zfb hS hE) fun x hx=>hboth (fun ρ a ha=>?_) fun ρ a ha=>hx ρ a ha (fun p hp=>by simp at hp)
    have:=zas ha 8 d want hres
    exact (hwd a).2 (this.2.1 rfl)
   ·refine zaa (zew (zfb hS hE (ctx:=ctx))) fun x hx=>?_
    have hx2:∀ ρ a,ARel ν ρ r a→a.tmps[d]? = some (.bool want)→ORok P I E ν ρ r.st.hp (execOp a.eval o) x:=fun ρ a ha hd'=>by
     have:=(zas ha 8 d want hres).1 hd'
     exact hx this.2 ρ a ha this.1
    cases x with
    | val v=>exact zah (zmZ hI hwd hx2) fun r' h=>⟨fun _=>h.1,fun _=>h.2⟩
    | hp v hp' =>
     refine zae (fun _=>zac) (fun hq=>?_)
     refine zah (zke hI hn0 hwd (fun ρ a ha=>?_) hx2) fun r' h=>⟨fun _=>h,fun e=>absurd e hq⟩
     have:=zas ha 8 d want hres
     exact ⟨fun h=>(this.1 h).2,this.2.2⟩
end
end Go.Sx
namespace Go.Sx
open Go.RowKit
section
variable {P:Program} {md:Region.Mode}
theorem zrA {o:Oper} {a:Act} {K K':Act→World→Prop} {Q Q':Exit→Act→World→Prop} {r:Result Next} (hk:∀ a w,K a w→K' a w) (hq:∀ e a w,e≠.normal→Q e a w→Q' e a w)
  (h:o.upon P a K Q r):o.upon P a K' Q' r:=by
 have hl:LetsOut Q→LetsOut Q':=fun ⟨a,w,h⟩=>⟨a,w,hq _ a w (by simp) h⟩
 cases r with
 | ok n w' =>
  cases n<;>simp only [Oper.upon] at h ⊢ <;>
   first
    | exact hk _ _ h
    | exact Calls.mono h (fun e w'' he=>by cases e<;>first | exact hk _ _ he | exact hq _ _ _ (by simp) he | exact hl he)
    | exact Rows.mono h (fun _ _ he=>hk _ _ he)
 | halt x w'=>cases x<;>simp only [Oper.upon] at h ⊢<;>first | exact hq _ _ _ (by simp) h | exact h
theorem zd1 {o:Oper} {a:Act} {w:World} {K K':Act→World→Prop} {Q Q':Exit→Act→World→Prop} (hk:∀ a w,K a w→K' a w) (hq:∀ e a w,e≠.normal→Q e a w→Q' e a w)
  (h:o.wp P a w K Q∨(o.asks P a w∧LetsOut Q)):o.wp P a w K' Q'∨(o.asks P a w∧LetsOut Q'):=by
 rcases h with h | ⟨h1,a',w',h2⟩
 ·exact .inl (zrA hk hq h)
 ·exact .inr ⟨h1,a',w',hq _ _ _ (by simp) h2⟩
theorem zfX {ops ops':Array Oper} {i:Nat} {a:Act} {w:World} {K K':Act→World→Prop} {Q Q':Exit→Act→World→Prop} (ho:ops'[i]? = ops[i]?)
  (hg:∀ o,ops[i]? = some o→Region.wanted o (yielded ops' a.tmps)=Region.wanted o (yielded ops a.tmps)) (hk:∀ a w,K a w→K' a w) (hq:∀ e a w,e≠.normal→Q e a w→Q' e a w)
  (h:wpOp P ops Q i K a w):wpOp P ops' Q' i K' a w:=by
 unfold wpOp at h ⊢
 rw [ho]
 cases hop:ops[i]? with
 | none=>simp only [hop] at h ⊢;exact hk _ _ h
 | some o =>
  simp only [hop] at h ⊢
  rw [hg o hop]
  split
  ·rename_i hw;simp only [hw,if_true] at h;exact zd1 hk hq h
  ·rename_i hw;simp only [hw] at h;exact hk _ _ h
theorem zhl {ops:Array Oper} {Q Q':Exit→Act→World→Prop} (hq:∀ e a w,Q e a w→Q' e a w):∀ (fuel:Nat) (listed:Array Bool) (a:Act) (w:World),wpAny P md ops Q fuel listed a w→wpAny P md ops Q' fuel listed a w
 | 0,_,_,_,h=>⟨h.1,hq _ _ _ h.2⟩
 | fuel+1,_,_,_,h=>⟨fun h0=>hq _ _ _ (h.1 h0),fun i hi=>zfX rfl (fun _ _=>rfl) (zhl hq fuel _) (fun e a w _=>hq e a w) (h.2 i hi)⟩
theorem zaK (l:Array Bool) (j:Nat):(l.push false).getD j false=l.getD j false:=by
 rw [Array.getD_eq_getD_getElem?,Array.getD_eq_getD_getElem?,Array.getElem?_push]
 split
 ·rename_i h;subst h;simp
 ·rfl
theorem zm0 (l:Array Bool) {j:Nat} (h:j≠l.size) (d:Bool):(l.push false).getD j d=l.getD j d:=by
 rw [Array.getD_eq_getD_getElem?,Array.getD_eq_getD_getElem?,Array.getElem?_push,if_neg h]
theorem zbv {l:Array Bool} {j:Nat} (h:j<l.size):(l.push false).getD j true=l.getD j true:=zm0 l (by omega) true
theorem zhX {l:Array Bool} {n:Nat} (h:l.size=n) (d:Bool):(l.push false).getD n d=false:=by
 rw [Array.getD_eq_getD_getElem?,Array.getElem?_push,if_pos h.symm];rfl
theorem zaw {l:Array Bool} {j:Nat} (h:j<l.size):l.getD j true=l.getD j false:=by simp [h]
def zb5 (md:Region.Mode) (ops:Array Oper):Prop:=∀ (i:Nat) (o:Oper),ops[i]? = some o→(∀ e∈o.after,Region.binds md e=true→e.on<i)∧∀ j b,o.guard=some (j,b)→j<i
theorem zbV {ops:Array Oper} {listed:Array Bool} (hs:listed.size=ops.size) (hb:zb5 md ops) (h:Region.ready md ops listed=[]):∀ i,i<ops.size→listed.getD i false=true:=by
 intro i
 induction i using Nat.strongRecOn with
 | _ i ih =>
  intro hi
  cases hl:listed.getD i false with
  | true=>rfl
  | false =>
   exfalso
   have hmem:i∈Region.ready md ops listed:=mem_ready.2 ⟨by rw [zaw (by omega)];exact hl,ops[i],by simp [hi],fun e he hbd=>by
    have:=(hb i ops[i] (by simp [hi])).1 e he hbd
    exact ih e.on this (by omega)⟩
   rw [h] at hmem
   cases hmem
theorem zjf {head:Array Oper} {last:Oper} {o:Oper} {i:Nat} {tmps:Array Value} (hi:i≤head.size) (hg:∀ j b,o.guard=some (j,b)→j<i) :
  Region.wanted o (yielded (head.push last) tmps)=Region.wanted o (yielded head tmps):=by
 unfold Region.wanted
 cases hgd:o.guard with
 | none=>rfl
 | some p =>
  obtain ⟨j,b⟩:=p
  have:=hg j b hgd
  have:(head.push last)[j]? = head[j]?:=by rw [Array.getElem?_push,if_neg (by omega)]
  simp only [yielded,this]
theorem zqm {head:Array Oper} {last:Oper} {Q Qh:Exit→Act→World→Prop} (hb:zb5 md (head.push last)) (hw:∀ i,i<head.size→∃ e∈last.after,Region.binds md e=true∧e.on=i)
  (hq:∀ e a w,e≠.normal→Qh e a w→Q e a w) (hl:∀ a w,Qh .normal a w→wpOp P (head.push last) Q head.size (Q .normal) a w) :
  ∀ (fuel:Nat) (listed:Array Bool) (a:Act) (w:World),listed.size=head.size→wpAny P md head Qh fuel listed a w→wpAny P md (head.push last) Q (fuel+1) (listed.push false) a w:=by
 have hbh:zb5 md head:=fun i o ho=>hb i o (by
  have hi:i<head.size:=by
   rcases Nat.lt_or_ge i head.size with h | h
   ·exact h
   ·rw [Array.getElem?_eq_none h] at ho;cases ho
  rw [Array.getElem?_push,if_neg (by omega)];exact ho)
 have hlast:(head.push last)[head.size]? = some last:=by simp
 have hbl:=hb head.size last hlast
 -- what is ready
 have r1:∀ listed:Array Bool,listed.size=head.size→∀ i,i∈Region.ready md (head.push last) (listed.push false)→i=head.size∨(i<head.size∧i∈Region.ready md head listed):=by
  intro listed hs i hi
  obtain ⟨h1,oi,h2,h3⟩:=mem_ready.1 hi
  rcases Nat.lt_trichotomy i head.size with h | h | h
  ·right
   refine ⟨h,mem_ready.2 ⟨by rw [←zbv (by omega)];exact h1,oi,by rw [Array.getElem?_push,if_neg (by omega)] at h2;exact h2,fun e he hbd=>by rw [←zaK];exact h3 e he hbd⟩⟩
  ·exact .inl h
  ·rw [Array.getElem?_eq_none (by simp;omega)] at h2;cases h2
 have r2:∀ listed:Array Bool,listed.size=head.size→head.size∈Region.ready md (head.push last) (listed.push false)→Region.ready md head listed=[]:=by
  intro listed hs hi
  obtain ⟨_,oi,h2,h3⟩:=mem_ready.1 hi
  rw [hlast] at h2
  cases h2
  apply List.eq_nil_iff_forall_not_mem.2
  intro j hj
  obtain ⟨h4,oj,h5,_⟩:=mem_ready.1 hj
  have hjl:j<head.size:=by
   rcases Nat.lt_or_ge j head.size with h | h
   ·exact h
   ·rw [Array.getElem?_eq_none h] at h5;cases h5
  obtain ⟨e,he,hbd,hon⟩:=hw j hjl
  have:=h3 e he hbd
  rw [zaK,hon,←zaw (by omega),h4] at this
  cases this
 have r3:∀ listed:Array Bool,listed.size=head.size→Region.ready md head listed=[]→head.size∈Region.ready md (head.push last) (listed.push false):=by
  intro listed hs h0
  refine mem_ready.2 ⟨zhX hs true,last,hlast,fun e he hbd=>?_⟩
  rw [zaK]
  exact zbV hs hbh h0 e.on (hbl.1 e he hbd)
 have rend:∀ listed:Array Bool,listed.size=head.size→Region.ready md head listed=[]→Region.ready md (head.push last) ((listed.push false).setIfInBounds head.size true)=[]:=by
  intro listed hs h0
  apply List.eq_nil_iff_forall_not_mem.2
  intro j hj
  obtain ⟨h4,oj,h5,_⟩:=mem_ready.1 hj
  have hjl:j<head.size+1:=by
   rcases Nat.lt_or_ge j (head.size+1) with h | h
   ·exact h
   ·rw [Array.getElem?_eq_none (by simp;omega)] at h5;cases h5
  by_cases hjn:j=head.size
  ·subst hjn
   rw [Array.getD_eq_getD_getElem?,Array.getElem?_setIfInBounds_self_of_lt (by simp [hs])] at h4
   cases h4
  ·have:=zbV hs hbh h0 j (by omega)
   rw [getD_set_ne true (Ne.symm hjn),zbv (by omega),zaw (by omega),this] at h4
   cases h4
 have fin:∀ (fuel:Nat) (listed:Array Bool) (a:Act) (w:World),listed.size=head.size→Region.ready md head listed=[]→Q .normal a w →
   wpAny P md (head.push last) Q fuel ((listed.push false).setIfInBounds head.size true) a w:=by
  intro fuel listed a w hs h0 hn
  have he:=rend listed hs h0
  cases fuel with
  | zero=>exact ⟨he,hn⟩
  | succ f=>exact ⟨fun _=>hn,fun i hi=>by rw [he] at hi;cases hi⟩
 intro fuel
 induction fuel with
 | zero =>
  intro listed a w hs h
  refine ⟨fun h0=>?_,fun i hi=>?_⟩
  ·have:=r3 listed hs h.1
   rw [h0] at this;cases this
  ·rcases r1 listed hs i hi with rfl | ⟨_,hi'⟩
   ·exact wpOp_mono (fun a' w' hn=>fin 0 listed a' w' hs h.1 hn) (hl a w h.2)
   ·rw [h.1] at hi';cases hi'
 | succ fuel ih =>
  intro listed a w hs h
  refine ⟨fun h0=>?_,fun i hi=>?_⟩
  ·exfalso
   have hz:Region.ready md head listed=[]:=by
    apply List.eq_nil_iff_forall_not_mem.2
    intro j hj
    obtain ⟨h4,oj,h5,h6⟩:=mem_ready.1 hj
    have hjl:j<head.size:=by
     rcases Nat.lt_or_ge j head.size with h | h
     ·exact h
     ·rw [Array.getElem?_eq_none h] at h5;cases h5
    have:j∈Region.ready md (head.push last) (listed.push false):=mem_ready.2 ⟨by rw [zbv (by omega)];exact h4,oj,by rw [Array.getElem?_push,if_neg (by omega)];exact h5,fun e he hbd=>by rw [zaK];exact h6 e he hbd⟩
    rw [h0] at this;cases this
   have:=r3 listed hs hz
   rw [h0] at this;cases this
  ·rcases r1 listed hs i hi with rfl | ⟨hil,hi'⟩
   ·have hz:=r2 listed hs hi
    exact wpOp_mono (fun a' w' hn=>fin (fuel+1) listed a' w' hs hz hn) (hl a w (h.1 hz))
   ·have h2:=h.2 i hi'
    have hset:(listed.push false).setIfInBounds i true=(listed.setIfInBounds i true).push false:=by
     apply Array.ext'
     simp only [Array.toList_setIfInBounds,Array.toList_push]
     rw [List.set_append_left _ _ (by simpa using (show i<listed.size from by omega))]
    rw [hset]
    refine zfX (by rw [Array.getElem?_push,if_neg (by omega)]) (fun o ho=>?_) (fun a' w' h'=>ih _ a' w' (by simpa using hs) h') hq h2
    exact zjf (i:=i) (by omega) (hbh i o ho).2
theorem zjg {ops:Array Oper} {Q:Exit→Act→World→Prop} (hb:zb5 md ops):∀ (rest:List Oper) (head:Array Oper),ops.toList=head.toList++rest →
  (∀ i,head.size≤i→∀ o,ops[i]? = some o→∀ j,j<i→∃ e∈o.after,Region.binds md e=true∧e.on=j) →
  ∀ a w,wpAny P md head (fun e a w=>match e with | .normal=>wpList P ops Q rest a w | e=>Q e a w) head.size (Array.replicate head.size false) a w →
  wpAny P md ops Q ops.size (Array.replicate ops.size false) a w
 | [],head,ho,_,a,w,h=>by
  have:head=ops:=by apply Array.ext';simpa using ho.symm
  subst this
  refine zhl (fun e a w hh=>?_) _ _ _ _ h
  cases e<;>exact hh
 | o::rest,head,ho,hw,a,w,h=>by
  have hpre:∀ i,i<head.size+1→(head.push o)[i]? = ops[i]?:=fun i hi=>by
   have h1:ops[i]? = ops.toList[i]?:=by simp
   rw [h1,ho]
   by_cases hih:i<head.size
   ·rw [List.getElem?_append_left (by simpa using hih),Array.getElem?_push,if_neg (by omega)];simp
   ·have:i=head.size:=by omega
    subst this
    simp
  have hbp:zb5 md (head.push o):=fun i x hx=>hb i x (by
   rw [←hpre i (by
    rcases Nat.lt_or_ge i (head.size+1) with h | h
    ·exact h
    ·rw [Array.getElem?_eq_none (by simp;omega)] at hx;cases hx)]
   exact hx)
  have ho':ops[head.size]? = some o:=by rw [←hpre _ (by omega)];simp
  refine zjg hb rest (head.push o) (by simp [ho]) (fun i hi x hx j hj=>hw i (by simp at hi;omega) x hx j hj) a w ?_
  have:=zqm (P:=P) (md:=md) (head:=head) (last:=o) (Q:=fun e a w=>match e with | .normal=>wpList P ops Q rest a w | e=>Q e a w) hbp
   (fun i hi=>hw head.size (Nat.le_refl _) o ho' i hi) (Qh:=fun e a w=>match e with | .normal=>wpList P ops Q (o::rest) a w | e=>Q e a w)
   (fun e a w hne hh=>by cases e<;>first | exact absurd rfl hne | exact hh)
   (fun a w hh=>by
    simp only [wpList] at hh
    unfold wpOp
    have e1:(head.push o)[head.size]? = some o:=by simp
    simp only [e1]
    have hwd:Region.wanted o (yielded (head.push o) a.tmps)=Region.wanted o (yielded ops a.tmps):=by
     unfold Region.wanted
     cases hgd:o.guard with
     | none=>rfl
     | some p =>
      obtain ⟨j,b⟩:=p
      have:=(hb head.size o ho').2 j b hgd
      simp only [yielded,hpre j (by omega)]
    rw [hwd]
    split
    ·rename_i hwt
     simp only [hwt,if_true] at hh
     exact zd1 (fun a w h=>h) (fun e a w hne h=>by cases e<;>first | exact absurd rfl hne | exact h) hh
    ·rename_i hwt
     simp only [hwt] at hh
     exact hh)
   head.size (Array.replicate head.size false) a w (by simp) h
  have hrep:(Array.replicate head.size false).push false=Array.replicate (head.push o).size false:=by
   simp [Array.replicate_succ]
  rw [hrep] at this
  simpa using this
end
end Go.Sx
namespace Go.Sx
open Go.RowKit
def zbL (ops:Array Oper) (listed:Array Bool):Prop:=∀ (i:Nat) (o:Oper),ops[i]? = some o→listed.getD i false=true→∀ e∈o.after,Region.binds .any e=true→listed.getD e.on false=true
theorem zaX {l:Array Bool} {i j:Nat} (h:l.getD j false=true):(l.setIfInBounds i true).getD j false=true:=by
 by_cases hij:i=j
 ·subst hij
  have:i<l.size:=by
   rcases Nat.lt_or_ge i l.size with h1 | h1
   ·exact h1
   ·rw [Array.getD_eq_getD_getElem?,Array.getElem?_eq_none h1] at h;cases h
  rw [Array.getD_eq_getD_getElem?,Array.getElem?_setIfInBounds_self_of_lt this]
  rfl
 ·rw [Array.getD_eq_getD_getElem?,Array.getElem?_setIfInBounds_ne hij,←Array.getD_eq_getD_getElem?]
  exact h
theorem zcS {l:Array Bool} {i j:Nat} (h:(l.setIfInBounds i true).getD j false=true):j=i∨l.getD j false=true:=by
 by_cases hij:i=j
 ·exact .inl hij.symm
 ·rw [Array.getD_eq_getD_getElem?,Array.getElem?_setIfInBounds_ne hij,←Array.getD_eq_getD_getElem?] at h
  exact .inr h
theorem zbL.set {ops:Array Oper} {listed:Array Bool} (h:zbL ops listed) {i:Nat} (hi:i∈Region.ready .any ops listed):zbL ops (listed.setIfInBounds i true):=by
 intro j o ho hj e he hb
 obtain ⟨_,oi,h2,h3⟩:=mem_ready.1 hi
 rcases zcS hj with rfl | hj
 ·rw [h2] at ho;cases ho
  exact zaX (h3 e he hb)
 ·exact zaX (h j o ho hj e he hb)
theorem zcl {n:Nat} : ∀ {l:List Nat},memN n l=true→n∈l
 | [],h=>by cases h
 | x::l,h=>by
  simp only [memN,Bool.or_eq_true] at h
  rcases h with h | h
  ·rw [Nat.eq_of_beq_eq_true h];simp
  ·exact List.mem_cons_of_mem _ (zcl h)
theorem zhm {o:Oper} {x:Nat} (h:x∈zbB o):∃ e∈o.after,Region.binds .any e=true∧e.on=x:=by
 unfold zbB at h
 obtain ⟨e,he,rfl⟩:=List.mem_map.1 h
 obtain ⟨h1,h2⟩:=List.mem_filter.1 he
 exact ⟨e,by simpa using h1,h2,rfl⟩
theorem zc9 {ops:Array Oper} {listed:Array Bool} (hc:zbL ops listed):∀ (n:Nat) (l:List Nat),(∀ x∈l,listed.getD x false=true)→∀ x∈zaA ops.toList n l,listed.getD x false=true
 | 0,l,h,x,hx=>h x hx
 | n+1,l,h,x,hx=>by
  simp only [zaA] at hx
  split at hx
  ·rename_i hm
   refine zc9 hc n _ (fun y hy=>?_) x hx
   rcases List.mem_append.1 hy with hy | hy
   ·cases ho:ops.toList[n]? with
    | none=>rw [ho] at hy;cases hy
    | some o =>
     rw [ho] at hy
     obtain ⟨e,he,hb,rfl⟩:=zhm hy
     exact hc n o (by simpa using ho) (h n (zcl hm)) e he hb
   ·exact h y hy
  ·exact zc9 hc n l h x hx
theorem zbW {ops:Array Oper} {listed:Array Bool} (hc:zbL ops listed) {i:Nat} {o:Oper} (ho:ops[i]? = some o) (hi:i∈Region.ready .any ops listed):∀ x∈zaA ops.toList i (zbB o),listed.getD x false=true:=by
 refine zc9 hc i _ fun x hx=>?_
 obtain ⟨e,he,hb,rfl⟩:=zhm hx
 obtain ⟨_,oi,h2,h3⟩:=mem_ready.1 hi
 rw [ho] at h2;cases h2
 exact h3 e he hb
section
variable {P:Program}
theorem zfY {a:Act} {d:Option Tmp} {v:Value} {t:Nat} (h:d≠some t):(a.put d v).tmps[t]? = a.tmps[t]?:=by
 cases d with
 | none=>rfl
 | some d =>
  show (a.tmps.setIfInBounds d v)[t]? = _
  rw [Array.getElem?_setIfInBounds_ne (fun e=>h (by rw [e]))]
theorem zda {ops:Array Oper} {C:World→Prop} {Q:Act→Prop} : ∀ (fuel:Nat) (listed:Array Bool) (a:Act),wpAnyQ P .any ops C Q fuel listed a →
  ∃ a',Q a'∧∀ t,(∀ (j:Nat) (o:Oper),ops[j]? = some o→o.dst=some t→listed.getD j true=true)→a'.tmps[t]? = a.tmps[t]?
 | 0,listed,a,h=>⟨a,h.2,fun _ _=>rfl⟩
 | fuel+1,listed,a,h=>by
  cases hr:Region.ready .any ops listed with
  | nil=>exact ⟨a,h.1 hr,fun _ _=>rfl⟩
  | cons i l =>
   have hi:i∈Region.ready .any ops listed:=by rw [hr];simp
   obtain ⟨hnl,oi,hoi,_⟩:=mem_ready.1 hi
   have hq:=h.2 i hi
   unfold qOp at hq
   rw [hoi] at hq
   simp only at hq
   have step:∀ v:Value,wpAnyQ P .any ops C Q fuel (listed.setIfInBounds i true) (a.put oi.dst v)→∃ a',Q a'∧∀ t,(∀ (j:Nat) (o:Oper),ops[j]? = some o→o.dst=some t→listed.getD j true=true)→a'.tmps[t]? = a.tmps[t]?:=by
    intro v hv
    obtain ⟨a',h1,h2⟩:=zda fuel _ _ hv
    refine ⟨a',h1,fun t ht=>?_⟩
    have hne:oi.dst≠some t:=fun e=>by have:=ht i oi hoi e;rw [hnl] at this;cases this
    rw [h2 t (fun j o ho hd=>?_),zfY hne]
    have h3:=ht j o ho hd
    by_cases hij:i=j
    ·subst hij;rw [hnl] at h3;cases h3
    ·rw [Array.getD_eq_getD_getElem?,Array.getElem?_setIfInBounds_ne hij,←Array.getD_eq_getD_getElem?]
     exact h3
   split at hq
   ·obtain ⟨v,_,h2⟩:=hq
    exact step v h2
   ·exact step _ hq
theorem zba {ops ops':Array Oper} (h:∀ j:Nat,(ops'[j]?).bind (·.dst)=(ops[j]?).bind (·.dst)) (tmps:Array Value):yielded ops' tmps=yielded ops tmps:=by
 funext j
 unfold yielded
 rw [h j]
theorem zoi {ops ops':Array Oper} {st:List Nat} {C:World→Prop} {D:Nat→World→Prop} {Qf:Act→Prop} {Q':Exit→Act→World→Prop} (hb:zb5 .any ops)
  (hready:∀ listed,Region.ready .any ops' listed=Region.ready .any ops listed) (hdst:∀ j:Nat,(ops'[j]?).bind (·.dst)=(ops[j]?).bind (·.dst))
  (hns:∀ i:Nat,i∉st→ops'[i]? = ops[i]?) (hst:∀ i∈st,∃ o o':Oper,ops[i]? = some o∧ops'[i]? = some o'∧o.guard=none∧o'.dst=o.dst∧o'.guard=none)
  (hCD:∀ k w,k≤st.length→D k w→C w)
  (hpure:∀ (i:Nat) (o:Oper),i∉st→ops[i]? = some o→∀ (a:Act) (w:World) f args w',(execOp a.eval o).run P w≠.ok (.enter f args) w')
  (hprev:∀ (p q:Nat) (i j:Nat),p<q→st[p]? = some i→st[q]? = some j→∀ listed,zbL ops listed→j∈Region.ready .any ops listed→listed.getD i false=true)
  (hop:∀ (i:Nat) (o:Oper),i∈st→ops[i]? = some o→∀ listed,zbL ops listed→i∈Region.ready .any ops listed→∀ t∈zdv o.op,∀ (j:Nat) (o':Oper),ops[j]? = some o'→o'.dst=some t→listed.getD j false=true)
  (hstep:∀ (k i:Nat) (o o':Oper),st[k]? = some i→ops[i]? = some o→ops'[i]? = some o' →
   (o.dst=none∧∀ a a':Act,Qf a'→(∀ t∈zdv o.op,a'.tmps[t]? = a.tmps[t]?)→∀ w,D k w→∃ w',(execOp a.eval o).run P w = .ok .skip w'∧D (k+1) w') ∨
   (∃ v,(∀ (a:Act) (w:World),(execOp a.eval o').run P w = .ok (.value v) w)∧∀ (a:Act) w,D k w→∃ w',(execOp a.eval o).run P w = .ok (.value v) w'∧D (k+1) w'))
  (hQ:∀ a w,Qf a→D st.length w→Q' .normal a w) :
  ∀ (fuel:Nat) (listed:Array Bool) (a:Act) (w:World) (k:Nat),listed.size=ops.size→zbL ops listed→k≤st.length→(∀ p i,p<k→st[p]? = some i→listed.getD i false=true)→(∀ p i,k≤p→st[p]? = some i→listed.getD i false=false) →
   D k w→wpAnyQ P .any ops' C Qf fuel listed a→wpAny P .any ops Q' fuel listed a w:=by
 have hfin:∀ (listed:Array Bool) (k:Nat),listed.size=ops.size→k≤st.length→(∀ p i,k≤p→st[p]? = some i→listed.getD i false=false)→Region.ready .any ops listed=[]→k=st.length:=by
  intro listed k hs hk h2 h0
  rcases Nat.lt_or_ge k st.length with h | h
  ·have hi:=List.getElem?_eq_getElem h
   have h3:=h2 k _ (Nat.le_refl _) hi
   obtain ⟨o,_,ho,_⟩:=hst _ (List.mem_of_getElem? hi)
   have hlt:st[k]<ops.size:=by
    rcases Nat.lt_or_ge st[k] ops.size with h | h
    ·exact h
    ·rw [Array.getElem?_eq_none h] at ho;cases ho
   rw [zbV hs hb h0 _ hlt] at h3
   cases h3
  ·omega
 intro fuel
 induction fuel with
 | zero =>
  intro listed a w k hs hcl hk h1 h2 hd h
  have h0:=h.1
  rw [hready] at h0
  have:=hfin listed k hs hk h2 h0
  subst this
  exact ⟨h0,hQ a w h.2 hd⟩
 | succ fuel ih =>
  intro listed a w k hs hcl hk h1 h2 hd h
  refine ⟨fun h0=>?_,fun i hi=>?_⟩
  ·have:=hfin listed k hs hk h2 h0
   subst this
   exact hQ a w (h.1 (by rw [hready];exact h0)) hd
  ·have hq:=h.2 i (by rw [hready];exact hi)
   have hs':(listed.setIfInBounds i true).size=ops.size:=by simpa using hs
   have hcl':=hcl.set hi
   obtain ⟨hnl,oi,hoi,_⟩:=mem_ready.1 hi
   have hil:i<ops.size:=by
    rcases Nat.lt_or_ge i ops.size with h | h
    ·exact h
    ·rw [Array.getElem?_eq_none h] at hoi;cases hoi
   by_cases him:i∈st
   ·obtain ⟨p,hp,hpi⟩:=List.mem_iff_getElem.1 him
    have hpi':st[p]? = some i:=by rw [List.getElem?_eq_getElem hp,hpi]
    have hnl':listed.getD i false=false:=by rw [←zaw (by omega)];exact hnl
    have hkp:k=p:=by
     rcases Nat.lt_trichotomy k p with hlt | heq | hgt
     ·have hq2:=List.getElem?_eq_getElem (show k<st.length by omega)
      have e1:=hprev k p _ i hlt hq2 hpi' listed hcl hi
      rw [h2 k _ (Nat.le_refl _) hq2] at e1
      cases e1
     ·exact heq
     ·rw [h1 p i hgt hpi'] at hnl'
      cases hnl'
    subst hkp
    obtain ⟨o,o',e1,e2,e4,e5,e6⟩:=hst i him
    rw [hoi] at e1;cases e1
    have hwd:Region.wanted oi (yielded ops a.tmps)=true:=by simp [Region.wanted,e4]
    have hwd':Region.wanted o' (yielded ops' a.tmps)=true:=by simp [Region.wanted,e6]
    -- all that goes on behind
    have behind:∀ a1 w',D (k+1) w'→wpAnyQ P .any ops' C Qf fuel (listed.setIfInBounds i true) a1→wpAny P .any ops Q' fuel (listed.setIfInBounds i true) a1 w':=fun a1 w' hd' hnext=>by
     refine ih _ a1 w' (k+1) hs' hcl' (by omega) (fun q j hq1 hq2=>?_) (fun q j hq1 hq2=>?_) hd' hnext
     ·rcases Nat.lt_or_ge q k with hqk | hqk
      ·exact zaX (h1 q j hqk hq2)
      ·have:q=k:=by omega
       subst this
       rw [hpi'] at hq2;cases hq2
       rw [Array.getD_eq_getD_getElem?,Array.getElem?_setIfInBounds_self_of_lt (by omega)]
       rfl
     ·cases hj:(listed.setIfInBounds i true).getD j false with
      | false=>rfl
      | true =>
       rcases zcS hj with rfl | hj
       ·have e7:=hprev k q j j (by omega) hpi' hq2 listed hcl hi
        rw [hnl'] at e7;cases e7
       ·rw [h2 q j (by omega) hq2] at hj;cases hj
    unfold qOp at hq
    rw [e2] at hq
    simp only at hq
    rw [if_pos hwd'] at hq
    obtain ⟨v,hv,h4⟩:=hq
    rw [e5] at h4
    unfold wpOp
    rw [hoi]
    simp only
    rw [if_pos hwd]
    refine .inl ?_
    unfold Oper.wp
    rcases hstep k i oi o' hpi' hoi e2 with ⟨e3,hstep⟩ | ⟨u,hu,hstep⟩
    ·rw [e3] at h4
     have hnext:wpAnyQ P .any ops' C Qf fuel (listed.setIfInBounds i true) a:=h4
     obtain ⟨a',ha',htm⟩:=zda fuel _ _ hnext
     obtain ⟨w',hrun,hd'⟩:=hstep a a' ha' (fun t ht=>htm t fun j o'' ho'' hd''=>by
      have hjd:(ops[j]?).bind (·.dst)=some t:=by rw [←hdst j,ho''];exact hd''
      cases hoj:ops[j]? with
      | none=>rw [hoj] at hjd;cases hjd
      | some oj =>
       rw [hoj] at hjd
       have hjl:j<listed.size:=by
        rcases Nat.lt_or_ge j ops.size with h | h
        ·omega
        ·rw [Array.getElem?_eq_none h] at hoj;cases hoj
       have:=zaX (i:=i) (hop i oi him hoi listed hcl hi t ht j oj hoj hjd)
       rw [zaw (by simpa using hjl)]
       exact this) w hd
     rw [hrun]
     show wpAny P .any ops Q' fuel (listed.setIfInBounds i true) (a.put oi.dst undef) w'
     rw [e3]
     exact behind a w' hd' hnext
    ·obtain ⟨w',hrun,hd'⟩:=hstep a w hd
     have hvu:u=v:=by
      have h3:=hv w (hCD k w hk hd)
      unfold Oper.quietAt at h3
      rw [hu a w] at h3
      exact h3.2
     subst hvu
     rw [hrun]
     show wpAny P .any ops Q' fuel (listed.setIfInBounds i true) (a.put oi.dst u) w'
     exact behind _ w' hd' h4
   ·have hin:∀ q j,st[q]? = some j→j≠i:=fun q j hj e=>him (e▸List.mem_of_getElem? hj)
    have fin:∀ a',wpAnyQ P .any ops' C Qf fuel (listed.setIfInBounds i true) a'→wpAny P .any ops Q' fuel (listed.setIfInBounds i true) a' w:=fun a' h' =>
     ih _ a' w k hs' hcl' hk (fun q j hq1 hq2=>zaX (h1 q j hq1 hq2)) (fun q j hq1 hq2=>by
      cases hj:(listed.setIfInBounds i true).getD j false with
      | false=>rfl
      | true =>
       rcases zcS hj with e | hj
       ·exact absurd e (hin q j hq2)
       ·rw [h2 q j hq1 hq2] at hj;cases hj) hd h'
    unfold qOp at hq
    rw [hns i him,hoi] at hq
    simp only [zba hdst] at hq
    unfold wpOp
    rw [hoi]
    simp only
    split
    ·rename_i hwt
     rw [if_pos hwt] at hq
     obtain ⟨v,hv1,hv2⟩:=hq
     refine .inl ?_
     have h3:=hv1 w (hCD k w hk hd)
     have hne:=hpure i oi him hoi a w
     unfold Oper.quietAt at h3
     unfold Oper.wp
     generalize (execOp a.eval oi).run P w=r at *
     cases r with
     | ok n w' =>
      cases n<;>simp only [Oper.quietUpon] at h3<;>simp only [Oper.upon]
      case value u =>
       obtain ⟨e1,e2⟩:=h3
       rw [e1,e2]
       exact fin _ hv2
      case skip =>
       obtain ⟨e1,e2⟩:=h3
       rw [e1,←e2]
       exact fin _ hv2
      case enter f args=>exact absurd rfl (hne f args w')
     | halt x w'=>simp only [Oper.quietUpon] at h3
    ·rename_i hwt
     rw [if_neg hwt] at hq
     exact fin _ hq
end
end Go.Sx
namespace Go.Sx
open Go.RowKit
section
variable {P:Program} {I:World→Prop} {S:Sigs} {F:FEnv} {E:Env} {gK:Nat} {ν:Nat→DV}
theorem zoj {α ι:Type} {x:M α} {Q:ι→α→Prop} (h:∀ i,M.sat F ν x (Q i)):M.sat F ν x (fun a=>∀ i,Q i a) :=
 fun n a n' e d h1 h2 h3 i=>h i n a n' e d h1 h2 h3
def RS.withHp (r:RS) (hp:List (Option Blk)):RS:=⟨⟨r.st.sl,hp⟩,r.gl⟩
theorem zgD (r:RS) (hp:List (Option Blk)) (ctx:Ctx) (x:Operand):rd (r.withHp hp) ctx x=rd r ctx x:=by cases x<;>rfl
theorem ARel.withHp {ρ:Nat→Loc} {r:RS} {a:Act} (h:ARel ν ρ r a) (hp:List (Option Blk)):ARel ν ρ (r.withHp hp) a:=⟨h.defers,h.size,h.slot,h.gl⟩
def zm1 (fx:List Nat) (hp0 hp:List (Option Blk)):Prop:=∀ b,memN b fx=false→nth hp b=nth hp0 b
theorem zdF {α β:Type} {o:Option α} {f g:α→M β} (h:∀ a,o=some a→f a=g a):(M.lift o >>= f)=(M.lift o >>= g):=by
 cases o with
 | none=>rfl
 | some a =>
  have:=h a rfl
  change M.bind (M.lift (some a)) f=M.bind (M.lift (some a)) g
  unfold M.bind M.lift
  simp only [this]
  rfl
def zlM:Op→Bool
 | .indexAddr _ _ _ | .call _=>false
 | _=>true
theorem zfw (r:RS) (hp:List (Option Blk)) (ctx:Ctx):∀ l,zcM (r.withHp hp) ctx l=zcM r ctx l
 | []=>rfl
 | x::l=>by simp only [zcM,zgD,zfw r hp ctx l]
theorem zok {fx:List Nat} {r:RS} {hp:List (Option Blk)} (hag:zm1 fx r.st.hp hp) {ctx:Ctx} {op:Op} (h:zbz op=true) (h2:zlM op=true) (hq:zls fx r ctx op=true):evOp P S (r.withHp hp) ctx op=evOp P S r ctx op:=by
 cases op<;>simp only [zbz] at h<;>simp only [zlM] at h2<;>first | (simp only [evOp,zgD,zfw,zpd];done) | contradiction | skip
 case convert sT dT x =>
  simp only [evOp,zgD]
  refine zdF fun v hv=>?_
  split
  ·rename_i b
   simp only [zls,hv,Bool.not_eq_true'] at hq
   have hag2:=hag b hq
   have:zcY hp b=zcY r.st.hp b:=by unfold zcY;rw [hag2]
   show (do pure (.val (←zmn P hp sT dT b)):M OR)=_
   unfold zmn
   rw [this]
  ·rfl
  ·rfl
 rename_i t x
 simp only [evOp,zgD]
 refine zdF fun v hv=>?_
 split
 ·rename_i b off
  simp only [zls,hv,Bool.and_eq_true,Bool.not_eq_true'] at hq
  obtain ⟨hb,hfl⟩:=hq
  have hag2:=hag b hb
  show (do let k ←M.lift (tk P t);let sz ←M.lift (zaM P t);match ←M.lift (nth hp b) with | .c _ cs=>pure (.val (.s (←zds cs off (zb0 k) sz))) | .v _ ts a=>if ts.all LT.flat then (do pure (.val (.s (←zfI ts a off (zb0 k) sz)))) else if hpLt hp then (do let q ←zic ts a off (zb0 k) sz hp;pure (.hp (some (.s q.1)) q.2)) else M.fail | .l _ _ ts a=>if ts.all LT.flat then (do pure (.val (.s (←zfI ts a off (zb0 k) sz)))) else M.fail | .obj _ _ _=>M.fail | .m _ _ _ _=>M.fail:M OR)=_
  rw [hag2]
  refine zdF fun k _=>zdF fun sz _=>zdF fun bk hbk=>?_
  cases bk with
  | c o cs=>rfl
  | v o ts a =>
   rw [hbk] at hfl
   have hfl:ts.all LT.flat=true:=hfl
   simp only [hfl,if_true]
  | obj o k a=>rfl
  | l o f ts a=>rfl
  | m=>rfl
 ·rfl
 ·rfl
def Hyp (E:Env) (ν:Nat→DV) (N:Nat) (hp:List (Option Blk)) (ρ:Nat→Loc):Prop:=(∃ w0,HS E ν ρ hp w0)∧(ρ hp.length).blk=N∧(ρ hp.length).off=0
theorem zlN (hS:SigsOK P I gK S F) (hE:E.Ok gK) {N:Nat} {fx:List Nat} {r:RS} {ctx:Ctx} {o:Oper} (hp:zbz o.op=true):M.sat F ν (zre P S fx r ctx o.op) (fun res=>∀ hp':List (Option Blk),zm1 fx r.st.hp hp'→∀ ρ a,Hyp E ν N r.st.hp ρ→ARel ν ρ r a→zdz ctx a →
  ORok P I E ν ρ hp' (execOp a.eval o) res):=by
 unfold zre
 refine zae (fun hq=>?_) (fun _=>zac)
 cases hpl:zlM o.op with
 | true =>
  refine zoj fun hp' n a n' e d h1 h2 h3 hag=>?_
  have:=zfb (E:=E) (F:=F) (ν:=ν) hS hE (r:=r.withHp hp') (ctx:=ctx) (o:=o)
  rw [zok hag hp hpl hq] at this
  exact fun ρ a' _ ha hc=>this n a n' e d h1 h2 h3 ρ a' (ha.withHp hp') hc
 | false =>
  cases hop:o.op<;>rw [hop] at hpl hp<;>simp only [zlM] at hpl<;>first | cases hpl | skip
  ·rename_i t x ix
   simp only [evOp]
   refine zaa (zad (Q:=fun v=>rd r ctx x=some v) fun a h=>h) fun v hv=>?_
   refine zaa (zad (Q:=fun v=>rd r ctx ix=some v) fun a h=>h) fun u hu=>?_
   split
   ·rename_i b i
    refine zaa (zft (E:=E)) fun z hz=>zab fun hp' _ ρ a ⟨⟨w0,hw0⟩,_⟩ ha hc w hw _=>?_
    have h1:=zaj ha hc hv
    have h2:=zaj ha hc hu
    refine ⟨V1.good_one.2 hz.1,.inl ?_⟩
    have:=hz.2 ρ w0 w hw0
    simp only [V.conc,V1.conc] at h1 h2 ⊢
    simp only [Lf.conc] at h1
    simp [execOp,hop,h1.2,h2.2,this]
   ·rename_i l i _
    by_cases hg:l.good ν
    ·refine zaa (zeI hg) fun z hz=>zab fun hp' _ ρ a _ ha hc=>?_
     have h1:=zaj ha hc hv
     have h2:=zaj ha hc hu
     refine ORok.now (V1.good_one.2 hz.1) fun w _=>?_
     have:=hz.2 ρ w
     simp only [V.conc,V1.conc] at h1 h2 ⊢
     simp [execOp,hop,h1.2,h2.2,this]
    ·refine zaa zap fun z _=>zab fun hp' _ ρ a _ ha hc=>?_
     exact absurd (V1.good_one.1 (zaj ha hc hv).1) hg
   ·exact zac
  ·rename_i c
   simp only [zbz] at hp
   split at hp
   ·rename_i hf
    simp only [evOp,hf]
    refine zaa (zad (Q:=fun vs=>zcz r ctx c.args.toList=some vs) fun a h=>h) fun vs hvs=>?_
    have hargs:∀ ρ a,ARel ν ρ r a→zdz ctx a→c.args.map a.eval=(vs.map (V.conc ν ρ)).toArray:=fun ρ a ha hc=>by
     apply Array.ext'
     simpa using zbJ ha hc hvs
    split
    ·rename_i he;cases he
    ·rename_i he;cases he
    ·rename_i v _
     refine zaa (zad (Q:=fun t=>c.argTypes[0]? = some t) fun a h=>h) fun t ht=>?_
     refine zaa (zmE (E:=E)) fun z hz=>zab fun hp' _ ρ a ⟨⟨w0,hw0⟩,_⟩ ha hc w hw _=>⟨hz.1,.inl ?_⟩
     have:=hz.2 ρ w0 w o.type c.argTypes ht hw0
     simp [execOp,hop,resolve,hf,hargs ρ a ha hc,invoke,builtin,this]
    ·rename_i he;cases he
    ·exact zac
   ·cases hp
def zlO (P:Program) (ν:Nat→DV) (E:Env) (N:Nat) (fx:List Nat) (ops:Array Oper) (o:Oper) (r r':RS):Prop :=
 r'.st.hp=r.st.hp∧∀ ρ a,Hyp E ν N r.st.hp ρ→ARel ν ρ r a→∀ C:World→Prop,(∀ w,C w→∃ hp,HS E ν ρ hp w∧zm1 fx r.st.hp hp)→(∀ w w',C w→Below w.heap.size w w'→C w')→(∃ w,C w) →
  if Region.wanted o (yielded ops a.tmps)=true then ∃ v,(∀ w,C w→o.quietAt P a C w v)∧ARel ν ρ r' (a.put o.dst v) else ARel ν ρ r' (a.put o.dst undef)
theorem zjh {o:Oper} {a:Act} {v:Value} {C:World→Prop} (hB:∀ w w',C w→Below w.heap.size w w'→C w')
  (h:∀ w,C w→zlB P (execOp a.eval o) w v):∀ w,C w→o.quietAt P a C w v:=by
 intro w hw
 unfold Oper.quietAt
 rcases h w hw with h | ⟨f,args,h,hc⟩
 ·rw [h];exact ⟨rfl,rfl⟩
 ·rw [h]
  exact ⟨rfl,hc.mono fun e w'' ⟨he,hb⟩=>⟨he,hB w w'' hw hb⟩⟩
theorem zkJ (hI:∀ w,Fr E.W E.w0 w→I w) {N:Nat} {fx:List Nat} {ops:Array Oper} {o:Oper} {r:RS} {x:OR} (hw:∀ ρ a,ARel ν ρ r a→Region.wanted o (yielded ops a.tmps)=true)
  (hx:∀ hp',zm1 fx r.st.hp hp'→∀ ρ a,Hyp E ν N r.st.hp ρ→ARel ν ρ r a→ORok P I E ν ρ hp' (execOp a.eval o) x):M.sat F ν (zet true r o.dst x) (zlO P ν E N fx ops o r):=by
 cases x with
 | val v =>
  refine zah zbT fun r' hr'=>⟨hr'.1,fun ρ a hh0 ha C hC hB hex=>?_⟩
  rw [if_pos (hw ρ a ha)]
  refine ⟨v.conc ν ρ,zjh hB fun w hw1=>?_,hr'.2 ρ a _ ha fun v' hv'=>?_⟩
  ·obtain ⟨hp,hh,hag⟩:=hC w hw1
   exact (hx hp hag ρ a hh0 ha w hh (hI w hh.fr)).2
  ·obtain ⟨w,hw1⟩:=hex
   obtain ⟨hp,hh,hag⟩:=hC w hw1
   cases hv';exact ⟨(hx hp hag ρ a hh0 ha w hh (hI w hh.fr)).1,rfl⟩
 | hp v hp'=>unfold zet;simp only [Bool.not_true,Bool.false_and,Bool.false_eq_true,if_false];exact zac
theorem zol (hI:∀ w,Fr E.W E.w0 w→I w) {N:Nat} {fx:List Nat} {ops:Array Oper} {o:Oper} {r:RS} {d:Nat} {want:Bool} {x:OR} (hw:∀ (a:Act),Region.wanted o (yielded ops a.tmps)=true↔a.tmps[d]? = some (.bool want))
  (hx:∀ hp',zm1 fx r.st.hp hp'→∀ ρ a,Hyp E ν N r.st.hp ρ→ARel ν ρ r a→a.tmps[d]? = some (.bool want)→ORok P I E ν ρ hp' (execOp a.eval o) x):M.sat F ν (zlq r o.dst d want x) (zlO P ν E N fx ops o r):=by
 cases x with
 | val v =>
  refine zah zif fun r' hr'=>⟨hr'.1,fun ρ a hh0 ha C hC hB hex=>?_⟩
  by_cases hg:Region.wanted o (yielded ops a.tmps)=true
  ·rw [if_pos hg]
   have hd:=(hw a).1 hg
   refine ⟨v.conc ν ρ,zjh hB fun w hw1=>?_,hr'.2 ρ a _ ha (fun _=>?_) (fun hn=>absurd hd hn)⟩
   ·obtain ⟨hp,hh,hag⟩:=hC w hw1
    exact (hx hp hag ρ a hh0 ha hd w hh (hI w hh.fr)).2
   ·obtain ⟨w,hw1⟩:=hex
    obtain ⟨hp,hh,hag⟩:=hC w hw1
    exact ⟨(hx hp hag ρ a hh0 ha hd w hh (hI w hh.fr)).1,rfl⟩
  ·rw [if_neg hg]
   have hd:a.tmps[d]?≠some (.bool want):=fun h=>hg ((hw a).2 h)
   exact hr'.2 ρ a _ ha (fun h=>absurd h hd) (fun _=>rfl)
 | hp v hp'=>exact zac
theorem zrB {N:Nat} {o:Oper} (h:zbz o.op=true):nopN N o=o:=by
 unfold nopN
 have h1:zbS o.op=false:=by cases hop:o.op<;>rw [hop] at h<;>simp [zbz,zbS] at h ⊢
 have h2:allocOp o.op=false:=by cases hop:o.op<;>rw [hop] at h<;>simp [zbz,allocOp] at h ⊢
 simp [h1,h2]
theorem zqn (hS:SigsOK P I gK S F) (hE:E.Ok gK) (hI:∀ w,Fr E.W E.w0 w→I w) {N:Nat} {fx:List Nat} {ops ops':Array Oper} (hdst:∀ j:Nat,(ops[j]?).bind (·.dst)=(ops'[j]?).bind (·.dst)) {r:RS} {o:Oper} (hp:zbz o.op=true∨allocOp o.op=true) :
  M.sat F ν (znM P S fx ops.toList r o) (zlO P ν E N fx ops' (nopN N o) r):=by
 unfold znM
 refine zae (fun hal=>zae (fun hg=>?_) (fun _=>zac)) (fun hal=>?_)
 ·have hg:o.guard=none:=by simpa using hg
  refine zah zbT fun r' hr'=>⟨hr'.1,fun ρ a hh0 ha C hC hB hex=>?_⟩
  have hst:zbS o.op=false:=by cases hop:o.op<;>rw [hop] at hal<;>simp [zbS,allocOp] at hal ⊢
  have e1:nopN N o = { o with op:=.move (.const (.pointer (some ⟨N,0,none⟩))) }:=by unfold nopN;simp [hst,hal]
  rw [if_pos (by rw [e1];simp [Region.wanted,hg])]
  rw [e1]
  refine ⟨.pointer (some ⟨N,0,none⟩),fun w hw=>?_,hr'.2 ρ a _ ha fun v hv=>?_⟩
  ·unfold Oper.quietAt
   simp [execOp,Act.eval,Oper.quietUpon]
  ·cases hv
   refine ⟨V1.good_one.2 trivial,?_⟩
   simp [V.conc,V1.conc,Lf.conc,hh0.2.1,hh0.2.2,Off.val]
 have hp:zbz o.op=true:=by
  rcases hp with h | h
  ·exact h
  ·exact absurd h hal
 rw [zrB hp]
 split
 ·rename_i hg
  refine zaa (zlN (E:=E) hS hE hp) fun x hx=>zkJ hI (fun ρ a _=>by simp [Region.wanted,hg]) fun hp' hag ρ a hh0 ha=>hx hp' hag ρ a hh0 ha (fun p hp=>by simp at hp)
 ·rename_i j want hg
  refine zaa (zad (Q:=fun d=>(ops'[j]?).bind (·.dst)=some d) fun a h=>by rw [←hdst j];simpa using h) fun d hd=>?_
  refine zaa (zad (Q:=fun res=>zbN r 8 d want=some res) fun a h=>h) fun res hres=>?_
  have hwd:∀ (a:Act),Region.wanted o (yielded ops' a.tmps)=true↔a.tmps[d]? = some (.bool want):=fun a=>zfW hg hd
  split
  ·refine zah zbT fun r' hr'=>⟨hr'.1,fun ρ a _ ha C _ _ _=>?_⟩
   have hn:a.tmps[d]?≠some (.bool want):=zas ha 8 d want hres
   rw [if_neg (fun h=>hn ((hwd a).1 h))]
   exact hr'.2 ρ a _ ha (fun v hv=>by cases hv;exact ⟨V.good_s.2 (V1.good_one.2 trivial),rfl⟩)
  ·rename_i ctx cs
   split
   ·refine zaa (zlN (E:=E) hS hE hp) fun x hx=>zkJ hI (fun ρ a ha=>?_) fun hp' hag ρ a hh0 ha=>hx hp' hag ρ a hh0 ha (fun p hp=>by simp at hp)
    have:=zas ha 8 d want hres
    exact (hwd a).2 (this.2.1 rfl)
   ·refine zaa (zew (zlN (E:=E) (N:=N) hS hE hp (ctx:=ctx))) fun x hx=>?_
    have hx2:∀ hp',zm1 fx r.st.hp hp'→∀ ρ a,Hyp E ν N r.st.hp ρ→ARel ν ρ r a→a.tmps[d]? = some (.bool want)→ORok P I E ν ρ hp' (execOp a.eval o) x:=fun hp' hag ρ a hh0 ha hd'=>by
     have:=(zas ha 8 d want hres).1 hd'
     exact hx this.2 hp' hag ρ a hh0 ha this.1
    cases x with
    | val v=>exact zol hI hwd hx2
    | hp v hp'=>exact zac
theorem zji (hS:SigsOK P I gK S F) (hE:E.Ok gK) (hI:∀ w,Fr E.W E.w0 w→I w) {N:Nat} {fx:List Nat} {ops ops':Array Oper} (hdst:∀ j:Nat,(ops[j]?).bind (·.dst)=(ops'[j]?).bind (·.dst)):∀ (l:List Oper) (r:RS),(∀ o∈l,zbz o.op=true∨allocOp o.op=true)→M.sat F ν (zgj P S fx ops.toList l r) (fun r' =>
  ∀ ρ a,Hyp E ν N r.st.hp ρ→ARel ν ρ r a→∀ C:World→Prop,(∀ w,C w→∃ hp,HS E ν ρ hp w∧zm1 fx r.st.hp hp)→(∀ w w',C w→Below w.heap.size w w'→C w')→(∃ w,C w)→wpQuiet P ops' C (fun a'=>ARel ν ρ r' a') (l.map (nopN N)) a)
 | [],r,_=>zab fun ρ a _ h _ _ _ _=>h
 | o::l,r,hl=>by
  unfold zgj
  refine zaa (zqn (E:=E) (N:=N) (ops:=ops) hS hE hI hdst (hl o (by simp))) fun r1 h1=>zah (zji (N:=N) hS hE hI hdst l r1 (fun o ho=>hl o (List.mem_cons_of_mem _ ho))) fun r' h2=>?_
  intro ρ a hh0 ha C hC hB hex
  obtain ⟨hhp,h1⟩:=h1
  rw [hhp] at h2
  have:=h1 ρ a hh0 ha C hC hB hex
  simp only [List.map_cons,wpQuiet]
  split
  ·rename_i hw
   rw [if_pos hw] at this
   obtain ⟨v,h3,h4⟩:=this
   exact ⟨v,h3,h2 ρ _ hh0 h4 C hC hB hex⟩
  ·rename_i hw
   rw [if_neg hw] at this
   exact h2 ρ _ hh0 this C hC hB hex
def NE (P:Program) (m:Sem Next):Prop:=∀ (w:World) (g:FuncId) (args:Array Value) (w':World),m.run P w≠.ok (.enter g args) w'
theorem NE.bind {α:Type} {m:Sem α} {f:α→Sem Next} (h:∀ x,NE P (f x)):NE P (m >>= f):=by
 intro w g args w'
 rw [Sem.run_bind]
 cases m.run P w with
 | halt x w1=>intro h;cases h
 | ok x w1=>exact h x w1 g args w'
theorem NE.value (v:Value):NE P (pure (.value v)):=fun w g args w' h=>by cases h
theorem NE.ite {c:Prop} [Decidable c] {x y:Sem Next} (hx:NE P x) (hy:NE P y):NE P (if c then x else y):=by split<;>assumption
theorem NE.panic:NE P (runtimePanic .nilDeref):=fun w g args w' h=>by simp [runtimePanic,goPanic] at h
theorem zeK {o:Oper} (h:zbz o.op=true) (a:Act) (w:World) (f:FuncId) (args:Array Value) (w':World):(execOp a.eval o).run P w≠.ok (.enter f args) w':=by
 have key:NE P (execOp a.eval o):=by
  cases hop:o.op<;>rw [hop] at h<;>simp only [zbz] at h<;>simp only [execOp,hop]<;>first | exact NE.value _ | exact NE.bind fun x=>NE.value _ | cases h | skip
  ·split<;>first | exact NE.panic | exact NE.value _ | skip
   split<;>first | exact NE.panic | exact NE.value _ | skip
   exact NE.bind fun x=>NE.bind fun y=>NE.ite (NE.bind fun z=>NE.value _) (NE.value _)
  ·rename_i c
   split at h
   ·rename_i hf
    intro w g args w'
    rw [Sem.run_bind]
    simp only [resolve,hf,Sem.run_pure,Result.andThen_ok,invoke,builtin]
    exact (NE.bind fun x=>NE.value _:NE P _) w g args w'
   ·cases h
 exact key w f args w'
theorem zhn (N:Nat) (o:Oper):nopN N o=o∨∃ op,nopN N o = { o with op:=op }:=by
 unfold nopN
 split
 ·exact .inr ⟨_,rfl⟩
 ·split
  ·exact .inr ⟨_,rfl⟩
  ·exact .inl rfl
theorem zho (N:Nat) (o:Oper):(nopN N o).after=o.after:=by
 rcases zhn N o with h | ⟨op,h⟩<;>rw [h]
theorem zdb (N:Nat) (o:Oper):(nopN N o).dst=o.dst:=by
 rcases zhn N o with h | ⟨op,h⟩<;>rw [h]
theorem zhp (N:Nat) (o:Oper):(nopN N o).guard=o.guard:=by
 rcases zhn N o with h | ⟨op,h⟩<;>rw [h]
theorem zuN (o:Oper):(nop o).dst=o.dst:=by unfold nop;split<;>rfl
theorem zrC {N:Nat} {o:Oper} (h:za3 o.op=false):nopN N o=o:=by
 unfold za3 at h
 rw [Bool.or_eq_false_iff] at h
 unfold nopN
 simp [h.1,h.2]
theorem zrD {o:Oper} (h:zbz o.op=true∨za3 o.op=true):zbz (nop o).op=true∨allocOp (nop o).op=true:=by
 unfold nop
 split
 ·exact .inl rfl
 ·rename_i hs
  rcases h with h | h
  ·exact .inl h
  ·unfold za3 at h
   rw [Bool.or_eq_true] at h
   rcases h with h | h
   ·exact absurd h hs
   ·exact .inr h
theorem ztr (N:Nat) (o:Oper):nopN N (nop o)=nopN N o:=by
 unfold nop
 split
 ·rename_i hs
  have e:nopN N o = { o with op:=.move (.const (.bool false)) }:=by unfold nopN;rw [if_pos hs]
  rw [e]
  rfl
 ·rfl
theorem zkK (N:Nat) {ops1 ops2:Array Oper} (h:∀ j:Nat,(ops1[j]?).bind (·.dst)=(ops2[j]?).bind (·.dst)) (o:Oper):(nopN N o).looksAt ops1=(nopN 0 o).looksAt ops2:=by
 unfold Oper.looksAt
 rw [zhp,zhp]
 congr 1
 ·unfold nopN
  repeat' split
  all_goals rfl
 ·cases o.guard with
  | none=>rfl
  | some p=>simp only [h p.1]
theorem zqo (N:Nat) {ops1 ops2:Array Oper} (h:∀ j:Nat,(ops1[j]?).bind (·.dst)=(ops2[j]?).bind (·.dst)) (x y:Oper):(nopN N x).apart ops1 (nopN N y)=(nopN 0 x).apart ops2 (nopN 0 y):=by
 unfold Oper.apart
 rw [zdb,zdb,zdb,zdb,zkK N h,zkK N h]
theorem zrE (N:Nat) (l:List Oper):Region.lexB .any (l.map (nopN N)).toArray=Region.lexB .any (l.map (nopN 0)).toArray:=by
 have hat:∀ (M j:Nat),((l.map (nopN M)).toArray)[j]? = (l[j]?).map (nopN M):=fun M j=>by simp
 have hd:∀ j:Nat,(((l.map (nopN N)).toArray)[j]?).bind (·.dst)=(((l.map (nopN 0)).toArray)[j]?).bind (·.dst):=fun j=>by
  rw [hat,hat]
  cases l[j]? with
  | none=>rfl
  | some o=>simp [zdb]
 have hready:∀ listed,Region.ready .any (l.map (nopN N)).toArray listed=Region.ready .any (l.map (nopN 0)).toArray listed:=fun listed=>by
  unfold Region.ready
  rw [show (l.map (nopN N)).toArray.size=(l.map (nopN 0)).toArray.size from by simp]
  refine List.filter_congr fun j _=>?_
  rw [hat,hat]
  cases l[j]? with
  | none=>rfl
  | some o=>simp only [Option.map_some,zho]
 have hfree:∀ listed i,Region.free .any (l.map (nopN N)).toArray listed i=Region.free .any (l.map (nopN 0)).toArray listed i:=fun listed i=>by
  unfold Region.free
  rw [hat,hat]
  cases l[i]? with
  | none=>rfl
  | some oi =>
   simp only [Option.map_some]
   rw [show (l.map (nopN N)).toArray.size=(l.map (nopN 0)).toArray.size from by simp]
   congr 1
   funext j
   rw [hat,hat]
   cases l[j]? with
   | none=>rfl
   | some oj=>simp only [Option.map_some,zho,zqo N hd]
 have hlex:∀ (fuel k:Nat) (listed:Array Bool),Region.lexFrom .any (l.map (nopN N)).toArray fuel k listed=Region.lexFrom .any (l.map (nopN 0)).toArray fuel k listed:=by
  intro fuel
  induction fuel with
  | zero=>intro k listed;simp only [Region.lexFrom,hready]
  | succ fuel ih=>intro k listed;simp only [Region.lexFrom,hready,hfree,ih]
 unfold Region.lexB
 rw [hlex,show (l.map (nopN N)).toArray.size=(l.map (nopN 0)).toArray.size from by simp]
 congr 1
 unfold Region.noSelect
 simp only [List.all_toArray,List.all_map]
 congr 1
 funext o
 simp only [Function.comp]
 have key:nopN N o=nopN 0 o∨∃ x y,(nopN N o).op = .move x∧(nopN 0 o).op = .move y:=by
  by_cases h1:zbS o.op=true
  ·left
   unfold nopN
   rw [if_pos h1,if_pos h1]
  ·by_cases h2:allocOp o.op=true
   ·right
    unfold nopN
    rw [if_neg h1,if_pos h2,if_neg h1,if_pos h2]
    exact ⟨_,_,rfl,rfl⟩
   ·left
    unfold nopN
    rw [if_neg h1,if_neg h2,if_neg h1,if_neg h2]
 rcases key with h | ⟨x,y,h1,h2⟩
 ·rw [h]
 ·rw [h1,h2]
theorem zkL {b j:Nat} {fx:List Nat} (hb:memN b fx=true) (hj:memN j fx=false):j≠b:=fun e=>by subst e;rw [hb] at hj;cases hj
theorem zeL {fx:List Nat} (sl:List (Option V)) (gl:List GE):∀ (l:List Oper) (hp:List (Option Blk)),M.sat F ν (zgk P S fx sl gl l hp) (fun hp'=>∃ hps:Nat→List (Option Blk),hps 0=hp∧hps l.length=hp'∧(∀ k,k≤l.length→zm1 fx hp (hps k)) ∧
  (∀ o t,l[0]? = some o→o.op = .alloc t→hpLt hp=true∧∀ ρ w,HS E ν ρ hp w→∀ a:Act,∃ w',(execOp a.eval o).run P w = .ok (.value (.pointer (some ⟨w.heap.size,0,none⟩))) w'∧HS E ν (ext ρ hp.length ⟨w.heap.size,0,false,0,0,none⟩) (hps 1) w') ∧
  ∀ k o,l[k]? = some o→zbS o.op=true→∀ ρ a,ARel ν ρ ⟨⟨sl,[]⟩,gl⟩ a→∀ w,HS E ν ρ (hps k) w→∃ w',(execOp a.eval o).run P w = .ok .skip w'∧HS E ν ρ (hps (k+1)) w')
 | [],hp=>zab ⟨fun _=>hp,rfl,rfl,fun _ _ _ _=>rfl,fun o t h=>by simp at h,fun k o h=>by simp at h⟩
 | o::l,hp=>by
  unfold zgk
  split
  ·rename_i t x y hop
   refine zaa (zad (Q:=fun v=>rd ⟨⟨sl,hp⟩,gl⟩ [] x=some v) fun a h=>h) fun v hv=>?_
   split
   ·rename_i b off
    refine zae (fun hb=>?_) (fun _=>zac)
    refine zaa (zuJ (zjc (E:=E) hop) (zql hv)) fun hp1 h1=>zah (zeL sl gl l hp1) fun hp' ⟨hps,e1,e2,e4,_,e3⟩=>?_
    refine ⟨fun k=>match k with | 0=>hp | k+1=>hps k,rfl,e2,fun k hk j hj=>?_,fun o' t' ho' hot'=>(by simp at ho';subst ho';rw [hop] at hot';cases hot'),fun k o' hk hst ρ a ha w hw=>?_⟩
    ·cases k with
     | zero=>rfl
     | succ k =>
      have:=e4 k (by simpa using hk) j hj
      simp only
      rw [this]
      exact h1.2 j (zkL hb hj)
    ·cases k with
     | zero =>
      simp at hk;subst hk
      obtain ⟨w',g1,g2⟩:=h1.1 ρ a ⟨ha.defers,ha.size,ha.slot,ha.gl⟩ (fun p hp=>by simp at hp) w hw
      exact ⟨w',g1,by simp only;rw [e1];exact g2⟩
     | succ k=>exact e3 k o' (by simpa using hk) hst ρ a ha w hw
   ·exact zac
  ·rename_i t hop
   refine zaa (zad (Q:=fun v=>zeroCells P t=some v) fun a h=>h) fun z hz=>?_
   refine zae (fun hc=>?_) (fun _=>zac)
   simp only [Bool.and_eq_true] at hc
   obtain ⟨⟨⟨hb,_⟩,hlt⟩,hzl⟩:=hc
   refine zah (zeL sl gl l _) fun hp' ⟨hps,e1,e2,e4,e5,e3⟩=>?_
   refine ⟨fun k=>match k with | 0=>hp | k+1=>hps k,rfl,e2,fun k hk j hj=>?_,fun o' t' ho' hot'=>?_,fun k o' hk hst ρ a ha w hw=>?_⟩
   ·cases k with
    | zero=>rfl
    | succ k =>
     have:=e4 k (by simpa using hk) j hj
     simp only
     rw [this,zaL]
     have hne:=zkL hb hj
     split
     ·rfl
     ·rename_i hjl
      have:j-hp.length≠0:=by omega
      cases hk2:j-hp.length with
      | zero=>omega
      | succ m =>
       have:nth hp j=none:=by
        cases hn:nth hp j with
        | none=>rfl
        | some x=>exact absurd (za4 hn) hjl
       rw [this]
       cases m<;>rfl
   ·simp at ho'
    subst ho'
    rw [hop] at hot'
    cases hot'
    refine ⟨hlt,fun ρ w hw a=>?_⟩
    obtain ⟨i,zv,hi,hzv,hzg,hzc⟩:=zbe (ν:=ν) hz
    have hnew:=hw.new hlt hzl hzg t
    rw [←hzc ρ] at hnew
    refine ⟨w.alloc (.cells zv.cells t),?_,by simp only;rw [e1];exact hnew⟩
    simp [execOp,hop,Instr.alloc,zeroValue,typeInfo,hi,hzv,newVar,newRow]
   ·cases k with
    | zero=>simp at hk;subst hk;rw [hop] at hst;cases hst
    | succ k=>exact e3 k o' (by simpa using hk) hst ρ a ha w hw
  ·exact zac
theorem zdc (ops:List Oper):∀ i,i∈storeAt ops↔∃ o,ops[i]? = some o∧za3 o.op=true:=by
 intro i
 unfold storeAt
 rw [List.mem_map]
 constructor
 ·rintro ⟨⟨o,j⟩,h,rfl⟩
  obtain ⟨h1,h2⟩:=List.mem_filter.1 h
  exact ⟨o,(List.mem_zipIdx_iff_getElem?.1 h1),h2⟩
 ·rintro ⟨o,h1,h2⟩
  exact ⟨(o,i),List.mem_filter.2 ⟨List.mem_zipIdx_iff_getElem?.2 h1,h2⟩,rfl⟩
theorem zfc:∀ (ops:List Oper) (n:Nat),((ops.zipIdx n).filter fun p=>za3 p.1.op).map (·.1)=ops.filter fun o=>za3 o.op
 | [],_=>rfl
 | o::l,n=>by
  rw [List.zipIdx_cons,List.filter_cons,List.filter_cons]
  split
  ·rw [List.map_cons,zfc l (n+1)]
  ·exact zfc l (n+1)
theorem zrF (ops:List Oper) (k i:Nat) (h:(storeAt ops)[k]? = some i):∃ o,ops[i]? = some o∧(ops.filter fun o=>za3 o.op)[k]? = some o:=by
 unfold storeAt at h
 rw [List.getElem?_map] at h
 obtain ⟨⟨o,j⟩,h1,rfl⟩:=Option.map_eq_some_iff.1 h
 refine ⟨o,?_,?_⟩
 ·have:=(List.mem_filter.1 (List.mem_of_getElem? h1)).1
  exact List.mem_zipIdx_iff_getElem?.1 this
 ·have:=zfc ops 0
  rw [←this,List.getElem?_map,h1]
  rfl
theorem zjj:∀ {l:List Nat},zpf l=true→∀ p q i j:Nat,p<q→l[p]? = some i→l[q]? = some j→i<j
 | [],_,p,q,i,j,_,hi,_=>by simp at hi
 | [a],_,p,q,i,j,hpq,hi,hj=>by
  have:q<1:=by
   rcases Nat.lt_or_ge q 1 with h | h
   ·exact h
   ·rw [List.getElem?_eq_none (by simpa using h)] at hj;cases hj
  omega
 | a::b::l,h,p,q,i,j,hpq,hi,hj=>by
  simp only [zpf,Bool.and_eq_true] at h
  have h1:a<b:=by simpa [Nat.blt_eq] using h.1
  cases q with
  | zero=>omega
  | succ q =>
   simp only [List.getElem?_cons_succ] at hj
   cases p with
   | succ p=>exact zjj h.2 p q i j (by omega) (by simpa using hi) hj
   | zero =>
    simp at hi;subst hi
    cases q with
    | zero=>simp at hj;subst hj;exact h1
    | succ q=>exact Nat.lt_trans h1 (zjj h.2 0 (q+1) b j (by omega) rfl hj)
theorem zm2 {l m:List Nat} (h:sub1 l m=true):∀ x∈l,x∈m:=fun x hx=>zcl (List.all_eq_true.1 h x hx)
theorem zig {n:Nat} : ∀ {l:List Nat},n∈l→memN n l=true
 | x::l,h=>by
  rcases List.mem_cons.1 h with rfl | h
  ·simp [memN]
  ·simp [memN,zig h]
theorem backB_ok' {ops:List Oper} (h:zlr ops=true):zb5 .any ops.toArray:=by
 intro i o ho
 have ho':ops[i]? = some o:=by simpa using ho
 have hm:(o,i)∈ops.zipIdx:=by
  rw [List.mem_zipIdx_iff_getElem?]
  exact ho'
 have:=List.all_eq_true.1 h _ hm
 simp only [Bool.and_eq_true] at this
 refine ⟨fun e he hbd=>?_,fun j b hg=>?_⟩
 ·have h1:=this.1
  have:=Array.all_eq_true_iff_forall_mem.1 h1 e he
  simpa [Nat.blt_eq,hbd] using this
 ·have h2:=this.2
  rw [hg] at h2
  simpa [Nat.blt_eq] using h2
theorem zdd {a a':Act} {x:Operand} (h:∀ t∈znN x,a'.tmps[t]? = a.tmps[t]?):a.eval x=a'.eval x:=by
 cases x with
 | tmp t=>simp only [Act.eval,Array.getD_eq_getD_getElem?];rw [h t (by simp [znN])]
 | _=>rfl
theorem zlP (hS:SigsOK P I gK S F) (hE:E.Ok gK) (hI:∀ w,Fr E.W E.w0 w→I w) {fx:List Nat} {ops:Array Oper} {s:St} (hm:ztg ops.toList=true) (hB:Region.lexB .any (ops.toList.map (nopN 0)).toArray=true) (hback:zlr ops.toList=true) :
  M.sat F ν (ziv P S fx ops.toList s) (fun s'=>∀ ρ a w,RR ν E ρ ⟨s,[]⟩ a w→∀ Q:Exit→Act→World→Prop,(∀ ρ' a' w',RR ν E ρ' ⟨s',[]⟩ a' w'→Q .normal a' w') →
   wpAny P .any ops Q ops.size (Array.replicate ops.size false) a w):=by
 simp only [ztg,Bool.and_eq_true] at hm
 obtain ⟨⟨⟨hkinds,hsorted⟩,hanc⟩,hfirst⟩:=hm
 have hk:∀ o∈ops.toList,zbz o.op=true∨(za3 o.op=true∧o.guard=none∧(allocOp o.op=true∨o.dst=none)):=fun o ho=>by
  have:=List.all_eq_true.1 hkinds o ho
  simp only [Bool.or_eq_true,Bool.and_eq_true,Option.isNone_iff_eq_none] at this
  rcases this with h | ⟨⟨h1,h2⟩,h3⟩
  ·exact .inl h
  ·exact .inr ⟨h1,h2,h3⟩
 unfold ziv
 refine zae (fun hchk=>?_) (fun _=>zac)
 simp only [Bool.and_eq_true] at hchk
 have hdd:∀ (N j:Nat),(((ops.toList.map nop).toArray)[j]?).bind (·.dst)=(((ops.toList.map (nopN N)).toArray)[j]?).bind (·.dst):=fun N j=>by
  have e1:((ops.toList.map nop).toArray)[j]? = (ops[j]?).map nop:=by simp
  have e2:((ops.toList.map (nopN N)).toArray)[j]? = (ops[j]?).map (nopN N):=by simp
  rw [e1,e2]
  cases ops[j]? with
  | none=>rfl
  | some o=>simp [zuN,zdb]
 have hops:=zoj fun N=>zji (E:=E) (F:=F) (ν:=ν) hS hE hI (N:=N) (fx:=fx) (ops:=(ops.toList.map nop).toArray) (ops':=(ops.toList.map (nopN N)).toArray) (hdd N) (ops.toList.map nop) ⟨s,[]⟩ (fun o ho=>by
  obtain ⟨o',h1,rfl⟩:=List.mem_map.1 ho
  exact zrD (by rcases hk o' h1 with h | h;exact .inl h;exact .inr h.1))
 simp only at hops
 refine zaa hops fun r hr=>zaa (zeL (E:=E) r.st.sl r.gl _ s.hp) fun hp' ⟨hps,e1,e2,e4,e5,e3⟩=>zab fun ρ a w hrr Q hQ=>?_
 generalize hN:w.heap.size=N
 have ha1:ARel ν (ext ρ s.hp.length ⟨N,0,false,0,0,none⟩) ⟨s,[]⟩ a:=hrr.act.ext (fun j hj=>zbO hj) hchk.1 (by simp) s.hp
 have hs1:HS E ν (ext ρ s.hp.length ⟨N,0,false,0,0,none⟩) s.hp w:=hrr.hs.reloc hchk.2 (fun j hj=>zbO hj)
 have hn1:ext ρ s.hp.length ⟨N,0,false,0,0,none⟩ s.hp.length=⟨N,0,false,0,0,none⟩:=zbI _ _ _
 have hee:ext (ext ρ s.hp.length ⟨N,0,false,0,0,none⟩) s.hp.length ⟨N,0,false,0,0,none⟩=ext ρ s.hp.length ⟨N,0,false,0,0,none⟩:=by
  funext j
  simp only [ext]
  split<;>rfl
 generalize ext ρ s.hp.length ⟨N,0,false,0,0,none⟩=ρ1 at *
 have hr:=hr N
 rw [List.map_map,show nopN N∘nop=nopN N from funext fun o=>ztr N o] at hr
 have hsz:(ops.toList.map (nopN N)).toArray.size=ops.size:=by simp
 have hat:∀ j:Nat,(ops.toList.map (nopN N)).toArray[j]? = (ops[j]?).map (nopN N):=fun j=>by simp
 have hlen:(storeAt ops.toList).length=(ops.toList.filter fun o=>za3 o.op).length:=by
  have:=congrArg List.length (zfc ops.toList 0)
  simp only [List.length_map] at this
  unfold storeAt
  simpa using this
 have hget:∀ (i:Nat) (o:Oper),ops[i]? = some o→ops.toList[i]? = some o:=fun i o h=>by simpa using h
 have hmem:∀ (i:Nat) (o:Oper),ops[i]? = some o→o∈ops.toList:=fun i o h=>List.mem_of_getElem? (hget i o h)
 have hancs:∀ (i:Nat) (o:Oper),i∈storeAt ops.toList→ops[i]? = some o→sub1 ((storeAt ops.toList).filter fun j=>Nat.blt j i) (zaA ops.toList i (zbB o))=true ∧
   ops.toList.zipIdx.all (znO (zaA ops.toList i (zbB o)) (zdv o.op))=true:=fun i o hi ho=>by
  have:=List.all_eq_true.1 hanc i hi
  unfold zvN at this
  rw [hget i o ho] at this
  simpa only [Bool.and_eq_true] using this
 refine zoi (ops':=(ops.toList.map (nopN N)).toArray) (st:=storeAt ops.toList) (C:=fun w=>∃ k,k≤(ops.toList.filter fun o=>za3 o.op).length∧HS E ν ρ1 (hps k) w) (D:=fun k w=>HS E ν ρ1 (hps k) w∧(k=0→w.heap.size=N)) (Qf:=fun a'=>ARel ν ρ1 r a')
  (by have:=backB_ok' hback;simpa using this) (fun listed=>?_) (fun j=>?_) (fun i hi=>?_) (fun i hi=>?_) (fun k w hk h=>⟨k,by rw [←hlen];exact hk,h.1⟩) (fun i o hi ho=>?_) (fun p q i j hpq hi hj listed hcl hrd=>?_) (fun i o hi ho listed hcl hrd t ht j o' ho' hd'=>?_)
  (fun k i o o' hki ho ho'=>?_) (fun a1 w1 ha1 hw1=>?_) ops.size _ a w 0 (by simp) (fun i o _ hl=>?_) (Nat.zero_le _) (fun p i hp=>by omega) (fun p i _ _=>?_) ⟨by rw [e1];exact hs1,fun _=>hN⟩ ?_
 ·unfold Region.ready
  rw [hsz]
  refine List.filter_congr fun j _=>?_
  rw [hat j]
  cases ops[j]? with
  | none=>rfl
  | some o=>simp only [Option.map_some,zho]
 ·rw [hat j]
  cases ops[j]? with
  | none=>rfl
  | some o=>simp [zdb]
 ·rw [hat i]
  cases ho:ops[i]? with
  | none=>rfl
  | some o =>
   have:za3 o.op=false:=by
    cases h:za3 o.op with
    | false=>rfl
    | true=>exact absurd ((zdc _ i).2 ⟨o,hget i o ho,h⟩) hi
   simp [zrC this]
 ·obtain ⟨o,h1,h2⟩:=(zdc _ i).1 hi
  have h1':ops[i]? = some o:=by simpa using h1
  rcases hk o (List.mem_of_getElem? h1) with h | h
  ·exfalso
   cases hop:o.op<;>rw [hop] at h h2<;>simp [zbz,za3,zbS,allocOp] at h h2
  ·exact ⟨o,nopN N o,h1',by rw [hat i,h1'];rfl,h.2.1,by rw [zdb],by rw [zhp];exact h.2.1⟩
 ·rcases hk o (hmem i o ho) with h | h
  ·exact fun a w f args w'=>zeK h a w f args w'
  ·exact absurd ((zdc _ i).2 ⟨o,hget i o ho,h.1⟩) hi
 ·obtain ⟨o,h1,h2⟩:=(zdc _ j).1 (List.mem_of_getElem? hj)
  have h1':ops[j]? = some o:=by simpa using h1
  have hs:=(hancs j o (List.mem_of_getElem? hj) h1').1
  refine zbW hcl h1' hrd i (zm2 hs i (List.mem_filter.2 ⟨List.mem_of_getElem? hi,?_⟩))
  have:=zjj hsorted p q i j hpq hi hj
  simpa [Nat.blt_eq] using this
 ·have hs:=(hancs i o hi ho).2
  have:=List.all_eq_true.1 hs (o',j) (List.mem_zipIdx_iff_getElem?.2 (hget j o' ho'))
  simp only [znO,hd',Bool.or_eq_true,Bool.not_eq_true'] at this
  rcases this with h | h
  ·rw [zig ht] at h;cases h
  ·exact zbW hcl ho hrd j (zcl h)
 ·obtain ⟨o2,h1,h2⟩:=zrF ops.toList k i hki
  rw [hget i o ho] at h1;cases h1
  rw [hat i,ho] at ho'
  cases ho'
  have hst2:za3 o.op=true:=(List.mem_filter.1 (List.mem_of_getElem? h2)).2
  have hkk:=hk o (hmem i o ho)
  cases hso:zbS o.op with
  | true =>
   left
   have hal:allocOp o.op=false:=by cases hop:o.op<;>rw [hop] at hso<;>simp [zbS,allocOp] at hso ⊢
   refine ⟨?_,fun a1 a2 ha2 htm w1 hw1=>?_⟩
   ·rcases hkk with h | ⟨_,_,h | h⟩
    ·exfalso
     cases hop:o.op<;>rw [hop] at h hso<;>simp [zbz,zbS] at h hso
    ·rw [hal] at h;cases h
    ·exact h
   obtain ⟨w',g1,g2⟩:=e3 k o h2 hso ρ1 a2 ⟨ha2.defers,ha2.size,ha2.slot,ha2.gl⟩ w1 hw1.1
   refine ⟨w',?_,g2,fun h=>by omega⟩
   rw [←g1]
   congr 1
   cases hop:o.op<;>rw [hop] at hso<;>simp only [zbS] at hso<;>first | cases hso | skip
   rename_i t x y
   rw [hop] at htm
   have hx:a1.eval x=a2.eval x:=zdd fun t ht=>htm t (by simp [zdv,ht])
   have hy:a1.eval y=a2.eval y:=zdd fun t ht=>htm t (by simp [zdv,ht])
   simp only [execOp,hop,hx,hy]
  | false =>
   right
   have hal:allocOp o.op=true:=by unfold za3 at hst2;rw [hso,Bool.false_or] at hst2;exact hst2
   have hk0:k=0:=by
    rcases Nat.eq_zero_or_pos k with h | h
    ·exact h
    ·have h3:((ops.toList.filter fun o=>za3 o.op).drop 1)[k-1]? = some o:=by
      rw [List.getElem?_drop,show 1+(k-1)=k from by omega]
      exact h2
     have:=List.all_eq_true.1 hfirst o (List.mem_of_getElem? h3)
     rw [hso] at this;cases this
   subst hk0
   cases hop:o.op<;>rw [hop] at hal<;>simp only [allocOp] at hal<;>first | cases hal | skip
   rename_i t
   obtain ⟨_,h5⟩:=e5 o t h2 hop
   refine ⟨.pointer (some ⟨N,0,none⟩),fun a0 w0=>?_,fun a0 w1 hw1=>?_⟩
   ·have en:(nopN N o).op = .move (.const (.pointer (some ⟨N,0,none⟩))):=by
     unfold nopN
     rw [if_neg (by rw [hso];decide),if_pos (by rw [hop];rfl)]
    simp [execOp,en,Act.eval]
   ·have hw2:=hw1.1
    rw [e1] at hw2
    obtain ⟨w',g1,g2⟩:=h5 ρ1 w1 hw2 a0
    rw [hw1.2 rfl] at g1 g2
    rw [hee] at g2
    exact ⟨w',g1,g2,fun h=>by omega⟩
 ·refine hQ ρ1 a1 w1 ⟨⟨ha1.defers,ha1.size,ha1.slot,fun e he=>by cases he⟩,?_⟩
  have hw1:=hw1.1
  rw [hlen,e2] at hw1
  exact hw1
 ·have h0:(Array.replicate ops.size false).getD i false=false:=by
   rw [Array.getD_eq_getD_getElem?]
   rcases Nat.lt_or_ge i ops.size with h | h
   ·rw [Array.getElem?_eq_getElem (by simpa using h)];simp
   ·rw [Array.getElem?_eq_none (by simpa using h)];rfl
  rw [h0] at hl;cases hl
 ·rw [Array.getD_eq_getD_getElem?]
  rcases Nat.lt_or_ge i ops.size with h | h
  ·rw [Array.getElem?_eq_getElem (by simpa using h)];simp
  ·rw [Array.getElem?_eq_none (by simpa using h)];rfl
 ·have hwq:=hr ρ1 a ⟨⟨w,hs1⟩,by rw [hn1],by rw [hn1]⟩ ha1 (fun w=>∃ k,k≤(ops.toList.filter fun o=>za3 o.op).length∧HS E ν ρ1 (hps k) w) (fun w ⟨k,hk,h⟩=>⟨hps k,h,e4 k hk⟩) (fun w w' ⟨k,hk,h⟩ hb=>⟨k,hk,h.of_below hb⟩) ⟨w,0,Nat.zero_le _,by rw [e1];exact hs1⟩
  rw [←zrE N] at hB
  simp only [Region.lexB,Bool.and_eq_true] at hB
  have:=wpAnyQ_lex (P:=P) (C:=fun w=>∃ k,k≤(ops.toList.filter fun o=>za3 o.op).length∧HS E ν ρ1 (hps k) w) (md:=.any) hB.1 (ops.toList.map (nopN N)) 0 (Array.replicate (ops.toList.map (nopN N)).toArray.size false) a (by simp) (by simpa using hB.2) hwq
  simpa using this
theorem zom (hS:SigsOK P I gK S F) (hE:E.Ok gK) (hI:∀ w,Fr E.W E.w0 w→I w) {ops:Array Oper} {s:St} (hm:ztg ops.toList=true) (hB:Region.lexB .any (ops.toList.map (nopN 0)).toArray=true) (hback:zlr ops.toList=true) :
  M.sat F ν (znP P S ops.toList s) (fun s'=>∀ ρ a w,RR ν E ρ ⟨s,[]⟩ a w→∀ Q:Exit→Act→World→Prop,(∀ ρ' a' w',RR ν E ρ' ⟨s',[]⟩ a' w'→Q .normal a' w') →
   wpAny P .any ops Q ops.size (Array.replicate ops.size false) a w):=by
 intro n a n' e d h1 h2 h3
 unfold znP at h1
 exact zlP (E:=E) hS hE hI hm hB hback n a n' e d h1 h2 h3
end
end Go.Sx
