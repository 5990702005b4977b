/- Blocks of memory: what is known of them; loads. -/
import Derived.Test.YtedoffkaehcnmaaGreatDoorF0
namespace Go.Sx
open Go.RowKit
def BlkRel (E:Env) (ν:Nat→DV) (ρ:Nat→Loc) (w:World) (r:Loc):Blk→Prop
 | .c own cs=>CBlk ν ρ w r own cs
 | .v own ts a=>VRel E w r own ts (a.cells ν)
 | .obj o k a=>zbn o k w r (a.cells ν)
 | .l o f ts a=>LRel E w r o f ts (a.cells ν)
 | .m _ kt vt cs=>MRel ν ρ w r kt vt cs
structure HRel (E:Env) (ν:Nat→DV) (ρ:Nat→Loc) (hp:List (Option Blk)) (w:World):Prop where
 blk:∀ j bk,nth hp j=some bk→BlkRel E ν ρ w (ρ j) bk
 apart:∀ j j' bk bk',nth hp j=some bk→bk.own=true→nth hp j'=some bk'→j≠j'→(ρ j).nil=false→(ρ j').nil=false→∀ b,bk.foot w (ρ j) b→¬ bk'.rfoot w (ρ j') b
structure Fr (W:Nat→Prop) (w0 w:World):Prop where
 os:w.os=w0.os
 tape:w.tape=w0.tape
 output:w.output=w0.output
 size:w0.heap.size≤w.heap.size
 block:∀ b,b<w0.heap.size→¬ W b→w.heap[b]? = w0.heap[b]?
theorem Fr.refl (W:Nat→Prop) (w:World):Fr W w w:=⟨rfl,rfl,rfl,Nat.le_refl _,fun _ _ _=>rfl⟩
theorem Fr.trans {W : Nat → Prop} {a b c : World} (h : Fr W a b) (k : Fr W b c) : Fr W a c :=
  ⟨k.os.trans h.os, k.tape.trans h.tape, k.output.trans h.output, Nat.le_trans h.size k.size,
   fun i hi hw => (k.block i (Nat.lt_of_lt_of_le hi h.size) hw).trans (h.block i hi hw)⟩
theorem Fr.of_below {W:Nat→Prop} {w w':World} (h:Below w.heap.size w w'):Fr W w w' :=
 ⟨h.os,h.tape,h.output,h.size,fun b hb _=>h.block b hb⟩
theorem Fr.below {w w':World} (h:Fr (fun _=>False) w w'):Below w.heap.size w w' :=
 ⟨h.os,h.tape,h.output,h.size,fun b hb=>h.block b hb (fun f=>f)⟩
theorem Fr.weaken {W W':Nat→Prop} {w w':World} (h:Fr W w w') (hw:∀ b,W b→W' b):Fr W' w w' :=
 ⟨h.os,h.tape,h.output,h.size,fun b hb hn=>h.block b hb (fun x=>hn (hw b x))⟩
structure OldB (W V:Nat→Prop) (n:Nat) (own:Bool) (ft rf:Nat→Prop):Prop where
 wr:own=true→∀ b,ft b→n≤b∨W b
 rd:∀ b,rf b→n≤b∨W b∨V b
theorem OldB.plain {W V:Nat→Prop} {n q:Nat} {own:Bool} : OldB W V n own (fun b=>b=q) (fun b=>b=q)↔(n≤q∨W q∨(own=false∧V q)):=by
 constructor
 ·intro h
  cases own with
  | true =>
   rcases h.wr rfl q rfl with h | h
   ·exact .inl h
   ·exact .inr (.inl h)
  | false =>
   rcases h.rd q rfl with h | h | h
   ·exact .inl h
   ·exact .inr (.inl h)
   ·exact .inr (.inr ⟨rfl,h⟩)
 ·intro h
  refine ⟨fun ho b hb=>?_,fun b hb=>?_⟩
  ·subst hb
   rcases h with h | h | h
   ·exact .inl h
   ·exact .inr h
   ·rw [h.1] at ho;cases ho
  ·subst hb
   rcases h with h | h | h
   ·exact .inl h
   ·exact .inr (.inl h)
   ·exact .inr (.inr h.2)
def OldF (W V:Nat→Prop) (w0 w:World) (ρ:Nat→Loc) (hp:List (Option Blk)):Prop :=
 ∀ j bk,nth hp j=some bk→(ρ j).nil=true∨OldB W V w0.heap.size bk.own (bk.foot w (ρ j)) (bk.rfoot w (ρ j))
section
variable {P:Program} {F:FEnv} {E:Env} {ν:Nat→DV} {ρ:Nat→Loc} {w:World}
theorem BlkRel.lt {r:Loc} {bk:Blk} (h:BlkRel E ν ρ w r bk) (hn:r.nil=false) {b:Nat} (hb:bk.rfoot w r b):b<w.heap.size:=by
 cases bk with
 | c o cs =>
  have hb:b=r.blk:=hb
  rw [hb];exact CBlk.lt h
 | v o ts a =>
  have hb:b=r.blk:=hb
  rw [hb];exact VRel.lt h hn
 | obj o k a =>
  obtain ⟨_,h⟩:=zbn.rel h hn
  exact (objK _).lt h hb
 | l o f ts a =>
  have hb:b=r.blk:=hb
  rw [hb];exact (LRel.row h).lt hn
 | m o kt vt cs =>
  have hb:b=r.blk:=hb
  rw [hb];exact MRel.lt h
theorem BlkRel.rd {r:Loc} {bk:Blk} (h:BlkRel E ν ρ w r bk) (hn:r.nil=false) {b:Nat} (hb:bk.foot w r b):bk.rfoot w r b:=by
 cases bk with
 | c o cs=>exact hb
 | v o ts a=>exact hb
 | obj o k a =>
  obtain ⟨_,h⟩:=zbn.rel h hn
  exact (objK _).sub h hb
 | l o f ts a=>exact hb.1
 | m o kt vt cs=>exact hb
theorem BlkRel.ex {r:Loc} {bk:Blk} (h:BlkRel E ν ρ w r bk) (hn:r.nil=false) (ho:bk.own=true) (hs:bk.shr=false) {b:Nat} (hb:bk.rfoot w r b):bk.foot w r b:=by
 cases bk with
 | c o cs=>exact hb
 | v o ts a=>exact hb
 | obj o k a =>
  have ho:o=true:=ho
  subst ho
  simp only [Blk.shr,Bool.true_and,Bool.not_eq_eq_eq_not,Bool.not_false] at hs
  obtain ⟨_,h⟩:=zbn.rel h hn
  exact znx hs h hb
 | l o f ts a =>
  have ho:o=true:=ho
  have hs:o=false:=hs
  rw [ho] at hs;cases hs
 | m o kt vt cs=>exact hb
theorem BlkRel.foot_eq {w w':World} {r:Loc} {bk:Blk} (h:BlkRel E ν ρ w r bk) (hn:r.nil=false) (hb:∀ b,bk.rfoot w r b→w'.heap[b]? = w.heap[b]?) (b:Nat):bk.foot w' r b↔bk.foot w r b:=by
 cases bk with
 | c o cs=>exact Iff.rfl
 | v o ts a=>exact Iff.rfl
 | obj o k a =>
  obtain ⟨_,h⟩:=zbn.rel h hn
  exact (objK _).foot_congr h hb b
 | l o f ts a=>exact Iff.rfl
 | m o kt vt cs=>exact Iff.rfl
theorem BlkRel.rfoot_eq {w w':World} {r:Loc} {bk:Blk} (h:BlkRel E ν ρ w r bk) (hn:r.nil=false) (hb:∀ b,bk.rfoot w r b→w'.heap[b]? = w.heap[b]?) (b:Nat):bk.rfoot w' r b↔bk.rfoot w r b:=by
 cases bk with
 | c o cs=>exact Iff.rfl
 | v o ts a=>exact Iff.rfl
 | obj o k a =>
  obtain ⟨_,h⟩:=zbn.rel h hn
  exact (objK _).rfoot_congr h hb b
 | l o f ts a=>exact Iff.rfl
 | m o kt vt cs=>exact Iff.rfl
theorem VRel.of_block {w w':World} {r:Loc} {o:Bool} {ts:List LT} {xs:List DV} (h:VRel E w r o ts xs) (hs:w.heap.size≤w'.heap.size) (hb:r.nil=false→w'.heap[r.blk]? = w.heap[r.blk]?):VRel E w' r o ts xs:=by
 cases hn:r.nil with
 | true =>
  have h0:=h.nil hn
  have hx:xs.length=0:=by rw [h.len,h0.1,Nat.zero_mul]
  exact ⟨h.nil,fun e=>absurd (hn.symm.trans e) (by decide),h.pos,h.len,h.cap,fun i hi=>by omega,fun _ e=>absurd (hn.symm.trans e) (by decide),fun _ e=>absurd (hn.symm.trans e) (by decide)⟩
 | false =>
  have hb:=hb hn
  have hc:∀ i,w'.cell? ⟨r.blk,i,none⟩=w.cell? ⟨r.blk,i,none⟩:=fun i=>World.cell?_of_block (w:=w) hb
  have hf:∀ i,w'.frozen? ⟨r.blk,i,none⟩=w.frozen? ⟨r.blk,i,none⟩:=fun i=>World.frozen?_of_block (w:=w) hb
  exact ⟨h.nil,fun e=>Nat.lt_of_lt_of_le (h.lt e) hs,h.pos,h.len,h.cap,fun i hi=>by rw [hc];exact h.cell i hi,fun ho e i hi=>by rw [hc,hf];exact h.own ho e i hi,fun ho e=>⟨(h.fz ho e).1,fun o=>by rw [hf];exact (h.fz ho e).2 o⟩⟩
theorem BlkRel.of_block {w w':World} {r:Loc} {bk:Blk} (h:BlkRel E ν ρ w r bk) (hs:w.heap.size≤w'.heap.size) (hb:r.nil=false→∀ b,bk.rfoot w r b→w'.heap[b]? = w.heap[b]?):BlkRel E ν ρ w' r bk:=by
 cases bk with
 | obj o k a=>exact zbn.map h fun hn d' h'=>(objK _).rel_congr h' (hb hn)
 | c o cs =>
  have h:CBlk ν ρ w r o cs:=h
  have hb:=hb h.nil r.blk rfl
  have hc:∀ i,w'.cell? ⟨r.blk,i,none⟩=w.cell? ⟨r.blk,i,none⟩:=fun i=>World.cell?_of_block (w:=w) hb
  have hf:∀ i,w'.frozen? ⟨r.blk,i,none⟩=w.frozen? ⟨r.blk,i,none⟩:=fun i=>World.frozen?_of_block (w:=w) hb
  exact ⟨h.nil,Nat.lt_of_lt_of_le h.lt hs,fun i l hl=>by rw [hc];exact h.cell i l hl,fun ho i hi=>by rw [hc,hf];exact h.own ho i hi,fun ho o=>by rw [hf];exact h.fz ho o⟩
 | v o ts a=>exact VRel.of_block h hs fun hn=>hb hn r.blk rfl
 | l o f ts a =>
  have h:LRel E w r o f ts (a.cells ν):=h
  exact ⟨h.row.of_block hs fun hn=>hb hn r.blk rfl,fun ho hc=>(h.spare ho hc).of_block hs fun hn=>hb hn r.blk rfl,h.full⟩
 | m o kt vt cs =>
  have h:MRel ν ρ w r kt vt cs:=h
  exact h.congr (hb h.nil r.blk rfl)
theorem HRel.of_below {hp:List (Option Blk)} {w w':World} (h:HRel E ν ρ hp w) (hb:Below w.heap.size w w'):HRel E ν ρ hp w' :=
 ⟨fun j bk hj=>(h.blk j bk hj).of_block hb.size (fun hn _ hf=>hb.block _ ((h.blk j bk hj).lt hn hf)),fun j j' bk bk' hj ho hj' hne hn hn' b h1 h2 =>
  h.apart j j' bk bk' hj ho hj' hne hn hn' b (((h.blk j bk hj).foot_eq hn (fun _ hf=>hb.block _ ((h.blk j bk hj).lt hn hf)) b).1 h1) (((h.blk j' bk' hj').rfoot_eq hn' (fun _ hf=>hb.block _ ((h.blk j' bk' hj').lt hn' hf)) b).1 h2)⟩
theorem OldF.congr {W V:Nat→Prop} {w0 w w':World} {hp:List (Option Blk)} (ho:OldF W V w0 w ρ hp) (h:HRel E ν ρ hp w) (hb:∀ j bk,nth hp j=some bk→(ρ j).nil=false→∀ b,bk.rfoot w (ρ j) b→w'.heap[b]? = w.heap[b]?):OldF W V w0 w' ρ hp:=fun j bk hj=>by
 cases hn:(ρ j).nil with
 | true=>exact .inl rfl
 | false =>
  rcases ho j bk hj with h1 | h1
  ·rw [hn] at h1;cases h1
  ·exact .inr ⟨fun o b hf=>h1.wr o b (((h.blk j bk hj).foot_eq hn (hb j bk hj hn) b).1 hf),fun b hf=>h1.rd b (((h.blk j bk hj).rfoot_eq hn (hb j bk hj hn) b).1 hf)⟩
theorem zbJ (b o k:Nat):(⟨b,o,none⟩:Addr).add k=⟨b,o+k,none⟩:=by
 unfold Addr.add
 split
 ·rename_i h;subst h;rfl
 ·rfl
theorem zbC {t:TypeId} {k:TK} {sz:Nat} (hk:tk P t=some k) (ha:zb3 k=true) (hs:zaO P t=some sz) {b o:Nat} {vs:List Value} (hlen:vs.length=sz)
  (hc:∀ j v,vs[j]? = some v→w.cell? ⟨b,o+j,none⟩=some v):(loadVar t ⟨b,o,none⟩).run P w = .ok (.agg vs.toArray) w:=by
 have hl:=run_loadCells_list (P:=P) w ⟨b,o,none⟩ vs (fun j v hv=>by rw [zbJ];exact hc j v hv)
 rw [hlen] at hl
 simp only [loadVar,Sem.run_bind,zdJ hk,ha,Result.andThen_ok,if_true,za9 hs,hl,Sem.run_pure]
theorem zbm {t:TypeId} {k:TK} (hk:tk P t=some k) (ha:¬ zb3 k=true) {b o:Nat} {v:Value}
  (hc:w.cell? ⟨b,o,none⟩=some v):(loadVar t ⟨b,o,none⟩).run P w = .ok v w:=by
 simp only [loadVar,Sem.run_bind,zdJ hk,ha,Result.andThen_ok,if_false,Bool.false_eq_true,run_load,hc]
theorem zjt {l:List (Option Lf)} {sz len sz2:Nat} {ix:A} (h0:0≤ix.int ν) (h1:ix.int ν<len):∀ (n base:Nat),
  M.sat F ν (zl2 l base sz len ix sz2 n) (fun xs=>xs.length=n∧∀ j x,xs[j]? = some x→∀ ρ,∃ y,nth l (base+j*sz2+(ix.int ν).toNat*sz)=some y∧x.conc ν ρ=y.conc ν ρ)
 | 0,base=>zab ⟨rfl,fun j x h=>by simp at h⟩
 | n+1,base=>by
  unfold zl2
  refine zaa (zad (Q:=fun row=>zbA l base sz len=some row) fun a h=>h) fun row hrow=>?_
  obtain ⟨r1,r2⟩:=zbI hrow
  refine zaa (zcj r1 h0 h1) fun x hx=>zaa (zjt h0 h1 n (base+sz2)) fun r hr=>zab ⟨by simp [hr.1],fun j x' hj ρ=>?_⟩
  cases j with
  | zero =>
   simp at hj;subst hj
   obtain ⟨y,hy,he⟩:=hx.2 ρ
   refine ⟨y,?_,he⟩
   rw [←r2 _ (by omega)] at hy
   simpa using hy
  | succ j =>
   obtain ⟨y,hy,he⟩:=hr.2 j x' (by simpa using hj) ρ
   refine ⟨y,?_,he⟩
   rw [←hy]
   congr 1
   rw [Nat.add_mul]
   omega
theorem zd8 {t:TypeId} {k:TK} {sz:Nat} {own:Bool} {cs:List (Option Lf)} {off:Off} (hk:tk P t=some k) (hs:zaO P t=some sz) (hg:off.good ν) :
  M.sat F ν (zdE cs off (zb3 k) sz) (fun v=>∀ ρ w r,CBlk ν ρ w r own cs→v.good ν∧(loadVar t ⟨r.blk,r.off+off.val ν,none⟩).run P w = .ok (v.conc ν ρ) w):=by
 unfold zdE
 split
 ·rename_i o ha
  refine zaa (zad (Q:=fun xs=>za5 cs o sz=some xs) fun a h=>h) fun xs hxs=>zab fun ρ w r hb=>?_
  obtain ⟨h1,h2⟩:=zdw hxs
  have hcell:∀ i l,xs[i]? = some l→nth cs (o+i)=some l:=fun i l hl=>by
   rw [h2 i (by have:=(List.getElem?_eq_some_iff.1 hl).1;omega)];exact hl
  refine ⟨V1.good_agg.2 fun x hx=>?_,?_⟩
  ·obtain ⟨i,hi,rfl⟩:=List.mem_iff_getElem.1 hx
   exact (hb.cell (o+i) _ (hcell i _ (List.getElem?_eq_getElem hi))).1
  ·refine zbC hk ha hs (by simpa using h1) fun i v hv=>?_
   rw [List.getElem?_map] at hv
   obtain ⟨l,hl,rfl⟩:=Option.map_eq_some_iff.1 hv
   have:=(hb.cell (o+i) l (hcell i l hl)).2
   simpa [Off.val,Nat.add_assoc] using this
 ·rename_i o ha
  refine zaa (zad (Q:=fun x=>zhV cs o=some x) fun a h=>h) fun x hx=>?_
  rw [zji] at hx
  by_cases hgx:x.good ν
  ·refine zaa (zlp hgx) fun y hy=>zab fun ρ w r hb=>?_
   have:=hb.cell o x hx
   exact ⟨V1.good_one.2 hy.1,zbm hk (by simp [ha]) (by rw [V1.conc,hy.2 ρ];exact this.2)⟩
  ·exact zaa zat fun y _=>zab fun ρ w r hb=>absurd (hb.cell o x hx).1 hgx
 ·rename_i base ix sz' len ha
  refine zaa (zhz hg.1 hg.2 sz base) fun xs hxs=>zab fun ρ w r hb=>?_
  obtain ⟨h1,h2,h3⟩:=hxs
  refine ⟨V1.good_agg.2 h2,?_⟩
  refine zbC hk ha hs (by simpa using h1) fun i v hv=>?_
  rw [List.getElem?_map] at hv
  obtain ⟨l,hl,rfl⟩:=Option.map_eq_some_iff.1 hv
  obtain ⟨x,y,e1,e2,e3⟩:=h3 ρ i (by have:=(List.getElem?_eq_some_iff.1 hl).1;omega)
  rw [e1] at hl
  cases hl
  have:=(hb.cell _ y e2).2
  rw [e3,←this]
  simp only [Off.val]
  congr 2
  omega
 ·rename_i base ix sz' len ha
  refine zaa (zad (Q:=fun row=>zbA cs base sz' len=some row) fun a h=>h) fun row hrow=>?_
  obtain ⟨h1,h2⟩:=zbI hrow
  refine zaa (zcj h1 hg.1 hg.2) fun x hx=>zab fun ρ w r hb=>?_
  obtain ⟨y,hy,he⟩:=hx.2 ρ
  refine ⟨V1.good_one.2 hx.1,zbm hk (by simp [ha]) ?_⟩
  rw [←h2 _ (by have:=hg.1;have:=hg.2;omega)] at hy
  have:=(hb.cell _ y hy).2
  rw [V1.conc,he,←this]
  simp only [Off.val]
 ·rename_i base ix sz' len ix2 sz2 len2 ha
  refine zaa (zjt hg.1.1 hg.1.2 len2 base) fun row hrow=>?_
  refine zaa (zcj hrow.1 hg.2.1 hg.2.2) fun x hx=>zab fun ρ w r hb=>?_
  obtain ⟨y,hy,he⟩:=hx.2 ρ
  obtain ⟨z,hz,hz2⟩:=hrow.2 _ _ hy ρ
  refine ⟨V1.good_one.2 hx.1,zbm hk (by simp [ha]) ?_⟩
  have:=(hb.cell _ z hz).2
  rw [V1.conc,he,hz2,←this]
  simp only [Off.val]
  congr 2
  omega
 ·exact zac
theorem Off.beq_spec {a b:Off} (h:a.beq b=true):a.val ν=b.val ν∧(b.good ν→a.good ν):=by
 cases a<;>cases b<;>simp [Off.beq] at h
 ·subst h;exact ⟨rfl,id⟩
 ·rename_i x1 x2 x3 x4 y1 y2 y3 y4
  obtain ⟨⟨⟨rfl,h2⟩,rfl⟩,rfl⟩:=h
  have:=A.beq_den h2 ν
  have e:A.int ν x2=A.int ν y2:=by simp [A.int,this]
  exact ⟨by simp [Off.val,e],by simp [Off.good,e]⟩
 ·rename_i x1 x2 x3 x4 y1 y2 y3 y4
  obtain ⟨⟨⟨rfl,h2⟩,rfl⟩,h4⟩:=h
  have:=A.beq_den h2 ν
  have e:A.int ν x2=A.int ν y2:=by simp [A.int,this]
  have e4:A.cells ν x4=A.cells ν y4:=by simp [A.cells,A.beq_den h4 ν]
  exact ⟨by simp [Off.val,e],by simp [Off.good,e,e4]⟩
 ·rename_i x1 x2 x3 x4 x5 x6 x7 y1 y2 y3 y4 y5 y6 y7
  obtain ⟨⟨⟨⟨⟨⟨rfl,h2⟩,rfl⟩,rfl⟩,h5⟩,rfl⟩,rfl⟩:=h
  have e:A.int ν x2=A.int ν y2:=by simp [A.int,A.beq_den h2 ν]
  have e5:A.int ν x5=A.int ν y5:=by simp [A.int,A.beq_den h5 ν]
  exact ⟨by simp [Off.val,e,e5],by simp only [Off.good,e,e5];exact id⟩
 ·rename_i x1 x2 x3 x4 x5 x6 x7 y1 y2 y3 y4 y5 y6 y7
  obtain ⟨⟨⟨⟨⟨⟨rfl,h2⟩,rfl⟩,h4⟩,h5⟩,rfl⟩,rfl⟩:=h
  have e:A.int ν x2=A.int ν y2:=by simp [A.int,A.beq_den h2 ν]
  have e4:A.cells ν x4=A.cells ν y4:=by simp [A.cells,A.beq_den h4 ν]
  have e5:A.int ν x5=A.int ν y5:=by simp [A.int,A.beq_den h5 ν]
  exact ⟨by simp [Off.val,e,e5],by simp only [Off.good,e,e4,e5];exact id⟩
theorem Alt.beq_eq {x y:Alt} (h:x.beq y=true):x=y:=by
 cases x<;>cases y<;>simp [Alt.beq] at h<;>first | rfl | (obtain ⟨rfl,rfl⟩:=h;rfl)
theorem zlr:∀ {l l':List (Nat×Alt)},zhn l l'=true→l=l'
 | [],[],_=>rfl
 | [],_::_,h=>by simp [zhn] at h
 | _::_,[],h=>by simp [zhn] at h
 | (k,x)::l,(k',y)::l',h=>by
  simp only [zhn,Bool.and_eq_true] at h
  rw [zlr h.2,Nat.eq_of_beq_eq_true h.1.1,Alt.beq_eq h.1.2]
theorem zgJ:∀ {l l' r:List (Nat×Alt)},zd0 l l'=some r→(∀ k x,zaP l k=some x→zaP r k=some x)∧∀ k x,zaP l' k=some x→zaP r k=some x
 | [],l',r,h=>by simp only [zd0,Option.some.injEq] at h;subst h;exact ⟨fun k x hx=>by simp [zaP] at hx,fun _ _=>id⟩
 | y::l,l',r,h=>by
  simp only [zd0] at h
  cases hu:zd0 l l' with
  | none=>simp [hu] at h
  | some r1 =>
   obtain ⟨h1,h2⟩:=zgJ hu
   simp only [hu] at h
   cases hy:zaP r1 y.1 with
   | none =>
    simp only [hy,Option.some.injEq] at h
    subst h
    have key:∀ k x,zaP r1 k=some x→zaP (y::r1) k=some x:=fun k x hx=>by
     simp only [zaP]
     split
     ·rename_i he
      rw [Nat.eq_of_beq_eq_true he] at hy
      rw [hy] at hx;cases hx
     ·exact hx
    refine ⟨fun k x hx=>?_,fun k x hx=>key k x (h2 k x hx)⟩
    simp only [zaP] at hx
    split at hx
    ·rename_i he
     simp only [zaP,he,if_true];exact hx
    ·exact key k x (h1 k x hx)
   | some z =>
    simp only [hy] at h
    split at h
    ·rename_i hb
     cases h
     refine ⟨fun k x hx=>?_,h2⟩
     simp only [zaP] at hx
     split at hx
     ·rename_i he
      cases hx
      rw [←Nat.eq_of_beq_eq_true he,hy,Alt.beq_eq hb]
     ·exact h1 k x hx
    ·cases h
theorem zls {x:Lf} {p:A×List (Nat×Alt)} (h:zk4 x=some p) (hg:x.good ν):0≤p.1.int ν∧∃ y,zaP p.2 (p.1.int ν).toNat=some y∧∀ ρ,x.conc ν ρ=y.conc ρ:=by
 unfold zk4 at h
 split at h<;>first | (cases h;done) | (simp only [Option.some.injEq] at h;subst h)
 ·exact ⟨Int.le_refl _,.nilp,rfl,fun _=>rfl⟩
 ·exact ⟨Int.le_refl _,.nili,rfl,fun _=>rfl⟩
 ·rename_i q n
  refine ⟨Int.natCast_nonneg _,.p q n,?_,fun _=>rfl⟩
  simp only [A.int_z,Int.toNat_natCast,zaP]
  simp
 ·rename_i t q
  refine ⟨Int.natCast_nonneg _,.ifp t q,?_,fun _=>rfl⟩
  simp only [A.int_z,Int.toNat_natCast,zaP]
  simp
 ·rename_i a l
  obtain ⟨h1,h2⟩:=hg
  obtain ⟨y,hy⟩:=Option.isSome_iff_exists.1 h2
  exact ⟨h1,y,hy,fun ρ=>by simp only [Lf.conc,zbk,hy]⟩
theorem Lf.beq_spec {a b:Lf} (h:a.beq b=true):(∀ ρ,a.conc ν ρ=b.conc ν ρ)∧(b.good ν→a.good ν):=by
 cases a<;>cases b<;>simp [Lf.beq] at h
 ·obtain ⟨h1,h2⟩:=h
  have:=zcf h1;subst this
  have:=A.beq_den h2 ν
  exact ⟨fun ρ=>by simp [Lf.conc,A.int,this],fun _=>trivial⟩
 ·have:=A.beq_den h ν
  exact ⟨fun ρ=>by simp [Lf.conc,A.bool,this],fun _=>trivial⟩
 ·obtain ⟨rfl,h2⟩:=h
  obtain ⟨h3,h4⟩:=Off.beq_spec (ν:=ν) h2
  exact ⟨fun ρ=>by simp [Lf.conc,h3],h4⟩
 ·obtain ⟨rfl,h2⟩:=h
  obtain ⟨h3,h4⟩:=Off.beq_spec (ν:=ν) h2
  exact ⟨fun ρ=>by simp [Lf.conc,h3],h4⟩
 ·exact ⟨fun ρ=>rfl,id⟩
 ·subst h;exact ⟨fun ρ=>rfl,id⟩
 ·obtain ⟨⟨h1,h2⟩,rfl⟩:=h
  have:=LT.feq_eq h1
  subst this
  rename_i t a1 j a2
  refine ⟨fun ρ=>?_,fun _=>trivial⟩
  cases t<;>simp only [Lf.conc,A.cells,A.beq_den h2 ν]
 ·obtain ⟨rfl,h2⟩:=h
  rw [zjf h2];exact ⟨fun ρ=>rfl,id⟩
 ·obtain ⟨rfl,rfl⟩:=h;exact ⟨fun ρ=>rfl,id⟩
 ·exact ⟨fun ρ=>by simp only [Lf.conc,A.cells,A.beq_den h ν],fun _=>trivial⟩
 ·subst h;exact ⟨fun _=>rfl,id⟩
 ·obtain ⟨h1,h2⟩:=h
  rw [zlr h2]
  exact ⟨fun ρ=>by simp only [Lf.conc,A.int,A.beq_den h1 ν],fun hg=>by simp only [Lf.good,A.int,A.beq_den h1 ν] at hg ⊢;exact hg⟩
def MLf (ν:Nat→DV) (c:A) (x y m:Lf):Prop :=
 (c.bool ν=true→x.good ν→(∀ ρ,m.conc ν ρ=x.conc ν ρ)∧m.good ν) ∧
 (c.bool ν=false→y.good ν→(∀ ρ,m.conc ν ρ=y.conc ν ρ)∧m.good ν)
theorem zo5 {c:A} {x y:Lf} : M.sat F ν (zl3 c x y) (fun o=>∀ m,o=some m→(c.bool ν=true→(∀ ρ,m.conc ν ρ=x.conc ν ρ)∧(x.good ν→m.good ν))∧(c.bool ν=false→(∀ ρ,m.conc ν ρ=y.conc ν ρ)∧(y.good ν→m.good ν))):=by
 unfold zl3
 refine zae (fun h=>zab fun m hm=>?_) (fun _=>?_)
 ·cases hm
  exact ⟨fun _=>⟨fun _=>rfl,id⟩,fun _=>Lf.beq_spec h⟩
 ·split
  ·refine zae (fun hk=>?_) (fun _=>zab fun m hm=>by cases hm)
   have:=zcf hk;subst this
   refine zaa zci fun r hr=>zab fun m hm=>?_
   cases hm
   exact ⟨fun h=>⟨fun ρ=>by simp [Lf.conc,hr,h],fun _=>trivial⟩,fun h=>⟨fun ρ=>by simp [Lf.conc,hr,h],fun _=>trivial⟩⟩
  ·refine zaa zfr fun r hr=>zab fun m hm=>?_
   cases hm
   exact ⟨fun h=>⟨fun ρ=>by simp [Lf.conc,hr,h],fun _=>trivial⟩,fun h=>⟨fun ρ=>by simp [Lf.conc,hr,h],fun _=>trivial⟩⟩
  ·exact zab fun m hm=>by cases hm
theorem zju {c:A} {x y:Lf} : M.sat F ν (zl4 c x y) (fun o=>∀ m,o=some m→MLf ν c x y m):=by
 unfold zl4
 refine zae (fun h=>zab fun m hm=>?_) (fun _=>?_)
 ·cases hm
  exact ⟨fun _ hg=>⟨fun _=>rfl,hg⟩,fun _ hg=>⟨(Lf.beq_spec h).1,(Lf.beq_spec h).2 hg⟩⟩
 ·split
  ·refine zae (fun hk=>?_) (fun _=>zab fun m hm=>by cases hm)
   have:=zcf hk;subst this
   refine zaa zci fun r hr=>zab fun m hm=>?_
   cases hm
   exact ⟨fun h _=>⟨fun ρ=>by simp [Lf.conc,hr,h],trivial⟩,fun h _=>⟨fun ρ=>by simp [Lf.conc,hr,h],trivial⟩⟩
  ·refine zaa zfr fun r hr=>zab fun m hm=>?_
   cases hm
   exact ⟨fun h _=>⟨fun ρ=>by simp [Lf.conc,hr,h],trivial⟩,fun h _=>⟨fun ρ=>by simp [Lf.conc,hr,h],trivial⟩⟩
  ·split
   ·rename_i p q hp hq
    split
    ·rename_i l hl
     obtain ⟨u1,u2⟩:=zgJ hl
     refine zaa zci fun r hr=>zab fun m hm=>?_
     cases hm
     have side:∀ (x:Lf) (p:A×List (Nat×Alt)),zk4 x=some p→(∀ k x,zaP p.2 k=some x→zaP l k=some x)→r.int ν=p.1.int ν→x.good ν→(∀ ρ,(Lf.alt r l).conc ν ρ=x.conc ν ρ)∧(Lf.alt r l).good ν:=fun x p hp hu he hg=>by
      obtain ⟨h1,y,hy,h2⟩:=zls hp hg
      refine ⟨fun ρ=>?_,?_⟩
      ·rw [h2 ρ]
       simp only [Lf.conc,zbk,he,hu _ _ hy]
      ·simp only [Lf.good,he]
       exact ⟨h1,by rw [hu _ _ hy];rfl⟩
     exact ⟨fun h=>side _ _ hp u1 (by rw [hr,h];rfl),fun h=>side _ _ hq u2 (by rw [hr,h];rfl)⟩
    ·exact zab fun m hm=>by cases hm
   ·exact zab fun m hm=>by cases hm
def MLfs (ν:Nat→DV) (c:A):List Lf→List Lf→List Lf→Prop
 | [],[],[]=>True
 | x::l,y::l',m::r=>MLf ν c x y m∧MLfs ν c l l' r
 | _,_,_=>False
theorem zh9 {c:A} : ∀ (l l':List Lf),M.sat F ν (ziC c l l') (fun o=>∀ m,o=some m→MLfs ν c l l' m)
 | [],[]=>zab fun m hm=>by cases hm;trivial
 | x::l,y::l'=>by
  unfold ziC
  refine zaa zju fun a ha=>zaa (zh9 l l') fun b hb=>zab fun m hm=>?_
  split at hm
  ·cases hm;exact ⟨ha _ rfl,hb _ rfl⟩
  ·cases hm
 | [],_::_=>zab fun m hm=>by cases hm
 | _::_,[]=>zab fun m hm=>by cases hm
theorem MLfs.left {c:A} (h:c.bool ν=true):∀ {l l' m:List Lf},MLfs ν c l l' m→(∀ x∈l,x.good ν)→(∀ ρ,m.map (Lf.conc ν ρ)=l.map (Lf.conc ν ρ))∧∀ x∈m,x.good ν
 | [],[],[],_,_=>⟨fun _=>rfl,fun x hx=>by cases hx⟩
 | x::l,y::l',m::r,hm,hg=>by
  obtain ⟨h1,h2⟩:=hm.2.left h fun u hu=>hg u (List.mem_cons_of_mem _ hu)
  obtain ⟨h3,h4⟩:=hm.1.1 h (hg x (by simp))
  refine ⟨fun ρ=>by simp [h3 ρ,h1 ρ],fun z hz=>?_⟩
  rcases List.mem_cons.1 hz with rfl | hz
  ·exact h4
  ·exact h2 z hz
theorem MLfs.right {c:A} (h:c.bool ν=false):∀ {l l' m:List Lf},MLfs ν c l l' m→(∀ x∈l',x.good ν)→(∀ ρ,m.map (Lf.conc ν ρ)=l'.map (Lf.conc ν ρ))∧∀ x∈m,x.good ν
 | [],[],[],_,_=>⟨fun _=>rfl,fun x hx=>by cases hx⟩
 | x::l,y::l',m::r,hm,hg=>by
  obtain ⟨h1,h2⟩:=hm.2.right h fun u hu=>hg u (List.mem_cons_of_mem _ hu)
  obtain ⟨h3,h4⟩:=hm.1.2 h (hg y (by simp))
  refine ⟨fun ρ=>by simp [h3 ρ,h1 ρ],fun z hz=>?_⟩
  rcases List.mem_cons.1 hz with rfl | hz
  ·exact h4
  ·exact h2 z hz
def MV1 (ν:Nat→DV) (c:A) (x y m:V1):Prop :=
 (c.bool ν=true→x.good ν→(∀ ρ,m.conc ν ρ=x.conc ν ρ)∧m.good ν) ∧
 (c.bool ν=false→y.good ν→(∀ ρ,m.conc ν ρ=y.conc ν ρ)∧m.good ν)
theorem zjv {c:A} {x y:V1} : M.sat F ν (zl5 c x y) (fun o=>∀ m,o=some m→MV1 ν c x y m):=by
 unfold zl5
 split
 ·refine zaa zju fun a ha=>zab fun m hm=>?_
  obtain ⟨l,hl,rfl⟩:=Option.map_eq_some_iff.1 hm
  have:=ha l hl
  exact ⟨fun h hg=>⟨fun ρ=>(this.1 h (V1.good_one.1 hg)).1 ρ,V1.good_one.2 (this.1 h (V1.good_one.1 hg)).2⟩,fun h hg=>⟨fun ρ=>(this.2 h (V1.good_one.1 hg)).1 ρ,V1.good_one.2 (this.2 h (V1.good_one.1 hg)).2⟩⟩
 ·refine zaa (zh9 _ _) fun a ha=>zab fun m hm=>?_
  obtain ⟨l,hl,rfl⟩:=Option.map_eq_some_iff.1 hm
  have:=ha l hl
  exact ⟨fun h hg=>⟨fun ρ=>by simp only [V1.conc,(this.left h (V1.good_agg.1 hg)).1 ρ],V1.good_agg.2 (this.left h (V1.good_agg.1 hg)).2⟩,
   fun h hg=>⟨fun ρ=>by simp only [V1.conc,(this.right h (V1.good_agg.1 hg)).1 ρ],V1.good_agg.2 (this.right h (V1.good_agg.1 hg)).2⟩⟩
 ·exact zab fun m hm=>by cases hm
def MV1s (ν:Nat→DV) (c:A):List V1→List V1→List V1→Prop
 | [],[],[]=>True
 | x::l,y::l',m::r=>MV1 ν c x y m∧MV1s ν c l l' r
 | _,_,_=>False
theorem zia {c:A} : ∀ (l l':List V1),M.sat F ν (ziD c l l') (fun o=>∀ m,o=some m→MV1s ν c l l' m)
 | [],[]=>zab fun m hm=>by cases hm;trivial
 | x::l,y::l'=>by
  unfold ziD
  refine zaa zjv fun a ha=>zaa (zia l l') fun b hb=>zab fun m hm=>?_
  split at hm
  ·cases hm;exact ⟨ha _ rfl,hb _ rfl⟩
  ·cases hm
 | [],_::_=>zab fun m hm=>by cases hm
 | _::_,[]=>zab fun m hm=>by cases hm
theorem MV1s.left {c:A} (h:c.bool ν=true):∀ {l l' m:List V1},MV1s ν c l l' m→(∀ x∈l,V1.good ν x)→(∀ ρ,m.map (V1.conc ν ρ)=l.map (V1.conc ν ρ))∧∀ x∈m,V1.good ν x
 | [],[],[],_,_=>⟨fun _=>rfl,fun x hx=>by cases hx⟩
 | x::l,y::l',m::r,hm,hg=>by
  obtain ⟨h1,h2⟩:=hm.2.left h fun u hu=>hg u (List.mem_cons_of_mem _ hu)
  obtain ⟨h3,h4⟩:=hm.1.1 h (hg x (by simp))
  refine ⟨fun ρ=>by simp [h3 ρ,h1 ρ],fun z hz=>?_⟩
  rcases List.mem_cons.1 hz with rfl | hz
  ·exact h4
  ·exact h2 z hz
theorem MV1s.right {c:A} (h:c.bool ν=false):∀ {l l' m:List V1},MV1s ν c l l' m→(∀ x∈l',V1.good ν x)→(∀ ρ,m.map (V1.conc ν ρ)=l'.map (V1.conc ν ρ))∧∀ x∈m,V1.good ν x
 | [],[],[],_,_=>⟨fun _=>rfl,fun x hx=>by cases hx⟩
 | x::l,y::l',m::r,hm,hg=>by
  obtain ⟨h1,h2⟩:=hm.2.right h fun u hu=>hg u (List.mem_cons_of_mem _ hu)
  obtain ⟨h3,h4⟩:=hm.1.2 h (hg y (by simp))
  refine ⟨fun ρ=>by simp [h3 ρ,h1 ρ],fun z hz=>?_⟩
  rcases List.mem_cons.1 hz with rfl | hz
  ·exact h4
  ·exact h2 z hz
def MV (ν:Nat→DV) (c:A) (x y m:V):Prop :=
 (c.bool ν=true→x.good ν→(∀ ρ,m.conc ν ρ=x.conc ν ρ)∧m.good ν) ∧
 (c.bool ν=false→y.good ν→(∀ ρ,m.conc ν ρ=y.conc ν ρ)∧m.good ν)
theorem zrv {c:A} {x y:V} : M.sat F ν (zsd c x y) (fun o=>∀ m,o=some m→MV ν c x y m):=by
 unfold zsd
 split
 ·refine zaa zjv fun a ha=>zab fun m hm=>?_
  obtain ⟨l,hl,rfl⟩:=Option.map_eq_some_iff.1 hm
  exact ha l hl
 ·refine zaa (zia _ _) fun a ha=>zab fun m hm=>?_
  obtain ⟨l,hl,rfl⟩:=Option.map_eq_some_iff.1 hm
  have:=ha l hl
  exact ⟨fun h hg=>⟨fun ρ=>by simp only [V.conc,(this.left h hg).1 ρ],(this.left h hg).2⟩,
   fun h hg=>⟨fun ρ=>by simp only [V.conc,(this.right h hg).1 ρ],(this.right h hg).2⟩⟩
 ·exact zab fun m hm=>by cases hm
theorem zjw {c:A} {x y:V} : M.sat F ν (zfV c x y) (fun m=>MV ν c x y m):=by
 unfold zfV
 refine zaa zrv fun o ho=>?_
 split
 ·exact zab (ho _ rfl)
 ·exact zac
end
end Go.Sx
namespace Go.Sx
open Go.RowKit
section
variable {P:Program} {F:FEnv} {ν:Nat→DV} {ρ:Nat→Loc} {w:World}
def Like (ν:Nat→DV) (v x:Lf):Prop:=(∀ ρ,v.conc ν ρ=x.conc ν ρ)∧(x.good ν→v.good ν)
theorem Like.refl (v:Lf):Like ν v v:=⟨fun _=>rfl,id⟩
theorem Like.trans {a b c:Lf} (h:Like ν a b) (k:Like ν b c):Like ν a c:=⟨fun ρ=>(h.1 ρ).trans (k.1 ρ),fun g=>h.2 (k.2 g)⟩
structure Desc (ν:Nat→DV) (l l':List (Option Lf)) (p:Nat) (xs:List Lf):Prop where
 len:l'.length=l.length
 room:xs≠[]→p+xs.length≤l.length
 inn:∀ i v,nth l' i=some v→∀ k x,xs[k]? = some x→i=p+k→Like ν v x
 out:∀ i v,nth l' i=some v→(i<p∨p+xs.length≤i)→∃ old,nth l i=some old∧Like ν v old
theorem Desc.nil (l:List (Option Lf)) (p:Nat):Desc ν l l p [] :=
 ⟨rfl,fun h=>absurd rfl h,fun i v _ k x hx=>by simp at hx,fun i v hv _=>⟨v,hv,Like.refl v⟩⟩
theorem Desc.cons {l l1 l2:List (Option Lf)} {p:Nat} {x:Lf} {xs:List Lf} (h:Desc ν l l1 p [x]) (k:Desc ν l1 l2 (p+1) xs):Desc ν l l2 p (x::xs):=by
 refine ⟨k.len.trans h.len,fun _=>?_,fun i v hv j y hy hi=>?_,fun i v hv hi=>?_⟩
 ·have:=h.room (by simp)
  cases xs with
  | nil=>simpa using this
  | cons z zs=>have:=k.room (by simp);rw [h.len] at this;simp at this ⊢;omega
 ·cases j with
  | zero =>
   simp at hy;subst hy
   obtain ⟨old,ho,hl⟩:=k.out i v hv (.inl (by omega))
   exact hl.trans (h.inn i old ho 0 _ rfl (by omega))
  | succ j=>exact k.inn i v hv j y (by simpa using hy) (by omega)
 ·obtain ⟨old,ho,hl⟩:=k.out i v hv (by simp at hi;omega)
  obtain ⟨old2,ho2,hl2⟩:=h.out i old ho (by simp at hi ⊢;omega)
  exact ⟨old2,ho2,hl.trans hl2⟩
theorem zb7:∀ {l l':List (Option Lf)} {o:Nat} {xs:List Lf},zcn l o xs=some l'→Desc ν l l' o xs
 | l,l',o,[],h=>by
  have:l'=l:=by cases l<;>cases o<;>simp [zcn] at h<;>first | exact h.symm | (subst h;rfl)
  subst this;exact Desc.nil _ _
 | [],l',o,x::xs,h=>by cases o<;>simp [zcn] at h
 | c::l,l',o+1,x::xs,h=>by
  simp only [zcn] at h
  obtain ⟨r,hr,rfl⟩:=Option.map_eq_some_iff.1 h
  have ih:=zb7 hr
  refine ⟨by simp [ih.len],fun _=>by have:=ih.room (by simp);simp at this ⊢;omega,fun i v hv k y hy hi=>?_,fun i v hv hi=>?_⟩
  ·cases i with
   | zero=>omega
   | succ i=>exact ih.inn i v hv k y hy (by omega)
  ·cases i with
   | zero=>exact ⟨v,hv,Like.refl v⟩
   | succ i=>exact ih.out i v hv (by simp at hi ⊢;omega)
 | c::l,l',0,x::xs,h=>by
  simp only [zcn] at h
  obtain ⟨r,hr,rfl⟩:=Option.map_eq_some_iff.1 h
  have ih:=zb7 hr
  refine ⟨by simp [ih.len],fun _=>?_,fun i v hv k y hy hi=>?_,fun i v hv hi=>?_⟩
  ·cases xs with
   | nil=>simp
   | cons z zs=>have:=ih.room (by simp);simp at this ⊢;omega
  ·cases i with
   | zero =>
    have:k=0:=by omega
    subst this
    simp at hy;subst hy
    cases hv;exact Like.refl _
   | succ i =>
    cases k with
    | zero=>omega
    | succ k=>exact ih.inn i v hv k y (by simpa using hy) (by omega)
  ·cases i with
   | zero=>simp at hi
   | succ i=>exact ih.out i v hv (.inr (by simp at hi;omega))
theorem zhA {ix:A} {x:Lf} {sz:Nat} (hsz:0<sz):∀ (l:List (Option Lf)) (base len j:Nat),
  M.sat F ν (zex ix x l base sz len j) (fun l'=>l'.length=l.length∧(∀ k,k<len→base+k*sz<l.length) ∧
   ∀ i v,nth l' i=some v →
    (∃ k,k<len∧i=base+k*sz∧∃ old,nth l i=some old∧(ix.int ν=((j+k:Nat):Int)→Like ν v x)∧(ix.int ν≠((j+k:Nat):Int)→Like ν v old)) ∨
    ((∀ k,k<len→i≠base+k*sz)∧nth l i=some v))
 | l,base,0,j=>by
  have e:zex ix x l base sz 0 j=pure l:=by cases l<;>cases base<;>rfl
  rw [e]
  exact zab ⟨rfl,fun k hk=>absurd hk (by omega),fun i v hv=>.inr ⟨fun k hk=>absurd hk (by omega),hv⟩⟩
 | [],base,len+1,j=>by
  have e:zex ix x [] base sz (len+1) j=M.fail:=by cases base<;>rfl
  rw [e];exact zac
 | c::l,base+1,len+1,j=>by
  have e:zex ix x (c::l) (base+1) sz (len+1) j=(do pure (c::(←zex ix x l base sz (len+1) j))):=rfl
  rw [e]
  refine zaa (zhA hsz l base (len+1) j) fun r hr=>zab ?_
  obtain ⟨h1,h2,h3⟩:=hr
  refine ⟨by simp [h1],fun k hk=>by have:=h2 k hk;simp;omega,fun i v hv=>?_⟩
  cases i with
  | zero=>exact .inr ⟨fun k hk=>by omega,hv⟩
  | succ i =>
   rcases h3 i v hv with ⟨k,hk,hi,old,ho,ha⟩ | ⟨hn,ho⟩
   ·exact .inl ⟨k,hk,by omega,old,ho,ha⟩
   ·exact .inr ⟨fun k hk=>by have:=hn k hk;omega,ho⟩
 | c::l,0,len+1,j=>by
  cases c with
  | none =>
   have e:zex ix x (none::l) 0 sz (len+1) j=M.fail:=rfl
   rw [e];exact zac
  | some old =>
   have e:zex ix x (some old::l) 0 sz (len+1) j=(do
    let e ←emit (.eql ix (.z j))
    match ←zl3 e x old with
    | none=>M.fail
    | some y=>do pure (some y::(←zex ix x l (sz-1) sz len (j+1)))):=rfl
   rw [e]
   refine zaa (zaf (Q:=fun r=>r.bool ν=(ix.int ν==(j:Int))) fun r h=>A.bool_of_den h) fun e he=>?_
   refine zaa zo5 fun o ho=>?_
   split
   ·exact zac
   ·rename_i y
    have hm:=ho y rfl
    refine zaa (zhA hsz l (sz-1) len (j+1)) fun r hr=>zab ?_
    obtain ⟨h1,h2,h3⟩:=hr
    refine ⟨by simp [h1],fun k hk=>?_,fun i v hv=>?_⟩
    ·cases k with
     | zero=>simp
     | succ k=>have:=h2 k (by omega);simp [Nat.add_mul];omega
    ·cases i with
     | zero =>
      cases hv
      refine .inl ⟨0,by omega,by omega,old,rfl,fun hj=>?_,fun hj=>?_⟩
      ·exact hm.1 (by rw [he];simpa using hj)
      ·exact hm.2 (by rw [he];simpa using hj)
     | succ i =>
      rcases h3 i v hv with ⟨k,hk,hi,old2,ho2,ha⟩ | ⟨hn,ho2⟩
      ·refine .inl ⟨k+1,by omega,by simp [Nat.add_mul];omega,old2,ho2,?_⟩
       have ej:((j+(k+1):Nat):Int)=((j+1+k:Nat):Int):=by omega
       rw [ej];exact ha
      ·refine .inr ⟨fun k hk=>?_,ho2⟩
       cases k with
       | zero=>omega
       | succ k=>have:=hn k (by omega);simp [Nat.add_mul];omega
theorem zo6 {ix:A} {x:Lf} {sz base len:Nat} (hsz:0<sz) (h0:0≤ix.int ν) (h1:ix.int ν<len) (l:List (Option Lf)) :
  M.sat F ν (zex ix x l base sz len 0) (fun l'=>Desc ν l l' (base+(ix.int ν).toNat*sz) [x]):=by
 refine zag (zhA hsz l base len 0) fun l' ⟨ha,hb,hc⟩=>?_
 have hix:ix.int ν=(((ix.int ν).toNat:Nat):Int):=by omega
 have hinj:∀ k,base+k*sz=base+(ix.int ν).toNat*sz→k=(ix.int ν).toNat:=fun k h=>Nat.eq_of_mul_eq_mul_right hsz (by omega)
 refine ⟨ha,fun _=>by have:=hb (ix.int ν).toNat (by omega);simp;omega,fun i v hv k y hy hi=>?_,fun i v hv hi=>?_⟩
 ·have:k=0:=by have:=(List.getElem?_eq_some_iff.1 hy).1;simp at this;omega
  subst this
  simp at hy;subst hy
  rcases hc i v hv with ⟨k,hk,hi',old,ho,h2,h3⟩ | ⟨hn,ho⟩
  ·have:=hinj k (by omega)
   exact h2 (by omega)
  ·exact absurd (by omega) (hn (ix.int ν).toNat (by omega))
 ·rcases hc i v hv with ⟨k,hk,hi',old,ho,h2,h3⟩ | ⟨hn,ho⟩
  ·refine ⟨old,ho,h3 fun he=>?_⟩
   have:k=(ix.int ν).toNat:=by omega
   subst this
   simp at hi;omega
  ·exact ⟨v,ho,Like.refl v⟩
theorem zvU (n:Nat) (l:List DV):(padN n l).length=n:=by simp [padN]
theorem zvV {n k:Nat} (l:List DV) (h:k<n):(padN n l)[k]? = some (l.getD k default):=by simp [padN,h]
def zxq (a a':A):Lf→Lf
 | .e t b j=>if b.beq a then .e t a' j else .e t b j
 | c=>c
theorem zgK (a a':A):∀ (l:List (Option Lf)) (i:Nat),nth (zoD a a' l) i=(nth l i).map (zxq a a')
 | [],i=>by cases i<;>rfl
 | none::l,0=>rfl
 | none::l,i+1=>zgK a a' l i
 | some x::l,0=>by cases x<;>rfl
 | some x::l,i+1=>by cases x<;>exact zgK a a' l i
theorem zjx (a a':A):∀ (l:List (Option Lf)),(zoD a a' l).length=l.length
 | []=>rfl
 | none::l=>by simp [zoD,zjx a a' l]
 | some x::l=>by cases x<;>simp [zoD,zjx a a' l]
theorem zgL {a:A} : ∀ {l:List (Option Lf)} {i:Nat} {t:LT} {b:A} {j:Nat},nth l i=some (.e t b j)→b.beq a=true→j<maxE a l
 | [],i,_,_,_,h,_=>by cases i<;>cases h
 | none::l,0,_,_,_,h,_=>by cases h
 | none::l,i+1,_,_,_,h,hb=>zgL (l:=l) (i:=i) h hb
 | some x::l,0,t,b,j,h,hb=>by
  cases h
  simp only [maxE,hb,if_true]
  omega
 | some x::l,i+1,t,b,j,h,hb=>by
  have ih:=zgL (l:=l) (i:=i) h hb
  cases x<;>simp only [maxE]<;>first | exact ih | skip
  split
  ·omega
  ·exact ih
theorem zgM {a:A} {P0 J0:Nat} : ∀ {l:List (Option Lf)} {p i:Nat} {t:LT} {b:A} {j:Nat},affB a P0 J0 p l=true→nth l i=some (.e t b j)→b.beq a=true→j+P0=p+i+J0
 | [],_,i,_,_,_,_,h,_=>by cases i<;>cases h
 | none::l,p,0,_,_,_,_,h,_=>by cases h
 | none::l,p,i+1,t,b,j,ha,h,hb=>by
  have:=zgM (l:=l) (p:=p+1) (i:=i) ha h hb
  omega
 | some x::l,p,0,t,b,j,ha,h,hb=>by
  cases h
  simp only [affB,Bool.and_eq_true,hb,Bool.not_true,Bool.false_or] at ha
  have:=Nat.eq_of_beq_eq_true ha.1
  omega
 | some x::l,p,i+1,t,b,j,ha,h,hb=>by
  have ha':affB a P0 J0 (p+1) l=true:=by
   cases x<;>simp only [affB,Bool.and_eq_true] at ha<;>first | exact ha | exact ha.2
  have:=zgM (l:=l) (p:=p+1) (i:=i) ha' h hb
  omega
theorem zo7 {t:LT} {x:Lf} {v:A} (h:zqr t x=some v) {a':A} {J:Nat} (ha:(a'.cells ν)[J]? = some (nrm t.ty (v.den ν))):∀ ρ,(Lf.e t a' J).conc ν ρ=x.conc ν ρ:=by
 intro ρ
 have hg:(a'.cells ν).getD J default=nrm t.ty (v.den ν):=by rw [List.getD_eq_getElem?_getD,ha];rfl
 unfold zqr at h
 split at h
 ·split at h
  ·rename_i hk
   cases h
   have:=zcf hk;subst this
   simp only [Lf.conc,hg,LT.ty,nrm,A.int]
  ·cases h
 ·cases h
  simp only [Lf.conc,hg,LT.ty,nrm,A.bool]
 ·cases h
theorem zny {ix:A} {x:Lf} {sz base len:Nat} (hsz:0<sz) (h0:0≤ix.int ν) (h1:ix.int ν<len) (l:List (Option Lf)) :
  M.sat F ν (putE ix x l base sz len) (fun l'=>Desc ν l l' (base+(ix.int ν).toNat*sz) [x]):=by
 unfold putE
 split
 ·rename_i t a i0 r hrow
  refine zae (fun hc=>?_) (fun _=>zac)
  simp only [Bool.and_eq_true] at hc
  obtain ⟨hre,haf⟩:=hc
  obtain ⟨r1,r2⟩:=zbI hrow
  refine zaa (zad (Q:=fun v=>zqr t x=some v) fun a h=>h) fun v hv=>?_
  refine zaa (zaf (Q:=fun q=>q.cells ν=(padN (maxE a l) (a.cells ν)).set ((ix.int ν).toNat*sz+i0) (nrm t.ty (v.den ν))) fun q h=>A.cells_of_den h) fun a' ha'=>zab ?_
  have hk:(ix.int ν).toNat<len:=by omega
  have hcell:=r2 _ hk
  rw [List.getElem?_eq_getElem (by omega)] at hcell
  obtain ⟨b,hb1,hb2⟩:=zeV hre _ _ (List.getElem?_eq_getElem (l:=.e t a i0::r) (i:=(ix.int ν).toNat) (by omega))
  rw [hb2] at hcell
  have hJ:=zgL hcell hb1
  have hJp:=zgM haf hcell hb1
  generalize hp:base+(ix.int ν).toNat*sz=p at *
  generalize hJe:i0+(ix.int ν).toNat*sz=J at *
  have hJ2:(ix.int ν).toNat*sz+i0=J:=by omega
  rw [hJ2] at ha'
  have hpl:=zaY hcell
  have hat:(a'.cells ν)[J]? = some (nrm t.ty (v.den ν)):=by
   rw [ha',List.getElem?_set,if_pos rfl,if_pos (by rw [zvU];exact hJ)]
  refine ⟨zjx _ _ _,fun _=>by simp;omega,fun i u hu k y hy hi=>?_,fun i u hu hi=>?_⟩
  ·have:k=0:=by have:=(List.getElem?_eq_some_iff.1 hy).1;simp at this;omega
   subst this
   simp at hy;subst hy
   have hi:i=p:=by omega
   subst hi
   rw [zgK,hcell] at hu
   simp only [Option.map_some,zxq,hb1,if_true,Option.some.injEq] at hu
   subst hu
   exact ⟨zo7 hv hat,fun _=>trivial⟩
  ·have hip:i≠p:=by simp at hi;omega
   rw [zgK] at hu
   obtain ⟨old,ho,rfl⟩:=Option.map_eq_some_iff.1 hu
   refine ⟨old,ho,?_⟩
   cases old<;>simp only [zxq]<;>try exact Like.refl _
   rename_i u c j
   split
   ·rename_i hcb
    have hj:=zgM haf ho hcb
    have hjm:=zgL ho hcb
    have hjJ:J≠j:=by omega
    have hget:(a'.cells ν).getD j default=(c.cells ν).getD j default:=by
     rw [List.getD_eq_getElem?_getD,ha',List.getElem?_set,if_neg hjJ,zvV _ hjm]
     simp only [A.cells,A.beq_den hcb ν,Option.getD_some]
    refine ⟨fun ρ=>?_,fun _=>trivial⟩
    cases u<;>simp only [Lf.conc,hget]
   ·exact Like.refl _
 ·exact zo6 hsz h0 h1 l
theorem zib {ix:A} {sz len:Nat} (hsz:0<sz) (h0:0≤ix.int ν) (h1:ix.int ν<len):∀ (xs:List Lf) (l:List (Option Lf)) (base:Nat),
  M.sat F ν (zl6 ix xs l base sz len) (fun l'=>Desc ν l l' (base+(ix.int ν).toNat*sz) xs)
 | [],l,base=>zab (Desc.nil _ _)
 | x::xs,l,base=>by
  unfold zl6
  refine zaa (zny hsz h0 h1 l) fun l1 hl1=>zag (zib hsz h0 h1 xs l1 (base+1)) fun l2 hl2=>?_
  exact Desc.cons hl1 (by rwa [show base+(ix.int ν).toNat*sz+1=base+1+(ix.int ν).toNat*sz from by omega])
theorem zic:∀ (xs:List Lf) (l:List (Option Lf)) (o:Nat),M.sat F ν (zl7 xs l o) (fun l'=>Desc ν l l' o xs)
 | [],l,o=>zab (Desc.nil _ _)
 | x::xs,l,o=>by
  unfold zl7
  refine zaa (R:=fun l1=>Desc ν l l1 o [x]) ?_ fun l1 hl1=>zag (zic xs l1 (o+1)) fun l2 hl2=>Desc.cons hl1 hl2
  split
  ·refine zae (fun _=>zad fun l' h=>zb7 h) (fun _=>?_)
   refine zag (zny (ν:=ν) (ix:=.z 0) (len:=1) (by decide) (by simp) (by show (0:Int)<1;decide) l) fun l' h=>?_
   simpa using h
  ·exact zad fun l' h=>zb7 h
theorem zhB {cs:List (Option Lf)} {off:Off} {xs:List Lf} (hg:off.good ν) :
  M.sat F ν (zeG cs off xs) (fun l'=>Desc ν cs l' (off.val ν) xs):=by
 unfold zeG
 split
 ·exact zae (fun _=>zic _ _ _) (fun _=>zad fun l' h=>zb7 h)
 ·exact zae (fun h=>zib (by simpa using h) hg.1 hg.2 _ _ _) (fun _=>zac)
 ·exact zac
theorem zbr (b:Nat):∀ (vs:List Value) (o:Nat) (w:World),(w.setCells b o vs).heap.size=w.heap.size
 | [],_,_=>rfl
 | v::r,o,w=>by rw [World.setCells,zbr b r,World.size_setCell]
theorem zbv (b:Nat):∀ (vs:List Value) (o:Nat) (w:World) (k:Nat),k≠b→(w.setCells b o vs).heap[k]? = w.heap[k]?
 | [],_,_,_,_=>rfl
 | v::r,o,w,k,h=>by rw [World.setCells,zbv b r _ _ k h];exact Below.heap_setCell w ⟨b,o,none⟩ v k h
theorem zbg (b:Nat):∀ (vs:List Value) (o:Nat) (w:World),(w.setCells b o vs).os=w.os∧(w.setCells b o vs).tape=w.tape∧(w.setCells b o vs).output=w.output
 | [],_,_=>⟨rfl,rfl,rfl⟩
 | v::r,o,w=>by
  rw [World.setCells]
  exact zbg b r (o+1) _
theorem Lf.ok_conc {l:Lf} (h:l.ok=true) (ρ:Nat→Loc):(l.conc ν ρ).oneCell'=true:=by
 cases l with
 | e t _ _=>cases t<;>rfl
 | alt a l =>
  simp only [Lf.conc,zbk]
  split
  ·rename_i x _
   cases x<;>rfl
  ·rfl
 | _=>first | rfl | exact h
theorem CBlk.store {r:Loc} {cs cs':List (Option Lf)} {p:Nat} {xs:List Lf} (h:CBlk ν ρ w r true cs) (hd:Desc ν cs cs' p xs) (hg:∀ x∈xs,x.good ν) (hok:∀ x∈xs,x.ok=true) :
  (storeCells ⟨r.blk,r.off+p,none⟩ (xs.map (Lf.conc ν ρ))).run P w = .ok () (w.setCells r.blk (r.off+p) (xs.map (Lf.conc ν ρ))) ∧
  CBlk ν ρ (w.setCells r.blk (r.off+p) (xs.map (Lf.conc ν ρ))) r true cs':=by
 have hroom:∀ k,k<xs.length→p+k<cs.length:=fun k hk=>by
  have:=hd.room (by intro e;subst e;simp at hk)
  omega
 have hex:∀ k,k<xs.length→(w.cell? ⟨r.blk,r.off+p+k,none⟩).isSome=true∧w.frozen? ⟨r.blk,r.off+p+k,none⟩=false:=fun k hk=>by
  have:=h.own rfl (p+k) (hroom k hk)
  rwa [←Nat.add_assoc] at this
 refine ⟨?_,h.nil,?_,?_,?_,fun _ o=>by rw [World.frozen?_setCells];exact h.fz rfl o⟩
 ·have:=run_storeCells_cells (P:=P) r.blk (r.off+p) (xs.map (Lf.conc ν ρ)) 0 w (by simpa using fun k hk=>(hex k hk).1) (by simpa using fun k hk=>(hex k hk).2)
   (fun v hv=>by obtain ⟨l,hl,rfl⟩:=List.mem_map.1 hv;exact Lf.ok_conc (hok l hl) ρ)
  simpa using this
 ·rw [zbr];exact h.lt
 ·intro i l hl
  by_cases hi:p≤i∧i<p+xs.length
  ·obtain ⟨k,hk⟩:∃ k,i=p+k:=⟨i-p,by omega⟩
   have hkl:k<xs.length:=by omega
   have hlike:=hd.inn i l hl k xs[k] (List.getElem?_eq_getElem hkl) hk
   refine ⟨hlike.2 (hg _ (List.getElem_mem hkl)),?_⟩
   have:=World.cell?_setCells_in r.blk (xs.map (Lf.conc ν ρ)) (r.off+p) w (by simpa using fun k hk=>(hex k hk).1) k (by simpa using hkl)
   rw [hk,←Nat.add_assoc,this,hlike.1 ρ]
   simp
  ·obtain ⟨old,ho,hlike⟩:=hd.out i l hl (by omega)
   have:=h.cell i old ho
   refine ⟨hlike.2 this.1,?_⟩
   rw [World.cell?_setCells_out _ _ _ _ _ (fun _ _=>by simp;omega),this.2,hlike.1 ρ]
 ·intro _ i hi
  rw [World.frozen?_setCells]
  have hi':i<cs.length:=by have:=hd.len;omega
  have:=h.own rfl i hi'
  refine ⟨?_,this.2⟩
  by_cases hi2:p≤i∧i<p+xs.length
  ·obtain ⟨k,hk⟩:∃ k,i=p+k:=⟨i-p,by omega⟩
   have hkl:k<xs.length:=by omega
   have:=World.cell?_setCells_in r.blk (xs.map (Lf.conc ν ρ)) (r.off+p) w (by simpa using fun k hk=>(hex k hk).1) k (by simpa using hkl)
   rw [hk,←Nat.add_assoc,this]
   rfl
  ·rw [World.cell?_setCells_out _ _ _ _ _ (fun _ _=>by simp;omega)]
   exact this.1
end
end Go.Sx
namespace Go.Sx
open Go.RowKit
abbrev dget (l:List DV) (i:Nat):DV:=l.getD i default
def GlobIn (w:World) (g:Nat) (cs:List Lf):Prop :=
 g<w.heap.size∧∀ i l,cs[i]? = some l→∀ ν ρ,l.good ν∧w.cell? ⟨g,i,none⟩=some (l.conc ν ρ)
theorem GlobIn.below {w w':World} {g:Nat} {cs:List Lf} (hb:Below w.heap.size w w') (h:GlobIn w g cs):GlobIn w' g cs :=
 ⟨Nat.lt_of_lt_of_le h.1 hb.size,fun i l hi ν ρ=>⟨(h.2 i l hi ν ρ).1,by rw [←(h.2 i l hi ν ρ).2];exact hb.cell h.1⟩⟩
structure HS (E:Env) (ν:Nat→DV) (ρ:Nat→Loc) (hp:List (Option Blk)) (w:World):Prop where
 heap:HRel E ν ρ hp w
 old:OldF E.W E.V E.w0 w ρ hp
 fr:Fr E.W E.w0 w
 len:E.n0≤hp.length
 keep:∀ j,j<E.n0→ρ j=E.ρ0 j
def callEnv (hin : List (Option Blk)) (ρ : Nat → Loc) (w : World) : Env :=
  ⟨fun b => ∃ j bk, nth hin j = some bk ∧ bk.own = true ∧ (ρ j).nil = false ∧ bk.foot w (ρ j) b,
   fun b => (∃ j bk, nth hin j = some bk ∧ (ρ j).nil = false ∧ bk.rfoot w (ρ j) b) ∨
     (hin.all (zao Blk.flat) = false ∧ b < w.heap.size ∧ ¬ ∃ j bk, nth hin j = some bk ∧ bk.own = true ∧ (ρ j).nil = false ∧ bk.foot w (ρ j) b), w, hin.length, ρ⟩
def Sig.hinI (sg:Sig):List (Option Blk):=sg.hin.map (Option.map (Blk.inst (zap 0 sg.nin)))
def Sig.insI (sg:Sig):List V:=sg.ins.map (V.inst (zap 0 sg.nin))
def Sig.houtI (sg:Sig):List (Option Blk):=sg.hout.map (Option.map (Blk.inst (zap 0 sg.ots.length)))
def Sig.outI (sg:Sig):V:=sg.out.inst (zap 0 sg.ots.length)
def Sig.res (sg:Sig) (ds:List DV):Nat→DV:=fun j=>dget ds (j+if sg.need then 1 else 0)
structure CallOut (sg:Sig) (ds:List DV) (ρ:Nat→Loc) (w:World) (v:Value) (ρ':Nat→Loc) (w':World):Prop where
 val:v=sg.outI.conc (sg.res ds) ρ'
 good:sg.outI.good (sg.res ds)
 heap:HRel (callEnv sg.hinI ρ w) (sg.res ds) ρ' sg.houtI w'
 old:OldF (callEnv sg.hinI ρ w).W (callEnv sg.hinI ρ w).V w w' ρ' sg.houtI
 fr:Fr (callEnv sg.hinI ρ w).W w w'
 keep:∀ j,stays sg.hin j=true→j<sg.hout.length→ρ' j=ρ j
def FnOK (P:Program) (I:World→Prop) (K:Nat) (f:FuncId) (sg:Sig) (G:List DV→List DV):Prop :=
 ∀ (ds:List DV) (ρ:Nat→Loc) (w:World),I w→ds.length=sg.nin→(sg.need=true→(dget (G ds) 0).toB=true) →
  K≤w.heap.size→(∀ b,(callEnv sg.hinI ρ w).W b→K≤b)→(∀ v∈sg.insI,V.good (dget ds) v)→HRel (callEnv sg.hinI ρ w) (dget ds) ρ sg.hinI w →
  Calls P f (sg.insI.map (V.conc (dget ds) ρ)).toArray w (fun e w'=>∃ v ρ',e = .returned v∧CallOut sg (G ds) ρ w v ρ' w')
structure SigsOK (P:Program) (I:World→Prop) (K:Nat) (S:Sigs) (F:FEnv):Prop where
 fns:∀ f sg,S.get f=some sg→FnOK P I K f sg (F f)
 globs:∀ g cs,assoc S.gs g=some cs→∀ w,I w→GlobIn w g cs
def Env.Ok (E:Env) (K:Nat):Prop:=K≤E.w0.heap.size∧∀ b,E.W b→K≤b
section
variable {P:Program} {I:World→Prop} {S:Sigs} {F:FEnv} {E:Env} {ν:Nat→DV}
structure ARel (ν:Nat→DV) (ρ:Nat→Loc) (r:RS) (a:Act):Prop where
 defers:a.defers=[]
 size:a.tmps.size=r.st.sl.length
 slot:∀ t v,nth r.st.sl t=some v→v.good ν∧a.tmps[t]? = some (v.conc ν ρ)
 gl:∀ e∈r.gl,(a.tmps[e.d]? = some (.bool e.want)→e.v.good ν∧a.tmps[e.t]? = some (e.v.conc ν ρ))∧(a.tmps[e.d]?≠some (.bool e.want)→a.tmps[e.t]? = some undef)
def zdM (ctx:Ctx) (a:Act):Prop:=∀ p∈ctx,a.tmps[p.1]? = some (.bool p.2)
theorem Ctx.has_spec:∀ {ctx:Ctx} {d:Nat} {w:Bool},ctx.has d w=true→(d,w)∈ctx
 | [],_,_,h=>by simp [Ctx.has] at h
 | (d,w)::r,d',w',h=>by
  simp only [Ctx.has,Bool.or_eq_true,Bool.and_eq_true] at h
  rcases h with ⟨h1,h2⟩ | h
  ·have:=Nat.eq_of_beq_eq_true h1;subst this
   have:=zcW h2;subst this
   simp
  ·exact List.mem_cons_of_mem _ (Ctx.has_spec h)
theorem zjy {ctx:Ctx} {t:Nat} : ∀ {l:List GE} {v:V},znj ctx t l=some v→∃ e∈l,e.t=t∧e.v=v∧(e.d,e.want)∈ctx
 | [],v,h=>by simp [znj] at h
 | e::r,v,h=>by
  simp only [znj] at h
  split at h
  ·rename_i hc
   simp only [Bool.and_eq_true] at hc
   cases h
   exact ⟨e,by simp,Nat.eq_of_beq_eq_true hc.1,rfl,Ctx.has_spec hc.2⟩
  ·obtain ⟨e',h1,h2⟩:=zjy h
   exact ⟨e',List.mem_cons_of_mem _ h1,h2⟩
theorem znz {ρ:Nat→Loc} {r:RS} {a:Act} {ctx:Ctx} (h:ARel ν ρ r a) (hc:zdM ctx a) {t:Nat} {v:V} (hv:r.slot ctx t=some v):v.good ν∧a.tmps[t]? = some (v.conc ν ρ):=by
 unfold RS.slot at hv
 split at hv
 ·cases hv;exact h.slot t _ ‹_›
 ·obtain ⟨e,he,rfl,rfl,hctx⟩:=zjy hv
  exact (h.gl e he).1 (hc (e.d,e.want) hctx)
theorem zf3 {x:Value} {l:Lf} (h:ziV x=some l):l.good ν∧∀ ρ,l.conc ν ρ=x:=by
 unfold ziV at h
 split at h<;>first | (cases h;exact ⟨trivial,fun _=>rfl⟩) | cases h
theorem zeW {α β:Type} {f:α→Option β} : ∀ {l:List α} {r:List β},zby f l=some r→r.length=l.length∧∀ (i:Nat) b,r[i]? = some b→∃ a,l[i]? = some a∧f a=some b
 | [],r,h=>by simp [zby] at h;subst h;exact ⟨rfl,fun i b hb=>by simp at hb⟩
 | a::l,r,h=>by
  simp only [zby] at h
  cases hf:f a with
  | none=>simp [hf] at h
  | some b =>
   simp only [hf] at h
   cases hr:zby f l with
   | none=>simp [hr] at h
   | some r' =>
    simp only [hr,Option.some.injEq] at h
    subst h
    obtain ⟨h1,h2⟩:=zeW hr
    refine ⟨by simp [h1],fun i b' hb=>?_⟩
    cases i with
    | zero=>simp at hb;subst hb;exact ⟨a,rfl,hf⟩
    | succ i=>exact h2 i b' (by simpa using hb)
theorem zd9 {l:List Value} {r:List Lf} (h:zby ziV l=some r):(∀ x∈r,x.good ν)∧∀ ρ,r.map (Lf.conc ν ρ)=l:=by
 obtain ⟨h1,h2⟩:=zeW h
 refine ⟨fun x hx=>?_,fun ρ=>?_⟩
 ·obtain ⟨i,hi,rfl⟩:=List.mem_iff_getElem.1 hx
  obtain ⟨a,_,ha⟩:=h2 i _ (List.getElem?_eq_getElem hi)
  exact (zf3 ha).1
 ·apply List.ext_getElem?
  intro i
  by_cases hi:i<r.length
  ·obtain ⟨a,ha1,ha2⟩:=h2 i _ (List.getElem?_eq_getElem hi)
   simp [List.getElem?_eq_getElem hi,ha1,(zf3 (ν:=ν) ha2).2 ρ]
  ·rw [List.getElem?_eq_none (by simpa using hi),List.getElem?_eq_none (by omega)]
theorem znA {x:Value} {v:V1} (h:zoC x=some v):v.good ν∧∀ ρ,v.conc ν ρ=x:=by
 unfold zoC at h
 split at h
 ·obtain ⟨r,hr,rfl⟩:=Option.map_eq_some_iff.1 h
  have:=zd9 (ν:=ν) hr
  exact ⟨V1.good_agg.2 this.1,fun ρ=>by simp [V1.conc,this.2 ρ]⟩
 ·obtain ⟨r,hr,rfl⟩:=Option.map_eq_some_iff.1 h
  have:=zf3 (ν:=ν) hr
  exact ⟨V1.good_one.2 this.1,fun ρ=>this.2 ρ⟩
theorem zal {ρ:Nat→Loc} {r:RS} {a:Act} {ctx:Ctx} (h:ARel ν ρ r a) (hc:zdM ctx a) {x:Operand} {v:V} (hv:rd r ctx x=some v):v.good ν∧a.eval x=v.conc ν ρ:=by
 cases x with
 | tmp t =>
  have:=znz h hc (show r.slot ctx t=some v from hv)
  exact ⟨this.1,by simp [Act.eval,this.2]⟩
 | const c =>
  simp only [rd] at hv
  obtain ⟨u,hu,rfl⟩:=Option.map_eq_some_iff.1 hv
  have:=znA (ν:=ν) hu
  exact ⟨this.1,(this.2 ρ).symm⟩
 | func f =>
  simp only [rd,Option.some.injEq] at hv
  subst hv
  exact ⟨V.good_s.2 (V1.good_one.2 (show True from trivial)),rfl⟩
 | global g =>
  simp only [rd,Option.some.injEq] at hv
  subst hv
  exact ⟨V.good_s.2 (V1.good_one.2 trivial),by simp [V.conc,V1.conc,Lf.conc,Off.val,Act.eval]⟩
structure RR (ν:Nat→DV) (E:Env) (ρ:Nat→Loc) (r:RS) (a:Act) (w:World):Prop where
 act:ARel ν ρ r a
 hs:HS E ν ρ r.st.hp w
theorem HS.of_below {ρ:Nat→Loc} {hp:List (Option Blk)} {w w':World} (h:HS E ν ρ hp w) (hb:Below w.heap.size w w'):HS E ν ρ hp w' :=
 ⟨h.heap.of_below hb,h.old.congr h.heap fun j bk hj hn _ hf=>hb.block _ ((h.heap.blk j bk hj).lt hn hf),h.fr.trans (Fr.of_below hb),h.len,h.keep⟩
theorem RR.below {ρ:Nat→Loc} {r:RS} {a:Act} {w w':World} (h:RR ν E ρ r a w) (hb:Below w.heap.size w w'):RR ν E ρ r a w':=⟨h.act,h.hs.of_below hb⟩
def zmu (P:Program) (x:Sem Next) (w:World) (v:Value):Prop :=
 x.run P w = .ok (.value v) w∨∃ f args,x.run P w = .ok (.enter f args) w∧Calls P f args w (fun e w'=>e = .returned v∧Below w.heap.size w w')
def zyD (P:Program) (x:Sem Next) (w:World) (K:Option Value→World→Prop):Prop :=
 (∃ v w',x.run P w = .ok (.value v) w'∧K (some v) w')∨(∃ w',x.run P w = .ok .skip w'∧K none w') ∨
 ∃ f args,x.run P w = .ok (.enter f args) w∧Calls P f args w (fun e w'=>∃ v,e = .returned v∧K (some v) w')
def ORok (P:Program) (I:World→Prop) (E:Env) (ν:Nat→DV) (ρ:Nat→Loc) (hp:List (Option Blk)) (x:Sem Next):OR→Prop
 | .val v=>∀ w,HS E ν ρ hp w→I w→v.good ν∧zmu P x w (v.conc ν ρ)
 | .hp v hp'=>∀ w,HS E ν ρ hp w→I w→zyD P x w fun nv w'=>∃ ρ':Nat→Loc,(∀ j,j<hp.length→ρ' j=ρ j)∧HS E ν ρ' hp' w'∧∀ u,v=some u→u.good ν∧nv=some (u.conc ν ρ')
theorem ORok.now {ρ:Nat→Loc} {hp:List (Option Blk)} {x:Sem Next} {v:V} (hg:v.good ν) (h:∀ w,HS E ν ρ hp w→x.run P w = .ok (.value (v.conc ν ρ)) w):ORok P I E ν ρ hp x (.val v) :=
 fun w hw _=>⟨hg,.inl (h w hw)⟩
theorem zgN {v:Value} (h:v.oneCell'=true):v.cells = #[v]:=by
 cases v<;>first | rfl | simp [Value.oneCell'] at h
end
end Go.Sx
namespace Go.Sx
open Go.RowKit
section
variable {P:Program} {I:World→Prop} {S:Sigs} {F:FEnv} {E:Env} {ν:Nat→DV}
theorem znB {x y:Value} (h:vBeq x y=true):x=y:=by
 unfold vBeq at h
 split at h
 ·simp only [Bool.and_eq_true] at h
  obtain ⟨⟨⟨⟨h1,h2⟩,h3⟩,h4⟩,h5⟩:=h
  have:=Nat.eq_of_beq_eq_true h1;subst this
  rw [Array.eq_empty_of_size_eq_zero (Nat.eq_of_beq_eq_true h2),Array.eq_empty_of_size_eq_zero (Nat.eq_of_beq_eq_true h3),Array.eq_empty_of_size_eq_zero (Nat.eq_of_beq_eq_true h4),Array.eq_empty_of_size_eq_zero (Nat.eq_of_beq_eq_true h5)]
 ·rfl
 ·rfl
 ·rfl
 ·cases h
def SubL (ν:Nat→DV) (m:List Nat) (x y:Lf):Prop:=y.good ν→(∀ ρ:Nat→Loc,x.conc ν (fun j=>ρ (rnm m j))=y.conc ν ρ)∧x.good ν
theorem beqB'_eq {a b:Bool} (h:beqB' a b=true):a=b:=by cases a<;>cases b<;>simp [beqB'] at h<;>rfl
theorem zwO {a b:Bool×Nat} (h:ktB a b=true):a=b:=by
 simp only [ktB,Bool.and_eq_true] at h
 exact Prod.ext (beqB'_eq h.1) (Nat.eq_of_beq_eq_true h.2)
theorem Alt.ren_conc (m:List Nat) (ρ:Nat→Loc) (x:Alt):(x.ren m).conc ρ=x.conc (fun j=>ρ (rnm m j)):=by cases x<;>rfl
theorem zfs (m:List Nat):∀ (l:List (Nat×Alt)) (k:Nat),zaP (zhq m l) k=(zaP l k).map (Alt.ren m)
 | [],_=>rfl
 | x::l,k=>by
  have:=zfs m l k
  unfold zhq at this
  simp only [zhq,List.map_cons,zaP]
  split
  ·rfl
  ·exact this
theorem zgO:∀ {l:List (Nat×Alt)} {k:Nat} {x:Alt},zaP l k=some x→(k,x)∈l
 | [],_,_,h=>by simp [zaP] at h
 | y::l,k,x,h=>by
  simp only [zaP] at h
  split at h
  ·rename_i he
   cases h
   rw [←Nat.eq_of_beq_eq_true he]
   exact List.mem_cons_self
  ·exact List.mem_cons_of_mem _ (zgO h)
theorem zrw {l l':List (Nat×Alt)} (h:zsf l l'=true) {k:Nat} {x:Alt} (hx:zaP l k=some x):zaP l' k=some x:=by
 have:=List.all_eq_true.1 h _ (zgO hx)
 simp only at this
 cases hy:zaP l' k with
 | none=>rw [hy] at this;cases this
 | some y=>rw [hy] at this;rw [Alt.beq_eq this]
theorem zo8 {m:List Nat} {a:A} {l:List (Nat×Alt)} {y:Lf} (h:zsg m a l y=true):SubL ν m (.alt a l) y:=by
 intro hg
 unfold zsg at h
 cases hq:zk4 y with
 | none=>rw [hq] at h;cases h
 | some q =>
  rw [hq] at h
  simp only [Bool.and_eq_true] at h
  obtain ⟨h1,h2⟩:=h
  obtain ⟨g1,z,g2,g3⟩:=zls hq hg
  have ha:a.int ν=q.1.int ν:=by
   split at h1
   ·simp only [A.int,A.beq_den h1 ν]
   ·split at h1
    ·rename_i x hx
     have hx2:=of_decide_eq_true h1
     have:zaP q.2 (q.1.int ν).toNat=some z:=g2
     rw [hx] at this
     simp only [zaP] at this
     split at this
     ·rename_i he
      have:=Nat.eq_of_beq_eq_true he
      rw [A.int_z,hx2]
      omega
     ·cases this
    ·cases h1
   ·cases h1
  have hat:=zrw h2 g2
  rw [zfs] at hat
  obtain ⟨u,hu,hur⟩:=Option.map_eq_some_iff.1 hat
  refine ⟨fun ρ=>?_,?_⟩
  ·rw [g3 ρ,←hur,Alt.ren_conc]
   simp only [Lf.conc,zbk,ha,hu]
  ·simp only [Lf.good,ha,hu]
   exact ⟨g1,rfl⟩
theorem Lf.sub_spec {m:List Nat} {x y:Lf} (h:x.sub m y=true):SubL ν m x y:=by
 cases x with
 | alt a l=>exact zo8 h
 | i k a =>
  cases y<;>simp [Lf.sub] at h
  obtain ⟨h1,h2⟩:=h
  have:=zcf h1;subst this
  exact fun _=>⟨fun ρ=>by simp [Lf.conc,A.int,A.beq_den h2 ν],trivial⟩
 | b a =>
  cases y<;>simp [Lf.sub] at h
  exact fun _=>⟨fun ρ=>by simp [Lf.conc,A.bool,A.beq_den h ν],trivial⟩
 | p k off =>
  cases y<;>simp [Lf.sub] at h
  obtain ⟨rfl,h2⟩:=h
  obtain ⟨h3,h4⟩:=Off.beq_spec (ν:=ν) h2
  exact fun hg=>⟨fun ρ=>by simp [Lf.conc,h3],h4 hg⟩
 | gp g off =>
  cases y<;>simp [Lf.sub] at h
  obtain ⟨rfl,h2⟩:=h
  obtain ⟨h3,h4⟩:=Off.beq_spec (ν:=ν) h2
  exact fun hg=>⟨fun ρ=>by simp [Lf.conc,h3],h4 hg⟩
 | nilp =>
  cases y<;>simp [Lf.sub] at h
  exact fun _=>⟨fun ρ=>rfl,trivial⟩
 | vec k =>
  cases y<;>simp [Lf.sub] at h
  subst h
  exact fun _=>⟨fun ρ=>rfl,trivial⟩
 | e t a1 j1 =>
  cases y<;>simp [Lf.sub] at h
  obtain ⟨⟨h1,h2⟩,rfl⟩:=h
  have:=LT.feq_eq h1
  subst this
  refine fun _=>⟨fun ρ=>?_,trivial⟩
  cases t<;>simp only [Lf.conc,A.cells,A.beq_den h2 ν]
 | fnp f bs =>
  cases y<;>simp [Lf.sub] at h
  obtain ⟨rfl,h2⟩:=h
  rw [←zjf h2]
  exact fun _=>⟨fun ρ=>by simp only [Lf.conc];rw [zh5],trivial⟩
 | ifp t q =>
  cases y<;>simp [Lf.sub] at h
  obtain ⟨rfl,rfl⟩:=h
  exact fun _=>⟨fun ρ=>rfl,trivial⟩
 | str a =>
  cases y<;>simp [Lf.sub] at h
  exact fun _=>⟨fun ρ=>by simp only [Lf.conc,A.cells,A.beq_den h ν],trivial⟩
 | mp q =>
  cases y<;>simp [Lf.sub] at h
  subst h
  exact fun _=>⟨fun ρ=>rfl,trivial⟩
 | v x =>
  cases y<;>simp [Lf.sub] at h
  have:=znB h;subst this
  exact fun hg=>⟨fun ρ=>rfl,hg⟩
theorem Lfs.sub_spec {m:List Nat} : ∀ {x y:List Lf},Lfs.sub m x y=true→(∀ l∈y,Lf.good ν l)→(∀ ρ:Nat→Loc,x.map (Lf.conc ν (fun j=>ρ (rnm m j)))=y.map (Lf.conc ν ρ))∧∀ l∈x,Lf.good ν l
 | [],[],_,h=>⟨fun _=>rfl,h⟩
 | x::l,y::l',h,hg=>by
  simp only [Lfs.sub,Bool.and_eq_true] at h
  obtain ⟨h1,h2⟩:=Lf.sub_spec (ν:=ν) h.1 (hg y (by simp))
  obtain ⟨h3,h4⟩:=Lfs.sub_spec h.2 (fun u hu=>hg u (List.mem_cons_of_mem _ hu))
  refine ⟨fun ρ=>by simp only [List.map_cons,h1 ρ,h3 ρ],fun z hz=>?_⟩
  rcases List.mem_cons.1 hz with rfl | hz
  ·exact h2
  ·exact h4 z hz
 | [],_::_,h,_=>by simp [Lfs.sub] at h
 | _::_,[],h,_=>by simp [Lfs.sub] at h
theorem V1.sub_spec {m:List Nat} {x y:V1} (h:x.sub m y=true) (g:y.good ν):(∀ ρ:Nat→Loc,x.conc ν (fun j=>ρ (rnm m j))=y.conc ν ρ)∧x.good ν:=by
 cases x<;>cases y<;>simp only [V1.sub] at h<;>first | cases h | skip
 ·obtain ⟨h1,h2⟩:=Lf.sub_spec (ν:=ν) h (V1.good_one.1 g)
  exact ⟨fun ρ=>h1 ρ,V1.good_one.2 h2⟩
 ·obtain ⟨h1,h2⟩:=Lfs.sub_spec (ν:=ν) h (V1.good_agg.1 g)
  exact ⟨fun ρ=>by simp only [V1.conc,h1 ρ],V1.good_agg.2 h2⟩
theorem V1s.sub_spec {m:List Nat} : ∀ {x y:List V1},V1s.sub m x y=true→(∀ l∈y,V1.good ν l)→(∀ ρ:Nat→Loc,x.map (V1.conc ν (fun j=>ρ (rnm m j)))=y.map (V1.conc ν ρ))∧∀ l∈x,V1.good ν l
 | [],[],_,h=>⟨fun _=>rfl,h⟩
 | x::l,y::l',h,hg=>by
  simp only [V1s.sub,Bool.and_eq_true] at h
  obtain ⟨h1,h2⟩:=V1.sub_spec (ν:=ν) h.1 (hg y (by simp))
  obtain ⟨h3,h4⟩:=V1s.sub_spec h.2 (fun u hu=>hg u (List.mem_cons_of_mem _ hu))
  refine ⟨fun ρ=>by simp only [List.map_cons,h1 ρ,h3 ρ],fun z hz=>?_⟩
  rcases List.mem_cons.1 hz with rfl | hz
  ·exact h2
  ·exact h4 z hz
 | [],_::_,h,_=>by simp [V1s.sub] at h
 | _::_,[],h,_=>by simp [V1s.sub] at h
theorem V.sub_spec {m:List Nat} {x y:V} (h:x.sub m y=true) (g:y.good ν):(∀ ρ:Nat→Loc,x.conc ν (fun j=>ρ (rnm m j))=y.conc ν ρ)∧x.good ν:=by
 cases x<;>cases y<;>simp only [V.sub] at h<;>first | cases h | skip
 ·exact V1.sub_spec h g
 ·obtain ⟨h1,h2⟩:=V1s.sub_spec (ν:=ν) h g
  exact ⟨fun ρ=>by simp only [V.conc,h1 ρ],h2⟩
theorem zcK {m:List Nat} : ∀ {x y:List (Option V)},zbq m x y=true→x.length=y.length∧∀ t v,nth x t=some v→∃ u,nth y t=some u∧v.sub m u=true
 | [],[],_=>⟨rfl,fun t v h=>by cases t<;>cases h⟩
 | none::l,y::l',h=>by
  simp only [zbq] at h
  obtain ⟨h1,h2⟩:=zcK h
  refine ⟨by simp [h1],fun t v ht=>?_⟩
  cases t with
  | zero=>cases ht
  | succ t=>exact h2 t v ht
 | some x::l,some y::l',h=>by
  simp only [zbq,Bool.and_eq_true] at h
  obtain ⟨h1,h2⟩:=zcK h.2
  refine ⟨by simp [h1],fun t v ht=>?_⟩
  cases t with
  | zero=>cases ht;exact ⟨y,rfl,h.1⟩
  | succ t=>exact h2 t v ht
 | [],_::_,h=>by simp [zbq] at h
 | none::_,[],h=>by simp [zbq] at h
 | some _::_,[],h=>by simp [zbq] at h
 | some _::_,none::_,h=>by simp [zbq] at h
theorem zea {m:List Nat} : ∀ {x y:List (Option Lf)},zdc m x y=true→∀ t v,nth x t=some v→∃ u,nth y t=some u∧v.sub m u=true
 | [],_,_,t,v,ht=>by cases t<;>cases ht
 | none::l,y,h,t,v,ht=>by
  simp only [zdc] at h
  cases t with
  | zero=>cases ht
  | succ t =>
   obtain ⟨u,h1,h2⟩:=zea h t v ht
   refine ⟨u,?_,h2⟩
   cases y with
   | nil=>cases t<;>cases h1
   | cons y l'=>exact h1
 | some x::l,some y::l',h,t,v,ht=>by
  simp only [zdc,Bool.and_eq_true] at h
  cases t with
  | zero=>cases ht;exact ⟨y,rfl,h.1⟩
  | succ t=>exact zea h.2 t v ht
 | some _::_,[],h,_,_,_=>by simp [zdc] at h
 | some _::_,none::_,h,_,_,_=>by simp [zdc] at h
theorem zeX:∀ {l l':List LT},zhW l l'=true→l=l'
 | [],[],_=>rfl
 | .int k::l,.int k'::l',h=>by
  simp only [zhW,Bool.and_eq_true] at h
  rw [zcf h.1,zeX h.2]
 | .bool::l,.bool::l',h=>by
  simp only [zhW] at h
  rw [zeX h]
 | [],.int _::_,h=>by cases h
 | [],.bool::_,h=>by cases h
 | [],.vec _::_,h=>by cases h
 | .int _::_,[],h=>by cases h
 | .bool::_,[],h=>by cases h
 | .vec _::_,[],h=>by cases h
 | .int _::_,.bool::_,h=>by cases h
 | .int _::_,.vec _::_,h=>by cases h
 | .bool::_,.int _::_,h=>by cases h
 | .bool::_,.vec _::_,h=>by cases h
 | .vec _::_,.int _::_,h=>by cases h
 | .vec _::_,.bool::_,h=>by cases h
 | .vec _::_,.vec _::_,h=>by cases h
theorem LT.beq_eq:∀ {t u:LT},t.beq u=true→t=u
 | .int k,.int k',h=>by simp only [LT.beq] at h;rw [zcf h]
 | .bool,.bool,_=>rfl
 | .vec l,.vec l',h=>by simp only [LT.beq] at h;rw [zeX h]
 | .int _,.bool,h=>by simp [LT.beq] at h
 | .int _,.vec _,h=>by simp [LT.beq] at h
 | .bool,.int _,h=>by simp [LT.beq] at h
 | .bool,.vec _,h=>by simp [LT.beq] at h
 | .vec _,.int _,h=>by simp [LT.beq] at h
 | .vec _,.bool,h=>by simp [LT.beq] at h
theorem LTs.beq_eq:∀ {t u:List LT},LTs.beq t u=true→t=u
 | [],[],_=>rfl
 | t::l,u::l',h=>by simp only [LTs.beq,Bool.and_eq_true] at h;rw [LT.beq_eq h.1,LTs.beq_eq h.2]
 | [],_::_,h=>by simp [LTs.beq] at h
 | _::_,[],h=>by simp [LTs.beq] at h
theorem MRel.sub {m:List Nat} {kt vt:Bool×Nat} {cs cs':List Lf} {ρ:Nat→Loc} {w:World} {r:Loc} (h:Lfs.sub m cs cs'=true) (hb:MRel ν ρ w r kt vt cs'):MRel ν (fun j=>ρ (rnm m j)) w r kt vt cs:=by
 obtain ⟨h1,h2⟩:=Lfs.sub_spec h hb.good
 obtain ⟨es,clock,e1,e2⟩:=hb.ents
 exact ⟨hb.nil,⟨es,clock,e1,by rw [zcP (h1 ρ)];exact e2⟩,h2⟩
theorem Blk.sub_spec {m:List Nat} {x y:Blk} (h:x.sub m y=true):(x.own=true→y.own=true) ∧
  ∀ (ρ:Nat→Loc) (w:World) (r:Loc),BlkRel E ν ρ w r y→BlkRel E ν (fun j=>ρ (rnm m j)) w r x:=by
 cases x with
 | obj o k a =>
  cases y with
  | c=>simp [Blk.sub] at h
  | v=>simp [Blk.sub] at h
  | l=>simp [Blk.sub] at h
  | m=>simp [Blk.sub] at h
  | obj o' k' a' =>
   simp only [Blk.sub,Bool.and_eq_true,Bool.or_eq_true,Bool.not_eq_true'] at h
   obtain ⟨⟨h1,h2⟩,h3⟩:=h
   have:=Nat.eq_of_beq_eq_true h2;subst this
   have ha:a.cells ν=a'.cells ν:=by simp [A.cells,A.beq_den h3 ν]
   refine ⟨fun ho=>?_,fun ρ w r hb=>?_⟩
   rotate_left
   ·show zbn o k w r (a.cells ν)
    rw [ha]
    have hb:zbn o' k w r (a'.cells ν):=hb
    refine hb.map fun _ d' hd=>?_
    rcases h1 with h1 | h1
    ·rw [h1];exact (objK _).wk hd
    ·cases o with
     | false=>exact (objK _).wk hd
     | true=>rwa [h1] at hd
   rcases h1 with h1 | h1
   ·change o=true at ho;rw [h1] at ho;cases ho
   ·exact h1
 | c o cs =>
  cases y with
  | v=>simp [Blk.sub] at h
  | obj=>simp [Blk.sub] at h
  | l=>simp [Blk.sub] at h
  | m=>simp [Blk.sub] at h
  | c o' cs' =>
   simp only [Blk.sub,Bool.and_eq_true,Bool.or_eq_true,Bool.not_eq_true'] at h
   obtain ⟨h1,h2⟩:=h
   refine ⟨fun ho=>?_,fun ρ w r hb=>?_⟩
   ·rcases h1 with h1 | h1
    ·change o=true at ho;rw [h1] at ho;cases ho
    ·exact h1.1
   ·have hb:CBlk ν ρ w r o' cs':=hb
    refine ⟨hb.nil,hb.lt,fun i l hl=>?_,fun ho i hi=>?_,fun ho o=>?_⟩
    ·obtain ⟨u,e1,e2⟩:=zea h2 i l hl
     obtain ⟨g1,g2⟩:=hb.cell i u e1
     obtain ⟨s1,s2⟩:=Lf.sub_spec (ν:=ν) e2 g1
     exact ⟨s2,by rw [s1 ρ];exact g2⟩
    ·rcases h1 with h1 | h1
     ·rw [h1] at ho;cases ho
     ·have:=Nat.eq_of_beq_eq_true h1.2
      exact hb.own h1.1 i (by omega)
    ·rcases h1 with h1 | h1
     ·rw [h1] at ho;cases ho
     ·exact hb.fz h1.1 o
 | l o f ts a =>
  cases y with
  | c=>simp [Blk.sub] at h
  | obj=>simp [Blk.sub] at h
  | m=>simp [Blk.sub] at h
  | l o' f' ts' a' =>
   simp only [Blk.sub,Bool.and_eq_true,Bool.or_eq_true,Bool.not_eq_true'] at h
   obtain ⟨⟨⟨h1,h0⟩,h2⟩,h3⟩:=h
   have:=LTs.beq_eq h2;subst this
   have ha:a.cells ν=a'.cells ν:=by simp [A.cells,A.beq_den h3 ν]
   have himp:∀ {b b':Bool},(b=false∨b'=true)→b=true→b'=true:=fun h e=>by
    rcases h with h | h
    ·rw [h] at e;cases e
    ·exact h
   refine ⟨himp h1,fun ρ w r hb=>?_⟩
   have hb:LRel E w r o' f' ts (a'.cells ν):=hb
   show LRel E w r o f ts (a.cells ν)
   rw [ha]
   exact ⟨hb.row,fun ho=>hb.spare (himp h1 ho),fun hf=>hb.full (himp h0 hf)⟩
  | v o' ts' a' =>
   simp only [Blk.sub,Bool.and_eq_true,Bool.or_eq_true,Bool.not_eq_true'] at h
   obtain ⟨⟨⟨h1,h0⟩,h2⟩,h3⟩:=h
   have:=LTs.beq_eq h2;subst this
   have ha:a.cells ν=a'.cells ν:=by simp [A.cells,A.beq_den h3 ν]
   have himp:∀ {b b':Bool},(b=false∨b'=true)→b=true→b'=true:=fun h e=>by
    rcases h with h | h
    ·rw [h] at e;cases e
    ·exact h
   refine ⟨himp h1,fun ρ w r hb=>?_⟩
   have hb:VRel E w r o' ts (a'.cells ν):=hb
   show LRel E w r o f ts (a.cells ν)
   rw [ha]
   refine ⟨⟨hb.nil,hb.lt,hb.pos,hb.len,hb.cap,hb.cell,fun ho=>(by cases ho),fun ho=>by cases ho⟩,fun ho _=>?_,fun hf=>by rw [h0] at hf;cases hf⟩
   have:=himp h1 ho
   subst this;exact hb
 | m o kt vt cs =>
  cases y with
  | c=>simp [Blk.sub] at h
  | obj=>simp [Blk.sub] at h
  | v=>simp [Blk.sub] at h
  | l=>simp [Blk.sub] at h
  | m o' kt' vt' cs' =>
   simp only [Blk.sub,Bool.and_eq_true,Bool.or_eq_true,Bool.not_eq_true'] at h
   obtain ⟨⟨⟨h1,h2⟩,h3⟩,h5⟩:=h
   have:=zwO h2;subst this
   have:=zwO h3;subst this
   refine ⟨fun ho=>?_,fun ρ w r hb=>MRel.sub h5 hb⟩
   rcases h1 with h1 | h1
   ·change o=true at ho;rw [h1] at ho;cases ho
   ·exact h1
 | v o ts a =>
  cases y with
  | c=>simp [Blk.sub] at h
  | obj=>simp [Blk.sub] at h
  | m=>simp [Blk.sub] at h
  | l o' f' ts' a' =>
   simp only [Blk.sub,Bool.and_eq_true,Bool.not_eq_true'] at h
   obtain ⟨⟨h1,h2⟩,h3⟩:=h
   have:=LTs.beq_eq h2;subst this
   subst h1
   have ha:a.cells ν=a'.cells ν:=by simp [A.cells,A.beq_den h3 ν]
   refine ⟨fun ho=>(by cases ho),fun ρ w r hb=>?_⟩
   have hb:LRel E w r o' f' ts (a'.cells ν):=hb
   show VRel E w r false ts (a.cells ν)
   rw [ha]
   exact hb.row
  | v o' ts' a' =>
   simp only [Blk.sub,Bool.and_eq_true,Bool.or_eq_true,Bool.not_eq_true'] at h
   obtain ⟨⟨h1,h2⟩,h3⟩:=h
   have:=LTs.beq_eq h2;subst this
   have ha:a.cells ν=a'.cells ν:=by simp [A.cells,A.beq_den h3 ν]
   refine ⟨fun ho=>?_,fun ρ w r hb=>?_⟩
   ·rcases h1 with h1 | h1
    ·change o=true at ho;rw [h1] at ho;cases ho
    ·exact h1
   ·have hb:VRel E w r o' ts (a'.cells ν):=hb
    show VRel E w r o ts (a.cells ν)
    rw [ha]
    refine ⟨hb.nil,hb.lt,hb.pos,hb.len,hb.cap,hb.cell,fun ho=>?_,fun ho=>?_⟩
    ·rcases h1 with h1 | h1
     ·rw [h1] at ho;cases ho
     ·exact hb.own h1
    ·rcases h1 with h1 | h1
     ·rw [h1] at ho;cases ho
     ·exact hb.fz h1
theorem zbD {m:List Nat} {hp:List (Option Blk)} : ∀ {x:List (Option Blk)} {j:Nat},zcS m hp j x=true→∀ i bk,nth x i=some bk→∃ bk',nth hp (rnm m (j+i))=some bk'∧bk.sub m bk'=true
 | [],j,_,i,bk,h=>by cases i<;>cases h
 | none::l,j,hs,i,bk,h=>by
  simp only [zcS] at hs
  cases i with
  | zero=>cases h
  | succ i =>
   have:=zbD hs i bk h
   rwa [show j+1+i=j+(i+1) from by omega] at this
 | some x::l,j,hs,i,bk,h=>by
  simp only [zcS,Bool.and_eq_true] at hs
  cases i with
  | zero =>
   cases h
   cases hn:nth hp (rnm m j) with
   | none=>rw [hn] at hs;cases hs.1
   | some y =>
    rw [hn] at hs
    exact ⟨y,rfl,hs.1⟩
  | succ i =>
   have:=zbD hs.2 i bk h
   rwa [show j+1+i=j+(i+1) from by omega] at this
theorem zf4 {m:List Nat} {i b:Nat} : ∀ {x:List (Option Blk)} {j:Nat},ziW m i b j x=true→∀ k bk,nth x k=some bk→j+k≠i→rnm m (j+k)≠b
 | [],j,_,k,bk,h,_=>by cases k<;>cases h
 | none::l,j,hs,k,bk,h,hne=>by
  simp only [ziW] at hs
  cases k with
  | zero=>cases h
  | succ k =>
   have:=zf4 hs k bk h (by omega)
   rwa [show j+1+k=j+(k+1) from by omega] at this
 | some x::l,j,hs,k,bk,h,hne=>by
  simp only [ziW,Bool.and_eq_true,Bool.or_eq_true,Bool.not_eq_true'] at hs
  cases k with
  | zero =>
   rcases hs.1 with h1 | h1
   ·exact absurd (Nat.eq_of_beq_eq_true h1) hne
   ·intro e
    rw [Nat.add_zero] at e
    rw [e,Nat.beq_refl] at h1
    cases h1
  | succ k =>
   have:=zf4 hs.2 k bk h (by omega)
   rwa [show j+1+k=j+(k+1) from by omega] at this
theorem zf5 {m:List Nat} {all:List (Option Blk)} : ∀ {x:List (Option Blk)} {j:Nat},zhX m all j x=true→∀ i bk,nth x i=some bk→bk.own=true→ziW m (j+i) (rnm m (j+i)) 0 all=true
 | [],j,_,i,bk,h,_=>by cases i<;>cases h
 | none::l,j,hs,i,bk,h,ho=>by
  simp only [zhX] at hs
  cases i with
  | zero=>cases h
  | succ i =>
   have:=zf5 hs i bk h ho
   rwa [show j+1+i=j+(i+1) from by omega] at this
 | some x::l,j,hs,i,bk,h,ho=>by
  simp only [zhX,Bool.and_eq_true,Bool.or_eq_true,Bool.not_eq_true'] at hs
  cases i with
  | zero =>
   cases h
   rcases hs.1 with h1 | h1
   ·rw [ho] at h1;cases h1
   ·exact h1
  | succ i =>
   have:=zf5 hs.2 i bk h ho
   rwa [show j+1+i=j+(i+1) from by omega] at this
theorem zdN {m:List Nat} : ∀ {n:Nat},zhr m n=true→∀ j,j<n→rnm m j=j
 | 0,_,j,h=>by omega
 | n+1,hk,j,h=>by
  simp only [zhr,Bool.and_eq_true] at hk
  rcases Nat.lt_or_ge j n with h1 | h1
  ·exact zdN hk.1 j h1
  ·have:j=n:=by omega
   subst this
   exact Nat.eq_of_beq_eq_true hk.2
theorem Blk.sub_foot {m:List Nat} {x y:Blk} (h:x.sub m y=true) (ho:x.own=true) {w:World} {r:Loc} {b:Nat} (hb:x.foot w r b):y.foot w r b:=by
 cases x<;>cases y<;>simp only [Blk.sub] at h<;>first | exact hb | (cases h;done) | skip
 ·simp only [Bool.and_eq_true] at h
  rename_i o _ _ _ _ _ _
  have ho:o=true:=ho
  subst ho
  cases h.1.1
 ·simp only [Bool.and_eq_true] at h;have:=Nat.eq_of_beq_eq_true h.1.2;subst this;exact hb
 ·exact hb.1
theorem Blk.sub_rfoot {m:List Nat} {x y:Blk} (h:x.sub m y=true) (w:World) (r:Loc):x.rfoot w r=y.rfoot w r:=by
 cases x<;>cases y<;>simp only [Blk.sub] at h<;>first | rfl | (cases h;done) | (simp only [Bool.and_eq_true] at h;have:=Nat.eq_of_beq_eq_true h.1.2;subst this;rfl)
theorem HRel.sub {ρ:Nat→Loc} {m:List Nat} {x y:List (Option Blk)} {w:World} (h:HRel E ν ρ y w) (h1:zcS m y 0 x=true) (h2:zhX m x 0 x=true):HRel E ν (fun j=>ρ (rnm m j)) x w:=by
 refine ⟨fun j bk hj=>?_,fun j j' bk bk' hj ho hj' hne=>?_⟩
 ·obtain ⟨bk',e1,e2⟩:=zbD h1 j bk hj
  rw [Nat.zero_add] at e1
  exact (Blk.sub_spec e2).2 ρ w _ (h.blk _ _ e1)
 ·obtain ⟨b1,e1,e2⟩:=zbD h1 j bk hj
  obtain ⟨b2,e3,e4⟩:=zbD h1 j' bk' hj'
  rw [Nat.zero_add] at e1 e3
  have h3:=zf5 h2 j bk hj ho
  have h4:=zf4 h3 j' bk' hj' (by omega)
  rw [Nat.zero_add,Nat.zero_add] at h4
  have:=h.apart _ _ _ _ e1 ((Blk.sub_spec (E:=E) (ν:=ν) e2).1 ho) e3 (Ne.symm h4)
  rw [←Blk.sub_rfoot e4] at this
  exact fun g1 g2 b hb=>this g1 g2 b (Blk.sub_foot e2 ho hb)
theorem OldF.sub {W V:Nat→Prop} {w0 w:World} {ρ:Nat→Loc} {m:List Nat} {x y:List (Option Blk)} (h:OldF W V w0 w ρ y) (h1:zcS m y 0 x=true):OldF W V w0 w (fun j=>ρ (rnm m j)) x:=by
 intro j bk hj
 obtain ⟨b1,e1,e2⟩:=zbD h1 j bk hj
 rw [Nat.zero_add] at e1
 rcases h _ _ e1 with h | h
 ·exact .inl h
 ·refine .inr ⟨fun ho b hb=>?_,fun b hb=>?_⟩
  ·exact h.wr ((Blk.sub_spec (E:=⟨W,V,w0,0,ρ⟩) (ν:=fun _=>default) e2).1 ho) b (Blk.sub_foot e2 ho hb)
  ·rw [Blk.sub_rfoot e2] at hb
   exact h.rd b hb
theorem RR.sub {ρ:Nat→Loc} {m:List Nat} {x y:St} {a:Act} {w:World} (h:RR ν E ρ ⟨y,[]⟩ a w) (hs:x.sub m y=true) (hk:zhr m E.n0=true) (hl:E.n0≤x.hp.length) :
  RR ν E (fun j=>ρ (rnm m j)) ⟨x,[]⟩ a w:=by
 simp only [St.sub,Bool.and_eq_true] at hs
 obtain ⟨⟨h1,h2⟩,h3⟩:=hs
 obtain ⟨s1,s2⟩:=zcK h1
 refine ⟨⟨h.act.defers,by rw [h.act.size];exact s1.symm,fun t v ht=>?_,fun e he=>by cases he⟩,h.hs.heap.sub h2 h3,h.hs.old.sub h2,h.hs.fr,hl,fun j hj=>?_⟩
 ·obtain ⟨u,e1,e2⟩:=s2 t v ht
  obtain ⟨g1,g2⟩:=h.act.slot t u e1
  obtain ⟨c1,c2⟩:=V.sub_spec (ν:=ν) e2 g1
  exact ⟨c2,by rw [c1 ρ];exact g2⟩
 ·rw [zdN hk j hj];exact h.hs.keep j hj
end
end Go.Sx
namespace Go.Sx
open Go.RowKit
section
variable {P:Program} {I:World→Prop} {S:Sigs} {F:FEnv} {E:Env} {ν ν1 ν2:Nat→DV}
theorem zaI {α β:Type} (f:α→β):∀ (l:List (Option α)) (j:Nat),nth (l.map (Option.map f)) j=(nth l j).map f
 | [],j=>by cases j<;>rfl
 | x::l,0=>by simp [nth]
 | x::l,j+1=>by simp only [List.map_cons,nth];exact zaI f l j
theorem zan {α:Type} {q:α→Bool} : ∀ {l:List (Option α)} {i:Nat} {x:α},l.all (zao q)=true→nth l i=some x→q x=true
 | [],i,x,_,h=>by cases i<;>cases h
 | c::l,0,x,h,hx=>by
  simp only [List.all_cons,Bool.and_eq_true] at h
  cases hx
  exact h.1
 | c::l,i+1,x,h,hx=>by
  simp only [List.all_cons,Bool.and_eq_true] at h
  exact zan h.2 hx
theorem Ty.beq_eq {t u:Ty} (h:t.beq u=true):t=u:=by cases t<;>cases u<;>simp [Ty.beq] at h<;>rfl
theorem Ty.eqAt_refl (t:Ty) (d:DV):t.eqAt d d:=by cases t<;>rfl
theorem Ty.eqAt_of {t:Ty} {d e:DV} (h:d=e):t.eqAt d e:=h▸t.eqAt_refl d
theorem Ty.eqAt_trans {t:Ty} {d e f:DV} (h:t.eqAt d e) (k:t.eqAt e f):t.eqAt d f:=by cases t<;>exact Eq.trans h k
theorem Ty.eqAt_symm {t:Ty} {d e:DV} (h:t.eqAt d e):t.eqAt e d:=by cases t<;>exact Eq.symm h
def PEq (ν1 ν2:Nat→DV):List Ty→List A→List A→Prop
 | t::ts,a::as,b::bs=>t.eqAt (a.den ν1) (b.den ν2)∧PEq ν1 ν2 ts as bs
 | [],[],[]=>True
 | _,_,_=>False
theorem PEq.at:∀ {ts:List Ty} {as bs:List A} {j:Nat} {t:Ty},PEq ν1 ν2 ts as bs→ts[j]? = some t→t.eqAt ((as.getD j default).den ν1) ((bs.getD j default).den ν2)
 | _::_,_::_,_::_,0,t,h,e=>by simp at e;subst e;exact h.1
 | _::ts,_::as,_::bs,j+1,t,h,e=>by
  have:=PEq.at (j:=j) h.2 (by simpa using e)
  simpa using this
 | [],_,_,j,t,_,e=>by simp at e
 | _::_,[],_,_,_,h,_=>by exact h.elim
 | _::_,_::_,[],_,_,h,_=>by exact h.elim
theorem PEq.of_den:∀ {ts:List Ty} {as bs:List A},as.length=ts.length→as.map (A.den ν1)=bs.map (A.den ν2)→PEq ν1 ν2 ts as bs
 | [],[],[],_,_=>trivial
 | t::ts,a::as,b::bs,hl,h=>by
  simp only [List.map_cons,List.cons.injEq] at h
  exact ⟨Ty.eqAt_of h.1,PEq.of_den (by simpa using hl) h.2⟩
 | [],[],_::_,_,h=>by simp at h
 | _::_,_::_,[],_,h=>by simp at h
 | [],_::_,_,h,_=>by simp at h
 | _::_,[],_,h,_=>by simp at h
section
variable {p:A→Bool} {tys:List Ty} {as bs:List A} (hp:∀ a,p a=true→a.den ν1=a.den ν2) (h:PEq ν1 ν2 tys as bs)
include hp h
theorem A.inst_to {t:Ty} {a:A} (ha:a.tyOk p tys t=true):t.eqAt ((a.inst as).den ν1) ((a.inst bs).den ν2):=by
 cases a with
 | h j =>
  simp only [A.tyOk,Bool.and_eq_true,decide_eq_true_eq] at ha
  obtain ⟨h1,h2⟩:=ha
  rw [List.getElem?_eq_getElem h2] at h1
  have:=Ty.beq_eq (show t.beq tys[j]=true from h1)
  exact h.at (by rw [this];exact List.getElem?_eq_getElem h2)
 | r i=>exact Ty.eqAt_of (hp _ ha)
 | z n=>exact Ty.eqAt_of (hp _ ha)
 | t b=>exact Ty.eqAt_of (hp _ ha)
theorem A.inst_int {a:A} (ha:a.tyOk p tys .i=true):(a.inst bs).int ν2=(a.inst as).int ν1:=(A.inst_to hp h ha).symm
theorem A.inst_bool {a:A} (ha:a.tyOk p tys .b=true):(a.inst bs).bool ν2=(a.inst as).bool ν1:=(A.inst_to hp h ha).symm
theorem A.inst_cells {a:A} (ha:a.tyOk p tys .l=true):(a.inst bs).cells ν2=(a.inst as).cells ν1:=(A.inst_to hp h ha).symm
theorem Off.inst_to {o:Off} (ho:o.tyOk p tys=true):(o.inst bs).val ν2=(o.inst as).val ν1∧((o.inst as).good ν1→(o.inst bs).good ν2):=by
 cases o with
 | c n=>exact ⟨rfl,id⟩
 | s b ix sz len =>
  have e:=A.inst_int hp h (show ix.tyOk p tys .i=true from ho)
  exact ⟨by simp only [Off.inst,Off.val,e],by simp only [Off.inst,Off.good,e];exact id⟩
 | v b ix sz a =>
  simp only [Off.tyOk,Bool.and_eq_true] at ho
  have e:=A.inst_int hp h ho.1
  have e2:=A.inst_cells hp h ho.2
  exact ⟨by simp only [Off.inst,Off.val,e],by simp only [Off.inst,Off.good,e,e2];exact id⟩
 | d b ix sz len ix2 sz2 len2 =>
  simp only [Off.tyOk,Bool.and_eq_true] at ho
  have e:=A.inst_int hp h ho.1
  have e2:=A.inst_int hp h ho.2
  exact ⟨by simp only [Off.inst,Off.val,e,e2],by simp only [Off.inst,Off.good,e,e2];exact id⟩
 | w b ix sz a ix2 sz2 len2 =>
  simp only [Off.tyOk,Bool.and_eq_true] at ho
  have e:=A.inst_int hp h ho.1.1
  have e1:=A.inst_cells hp h ho.1.2
  have e2:=A.inst_int hp h ho.2
  exact ⟨by simp only [Off.inst,Off.val,e,e2],by simp only [Off.inst,Off.good,e,e1,e2];exact id⟩
theorem Lf.inst_to {l:Lf} (hl:l.tyOk p tys=true):(∀ ρ,(l.inst bs).conc ν2 ρ=(l.inst as).conc ν1 ρ)∧((l.inst as).good ν1→(l.inst bs).good ν2):=by
 cases l with
 | i k a=>exact ⟨fun ρ=>by simp only [Lf.inst,Lf.conc,A.inst_int hp h (show a.tyOk p tys .i=true from hl)],fun _=>trivial⟩
 | b a=>exact ⟨fun ρ=>by simp only [Lf.inst,Lf.conc,A.inst_bool hp h (show a.tyOk p tys .b=true from hl)],fun _=>trivial⟩
 | p blk off =>
  obtain ⟨e1,e2⟩:=Off.inst_to hp h (show off.tyOk p tys=true from hl)
  exact ⟨fun ρ=>by simp only [Lf.inst,Lf.conc,e1],e2⟩
 | gp g off =>
  obtain ⟨e1,e2⟩:=Off.inst_to hp h (show off.tyOk p tys=true from hl)
  exact ⟨fun ρ=>by simp only [Lf.inst,Lf.conc,e1],e2⟩
 | nilp=>exact ⟨fun _=>rfl,id⟩
 | vec b=>exact ⟨fun _=>rfl,id⟩
 | e t a j =>
  have hc:=A.inst_cells hp h (show a.tyOk p tys .l=true from hl)
  refine ⟨fun ρ=>?_,fun _=>trivial⟩
  cases t<;>simp only [Lf.inst,Lf.conc,hc]
 | fnp f bs=>exact ⟨fun _=>rfl,id⟩
 | ifp t b=>exact ⟨fun _=>rfl,id⟩
 | str a =>
  have hc:=A.inst_cells hp h (show a.tyOk p tys .l=true from hl)
  exact ⟨fun ρ=>by simp only [Lf.inst,Lf.conc,hc],fun _=>trivial⟩
 | mp b=>exact ⟨fun _=>rfl,id⟩
 | alt a l =>
  have e:=A.inst_int hp h (show a.tyOk p tys .i=true from hl)
  exact ⟨fun ρ=>by simp only [Lf.inst,Lf.conc,e],fun hg=>by simp only [Lf.inst,Lf.good,e] at hg ⊢;exact hg⟩
 | v x=>exact ⟨fun _=>rfl,id⟩
theorem Lfs.inst_to:∀ {l:List Lf},l.all (Lf.tyOk p tys)=true→(∀ ρ,(l.map (Lf.inst bs)).map (Lf.conc ν2 ρ)=(l.map (Lf.inst as)).map (Lf.conc ν1 ρ))∧((∀ x∈l.map (Lf.inst as),Lf.good ν1 x)→∀ x∈l.map (Lf.inst bs),Lf.good ν2 x)
 | [],_=>⟨fun _=>rfl,fun _ x hx=>by cases hx⟩
 | x::l,hl=>by
  simp only [List.all_cons,Bool.and_eq_true] at hl
  obtain ⟨h1,h2⟩:=Lf.inst_to hp h hl.1
  obtain ⟨h3,h4⟩:=Lfs.inst_to hl.2
  refine ⟨fun ρ=>by simp only [List.map_cons,h1 ρ,h3 ρ],fun hg z hz=>?_⟩
  simp only [List.map_cons] at hg hz
  rcases List.mem_cons.1 hz with rfl | hz
  ·exact h2 (hg _ (by simp))
  ·exact h4 (fun u hu=>hg u (List.mem_cons_of_mem _ hu)) z hz
theorem V1.inst_to {v:V1} (hv:v.tyOk p tys=true):(∀ ρ,(v.inst bs).conc ν2 ρ=(v.inst as).conc ν1 ρ)∧((v.inst as).good ν1→(v.inst bs).good ν2):=by
 cases v with
 | one l =>
  obtain ⟨h1,h2⟩:=Lf.inst_to hp h (l:=l) (by simpa [V1.tyOk,V1.cells] using hv)
  exact ⟨fun ρ=>h1 ρ,fun g=>V1.good_one.2 (h2 (V1.good_one.1 g))⟩
 | agg l =>
  obtain ⟨h1,h2⟩:=Lfs.inst_to hp h (l:=l) hv
  exact ⟨fun ρ=>by simp only [V1.inst,V1.conc,h1 ρ],fun g=>V1.good_agg.2 (h2 (V1.good_agg.1 g))⟩
theorem V1s.inst_to:∀ {l:List V1},l.all (V1.tyOk p tys)=true→(∀ ρ,(l.map (V1.inst bs)).map (V1.conc ν2 ρ)=(l.map (V1.inst as)).map (V1.conc ν1 ρ))∧((∀ x∈l.map (V1.inst as),V1.good ν1 x)→∀ x∈l.map (V1.inst bs),V1.good ν2 x)
 | [],_=>⟨fun _=>rfl,fun _ x hx=>by cases hx⟩
 | x::l,hl=>by
  simp only [List.all_cons,Bool.and_eq_true] at hl
  obtain ⟨h1,h2⟩:=V1.inst_to hp h hl.1
  obtain ⟨h3,h4⟩:=V1s.inst_to hl.2
  refine ⟨fun ρ=>by simp only [List.map_cons,h1 ρ,h3 ρ],fun hg z hz=>?_⟩
  simp only [List.map_cons] at hg hz
  rcases List.mem_cons.1 hz with rfl | hz
  ·exact h2 (hg _ (by simp))
  ·exact h4 (fun u hu=>hg u (List.mem_cons_of_mem _ hu)) z hz
theorem V.inst_to {v:V} (hv:v.tyOk p tys=true):(∀ ρ,(v.inst bs).conc ν2 ρ=(v.inst as).conc ν1 ρ)∧((v.inst as).good ν1→(v.inst bs).good ν2):=by
 cases v with
 | s v=>exact V1.inst_to hp h (v:=v) hv
 | t l =>
  obtain ⟨h1,h2⟩:=V1s.inst_to hp h (l:=l) hv
  exact ⟨fun ρ=>by simp only [V.inst,V.conc,h1 ρ],fun g=>h2 g⟩
theorem Blk.inst_to {bk:Blk} (hb:bk.tyOk p tys=true) {ρ:Nat→Loc} {w:World} {r:Loc} (hr:BlkRel E ν1 ρ w r (bk.inst as)):BlkRel E ν2 ρ w r (bk.inst bs):=by
 cases bk with
 | c o cs =>
  have hr:CBlk ν1 ρ w r o (cs.map (Option.map (Lf.inst as))):=hr
  refine (⟨hr.nil,hr.lt,fun i l hl=>?_,fun ho i hi=>hr.own ho i (by simpa using hi),hr.fz⟩:CBlk ν2 ρ w r o (cs.map (Option.map (Lf.inst bs))))
  rw [zaI] at hl
  obtain ⟨x,hx,rfl⟩:=Option.map_eq_some_iff.1 hl
  have hall:cs.all (zao (Lf.tyOk p tys))=true:=hb
  have hx2:x.tyOk p tys=true:=zan hall hx
  obtain ⟨h1,h2⟩:=Lf.inst_to hp h hx2
  obtain ⟨g1,g2⟩:=hr.cell i (x.inst as) (by rw [zaI,hx];rfl)
  exact ⟨h2 g1,by rw [h1 ρ];exact g2⟩
 | v o ts a =>
  have hr:VRel E w r o ts ((a.inst as).cells ν1):=hr
  show VRel E w r o ts ((a.inst bs).cells ν2)
  rw [A.inst_cells hp h (show a.tyOk p tys .l=true from hb)]
  exact hr
 | obj o k a =>
  have hr:zbn o k w r ((a.inst as).cells ν1):=hr
  show zbn o k w r ((a.inst bs).cells ν2)
  rw [A.inst_cells hp h (show a.tyOk p tys .l=true from hb)]
  exact hr
 | l o f ts a =>
  have hr:LRel E w r o f ts ((a.inst as).cells ν1):=hr
  show LRel E w r o f ts ((a.inst bs).cells ν2)
  rw [A.inst_cells hp h (show a.tyOk p tys .l=true from hb)]
  exact hr
 | m o kt vt cs =>
  have hr:MRel ν1 ρ w r kt vt (cs.map (Lf.inst as)):=hr
  show MRel ν2 ρ w r kt vt (cs.map (Lf.inst bs))
  obtain ⟨h1,h2⟩:=Lfs.inst_to hp h (show cs.all (Lf.tyOk p tys)=true from hb)
  obtain ⟨es,clock,e1,e2⟩:=hr.ents
  exact ⟨hr.nil,⟨es,clock,e1,by rw [zcP (h1 ρ)];exact e2⟩,h2 hr.good⟩
end
theorem Blk.inst_own (ops:List A) (bk:Blk):(bk.inst ops).own=bk.own:=by cases bk<;>rfl
theorem Blk.inst_foot (ops:List A) (bk:Blk) (w:World) (r:Loc):(bk.inst ops).foot w r=bk.foot w r:=by cases bk<;>rfl
theorem Blk.inst_shr (ops:List A) (bk:Blk):(bk.inst ops).shr=bk.shr:=by cases bk<;>rfl
theorem Blk.inst_rfoot (ops:List A) (bk:Blk) (w:World) (r:Loc):(bk.inst ops).rfoot w r=bk.rfoot w r:=by cases bk<;>rfl
section
variable {p:A→Bool} {tys:List Ty} {as bs:List A} (hp:∀ a,p a=true→a.den ν1=a.den ν2) (h:PEq ν1 ν2 tys as bs)
include hp h
theorem HRel.inst {ρ:Nat→Loc} {hp0:List (Option Blk)} {w:World} (ht:hp0.all (zao (Blk.tyOk p tys))=true) (hr:HRel E ν1 ρ (hp0.map (Option.map (Blk.inst as))) w) :
  HRel E ν2 ρ (hp0.map (Option.map (Blk.inst bs))) w:=by
 refine ⟨fun j bk hj=>?_,fun j j' bk bk' hj ho hj'=>?_⟩
 ·rw [zaI] at hj
  obtain ⟨x,hx,rfl⟩:=Option.map_eq_some_iff.1 hj
  exact Blk.inst_to hp h (zan ht hx) (hr.blk j (x.inst as) (by rw [zaI,hx];rfl))
 ·rw [zaI] at hj hj'
  obtain ⟨x,hx,rfl⟩:=Option.map_eq_some_iff.1 hj
  obtain ⟨y,hy,rfl⟩:=Option.map_eq_some_iff.1 hj'
  have:=hr.apart j j' (x.inst as) (y.inst as) (by rw [zaI,hx];rfl) (by rw [Blk.inst_own] at ho ⊢;exact ho) (by rw [zaI,hy];rfl)
  rw [Blk.inst_foot,Blk.inst_rfoot] at this ⊢
  exact this
omit hp h in
theorem OldF.inst {W V:Nat→Prop} {w0 w:World} {ρ:Nat→Loc} {hp0:List (Option Blk)} (ho:OldF W V w0 w ρ (hp0.map (Option.map (Blk.inst as)))):OldF W V w0 w ρ (hp0.map (Option.map (Blk.inst bs))):=by
 intro j bk hj
 rw [zaI] at hj
 obtain ⟨x,hx,rfl⟩:=Option.map_eq_some_iff.1 hj
 have:=ho j (x.inst as) (by rw [zaI,hx];rfl)
 rw [Blk.inst_own,Blk.inst_foot,Blk.inst_rfoot] at this ⊢
 exact this
theorem RR.inst {ρ:Nat→Loc} {s:St} {a:Act} {w:World} (ht:s.tyOk p tys=true) (hr:RR ν1 E ρ ⟨s.inst as,[]⟩ a w):RR ν2 E ρ ⟨s.inst bs,[]⟩ a w:=by
 simp only [St.tyOk,Bool.and_eq_true] at ht
 refine ⟨⟨hr.act.defers,by rw [hr.act.size];simp [St.inst],fun t v ht1=>?_,fun e he=>by cases he⟩,hr.hs.heap.inst hp h ht.2,OldF.inst hr.hs.old,hr.hs.fr,by simpa [St.inst] using hr.hs.len,hr.hs.keep⟩
 simp only [St.inst] at ht1
 rw [zaI] at ht1
 obtain ⟨x,hx,rfl⟩:=Option.map_eq_some_iff.1 ht1
 obtain ⟨h1,h2⟩:=V.inst_to hp h (zan ht.1 hx)
 obtain ⟨g1,g2⟩:=hr.act.slot t (x.inst as) (by simp only [St.inst];rw [zaI,hx];rfl)
 exact ⟨h2 g1,by rw [h1 ρ];exact g2⟩
end
end
end Go.Sx
namespace Go.Sx
open Go.RowKit
section
variable {P:Program} {I:World→Prop} {S:Sigs} {F:FEnv} {E:Env} {ν:Nat→DV}
theorem zeY {ν:Nat→DV} {fid:Nat} {args:List A} : ∀ (n j:Nat),M.sat F ν (zgv fid args j n) (fun l=>l.length=n∧∀ i a,l[i]? = some a→a.den ν=(F fid (args.map (A.den ν))).getD (j+i) default)
 | 0,j=>zab ⟨rfl,fun i a h=>by simp at h⟩
 | n+1,j=>by
  unfold zgv
  refine zaa (zaf (Q:=fun r=>r.den ν=(F fid (args.map (A.den ν))).getD j default) fun r h=>h) fun a ha=>?_
  refine zaa (zeY n (j+1)) fun l hl=>zab ⟨by simp [hl.1],fun i b hb=>?_⟩
  cases i with
  | zero=>simp at hb;subst hb;exact ha
  | succ i =>
   have:=hl.2 i b (by simpa using hb)
   rw [this,show j+1+i=j+(i+1) from by omega]
theorem zcX {ν:Nat→DV} (g:Nat→DV):∀ (k n j:Nat),(∀ i,i<k→ν (n+i)=g (j+i))→(zap n k).map (A.den ν)=(List.range' j k).map g
 | 0,_,_,_=>rfl
 | k+1,n,j,h=>by
  rw [List.range'_succ]
  simp only [zap,List.map_cons]
  rw [zcX g k (n+1) (j+1) (fun i hi=>by have:=h (i+1) (by omega);rwa [show n+(i+1)=n+1+i from by omega,show j+(i+1)=j+1+i from by omega] at this)]
  have:=h 0 (by omega)
  simp only [Nat.add_zero] at this
  rw [show A.den ν (.r n)=ν n from rfl,this]
theorem zlt (xs:List DV) (k:Nat) (h:xs.length=k):(List.range' 0 k).map (fun i=>xs.getD i default)=xs:=by
 apply List.ext_getElem?
 intro i
 by_cases hi:i<k
 ·rw [List.getElem?_map,List.getElem?_range' (by omega)]
  simp [List.getElem?_eq_getElem (show i<xs.length from by omega)]
 ·rw [List.getElem?_eq_none (by simpa using hi),List.getElem?_eq_none (by omega)]
theorem zvW (xs:List DV):(zap 0 xs.length).map (A.den (dget xs))=xs:=by
 rw [zcX (dget xs) xs.length 0 0 (fun _ _=>rfl)]
 exact zlt xs _ rfl
theorem zjz:∀ (n k:Nat),(zap n k).length=k
 | _,0=>rfl
 | n,k+1=>by simp [zap,zjz (n+1) k]
theorem zbE {ν1 ν2:Nat→DV} (a:A) (h:a.const=true):a.den ν1=a.den ν2:=by cases a<;>simp [A.const] at h<;>rfl
theorem zeZ (n:Nat) (p s:St):(zd1 n p s).1.length=n:=by simp [zd1,zsk]
theorem Alt.ren_spec {m:List Nat} {n:Nat} {ρ ρ':Nat→Loc} (h:∀ k,k<n→ρ' (rnm m k)=ρ k) {x:Alt} (hl:x.lt n=true):(x.ren m).conc ρ'=x.conc ρ:=by
 cases x<;>simp only [Alt.lt,decide_eq_true_eq] at hl<;>simp only [Alt.ren,Alt.conc]<;>rw [h _ hl]
theorem znC {n:Nat} {l:List (Nat×Alt)} (h:zqo n l=true) {k:Nat} {x:Alt} (hx:zaP l k=some x):x.lt n=true:=List.all_eq_true.1 h _ (zgO hx)
theorem zo9 {m:List Nat} {n:Nat} {ρ ρ':Nat→Loc} (h:∀ k,k<n→ρ' (rnm m k)=ρ k) {l:List (Nat×Alt)} (hl:zqo n l=true) (k:Nat):zbk ρ' (zhq m l) k=zbk ρ l k:=by
 unfold zbk
 rw [zfs]
 cases hx:zaP l k with
 | none=>rfl
 | some x=>exact Alt.ren_spec h (znC hl hx)
theorem zid {n:Nat} {ρ ρ':Nat→Loc} (h:∀ k,k<n→ρ' k=ρ k) {l:List (Nat×Alt)} (hl:zqo n l=true) (k:Nat):zbk ρ' l k=zbk ρ l k:=by
 unfold zbk
 cases hx:zaP l k with
 | none=>rfl
 | some x =>
  have hl:=znC hl hx
  cases x<;>simp only [Alt.lt,decide_eq_true_eq] at hl<;>simp only [Alt.conc]<;>rw [h _ hl]
theorem Lf.ren_spec {m:List Nat} {n:Nat} {ρ ρ':Nat→Loc} (h:∀ k,k<n→ρ' (rnm m k)=ρ k) {l:Lf} (hl:l.lt n=true):(l.ren m).conc ν ρ'=l.conc ν ρ∧(l.good ν→(l.ren m).good ν):=by
 cases l<;>simp only [Lf.lt,decide_eq_true_eq] at hl<;>simp only [Lf.ren]<;>first | exact ⟨rfl,id⟩ | (rename_i t _ _;cases t<;>exact ⟨rfl,id⟩) | skip
 ·exact ⟨by simp only [Lf.conc,h _ hl],id⟩
 ·exact ⟨by simp only [Lf.conc,h _ hl],id⟩
 ·rename_i f bs
  refine ⟨?_,fun _=>trivial⟩
  simp only [Lf.conc]
  rw [←zh5,zf2 hl h]
 ·exact ⟨by simp only [Lf.conc,h _ hl],id⟩
 ·exact ⟨by simp only [Lf.conc,h _ hl],id⟩
 ·refine ⟨by simp only [Lf.conc];exact zo9 h hl _,fun hg=>?_⟩
  simp only [Lf.good,zfs] at hg ⊢
  exact ⟨hg.1,by rw [Option.isSome_map];exact hg.2⟩
theorem Lf.keep_spec {n:Nat} {ρ ρ':Nat→Loc} (h:∀ k,k<n→ρ' k=ρ k) {l:Lf} (hl:l.lt n=true):l.conc ν ρ'=l.conc ν ρ:=by
 cases l<;>simp only [Lf.lt,decide_eq_true_eq] at hl<;>simp only [Lf.conc]<;>first | rw [h _ hl] | rw [zf2 hl h] | exact zid h hl _ | (rename_i t _ _;cases t<;>rfl)
theorem VRel.flat {E E':Env} {w:World} {r:Loc} {o:Bool} {ts:List LT} {xs:List DV} (hf:ts.all LT.flat=true) (h:VRel E w r o ts xs):VRel E' w r o ts xs :=
 ⟨h.nil,h.lt,h.pos,h.len,h.cap,fun i hi=>let ⟨v,h1,h2⟩:=h.cell i hi;⟨v,h1,h2.flat (zjq hf _)⟩,h.own,h.fz⟩
theorem V1.ren_spec {m:List Nat} {n:Nat} {ρ ρ':Nat→Loc} (h:∀ k,k<n→ρ' (rnm m k)=ρ k) {v:V1} (hl:v.lt n=true):(v.ren m).conc ν ρ'=v.conc ν ρ∧(v.good ν→(v.ren m).good ν):=by
 cases v with
 | one l =>
  obtain ⟨h1,h2⟩:=Lf.ren_spec (ν:=ν) h (l:=l) (by simpa [V1.lt,V1.cells] using hl)
  exact ⟨h1,fun g=>V1.good_one.2 (h2 (V1.good_one.1 g))⟩
 | agg l =>
  have hall:l.all (Lf.lt n)=true:=hl
  refine ⟨?_,fun g=>V1.good_agg.2 fun x hx=>?_⟩
  ·simp only [V1.ren,V1.conc,List.map_map]
   congr 2
   exact List.map_congr_left fun x hx=>(Lf.ren_spec h (List.all_eq_true.1 hall x hx)).1
  ·obtain ⟨y,hy,rfl⟩:=List.mem_map.1 hx
   exact (Lf.ren_spec h (List.all_eq_true.1 hall y hy)).2 (V1.good_agg.1 g y hy)
theorem V.ren_spec {m:List Nat} {n:Nat} {ρ ρ':Nat→Loc} (h:∀ k,k<n→ρ' (rnm m k)=ρ k) {v:V} (hl:v.lt n=true):(v.ren m).conc ν ρ'=v.conc ν ρ∧(v.good ν→(v.ren m).good ν):=by
 cases v with
 | s v=>exact V1.ren_spec h (v:=v) hl
 | t l =>
  have hall:l.all (V1.lt n)=true:=hl
  refine ⟨?_,fun g x hx=>?_⟩
  ·simp only [V.ren,V.conc,List.map_map]
   congr 2
   exact List.map_congr_left fun x hx=>(V1.ren_spec h (List.all_eq_true.1 hall x hx)).1
  ·obtain ⟨y,hy,rfl⟩:=List.mem_map.1 hx
   exact (V1.ren_spec h (List.all_eq_true.1 hall y hy)).2 (g y hy)
theorem Blk.ren_own (m:List Nat) (b:Blk):(b.ren m).own=b.own:=by cases b<;>rfl
theorem BlkRel.flat {E E':Env} {ρ:Nat→Loc} {w:World} {r:Loc} {b:Blk} (hf:b.flat=true) (h:BlkRel E ν ρ w r b):BlkRel E' ν ρ w r b:=by
 cases b with
 | obj o k a=>exact h
 | c o cs=>exact h
 | v o ts a =>
  have h:VRel E w r o ts (a.cells ν):=h
  exact h.flat hf
 | l o f ts a =>
  have h:LRel E w r o f ts (a.cells ν):=h
  exact ⟨h.row.flat hf,fun ho hc=>(h.spare ho hc).flat hf,h.full⟩
 | m o kt vt cs=>exact h
theorem BlkRel.ren {ρ ρ':Nat→Loc} {m:List Nat} {n:Nat} (hρ:∀ k,k<n→ρ' (rnm m k)=ρ k) {w:World} {r:Loc} {b:Blk} (hl:b.lt n=true) (h:BlkRel E ν ρ w r b):BlkRel E ν ρ' w r (b.ren m):=by
 cases b with
 | obj o k a=>exact h
 | v o ts a=>exact h
 | l o f ts a=>exact h
 | m o kt vt cs =>
  have h:MRel ν ρ w r kt vt cs:=h
  have hall:cs.all (Lf.lt n)=true:=hl
  show MRel ν ρ' w r kt vt (cs.map (Lf.ren m))
  obtain ⟨es,clock,e1,e2⟩:=h.ents
  refine ⟨h.nil,⟨es,clock,e1,?_⟩,fun x hx=>?_⟩
  ·rw [zcP (cs:=cs.map (Lf.ren m)) (cs':=cs) (ν:=ν) (ν':=ν) (ρ:=ρ') (ρ':=ρ) (by
    rw [List.map_map]
    exact List.map_congr_left fun x hx=>(Lf.ren_spec hρ (List.all_eq_true.1 hall x hx)).1)]
   exact e2
  ·obtain ⟨y,hy,rfl⟩:=List.mem_map.1 hx
   exact (Lf.ren_spec hρ (List.all_eq_true.1 hall y hy)).2 (h.good y hy)
 | c o cs =>
  have h:CBlk ν ρ w r o cs:=h
  refine (⟨h.nil,h.lt,fun i l hi=>?_,fun ho i hi=>h.own ho i (by simpa using hi),h.fz⟩:CBlk ν ρ' w r o (cs.map (Option.map (Lf.ren m))))
  rw [zaI] at hi
  obtain ⟨x,hx,rfl⟩:=Option.map_eq_some_iff.1 hi
  obtain ⟨g1,g2⟩:=h.cell i x hx
  have hall:cs.all (zao (Lf.lt n))=true:=hl
  obtain ⟨e1,e2⟩:=Lf.ren_spec (ν:=ν) hρ (zan hall hx)
  exact ⟨e2 g1,by rw [e1];exact g2⟩
theorem BlkRel.keep {ρ ρ':Nat→Loc} {n:Nat} (hρ:∀ k,k<n→ρ' k=ρ k) {w:World} {r:Loc} {b:Blk} (hl:b.lt n=true) (h:BlkRel E ν ρ w r b):BlkRel E ν ρ' w r b:=by
 cases b with
 | obj o k a=>exact h
 | v o ts a=>exact h
 | l o f ts a=>exact h
 | m o kt vt cs =>
  have h:MRel ν ρ w r kt vt cs:=h
  have hall:cs.all (Lf.lt n)=true:=hl
  obtain ⟨es,clock,e1,e2⟩:=h.ents
  refine (⟨h.nil,⟨es,clock,e1,?_⟩,h.good⟩:MRel ν ρ' w r kt vt cs)
  rw [zcP (cs:=cs) (cs':=cs) (ν:=ν) (ν':=ν) (ρ:=ρ') (ρ':=ρ) (List.map_congr_left fun x hx=>Lf.keep_spec hρ (List.all_eq_true.1 hall x hx))]
  exact e2
 | c o cs =>
  have h:CBlk ν ρ w r o cs:=h
  refine (⟨h.nil,h.lt,fun i l hi=>?_,h.own,h.fz⟩:CBlk ν ρ' w r o cs)
  obtain ⟨g1,g2⟩:=h.cell i l hi
  refine ⟨g1,?_⟩
  have hall:cs.all (zao (Lf.lt n))=true:=hl
  have hll:=zan hall hi
  rw [g2,Lf.keep_spec hρ hll]
theorem BlkRel.froze {ρ:Nat→Loc} {w:World} {r:Loc} {b:Blk} (h:BlkRel E ν ρ w r b):BlkRel E ν ρ w r b.froze:=by
 cases b with
 | obj o k a=>exact zbn.map h fun _ d' hd=>(objK _).wk hd
 | c o cs =>
  have h:CBlk ν ρ w r o cs:=h
  exact ⟨h.nil,h.lt,h.cell,fun h=>(by cases h),fun h=>by cases h⟩
 | v o ts a =>
  have h:VRel E w r o ts (a.cells ν):=h
  exact ⟨h.nil,h.lt,h.pos,h.len,h.cap,h.cell,fun h=>(by cases h),fun h=>by cases h⟩
 | l o f ts a =>
  have h:LRel E w r o f ts (a.cells ν):=h
  exact ⟨h.row,fun h=>(by cases h),h.full⟩
 | m o kt vt cs=>exact h
theorem Blk.froze_own (b:Blk):b.froze.own=false:=by cases b<;>rfl
theorem Blk.froze_foot (b:Blk) (w:World) (r:Loc):b.froze.foot w r=b.foot w r:=by cases b<;>rfl
theorem Blk.froze_rfoot (b:Blk) (w:World) (r:Loc):b.froze.rfoot w r=b.rfoot w r:=by cases b<;>rfl
theorem Blk.ren_rfoot (m:List Nat) (b:Blk) (w:World) (r:Loc):(b.ren m).rfoot w r=b.rfoot w r:=by cases b<;>rfl
theorem Blk.ren_foot (m:List Nat) (b:Blk) (w:World) (r:Loc):(b.ren m).foot w r=b.foot w r:=by cases b<;>rfl
def Wk (bk b:Blk):Prop:=bk=b∨bk=b.froze
theorem Blk.froze_froze (b:Blk):b.froze.froze=b.froze:=by cases b<;>rfl
theorem Wk.trans_froze {bk b:Blk} (h:Wk bk b.froze):bk=b.froze:=by
 rcases h with h | h
 ·exact h
 ·rw [h,Blk.froze_froze]
theorem Wk.own {bk b:Blk} (h:Wk bk b) (ho:bk.own=true):b.own=true∧bk=b:=by
 rcases h with rfl | rfl
 ·exact ⟨ho,rfl⟩
 ·rw [Blk.froze_own] at ho;cases ho
theorem Wk.foot {bk b:Blk} (h:Wk bk b) (w:World) (r:Loc):bk.foot w r=b.foot w r:=by
 rcases h with rfl | rfl
 ·rfl
 ·exact Blk.froze_foot _ _ _
theorem Wk.rfoot {bk b:Blk} (h:Wk bk b) (w:World) (r:Loc):bk.rfoot w r=b.rfoot w r:=by
 rcases h with rfl | rfl
 ·rfl
 ·exact Blk.froze_rfoot _ _ _
theorem Wk.rel {ρ:Nat→Loc} {w:World} {r:Loc} {bk b:Blk} (h:Wk bk b) (hb:BlkRel E ν ρ w r b):BlkRel E ν ρ w r bk:=by
 rcases h with rfl | rfl
 ·exact hb
 ·exact hb.froze
theorem zie {hin hout:List (Option Blk)} {m m1:List Nat} {dem:Bool} : ∀ (k j:Nat) (hp:List (Option Blk)),
  (zbW hin hout m m1 dem k j hp).length=hp.length∧∀ i bk,nth (zbW hin hout m m1 dem k j hp) i=some bk →
   (∃ j' x y,j≤j'∧j'<j+k∧nth hin j'=some x∧x.own=true∧i=rnm m j'∧stays hin j'=true∧nth hout j'=some y∧Wk bk (y.ren m1)) ∨
   (∃ b0,nth hp i=some b0∧Wk bk b0∧(∀ j' x,j≤j'→j'<j+k→nth hin j'=some x→x.own=true→i≠rnm m j') ∧
    (dem=true→bk.own=true→∀ j' x,j≤j'→j'<j+k→nth hin j'=some x→i≠rnm m j'))
 | 0,j,hp=>⟨rfl,fun i bk h=>.inr ⟨bk,h,.inl rfl,fun j' x h1 h2=>by omega,fun _ _ j' x h1 h2=>by omega⟩⟩
 | k+1,j,hp=>by
  have close:∀ (hp1:List (Option Blk)),hp1.length=hp.length→(∀ i b1,nth hp1 i=some b1 →
    (∃ x y,nth hin j=some x∧x.own=true∧i=rnm m j∧stays hin j=true∧nth hout j=some y∧Wk b1 (y.ren m1)) ∨
    (∃ b0,nth hp i=some b0∧Wk b1 b0∧(∀ x,nth hin j=some x→x.own=true→i≠rnm m j)∧(dem=true→b1.own=true→∀ x,nth hin j=some x→i≠rnm m j))) →
    (zbW hin hout m m1 dem k (j+1) hp1).length=hp.length∧∀ i bk,nth (zbW hin hout m m1 dem k (j+1) hp1) i=some bk →
   (∃ j' x y,j≤j'∧j'<j+(k+1)∧nth hin j'=some x∧x.own=true∧i=rnm m j'∧stays hin j'=true∧nth hout j'=some y∧Wk bk (y.ren m1)) ∨
   (∃ b0,nth hp i=some b0∧Wk bk b0∧(∀ j' x,j≤j'→j'<j+(k+1)→nth hin j'=some x→x.own=true→i≠rnm m j') ∧
    (dem=true→bk.own=true→∀ j' x,j≤j'→j'<j+(k+1)→nth hin j'=some x→i≠rnm m j')):=by
   intro hp1 hl h1
   obtain ⟨e1,e2⟩:=zie k (j+1) hp1
   refine ⟨e1.trans hl,fun i bk hb=>?_⟩
   have wkt:∀ {a b c:Blk},Wk a b→Wk b c→Wk a c:=fun {a b c} h k=>by
    rcases k with rfl | rfl
    ·exact h
    ·exact .inr h.trans_froze
   rcases e2 i bk hb with ⟨j',x,y,a1,a2,a3⟩ | ⟨b1,c1,c2,c3,c4⟩
   ·exact .inl ⟨j',x,y,by omega,by omega,a3⟩
   ·rcases h1 i b1 c1 with ⟨x,y,d1,d2,d3,d4,d5,d6⟩ | ⟨b0,d1,d2,d3,d4⟩
    ·exact .inl ⟨j,x,y,Nat.le_refl _,by omega,d1,d2,d3,d4,d5,wkt c2 d6⟩
    ·refine .inr ⟨b0,d1,wkt c2 d2,fun j' x l1 l2 hx ho=>?_,fun hd ho j' x l1 l2 hx=>?_⟩
     ·rcases Nat.eq_or_lt_of_le l1 with rfl | l1
      ·exact d3 x hx ho
      ·exact c3 j' x l1 (by omega) hx ho
     ·rcases Nat.eq_or_lt_of_le l1 with rfl | l1
      ·exact d4 hd (c2.own ho).1 x hx
      ·exact c4 hd ho j' x l1 (by omega) hx
  unfold zbW
  cases hx:nth hin j with
  | none=>exact close hp rfl fun i b1 hb=>.inr ⟨b1,hb,.inl rfl,(fun x h=>by rw [hx] at h;cases h),(fun _ _ x h=>by rw [hx] at h;cases h)⟩
  | some x =>
   simp only
   split
   ·rename_i ho
    refine close _ (zah _ _ _) fun i b1 hb=>?_
    by_cases hi:rnm m j=i
    ·subst hi
     rw [zau] at hb
     split at hb
     ·split at hb
      ·rename_i hst
       obtain ⟨y,hy,rfl⟩:=Option.map_eq_some_iff.1 hb
       exact .inl ⟨x,y,hx,ho,rfl,hst,hy,.inl rfl⟩
      ·cases hb
     ·cases hb
    ·rw [zay _ _ _ _ hi] at hb
     exact .inr ⟨b1,hb,.inl rfl,fun _ _ _ e=>hi e.symm,fun _ _ _ _ e=>hi e.symm⟩
   ·rename_i ho
    split
    ·refine close _ (zah _ _ _) fun i b1 hb=>?_
     by_cases hi:rnm m j=i
     ·subst hi
      rw [zau] at hb
      split at hb
      ·obtain ⟨y,hy,rfl⟩:=Option.map_eq_some_iff.1 hb
       refine .inr ⟨y,hy,.inr rfl,fun x' h' ho'=>?_,fun _ ho'=>?_⟩
       ·rw [hx] at h';cases h';exact absurd ho' ho
       ·rw [Blk.froze_own] at ho';cases ho'
      ·cases hb
     ·rw [zay _ _ _ _ hi] at hb
      exact .inr ⟨b1,hb,.inl rfl,fun _ _ _ e=>hi e.symm,fun _ _ _ _ e=>hi e.symm⟩
    ·rename_i hd
     refine close _ rfl fun i b1 hb=>.inr ⟨b1,hb,.inl rfl,fun x' h' ho'=>?_,fun hd'=>absurd hd' hd⟩
     rw [hx] at h';cases h';exact absurd ho' ho
theorem zif {hin:List (Option Blk)} {m1:List Nat} : ∀ {l:List (Option Blk)} {j i:Nat} {bk:Blk},nth (zeH hin m1 j l) i=some bk→∃ y,nth l i=some y∧stays hin (j+i)=false∧bk=y.ren m1
 | [],j,i,bk,h=>by cases i<;>cases h
 | x::l,j,0,bk,h=>by
  change (if stays hin j then none else x.map (Blk.ren m1))=some bk at h
  split at h
  ·cases h
  ·rename_i hs
   obtain ⟨y,rfl,rfl⟩:=Option.map_eq_some_iff.1 h
   exact ⟨y,rfl,by simpa using hs,rfl⟩
 | x::l,j,i+1,bk,h=>by
  obtain ⟨y,h1,h2,h3⟩:=zif (l:=l) (j:=j+1) (i:=i) h
  exact ⟨y,h1,by rwa [show j+(i+1)=j+1+i from by omega],h3⟩
theorem zfG {hin:List (Option Blk)} : ∀ {l:List (Option Blk)} {j i:Nat} {y:Blk},nth l i=some y→((y.own=false∧stays hin (j+i)=false)∨y.shr=true)→zaQ hin j l=true
 | [],j,i,y,h,_=>by cases i<;>cases h
 | x::l,j,0,y,h,h1=>by
  cases h
  simp only [zaQ]
  rw [Nat.add_zero] at h1
  rcases h1 with h1 | h1
  ·simp [h1.1,h1.2]
  ·simp [h1]
 | x::l,j,i+1,y,h,h1=>by
  simp only [zaQ,Bool.or_eq_true]
  exact .inr (zfG (l:=l) (j:=j+1) (i:=i) h (by rwa [show j+1+i=j+(i+1) from by omega]))
theorem zrx {hin:List (Option Blk)} {m:List Nat} {n k j:Nat} (h:j<k):rnm (zcU hin m n k) j=if stays hin j then rnm m j else n+j:=by
 unfold rnm zcU
 rw [List.getD_eq_getElem?_getD,List.getElem?_map,List.getElem?_range h]
 rfl
theorem zqG {hin:List (Option Blk)} {j:Nat} (h:stays hin j=true):∃ x,nth hin j=some x:=by
 unfold stays at h
 cases hn:nth hin j with
 | none=>rw [hn] at h;cases h
 | some x=>exact ⟨x,rfl⟩
theorem CRel.enter {E E':Env} (h0:∀ b,b<E.w0.heap.size→¬ E.W b→b<E'.w0.heap.size∧¬ E'.W b∧E'.V b∧E'.w0.heap[b]? = E.w0.heap[b]?) {t:LT} {d:DV} {v:Value} (h:CRel E t d v):CRel E' t d v:=by
 induction h with
 | int k d=>exact .int k d
 | bool d=>exact .bool d
 | vec ts d r vs hnil hlt hpos hlen hcap hv hc ih =>
  refine .vec ts d r vs hnil (fun e=>?_) hpos hlen hcap (fun i hi=>?_) ih
  ·obtain ⟨a,b,_⟩:=hlt e
   obtain ⟨c1,c2,c3,_⟩:=h0 _ a b
   exact ⟨c1,c2,c3⟩
  ·cases hn:r.nil with
   | true =>
    have:=(hnil hn).1
    rw [hlen,this,Nat.zero_mul] at hi
    omega
   | false =>
    obtain ⟨a,b,_⟩:=hlt hn
    obtain ⟨_,_,_,c3⟩:=h0 _ a b
    rw [World.cell?_of_block (w:=E.w0) c3]
    exact hv i hi
theorem VRel.enter {E E':Env} (h0:∀ b,b<E.w0.heap.size→¬ E.W b→b<E'.w0.heap.size∧¬ E'.W b∧E'.V b∧E'.w0.heap[b]? = E.w0.heap[b]?) {w:World} {r:Loc} {o:Bool} {ts:List LT} {xs:List DV} (h:VRel E w r o ts xs):VRel E' w r o ts xs :=
 ⟨h.nil,h.lt,h.pos,h.len,h.cap,fun i hi=>let ⟨v,h1,h2⟩:=h.cell i hi;⟨v,h1,h2.enter h0⟩,h.own,h.fz⟩
theorem BlkRel.enter {E E':Env} (h0:∀ b,b<E.w0.heap.size→¬ E.W b→b<E'.w0.heap.size∧¬ E'.W b∧E'.V b∧E'.w0.heap[b]? = E.w0.heap[b]?) {ρ:Nat→Loc} {w:World} {r:Loc} {b:Blk} (h:BlkRel E ν ρ w r b):BlkRel E' ν ρ w r b:=by
 cases b with
 | obj o k a=>exact h
 | c o cs=>exact h
 | v o ts a =>
  have h:VRel E w r o ts (a.cells ν):=h
  exact h.enter h0
 | l o f ts a =>
  have h:LRel E w r o f ts (a.cells ν):=h
  exact ⟨h.row.enter h0,fun ho hc=>(h.spare ho hc).enter h0,h.full⟩
 | m o kt vt cs=>exact h
end
end Go.Sx
namespace Go.Sx
open Go.RowKit
section
variable {P:Program} {I:World→Prop} {S:Sigs} {F:FEnv} {E:Env} {ν:Nat→DV}
theorem zft {m:List Nat} {hp x:List (Option Blk)} (h:zcS m hp 0 x=true) {j:Nat} {b:Blk} (hj:nth x j=some b):∃ b',nth hp (rnm m j)=some b'∧rnm m j<hp.length∧b.sub m b'=true:=by
 obtain ⟨b',h1,h2⟩:=zbD h j b hj
 rw [Nat.zero_add] at h1
 exact ⟨b',h1,zaY h1,h2⟩
theorem zdO (ops:List A) (hin:List (Option Blk)) (j:Nat):stays (hin.map (Option.map (Blk.inst ops))) j=stays hin j:=by
 unfold stays
 rw [zaI]
 cases nth hin j with
 | none=>rfl
 | some b=>cases b<;>rfl
theorem ziK {q:Blk→Bool} (hq:∀ ops b,q (Blk.inst ops b)=q b) (ops:List A) (l:List (Option Blk)):(l.map (Option.map (Blk.inst ops))).all (zao q)=l.all (zao q):=by
 induction l with
 | nil=>rfl
 | cons x l ih =>
  simp only [List.map_cons,List.all_cons,ih]
  cases x with
  | none=>rfl
  | some b=>simp [zao,hq]
theorem Lf.inst_lt (n:Nat) (ops:List A) (l:Lf):(l.inst ops).lt n=l.lt n:=by cases l<;>rfl
theorem V1.inst_lt (n:Nat) (ops:List A) (v:V1):(v.inst ops).lt n=v.lt n:=by
 cases v with
 | one l=>simp [V1.inst,V1.lt,V1.cells,Lf.inst_lt]
 | agg l =>
  simp only [V1.inst,V1.lt,V1.cells,List.all_map]
  congr 1
  funext x
  exact Lf.inst_lt n ops x
theorem V.inst_lt (n:Nat) (ops:List A) (v:V):(v.inst ops).lt n=v.lt n:=by
 cases v with
 | s v=>exact V1.inst_lt n ops v
 | t l =>
  simp only [V.inst,V.lt,List.all_map]
  congr 1
  funext x
  exact V1.inst_lt n ops x
theorem Blk.inst_lt (n:Nat) (ops:List A) (b:Blk):(b.inst ops).lt n=b.lt n:=by
 cases b with
 | obj=>rfl
 | v o ts a=>rfl
 | l o f ts a=>rfl
 | m o kt vt cs =>
  simp only [Blk.inst,Blk.lt,List.all_map]
  congr 1
  funext x
  exact Lf.inst_lt n ops x
 | c o cs =>
  simp only [Blk.inst,Blk.lt,List.all_map]
  congr 1
  funext x
  cases x with
  | none=>rfl
  | some l=>exact Lf.inst_lt n ops l
theorem Blk.inst_flat (ops:List A) (b:Blk):(b.inst ops).flat=b.flat:=by cases b<;>rfl
theorem zjA:∀ {l l':List (Option Blk)} {j:Nat} {x y:Blk},zeI l l'=true→nth l j=some x→nth l' j=some y→stays l j=true→x.own=true →
  y.own=true∨(y.shr=false∧(∀ w r b,y.rfoot w r b↔b=r.blk)∧∀ w r b,x.foot w r b↔b=r.blk)
 | [],_,j,x,y,_,h,_,_,_=>by cases j<;>cases h
 | _::_,[],j,x,y,_,_,h,_,_=>by cases j<;>cases h
 | a::l,b::l',0,x,y,h,hx,hy,hs,ho=>by
  have hx:a=some x:=hx
  have hy:b=some y:=hy
  subst hx hy
  simp only [zeI,Bool.and_eq_true] at h
  have h:=h.1
  cases x with
  | v o ts a =>
   have ho:o=true:=ho
   subst ho
   cases y with
   | v o' ts' a'=>exact .inl (show o'=true by simpa using h)
   | c=>simp at h
   | l=>simp at h
   | m=>simp at h
   | obj=>simp at h
  | l=>simp [stays,nth] at hs
  | m=>simp [stays,nth] at hs
  | c o cs =>
   cases y with
   | l=>simp at h
   | m=>simp at h
   | c=>exact .inr ⟨rfl,fun _ _ _=>Iff.rfl,fun _ _ _=>Iff.rfl⟩
   | v=>exact .inr ⟨rfl,fun _ _ _=>Iff.rfl,fun _ _ _=>Iff.rfl⟩
   | obj=>simp at h
  | obj o k a =>
   cases y with
   | c=>simp at h
   | v=>simp at h
   | l=>simp at h
   | m=>simp at h
   | obj o' k' a' =>
    have ho:o=true:=ho
    subst ho
    simp only [Bool.not_true,Bool.false_or,Bool.and_eq_true] at h
    exact .inl h.1
 | a::l,b::l',j+1,x,y,h,hx,hy,hs,ho=>by
  have h':zeI l l'=true:=by
   cases a<;>cases b<;>simp only [zeI,Bool.and_eq_true] at h<;>first | exact h | exact h.2
  exact zjA h' hx hy hs ho
theorem HS.back {ρ ρ':Nat→Loc} {hp hin ho:List (Option Blk)} {m:List Nat} {w w':World} (h:HS E ν ρ hp w) (hs1:zcS m hp 0 hin=true)
  (hlt:hp.all (zao (Blk.lt hp.length))=true) (holt:ho.all (zao (Blk.lt ho.length))=true) (hofl:ho.all (zao Blk.flat)=true)
  (hb:HRel (callEnv hin (fun j=>ρ (rnm m j)) w) ν ρ' ho w') (hold:OldF (callEnv hin (fun j=>ρ (rnm m j)) w).W (callEnv hin (fun j=>ρ (rnm m j)) w).V w w' ρ' ho)
  (hnest:zaQ hin 0 ho=true→hin.all (zao Blk.flat)=true) (hobj:zeI hin ho=true) (hfr:Fr (callEnv hin (fun j=>ρ (rnm m j)) w).W w w') (hk:∀ j,stays hin j=true→j<ho.length→ρ' j=ρ (rnm m j)) :
  (∀ k,k<ho.length→(fun i=>if i<hp.length then ρ i else ρ' (i-hp.length)) (rnm (zcU hin m hp.length ho.length) k)=ρ' k) ∧
  HS E ν (fun i=>if i<hp.length then ρ i else ρ' (i-hp.length))
   (zbW hin ho m (zcU hin m hp.length ho.length) (zaQ hin 0 ho) hin.length 0 hp++zeH hin (zcU hin m hp.length ho.length) 0 ho) w':=by
 generalize hm1:zcU hin m hp.length ho.length=m1
 generalize hρn:(fun i=>if i<hp.length then ρ i else ρ' (i-hp.length))=ρn
 have hN:∀ i,i<hp.length→ρn i=ρ i:=fun i hi=>by rw [←hρn];simp [hi]
 have hN2:∀ k,ρn (hp.length+k)=ρ' k:=fun k=>by rw [←hρn];simp;intro hc;omega
 have hmap:∀ k,k<ho.length→ρn (rnm m1 k)=ρ' k:=by
  intro k hk1
  rw [←hm1,zrx hk1]
  split
  ·rename_i hst
   obtain ⟨x,hx⟩:=zqG hst
   obtain ⟨_,_,h3,_⟩:=zft hs1 hx
   rw [hN _ h3,hk k hst hk1]
  ·exact hN2 k
 refine ⟨hmap,?_⟩
 obtain ⟨pl,pb⟩:=zie (hin:=hin) (hout:=ho) (m:=m) (m1:=m1) (dem:=zaQ hin 0 ho) hin.length 0 hp
 generalize hA:zbW hin ho m m1 (zaQ hin 0 ho) hin.length 0 hp=A0 at *
 -- what went in
 have hinAt:∀ j x,nth hin j=some x→∃ b',nth hp (rnm m j)=some b'∧rnm m j<hp.length∧(x.own=true→b'.own=true)∧(x.own=true→∀ w r b,x.foot w r b→b'.foot w r b)∧∀ w r,x.rfoot w r=b'.rfoot w r:=fun j x hx=>by
  obtain ⟨b',h1,h2,h3⟩:=zft hs1 hx
  exact ⟨b',h1,h2,(Blk.sub_spec (E:=E) (ν:=ν) h3).1,fun ho w r b=>Blk.sub_foot h3 ho,fun w r=>Blk.sub_rfoot h3 w r⟩
 -- which block stands at a place
 have hcase:∀ i bk,nth (A0++zeH hin m1 0 ho) i=some bk →
   (∃ j x y,nth hin j=some x∧x.own=true∧i=rnm m j∧i<hp.length∧stays hin j=true∧nth ho j=some y∧Wk bk (y.ren m1)) ∨
   (∃ b0,nth hp i=some b0∧i<hp.length∧Wk bk b0∧(∀ j x,nth hin j=some x→x.own=true→i≠rnm m j)∧(zaQ hin 0 ho=true→bk.own=true→∀ j x,nth hin j=some x→i≠rnm m j)) ∨
   (∃ j y,i=hp.length+j∧nth ho j=some y∧stays hin j=false∧bk=y.ren m1):=by
  intro i bk hi
  rw [zaE,pl] at hi
  split at hi
  ·rename_i hil
   rcases pb i bk hi with ⟨j,x,y,_,_,h1,h2,h3,h4,h5,h6⟩ | ⟨b0,h1,h2,h3,h4⟩
   ·exact .inl ⟨j,x,y,h1,h2,h3,hil,h4,h5,h6⟩
   ·exact .inr (.inl ⟨b0,h1,hil,h2,fun j x hx=>h3 j x (Nat.zero_le _) (by have:=zaY hx;omega) hx,fun hd hbo j x hx=>h4 hd hbo j x (Nat.zero_le _) (by have:=zaY hx;omega) hx⟩)
  ·rename_i hil
   obtain ⟨y,h1,h2,h3⟩:=zif hi
   rw [Nat.zero_add] at h2
   exact .inr (.inr ⟨i-hp.length,y,by omega,h1,h2,h3⟩)
 -- blocks that none may write stand as they stood
 have hsame:∀ i b0,nth hp i=some b0→(∀ j x,nth hin j=some x→x.own=true→i≠rnm m j)→(ρ i).nil=false→∀ b,b0.rfoot w (ρ i) b→w'.heap[b]? = w.heap[b]?:=by
  intro i b0 h0 hne hnil b hfb
  refine hfr.block _ ((h.heap.blk i b0 h0).lt hnil hfb) ?_
  rintro ⟨j,x,hx,hxo,hxn,he⟩
  obtain ⟨b',e1,_,e2,e3,_⟩:=hinAt j x hx
  exact h.heap.apart (rnm m j) i b' b0 e1 (e2 hxo) h0 (Ne.symm (hne j x hx hxo)) hxn hnil b (e3 hxo _ _ _ he) hfb
 have hfeq:∀ i b0 bk,nth hp i=some b0→Wk bk b0→(∀ j x,nth hin j=some x→x.own=true→i≠rnm m j)→(ρ i).nil=false→∀ b,bk.foot w' (ρ i) b↔b0.foot w (ρ i) b:=fun i b0 bk h0 hwk hne hnil b=>by
  rw [hwk.foot]
  exact (h.heap.blk i b0 h0).foot_eq hnil (hsame i b0 h0 hne hnil) b
 have hrfeq:∀ i b0 bk,nth hp i=some b0→Wk bk b0→(∀ j x,nth hin j=some x→x.own=true→i≠rnm m j)→(ρ i).nil=false→∀ b,bk.rfoot w' (ρ i) b↔b0.rfoot w (ρ i) b:=fun i b0 bk h0 hwk hne hnil b=>by
  rw [hwk.rfoot]
  exact (h.heap.blk i b0 h0).rfoot_eq hnil (hsame i b0 h0 hne hnil) b
 have hrel1:∀ j y,nth ho j=some y→∀ bk,Wk bk (y.ren m1)→BlkRel E ν ρn w' (ρ' j) bk:=fun j y hy bk hwk =>
  hwk.rel (((hb.blk j y hy).flat (zan hofl hy)).ren hmap (zan holt hy))
 have hft:∀ (y bk:Blk),Wk bk (y.ren m1)→∀ w r,bk.foot w r=y.foot w r:=fun y bk hwk w r=>by rw [hwk.foot,Blk.ren_foot]
 have hrft:∀ (y bk:Blk),Wk bk (y.ren m1)→∀ w r,bk.rfoot w r=y.rfoot w r:=fun y bk hwk w r=>by rw [hwk.rfoot,Blk.ren_rfoot]
 have holdp:∀ j x,nth hin j=some x→x.own=true→(ρ (rnm m j)).nil=true∨∀ b,x.foot w (ρ (rnm m j)) b→E.w0.heap.size≤b∨E.W b:=fun j x hx hxo=>by
  obtain ⟨b',e1,_,e2,e3,_⟩:=hinAt j x hx
  rcases h.old _ _ e1 with h | h
  ·exact .inl h
  ·exact .inr fun b hfb=>h.wr (e2 hxo) b (e3 hxo _ _ _ hfb)
 -- a block that stayed as it was is looked at, and one that came back is written
 have hmixR:∀ i b0,nth hp i=some b0→(∀ j x,nth hin j=some x→x.own=true→i≠rnm m j)→∀ j y,nth ho j=some y→y.own=true →
   (ρ i).nil=false→(ρ' j).nil=false→∀ b,b0.rfoot w (ρ i) b→¬ y.foot w' (ρ' j) b:=by
  intro i b0 h0 hne j y hy hyo hn1 hn2 b hf1 hf2
  have hlt1:=(h.heap.blk i b0 h0).lt hn1 hf1
  rcases hold j y hy with h1 | h1
  ·rw [hn2] at h1;cases h1
  rcases h1.wr hyo b hf2 with h1 | h1
  ·omega
  ·obtain ⟨j0,x,hx,hxo,hxn,hxe⟩:=h1
   obtain ⟨b',e1,_,e2,e3,_⟩:=hinAt j0 x hx
   exact h.heap.apart (rnm m j0) i b' b0 e1 (e2 hxo) h0 (Ne.symm (hne j0 x hx hxo)) hxn hn1 b (e3 hxo _ _ _ hxe) hf1
 -- one that came back to its place: it may be written, or is one block
 have hcell:∀ j x y,nth hin j=some x→x.own=true→stays hin j=true→nth ho j=some y→y.own=true∨(y.shr=false∧(∀ w r b,y.rfoot w r b↔b=r.blk)∧∀ w r b,x.foot w r b↔b=r.blk):=fun j x y hx hxo hst hy =>
  zjA hobj hx hy hst hxo
 -- what one that came back looks at: new, or written by the call, or what went in
 have hlook:∀ j y,nth ho j=some y→(stays hin j=false∨y.own=true)→(ρ' j).nil=false→∀ b,y.rfoot w' (ρ' j) b →
   w.heap.size≤b∨(∃ j0 x,nth hin j0=some x∧x.own=true∧(ρ (rnm m j0)).nil=false∧x.foot w (ρ (rnm m j0)) b) ∨
   (zaQ hin 0 ho=true∧((y.own=false∧stays hin j=false)∨y.shr=true)∧∃ j0 x,nth hin j0=some x∧(ρ (rnm m j0)).nil=false∧x.rfoot w (ρ (rnm m j0)) b):=by
  intro j y hy hst hn b hf
  rcases hold j y hy with h1 | h1
  ·rw [hn] at h1;cases h1
  have hgo:((y.own=false∧stays hin j=false)∨y.shr=true)∨(y.own=true∧y.shr=false):=by
   cases ho1:y.own with
   | false =>
    rcases hst with hst | hst
    ·exact .inl (.inl ⟨rfl,hst⟩)
    ·rw [ho1] at hst;cases hst
   | true =>
    cases hs:y.shr with
    | true=>exact .inl (.inr rfl)
    | false=>exact .inr ⟨rfl,rfl⟩
  rcases hgo with hgo | ⟨hyo,hys⟩
  ·have hd:zaQ hin 0 ho=true:=zfG (j:=0) hy (by rwa [Nat.zero_add])
   rcases h1.rd b hf with h1 | h1 | h1
   ·exact .inl h1
   ·exact .inr (.inl h1)
   ·rcases h1 with h1 | ⟨h1,_⟩
    ·exact .inr (.inr ⟨hd,hgo,h1⟩)
    ·rw [hnest hd] at h1;cases h1
  ·rcases h1.wr hyo b ((hb.blk j y hy).ex hn hyo hys hf) with h1 | h1
   ·exact .inl h1
   ·exact .inr (.inl h1)
 -- a block that stayed as it was is written, and one that came back is looked at
 have hmixW:∀ i b0 bk,nth hp i=some b0→Wk bk b0→(∀ j x,nth hin j=some x→x.own=true→i≠rnm m j) →
   (zaQ hin 0 ho=true→bk.own=true→∀ j x,nth hin j=some x→i≠rnm m j)→∀ j y,nth ho j=some y→(stays hin j=false∨y.own=true)→bk.own=true →
   (ρ i).nil=false→(ρ' j).nil=false→∀ b,b0.foot w (ρ i) b→¬ y.rfoot w' (ρ' j) b:=by
  intro i b0 bk h0 hwk hne hdem j y hy hst hbo hn1 hn2 b hf1 hf2
  have hlt1:=(h.heap.blk i b0 h0).lt hn1 ((h.heap.blk i b0 h0).rd hn1 hf1)
  rcases hlook j y hy hst hn2 b hf2 with h1 | ⟨j0,x,hx,hxo,hxn,hxe⟩ | ⟨hd,_,j0,x,hx,hxn,hxe⟩
  ·omega
  ·obtain ⟨b',e1,_,e2,e3,_⟩:=hinAt j0 x hx
   exact h.heap.apart (rnm m j0) i b' b0 e1 (e2 hxo) h0 (Ne.symm (hne j0 x hx hxo)) hxn hn1 b (e3 hxo _ _ _ hxe) ((h.heap.blk i b0 h0).rd hn1 hf1)
  ·obtain ⟨b',e1,_,_,_,e3⟩:=hinAt j0 x hx
   rw [e3] at hxe
   exact h.heap.apart i (rnm m j0) b0 b' h0 (hwk.own hbo).1 e1 (hdem hd hbo j0 x hx) hn1 hxn b hf1 hxe
 refine ⟨⟨fun i bk hi=>?_,fun i i' bk bk' hi hbo hi' hne hn1 hn2 b hf1 hf2=>?_⟩,fun i bk hi=>?_,?_,?_,?_⟩
 ·rcases hcase i bk hi with ⟨j,x,y,h1,h2,h3,h4,h5,h6,h7⟩ | ⟨b0,h1,h2,h3,h4,h5⟩ | ⟨j,y,h1,h2,h3,h4⟩
  ·rw [hN i h4,h3,←hk j h5 (zaY h6)]
   exact hrel1 j y h6 bk h7
  ·rw [hN i h2]
   refine h3.rel (((h.heap.blk i b0 h1).of_block hfr.size (hsame i b0 h1 h4)).keep (fun k hk=>hN k hk) (zan hlt h1))
  ·rw [h1,hN2 j]
   exact hrel1 j y h2 bk (.inl h4)
 ·rcases hcase i bk hi with ⟨j,x,y,a1,a2,a3,a4,a5,a6,a7⟩ | ⟨b0,a1,a2,a3,a4,a5⟩ | ⟨j,y,a1,a2,a3,a4⟩
  ·have hyo:y.own=true:=by have:=(a7.own hbo).1;rwa [Blk.ren_own] at this
   have e1:ρn i=ρ' j:=by rw [hN i a4,a3,hk j a5 (zaY a6)]
   rw [e1] at hn1 hf1
   rw [hft y bk a7] at hf1
   rcases hcase i' bk' hi' with ⟨j',x',y',b1,b2,b3,b4,b5,b6,b7⟩ | ⟨b0',b1,b2,b3,b4,b5⟩ | ⟨j',y',b1,b2,b3,b4⟩
   ·have e2:ρn i'=ρ' j':=by rw [hN i' b4,b3,hk j' b5 (zaY b6)]
    rw [e2] at hn2 hf2
    rw [hrft y' bk' b7] at hf2
    exact hb.apart j j' y y' a6 hyo b6 (fun e=>hne (by rw [a3,b3,e])) hn1 hn2 b hf1 hf2
   ·rw [hN i' b2] at hn2 hf2
    exact hmixR i' b0' b1 b4 j y a6 hyo hn2 hn1 b ((hrfeq i' b0' bk' b1 b3 b4 hn2 b).1 hf2) hf1
   ·rw [b1,hN2 j'] at hn2 hf2
    rw [b4,Blk.ren_rfoot] at hf2
    exact hb.apart j j' y y' a6 hyo b2 (fun e=>by rw [←e,a5] at b3;cases b3) hn1 hn2 b hf1 hf2
  ·rw [hN i a2] at hn1 hf1
   have hf1':=(hfeq i b0 bk a1 a3 a4 hn1 b).1 hf1
   rcases hcase i' bk' hi' with ⟨j',x',y',b1,b2,b3,b4,b5,b6,b7⟩ | ⟨b0',b1,b2,b3,b4,b5⟩ | ⟨j',y',b1,b2,b3,b4⟩
   ·have e2:ρn i'=ρ' j':=by rw [hN i' b4,b3,hk j' b5 (zaY b6)]
    rw [e2] at hn2 hf2
    rw [hrft y' bk' b7] at hf2
    rcases hcell j' x' y' b1 b2 b5 b6 with c1 | ⟨_,c1,c2⟩
    ·exact hmixW i b0 bk a1 a3 a4 a5 j' y' b6 (.inr c1) hbo hn1 hn2 b hf1' hf2
    ·have hbb:=(c1 _ _ _).1 hf2
     rw [hk j' b5 (zaY b6)] at hbb hn2
     obtain ⟨b',e3,_,e4,e5,_⟩:=hinAt j' x' b1
     exact h.heap.apart i (rnm m j') b0 b' a1 (a3.own hbo).1 e3 (a4 j' x' b1 b2) hn1 hn2 b hf1' ((h.heap.blk _ _ e3).rd hn2 (e5 b2 _ _ _ ((c2 _ _ _).2 hbb)))
   ·rw [hN i' b2] at hn2 hf2
    exact h.heap.apart i i' b0 b0' a1 (a3.own hbo).1 b1 hne hn1 hn2 b hf1' ((hrfeq i' b0' bk' b1 b3 b4 hn2 b).1 hf2)
   ·rw [b1,hN2 j'] at hn2 hf2
    rw [b4,Blk.ren_rfoot] at hf2
    exact hmixW i b0 bk a1 a3 a4 a5 j' y' b2 (.inl b3) hbo hn1 hn2 b hf1' hf2
  ·have hyo:y.own=true:=by rw [a4,Blk.ren_own] at hbo;exact hbo
   rw [a1,hN2 j] at hn1 hf1
   rw [a4,Blk.ren_foot] at hf1
   rcases hcase i' bk' hi' with ⟨j',x',y',b1,b2,b3,b4,b5,b6,b7⟩ | ⟨b0',b1,b2,b3,b4,b5⟩ | ⟨j',y',b1,b2,b3,b4⟩
   ·have e2:ρn i'=ρ' j':=by rw [hN i' b4,b3,hk j' b5 (zaY b6)]
    rw [e2] at hn2 hf2
    rw [hrft y' bk' b7] at hf2
    exact hb.apart j j' y y' a2 hyo b6 (fun e=>by rw [e,b5] at a3;cases a3) hn1 hn2 b hf1 hf2
   ·rw [hN i' b2] at hn2 hf2
    exact hmixR i' b0' b1 b4 j y a2 hyo hn2 hn1 b ((hrfeq i' b0' bk' b1 b3 b4 hn2 b).1 hf2) hf1
   ·rw [b1,hN2 j'] at hn2 hf2
    rw [b4,Blk.ren_rfoot] at hf2
    exact hb.apart j j' y y' a2 hyo b2 (fun e=>hne (by rw [a1,b1,e])) hn1 hn2 b hf1 hf2
 ·-- what was old
  have hnewW:∀ j y,nth ho j=some y→y.own=true→(ρ' j).nil=false→∀ b,y.foot w' (ρ' j) b→E.w0.heap.size≤b∨E.W b:=by
   intro j y hy hyo hn b hf
   rcases hold j y hy with h1 | h1
   ·rw [hn] at h1;cases h1
   rcases h1.wr hyo b hf with h1 | h1
   ·exact .inl (Nat.le_trans h.fr.size h1)
   ·obtain ⟨j0,x,hx,hxo,hxn,hxe⟩:=h1
    rcases holdp j0 x hx hxo with h | h
    ·change (ρ (rnm m j0)).nil=false at hxn
     rw [hxn] at h;cases h
    ·exact h b hxe
  have hnewR:∀ j y,nth ho j=some y→(stays hin j=false∨y.own=true)→(ρ' j).nil=false→∀ b,y.rfoot w' (ρ' j) b→E.w0.heap.size≤b∨E.W b∨E.V b:=by
   intro j y hy hst hn b hf
   rcases hlook j y hy hst hn b hf with h1 | ⟨j0,x,hx,hxo,hxn,hxe⟩ | ⟨_,_,j0,x,hx,hxn,hxe⟩
   ·exact .inl (Nat.le_trans h.fr.size h1)
   ·rcases holdp j0 x hx hxo with h | h
    ·rw [hxn] at h;cases h
    ·rcases h b hxe with h | h
     ·exact .inl h
     ·exact .inr (.inl h)
   ·obtain ⟨b',e1,_,_,_,e3⟩:=hinAt j0 x hx
    rw [e3] at hxe
    rcases h.old _ _ e1 with h | h
    ·rw [hxn] at h;cases h
    ·exact h.rd b hxe
  rcases hcase i bk hi with ⟨j,x,y,a1,a2,a3,a4,a5,a6,a7⟩ | ⟨b0,a1,a2,a3,a4,a5⟩ | ⟨j,y,a1,a2,a3,a4⟩
  ·have e1:ρn i=ρ' j:=by rw [hN i a4,a3,hk j a5 (zaY a6)]
   rw [e1]
   cases hn:(ρ' j).nil with
   | true=>exact .inl rfl
   | false =>
    refine .inr ⟨fun o b hf=>?_,fun b hf=>?_⟩
    ·rw [hft y bk a7] at hf
     have hyo:y.own=true:=by have:=(a7.own o).1;rwa [Blk.ren_own] at this
     exact hnewW j y a6 hyo hn b hf
    ·rw [hrft y bk a7] at hf
     rcases hcell j x y a1 a2 a5 a6 with c1 | ⟨_,c1,c2⟩
     ·exact hnewR j y a6 (.inr c1) hn b hf
     ·have hbb:=(c1 _ _ _).1 hf
      rw [hk j a5 (zaY a6)] at hbb hn
      rcases holdp j x a1 a2 with h | h
      ·rw [hn] at h;cases h
      ·rcases h b ((c2 _ _ _).2 hbb) with h | h
       ·exact .inl h
       ·exact .inr (.inl h)
  ·rw [hN i a2]
   cases hn:(ρ i).nil with
   | true=>exact .inl rfl
   | false =>
    rcases h.old i b0 a1 with h | h
    ·rw [hn] at h;cases h
    ·exact .inr ⟨fun o b hf=>h.wr (a3.own o).1 b ((hfeq i b0 bk a1 a3 a4 hn b).1 hf),fun b hf=>h.rd b ((hrfeq i b0 bk a1 a3 a4 hn b).1 hf)⟩
  ·rw [a1,hN2 j]
   cases hn:(ρ' j).nil with
   | true=>exact .inl rfl
   | false =>
    refine .inr ⟨fun o b hf=>?_,fun b hf=>?_⟩
    ·rw [a4,Blk.ren_foot] at hf
     rw [a4,Blk.ren_own] at o
     exact hnewW j y a2 o hn b hf
    ·rw [a4,Blk.ren_rfoot] at hf
     exact hnewR j y a2 (.inl a3) hn b hf
 ·refine ⟨hfr.os.trans h.fr.os,hfr.tape.trans h.fr.tape,hfr.output.trans h.fr.output,Nat.le_trans h.fr.size hfr.size,fun b hbl hnW=>?_⟩
  rw [hfr.block b (Nat.lt_of_lt_of_le hbl h.fr.size) ?_,h.fr.block b hbl hnW]
  rintro ⟨j,x,hx,hxo,hxn,hxe⟩
  rcases holdp j x hx hxo with h1 | h1
  ·change (ρ (rnm m j)).nil=false at hxn
   rw [hxn] at h1;cases h1
  ·rcases h1 b hxe with h1 | h1
   ·omega
   ·exact hnW h1
 ·rw [List.length_append,pl]
  have:=h.len
  omega
 ·intro j hj
  rw [hN j (by have:=h.len;omega)]
  exact h.keep j hj
end
end Go.Sx
namespace Go.Sx
open Go.RowKit
section
variable {P:Program} {I:World→Prop} {S:Sigs} {F:FEnv} {E:Env} {ν:Nat→DV}
theorem V.easy_good {v:V} (h:v.easy=true):v.good ν:=by
 have h1:∀ l:Lf,l.easy=true→l.good ν:=fun l hl=>by
  cases l with
  | p b off=>cases off<;>first | trivial | cases hl
  | gp b off=>cases off<;>first | trivial | cases hl
  | _=>trivial
 have h2:∀ v:V1,v.cells.all Lf.easy=true→v.good ν:=fun v hv l hl=>h1 l (List.all_eq_true.1 hv l hl)
 cases v with
 | s v=>exact h2 v h
 | t l=>exact fun v hv=>h2 v (List.all_eq_true.1 h v hv)
theorem Lf.inst_easy (ops:List A) (l:Lf):(l.inst ops).easy=l.easy:=by
 cases l with
 | p b off=>cases off<;>rfl
 | gp b off=>cases off<;>rfl
 | _=>rfl
theorem V1.inst_easy (ops:List A) (v:V1):(v.inst ops).cells.all Lf.easy=v.cells.all Lf.easy:=by
 cases v with
 | one l=>simp [V1.inst,V1.cells,Lf.inst_easy]
 | agg l =>
  simp only [V1.inst,V1.cells,List.all_map]
  congr 1
  funext x
  exact Lf.inst_easy ops x
theorem V.inst_easy (ops:List A) (v:V):(v.inst ops).easy=v.easy:=by
 cases v with
 | s v=>exact V1.inst_easy ops v
 | t l =>
  simp only [V.inst,V.easy,List.all_map]
  congr 1
  funext x
  exact V1.inst_easy ops x
theorem znD {hin:List (Option Blk)} (as bs:List A) (ρ:Nat→Loc) (w:World):callEnv (hin.map (Option.map (Blk.inst as))) ρ w=callEnv (hin.map (Option.map (Blk.inst bs))) ρ w:=by
 have key:∀ (as bs:List A) (b:Nat),(∃ j bk,nth (hin.map (Option.map (Blk.inst as))) j=some bk∧bk.own=true∧(ρ j).nil=false∧bk.foot w (ρ j) b) →
   ∃ j bk,nth (hin.map (Option.map (Blk.inst bs))) j=some bk∧bk.own=true∧(ρ j).nil=false∧bk.foot w (ρ j) b:=by
  rintro as bs b ⟨j,bk,h1,h2,h3,h4⟩
  rw [zaI] at h1
  obtain ⟨y,hy,rfl⟩:=Option.map_eq_some_iff.1 h1
  exact ⟨j,y.inst bs,by rw [zaI,hy];rfl,by rw [Blk.inst_own] at h2 ⊢;exact h2,h3,by rw [Blk.inst_foot] at h4 ⊢;exact h4⟩
 have keyR:∀ (as bs:List A) (b:Nat),(∃ j bk,nth (hin.map (Option.map (Blk.inst as))) j=some bk∧(ρ j).nil=false∧bk.rfoot w (ρ j) b) →
   ∃ j bk,nth (hin.map (Option.map (Blk.inst bs))) j=some bk∧(ρ j).nil=false∧bk.rfoot w (ρ j) b:=by
  rintro as bs b ⟨j,bk,h1,h3,h4⟩
  rw [zaI] at h1
  obtain ⟨y,hy,rfl⟩:=Option.map_eq_some_iff.1 h1
  exact ⟨j,y.inst bs,by rw [zaI,hy];rfl,h3,by rw [Blk.inst_rfoot] at h4 ⊢;exact h4⟩
 unfold callEnv
 congr 1
 ·funext b
  exact propext ⟨key _ _ b,key _ _ b⟩
 ·funext b
  have hf:(hin.map (Option.map (Blk.inst as))).all (zao Blk.flat)=(hin.map (Option.map (Blk.inst bs))).all (zao Blk.flat):=by
   have:∀ (as:List A) (l:List (Option Blk)),(l.map (Option.map (Blk.inst as))).all (zao Blk.flat)=l.all (zao Blk.flat):=fun as l=>ziK (fun ops b=>Blk.inst_flat ops b) as l
   rw [this,this]
  have key2:∀ (as bs:List A),(hin.map (Option.map (Blk.inst as))).all (zao Blk.flat)=(hin.map (Option.map (Blk.inst bs))).all (zao Blk.flat) →
    ((∃ j bk,nth (hin.map (Option.map (Blk.inst as))) j=some bk∧(ρ j).nil=false∧bk.rfoot w (ρ j) b)∨((hin.map (Option.map (Blk.inst as))).all (zao Blk.flat)=false∧b<w.heap.size∧¬ ∃ j bk,nth (hin.map (Option.map (Blk.inst as))) j=some bk∧bk.own=true∧(ρ j).nil=false∧bk.foot w (ρ j) b)) →
    (∃ j bk,nth (hin.map (Option.map (Blk.inst bs))) j=some bk∧(ρ j).nil=false∧bk.rfoot w (ρ j) b)∨((hin.map (Option.map (Blk.inst bs))).all (zao Blk.flat)=false∧b<w.heap.size∧¬ ∃ j bk,nth (hin.map (Option.map (Blk.inst bs))) j=some bk∧bk.own=true∧(ρ j).nil=false∧bk.foot w (ρ j) b):=by
   intro as bs hf h
   rcases h with h | ⟨h1,h2,h3⟩
   ·exact .inl (keyR as bs b h)
   ·exact .inr ⟨by rw [←hf];exact h1,h2,fun h=>h3 (key bs as b h)⟩
  exact propext ⟨key2 as bs hf,key2 bs as hf.symm⟩
 ·simp
theorem V.conc_lt0 {v:V} (h:v.lt 0=true) (ρ ρ':Nat→Loc):v.conc ν ρ=v.conc ν ρ':=by
 have h1:∀ l:Lf,l.lt 0=true→l.conc ν ρ=l.conc ν ρ':=fun l hl=>by
  cases l<;>simp only [Lf.lt,decide_eq_true_eq] at hl<;>first | rfl | omega | (rename_i t _ _;cases t<;>rfl) | exact zid (n:=0) (fun k hk=>by omega) hl _ | (simp only [Lf.conc];rw [zf2 hl (fun k hk=>by omega)])
 have h2:∀ v:V1,v.lt 0=true→v.conc ν ρ=v.conc ν ρ':=fun v hv=>by
  cases v with
  | one l=>exact h1 l (by simpa [V1.lt,V1.cells] using hv)
  | agg l =>
   simp only [V1.conc]
   congr 2
   exact List.map_congr_left fun x hx=>h1 x (List.all_eq_true.1 hv x hx)
 cases v with
 | s v=>exact h2 v h
 | t l =>
  simp only [V.conc]
  congr 2
  exact List.map_congr_left fun x hx=>h2 x (List.all_eq_true.1 h x hx)
theorem zfH {m:List Nat} : ∀ {x y:List V},zbq m (x.map some) (y.map some)=true→(∀ v∈y,V.good ν v)→(∀ ρ:Nat→Loc,x.map (V.conc ν (fun j=>ρ (rnm m j)))=y.map (V.conc ν ρ))∧∀ v∈x,V.good ν v
 | [],[],_,h=>⟨fun _=>rfl,h⟩
 | x::l,y::l',h,hg=>by
  simp only [List.map_cons,zbq,Bool.and_eq_true] at h
  obtain ⟨h1,h2⟩:=V.sub_spec (ν:=ν) h.1 (hg y (by simp))
  obtain ⟨h3,h4⟩:=zfH h.2 (fun u hu=>hg u (List.mem_cons_of_mem _ hu))
  refine ⟨fun ρ=>by simp only [List.map_cons,h1 ρ,h3 ρ],fun z hz=>?_⟩
  rcases List.mem_cons.1 hz with rfl | hz
  ·exact h2
  ·exact h4 z hz
 | [],_::_,h,_=>by simp [zbq] at h
 | _::_,[],h,_=>by simp [zbq] at h
theorem Vs.inst_to {ν1 ν2:Nat→DV} {p:A→Bool} {tys:List Ty} {as bs:List A} (hp:∀ a,p a=true→a.den ν1=a.den ν2) (h:PEq ν1 ν2 tys as bs):∀ {l:List V},l.all (V.tyOk p tys)=true →
  (∀ ρ,(l.map (V.inst bs)).map (V.conc ν2 ρ)=(l.map (V.inst as)).map (V.conc ν1 ρ))∧((∀ x∈l.map (V.inst as),V.good ν1 x)→∀ x∈l.map (V.inst bs),V.good ν2 x)
 | [],_=>⟨fun _=>rfl,fun _ x hx=>by cases hx⟩
 | x::l,hl=>by
  simp only [List.all_cons,Bool.and_eq_true] at hl
  obtain ⟨h1,h2⟩:=V.inst_to hp h hl.1
  obtain ⟨h3,h4⟩:=Vs.inst_to hp h hl.2
  refine ⟨fun ρ=>by simp only [List.map_cons,h1 ρ,h3 ρ],fun hg z hz=>?_⟩
  simp only [List.map_cons] at hg hz
  rcases List.mem_cons.1 hz with rfl | hz
  ·exact h2 (hg _ (by simp))
  ·exact h4 (fun u hu=>hg u (List.mem_cons_of_mem _ hu)) z hz
def zez (P:Program) (E:Env) (ν:Nat→DV) (f:FuncId) (vs:List V) (hp:List (Option Blk)) (ρ:Nat→Loc) (w:World):OR→Prop
 | .val v=>v.good ν∧Calls P f (vs.map (V.conc ν ρ)).toArray w (fun e w'=>e = .returned (v.conc ν ρ)∧Below w.heap.size w w')
 | .hp v hp'=>Calls P f (vs.map (V.conc ν ρ)).toArray w (fun e w'=>∃ x,e = .returned x∧∃ ρ':Nat→Loc,(∀ j,j<hp.length→ρ' j=ρ j)∧HS E ν ρ' hp' w'∧∀ u,v=some u→u.good ν∧x=u.conc ν ρ')
theorem zjB (as bs:List A):∀ l l':List (Option Blk),zeI (l.map (Option.map (Blk.inst as))) (l'.map (Option.map (Blk.inst bs)))=zeI l l'
 | [],_=>by cases ‹List (Option Blk)›<;>rfl
 | x::l,[]=>by cases x<;>rfl
 | x::l,y::l'=>by
  have ih:=zjB as bs l l'
  cases x with
  | none=>exact ih
  | some x =>
   cases y with
   | none=>exact ih
   | some y=>cases x<;>cases y<;>simp only [List.map_cons,Option.map_some,zeI,Blk.inst,ih]
theorem zlu {K:Nat} (hS:SigsOK P I K S F) (hE:E.Ok K) {f:FuncId} {vs:List V} {hp:List (Option Blk)} : M.sat F ν (znk P S f vs hp) (fun res=>∀ ρ w,(∀ v∈vs,V.good ν v)→HS E ν ρ hp w→I w →
  (callFunc f (vs.map (V.conc ν ρ)).toArray).run P w = .ok (.enter f (vs.map (V.conc ν ρ)).toArray) w∧zez P E ν f vs hp ρ w res):=by
 unfold znk
 refine zaa (zad (Q:=fun sg=>S.get f=some sg) fun a h=>h) fun sg hsg=>?_
 have hfn:=hS.fns f sg hsg
 dsimp only
 generalize hg:zd1 sg.nin ⟨sg.ins.map some,sg.hin⟩ ⟨vs.map some,hp⟩=g
 have hgl:g.1.length=sg.its.length:=by rw [←hg];exact zeZ _ _ _
 refine zae (fun hok=>?_) (fun _=>zac)
 simp only [Bool.and_eq_true] at hok
 obtain ⟨⟨⟨⟨⟨hcal,hsub⟩,hsgok⟩,hplt⟩,hnest⟩,hobj⟩:=hok
 simp only [St.sub,Bool.and_eq_true,St.inst] at hsub
 obtain ⟨⟨hs1,hs2⟩,hs3⟩:=hsub
 simp only [Sig.ok,Bool.and_eq_true] at hsgok
 obtain ⟨⟨⟨⟨⟨⟨⟨k1,k2⟩,k3⟩,k4⟩,k5⟩,k6⟩,k7⟩,k8⟩:=hsgok
 have hs1':zbq g.2 ((sg.ins.map (V.inst g.1)).map some) (vs.map some)=true:=by
  have:(sg.ins.map some).map (Option.map (V.inst g.1))=(sg.ins.map (V.inst g.1)).map some:=by simp [List.map_map,Function.comp_def]
  rw [←this];exact hs1
 have hboth:=zfH (ν:=ν) hs1'
 have henter:∀ (args:Array Value) (w:World),(callFunc f args).run P w = .ok (.enter f args) w:=fun args w=>by
  unfold zqp at hcal
  cases hf:P.funcs[f]? with
  | none=>simp [hf] at hcal
  | some fn =>
   simp only [hf,Bool.and_eq_true,Bool.not_eq_true',beq_eq_false_iff_ne] at hcal
   obtain ⟨h1,h2⟩:=hcal
   obtain ⟨bd,hb⟩:=Option.isSome_iff_exists.1 h2
   simp [callFunc,hf,h1,hb]
 -- the values that go in
 generalize hds:g.1.map (A.den ν)=ds
 have hdl:ds.length=sg.its.length:=by rw [←hds];simpa using hgl
 have hpe:PEq ν (dget ds) sg.its g.1 (zap 0 sg.nin):=by
  refine PEq.of_den hgl ?_
  rw [hds]
  have:=zvW ds
  rw [hdl] at this
  exact this.symm
 obtain ⟨hva,hvg⟩:=Vs.inst_to zbE hpe k1
 refine zaa (R:=fun j0=>j0=(if sg.need then 1 else 0)∧(sg.need=true→(dget (F f ds) 0).toB=true)) ?_ fun j0 hj0=>?_
 ·refine zae (fun hn=>?_) (fun hn=>zab ⟨by simp [hn],fun h=>absurd h hn⟩)
  refine zaa (zaf (Q:=fun r=>r.den ν=(F f (g.1.map (A.den ν))).getD 0 default) fun r h=>h) fun r hr=>?_
  refine zaa (zbl (Q:=fun _=>r.bool ν=true) fun h=>h) fun _ hr2=>zab ⟨by simp [hn],fun _=>?_⟩
  rw [dget,←hds,←hr];exact hr2
 obtain ⟨rfl,hneed⟩:=hj0
 refine zaa (zeY sg.ots.length _) fun os hos=>?_
 rw [hds] at hos
 have hpo:PEq (sg.res (F f ds)) ν sg.ots (zap 0 sg.ots.length) os:=by
  refine PEq.of_den (zjz _ _) ?_
  rw [zcX (sg.res (F f ds)) sg.ots.length 0 0 (fun _ _=>rfl)]
  apply List.ext_getElem?
  intro i
  by_cases hi:i<sg.ots.length
  ·rw [List.getElem?_map,List.getElem?_range' (by omega),List.getElem?_map,List.getElem?_eq_getElem (by rw [hos.1];exact hi)]
   simp only [Option.map_some,Option.some.injEq]
   rw [hos.2 i _ (List.getElem?_eq_getElem (by rw [hos.1];exact hi))]
   simp only [Sig.res,dget]
   congr 1
   omega
  ·rw [List.getElem?_eq_none (by simpa using hi),List.getElem?_eq_none (by rw [List.length_map,hos.1];omega)]
 obtain ⟨hoc,hog⟩:=V.inst_to zbE hpo k3
 -- the call
 have hcall:∀ ρ w,(∀ v∈vs,V.good ν v)→HS E ν ρ hp w→I w→Calls P f (vs.map (V.conc ν ρ)).toArray w (fun e w'=>∃ x ρ',e = .returned x∧CallOut sg (F f ds) (fun j=>ρ (rnm g.2 j)) w x ρ' w'):=by
  intro ρ w hvs hh hI
  have h1:HRel E ν (fun j=>ρ (rnm g.2 j)) (sg.hin.map (Option.map (Blk.inst g.1))) w:=hh.heap.sub hs2 hs3
  have h2:HRel E (dget ds) (fun j=>ρ (rnm g.2 j)) sg.hinI w:=HRel.inst zbE hpe k2 h1
  have h0:∀ b,b<E.w0.heap.size→¬ E.W b→b<w.heap.size∧¬ (callEnv sg.hinI (fun j=>ρ (rnm g.2 j)) w).W b∧w.heap[b]? = E.w0.heap[b]?:=fun b hb hnW=>by
   refine ⟨Nat.lt_of_lt_of_le hb hh.fr.size,?_,hh.fr.block b hb hnW⟩
   rintro ⟨j,x,hx,hxo,hxn,hxe⟩
   change x.foot w (ρ (rnm g.2 j)) b at hxe
   change (ρ (rnm g.2 j)).nil=false at hxn
   unfold Sig.hinI at hx
   rw [zaI] at hx
   obtain ⟨y,hy,rfl⟩:=Option.map_eq_some_iff.1 hx
   obtain ⟨b',e1,e2,e3⟩:=zft hs2 (j:=j) (b:=y.inst g.1) (by rw [zaI,hy];rfl)
   have ho:b'.own=true:=(Blk.sub_spec (E:=E) (ν:=ν) e3).1 (by rw [Blk.inst_own] at hxo ⊢;exact hxo)
   rw [Blk.inst_foot,←Blk.inst_foot g.1] at hxe
   have hxe:=Blk.sub_foot e3 (by rw [Blk.inst_own] at hxo ⊢;exact hxo) hxe
   rcases hh.old _ _ e1 with h | h
   ·rw [hxn] at h;cases h
   ·rcases h.wr ho b hxe with h | h
    ·omega
    ·exact hnW h
  have h3:HRel (callEnv sg.hinI (fun j=>ρ (rnm g.2 j)) w) (dget ds) (fun j=>ρ (rnm g.2 j)) sg.hinI w :=
   ⟨fun j bk hj=>by
    cases hfl:bk.flat with
    | true=>exact (h2.blk j bk hj).flat hfl
    | false =>
     refine (h2.blk j bk hj).enter fun b hb hnW=>?_
     obtain ⟨c1,c2,c3⟩:=h0 b hb hnW
     refine ⟨c1,c2,.inr ⟨?_,c1,c2⟩,c3⟩
     cases hall:sg.hinI.all (zao Blk.flat) with
     | false=>rfl
     | true =>
      rw [zan hall hj] at hfl
      exact absurd hfl (by decide),h2.apart⟩
  have hKW:∀ b,(callEnv sg.hinI (fun j=>ρ (rnm g.2 j)) w).W b→K≤b:=fun b hb=>by
   rcases Nat.lt_or_ge b E.w0.heap.size with hlt | hge
   ·by_cases hEW:E.W b
    ·exact hE.2 b hEW
    ·exact absurd hb (h0 b hlt hEW).2.1
   ·exact Nat.le_trans hE.1 hge
  have:=hfn ds (fun j=>ρ (rnm g.2 j)) w hI hdl hneed (Nat.le_trans hE.1 hh.fr.size) hKW (hvg (hboth hvs).2) h3
  have hargs2:(sg.insI.map (V.conc (dget ds) fun j=>ρ (rnm g.2 j)))=vs.map (V.conc ν ρ):=by
   unfold Sig.insI
   rw [hva,(hboth hvs).1 ρ]
  rw [hargs2] at this
  exact this
 refine zae (fun hemp=>?_) (fun hemp=>?_)
 ·refine zab fun ρ w hvs hh hI=>⟨henter _ w,?_⟩
  simp only [Bool.and_eq_true,List.isEmpty_iff] at hemp
  have hlt0:(sg.out.inst os).lt 0=true:=by rw [V.inst_lt];rw [hemp.2] at k5;exact k5
  have k8:sg.out.easy=true:=by
   simp only [hemp.1,hemp.2,List.isEmpty_nil,Bool.and_self,Bool.not_true,Bool.or_false] at k8
   exact k8
  refine ⟨V.easy_good (by rw [V.inst_easy];exact k8),(hcall ρ w hvs hh hI).mono fun e w' ⟨x,ρ',he,hc⟩=>⟨?_,?_⟩⟩
  ·rw [he,hc.val]
   unfold Sig.outI
   rw [←hoc ρ',V.conc_lt0 hlt0 ρ' ρ]
  ·have:=hc.fr.weaken (W':=fun _=>False) (fun b hb=>by
    obtain ⟨j,bk,h1,h2,_⟩:=hb
    unfold Sig.hinI at h1
    rw [zaI] at h1
    obtain ⟨y,hy,rfl⟩:=Option.map_eq_some_iff.1 h1
    have:=zan hemp.1 hy
    rw [Blk.inst_own] at h2
    rw [h2] at this
    cases this)
   exact this.below
 ·refine zab fun ρ w hvs hh hI=>⟨henter _ w,(hcall ρ w hvs hh hI).mono fun e w' ⟨x,ρ',he,hc⟩=>⟨x,he,?_⟩⟩
  obtain ⟨hc1,hc2,hc3,hc4,hc5,hc6⟩:=hc
  have hcw:callEnv sg.hinI (fun j=>ρ (rnm g.2 j)) w=callEnv (sg.hin.map (Option.map (Blk.inst g.1))) (fun j=>ρ (rnm g.2 j)) w:=znD _ _ _ _
  rw [hcw] at hc3 hc4 hc5
  have hb:=HRel.inst zbE hpo k4 hc3
  have e2:∀ (l:List (Option Blk)) (j:Nat),zaQ (sg.hin.map (Option.map (Blk.inst g.1))) j (l.map (Option.map (Blk.inst os)))=zaQ sg.hin j l:=fun l=>by
   induction l with
   | nil=>intro j;rfl
   | cons x l ih =>
    intro j
    simp only [List.map_cons,zaQ,ih,zdO]
    cases x with
    | none=>rfl
    | some y=>simp [Blk.inst_own,Blk.inst_shr]
  have hnest':zaQ (sg.hin.map (Option.map (Blk.inst g.1))) 0 (sg.hout.map (Option.map (Blk.inst os)))=true→(sg.hin.map (Option.map (Blk.inst g.1))).all (zao Blk.flat)=true:=fun h=>by
   rw [e2] at h
   rw [ziK (fun ops b=>Blk.inst_flat ops b)]
   rw [h] at hnest
   simpa using hnest
  have hback:=HS.back (ho:=sg.hout.map (Option.map (Blk.inst os))) hh hs2 hplt (by rw [List.length_map,ziK (fun ops b=>Blk.inst_lt _ ops b)];exact k6) (by rw [ziK (fun ops b=>Blk.inst_flat ops b)];exact k7) hb (OldF.inst hc4) hnest' (by rw [zjB];exact hobj) hc5
   (fun j hj hl=>hc6 j (by rw [zdO] at hj;exact hj) (by simpa using hl))
  have e1:∀ k n,zcU (sg.hin.map (Option.map (Blk.inst g.1))) g.2 n k=zcU sg.hin g.2 n k:=fun k n=>by
   unfold zcU
   exact List.map_congr_left fun j _=>by rw [zdO]
  have e3:∀ (l:List (Option Blk)) (m1:List Nat) (j:Nat),zeH (sg.hin.map (Option.map (Blk.inst g.1))) m1 j l=zeH sg.hin m1 j l:=fun l m1=>by
   induction l with
   | nil=>intro j;rfl
   | cons x l ih=>intro j;simp only [zeH,ih,zdO]
  have e4:∀ (ho:List (Option Blk)) (m1:List Nat) (dem:Bool) (k j:Nat) (hp:List (Option Blk)),zbW (sg.hin.map (Option.map (Blk.inst g.1))) ho g.2 m1 dem k j hp=zbW sg.hin ho g.2 m1 dem k j hp:=fun ho m1 dem k=>by
   induction k with
   | zero=>intro j hp;rfl
   | succ k ih =>
    intro j hp
    unfold zbW
    rw [zaI]
    cases nth sg.hin j with
    | none=>exact ih _ _
    | some y=>simp only [Option.map_some,Blk.inst_own,zdO,ih]
  rw [e1,e2,e3,e4,List.length_map,List.length_map] at hback
  refine ⟨_,fun j hj=>by simp [hj],hback.2,fun u hu=>?_⟩
  cases hu
  have hren:=V.ren_spec (ν:=ν) (m:=zcU sg.hin g.2 hp.length sg.hout.length) (ρ:=ρ') (ρ':=fun i=>if i<hp.length then ρ i else ρ' (i-hp.length)) (v:=sg.out.inst os) hback.1 (by rw [V.inst_lt];exact k5)
  refine ⟨hren.2 (hog hc2),?_⟩
  rw [hren.1,hoc ρ']
  exact hc1
theorem zig {t:TypeId} {e:Nat} (h:tk P t=some (.ptr e)):P.underlying t=some (.pointer e):=by
 obtain ⟨d,hd,hk⟩:=zeT h
 cases d<;>simp [tkOf] at hk
 exact hk▸hd
theorem zaV (w:World) (d:Nat) (t:TypeId) (p:Option Addr) {e:Nat} (h:P.underlying t=some (.pointer e)) :
  (Op.equalIn (d+1) t (.pointer p) (.pointer none)).run P w = .ok p.isNone w:=by
 cases p<;>simp [Op.equalIn,run_underlying h]
theorem zeb {iface:Bool} {key:Nat} {l:List (Nat×Alt)} (h:zd4 iface key l=true) {k:Nat} {x:Alt} (hx:zaP l k=some x) :
  (k=key∧x=if iface then .nili else .nilp)∨(k≠key∧if iface then ∃ t q,x = .ifp t q else ∃ q n,x = .p q n):=by
 have:=List.all_eq_true.1 h _ (zgO hx)
 simp only at this
 have hne:(!Nat.beq k key)=true→k≠key:=fun h e=>by subst e;rw [Nat.beq_refl] at h;cases h
 cases iface<;>cases x<;>simp only at this<;>first | (cases this;done) | exact .inl ⟨Nat.eq_of_beq_eq_true this,rfl⟩ | exact .inr ⟨hne this,_,_,rfl⟩
theorem zlv {a:A} {key:Nat} (h0:0≤a.int ν):(a.int ν==((key:Nat):Int))=decide ((a.int ν).toNat=key):=by
 rw [Bool.eq_iff_iff]
 simp only [beq_iff_eq,decide_eq_true_eq]
 omega
theorem zhC {iface neg:Bool} {a:A} {l:List (Nat×Alt)} (hg:(Lf.alt a l).good ν):M.sat F ν (ziX iface neg a l) (fun r=>∃ c:A,r = .b c ∧
  c.bool ν=(if neg then decide ((a.int ν).toNat≠zaJ l) else decide ((a.int ν).toNat=zaJ l))∧zd4 iface (zaJ l) l=true):=by
 unfold ziX
 refine zae (fun hok=>?_) (fun _=>zac)
 obtain ⟨h0,_⟩:=hg
 cases neg with
 | false =>
  refine zaa (zaf (Q:=fun c=>c.bool ν=(a.int ν==((zaJ l:Nat):Int))) fun c h=>A.bool_of_den h) fun c hc=>zab ⟨c,rfl,?_,hok⟩
  rw [hc,zlv h0];rfl
 | true =>
  refine zaa (zaf (Q:=fun c=>c.bool ν=(a.int ν != ((zaJ l:Nat):Int))) fun c h=>A.bool_of_den h) fun c hc=>zab ⟨c,rfl,?_,hok⟩
  rw [hc,bne,zlv h0];simp
theorem zlw (b:ByteArray):b.toList=b.data.toList:=by
 have h:∀ n i r,b.size-i=n→ByteArray.toList.loop b i r=r.reverse++b.data.toList.drop i:=by
  intro n
  induction n with
  | zero =>
   intro i r hn
   rw [ByteArray.toList.loop]
   have hi:¬ i<b.size:=by omega
   have h0:b.data.toList.length≤i:=Nat.le_of_not_lt hi
   rw [if_neg hi,List.drop_eq_nil_of_le h0,List.append_nil]
  | succ n ih =>
   intro i r hn
   rw [ByteArray.toList.loop]
   have hi:i<b.size:=by omega
   rw [if_pos hi,ih _ _ (by omega)]
   have hi2:i<b.data.toList.length:=hi
   rw [List.drop_eq_getElem_cons hi2]
   have hi3:i<b.data.size:=hi
   have:b.get! i=b.data.toList[i]:=by
    show b.data[i]! = _
    rw [getElem!_pos b.data i hi3]
    rfl
   rw [this]
   simp
 have:=h _ 0 [] rfl
 rw [List.reverse_nil,List.nil_append,List.drop_zero] at this
 exact this
theorem znE:∀ l l':List DV,zhU l l'=(l.map DV.byte==l'.map DV.byte)
 | [],[]=>rfl
 | [],_::_=>rfl
 | _::_,[]=>rfl
 | x::l,y::l'=>by
  have:=znE l l'
  simp only [zhU,this,List.map_cons]
  rfl
theorem znF {l l':List DV} (w:World):(Op.stringOp .eql (zfC l) (zfC l')).run P w = .ok (.bool (zhU l l')) w∧(Op.stringOp .neq (zfC l) (zfC l')).run P w = .ok (.bool (!zhU l l')) w:=by
 have h:((zfC l).toList==(zfC l').toList)=zhU l l':=by rw [zlw,zlw,znE];simp [zfC]
 constructor<;>simp [Op.stringOp,h]
theorem zqH {x:Lf} : M.sat F ν (strA x) (fun a=>∀ ρ,x.conc ν ρ = .string (zfC (a.cells ν))):=by
 unfold strA
 split
 ·exact zab fun ρ=>rfl
 ·rename_i s
  refine zaf fun r h ρ=>?_
  have h1:r.cells ν=s.data.toList.map fun b=>DV.i b.toNat:=by
   have:A.cells ν r=(zbf F ν (Node.lmk (s.data.toList.map fun _=>.i) (s.data.toList.map fun b=>.z b.toNat))).toL:=by simp [A.cells,h]
   rw [this]
   simp only [zbf,DV.toL]
   generalize s.data.toList=l
   induction l with
   | nil=>rfl
   | cons b l ih =>
    simp only [List.map_cons,nrmZ,ih]
    rfl
  have h2:zfC (r.cells ν)=s:=by
   rw [h1]
   cases s with
   | mk d =>
    simp only [zfC,List.map_map]
    congr 1
    have:(DV.byte∘fun b:UInt8=>DV.i b.toNat)=id:=by
     funext b
     simp [DV.byte]
    rw [this]
    simp
  rw [h2]
  rfl
 ·exact zac
theorem znG {op:BinOp} {t:TypeId} {x y:Lf} : M.sat F ν (zma op x y) (fun v=>v.good ν∧∀ (ρ:Nat→Loc) (w:World),∀ (xo yo:Operand),
  (eqGuard op t xo yo ((V.s (.one x)).conc ν ρ) ((V.s (.one y)).conc ν ρ)).run P w = .ok () w∧(binOp op t ((V.s (.one x)).conc ν ρ) ((V.s (.one y)).conc ν ρ)).run P w = .ok (v.conc ν ρ) w):=by
 have hg:∀ (op:BinOp) (xo yo:Operand) (a b:ByteArray) (w:World),(eqGuard op t xo yo (.string a) (.string b)).run P w = .ok () w:=by
  intro op xo yo a b w;cases op<;>simp [eqGuard]
 unfold zma
 refine zaa zqH fun a ha=>zaa zqH fun b hb=>?_
 refine zaa (zaf (Q:=fun r=>r.bool ν=zhU (a.cells ν) (b.cells ν)) fun r h=>A.bool_of_den h) fun q hq=>?_
 split
 ·refine zab ⟨V1.good_one.2 trivial,fun ρ w xo yo=>?_⟩
  simp only [V.conc,V1.conc,ha,hb]
  exact ⟨hg _ _ _ _ _ w,by simp [binOp,(znF (P:=P) w).1,Lf.conc,hq]⟩
 ·refine zaa zeS fun r hr=>zab ⟨V1.good_one.2 trivial,fun ρ w xo yo=>?_⟩
  simp only [V.conc,V1.conc,ha,hb]
  exact ⟨hg _ _ _ _ _ w,by simp [binOp,(znF (P:=P) w).2,Lf.conc,hq,hr]⟩
 ·exact zac
theorem zry {op:BinOp} {t:TypeId} {x y:V} (hx:x.good ν) (hy:y.good ν):M.sat F ν (zst P op t x y) (fun v=>v.good ν∧∀ (ρ:Nat→Loc) (w:World),∀ (xo yo:Operand),
  (eqGuard op t xo yo (x.conc ν ρ) (y.conc ν ρ)).run P w = .ok () w∧(binOp op t (x.conc ν ρ) (y.conc ν ρ)).run P w = .ok (v.conc ν ρ) w):=by
 have hgi:∀ (op:BinOp) (xo yo:Operand) (k k':IntKind) (a b:Int) (w:World),(eqGuard op t xo yo (.int k a) (.int k' b)).run P w = .ok () w:=by
  intro op xo yo k k' a b w;cases op<;>simp [eqGuard]
 have hgp:∀ (op:BinOp) (xo yo:Operand) (a b:Option Addr) (w:World),(eqGuard op t xo yo (.pointer a) (.pointer b)).run P w = .ok () w:=by
  intro op xo yo a b w;cases op<;>simp [eqGuard]
 have hgb:∀ (op:BinOp) (xo yo:Operand) (a b:Bool) (w:World),(eqGuard op t xo yo (.bool a) (.bool b)).run P w = .ok () w:=by
  intro op xo yo a b w;cases op<;>simp [eqGuard]
 unfold zst
 split
 ·exact zaa (zd7 fun ρ w=>zjh (ρ:=ρ) (w:=w) t) fun l hl=>zab ⟨V1.good_one.2 hl.1,fun ρ w xo yo=>⟨hgi _ _ _ _ _ _ _ w,hl.2 ρ w⟩⟩
 ·exact zaa (zd7 fun ρ w=>zjh (ρ:=ρ) (w:=w) t) fun l hl=>zab ⟨V1.good_one.2 hl.1,fun ρ w xo yo=>⟨hgi _ _ _ _ _ _ _ w,hl.2 ρ w⟩⟩
 ·rename_i k a k' b hne1 hne2
  refine zae (fun hk=>?_) (fun _=>zac)
  have:=zcf hk;subst this
  have e1:op≠.shl:=fun h=>hne1 h
  have e2:op≠.shr:=fun h=>hne2 h
  exact zaa (zd7 fun ρ w=>zsS (ρ:=ρ) (w:=w) e1 e2 t) fun l hl=>zab ⟨V1.good_one.2 hl.1,fun ρ w xo yo=>⟨hgi _ _ _ _ _ _ _ w,hl.2 ρ w⟩⟩
 ·rename_i a b
  refine zaa (zad (Q:=fun k=>tk P t=some k) fun a h=>h) fun k hk=>?_
  split
  ·exact zaa (zd7 fun ρ w=>zh6 (ρ:=ρ) (w:=w) t (zoZ hk)) fun l hl=>zab ⟨V1.good_one.2 hl.1,fun ρ w xo yo=>⟨hgb _ _ _ _ _ w,hl.2 ρ w⟩⟩
  ·exact zac
 ·rename_i a b
  refine zaa (zad (Q:=fun k=>tk P t=some k) fun a h=>h) fun k hk=>?_
  split
  ·exact zaa (zd7 fun ρ w=>zh6 (ρ:=ρ) (w:=w) t (zoZ hk)) fun l hl=>zab ⟨V1.good_one.2 hl.1,fun ρ w xo yo=>⟨hgb _ _ _ _ _ w,hl.2 ρ w⟩⟩
  ·exact zac
 ·refine zaa (zad (Q:=fun k=>tk P t=some k) fun a h=>h) fun k hk=>?_
  split
  ·exact zab ⟨V1.good_one.2 trivial,fun ρ w xo yo=>⟨hgp _ _ _ _ _ w,by simp [binOp,Op.equal,Op.maxDepth,V.conc,V1.conc,Lf.conc,zaV w 9999 t _ (zig hk)]⟩⟩
  ·exact zac
 ·refine zaa (zad (Q:=fun k=>tk P t=some k) fun a h=>h) fun k hk=>?_
  split
  ·exact zab ⟨V1.good_one.2 trivial,fun ρ w xo yo=>⟨hgp _ _ _ _ _ w,by simp [binOp,Op.equal,Op.maxDepth,V.conc,V1.conc,Lf.conc,zaV w 9999 t _ (zig hk)]⟩⟩
  ·exact zac
 ·refine zaa (zad (Q:=fun k=>tk P t=some k) fun a h=>h) fun k hk=>?_
  split
  ·exact zab ⟨V1.good_one.2 trivial,fun ρ w xo yo=>⟨hgp _ _ _ _ _ w,by simp [binOp,Op.equal,Op.maxDepth,V.conc,V1.conc,Lf.conc,zaV w 9999 t _ (zig hk)]⟩⟩
  ·exact zac
 ·refine zaa (zad (Q:=fun k=>tk P t=some k) fun a h=>h) fun k hk=>?_
  split
  ·exact zab ⟨V1.good_one.2 trivial,fun ρ w xo yo=>⟨hgp _ _ _ _ _ w,by simp [binOp,Op.equal,Op.maxDepth,V.conc,V1.conc,Lf.conc,zaV w 9999 t _ (zig hk)]⟩⟩
  ·exact zac
 ·rename_i a l
  refine zaa (zad (Q:=fun k=>tk P t=some k) fun a h=>h) fun k hk=>?_
  split
  ·refine zaa (zhC (V1.good_one.1 hx)) fun r ⟨c,hr,hc,hok⟩=>zab ⟨by rw [hr];exact V1.good_one.2 trivial,fun ρ w xo yo=>?_⟩
   subst hr
   obtain ⟨h0,h1⟩:=V1.good_one.1 hx
   obtain ⟨y,hy⟩:=Option.isSome_iff_exists.1 h1
   have hpt:=zig hk
   have hval:(V.s (.one (.alt a l))).conc ν ρ=y.conc ρ:=by simp only [V.conc,V1.conc,Lf.conc,zbk,hy]
   rcases zeb hok hy with ⟨e1,e2⟩ | ⟨e1,q,n,e2⟩
   ·rw [hval,e2]
    refine ⟨hgp _ _ _ _ _ w,?_⟩
    simp [binOp,Op.equal,Op.maxDepth,V.conc,V1.conc,Lf.conc,Alt.conc,zaV w 9999 t _ hpt,hc,e1]
   ·rw [hval,e2]
    refine ⟨hgp _ _ _ _ _ w,?_⟩
    simp [binOp,Op.equal,Op.maxDepth,V.conc,V1.conc,Lf.conc,Alt.conc,zaV w 9999 t _ hpt,hc,e1]
  ·exact zac
 ·rename_i a l
  refine zaa (zad (Q:=fun k=>tk P t=some k) fun a h=>h) fun k hk=>?_
  split
  ·refine zaa (zhC (V1.good_one.1 hx)) fun r ⟨c,hr,hc,hok⟩=>zab ⟨by rw [hr];exact V1.good_one.2 trivial,fun ρ w xo yo=>?_⟩
   subst hr
   obtain ⟨h0,h1⟩:=V1.good_one.1 hx
   obtain ⟨y,hy⟩:=Option.isSome_iff_exists.1 h1
   have hpt:=zig hk
   have hval:(V.s (.one (.alt a l))).conc ν ρ=y.conc ρ:=by simp only [V.conc,V1.conc,Lf.conc,zbk,hy]
   rcases zeb hok hy with ⟨e1,e2⟩ | ⟨e1,q,n,e2⟩
   ·rw [hval,e2]
    refine ⟨hgp _ _ _ _ _ w,?_⟩
    simp [binOp,Op.equal,Op.maxDepth,V.conc,V1.conc,Lf.conc,Alt.conc,zaV w 9999 t _ hpt,hc,e1]
   ·rw [hval,e2]
    refine ⟨hgp _ _ _ _ _ w,?_⟩
    simp [binOp,Op.equal,Op.maxDepth,V.conc,V1.conc,Lf.conc,Alt.conc,zaV w 9999 t _ hpt,hc,e1]
  ·exact zac
 ·refine zae (fun _=>zac) (fun hgt=>?_)
  refine zaa (ziJ 8 t _ _ hx hy) fun r hr=>zab ⟨V1.good_one.2 trivial,fun ρ w xo yo=>⟨?_,?_⟩⟩
  ·exact run_eqGuard_agg w _ t xo yo _ _ (by simpa using hgt)
  ·have:=hr ρ 9992 w
   simp only [V.conc,V1.conc] at this ⊢
   rw [run_eql_struct,this]
   rfl
 ·refine zae (fun _=>zac) (fun hgt=>?_)
  refine zaa (ziJ 8 t _ _ hx hy) fun r hr=>zaa zeS fun r2 hr2=>zab ⟨V1.good_one.2 trivial,fun ρ w xo yo=>⟨?_,?_⟩⟩
  ·exact run_eqGuard_agg w _ t xo yo _ _ (by simpa using hgt)
  ·have:=hr ρ 9992 w
   simp only [V.conc,V1.conc] at this ⊢
   rw [run_neq_struct,this]
   simp [Lf.conc,hr2]
 ·exact znG
 ·exact zac
end
end Go.Sx
namespace Go.Sx
open Go.RowKit
section
variable {P:Program} {I:World→Prop} {S:Sigs} {F:FEnv} {E:Env} {ν:Nat→DV}
theorem zfI {ρ:Nat→Loc} : ∀ (l:List Lf) (cs:List Lf) (k o:Nat) (A:Array Value),A.toList=cs.map (Lf.conc ν ρ) →
  (((l.map (Lf.conc ν ρ)).zipIdx k).foldl (fun (cs:Array Value) (p:Value×Nat)=>cs.setIfInBounds (o+p.2) p.1) A).toList=(zcq cs (o+k) l).map (Lf.conc ν ρ)
 | [],cs,k,o,A,h=>by simpa [zcq] using h
 | c::l,cs,k,o,A,h=>by
  simp only [List.map_cons,List.zipIdx_cons,List.foldl_cons,zcq]
  rw [zfI l (cs.set (o+k) c) (k+1) o _ (by simp [h,List.map_set])]
  rfl
theorem zfJ:∀ {l cs:List Lf} {o:Nat},(∀ x∈cs,Lf.good ν x)→(∀ x∈l,Lf.good ν x)→∀ x∈zcq cs o l,Lf.good ν x
 | [],cs,o,h,_=>h
 | c::l,cs,o,h,h2=>zfJ (l:=l) (fun x hx=>by
   rcases List.mem_or_eq_of_mem_set hx with hx | rfl
   ·exact h x hx
   ·exact h2 x (by simp)) (fun x hx=>h2 x (List.mem_cons_of_mem _ hx))
theorem V1.cells_conc {v:V1} (hok:v.cells.all Lf.ok=true) (ρ:Nat→Loc):(v.conc ν ρ).cells=(v.cells.map (Lf.conc ν ρ)).toArray:=by
 cases v with
 | one l =>
  have h1:(l.conc ν ρ).oneCell'=true:=Lf.ok_conc (by simpa [V1.cells] using hok) ρ
  exact zgN h1
 | agg l=>rfl
theorem zfu {place:Nat→Option (Nat×Nat)} {place':Nat→Option (Nat×Nat)} (hp:∀ i,place' i=place i) {ρ:Nat→Loc} : ∀ (ps:List (Nat×V1)) (cs r:List Lf) (A:Array Value),
  A.toList=cs.map (Lf.conc ν ρ)→zgu place cs ps=some r →
  ∃ B,Instr.fill place' A (ps.map fun p=>(p.1,p.2.conc ν ρ))=some B∧B.toList=r.map (Lf.conc ν ρ)
 | [],cs,r,A,h,hf=>by simp [zgu] at hf;subst hf;exact ⟨A,rfl,h⟩
 | p::ps,cs,r,A,h,hf=>by
  simp only [zgu] at hf
  split at hf
  ·cases hf
  ·rename_i o sz hpl
   split at hf
   ·rename_i hc
    simp only [Bool.and_eq_true] at hc
    obtain ⟨⟨h1,h2⟩,h3⟩:=hc
    have h1:=Nat.eq_of_beq_eq_true h1
    have h2:=Nat.le_of_ble_eq_true h2
    have hcells:=V1.cells_conc (ν:=ν) h3 ρ
    have hA:A.size=cs.length:=by rw [←Array.length_toList,h];simp
    simp only [List.map_cons,Instr.fill,hp,hpl,hcells]
    rw [if_neg (by simp;omega)]
    refine zfu hp ps _ r _ ?_ hf
    have:=zfI (ν:=ν) (ρ:=ρ) p.2.cells cs 0 o A h
    rw [Nat.add_zero] at this
    rw [←this,←Array.foldl_toList]
    simp
   ·cases hf
theorem zhD {place:Nat→Option (Nat×Nat)} : ∀ (ps:List (Nat×V1)) (cs r:List Lf),(∀ x∈cs,Lf.good ν x)→(∀ p∈ps,p.2.good ν)→zgu place cs ps=some r→∀ x∈r,Lf.good ν x
 | [],cs,r,h,_,hf=>by simp [zgu] at hf;subst hf;exact h
 | p::ps,cs,r,h,hg,hf=>by
  simp only [zgu] at hf
  split at hf
  ·cases hf
  ·split at hf
   ·exact zhD ps _ r (zfJ h (hg p (by simp))) (fun q hq=>hg q (List.mem_cons_of_mem _ hq)) hf
   ·cases hf
def ext (ρ:Nat→Loc) (n:Nat) (x:Loc):Nat→Loc:=fun j=>if j=n then x else ρ j
theorem zbK (ρ:Nat→Loc) (n:Nat) (x:Loc):ext ρ n x n=x:=by simp [ext]
theorem zbQ {ρ:Nat→Loc} {n j:Nat} {x:Loc} (h:j<n):ext ρ n x j=ρ j:=by simp [ext];intro e;omega
theorem Lf.conc_ext {ρ:Nat→Loc} {n:Nat} {x:Loc} {l:Lf} (h:l.lt n=true):l.conc ν (ext ρ n x)=l.conc ν ρ:=by
 exact Lf.keep_spec (fun k hk=>zbQ hk) h
theorem HS.push {ρ:Nat→Loc} {hp:List (Option Blk)} {w w':World} (h:HS E ν ρ hp w) (hlt:hpLt hp=true) (hb:Below w.heap.size w w') {bk:Blk} {r:Loc}
  (hrel:BlkRel E ν (ext ρ hp.length r) w' r bk)
  (hap:∀ j b',nth hp j=some b'→r.nil=false→(ρ j).nil=false→(bk.own=true→∀ b,bk.foot w' r b→¬ b'.rfoot w (ρ j) b)∧(b'.own=true→∀ b,b'.foot w (ρ j) b→¬ bk.rfoot w' r b))
  (hold:r.nil=true∨OldB E.W E.V E.w0.heap.size bk.own (bk.foot w' r) (bk.rfoot w' r)):HS E ν (ext ρ hp.length r) (hp++[some bk]) w':=by
 have hcase:∀ j b',nth (hp++[some bk]) j=some b'→(nth hp j=some b'∧j<hp.length)∨(j=hp.length∧b'=bk):=by
  intro j b' hj
  rw [zaE] at hj
  split at hj
  ·exact .inl ⟨hj,zaY hj⟩
  ·right
   have:j-hp.length=0:=by
    cases hk:j-hp.length with
    | zero=>rfl
    | succ k=>rw [hk] at hj;cases k<;>cases hj
   rw [this] at hj
   cases hj
   exact ⟨by omega,rfl⟩
 have hfe:∀ j b',nth hp j=some b'→(ρ j).nil=false→∀ b,b'.foot w' (ρ j) b↔b'.foot w (ρ j) b:=fun j b' hj hn b =>
  (h.heap.blk j b' hj).foot_eq hn (fun _ hf=>hb.block _ ((h.heap.blk j b' hj).lt hn hf)) b
 have hre:∀ j b',nth hp j=some b'→(ρ j).nil=false→∀ b,b'.rfoot w' (ρ j) b↔b'.rfoot w (ρ j) b:=fun j b' hj hn b =>
  (h.heap.blk j b' hj).rfoot_eq hn (fun _ hf=>hb.block _ ((h.heap.blk j b' hj).lt hn hf)) b
 refine ⟨⟨fun j b' hj=>?_,fun j j' b1 b2 hj ho hj' hne hn1 hn2 b hf1 hf2=>?_⟩,fun j b' hj=>?_,h.fr.trans (Fr.of_below hb),by rw [List.length_append];have:=h.len;omega,fun j hj=>by rw [zbQ (by have:=h.len;omega)];exact h.keep j hj⟩
 ·rcases hcase j b' hj with ⟨hj,hjl⟩ | ⟨rfl,rfl⟩
  ·rw [zbQ hjl]
   exact (((h.heap.blk j b' hj).of_block hb.size (fun hn _ hf=>hb.block _ ((h.heap.blk j b' hj).lt hn hf))).keep (fun k hk=>zbQ hk) (zan hlt hj))
  ·rw [zbK]
   exact hrel
 ·rcases hcase j b1 hj with ⟨kj,hjl⟩ | ⟨e1,e2⟩
  ·rw [zbQ hjl] at hn1 hf1
   have hf1:=(hfe j b1 kj hn1 b).1 hf1
   rcases hcase j' b2 hj' with ⟨kj',hjl'⟩ | ⟨e3,e4⟩
   ·rw [zbQ hjl'] at hn2 hf2
    exact h.heap.apart j j' b1 b2 kj ho kj' hne hn1 hn2 b hf1 ((hre j' b2 kj' hn2 b).1 hf2)
   ·subst e3
    rw [zbK] at hn2 hf2
    rw [e4] at hf2
    exact (hap j b1 kj hn2 hn1).2 ho b hf1 hf2
  ·rcases hcase j' b2 hj' with ⟨kj',hjl'⟩ | ⟨e3,e4⟩
   ·subst e1
    rw [zbQ hjl'] at hn2 hf2
    rw [zbK] at hn1 hf1
    rw [e2] at hf1
    exact (hap j' b2 kj' hn1 hn2).1 (by rw [←e2];exact ho) b hf1 ((hre j' b2 kj' hn2 b).1 hf2)
   ·exact absurd (e1.trans e3.symm) hne
 ·rcases hcase j b' hj with ⟨hj,hjl⟩ | ⟨rfl,rfl⟩
  ·rw [zbQ hjl]
   cases hn:(ρ j).nil with
   | true=>exact .inl rfl
   | false =>
    rcases h.old j b' hj with h1 | h1
    ·rw [hn] at h1;cases h1
    ·exact .inr ⟨fun o b hf=>h1.wr o b ((hfe j b' hj hn b).1 hf),fun b hf=>h1.rd b ((hre j b' hj hn b).1 hf)⟩
  ·rw [zbK];exact hold
theorem HS.freshO {ρ:Nat→Loc} {hp:List (Option Blk)} {w w':World} (h:HS E ν ρ hp w) (hlt:hpLt hp=true) (hb:Below w.heap.size w w') {bk:Blk} {r:Loc}
  (hrel:BlkRel E ν (ext ρ hp.length r) w' r bk) (hr:r.nil=true∨∀ b,bk.rfoot w' r b→w.heap.size≤b):HS E ν (ext ρ hp.length r) (hp++[some bk]) w':=by
 refine h.push hlt hb hrel (fun j b' hj hn hn'=>⟨fun _ b hf1 hf2=>?_,fun _ b hf1 hf2=>?_⟩) ?_
 ·have:=(h.heap.blk j b' hj).lt hn' hf2
  rcases hr with hr | hr
  ·rw [hn] at hr;cases hr
  ·have:=hr b (hrel.rd hn hf1);omega
 ·have:=(h.heap.blk j b' hj).lt hn' ((h.heap.blk j b' hj).rd hn' hf1)
  rcases hr with hr | hr
  ·rw [hn] at hr;cases hr
  ·have:=hr b hf2;omega
 ·rcases hr with hr | hr
  ·exact .inl hr
  ·cases hn:r.nil with
   | true=>exact .inl rfl
   | false=>exact .inr ⟨fun _ b hf=>.inl (Nat.le_trans h.fr.size (hr b (hrel.rd hn hf))),fun b hf=>.inl (Nat.le_trans h.fr.size (hr b hf))⟩
def Blk.plain:Blk→Bool
 | .obj _ _ _=>false
 | .l _ _ _ _=>false
 | _=>true
theorem Blk.plain_foot {bk:Blk} (h:bk.plain=true) (w:World) (r:Loc) (b:Nat):bk.foot w r b↔b=r.blk:=by
 cases bk with
 | c=>exact Iff.rfl
 | v=>exact Iff.rfl
 | m=>exact Iff.rfl
 | l=>cases h
 | obj=>cases h
theorem Blk.plain_rfoot {bk:Blk} (h:bk.plain=true) (w:World) (r:Loc) (b:Nat):bk.rfoot w r b↔b=r.blk:=by
 cases bk with
 | c=>exact Iff.rfl
 | v=>exact Iff.rfl
 | m=>exact Iff.rfl
 | l=>cases h
 | obj=>cases h
theorem Blk.plain_foots {bk:Blk} (h:bk.plain=true) (w:World) (r:Loc):bk.foot w r=(fun b=>b=r.blk)∧bk.rfoot w r=fun b=>b=r.blk:=by
 cases bk with
 | c=>exact ⟨rfl,rfl⟩
 | v=>exact ⟨rfl,rfl⟩
 | m=>exact ⟨rfl,rfl⟩
 | l=>cases h
 | obj=>cases h
theorem HS.pushP {ρ:Nat→Loc} {hp:List (Option Blk)} {w w':World} (h:HS E ν ρ hp w) (hlt:hpLt hp=true) (hb:Below w.heap.size w w') {bk:Blk} {r:Loc}
  (hrel:BlkRel E ν (ext ρ hp.length r) w' r bk)
  (hap:∀ j b',nth hp j=some b'→r.nil=false→(ρ j).nil=false→(bk.own=true→¬ b'.rfoot w (ρ j) r.blk)∧(b'.own=true→¬ b'.foot w (ρ j) r.blk))
  (hold:r.nil=true∨E.w0.heap.size≤r.blk∨E.W r.blk∨(bk.own=false∧E.V r.blk)) (hpl:bk.plain=true:=by rfl):HS E ν (ext ρ hp.length r) (hp++[some bk]) w':=by
 refine h.push hlt hb hrel (fun j b' hj hn hn'=>⟨fun o b hf1 hf2=>?_,fun o b hf1 hf2=>?_⟩) ?_
 ·have:=(Blk.plain_foot hpl _ _ _).1 hf1
  subst this
  exact (hap j b' hj hn hn').1 o hf2
 ·have:=(Blk.plain_rfoot hpl _ _ _).1 hf2
  subst this
  exact (hap j b' hj hn hn').2 o hf1
 ·rcases hold with h | h
  ·exact .inl h
  ·rw [(Blk.plain_foots hpl _ _).1,(Blk.plain_foots hpl _ _).2]
   exact .inr (OldB.plain.2 h)
theorem HS.oldP {ρ:Nat→Loc} {hp:List (Option Blk)} {w:World} (h:HS E ν ρ hp w) {b:Nat} {bk:Blk} (hbk:nth hp b=some bk) (hpl:bk.plain=true:=by rfl):(ρ b).nil=true∨E.w0.heap.size≤(ρ b).blk∨E.W (ρ b).blk∨(bk.own=false∧E.V (ρ b).blk):=by
 rcases h.old b bk hbk with g | g
 ·exact .inl g
 ·rw [(Blk.plain_foots hpl _ _).1,(Blk.plain_foots hpl _ _).2] at g
  exact .inr (OldB.plain.1 g)
theorem HS.fresh {ρ:Nat→Loc} {hp:List (Option Blk)} {w w':World} (h:HS E ν ρ hp w) (hlt:hpLt hp=true) (hb:Below w.heap.size w w') {bk:Blk} {r:Loc}
  (hrel:BlkRel E ν (ext ρ hp.length r) w' r bk) (hr:r.nil=true∨w.heap.size≤r.blk) (hpl:bk.plain=true:=by rfl):HS E ν (ext ρ hp.length r) (hp++[some bk]) w':=by
 refine h.freshO hlt hb hrel ?_
 rcases hr with hr | hr
 ·exact .inl hr
 ·exact .inr fun b hf=>by rw [(Blk.plain_rfoot hpl _ _ _).1 hf];exact hr
theorem HS.new {ρ:Nat→Loc} {hp:List (Option Blk)} {w:World} (h:HS E ν ρ hp w) (hlt:hp.all (zao (Blk.lt hp.length))=true) {cs:List Lf} (hcs:cs.all (Lf.lt hp.length)=true) (hg:∀ l∈cs,Lf.good ν l) (el:TypeId) :
  HS E ν (ext ρ hp.length ⟨w.heap.size,0,false,0,0,none⟩) (hp++[some (.c true (cs.map some))]) (w.alloc (.cells (cs.map (Lf.conc ν ρ)).toArray el)):=by
 have hb:Below w.heap.size w (w.alloc (.cells (cs.map (Lf.conc ν ρ)).toArray el)):=⟨rfl,rfl,rfl,by simp,fun k hk=>Below.heap_alloc _ _ _ hk⟩
 refine h.fresh hlt hb ?_ (.inr (Nat.le_refl _))
 show CBlk ν (ext ρ hp.length ⟨w.heap.size,0,false,0,0,none⟩) (w.alloc (.cells (cs.map (Lf.conc ν ρ)).toArray el)) ⟨w.heap.size,0,false,0,0,none⟩ true (cs.map some)
 refine ⟨rfl,by simp,fun i l hl=>?_,fun _ i hi=>?_,fun _ o=>World.frozen?_alloc_new _ _ _ _⟩
 ·rw [za3] at hl
  have hm:=List.mem_of_getElem? hl
  refine ⟨hg l hm,?_⟩
  rw [Lf.conc_ext (List.all_eq_true.1 hcs l hm)]
  simp only [Nat.zero_add]
  rw [World.cell?_alloc_new]
  simp [hl]
 ·simp only [Nat.zero_add]
  rw [World.cell?_alloc_new,World.frozen?_alloc_new]
  simp at hi
  simp [hi]
theorem HS.updO {ρ:Nat→Loc} {hp:List (Option Blk)} {w w':World} (h:HS E ν ρ hp w) {b:Nat} {bk nb:Blk} (hbk:nth hp b=some bk) (ho:bk.own=true)
  (hb:BlkRel E ν ρ w' (ρ b) nb) (hn:(ρ b).nil=false) (hs:w.heap.size≤w'.heap.size) (h1:w'.os=w.os) (h2:w'.tape=w.tape) (h3:w'.output=w.output) (hk:∀ k,k<w.heap.size→¬ bk.foot w (ρ b) k→w'.heap[k]? = w.heap[k]?)
  (hnf:∀ k,nb.foot w' (ρ b) k→bk.foot w (ρ b) k∨w.heap.size≤k) (hnr:∀ k,nb.rfoot w' (ρ b) k→bk.rfoot w (ρ b) k∨w.heap.size≤k) :
  HS E ν ρ (zaw (some nb) hp b) w':=by
 have hlt:=zaY hbk
 have hcase:∀ j bk',nth (zaw (some nb) hp b) j=some bk'→(j=b∧bk'=nb)∨(j≠b∧nth hp j=some bk'):=by
  intro j bk' hj
  by_cases hjb:b=j
  ·subst hjb
   rw [zau,if_pos hlt] at hj
   cases hj;exact .inl ⟨rfl,rfl⟩
  ·rw [zay _ _ _ _ hjb] at hj
   exact .inr ⟨fun e=>hjb e.symm,hj⟩
 have hstay:∀ j bk',j≠b→nth hp j=some bk'→(ρ j).nil=false→∀ k,bk'.rfoot w (ρ j) k→w'.heap[k]? = w.heap[k]?:=fun j bk' hne hj hnj k hf =>
  hk k ((h.heap.blk j bk' hj).lt hnj hf) fun hf2=>h.heap.apart b j bk bk' hbk ho hj (Ne.symm hne) hn hnj k hf2 hf
 have hfe:∀ j bk',j≠b→nth hp j=some bk'→(ρ j).nil=false→∀ k,bk'.foot w' (ρ j) k↔bk'.foot w (ρ j) k:=fun j bk' hne hj hnj k=>(h.heap.blk j bk' hj).foot_eq hnj (hstay j bk' hne hj hnj) k
 have hre:∀ j bk',j≠b→nth hp j=some bk'→(ρ j).nil=false→∀ k,bk'.rfoot w' (ρ j) k↔bk'.rfoot w (ρ j) k:=fun j bk' hne hj hnj k=>(h.heap.blk j bk' hj).rfoot_eq hnj (hstay j bk' hne hj hnj) k
 refine ⟨⟨fun j bk' hj=>?_,fun j j' bk1 bk2 hj ho1 hj' hne hn1 hn2 k hf1 hf2=>?_⟩,fun j bk' hj=>?_,?_,by rw [zah];exact h.len,h.keep⟩
 ·rcases hcase j bk' hj with ⟨rfl,rfl⟩ | ⟨hne,hj⟩
  ·exact hb
  ·exact (h.heap.blk j bk' hj).of_block hs (hstay j bk' hne hj)
 ·rcases hcase j bk1 hj with ⟨e1,e2⟩ | ⟨hq1,k1⟩
  ·rcases hcase j' bk2 hj' with ⟨e3,e4⟩ | ⟨hq2,k2⟩
   ·exact absurd (e1.trans e3.symm) hne
   ·subst e1
    rw [e2] at hf1
    have hf2:=(hre j' bk2 hq2 k2 hn2 k).1 hf2
    rcases hnf k hf1 with g | g
    ·exact h.heap.apart j j' bk bk2 hbk ho k2 hne hn1 hn2 k g hf2
    ·have:=(h.heap.blk j' bk2 k2).lt hn2 hf2;omega
  ·have hf1:=(hfe j bk1 hq1 k1 hn1 k).1 hf1
   rcases hcase j' bk2 hj' with ⟨e3,e4⟩ | ⟨hq2,k2⟩
   ·subst e3
    rw [e4] at hf2
    rcases hnr k hf2 with g | g
    ·exact h.heap.apart j j' bk1 bk k1 ho1 hbk hne hn1 hn2 k hf1 g
    ·have:=(h.heap.blk j bk1 k1).lt hn1 ((h.heap.blk j bk1 k1).rd hn1 hf1);omega
   ·exact h.heap.apart j j' bk1 bk2 k1 ho1 k2 hne hn1 hn2 k hf1 ((hre j' bk2 hq2 k2 hn2 k).1 hf2)
 ·rcases hcase j bk' hj with ⟨rfl,rfl⟩ | ⟨hne,hj⟩
  ·rcases h.old j bk hbk with g | g
   ·exact .inl g
   ·refine .inr ⟨fun _ k hf=>?_,fun k hf=>?_⟩
    ·rcases hnf k hf with g2 | g2
     ·exact g.wr ho k g2
     ·exact .inl (Nat.le_trans h.fr.size g2)
    ·rcases hnr k hf with g2 | g2
     ·exact g.rd k g2
     ·exact .inl (Nat.le_trans h.fr.size g2)
  ·cases hnj:(ρ j).nil with
   | true=>exact .inl rfl
   | false =>
    rcases h.old j bk' hj with g | g
    ·rw [hnj] at g;cases g
    ·exact .inr ⟨fun o k hf=>g.wr o k ((hfe j bk' hne hj hnj k).1 hf),fun k hf=>g.rd k ((hre j bk' hne hj hnj k).1 hf)⟩
 ·refine ⟨h1.trans h.fr.os,h2.trans h.fr.tape,h3.trans h.fr.output,Nat.le_trans h.fr.size hs,fun k hkl hW=>?_⟩
  have hkb:¬ bk.foot w (ρ b) k:=by
   intro e
   rcases h.old b bk hbk with h' | h'
   ·rw [hn] at h';cases h'
   ·rcases h'.wr ho k e with h' | h'
    ·omega
    ·exact hW h'
  rw [hk k (Nat.lt_of_lt_of_le hkl h.fr.size) hkb];exact h.fr.block k hkl hW
theorem HS.upd {ρ:Nat→Loc} {hp:List (Option Blk)} {w w':World} (h:HS E ν ρ hp w) {b:Nat} {bk nb:Blk} (hbk:nth hp b=some bk) (ho:bk.own=true) (hnb:nb.own=true)
  (hb:BlkRel E ν ρ w' (ρ b) nb) (hn:(ρ b).nil=false) (hs:w'.heap.size=w.heap.size) (h1:w'.os=w.os) (h2:w'.tape=w.tape) (h3:w'.output=w.output) (hk:∀ k,k≠(ρ b).blk→w'.heap[k]? = w.heap[k]?)
  (hp1:bk.plain=true:=by rfl) (hp2:nb.plain=true:=by rfl):HS E ν ρ (zaw (some nb) hp b) w' :=
 have _:=hnb
 h.updO hbk ho hb hn (by omega) h1 h2 h3 (fun k _ hf=>hk k fun e=>hf ((Blk.plain_foot hp1 _ _ _).2 e)) (fun k hf=>.inl ((Blk.plain_foot hp1 _ _ _).2 ((Blk.plain_foot hp2 _ _ _).1 hf))) fun k hf=>.inl ((Blk.plain_rfoot hp1 _ _ _).2 ((Blk.plain_rfoot hp2 _ _ _).1 hf))
theorem zjC {α:Type} {p:Option α→Bool} (hp:p none=true):∀ {l:List (Option α)} {n:Nat},l.all p=true→(zaw none l n).all p=true
 | [],_,_=>rfl
 | x::l,0,h=>by
  simp only [List.all_cons,Bool.and_eq_true] at h
  simp [zaw,hp,h.2]
 | x::l,n+1,h=>by
  simp only [List.all_cons,Bool.and_eq_true] at h
  simp [zaw,h.1,zjC hp h.2]
theorem zdP {hp:List (Option Blk)} {b:Nat} (h:hpLt hp=true):hpLt (zaw none hp b)=true:=by
 unfold hpLt at *
 rw [zah]
 exact zjC rfl h
theorem zaT {α:Type} {l:List (Option α)} {b j:Nat} {x:α} (h:nth (zaw none l b) j=some x):j≠b∧nth l j=some x:=by
 by_cases hj:b=j
 ·subst hj
  rw [zau] at h
  split at h<;>cases h
 ·rw [zay _ _ _ _ hj] at h
  exact ⟨fun e=>hj e.symm,h⟩
theorem HS.killw {ρ:Nat→Loc} {hp:List (Option Blk)} {w w':World} (h:HS E ν ρ hp w) {b:Nat} {bk:Blk} (hbk:nth hp b=some bk) (ho:bk.own=true) (hn:(ρ b).nil=false)
  (hs:w'.heap.size=w.heap.size) (h1:w'.os=w.os) (h2:w'.tape=w.tape) (h3:w'.output=w.output) (hk:∀ k,k≠(ρ b).blk→w'.heap[k]? = w.heap[k]?) (hpl:bk.plain=true:=by rfl):HS E ν ρ (zaw none hp b) w':=by
 have hstay:∀ j bk',j≠b→nth hp j=some bk'→(ρ j).nil=false→∀ k,bk'.rfoot w (ρ j) k→w'.heap[k]? = w.heap[k]?:=fun j bk' hne hj hnj k hf =>
  hk k fun e=>h.heap.apart b j bk bk' hbk ho hj (Ne.symm hne) hn hnj k ((Blk.plain_foot hpl _ _ _).2 e) hf
 have hfe:∀ j bk',j≠b→nth hp j=some bk'→(ρ j).nil=false→∀ k,bk'.foot w' (ρ j) k↔bk'.foot w (ρ j) k:=fun j bk' hne hj hnj k=>(h.heap.blk j bk' hj).foot_eq hnj (hstay j bk' hne hj hnj) k
 have hre:∀ j bk',j≠b→nth hp j=some bk'→(ρ j).nil=false→∀ k,bk'.rfoot w' (ρ j) k↔bk'.rfoot w (ρ j) k:=fun j bk' hne hj hnj k=>(h.heap.blk j bk' hj).rfoot_eq hnj (hstay j bk' hne hj hnj) k
 refine ⟨⟨fun j bk' hj=>?_,fun j j' bk1 bk2 hj ho1 hj' hne hn1 hn2 k hf1 hf2=>?_⟩,fun j bk' hj=>?_,?_,by rw [zah];exact h.len,h.keep⟩
 ·obtain ⟨hne,hj⟩:=zaT hj
  exact (h.heap.blk j bk' hj).of_block (by omega) (hstay j bk' hne hj)
 ·obtain ⟨hq1,k1⟩:=zaT hj
  obtain ⟨hq2,k2⟩:=zaT hj'
  exact h.heap.apart j j' bk1 bk2 k1 ho1 k2 hne hn1 hn2 k ((hfe j bk1 hq1 k1 hn1 k).1 hf1) ((hre j' bk2 hq2 k2 hn2 k).1 hf2)
 ·obtain ⟨hne,hj⟩:=zaT hj
  cases hnj:(ρ j).nil with
  | true=>exact .inl rfl
  | false =>
   rcases h.old j bk' hj with g | g
   ·rw [hnj] at g;cases g
   ·exact .inr ⟨fun o k hf=>g.wr o k ((hfe j bk' hne hj hnj k).1 hf),fun k hf=>g.rd k ((hre j bk' hne hj hnj k).1 hf)⟩
 ·refine ⟨h1.trans h.fr.os,h2.trans h.fr.tape,h3.trans h.fr.output,by rw [hs];exact h.fr.size,fun k hkl hW=>?_⟩
  have hkb:k≠(ρ b).blk:=by
   intro e
   rcases h.old b bk hbk with h' | h'
   ·rw [hn] at h';cases h'
   ·rcases h'.wr ho k ((Blk.plain_foot hpl _ _ _).2 e) with h' | h'
    ·omega
    ·exact hW h'
  rw [hk k hkb];exact h.fr.block k hkl hW
theorem HS.kill {ρ : Nat → Loc} {hp : List (Option Blk)} {w : World} (h : HS E ν ρ hp w) (b : Nat) : HS E ν ρ (zaw none hp b) w :=
  ⟨⟨fun j bk' hj => h.heap.blk j bk' (zaT hj).2, fun j j' bk1 bk2 hj ho1 hj' hne hn1 hn2 => h.heap.apart j j' bk1 bk2 (zaT hj).2 ho1 (zaT hj').2 hne hn1 hn2⟩,
   fun j bk' hj => h.old j bk' (zaT hj).2, h.fr, by rw [zah]; exact h.len, h.keep⟩
theorem HS.reloc {ρ ρ':Nat→Loc} {hp:List (Option Blk)} {w:World} (h:HS E ν ρ hp w) (hlt:hpLt hp=true) (hρ:∀ j,j<hp.length→ρ' j=ρ j):HS E ν ρ' hp w:=by
 refine ⟨⟨fun j bk hj=>?_,fun j j' b1 b2 hj ho hj' hne hn1 hn2 b hf1 hf2=>?_⟩,fun j bk hj=>?_,h.fr,h.len,fun j hj=>by rw [hρ j (by have:=h.len;omega)];exact h.keep j hj⟩
 ·rw [hρ j (zaY hj)]
  exact (h.heap.blk j bk hj).keep hρ (zan hlt hj)
 ·rw [hρ j (zaY hj)] at hn1 hf1
  rw [hρ j' (zaY hj')] at hn2 hf2
  exact h.heap.apart j j' b1 b2 hj ho hj' hne hn1 hn2 b hf1 hf2
 ·rw [hρ j (zaY hj)]
  exact h.old j bk hj
end
end Go.Sx
