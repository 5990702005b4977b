/- Blocks of memory: what is known of them; loads. -/
import Derived.Test.YtiabiimoalkmjaaD0
namespace Go.Sx
open Go.RowKit
def aD (E:Env) (O:Nat->DV) (U:Nat->Loc) (w:World) (r:Loc):ag->Prop
 | .c own cs=>cK O U w r own cs
 | .v own ts a=>bf E w r own ts (a.cells O)
 | .obj o k a=>fW o k w r (a.cells O)
 | .l o f ts a=>eu E w r o f ts (a.cells O)
 | .m _ kt vt cs=>eS O U w r kt vt cs
structure eT (E:Env) (O:Nat->DV) (U:Nat->Loc) (hp:List (Option ag)) (w:World):Prop where
 aj:∀ j bk,nth hp j=some bk->aD E O U w (U j) bk
 apart:∀ j j' bk aS,nth hp j=some bk->bk.own=true->nth hp j'=some aS->j≠j'->(U j).nil=false->(U j').nil=false->∀ b,bk.aB w (U j) b->¬ aS.av w (U j') b
structure Fr (W:Nat->Prop) (w0 w:World):Prop where
 os:w.os=w0.os
 tape:w.tape=w0.tape
 output:w.output=w0.output
 size:w0.heap.size<=w.heap.size
 block:∀ b,b<w0.heap.size->¬ W b->w.heap[b]? = w0.heap[b]?
theorem Fr.refl (W:Nat->Prop) (w:World):Fr W w w:=⟨rfl,rfl,rfl,Nat.le_refl _,fun _ _ _=>rfl⟩
theorem Fr.trans {W : Nat -> Prop} {a b c : World} (h : Fr W a b) (k : Fr W b c) : Fr W a c :=
  ⟨k.os.trans h.os, k.tape.trans h.tape, k.output.trans h.output, Nat.le_trans h.size k.size,
   fun i hi hw => (k.block i (Nat.lt_of_lt_of_le hi h.size) hw).trans (h.block i hi hw)⟩
theorem Fr.bK {W:Nat->Prop} {w w':World} (h:Below w.heap.size w w'):Fr W w w' :=
 ⟨h.os,h.tape,h.output,h.size,fun b hb _=>h.block b hb⟩
theorem Fr.below {w w':World} (h:Fr (fun _=>False) w w'):Below w.heap.size w w' :=
 ⟨h.os,h.tape,h.output,h.size,fun b hb=>h.block b hb (fun f=>f)⟩
theorem Fr.weaken {W W':Nat->Prop} {w w':World} (h:Fr W w w') (hw:∀ b,W b->W' b):Fr W' w w' :=
 ⟨h.os,h.tape,h.output,h.size,fun b hb hn=>h.block b hb (fun x=>hn (hw b x))⟩
structure rQ (W V:Nat->Prop) (n:Nat) (own:Bool) (ft rf:Nat->Prop):Prop where
 wr:own=true->∀ b,ft b->n<=b\/W b
 rd:∀ b,rf b->n<=b\/W b\/V b
theorem rQ.plain {W V:Nat->Prop} {n q:Nat} {own:Bool} : rQ W V n own (fun b=>b=q) (fun b=>b=q)↔(n<=q\/W q\/(own=false/\V q)):=by
 constructor
 ·intro h
  cases own with
  | true =>
   rcases h.wr rfl q rfl with h | h
   ·exact .inl h
   ·exact .inr (.inl h)
  | false =>
   rcases h.rd q rfl with h | h | h
   ·exact .inl h
   ·exact .inr (.inl h)
   ·exact .inr (.inr ⟨rfl,h⟩)
 ·intro h
  refine ⟨fun ho b hb=>?_,fun b hb=>?_⟩
  ·subst hb
   rcases h with h | h | h
   ·exact .inl h
   ·exact .inr h
   ·rw [h.1] at ho;cases ho
  ·subst hb
   rcases h with h | h | h
   ·exact .inl h
   ·exact .inr (.inl h)
   ·exact .inr (.inr h.2)
def jx (W V:Nat->Prop) (w0 w:World) (U:Nat->Loc) (hp:List (Option ag)):Prop :=
 ∀ j bk,nth hp j=some bk->(U j).nil=true\/rQ W V w0.heap.size bk.own (bk.aB w (U j)) (bk.av w (U j))
section
variable {P:Program} {F:aC} {E:Env} {O:Nat->DV} {U:Nat->Loc} {w:World}
theorem aD.lt {r:Loc} {bk:ag} (h:aD E O U w r bk) (hn:r.nil=false) {b:Nat} (hb:bk.av w r b):b<w.heap.size:=by
 cases bk with
 | c o cs =>
  have hb:b=r.aj:=hb
  rw [hb];exact cK.lt h
 | v o ts a =>
  have hb:b=r.aj:=hb
  rw [hb];exact bf.lt h hn
 | obj o k a =>
  obtain ⟨_,h⟩:=fW.rel h hn
  exact (bQ _).lt h hb
 | l o f ts a =>
  have hb:b=r.aj:=hb
  rw [hb];exact (eu.row h).lt hn
 | m o kt vt cs =>
  have hb:b=r.aj:=hb
  rw [hb];exact eS.lt h
theorem aD.rd {r:Loc} {bk:ag} (h:aD E O U w r bk) (hn:r.nil=false) {b:Nat} (hb:bk.aB w r b):bk.av w r b:=by
 cases bk with
 | c o cs=>exact hb
 | v o ts a=>exact hb
 | obj o k a =>
  obtain ⟨_,h⟩:=fW.rel h hn
  exact (bQ _).sub h hb
 | l o f ts a=>exact hb.1
 | m o kt vt cs=>exact hb
theorem aD.ex {r:Loc} {bk:ag} (h:aD E O U w r bk) (hn:r.nil=false) (ho:bk.own=true) (hs:bk.shr=false) {b:Nat} (hb:bk.av w r b):bk.aB w r b:=by
 cases bk with
 | c o cs=>exact hb
 | v o ts a=>exact hb
 | obj o k a =>
  have ho:o=true:=ho
  subst ho
  simp only [ag.shr,Bool.true_and,Bool.not_eq_eq_eq_not,Bool.not_false] at hs
  obtain ⟨_,h⟩:=fW.rel h hn
  exact znG hs h hb
 | l o f ts a =>
  have ho:o=true:=ho
  have hs:o=false:=hs
  rw [ho] at hs;cases hs
 | m o kt vt cs=>exact hb
theorem aD.dU {w w':World} {r:Loc} {bk:ag} (h:aD E O U w r bk) (hn:r.nil=false) (hb:∀ b,bk.av w r b->w'.heap[b]? = w.heap[b]?) (b:Nat):bk.aB w' r b↔bk.aB w r b:=by
 cases bk with
 | c o cs=>exact Iff.rfl
 | v o ts a=>exact Iff.rfl
 | obj o k a =>
  obtain ⟨_,h⟩:=fW.rel h hn
  exact (bQ _).fP h hb b
 | l o f ts a=>exact Iff.rfl
 | m o kt vt cs=>exact Iff.rfl
theorem aD.cN {w w':World} {r:Loc} {bk:ag} (h:aD E O U w r bk) (hn:r.nil=false) (hb:∀ b,bk.av w r b->w'.heap[b]? = w.heap[b]?) (b:Nat):bk.av w' r b↔bk.av w r b:=by
 cases bk with
 | c o cs=>exact Iff.rfl
 | v o ts a=>exact Iff.rfl
 | obj o k a =>
  obtain ⟨_,h⟩:=fW.rel h hn
  exact (bQ _).fh h hb b
 | l o f ts a=>exact Iff.rfl
 | m o kt vt cs=>exact Iff.rfl
theorem bf.dG {w w':World} {r:Loc} {o:Bool} {ts:List LT} {xs:List DV} (h:bf E w r o ts xs) (hs:w.heap.size<=w'.heap.size) (hb:r.nil=false->w'.heap[r.aj]? = w.heap[r.aj]?):bf E w' r o ts xs:=by
 cases hn:r.nil with
 | true =>
  have h0:=h.nil hn
  have hx:xs.length=0:=by rw [h.len,h0.1,Nat.zero_mul]
  exact ⟨h.nil,fun e=>absurd (hn.symm.trans e) (by decide),h.pos,h.len,h.cap,fun i hi=>by omega,fun _ e=>absurd (hn.symm.trans e) (by decide),fun _ e=>absurd (hn.symm.trans e) (by decide)⟩
 | false =>
  have hb:=hb hn
  have hc:∀ i,w'.cell? ⟨r.aj,i,none⟩=w.cell? ⟨r.aj,i,none⟩:=fun i=>World.cell?_of_block (w:=w) hb
  have hf:∀ i,w'.frozen? ⟨r.aj,i,none⟩=w.frozen? ⟨r.aj,i,none⟩:=fun i=>World.frozen?_of_block (w:=w) hb
  exact ⟨h.nil,fun e=>Nat.lt_of_lt_of_le (h.lt e) hs,h.pos,h.len,h.cap,fun i hi=>by rw [hc];exact h.cell i hi,fun ho e i hi=>by rw [hc,hf];exact h.own ho e i hi,fun ho e=>⟨(h.fz ho e).1,fun o=>by rw [hf];exact (h.fz ho e).2 o⟩⟩
theorem aD.dG {w w':World} {r:Loc} {bk:ag} (h:aD E O U w r bk) (hs:w.heap.size<=w'.heap.size) (hb:r.nil=false->∀ b,bk.av w r b->w'.heap[b]? = w.heap[b]?):aD E O U w' r bk:=by
 cases bk with
 | obj o k a=>exact fW.map h fun hn d' h'=>(bQ _).gJ h' (hb hn)
 | c o cs =>
  have h:cK O U w r o cs:=h
  have hb:=hb h.nil r.aj rfl
  have hc:∀ i,w'.cell? ⟨r.aj,i,none⟩=w.cell? ⟨r.aj,i,none⟩:=fun i=>World.cell?_of_block (w:=w) hb
  have hf:∀ i,w'.frozen? ⟨r.aj,i,none⟩=w.frozen? ⟨r.aj,i,none⟩:=fun i=>World.frozen?_of_block (w:=w) hb
  exact ⟨h.nil,Nat.lt_of_lt_of_le h.lt hs,fun i l hl=>by rw [hc];exact h.cell i l hl,fun ho i hi=>by rw [hc,hf];exact h.own ho i hi,fun ho o=>by rw [hf];exact h.fz ho o⟩
 | v o ts a=>exact bf.dG h hs fun hn=>hb hn r.aj rfl
 | l o f ts a =>
  have h:eu E w r o f ts (a.cells O):=h
  exact ⟨h.row.dG hs fun hn=>hb hn r.aj rfl,fun ho hc=>(h.spare ho hc).dG hs fun hn=>hb hn r.aj rfl,h.full⟩
 | m o kt vt cs =>
  have h:eS O U w r kt vt cs:=h
  exact h.congr (hb h.nil r.aj rfl)
theorem eT.bK {hp:List (Option ag)} {w w':World} (h:eT E O U hp w) (hb:Below w.heap.size w w'):eT E O U hp w' :=
 ⟨fun j bk hj=>(h.aj j bk hj).dG hb.size (fun hn _ hf=>hb.block _ ((h.aj j bk hj).lt hn hf)),fun j j' bk aS hj ho hj' hne hn hn' b h1 h2 =>
  h.apart j j' bk aS hj ho hj' hne hn hn' b (((h.aj j bk hj).dU hn (fun _ hf=>hb.block _ ((h.aj j bk hj).lt hn hf)) b).1 h1) (((h.aj j' aS hj').cN hn' (fun _ hf=>hb.block _ ((h.aj j' aS hj').lt hn' hf)) b).1 h2)⟩
theorem jx.congr {W V:Nat->Prop} {w0 w w':World} {hp:List (Option ag)} (ho:jx W V w0 w U hp) (h:eT E O U hp w) (hb:∀ j bk,nth hp j=some bk->(U j).nil=false->∀ b,bk.av w (U j) b->w'.heap[b]? = w.heap[b]?):jx W V w0 w' U hp:=fun j bk hj=>by
 cases hn:(U j).nil with
 | true=>exact .inl rfl
 | false =>
  rcases ho j bk hj with h1 | h1
  ·rw [hn] at h1;cases h1
  ·exact .inr ⟨fun o b hf=>h1.wr o b (((h.aj j bk hj).dU hn (hb j bk hj hn) b).1 hf),fun b hf=>h1.rd b (((h.aj j bk hj).cN hn (hb j bk hj hn) b).1 hf)⟩
theorem s_ (b o k:Nat):(⟨b,o,none⟩:Addr).add k=⟨b,o+k,none⟩:=by
 unfold Addr.add
 split
 ·rename_i h;subst h;rfl
 ·rfl
theorem IK {t:TypeId} {k:TK} {sz:Nat} (hk:tk P t=some k) (ha:oC k=true) (hs:hM P t=some sz) {b o:Nat} {vs:List Value} (hlen:vs.length=sz)
  (hc:∀ j v,vs[j]? = some v->w.cell? ⟨b,o+j,none⟩=some v):(loadVar t ⟨b,o,none⟩).run P w = .ok (.agg vs.toArray) w:=by
 have hl:=run_loadCells_list (P:=P) w ⟨b,o,none⟩ vs (fun j v hv=>by rw [s_];exact hc j v hv)
 rw [hlen] at hl
 simp only [loadVar,Sem.run_bind,FO hk,ha,Result.andThen_ok,if_true,pO hs,hl,Sem.run_pure]
theorem FT {t:TypeId} {k:TK} (hk:tk P t=some k) (ha:¬ oC k=true) {b o:Nat} {v:Value}
  (hc:w.cell? ⟨b,o,none⟩=some v):(loadVar t ⟨b,o,none⟩).run P w = .ok v w:=by
 simp only [loadVar,Sem.run_bind,FO hk,ha,Result.andThen_ok,if_false,Bool.false_eq_true,run_load,hc]
theorem zjg {l:List (Option Lf)} {sz len jI:Nat} {ix:A} (h0:0<=ix.int O) (h1:ix.int O<len):∀ (n base:Nat),
  M.sat F O (MB l base sz len ix jI n) (fun xs=>xs.length=n/\∀ j x,xs[j]? = some x->∀ U,∃ y,nth l (base+j*jI+(ix.int O).toNat*sz)=some y/\x.aa O U=y.aa O U)
 | 0,base=>au ⟨rfl,fun j x h=>by simp at h⟩
 | n+1,base=>by
  unfold MB
  refine bh fun row hrow=>?_
  obtain ⟨r1,r2⟩:=FM hrow
  refine ak (FP r1 h0 h1) fun x hx=>ak (zjg h0 h1 n (base+jI)) fun r hr=>au ⟨by simp [hr.1],fun j x' hj U=>?_⟩
  cases j with
  | zero =>
   simp at hj;subst hj
   obtain ⟨y,hy,he⟩:=hx.2 U
   refine ⟨y,?_,he⟩
   rw [<-r2 _ (by omega)] at hy
   simpa using hy
  | succ j =>
   obtain ⟨y,hy,he⟩:=hr.2 j x' (by simpa using hj) U
   refine ⟨y,?_,he⟩
   rw [<-hy]
   congr 1
   rw [Nat.add_mul]
   omega
theorem Sp {t:TypeId} {k:TK} {sz:Nat} {own:Bool} {cs:List (Option Lf)} {off:bV} (hk:tk P t=some k) (hs:hM P t=some sz) (hg:off.good O) :
  M.sat F O (Fj cs off (oC k) sz) (fun v=>∀ U w r,cK O U w r own cs->v.good O/\(loadVar t ⟨r.aj,r.off+off.val O,none⟩).run P w = .ok (v.aa O U) w):=by
 unfold Fj
 split
 ·rename_i o ha
  refine ak (lg (Q:=fun xs=>rG cs o sz=some xs) fun a h=>h) fun xs hxs=>au fun U w r hb=>?_
  obtain ⟨h1,h2⟩:=Sc hxs
  have hcell:∀ i l,xs[i]? = some l->nth cs (o+i)=some l:=fun i l hl=>by
   rw [h2 i (by have:=(List.getElem?_eq_some_iff.1 hl).1;omega)];exact hl
  refine ⟨V1.aP.2 fun x hx=>?_,?_⟩
  ·obtain ⟨i,hi,rfl⟩:=List.mem_iff_getElem.1 hx
   exact (hb.cell (o+i) _ (hcell i _ (List.getElem?_eq_getElem hi))).1
  ·refine IK hk ha hs (by simpa using h1) fun i v hv=>?_
   rw [List.getElem?_map] at hv
   obtain ⟨l,hl,rfl⟩:=Option.map_eq_some_iff.1 hv
   have:=(hb.cell (o+i) l (hcell i l hl)).2
   simpa [bV.val,Nat.add_assoc] using this
 ·rename_i o ha
  refine bh fun x hx=>?_
  rw [Sb] at hx
  by_cases IE:x.good O
  ·refine ak (zk8 IE) fun y hy=>au fun U w r hb=>?_
   have:=hb.cell o x hx
   exact ⟨V1.ah.2 hy.1,FT hk (by simp [ha]) (by rw [V1.aa,hy.2 U];exact this.2)⟩
  ·exact ak gU fun y _=>au fun U w r hb=>absurd (hb.cell o x hx).1 IE
 ·rename_i base ix sz' len ha
  refine ak (Sd hg.1 hg.2 sz base) fun xs hxs=>au fun U w r hb=>?_
  obtain ⟨h1,h2,h3⟩:=hxs
  refine ⟨V1.aP.2 h2,?_⟩
  refine IK hk ha hs (by simpa using h1) fun i v hv=>?_
  rw [List.getElem?_map] at hv
  obtain ⟨l,hl,rfl⟩:=Option.map_eq_some_iff.1 hv
  obtain ⟨x,y,e1,e2,e3⟩:=h3 U i (by have:=(List.getElem?_eq_some_iff.1 hl).1;omega)
  rw [e1] at hl
  cases hl
  have:=(hb.cell _ y e2).2
  rw [e3,<-this]
  simp only [bV.val]
  congr 2
  omega
 ·rename_i base ix sz' len ha
  refine bh fun row hrow=>?_
  obtain ⟨h1,h2⟩:=FM hrow
  refine ak (FP h1 hg.1 hg.2) fun x hx=>au fun U w r hb=>?_
  obtain ⟨y,hy,he⟩:=hx.2 U
  refine ⟨V1.ah.2 hx.1,FT hk (by simp [ha]) ?_⟩
  rw [<-h2 _ (by have:=hg.1;have:=hg.2;omega)] at hy
  have:=(hb.cell _ y hy).2
  rw [V1.aa,he,<-this]
  simp only [bV.val]
 ·rename_i base ix sz' len hY jI fe ha
  refine ak (zjg hg.1.1 hg.1.2 fe base) fun row hrow=>?_
  refine ak (FP hrow.1 hg.2.1 hg.2.2) fun x hx=>au fun U w r hb=>?_
  obtain ⟨y,hy,he⟩:=hx.2 U
  obtain ⟨z,hz,yT⟩:=hrow.2 _ _ hy U
  refine ⟨V1.ah.2 hx.1,FT hk (by simp [ha]) ?_⟩
  have:=(hb.cell _ z hz).2
  rw [V1.aa,he,yT,<-this]
  simp only [bV.val]
  congr 2
  omega
 ·exact aE
theorem bV.beq_spec {a b:bV} (h:a.beq b=true):a.val O=b.val O/\(b.good O->a.good O):=by
 cases a<;>cases b<;>simp [bV.beq] at h
 ·subst h;exact ⟨rfl,id⟩
 ·rename_i x1 x2 x3 x4 y1 y2 y3 y4
  obtain ⟨⟨⟨rfl,h2⟩,rfl⟩,rfl⟩:=h
  have:=A.aH h2 O
  have e:A.int O x2=A.int O y2:=by simp [A.int,this]
  exact ⟨by simp [bV.val,e],by simp [bV.good,e]⟩
 ·rename_i x1 x2 x3 x4 y1 y2 y3 y4
  obtain ⟨⟨⟨rfl,h2⟩,rfl⟩,h4⟩:=h
  have:=A.aH h2 O
  have e:A.int O x2=A.int O y2:=by simp [A.int,this]
  have e4:A.cells O x4=A.cells O y4:=by simp [A.cells,A.aH h4 O]
  exact ⟨by simp [bV.val,e],by simp [bV.good,e,e4]⟩
 ·rename_i x1 x2 x3 x4 x5 x6 x7 y1 y2 y3 y4 y5 y6 y7
  obtain ⟨⟨⟨⟨⟨⟨rfl,h2⟩,rfl⟩,rfl⟩,h5⟩,rfl⟩,rfl⟩:=h
  have e:A.int O x2=A.int O y2:=by simp [A.int,A.aH h2 O]
  have e5:A.int O x5=A.int O y5:=by simp [A.int,A.aH h5 O]
  exact ⟨by simp [bV.val,e,e5],by simp only [bV.good,e,e5];exact id⟩
 ·rename_i x1 x2 x3 x4 x5 x6 x7 y1 y2 y3 y4 y5 y6 y7
  obtain ⟨⟨⟨⟨⟨⟨rfl,h2⟩,rfl⟩,h4⟩,h5⟩,rfl⟩,rfl⟩:=h
  have e:A.int O x2=A.int O y2:=by simp [A.int,A.aH h2 O]
  have e4:A.cells O x4=A.cells O y4:=by simp [A.cells,A.aH h4 O]
  have e5:A.int O x5=A.int O y5:=by simp [A.int,A.aH h5 O]
  exact ⟨by simp [bV.val,e,e5],by simp only [bV.good,e,e4,e5];exact id⟩
theorem Alt.beq_eq {x y:Alt} (h:x.beq y=true):x=y:=by
 cases x<;>cases y<;>simp [Alt.beq] at h<;>first | rfl | (obtain ⟨rfl,rfl⟩:=h;rfl)
theorem NA:∀ {l l':List (Nat×Alt)},BL l l'=true->l=l'
 | [],[],_=>rfl
 | [],_::_,h=>by simp [BL] at h
 | _::_,[],h=>by simp [BL] at h
 | (k,x)::l,(k',y)::l',h=>by
  simp only [BL,Bool.and_eq_true] at h
  rw [NA h.2,Nat.eq_of_beq_eq_true h.1.1,Alt.beq_eq h.1.2]
theorem zgw:∀ {l l' r:List (Nat×Alt)},BP l l'=some r->(∀ k x,eI l k=some x->eI r k=some x)/\∀ k x,eI l' k=some x->eI r k=some x
 | [],l',r,h=>by simp only [BP,Option.some.injEq] at h;subst h;exact ⟨fun k x hx=>by simp [eI] at hx,fun _ _=>id⟩
 | y::l,l',r,h=>by
  simp only [BP] at h
  cases hu:BP l l' with
  | none=>simp [hu] at h
  | some r1 =>
   obtain ⟨h1,h2⟩:=zgw hu
   simp only [hu] at h
   cases hy:eI r1 y.1 with
   | none =>
    simp only [hy,Option.some.injEq] at h
    subst h
    have key:∀ k x,eI r1 k=some x->eI (y::r1) k=some x:=fun k x hx=>by
     simp only [eI]
     split
     ·rename_i he
      rw [Nat.eq_of_beq_eq_true he] at hy
      rw [hy] at hx;cases hx
     ·exact hx
    refine ⟨fun k x hx=>?_,fun k x hx=>key k x (h2 k x hx)⟩
    simp only [eI] at hx
    split at hx
    ·rename_i he
     simp only [eI,he,if_true];exact hx
    ·exact key k x (h1 k x hx)
   | some z =>
    simp only [hy] at h
    split at h
    ·rename_i hb
     cases h
     refine ⟨fun k x hx=>?_,h2⟩
     simp only [eI] at hx
     split at hx
     ·rename_i he
      cases hx
      rw [<-Nat.eq_of_beq_eq_true he,hy,Alt.beq_eq hb]
     ·exact h1 k x hx
    ·cases h
theorem zla {x:Lf} {p:A×List (Nat×Alt)} (h:xz x=some p) (hg:x.good O):0<=p.1.int O/\∃ y,eI p.2 (p.1.int O).toNat=some y/\∀ U,x.aa O U=y.aa U:=by
 unfold xz at h
 split at h<;>first | (cases h;done) | (simp only [Option.some.injEq] at h;subst h)
 ·exact ⟨Int.le_refl _,.cG,rfl,fun _=>rfl⟩
 ·exact ⟨Int.le_refl _,.nu,rfl,fun _=>rfl⟩
 ·rename_i q n
  refine ⟨Int.natCast_nonneg _,.p q n,?_,fun _=>rfl⟩
  simp only [A.n7,Int.toNat_natCast,eI]
  simp
 ·rename_i t q
  refine ⟨Int.natCast_nonneg _,.fV t q,?_,fun _=>rfl⟩
  simp only [A.n7,Int.toNat_natCast,eI]
  simp
 ·rename_i a l
  obtain ⟨h1,h2⟩:=hg
  obtain ⟨y,hy⟩:=Option.isSome_iff_exists.1 h2
  exact ⟨h1,y,hy,fun U=>by simp only [Lf.aa,nX,hy]⟩
theorem Lf.beq_spec {a b:Lf} (h:a.beq b=true):(∀ U,a.aa O U=b.aa O U)/\(b.good O->a.good O):=by
 cases a<;>cases b<;>simp [Lf.beq] at h
 ·obtain ⟨h1,h2⟩:=h
  have:=pN h1;subst this
  have:=A.aH h2 O
  exact ⟨fun U=>by simp [Lf.aa,A.int,this],fun _=>trivial⟩
 ·have:=A.aH h O
  exact ⟨fun U=>by simp [Lf.aa,A.bool,this],fun _=>trivial⟩
 ·obtain ⟨rfl,h2⟩:=h
  obtain ⟨h3,h4⟩:=bV.beq_spec (O:=O) h2
  exact ⟨fun U=>by simp [Lf.aa,h3],h4⟩
 ·obtain ⟨rfl,h2⟩:=h
  obtain ⟨h3,h4⟩:=bV.beq_spec (O:=O) h2
  exact ⟨fun U=>by simp [Lf.aa,h3],h4⟩
 ·exact ⟨fun U=>rfl,id⟩
 ·subst h;exact ⟨fun U=>rfl,id⟩
 ·obtain ⟨⟨h1,h2⟩,rfl⟩:=h
  have:=LT.jv h1
  subst this
  rename_i t a1 j a2
  refine ⟨fun U=>?_,fun _=>trivial⟩
  cases t<;>simp only [Lf.aa,A.cells,A.aH h2 O]
 ·obtain ⟨rfl,h2⟩:=h
  rw [R6 h2];exact ⟨fun U=>rfl,id⟩
 ·obtain ⟨rfl,rfl⟩:=h;exact ⟨fun U=>rfl,id⟩
 ·exact ⟨fun U=>by simp only [Lf.aa,A.cells,A.aH h O],fun _=>trivial⟩
 ·subst h;exact ⟨fun _=>rfl,id⟩
 ·obtain ⟨h1,h2⟩:=h
  rw [NA h2]
  exact ⟨fun U=>by simp only [Lf.aa,A.int,A.aH h1 O],fun hg=>by simp only [Lf.good,A.int,A.aH h1 O] at hg ⊢;exact hg⟩
def MLf (O:Nat->DV) (c:A) (x y m:Lf):Prop :=
 (c.bool O=true->x.good O->(∀ U,m.aa O U=x.aa O U)/\m.good O) /\
 (c.bool O=false->y.good O->(∀ U,m.aa O U=y.aa O U)/\m.good O)
theorem zpd {c:A} {x y:Lf} : M.sat F O (MC c x y) (fun o=>∀ m,o=some m->(c.bool O=true->(∀ U,m.aa O U=x.aa O U)/\(x.good O->m.good O))/\(c.bool O=false->(∀ U,m.aa O U=y.aa O U)/\(y.good O->m.good O))):=by
 unfold MC
 refine aY (fun h=>au fun m hm=>?_) (fun _=>?_)
 ·cases hm
  exact ⟨fun _=>⟨fun _=>rfl,id⟩,fun _=>Lf.beq_spec h⟩
 ·split
  ·refine aY (fun hk=>?_) (fun _=>au fun m hm=>by cases hm)
   have:=pN hk;subst this
   refine ak Cj fun r hr=>au fun m hm=>?_
   cases hm
   exact ⟨fun h=>⟨fun U=>by simp [Lf.aa,hr,h],fun _=>trivial⟩,fun h=>⟨fun U=>by simp [Lf.aa,hr,h],fun _=>trivial⟩⟩
  ·refine ak Nv fun r hr=>au fun m hm=>?_
   cases hm
   exact ⟨fun h=>⟨fun U=>by simp [Lf.aa,hr,h],fun _=>trivial⟩,fun h=>⟨fun U=>by simp [Lf.aa,hr,h],fun _=>trivial⟩⟩
  ·exact au fun m hm=>by cases hm
theorem zjh {c:A} {x y:Lf} : M.sat F O (MD c x y) (fun o=>∀ m,o=some m->MLf O c x y m):=by
 unfold MD
 refine aY (fun h=>au fun m hm=>?_) (fun _=>?_)
 ·cases hm
  exact ⟨fun _ hg=>⟨fun _=>rfl,hg⟩,fun _ hg=>⟨(Lf.beq_spec h).1,(Lf.beq_spec h).2 hg⟩⟩
 ·split
  ·refine aY (fun hk=>?_) (fun _=>au fun m hm=>by cases hm)
   have:=pN hk;subst this
   refine ak Cj fun r hr=>au fun m hm=>?_
   cases hm
   exact ⟨fun h _=>⟨fun U=>by simp [Lf.aa,hr,h],trivial⟩,fun h _=>⟨fun U=>by simp [Lf.aa,hr,h],trivial⟩⟩
  ·refine ak Nv fun r hr=>au fun m hm=>?_
   cases hm
   exact ⟨fun h _=>⟨fun U=>by simp [Lf.aa,hr,h],trivial⟩,fun h _=>⟨fun U=>by simp [Lf.aa,hr,h],trivial⟩⟩
  ·split
   ·rename_i p q hp hq
    split
    ·rename_i l hl
     obtain ⟨u1,u2⟩:=zgw hl
     refine ak Cj fun r hr=>au fun m hm=>?_
     cases hm
     have side:∀ (x:Lf) (p:A×List (Nat×Alt)),xz x=some p->(∀ k x,eI p.2 k=some x->eI l k=some x)->r.int O=p.1.int O->x.good O->(∀ U,(Lf.alt r l).aa O U=x.aa O U)/\(Lf.alt r l).good O:=fun x p hp hu he hg=>by
      obtain ⟨h1,y,hy,h2⟩:=zla hp hg
      refine ⟨fun U=>?_,?_⟩
      ·rw [h2 U]
       simp only [Lf.aa,nX,he,hu _ _ hy]
      ·simp only [Lf.good,he]
       exact ⟨h1,by rw [hu _ _ hy];rfl⟩
     exact ⟨fun h=>side _ _ hp u1 (by rw [hr,h];rfl),fun h=>side _ _ hq u2 (by rw [hr,h];rfl)⟩
    ·exact au fun m hm=>by cases hm
   ·exact au fun m hm=>by cases hm
def tV (O:Nat->DV) (c:A):List Lf->List Lf->List Lf->Prop
 | [],[],[]=>True
 | x::l,y::l',m::r=>MLf O c x y m/\tV O c l l' r
 | _,_,_=>False
theorem zhX {c:A} : ∀ (l l':List Lf),M.sat F O (ME c l l') (fun o=>∀ m,o=some m->tV O c l l' m)
 | [],[]=>au fun m hm=>by cases hm;trivial
 | x::l,y::l'=>by
  unfold ME
  refine ak zjh fun a ha=>ak (zhX l l') fun b hb=>au fun m hm=>?_
  split at hm
  ·cases hm;exact ⟨ha _ rfl,hb _ rfl⟩
  ·cases hm
 | [],_::_=>au fun m hm=>by cases hm
 | _::_,[]=>au fun m hm=>by cases hm
theorem tV.left {c:A} (h:c.bool O=true):∀ {l l' m:List Lf},tV O c l l' m->(∀ x∈l,x.good O)->(∀ U,m.map (Lf.aa O U)=l.map (Lf.aa O U))/\∀ x∈m,x.good O
 | [],[],[],_,_=>⟨fun _=>rfl,fun x hx=>by cases hx⟩
 | x::l,y::l',m::r,hm,hg=>by
  obtain ⟨h1,h2⟩:=hm.2.left h fun u hu=>hg u (List.mem_cons_of_mem _ hu)
  obtain ⟨h3,h4⟩:=hm.1.1 h (hg x (by simp))
  refine ⟨fun U=>by simp [h3 U,h1 U],fun z hz=>?_⟩
  rcases List.mem_cons.1 hz with rfl | hz
  ·exact h4
  ·exact h2 z hz
theorem tV.right {c:A} (h:c.bool O=false):∀ {l l' m:List Lf},tV O c l l' m->(∀ x∈l',x.good O)->(∀ U,m.map (Lf.aa O U)=l'.map (Lf.aa O U))/\∀ x∈m,x.good O
 | [],[],[],_,_=>⟨fun _=>rfl,fun x hx=>by cases hx⟩
 | x::l,y::l',m::r,hm,hg=>by
  obtain ⟨h1,h2⟩:=hm.2.right h fun u hu=>hg u (List.mem_cons_of_mem _ hu)
  obtain ⟨h3,h4⟩:=hm.1.2 h (hg y (by simp))
  refine ⟨fun U=>by simp [h3 U,h1 U],fun z hz=>?_⟩
  rcases List.mem_cons.1 hz with rfl | hz
  ·exact h4
  ·exact h2 z hz
def MV1 (O:Nat->DV) (c:A) (x y m:V1):Prop :=
 (c.bool O=true->x.good O->(∀ U,m.aa O U=x.aa O U)/\m.good O) /\
 (c.bool O=false->y.good O->(∀ U,m.aa O U=y.aa O U)/\m.good O)
theorem zji {c:A} {x y:V1} : M.sat F O (MF c x y) (fun o=>∀ m,o=some m->MV1 O c x y m):=by
 unfold MF
 split
 ·refine ak zjh fun a ha=>au fun m hm=>?_
  obtain ⟨l,hl,rfl⟩:=Option.map_eq_some_iff.1 hm
  have:=ha l hl
  exact ⟨fun h hg=>⟨fun U=>(this.1 h (V1.ah.1 hg)).1 U,V1.ah.2 (this.1 h (V1.ah.1 hg)).2⟩,fun h hg=>⟨fun U=>(this.2 h (V1.ah.1 hg)).1 U,V1.ah.2 (this.2 h (V1.ah.1 hg)).2⟩⟩
 ·refine ak (zhX _ _) fun a ha=>au fun m hm=>?_
  obtain ⟨l,hl,rfl⟩:=Option.map_eq_some_iff.1 hm
  have:=ha l hl
  exact ⟨fun h hg=>⟨fun U=>by simp only [V1.aa,(this.left h (V1.aP.1 hg)).1 U],V1.aP.2 (this.left h (V1.aP.1 hg)).2⟩,
   fun h hg=>⟨fun U=>by simp only [V1.aa,(this.right h (V1.aP.1 hg)).1 U],V1.aP.2 (this.right h (V1.aP.1 hg)).2⟩⟩
 ·exact au fun m hm=>by cases hm
def tW (O:Nat->DV) (c:A):List V1->List V1->List V1->Prop
 | [],[],[]=>True
 | x::l,y::l',m::r=>MV1 O c x y m/\tW O c l l' r
 | _,_,_=>False
theorem zhY {c:A} : ∀ (l l':List V1),M.sat F O (MG c l l') (fun o=>∀ m,o=some m->tW O c l l' m)
 | [],[]=>au fun m hm=>by cases hm;trivial
 | x::l,y::l'=>by
  unfold MG
  refine ak zji fun a ha=>ak (zhY l l') fun b hb=>au fun m hm=>?_
  split at hm
  ·cases hm;exact ⟨ha _ rfl,hb _ rfl⟩
  ·cases hm
 | [],_::_=>au fun m hm=>by cases hm
 | _::_,[]=>au fun m hm=>by cases hm
theorem tW.left {c:A} (h:c.bool O=true):∀ {l l' m:List V1},tW O c l l' m->(∀ x∈l,V1.good O x)->(∀ U,m.map (V1.aa O U)=l.map (V1.aa O U))/\∀ x∈m,V1.good O x
 | [],[],[],_,_=>⟨fun _=>rfl,fun x hx=>by cases hx⟩
 | x::l,y::l',m::r,hm,hg=>by
  obtain ⟨h1,h2⟩:=hm.2.left h fun u hu=>hg u (List.mem_cons_of_mem _ hu)
  obtain ⟨h3,h4⟩:=hm.1.1 h (hg x (by simp))
  refine ⟨fun U=>by simp [h3 U,h1 U],fun z hz=>?_⟩
  rcases List.mem_cons.1 hz with rfl | hz
  ·exact h4
  ·exact h2 z hz
theorem tW.right {c:A} (h:c.bool O=false):∀ {l l' m:List V1},tW O c l l' m->(∀ x∈l',V1.good O x)->(∀ U,m.map (V1.aa O U)=l'.map (V1.aa O U))/\∀ x∈m,V1.good O x
 | [],[],[],_,_=>⟨fun _=>rfl,fun x hx=>by cases hx⟩
 | x::l,y::l',m::r,hm,hg=>by
  obtain ⟨h1,h2⟩:=hm.2.right h fun u hu=>hg u (List.mem_cons_of_mem _ hu)
  obtain ⟨h3,h4⟩:=hm.1.2 h (hg y (by simp))
  refine ⟨fun U=>by simp [h3 U,h1 U],fun z hz=>?_⟩
  rcases List.mem_cons.1 hz with rfl | hz
  ·exact h4
  ·exact h2 z hz
def MV (O:Nat->DV) (c:A) (x y m:V):Prop :=
 (c.bool O=true->x.good O->(∀ U,m.aa O U=x.aa O U)/\m.good O) /\
 (c.bool O=false->y.good O->(∀ U,m.aa O U=y.aa O U)/\m.good O)
theorem zrA {c:A} {x y:V} : M.sat F O (QB c x y) (fun o=>∀ m,o=some m->MV O c x y m):=by
 unfold QB
 split
 ·refine ak zji fun a ha=>au fun m hm=>?_
  obtain ⟨l,hl,rfl⟩:=Option.map_eq_some_iff.1 hm
  exact ha l hl
 ·refine ak (zhY _ _) fun a ha=>au fun m hm=>?_
  obtain ⟨l,hl,rfl⟩:=Option.map_eq_some_iff.1 hm
  have:=ha l hl
  exact ⟨fun h hg=>⟨fun U=>by simp only [V.aa,(this.left h hg).1 U],(this.left h hg).2⟩,
   fun h hg=>⟨fun U=>by simp only [V.aa,(this.right h hg).1 U],(this.right h hg).2⟩⟩
 ·exact au fun m hm=>by cases hm
theorem zjj {c:A} {x y:V} : M.sat F O (QW c x y) (fun m=>MV O c x y m):=by
 unfold QW
 refine ak zrA fun o ho=>?_
 split
 ·exact au (ho _ rfl)
 ·exact aE
end
end Go.Sx
namespace Go.Sx
open Go.RowKit
section
variable {P:Program} {F:aC} {O:Nat->DV} {U:Nat->Loc} {w:World}
def iY (O:Nat->DV) (v x:Lf):Prop:=(∀ U,v.aa O U=x.aa O U)/\(x.good O->v.good O)
theorem iY.refl (v:Lf):iY O v v:=⟨fun _=>rfl,id⟩
theorem iY.trans {a b c:Lf} (h:iY O a b) (k:iY O b c):iY O a c:=⟨fun U=>(h.1 U).trans (k.1 U),fun g=>h.2 (k.2 g)⟩
structure gW (O:Nat->DV) (l l':List (Option Lf)) (p:Nat) (xs:List Lf):Prop where
 len:l'.length=l.length
 room:xs≠[]->p+xs.length<=l.length
 IL:∀ i v,nth l' i=some v->∀ k x,xs[k]? = some x->i=p+k->iY O v x
 out:∀ i v,nth l' i=some v->(i<p\/p+xs.length<=i)->∃ old,nth l i=some old/\iY O v old
theorem gW.nil (l:List (Option Lf)) (p:Nat):gW O l l p [] :=
 ⟨rfl,fun h=>absurd rfl h,fun i v _ k x hx=>by simp at hx,fun i v hv _=>⟨v,hv,iY.refl v⟩⟩
theorem gW.cons {l l1 l2:List (Option Lf)} {p:Nat} {x:Lf} {xs:List Lf} (h:gW O l l1 p [x]) (k:gW O l1 l2 (p+1) xs):gW O l l2 p (x::xs):=by
 refine ⟨k.len.trans h.len,fun _=>?_,fun i v hv j y hy hi=>?_,fun i v hv hi=>?_⟩
 ·have:=h.room (by simp)
  cases xs with
  | nil=>simpa using this
  | cons z zs=>have:=k.room (by simp);rw [h.len] at this;simp at this ⊢;omega
 ·cases j with
  | zero =>
   simp at hy;subst hy
   obtain ⟨old,ho,hl⟩:=k.out i v hv (.inl (by omega))
   exact hl.trans (h.IL i old ho 0 _ rfl (by omega))
  | succ j=>exact k.IL i v hv j y (by simpa using hy) (by omega)
 ·obtain ⟨old,ho,hl⟩:=k.out i v hv (by simp at hi;omega)
  obtain ⟨tX,IM,Aw⟩:=h.out i old ho (by simp at hi ⊢;omega)
  exact ⟨tX,IM,hl.trans Aw⟩
theorem IN:∀ {l l':List (Option Lf)} {o:Nat} {xs:List Lf},xy l o xs=some l'->gW O l l' o xs
 | l,l',o,[],h=>by
  have:l'=l:=by cases l<;>cases o<;>simp [xy] at h<;>first | exact h.symm | (subst h;rfl)
  subst this;exact gW.nil _ _
 | [],l',o,x::xs,h=>by cases o<;>simp [xy] at h
 | c::l,l',o+1,x::xs,h=>by
  simp only [xy] at h
  obtain ⟨r,hr,rfl⟩:=Option.map_eq_some_iff.1 h
  have ih:=IN hr
  refine ⟨by simp [ih.len],fun _=>by have:=ih.room (by simp);simp at this ⊢;omega,fun i v hv k y hy hi=>?_,fun i v hv hi=>?_⟩
  ·cases i with
   | zero=>omega
   | succ i=>exact ih.IL i v hv k y hy (by omega)
  ·cases i with
   | zero=>exact ⟨v,hv,iY.refl v⟩
   | succ i=>exact ih.out i v hv (by simp at hi ⊢;omega)
 | c::l,l',0,x::xs,h=>by
  simp only [xy] at h
  obtain ⟨r,hr,rfl⟩:=Option.map_eq_some_iff.1 h
  have ih:=IN hr
  refine ⟨by simp [ih.len],fun _=>?_,fun i v hv k y hy hi=>?_,fun i v hv hi=>?_⟩
  ·cases xs with
   | nil=>simp
   | cons z zs=>have:=ih.room (by simp);simp at this ⊢;omega
  ·cases i with
   | zero =>
    have:k=0:=by omega
    subst this
    simp at hy;subst hy
    cases hv;exact iY.refl _
   | succ i =>
    cases k with
    | zero=>omega
    | succ k=>exact ih.IL i v hv k y (by simpa using hy) (by omega)
  ·cases i with
   | zero=>simp at hi
   | succ i=>exact ih.out i v hv (.inr (by simp at hi;omega))
theorem Sq {ix:A} {x:Lf} {sz:Nat} (hsz:0<sz):∀ (l:List (Option Lf)) (base len j:Nat),
  M.sat F O (uT ix x l base sz len j) (fun l'=>l'.length=l.length/\(∀ k,k<len->base+k*sz<l.length) /\
   ∀ i v,nth l' i=some v ->
    (∃ k,k<len/\i=base+k*sz/\∃ old,nth l i=some old/\(ix.int O=((j+k:Nat):Int)->iY O v x)/\(ix.int O≠((j+k:Nat):Int)->iY O v old)) \/
    ((∀ k,k<len->i≠base+k*sz)/\nth l i=some v))
 | l,base,0,j=>by
  have e:uT ix x l base sz 0 j=pure l:=by cases l<;>cases base<;>rfl
  rw [e]
  exact au ⟨rfl,fun k hk=>absurd hk (by omega),fun i v hv=>.inr ⟨fun k hk=>absurd hk (by omega),hv⟩⟩
 | [],base,len+1,j=>by
  have e:uT ix x [] base sz (len+1) j=M.fail:=by cases base<;>rfl
  rw [e];exact aE
 | c::l,base+1,len+1,j=>by
  have e:uT ix x (c::l) (base+1) sz (len+1) j=(do pure (c::(<-uT ix x l base sz (len+1) j))):=rfl
  rw [e]
  refine ak (Sq hsz l base (len+1) j) fun r hr=>au ?_
  obtain ⟨h1,h2,h3⟩:=hr
  refine ⟨by simp [h1],fun k hk=>by have:=h2 k hk;simp;omega,fun i v hv=>?_⟩
  cases i with
  | zero=>exact .inr ⟨fun k hk=>by omega,hv⟩
  | succ i =>
   rcases h3 i v hv with ⟨k,hk,hi,old,ho,ha⟩ | ⟨hn,ho⟩
   ·exact .inl ⟨k,hk,by omega,old,ho,ha⟩
   ·exact .inr ⟨fun k hk=>by have:=hn k hk;omega,ho⟩
 | c::l,0,len+1,j=>by
  cases c with
  | none =>
   have e:uT ix x (none::l) 0 sz (len+1) j=M.fail:=rfl
   rw [e];exact aE
  | some old =>
   have e:uT ix x (some old::l) 0 sz (len+1) j=(do
    let e <-emit (.eql ix (.z j))
    match <-MC e x old with
    | none=>M.fail
    | some y=>do pure (some y::(<-uT ix x l (sz-1) sz len (j+1)))):=rfl
   rw [e]
   refine ak (cz (Q:=fun r=>r.bool O=(ix.int O==(j:Int))) fun r h=>A.aq h) fun e he=>?_
   refine ak zpd fun o ho=>?_
   split
   ·exact aE
   ·rename_i y
    have hm:=ho y rfl
    refine ak (Sq hsz l (sz-1) len (j+1)) fun r hr=>au ?_
    obtain ⟨h1,h2,h3⟩:=hr
    refine ⟨by simp [h1],fun k hk=>?_,fun i v hv=>?_⟩
    ·cases k with
     | zero=>simp
     | succ k=>have:=h2 k (by omega);simp [Nat.add_mul];omega
    ·cases i with
     | zero =>
      cases hv
      refine .inl ⟨0,by omega,by omega,old,rfl,fun hj=>?_,fun hj=>?_⟩
      ·exact hm.1 (by rw [he];simpa using hj)
      ·exact hm.2 (by rw [he];simpa using hj)
     | succ i =>
      rcases h3 i v hv with ⟨k,hk,hi,tX,IM,ha⟩ | ⟨hn,IM⟩
      ·refine .inl ⟨k+1,by omega,by simp [Nat.add_mul];omega,tX,IM,?_⟩
       have ej:((j+(k+1):Nat):Int)=((j+1+k:Nat):Int):=by omega
       rw [ej];exact ha
      ·refine .inr ⟨fun k hk=>?_,IM⟩
       cases k with
       | zero=>omega
       | succ k=>have:=hn k (by omega);simp [Nat.add_mul];omega
theorem zpe {ix:A} {x:Lf} {sz base len:Nat} (hsz:0<sz) (h0:0<=ix.int O) (h1:ix.int O<len) (l:List (Option Lf)) :
  M.sat F O (uT ix x l base sz len 0) (fun l'=>gW O l l' (base+(ix.int O).toNat*sz) [x]):=by
 refine cH (Sq hsz l base len 0) fun l' ⟨ha,hb,hc⟩=>?_
 have hix:ix.int O=(((ix.int O).toNat:Nat):Int):=by omega
 have hinj:∀ k,base+k*sz=base+(ix.int O).toNat*sz->k=(ix.int O).toNat:=fun k h=>Nat.eq_of_mul_eq_mul_right hsz (by omega)
 refine ⟨ha,fun _=>by have:=hb (ix.int O).toNat (by omega);simp;omega,fun i v hv k y hy hi=>?_,fun i v hv hi=>?_⟩
 ·have:k=0:=by have:=(List.getElem?_eq_some_iff.1 hy).1;simp at this;omega
  subst this
  simp at hy;subst hy
  rcases hc i v hv with ⟨k,hk,hi',old,ho,h2,h3⟩ | ⟨hn,ho⟩
  ·have:=hinj k (by omega)
   exact h2 (by omega)
  ·exact absurd (by omega) (hn (ix.int O).toNat (by omega))
 ·rcases hc i v hv with ⟨k,hk,hi',old,ho,h2,h3⟩ | ⟨hn,ho⟩
  ·refine ⟨old,ho,h3 fun he=>?_⟩
   have:k=(ix.int O).toNat:=by omega
   subst this
   simp at hi;omega
  ·exact ⟨v,ho,iY.refl v⟩
theorem zuZ (n:Nat) (l:List DV):(tL n l).length=n:=by simp [tL]
theorem zu0 {n k:Nat} (l:List DV) (h:k<n):(tL n l)[k]? = some (l.getD k default):=by simp [tL,h]
def Sr (a a':A):Lf->Lf
 | .e t b j=>if b.beq a then .e t a' j else .e t b j
 | c=>c
theorem NB (a a':A):∀ (l:List (Option Lf)) (i:Nat),nth (BQ a a' l) i=(nth l i).map (Sr a a')
 | [],i=>by cases i<;>rfl
 | none::l,0=>rfl
 | none::l,i+1=>NB a a' l i
 | some x::l,0=>by cases x<;>rfl
 | some x::l,i+1=>by cases x<;>exact NB a a' l i
theorem Ss (a a':A):∀ (l:List (Option Lf)),(BQ a a' l).length=l.length
 | []=>rfl
 | none::l=>by simp [BQ,Ss a a' l]
 | some x::l=>by cases x<;>simp [BQ,Ss a a' l]
theorem NC {a:A} : ∀ {l:List (Option Lf)} {i:Nat} {t:LT} {b:A} {j:Nat},nth l i=some (.e t b j)->b.beq a=true->j<qa a l
 | [],i,_,_,_,h,_=>by cases i<;>cases h
 | none::l,0,_,_,_,h,_=>by cases h
 | none::l,i+1,_,_,_,h,hb=>NC (l:=l) (i:=i) h hb
 | some x::l,0,t,b,j,h,hb=>by
  cases h
  simp only [qa,hb,if_true]
  omega
 | some x::l,i+1,t,b,j,h,hb=>by
  have ih:=NC (l:=l) (i:=i) h hb
  cases x<;>simp only [qa]<;>first | exact ih | skip
  split
  ·omega
  ·exact ih
theorem ND {a:A} {P0 J0:Nat} : ∀ {l:List (Option Lf)} {p i:Nat} {t:LT} {b:A} {j:Nat},rI a P0 J0 p l=true->nth l i=some (.e t b j)->b.beq a=true->j+P0=p+i+J0
 | [],_,i,_,_,_,_,h,_=>by cases i<;>cases h
 | none::l,p,0,_,_,_,_,h,_=>by cases h
 | none::l,p,i+1,t,b,j,ha,h,hb=>by
  have:=ND (l:=l) (p:=p+1) (i:=i) ha h hb
  omega
 | some x::l,p,0,t,b,j,ha,h,hb=>by
  cases h
  simp only [rI,Bool.and_eq_true,hb,Bool.not_true,Bool.false_or] at ha
  have:=Nat.eq_of_beq_eq_true ha.1
  omega
 | some x::l,p,i+1,t,b,j,ha,h,hb=>by
  have nC:rI a P0 J0 (p+1) l=true:=by
   cases x<;>simp only [rI,Bool.and_eq_true] at ha<;>first | exact ha | exact ha.2
  have:=ND (l:=l) (p:=p+1) (i:=i) nC h hb
  omega
theorem zpf {t:LT} {x:Lf} {v:A} (h:QD t x=some v) {a':A} {J:Nat} (ha:(a'.cells O)[J]? = some (nrm t.ty (v.den O))):∀ U,(Lf.e t a' J).aa O U=x.aa O U:=by
 intro U
 have hg:(a'.cells O).getD J default=nrm t.ty (v.den O):=by rw [List.getD_eq_getElem?_getD,ha];rfl
 unfold QD at h
 split at h
 ·split at h
  ·rename_i hk
   cases h
   have:=pN hk;subst this
   simp only [Lf.aa,hg,LT.ty,nrm,A.int]
  ·cases h
 ·cases h
  simp only [Lf.aa,hg,LT.ty,nrm,A.bool]
 ·cases h
theorem znH {ix:A} {x:Lf} {sz base len:Nat} (hsz:0<sz) (h0:0<=ix.int O) (h1:ix.int O<len) (l:List (Option Lf)) :
  M.sat F O (yC ix x l base sz len) (fun l'=>gW O l l' (base+(ix.int O).toNat*sz) [x]):=by
 unfold yC
 split
 ·rename_i t a i0 r hrow
  refine aY (fun hc=>?_) (fun _=>aE)
  simp only [Bool.and_eq_true] at hc
  obtain ⟨m9,haf⟩:=hc
  obtain ⟨r1,r2⟩:=FM hrow
  refine bh fun v hv=>?_
  refine ak (cz (Q:=fun q=>q.cells O=(tL (qa a l) (a.cells O)).set ((ix.int O).toNat*sz+i0) (nrm t.ty (v.den O))) fun q h=>A.aK h) fun a' nC=>au ?_
  have hk:(ix.int O).toNat<len:=by omega
  have hcell:=r2 _ hk
  rw [List.getElem?_eq_getElem (by omega)] at hcell
  obtain ⟨b,j8,vc⟩:=IC m9 _ _ (List.getElem?_eq_getElem (l:=.e t a i0::r) (i:=(ix.int O).toNat) (by omega))
  rw [vc] at hcell
  have hJ:=NC hcell j8
  have hJp:=ND haf hcell j8
  generalize hp:base+(ix.int O).toNat*sz=p at *
  generalize hJe:i0+(ix.int O).toNat*sz=J at *
  have hJ2:(ix.int O).toNat*sz+i0=J:=by omega
  rw [hJ2] at nC
  have j9:=iW hcell
  have cA:(a'.cells O)[J]? = some (nrm t.ty (v.den O)):=by
   rw [nC,List.getElem?_set,if_pos rfl,if_pos (by rw [zuZ];exact hJ)]
  refine ⟨Ss _ _ _,fun _=>by simp;omega,fun i u hu k y hy hi=>?_,fun i u hu hi=>?_⟩
  ·have:k=0:=by have:=(List.getElem?_eq_some_iff.1 hy).1;simp at this;omega
   subst this
   simp at hy;subst hy
   have hi:i=p:=by omega
   subst hi
   rw [NB,hcell] at hu
   simp only [Option.map_some,Sr,j8,if_true,Option.some.injEq] at hu
   subst hu
   exact ⟨zpf hv cA,fun _=>trivial⟩
  ·have hip:i≠p:=by simp at hi;omega
   rw [NB] at hu
   obtain ⟨old,ho,rfl⟩:=Option.map_eq_some_iff.1 hu
   refine ⟨old,ho,?_⟩
   cases old<;>simp only [Sr]<;>try exact iY.refl _
   rename_i u c j
   split
   ·rename_i hcb
    have hj:=ND haf ho hcb
    have FU:=NC ho hcb
    have hjJ:J≠j:=by omega
    have iX:(a'.cells O).getD j default=(c.cells O).getD j default:=by
     rw [List.getD_eq_getElem?_getD,nC,List.getElem?_set,if_neg hjJ,zu0 _ FU]
     simp only [A.cells,A.aH hcb O,Option.getD_some]
    refine ⟨fun U=>?_,fun _=>trivial⟩
    cases u<;>simp only [Lf.aa,iX]
   ·exact iY.refl _
 ·exact zpe hsz h0 h1 l
theorem zhZ {ix:A} {sz len:Nat} (hsz:0<sz) (h0:0<=ix.int O) (h1:ix.int O<len):∀ (xs:List Lf) (l:List (Option Lf)) (base:Nat),
  M.sat F O (MH ix xs l base sz len) (fun l'=>gW O l l' (base+(ix.int O).toNat*sz) xs)
 | [],l,base=>au (gW.nil _ _)
 | x::xs,l,base=>by
  unfold MH
  refine ak (znH hsz h0 h1 l) fun l1 ga=>cH (zhZ hsz h0 h1 xs l1 (base+1)) fun l2 Aw=>?_
  exact gW.cons ga (by rwa [show base+(ix.int O).toNat*sz+1=base+1+(ix.int O).toNat*sz from by omega])
theorem zh0:∀ (xs:List Lf) (l:List (Option Lf)) (o:Nat),M.sat F O (MI xs l o) (fun l'=>gW O l l' o xs)
 | [],l,o=>au (gW.nil _ _)
 | x::xs,l,o=>by
  unfold MI
  refine ak (R:=fun l1=>gW O l l1 o [x]) ?_ fun l1 ga=>cH (zh0 xs l1 (o+1)) fun l2 Aw=>gW.cons ga Aw
  split
  ·refine aY (fun _=>lg fun l' h=>IN h) (fun _=>?_)
   refine cH (znH (O:=O) (ix:=.z 0) (len:=1) (by decide) (by simp) (by show (0:Int)<1;decide) l) fun l' h=>?_
   simpa using h
  ·exact lg fun l' h=>IN h
theorem zhg {cs:List (Option Lf)} {off:bV} {xs:List Lf} (hg:off.good O) :
  M.sat F O (QE cs off xs) (fun l'=>gW O cs l' (off.val O) xs):=by
 unfold QE
 split
 ·exact aY (fun _=>zh0 _ _ _) (fun _=>lg fun l' h=>IN h)
 ·exact aY (fun h=>zhZ (by simpa using h) hg.1 hg.2 _ _ _) (fun _=>aE)
 ·exact aE
theorem yU (b:Nat):∀ (vs:List Value) (o:Nat) (w:World),(w.setCells b o vs).heap.size=w.heap.size
 | [],_,_=>rfl
 | v::r,o,w=>by rw [World.setCells,yU b r,World.size_setCell]
theorem Cl (b:Nat):∀ (vs:List Value) (o:Nat) (w:World) (k:Nat),k≠b->(w.setCells b o vs).heap[k]? = w.heap[k]?
 | [],_,_,_,_=>rfl
 | v::r,o,w,k,h=>by rw [World.setCells,Cl b r _ _ k h];exact Below.heap_setCell w ⟨b,o,none⟩ v k h
theorem tY (b:Nat):∀ (vs:List Value) (o:Nat) (w:World),(w.setCells b o vs).os=w.os/\(w.setCells b o vs).tape=w.tape/\(w.setCells b o vs).output=w.output
 | [],_,_=>⟨rfl,rfl,rfl⟩
 | v::r,o,w=>by
  rw [World.setCells]
  exact tY b r (o+1) _
theorem Lf.iM {l:Lf} (h:l.ok=true) (U:Nat->Loc):(l.aa O U).oneCell'=true:=by
 cases l with
 | e t _ _=>cases t<;>rfl
 | alt a l =>
  simp only [Lf.aa,nX]
  split
  ·rename_i x _
   cases x<;>rfl
  ·rfl
 | _=>first | rfl | exact h
theorem cK.store {r:Loc} {cs cs':List (Option Lf)} {p:Nat} {xs:List Lf} (h:cK O U w r true cs) (hd:gW O cs cs' p xs) (hg:∀ x∈xs,x.good O) (hok:∀ x∈xs,x.ok=true) :
  (storeCells ⟨r.aj,r.off+p,none⟩ (xs.map (Lf.aa O U))).run P w = .ok () (w.setCells r.aj (r.off+p) (xs.map (Lf.aa O U))) /\
  cK O U (w.setCells r.aj (r.off+p) (xs.map (Lf.aa O U))) r true cs':=by
 have hroom:∀ k,k<xs.length->p+k<cs.length:=fun k hk=>by
  have:=hd.room (by intro e;subst e;simp at hk)
  omega
 have hex:∀ k,k<xs.length->(w.cell? ⟨r.aj,r.off+p+k,none⟩).isSome=true/\w.frozen? ⟨r.aj,r.off+p+k,none⟩=false:=fun k hk=>by
  have:=h.own rfl (p+k) (hroom k hk)
  rwa [<-Nat.add_assoc] at this
 refine ⟨?_,h.nil,?_,?_,?_,fun _ o=>by rw [World.frozen?_setCells];exact h.fz rfl o⟩
 ·have:=run_storeCells_cells (P:=P) r.aj (r.off+p) (xs.map (Lf.aa O U)) 0 w (by simpa using fun k hk=>(hex k hk).1) (by simpa using fun k hk=>(hex k hk).2)
   (fun v hv=>by obtain ⟨l,hl,rfl⟩:=List.mem_map.1 hv;exact Lf.iM (hok l hl) U)
  simpa using this
 ·rw [yU];exact h.lt
 ·intro i l hl
  by_cases hi:p<=i/\i<p+xs.length
  ·obtain ⟨k,hk⟩:∃ k,i=p+k:=⟨i-p,by omega⟩
   have gL:k<xs.length:=by omega
   have qm:=hd.IL i l hl k xs[k] (List.getElem?_eq_getElem gL) hk
   refine ⟨qm.2 (hg _ (List.getElem_mem gL)),?_⟩
   have:=World.cell?_setCells_in r.aj (xs.map (Lf.aa O U)) (r.off+p) w (by simpa using fun k hk=>(hex k hk).1) k (by simpa using gL)
   rw [hk,<-Nat.add_assoc,this,qm.1 U]
   simp
  ·obtain ⟨old,ho,qm⟩:=hd.out i l hl (by omega)
   have:=h.cell i old ho
   refine ⟨qm.2 this.1,?_⟩
   rw [World.cell?_setCells_out _ _ _ _ _ (fun _ _=>by simp;omega),this.2,qm.1 U]
 ·intro _ i hi
  rw [World.frozen?_setCells]
  have hi':i<cs.length:=by have:=hd.len;omega
  have:=h.own rfl i hi'
  refine ⟨?_,this.2⟩
  by_cases hi2:p<=i/\i<p+xs.length
  ·obtain ⟨k,hk⟩:∃ k,i=p+k:=⟨i-p,by omega⟩
   have gL:k<xs.length:=by omega
   have:=World.cell?_setCells_in r.aj (xs.map (Lf.aa O U)) (r.off+p) w (by simpa using fun k hk=>(hex k hk).1) k (by simpa using gL)
   rw [hk,<-Nat.add_assoc,this]
   rfl
  ·rw [World.cell?_setCells_out _ _ _ _ _ (fun _ _=>by simp;omega)]
   exact this.1
end
end Go.Sx
namespace Go.Sx
open Go.RowKit
abbrev af (l:List DV) (i:Nat):DV:=l.getD i default
def oK (w:World) (g:Nat) (cs:List Lf):Prop :=
 g<w.heap.size/\∀ i l,cs[i]? = some l->∀ O U,l.good O/\w.cell? ⟨g,i,none⟩=some (l.aa O U)
theorem oK.below {w w':World} {g:Nat} {cs:List Lf} (hb:Below w.heap.size w w') (h:oK w g cs):oK w' g cs :=
 ⟨Nat.lt_of_lt_of_le h.1 hb.size,fun i l hi O U=>⟨(h.2 i l hi O U).1,by rw [<-(h.2 i l hi O U).2];exact hb.cell h.1⟩⟩
structure HS (E:Env) (O:Nat->DV) (U:Nat->Loc) (hp:List (Option ag)) (w:World):Prop where
 heap:eT E O U hp w
 old:jx E.W E.V E.w0 w U hp
 fr:Fr E.W E.w0 w
 len:E.n0<=hp.length
 keep:∀ j,j<E.n0->U j=E.U0 j
def bA (hin : List (Option ag)) (U : Nat -> Loc) (w : World) : Env :=
  ⟨fun b => ∃ j bk, nth hin j = some bk /\ bk.own = true /\ (U j).nil = false /\ bk.aB w (U j) b,
   fun b => (∃ j bk, nth hin j = some bk /\ (U j).nil = false /\ bk.av w (U j) b) \/
     (hin.all (dw ag.flat) = false /\ b < w.heap.size /\ ¬ ∃ j bk, nth hin j = some bk /\ bk.own = true /\ (U j).nil = false /\ bk.aB w (U j) b), w, hin.length, U⟩
def aW.eE (sg:aW):List (Option ag):=sg.hin.map (Option.map (ag.inst (eL 0 sg.fE)))
def aW.iZ (sg:aW):List V:=sg.ins.map (V.inst (eL 0 sg.fE))
def aW.kP (sg:aW):List (Option ag):=sg.hout.map (Option.map (ag.inst (eL 0 sg.iK.length)))
def aW.aG (sg:aW):V:=sg.out.inst (eL 0 sg.iK.length)
def aW.res (sg:aW) (ds:List DV):Nat->DV:=fun j=>af ds (j+if sg.need then 1 else 0)
structure eZ (sg:aW) (ds:List DV) (U:Nat->Loc) (w:World) (v:Value) (U':Nat->Loc) (w':World):Prop where
 val:v=sg.aG.aa (sg.res ds) U'
 good:sg.aG.good (sg.res ds)
 heap:eT (bA sg.eE U w) (sg.res ds) U' sg.kP w'
 old:jx (bA sg.eE U w).W (bA sg.eE U w).V w w' U' sg.kP
 fr:Fr (bA sg.eE U w).W w w'
 keep:∀ j,stays sg.hin j=true->j<sg.hout.length->U' j=U j
def aI (P:Program) (I:World->Prop) (K:Nat) (f:FuncId) (sg:aW) (G:List DV->List DV):Prop :=
 ∀ (ds:List DV) (U:Nat->Loc) (w:World),I w->ds.length=sg.fE->(sg.need=true->(af (G ds) 0).aA=true) ->
  K<=w.heap.size->(∀ b,(bA sg.eE U w).W b->K<=b)->(∀ v∈sg.iZ,V.good (af ds) v)->eT (bA sg.eE U w) (af ds) U sg.eE w ->
  Calls P f (sg.iZ.map (V.aa (af ds) U)).toArray w (fun e w'=>∃ v U',e = .returned v/\eZ sg (G ds) U w v U' w')
structure bg (P:Program) (I:World->Prop) (K:Nat) (S:bN) (F:aC):Prop where
 fns:∀ f sg,S.get f=some sg->aI P I K f sg (F f)
 IP:∀ g cs,assoc S.gs g=some cs->∀ w,I w->oK w g cs
def Env.Ok (E:Env) (K:Nat):Prop:=K<=E.w0.heap.size/\∀ b,E.W b->K<=b
section
variable {P:Program} {I:World->Prop} {S:bN} {F:aC} {E:Env} {O:Nat->DV}
structure aJ (O:Nat->DV) (U:Nat->Loc) (r:RS) (a:Act):Prop where
 defers:a.defers=[]
 size:a.tmps.size=r.st.sl.length
 slot:∀ t v,nth r.st.sl t=some v->v.good O/\a.tmps[t]? = some (v.aa O U)
 gl:∀ e∈r.gl,(a.tmps[e.d]? = some (.bool e.want)->e.v.good O/\a.tmps[e.t]? = some (e.v.aa O U))/\(a.tmps[e.d]?≠some (.bool e.want)->a.tmps[e.t]? = some undef)
def oa (ctx:Ctx) (a:Act):Prop:=∀ p∈ctx,a.tmps[p.1]? = some (.bool p.2)
theorem Ctx.qn:∀ {ctx:Ctx} {d:Nat} {w:Bool},ctx.has d w=true->(d,w)∈ctx
 | [],_,_,h=>by simp [Ctx.has] at h
 | (d,w)::r,d',w',h=>by
  simp only [Ctx.has,Bool.or_eq_true,Bool.and_eq_true] at h
  rcases h with ⟨h1,h2⟩ | h
  ·have:=Nat.eq_of_beq_eq_true h1;subst this
   have:=vV h2;subst this
   simp
  ·exact List.mem_cons_of_mem _ (Ctx.qn h)
theorem zjl {ctx:Ctx} {t:Nat} : ∀ {l:List GE} {v:V},HF ctx t l=some v->∃ e∈l,e.t=t/\e.v=v/\(e.d,e.want)∈ctx
 | [],v,h=>by simp [HF] at h
 | e::r,v,h=>by
  simp only [HF] at h
  split at h
  ·rename_i hc
   simp only [Bool.and_eq_true] at hc
   cases h
   exact ⟨e,by simp,Nat.eq_of_beq_eq_true hc.1,rfl,Ctx.qn hc.2⟩
  ·obtain ⟨e',h1,h2⟩:=zjl h
   exact ⟨e',List.mem_cons_of_mem _ h1,h2⟩
theorem znI {U:Nat->Loc} {r:RS} {a:Act} {ctx:Ctx} (h:aJ O U r a) (hc:oa ctx a) {t:Nat} {v:V} (hv:r.slot ctx t=some v):v.good O/\a.tmps[t]? = some (v.aa O U):=by
 unfold RS.slot at hv
 split at hv
 ·cases hv;exact h.slot t _ ‹_›
 ·obtain ⟨e,he,rfl,rfl,gw⟩:=zjl hv
  exact (h.gl e he).1 (hc (e.d,e.want) gw)
theorem Su {x:Value} {l:Lf} (h:BO x=some l):l.good O/\∀ U,l.aa O U=x:=by
 unfold BO at h
 split at h<;>first | (cases h;exact ⟨trivial,fun _=>rfl⟩) | cases h
theorem Sv {α β:Type} {f:α->Option β} : ∀ {l:List α} {r:List β},p_ f l=some r->r.length=l.length/\∀ (i:Nat) b,r[i]? = some b->∃ a,l[i]? = some a/\f a=some b
 | [],r,h=>by simp [p_] at h;subst h;exact ⟨rfl,fun i b hb=>by simp at hb⟩
 | a::l,r,h=>by
  simp only [p_] at h
  cases hf:f a with
  | none=>simp [hf] at h
  | some b =>
   simp only [hf] at h
   cases hr:p_ f l with
   | none=>simp [hr] at h
   | some r' =>
    simp only [hr,Option.some.injEq] at h
    subst h
    obtain ⟨h1,h2⟩:=Sv hr
    refine ⟨by simp [h1],fun i b' hb=>?_⟩
    cases i with
    | zero=>simp at hb;subst hb;exact ⟨a,rfl,hf⟩
    | succ i=>exact h2 i b' (by simpa using hb)
theorem Sw {l:List Value} {r:List Lf} (h:p_ BO l=some r):(∀ x∈r,x.good O)/\∀ U,r.map (Lf.aa O U)=l:=by
 obtain ⟨h1,h2⟩:=Sv h
 refine ⟨fun x hx=>?_,fun U=>?_⟩
 ·obtain ⟨i,hi,rfl⟩:=List.mem_iff_getElem.1 hx
  obtain ⟨a,_,ha⟩:=h2 i _ (List.getElem?_eq_getElem hi)
  exact (Su ha).1
 ·apply List.ext_getElem?
  intro i
  by_cases hi:i<r.length
  ·obtain ⟨a,j_,mh⟩:=h2 i _ (List.getElem?_eq_getElem hi)
   simp [List.getElem?_eq_getElem hi,j_,(Su (O:=O) mh).2 U]
  ·rw [List.getElem?_eq_none (by simpa using hi),List.getElem?_eq_none (by omega)]
theorem znJ {x:Value} {v:V1} (h:QA x=some v):v.good O/\∀ U,v.aa O U=x:=by
 unfold QA at h
 split at h
 ·obtain ⟨r,hr,rfl⟩:=Option.map_eq_some_iff.1 h
  have:=Sw (O:=O) hr
  exact ⟨V1.aP.2 this.1,fun U=>by simp [V1.aa,this.2 U]⟩
 ·obtain ⟨r,hr,rfl⟩:=Option.map_eq_some_iff.1 h
  have:=Su (O:=O) hr
  exact ⟨V1.ah.2 this.1,fun U=>this.2 U⟩
theorem dA {U:Nat->Loc} {r:RS} {a:Act} {ctx:Ctx} (h:aJ O U r a) (hc:oa ctx a) {x:Operand} {v:V} (hv:rd r ctx x=some v):v.good O/\a.eval x=v.aa O U:=by
 cases x with
 | tmp t =>
  have:=znI h hc (show r.slot ctx t=some v from hv)
  exact ⟨this.1,by simp [Act.eval,this.2]⟩
 | const c =>
  simp only [rd] at hv
  obtain ⟨u,hu,rfl⟩:=Option.map_eq_some_iff.1 hv
  have:=znJ (O:=O) hu
  exact ⟨this.1,(this.2 U).symm⟩
 | func f =>
  simp only [rd,Option.some.injEq] at hv
  subst hv
  exact ⟨V.cg.2 (V1.ah.2 (show True from trivial)),rfl⟩
 | global g =>
  simp only [rd,Option.some.injEq] at hv
  subst hv
  exact ⟨V.cg.2 (V1.ah.2 trivial),by simp [V.aa,V1.aa,Lf.aa,bV.val,Act.eval]⟩
structure RR (O:Nat->DV) (E:Env) (U:Nat->Loc) (r:RS) (a:Act) (w:World):Prop where
 act:aJ O U r a
 hs:HS E O U r.st.hp w
theorem HS.bK {U:Nat->Loc} {hp:List (Option ag)} {w w':World} (h:HS E O U hp w) (hb:Below w.heap.size w w'):HS E O U hp w' :=
 ⟨h.heap.bK hb,h.old.congr h.heap fun j bk hj hn _ hf=>hb.block _ ((h.heap.aj j bk hj).lt hn hf),h.fr.trans (Fr.bK hb),h.len,h.keep⟩
theorem RR.below {U:Nat->Loc} {r:RS} {a:Act} {w w':World} (h:RR O E U r a w) (hb:Below w.heap.size w w'):RR O E U r a w':=⟨h.act,h.hs.bK hb⟩
def NF (P:Program) (x:Sem Next) (w:World) (v:Value):Prop :=
 x.run P w = .ok (.value v) w\/∃ f args,x.run P w = .ok (.enter f args) w/\Calls P f args w (fun e w'=>e = .returned v/\Below w.heap.size w w')
def zxX (P:Program) (x:Sem Next) (w:World) (K:Option Value->World->Prop):Prop :=
 (∃ v w',x.run P w = .ok (.value v) w'/\K (some v) w')\/(∃ w',x.run P w = .ok .skip w'/\K none w') \/
 ∃ f args,x.run P w = .ok (.enter f args) w/\Calls P f args w (fun e w'=>∃ v,e = .returned v/\K (some v) w')
def cT (P:Program) (I:World->Prop) (E:Env) (O:Nat->DV) (U:Nat->Loc) (hp:List (Option ag)) (x:Sem Next):OR->Prop
 | .val v=>∀ w,HS E O U hp w->I w->v.good O/\NF P x w (v.aa O U)
 | .hp v hp'=>∀ w,HS E O U hp w->I w->zxX P x w fun nv w'=>∃ U':Nat->Loc,(∀ j,j<hp.length->U' j=U j)/\HS E O U' hp' w'/\∀ u,v=some u->u.good O/\nv=some (u.aa O U')
theorem cT.now {U:Nat->Loc} {hp:List (Option ag)} {x:Sem Next} {v:V} (hg:v.good O) (h:∀ w,HS E O U hp w->x.run P w = .ok (.value (v.aa O U)) w):cT P I E O U hp x (.val v) :=
 fun w hw _=>⟨hg,.inl (h w hw)⟩
theorem NG {v:Value} (h:v.oneCell'=true):v.cells = #[v]:=by
 cases v<;>first | rfl | simp [Value.oneCell'] at h
end
end Go.Sx
namespace Go.Sx
open Go.RowKit
section
variable {P:Program} {I:World->Prop} {S:bN} {F:aC} {E:Env} {O:Nat->DV}
theorem znK {x y:Value} (h:tN x y=true):x=y:=by
 unfold tN at h
 split at h
 ·simp only [Bool.and_eq_true] at h
  obtain ⟨⟨⟨⟨h1,h2⟩,h3⟩,h4⟩,h5⟩:=h
  have:=Nat.eq_of_beq_eq_true h1;subst this
  rw [Array.eq_empty_of_size_eq_zero (Nat.eq_of_beq_eq_true h2),Array.eq_empty_of_size_eq_zero (Nat.eq_of_beq_eq_true h3),Array.eq_empty_of_size_eq_zero (Nat.eq_of_beq_eq_true h4),Array.eq_empty_of_size_eq_zero (Nat.eq_of_beq_eq_true h5)]
 ·rfl
 ·rfl
 ·rfl
 ·cases h
def IQ (O:Nat->DV) (m:List Nat) (x y:Lf):Prop:=y.good O->(∀ U:Nat->Loc,x.aa O (fun j=>U (bz m j))=y.aa O U)/\x.good O
theorem vX {a b:Bool} (h:vH a b=true):a=b:=by cases a<;>cases b<;>simp [vH] at h<;>rfl
theorem zvQ {a b:Bool×Nat} (h:Fl a b=true):a=b:=by
 simp only [Fl,Bool.and_eq_true] at h
 exact Prod.ext (vX h.1) (Nat.eq_of_beq_eq_true h.2)
theorem Alt.vY (m:List Nat) (U:Nat->Loc) (x:Alt):(x.eR m).aa U=x.aa (fun j=>U (bz m j)):=by cases x<;>rfl
theorem NH (m:List Nat):∀ (l:List (Nat×Alt)) (k:Nat),eI (Fk m l) k=(eI l k).map (Alt.eR m)
 | [],_=>rfl
 | x::l,k=>by
  have:=NH m l k
  unfold Fk at this
  simp only [Fk,List.map_cons,eI]
  split
  ·rfl
  ·exact this
theorem NI:∀ {l:List (Nat×Alt)} {k:Nat} {x:Alt},eI l k=some x->(k,x)∈l
 | [],_,_,h=>by simp [eI] at h
 | y::l,k,x,h=>by
  simp only [eI] at h
  split at h
  ·rename_i he
   cases h
   rw [<-Nat.eq_of_beq_eq_true he]
   exact List.mem_cons_self
  ·exact List.mem_cons_of_mem _ (NI h)
theorem zrB {l l':List (Nat×Alt)} (h:ZQ l l'=true) {k:Nat} {x:Alt} (hx:eI l k=some x):eI l' k=some x:=by
 have:=List.all_eq_true.1 h _ (NI hx)
 simp only at this
 cases hy:eI l' k with
 | none=>rw [hy] at this;cases this
 | some y=>rw [hy] at this;rw [Alt.beq_eq this]
theorem zpg {m:List Nat} {a:A} {l:List (Nat×Alt)} {y:Lf} (h:QG m a l y=true):IQ O m (.alt a l) y:=by
 intro hg
 unfold QG at h
 cases hq:xz y with
 | none=>rw [hq] at h;cases h
 | some q =>
  rw [hq] at h
  simp only [Bool.and_eq_true] at h
  obtain ⟨h1,h2⟩:=h
  obtain ⟨g1,z,g2,g3⟩:=zla hq hg
  have ha:a.int O=q.1.int O:=by
   split at h1
   ·simp only [A.int,A.aH h1 O]
   ·split at h1
    ·rename_i x hx
     have hO:=of_decide_eq_true h1
     have:eI q.2 (q.1.int O).toNat=some z:=g2
     rw [hx] at this
     simp only [eI] at this
     split at this
     ·rename_i he
      have:=Nat.eq_of_beq_eq_true he
      rw [A.n7,hO]
      omega
     ·cases this
    ·cases h1
   ·cases h1
  have cA:=zrB h2 g2
  rw [NH] at cA
  obtain ⟨u,hu,hur⟩:=Option.map_eq_some_iff.1 cA
  refine ⟨fun U=>?_,?_⟩
  ·rw [g3 U,<-hur,Alt.vY]
   simp only [Lf.aa,nX,ha,hu]
  ·simp only [Lf.good,ha,hu]
   exact ⟨g1,rfl⟩
theorem Lf.bu {m:List Nat} {x y:Lf} (h:x.sub m y=true):IQ O m x y:=by
 cases x with
 | alt a l=>exact zpg h
 | i k a =>
  cases y<;>simp [Lf.sub] at h
  obtain ⟨h1,h2⟩:=h
  have:=pN h1;subst this
  exact fun _=>⟨fun U=>by simp [Lf.aa,A.int,A.aH h2 O],trivial⟩
 | b a =>
  cases y<;>simp [Lf.sub] at h
  exact fun _=>⟨fun U=>by simp [Lf.aa,A.bool,A.aH h O],trivial⟩
 | p k off =>
  cases y<;>simp [Lf.sub] at h
  obtain ⟨rfl,h2⟩:=h
  obtain ⟨h3,h4⟩:=bV.beq_spec (O:=O) h2
  exact fun hg=>⟨fun U=>by simp [Lf.aa,h3],h4 hg⟩
 | gp g off =>
  cases y<;>simp [Lf.sub] at h
  obtain ⟨rfl,h2⟩:=h
  obtain ⟨h3,h4⟩:=bV.beq_spec (O:=O) h2
  exact fun hg=>⟨fun U=>by simp [Lf.aa,h3],h4 hg⟩
 | cG =>
  cases y<;>simp [Lf.sub] at h
  exact fun _=>⟨fun U=>rfl,trivial⟩
 | vec k =>
  cases y<;>simp [Lf.sub] at h
  subst h
  exact fun _=>⟨fun U=>rfl,trivial⟩
 | e t a1 j1 =>
  cases y<;>simp [Lf.sub] at h
  obtain ⟨⟨h1,h2⟩,rfl⟩:=h
  have:=LT.jv h1
  subst this
  refine fun _=>⟨fun U=>?_,trivial⟩
  cases t<;>simp only [Lf.aa,A.cells,A.aH h2 O]
 | kL f bs =>
  cases y<;>simp [Lf.sub] at h
  obtain ⟨rfl,h2⟩:=h
  rw [<-R6 h2]
  exact fun _=>⟨fun U=>by simp only [Lf.aa];rw [zhT],trivial⟩
 | fV t q =>
  cases y<;>simp [Lf.sub] at h
  obtain ⟨rfl,rfl⟩:=h
  exact fun _=>⟨fun U=>rfl,trivial⟩
 | str a =>
  cases y<;>simp [Lf.sub] at h
  exact fun _=>⟨fun U=>by simp only [Lf.aa,A.cells,A.aH h O],trivial⟩
 | mp q =>
  cases y<;>simp [Lf.sub] at h
  subst h
  exact fun _=>⟨fun U=>rfl,trivial⟩
 | v x =>
  cases y<;>simp [Lf.sub] at h
  have:=znK h;subst this
  exact fun hg=>⟨fun U=>rfl,hg⟩
theorem q_.bu {m:List Nat} : ∀ {x y:List Lf},q_.sub m x y=true->(∀ l∈y,Lf.good O l)->(∀ U:Nat->Loc,x.map (Lf.aa O (fun j=>U (bz m j)))=y.map (Lf.aa O U))/\∀ l∈x,Lf.good O l
 | [],[],_,h=>⟨fun _=>rfl,h⟩
 | x::l,y::l',h,hg=>by
  simp only [q_.sub,Bool.and_eq_true] at h
  obtain ⟨h1,h2⟩:=Lf.bu (O:=O) h.1 (hg y (by simp))
  obtain ⟨h3,h4⟩:=q_.bu h.2 (fun u hu=>hg u (List.mem_cons_of_mem _ hu))
  refine ⟨fun U=>by simp only [List.map_cons,h1 U,h3 U],fun z hz=>?_⟩
  rcases List.mem_cons.1 hz with rfl | hz
  ·exact h2
  ·exact h4 z hz
 | [],_::_,h,_=>by simp [q_.sub] at h
 | _::_,[],h,_=>by simp [q_.sub] at h
theorem V1.bu {m:List Nat} {x y:V1} (h:x.sub m y=true) (g:y.good O):(∀ U:Nat->Loc,x.aa O (fun j=>U (bz m j))=y.aa O U)/\x.good O:=by
 cases x<;>cases y<;>simp only [V1.sub] at h<;>first | cases h | skip
 ·obtain ⟨h1,h2⟩:=Lf.bu (O:=O) h (V1.ah.1 g)
  exact ⟨fun U=>h1 U,V1.ah.2 h2⟩
 ·obtain ⟨h1,h2⟩:=q_.bu (O:=O) h (V1.aP.1 g)
  exact ⟨fun U=>by simp only [V1.aa,h1 U],V1.aP.2 h2⟩
theorem uU.bu {m:List Nat} : ∀ {x y:List V1},uU.sub m x y=true->(∀ l∈y,V1.good O l)->(∀ U:Nat->Loc,x.map (V1.aa O (fun j=>U (bz m j)))=y.map (V1.aa O U))/\∀ l∈x,V1.good O l
 | [],[],_,h=>⟨fun _=>rfl,h⟩
 | x::l,y::l',h,hg=>by
  simp only [uU.sub,Bool.and_eq_true] at h
  obtain ⟨h1,h2⟩:=V1.bu (O:=O) h.1 (hg y (by simp))
  obtain ⟨h3,h4⟩:=uU.bu h.2 (fun u hu=>hg u (List.mem_cons_of_mem _ hu))
  refine ⟨fun U=>by simp only [List.map_cons,h1 U,h3 U],fun z hz=>?_⟩
  rcases List.mem_cons.1 hz with rfl | hz
  ·exact h2
  ·exact h4 z hz
 | [],_::_,h,_=>by simp [uU.sub] at h
 | _::_,[],h,_=>by simp [uU.sub] at h
theorem V.bu {m:List Nat} {x y:V} (h:x.sub m y=true) (g:y.good O):(∀ U:Nat->Loc,x.aa O (fun j=>U (bz m j))=y.aa O U)/\x.good O:=by
 cases x<;>cases y<;>simp only [V.sub] at h<;>first | cases h | skip
 ·exact V1.bu h g
 ·obtain ⟨h1,h2⟩:=uU.bu (O:=O) h g
  exact ⟨fun U=>by simp only [V.aa,h1 U],h2⟩
theorem NJ {m:List Nat} : ∀ {x y:List (Option V)},rK m x y=true->x.length=y.length/\∀ t v,nth x t=some v->∃ u,nth y t=some u/\v.sub m u=true
 | [],[],_=>⟨rfl,fun t v h=>by cases t<;>cases h⟩
 | none::l,y::l',h=>by
  simp only [rK] at h
  obtain ⟨h1,h2⟩:=NJ h
  refine ⟨by simp [h1],fun t v ht=>?_⟩
  cases t with
  | zero=>cases ht
  | succ t=>exact h2 t v ht
 | some x::l,some y::l',h=>by
  simp only [rK,Bool.and_eq_true] at h
  obtain ⟨h1,h2⟩:=NJ h.2
  refine ⟨by simp [h1],fun t v ht=>?_⟩
  cases t with
  | zero=>cases ht;exact ⟨y,rfl,h.1⟩
  | succ t=>exact h2 t v ht
 | [],_::_,h=>by simp [rK] at h
 | none::_,[],h=>by simp [rK] at h
 | some _::_,[],h=>by simp [rK] at h
 | some _::_,none::_,h=>by simp [rK] at h
theorem Sy {m:List Nat} : ∀ {x y:List (Option Lf)},Ab m x y=true->∀ t v,nth x t=some v->∃ u,nth y t=some u/\v.sub m u=true
 | [],_,_,t,v,ht=>by cases t<;>cases ht
 | none::l,y,h,t,v,ht=>by
  simp only [Ab] at h
  cases t with
  | zero=>cases ht
  | succ t =>
   obtain ⟨u,h1,h2⟩:=Sy h t v ht
   refine ⟨u,?_,h2⟩
   cases y with
   | nil=>cases t<;>cases h1
   | cons y l'=>exact h1
 | some x::l,some y::l',h,t,v,ht=>by
  simp only [Ab,Bool.and_eq_true] at h
  cases t with
  | zero=>cases ht;exact ⟨y,rfl,h.1⟩
  | succ t=>exact Sy h.2 t v ht
 | some _::_,[],h,_,_,_=>by simp [Ab] at h
 | some _::_,none::_,h,_,_,_=>by simp [Ab] at h
theorem IS:∀ {l l':List LT},Ac l l'=true->l=l'
 | [],[],_=>rfl
 | .int k::l,.int k'::l',h=>by
  simp only [Ac,Bool.and_eq_true] at h
  rw [pN h.1,IS h.2]
 | .bool::l,.bool::l',h=>by
  simp only [Ac] at h
  rw [IS h]
 | [],.int _::_,h=>by cases h
 | [],.bool::_,h=>by cases h
 | [],.vec _::_,h=>by cases h
 | .int _::_,[],h=>by cases h
 | .bool::_,[],h=>by cases h
 | .vec _::_,[],h=>by cases h
 | .int _::_,.bool::_,h=>by cases h
 | .int _::_,.vec _::_,h=>by cases h
 | .bool::_,.int _::_,h=>by cases h
 | .bool::_,.vec _::_,h=>by cases h
 | .vec _::_,.int _::_,h=>by cases h
 | .vec _::_,.bool::_,h=>by cases h
 | .vec _::_,.vec _::_,h=>by cases h
theorem LT.beq_eq:∀ {t u:LT},t.beq u=true->t=u
 | .int k,.int k',h=>by simp only [LT.beq] at h;rw [pN h]
 | .bool,.bool,_=>rfl
 | .vec l,.vec l',h=>by simp only [LT.beq] at h;rw [IS h]
 | .int _,.bool,h=>by simp [LT.beq] at h
 | .int _,.vec _,h=>by simp [LT.beq] at h
 | .bool,.int _,h=>by simp [LT.beq] at h
 | .bool,.vec _,h=>by simp [LT.beq] at h
 | .vec _,.int _,h=>by simp [LT.beq] at h
 | .vec _,.bool,h=>by simp [LT.beq] at h
theorem ld.beq_eq:∀ {t u:List LT},ld.beq t u=true->t=u
 | [],[],_=>rfl
 | t::l,u::l',h=>by simp only [ld.beq,Bool.and_eq_true] at h;rw [LT.beq_eq h.1,ld.beq_eq h.2]
 | [],_::_,h=>by simp [ld.beq] at h
 | _::_,[],h=>by simp [ld.beq] at h
theorem eS.sub {m:List Nat} {kt vt:Bool×Nat} {cs cs':List Lf} {U:Nat->Loc} {w:World} {r:Loc} (h:q_.sub m cs cs'=true) (hb:eS O U w r kt vt cs'):eS O (fun j=>U (bz m j)) w r kt vt cs:=by
 obtain ⟨h1,h2⟩:=q_.bu h hb.good
 obtain ⟨es,clock,e1,e2⟩:=hb.nB
 exact ⟨hb.nil,⟨es,clock,e1,by rw [FR (h1 U)];exact e2⟩,h2⟩
theorem ag.bu {m:List Nat} {x y:ag} (h:x.sub m y=true):(x.own=true->y.own=true) /\
  ∀ (U:Nat->Loc) (w:World) (r:Loc),aD E O U w r y->aD E O (fun j=>U (bz m j)) w r x:=by
 cases x with
 | obj o k a =>
  cases y with
  | c=>simp [ag.sub] at h
  | v=>simp [ag.sub] at h
  | l=>simp [ag.sub] at h
  | m=>simp [ag.sub] at h
  | obj o' k' a' =>
   simp only [ag.sub,Bool.and_eq_true,Bool.or_eq_true,Bool.not_eq_true'] at h
   obtain ⟨⟨h1,h2⟩,h3⟩:=h
   have:=Nat.eq_of_beq_eq_true h2;subst this
   have ha:a.cells O=a'.cells O:=by simp [A.cells,A.aH h3 O]
   refine ⟨fun ho=>?_,fun U w r hb=>?_⟩
   rotate_left
   ·show fW o k w r (a.cells O)
    rw [ha]
    have hb:fW o' k w r (a'.cells O):=hb
    refine hb.map fun _ d' hd=>?_
    rcases h1 with h1 | h1
    ·rw [h1];exact (bQ _).wk hd
    ·cases o with
     | false=>exact (bQ _).wk hd
     | true=>rwa [h1] at hd
   rcases h1 with h1 | h1
   ·change o=true at ho;rw [h1] at ho;cases ho
   ·exact h1
 | c o cs =>
  cases y with
  | v=>simp [ag.sub] at h
  | obj=>simp [ag.sub] at h
  | l=>simp [ag.sub] at h
  | m=>simp [ag.sub] at h
  | c o' cs' =>
   simp only [ag.sub,Bool.and_eq_true,Bool.or_eq_true,Bool.not_eq_true'] at h
   obtain ⟨h1,h2⟩:=h
   refine ⟨fun ho=>?_,fun U w r hb=>?_⟩
   ·rcases h1 with h1 | h1
    ·change o=true at ho;rw [h1] at ho;cases ho
    ·exact h1.1
   ·have hb:cK O U w r o' cs':=hb
    refine ⟨hb.nil,hb.lt,fun i l hl=>?_,fun ho i hi=>?_,fun ho o=>?_⟩
    ·obtain ⟨u,e1,e2⟩:=Sy h2 i l hl
     obtain ⟨g1,g2⟩:=hb.cell i u e1
     obtain ⟨s1,s2⟩:=Lf.bu (O:=O) e2 g1
     exact ⟨s2,by rw [s1 U];exact g2⟩
    ·rcases h1 with h1 | h1
     ·rw [h1] at ho;cases ho
     ·have:=Nat.eq_of_beq_eq_true h1.2
      exact hb.own h1.1 i (by omega)
    ·rcases h1 with h1 | h1
     ·rw [h1] at ho;cases ho
     ·exact hb.fz h1.1 o
 | l o f ts a =>
  cases y with
  | c=>simp [ag.sub] at h
  | obj=>simp [ag.sub] at h
  | m=>simp [ag.sub] at h
  | l o' f' ts' a' =>
   simp only [ag.sub,Bool.and_eq_true,Bool.or_eq_true,Bool.not_eq_true'] at h
   obtain ⟨⟨⟨h1,h0⟩,h2⟩,h3⟩:=h
   have:=ld.beq_eq h2;subst this
   have ha:a.cells O=a'.cells O:=by simp [A.cells,A.aH h3 O]
   have himp:∀ {b b':Bool},(b=false\/b'=true)->b=true->b'=true:=fun h e=>by
    rcases h with h | h
    ·rw [h] at e;cases e
    ·exact h
   refine ⟨himp h1,fun U w r hb=>?_⟩
   have hb:eu E w r o' f' ts (a'.cells O):=hb
   show eu E w r o f ts (a.cells O)
   rw [ha]
   exact ⟨hb.row,fun ho=>hb.spare (himp h1 ho),fun hf=>hb.full (himp h0 hf)⟩
  | v o' ts' a' =>
   simp only [ag.sub,Bool.and_eq_true,Bool.or_eq_true,Bool.not_eq_true'] at h
   obtain ⟨⟨⟨h1,h0⟩,h2⟩,h3⟩:=h
   have:=ld.beq_eq h2;subst this
   have ha:a.cells O=a'.cells O:=by simp [A.cells,A.aH h3 O]
   have himp:∀ {b b':Bool},(b=false\/b'=true)->b=true->b'=true:=fun h e=>by
    rcases h with h | h
    ·rw [h] at e;cases e
    ·exact h
   refine ⟨himp h1,fun U w r hb=>?_⟩
   have hb:bf E w r o' ts (a'.cells O):=hb
   show eu E w r o f ts (a.cells O)
   rw [ha]
   refine ⟨⟨hb.nil,hb.lt,hb.pos,hb.len,hb.cap,hb.cell,fun ho=>(by cases ho),fun ho=>by cases ho⟩,fun ho _=>?_,fun hf=>by rw [h0] at hf;cases hf⟩
   have:=himp h1 ho
   subst this;exact hb
 | m o kt vt cs =>
  cases y with
  | c=>simp [ag.sub] at h
  | obj=>simp [ag.sub] at h
  | v=>simp [ag.sub] at h
  | l=>simp [ag.sub] at h
  | m o' MN MO cs' =>
   simp only [ag.sub,Bool.and_eq_true,Bool.or_eq_true,Bool.not_eq_true'] at h
   obtain ⟨⟨⟨h1,h2⟩,h3⟩,h5⟩:=h
   have:=zvQ h2;subst this
   have:=zvQ h3;subst this
   refine ⟨fun ho=>?_,fun U w r hb=>eS.sub h5 hb⟩
   rcases h1 with h1 | h1
   ·change o=true at ho;rw [h1] at ho;cases ho
   ·exact h1
 | v o ts a =>
  cases y with
  | c=>simp [ag.sub] at h
  | obj=>simp [ag.sub] at h
  | m=>simp [ag.sub] at h
  | l o' f' ts' a' =>
   simp only [ag.sub,Bool.and_eq_true,Bool.not_eq_true'] at h
   obtain ⟨⟨h1,h2⟩,h3⟩:=h
   have:=ld.beq_eq h2;subst this
   subst h1
   have ha:a.cells O=a'.cells O:=by simp [A.cells,A.aH h3 O]
   refine ⟨fun ho=>(by cases ho),fun U w r hb=>?_⟩
   have hb:eu E w r o' f' ts (a'.cells O):=hb
   show bf E w r false ts (a.cells O)
   rw [ha]
   exact hb.row
  | v o' ts' a' =>
   simp only [ag.sub,Bool.and_eq_true,Bool.or_eq_true,Bool.not_eq_true'] at h
   obtain ⟨⟨h1,h2⟩,h3⟩:=h
   have:=ld.beq_eq h2;subst this
   have ha:a.cells O=a'.cells O:=by simp [A.cells,A.aH h3 O]
   refine ⟨fun ho=>?_,fun U w r hb=>?_⟩
   ·rcases h1 with h1 | h1
    ·change o=true at ho;rw [h1] at ho;cases ho
    ·exact h1
   ·have hb:bf E w r o' ts (a'.cells O):=hb
    show bf E w r o ts (a.cells O)
    rw [ha]
    refine ⟨hb.nil,hb.lt,hb.pos,hb.len,hb.cap,hb.cell,fun ho=>?_,fun ho=>?_⟩
    ·rcases h1 with h1 | h1
     ·rw [h1] at ho;cases ho
     ·exact hb.own h1
    ·rcases h1 with h1 | h1
     ·rw [h1] at ho;cases ho
     ·exact hb.fz h1
theorem Cm {m:List Nat} {hp:List (Option ag)} : ∀ {x:List (Option ag)} {j:Nat},vI m hp j x=true->∀ i bk,nth x i=some bk->∃ aS,nth hp (bz m (j+i))=some aS/\bk.sub m aS=true
 | [],j,_,i,bk,h=>by cases i<;>cases h
 | none::l,j,hs,i,bk,h=>by
  simp only [vI] at hs
  cases i with
  | zero=>cases h
  | succ i =>
   have:=Cm hs i bk h
   rwa [show j+1+i=j+(i+1) from by omega] at this
 | some x::l,j,hs,i,bk,h=>by
  simp only [vI,Bool.and_eq_true] at hs
  cases i with
  | zero =>
   cases h
   cases hn:nth hp (bz m j) with
   | none=>rw [hn] at hs;cases hs.1
   | some y =>
    rw [hn] at hs
    exact ⟨y,rfl,hs.1⟩
  | succ i =>
   have:=Cm hs.2 i bk h
   rwa [show j+1+i=j+(i+1) from by omega] at this
theorem Sz {m:List Nat} {i b:Nat} : ∀ {x:List (Option ag)} {j:Nat},BR m i b j x=true->∀ k bk,nth x k=some bk->j+k≠i->bz m (j+k)≠b
 | [],j,_,k,bk,h,_=>by cases k<;>cases h
 | none::l,j,hs,k,bk,h,hne=>by
  simp only [BR] at hs
  cases k with
  | zero=>cases h
  | succ k =>
   have:=Sz hs k bk h (by omega)
   rwa [show j+1+k=j+(k+1) from by omega] at this
 | some x::l,j,hs,k,bk,h,hne=>by
  simp only [BR,Bool.and_eq_true,Bool.or_eq_true,Bool.not_eq_true'] at hs
  cases k with
  | zero =>
   rcases hs.1 with h1 | h1
   ·exact absurd (Nat.eq_of_beq_eq_true h1) hne
   ·intro e
    rw [Nat.add_zero] at e
    rw [e,Nat.beq_refl] at h1
    cases h1
  | succ k =>
   have:=Sz hs.2 k bk h (by omega)
   rwa [show j+1+k=j+(k+1) from by omega] at this
theorem SA {m:List Nat} {all:List (Option ag)} : ∀ {x:List (Option ag)} {j:Nat},Ad m all j x=true->∀ i bk,nth x i=some bk->bk.own=true->BR m (j+i) (bz m (j+i)) 0 all=true
 | [],j,_,i,bk,h,_=>by cases i<;>cases h
 | none::l,j,hs,i,bk,h,ho=>by
  simp only [Ad] at hs
  cases i with
  | zero=>cases h
  | succ i =>
   have:=SA hs i bk h ho
   rwa [show j+1+i=j+(i+1) from by omega] at this
 | some x::l,j,hs,i,bk,h,ho=>by
  simp only [Ad,Bool.and_eq_true,Bool.or_eq_true,Bool.not_eq_true'] at hs
  cases i with
  | zero =>
   cases h
   rcases hs.1 with h1 | h1
   ·rw [ho] at h1;cases h1
   ·exact h1
  | succ i =>
   have:=SA hs.2 i bk h ho
   rwa [show j+1+i=j+(i+1) from by omega] at this
theorem IT {m:List Nat} : ∀ {n:Nat},tO m n=true->∀ j,j<n->bz m j=j
 | 0,_,j,h=>by omega
 | n+1,hk,j,h=>by
  simp only [tO,Bool.and_eq_true] at hk
  rcases Nat.lt_or_ge j n with h1 | h1
  ·exact IT hk.1 j h1
  ·have:j=n:=by omega
   subst this
   exact Nat.eq_of_beq_eq_true hk.2
theorem ag.iu {m:List Nat} {x y:ag} (h:x.sub m y=true) (ho:x.own=true) {w:World} {r:Loc} {b:Nat} (hb:x.aB w r b):y.aB w r b:=by
 cases x<;>cases y<;>simp only [ag.sub] at h<;>first | exact hb | (cases h;done) | skip
 ·simp only [Bool.and_eq_true] at h
  rename_i o _ _ _ _ _ _
  have ho:o=true:=ho
  subst ho
  cases h.1.1
 ·simp only [Bool.and_eq_true] at h;have:=Nat.eq_of_beq_eq_true h.1.2;subst this;exact hb
 ·exact hb.1
theorem ag.iN {m:List Nat} {x y:ag} (h:x.sub m y=true) (w:World) (r:Loc):x.av w r=y.av w r:=by
 cases x<;>cases y<;>simp only [ag.sub] at h<;>first | rfl | (cases h;done) | (simp only [Bool.and_eq_true] at h;have:=Nat.eq_of_beq_eq_true h.1.2;subst this;rfl)
theorem eT.sub {U:Nat->Loc} {m:List Nat} {x y:List (Option ag)} {w:World} (h:eT E O U y w) (h1:vI m y 0 x=true) (h2:Ad m x 0 x=true):eT E O (fun j=>U (bz m j)) x w:=by
 refine ⟨fun j bk hj=>?_,fun j j' bk aS hj ho hj' hne=>?_⟩
 ·obtain ⟨aS,e1,e2⟩:=Cm h1 j bk hj
  rw [Nat.zero_add] at e1
  exact (ag.bu e2).2 U w _ (h.aj _ _ e1)
 ·obtain ⟨b1,e1,e2⟩:=Cm h1 j bk hj
  obtain ⟨b2,e3,e4⟩:=Cm h1 j' aS hj'
  rw [Nat.zero_add] at e1 e3
  have h3:=SA h2 j bk hj ho
  have h4:=Sz h3 j' aS hj' (by omega)
  rw [Nat.zero_add,Nat.zero_add] at h4
  have:=h.apart _ _ _ _ e1 ((ag.bu (E:=E) (O:=O) e2).1 ho) e3 (Ne.symm h4)
  rw [<-ag.iN e4] at this
  exact fun g1 g2 b hb=>this g1 g2 b (ag.iu e2 ho hb)
theorem jx.sub {W V:Nat->Prop} {w0 w:World} {U:Nat->Loc} {m:List Nat} {x y:List (Option ag)} (h:jx W V w0 w U y) (h1:vI m y 0 x=true):jx W V w0 w (fun j=>U (bz m j)) x:=by
 intro j bk hj
 obtain ⟨b1,e1,e2⟩:=Cm h1 j bk hj
 rw [Nat.zero_add] at e1
 rcases h _ _ e1 with h | h
 ·exact .inl h
 ·refine .inr ⟨fun ho b hb=>?_,fun b hb=>?_⟩
  ·exact h.wr ((ag.bu (E:=⟨W,V,w0,0,U⟩) (O:=fun _=>default) e2).1 ho) b (ag.iu e2 ho hb)
  ·rw [ag.iN e2] at hb
   exact h.rd b hb
theorem RR.sub {U:Nat->Loc} {m:List Nat} {x y:St} {a:Act} {w:World} (h:RR O E U ⟨y,[]⟩ a w) (hs:x.sub m y=true) (hk:tO m E.n0=true) (hl:E.n0<=x.hp.length) :
  RR O E (fun j=>U (bz m j)) ⟨x,[]⟩ a w:=by
 simp only [St.sub,Bool.and_eq_true] at hs
 obtain ⟨⟨h1,h2⟩,h3⟩:=hs
 obtain ⟨s1,s2⟩:=NJ h1
 refine ⟨⟨h.act.defers,by rw [h.act.size];exact s1.symm,fun t v ht=>?_,fun e he=>by cases he⟩,h.hs.heap.sub h2 h3,h.hs.old.sub h2,h.hs.fr,hl,fun j hj=>?_⟩
 ·obtain ⟨u,e1,e2⟩:=s2 t v ht
  obtain ⟨g1,g2⟩:=h.act.slot t u e1
  obtain ⟨c1,c2⟩:=V.bu (O:=O) e2 g1
  exact ⟨c2,by rw [c1 U];exact g2⟩
 ·rw [IT hk j hj];exact h.hs.keep j hj
end
end Go.Sx
namespace Go.Sx
open Go.RowKit
section
variable {P:Program} {I:World->Prop} {S:bN} {F:aC} {E:Env} {O O1 O2:Nat->DV}
theorem jy {α β:Type} (f:α->β):∀ (l:List (Option α)) (j:Nat),nth (l.map (Option.map f)) j=(nth l j).map f
 | [],j=>by cases j<;>rfl
 | x::l,0=>by simp [nth]
 | x::l,j+1=>by simp only [List.map_cons,nth];exact jy f l j
theorem iO {α:Type} {q:α->Bool} : ∀ {l:List (Option α)} {i:Nat} {x:α},l.all (dw q)=true->nth l i=some x->q x=true
 | [],i,x,_,h=>by cases i<;>cases h
 | c::l,0,x,h,hx=>by
  simp only [List.all_cons,Bool.and_eq_true] at h
  cases hx
  exact h.1
 | c::l,i+1,x,h,hx=>by
  simp only [List.all_cons,Bool.and_eq_true] at h
  exact iO h.2 hx
theorem Ty.beq_eq {t u:Ty} (h:t.beq u=true):t=u:=by cases t<;>cases u<;>simp [Ty.beq] at h<;>rfl
theorem Ty.kB (t:Ty) (d:DV):t.gT d d:=by cases t<;>rfl
theorem Ty.lK {t:Ty} {d e:DV} (h:d=e):t.gT d e:=h▸t.kB d
theorem Ty.rR {t:Ty} {d e f:DV} (h:t.gT d e) (k:t.gT e f):t.gT d f:=by cases t<;>exact Eq.trans h k
theorem Ty.tZ {t:Ty} {d e:DV} (h:t.gT d e):t.gT e d:=by cases t<;>exact Eq.symm h
def gb (O1 O2:Nat->DV):List Ty->List A->List A->Prop
 | t::ts,a::as,b::bs=>t.gT (a.den O1) (b.den O2)/\gb O1 O2 ts as bs
 | [],[],[]=>True
 | _,_,_=>False
theorem gb.at:∀ {ts:List Ty} {as bs:List A} {j:Nat} {t:Ty},gb O1 O2 ts as bs->ts[j]? = some t->t.gT ((as.getD j default).den O1) ((bs.getD j default).den O2)
 | _::_,_::_,_::_,0,t,h,e=>by simp at e;subst e;exact h.1
 | _::ts,_::as,_::bs,j+1,t,h,e=>by
  have:=gb.at (j:=j) h.2 (by simpa using e)
  simpa using this
 | [],_,_,j,t,_,e=>by simp at e
 | _::_,[],_,_,_,h,_=>by exact h.elim
 | _::_,_::_,[],_,_,h,_=>by exact h.elim
theorem gb.mj:∀ {ts:List Ty} {as bs:List A},as.length=ts.length->as.map (A.den O1)=bs.map (A.den O2)->gb O1 O2 ts as bs
 | [],[],[],_,_=>trivial
 | t::ts,a::as,b::bs,hl,h=>by
  simp only [List.map_cons,List.cons.injEq] at h
  exact ⟨Ty.lK h.1,gb.mj (by simpa using hl) h.2⟩
 | [],[],_::_,_,h=>by simp at h
 | _::_,_::_,[],_,h=>by simp at h
 | [],_::_,_,h,_=>by simp at h
 | _::_,[],_,h,_=>by simp at h
section
variable {p:A->Bool} {tys:List Ty} {as bs:List A} (hp:∀ a,p a=true->a.den O1=a.den O2) (h:gb O1 O2 tys as bs)
include hp h
theorem A.aX {t:Ty} {a:A} (ha:a.bn p tys t=true):t.gT ((a.inst as).den O1) ((a.inst bs).den O2):=by
 cases a with
 | h j =>
  simp only [A.bn,Bool.and_eq_true,decide_eq_true_eq] at ha
  obtain ⟨h1,h2⟩:=ha
  rw [List.getElem?_eq_getElem h2] at h1
  have:=Ty.beq_eq (show t.beq tys[j]=true from h1)
  exact h.at (by rw [this];exact List.getElem?_eq_getElem h2)
 | r i=>exact Ty.lK (hp _ ha)
 | z n=>exact Ty.lK (hp _ ha)
 | t b=>exact Ty.lK (hp _ ha)
theorem A.fj {a:A} (ha:a.bn p tys .i=true):(a.inst bs).int O2=(a.inst as).int O1:=(A.aX hp h ha).symm
theorem A.t_ {a:A} (ha:a.bn p tys .b=true):(a.inst bs).bool O2=(a.inst as).bool O1:=(A.aX hp h ha).symm
theorem A.dX {a:A} (ha:a.bn p tys .l=true):(a.inst bs).cells O2=(a.inst as).cells O1:=(A.aX hp h ha).symm
theorem bV.aX {o:bV} (ho:o.bn p tys=true):(o.inst bs).val O2=(o.inst as).val O1/\((o.inst as).good O1->(o.inst bs).good O2):=by
 cases o with
 | c n=>exact ⟨rfl,id⟩
 | s b ix sz len =>
  have e:=A.fj hp h (show ix.bn p tys .i=true from ho)
  exact ⟨by simp only [bV.inst,bV.val,e],by simp only [bV.inst,bV.good,e];exact id⟩
 | v b ix sz a =>
  simp only [bV.bn,Bool.and_eq_true] at ho
  have e:=A.fj hp h ho.1
  have e2:=A.dX hp h ho.2
  exact ⟨by simp only [bV.inst,bV.val,e],by simp only [bV.inst,bV.good,e,e2];exact id⟩
 | d b ix sz len hY jI fe =>
  simp only [bV.bn,Bool.and_eq_true] at ho
  have e:=A.fj hp h ho.1
  have e2:=A.fj hp h ho.2
  exact ⟨by simp only [bV.inst,bV.val,e,e2],by simp only [bV.inst,bV.good,e,e2];exact id⟩
 | w b ix sz a hY jI fe =>
  simp only [bV.bn,Bool.and_eq_true] at ho
  have e:=A.fj hp h ho.1.1
  have e1:=A.dX hp h ho.1.2
  have e2:=A.fj hp h ho.2
  exact ⟨by simp only [bV.inst,bV.val,e,e2],by simp only [bV.inst,bV.good,e,e1,e2];exact id⟩
theorem Lf.aX {l:Lf} (hl:l.bn p tys=true):(∀ U,(l.inst bs).aa O2 U=(l.inst as).aa O1 U)/\((l.inst as).good O1->(l.inst bs).good O2):=by
 cases l with
 | i k a=>exact ⟨fun U=>by simp only [Lf.inst,Lf.aa,A.fj hp h (show a.bn p tys .i=true from hl)],fun _=>trivial⟩
 | b a=>exact ⟨fun U=>by simp only [Lf.inst,Lf.aa,A.t_ hp h (show a.bn p tys .b=true from hl)],fun _=>trivial⟩
 | p aj off =>
  obtain ⟨e1,e2⟩:=bV.aX hp h (show off.bn p tys=true from hl)
  exact ⟨fun U=>by simp only [Lf.inst,Lf.aa,e1],e2⟩
 | gp g off =>
  obtain ⟨e1,e2⟩:=bV.aX hp h (show off.bn p tys=true from hl)
  exact ⟨fun U=>by simp only [Lf.inst,Lf.aa,e1],e2⟩
 | cG=>exact ⟨fun _=>rfl,id⟩
 | vec b=>exact ⟨fun _=>rfl,id⟩
 | e t a j =>
  have hc:=A.dX hp h (show a.bn p tys .l=true from hl)
  refine ⟨fun U=>?_,fun _=>trivial⟩
  cases t<;>simp only [Lf.inst,Lf.aa,hc]
 | kL f bs=>exact ⟨fun _=>rfl,id⟩
 | fV t b=>exact ⟨fun _=>rfl,id⟩
 | str a =>
  have hc:=A.dX hp h (show a.bn p tys .l=true from hl)
  exact ⟨fun U=>by simp only [Lf.inst,Lf.aa,hc],fun _=>trivial⟩
 | mp b=>exact ⟨fun _=>rfl,id⟩
 | alt a l =>
  have e:=A.fj hp h (show a.bn p tys .i=true from hl)
  exact ⟨fun U=>by simp only [Lf.inst,Lf.aa,e],fun hg=>by simp only [Lf.inst,Lf.good,e] at hg ⊢;exact hg⟩
 | v x=>exact ⟨fun _=>rfl,id⟩
theorem q_.aX:∀ {l:List Lf},l.all (Lf.bn p tys)=true->(∀ U,(l.map (Lf.inst bs)).map (Lf.aa O2 U)=(l.map (Lf.inst as)).map (Lf.aa O1 U))/\((∀ x∈l.map (Lf.inst as),Lf.good O1 x)->∀ x∈l.map (Lf.inst bs),Lf.good O2 x)
 | [],_=>⟨fun _=>rfl,fun _ x hx=>by cases hx⟩
 | x::l,hl=>by
  simp only [List.all_cons,Bool.and_eq_true] at hl
  obtain ⟨h1,h2⟩:=Lf.aX hp h hl.1
  obtain ⟨h3,h4⟩:=q_.aX hl.2
  refine ⟨fun U=>by simp only [List.map_cons,h1 U,h3 U],fun hg z hz=>?_⟩
  simp only [List.map_cons] at hg hz
  rcases List.mem_cons.1 hz with rfl | hz
  ·exact h2 (hg _ (by simp))
  ·exact h4 (fun u hu=>hg u (List.mem_cons_of_mem _ hu)) z hz
theorem V1.aX {v:V1} (hv:v.bn p tys=true):(∀ U,(v.inst bs).aa O2 U=(v.inst as).aa O1 U)/\((v.inst as).good O1->(v.inst bs).good O2):=by
 cases v with
 | one l =>
  obtain ⟨h1,h2⟩:=Lf.aX hp h (l:=l) (by simpa [V1.bn,V1.cells] using hv)
  exact ⟨fun U=>h1 U,fun g=>V1.ah.2 (h2 (V1.ah.1 g))⟩
 | agg l =>
  obtain ⟨h1,h2⟩:=q_.aX hp h (l:=l) hv
  exact ⟨fun U=>by simp only [V1.inst,V1.aa,h1 U],fun g=>V1.aP.2 (h2 (V1.aP.1 g))⟩
theorem uU.aX:∀ {l:List V1},l.all (V1.bn p tys)=true->(∀ U,(l.map (V1.inst bs)).map (V1.aa O2 U)=(l.map (V1.inst as)).map (V1.aa O1 U))/\((∀ x∈l.map (V1.inst as),V1.good O1 x)->∀ x∈l.map (V1.inst bs),V1.good O2 x)
 | [],_=>⟨fun _=>rfl,fun _ x hx=>by cases hx⟩
 | x::l,hl=>by
  simp only [List.all_cons,Bool.and_eq_true] at hl
  obtain ⟨h1,h2⟩:=V1.aX hp h hl.1
  obtain ⟨h3,h4⟩:=uU.aX hl.2
  refine ⟨fun U=>by simp only [List.map_cons,h1 U,h3 U],fun hg z hz=>?_⟩
  simp only [List.map_cons] at hg hz
  rcases List.mem_cons.1 hz with rfl | hz
  ·exact h2 (hg _ (by simp))
  ·exact h4 (fun u hu=>hg u (List.mem_cons_of_mem _ hu)) z hz
theorem V.aX {v:V} (hv:v.bn p tys=true):(∀ U,(v.inst bs).aa O2 U=(v.inst as).aa O1 U)/\((v.inst as).good O1->(v.inst bs).good O2):=by
 cases v with
 | s v=>exact V1.aX hp h (v:=v) hv
 | t l =>
  obtain ⟨h1,h2⟩:=uU.aX hp h (l:=l) hv
  exact ⟨fun U=>by simp only [V.inst,V.aa,h1 U],fun g=>h2 g⟩
theorem ag.aX {bk:ag} (hb:bk.bn p tys=true) {U:Nat->Loc} {w:World} {r:Loc} (hr:aD E O1 U w r (bk.inst as)):aD E O2 U w r (bk.inst bs):=by
 cases bk with
 | c o cs =>
  have hr:cK O1 U w r o (cs.map (Option.map (Lf.inst as))):=hr
  refine (⟨hr.nil,hr.lt,fun i l hl=>?_,fun ho i hi=>hr.own ho i (by simpa using hi),hr.fz⟩:cK O2 U w r o (cs.map (Option.map (Lf.inst bs))))
  rw [jy] at hl
  obtain ⟨x,hx,rfl⟩:=Option.map_eq_some_iff.1 hl
  have hall:cs.all (dw (Lf.bn p tys))=true:=hb
  have hO:x.bn p tys=true:=iO hall hx
  obtain ⟨h1,h2⟩:=Lf.aX hp h hO
  obtain ⟨g1,g2⟩:=hr.cell i (x.inst as) (by rw [jy,hx];rfl)
  exact ⟨h2 g1,by rw [h1 U];exact g2⟩
 | v o ts a =>
  have hr:bf E w r o ts ((a.inst as).cells O1):=hr
  show bf E w r o ts ((a.inst bs).cells O2)
  rw [A.dX hp h (show a.bn p tys .l=true from hb)]
  exact hr
 | obj o k a =>
  have hr:fW o k w r ((a.inst as).cells O1):=hr
  show fW o k w r ((a.inst bs).cells O2)
  rw [A.dX hp h (show a.bn p tys .l=true from hb)]
  exact hr
 | l o f ts a =>
  have hr:eu E w r o f ts ((a.inst as).cells O1):=hr
  show eu E w r o f ts ((a.inst bs).cells O2)
  rw [A.dX hp h (show a.bn p tys .l=true from hb)]
  exact hr
 | m o kt vt cs =>
  have hr:eS O1 U w r kt vt (cs.map (Lf.inst as)):=hr
  show eS O2 U w r kt vt (cs.map (Lf.inst bs))
  obtain ⟨h1,h2⟩:=q_.aX hp h (show cs.all (Lf.bn p tys)=true from hb)
  obtain ⟨es,clock,e1,e2⟩:=hr.nB
  exact ⟨hr.nil,⟨es,clock,e1,by rw [FR (h1 U)];exact e2⟩,h2 hr.good⟩
end
theorem ag.cC (ops:List A) (bk:ag):(bk.inst ops).own=bk.own:=by cases bk<;>rfl
theorem ag.cX (ops:List A) (bk:ag) (w:World) (r:Loc):(bk.inst ops).aB w r=bk.aB w r:=by cases bk<;>rfl
theorem ag.vZ (ops:List A) (bk:ag):(bk.inst ops).shr=bk.shr:=by cases bk<;>rfl
theorem ag.di (ops:List A) (bk:ag) (w:World) (r:Loc):(bk.inst ops).av w r=bk.av w r:=by cases bk<;>rfl
section
variable {p:A->Bool} {tys:List Ty} {as bs:List A} (hp:∀ a,p a=true->a.den O1=a.den O2) (h:gb O1 O2 tys as bs)
include hp h
theorem eT.inst {U:Nat->Loc} {pP:List (Option ag)} {w:World} (ht:pP.all (dw (ag.bn p tys))=true) (hr:eT E O1 U (pP.map (Option.map (ag.inst as))) w) :
  eT E O2 U (pP.map (Option.map (ag.inst bs))) w:=by
 refine ⟨fun j bk hj=>?_,fun j j' bk aS hj ho hj'=>?_⟩
 ·rw [jy] at hj
  obtain ⟨x,hx,rfl⟩:=Option.map_eq_some_iff.1 hj
  exact ag.aX hp h (iO ht hx) (hr.aj j (x.inst as) (by rw [jy,hx];rfl))
 ·rw [jy] at hj hj'
  obtain ⟨x,hx,rfl⟩:=Option.map_eq_some_iff.1 hj
  obtain ⟨y,hy,rfl⟩:=Option.map_eq_some_iff.1 hj'
  have:=hr.apart j j' (x.inst as) (y.inst as) (by rw [jy,hx];rfl) (by rw [ag.cC] at ho ⊢;exact ho) (by rw [jy,hy];rfl)
  rw [ag.cX,ag.di] at this ⊢
  exact this
omit hp h in
theorem jx.inst {W V:Nat->Prop} {w0 w:World} {U:Nat->Loc} {pP:List (Option ag)} (ho:jx W V w0 w U (pP.map (Option.map (ag.inst as)))):jx W V w0 w U (pP.map (Option.map (ag.inst bs))):=by
 intro j bk hj
 rw [jy] at hj
 obtain ⟨x,hx,rfl⟩:=Option.map_eq_some_iff.1 hj
 have:=ho j (x.inst as) (by rw [jy,hx];rfl)
 rw [ag.cC,ag.cX,ag.di] at this ⊢
 exact this
theorem RR.inst {U:Nat->Loc} {s:St} {a:Act} {w:World} (ht:s.bn p tys=true) (hr:RR O1 E U ⟨s.inst as,[]⟩ a w):RR O2 E U ⟨s.inst bs,[]⟩ a w:=by
 simp only [St.bn,Bool.and_eq_true] at ht
 refine ⟨⟨hr.act.defers,by rw [hr.act.size];simp [St.inst],fun t v SB=>?_,fun e he=>by cases he⟩,hr.hs.heap.inst hp h ht.2,jx.inst hr.hs.old,hr.hs.fr,by simpa [St.inst] using hr.hs.len,hr.hs.keep⟩
 simp only [St.inst] at SB
 rw [jy] at SB
 obtain ⟨x,hx,rfl⟩:=Option.map_eq_some_iff.1 SB
 obtain ⟨h1,h2⟩:=V.aX hp h (iO ht.1 hx)
 obtain ⟨g1,g2⟩:=hr.act.slot t (x.inst as) (by simp only [St.inst];rw [jy,hx];rfl)
 exact ⟨h2 g1,by rw [h1 U];exact g2⟩
end
end
end Go.Sx
namespace Go.Sx
open Go.RowKit
section
variable {P:Program} {I:World->Prop} {S:bN} {F:aC} {E:Env} {O:Nat->DV}
theorem SC {O:Nat->DV} {fid:Nat} {args:List A} : ∀ (n j:Nat),M.sat F O (HM fid args j n) (fun l=>l.length=n/\∀ i a,l[i]? = some a->a.den O=(F fid (args.map (A.den O))).getD (j+i) default)
 | 0,j=>au ⟨rfl,fun i a h=>by simp at h⟩
 | n+1,j=>by
  unfold HM
  refine ak (cz (Q:=fun r=>r.den O=(F fid (args.map (A.den O))).getD j default) fun r h=>h) fun a ha=>?_
  refine ak (SC n (j+1)) fun l hl=>au ⟨by simp [hl.1],fun i b hb=>?_⟩
  cases i with
  | zero=>simp at hb;subst hb;exact ha
  | succ i =>
   have:=hl.2 i b (by simpa using hb)
   rw [this,show j+1+i=j+(i+1) from by omega]
theorem IU {O:Nat->DV} (g:Nat->DV):∀ (k n j:Nat),(∀ i,i<k->O (n+i)=g (j+i))->(eL n k).map (A.den O)=(List.range' j k).map g
 | 0,_,_,_=>rfl
 | k+1,n,j,h=>by
  rw [List.range'_succ]
  simp only [eL,List.map_cons]
  rw [IU g k (n+1) (j+1) (fun i hi=>by have:=h (i+1) (by omega);rwa [show n+(i+1)=n+1+i from by omega,show j+(i+1)=j+1+i from by omega] at this)]
  have:=h 0 (by omega)
  simp only [Nat.add_zero] at this
  rw [show A.den O (.r n)=O n from rfl,this]
theorem zlb (xs:List DV) (k:Nat) (h:xs.length=k):(List.range' 0 k).map (fun i=>xs.getD i default)=xs:=by
 apply List.ext_getElem?
 intro i
 by_cases hi:i<k
 ·rw [List.getElem?_map,List.getElem?_range' (by omega)]
  simp [List.getElem?_eq_getElem (show i<xs.length from by omega)]
 ·rw [List.getElem?_eq_none (by simpa using hi),List.getElem?_eq_none (by omega)]
theorem zu1 (xs:List DV):(eL 0 xs.length).map (A.den (af xs))=xs:=by
 rw [IU (af xs) xs.length 0 0 (fun _ _=>rfl)]
 exact zlb xs _ rfl
theorem zjm:∀ (n k:Nat),(eL n k).length=k
 | _,0=>rfl
 | n,k+1=>by simp [eL,zjm (n+1) k]
theorem xH {O1 O2:Nat->DV} (a:A) (h:a.const=true):a.den O1=a.den O2:=by cases a<;>simp [A.const] at h<;>rfl
theorem IV (n:Nat) (p s:St):(oD n p s).1.length=n:=by simp [oD,ZS]
theorem Alt.cO {m:List Nat} {n:Nat} {U U':Nat->Loc} (h:∀ k,k<n->U' (bz m k)=U k) {x:Alt} (hl:x.lt n=true):(x.eR m).aa U'=x.aa U:=by
 cases x<;>simp only [Alt.lt,decide_eq_true_eq] at hl<;>simp only [Alt.eR,Alt.aa]<;>rw [h _ hl]
theorem znL {n:Nat} {l:List (Nat×Alt)} (h:Mw n l=true) {k:Nat} {x:Alt} (hx:eI l k=some x):x.lt n=true:=List.all_eq_true.1 h _ (NI hx)
theorem zph {m:List Nat} {n:Nat} {U U':Nat->Loc} (h:∀ k,k<n->U' (bz m k)=U k) {l:List (Nat×Alt)} (hl:Mw n l=true) (k:Nat):nX U' (Fk m l) k=nX U l k:=by
 unfold nX
 rw [NH]
 cases hx:eI l k with
 | none=>rfl
 | some x=>exact Alt.cO h (znL hl hx)
theorem zh1 {n:Nat} {U U':Nat->Loc} (h:∀ k,k<n->U' k=U k) {l:List (Nat×Alt)} (hl:Mw n l=true) (k:Nat):nX U' l k=nX U l k:=by
 unfold nX
 cases hx:eI l k with
 | none=>rfl
 | some x =>
  have hl:=znL hl hx
  cases x<;>simp only [Alt.lt,decide_eq_true_eq] at hl<;>simp only [Alt.aa]<;>rw [h _ hl]
theorem Lf.cO {m:List Nat} {n:Nat} {U U':Nat->Loc} (h:∀ k,k<n->U' (bz m k)=U k) {l:Lf} (hl:l.lt n=true):(l.eR m).aa O U'=l.aa O U/\(l.good O->(l.eR m).good O):=by
 cases l<;>simp only [Lf.lt,decide_eq_true_eq] at hl<;>simp only [Lf.eR]<;>first | exact ⟨rfl,id⟩ | (rename_i t _ _;cases t<;>exact ⟨rfl,id⟩) | skip
 ·exact ⟨by simp only [Lf.aa,h _ hl],id⟩
 ·exact ⟨by simp only [Lf.aa,h _ hl],id⟩
 ·rename_i f bs
  refine ⟨?_,fun _=>trivial⟩
  simp only [Lf.aa]
  rw [<-zhT,R7 hl h]
 ·exact ⟨by simp only [Lf.aa,h _ hl],id⟩
 ·exact ⟨by simp only [Lf.aa,h _ hl],id⟩
 ·refine ⟨by simp only [Lf.aa];exact zph h hl _,fun hg=>?_⟩
  simp only [Lf.good,NH] at hg ⊢
  exact ⟨hg.1,by rw [Option.isSome_map];exact hg.2⟩
theorem Lf.eU {n:Nat} {U U':Nat->Loc} (h:∀ k,k<n->U' k=U k) {l:Lf} (hl:l.lt n=true):l.aa O U'=l.aa O U:=by
 cases l<;>simp only [Lf.lt,decide_eq_true_eq] at hl<;>simp only [Lf.aa]<;>first | rw [h _ hl] | rw [R7 hl h] | exact zh1 h hl _ | (rename_i t _ _;cases t<;>rfl)
theorem bf.flat {E E':Env} {w:World} {r:Loc} {o:Bool} {ts:List LT} {xs:List DV} (hf:ts.all LT.flat=true) (h:bf E w r o ts xs):bf E' w r o ts xs :=
 ⟨h.nil,h.lt,h.pos,h.len,h.cap,fun i hi=>let ⟨v,h1,h2⟩:=h.cell i hi;⟨v,h1,h2.flat (Sk hf _)⟩,h.own,h.fz⟩
theorem V1.cO {m:List Nat} {n:Nat} {U U':Nat->Loc} (h:∀ k,k<n->U' (bz m k)=U k) {v:V1} (hl:v.lt n=true):(v.eR m).aa O U'=v.aa O U/\(v.good O->(v.eR m).good O):=by
 cases v with
 | one l =>
  obtain ⟨h1,h2⟩:=Lf.cO (O:=O) h (l:=l) (by simpa [V1.lt,V1.cells] using hl)
  exact ⟨h1,fun g=>V1.ah.2 (h2 (V1.ah.1 g))⟩
 | agg l =>
  have hall:l.all (Lf.lt n)=true:=hl
  refine ⟨?_,fun g=>V1.aP.2 fun x hx=>?_⟩
  ·simp only [V1.eR,V1.aa,List.map_map]
   congr 2
   exact List.map_congr_left fun x hx=>(Lf.cO h (List.all_eq_true.1 hall x hx)).1
  ·obtain ⟨y,hy,rfl⟩:=List.mem_map.1 hx
   exact (Lf.cO h (List.all_eq_true.1 hall y hy)).2 (V1.aP.1 g y hy)
theorem V.cO {m:List Nat} {n:Nat} {U U':Nat->Loc} (h:∀ k,k<n->U' (bz m k)=U k) {v:V} (hl:v.lt n=true):(v.eR m).aa O U'=v.aa O U/\(v.good O->(v.eR m).good O):=by
 cases v with
 | s v=>exact V1.cO h (v:=v) hl
 | t l =>
  have hall:l.all (V1.lt n)=true:=hl
  refine ⟨?_,fun g x hx=>?_⟩
  ·simp only [V.eR,V.aa,List.map_map]
   congr 2
   exact List.map_congr_left fun x hx=>(V1.cO h (List.all_eq_true.1 hall x hx)).1
  ·obtain ⟨y,hy,rfl⟩:=List.mem_map.1 hx
   exact (V1.cO h (List.all_eq_true.1 hall y hy)).2 (g y hy)
theorem ag.jS (m:List Nat) (b:ag):(b.eR m).own=b.own:=by cases b<;>rfl
theorem aD.flat {E E':Env} {U:Nat->Loc} {w:World} {r:Loc} {b:ag} (hf:b.flat=true) (h:aD E O U w r b):aD E' O U w r b:=by
 cases b with
 | obj o k a=>exact h
 | c o cs=>exact h
 | v o ts a =>
  have h:bf E w r o ts (a.cells O):=h
  exact h.flat hf
 | l o f ts a =>
  have h:eu E w r o f ts (a.cells O):=h
  exact ⟨h.row.flat hf,fun ho hc=>(h.spare ho hc).flat hf,h.full⟩
 | m o kt vt cs=>exact h
theorem aD.eR {U U':Nat->Loc} {m:List Nat} {n:Nat} (hU:∀ k,k<n->U' (bz m k)=U k) {w:World} {r:Loc} {b:ag} (hl:b.lt n=true) (h:aD E O U w r b):aD E O U' w r (b.eR m):=by
 cases b with
 | obj o k a=>exact h
 | v o ts a=>exact h
 | l o f ts a=>exact h
 | m o kt vt cs =>
  have h:eS O U w r kt vt cs:=h
  have hall:cs.all (Lf.lt n)=true:=hl
  show eS O U' w r kt vt (cs.map (Lf.eR m))
  obtain ⟨es,clock,e1,e2⟩:=h.nB
  refine ⟨h.nil,⟨es,clock,e1,?_⟩,fun x hx=>?_⟩
  ·rw [FR (cs:=cs.map (Lf.eR m)) (cs':=cs) (O:=O) (O':=O) (U:=U') (U':=U) (by
    rw [List.map_map]
    exact List.map_congr_left fun x hx=>(Lf.cO hU (List.all_eq_true.1 hall x hx)).1)]
   exact e2
  ·obtain ⟨y,hy,rfl⟩:=List.mem_map.1 hx
   exact (Lf.cO hU (List.all_eq_true.1 hall y hy)).2 (h.good y hy)
 | c o cs =>
  have h:cK O U w r o cs:=h
  refine (⟨h.nil,h.lt,fun i l hi=>?_,fun ho i hi=>h.own ho i (by simpa using hi),h.fz⟩:cK O U' w r o (cs.map (Option.map (Lf.eR m))))
  rw [jy] at hi
  obtain ⟨x,hx,rfl⟩:=Option.map_eq_some_iff.1 hi
  obtain ⟨g1,g2⟩:=h.cell i x hx
  have hall:cs.all (dw (Lf.lt n))=true:=hl
  obtain ⟨e1,e2⟩:=Lf.cO (O:=O) hU (iO hall hx)
  exact ⟨e2 g1,by rw [e1];exact g2⟩
theorem aD.keep {U U':Nat->Loc} {n:Nat} (hU:∀ k,k<n->U' k=U k) {w:World} {r:Loc} {b:ag} (hl:b.lt n=true) (h:aD E O U w r b):aD E O U' w r b:=by
 cases b with
 | obj o k a=>exact h
 | v o ts a=>exact h
 | l o f ts a=>exact h
 | m o kt vt cs =>
  have h:eS O U w r kt vt cs:=h
  have hall:cs.all (Lf.lt n)=true:=hl
  obtain ⟨es,clock,e1,e2⟩:=h.nB
  refine (⟨h.nil,⟨es,clock,e1,?_⟩,h.good⟩:eS O U' w r kt vt cs)
  rw [FR (cs:=cs) (cs':=cs) (O:=O) (O':=O) (U:=U') (U':=U) (List.map_congr_left fun x hx=>Lf.eU hU (List.all_eq_true.1 hall x hx))]
  exact e2
 | c o cs =>
  have h:cK O U w r o cs:=h
  refine (⟨h.nil,h.lt,fun i l hi=>?_,h.own,h.fz⟩:cK O U' w r o cs)
  obtain ⟨g1,g2⟩:=h.cell i l hi
  refine ⟨g1,?_⟩
  have hall:cs.all (dw (Lf.lt n))=true:=hl
  have FV:=iO hall hi
  rw [g2,Lf.eU hU FV]
theorem aD.b9 {U:Nat->Loc} {w:World} {r:Loc} {b:ag} (h:aD E O U w r b):aD E O U w r b.b9:=by
 cases b with
 | obj o k a=>exact fW.map h fun _ d' hd=>(bQ _).wk hd
 | c o cs =>
  have h:cK O U w r o cs:=h
  exact ⟨h.nil,h.lt,h.cell,fun h=>(by cases h),fun h=>by cases h⟩
 | v o ts a =>
  have h:bf E w r o ts (a.cells O):=h
  exact ⟨h.nil,h.lt,h.pos,h.len,h.cap,h.cell,fun h=>(by cases h),fun h=>by cases h⟩
 | l o f ts a =>
  have h:eu E w r o f ts (a.cells O):=h
  exact ⟨h.row,fun h=>(by cases h),h.full⟩
 | m o kt vt cs=>exact h
theorem ag.eV (b:ag):b.b9.own=false:=by cases b<;>rfl
theorem ag.rS (b:ag) (w:World) (r:Loc):b.b9.aB w r=b.aB w r:=by cases b<;>rfl
theorem ag.kQ (b:ag) (w:World) (r:Loc):b.b9.av w r=b.av w r:=by cases b<;>rfl
theorem ag.fM (m:List Nat) (b:ag) (w:World) (r:Loc):(b.eR m).av w r=b.av w r:=by cases b<;>rfl
theorem ag.jT (m:List Nat) (b:ag) (w:World) (r:Loc):(b.eR m).aB w r=b.aB w r:=by cases b<;>rfl
def Wk (bk b:ag):Prop:=bk=b\/bk=b.b9
theorem ag.qo (b:ag):b.b9.b9=b.b9:=by cases b<;>rfl
theorem Wk.qp {bk b:ag} (h:Wk bk b.b9):bk=b.b9:=by
 rcases h with h | h
 ·exact h
 ·rw [h,ag.qo]
theorem Wk.own {bk b:ag} (h:Wk bk b) (ho:bk.own=true):b.own=true/\bk=b:=by
 rcases h with rfl | rfl
 ·exact ⟨ho,rfl⟩
 ·rw [ag.eV] at ho;cases ho
theorem Wk.aB {bk b:ag} (h:Wk bk b) (w:World) (r:Loc):bk.aB w r=b.aB w r:=by
 rcases h with rfl | rfl
 ·rfl
 ·exact ag.rS _ _ _
theorem Wk.av {bk b:ag} (h:Wk bk b) (w:World) (r:Loc):bk.av w r=b.av w r:=by
 rcases h with rfl | rfl
 ·rfl
 ·exact ag.kQ _ _ _
theorem Wk.rel {U:Nat->Loc} {w:World} {r:Loc} {bk b:ag} (h:Wk bk b) (hb:aD E O U w r b):aD E O U w r bk:=by
 rcases h with rfl | rfl
 ·exact hb
 ·exact hb.b9
theorem zh2 {hin hout:List (Option ag)} {m m1:List Nat} {pL:Bool} : ∀ (k j:Nat) (hp:List (Option ag)),
  (rL hin hout m m1 pL k j hp).length=hp.length/\∀ i bk,nth (rL hin hout m m1 pL k j hp) i=some bk ->
   (∃ j' x y,j<=j'/\j'<j+k/\nth hin j'=some x/\x.own=true/\i=bz m j'/\stays hin j'=true/\nth hout j'=some y/\Wk bk (y.eR m1)) \/
   (∃ b0,nth hp i=some b0/\Wk bk b0/\(∀ j' x,j<=j'->j'<j+k->nth hin j'=some x->x.own=true->i≠bz m j') /\
    (pL=true->bk.own=true->∀ j' x,j<=j'->j'<j+k->nth hin j'=some x->i≠bz m j'))
 | 0,j,hp=>⟨rfl,fun i bk h=>.inr ⟨bk,h,.inl rfl,fun j' x h1 h2=>by omega,fun _ _ j' x h1 h2=>by omega⟩⟩
 | k+1,j,hp=>by
  have close:∀ (c6:List (Option ag)),c6.length=hp.length->(∀ i b1,nth c6 i=some b1 ->
    (∃ x y,nth hin j=some x/\x.own=true/\i=bz m j/\stays hin j=true/\nth hout j=some y/\Wk b1 (y.eR m1)) \/
    (∃ b0,nth hp i=some b0/\Wk b1 b0/\(∀ x,nth hin j=some x->x.own=true->i≠bz m j)/\(pL=true->b1.own=true->∀ x,nth hin j=some x->i≠bz m j))) ->
    (rL hin hout m m1 pL k (j+1) c6).length=hp.length/\∀ i bk,nth (rL hin hout m m1 pL k (j+1) c6) i=some bk ->
   (∃ j' x y,j<=j'/\j'<j+(k+1)/\nth hin j'=some x/\x.own=true/\i=bz m j'/\stays hin j'=true/\nth hout j'=some y/\Wk bk (y.eR m1)) \/
   (∃ b0,nth hp i=some b0/\Wk bk b0/\(∀ j' x,j<=j'->j'<j+(k+1)->nth hin j'=some x->x.own=true->i≠bz m j') /\
    (pL=true->bk.own=true->∀ j' x,j<=j'->j'<j+(k+1)->nth hin j'=some x->i≠bz m j')):=by
   intro c6 hl h1
   obtain ⟨e1,e2⟩:=zh2 k (j+1) c6
   refine ⟨e1.trans hl,fun i bk hb=>?_⟩
   have wkt:∀ {a b c:ag},Wk a b->Wk b c->Wk a c:=fun {a b c} h k=>by
    rcases k with rfl | rfl
    ·exact h
    ·exact .inr h.qp
   rcases e2 i bk hb with ⟨j',x,y,a1,a2,a3⟩ | ⟨b1,c1,c2,c3,c4⟩
   ·exact .inl ⟨j',x,y,by omega,by omega,a3⟩
   ·rcases h1 i b1 c1 with ⟨x,y,d1,d2,d3,d4,d5,d6⟩ | ⟨b0,d1,d2,d3,d4⟩
    ·exact .inl ⟨j,x,y,Nat.le_refl _,by omega,d1,d2,d3,d4,d5,wkt c2 d6⟩
    ·refine .inr ⟨b0,d1,wkt c2 d2,fun j' x l1 l2 hx ho=>?_,fun hd ho j' x l1 l2 hx=>?_⟩
     ·rcases Nat.eq_or_lt_of_le l1 with rfl | l1
      ·exact d3 x hx ho
      ·exact c3 j' x l1 (by omega) hx ho
     ·rcases Nat.eq_or_lt_of_le l1 with rfl | l1
      ·exact d4 hd (c2.own ho).1 x hx
      ·exact c4 hd ho j' x l1 (by omega) hx
  unfold rL
  cases hx:nth hin j with
  | none=>exact close hp rfl fun i b1 hb=>.inr ⟨b1,hb,.inl rfl,(fun x h=>by rw [hx] at h;cases h),(fun _ _ x h=>by rw [hx] at h;cases h)⟩
  | some x =>
   simp only
   split
   ·rename_i ho
    refine close _ (iL _ _ _) fun i b1 hb=>?_
    by_cases hi:bz m j=i
    ·subst hi
     rw [rO] at hb
     split at hb
     ·split at hb
      ·rename_i hst
       obtain ⟨y,hy,rfl⟩:=Option.map_eq_some_iff.1 hb
       exact .inl ⟨x,y,hx,ho,rfl,hst,hy,.inl rfl⟩
      ·cases hb
     ·cases hb
    ·rw [qi _ _ _ _ hi] at hb
     exact .inr ⟨b1,hb,.inl rfl,fun _ _ _ e=>hi e.symm,fun _ _ _ _ e=>hi e.symm⟩
   ·rename_i ho
    split
    ·refine close _ (iL _ _ _) fun i b1 hb=>?_
     by_cases hi:bz m j=i
     ·subst hi
      rw [rO] at hb
      split at hb
      ·obtain ⟨y,hy,rfl⟩:=Option.map_eq_some_iff.1 hb
       refine .inr ⟨y,hy,.inr rfl,fun x' h' ho'=>?_,fun _ ho'=>?_⟩
       ·rw [hx] at h';cases h';exact absurd ho' ho
       ·rw [ag.eV] at ho';cases ho'
      ·cases hb
     ·rw [qi _ _ _ _ hi] at hb
      exact .inr ⟨b1,hb,.inl rfl,fun _ _ _ e=>hi e.symm,fun _ _ _ _ e=>hi e.symm⟩
    ·rename_i hd
     refine close _ rfl fun i b1 hb=>.inr ⟨b1,hb,.inl rfl,fun x' h' ho'=>?_,fun hd'=>absurd hd' hd⟩
     rw [hx] at h';cases h';exact absurd ho' ho
theorem zh3 {hin:List (Option ag)} {m1:List Nat} : ∀ {l:List (Option ag)} {j i:Nat} {bk:ag},nth (Ah hin m1 j l) i=some bk->∃ y,nth l i=some y/\stays hin (j+i)=false/\bk=y.eR m1
 | [],j,i,bk,h=>by cases i<;>cases h
 | x::l,j,0,bk,h=>by
  change (if stays hin j then none else x.map (ag.eR m1))=some bk at h
  split at h
  ·cases h
  ·rename_i hs
   obtain ⟨y,rfl,rfl⟩:=Option.map_eq_some_iff.1 h
   exact ⟨y,rfl,by simpa using hs,rfl⟩
 | x::l,j,i+1,bk,h=>by
  obtain ⟨y,h1,h2,h3⟩:=zh3 (l:=l) (j:=j+1) (i:=i) h
  exact ⟨y,h1,by rwa [show j+(i+1)=j+1+i from by omega],h3⟩
theorem zfw {hin:List (Option ag)} : ∀ {l:List (Option ag)} {j i:Nat} {y:ag},nth l i=some y->((y.own=false/\stays hin (j+i)=false)\/y.shr=true)->pM hin j l=true
 | [],j,i,y,h,_=>by cases i<;>cases h
 | x::l,j,0,y,h,h1=>by
  cases h
  simp only [pM]
  rw [Nat.add_zero] at h1
  rcases h1 with h1 | h1
  ·simp [h1.1,h1.2]
  ·simp [h1]
 | x::l,j,i+1,y,h,h1=>by
  simp only [pM,Bool.or_eq_true]
  exact .inr (zfw (l:=l) (j:=j+1) (i:=i) h (by rwa [show j+1+i=j+(i+1) from by omega]))
theorem zrC {hin:List (Option ag)} {m:List Nat} {n k j:Nat} (h:j<k):bz (vK hin m n k) j=if stays hin j then bz m j else n+j:=by
 unfold bz vK
 rw [List.getD_eq_getElem?_getD,List.getElem?_map,List.getElem?_range h]
 rfl
theorem zqI {hin:List (Option ag)} {j:Nat} (h:stays hin j=true):∃ x,nth hin j=some x:=by
 unfold stays at h
 cases hn:nth hin j with
 | none=>rw [hn] at h;cases h
 | some x=>exact ⟨x,rfl⟩
theorem eD.enter {E E':Env} (h0:∀ b,b<E.w0.heap.size->¬ E.W b->b<E'.w0.heap.size/\¬ E'.W b/\E'.V b/\E'.w0.heap[b]? = E.w0.heap[b]?) {t:LT} {d:DV} {v:Value} (h:eD E t d v):eD E' t d v:=by
 induction h with
 | int k d=>exact .int k d
 | bool d=>exact .bool d
 | vec ts d r vs aZ hlt hpos hlen hcap hv hc ih =>
  refine .vec ts d r vs aZ (fun e=>?_) hpos hlen hcap (fun i hi=>?_) ih
  ·obtain ⟨a,b,_⟩:=hlt e
   obtain ⟨c1,c2,c3,_⟩:=h0 _ a b
   exact ⟨c1,c2,c3⟩
  ·cases hn:r.nil with
   | true =>
    have:=(aZ hn).1
    rw [hlen,this,Nat.zero_mul] at hi
    omega
   | false =>
    obtain ⟨a,b,_⟩:=hlt hn
    obtain ⟨_,_,_,c3⟩:=h0 _ a b
    rw [World.cell?_of_block (w:=E.w0) c3]
    exact hv i hi
theorem bf.enter {E E':Env} (h0:∀ b,b<E.w0.heap.size->¬ E.W b->b<E'.w0.heap.size/\¬ E'.W b/\E'.V b/\E'.w0.heap[b]? = E.w0.heap[b]?) {w:World} {r:Loc} {o:Bool} {ts:List LT} {xs:List DV} (h:bf E w r o ts xs):bf E' w r o ts xs :=
 ⟨h.nil,h.lt,h.pos,h.len,h.cap,fun i hi=>let ⟨v,h1,h2⟩:=h.cell i hi;⟨v,h1,h2.enter h0⟩,h.own,h.fz⟩
theorem aD.enter {E E':Env} (h0:∀ b,b<E.w0.heap.size->¬ E.W b->b<E'.w0.heap.size/\¬ E'.W b/\E'.V b/\E'.w0.heap[b]? = E.w0.heap[b]?) {U:Nat->Loc} {w:World} {r:Loc} {b:ag} (h:aD E O U w r b):aD E' O U w r b:=by
 cases b with
 | obj o k a=>exact h
 | c o cs=>exact h
 | v o ts a =>
  have h:bf E w r o ts (a.cells O):=h
  exact h.enter h0
 | l o f ts a =>
  have h:eu E w r o f ts (a.cells O):=h
  exact ⟨h.row.enter h0,fun ho hc=>(h.spare ho hc).enter h0,h.full⟩
 | m o kt vt cs=>exact h
end
end Go.Sx
namespace Go.Sx
open Go.RowKit
section
variable {P:Program} {I:World->Prop} {S:bN} {F:aC} {E:Env} {O:Nat->DV}
theorem NK {m:List Nat} {hp x:List (Option ag)} (h:vI m hp 0 x=true) {j:Nat} {b:ag} (hj:nth x j=some b):∃ b',nth hp (bz m j)=some b'/\bz m j<hp.length/\b.sub m b'=true:=by
 obtain ⟨b',h1,h2⟩:=Cm h j b hj
 rw [Nat.zero_add] at h1
 exact ⟨b',h1,iW h1,h2⟩
theorem IW (ops:List A) (hin:List (Option ag)) (j:Nat):stays (hin.map (Option.map (ag.inst ops))) j=stays hin j:=by
 unfold stays
 rw [jy]
 cases nth hin j with
 | none=>rfl
 | some b=>cases b<;>rfl
theorem NL {q:ag->Bool} (hq:∀ ops b,q (ag.inst ops b)=q b) (ops:List A) (l:List (Option ag)):(l.map (Option.map (ag.inst ops))).all (dw q)=l.all (dw q):=by
 induction l with
 | nil=>rfl
 | cons x l ih =>
  simp only [List.map_cons,List.all_cons,ih]
  cases x with
  | none=>rfl
  | some b=>simp [dw,hq]
theorem Lf.dM (n:Nat) (ops:List A) (l:Lf):(l.inst ops).lt n=l.lt n:=by cases l<;>rfl
theorem V1.dM (n:Nat) (ops:List A) (v:V1):(v.inst ops).lt n=v.lt n:=by
 cases v with
 | one l=>simp [V1.inst,V1.lt,V1.cells,Lf.dM]
 | agg l =>
  simp only [V1.inst,V1.lt,V1.cells,List.all_map]
  congr 1
  funext x
  exact Lf.dM n ops x
theorem V.dM (n:Nat) (ops:List A) (v:V):(v.inst ops).lt n=v.lt n:=by
 cases v with
 | s v=>exact V1.dM n ops v
 | t l =>
  simp only [V.inst,V.lt,List.all_map]
  congr 1
  funext x
  exact V1.dM n ops x
theorem ag.dM (n:Nat) (ops:List A) (b:ag):(b.inst ops).lt n=b.lt n:=by
 cases b with
 | obj=>rfl
 | v o ts a=>rfl
 | l o f ts a=>rfl
 | m o kt vt cs =>
  simp only [ag.inst,ag.lt,List.all_map]
  congr 1
  funext x
  exact Lf.dM n ops x
 | c o cs =>
  simp only [ag.inst,ag.lt,List.all_map]
  congr 1
  funext x
  cases x with
  | none=>rfl
  | some l=>exact Lf.dM n ops l
theorem ag.iP (ops:List A) (b:ag):(b.inst ops).flat=b.flat:=by cases b<;>rfl
theorem zjn:∀ {l l':List (Option ag)} {j:Nat} {x y:ag},vL l l'=true->nth l j=some x->nth l' j=some y->stays l j=true->x.own=true ->
  y.own=true\/(y.shr=false/\(∀ w r b,y.av w r b↔b=r.aj)/\∀ w r b,x.aB w r b↔b=r.aj)
 | [],_,j,x,y,_,h,_,_,_=>by cases j<;>cases h
 | _::_,[],j,x,y,_,_,h,_,_=>by cases j<;>cases h
 | a::l,b::l',0,x,y,h,hx,hy,hs,ho=>by
  have hx:a=some x:=hx
  have hy:b=some y:=hy
  subst hx hy
  simp only [vL,Bool.and_eq_true] at h
  have h:=h.1
  cases x with
  | v o ts a =>
   have ho:o=true:=ho
   subst ho
   cases y with
   | v o' ts' a'=>exact .inl (show o'=true by simpa using h)
   | c=>simp at h
   | l=>simp at h
   | m=>simp at h
   | obj=>simp at h
  | l=>simp [stays,nth] at hs
  | m=>simp [stays,nth] at hs
  | c o cs =>
   cases y with
   | l=>simp at h
   | m=>simp at h
   | c=>exact .inr ⟨rfl,fun _ _ _=>Iff.rfl,fun _ _ _=>Iff.rfl⟩
   | v=>exact .inr ⟨rfl,fun _ _ _=>Iff.rfl,fun _ _ _=>Iff.rfl⟩
   | obj=>simp at h
  | obj o k a =>
   cases y with
   | c=>simp at h
   | v=>simp at h
   | l=>simp at h
   | m=>simp at h
   | obj o' k' a' =>
    have ho:o=true:=ho
    subst ho
    simp only [Bool.not_true,Bool.false_or,Bool.and_eq_true] at h
    exact .inl h.1
 | a::l,b::l',j+1,x,y,h,hx,hy,hs,ho=>by
  have h':vL l l'=true:=by
   cases a<;>cases b<;>simp only [vL,Bool.and_eq_true] at h<;>first | exact h | exact h.2
  exact zjn h' hx hy hs ho
theorem HS.back {U U':Nat->Loc} {hp hin ho:List (Option ag)} {m:List Nat} {w w':World} (h:HS E O U hp w) (fJ:vI m hp 0 hin=true)
  (hlt:hp.all (dw (ag.lt hp.length))=true) (SD:ho.all (dw (ag.lt ho.length))=true) (SE:ho.all (dw ag.flat)=true)
  (hb:eT (bA hin (fun j=>U (bz m j)) w) O U' ho w') (hold:jx (bA hin (fun j=>U (bz m j)) w).W (bA hin (fun j=>U (bz m j)) w).V w w' U' ho)
  (ta:pM hin 0 ho=true->hin.all (dw ag.flat)=true) (v8:vL hin ho=true) (hfr:Fr (bA hin (fun j=>U (bz m j)) w).W w w') (hk:∀ j,stays hin j=true->j<ho.length->U' j=U (bz m j)) :
  (∀ k,k<ho.length->(fun i=>if i<hp.length then U i else U' (i-hp.length)) (bz (vK hin m hp.length ho.length) k)=U' k) /\
  HS E O (fun i=>if i<hp.length then U i else U' (i-hp.length))
   (rL hin ho m (vK hin m hp.length ho.length) (pM hin 0 ho) hin.length 0 hp++Ah hin (vK hin m hp.length ho.length) 0 ho) w':=by
 generalize yV:vK hin m hp.length ho.length=m1
 generalize hUn:(fun i=>if i<hp.length then U i else U' (i-hp.length))=Un
 have hN:∀ i,i<hp.length->Un i=U i:=fun i hi=>by rw [<-hUn];simp [hi]
 have ua:∀ k,Un (hp.length+k)=U' k:=fun k=>by rw [<-hUn];simp;intro hc;omega
 have hmap:∀ k,k<ho.length->Un (bz m1 k)=U' k:=by
  intro k lM
  rw [<-yV,zrC lM]
  split
  ·rename_i hst
   obtain ⟨x,hx⟩:=zqI hst
   obtain ⟨_,_,h3,_⟩:=NK fJ hx
   rw [hN _ h3,hk k hst lM]
  ·exact ua k
 refine ⟨hmap,?_⟩
 obtain ⟨pl,pb⟩:=zh2 (hin:=hin) (hout:=ho) (m:=m) (m1:=m1) (pL:=pM hin 0 ho) hin.length 0 hp
 generalize hA:rL hin ho m m1 (pM hin 0 ho) hin.length 0 hp=A0 at *
 -- what SF in
 have mm:∀ j x,nth hin j=some x->∃ b',nth hp (bz m j)=some b'/\bz m j<hp.length/\(x.own=true->b'.own=true)/\(x.own=true->∀ w r b,x.aB w r b->b'.aB w r b)/\∀ w r,x.av w r=b'.av w r:=fun j x hx=>by
  obtain ⟨b',h1,h2,h3⟩:=NK fJ hx
  exact ⟨b',h1,h2,(ag.bu (E:=E) (O:=O) h3).1,fun ho w r b=>ag.iu h3 ho,fun w r=>ag.iN h3 w r⟩
 -- which block SG at a place
 have bM:∀ i bk,nth (A0++Ah hin m1 0 ho) i=some bk ->
   (∃ j x y,nth hin j=some x/\x.own=true/\i=bz m j/\i<hp.length/\stays hin j=true/\nth ho j=some y/\Wk bk (y.eR m1)) \/
   (∃ b0,nth hp i=some b0/\i<hp.length/\Wk bk b0/\(∀ j x,nth hin j=some x->x.own=true->i≠bz m j)/\(pM hin 0 ho=true->bk.own=true->∀ j x,nth hin j=some x->i≠bz m j)) \/
   (∃ j y,i=hp.length+j/\nth ho j=some y/\stays hin j=false/\bk=y.eR m1):=by
  intro i bk hi
  rw [oI,pl] at hi
  split at hi
  ·rename_i fY
   rcases pb i bk hi with ⟨j,x,y,_,_,h1,h2,h3,h4,h5,h6⟩ | ⟨b0,h1,h2,h3,h4⟩
   ·exact .inl ⟨j,x,y,h1,h2,h3,fY,h4,h5,h6⟩
   ·exact .inr (.inl ⟨b0,h1,fY,h2,fun j x hx=>h3 j x (Nat.zero_le _) (by have:=iW hx;omega) hx,fun hd lN j x hx=>h4 hd lN j x (Nat.zero_le _) (by have:=iW hx;omega) hx⟩)
  ·rename_i fY
   obtain ⟨y,h1,h2,h3⟩:=zh3 hi
   rw [Nat.zero_add] at h2
   exact .inr (.inr ⟨i-hp.length,y,by omega,h1,h2,h3⟩)
 -- blocks kC none may write stand as SH Ax
 have hsame:∀ i b0,nth hp i=some b0->(∀ j x,nth hin j=some x->x.own=true->i≠bz m j)->(U i).nil=false->∀ b,b0.av w (U i) b->w'.heap[b]? = w.heap[b]?:=by
  intro i b0 h0 hne aZ b xI
  refine hfr.block _ ((h.heap.aj i b0 h0).lt aZ xI) ?_
  rintro ⟨j,x,hx,fy,fN,he⟩
  obtain ⟨b',e1,_,e2,e3,_⟩:=mm j x hx
  exact h.heap.apart (bz m j) i b' b0 e1 (e2 fy) h0 (Ne.symm (hne j x hx fy)) fN aZ b (e3 fy _ _ _ he) xI
 have IX:∀ i b0 bk,nth hp i=some b0->Wk bk b0->(∀ j x,nth hin j=some x->x.own=true->i≠bz m j)->(U i).nil=false->∀ b,bk.aB w' (U i) b↔b0.aB w (U i) b:=fun i b0 bk h0 hwk hne aZ b=>by
  rw [hwk.aB]
  exact (h.heap.aj i b0 h0).dU aZ (hsame i b0 h0 hne aZ) b
 have td:∀ i b0 bk,nth hp i=some b0->Wk bk b0->(∀ j x,nth hin j=some x->x.own=true->i≠bz m j)->(U i).nil=false->∀ b,bk.av w' (U i) b↔b0.av w (U i) b:=fun i b0 bk h0 hwk hne aZ b=>by
  rw [hwk.av]
  exact (h.heap.aj i b0 h0).cN aZ (hsame i b0 h0 hne aZ) b
 have Ay:∀ j y,nth ho j=some y->∀ bk,Wk bk (y.eR m1)->aD E O Un w' (U' j) bk:=fun j y hy bk hwk =>
  hwk.rel (((hb.aj j y hy).flat (iO SE hy)).eR hmap (iO SD hy))
 have hft:∀ (y bk:ag),Wk bk (y.eR m1)->∀ w r,bk.aB w r=y.aB w r:=fun y bk hwk w r=>by rw [hwk.aB,ag.jT]
 have yW:∀ (y bk:ag),Wk bk (y.eR m1)->∀ w r,bk.av w r=y.av w r:=fun y bk hwk w r=>by rw [hwk.av,ag.fM]
 have tf:∀ j x,nth hin j=some x->x.own=true->(U (bz m j)).nil=true\/∀ b,x.aB w (U (bz m j)) b->E.w0.heap.size<=b\/E.W b:=fun j x hx fy=>by
  obtain ⟨b',e1,_,e2,e3,_⟩:=mm j x hx
  rcases h.old _ _ e1 with h | h
  ·exact .inl h
  ·exact .inr fun b xI=>h.wr (e2 fy) b (e3 fy _ _ _ xI)
 -- a block kC Cn as it was is looked at, and one kC az back is written
 have tg:∀ i b0,nth hp i=some b0->(∀ j x,nth hin j=some x->x.own=true->i≠bz m j)->∀ j y,nth ho j=some y->y.own=true ->
   (U i).nil=false->(U' j).nil=false->∀ b,b0.av w (U i) b->¬ y.aB w' (U' j) b:=by
  intro i b0 h0 hne j y hy pQ b_ hn2 b dj cD
  have Co:=(h.heap.aj i b0 h0).lt b_ dj
  rcases hold j y hy with h1 | h1
  ·rw [hn2] at h1;cases h1
  rcases h1.wr pQ b cD with h1 | h1
  ·omega
  ·obtain ⟨j0,x,hx,fy,fN,gX⟩:=h1
   obtain ⟨b',e1,_,e2,e3,_⟩:=mm j0 x hx
   exact h.heap.apart (bz m j0) i b' b0 e1 (e2 fy) h0 (Ne.symm (hne j0 x hx fy)) fN b_ b (e3 fy _ _ _ gX) dj
 -- one kC az back to lY place: it may be written, or is one block
 have hcell:∀ j x y,nth hin j=some x->x.own=true->stays hin j=true->nth ho j=some y->y.own=true\/(y.shr=false/\(∀ w r b,y.av w r b↔b=r.aj)/\∀ w r b,x.aB w r b↔b=r.aj):=fun j x y hx fy hst hy =>
  zjn v8 hx hy hst fy
 -- what one kC az back looks at: new, or written by the call, or what SF in
 have qq:∀ j y,nth ho j=some y->(stays hin j=false\/y.own=true)->(U' j).nil=false->∀ b,y.av w' (U' j) b ->
   w.heap.size<=b\/(∃ j0 x,nth hin j0=some x/\x.own=true/\(U (bz m j0)).nil=false/\x.aB w (U (bz m j0)) b) \/
   (pM hin 0 ho=true/\((y.own=false/\stays hin j=false)\/y.shr=true)/\∃ j0 x,nth hin j0=some x/\(U (bz m j0)).nil=false/\x.av w (U (bz m j0)) b):=by
  intro j y hy hst hn b hf
  rcases hold j y hy with h1 | h1
  ·rw [hn] at h1;cases h1
  have SI:((y.own=false/\stays hin j=false)\/y.shr=true)\/(y.own=true/\y.shr=false):=by
   cases qs:y.own with
   | false =>
    rcases hst with hst | hst
    ·exact .inl (.inl ⟨rfl,hst⟩)
    ·rw [qs] at hst;cases hst
   | true =>
    cases hs:y.shr with
    | true=>exact .inl (.inr rfl)
    | false=>exact .inr ⟨rfl,rfl⟩
  rcases SI with SI | ⟨pQ,hys⟩
  ·have hd:pM hin 0 ho=true:=zfw (j:=0) hy (by rwa [Nat.zero_add])
   rcases h1.rd b hf with h1 | h1 | h1
   ·exact .inl h1
   ·exact .inr (.inl h1)
   ·rcases h1 with h1 | ⟨h1,_⟩
    ·exact .inr (.inr ⟨hd,SI,h1⟩)
    ·rw [ta hd] at h1;cases h1
  ·rcases h1.wr pQ b ((hb.aj j y hy).ex hn pQ hys hf) with h1 | h1
   ·exact .inl h1
   ·exact .inr (.inl h1)
 -- a block kC Cn as it was is written, and one kC az back is looked at
 have th:∀ i b0 bk,nth hp i=some b0->Wk bk b0->(∀ j x,nth hin j=some x->x.own=true->i≠bz m j) ->
   (pM hin 0 ho=true->bk.own=true->∀ j x,nth hin j=some x->i≠bz m j)->∀ j y,nth ho j=some y->(stays hin j=false\/y.own=true)->bk.own=true ->
   (U i).nil=false->(U' j).nil=false->∀ b,b0.aB w (U i) b->¬ y.av w' (U' j) b:=by
  intro i b0 bk h0 hwk hne SJ j y hy hst lN b_ hn2 b dj cD
  have Co:=(h.heap.aj i b0 h0).lt b_ ((h.heap.aj i b0 h0).rd b_ dj)
  rcases qq j y hy hst hn2 b cD with h1 | ⟨j0,x,hx,fy,fN,gX⟩ | ⟨hd,_,j0,x,hx,fN,gX⟩
  ·omega
  ·obtain ⟨b',e1,_,e2,e3,_⟩:=mm j0 x hx
   exact h.heap.apart (bz m j0) i b' b0 e1 (e2 fy) h0 (Ne.symm (hne j0 x hx fy)) fN b_ b (e3 fy _ _ _ gX) ((h.heap.aj i b0 h0).rd b_ dj)
  ·obtain ⟨b',e1,_,_,_,e3⟩:=mm j0 x hx
   rw [e3] at gX
   exact h.heap.apart i (bz m j0) b0 b' h0 (hwk.own lN).1 e1 (SJ hd lN j0 x hx) b_ fN b dj gX
 refine ⟨⟨fun i bk hi=>?_,fun i i' bk aS hi lN hi' hne b_ hn2 b dj cD=>?_⟩,fun i bk hi=>?_,?_,?_,?_⟩
 ·rcases bM i bk hi with ⟨j,x,y,h1,h2,h3,h4,h5,h6,h7⟩ | ⟨b0,h1,h2,h3,h4,h5⟩ | ⟨j,y,h1,h2,h3,h4⟩
  ·rw [hN i h4,h3,<-hk j h5 (iW h6)]
   exact Ay j y h6 bk h7
  ·rw [hN i h2]
   refine h3.rel (((h.heap.aj i b0 h1).dG hfr.size (hsame i b0 h1 h4)).keep (fun k hk=>hN k hk) (iO hlt h1))
  ·rw [h1,ua j]
   exact Ay j y h2 bk (.inl h4)
 ·rcases bM i bk hi with ⟨j,x,y,a1,a2,a3,a4,a5,a6,a7⟩ | ⟨b0,a1,a2,a3,a4,a5⟩ | ⟨j,y,a1,a2,a3,a4⟩
  ·have pQ:y.own=true:=by have:=(a7.own lN).1;rwa [ag.jS] at this
   have e1:Un i=U' j:=by rw [hN i a4,a3,hk j a5 (iW a6)]
   rw [e1] at b_ dj
   rw [hft y bk a7] at dj
   rcases bM i' aS hi' with ⟨j',x',y',b1,b2,b3,b4,b5,b6,b7⟩ | ⟨Az,b1,b2,b3,b4,b5⟩ | ⟨j',y',b1,b2,b3,b4⟩
   ·have e2:Un i'=U' j':=by rw [hN i' b4,b3,hk j' b5 (iW b6)]
    rw [e2] at hn2 cD
    rw [yW y' aS b7] at cD
    exact hb.apart j j' y y' a6 pQ b6 (fun e=>hne (by rw [a3,b3,e])) b_ hn2 b dj cD
   ·rw [hN i' b2] at hn2 cD
    exact tg i' Az b1 b4 j y a6 pQ hn2 b_ b ((td i' Az aS b1 b3 b4 hn2 b).1 cD) dj
   ·rw [b1,ua j'] at hn2 cD
    rw [b4,ag.fM] at cD
    exact hb.apart j j' y y' a6 pQ b2 (fun e=>by rw [<-e,a5] at b3;cases b3) b_ hn2 b dj cD
  ·rw [hN i a2] at b_ dj
   have yX:=(IX i b0 bk a1 a3 a4 b_ b).1 dj
   rcases bM i' aS hi' with ⟨j',x',y',b1,b2,b3,b4,b5,b6,b7⟩ | ⟨Az,b1,b2,b3,b4,b5⟩ | ⟨j',y',b1,b2,b3,b4⟩
   ·have e2:Un i'=U' j':=by rw [hN i' b4,b3,hk j' b5 (iW b6)]
    rw [e2] at hn2 cD
    rw [yW y' aS b7] at cD
    rcases hcell j' x' y' b1 b2 b5 b6 with c1 | ⟨_,c1,c2⟩
    ·exact th i b0 bk a1 a3 a4 a5 j' y' b6 (.inr c1) lN b_ hn2 b yX cD
    ·have xJ:=(c1 _ _ _).1 cD
     rw [hk j' b5 (iW b6)] at xJ hn2
     obtain ⟨b',e3,_,e4,e5,_⟩:=mm j' x' b1
     exact h.heap.apart i (bz m j') b0 b' a1 (a3.own lN).1 e3 (a4 j' x' b1 b2) b_ hn2 b yX ((h.heap.aj _ _ e3).rd hn2 (e5 b2 _ _ _ ((c2 _ _ _).2 xJ)))
   ·rw [hN i' b2] at hn2 cD
    exact h.heap.apart i i' b0 Az a1 (a3.own lN).1 b1 hne b_ hn2 b yX ((td i' Az aS b1 b3 b4 hn2 b).1 cD)
   ·rw [b1,ua j'] at hn2 cD
    rw [b4,ag.fM] at cD
    exact th i b0 bk a1 a3 a4 a5 j' y' b2 (.inl b3) lN b_ hn2 b yX cD
  ·have pQ:y.own=true:=by rw [a4,ag.jS] at lN;exact lN
   rw [a1,ua j] at b_ dj
   rw [a4,ag.jT] at dj
   rcases bM i' aS hi' with ⟨j',x',y',b1,b2,b3,b4,b5,b6,b7⟩ | ⟨Az,b1,b2,b3,b4,b5⟩ | ⟨j',y',b1,b2,b3,b4⟩
   ·have e2:Un i'=U' j':=by rw [hN i' b4,b3,hk j' b5 (iW b6)]
    rw [e2] at hn2 cD
    rw [yW y' aS b7] at cD
    exact hb.apart j j' y y' a2 pQ b6 (fun e=>by rw [e,b5] at a3;cases a3) b_ hn2 b dj cD
   ·rw [hN i' b2] at hn2 cD
    exact tg i' Az b1 b4 j y a2 pQ hn2 b_ b ((td i' Az aS b1 b3 b4 hn2 b).1 cD) dj
   ·rw [b1,ua j'] at hn2 cD
    rw [b4,ag.fM] at cD
    exact hb.apart j j' y y' a2 pQ b2 (fun e=>hne (by rw [a1,b1,e])) b_ hn2 b dj cD
 ·-- what was old
  have AA:∀ j y,nth ho j=some y->y.own=true->(U' j).nil=false->∀ b,y.aB w' (U' j) b->E.w0.heap.size<=b\/E.W b:=by
   intro j y hy pQ hn b hf
   rcases hold j y hy with h1 | h1
   ·rw [hn] at h1;cases h1
   rcases h1.wr pQ b hf with h1 | h1
   ·exact .inl (Nat.le_trans h.fr.size h1)
   ·obtain ⟨j0,x,hx,fy,fN,gX⟩:=h1
    rcases tf j0 x hx fy with h | h
    ·change (U (bz m j0)).nil=false at fN
     rw [fN] at h;cases h
    ·exact h b gX
  have AB:∀ j y,nth ho j=some y->(stays hin j=false\/y.own=true)->(U' j).nil=false->∀ b,y.av w' (U' j) b->E.w0.heap.size<=b\/E.W b\/E.V b:=by
   intro j y hy hst hn b hf
   rcases qq j y hy hst hn b hf with h1 | ⟨j0,x,hx,fy,fN,gX⟩ | ⟨_,_,j0,x,hx,fN,gX⟩
   ·exact .inl (Nat.le_trans h.fr.size h1)
   ·rcases tf j0 x hx fy with h | h
    ·rw [fN] at h;cases h
    ·rcases h b gX with h | h
     ·exact .inl h
     ·exact .inr (.inl h)
   ·obtain ⟨b',e1,_,_,_,e3⟩:=mm j0 x hx
    rw [e3] at gX
    rcases h.old _ _ e1 with h | h
    ·rw [fN] at h;cases h
    ·exact h.rd b gX
  rcases bM i bk hi with ⟨j,x,y,a1,a2,a3,a4,a5,a6,a7⟩ | ⟨b0,a1,a2,a3,a4,a5⟩ | ⟨j,y,a1,a2,a3,a4⟩
  ·have e1:Un i=U' j:=by rw [hN i a4,a3,hk j a5 (iW a6)]
   rw [e1]
   cases hn:(U' j).nil with
   | true=>exact .inl rfl
   | false =>
    refine .inr ⟨fun o b hf=>?_,fun b hf=>?_⟩
    ·rw [hft y bk a7] at hf
     have pQ:y.own=true:=by have:=(a7.own o).1;rwa [ag.jS] at this
     exact AA j y a6 pQ hn b hf
    ·rw [yW y bk a7] at hf
     rcases hcell j x y a1 a2 a5 a6 with c1 | ⟨_,c1,c2⟩
     ·exact AB j y a6 (.inr c1) hn b hf
     ·have xJ:=(c1 _ _ _).1 hf
      rw [hk j a5 (iW a6)] at xJ hn
      rcases tf j x a1 a2 with h | h
      ·rw [hn] at h;cases h
      ·rcases h b ((c2 _ _ _).2 xJ) with h | h
       ·exact .inl h
       ·exact .inr (.inl h)
  ·rw [hN i a2]
   cases hn:(U i).nil with
   | true=>exact .inl rfl
   | false =>
    rcases h.old i b0 a1 with h | h
    ·rw [hn] at h;cases h
    ·exact .inr ⟨fun o b hf=>h.wr (a3.own o).1 b ((IX i b0 bk a1 a3 a4 hn b).1 hf),fun b hf=>h.rd b ((td i b0 bk a1 a3 a4 hn b).1 hf)⟩
  ·rw [a1,ua j]
   cases hn:(U' j).nil with
   | true=>exact .inl rfl
   | false =>
    refine .inr ⟨fun o b hf=>?_,fun b hf=>?_⟩
    ·rw [a4,ag.jT] at hf
     rw [a4,ag.jS] at o
     exact AA j y a2 o hn b hf
    ·rw [a4,ag.fM] at hf
     exact AB j y a2 (.inl a3) hn b hf
 ·refine ⟨hfr.os.trans h.fr.os,hfr.tape.trans h.fr.tape,hfr.output.trans h.fr.output,Nat.le_trans h.fr.size hfr.size,fun b oL xK=>?_⟩
  rw [hfr.block b (Nat.lt_of_lt_of_le oL h.fr.size) ?_,h.fr.block b oL xK]
  rintro ⟨j,x,hx,fy,fN,gX⟩
  rcases tf j x hx fy with h1 | h1
  ·change (U (bz m j)).nil=false at fN
   rw [fN] at h1;cases h1
  ·rcases h1 b gX with h1 | h1
   ·omega
   ·exact xK h1
 ·rw [List.length_append,pl]
  have:=h.len
  omega
 ·intro j hj
  rw [hN j (by have:=h.len;omega)]
  exact h.keep j hj
end
end Go.Sx
namespace Go.Sx
open Go.RowKit
section
variable {P:Program} {I:World->Prop} {S:bN} {F:aC} {E:Env} {O:Nat->DV}
theorem V.dZ {v:V} (h:v.ep=true):v.good O:=by
 have h1:∀ l:Lf,l.ep=true->l.good O:=fun l hl=>by
  cases l with
  | p b off=>cases off<;>first | trivial | cases hl
  | gp b off=>cases off<;>first | trivial | cases hl
  | _=>trivial
 have h2:∀ v:V1,v.cells.all Lf.ep=true->v.good O:=fun v hv l hl=>h1 l (List.all_eq_true.1 hv l hl)
 cases v with
 | s v=>exact h2 v h
 | t l=>exact fun v hv=>h2 v (List.all_eq_true.1 h v hv)
theorem Lf.eW (ops:List A) (l:Lf):(l.inst ops).ep=l.ep:=by
 cases l with
 | p b off=>cases off<;>rfl
 | gp b off=>cases off<;>rfl
 | _=>rfl
theorem V1.eW (ops:List A) (v:V1):(v.inst ops).cells.all Lf.ep=v.cells.all Lf.ep:=by
 cases v with
 | one l=>simp [V1.inst,V1.cells,Lf.eW]
 | agg l =>
  simp only [V1.inst,V1.cells,List.all_map]
  congr 1
  funext x
  exact Lf.eW ops x
theorem V.eW (ops:List A) (v:V):(v.inst ops).ep=v.ep:=by
 cases v with
 | s v=>exact V1.eW ops v
 | t l =>
  simp only [V.inst,V.ep,List.all_map]
  congr 1
  funext x
  exact V1.eW ops x
theorem znM {hin:List (Option ag)} (as bs:List A) (U:Nat->Loc) (w:World):bA (hin.map (Option.map (ag.inst as))) U w=bA (hin.map (Option.map (ag.inst bs))) U w:=by
 have key:∀ (as bs:List A) (b:Nat),(∃ j bk,nth (hin.map (Option.map (ag.inst as))) j=some bk/\bk.own=true/\(U j).nil=false/\bk.aB w (U j) b) ->
   ∃ j bk,nth (hin.map (Option.map (ag.inst bs))) j=some bk/\bk.own=true/\(U j).nil=false/\bk.aB w (U j) b:=by
  rintro as bs b ⟨j,bk,h1,h2,h3,h4⟩
  rw [jy] at h1
  obtain ⟨y,hy,rfl⟩:=Option.map_eq_some_iff.1 h1
  exact ⟨j,y.inst bs,by rw [jy,hy];rfl,by rw [ag.cC] at h2 ⊢;exact h2,h3,by rw [ag.cX] at h4 ⊢;exact h4⟩
 have SK:∀ (as bs:List A) (b:Nat),(∃ j bk,nth (hin.map (Option.map (ag.inst as))) j=some bk/\(U j).nil=false/\bk.av w (U j) b) ->
   ∃ j bk,nth (hin.map (Option.map (ag.inst bs))) j=some bk/\(U j).nil=false/\bk.av w (U j) b:=by
  rintro as bs b ⟨j,bk,h1,h3,h4⟩
  rw [jy] at h1
  obtain ⟨y,hy,rfl⟩:=Option.map_eq_some_iff.1 h1
  exact ⟨j,y.inst bs,by rw [jy,hy];rfl,h3,by rw [ag.di] at h4 ⊢;exact h4⟩
 unfold bA
 congr 1
 ·funext b
  exact propext ⟨key _ _ b,key _ _ b⟩
 ·funext b
  have hf:(hin.map (Option.map (ag.inst as))).all (dw ag.flat)=(hin.map (Option.map (ag.inst bs))).all (dw ag.flat):=by
   have:∀ (as:List A) (l:List (Option ag)),(l.map (Option.map (ag.inst as))).all (dw ag.flat)=l.all (dw ag.flat):=fun as l=>NL (fun ops b=>ag.iP ops b) as l
   rw [this,this]
  have yY:∀ (as bs:List A),(hin.map (Option.map (ag.inst as))).all (dw ag.flat)=(hin.map (Option.map (ag.inst bs))).all (dw ag.flat) ->
    ((∃ j bk,nth (hin.map (Option.map (ag.inst as))) j=some bk/\(U j).nil=false/\bk.av w (U j) b)\/((hin.map (Option.map (ag.inst as))).all (dw ag.flat)=false/\b<w.heap.size/\¬ ∃ j bk,nth (hin.map (Option.map (ag.inst as))) j=some bk/\bk.own=true/\(U j).nil=false/\bk.aB w (U j) b)) ->
    (∃ j bk,nth (hin.map (Option.map (ag.inst bs))) j=some bk/\(U j).nil=false/\bk.av w (U j) b)\/((hin.map (Option.map (ag.inst bs))).all (dw ag.flat)=false/\b<w.heap.size/\¬ ∃ j bk,nth (hin.map (Option.map (ag.inst bs))) j=some bk/\bk.own=true/\(U j).nil=false/\bk.aB w (U j) b):=by
   intro as bs hf h
   rcases h with h | ⟨h1,h2,h3⟩
   ·exact .inl (SK as bs b h)
   ·exact .inr ⟨by rw [<-hf];exact h1,h2,fun h=>h3 (key bs as b h)⟩
  exact propext ⟨yY as bs hf,yY bs as hf.symm⟩
 ·simp
theorem V.v9 {v:V} (h:v.lt 0=true) (U U':Nat->Loc):v.aa O U=v.aa O U':=by
 have h1:∀ l:Lf,l.lt 0=true->l.aa O U=l.aa O U':=fun l hl=>by
  cases l<;>simp only [Lf.lt,decide_eq_true_eq] at hl<;>first | rfl | omega | (rename_i t _ _;cases t<;>rfl) | exact zh1 (n:=0) (fun k hk=>by omega) hl _ | (simp only [Lf.aa];rw [R7 hl (fun k hk=>by omega)])
 have h2:∀ v:V1,v.lt 0=true->v.aa O U=v.aa O U':=fun v hv=>by
  cases v with
  | one l=>exact h1 l (by simpa [V1.lt,V1.cells] using hv)
  | agg l =>
   simp only [V1.aa]
   congr 2
   exact List.map_congr_left fun x hx=>h1 x (List.all_eq_true.1 hv x hx)
 cases v with
 | s v=>exact h2 v h
 | t l =>
  simp only [V.aa]
  congr 2
  exact List.map_congr_left fun x hx=>h2 x (List.all_eq_true.1 h x hx)
theorem zfx {m:List Nat} : ∀ {x y:List V},rK m (x.map some) (y.map some)=true->(∀ v∈y,V.good O v)->(∀ U:Nat->Loc,x.map (V.aa O (fun j=>U (bz m j)))=y.map (V.aa O U))/\∀ v∈x,V.good O v
 | [],[],_,h=>⟨fun _=>rfl,h⟩
 | x::l,y::l',h,hg=>by
  simp only [List.map_cons,rK,Bool.and_eq_true] at h
  obtain ⟨h1,h2⟩:=V.bu (O:=O) h.1 (hg y (by simp))
  obtain ⟨h3,h4⟩:=zfx h.2 (fun u hu=>hg u (List.mem_cons_of_mem _ hu))
  refine ⟨fun U=>by simp only [List.map_cons,h1 U,h3 U],fun z hz=>?_⟩
  rcases List.mem_cons.1 hz with rfl | hz
  ·exact h2
  ·exact h4 z hz
 | [],_::_,h,_=>by simp [rK] at h
 | _::_,[],h,_=>by simp [rK] at h
theorem Vs.aX {O1 O2:Nat->DV} {p:A->Bool} {tys:List Ty} {as bs:List A} (hp:∀ a,p a=true->a.den O1=a.den O2) (h:gb O1 O2 tys as bs):∀ {l:List V},l.all (V.bn p tys)=true ->
  (∀ U,(l.map (V.inst bs)).map (V.aa O2 U)=(l.map (V.inst as)).map (V.aa O1 U))/\((∀ x∈l.map (V.inst as),V.good O1 x)->∀ x∈l.map (V.inst bs),V.good O2 x)
 | [],_=>⟨fun _=>rfl,fun _ x hx=>by cases hx⟩
 | x::l,hl=>by
  simp only [List.all_cons,Bool.and_eq_true] at hl
  obtain ⟨h1,h2⟩:=V.aX hp h hl.1
  obtain ⟨h3,h4⟩:=Vs.aX hp h hl.2
  refine ⟨fun U=>by simp only [List.map_cons,h1 U,h3 U],fun hg z hz=>?_⟩
  simp only [List.map_cons] at hg hz
  rcases List.mem_cons.1 hz with rfl | hz
  ·exact h2 (hg _ (by simp))
  ·exact h4 (fun u hu=>hg u (List.mem_cons_of_mem _ hu)) z hz
def ve (P:Program) (E:Env) (O:Nat->DV) (f:FuncId) (vs:List V) (hp:List (Option ag)) (U:Nat->Loc) (w:World):OR->Prop
 | .val v=>v.good O/\Calls P f (vs.map (V.aa O U)).toArray w (fun e w'=>e = .returned (v.aa O U)/\Below w.heap.size w w')
 | .hp v hp'=>Calls P f (vs.map (V.aa O U)).toArray w (fun e w'=>∃ x,e = .returned x/\∃ U':Nat->Loc,(∀ j,j<hp.length->U' j=U j)/\HS E O U' hp' w'/\∀ u,v=some u->u.good O/\x=u.aa O U')
theorem zjo (as bs:List A):∀ l l':List (Option ag),vL (l.map (Option.map (ag.inst as))) (l'.map (Option.map (ag.inst bs)))=vL l l'
 | [],_=>by cases ‹List (Option ag)›<;>rfl
 | x::l,[]=>by cases x<;>rfl
 | x::l,y::l'=>by
  have ih:=zjo as bs l l'
  cases x with
  | none=>exact ih
  | some x =>
   cases y with
   | none=>exact ih
   | some y=>cases x<;>cases y<;>simp only [List.map_cons,Option.map_some,vL,ag.inst,ih]
theorem zlc {K:Nat} (hS:bg P I K S F) (hE:E.Ok K) {f:FuncId} {vs:List V} {hp:List (Option ag)} : M.sat F O (HN P S f vs hp) (fun res=>∀ U w,(∀ v∈vs,V.good O v)->HS E O U hp w->I w ->
  (callFunc f (vs.map (V.aa O U)).toArray).run P w = .ok (.enter f (vs.map (V.aa O U)).toArray) w/\ve P E O f vs hp U w res):=by
 unfold HN
 refine bh fun sg hsg=>?_
 have hfn:=hS.fns f sg hsg
 dsimp only
 generalize hg:oD sg.fE ⟨sg.ins.map some,sg.hin⟩ ⟨vs.map some,hp⟩=g
 have lO:g.1.length=sg.lY.length:=by rw [<-hg];exact IV _ _ _
 refine aY (fun hok=>?_) (fun _=>aE)
 simp only [Bool.and_eq_true] at hok
 obtain ⟨⟨⟨⟨⟨fK,hsub⟩,AD⟩,oM⟩,ta⟩,v8⟩:=hok
 simp only [St.sub,Bool.and_eq_true,St.inst] at hsub
 obtain ⟨⟨fJ,uc⟩,SL⟩:=hsub
 simp only [aW.ok,Bool.and_eq_true] at AD
 obtain ⟨⟨⟨⟨⟨⟨⟨k1,k2⟩,k3⟩,k4⟩,k5⟩,k6⟩,k7⟩,k8⟩:=AD
 have SM:rK g.2 ((sg.ins.map (V.inst g.1)).map some) (vs.map some)=true:=by
  have:(sg.ins.map some).map (Option.map (V.inst g.1))=(sg.ins.map (V.inst g.1)).map some:=by simp [List.map_map,Function.comp_def]
  rw [<-this];exact fJ
 have mq:=zfx (O:=O) SM
 have v_:∀ (args:Array Value) (w:World),(callFunc f args).run P w = .ok (.enter f args) w:=fun args w=>by
  unfold ZM at fK
  cases hf:P.funcs[f]? with
  | none=>simp [hf] at fK
  | some fn =>
   simp only [hf,Bool.and_eq_true,Bool.not_eq_true',beq_eq_false_iff_ne] at fK
   obtain ⟨h1,h2⟩:=fK
   obtain ⟨bd,hb⟩:=Option.isSome_iff_exists.1 h2
   simp [callFunc,hf,h1,hb]
 -- the values kC go in
 generalize hds:g.1.map (A.den O)=ds
 have hdl:ds.length=sg.lY.length:=by rw [<-hds];simpa using lO
 have FW:gb O (af ds) sg.lY g.1 (eL 0 sg.fE):=by
  refine gb.mj lO ?_
  rw [hds]
  have:=zu1 ds
  rw [hdl] at this
  exact this.symm
 obtain ⟨SN,hvg⟩:=Vs.aX xH FW k1
 refine ak (R:=fun j0=>j0=(if sg.need then 1 else 0)/\(sg.need=true->(af (F f ds) 0).aA=true)) ?_ fun j0 hj0=>?_
 ·refine aY (fun hn=>?_) (fun hn=>au ⟨by simp [hn],fun h=>absurd h hn⟩)
  refine ak (cz (Q:=fun r=>r.den O=(F f (g.1.map (A.den O))).getD 0 default) fun r h=>h) fun r hr=>?_
  refine ak (n6 (Q:=fun _=>r.bool O=true) fun h=>h) fun _ me=>au ⟨by simp [hn],fun _=>?_⟩
  rw [af,<-hds,<-hr];exact me
 obtain ⟨rfl,eF⟩:=hj0
 refine ak (SC sg.iK.length _) fun os hos=>?_
 rw [hds] at hos
 have ud:gb (sg.res (F f ds)) O sg.iK (eL 0 sg.iK.length) os:=by
  refine gb.mj (zjm _ _) ?_
  rw [IU (sg.res (F f ds)) sg.iK.length 0 0 (fun _ _=>rfl)]
  apply List.ext_getElem?
  intro i
  by_cases hi:i<sg.iK.length
  ·rw [List.getElem?_map,List.getElem?_range' (by omega),List.getElem?_map,List.getElem?_eq_getElem (by rw [hos.1];exact hi)]
   simp only [Option.map_some,Option.some.injEq]
   rw [hos.2 i _ (List.getElem?_eq_getElem (by rw [hos.1];exact hi))]
   simp only [aW.res,af]
   congr 1
   omega
  ·rw [List.getElem?_eq_none (by simpa using hi),List.getElem?_eq_none (by rw [List.length_map,hos.1];omega)]
 obtain ⟨hoc,hog⟩:=V.aX xH ud k3
 -- the call
 have d_:∀ U w,(∀ v∈vs,V.good O v)->HS E O U hp w->I w->Calls P f (vs.map (V.aa O U)).toArray w (fun e w'=>∃ x U',e = .returned x/\eZ sg (F f ds) (fun j=>U (bz g.2 j)) w x U' w'):=by
  intro U w hvs hh hI
  have h1:eT E O (fun j=>U (bz g.2 j)) (sg.hin.map (Option.map (ag.inst g.1))) w:=hh.heap.sub uc SL
  have h2:eT E (af ds) (fun j=>U (bz g.2 j)) sg.eE w:=eT.inst xH FW k2 h1
  have h0:∀ b,b<E.w0.heap.size->¬ E.W b->b<w.heap.size/\¬ (bA sg.eE (fun j=>U (bz g.2 j)) w).W b/\w.heap[b]? = E.w0.heap[b]?:=fun b hb xK=>by
   refine ⟨Nat.lt_of_lt_of_le hb hh.fr.size,?_,hh.fr.block b hb xK⟩
   rintro ⟨j,x,hx,fy,fN,gX⟩
   change x.aB w (U (bz g.2 j)) b at gX
   change (U (bz g.2 j)).nil=false at fN
   unfold aW.eE at hx
   rw [jy] at hx
   obtain ⟨y,hy,rfl⟩:=Option.map_eq_some_iff.1 hx
   obtain ⟨b',e1,e2,e3⟩:=NK uc (j:=j) (b:=y.inst g.1) (by rw [jy,hy];rfl)
   have ho:b'.own=true:=(ag.bu (E:=E) (O:=O) e3).1 (by rw [ag.cC] at fy ⊢;exact fy)
   rw [ag.cX,<-ag.cX g.1] at gX
   have gX:=ag.iu e3 (by rw [ag.cC] at fy ⊢;exact fy) gX
   rcases hh.old _ _ e1 with h | h
   ·rw [fN] at h;cases h
   ·rcases h.wr ho b gX with h | h
    ·omega
    ·exact xK h
  have h3:eT (bA sg.eE (fun j=>U (bz g.2 j)) w) (af ds) (fun j=>U (bz g.2 j)) sg.eE w :=
   ⟨fun j bk hj=>by
    cases hfl:bk.flat with
    | true=>exact (h2.aj j bk hj).flat hfl
    | false =>
     refine (h2.aj j bk hj).enter fun b hb xK=>?_
     obtain ⟨c1,c2,c3⟩:=h0 b hb xK
     refine ⟨c1,c2,.inr ⟨?_,c1,c2⟩,c3⟩
     cases hall:sg.eE.all (dw ag.flat) with
     | false=>rfl
     | true =>
      rw [iO hall hj] at hfl
      exact absurd hfl (by decide),h2.apart⟩
  have NM:∀ b,(bA sg.eE (fun j=>U (bz g.2 j)) w).W b->K<=b:=fun b hb=>by
   rcases Nat.lt_or_ge b E.w0.heap.size with hlt | hge
   ·by_cases hEW:E.W b
    ·exact hE.2 b hEW
    ·exact absurd hb (h0 b hlt hEW).2.1
   ·exact Nat.le_trans hE.1 hge
  have:=hfn ds (fun j=>U (bz g.2 j)) w hI hdl eF (Nat.le_trans hE.1 hh.fr.size) NM (hvg (mq hvs).2) h3
  have Cp:(sg.iZ.map (V.aa (af ds) fun j=>U (bz g.2 j)))=vs.map (V.aa O U):=by
   unfold aW.iZ
   rw [SN,(mq hvs).1 U]
  rw [Cp] at this
  exact this
 refine aY (fun lu=>?_) (fun lu=>?_)
 ·refine au fun U w hvs hh hI=>⟨v_ _ w,?_⟩
  simp only [Bool.and_eq_true,List.isEmpty_iff] at lu
  have Cq:(sg.out.inst os).lt 0=true:=by rw [V.dM];rw [lu.2] at k5;exact k5
  have k8:sg.out.ep=true:=by
   simp only [lu.1,lu.2,List.isEmpty_nil,Bool.and_self,Bool.not_true,Bool.or_false] at k8
   exact k8
  refine ⟨V.dZ (by rw [V.eW];exact k8),(d_ U w hvs hh hI).mono fun e w' ⟨x,U',he,hc⟩=>⟨?_,?_⟩⟩
  ·rw [he,hc.val]
   unfold aW.aG
   rw [<-hoc U',V.v9 Cq U' U]
  ·have:=hc.fr.weaken (W':=fun _=>False) (fun b hb=>by
    obtain ⟨j,bk,h1,h2,_⟩:=hb
    unfold aW.eE at h1
    rw [jy] at h1
    obtain ⟨y,hy,rfl⟩:=Option.map_eq_some_iff.1 h1
    have:=iO lu.1 hy
    rw [ag.cC] at h2
    rw [h2] at this
    cases this)
   exact this.below
 ·refine au fun U w hvs hh hI=>⟨v_ _ w,(d_ U w hvs hh hI).mono fun e w' ⟨x,U',he,hc⟩=>⟨x,he,?_⟩⟩
  obtain ⟨ue,m_,NN,hc4,hc5,hc6⟩:=hc
  have hcw:bA sg.eE (fun j=>U (bz g.2 j)) w=bA (sg.hin.map (Option.map (ag.inst g.1))) (fun j=>U (bz g.2 j)) w:=znM _ _ _ _
  rw [hcw] at NN hc4 hc5
  have hb:=eT.inst xH ud k4 NN
  have e2:∀ (l:List (Option ag)) (j:Nat),pM (sg.hin.map (Option.map (ag.inst g.1))) j (l.map (Option.map (ag.inst os)))=pM sg.hin j l:=fun l=>by
   induction l with
   | nil=>intro j;rfl
   | cons x l ih =>
    intro j
    simp only [List.map_cons,pM,ih,IW]
    cases x with
    | none=>rfl
    | some y=>simp [ag.cC,ag.vZ]
  have Cr:pM (sg.hin.map (Option.map (ag.inst g.1))) 0 (sg.hout.map (Option.map (ag.inst os)))=true->(sg.hin.map (Option.map (ag.inst g.1))).all (dw ag.flat)=true:=fun h=>by
   rw [e2] at h
   rw [NL (fun ops b=>ag.iP ops b)]
   rw [h] at ta
   simpa using ta
  have ec:=HS.back (ho:=sg.hout.map (Option.map (ag.inst os))) hh uc oM (by rw [List.length_map,NL (fun ops b=>ag.dM _ ops b)];exact k6) (by rw [NL (fun ops b=>ag.iP ops b)];exact k7) hb (jx.inst hc4) Cr (by rw [zjo];exact v8) hc5
   (fun j hj hl=>hc6 j (by rw [IW] at hj;exact hj) (by simpa using hl))
  have e1:∀ k n,vK (sg.hin.map (Option.map (ag.inst g.1))) g.2 n k=vK sg.hin g.2 n k:=fun k n=>by
   unfold vK
   exact List.map_congr_left fun j _=>by rw [IW]
  have e3:∀ (l:List (Option ag)) (m1:List Nat) (j:Nat),Ah (sg.hin.map (Option.map (ag.inst g.1))) m1 j l=Ah sg.hin m1 j l:=fun l m1=>by
   induction l with
   | nil=>intro j;rfl
   | cons x l ih=>intro j;simp only [Ah,ih,IW]
  have e4:∀ (ho:List (Option ag)) (m1:List Nat) (pL:Bool) (k j:Nat) (hp:List (Option ag)),rL (sg.hin.map (Option.map (ag.inst g.1))) ho g.2 m1 pL k j hp=rL sg.hin ho g.2 m1 pL k j hp:=fun ho m1 pL k=>by
   induction k with
   | zero=>intro j hp;rfl
   | succ k ih =>
    intro j hp
    unfold rL
    rw [jy]
    cases nth sg.hin j with
    | none=>exact ih _ _
    | some y=>simp only [Option.map_some,ag.cC,IW,ih]
  rw [e1,e2,e3,e4,List.length_map,List.length_map] at ec
  refine ⟨_,fun j hj=>by simp [hj],ec.2,fun u hu=>?_⟩
  cases hu
  have IY:=V.cO (O:=O) (m:=vK sg.hin g.2 hp.length sg.hout.length) (U:=U') (U':=fun i=>if i<hp.length then U i else U' (i-hp.length)) (v:=sg.out.inst os) ec.1 (by rw [V.dM];exact k5)
  refine ⟨IY.2 (hog m_),?_⟩
  rw [IY.1,hoc U']
  exact ue
theorem AE {t:TypeId} {e:Nat} (h:tk P t=some (.ptr e)):P.underlying t=some (.pointer e):=by
 obtain ⟨d,hd,hk⟩:=As h
 cases d<;>simp [oB] at hk
 exact hk▸hd
theorem AF (w:World) (d:Nat) (t:TypeId) (p:Option Addr) {e:Nat} (h:P.underlying t=some (.pointer e)) :
  (Op.equalIn (d+1) t (.pointer p) (.pointer none)).run P w = .ok p.isNone w:=by
 cases p<;>simp [Op.equalIn,run_underlying h]
theorem NO {iface:Bool} {key:Nat} {l:List (Nat×Alt)} (h:BX iface key l=true) {k:Nat} {x:Alt} (hx:eI l k=some x) :
  (k=key/\x=if iface then .nu else .cG)\/(k≠key/\if iface then ∃ t q,x = .fV t q else ∃ q n,x = .p q n):=by
 have:=List.all_eq_true.1 h _ (NI hx)
 simp only at this
 have hne:(!Nat.beq k key)=true->k≠key:=fun h e=>by subst e;rw [Nat.beq_refl] at h;cases h
 cases iface<;>cases x<;>simp only at this<;>first | (cases this;done) | exact .inl ⟨Nat.eq_of_beq_eq_true this,rfl⟩ | exact .inr ⟨hne this,_,_,rfl⟩
theorem FX {a:A} {key:Nat} (h0:0<=a.int O):(a.int O==((key:Nat):Int))=decide ((a.int O).toNat=key):=by
 rw [Bool.eq_iff_iff]
 simp only [beq_iff_eq,decide_eq_true_eq]
 omega
theorem SO {iface neg:Bool} {a:A} {l:List (Nat×Alt)} (hg:(Lf.alt a l).good O):M.sat F O (BY iface neg a l) (fun r=>∃ c:A,r = .b c /\
  c.bool O=(if neg then decide ((a.int O).toNat≠nZ l) else decide ((a.int O).toNat=nZ l))/\BX iface (nZ l) l=true):=by
 unfold BY
 refine aY (fun hok=>?_) (fun _=>aE)
 obtain ⟨h0,_⟩:=hg
 cases neg with
 | false =>
  refine ak (cz (Q:=fun c=>c.bool O=(a.int O==((nZ l:Nat):Int))) fun c h=>A.aq h) fun c hc=>au ⟨c,rfl,?_,hok⟩
  rw [hc,FX h0];rfl
 | true =>
  refine ak (cz (Q:=fun c=>c.bool O=(a.int O != ((nZ l:Nat):Int))) fun c h=>A.aq h) fun c hc=>au ⟨c,rfl,?_,hok⟩
  rw [hc,bne,FX h0];simp
theorem zle (b:ByteArray):b.toList=b.data.toList:=by
 have h:∀ n i r,b.size-i=n->ByteArray.toList.loop b i r=r.reverse++b.data.toList.drop i:=by
  intro n
  induction n with
  | zero =>
   intro i r hn
   rw [ByteArray.toList.loop]
   have hi:¬ i<b.size:=by omega
   have h0:b.data.toList.length<=i:=Nat.le_of_not_lt hi
   rw [if_neg hi,List.drop_eq_nil_of_le h0,List.append_nil]
  | succ n ih =>
   intro i r hn
   rw [ByteArray.toList.loop]
   have hi:i<b.size:=by omega
   rw [if_pos hi,ih _ _ (by omega)]
   have hi2:i<b.data.toList.length:=hi
   rw [List.drop_eq_getElem_cons hi2]
   have hi3:i<b.data.size:=hi
   have:b.get! i=b.data.toList[i]:=by
    show b.data[i]! = _
    rw [getElem!_pos b.data i hi3]
    rfl
   rw [this]
   simp
 have:=h _ 0 [] rfl
 rw [List.reverse_nil,List.nil_append,List.drop_zero] at this
 exact this
theorem znN:∀ l l':List DV,sU l l'=(l.map DV.byte==l'.map DV.byte)
 | [],[]=>rfl
 | [],_::_=>rfl
 | _::_,[]=>rfl
 | x::l,y::l'=>by
  have:=znN l l'
  simp only [sU,this,List.map_cons]
  rfl
theorem znO {l l':List DV} (w:World):(Op.stringOp .eql (qY l) (qY l')).run P w = .ok (.bool (sU l l')) w/\(Op.stringOp .neq (qY l) (qY l')).run P w = .ok (.bool (!sU l l')) w:=by
 have h:((qY l).toList==(qY l').toList)=sU l l':=by rw [zle,zle,znN];simp [qY]
 constructor<;>simp [Op.stringOp,h]
theorem zqJ {x:Lf} : M.sat F O (yG x) (fun a=>∀ U,x.aa O U = .string (qY (a.cells O))):=by
 unfold yG
 split
 ·exact au fun U=>rfl
 ·rename_i s
  refine cz fun r h U=>?_
  have h1:r.cells O=s.data.toList.map fun b=>DV.i b.toNat:=by
   have:A.cells O r=(lJ F O (Node.sR (s.data.toList.map fun _=>.i) (s.data.toList.map fun b=>.z b.toNat))).ay:=by simp [A.cells,h]
   rw [this]
   simp only [lJ,DV.ay]
   generalize s.data.toList=l
   induction l with
   | nil=>rfl
   | cons b l ih =>
    simp only [List.map_cons,ey,ih]
    rfl
  have h2:qY (r.cells O)=s:=by
   rw [h1]
   cases s with
   | mk d =>
    simp only [qY,List.map_map]
    congr 1
    have:(DV.byte∘fun b:UInt8=>DV.i b.toNat)=id:=by
     funext b
     simp [DV.byte]
    rw [this]
    simp
  rw [h2]
  rfl
 ·exact aE
theorem znP {op:BinOp} {t:TypeId} {x y:Lf} : M.sat F O (QY op x y) (fun v=>v.good O/\∀ (U:Nat->Loc) (w:World),∀ (xo yo:Operand),
  (eqGuard op t xo yo ((V.s (.one x)).aa O U) ((V.s (.one y)).aa O U)).run P w = .ok () w/\(binOp op t ((V.s (.one x)).aa O U) ((V.s (.one y)).aa O U)).run P w = .ok (v.aa O U) w):=by
 have hg:∀ (op:BinOp) (xo yo:Operand) (a b:ByteArray) (w:World),(eqGuard op t xo yo (.string a) (.string b)).run P w = .ok () w:=by
  intro op xo yo a b w;cases op<;>simp [eqGuard]
 unfold QY
 refine ak zqJ fun a ha=>ak zqJ fun b hb=>?_
 refine ak (cz (Q:=fun r=>r.bool O=sU (a.cells O) (b.cells O)) fun r h=>A.aq h) fun q hq=>?_
 split
 ·refine au ⟨V1.ah.2 trivial,fun U w xo yo=>?_⟩
  simp only [V.aa,V1.aa,ha,hb]
  exact ⟨hg _ _ _ _ _ w,by simp [binOp,(znO (P:=P) w).1,Lf.aa,hq]⟩
 ·refine ak IA fun r hr=>au ⟨V1.ah.2 trivial,fun U w xo yo=>?_⟩
  simp only [V.aa,V1.aa,ha,hb]
  exact ⟨hg _ _ _ _ _ w,by simp [binOp,(znO (P:=P) w).2,Lf.aa,hq,hr]⟩
 ·exact aE
theorem zrD {op:BinOp} {t:TypeId} {x y:V} (hx:x.good O) (hy:y.good O):M.sat F O (QZ P op t x y) (fun v=>v.good O/\∀ (U:Nat->Loc) (w:World),∀ (xo yo:Operand),
  (eqGuard op t xo yo (x.aa O U) (y.aa O U)).run P w = .ok () w/\(binOp op t (x.aa O U) (y.aa O U)).run P w = .ok (v.aa O U) w):=by
 have SP:∀ (op:BinOp) (xo yo:Operand) (k k':IntKind) (a b:Int) (w:World),(eqGuard op t xo yo (.int k a) (.int k' b)).run P w = .ok () w:=by
  intro op xo yo k k' a b w;cases op<;>simp [eqGuard]
 have AG:∀ (op:BinOp) (xo yo:Operand) (a b:Option Addr) (w:World),(eqGuard op t xo yo (.pointer a) (.pointer b)).run P w = .ok () w:=by
  intro op xo yo a b w;cases op<;>simp [eqGuard]
 have hgb:∀ (op:BinOp) (xo yo:Operand) (a b:Bool) (w:World),(eqGuard op t xo yo (.bool a) (.bool b)).run P w = .ok () w:=by
  intro op xo yo a b w;cases op<;>simp [eqGuard]
 unfold QZ
 split
 ·exact ak (Ci fun U w=>zi4 (U:=U) (w:=w) t) fun l hl=>au ⟨V1.ah.2 hl.1,fun U w xo yo=>⟨SP _ _ _ _ _ _ _ w,hl.2 U w⟩⟩
 ·exact ak (Ci fun U w=>zi4 (U:=U) (w:=w) t) fun l hl=>au ⟨V1.ah.2 hl.1,fun U w xo yo=>⟨SP _ _ _ _ _ _ _ w,hl.2 U w⟩⟩
 ·rename_i k a k' b SQ SR
  refine aY (fun hk=>?_) (fun _=>aE)
  have:=pN hk;subst this
  have e1:op≠.shl:=fun h=>SQ h
  have e2:op≠.shr:=fun h=>SR h
  exact ak (Ci fun U w=>zsZ (U:=U) (w:=w) e1 e2 t) fun l hl=>au ⟨V1.ah.2 hl.1,fun U w xo yo=>⟨SP _ _ _ _ _ _ _ w,hl.2 U w⟩⟩
 ·rename_i a b
  refine bh fun k hk=>?_
  split
  ·exact ak (Ci fun U w=>zhU (U:=U) (w:=w) t (Sa hk)) fun l hl=>au ⟨V1.ah.2 hl.1,fun U w xo yo=>⟨hgb _ _ _ _ _ w,hl.2 U w⟩⟩
  ·exact aE
 ·rename_i a b
  refine bh fun k hk=>?_
  split
  ·exact ak (Ci fun U w=>zhU (U:=U) (w:=w) t (Sa hk)) fun l hl=>au ⟨V1.ah.2 hl.1,fun U w xo yo=>⟨hgb _ _ _ _ _ w,hl.2 U w⟩⟩
  ·exact aE
 ·refine bh fun k hk=>?_
  split
  ·exact au ⟨V1.ah.2 trivial,fun U w xo yo=>⟨AG _ _ _ _ _ w,by simp [binOp,Op.equal,Op.maxDepth,V.aa,V1.aa,Lf.aa,AF w 9999 t _ (AE hk)]⟩⟩
  ·exact aE
 ·refine bh fun k hk=>?_
  split
  ·exact au ⟨V1.ah.2 trivial,fun U w xo yo=>⟨AG _ _ _ _ _ w,by simp [binOp,Op.equal,Op.maxDepth,V.aa,V1.aa,Lf.aa,AF w 9999 t _ (AE hk)]⟩⟩
  ·exact aE
 ·refine bh fun k hk=>?_
  split
  ·exact au ⟨V1.ah.2 trivial,fun U w xo yo=>⟨AG _ _ _ _ _ w,by simp [binOp,Op.equal,Op.maxDepth,V.aa,V1.aa,Lf.aa,AF w 9999 t _ (AE hk)]⟩⟩
  ·exact aE
 ·refine bh fun k hk=>?_
  split
  ·exact au ⟨V1.ah.2 trivial,fun U w xo yo=>⟨AG _ _ _ _ _ w,by simp [binOp,Op.equal,Op.maxDepth,V.aa,V1.aa,Lf.aa,AF w 9999 t _ (AE hk)]⟩⟩
  ·exact aE
 ·rename_i a l
  refine bh fun k hk=>?_
  split
  ·refine ak (SO (V1.ah.1 hx)) fun r ⟨c,hr,hc,hok⟩=>au ⟨by rw [hr];exact V1.ah.2 trivial,fun U w xo yo=>?_⟩
   subst hr
   obtain ⟨h0,h1⟩:=V1.ah.1 hx
   obtain ⟨y,hy⟩:=Option.isSome_iff_exists.1 h1
   have IZ:=AE hk
   have hval:(V.s (.one (.alt a l))).aa O U=y.aa U:=by simp only [V.aa,V1.aa,Lf.aa,nX,hy]
   rcases NO hok hy with ⟨e1,e2⟩ | ⟨e1,q,n,e2⟩
   ·rw [hval,e2]
    refine ⟨AG _ _ _ _ _ w,?_⟩
    simp [binOp,Op.equal,Op.maxDepth,V.aa,V1.aa,Lf.aa,Alt.aa,AF w 9999 t _ IZ,hc,e1]
   ·rw [hval,e2]
    refine ⟨AG _ _ _ _ _ w,?_⟩
    simp [binOp,Op.equal,Op.maxDepth,V.aa,V1.aa,Lf.aa,Alt.aa,AF w 9999 t _ IZ,hc,e1]
  ·exact aE
 ·rename_i a l
  refine bh fun k hk=>?_
  split
  ·refine ak (SO (V1.ah.1 hx)) fun r ⟨c,hr,hc,hok⟩=>au ⟨by rw [hr];exact V1.ah.2 trivial,fun U w xo yo=>?_⟩
   subst hr
   obtain ⟨h0,h1⟩:=V1.ah.1 hx
   obtain ⟨y,hy⟩:=Option.isSome_iff_exists.1 h1
   have IZ:=AE hk
   have hval:(V.s (.one (.alt a l))).aa O U=y.aa U:=by simp only [V.aa,V1.aa,Lf.aa,nX,hy]
   rcases NO hok hy with ⟨e1,e2⟩ | ⟨e1,q,n,e2⟩
   ·rw [hval,e2]
    refine ⟨AG _ _ _ _ _ w,?_⟩
    simp [binOp,Op.equal,Op.maxDepth,V.aa,V1.aa,Lf.aa,Alt.aa,AF w 9999 t _ IZ,hc,e1]
   ·rw [hval,e2]
    refine ⟨AG _ _ _ _ _ w,?_⟩
    simp [binOp,Op.equal,Op.maxDepth,V.aa,V1.aa,Lf.aa,Alt.aa,AF w 9999 t _ IZ,hc,e1]
  ·exact aE
 ·refine aY (fun _=>aE) (fun hgt=>?_)
  refine ak (Nx 8 t _ _ hx hy) fun r hr=>au ⟨V1.ah.2 trivial,fun U w xo yo=>⟨?_,?_⟩⟩
  ·exact run_eqGuard_agg w _ t xo yo _ _ (by simpa using hgt)
  ·have:=hr U 9992 w
   simp only [V.aa,V1.aa] at this ⊢
   rw [run_eql_struct,this]
   rfl
 ·refine aY (fun _=>aE) (fun hgt=>?_)
  refine ak (Nx 8 t _ _ hx hy) fun r hr=>ak IA fun r2 me=>au ⟨V1.ah.2 trivial,fun U w xo yo=>⟨?_,?_⟩⟩
  ·exact run_eqGuard_agg w _ t xo yo _ _ (by simpa using hgt)
  ·have:=hr U 9992 w
   simp only [V.aa,V1.aa] at this ⊢
   rw [run_neq_struct,this]
   simp [Lf.aa,me]
 ·exact znP
 ·exact aE
end
end Go.Sx
namespace Go.Sx
open Go.RowKit
section
variable {P:Program} {I:World->Prop} {S:bN} {F:aC} {E:Env} {O:Nat->DV}
theorem zfy {U:Nat->Loc} : ∀ (l:List Lf) (cs:List Lf) (k o:Nat) (A:Array Value),A.toList=cs.map (Lf.aa O U) ->
  (((l.map (Lf.aa O U)).zipIdx k).foldl (fun (cs:Array Value) (p:Value×Nat)=>cs.setIfInBounds (o+p.2) p.1) A).toList=(Ag cs (o+k) l).map (Lf.aa O U)
 | [],cs,k,o,A,h=>by simpa [Ag] using h
 | c::l,cs,k,o,A,h=>by
  simp only [List.map_cons,List.zipIdx_cons,List.foldl_cons,Ag]
  rw [zfy l (cs.set (o+k) c) (k+1) o _ (by simp [h,List.map_set])]
  rfl
theorem zfz:∀ {l cs:List Lf} {o:Nat},(∀ x∈cs,Lf.good O x)->(∀ x∈l,Lf.good O x)->∀ x∈Ag cs o l,Lf.good O x
 | [],cs,o,h,_=>h
 | c::l,cs,o,h,h2=>zfz (l:=l) (fun x hx=>by
   rcases List.mem_or_eq_of_mem_set hx with hx | rfl
   ·exact h x hx
   ·exact h2 x (by simp)) (fun x hx=>h2 x (List.mem_cons_of_mem _ hx))
theorem V1.mu {v:V1} (hok:v.cells.all Lf.ok=true) (U:Nat->Loc):(v.aa O U).cells=(v.cells.map (Lf.aa O U)).toArray:=by
 cases v with
 | one l =>
  have h1:(l.aa O U).oneCell'=true:=Lf.iM (by simpa [V1.cells] using hok) U
  exact NG h1
 | agg l=>rfl
theorem NP {place:Nat->Option (Nat×Nat)} {place':Nat->Option (Nat×Nat)} (hp:∀ i,place' i=place i) {U:Nat->Loc} : ∀ (ps:List (Nat×V1)) (cs r:List Lf) (A:Array Value),
  A.toList=cs.map (Lf.aa O U)->tQ place cs ps=some r ->
  ∃ B,Instr.fill place' A (ps.map fun p=>(p.1,p.2.aa O U))=some B/\B.toList=r.map (Lf.aa O U)
 | [],cs,r,A,h,hf=>by simp [tQ] at hf;subst hf;exact ⟨A,rfl,h⟩
 | p::ps,cs,r,A,h,hf=>by
  simp only [tQ] at hf
  split at hf
  ·cases hf
  ·rename_i o sz j9
   split at hf
   ·rename_i hc
    simp only [Bool.and_eq_true] at hc
    obtain ⟨⟨h1,h2⟩,h3⟩:=hc
    have h1:=Nat.eq_of_beq_eq_true h1
    have h2:=Nat.le_of_ble_eq_true h2
    have hcells:=V1.mu (O:=O) h3 U
    have hA:A.size=cs.length:=by rw [<-Array.length_toList,h];simp
    simp only [List.map_cons,Instr.fill,hp,j9,hcells]
    rw [if_neg (by simp;omega)]
    refine NP hp ps _ r _ ?_ hf
    have:=zfy (O:=O) (U:=U) p.2.cells cs 0 o A h
    rw [Nat.add_zero] at this
    rw [<-this,<-Array.foldl_toList]
    simp
   ·cases hf
theorem SS {place:Nat->Option (Nat×Nat)} : ∀ (ps:List (Nat×V1)) (cs r:List Lf),(∀ x∈cs,Lf.good O x)->(∀ p∈ps,p.2.good O)->tQ place cs ps=some r->∀ x∈r,Lf.good O x
 | [],cs,r,h,_,hf=>by simp [tQ] at hf;subst hf;exact h
 | p::ps,cs,r,h,hg,hf=>by
  simp only [tQ] at hf
  split at hf
  ·cases hf
  ·split at hf
   ·exact SS ps _ r (zfz h (hg p (by simp))) (fun q hq=>hg q (List.mem_cons_of_mem _ hq)) hf
   ·cases hf
def ext (U:Nat->Loc) (n:Nat) (x:Loc):Nat->Loc:=fun j=>if j=n then x else U j
theorem uf (U:Nat->Loc) (n:Nat) (x:Loc):ext U n x n=x:=by simp [ext]
theorem nD {U:Nat->Loc} {n j:Nat} {x:Loc} (h:j<n):ext U n x j=U j:=by simp [ext];intro e;omega
theorem Lf.we {U:Nat->Loc} {n:Nat} {x:Loc} {l:Lf} (h:l.lt n=true):l.aa O (ext U n x)=l.aa O U:=by
 exact Lf.eU (fun k hk=>nD hk) h
theorem HS.push {U:Nat->Loc} {hp:List (Option ag)} {w w':World} (h:HS E O U hp w) (hlt:bH hp=true) (hb:Below w.heap.size w w') {bk:ag} {r:Loc}
  (hrel:aD E O (ext U hp.length r) w' r bk)
  (hap:∀ j b',nth hp j=some b'->r.nil=false->(U j).nil=false->(bk.own=true->∀ b,bk.aB w' r b->¬ b'.av w (U j) b)/\(b'.own=true->∀ b,b'.aB w (U j) b->¬ bk.av w' r b))
  (hold:r.nil=true\/rQ E.W E.V E.w0.heap.size bk.own (bk.aB w' r) (bk.av w' r)):HS E O (ext U hp.length r) (hp++[some bk]) w':=by
 have bM:∀ j b',nth (hp++[some bk]) j=some b'->(nth hp j=some b'/\j<hp.length)\/(j=hp.length/\b'=bk):=by
  intro j b' hj
  rw [oI] at hj
  split at hj
  ·exact .inl ⟨hj,iW hj⟩
  ·right
   have:j-hp.length=0:=by
    cases hk:j-hp.length with
    | zero=>rfl
    | succ k=>rw [hk] at hj;cases k<;>cases hj
   rw [this] at hj
   cases hj
   exact ⟨by omega,rfl⟩
 have nc:∀ j b',nth hp j=some b'->(U j).nil=false->∀ b,b'.aB w' (U j) b↔b'.aB w (U j) b:=fun j b' hj hn b =>
  (h.heap.aj j b' hj).dU hn (fun _ hf=>hb.block _ ((h.heap.aj j b' hj).lt hn hf)) b
 have m9:∀ j b',nth hp j=some b'->(U j).nil=false->∀ b,b'.av w' (U j) b↔b'.av w (U j) b:=fun j b' hj hn b =>
  (h.heap.aj j b' hj).cN hn (fun _ hf=>hb.block _ ((h.heap.aj j b' hj).lt hn hf)) b
 refine ⟨⟨fun j b' hj=>?_,fun j j' b1 b2 hj ho hj' hne b_ hn2 b dj cD=>?_⟩,fun j b' hj=>?_,h.fr.trans (Fr.bK hb),by rw [List.length_append];have:=h.len;omega,fun j hj=>by rw [nD (by have:=h.len;omega)];exact h.keep j hj⟩
 ·rcases bM j b' hj with ⟨hj,hjl⟩ | ⟨rfl,rfl⟩
  ·rw [nD hjl]
   exact (((h.heap.aj j b' hj).dG hb.size (fun hn _ hf=>hb.block _ ((h.heap.aj j b' hj).lt hn hf))).keep (fun k hk=>nD hk) (iO hlt hj))
  ·rw [uf]
   exact hrel
 ·rcases bM j b1 hj with ⟨kj,hjl⟩ | ⟨e1,e2⟩
  ·rw [nD hjl] at b_ dj
   have dj:=(nc j b1 kj b_ b).1 dj
   rcases bM j' b2 hj' with ⟨I0,Cs⟩ | ⟨e3,e4⟩
   ·rw [nD Cs] at hn2 cD
    exact h.heap.apart j j' b1 b2 kj ho I0 hne b_ hn2 b dj ((m9 j' b2 I0 hn2 b).1 cD)
   ·subst e3
    rw [uf] at hn2 cD
    rw [e4] at cD
    exact (hap j b1 kj hn2 b_).2 ho b dj cD
  ·rcases bM j' b2 hj' with ⟨I0,Cs⟩ | ⟨e3,e4⟩
   ·subst e1
    rw [nD Cs] at hn2 cD
    rw [uf] at b_ dj
    rw [e2] at dj
    exact (hap j' b2 I0 b_ hn2).1 (by rw [<-e2];exact ho) b dj ((m9 j' b2 I0 hn2 b).1 cD)
   ·exact absurd (e1.trans e3.symm) hne
 ·rcases bM j b' hj with ⟨hj,hjl⟩ | ⟨rfl,rfl⟩
  ·rw [nD hjl]
   cases hn:(U j).nil with
   | true=>exact .inl rfl
   | false =>
    rcases h.old j b' hj with h1 | h1
    ·rw [hn] at h1;cases h1
    ·exact .inr ⟨fun o b hf=>h1.wr o b ((nc j b' hj hn b).1 hf),fun b hf=>h1.rd b ((m9 j b' hj hn b).1 hf)⟩
  ·rw [uf];exact hold
theorem HS.rT {U:Nat->Loc} {hp:List (Option ag)} {w w':World} (h:HS E O U hp w) (hlt:bH hp=true) (hb:Below w.heap.size w w') {bk:ag} {r:Loc}
  (hrel:aD E O (ext U hp.length r) w' r bk) (hr:r.nil=true\/∀ b,bk.av w' r b->w.heap.size<=b):HS E O (ext U hp.length r) (hp++[some bk]) w':=by
 refine h.push hlt hb hrel (fun j b' hj hn hn'=>⟨fun _ b dj cD=>?_,fun _ b dj cD=>?_⟩) ?_
 ·have:=(h.heap.aj j b' hj).lt hn' cD
  rcases hr with hr | hr
  ·rw [hn] at hr;cases hr
  ·have:=hr b (hrel.rd hn dj);omega
 ·have:=(h.heap.aj j b' hj).lt hn' ((h.heap.aj j b' hj).rd hn' dj)
  rcases hr with hr | hr
  ·rw [hn] at hr;cases hr
  ·have:=hr b cD;omega
 ·rcases hr with hr | hr
  ·exact .inl hr
  ·cases hn:r.nil with
   | true=>exact .inl rfl
   | false=>exact .inr ⟨fun _ b hf=>.inl (Nat.le_trans h.fr.size (hr b (hrel.rd hn hf))),fun b hf=>.inl (Nat.le_trans h.fr.size (hr b hf))⟩
def ag.plain:ag->Bool
 | .obj _ _ _=>false
 | .l _ _ _ _=>false
 | _=>true
theorem ag.eX {bk:ag} (h:bk.plain=true) (w:World) (r:Loc) (b:Nat):bk.aB w r b↔b=r.aj:=by
 cases bk with
 | c=>exact Iff.rfl
 | v=>exact Iff.rfl
 | m=>exact Iff.rfl
 | l=>cases h
 | obj=>cases h
theorem ag.gd {bk:ag} (h:bk.plain=true) (w:World) (r:Loc) (b:Nat):bk.av w r b↔b=r.aj:=by
 cases bk with
 | c=>exact Iff.rfl
 | v=>exact Iff.rfl
 | m=>exact Iff.rfl
 | l=>cases h
 | obj=>cases h
theorem ag.gf {bk:ag} (h:bk.plain=true) (w:World) (r:Loc):bk.aB w r=(fun b=>b=r.aj)/\bk.av w r=fun b=>b=r.aj:=by
 cases bk with
 | c=>exact ⟨rfl,rfl⟩
 | v=>exact ⟨rfl,rfl⟩
 | m=>exact ⟨rfl,rfl⟩
 | l=>cases h
 | obj=>cases h
theorem HS.qt {U:Nat->Loc} {hp:List (Option ag)} {w w':World} (h:HS E O U hp w) (hlt:bH hp=true) (hb:Below w.heap.size w w') {bk:ag} {r:Loc}
  (hrel:aD E O (ext U hp.length r) w' r bk)
  (hap:∀ j b',nth hp j=some b'->r.nil=false->(U j).nil=false->(bk.own=true->¬ b'.av w (U j) r.aj)/\(b'.own=true->¬ b'.aB w (U j) r.aj))
  (hold:r.nil=true\/E.w0.heap.size<=r.aj\/E.W r.aj\/(bk.own=false/\E.V r.aj)) (j9:bk.plain=true:=by rfl):HS E O (ext U hp.length r) (hp++[some bk]) w':=by
 refine h.push hlt hb hrel (fun j b' hj hn hn'=>⟨fun o b dj cD=>?_,fun o b dj cD=>?_⟩) ?_
 ·have:=(ag.eX j9 _ _ _).1 dj
  subst this
  exact (hap j b' hj hn hn').1 o cD
 ·have:=(ag.gd j9 _ _ _).1 cD
  subst this
  exact (hap j b' hj hn hn').2 o dj
 ·rcases hold with h | h
  ·exact .inl h
  ·rw [(ag.gf j9 _ _).1,(ag.gf j9 _ _).2]
   exact .inr (rQ.plain.2 h)
theorem HS.yZ {U:Nat->Loc} {hp:List (Option ag)} {w:World} (h:HS E O U hp w) {b:Nat} {bk:ag} (cY:nth hp b=some bk) (j9:bk.plain=true:=by rfl):(U b).nil=true\/E.w0.heap.size<=(U b).aj\/E.W (U b).aj\/(bk.own=false/\E.V (U b).aj):=by
 rcases h.old b bk cY with g | g
 ·exact .inl g
 ·rw [(ag.gf j9 _ _).1,(ag.gf j9 _ _).2] at g
  exact .inr (rQ.plain.1 g)
theorem HS.fresh {U:Nat->Loc} {hp:List (Option ag)} {w w':World} (h:HS E O U hp w) (hlt:bH hp=true) (hb:Below w.heap.size w w') {bk:ag} {r:Loc}
  (hrel:aD E O (ext U hp.length r) w' r bk) (hr:r.nil=true\/w.heap.size<=r.aj) (j9:bk.plain=true:=by rfl):HS E O (ext U hp.length r) (hp++[some bk]) w':=by
 refine h.rT hlt hb hrel ?_
 rcases hr with hr | hr
 ·exact .inl hr
 ·exact .inr fun b hf=>by rw [(ag.gd j9 _ _ _).1 hf];exact hr
theorem HS.new {U:Nat->Loc} {hp:List (Option ag)} {w:World} (h:HS E O U hp w) (hlt:hp.all (dw (ag.lt hp.length))=true) {cs:List Lf} (hcs:cs.all (Lf.lt hp.length)=true) (hg:∀ l∈cs,Lf.good O l) (el:TypeId) :
  HS E O (ext U hp.length ⟨w.heap.size,0,false,0,0,none⟩) (hp++[some (.c true (cs.map some))]) (w.alloc (.cells (cs.map (Lf.aa O U)).toArray el)):=by
 have hb:Below w.heap.size w (w.alloc (.cells (cs.map (Lf.aa O U)).toArray el)):=⟨rfl,rfl,rfl,by simp,fun k hk=>Below.heap_alloc _ _ _ hk⟩
 refine h.fresh hlt hb ?_ (.inr (Nat.le_refl _))
 show cK O (ext U hp.length ⟨w.heap.size,0,false,0,0,none⟩) (w.alloc (.cells (cs.map (Lf.aa O U)).toArray el)) ⟨w.heap.size,0,false,0,0,none⟩ true (cs.map some)
 refine ⟨rfl,by simp,fun i l hl=>?_,fun _ i hi=>?_,fun _ o=>World.frozen?_alloc_new _ _ _ _⟩
 ·rw [xE] at hl
  have hm:=List.mem_of_getElem? hl
  refine ⟨hg l hm,?_⟩
  rw [Lf.we (List.all_eq_true.1 hcs l hm)]
  simp only [Nat.zero_add]
  rw [World.cell?_alloc_new]
  simp [hl]
 ·simp only [Nat.zero_add]
  rw [World.cell?_alloc_new,World.frozen?_alloc_new]
  simp at hi
  simp [hi]
theorem HS.SU {U:Nat->Loc} {hp:List (Option ag)} {w w':World} (h:HS E O U hp w) {b:Nat} {bk nb:ag} (cY:nth hp b=some bk) (ho:bk.own=true)
  (hb:aD E O U w' (U b) nb) (hn:(U b).nil=false) (hs:w.heap.size<=w'.heap.size) (h1:w'.os=w.os) (h2:w'.tape=w.tape) (h3:w'.output=w.output) (hk:∀ k,k<w.heap.size->¬ bk.aB w (U b) k->w'.heap[k]? = w.heap[k]?)
  (hnf:∀ k,nb.aB w' (U b) k->bk.aB w (U b) k\/w.heap.size<=k) (hnr:∀ k,nb.av w' (U b) k->bk.av w (U b) k\/w.heap.size<=k) :
  HS E O U (eg (some nb) hp b) w':=by
 have hlt:=iW cY
 have bM:∀ j aS,nth (eg (some nb) hp b) j=some aS->(j=b/\aS=nb)\/(j≠b/\nth hp j=some aS):=by
  intro j aS hj
  by_cases i_:b=j
  ·subst i_
   rw [rO,if_pos hlt] at hj
   cases hj;exact .inl ⟨rfl,rfl⟩
  ·rw [qi _ _ _ _ i_] at hj
   exact .inr ⟨fun e=>i_ e.symm,hj⟩
 have mw:∀ j aS,j≠b->nth hp j=some aS->(U j).nil=false->∀ k,aS.av w (U j) k->w'.heap[k]? = w.heap[k]?:=fun j aS hne hj lP k hf =>
  hk k ((h.heap.aj j aS hj).lt lP hf) fun cD=>h.heap.apart b j bk aS cY ho hj (Ne.symm hne) hn lP k cD hf
 have nc:∀ j aS,j≠b->nth hp j=some aS->(U j).nil=false->∀ k,aS.aB w' (U j) k↔aS.aB w (U j) k:=fun j aS hne hj lP k=>(h.heap.aj j aS hj).dU lP (mw j aS hne hj lP) k
 have m9:∀ j aS,j≠b->nth hp j=some aS->(U j).nil=false->∀ k,aS.av w' (U j) k↔aS.av w (U j) k:=fun j aS hne hj lP k=>(h.heap.aj j aS hj).cN lP (mw j aS hne hj lP) k
 refine ⟨⟨fun j aS hj=>?_,fun j j' wg vg hj qs hj' hne b_ hn2 k dj cD=>?_⟩,fun j aS hj=>?_,?_,by rw [iL];exact h.len,h.keep⟩
 ·rcases bM j aS hj with ⟨rfl,rfl⟩ | ⟨hne,hj⟩
  ·exact hb
  ·exact (h.heap.aj j aS hj).dG hs (mw j aS hne hj)
 ·rcases bM j wg hj with ⟨e1,e2⟩ | ⟨rU,k1⟩
  ·rcases bM j' vg hj' with ⟨e3,e4⟩ | ⟨lz,k2⟩
   ·exact absurd (e1.trans e3.symm) hne
   ·subst e1
    rw [e2] at dj
    have cD:=(m9 j' vg lz k2 hn2 k).1 cD
    rcases hnf k dj with g | g
    ·exact h.heap.apart j j' bk vg cY ho k2 hne b_ hn2 k g cD
    ·have:=(h.heap.aj j' vg k2).lt hn2 cD;omega
  ·have dj:=(nc j wg rU k1 b_ k).1 dj
   rcases bM j' vg hj' with ⟨e3,e4⟩ | ⟨lz,k2⟩
   ·subst e3
    rw [e4] at cD
    rcases hnr k cD with g | g
    ·exact h.heap.apart j j' wg bk k1 qs cY hne b_ hn2 k dj g
    ·have:=(h.heap.aj j wg k1).lt b_ ((h.heap.aj j wg k1).rd b_ dj);omega
   ·exact h.heap.apart j j' wg vg k1 qs k2 hne b_ hn2 k dj ((m9 j' vg lz k2 hn2 k).1 cD)
 ·rcases bM j aS hj with ⟨rfl,rfl⟩ | ⟨hne,hj⟩
  ·rcases h.old j bk cY with g | g
   ·exact .inl g
   ·refine .inr ⟨fun _ k hf=>?_,fun k hf=>?_⟩
    ·rcases hnf k hf with g2 | g2
     ·exact g.wr ho k g2
     ·exact .inl (Nat.le_trans h.fr.size g2)
    ·rcases hnr k hf with g2 | g2
     ·exact g.rd k g2
     ·exact .inl (Nat.le_trans h.fr.size g2)
  ·cases lP:(U j).nil with
   | true=>exact .inl rfl
   | false =>
    rcases h.old j aS hj with g | g
    ·rw [lP] at g;cases g
    ·exact .inr ⟨fun o k hf=>g.wr o k ((nc j aS hne hj lP k).1 hf),fun k hf=>g.rd k ((m9 j aS hne hj lP k).1 hf)⟩
 ·refine ⟨h1.trans h.fr.os,h2.trans h.fr.tape,h3.trans h.fr.output,Nat.le_trans h.fr.size hs,fun k gL hW=>?_⟩
  have AH:¬ bk.aB w (U b) k:=by
   intro e
   rcases h.old b bk cY with h' | h'
   ·rw [hn] at h';cases h'
   ·rcases h'.wr ho k e with h' | h'
    ·omega
    ·exact hW h'
  rw [hk k (Nat.lt_of_lt_of_le gL h.fr.size) AH];exact h.fr.block k gL hW
theorem HS.e_ {U:Nat->Loc} {hp:List (Option ag)} {w w':World} (h:HS E O U hp w) {b:Nat} {bk nb:ag} (cY:nth hp b=some bk) (ho:bk.own=true) (hnb:nb.own=true)
  (hb:aD E O U w' (U b) nb) (hn:(U b).nil=false) (hs:w'.heap.size=w.heap.size) (h1:w'.os=w.os) (h2:w'.tape=w.tape) (h3:w'.output=w.output) (hk:∀ k,k≠(U b).aj->w'.heap[k]? = w.heap[k]?)
  (c6:bk.plain=true:=by rfl) (jn:nb.plain=true:=by rfl):HS E O U (eg (some nb) hp b) w' :=
 have _:=hnb
 h.SU cY ho hb hn (by omega) h1 h2 h3 (fun k _ hf=>hk k fun e=>hf ((ag.eX c6 _ _ _).2 e)) (fun k hf=>.inl ((ag.eX c6 _ _ _).2 ((ag.eX jn _ _ _).1 hf))) fun k hf=>.inl ((ag.gd c6 _ _ _).2 ((ag.gd jn _ _ _).1 hf))
theorem zjp {α:Type} {p:Option α->Bool} (hp:p none=true):∀ {l:List (Option α)} {n:Nat},l.all p=true->(eg none l n).all p=true
 | [],_,_=>rfl
 | x::l,0,h=>by
  simp only [List.all_cons,Bool.and_eq_true] at h
  simp [eg,hp,h.2]
 | x::l,n+1,h=>by
  simp only [List.all_cons,Bool.and_eq_true] at h
  simp [eg,h.1,zjp hp h.2]
theorem FY {hp:List (Option ag)} {b:Nat} (h:bH hp=true):bH (eg none hp b)=true:=by
 unfold bH at *
 rw [iL]
 exact zjp rfl h
theorem nE {α:Type} {l:List (Option α)} {b j:Nat} {x:α} (h:nth (eg none l b) j=some x):j≠b/\nth l j=some x:=by
 by_cases hj:b=j
 ·subst hj
  rw [rO] at h
  split at h<;>cases h
 ·rw [qi _ _ _ _ hj] at h
  exact ⟨fun e=>hj e.symm,h⟩
theorem HS.I1 {U:Nat->Loc} {hp:List (Option ag)} {w w':World} (h:HS E O U hp w) {b:Nat} {bk:ag} (cY:nth hp b=some bk) (ho:bk.own=true) (hn:(U b).nil=false)
  (hs:w'.heap.size=w.heap.size) (h1:w'.os=w.os) (h2:w'.tape=w.tape) (h3:w'.output=w.output) (hk:∀ k,k≠(U b).aj->w'.heap[k]? = w.heap[k]?) (j9:bk.plain=true:=by rfl):HS E O U (eg none hp b) w':=by
 have mw:∀ j aS,j≠b->nth hp j=some aS->(U j).nil=false->∀ k,aS.av w (U j) k->w'.heap[k]? = w.heap[k]?:=fun j aS hne hj lP k hf =>
  hk k fun e=>h.heap.apart b j bk aS cY ho hj (Ne.symm hne) hn lP k ((ag.eX j9 _ _ _).2 e) hf
 have nc:∀ j aS,j≠b->nth hp j=some aS->(U j).nil=false->∀ k,aS.aB w' (U j) k↔aS.aB w (U j) k:=fun j aS hne hj lP k=>(h.heap.aj j aS hj).dU lP (mw j aS hne hj lP) k
 have m9:∀ j aS,j≠b->nth hp j=some aS->(U j).nil=false->∀ k,aS.av w' (U j) k↔aS.av w (U j) k:=fun j aS hne hj lP k=>(h.heap.aj j aS hj).cN lP (mw j aS hne hj lP) k
 refine ⟨⟨fun j aS hj=>?_,fun j j' wg vg hj qs hj' hne b_ hn2 k dj cD=>?_⟩,fun j aS hj=>?_,?_,by rw [iL];exact h.len,h.keep⟩
 ·obtain ⟨hne,hj⟩:=nE hj
  exact (h.heap.aj j aS hj).dG (by omega) (mw j aS hne hj)
 ·obtain ⟨rU,k1⟩:=nE hj
  obtain ⟨lz,k2⟩:=nE hj'
  exact h.heap.apart j j' wg vg k1 qs k2 hne b_ hn2 k ((nc j wg rU k1 b_ k).1 dj) ((m9 j' vg lz k2 hn2 k).1 cD)
 ·obtain ⟨hne,hj⟩:=nE hj
  cases lP:(U j).nil with
  | true=>exact .inl rfl
  | false =>
   rcases h.old j aS hj with g | g
   ·rw [lP] at g;cases g
   ·exact .inr ⟨fun o k hf=>g.wr o k ((nc j aS hne hj lP k).1 hf),fun k hf=>g.rd k ((m9 j aS hne hj lP k).1 hf)⟩
 ·refine ⟨h1.trans h.fr.os,h2.trans h.fr.tape,h3.trans h.fr.output,by rw [hs];exact h.fr.size,fun k gL hW=>?_⟩
  have AH:k≠(U b).aj:=by
   intro e
   rcases h.old b bk cY with h' | h'
   ·rw [hn] at h';cases h'
   ·rcases h'.wr ho k ((ag.eX j9 _ _ _).2 e) with h' | h'
    ·omega
    ·exact hW h'
  rw [hk k AH];exact h.fr.block k gL hW
theorem HS.kill {U : Nat -> Loc} {hp : List (Option ag)} {w : World} (h : HS E O U hp w) (b : Nat) : HS E O U (eg none hp b) w :=
  ⟨⟨fun j aS hj => h.heap.aj j aS (nE hj).2, fun j j' wg vg hj qs hj' hne b_ hn2 => h.heap.apart j j' wg vg (nE hj).2 qs (nE hj').2 hne b_ hn2⟩,
   fun j aS hj => h.old j aS (nE hj).2, h.fr, by rw [iL]; exact h.len, h.keep⟩
theorem HS.mz {U U':Nat->Loc} {hp:List (Option ag)} {w:World} (h:HS E O U hp w) (hlt:bH hp=true) (hU:∀ j,j<hp.length->U' j=U j):HS E O U' hp w:=by
 refine ⟨⟨fun j bk hj=>?_,fun j j' b1 b2 hj ho hj' hne b_ hn2 b dj cD=>?_⟩,fun j bk hj=>?_,h.fr,h.len,fun j hj=>by rw [hU j (by have:=h.len;omega)];exact h.keep j hj⟩
 ·rw [hU j (iW hj)]
  exact (h.heap.aj j bk hj).keep hU (iO hlt hj)
 ·rw [hU j (iW hj)] at b_ dj
  rw [hU j' (iW hj')] at hn2 cD
  exact h.heap.apart j j' b1 b2 hj ho hj' hne b_ hn2 b dj cD
 ·rw [hU j (iW hj)]
  exact h.old j bk hj
end
end Go.Sx
