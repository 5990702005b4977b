/- The store by a row of pages: Copy. -/
import Derived.Test.YtiabiimoalkmjaaD5
import Derived.Deep.AppendSrc
import Derived.Maps.RangeWalk
import Derived.Deep.RegionLaw
import Derived.Test.YtiabiimoalkmjaaD0
import Derived.Test.YtiabiimoalkmjaaD4
noncomputable section
namespace Go.Proofs.Ytiabiimoalkmjaa
open Go Go.Sx Go.RowKit
set_option maxRecDepth 100000
theorem zkI {P:Program} {ops:Array Oper} {o:Oper} {a:Act} {w:World} {K:Act->World->Prop} {Q:Exit->Act->World->Prop} {E:Prop}
  (hg:o.guard=none) (s x:Operand) (t tx ty:TypeId) (hop:o.op=Op.call { callee:=Callee.builtin Builtin.append,args:=#[s,x],argTypes:=#[t,tx] }) (tj:o.type=ty)
  (v1 v2 v:Value) (w':World) (hs:a.eval s=v1) (hx:a.eval x=v2) (hrun:(Builtin.append_ #[t,tx] ty #[v1,v2]).run P w = .ok v w') (hK:K (a.put o.dst v) w') :
  if Region.wanted o (yielded ops a.tmps)=true then Oper.wp P o a w K Q else E:=by
 have hw:Region.wanted o (yielded ops a.tmps)=true:=by simp [Region.wanted,hg]
 rw [if_pos hw]
 unfold Oper.wp
 simp [execOp,hop,resolve,invoke,builtin,hs,hx,tj,hrun,Result.andThen]
 exact hK
abbrev zzt (R:Act->World->Prop):Exit->Act->World->Prop:=fun e a w=>match e with | .normal=>R a w | _=>False
theorem r55 {Q:Act->World->Prop} (W W1 W2:World) (p o N sb so c kn:Nat) (hkn:kn<256) (src old:Value) (da:Option Addr) (dn dc:Nat) {code:Code} (mV:Try.f55.body.bind (uH 5)=some code) {t1 t2 t5 t6 t7 t8 t9 t10 t11 t12 t13 t14 u15 u16 u17 u18 u19 u20 u21 u22 u23 u24 u25 u26 u27 u28 u29 t30:Value}
 (c0:W.cell? ⟨p,o,none⟩=some (.slice (some ⟨sb,so,none⟩) 256 c)) (ct:W.cell? ⟨N+1,0,none⟩=some (.slice (some ⟨N,0,none⟩) 256 256)) (ck:W.cell? ⟨sb,so+kn,none⟩=some src)
 (zQ:W.drew.alloc (.cells #[] 5)=W1)
 (c01:W1.cell? ⟨p,o,none⟩=some (.slice (some ⟨sb,so,none⟩) 256 c)) (ct1:W1.cell? ⟨N+1,0,none⟩=some (.slice (some ⟨N,0,none⟩) 256 256)) (ck1:W1.cell? ⟨sb,so+kn,none⟩=some src)
 (hrun:(Builtin.append_ #[22,22] 22 #[.slice (some ⟨W.heap.size,0,none⟩) 0 0,src]).run Try.prog W1 = .ok (.slice da dn dc) W2)
 (ct2:W2.cell? ⟨N+1,0,none⟩=some (.slice (some ⟨N,0,none⟩) 256 256)) (cs2:W2.cell? ⟨N,kn,none⟩=some old) (fs2:W2.frozen? ⟨N,kn,none⟩=false)
  (hQ:∀ a',(∃ u15 u16 u17 u18 u19 u20 u21 u22 u23 u24 u25 u26 u27 u28 u29,a'=(⟨#[.pointer (some ⟨p,o,none⟩),t1,t2,.pointer (some ⟨N+1,0,none⟩),.int .i64 kn,t5,t6,t7,t8,t9,t10,t11,t12,t13,t14,u15,u16,u17,u18,u19,u20,u21,u22,u23,u24,u25,u26,u27,u28,u29,t30],[]⟩:Act))->Q a' (W2.setCell ⟨N,kn,none⟩ (.slice da dn dc))) :
 Code.wp Try.prog code (zzt Q) ⟨#[.pointer (some ⟨p,o,none⟩),t1,t2,.pointer (some ⟨N+1,0,none⟩),.int .i64 kn,t5,t6,t7,t8,t9,t10,t11,t12,t13,t14,u15,u16,u17,u18,u19,u20,u21,u22,u23,u24,u25,u26,u27,u28,u29,t30],[]⟩ W:=by
 have hki:(kn:Int)<256:=by omega
 simp [Try.f55,uH,Option.orElse] at mV
 subst mV
 go_region_law (refine zkI rfl _ _ 22 22 22 rfl rfl _ _ _ _ (by rfl) (by rfl) hrun ?_)
 all_goals exact hQ _ ⟨_,_,_,_,_,_,_,_,_,_,_,_,_,_,_,rfl⟩
theorem Yl {Q:Exit->Act->World->Prop} (W W1 W2:World) (p o N sb so c kn:Nat) (hkn:kn<256) (src old:Value) (da:Option Addr) (dn dc:Nat) {code:Code} (mV:Try.f55.body.bind (uH 5)=some code) {t1 t2 t5 t6 t7 t8 t9 t10 t11 t12 t13 t14 u15 u16 u17 u18 u19 u20 u21 u22 u23 u24 u25 u26 u27 u28 u29 t30:Value}
 (c0:W.cell? ⟨p,o,none⟩=some (.slice (some ⟨sb,so,none⟩) 256 c)) (ct:W.cell? ⟨N+1,0,none⟩=some (.slice (some ⟨N,0,none⟩) 256 256)) (ck:W.cell? ⟨sb,so+kn,none⟩=some src)
 (zQ:W.drew.alloc (.cells #[] 5)=W1)
 (c01:W1.cell? ⟨p,o,none⟩=some (.slice (some ⟨sb,so,none⟩) 256 c)) (ct1:W1.cell? ⟨N+1,0,none⟩=some (.slice (some ⟨N,0,none⟩) 256 256)) (ck1:W1.cell? ⟨sb,so+kn,none⟩=some src)
 (hrun:(Builtin.append_ #[22,22] 22 #[.slice (some ⟨W.heap.size,0,none⟩) 0 0,src]).run Try.prog W1 = .ok (.slice da dn dc) W2)
 (ct2:W2.cell? ⟨N+1,0,none⟩=some (.slice (some ⟨N,0,none⟩) 256 256)) (cs2:W2.cell? ⟨N,kn,none⟩=some old) (fs2:W2.frozen? ⟨N,kn,none⟩=false)
  (hQ:∀ a',(∃ u15 u16 u17 u18 u19 u20 u21 u22 u23 u24 u25 u26 u27 u28 u29,a'=(⟨#[.pointer (some ⟨p,o,none⟩),t1,t2,.pointer (some ⟨N+1,0,none⟩),.int .i64 kn,t5,t6,t7,t8,t9,t10,t11,t12,t13,t14,u15,u16,u17,u18,u19,u20,u21,u22,u23,u24,u25,u26,u27,u28,u29,t30],[]⟩:Act))->Q .normal a' (W2.setCell ⟨N,kn,none⟩ (.slice da dn dc))) :
 Code.wp Try.prog code Q ⟨#[.pointer (some ⟨p,o,none⟩),t1,t2,.pointer (some ⟨N+1,0,none⟩),.int .i64 kn,t5,t6,t7,t8,t9,t10,t11,t12,t13,t14,u15,u16,u17,u18,u19,u20,u21,u22,u23,u24,u25,u26,u27,u28,u29,t30],[]⟩ W:=wp_mono (r55 (Q:=Q .normal) W W1 W2 p o N sb so c kn hkn src old da dn dc mV c0 ct ck zQ c01 ct1 ck1 hrun ct2 cs2 fs2 hQ) fun e a w h=>by cases e<;>first | exact h | exact h.elim
structure j6 (w:World) (d:List DV) (k:Nat) (wr:World) (pg:Nat->Option (Nat×Nat×Nat)):Prop where
 le:k<=256
 below:Below w.heap.size w wr
 size:w.heap.size+2<=wr.heap.size
 top:wr.cell? ⟨w.heap.size+1,0,none⟩=some (.slice (some ⟨w.heap.size,0,none⟩) 256 256)
 fz:∀ i,wr.frozen? ⟨w.heap.size,i,none⟩=false
 rest:∀ j,k<=j->j<256->wr.cell? ⟨w.heap.size,j,none⟩=some (.slice none 0 0)
 gone:∀ j,j<k->pg j=none->(∃ s c',wr.cell? ⟨w.heap.size,j,none⟩=some (.slice s 0 c'))/\∀ i:Nat,i<4096->bS d (2147483648+j*4096+i)=0
 there:∀ j b f c',j<k->pg j=some (b,f,c')->wr.cell? ⟨w.heap.size,j,none⟩=some (.slice (some ⟨b,f,none⟩) 4096 c')/\w.heap.size+2<=b/\cS true wr b f (fun i=>bS d (2147483648+j*4096+i))
 apart:∀ j j' b f c1 b' f' c2,j<k->j'<k->j≠j'->pg j=some (b,f,c1)->pg j'=some (b',f',c2)->b≠b'
theorem j6.start {w w1:World} {d:List DV} (h:zR w w1):j6 w d 0 w1 (fun _=>none):=by
 refine ⟨Nat.zero_le _,h.below,by rw [h.size];exact Nat.le_refl _,h.rel.cell,fun i=>h.rel.fz rfl i,fun j _ hj=>?_,fun j hj=>absurd hj (Nat.not_lt_zero _),fun j b f c' hj=>absurd hj (Nat.not_lt_zero _),fun j j' b f c1 b' f' c2 hj=>absurd hj (Nat.not_lt_zero _)⟩
 have:=zug j hj
 simp [World.cell?,h.row,this]
theorem j6.fin {w wr:World} {d:List DV} {pg:Nat->Option (Nat×Nat×Nat)} (h:j6 w d 256 wr pg):eC true wr (w.heap.size+1) 0 d w.heap.size 0 256 pg/\∀ b,uZ wr (w.heap.size+1) 0 b->w.heap.size<=b:=by
 have hR:eC true wr (w.heap.size+1) 0 d w.heap.size 0 256 pg:=by
  refine ⟨h.top,fun _ i=>h.fz i,fun k hk hp=>?_,fun k b f c' hk hp=>?_,h.apart⟩
  ·rw [Nat.zero_add];exact h.gone k hk hp
  ·rw [Nat.zero_add];have:=h.there k b f c' hk hp;exact ⟨this.1,this.2.2⟩
 refine ⟨hR,fun b hb=>?_⟩
 rcases (hR.aB b).1 hb with rfl | rfl | ⟨k,f,c',hk,hp⟩
 ·omega
 ·exact Nat.le_refl _
 ·have:=(h.there k b f c' hk hp).2.1;omega
theorem j6.round {w wr W2:World} {d:List DV} {k:Nat} {pg:Nat->Option (Nat×Nat×Nat)} (h:j6 w d k wr pg) (hk:k<256) (hb:Below wr.heap.size wr W2) {v:Option Addr} {n c':Nat}
  (hv:(n=0/\∀ i:Nat,i<4096->bS d (2147483648+k*4096+i)=0)\/∃ b f,v=some ⟨b,f,none⟩/\n=4096/\wr.heap.size<=b/\cS true W2 b f (fun i=>bS d (2147483648+k*4096+i))) :
  ∃ pY,j6 w d (k+1) (W2.setCell ⟨w.heap.size,k,none⟩ (.slice v n c')) pY:=by
 have hN:w.heap.size<wr.heap.size:=by have:=h.size;omega
 have old:∀ {b i:Nat} {u:Value},wr.cell? ⟨b,i,none⟩=some u->W2.cell? ⟨b,i,none⟩=some u:=fun {b i u} hc=>by
  rw [World.cell?_of_block (w:=wr) (hb.block b (jw hc))];exact hc
 have w9:∀ {b:Nat} (i:Nat),b<wr.heap.size->W2.frozen? ⟨b,i,none⟩=wr.frozen? ⟨b,i,none⟩:=fun {b} i hlt=>World.frozen?_of_block (w:=wr) (hb.block b hlt)
 have gi:=old (h.rest k (Nat.le_refl _) hk)
 have far:∀ {b i:Nat} {u:Value},b≠w.heap.size->W2.cell? ⟨b,i,none⟩=some u->(W2.setCell ⟨w.heap.size,k,none⟩ (.slice v n c')).cell? ⟨b,i,none⟩=some u:=fun {b i u} hne hc=>by
  rw [World.cell?_setCell_other _ _ _ _ (fun e=>hne (congrArg Addr.block e).symm)];exact hc
 have near:∀ {j:Nat} {u:Value},j≠k->W2.cell? ⟨w.heap.size,j,none⟩=some u->(W2.setCell ⟨w.heap.size,k,none⟩ (.slice v n c')).cell? ⟨w.heap.size,j,none⟩=some u:=fun {j u} hne hc=>by
  rw [World.cell?_setCell_other _ _ _ _ (fun e=>hne (congrArg Addr.off e).symm)];exact hc
 have fB:∀ {b f:Nat} {g:Nat->Int},w.heap.size+2<=b->cS true W2 b f g->cS true (W2.setCell ⟨w.heap.size,k,none⟩ (.slice v n c')) b f g:=fun {b f g} hge hp =>
  ⟨fun i hi=>far (by omega) (hp.cell i hi),fun ho i=>by rw [World.frozen?_setCell];exact hp.fz ho i⟩
 have hsize:=h.size
 have hsz:(W2.setCell ⟨w.heap.size,k,none⟩ (.slice v n c')).heap.size=W2.heap.size:=World.size_setCell _ _ _
 have kD:Below w.heap.size w (W2.setCell ⟨w.heap.size,k,none⟩ (.slice v n c')):=by
  refine ⟨hb.os.trans h.below.os,hb.tape.trans h.below.tape,hb.output.trans h.below.output,by rw [hsz];have:=hb.size;omega,fun b hlt=>?_⟩
  rw [Below.heap_setCell _ _ _ _ (by simp only;omega),hb.block b (by omega)]
  exact h.below.block b hlt
 have common:∀ pY:Nat->Option (Nat×Nat×Nat),(∀ j,j<k->pY j=pg j) ->
   (pY k=none->(∃ s c2,(W2.setCell ⟨w.heap.size,k,none⟩ (.slice v n c')).cell? ⟨w.heap.size,k,none⟩=some (.slice s 0 c2))/\∀ i:Nat,i<4096->bS d (2147483648+k*4096+i)=0) ->
   (∀ b f c2,pY k=some (b,f,c2)->(W2.setCell ⟨w.heap.size,k,none⟩ (.slice v n c')).cell? ⟨w.heap.size,k,none⟩=some (.slice (some ⟨b,f,none⟩) 4096 c2)/\wr.heap.size<=b/\cS true W2 b f (fun i=>bS d (2147483648+k*4096+i))) ->
   j6 w d (k+1) (W2.setCell ⟨w.heap.size,k,none⟩ (.slice v n c')) pY:=by
  intro pY By hg ht
  refine ⟨by omega,kD,by rw [hsz];have:=hb.size;omega,far (by omega) (old h.top),fun i=>?_,fun j hj hj2=>near (by omega) (old (h.rest j (by omega) hj2)),fun j hj hp=>?_,fun j b f c2 hj hp=>?_,fun j j' b f c1 b' f' c2 hj hj' hne hp hp'=>?_⟩
  ·rw [World.frozen?_setCell,w9 _ hN];exact h.fz i
  ·by_cases ES:j=k
   ·subst ES;exact hg hp
   ·rw [By j (by omega)] at hp
    obtain ⟨⟨s,c3,h1⟩,h2⟩:=h.gone j (by omega) hp
    exact ⟨⟨s,c3,near ES (old h1)⟩,h2⟩
  ·by_cases ES:j=k
   ·subst ES
    obtain ⟨h1,h2,h3⟩:=ht b f c2 hp
    exact ⟨h1,by omega,fB (by omega) h3⟩
   ·rw [By j (by omega)] at hp
    obtain ⟨h1,h2,h3⟩:=h.there j b f c2 (by omega) hp
    exact ⟨near ES (old h1),h2,fB h2 ⟨fun i hi=>old (h3.cell i hi),fun ho i=>by rw [w9 _ h3.lt];exact h3.fz ho i⟩⟩
  ·by_cases ES:j=k
   ·subst ES
    have h1:=(ht b f c1 hp).2.1
    rw [By j' (by omega)] at hp'
    have:=(h.there j' b' f' c2 (by omega) hp').2.2.lt
    omega
   ·rw [By j (by omega)] at hp
    by_cases Ym:j'=k
    ·subst Ym
     have h1:=(ht b' f' c2 hp').2.1
     have:=(h.there j b f c1 (by omega) hp).2.2.lt
     omega
    ·rw [By j' (by omega)] at hp'
     exact h.apart j j' b f c1 b' f' c2 (by omega) (by omega) hne hp hp'
 have qy:=World.cell?_setCell_same W2 ⟨w.heap.size,k,none⟩ (.slice v n c') gi
 rcases hv with ⟨rfl,hz⟩ | ⟨b,f,rfl,rfl,h1,h2⟩
 ·exact ⟨fun j=>if j=k then none else pg j,common _ (fun j hj=>if_neg (by omega)) (fun _=>⟨⟨v,c',qy⟩,hz⟩) (fun b f c2 hp=>by rw [if_pos rfl] at hp;cases hp)⟩
 ·exact ⟨fun j=>if j=k then some (b,f,c') else pg j,common _ (fun j hj=>if_neg (by omega)) (fun hp=>by rw [if_pos rfl] at hp;cases hp) (fun b1 f1 c1 hp=>by rw [if_pos rfl] at hp;cases hp;exact ⟨qy,h1,h2⟩)⟩
theorem zuk (k:Nat) (i:Int):(524288+(k:Int))*4096+i=2147483648+k*4096+i:=by omega
theorem zzu (W1:World) (M:Nat) (d:List DV) (k:Nat) (src:Value)
  (h:(∃ s c',src = .slice s 0 c')\/∃ b f c',src = .slice (some ⟨b,f,none⟩) 4096 c'/\cS false W1 b f (fun i=>bS d (2147483648+k*4096+i))) :
  ∃ W2 v n c2,(Builtin.append_ #[22,22] 22 #[.slice (some ⟨M,0,none⟩) 0 0,src]).run Try.prog W1 = .ok (.slice v n c2) W2/\Below W1.heap.size W1 W2 /\
   (((∃ s c',src = .slice s 0 c')/\n=0)\/∃ b f,v=some ⟨b,f,none⟩/\n=4096/\W1.heap.size<=b/\cS true W2 b f (fun i=>bS d (2147483648+k*4096+i))):=by
 obtain ⟨i,hi,za,C_,yT⟩:=info_parts zyq
 rcases h with ⟨s,c',rfl⟩ | ⟨b,f,c',rfl,hp⟩
 ·have hs:Src Try.prog i.size 22 (.slice s 0 c') 0 [] W1:=by
   cases s with
   | none=>exact Src.ofNil W1 Try.underlying22 c'
   | some a=>exact Src.ofSlice W1 Try.underlying22 a 0 c' [] (by simp) (fun j u hj=>by simp at hj) (fun u hu=>by cases hu)
  have:=run_append_room_src (P:=Try.prog) W1 22 22 22 5 i Try.underlying22 hi M 0 0 0 _ _ _ hs (Nat.le_refl _) (fun j hj=>absurd hj (Nat.not_lt_zero _)) (fun j hj=>absurd hj (Nat.not_lt_zero _))
  exact ⟨_,_,_,_,this,Below.refl _ _,.inl ⟨⟨s,c',rfl⟩,rfl⟩⟩
 ·have hl:(pG d (524288+k)).length=4096:=ER _ _
  have hone:∀ u∈pG d (524288+k),u.oneCell'=true:=fun u hu=>(Array.all_eq_true_iff_forall_mem.1 (zoz d (524288+k))) u (by simpa using hu)
  have hs:Src Try.prog i.size 22 (.slice (some ⟨b,f,none⟩) 4096 c') 4096 (pG d (524288+k)) W1:=Src.ofSlice W1 Try.underlying22 _ 4096 c' _ (by rw [hl,C_]) (fun j u hj=>by
   have cA:=Qb d (524288+k) j
   rw [hj] at cA
   split at cA
   ·rename_i hjl
    cases cA
    rw [s_,zuk]
    exact hp.cell j hjl
   ·cases cA) hone
  have hrun:=run_append_grow_src (P:=Try.prog) W1 22 22 22 5 i (.int .u8 0) Try.underlying22 hi za (some ⟨M,0,none⟩) 0 0 [] (by
   exact run_firstCells_some W1.drew i.size 0 _ _ _ _ (by simp) (fun j v hj=>by simp at hj)) _ _ _ hs (by decide) (by decide) (growslice_fits (by decide) (by rw [yT];decide))
  generalize hcs:([]++pG d (524288+k)).toArray++Builtin.zeroCells (Value.int IntKind.u8 0).cells (grownCap W1 (0+4096) 0 5-(0+4096))=cs at hrun
  have hcell:∀ j,j<4096->cs[j]? = some (.int .u8 (bS d (2147483648+k*4096+j))):=fun j hj=>by
   have cA:=Qb d (524288+k) j
   rw [if_pos hj,zuk] at cA
   rw [<-hcs,List.nil_append,Array.getElem?_append_left (by rw [List.size_toArray,hl];exact hj),List.getElem?_toArray]
   exact cA
  clear hcs
  refine ⟨_,_,_,_,hrun,⟨rfl,rfl,rfl,by rw [World.size_alloc];exact Nat.le_succ _,fun k hk=>Below.heap_alloc W1.drew _ _ hk⟩,.inr ⟨W1.heap.size,0,rfl,rfl,Nat.le_refl _,⟨fun j hj=>?_,fun _ j=>World.frozen?_alloc_new W1.drew _ _ j⟩⟩⟩
  rw [Nat.zero_add]
  exact (World.cell?_alloc_new W1.drew _ _ j).trans (hcell j hj)
theorem w55 (p o sb so c:Nat) (d:List DV) (pg:Nat->Option (Nat×Nat×Nat)) (w:World) (h:eC false w p o d sb so c pg) :
  Calls Try.prog 55 #[.pointer (some ⟨p,o,none⟩)] w fun e w'=>e = .returned (.pointer (some ⟨w.heap.size+1,0,none⟩))/\Below w.heap.size w w'/\(∃ pY,eC true w' (w.heap.size+1) 0 d w.heap.size 0 256 pY)/\∀ b,uZ w' (w.heap.size+1) 0 b->w.heap.size<=b:=by
 have j9:p<w.heap.size:=jw h.cell
 have uo:=h.yR
 go_enter Try.func55,Try.ntmps55
 go_wp2_with (first
  | (go_at_call 34;refine (Ly _).mono ?_;intro e w1 iH;obtain ⟨he,hw1⟩:=iH;subst he)
  | go_in)
 go_loopw [4] (fun v4 wr=>∃ (k:Nat) (pY:Nat->Option (Nat×Nat×Nat)),v4 = .int .i64 k/\j6 w d k wr pY) (fun v4 _=>256-(RowKit.intOf v4).toNat)
 case atStart=>exact ⟨0,_,rfl,.start hw1⟩
 case round =>
  obtain ⟨k,pY,rfl,hC⟩:=hrel
  have c0:wr.cell? ⟨p,o,none⟩=some (.slice (some ⟨sb,so,none⟩) 256 c):=by rw [World.cell?_of_block (w:=w) (hC.below.block p j9)];exact h.cell
  have hk:=hC.le
  by_cases hlt:(k:Int)<256
  ·have hlt':k<256:=by omega
   -- what the fB is
   obtain ⟨src,hsrc,Yn⟩:∃ src,wr.cell? ⟨sb,so+k,none⟩=some src/\((∃ s c',src = .slice s 0 c')/\(∀ i:Nat,i<4096->bS d (2147483648+k*4096+i)=0)\/∃ b f c',src = .slice (some ⟨b,f,none⟩) 4096 c'/\cS false w b f (fun i=>bS d (2147483648+k*4096+i))):=by
    cases hp:pg k with
    | none =>
     obtain ⟨⟨s,c',h1⟩,h2⟩:=h.gone k hlt' hp
     exact ⟨_,by rw [World.cell?_of_block (w:=w) (hC.below.block sb uo)];exact h1,.inl ⟨⟨s,c',rfl⟩,h2⟩⟩
    | some x =>
     obtain ⟨b,f,c'⟩:=x
     obtain ⟨h1,h2⟩:=h.there k b f c' hlt' hp
     exact ⟨_,by rw [World.cell?_of_block (w:=w) (hC.below.block sb uo)];exact h1,.inr ⟨b,f,c',rfl,h2⟩⟩
   have hsz:=hC.size
   obtain ⟨W1,zQ⟩:∃ W1,W1=wr.drew.alloc (.cells #[] 5):=⟨_,rfl⟩
   have j8:Below wr.heap.size wr W1:=by rw [zQ];exact ⟨rfl,rfl,rfl,by rw [World.size_alloc];exact Nat.le_succ _,fun k hk=>Below.heap_alloc wr.drew _ _ hk⟩
   have fJ:wr.heap.size<=W1.heap.size:=j8.size
   have ET:∀ {b i:Nat} {u:Value},wr.cell? ⟨b,i,none⟩=some u->W1.cell? ⟨b,i,none⟩=some u:=fun {b i u} hc=>by
    rw [World.cell?_of_block (w:=wr) (j8.block b (jw hc))];exact hc
   obtain ⟨W2,v,n,c2,hrun,vc,hv⟩:=zzu W1 wr.heap.size d k src (Yn.imp (fun h=>h.1) fun ⟨b,f,c',h1,h2⟩=>⟨b,f,c',h1,h2.congr (by rw [j8.block b (by have:=h2.lt;omega),hC.below.block b h2.lt])⟩)
   have EU:Below wr.heap.size wr W2:=⟨vc.os.trans j8.os,vc.tape.trans j8.tape,vc.output.trans j8.output,Nat.le_trans fJ vc.size,fun b hb=>by rw [vc.block b (by omega)];exact j8.block b hb⟩
   have tX:∀ {b i:Nat} {u:Value},wr.cell? ⟨b,i,none⟩=some u->W2.cell? ⟨b,i,none⟩=some u:=fun {b i u} hc=>by
    rw [World.cell?_of_block (w:=wr) (EU.block b (jw hc))];exact hc
   have cD:W2.frozen? ⟨w.heap.size,k,none⟩=false:=by rw [World.frozen?_of_block (w:=wr) (EU.block w.heap.size (by omega))];exact hC.fz k
   obtain ⟨pg2,hR⟩:=hC.round hlt' EU (v:=v) (n:=n) (c':=c2) (by
    rcases hv with ⟨hs,rfl⟩ | ⟨b,f,h1,h2,h3,h4⟩
    ·refine .inl ⟨rfl,?_⟩
     rcases Yn with ⟨_,hz⟩ | ⟨b,f,c',h1,_⟩
     ·exact hz
     ·obtain ⟨s,c3,h2⟩:=hs;rw [h1] at h2;cases h2
    ·exact .inr ⟨b,f,h1,h2,by omega,h4⟩)
   have ck:=hC.rest k (Nat.le_refl _) hlt'
   go_wp2
   refine Yl wr W1 W2 p o w.heap.size sb so c k hlt' src (.slice none 0 0) v n c2 (by kernel_rfl) c0 hC.top hsrc zQ.symm (ET c0) (ET hC.top) (ET hsrc) hrun (tX hC.top) (tX ck) cD fun a' ⟨_,_,_,_,_,_,_,_,_,_,_,_,_,_,_,nC⟩=>?_
   subst nC
   clear hrun hv Yn zQ
   generalize W2.setCell ⟨w.heap.size,k,none⟩ (.slice v n c2)=W3 at *
   simp only [Exit.inBlock,Exit.then]
   go_wp2
   go_roundw
   case rel=>exact ⟨k+1,pg2,by simp,hR⟩
   case measure=>simp only [RowKit.intOf];omega
  ·go_wp2
   go_ret
   have:k=256:=by omega
   subst this
   exact ⟨rfl,hC.below,⟨pY,hC.fin.1⟩,hC.fin.2⟩
theorem k55 {I:World->Prop} : aI Try.prog I 0 55 U5 U4:=by
 intro ds U w _ hlen eF _ _ _ hrel
 obtain ⟨hn,sb,so,c,pg,h⟩:=EN (hrel.aj 0 _ rfl)
 show Calls Try.prog 55 #[.pointer (some ⟨(U 0).aj,(U 0).off,none⟩)] w _
 refine (w55 _ _ _ _ _ _ _ w h).mono fun e w' ⟨he,hb,⟨pY,hR⟩,hf⟩=>?_
 subst he
 exact ⟨_,fun j=>if j=1 then ⟨w.heap.size+1,0,false,0,0,none⟩ else U j,rfl,P9 (k:=1) (j:=1) rfl (V.cg.2 (V1.ah.2 trivial)) rfl (by decide) (XZ rfl hR) (fun b hb'=>by
  rw [EP] at hb'
  exact hf b hb') (fun b hb'=>by rw [EP] at hb' ⊢;exact hb') rfl (fun j hj hl=>by
   match j,hl with
   | 0,_=>rfl
   | 1,_=>cases hj
   | j+2,hl=>exact absurd hl (by simp [U5])) hb⟩
end Go.Proofs.Ytiabiimoalkmjaa
namespace Go.Proofs.Ytiabiimoalkmjaa
open Go Go.Sx
set_option maxRecDepth 100000
set_option maxHeartbeats 4000000
def WI (_:World):Prop:=True
def gK:Nat:=0
theorem cR:OI WI gK:=fun _ _ _ _ h=>h
theorem k31:aI Try.prog WI gK 31 Gq Kc:=kT cR cn Try.func31 Xh (by kernel_rfl) (dB (by kernel_rfl))
theorem k52:aI Try.prog WI gK 52 Dd De:=kT cR cn Try.func52 WY (by kernel_rfl) (dB (by kernel_rfl))
theorem k61:aI Try.prog WI gK 61 Gr Ke:=kT cR cn Try.func61 Xg (by kernel_rfl) (dB (by kernel_rfl))
theorem k71:aI Try.prog WI gK 71 Gt U_:=kT cR cn Try.func71 XX (by kernel_rfl) (dB (by kernel_rfl))
theorem k72:aI Try.prog WI gK 72 Gu Gv:=kT cR cn Try.func72 Xt (by kernel_rfl) (dB (by kernel_rfl))
theorem k35:aI Try.prog WI gK 35 OT OU:=kT cR cn Try.func35 W0 (by kernel_rfl) (dB (by kernel_rfl))
theorem k56:aI Try.prog WI gK 56 Kf Gw:=kT cR cn Try.func56 XI (by kernel_rfl) (dB (by kernel_rfl))
theorem k64:aI Try.prog WI gK 64 OV OW:=kT cR cn Try.func64 XJ (by kernel_rfl) (dB (by kernel_rfl))
theorem k89:aI Try.prog WI gK 89 OX Kg:=kT cR cn Try.func89 WL (by kernel_rfl) (dB (by kernel_rfl))
theorem k78:aI Try.prog WI gK 78 Kh wU:=kT cR cn Try.func78 Xr (by kernel_rfl) (dB (by kernel_rfl))
theorem k79:aI Try.prog WI gK 79 OY OZ:=kT cR cn Try.func79 Xb (by kernel_rfl) (dB (by kernel_rfl))
theorem k93:aI Try.prog WI gK 93 O0 O4:=kT cR cn Try.func93 WX (by kernel_rfl) (dB (by kernel_rfl))
theorem k44:aI Try.prog WI gK 44 O5 wV:=kT cR (ck k78 (ck k79 cn)) Try.func44 W9 (by kernel_rfl) (dB (by kernel_rfl))
theorem k85:aI Try.prog WI gK 85 O6 xT:=kT cR (ck k78 (ck k93 cn)) Try.func85 W_ (by kernel_rfl) (dB (by kernel_rfl))
theorem k32:aI Try.prog WI gK 32 Gx Ki:=kT cR cn Try.func32 Xs (by kernel_rfl) (dB (by kernel_rfl))
theorem k53:aI Try.prog WI gK 53 Df Dg:=kT cR cn Try.func53 XS (by kernel_rfl) (dB (by kernel_rfl))
theorem k88:aI Try.prog WI gK 88 Dh O7:=kT cR cn Try.func88 Xd (by kernel_rfl) (dB (by kernel_rfl))
theorem k60:aI Try.prog WI gK 60 Di mQ:=kT cR (ck k88 cn) Try.func60 XC (by kernel_rfl) (dB (by kernel_rfl))
theorem zyt:jJ Vg O8:=hB (b:=Kj) (tys:=[.i,.l,.i,.i]) (fun O xs h=>match xs,h with | [x0,x1],_=>by kernel_rfl) (fun ds=>by kernel_rfl) (by kernel_rfl)
theorem k92:aI Try.prog WI gK 92 Dj sr:=kT cR cn Try.func92 Xx (by kernel_rfl) (ux (by kernel_rfl:_=[O8]) (l1 zyt l0))
theorem k73:aI Try.prog WI gK 73 Gy Gz:=kT cR (ck k92 cn) Try.func73 XD (by kernel_rfl) (dB (by kernel_rfl))
theorem Lz:aI Try.prog WI gK 116 gO su:=kT cR cn Try.func116 zzl (by kernel_rfl) (dB (by kernel_rfl))
theorem LA:aI Try.prog WI gK 114 iD ic:=kT cR (ck Lz (ck k92 cn)) Try.func114 zzn (by kernel_rfl) (dB (by kernel_rfl))
theorem Yo:aI Try.prog WI gK 115 f_ iE:=kT cR (ck Lz (ck k88 cn)) Try.func115 zzp (by kernel_rfl) (dB (by kernel_rfl))
theorem k36:aI Try.prog WI gK 36 Pc Pd:=kT cR cn Try.func36 Xv (by kernel_rfl) (dB (by kernel_rfl))
theorem k57:aI Try.prog WI gK 57 Kn GC:=kT cR cn Try.func57 WU (by kernel_rfl) (dB (by kernel_rfl))
theorem k80:aI Try.prog WI gK 80 Ko Vi:=kT cR cn Try.func80 XU (by kernel_rfl) (dB (by kernel_rfl))
theorem k81:aI Try.prog WI gK 81 Kp Vj:=kT cR cn Try.func81 XH (by kernel_rfl) (dB (by kernel_rfl))
theorem k63:aI Try.prog WI gK 63 Kq mR:=kT cR (ck k81 cn) Try.func63 XB (by kernel_rfl) (dB (by kernel_rfl))
theorem zyu:jJ Vq Vk:=hB (b:=Ks) (tys:=[.l,.i,.i,.l,.i,.i,.i]) (fun O xs h=>match xs,h with | [x0,x1],_=>by kernel_rfl) (fun ds=>by kernel_rfl) (by kernel_rfl)
theorem zyv:jJ Vq Vn:=hB (b:=Kt) (tys:=[.l,.i,.i,.l,.i,.i]) (fun O xs h=>match xs,h with | [x0,x1],_=>by kernel_rfl) (fun ds=>by kernel_rfl) (by kernel_rfl)
theorem k94:aI Try.prog WI gK 94 Kr tC:=kT cR cn Try.func94 XL (by kernel_rfl) (ux (by kernel_rfl:_=[Vk,Vn]) (l1 zyu (l1 zyv l0)))
theorem k90:aI Try.prog WI gK 90 Pk Ku:=kT cR (ck k94 cn) Try.func90 Xn (by kernel_rfl) (dB (by kernel_rfl))
theorem k45:aI Try.prog WI gK 45 lD qL:=kT cR (ck k80 (ck k81 cn)) Try.func45 XM (by kernel_rfl) (dB (by kernel_rfl))
theorem k86:aI Try.prog WI gK 86 om tD:=kT cR (ck k80 (ck k94 cn)) Try.func86 WD (by kernel_rfl) (dB (by kernel_rfl))
theorem k33:aI Try.prog WI gK 33 GF Kv:=kT cR cn Try.func33 WM (by kernel_rfl) (dB (by kernel_rfl))
theorem k77:aI Try.prog WI gK 77 Dl wW:=kT cR cn Try.func77 XW (by kernel_rfl) (dB (by kernel_rfl))
theorem Yp:aI Try.prog WI gK 119 uC pq:=kT cR cn Try.func119 zzm (by kernel_rfl) (dB (by kernel_rfl))
theorem LB:aI Try.prog WI gK 117 sv g_:=kT cR (ck Yp (ck k77 cn)) Try.func117 zzo (by kernel_rfl) (dB (by kernel_rfl))
theorem k37:aI Try.prog WI gK 37 Pm Pn:=kT cR cn Try.func37 XK (by kernel_rfl) (dB (by kernel_rfl))
theorem k82:aI Try.prog WI gK 82 Ky Dp:=kT cR cn Try.func82 Xf (by kernel_rfl) (dB (by kernel_rfl))
theorem k95:aI Try.prog WI gK 95 Po Vu:=kT cR cn Try.func95 Xu (by kernel_rfl) (dB (by kernel_rfl))
theorem k62:aI Try.prog WI gK 62 Pp vq:=kT cR cn Try.func62 Xq (by kernel_rfl) (dB (by kernel_rfl))
theorem k46:aI Try.prog WI gK 46 Pq sw:=kT cR cn Try.func46 WS (by kernel_rfl) (dB (by kernel_rfl))
theorem k87:aI Try.prog WI gK 87 Pr sy:=kT cR (ck k95 (ck k82 cn)) Try.func87 XN (by kernel_rfl) (dB (by kernel_rfl))
theorem k91:aI Try.prog WI gK 91 Pt Kz:=kT cR cn Try.func91 WJ (by kernel_rfl) (dB (by kernel_rfl))
theorem k58:aI Try.prog WI gK 58 KA Dq:=kT cR cn Try.func58 WH (by kernel_rfl) (dB (by kernel_rfl))
theorem k59:aI Try.prog WI gK 59 GG uD:=kT cR cn Try.func59 XG (by kernel_rfl) (dB (by kernel_rfl))
theorem Yq:aI Try.prog WI gK 118 uE jg:=kT cR cn Try.func118 zzk (by kernel_rfl) (dB (by kernel_rfl))
theorem k74:aI Try.prog WI gK 74 GH GI:=kT cR cn Try.func74 Xe (by kernel_rfl) (dB (by kernel_rfl))
theorem k54:aI Try.prog WI gK 54 Ds Bj:=kT cR cn Try.func54 WT (by kernel_rfl) (dB (by kernel_rfl))
theorem Yr:aI Try.prog WI gK 65 Bk xU:=kT cR cn Try.func65 XT (by kernel_rfl) (dB (by kernel_rfl))
theorem Ys:aI Try.prog WI gK 66 GJ zG:=kT cR cn Try.func66 XF (by kernel_rfl) (dB (by kernel_rfl))
theorem zyw:jJ VA Pu:=hB (b:=KB) (tys:=[.i,.l,.i,.i]) (fun O xs h=>match xs,h with | [x0,x1],_=>by kernel_rfl) (fun ds=>by kernel_rfl) (by kernel_rfl)
theorem k48:aI Try.prog WI gK 48 GK GL:=kT cR (ck Yr (ck k83 cn)) Try.func48 W6 (by kernel_rfl) (ux (by kernel_rfl:_=[Pu]) (l1 zyw l0))
theorem zyx:jJ E49 VB:=hB (b:=KE) (tys:=[.i,.i,.l,.i,.i]) (fun O xs h=>match xs,h with | [x0,x1],_=>by kernel_rfl) (fun ds=>by kernel_rfl) (by kernel_rfl)
theorem k49:aI Try.prog WI gK 49 Pz KF:=kT cR (ck Ys (ck k84 cn)) Try.func49 Xk (by kernel_rfl) (ux (by kernel_rfl:_=[VB]) (l1 zyx l0))
theorem zyy:jJ VH PA:=hB (b:=KG) (tys:=[.i,.i,.i,.i,.l]) (fun O xs h=>match xs,h with | [x0,x1],_=>by kernel_rfl) (fun ds=>by kernel_rfl) (by kernel_rfl)
theorem k39:aI Try.prog WI gK 39 GN GR:=kT cR (ck Yr (ck k75 cn)) Try.func39 Xj (by kernel_rfl) (ux (by kernel_rfl:_=[PA]) (l1 zyy l0))
theorem zyz:jJ E42 VI:=hB (b:=KI) (tys:=[.i,.i,.i,.i,.l]) (fun O xs h=>match xs,h with | [x0,x1],_=>by kernel_rfl) (fun ds=>by kernel_rfl) (by kernel_rfl)
theorem k42:aI Try.prog WI gK 42 PD KM:=kT cR (ck Ys (ck k76 cn)) Try.func42 W5 (by kernel_rfl) (ux (by kernel_rfl:_=[VI]) (l1 zyz l0))
theorem zyA:jJ VN PE:=hB (b:=KO) (tys:=[.i,.l,.i,.l]) (fun O xs h=>match xs,h with | [x0,x1],_=>by kernel_rfl) (fun ds=>by kernel_rfl) (by kernel_rfl)
theorem k30:aI Try.prog WI gK 30 GU GX:=kT cR (ck k75 cn) Try.func30 WO (by kernel_rfl) (ux (by kernel_rfl:_=[PE]) (l1 zyA l0))
theorem zyB:jJ E38 VO:=hB (b:=KQ) (tys:=[.l,.i,.l]) (fun O xs h=>match xs,h with | [x0,x1],_=>by kernel_rfl) (fun ds=>by kernel_rfl) (by kernel_rfl)
theorem k38:aI Try.prog WI gK 38 PI KR:=kT cR (ck k76 cn) Try.func38 Xy (by kernel_rfl) (ux (by kernel_rfl:_=[VO]) (l1 zyB l0))
theorem zyC:jJ VX PJ:=hL (w:=PK) (c:=PL) (nx:=PM) (out:=VV) (tys:=[.i,.l,.b,.i,.i]) (fun O xs h=>match xs,h with | [x0,x1,x2],_=>by kernel_rfl) (fun ds=>by kernel_rfl) (by kernel_rfl)
theorem k29:aI Try.prog WI gK 29 GZ G1:=kT cR cn Try.func29 W4 (by kernel_rfl) (ux (by kernel_rfl:_=[PJ]) (l1 zyC l0))
theorem zyD:jJ E23 VY:=hL (w:=V2) (c:=V3) (nx:=V4) (out:=ztO) (tys:=[.l,.b,.i]) (fun O xs h=>match xs,h with | [x0,x1],_=>by kernel_rfl) (fun ds=>by kernel_rfl) (by kernel_rfl)
theorem k23:aI Try.prog WI gK 23 PN K3:=kT cR cn Try.func23 Xw (by kernel_rfl) (ux (by kernel_rfl:_=[VY]) (l1 zyD l0))
theorem Yt:aI Try.prog WI gK 40 Bm wY:=kT cR cn Try.func40 WR (by kernel_rfl) (dB (by kernel_rfl))
theorem k43:aI Try.prog WI gK 43 K4 Du:=kT cR cn Try.func43 XR (by kernel_rfl) (dB (by kernel_rfl))
theorem k50:aI Try.prog WI gK 50 K5 Dv:=kT cR (ck k43 (ck k85 (ck k86 (ck k87 cn)))) Try.func50 W8 (by kernel_rfl) (dB (by kernel_rfl))
theorem Yu:aI Try.prog WI gK 41 Bn lF:=kT cR (ck k77 (ck k60 cn)) Try.func41 Xa (by kernel_rfl) (dB (by kernel_rfl))
theorem Yv:aI Try.prog WI gK 47 G2 nr:=kT cR (ck k82 (ck k63 cn)) Try.func47 XQ (by kernel_rfl) (dB (by kernel_rfl))
theorem LC:aI Try.prog WI gK 20 xW sA:=kT cR (ck Yr cn) Try.func20 XE (by kernel_rfl) (dB (by kernel_rfl))
theorem Qc:aI Try.prog WI gK 21 Dw vr:=kT cR (ck Ys cn) Try.func21 WE (by kernel_rfl) (dB (by kernel_rfl))
theorem k14:aI Try.prog WI gK 14 Dx xX:=kT cR (ck k51 (ck k52 (ck k53 (ck k54 cn)))) Try.func14 XP (by kernel_rfl) (dB (by kernel_rfl))
theorem k15:aI Try.prog WI gK 15 PO Dy:=kT cR (ck k55 (ck k56 (ck k57 (ck k58 cn)))) Try.func15 Xo (by kernel_rfl) (dB (by kernel_rfl))
theorem k8:aI Try.prog WI gK 8 s8 g8:=kT cR (ck k28 (ck k29 (ck k30 (ck k31 (ck k32 (ck k33 cn)))))) Try.func8 ev8 (by kernel_rfl) (dB (by kernel_rfl))
theorem k9:aI Try.prog WI gK 9 s9 g9:=kT cR (ck k23 (ck k34 (ck k35 (ck k36 (ck k37 (ck k38 cn)))))) Try.func9 ev9 (by kernel_rfl) (dB (by kernel_rfl))
theorem zyE:jJ V_ PR:=hB (b:=K6) (tys:=[.l,.l,.l,.l,.l,.i,.l,.b,.l,.l,.l,.l]) (fun O xs h=>match xs,h with | [x0,x1,x2,x3,x4,x5,x6,x7,x8,x9,cr],_=>by kernel_rfl) (fun ds=>by kernel_rfl) (by kernel_rfl)
theorem k16:aI Try.prog WI gK 16 Dz uF:=kT cR (ck k61 (ck k59 (ck k60 (ck Yu cn)))) Try.func16 Xi (by kernel_rfl) (ux (by kernel_rfl:_=[PR]) (l1 zyE l0))
theorem zyF:jJ E17 Wa:=hB (b:=K7) (tys:=[.l,.l,.l,.l,.l,.i,.l,.i,.b,.l,.l,.l,.l]) (fun O xs h=>match xs,h with | [x0,x1,x2,x3,x4,x5,x6,x7,x8,x9,cr,cx],_=>by kernel_rfl) (fun ds=>by kernel_rfl) (by kernel_rfl)
theorem k17:aI Try.prog WI gK 17 PS DC:=kT cR (ck k64 (ck k62 (ck k63 (ck Yv cn)))) Try.func17 WN (by kernel_rfl) (ux (by kernel_rfl:_=[Wa]) (l1 zyF l0))
theorem k24:aI Try.prog WI gK 24 DD G7:=kT cR (ck k71 cn) Try.func24 WW (by kernel_rfl) (dB (by kernel_rfl))
theorem k25:aI Try.prog WI gK 25 DE G8:=kT cR cn Try.func25 WZ (by kernel_rfl) (dB (by kernel_rfl))
theorem k26:aI Try.prog WI gK 26 DF DG:=kT cR (ck k72 (ck k73 cn)) Try.func26 WV (by kernel_rfl) (dB (by kernel_rfl))
theorem k27:aI Try.prog WI gK 27 DH DI:=kT cR (ck k74 cn) Try.func27 Xc (by kernel_rfl) (dB (by kernel_rfl))
theorem k67:aI Try.prog WI gK 67 PT K_:=kT cR (ck k89 (ck k90 cn)) Try.func67 Xp (by kernel_rfl) (dB (by kernel_rfl))
theorem k68:aI Try.prog WI gK 68 PU PV:=kT cR cn Try.func68 WK (by kernel_rfl) (dB (by kernel_rfl))
theorem k69:aI Try.prog WI gK 69 PW PX:=kT cR cn Try.func69 XV (by kernel_rfl) (dB (by kernel_rfl))
theorem k70:aI Try.prog WI gK 70 PY La:=kT cR (ck k91 cn) Try.func70 WG (by kernel_rfl) (dB (by kernel_rfl))
theorem k18:aI Try.prog WI gK 18 DJ xY:=kT cR (ck LC (ck k52 (ck k53 (ck k54 (ck Yt (ck Lw (ck LA (ck LB cn)))))))) Try.func18 WQ (by kernel_rfl) (dB (by kernel_rfl))
theorem k19:aI Try.prog WI gK 19 PZ DK:=kT cR (ck Qc (ck k56 (ck k57 (ck k58 (ck k50 cn))))) Try.func19 Xm (by kernel_rfl) (dB (by kernel_rfl))
theorem k12:aI Try.prog WI gK 12 DL sC:=kT cR (ck LC (ck k48 (ck Yt (ck Lw (ck LA (ck LB (ck Yu cn))))))) Try.func12 W7 (by kernel_rfl) (dB (by kernel_rfl))
theorem k13:aI Try.prog WI gK 13 P3 xZ:=kT cR (ck Qc (ck k49 (ck k50 (ck Yv cn)))) Try.func13 Xz (by kernel_rfl) (dB (by kernel_rfl))
theorem k10:aI Try.prog WI gK 10 DM tE:=kT cR (ck LC (ck k39 (ck Yt (ck Yh (ck Yo (ck Yq (ck Yu cn))))))) Try.func10 Xl (by kernel_rfl) (dB (by kernel_rfl))
theorem k11:aI Try.prog WI gK 11 P4 Bo:=kT cR (ck Qc (ck k42 (ck k43 (ck k44 (ck k45 (ck k46 (ck Yv cn))))))) Try.func11 XA (by kernel_rfl) (dB (by kernel_rfl))
theorem k22:aI Try.prog WI gK 22 P5 Bp:=kT cR (ck k26 (ck k67 (ck k24 (ck k68 (ck k25 (ck k69 (ck k27 (ck k70 cn)))))))) Try.func22 XO (by kernel_rfl) (dB (by kernel_rfl))
theorem k7:aI Try.prog WI gK 7 s7 g7:=kT cR (ck k8 (ck k25 (ck k16 (ck k12 (ck k10 (ck k14 (ck k24 (ck k27 (ck k18 (ck LC (ck k26 cn))))))))))) Try.func7 ev7 (by kernel_rfl) (dB (by kernel_rfl))
theorem zzv:jJ E3 DN:=hB (b:=Lb) (tys:=[.l,.b,.i,.l]) (fun O xs h=>match xs,h with | [x0,x1,x2],_=>by kernel_rfl) (fun ds=>by kernel_rfl) (by kernel_rfl)
theorem zzw:jJ E3 DQ:=hB (b:=Lc) (tys:=[.i,.l]) (fun O xs h=>match xs,h with | [x0,x1],_=>by kernel_rfl) (fun ds=>by kernel_rfl) (by kernel_rfl)
theorem zzx:jJ E3 DS:=hB (b:=Lj) (tys:=[.l,.l,.b,.l,.l,.i,.l,.l]) (fun O xs h=>match xs,h with | [x0,x1,x2,x3,x4,x5],_=>by kernel_rfl) (fun ds=>by kernel_rfl) (by kernel_rfl)
theorem k3:aI Try.prog WI gK 3 s3 g3:=kT cR (ck k7 (ck k8 (ck k9 (ck k12 (ck k13 (ck k22 (ck k10 (ck k11 (ck k14 (ck k15 (ck k16 (ck k17 (ck k18 (ck k19 (ck LC (ck Qc cn)))))))))))))))) Try.func3 ev3 (by kernel_rfl) (ux (by kernel_rfl:_=[DN,DQ,DS]) (l1 zzv (l1 zzw (l1 zzx l0))))
end Go.Proofs.Ytiabiimoalkmjaa
namespace Go.Sx
theorem tF (n:Int):IntKind.wrap .u64 n=n%18446744073709551616:=by simp [IntKind.wrap,IntKind.signed,IntKind.bits]
theorem Yw (n:Int):IntKind.wrap .u8 n=n%256:=by simp [IntKind.wrap,IntKind.signed,IntKind.bits]
theorem wrap_i64 (n:Int):IntKind.wrap .i64 n=if n%18446744073709551616>=9223372036854775808 then n%18446744073709551616-18446744073709551616 else n%18446744073709551616:=by
 simp [IntKind.wrap,IntKind.signed,IntKind.bits]
theorem Bz {n:Int} (h0 : -9223372036854775808<=n) (h1:n<9223372036854775808):IntKind.wrap .i64 n=n:=by rw [wrap_i64];split<;>omega
theorem uJ {n:Int} (h0:0<=n) (h1:n<18446744073709551616):IntKind.wrap .u64 n=n:=by rw [tF];omega
theorem Hi {a:Nat} (ha:a<18446744073709551616):(BitVec.ofInt 64 (a:Int)).toNat=a:=by
 rw [BitVec.ofInt_natCast,BitVec.toNat_ofNat];exact Nat.mod_eq_of_lt (by omega)
theorem Hj {a b:Nat} (ha:a<18446744073709551616) (hb:b<18446744073709551616):dD .u64 (a:Int) (b:Int)=((a &&& b:Nat):Int):=by
 show IntKind.wrap .u64 ((BitVec.ofInt 64 (a:Int) &&& BitVec.ofInt 64 (b:Int)).toNat:Int)=_
 rw [BitVec.toNat_and,Hi ha,Hi hb,tF]
 have:a &&& b<=a:=Nat.and_le_left
 omega
theorem LD {a b:Nat} (ha:a<18446744073709551616) (hb:b<18446744073709551616):bB .u64 (a:Int) (b:Int)=((a ||| b:Nat):Int):=by
 show IntKind.wrap .u64 ((BitVec.ofInt 64 (a:Int) ||| BitVec.ofInt 64 (b:Int)).toNat:Int)=_
 rw [BitVec.toNat_or,Hi ha,Hi hb,tF]
 have:a ||| b<2^64:=Nat.or_lt_two_pow (by omega) (by omega)
 omega
theorem LF {a b:Nat} (ha:a<18446744073709551616) (hb:b<18446744073709551616):dx .u64 (a:Int) (b:Int)=((a &&& (18446744073709551615-b):Nat):Int):=by
 show IntKind.wrap .u64 ((BitVec.ofInt 64 (a:Int) &&& ~~~ BitVec.ofInt 64 (b:Int)).toNat:Int)=_
 rw [BitVec.toNat_and,Hi ha,BitVec.toNat_not,Hi hb,tF]
 have e:2^64-1-b=18446744073709551615-b:=by omega
 rw [e]
 have:a &&& (18446744073709551615-b)<=a:=Nat.and_le_left
 omega
theorem xd {a:Int} (h0:0<=a):∃ n:Nat,a=n:=⟨a.toNat,by omega⟩
theorem Yx {k r:Nat} (hr:r<2^k) (q j:Nat):(2^k*q+r).testBit j=if j<k then r.testBit j else q.testBit (j-k):=Nat.testBit_two_pow_mul_add q hr j
theorem zoC {k r s:Nat} (hr:r<2^k) (hs:s<2^k) (q q':Nat):(2^k*q+r) &&& (2^k*q'+s)=2^k*(q &&& q')+(r &&& s):=by
 apply Nat.eq_of_testBit_eq
 intro j
 rw [Nat.testBit_and,Yx hr,Yx hs,Yx (Nat.and_lt_two_pow r hs),Nat.testBit_and,Nat.testBit_and]
 split<;>rfl
theorem zvo (n k:Nat):2^k*(n/2^k)+n%2^k=n:=Nat.div_add_mod n (2^k)
theorem mod_lt (n k:Nat):n%2^k<2^k:=Nat.mod_lt _ (Nat.two_pow_pos k)
section
variable {a m p:Int}
theorem zS (h0:0<=a) (h1:a<18446744073709551616) (k:Nat) (hk:k<=64) (hm:m=((2^k-1:Nat):Int)) (hp:p=((2^k:Nat):Int)):dD .u64 a m=a%p:=by
 obtain ⟨n,rfl⟩:=xd h0
 have:2^k<=2^64:=Nat.pow_le_pow_right (by decide) hk
 rw [hm,Hj (by omega) (by omega),Nat.and_two_pow_sub_one_eq_mod,hp]
 omega
theorem zre (h0:0<=a) (k:Nat) (ha:a<((2^k:Nat):Int)) (q:Nat) (hm:m=((2^k*q:Nat):Int)) (h1:m<18446744073709551616) (hk:k<=64):bB .u64 a m=a+m:=by
 obtain ⟨n,rfl⟩:=xd h0
 have:2^k<=2^64:=Nat.pow_le_pow_right (by decide) hk
 have hn:n<2^k:=by omega
 rw [hm,LD (by omega) (by omega),Nat.or_comm,<-Nat.two_pow_add_eq_or_of_lt hn]
 omega
theorem LG (k:Nat) (hk:k<=64) (hp:p=((2^k:Nat):Int)):cW .u64 a (k:Int)=a/p:=by
 show Int.fdiv a (2^min (k:Int).toNat 64)=_
 have e:min (k:Int).toNat 64=k:=by simp;omega
 rw [e,hp,Int.fdiv_eq_ediv_of_nonneg _ (by exact Int.le_of_lt (Int.pow_pos (by decide)))]
 simp
end
theorem LI (x y:Int):(x==y)=decide (x=y):=by by_cases h:x=y<;>simp [h]
end Go.Sx
namespace Go.Proofs.Ytiabiimoalkmjaa
open Go Go.Sx
set_option maxRecDepth 100000
def N85 (x0:List DV) (x1:Int) (x2:Int):List DV :=
 let x3:Int:=(x0.getD (Int.toNat 0*1+0) default).ai
 let x4:Int:=(x0.getD (Int.toNat 0*1+1) default).ai
 let x5:Int:=(x0.getD (Int.toNat 0*1+2) default).ai
 let z6:DV:=(wU [.i x1,.i 16384,.i x2]).getD 0 default
 let x6:Int:=z6.ai
 let z7:DV:=(wU [.i x1,.i 49144,.i x2]).getD 0 default
 let x7:Int:=z7.ai
 let x8:Bool:=x1==0
 let x9:Bool:=x2==4
 let cr:Bool:=x8&&x9
 let cx:Bool:=dg x6 0
 let qO:DV:=(O4 [.i x5,z6]).getD 0 default
 let cv:Int:=qO.ai
 let cc:Bool:=dg x7 0
 let pI:DV:=(O4 [.i x4,z7]).getD 0 default
 let bX:Int:=pI.ai
 let bZ:Bool:=!cc
 let cM:Bool:=bif cx then false else bZ
 let cQ:Bool:=bif cr then false else cM
 let dJ:Int:=bif cx then cv else bX
 let fG:Int:=bif cr then x3 else dJ
 let dy:Int:=bif cQ then 0 else fG
 let dW:Bool:=!cQ
 [.i dy,.b dW]
theorem zxk (x0:List DV) (x1:Int) (x2:Int):xT [.l x0,.i x1,.i x2]=N85 x0 x1 x2:=by kernel_rfl
def N44 (x0:List DV) (x1:Int) (x2:Int) (x3:Int):List DV :=
 let x4:Int:=(x0.getD (Int.toNat 0*1+0) default).ai
 let x5:Int:=(x0.getD (Int.toNat 0*1+1) default).ai
 let x6:Int:=(x0.getD (Int.toNat 0*1+2) default).ai
 let z7:DV:=(wU [.i x1,.i 16384,.i x2]).getD 0 default
 let x7:Int:=z7.ai
 let z8:DV:=(wU [.i x1,.i 49144,.i x2]).getD 0 default
 let x8:Int:=z8.ai
 let x9:Bool:=x1==0
 let cr:Bool:=x2==4
 let cx:Bool:=x9&&cr
 let cv:Int:=Int.tmod x3 2
 let cc:Bool:=dg x7 0
 let pI:DV:=(OZ [.i x6,.i x3,z7]).getD 0 default
 let bX:Int:=pI.ai
 let bZ:Bool:=dg x8 0
 let rD:DV:=(OZ [.i x5,.i x3,z8]).getD 0 default
 let cM:Int:=rD.ai
 let cQ:Bool:=cc||bZ
 let dJ:Bool:=cx||cQ
 let fG:Int:=bif cc then x5 else cM
 let dy:Int:=bif cc then bX else x6
 let dW:Int:=bif cx then cv else x4
 let eK:Int:=bif cx then x5 else fG
 let eY:Int:=bif cx then x6 else dy
 let fL:Int:=bif dJ then dW else x4
 let eH:Int:=bif dJ then eK else x5
 let fq:Int:=bif dJ then eY else x6
 let fZ:List DV:=[.i fL,.i eH,.i fq]
 [.b dJ,.l fZ]
theorem zxl (x0:List DV) (x1:Int) (x2:Int) (x3:Int):wV [.l x0,.i x1,.i x2,.i x3]=N44 x0 x1 x2 x3:=by kernel_rfl
abbrev fU (s t a:Int):List DV:=[.i s,.i t,.i a]
structure qP (s t a:Int):Prop where
 s:s=0\/s=1
 t:0<=t/\t<18446744073709551616
 a:0<=a/\a<18446744073709551616
theorem zul {x f n:Int} (h1:¬ (x=f/\n=8)) (h2:¬ (x=f/\n=4)) (h3:¬ (x=IntKind.wrap .u64 (f+4)/\n=4)):(wU [.i x,.i f,.i n]).getD 0 default = .i 0:=by
 have e:(wU [.i x,.i f,.i n]).getD 0 default = .i (bif (bif (x==f&&n==8) then false else bif (x==f&&n==4) then false else !(x==IntKind.wrap .u64 (f+4)&&n==4)) then 0 else bif (x==f&&n==8) then 1 else bif (x==f&&n==4) then 2 else 3):=by kernel_rfl
 have b1:(x==f&&n==8)=false:=by simpa using h1
 have b2:(x==f&&n==4)=false:=by simpa using h2
 have b3:(x==IntKind.wrap .u64 (f+4)&&n==4)=false:=by simpa using h3
 rw [e,b1,b2,b3]
 rfl
theorem zrf {x n:Int} : (x=0/\n=4)\/(x=16384/\n=8)\/(x=16384/\n=4)\/(x=16388/\n=4)\/(x=49144/\n=8)\/(x=49144/\n=4)\/(x=49148/\n=4) \/
  (kS x n=7/\(x==0&&n==4)=false/\(wU [.i x,.i 16384,.i n]).getD 0 default = .i 0/\(wU [.i x,.i 49144,.i n]).getD 0 default = .i 0):=by
 by_cases h0:x=0/\n=4
 ·exact .inl h0
 by_cases h1:x=16384/\n=8
 ·exact .inr (.inl h1)
 by_cases h2:x=16384/\n=4
 ·exact .inr (.inr (.inl h2))
 by_cases h3:x=16388/\n=4
 ·exact .inr (.inr (.inr (.inl h3)))
 by_cases h4:x=49144/\n=8
 ·exact .inr (.inr (.inr (.inr (.inl h4))))
 by_cases h5:x=49144/\n=4
 ·exact .inr (.inr (.inr (.inr (.inr (.inl h5)))))
 by_cases h6:x=49148/\n=4
 ·exact .inr (.inr (.inr (.inr (.inr (.inr (.inl h6))))))
 refine .inr (.inr (.inr (.inr (.inr (.inr (.inr ⟨?_,by simpa using h0,zul h1 h2 h3,zul h4 h5 h6⟩))))))
 unfold kS
 rw [if_neg h0,if_neg h1,if_neg h2,if_neg h3,if_neg h4,if_neg h5,if_neg h6]
theorem Yy {c:List DV} {x n:Int} (hx:je x=true) (hn:uz n=true):uA c x n=true:=by unfold uA;rw [hx,hn];rfl
theorem LJ {a:Int} (h:0<=a/\a<18446744073709551616):dD .u64 (cW .u64 a 0) (lB 32)=a%4294967296:=by
 rw [show cW .u64 a 0=a/1 from LG 0 (by decide) rfl,Int.ediv_one,show lB 32=4294967295 by decide]
 exact zS h.1 h.2 32 (by decide) rfl rfl
theorem LK {a:Int} (h:0<=a/\a<18446744073709551616):dD .u64 (cW .u64 a 32) (lB 32)=a/4294967296:=by
 rw [show cW .u64 a 32=a/4294967296 from LG 32 (by decide) rfl,show lB 32=4294967295 by decide,show dD .u64 (a/4294967296) 4294967295=a/4294967296%4294967296 from zS (by omega) (by omega) 32 (by decide) rfl rfl]
 omega
theorem zyG {a:Int} (h:0<=a/\a<18446744073709551616):dD .u64 (cW .u64 a 0) (lB 64)=a:=by
 rw [show cW .u64 a 0=a/1 from LG 0 (by decide) rfl,Int.ediv_one,show lB 64=18446744073709551615 by decide,show dD .u64 a 18446744073709551615=a%18446744073709551616 from zS h.1 h.2 64 (by decide) rfl rfl]
 omega
theorem zxm {s t a:Int} (h:qP s t a) {x n:Int} (hx:je x=true) (hn:uz n=true):∃ v is,nM [.l (fU s t a),.i x,.i n]=[.b true,.i v,.b is]/\xT [.l (fU s t a),.i x,.i n]=[.i v,.b is]/\0<=v/\v<18446744073709551616:=by
 have P:=Yy (c:=fU s t a) hx hn
 have hw:∀ v:Int,0<=v->v<18446744073709551616->IntKind.wrap .u64 v=v:=fun v a b=>uJ a b
 have key:∀ v is,Bh (fU s t a) x n=v->Bg (fU s t a) x n=is->nM [.l (fU s t a),.i x,.i n]=[.b true,.i v,.b is]:=fun v is e1 e2=>by
  show [DV.b (uA (fU s t a) x n),.i (Bh (fU s t a) x n),.b (Bg (fU s t a) x n)]=_
  rw [P,e1,e2]
 have ht:=h.t
 have ha:=h.a
 rcases zrf (x:=x) (n:=n) with ⟨rfl,rfl⟩ | ⟨rfl,rfl⟩ | ⟨rfl,rfl⟩ | ⟨rfl,rfl⟩ | ⟨rfl,rfl⟩ | ⟨rfl,rfl⟩ | ⟨rfl,rfl⟩ | ⟨h7,hb,w1,w2⟩
 ·refine ⟨s,true,key _ _ ?_ rfl,by kernel_rfl,?_,?_⟩
  ·show dD .u64 (cW .u64 s 0) (lB 1)=s
   rcases h.s with e | e<;>rw [e]<;>decide
  ·rcases h.s with e | e<;>omega
  ·rcases h.s with e | e<;>omega
 ·exact ⟨a,true,key _ _ (zyG ha) rfl,by kernel_rfl,ha.1,ha.2⟩
 ·refine ⟨a%4294967296,true,key _ _ (LJ ha) rfl,?_,by omega,by omega⟩
  have e:xT [.l (fU s t a),.i 16384,.i 4]=[.i (Int.tmod a 4294967296),.b true]:=by kernel_rfl
  rw [e,Int.tmod_eq_emod_of_nonneg ha.1]
 ·refine ⟨a/4294967296,true,key _ _ (LK ha) rfl,?_,by omega,by omega⟩
  have e:xT [.l (fU s t a),.i 16388,.i 4]=[.i (IntKind.wrap .u64 (Int.tdiv a 4294967296)),.b true]:=by kernel_rfl
  rw [e,Int.tdiv_eq_ediv_of_nonneg ha.1,hw _ (by omega) (by omega)]
 ·exact ⟨t,true,key _ _ (zyG ht) rfl,by kernel_rfl,ht.1,ht.2⟩
 ·refine ⟨t%4294967296,true,key _ _ (LJ ht) rfl,?_,by omega,by omega⟩
  have e:xT [.l (fU s t a),.i 49144,.i 4]=[.i (Int.tmod t 4294967296),.b true]:=by kernel_rfl
  rw [e,Int.tmod_eq_emod_of_nonneg ht.1]
 ·refine ⟨t/4294967296,true,key _ _ (LK ht) rfl,?_,by omega,by omega⟩
  have e:xT [.l (fU s t a),.i 49148,.i 4]=[.i (IntKind.wrap .u64 (Int.tdiv t 4294967296)),.b true]:=by kernel_rfl
  rw [e,Int.tdiv_eq_ediv_of_nonneg ht.1,hw _ (by omega) (by omega)]
 ·refine ⟨0,false,key _ _ ?_ ?_,?_,by decide,by decide⟩
  ·unfold Bh
   rw [h7]
   rfl
  ·unfold Bg
   rw [h7]
   rfl
  ·rw [zxk]
   unfold N85
   extract_lets -merge x3 x4 x5 z6 x6 z7 x7 x8 x9 cr cx qO cv cc pI bX bZ cM cQ dJ fG dy dW
   have u10:cr=false:=hb
   have u11:cx=false:=by show dg z6.ai 0=false;rw [show z6 = .i 0 from w1];rfl
   have u13:cc=false:=by show dg z7.ai 0=false;rw [show z7 = .i 0 from w2];rfl
   have u17:cQ=true:=by show (bif cr then false else bif cx then false else !cc)=true;rw [u10,u11,u13];rfl
   show [DV.i (bif cQ then 0 else fG),.b (!cQ)]=_
   rw [u17]
   rfl
theorem zxn {s t a:Int} (h:qP s t a):Ke [.l (fU s t a)]=[.l (fU s (IntKind.wrap .u64 (t+1)) a)]/\OW [.l (fU s t a)]=[.l (fU s (IntKind.wrap .u64 (t+1)) a)]/\qP s (IntKind.wrap .u64 (t+1)) a :=
 ⟨by kernel_rfl,by kernel_rfl,h.s,by rw [tF];omega,h.a⟩
theorem zr8 {s t a:Int} (h:qP s t a):∃ v,Gv [.l (fU s t a)]=[.i v]/\Kg [.l (fU s t a)]=[.i v]:=by
 have e1:Gv [.l (fU s t a)]=[.i (bif ew t a then bB .u64 (aF .u64 s 3) 128 else aF .u64 s 3)]:=by kernel_rfl
 have e2:Kg [.l (fU s t a)]=[.i (bif ew t a then IntKind.wrap .u64 (IntKind.wrap .u64 (s*8)+128) else IntKind.wrap .u64 (s*8))]:=by kernel_rfl
 refine ⟨_,e1,e2.trans ?_⟩
 cases ew t a<;>rcases h.s with e | e<;>rw [e]<;>rfl
theorem zum (s t a:Int):De [.l (fU s t a)]=[.l (fU s t a)]/\Gw [.l (fU s t a)]=[.l (fU s t a)]:=⟨by kernel_rfl,by kernel_rfl⟩
theorem Yz:qP 0 0 18446744073709551615/\Kc []=[.l (fU 0 0 18446744073709551615)]/\OU []=[.l (fU 0 0 18446744073709551615)]:=⟨⟨.inl rfl,by decide,by decide⟩,by kernel_rfl,by kernel_rfl⟩
end Go.Proofs.Ytiabiimoalkmjaa
namespace Go.Proofs.Ytiabiimoalkmjaa
open Go Go.Sx
set_option maxRecDepth 100000
theorem zuo (x y:Int):bB .u64 x y=bB .u64 y x:=by
 show IntKind.wrap .u64 ((BitVec.ofInt 64 x ||| BitVec.ofInt 64 y).toNat:Int)=IntKind.wrap .u64 ((BitVec.ofInt 64 y ||| BitVec.ofInt 64 x).toNat:Int)
 rw [BitVec.or_comm]
theorem zyH {a:Int} (h:0<=a/\a<18446744073709551616):dx .u64 a 4294967295=a-a%4294967296:=by
 obtain ⟨n,rfl⟩:=xd h.1
 have e:n &&& (2^32*(2^32-1)+0)=2^32*(n/2^32):=by
  have:=zoC (k:=32) (r:=n%2^32) (s:=0) (mod_lt n 32) (by decide) (n/2^32) (2^32-1)
  rw [zvo] at this
  rw [this,Nat.and_two_pow_sub_one_eq_mod,Nat.mod_eq_of_lt (by omega),Nat.and_zero,Nat.add_zero]
 have:=LF (a:=n) (b:=4294967295) (by omega) (by decide)
 rw [show ((4294967295:Nat):Int)=4294967295 from rfl] at this
 rw [this,show (18446744073709551615-4294967295:Nat)=2^32*(2^32-1)+0 by decide,e]
 omega
theorem zyI {a:Int} (h:0<=a/\a<18446744073709551616):dx .u64 a 18446744069414584320=a%4294967296:=by
 obtain ⟨n,rfl⟩:=xd h.1
 have:=LF (a:=n) (b:=18446744069414584320) (by omega) (by decide)
 rw [show ((18446744069414584320:Nat):Int)=18446744069414584320 from rfl] at this
 rw [this,show (18446744073709551615-18446744069414584320:Nat)=2^32-1 by decide,Nat.and_two_pow_sub_one_eq_mod]
 omega
theorem zxo {v:Int} (h:0<=v/\v<18446744073709551616):dD .u64 (aF .u64 v 32) 18446744069414584320=v%4294967296*4294967296:=by
 have e0:aF .u64 v 32=IntKind.wrap .u64 (v*4294967296):=by
  unfold aF
  show IntKind.wrap .u64 (v*2^32)=_
  rfl
 have e1:IntKind.wrap .u64 (v*4294967296)=v%4294967296*4294967296:=by rw [tF];omega
 rw [e0,e1]
 obtain ⟨q,hq⟩:=xd (a:=v%4294967296) (by omega)
 rw [hq,show ((q:Int)*4294967296)=((2^32*q+0:Nat):Int) by omega,show (18446744069414584320:Int)=((2^32*(2^32-1)+0:Nat):Int) by decide,Hj (by omega) (by decide),
  zoC (by decide) (by decide),Nat.and_two_pow_sub_one_eq_mod,Nat.mod_eq_of_lt (by omega),Nat.and_zero]
theorem YA {v:Int} (h:0<=v/\v<18446744073709551616):aF .u64 v 0=v:=by
 unfold aF
 show IntKind.wrap .u64 (v*2^0)=v
 rw [tF]
 omega
theorem zvX {a v:Int} (h:0<=a/\a<18446744073709551616) (hv:0<=v/\v<18446744073709551616):jC a 0 32 v=a/4294967296*4294967296+v%4294967296:=by
 unfold jC
 rw [YA hv,show aF .u64 (lB 32) 0=4294967295 by decide,zyH h,show dD .u64 v 4294967295=v%4294967296 from zS hv.1 hv.2 32 (by decide) rfl rfl,zuo,
  zre (a:=v%4294967296) (m:=a-a%4294967296) (by omega) 32 (by show _<(4294967296:Int);omega) (a/4294967296).toNat (by rw [show (((2:Nat)^32*(a/4294967296).toNat:Nat):Int)=4294967296*(((a/4294967296).toNat:Nat):Int) from Int.natCast_mul _ _];omega) (by omega) (by decide)]
 omega
theorem zvY {a v:Int} (h:0<=a/\a<18446744073709551616) (hv:0<=v/\v<18446744073709551616):jC a 32 32 v=v%4294967296*4294967296+a%4294967296:=by
 unfold jC
 rw [show aF .u64 (lB 32) 32=18446744069414584320 by decide,zyI h,zxo hv,
  zre (a:=a%4294967296) (m:=v%4294967296*4294967296) (by omega) 32 (by show _<(4294967296:Int);omega) (v%4294967296).toNat (by rw [show (((2:Nat)^32*(v%4294967296).toNat:Nat):Int)=4294967296*(((v%4294967296).toNat:Nat):Int) from Int.natCast_mul _ _];omega) (by omega) (by decide)]
 omega
theorem zup {a v:Int} (h:0<=a/\a<18446744073709551616) (hv:0<=v/\v<18446744073709551616):jC a 0 64 v=v:=by
 unfold jC
 obtain ⟨n,rfl⟩:=xd h.1
 have e:=LF (a:=n) (b:=18446744073709551615) (by omega) (by decide)
 rw [show ((18446744073709551615:Nat):Int)=18446744073709551615 from rfl] at e
 rw [YA hv,show aF .u64 (lB 64) 0=18446744073709551615 by decide,show dD .u64 v 18446744073709551615=v%18446744073709551616 from zS hv.1 hv.2 64 (by decide) rfl rfl,e,Nat.sub_self,Nat.and_zero]
 obtain ⟨m,rfl⟩:=xd hv.1
 rw [show ((m:Int)%18446744073709551616)=(m:Int) by omega,LD (by decide) (by omega),Nat.zero_or]
theorem zxq {s v:Int} (h:s=0\/s=1) (hv:0<=v/\v<18446744073709551616):jC s 0 1 v=v%2:=by
 unfold jC
 rw [YA hv,show aF .u64 (lB 1) 0=1 by decide,show dD .u64 v 1=v%2 from zS hv.1 hv.2 1 (by decide) rfl rfl]
 have e:dx .u64 s 1=0:=by rcases h with e | e<;>rw [e]<;>decide
 rw [e]
 rcases Int.emod_two_eq v with e | e<;>rw [e]<;>decide
theorem zvp {s t a:Int} (h:qP s t a) {x n v:Int} (hx:je x=true) (hn:uz n=true) (hv:0<=v/\v<18446744073709551616) :
  ∃ s' t' a' is,o_ [.l (fU s t a),.i x,.i n,.i v]=[.b true,.l (fU s' t' a'),.b is]/\wV [.l (fU s t a),.i x,.i n,.i v]=[.b is,.l (fU s' t' a')]/\qP s' t' a':=by
 have P:uB (fU s t a) x n v=true:=by unfold uB;rw [hx,hn];rfl
 have key:∀ s' t' a' is,zE (fU s t a) x n v=fU s' t' a'->Dc (fU s t a) x n v=is->o_ [.l (fU s t a),.i x,.i n,.i v]=[.b true,.l (fU s' t' a'),.b is]:=fun s' t' a' is e1 e2=>by
  show [DV.b (uB (fU s t a) x n v),.l (zE (fU s t a) x n v),.b (Dc (fU s t a) x n v)]=_
  rw [P,e1,e2]
 have ht:=h.t
 have ha:=h.a
 have lo:∀ b:Int,0<=b/\b<18446744073709551616->IntKind.wrap .u64 (IntKind.wrap .u64 (IntKind.wrap .u64 (Int.tdiv b 4294967296)*4294967296)+Int.tmod v 4294967296)=b/4294967296*4294967296+v%4294967296:=fun b hb=>by
  rw [Int.tdiv_eq_ediv_of_nonneg hb.1,Int.tmod_eq_emod_of_nonneg hv.1,tF,tF,tF]
  omega
 have hi:∀ b:Int,0<=b/\b<18446744073709551616->IntKind.wrap .u64 (IntKind.wrap .u64 (Int.tmod v 4294967296*4294967296)+Int.tmod b 4294967296)=v%4294967296*4294967296+b%4294967296:=fun b hb=>by
  rw [Int.tmod_eq_emod_of_nonneg hv.1,Int.tmod_eq_emod_of_nonneg hb.1,tF,tF]
  omega
 rcases zrf (x:=x) (n:=n) with ⟨rfl,rfl⟩ | ⟨rfl,rfl⟩ | ⟨rfl,rfl⟩ | ⟨rfl,rfl⟩ | ⟨rfl,rfl⟩ | ⟨rfl,rfl⟩ | ⟨rfl,rfl⟩ | ⟨h7,hb,w1,w2⟩
 ·refine ⟨v%2,t,a,true,key _ _ _ _ ?_ rfl,?_,by omega,ht,ha⟩
  ·show [DV.i (jC s 0 1 v),.i t,.i a]=_
   rw [zxq h.s hv]
  ·have e:wV [.l (fU s t a),.i 0,.i 4,.i v]=[.b true,.l [.i (Int.tmod v 2),.i t,.i a]]:=by kernel_rfl
   rw [e,Int.tmod_eq_emod_of_nonneg hv.1]
 ·refine ⟨s,t,v,true,key _ _ _ _ ?_ rfl,by kernel_rfl,h.s,ht,hv⟩
  show [DV.i s,.i t,.i (jC a 0 64 v)]=_
  rw [zup ha hv]
 ·refine ⟨s,t,_,true,key _ _ _ _ (by show [DV.i s,.i t,.i (jC a 0 32 v)]=_;rw [zvX ha hv]) rfl,?_,h.s,ht,by omega⟩
  have e:wV [.l (fU s t a),.i 16384,.i 4,.i v]=[.b true,.l [.i s,.i t,.i (IntKind.wrap .u64 (IntKind.wrap .u64 (IntKind.wrap .u64 (Int.tdiv a 4294967296)*4294967296)+Int.tmod v 4294967296))]]:=by kernel_rfl
  rw [e,lo a ha]
 ·refine ⟨s,t,_,true,key _ _ _ _ (by show [DV.i s,.i t,.i (jC a 32 32 v)]=_;rw [zvY ha hv]) rfl,?_,h.s,ht,by omega⟩
  have e:wV [.l (fU s t a),.i 16388,.i 4,.i v]=[.b true,.l [.i s,.i t,.i (IntKind.wrap .u64 (IntKind.wrap .u64 (Int.tmod v 4294967296*4294967296)+Int.tmod a 4294967296))]]:=by kernel_rfl
  rw [e,hi a ha]
 ·refine ⟨s,v,a,true,key _ _ _ _ ?_ rfl,by kernel_rfl,h.s,hv,ha⟩
  show [DV.i s,.i (jC t 0 64 v),.i a]=_
  rw [zup ht hv]
 ·refine ⟨s,_,a,true,key _ _ _ _ (by show [DV.i s,.i (jC t 0 32 v),.i a]=_;rw [zvX ht hv]) rfl,?_,h.s,by omega,ha⟩
  have e:wV [.l (fU s t a),.i 49144,.i 4,.i v]=[.b true,.l [.i s,.i (IntKind.wrap .u64 (IntKind.wrap .u64 (IntKind.wrap .u64 (Int.tdiv t 4294967296)*4294967296)+Int.tmod v 4294967296)),.i a]]:=by kernel_rfl
  rw [e,lo t ht]
 ·refine ⟨s,_,a,true,key _ _ _ _ (by show [DV.i s,.i (jC t 32 32 v),.i a]=_;rw [zvY ht hv]) rfl,?_,h.s,by omega,ha⟩
  have e:wV [.l (fU s t a),.i 49148,.i 4,.i v]=[.b true,.l [.i s,.i (IntKind.wrap .u64 (IntKind.wrap .u64 (Int.tmod v 4294967296*4294967296)+Int.tmod t 4294967296)),.i a]]:=by kernel_rfl
  rw [e,hi t ht]
 ·refine ⟨s,t,a,false,key _ _ _ _ ?_ ?_,?_,h⟩
  ·unfold zE
   rw [h7]
   rfl
  ·unfold Dc
   rw [h7]
   rfl
  ·rw [zxl]
   unfold N44
   extract_lets -merge x4 x5 x6 z7 x7 z8 x8 x9 cr cx cv cc pI bX bZ rD cM cQ dJ fG dy dW eK eY fL eH fq fZ
   have u11:cx=false:=hb
   have u13:cc=false:=by show dg z7.ai 0=false;rw [show z7 = .i 0 from w1];rfl
   have u15:bZ=false:=by show dg z8.ai 0=false;rw [show z8 = .i 0 from w2];rfl
   have u18:dJ=false:=by show (cx||(cc||bZ))=false;rw [u11,u13,u15];rfl
   show [DV.b dJ,.l [.i (bif dJ then dW else x4),.i (bif dJ then eK else x5),.i (bif dJ then eY else x6)]]=_
   rw [u18]
   rfl
end Go.Proofs.Ytiabiimoalkmjaa
namespace Go.Proofs.Ytiabiimoalkmjaa
open Go Go.Sx
set_option maxRecDepth 100000
def LL (x0:List DV) (x1:Int) (x2:Int):List DV :=
 let x3:List DV:=(x0.getD (Int.toNat 0*1+0) default).ay
 let x4:List DV:=(x0.getD (Int.toNat 0*1+1) default).ay
 let x5:Bool:=(x0.getD (Int.toNat 0*1+2) default).aA
 let x6:Bool:=(x0.getD (Int.toNat 0*1+3) default).aA
 let x7:Int:=(x0.getD (Int.toNat 0*1+4) default).ai
 let x8:Bool:=x2 != 1
 let x9:Bool:=dg x1 7
 let cr:Bool:=x8||x9
 let cx:Bool:=!cr
 let cv:Bool:=x1==0
 let cc:Int:=((x3.length/1:Nat):Int)
 let bX:Bool:=cc==0
 let bZ:Bool:=!bX
 let cM:Int:=((x3.length/1:Nat):Int)
 let cQ:Bool:=decide (0<cM)
 let dJ:Int:=(x3.getD (Int.toNat 0*1+0) default).ai
 let fG:Int:=((x3.length/1:Nat):Int)
 let dy:Bool:=decide (1<=fG)
 let dW:List DV:=x3.drop (Int.toNat 1*1)
 let eK:Int:=IntKind.wrap .u64 dJ
 let eY:Bool:=x1==1
 let tG:DV:=(pq [.b x5,.i 0]).getD 0 default
 let fL:Bool:=tG.aA
 let yd:DV:=(pq [.b x5,.i 0]).getD 1 default
 let eH:Int:=yd.ai
 let fq:Bool:=x1==2
 let fZ:List DV:=[.l x3,.l x4,.b x5,.b x6,.i x7]
 let BA:DV:=(wW [.l fZ]).getD 0 default
 let fc:Bool:=BA.aA
 let gH:Bool:=!fc
 let gP:Bool:=x1==5
 let gI:Int:=((x3.length/1:Nat):Int)
 let iS:Bool:=dg gI 0
 let Hl:DV:=(pq [.b iS,.i 0]).getD 0 default
 let gD:Bool:=Hl.aA
 let Qd:DV:=(pq [.b iS,.i 0]).getD 1 default
 let kr:Int:=Qd.ai
 let iF:Int:=bB .u64 96 kr
 let BB:DV:=(pq [.b x6,.i 1]).getD 0 default
 let iT:Bool:=BB.aA
 let Ho:DV:=(pq [.b x6,.i 1]).getD 1 default
 let fX:Int:=Ho.ai
 let jD:Int:=bB .u64 iF fX
 let kV:Bool:=x1==7
 let jZ:Int:=IntKind.wrap .u64 x7
 let mT:Bool:=!kV
 let fH:Bool:=bif gP then false else mT
 let jM:Bool:=bif fq then false else fH
 let kG:Bool:=bif eY then false else jM
 let nN:Bool:=bif cv then false else kG
 let pz:Int:=bif bZ then eK else 0
 let lG:List DV:=bif bZ then dW else x3
 let jh:Int:=bif gH then 1 else 4
 let nO:Int:=bif gP then jD else jZ
 let nP:Bool:=bif gP then false else x6
 let lH:Int:=bif fq then jh else nO
 let nt:Bool:=bif fq then x6 else nP
 let iG:Int:=bif eY then eH else lH
 let nQ:Bool:=bif eY then x6 else nt
 let jE:Int:=bif cv then pz else iG
 let nR:List DV:=bif cv then lG else x3
 let lV:Bool:=bif cv then x6 else nQ
 let gE:Int:=bif nN then 0 else jE
 let gq:List DV:=bif nN then x3 else nR
 let jq:Bool:=bif nN then x6 else lV
 let pX:Int:=bif cx then gE else 0
 let sB:List DV:=bif cx then gq else x3
 let kW:Bool:=bif cx then jq else x6
 let eN:List DV:=[.l sB,.l x4,.b x5,.b kW,.i x7]
 [.b ((ow [(cx,true),(cv,true),(bZ,true)] cQ::ow [(cx,true),(cv,true),(bZ,true)] dy::ow [(cx,true),(cv,false),(eY,true)] fL::ow [(cx,true),(cv,false),(eY,false),(fq,false),(gP,true)] gD::ow [(cx,true),(cv,false),(eY,false),(fq,false),(gP,true)] iT::[]).all id),.i pX,.b cx,.l eN]
theorem zvq (x0:List DV) (x1:Int) (x2:Int):g_ [.l x0,.i x1,.i x2]=LL x0 x1 x2:=by kernel_rfl
def N87 (x0:List DV) (x1:Int) (x2:Int):List DV :=
 let x3:List DV:=(x0.getD (Int.toNat 0*1+0) default).ay
 let x4:List DV:=(x0.getD (Int.toNat 0*1+1) default).ay
 let x5:Int:=(x0.getD (Int.toNat 0*1+2) default).ai
 let x6:Int:=(x0.getD (Int.toNat 0*1+3) default).ai
 let x7:Int:=(x0.getD (Int.toNat 0*1+4) default).ai
 let x8:Int:=(x0.getD (Int.toNat 0*1+5) default).ai
 let x9:List DV:=[.l x3,.l x4,.i x5,.i x6,.i x7,.i x8]
 let BC:DV:=(Vu [.l x9]).getD 0 default
 let cr:Bool:=BC.aA
 let cx:List DV:=[.l x3,.l x4,.i x5,.i x6,.i x7,.i x8]
 let qO:DV:=(Dp [.l cx]).getD 0 default
 let cv:Bool:=qO.aA
 let cc:Bool:=x2 != 1
 let bX:Bool:=!cc
 let bZ:Bool:=x1==0
 let cM:Bool:=ew x5 0
 let cQ:Int:=((x3.length/1:Nat):Int)
 let dJ:Bool:=c_ x5 cQ
 let fG:Int:=(x3.getD (Int.toNat x5*1+0) default).ai
 let dy:Int:=IntKind.wrap .u64 fG
 let dW:Int:=IntKind.wrap .i64 (x5+1)
 let eK:Bool:=x1==1
 let eY:Bool:=x1==2
 let fL:Bool:=x1==3
 let eH:Bool:=x1==4
 let fq:Bool:=x1==6
 let fZ:Bool:=bif eH then eH else fq
 let fc:Bool:=bif fL then fL else fZ
 let gH:Bool:=x1==5
 let gP:Int:=IntKind.wrap .u64 (2*x7)
 let gI:Int:=IntKind.wrap .u64 (96+gP)
 let iS:Int:=IntKind.wrap .u64 (gI+1)
 let gD:Int:=bif cr then iS else gI
 let kr:Bool:=x1==7
 let iF:Bool:=gH||kr
 let iT:Bool:=fc||iF
 let fX:Bool:=eY||iT
 let jD:Bool:=eK||fX
 let kV:Bool:=bZ||jD
 let jZ:Int:=bif cr then dy else 0
 let mT:Int:=bif cr then dW else x5
 let fH:Int:=bif cv then 4 else 1
 let jM:Int:=bif gH then gD else x8
 let kG:Int:=bif gH then 0 else x7
 let nN:Int:=bif fc then 0 else jM
 let pz:Int:=bif fc then x7 else kG
 let lG:Int:=bif eY then fH else nN
 let jh:Int:=bif eY then x7 else pz
 let nO:Int:=bif eK then x6 else lG
 let nP:Int:=bif eK then x7 else jh
 let lH:Int:=bif bZ then jZ else nO
 let nt:Int:=bif bZ then mT else x5
 let iG:Int:=bif bZ then x7 else nP
 let nQ:Int:=bif kV then lH else 0
 let jE:Int:=bif kV then nt else x5
 let nR:Int:=bif kV then iG else x7
 let lV:Int:=bif bX then nQ else 0
 let gE:Bool:=bX&&kV
 let gq:Int:=bif bX then jE else x5
 let jq:Int:=bif bX then nR else x7
 let pX:List DV:=[.l x3,.l x4,.i gq,.i x6,.i jq,.i x8]
 [.b ((ow [(bX,true),(bZ,true),(cr,true)] cM::ow [(bX,true),(bZ,true),(cr,true)] dJ::[]).all id),.i lV,.b gE,.l pX]
theorem zxr (x0:List DV) (x1:Int) (x2:Int):sy [.l x0,.i x1,.i x2]=N87 x0 x1 x2:=by kernel_rfl
def LM (x0:List DV) (x1:Int) (x2:Int) (x3:Int):List DV :=
 let x4:List DV:=(x0.getD (Int.toNat 0*1+0) default).ay
 let x5:List DV:=(x0.getD (Int.toNat 0*1+1) default).ay
 let x6:Bool:=(x0.getD (Int.toNat 0*1+2) default).aA
 let x7:Bool:=(x0.getD (Int.toNat 0*1+3) default).aA
 let x8:Int:=(x0.getD (Int.toNat 0*1+4) default).ai
 let x9:Bool:=x2 != 1
 let cr:Bool:=dg x1 7
 let cx:Bool:=x9||cr
 let cv:Bool:=!cx
 let cc:Bool:=x1==0
 let bX:Int:=IntKind.wrap .u8 x3
 let bZ:List DV:=[.i bX]
 let cM:List DV:=x5++bZ
 let cQ:Int:=((cM.length/1:Nat):Int)
 let dJ:Bool:=eP cQ 225179981368371
 let fG:Bool:=x1==1
 let dy:Int:=dD .u64 x3 1
 let dW:Bool:=dy==1
 let eK:Bool:=x1==7
 let eY:Int:=IntKind.wrap .u8 x3
 let fL:Int:=bif eK then eY else x8
 let eH:Bool:=bif fG then dW else x6
 let fq:Int:=bif fG then x8 else fL
 let fZ:List DV:=bif cc then cM else x5
 let fc:Bool:=bif cc then x6 else eH
 let gH:Int:=bif cc then x8 else fq
 let gP:List DV:=bif cv then fZ else x5
 let gI:Bool:=bif cv then fc else x6
 let iS:Int:=bif cv then gH else x8
 let gD:List DV:=[.l x4,.l gP,.b gI,.b x7,.i iS]
 [.b ((ow [(cv,true),(cc,true)] dJ::[]).all id),.b cv,.l gD]
theorem zvr (x0:List DV) (x1:Int) (x2:Int) (x3:Int):jg [.l x0,.i x1,.i x2,.i x3]=LM x0 x1 x2 x3:=by kernel_rfl
def N46 (x0:List DV) (x1:Int) (x2:Int) (x3:Int):List DV :=
 let x4:List DV:=(x0.getD (Int.toNat 0*1+0) default).ay
 let x5:List DV:=(x0.getD (Int.toNat 0*1+1) default).ay
 let x6:Int:=(x0.getD (Int.toNat 0*1+2) default).ai
 let x7:Int:=(x0.getD (Int.toNat 0*1+3) default).ai
 let x8:Int:=(x0.getD (Int.toNat 0*1+4) default).ai
 let x9:Int:=(x0.getD (Int.toNat 0*1+5) default).ai
 let cr:Bool:=x2 != 1
 let cx:Bool:=dg x1 7
 let cv:Bool:=cr||cx
 let cc:Bool:=!cv
 let bX:Bool:=x1==0
 let bZ:Int:=IntKind.wrap .u8 x3
 let cM:List DV:=[.i bZ]
 let cQ:List DV:=x5++cM
 let dJ:Int:=((cQ.length/1:Nat):Int)
 let fG:Bool:=eP dJ 225179981368371
 let dy:Bool:=x1==1
 let dW:Int:=Int.tmod x3 2
 let eK:Bool:=x1==7
 let eY:Int:=Int.tmod x3 256
 let fL:Int:=bif eK then eY else x9
 let eH:Int:=bif dy then dW else x7
 let fq:Int:=bif dy then x9 else fL
 let fZ:List DV:=bif bX then cQ else x5
 let fc:Int:=bif bX then x7 else eH
 let gH:Int:=bif bX then x9 else fq
 let gP:List DV:=bif cc then fZ else x5
 let gI:Int:=bif cc then fc else x7
 let iS:Int:=bif cc then gH else x9
 let gD:List DV:=[.l x4,.l gP,.i x6,.i gI,.i x8,.i iS]
 [.b ((ow [(cc,true),(bX,true)] fG::[]).all id),.b cc,.l gD]
theorem zxs (x0:List DV) (x1:Int) (x2:Int) (x3:Int):sw [.l x0,.i x1,.i x2,.i x3]=N46 x0 x1 x2 x3:=by kernel_rfl
theorem zT {l:List (Bool×Bool)} {x:Bool} (h:x=true):ow l x=true:=by subst h;unfold ow;simp
theorem BD {l:List (Bool×Bool)} {c x:Bool} (h:c=false):ow ((c,true)::l) x=true:=by subst h;unfold ow;simp
def nI (b:Bool):Int:=bif b then 1 else 0
abbrev eO (q s:List DV) (w lo:Bool) (sc:Int):List DV:=[.l q,.l s,.b w,.b lo,.i sc]
abbrev fA (c s:List DV) (rd:Nat) (w lo:Bool) (sc:Int):List DV:=[.l c,.l s,.i (rd:Int),.i (nI w),.i (nI lo),.i sc]
structure nU (c s:List DV) (rd:Nat) (sc:Int):Prop where
 rd:rd<=c.length
 c:c.length<1099511627776
 sc:0<=sc/\sc<256
theorem iI (q:List DV):((q.length/1:Nat):Int)=(q.length:Int):=by rw [Nat.div_one]
theorem zyJ {x n:Int} (hx:0<=x):(n=1/\(x=0\/x=1\/x=2\/x=3\/x=4\/x=5\/x=6\/x=7))\/(n != 1||dg x 7)=true:=by
 by_cases h1:n=1
 ·by_cases h2:x<=7
  ·exact .inl ⟨h1,by omega⟩
  ·exact .inr (by have:dg x 7=true:=decide_eq_true (by omega);rw [this,Bool.or_true])
 ·exact .inr (by rw [show (n != 1)=true by simpa using h1,Bool.true_or])
theorem zr9 (U:List DV) {x n:Int} (h:(n != 1||dg x 7)=true) (q s:List DV) (w lo:Bool) (sc:Int) (hU:U=eO q s w lo sc):g_ [.l U,.i x,.i n]=[.b true,.i 0,.b false,.l U]:=by
 subst hU
 rw [zvq]
 unfold LL
 extract_lets -merge x3 x4 x5 x6 x7 x8 x9 cr cx cv cc bX bZ cM cQ dJ fG dy dW eK eY tG fL yd eH fq fZ BA fc gH gP gI iS Hl gD Qd kr iF BB iT Ho fX jD kV jZ mT fH jM kG nN pz lG jh nO nP lH nt iG nQ jE nR lV gE gq jq pX sB kW eN
 have u11:cx=false:=by show (!(n != 1||dg x 7))=false;rw [h];rfl
 show [DV.b _,.i (bif cx then gE else 0),.b cx,.l [.l (bif cx then gq else x3),.l x4,.b x5,.b (bif cx then jq else x6),.i x7]]=_
 simp only [List.all_cons,List.all_nil,id_eq,BD u11,Bool.and_self]
 rw [u11]
 rfl
theorem qQ {x n:Int} (h:(n != 1||dg x 7)=true) (hx:0<=x) (c s:List DV) (rd:Nat) (w lo:Bool) (sc:Int):sy [.l (fA c s rd w lo sc),.i x,.i n]=[.b true,.i 0,.b false,.l (fA c s rd w lo sc)]:=by
 rw [zxr]
 unfold N87
 extract_lets -merge x3 x4 x5 x6 x7 x8 x9 BC cr cx qO cv cc bX bZ cM cQ dJ fG dy dW eK eY fL eH fq fZ fc gH gP gI iS gD kr iF iT fX jD kV jZ mT fH jM kG nN pz lG jh nO nP lH nt iG nQ jE nR lV gE gq jq pX
 have k:bX=false\/kV=false/\bZ=false:=by
  cases h1:(n != 1) with
  | true=>exact .inl (by show (!(n != 1))=false;rw [h1];rfl)
  | false =>
   rw [h1,Bool.false_or] at h
   have h:7<x:=of_decide_eq_true h
   have e:∀ k:Int,k<=7->(x==k)=false:=fun k hk=>by simp;omega
   refine .inr ⟨?_,e 0 (by decide)⟩
   show ((x==0)||((x==1)||((x==2)||((bif x==3 then x==3 else bif x==4 then x==4 else x==6)||((x==5)||(x==7))))))=false
   rw [e 0 (by decide),e 1 (by decide),e 2 (by decide),e 3 (by decide),e 4 (by decide),e 5 (by decide),e 6 (by decide),e 7 (by decide)]
   rfl
 show [DV.b _,.i (bif bX then (bif kV then lH else 0) else 0),.b (bX&&kV),.l [.l x3,.l x4,.i (bif bX then (bif kV then nt else x5) else x5),.i x6,.i (bif bX then (bif kV then iG else x7) else x7),.i x8]]=_
 rcases k with k | ⟨k,k2⟩
 ·simp only [List.all_cons,List.all_nil,id_eq,BD k,Bool.and_self]
  rw [k]
  rfl
 ·have o1:∀ (a b z:Bool),ow [(a,true),(bZ,true),(b,true)] z=true:=fun a b z=>by rw [k2];unfold ow;cases a<;>cases b<;>cases z<;>rfl
  simp only [List.all_cons,List.all_nil,id_eq,o1,Bool.and_self]
  rw [k]
  cases bX<;>rfl
theorem zuq (a b:Bool):bB .u64 (bB .u64 96 (bif !a then 0 else aF .u64 1 0)) (bif !b then 0 else aF .u64 1 1)=bif a then IntKind.wrap .u64 (IntKind.wrap .u64 (96+IntKind.wrap .u64 (2*nI b))+1) else IntKind.wrap .u64 (96+IntKind.wrap .u64 (2*nI b)):=by
 cases a<;>cases b<;>decide
theorem u1 (c s:List DV) (q:List DV) (rd:Nat) (w lo:Bool) (sc:Int):g_ [.l (eO q s w lo sc),.i 1,.i 1]=[.b ([[ow [(w,true)] (decide ((0:Int)>=0))].all id].all id),.i (bif !w then 0 else aF .u64 1 0),.b true,.l (eO q s w lo sc)]:=by kernel_rfl
theorem v1 (c s:List DV) (q:List DV) (rd:Nat) (w lo:Bool) (sc:Int):sy [.l (fA c s rd w lo sc),.i 1,.i 1]=[.b true,.i (nI w),.b true,.l (fA c s rd w lo sc)]:=by kernel_rfl
theorem u2 (c s:List DV) (q:List DV) (rd:Nat) (w lo:Bool) (sc:Int):g_ [.l (eO q s w lo sc),.i 2,.i 1]=[.b true,.i (bif !(w&&dg ((q.length/1:Nat):Int) 0) then 1 else 4),.b true,.l (eO q s w lo sc)]:=by kernel_rfl
theorem v2 (c s:List DV) (q:List DV) (rd:Nat) (w lo:Bool) (sc:Int):sy [.l (fA c s rd w lo sc),.i 2,.i 1]=[.b true,.i (bif ((nI w==1)&&c_ (rd:Int) ((c.length/1:Nat):Int)) then 4 else 1),.b true,.l (fA c s rd w lo sc)]:=by kernel_rfl
theorem u3 (c s:List DV) (q:List DV) (rd:Nat) (w lo:Bool) (sc:Int):g_ [.l (eO q s w lo sc),.i 3,.i 1]=[.b true,.i 0,.b true,.l (eO q s w lo sc)]:=by kernel_rfl
theorem v3 (c s:List DV) (q:List DV) (rd:Nat) (w lo:Bool) (sc:Int):sy [.l (fA c s rd w lo sc),.i 3,.i 1]=[.b true,.i 0,.b true,.l (fA c s rd w lo sc)]:=by kernel_rfl
theorem u4 (c s:List DV) (q:List DV) (rd:Nat) (w lo:Bool) (sc:Int):g_ [.l (eO q s w lo sc),.i 4,.i 1]=[.b true,.i 0,.b true,.l (eO q s w lo sc)]:=by kernel_rfl
theorem v4 (c s:List DV) (q:List DV) (rd:Nat) (w lo:Bool) (sc:Int):sy [.l (fA c s rd w lo sc),.i 4,.i 1]=[.b true,.i 0,.b true,.l (fA c s rd w lo sc)]:=by kernel_rfl
theorem u6 (c s:List DV) (q:List DV) (rd:Nat) (w lo:Bool) (sc:Int):g_ [.l (eO q s w lo sc),.i 6,.i 1]=[.b true,.i 0,.b true,.l (eO q s w lo sc)]:=by kernel_rfl
theorem v6 (c s:List DV) (q:List DV) (rd:Nat) (w lo:Bool) (sc:Int):sy [.l (fA c s rd w lo sc),.i 6,.i 1]=[.b true,.i 0,.b true,.l (fA c s rd w lo sc)]:=by kernel_rfl
theorem u5 (c s:List DV) (q:List DV) (rd:Nat) (w lo:Bool) (sc:Int):g_ [.l (eO q s w lo sc),.i 5,.i 1]=[.b ([[ow [(dg ((q.length/1:Nat):Int) 0,true)] (decide ((0:Int)>=0))].all id,[ow [(lo,true)] (decide ((1:Int)>=0))].all id].all id),.i (bB .u64 (bB .u64 96 (bif !(dg ((q.length/1:Nat):Int) 0) then 0 else aF .u64 1 0)) (bif !lo then 0 else aF .u64 1 1)),.b true,.l (eO q s w false sc)]:=by kernel_rfl
theorem v5 (c s:List DV) (q:List DV) (rd:Nat) (w lo:Bool) (sc:Int):sy [.l (fA c s rd w lo sc),.i 5,.i 1]=[.b true,.i (bif (c_ (rd:Int) ((c.length/1:Nat):Int)) then IntKind.wrap .u64 (IntKind.wrap .u64 (96+IntKind.wrap .u64 (2*nI lo))+1) else IntKind.wrap .u64 (96+IntKind.wrap .u64 (2*nI lo))),.b true,.l (fA c s rd w false sc)]:=by kernel_rfl
theorem u7 (c s:List DV) (q:List DV) (rd:Nat) (w lo:Bool) (sc:Int):g_ [.l (eO q s w lo sc),.i 7,.i 1]=[.b true,.i (IntKind.wrap .u64 sc),.b true,.l (eO q s w lo sc)]:=by kernel_rfl
theorem v7 (c s:List DV) (q:List DV) (rd:Nat) (w lo:Bool) (sc:Int):sy [.l (fA c s rd w lo sc),.i 7,.i 1]=[.b true,.i sc,.b true,.l (fA c s rd w lo sc)]:=by kernel_rfl
theorem u0 (c s:List DV) (q:List DV) (rd:Nat) (w lo:Bool) (sc:Int):g_ [.l (eO q s w lo sc),.i 0,.i 1]=[.b ((ow [(true,true),(true,true),(!(((q.length/1:Nat):Int)==0),true)] (decide (0<((q.length/1:Nat):Int)))::ow [(true,true),(true,true),(!(((q.length/1:Nat):Int)==0),true)] (decide (1<=((q.length/1:Nat):Int)))::[]).all id),.i (bif !(((q.length/1:Nat):Int)==0) then IntKind.wrap .u64 (q.getD 0 default).ai else 0),.b true,.l (eO (bif !(((q.length/1:Nat):Int)==0) then q.drop 1 else q) s w lo sc)]:=by kernel_rfl
theorem v0 (c s:List DV) (q:List DV) (rd:Nat) (w lo:Bool) (sc:Int):sy [.l (fA c s rd w lo sc),.i 0,.i 1]=[.b ((ow [(true,true),(true,true),(c_ (rd:Int) ((c.length/1:Nat):Int),true)] (ew (rd:Int) 0)::ow [(true,true),(true,true),(c_ (rd:Int) ((c.length/1:Nat):Int),true)] (c_ (rd:Int) ((c.length/1:Nat):Int))::[]).all id),.i (bif c_ (rd:Int) ((c.length/1:Nat):Int) then IntKind.wrap .u64 (c.getD (Int.toNat (rd:Int)*1+0) default).ai else 0),.b true,.l [.l c,.l s,.i (bif c_ (rd:Int) ((c.length/1:Nat):Int) then IntKind.wrap .i64 ((rd:Int)+1) else (rd:Int)),.i (nI w),.i (nI lo),.i sc]]:=by kernel_rfl
theorem jG (l:List (Bool×Bool)):ow l true=true:=zT rfl
theorem zxt {c s:List DV} {rd:Nat} {sc:Int} (h:nU c s rd sc) (w lo:Bool) {x n:Int} (hx:0<=x) :
  ∃ v is rd' lo',g_ [.l (eO (c.drop rd) s w lo sc),.i x,.i n]=[.b true,.i v,.b is,.l (eO (c.drop rd') s w lo' sc)]/\sy [.l (fA c s rd w lo sc),.i x,.i n]=[.b true,.i v,.b is,.l (fA c s rd' w lo' sc)]/\nU c s rd' sc:=by
 have d0:decide ((0:Int)>=0)=true:=by decide
 have d1:decide ((1:Int)>=0)=true:=by decide
 have hrd:=h.rd
 have hc:=h.c
 rcases zyJ (n:=n) hx with ⟨rfl,hh⟩ | hno
 ·have hsome:dg (((c.drop rd).length/1:Nat):Int) 0=c_ (rd:Int) ((c.length/1:Nat):Int):=by
   rw [iI,iI,List.length_drop]
   exact decide_eq_decide.2 (by omega)
  rcases hh with rfl | rfl | rfl | rfl | rfl | rfl | rfl | rfl
  ·by_cases hlt:rd<c.length
   ·have k0:((((c.drop rd).length/1:Nat):Int)==0)=false:=by rw [iI,List.length_drop];simp;omega
    have k1:decide (0<(((c.drop rd).length/1:Nat):Int))=true:=by rw [iI,List.length_drop];exact decide_eq_true (by omega)
    have k2:decide (1<=(((c.drop rd).length/1:Nat):Int))=true:=by rw [iI,List.length_drop];exact decide_eq_true (by omega)
    have k3:c_ (rd:Int) ((c.length/1:Nat):Int)=true:=by rw [iI];exact decide_eq_true (by omega)
    have k4:ew (rd:Int) 0=true:=decide_eq_true (by omega)
    have k5:IntKind.wrap .i64 ((rd:Int)+1)=((rd+1:Nat):Int):=by rw [IntKind.wrap_i64];omega
    refine ⟨IntKind.wrap .u64 (c.getD rd default).ai,true,rd+1,lo,?_,?_,by omega,hc,h.sc⟩
    ·rw [u0 [] s _ 0 w lo sc,k0,k1,k2]
     simp only [List.all_cons,List.all_nil,id_eq,jG,Bool.not_false,cond_true,Bool.and_self]
     rw [List.drop_drop,List.getD_eq_getElem?_getD,List.getElem?_drop,List.getD_eq_getElem?_getD,Nat.add_zero]
    ·rw [v0 c s [] rd w lo sc,k3,k4,k5]
     simp only [List.all_cons,List.all_nil,id_eq,jG,cond_true,Bool.and_self,Int.toNat_natCast,Nat.mul_one,Nat.add_zero]
   ·have k0:((((c.drop rd).length/1:Nat):Int)==0)=true:=by rw [iI,List.length_drop];simp;omega
    have k3:c_ (rd:Int) ((c.length/1:Nat):Int)=false:=by rw [iI];exact decide_eq_false (by omega)
    refine ⟨0,true,rd,lo,?_,?_,h⟩
    ·rw [u0 [] s _ 0 w lo sc,k0]
     rfl
    ·rw [v0 c s [] rd w lo sc,k3]
     rfl
  ·refine ⟨nI w,true,rd,lo,?_,v1 c s [] rd w lo sc,h⟩
   rw [u1 [] s _ 0 w lo sc,d0]
   simp only [List.all_cons,List.all_nil,id_eq,jG,Bool.and_self]
   cases w<;>rfl
  ·refine ⟨bif (w&&dg (((c.drop rd).length/1:Nat):Int) 0) then 4 else 1,true,rd,lo,?_,?_,h⟩
   ·rw [u2 [] s _ 0 w lo sc]
    generalize (w&&dg (((c.drop rd).length/1:Nat):Int) 0)=u
    cases u<;>rfl
   ·rw [v2 c s [] rd w lo sc,hsome]
    cases w<;>rfl
  ·exact ⟨0,true,rd,lo,u3 [] s _ 0 w lo sc,v3 c s [] rd w lo sc,h⟩
  ·exact ⟨0,true,rd,lo,u4 [] s _ 0 w lo sc,v4 c s [] rd w lo sc,h⟩
  ·refine ⟨bif (dg (((c.drop rd).length/1:Nat):Int) 0) then IntKind.wrap .u64 (IntKind.wrap .u64 (96+IntKind.wrap .u64 (2*nI lo))+1) else IntKind.wrap .u64 (96+IntKind.wrap .u64 (2*nI lo)),true,rd,false,?_,?_,h⟩
   ·rw [u5 [] s _ 0 w lo sc,d0,d1,zuq]
    simp only [List.all_cons,List.all_nil,id_eq,jG,Bool.and_self]
   ·rw [v5 c s [] rd w lo sc,hsome]
  ·exact ⟨0,true,rd,lo,u6 [] s _ 0 w lo sc,v6 c s [] rd w lo sc,h⟩
  ·refine ⟨sc,true,rd,lo,?_,v7 c s [] rd w lo sc,h⟩
   rw [u7 [] s _ 0 w lo sc,uJ (by have:=h.sc;omega) (by have:=h.sc;omega)]
 ·exact ⟨0,false,rd,lo,zr9 _ hno _ _ _ _ _ rfl,qQ hno hx _ _ _ _ _ _,h⟩
end Go.Proofs.Ytiabiimoalkmjaa
namespace Go.Proofs.Ytiabiimoalkmjaa
open Go Go.Sx
set_option maxRecDepth 100000
theorem zqj {x n v:Int} (h:(n != 1||dg x 7)=true) (q s:List DV) (w lo:Bool) (sc:Int):jg [.l (eO q s w lo sc),.i x,.i n,.i v]=[.b true,.b false,.l (eO q s w lo sc)]:=by
 rw [zvr]
 unfold LM
 extract_lets -merge x4 x5 x6 x7 x8 x9 cr cx cv cc bX bZ cM cQ dJ fG dy dW eK eY fL eH fq fZ fc gH gP gI iS gD
 have u12:cv=false:=by show (!(n != 1||dg x 7))=false;rw [h];rfl
 show [DV.b _,.b cv,.l [.l x4,.l (bif cv then fZ else x5),.b (bif cv then fc else x6),.b x7,.i (bif cv then gH else x8)]]=_
 simp only [List.all_cons,List.all_nil,id_eq,BD u12,Bool.and_self]
 rw [u12]
 rfl
theorem pJ {x n v:Int} (h:(n != 1||dg x 7)=true) (c s:List DV) (rd:Nat) (w lo:Bool) (sc:Int):sw [.l (fA c s rd w lo sc),.i x,.i n,.i v]=[.b true,.b false,.l (fA c s rd w lo sc)]:=by
 rw [zxs]
 unfold N46
 extract_lets -merge x4 x5 x6 x7 x8 x9 cr cx cv cc bX bZ cM cQ dJ fG dy dW eK eY fL eH fq fZ fc gH gP gI iS gD
 have u13:cc=false:=by show (!(n != 1||dg x 7))=false;rw [h];rfl
 show [DV.b _,.b cc,.l [.l x4,.l (bif cc then fZ else x5),.i x6,.i (bif cc then fc else x7),.i x8,.i (bif cc then gH else x9)]]=_
 simp only [List.all_cons,List.all_nil,id_eq,BD u13,Bool.and_self]
 rw [u13]
 rfl
theorem wu0 (c s:List DV) (q:List DV) (rd:Nat) (w lo:Bool) (sc v:Int):jg [.l (eO q s w lo sc),.i 0,.i 1,.i v]=[.b ([ow [(true,true),(true,true)] (eP (((s++[DV.i (IntKind.wrap .u8 v)]).length/1:Nat):Int) 225179981368371)].all id),.b true,.l (eO q (s++[.i (IntKind.wrap .u8 v)]) w lo sc)]:=by kernel_rfl
theorem wv0 (c s:List DV) (q:List DV) (rd:Nat) (w lo:Bool) (sc v:Int):sw [.l (fA c s rd w lo sc),.i 0,.i 1,.i v]=[.b ([ow [(true,true),(true,true)] (eP (((s++[DV.i (IntKind.wrap .u8 v)]).length/1:Nat):Int) 225179981368371)].all id),.b true,.l (fA c (s++[.i (IntKind.wrap .u8 v)]) rd w lo sc)]:=by kernel_rfl
theorem wu1 (c s:List DV) (q:List DV) (rd:Nat) (w lo:Bool) (sc v:Int):jg [.l (eO q s w lo sc),.i 1,.i 1,.i v]=[.b true,.b true,.l (eO q s (dD .u64 v 1==1) lo sc)]:=by kernel_rfl
theorem wv1 (c s:List DV) (q:List DV) (rd:Nat) (w lo:Bool) (sc v:Int):sw [.l (fA c s rd w lo sc),.i 1,.i 1,.i v]=[.b true,.b true,.l [.l c,.l s,.i (rd:Int),.i (Int.tmod v 2),.i (nI lo),.i sc]]:=by kernel_rfl
theorem wu7 (c s:List DV) (q:List DV) (rd:Nat) (w lo:Bool) (sc v:Int):jg [.l (eO q s w lo sc),.i 7,.i 1,.i v]=[.b true,.b true,.l (eO q s w lo (IntKind.wrap .u8 v))]:=by kernel_rfl
theorem wv7 (c s:List DV) (q:List DV) (rd:Nat) (w lo:Bool) (sc v:Int):sw [.l (fA c s rd w lo sc),.i 7,.i 1,.i v]=[.b true,.b true,.l (fA c s rd w lo (Int.tmod v 256))]:=by kernel_rfl
theorem wu2 (c s:List DV) (q:List DV) (rd:Nat) (w lo:Bool) (sc v:Int):jg [.l (eO q s w lo sc),.i 2,.i 1,.i v]=[.b true,.b true,.l (eO q s w lo sc)]:=by kernel_rfl
theorem wv2 (c s:List DV) (q:List DV) (rd:Nat) (w lo:Bool) (sc v:Int):sw [.l (fA c s rd w lo sc),.i 2,.i 1,.i v]=[.b true,.b true,.l (fA c s rd w lo sc)]:=by kernel_rfl
theorem wu3 (c s:List DV) (q:List DV) (rd:Nat) (w lo:Bool) (sc v:Int):jg [.l (eO q s w lo sc),.i 3,.i 1,.i v]=[.b true,.b true,.l (eO q s w lo sc)]:=by kernel_rfl
theorem wv3 (c s:List DV) (q:List DV) (rd:Nat) (w lo:Bool) (sc v:Int):sw [.l (fA c s rd w lo sc),.i 3,.i 1,.i v]=[.b true,.b true,.l (fA c s rd w lo sc)]:=by kernel_rfl
theorem wu4 (c s:List DV) (q:List DV) (rd:Nat) (w lo:Bool) (sc v:Int):jg [.l (eO q s w lo sc),.i 4,.i 1,.i v]=[.b true,.b true,.l (eO q s w lo sc)]:=by kernel_rfl
theorem wv4 (c s:List DV) (q:List DV) (rd:Nat) (w lo:Bool) (sc v:Int):sw [.l (fA c s rd w lo sc),.i 4,.i 1,.i v]=[.b true,.b true,.l (fA c s rd w lo sc)]:=by kernel_rfl
theorem wu5 (c s:List DV) (q:List DV) (rd:Nat) (w lo:Bool) (sc v:Int):jg [.l (eO q s w lo sc),.i 5,.i 1,.i v]=[.b true,.b true,.l (eO q s w lo sc)]:=by kernel_rfl
theorem wv5 (c s:List DV) (q:List DV) (rd:Nat) (w lo:Bool) (sc v:Int):sw [.l (fA c s rd w lo sc),.i 5,.i 1,.i v]=[.b true,.b true,.l (fA c s rd w lo sc)]:=by kernel_rfl
theorem wu6 (c s:List DV) (q:List DV) (rd:Nat) (w lo:Bool) (sc v:Int):jg [.l (eO q s w lo sc),.i 6,.i 1,.i v]=[.b true,.b true,.l (eO q s w lo sc)]:=by kernel_rfl
theorem wv6 (c s:List DV) (q:List DV) (rd:Nat) (w lo:Bool) (sc v:Int):sw [.l (fA c s rd w lo sc),.i 6,.i 1,.i v]=[.b true,.b true,.l (fA c s rd w lo sc)]:=by kernel_rfl
theorem zvs {c s:List DV} {rd:Nat} {sc:Int} (h:nU c s rd sc) (hs:s.length<35184372088832) (w lo:Bool) {x n v:Int} (hx:0<=x) (hv:0<=v/\v<18446744073709551616) :
  ∃ is s' w' LN,jg [.l (eO (c.drop rd) s w lo sc),.i x,.i n,.i v]=[.b true,.b is,.l (eO (c.drop rd) s' w' lo LN)]/\sw [.l (fA c s rd w lo sc),.i x,.i n,.i v]=[.b true,.b is,.l (fA c s' rd w' lo LN)]/\nU c s' rd LN/\s'.length<=s.length+1:=by
 have P:eP (((s++[DV.i (IntKind.wrap .u8 v)]).length/1:Nat):Int) 225179981368371=true:=by rw [iI,List.length_append];exact decide_eq_true (by simp;omega)
 have P2:([ow [(true,true),(true,true)] (eP (((s++[DV.i (IntKind.wrap .u8 v)]).length/1:Nat):Int) 225179981368371)].all id)=true:=by rw [P];rfl
 rcases zyJ (n:=n) hx with ⟨rfl,hh⟩ | hno
 ·rcases hh with rfl | rfl | rfl | rfl | rfl | rfl | rfl | rfl
  ·refine ⟨true,s++[.i (IntKind.wrap .u8 v)],w,sc,?_,?_,⟨h.rd,h.c,h.sc⟩,by simp⟩
   ·rw [wu0 [] s _ 0 w lo sc v,P2]
   ·rw [wv0 c s [] rd w lo sc v,P2]
  ·refine ⟨true,s,(dD .u64 v 1==1),sc,wu1 [] s _ 0 w lo sc v,?_,h,by omega⟩
   rw [wv1 c s [] rd w lo sc v]
   have e:Int.tmod v 2=nI (dD .u64 v 1==1):=by
    rw [show dD .u64 v 1=v%2 from zS hv.1 hv.2 1 (by decide) rfl rfl,Int.tmod_eq_emod_of_nonneg hv.1]
    rcases Int.emod_two_eq v with e | e<;>rw [e]<;>rfl
   rw [e]
  ·exact ⟨true,s,w,sc,wu2 [] s _ 0 w lo sc v,wv2 c s [] rd w lo sc v,h,by omega⟩
  ·exact ⟨true,s,w,sc,wu3 [] s _ 0 w lo sc v,wv3 c s [] rd w lo sc v,h,by omega⟩
  ·exact ⟨true,s,w,sc,wu4 [] s _ 0 w lo sc v,wv4 c s [] rd w lo sc v,h,by omega⟩
  ·exact ⟨true,s,w,sc,wu5 [] s _ 0 w lo sc v,wv5 c s [] rd w lo sc v,h,by omega⟩
  ·exact ⟨true,s,w,sc,wu6 [] s _ 0 w lo sc v,wv6 c s [] rd w lo sc v,h,by omega⟩
  ·refine ⟨true,s,w,IntKind.wrap .u8 v,wu7 [] s _ 0 w lo sc v,?_,⟨h.rd,h.c,by rw [Yw];omega⟩,by omega⟩
   rw [wv7 c s [] rd w lo sc v,Int.tmod_eq_emod_of_nonneg hv.1,Yw]
 ·exact ⟨false,s,w,sc,zqj hno _ _ _ _ _,pJ hno _ _ _ _ _ _,h,by omega⟩
theorem gu (q s:List DV) (w lo:Bool) (sc b:Int):uD [.l (eO q s w lo sc),.i b]=[.b ([ow [(!(ew ((q.length/1:Nat):Int) 16),true)] (eP (((q++[DV.i b]).length/1:Nat):Int) 225179981368371)].all id),
  .l (eO (bif !(ew ((q.length/1:Nat):Int) 16) then q++[.i b] else q) s w (bif !(ew ((q.length/1:Nat):Int) 16) then lo else true) sc)]:=by kernel_rfl
theorem gv (c s:List DV) (rd:Nat) (w lo:Bool) (sc b:Int):vq [.l (fA c s rd w lo sc),.i b]=[.b ([ow [(c_ (IntKind.wrap .i64 (((c.length/1:Nat):Int)-(rd:Int))) 16,true)] (eP (((c++[DV.i b]).length/1:Nat):Int) 225179981368371)].all id),
  .l [.l (bif c_ (IntKind.wrap .i64 (((c.length/1:Nat):Int)-(rd:Int))) 16 then c++[.i b] else c),.l s,.i (rd:Int),.i (nI w),.i (bif c_ (IntKind.wrap .i64 (((c.length/1:Nat):Int)-(rd:Int))) 16 then nI lo else 1),.i sc]]:=by kernel_rfl
theorem zxu {c s:List DV} {rd:Nat} {sc:Int} (h:nU c s rd sc) (hc:c.length+1<1099511627776) (w lo:Bool) (b:Int) :
  ∃ c' lo',uD [.l (eO (c.drop rd) s w lo sc),.i b]=[.b true,.l (eO (c'.drop rd) s w lo' sc)]/\vq [.l (fA c s rd w lo sc),.i b]=[.b true,.l (fA c' s rd w lo' sc)]/\nU c' s rd sc/\c'.length<=c.length+1:=by
 have hrd:=h.rd
 have e1:ew (((c.drop rd).length/1:Nat):Int) 16 = !c_ (IntKind.wrap .i64 (((c.length/1:Nat):Int)-(rd:Int))) 16:=by
  rw [iI,iI,List.length_drop,IntKind.wrap_i64]
  have:decide (((c.length-rd:Nat):Int)>=16) = !decide ((c.length:Int)-rd<16):=by rw [Bool.eq_iff_iff];simp;omega
  show decide (((c.length-rd:Nat):Int)>=16)=_
  rw [this]
  congr 1
  apply decide_eq_decide.2
  omega
 have P1:eP ((((c.drop rd)++[DV.i b]).length/1:Nat):Int) 225179981368371=true:=by rw [iI,List.length_append,List.length_drop];exact decide_eq_true (by simp;omega)
 have P2:eP (((c++[DV.i b]).length/1:Nat):Int) 225179981368371=true:=by rw [iI,List.length_append];exact decide_eq_true (by simp;omega)
 rw [gu,gv,e1,P1,P2,Bool.not_not]
 simp only [List.all_cons,List.all_nil,id_eq,jG,Bool.and_self]
 cases c_ (IntKind.wrap .i64 (((c.length/1:Nat):Int)-(rd:Int))) 16 with
 | true =>
  refine ⟨c++[.i b],lo,?_,rfl,⟨by simp;omega,by simp;omega,h.sc⟩,by simp⟩
  rw [List.drop_append_of_le_length hrd]
  rfl
 | false=>exact ⟨c,true,rfl,rfl,h,by omega⟩
theorem zzy {c s:List DV} {rd:Nat} {sc:Int} (h:nU c s rd sc) (w lo:Bool):∃ u,wW [.l (eO (c.drop rd) s w lo sc)]=[.b u]/\Dp [.l (fA c s rd w lo sc)]=[.b u]:=by
 have e1:wW [.l (eO (c.drop rd) s w lo sc)]=[.b (w&&dg (((c.drop rd).length/1:Nat):Int) 0)]:=by kernel_rfl
 have e2:Dp [.l (fA c s rd w lo sc)]=[.b ((nI w==1)&&c_ (rd:Int) ((c.length/1:Nat):Int))]:=by kernel_rfl
 refine ⟨_,e1,e2.trans ?_⟩
 have hsome:dg (((c.drop rd).length/1:Nat):Int) 0=c_ (rd:Int) ((c.length/1:Nat):Int):=by
  rw [iI,iI,List.length_drop]
  exact decide_eq_decide.2 (by omega)
 rw [hsome]
 cases w<;>rfl
theorem zxv (c s:List DV) (rd:Nat) (w lo:Bool) (sc:Int) (hs:s.length<=35184372088832):GI [.l (eO (c.drop rd) s w lo sc)]=[.b true,.l s]/\Kz [.l (fA c s rd w lo sc)]=[.b true,.l s]:=by
 have P:eP (((s.length:Nat)/1:Nat):Int) 225179981368371=true:=by rw [Nat.div_one];exact decide_eq_true (by omega)
 have e1:GI [.l (eO (c.drop rd) s w lo sc)]=[.b ([ow [] (eP ((s.length/1:Nat):Int) 225179981368371)].all id),.l s]:=by kernel_rfl
 have e2:Kz [.l (fA c s rd w lo sc)]=[.b ([ow [] (eP ((s.length/1:Nat):Int) 225179981368371)].all id),.l s]:=by kernel_rfl
 rw [e1,e2,P]
 exact ⟨rfl,rfl⟩
theorem zur {c s:List DV} {rd:Nat} {sc:Int} (h:nU c s rd sc) (hs:s.length<=35184372088832) (w lo:Bool):Bj [.l (eO (c.drop rd) s w lo sc)]=[.b true,.l (eO (c.drop rd) s w lo sc),.l (eO (c.drop rd) s w lo sc)]/\Dq [.l (fA c s rd w lo sc)]=[.b true,.l (fA c s rd w lo sc)]:=by
 have hc:=h.c
 have t:∀ q:List DV,q.take (Int.toNat ((q.length/1:Nat):Int)*1)=q:=fun q=>by rw [Nat.div_one,Int.toNat_natCast,Nat.mul_one,List.take_length]
 have e1:∀ q:List DV,Bj [.l (eO q s w lo sc)]=[.b ([ow [] (ew ((q.length/1:Nat):Int) 0),ow [] (((q.length/1:Nat):Int)==((q.length/1:Nat):Int)),ow [] (eP ((q.length/1:Nat):Int) ((q.length/1:Nat):Int)),ow [] (ew ((s.length/1:Nat):Int) 0),ow [] (((s.length/1:Nat):Int)==((s.length/1:Nat):Int)),ow [] (eP ((s.length/1:Nat):Int) ((s.length/1:Nat):Int))].all id),
   .l (eO (q.take (Int.toNat ((q.length/1:Nat):Int)*1)) (s.take (Int.toNat ((s.length/1:Nat):Int)*1)) w lo sc),.l (eO (q.take (Int.toNat ((q.length/1:Nat):Int)*1)) (s.take (Int.toNat ((s.length/1:Nat):Int)*1)) w lo sc)]:=fun q=>by kernel_rfl
 have e2:Dq [.l (fA c s rd w lo sc)]=[.b ([ow [] (eP ((c.length/1:Nat):Int) 225179981368371),ow [] (eP ((s.length/1:Nat):Int) 225179981368371)].all id),.l (fA c s rd w lo sc)]:=by kernel_rfl
 have i1:∀ k:Nat,ew ((k/1:Nat):Int) 0=true:=fun k=>decide_eq_true (by omega)
 have i2:∀ k:Nat,eP ((k/1:Nat):Int) ((k/1:Nat):Int)=true:=fun k=>decide_eq_true (by omega)
 have i3:eP ((c.length/1:Nat):Int) 225179981368371=true:=by rw [iI];exact decide_eq_true (by omega)
 have i4:eP ((s.length/1:Nat):Int) 225179981368371=true:=by rw [iI];exact decide_eq_true (by omega)
 rw [e1,e2,t,t,i3,i4]
 simp only [i1,i2,beq_self_eq_true,List.all_cons,List.all_nil,id_eq,jG,Bool.and_self]
 exact ⟨trivial,trivial⟩
theorem YB:Kv []=[.l (eO (([]:List DV).drop 0) [] false false 0)]/\Pn []=[.l (fA [] [] 0 false false 0)]/\nU [] [] 0 0:=⟨by kernel_rfl,by kernel_rfl,by decide,by decide,by decide⟩
end Go.Proofs.Ytiabiimoalkmjaa
namespace Go.Sx
open Go
def mk:List Bool->Nat
 | []=>0
 | b::l=>2*mk l+b.toNat
theorem zyK:∀ l:List Bool,mk l<2^l.length
 | []=>by decide
 | b::l=>by
  have:=zyK l
  show 2*mk l+b.toNat<2^(l.length+1)
  rw [Nat.pow_succ]
  have:b.toNat<=1:=Bool.toNat_le b
  omega
theorem zlK:∀ (l:List Bool) (j:Nat),(mk l).testBit j=l.getD j false
 | [],j=>by simp [mk]
 | b::l,0=>by
  show (2*mk l+b.toNat).testBit 0=b
  rw [Nat.testBit_zero]
  cases b<;>simp [Bool.toNat]<;>omega
 | b::l,j+1=>by
  show (2*mk l+b.toNat).testBit (j+1)=_
  rw [Nat.testBit_succ]
  have:(2*mk l+b.toNat)/2=mk l:=by cases b<;>simp [Bool.toNat]<;>omega
  rw [this,zlK l j]
  rfl
end Go.Sx
namespace Go.Proofs.Ytiabiimoalkmjaa
open Go Go.Sx
set_option maxRecDepth 100000
def iJ (f:Nat->Bool):Nat:=mk [f 0,f 1,f 2,f 3,f 4,f 5,f 6,f 7,f 8]
abbrev aN (f:Nat->Bool):Int:=(iJ f:Int)
def e_ {α:Type} (f:Nat->α) (n:Nat) (v:α):Nat->α:=fun j=>if j=n then v else f j
theorem nine {P:Nat->Prop} (h0:P 0) (h1:P 1) (h2:P 2) (h3:P 3) (h4:P 4) (h5:P 5) (h6:P 6) (h7:P 7) (h8:P 8):∀ j,j<9->P j
 | 0,_=>h0 | 1,_=>h1 | 2,_=>h2 | 3,_=>h3 | 4,_=>h4 | 5,_=>h5 | 6,_=>h6 | 7,_=>h7 | 8,_=>h8
theorem ye (f:Nat->Bool) (j:Nat):(iJ f).testBit j=(decide (j<9)&&f j):=by
 unfold iJ
 rw [zlK]
 by_cases h:j<9
 ·rw [decide_eq_true h,Bool.true_and]
  exact nine (P:=fun j=>[f 0,f 1,f 2,f 3,f 4,f 5,f 6,f 7,f 8].getD j false=f j) rfl rfl rfl rfl rfl rfl rfl rfl rfl j h
 ·rw [decide_eq_false h,Bool.false_and,List.getD_eq_getElem?_getD,List.getElem?_eq_none (by simp;omega)]
  rfl
theorem zU (f:Nat->Bool):iJ f<512:=by
 have h:=zyK [f 0,f 1,f 2,f 3,f 4,f 5,f 6,f 7,f 8]
 rw [show [f 0,f 1,f 2,f 3,f 4,f 5,f 6,f 7,f 8].length=9 from rfl,show (2:Nat)^9=512 by decide] at h
 unfold iJ
 exact h
theorem YC {f g:Nat->Bool} (h:∀ j,j<9->f j=g j):iJ f=iJ g:=by
 unfold iJ
 rw [h 0 (by decide),h 1 (by decide),h 2 (by decide),h 3 (by decide),h 4 (by decide),h 5 (by decide),h 6 (by decide),h 7 (by decide),h 8 (by decide)]
theorem Hp {f:Nat->Bool} {n:Nat} (h:∀ j,n.testBit j=(decide (j<9)&&f j)):n=iJ f:=Nat.eq_of_testBit_eq fun j=>(h j).trans (ye f j).symm
theorem YD {n:Nat} (hn:n<9):aF .u64 1 (n:Int)=((2^n:Nat):Int) :=
 nine (P:=fun n=>aF .u64 1 (n:Int)=((2^n:Nat):Int)) (by decide) (by decide) (by decide) (by decide) (by decide) (by decide) (by decide) (by decide) (by decide) n hn
theorem zvZ {n:Nat} (hn:n<9):2^n<18446744073709551616:=Nat.lt_of_le_of_lt (Nat.pow_le_pow_right (by decide) (show n<=8 by omega)) (by decide)
theorem Hr (f:Nat->Bool) {n:Nat} (hn:n<9):dx .u64 (aN f) (aF .u64 1 (n:Int))=aN (e_ f n false):=by
 have h1:=zU f
 have h2:=zvZ hn
 rw [YD hn,LF (by omega) h2]
 congr 1
 refine Hp fun j=>?_
 have e:18446744073709551615-2^n=2^64-(2^n+1):=by omega
 rw [Nat.testBit_and,ye,e,Nat.testBit_two_pow_sub_succ h2,Nat.testBit_two_pow]
 unfold e_
 by_cases hj:j<9
 ·by_cases e:j=n
  ·subst e;simp
  ·have:¬ n=j:=fun h=>e h.symm
   simp [e,this,hj]
   omega
 ·simp [hj]
theorem YE (f:Nat->Bool) {n:Nat} (hn:n<9):bB .u64 (aN f) (aF .u64 1 (n:Int))=aN (e_ f n true):=by
 have h1:=zU f
 have h2:=zvZ hn
 rw [YD hn,LD (by omega) h2]
 congr 1
 refine Hp fun j=>?_
 rw [Nat.testBit_or,ye,Nat.testBit_two_pow]
 unfold e_
 by_cases e:j=n
 ·subst e;simp [hn]
 ·have:¬ n=j:=fun h=>e h.symm
  simp [e,this]
theorem zrg (w u s:Nat->Bool):bB .u64 (aN w) (dx .u64 (aN u) (aN s))=aN (fun j=>w j||(u j&&!s j)):=by
 have h1:=zU w
 have h2:=zU u
 have h3:=zU s
 have e:iJ u &&& (18446744073709551615-iJ s)=iJ (fun j=>u j&&!s j):=by
  refine Hp fun j=>?_
  have e:18446744073709551615-iJ s=2^64-(iJ s+1):=by omega
  rw [Nat.testBit_and,ye,e,Nat.testBit_two_pow_sub_succ (by omega),ye]
  by_cases hj:j<9
  ·have:j<64:=by omega
   simp [hj,this]
  ·simp [hj]
 rw [LF (by omega) (by omega),e,LD (by omega) (by have:=zU (fun j=>u j&&!s j);omega)]
 congr 1
 refine Hp fun j=>?_
 rw [Nat.testBit_or,ye,ye]
 cases decide (j<9)<;>simp
theorem YF (a b:Nat->Bool):dD .u64 (aN a) (aN b)=aN (fun j=>a j&&b j):=by
 have h1:=zU a
 have h2:=zU b
 rw [Hj (by omega) (by omega)]
 congr 1
 refine Hp fun j=>?_
 rw [Nat.testBit_and,ye,ye]
 cases decide (j<9)<;>simp
theorem YG (f:Nat->Bool) {n:Nat} (hn:n<9):(dD .u64 (cW .u64 (aN f) (n:Int)) 1==1)=f n:=by
 have h1:=zU f
 have s:cW .u64 (aN f) (n:Int)=((iJ f/2^n:Nat):Int):=LG n (by omega) rfl
 have q:iJ f/2^n<=iJ f:=Nat.div_le_self _ _
 rw [s,show (1:Int)=((1:Nat):Int) from rfl,Hj (by omega) (by decide),Nat.and_one_is_mod]
 have:=ye f n
 rw [Nat.testBit_eq_decide_div_mod_eq,decide_eq_true hn,Bool.true_and] at this
 rw [<-this,LI]
 apply decide_eq_decide.2
 omega
abbrev iU (pr:Nat->Int) (up wa se e0 e1:Nat->Bool):List DV:=[.i (pr 0),.b (up 0),.b (wa 0),.b (se 0),.b (e0 0),.b (e1 0),.i (pr 1),.b (up 1),.b (wa 1),.b (se 1),.b (e0 1),.b (e1 1),.i (pr 2),.b (up 2),.b (wa 2),.b (se 2),.b (e0 2),.b (e1 2),.i (pr 3),.b (up 3),.b (wa 3),.b (se 3),.b (e0 3),.b (e1 3),.i (pr 4),.b (up 4),.b (wa 4),.b (se 4),.b (e0 4),.b (e1 4),.i (pr 5),.b (up 5),.b (wa 5),.b (se 5),.b (e0 5),.b (e1 5),.i (pr 6),.b (up 6),.b (wa 6),.b (se 6),.b (e0 6),.b (e1 6),.i (pr 7),.b (up 7),.b (wa 7),.b (se 7),.b (e0 7),.b (e1 7),.i (pr 8),.b (up 8),.b (wa 8),.b (se 8),.b (e0 8),.b (e1 8)]
abbrev cj (pr:Nat->Int) (up wa se e0 e1:Nat->Bool) (t0 t1:Int):List DV:=[.l (iU pr up wa se e0 e1),.i t0,.i t1]
abbrev cy (pr:Nat->Int) (up wa se e0 e1:Nat->Bool) (t0 t1:Int):List DV:=[.i (aN up),.i (aN wa),.i (aN se),.l [.i (aN e0),.i (aN e1)],.l [.i (pr 0),.i (pr 1),.i (pr 2),.i (pr 3),.i (pr 4),.i (pr 5),.i (pr 6),.i (pr 7),.i (pr 8)],.l [.i t0,.i t1]]
structure gS (pr:Nat->Int) (up wa se e0 e1:Nat->Bool) (t0 t1:Int):Prop where
 p0:pr 0=0
 pr:∀ n,0<=pr n/\pr n<=7
 z:up 0=false/\wa 0=false/\se 0=false/\e0 0=false/\e1 0=false
 t0:0<=t0/\t0<=7
 t1:0<=t1/\t1<=7
 inv:∀ n,up n=true->se n=false->wa n=true
theorem lu1 (pr:Nat->Int) (up wa se e0 e1:Nat->Bool) (t0 t1:Int) (u:Bool):mQ [.l (cj pr up wa se e0 e1 t0 t1),.i 1,.b u]=[.b true,.b true,.l (cj pr (e_ up 1 u) (e_ wa 1 (wa 1||(u&&!se 1))) se e0 e1 t0 t1)]:=by kernel_rfl
theorem lu2 (pr:Nat->Int) (up wa se e0 e1:Nat->Bool) (t0 t1:Int) (u:Bool):mQ [.l (cj pr up wa se e0 e1 t0 t1),.i 2,.b u]=[.b true,.b true,.l (cj pr (e_ up 2 u) (e_ wa 2 (wa 2||(u&&!se 2))) se e0 e1 t0 t1)]:=by kernel_rfl
theorem lu3 (pr:Nat->Int) (up wa se e0 e1:Nat->Bool) (t0 t1:Int) (u:Bool):mQ [.l (cj pr up wa se e0 e1 t0 t1),.i 3,.b u]=[.b true,.b true,.l (cj pr (e_ up 3 u) (e_ wa 3 (wa 3||(u&&!se 3))) se e0 e1 t0 t1)]:=by kernel_rfl
theorem lu4 (pr:Nat->Int) (up wa se e0 e1:Nat->Bool) (t0 t1:Int) (u:Bool):mQ [.l (cj pr up wa se e0 e1 t0 t1),.i 4,.b u]=[.b true,.b true,.l (cj pr (e_ up 4 u) (e_ wa 4 (wa 4||(u&&!se 4))) se e0 e1 t0 t1)]:=by kernel_rfl
theorem lu5 (pr:Nat->Int) (up wa se e0 e1:Nat->Bool) (t0 t1:Int) (u:Bool):mQ [.l (cj pr up wa se e0 e1 t0 t1),.i 5,.b u]=[.b true,.b true,.l (cj pr (e_ up 5 u) (e_ wa 5 (wa 5||(u&&!se 5))) se e0 e1 t0 t1)]:=by kernel_rfl
theorem lu6 (pr:Nat->Int) (up wa se e0 e1:Nat->Bool) (t0 t1:Int) (u:Bool):mQ [.l (cj pr up wa se e0 e1 t0 t1),.i 6,.b u]=[.b true,.b true,.l (cj pr (e_ up 6 u) (e_ wa 6 (wa 6||(u&&!se 6))) se e0 e1 t0 t1)]:=by kernel_rfl
theorem lu7 (pr:Nat->Int) (up wa se e0 e1:Nat->Bool) (t0 t1:Int) (u:Bool):mQ [.l (cj pr up wa se e0 e1 t0 t1),.i 7,.b u]=[.b true,.b true,.l (cj pr (e_ up 7 u) (e_ wa 7 (wa 7||(u&&!se 7))) se e0 e1 t0 t1)]:=by kernel_rfl
theorem lu8 (pr:Nat->Int) (up wa se e0 e1:Nat->Bool) (t0 t1:Int) (u:Bool):mQ [.l (cj pr up wa se e0 e1 t0 t1),.i 8,.b u]=[.b true,.b true,.l (cj pr (e_ up 8 u) (e_ wa 8 (wa 8||(u&&!se 8))) se e0 e1 t0 t1)]:=by kernel_rfl
theorem lv1 (pr:Nat->Int) (up wa se e0 e1:Nat->Bool) (t0 t1:Int) (u:Bool):mR [.l (cy pr up wa se e0 e1 t0 t1),.i 1,.b u]=[.b ([ow [(true,true),(u,true)] (decide ((1:Int)>=0))].all id),.b true,.l [.i (bif u then bB .u64 (dx .u64 (aN up) (aF .u64 1 1)) (aF .u64 1 1) else dx .u64 (aN up) (aF .u64 1 1)),.i (bB .u64 (aN wa) (dx .u64 (bif u then bB .u64 (dx .u64 (aN up) (aF .u64 1 1)) (aF .u64 1 1) else dx .u64 (aN up) (aF .u64 1 1)) (aN se))),.i (aN se),.l [.i (aN e0),.i (aN e1)],.l [.i (pr 0),.i (pr 1),.i (pr 2),.i (pr 3),.i (pr 4),.i (pr 5),.i (pr 6),.i (pr 7),.i (pr 8)],.l [.i t0,.i t1]]]:=by kernel_rfl
theorem lv2 (pr:Nat->Int) (up wa se e0 e1:Nat->Bool) (t0 t1:Int) (u:Bool):mR [.l (cy pr up wa se e0 e1 t0 t1),.i 2,.b u]=[.b ([ow [(true,true),(u,true)] (decide ((2:Int)>=0))].all id),.b true,.l [.i (bif u then bB .u64 (dx .u64 (aN up) (aF .u64 1 2)) (aF .u64 1 2) else dx .u64 (aN up) (aF .u64 1 2)),.i (bB .u64 (aN wa) (dx .u64 (bif u then bB .u64 (dx .u64 (aN up) (aF .u64 1 2)) (aF .u64 1 2) else dx .u64 (aN up) (aF .u64 1 2)) (aN se))),.i (aN se),.l [.i (aN e0),.i (aN e1)],.l [.i (pr 0),.i (pr 1),.i (pr 2),.i (pr 3),.i (pr 4),.i (pr 5),.i (pr 6),.i (pr 7),.i (pr 8)],.l [.i t0,.i t1]]]:=by kernel_rfl
theorem lv3 (pr:Nat->Int) (up wa se e0 e1:Nat->Bool) (t0 t1:Int) (u:Bool):mR [.l (cy pr up wa se e0 e1 t0 t1),.i 3,.b u]=[.b ([ow [(true,true),(u,true)] (decide ((3:Int)>=0))].all id),.b true,.l [.i (bif u then bB .u64 (dx .u64 (aN up) (aF .u64 1 3)) (aF .u64 1 3) else dx .u64 (aN up) (aF .u64 1 3)),.i (bB .u64 (aN wa) (dx .u64 (bif u then bB .u64 (dx .u64 (aN up) (aF .u64 1 3)) (aF .u64 1 3) else dx .u64 (aN up) (aF .u64 1 3)) (aN se))),.i (aN se),.l [.i (aN e0),.i (aN e1)],.l [.i (pr 0),.i (pr 1),.i (pr 2),.i (pr 3),.i (pr 4),.i (pr 5),.i (pr 6),.i (pr 7),.i (pr 8)],.l [.i t0,.i t1]]]:=by kernel_rfl
theorem lv4 (pr:Nat->Int) (up wa se e0 e1:Nat->Bool) (t0 t1:Int) (u:Bool):mR [.l (cy pr up wa se e0 e1 t0 t1),.i 4,.b u]=[.b ([ow [(true,true),(u,true)] (decide ((4:Int)>=0))].all id),.b true,.l [.i (bif u then bB .u64 (dx .u64 (aN up) (aF .u64 1 4)) (aF .u64 1 4) else dx .u64 (aN up) (aF .u64 1 4)),.i (bB .u64 (aN wa) (dx .u64 (bif u then bB .u64 (dx .u64 (aN up) (aF .u64 1 4)) (aF .u64 1 4) else dx .u64 (aN up) (aF .u64 1 4)) (aN se))),.i (aN se),.l [.i (aN e0),.i (aN e1)],.l [.i (pr 0),.i (pr 1),.i (pr 2),.i (pr 3),.i (pr 4),.i (pr 5),.i (pr 6),.i (pr 7),.i (pr 8)],.l [.i t0,.i t1]]]:=by kernel_rfl
theorem lv5 (pr:Nat->Int) (up wa se e0 e1:Nat->Bool) (t0 t1:Int) (u:Bool):mR [.l (cy pr up wa se e0 e1 t0 t1),.i 5,.b u]=[.b ([ow [(true,true),(u,true)] (decide ((5:Int)>=0))].all id),.b true,.l [.i (bif u then bB .u64 (dx .u64 (aN up) (aF .u64 1 5)) (aF .u64 1 5) else dx .u64 (aN up) (aF .u64 1 5)),.i (bB .u64 (aN wa) (dx .u64 (bif u then bB .u64 (dx .u64 (aN up) (aF .u64 1 5)) (aF .u64 1 5) else dx .u64 (aN up) (aF .u64 1 5)) (aN se))),.i (aN se),.l [.i (aN e0),.i (aN e1)],.l [.i (pr 0),.i (pr 1),.i (pr 2),.i (pr 3),.i (pr 4),.i (pr 5),.i (pr 6),.i (pr 7),.i (pr 8)],.l [.i t0,.i t1]]]:=by kernel_rfl
theorem lv6 (pr:Nat->Int) (up wa se e0 e1:Nat->Bool) (t0 t1:Int) (u:Bool):mR [.l (cy pr up wa se e0 e1 t0 t1),.i 6,.b u]=[.b ([ow [(true,true),(u,true)] (decide ((6:Int)>=0))].all id),.b true,.l [.i (bif u then bB .u64 (dx .u64 (aN up) (aF .u64 1 6)) (aF .u64 1 6) else dx .u64 (aN up) (aF .u64 1 6)),.i (bB .u64 (aN wa) (dx .u64 (bif u then bB .u64 (dx .u64 (aN up) (aF .u64 1 6)) (aF .u64 1 6) else dx .u64 (aN up) (aF .u64 1 6)) (aN se))),.i (aN se),.l [.i (aN e0),.i (aN e1)],.l [.i (pr 0),.i (pr 1),.i (pr 2),.i (pr 3),.i (pr 4),.i (pr 5),.i (pr 6),.i (pr 7),.i (pr 8)],.l [.i t0,.i t1]]]:=by kernel_rfl
theorem lv7 (pr:Nat->Int) (up wa se e0 e1:Nat->Bool) (t0 t1:Int) (u:Bool):mR [.l (cy pr up wa se e0 e1 t0 t1),.i 7,.b u]=[.b ([ow [(true,true),(u,true)] (decide ((7:Int)>=0))].all id),.b true,.l [.i (bif u then bB .u64 (dx .u64 (aN up) (aF .u64 1 7)) (aF .u64 1 7) else dx .u64 (aN up) (aF .u64 1 7)),.i (bB .u64 (aN wa) (dx .u64 (bif u then bB .u64 (dx .u64 (aN up) (aF .u64 1 7)) (aF .u64 1 7) else dx .u64 (aN up) (aF .u64 1 7)) (aN se))),.i (aN se),.l [.i (aN e0),.i (aN e1)],.l [.i (pr 0),.i (pr 1),.i (pr 2),.i (pr 3),.i (pr 4),.i (pr 5),.i (pr 6),.i (pr 7),.i (pr 8)],.l [.i t0,.i t1]]]:=by kernel_rfl
theorem lv8 (pr:Nat->Int) (up wa se e0 e1:Nat->Bool) (t0 t1:Int) (u:Bool):mR [.l (cy pr up wa se e0 e1 t0 t1),.i 8,.b u]=[.b ([ow [(true,true),(u,true)] (decide ((8:Int)>=0))].all id),.b true,.l [.i (bif u then bB .u64 (dx .u64 (aN up) (aF .u64 1 8)) (aF .u64 1 8) else dx .u64 (aN up) (aF .u64 1 8)),.i (bB .u64 (aN wa) (dx .u64 (bif u then bB .u64 (dx .u64 (aN up) (aF .u64 1 8)) (aF .u64 1 8) else dx .u64 (aN up) (aF .u64 1 8)) (aN se))),.i (aN se),.l [.i (aN e0),.i (aN e1)],.l [.i (pr 0),.i (pr 1),.i (pr 2),.i (pr 3),.i (pr 4),.i (pr 5),.i (pr 6),.i (pr 7),.i (pr 8)],.l [.i t0,.i t1]]]:=by kernel_rfl
theorem pK {α:Type} (f:Nat->α) (n:Nat) (v:α) (j:Nat):e_ f n v j=if j=n then v else f j:=rfl
theorem zyL (up:Nat->Bool) {n:Nat} (hn:n<9) (u:Bool):(bif u then bB .u64 (dx .u64 (aN up) (aF .u64 1 (n:Int))) (aF .u64 1 (n:Int)) else dx .u64 (aN up) (aF .u64 1 (n:Int)))=aN (e_ up n u):=by
 cases u with
 | false=>exact Hr up hn
 | true =>
  rw [cond_true,Hr up hn,YE _ hn]
  refine congrArg (fun k:Nat=>(k:Int)) (YC fun j _=>?_)
  rw [pK,pK,pK]
  by_cases h:j=n<;>simp [h]
theorem zvt {up wa se:Nat->Bool} (hi:∀ n,up n=true->se n=false->wa n=true) (n:Nat) (u:Bool):aN (fun j=>wa j||(e_ up n u j&&!se j))=aN (e_ wa n (wa n||(u&&!se n))):=by
 refine congrArg (fun k:Nat=>(k:Int)) (YC fun j _=>?_)
 rw [pK,pK]
 by_cases h:j=n
 ·subst h;simp
 ·simp only [if_neg h]
  cases h1:up j<;>cases h2:se j<;>cases h3:wa j<;>first | rfl | (have:=hi j h1 h2;rw [h3] at this;cases this)
theorem zut {pr:Nat->Int} {up wa se e0 e1:Nat->Bool} {t0 t1:Int} (h:gS pr up wa se e0 e1 t0 t1) {n:Nat} (h1:1<=n) (h8:n<=8) (u:Bool) :
  mQ [.l (cj pr up wa se e0 e1 t0 t1),.i n,.b u]=[.b true,.b true,.l (cj pr (e_ up n u) (e_ wa n (wa n||(u&&!se n))) se e0 e1 t0 t1)]/\mR [.l (cy pr up wa se e0 e1 t0 t1),.i n,.b u]=[.b true,.b true,.l (cy pr (e_ up n u) (e_ wa n (wa n||(u&&!se n))) se e0 e1 t0 t1)]/\gS pr (e_ up n u) (e_ wa n (wa n||(u&&!se n))) se e0 e1 t0 t1:=by
 have hn:n<9:=by omega
 refine ⟨?_,?_,?_⟩
 ·rcases (by omega:n=1\/n=2\/n=3\/n=4\/n=5\/n=6\/n=7\/n=8) with rfl | rfl | rfl | rfl | rfl | rfl | rfl | rfl
  ·exact lu1 ..
  ·exact lu2 ..
  ·exact lu3 ..
  ·exact lu4 ..
  ·exact lu5 ..
  ·exact lu6 ..
  ·exact lu7 ..
  ·exact lu8 ..
 ·have key:mR [.l (cy pr up wa se e0 e1 t0 t1),.i n,.b u]=[.b ([ow [(true,true),(u,true)] (decide ((n:Int)>=0))].all id),.b true,.l [.i (bif u then bB .u64 (dx .u64 (aN up) (aF .u64 1 (n:Int))) (aF .u64 1 (n:Int)) else dx .u64 (aN up) (aF .u64 1 (n:Int))),.i (bB .u64 (aN wa) (dx .u64 (bif u then bB .u64 (dx .u64 (aN up) (aF .u64 1 (n:Int))) (aF .u64 1 (n:Int)) else dx .u64 (aN up) (aF .u64 1 (n:Int))) (aN se))),.i (aN se),.l [.i (aN e0),.i (aN e1)],.l [.i (pr 0),.i (pr 1),.i (pr 2),.i (pr 3),.i (pr 4),.i (pr 5),.i (pr 6),.i (pr 7),.i (pr 8)],.l [.i t0,.i t1]]]:=by
   rcases (by omega:n=1\/n=2\/n=3\/n=4\/n=5\/n=6\/n=7\/n=8) with rfl | rfl | rfl | rfl | rfl | rfl | rfl | rfl
   ·exact lv1 ..
   ·exact lv2 ..
   ·exact lv3 ..
   ·exact lv4 ..
   ·exact lv5 ..
   ·exact lv6 ..
   ·exact lv7 ..
   ·exact lv8 ..
  rw [key,zyL up hn,zrg,zvt h.inv n u,decide_eq_true (show (n:Int)>=0 by omega)]
  simp only [List.all_cons,List.all_nil,id_eq,jG,Bool.and_self]
 ·have hz:¬ (0=n):=by omega
  refine ⟨h.p0,h.pr,?_,h.t0,h.t1,fun j hu hs=>?_⟩
  ·rw [pK,pK,if_neg hz,if_neg hz]
   exact h.z
  ·rw [pK] at hu ⊢
   by_cases e:j=n
   ·subst e
    rw [if_pos rfl] at hu ⊢
    rw [hu,hs]
    simp
   ·rw [if_neg e] at hu ⊢
    exact h.inv j hu hs
end Go.Proofs.Ytiabiimoalkmjaa
namespace Go.Sx
variable {F:aC} {b:Nat->DV} {n0:Nat}
def sG:List (Nat×DV)->Nat->Option DV
 | [],_=>none
 | (k,v)::r,n=>bif Nat.beq k n then some v else sG r n
def zV (O:Nat->DV):List (Nat×DV)->Prop
 | []=>True
 | (k,v)::r=>O k=v/\zV O r
theorem zuu {O:Nat->DV} : ∀ {fx:List (Nat×DV)},zV O fx->∀ {k:Nat} {v:DV},sG fx k=some v->O k=v
 | [],_,_,_,h=>by cases h
 | (k',v')::r,⟨h1,h2⟩,k,v,h=>by
  unfold sG at h
  cases e:Nat.beq k' k with
  | true=>rw [e,cond_true] at h;rw [<-Nat.eq_of_beq_eq_true e,h1];exact Option.some.inj h
  | false=>rw [e,cond_false] at h;exact zuu h2 h
def Qe (F:aC) (b:Nat->DV) (n0:Nat) (fx:List (Nat×DV)):Em->List DV->Nat->List DV
 | [],vs,_=>vs
 | (_,x)::r,vs,n=>Qe F b n0 fx r ((match sG fx n with | some v=>v | none=>lJ F (look b n0 vs n) x)::vs) (n+1)
theorem zyM:∀ (r:Em) (ws:List DV) (m j:Nat),(k_ F b n0 r ws m).getD (r.length+j) default=ws.getD j default
 | [],_,_,j=>by simp [k_]
 | (_,x)::r,ws,m,j=>by
  rw [k_,List.length_cons,show r.length+1+j=r.length+(j+1) by omega,zyM r]
  rfl
theorem zv0 {fx:List (Nat×DV)} : ∀ (l:Em) (vs:List DV) (n:Nat),(∀ k v,n<=k->k<n+l.length->sG fx k=some v->(k_ F b n0 l vs n).getD (n+l.length-1-k) default=v) ->
  Qe F b n0 fx l vs n=k_ F b n0 l vs n
 | [],_,_,_=>rfl
 | (_,x)::r,vs,n,h=>by
  have e:(match sG fx n with | some v=>v | none=>lJ F (look b n0 vs n) x)=lJ F (look b n0 vs n) x:=by
   cases hf:sG fx n with
   | none=>rfl
   | some v =>
    have:=h n v (Nat.le_refl _) (by simp) hf
    rw [k_,List.length_cons,show n+(r.length+1)-1-n=r.length+0 by omega,zyM r] at this
    exact this.symm
  rw [Qe,k_,e]
  refine zv0 r _ (n+1) fun k v h1 h2 h3=>?_
  have:=h k v (by omega) (by simp;omega) h3
  rw [k_,List.length_cons,show n+(r.length+1)-1-k=n+1+r.length-1-k by omega] at this
  exact this
def mW (fx:List (Nat×DV)) (F:aC) (sg:aW) (o:Out) (ds:List DV):List DV :=
 uv sg o (look (fun _=>default) 0 (Qe F (fun _=>default) 0 fx o.nodes (aT sg.lY ds).reverse sg.fE) (sg.fE+o.nodes.length))
abbrev cq (F:aC) (sg:aW) (o:Out) (ds:List DV):Nat->DV:=wP F sg o (aT sg.lY ds)
theorem zvu {sg:aW} {o:Out} {ds:List DV} (fx:List (Nat×DV)) (h:zV (cq F sg o ds) fx):aG F sg o ds=mW fx F sg o ds:=by
 unfold aG mW wP
 rw [zv0]
 intro k v _ h2 h3
 have:=zuu h h3
 unfold cq wP look at this
 rw [show Nat.blt k 0=false from rfl,cond_false] at this
 exact this
theorem ot {sg:aW} {o:Out} {ds:List DV} (fx:List (Nat×DV)) {r:List DV} (h:zV (cq F sg o ds) fx) (hr:mW fx F sg o ds=r):aG F sg o ds=r:=(zvu fx h).trans hr
end Go.Sx
namespace Go.Proofs.Ytiabiimoalkmjaa
open Go Go.Sx
set_option maxRecDepth 100000
section
variable {pr:Nat->Int} {up wa se e0 e1:Nat->Bool} {t0 t1:Int}
theorem Qg {j:Nat} (h:j<9):((iU pr up wa se e0 e1).getD (Int.toNat (j:Int)*6+0) default).ai=pr j:=nine (P:=fun j=>((iU pr up wa se e0 e1).getD (Int.toNat (j:Int)*6+0) default).ai=pr j) rfl rfl rfl rfl rfl rfl rfl rfl rfl j h
theorem cl2 {j:Nat} (h:j<9):((iU pr up wa se e0 e1).getD (Int.toNat (j:Int)*6+2) default).aA=wa j:=nine (P:=fun j=>((iU pr up wa se e0 e1).getD (Int.toNat (j:Int)*6+2) default).aA=wa j) rfl rfl rfl rfl rfl rfl rfl rfl rfl j h
theorem YH {j:Nat} (h:j<9):((iU pr up wa se e0 e1).getD (Int.toNat (j:Int)*6+4) default).aA=e0 j:=nine (P:=fun j=>((iU pr up wa se e0 e1).getD (Int.toNat (j:Int)*6+4) default).aA=e0 j) rfl rfl rfl rfl rfl rfl rfl rfl rfl j h
theorem YI {j:Nat} (h:j<9):((iU pr up wa se e0 e1).getD (Int.toNat (j:Int)*6+5) default).aA=e1 j:=nine (P:=fun j=>((iU pr up wa se e0 e1).getD (Int.toNat (j:Int)*6+5) default).aA=e1 j) rfl rfl rfl rfl rfl rfl rfl rfl rfl j h
theorem pg {j:Nat} (h:j<9):(([.i (pr 0),.i (pr 1),.i (pr 2),.i (pr 3),.i (pr 4),.i (pr 5),.i (pr 6),.i (pr 7),.i (pr 8)]:List DV).getD (Int.toNat (j:Int)*1+0) default).ai=pr j :=
 nine (P:=fun j=>(([.i (pr 0),.i (pr 1),.i (pr 2),.i (pr 3),.i (pr 4),.i (pr 5),.i (pr 6),.i (pr 7),.i (pr 8)]:List DV).getD (Int.toNat (j:Int)*1+0) default).ai=pr j) rfl rfl rfl rfl rfl rfl rfl rfl rfl j h
def qc (wa e0 e1:Nat->Bool) (c:Nat):Nat->Bool:=fun j=>wa j&&(bif Nat.beq c 0 then e0 j else e1 j)
def uK (pr:Nat->Int) (q:Nat->Bool):Nat->Nat->Nat->Nat
 | 0,_,o=>o
 | k+1,n,o=>uK pr q k (n+1) (bif q n&&decide (pr n>pr o) then n else o)
theorem LO {c:Nat} (hc:c<2):∀ (k n o:Nat),1<=n->n+k=9->o<9->Kk c (iU pr up wa se e0 e1) o n=some [.i 0,.i (uK pr (qc wa e0 e1 c) k n o:Nat),.i 9]
 | 0,n,o,_,h2,h3=>by
  obtain rfl:n=9:=by omega
  unfold Kk
  rw [lU]
  ·rfl
  ·kernel_rfl
  ·rfl
 | k+1,n,o,h1,h2,h3=>by
  have hn:n<9:=by omega
  have ih:=LO hc k (n+1) (bif qc wa e0 e1 c n&&decide (pr n>pr o) then n else o) (by omega) (by omega) (by cases (qc wa e0 e1 c n&&decide (pr n>pr o))<;>assumption)
  have hw:IntKind.wrap .i64 ((n:Int)+1)=((n+1:Nat):Int):=by rw [IntKind.wrap_i64];omega
  have d:∀ {p:Prop} [Decidable p],p->∀ l,ow l (decide p)=true:=fun h l=>zT (decide_eq_true h)
  have de:([((iU pr up wa se e0 e1).getD (Int.toNat (n:Int)*6+4) default).aA,((iU pr up wa se e0 e1).getD (Int.toNat (n:Int)*6+5) default).aA].getD (Int.toNat (c:Int)) false)=(bif Nat.beq c 0 then e0 n else e1 n):=by
   rw [YH hn,YI hn]
   rcases (by omega:c=0\/c=1) with rfl | rfl<;>rfl
  unfold Kk at ih ⊢
  rw [o5]
  ·show dQ O9 O_ Pa Pb [.i c,.l (iU pr up wa se e0 e1),.i (bif !(!((iU pr up wa se e0 e1).getD (Int.toNat (n:Int)*6+2) default).aA||!([((iU pr up wa se e0 e1).getD (Int.toNat (n:Int)*6+4) default).aA,((iU pr up wa se e0 e1).getD (Int.toNat (n:Int)*6+5) default).aA].getD (Int.toNat (c:Int)) false)) then (bif dg ((iU pr up wa se e0 e1).getD (Int.toNat (n:Int)*6+0) default).ai ((iU pr up wa se e0 e1).getD (Int.toNat (o:Int)*6+0) default).ai then (n:Int) else (o:Int)) else (o:Int)),.i (IntKind.wrap .i64 ((n:Int)+1))]=_
   rw [de,cl2 hn,Qg hn,Qg h3,hw]
   have e:(bif !(!wa n||!(bif Nat.beq c 0 then e0 n else e1 n)) then (bif dg (pr n) (pr o) then (n:Int) else (o:Int)) else (o:Int))=((bif qc wa e0 e1 c n&&decide (pr n>pr o) then n else o:Nat):Int):=by
    unfold qc
    show (bif !(!wa n||!(bif Nat.beq c 0 then e0 n else e1 n)) then (bif decide (pr n>pr o) then (n:Int) else (o:Int)) else (o:Int))=_
    cases wa n<;>cases (bif Nat.beq c 0 then e0 n else e1 n)<;>cases decide (pr n>pr o)<;>rfl
   rw [e,ih]
   rfl
  ·show ([ow [_] (decide ((n:Int)>=0)),ow [_] (decide ((n:Int)<9)),ow [_,_] (decide ((c:Int)>=0)),ow [_,_] (decide ((c:Int)<2)),ow [_,_] (decide ((o:Int)>=0)),ow [_,_] (decide ((o:Int)<9))].all id)=true
   rw [d (by omega),d (by omega),d (by omega),d (by omega),d (by omega),d (by omega)]
   rfl
  ·show decide ((n:Int)<=8)=true
   exact decide_eq_true (by omega)
theorem YJ {c:Nat} (hc:c<2):sr [.l (cj pr up wa se e0 e1 t0 t1),.i c]=[.b true,.i (uK pr (qc wa e0 e1 c) 8 1 0:Nat)]:=by
 have e:sr [.l (cj pr up wa se e0 e1 t0 t1),.i c]=[.b ([ow [] (Kk c (iU pr up wa se e0 e1) (0:Nat) (1:Nat)).isSome].all id),.i (af ((Kk c (iU pr up wa se e0 e1) (0:Nat) (1:Nat)).getD []) 1).ai]:=by kernel_rfl
 rw [e,LO hc 8 1 0 (by decide) (by decide) (by decide)]
 rfl
def zW (pr:Nat->Int) (q:Nat->Bool) (w:Int):Nat->Nat->Option Nat
 | 0,_=>none
 | k+1,n=>bif q n&&(pr n==w) then some n else zW pr q w k (n+1)
def fo (pr:Nat->Int) (q:Nat->Bool):Nat->Nat
 | 0=>0
 | w+1=>match zW pr q ((w+1:Nat):Int) 8 1 with
  | some n=>n
  | none=>fo pr q w
theorem zrh (pr:Nat->Int) (q:Nat->Bool) (w:Int):∀ (k n:Nat),match zW pr q w k n with
  | some m=>n<=m/\m<n+k/\q m=true/\pr m=w/\∀ j,n<=j->j<m->q j=true->pr j≠w
  | none=>∀ j,n<=j->j<n+k->q j=true->pr j≠w
 | 0,n=>fun j h1 h2=>by omega
 | k+1,n=>by
  unfold zW
  cases h:(q n&&(pr n==w)) with
  | true =>
   rw [cond_true]
   simp only [Bool.and_eq_true,beq_iff_eq] at h
   exact ⟨Nat.le_refl _,by omega,h.1,h.2,fun j h1 h2=>by omega⟩
  | false =>
   rw [cond_false]
   have hn:q n=true->pr n≠w:=fun h1 h2=>by rw [h1,h2] at h;simp at h
   have ih:=zrh pr q w k (n+1)
   cases hf:zW pr q w k (n+1) with
   | some m =>
    rw [hf] at ih
    obtain ⟨i1,i2,i3,i4,i5⟩:=ih
    exact ⟨by omega,by omega,i3,i4,fun j h1 h2 hq=>(Nat.lt_or_eq_of_le h1).elim (fun h=>i5 j h h2 hq) (fun h=>h▸hn (h▸hq))⟩
   | none =>
    rw [hf] at ih
    exact fun j h1 h2 hq=>(Nat.lt_or_eq_of_le h1).elim (fun h=>ih j h (by omega) hq) (fun h=>h▸hn (h▸hq))
theorem YK (pr:Nat->Int) (q:Nat->Bool):∀ (k n o:Nat),1<=n->n+k=9->o<n->(o≠0->q o=true/\0<pr o)->(o=0->pr o=0) ->
  (∀ j,1<=j->j<n->q j=true->pr j<=pr o/\(j<o->pr j<pr o)) ->
  ∃ m,uK pr q k n o=m/\m<9/\(m≠0->q m=true/\0<pr m)/\(m=0->pr m=0)/\∀ j,1<=j->j<9->q j=true->pr j<=pr m/\(j<m->pr j<pr m)
 | 0,n,o,_,h2,h3,h4,h5,h6=>⟨o,rfl,by omega,h4,h5,fun j h7 h8=>h6 j h7 (by omega)⟩
 | k+1,n,o,h1,h2,h3,h4,h5,h6=>by
  unfold uK
  have ho:0<=pr o:=by
   by_cases h:o=0
   ·rw [h5 h];decide
   ·have:=(h4 h).2;omega
  cases h:(q n&&decide (pr n>pr o)) with
  | true =>
   simp only [Bool.and_eq_true,decide_eq_true_eq] at h
   refine YK pr q k (n+1) n (by omega) (by omega) (by omega) (fun _=>⟨h.1,by omega⟩) (fun h=>by omega) fun j h7 h8 hq=>?_
   by_cases e:j=n
   ·subst e;exact ⟨by omega,fun h=>by omega⟩
   ·have:=(h6 j h7 (by omega) hq).1
    exact ⟨by omega,fun _=>by omega⟩
  | false =>
   refine YK pr q k (n+1) o (by omega) (by omega) (by omega) h4 h5 fun j h7 h8 hq=>?_
   by_cases e:j=n
   ·subst e
    rw [hq,Bool.true_and] at h
    have:=of_decide_eq_false h
    exact ⟨by omega,fun h=>by omega⟩
   ·exact h6 j h7 (by omega) hq
theorem zuw (pr:Nat->Int) (q:Nat->Bool) (hp:pr 0=0):∀ w:Nat,(∀ j,1<=j->j<9->q j=true->pr j<=w) ->
  ∃ m,fo pr q w=m/\m<9/\(m≠0->q m=true/\0<pr m)/\(m=0->pr m=0)/\∀ j,1<=j->j<9->q j=true->pr j<=pr m/\(j<m->pr j<pr m)
 | 0,h=>⟨0,rfl,by decide,fun h=>absurd rfl h,fun _=>hp,fun j h1 h2 hq=>⟨by have:=h j h1 h2 hq;rw [hp];omega,fun h=>by omega⟩⟩
 | w+1,h=>by
  unfold fo
  have sp:=zrh pr q ((w+1:Nat):Int) 8 1
  cases hf:zW pr q ((w+1:Nat):Int) 8 1 with
  | some m =>
   rw [hf] at sp
   obtain ⟨s1,s2,s3,s4,s5⟩:=sp
   refine ⟨m,rfl,by omega,fun _=>⟨s3,by omega⟩,fun h=>by omega,fun j h1 h2 hq=>⟨by have:=h j h1 h2 hq;omega,fun hj=>?_⟩⟩
   have a:=h j h1 h2 hq
   have b:=s5 j h1 hj hq
   omega
  | none =>
   rw [hf] at sp
   refine zuw pr q hp w fun j h1 h2 hq=>?_
   have a:=h j h1 h2 hq
   have b:=sp j h1 (by omega) hq
   omega
theorem Qi {pr:Nat->Int} (hp:pr 0=0) (hr:∀ n,0<=pr n/\pr n<=7) (q:Nat->Bool):fo pr q 7=uK pr q 8 1 0/\uK pr q 8 1 0<9:=by
 obtain ⟨m,e,m1,m2,m3,m4⟩:=YK pr q 8 1 0 (by decide) (by decide) (by decide) (fun h=>absurd rfl h) (fun _=>hp) (fun j h1 h2=>by omega)
 obtain ⟨k,e',k1,k2,k3,k4⟩:=zuw pr q hp 7 fun j _ _ _=>(hr j).2
 rw [e,e']
 refine ⟨?_,m1⟩
 by_cases a:k=0<;>by_cases b:m=0
 ·omega
 ·have:=(k4 m (by omega) m1 (m2 b).1).1;have:=(m2 b).2;have:=k3 a;omega
 ·have:=(m4 k (by omega) k1 (k2 a).1).1;have:=(k2 a).2;have:=m3 b;omega
 ·have x1:=k4 m (by omega) m1 (m2 b).1
  have x2:=m4 k (by omega) k1 (k2 a).1
  have:=x1.1;have:=x2.1
  by_cases c:k<m
  ·have:=x2.2 c;omega
  ·by_cases c2:m<k
   ·have:=x1.2 c2;omega
   ·omega
abbrev kY (e0 e1:Nat->Bool):List DV:=[.i (aN e0),.i (aN e1)]
abbrev jk (pr:Nat->Int):List DV:=[.i (pr 0),.i (pr 1),.i (pr 2),.i (pr 3),.i (pr 4),.i (pr 5),.i (pr 6),.i (pr 7),.i (pr 8)]
theorem YL {c n:Nat} (hc:c<2) (hn:n<9):(dD .u64 (cW .u64 (dD .u64 (aN wa) ((kY e0 e1).getD (Int.toNat (c:Int)*1+0) default).ai) (n:Int)) 1==1)=qc wa e0 e1 c n:=by
 have e:((kY e0 e1).getD (Int.toNat (c:Int)*1+0) default).ai=aN (fun j=>bif Nat.beq c 0 then e0 j else e1 j):=by
  rcases (by omega:c=0\/c=1) with rfl | rfl<;>rfl
 rw [e,YF,YG _ hn]
 rfl
theorem LP {c:Nat} (hc:c<2) (w:Nat) (x:Int):∀ (k n:Nat),1<=n->n+k=9->Dk (kY e0 e1) c (aN wa) (jk pr) w x n =
  some (match zW pr (qc wa e0 e1 c) w k n with | some m=>[.i 0,.i (m:Nat),.i (m:Nat)] | none=>[.i 1,.i x,.i 9])
 | 0,n,_,h2=>by
  obtain rfl:n=9:=by omega
  unfold Dk
  rw [lU]
  ·rfl
  ·kernel_rfl
  ·rfl
 | k+1,n,h1,h2=>by
  have hn:n<9:=by omega
  have ih:=LP hc w x k (n+1) (by omega) (by omega)
  have hw:IntKind.wrap .i64 ((n:Int)+1)=((n+1:Nat):Int):=by rw [IntKind.wrap_i64];omega
  have d:∀ {p:Prop} [Decidable p],p->∀ l,ow l (decide p)=true:=fun h l=>zT (decide_eq_true h)
  have h8:decide ((n:Int)<=8)=true:=decide_eq_true (by omega)
  have hpr:(((jk pr).getD (Int.toNat (n:Int)*1+0) default).ai==(w:Int))=(pr n==(w:Int)):=by rw [pg hn]
  have hW:Pe [.l (kY e0 e1),.i c,.i (aN wa),.l (jk pr),.i w,.i x,.i n]=true:=by
   show ([ow [_] (decide ((c:Int)>=0)),ow [_] (decide ((c:Int)<((2/1:Nat):Int))),ow [_] (decide ((n:Int)>=0)),ow [_,_] (decide ((n:Int)>=0)),ow [_,_] (decide ((n:Int)<((9/1:Nat):Int)))].all id)=true
   rw [d (by omega),d (by omega),d (by omega),d (by omega),d (by omega)]
   rfl
  have hC:Pf [.l (kY e0 e1),.i c,.i (aN wa),.l (jk pr),.i w,.i x,.i n] = !(qc wa e0 e1 c n&&(pr n==(w:Int))):=by
   show (decide ((n:Int)<=8)&&!((dD .u64 (cW .u64 (dD .u64 (aN wa) ((kY e0 e1).getD (Int.toNat (c:Int)*1+0) default).ai) (n:Int)) 1==1)&&(((jk pr).getD (Int.toNat (n:Int)*1+0) default).ai==(w:Int))))=_
   rw [h8,YL hc hn,hpr,Bool.true_and]
  unfold Dk at ih ⊢
  unfold zW
  cases h:(qc wa e0 e1 c n&&(pr n==(w:Int))) with
  | true =>
   rw [lU hW (by rw [hC,h];rfl)]
   show some [DV.i (bif decide ((n:Int)<=8) then 0 else 1),.i (bif decide ((n:Int)<=8) then (n:Int) else x),.i n]=_
   rw [h8]
   rfl
  | false =>
   rw [o5 hW (by rw [hC,h];rfl)]
   show dQ Pe Pf Vl Vm [.l (kY e0 e1),.i c,.i (aN wa),.l (jk pr),.i w,.i x,.i (IntKind.wrap .i64 ((n:Int)+1))]=_
   rw [hw,ih]
   rfl
theorem zyN {c : Nat} (hc : c < 2) (x : Int) : ∀ w : Nat, w < 9 -> ∃ a b d, GD (kY e0 e1) c (aN wa) (jk pr) x w = some [.i a, .i b, .i d] /\ (bif !(a == 0) then 0 else b) = (fo pr (qc wa e0 e1 c) w : Int)
  | 0, _ => ⟨1, x, 0, by unfold GD; rw [lU]; · rfl
                         · kernel_rfl
                         · kernel_rfl, rfl⟩
  | w + 1, hw => by
    have ih := zyN hc x w (by omega)
    have hi := LP (pr := pr) (wa := wa) (e0 := e0) (e1 := e1) hc (w + 1) x 8 1 (by decide) (by decide)
    have h8 : decide (((w + 1 : Nat) : Int) > 0) = true := decide_eq_true (by omega)
    have hd : IntKind.wrap .u64 (((w + 1 : Nat) : Int) - 1) = ((w : Nat) : Int) := by rw [uJ (by omega) (by omega)]; omega
    have hW : Ph [.l (kY e0 e1), .i c, .i (aN wa), .l (jk pr), .i x, .i ((w + 1 : Nat) : Int)] = true := by
      show ([ow [_] (Dk (kY e0 e1) c (aN wa) (jk pr) ((w + 1 : Nat) : Int) x ((1 : Nat) : Int)).isSome].all id) = true
      rw [hi, Option.isSome_some, jG]
      rfl
    have hC : Pj [.l (kY e0 e1), .i c, .i (aN wa), .l (jk pr), .i x, .i ((w + 1 : Nat) : Int)] = (decide (((w + 1 : Nat) : Int) > 0) && !((af ((Dk (kY e0 e1) c (aN wa) (jk pr) ((w + 1 : Nat) : Int) x ((1 : Nat) : Int)).getD []) 0).ai == 0)) := rfl
    unfold GD at ih ⊢
    unfold fo
    rw [h8, hi] at hC
    cases hf : zW pr (qc wa e0 e1 c) ((w + 1 : Nat) : Int) 8 1 with
    | some m =>
      rw [hf] at hC hi
      refine ⟨0, m, (w + 1 : Nat), ?_, rfl⟩
      rw [lU hW (hC.trans rfl)]
      show some [DV.i (bif decide (((w + 1 : Nat) : Int) > 0) then 0 else 1), .i (bif decide (((w + 1 : Nat) : Int) > 0) then (af ((Dk (kY e0 e1) c (aN wa) (jk pr) ((w + 1 : Nat) : Int) x ((1 : Nat) : Int)).getD []) 1).ai else x), .i ((w + 1 : Nat) : Int)] = _
      rw [h8, hi]
      rfl
    | none =>
      rw [hf] at hC hi
      obtain ⟨a, b, d, i1, i2⟩ := ih
      refine ⟨a, b, d, ?_, i2⟩
      rw [o5 hW (hC.trans rfl)]
      show dQ Ph Pj Vo Vp [.l (kY e0 e1), .i c, .i (aN wa), .l (jk pr), .i (af ((Dk (kY e0 e1) c (aN wa) (jk pr) ((w + 1 : Nat) : Int) x ((1 : Nat) : Int)).getD []) 1).ai, .i (IntKind.wrap .u64 (((w + 1 : Nat) : Int) - 1))] = _
      rw [hi, hd]
      exact i1
theorem YM (h:gS pr up wa se e0 e1 t0 t1) {c:Nat} (hc:c<2):tC [.l (cy pr up wa se e0 e1 t0 t1),.i c]=[.b true,.i (uK pr (qc wa e0 e1 c) 8 1 0:Nat)]:=by
 have e:tC [.l (cy pr up wa se e0 e1 t0 t1),.i c]=[.b ([ow [] (GD (kY e0 e1) c (aN wa) (jk pr) 0 (7:Nat)).isSome].all id),.i (bif !((af ((GD (kY e0 e1) c (aN wa) (jk pr) 0 (7:Nat)).getD []) 0).ai==0) then 0 else (af ((GD (kY e0 e1) c (aN wa) (jk pr) 0 (7:Nat)).getD []) 1).ai)]:=by kernel_rfl
 obtain ⟨a,b,d,i1,i2⟩:=zyN (pr:=pr) (wa:=wa) (e0:=e0) (e1:=e1) hc 0 7 (by decide)
 rw [e,i1]
 rw [(Qi h.p0 h.pr (qc wa e0 e1 c)).1] at i2
 rw [<-i2]
 rfl
end
end Go.Proofs.Ytiabiimoalkmjaa
namespace Go.Proofs.Ytiabiimoalkmjaa
open Go Go.Sx
set_option maxRecDepth 100000
theorem zX {x k:Int} (h:x≠k):(x==k)=false:=by simpa using h
section
variable {pr:Nat->Int} {up wa se e0 e1:Nat->Bool} {t0 t1:Int}
theorem zuy (pr:Nat->Int) (up wa se e0 e1:Nat->Bool) (t0 t1:Int):Dg [.l (cj pr up wa se e0 e1 t0 t1)]=[.l (cj pr up wa se e0 e1 t0 t1)]/\GC [.l (cy pr up wa se e0 e1 t0 t1)]=[.b true,.l (cy pr up wa se e0 e1 t0 t1)]:=⟨by kernel_rfl,by kernel_rfl⟩
theorem YN:Ki []=[.l (cj (fun _=>0) (fun _=>false) (fun _=>false) (fun _=>false) (fun _=>false) (fun _=>false) 0 0)]/\Pd []=[.l (cy (fun _=>0) (fun _=>false) (fun _=>false) (fun _=>false) (fun _=>false) (fun _=>false) 0 0)]/\gS (fun _=>0) (fun _=>false) (fun _=>false) (fun _=>false) (fun _=>false) (fun _=>false) 0 0 :=
 ⟨by kernel_rfl,by kernel_rfl,rfl,fun _=>by decide,⟨rfl,rfl,rfl,rfl,rfl⟩,by decide,by decide,fun _ h=>by cases h⟩
theorem zsa (h:gS pr up wa se e0 e1 t0 t1):∃ v,Gz [.l (cj pr up wa se e0 e1 t0 t1)]=[.b true,.i v]/\Ku [.l (cy pr up wa se e0 e1 t0 t1)]=[.b true,.i v]:=by
 have q0:=(Qi h.p0 h.pr (qc wa e0 e1 0)).2
 have q1:=(Qi h.p0 h.pr (qc wa e0 e1 1)).2
 have d0:=YJ (pr:=pr) (up:=up) (wa:=wa) (se:=se) (e0:=e0) (e1:=e1) (t0:=t0) (t1:=t1) (c:=0) (by decide)
 have d1:=YJ (pr:=pr) (up:=up) (wa:=wa) (se:=se) (e0:=e0) (e1:=e1) (t0:=t0) (t1:=t1) (c:=1) (by decide)
 have r0:=YM h (c:=0) (by decide)
 have r1:=YM h (c:=1) (by decide)
 generalize uK pr (qc wa e0 e1 0) 8 1 0=m0 at *
 generalize uK pr (qc wa e0 e1 1) 8 1 0=m1 at *
 have EV:Gz [.l (cj pr up wa se e0 e1 t0 t1)]=(fun A B:List DV=>[.b ([ow [] (A.getD 0 default).aA,ow [] (ew (A.getD 1 default).ai 0),ow [] (c_ (A.getD 1 default).ai 9),ow [] (B.getD 0 default).aA,ow [] (ew (B.getD 1 default).ai 0),ow [] (c_ (B.getD 1 default).ai 9)].all id),.i (bif dg ((iU pr up wa se e0 e1).getD (Int.toNat (B.getD 1 default).ai*6+0) default).ai t1 then bB .u64 (bif dg ((iU pr up wa se e0 e1).getD (Int.toNat (A.getD 1 default).ai*6+0) default).ai t0 then 2048 else 0) 512 else (bif dg ((iU pr up wa se e0 e1).getD (Int.toNat (A.getD 1 default).ai*6+0) default).ai t0 then 2048 else 0))])
   (sr [.l (cj pr up wa se e0 e1 t0 t1),.i (0:Nat)]) (sr [.l (cj pr up wa se e0 e1 t0 t1),.i (1:Nat)]):=by kernel_rfl
 have e2':Ku [.l (cy pr up wa se e0 e1 t0 t1)]=(fun A B:List DV=>[.b ([ow [] (A.getD 0 default).aA,ow [] (B.getD 0 default).aA,ow [] (ew (A.getD 1 default).ai 0),ow [] (c_ (A.getD 1 default).ai 9),ow [] true,ow [] (ew (B.getD 1 default).ai 0),ow [] (c_ (B.getD 1 default).ai 9),ow [] true].all id),.i (bif dg ((jk pr).getD (Int.toNat (B.getD 1 default).ai*1+0) default).ai t1 then IntKind.wrap .u64 ((bif dg ((jk pr).getD (Int.toNat (A.getD 1 default).ai*1+0) default).ai t0 then 2048 else 0)+512) else (bif dg ((jk pr).getD (Int.toNat (A.getD 1 default).ai*1+0) default).ai t0 then 2048 else 0))])
   (tC [.l (cy pr up wa se e0 e1 t0 t1),.i (0:Nat)]) (tC [.l (cy pr up wa se e0 e1 t0 t1),.i (1:Nat)]):=by kernel_rfl
 have i0:∀ m:Nat,ew (m:Int) 0=true:=fun m=>decide_eq_true (by omega)
 have i9:∀ m:Nat,m<9->c_ (m:Int) 9=true:=fun m h=>decide_eq_true (by omega)
 have s:∀ a b:Bool,(bif b then bB .u64 (bif a then 2048 else 0) 512 else (bif a then 2048 else 0))=(bif b then IntKind.wrap .u64 ((bif a then 2048 else 0)+512) else (bif a then 2048 else 0)):=by decide
 refine ⟨bif dg (pr m1) t1 then IntKind.wrap .u64 ((bif dg (pr m0) t0 then 2048 else 0)+512) else (bif dg (pr m0) t0 then 2048 else 0),EV.trans ?_,e2'.trans ?_⟩
 rotate_left 1
 ·rw [r0,r1]
  show [DV.b ([ow [] true,ow [] true,ow [] (ew (m0:Int) 0),ow [] (c_ (m0:Int) 9),ow [] true,ow [] (ew (m1:Int) 0),ow [] (c_ (m1:Int) 9),ow [] true].all id),.i (bif dg ((jk pr).getD (Int.toNat (m1:Int)*1+0) default).ai t1 then IntKind.wrap .u64 ((bif dg ((jk pr).getD (Int.toNat (m0:Int)*1+0) default).ai t0 then 2048 else 0)+512) else (bif dg ((jk pr).getD (Int.toNat (m0:Int)*1+0) default).ai t0 then 2048 else 0))]=_
  rw [i0,i0,i9 _ q0,i9 _ q1,pg q0,pg q1]
  rfl
 ·rw [d0,d1]
  show [DV.b ([ow [] true,ow [] (ew (m0:Int) 0),ow [] (c_ (m0:Int) 9),ow [] true,ow [] (ew (m1:Int) 0),ow [] (c_ (m1:Int) 9)].all id),.i (bif dg ((iU pr up wa se e0 e1).getD (Int.toNat (m1:Int)*6+0) default).ai t1 then bB .u64 (bif dg ((iU pr up wa se e0 e1).getD (Int.toNat (m0:Int)*6+0) default).ai t0 then 2048 else 0) 512 else (bif dg ((iU pr up wa se e0 e1).getD (Int.toNat (m0:Int)*6+0) default).ai t0 then 2048 else 0))]=_
  rw [i0,i0,i9 _ q0,i9 _ q1,Qg q0,Qg q1,s]
  rfl
end
end Go.Proofs.Ytiabiimoalkmjaa
namespace Go.Proofs.Ytiabiimoalkmjaa
open Go Go.Sx
set_option maxRecDepth 100000
def kH:aC:=cE [] (lE [])
theorem ig {O:Nat->DV} {k:Nat} {c v:Bool} (h1:O k = .b c) (h2:c=v):O k = .b v:=h1.trans (congrArg DV.b h2)
theorem yf {O:Nat->DV} {k:Nat} {c v:Int} (h1:O k = .i c) (h2:c=v):O k = .i v:=h1.trans (congrArg DV.i h2)
structure uL (x:Int):Prop where
 a:(eP x 32&&(Int.tmod x 4==0))=false
 b:(x==4096)=false
 c:(x==8192)=false
 d:(x==8320)=false
 e:(x==2097152)=false
 f:(x==2101248)=false
 g:(x==2097156)=false
 h:(x==2101252)=false
theorem zyO {x n:Int} (hx:0<=x):(n=4/\((∃ k:Nat,k<9/\x=((4*k:Nat):Int))\/x=4096\/x=8192\/x=8320\/x=2097152\/x=2101248\/x=2097156\/x=2101252))\/((n != 4)=true\/(n=4/\uL x)):=by
 by_cases hn:n=4
 ·by_cases h:(∃ k:Nat,k<9/\x=((4*k:Nat):Int))\/x=4096\/x=8192\/x=8320\/x=2097152\/x=2101248\/x=2097156\/x=2101252
  ·exact .inl ⟨hn,h⟩
  ·simp only [not_or] at h
   obtain ⟨h1,h2,h3,h4,h5,h6,h7,h8⟩:=h
   refine .inr (.inr ⟨hn,?_,zX h2,zX h3,zX h4,zX h5,zX h6,zX h7,zX h8⟩)
   rw [Int.tmod_eq_emod_of_nonneg hx]
   by_cases a:x<=32
   ·have b:¬ x%4=0:=fun b=>h1 ⟨(x/4).toNat,by omega,by omega⟩
    rw [zX b,Bool.and_false]
   ·rw [show eP x 32=false from decide_eq_false a,Bool.false_and]
 ·exact .inr (.inl (by simpa using hn))
section
variable {pr:Nat->Int} {up wa se e0 e1:Nat->Bool} {t0 t1:Int} {x n v:Int}
theorem zyP (hh:(n != 4)=true\/(n=4/\uL x)):su [.i x,.i n]=[.i 0,.i 0] :=
 hh.elim (fun h=>ot (F:=kH) (sg:=gO) (o:=jf) [(2,.b true),(13,.b true),(21,.b true)] ⟨ig (by kernel_rfl:cq kH gO jf [.i x,.i n] 2 = .b (n != 4)) h,ig (by kernel_rfl:cq kH gO jf [.i x,.i n] 13 = .b (n != 4)) h,ig (by kernel_rfl:cq kH gO jf [.i x,.i n] 21 = .b (n != 4)) h,trivial⟩ (by kernel_rfl))
  fun ⟨hn,h⟩=>by
   subst hn
   exact ot (F:=kH) (sg:=gO) (o:=jf) [(6,.b false),(9,.b false),(14,.b false),(15,.b false),(16,.b false),(22,.b false),(23,.b false),(24,.b false)] ⟨ig (by kernel_rfl:cq kH gO jf [.i x,.i 4] 6 = .b (eP x 32&&(Int.tmod x 4==0))) h.a,ig (by kernel_rfl:cq kH gO jf [.i x,.i 4] 9 = .b (x==4096)) h.b,ig (by kernel_rfl:cq kH gO jf [.i x,.i 4] 14 = .b (x==8192)) h.c,ig (by kernel_rfl:cq kH gO jf [.i x,.i 4] 15 = .b (x==2097152)) h.e,ig (by kernel_rfl:cq kH gO jf [.i x,.i 4] 16 = .b (x==2097156)) h.g,ig (by kernel_rfl:cq kH gO jf [.i x,.i 4] 22 = .b (x==8320)) h.d,ig (by kernel_rfl:cq kH gO jf [.i x,.i 4] 23 = .b (x==2101248)) h.f,ig (by kernel_rfl:cq kH gO jf [.i x,.i 4] 24 = .b (x==2101252)) h.h,trivial⟩ (by kernel_rfl)
theorem zzz (hh:(n != 4)=true\/(n=4/\uL x)):ic [.l (cj pr up wa se e0 e1 t0 t1),.i x,.i n]=[.b true,.i 0,.b false,.l (cj pr up wa se e0 e1 t0 t1)] :=
 ot (F:=lC) (sg:=iD) (o:=kF) [(6,.i 0)] ⟨yf (by kernel_rfl:cq lC iD kF [.l (cj pr up wa se e0 e1 t0 t1),.i x,.i n] 6 = .i ((su [.i x,.i n]).getD 0 default).ai) (by rw [zyP hh];rfl),trivial⟩ (by kernel_rfl)
theorem EW (hh:(n != 4)=true\/(n=4/\uL x)):tD [.l (cy pr up wa se e0 e1 t0 t1),.i x,.i n]=[.b true,.i 0,.b false,.l (cy pr up wa se e0 e1 t0 t1)] :=
 hh.elim (fun h=>ot (F:=qM) (sg:=om) (o:=pW) [(9,.b true)] ⟨ig (by kernel_rfl:cq qM om pW [.l (cy pr up wa se e0 e1 t0 t1),.i x,.i n] 9 = .b (n != 4)) h,trivial⟩ (by kernel_rfl))
  fun ⟨hn,h⟩=>by
   subst hn
   exact ot (F:=qM) (sg:=om) (o:=pW) [(17,.b false),(23,.b false),(24,.b false),(29,.b false),(34,.b false)] ⟨ig (by kernel_rfl:cq qM om pW [.l (cy pr up wa se e0 e1 t0 t1),.i x,.i 4] 17 = .b (eP x 32&&(Int.tmod x 4==0))) h.a,ig (by kernel_rfl:cq qM om pW [.l (cy pr up wa se e0 e1 t0 t1),.i x,.i 4] 23 = .b (x==4096)) h.b,ig (by kernel_rfl:cq qM om pW [.l (cy pr up wa se e0 e1 t0 t1),.i x,.i 4] 24 = .b (ew (bif !(x==8192) then bif !(x==8320) then (-1) else 1 else 0) 0)) (by rw [h.c,h.d];rfl),ig (by kernel_rfl:cq qM om pW [.l (cy pr up wa se e0 e1 t0 t1),.i x,.i 4] 29 = .b (ew (bif !(x==2097152) then bif !(x==2101248) then (-1) else 1 else 0) 0)) (by rw [h.e,h.f];rfl),ig (by kernel_rfl:cq qM om pW [.l (cy pr up wa se e0 e1 t0 t1),.i x,.i 4] 34 = .b (ew (bif !(x==2097156) then bif !(x==2101252) then (-1) else 1 else 0) 0)) (by rw [h.g,h.h];rfl),trivial⟩ (by kernel_rfl)
theorem zzA (hh:(n != 4)=true\/(n=4/\uL x)):iE [.l (cj pr up wa se e0 e1 t0 t1),.i x,.i n,.i v]=[.b true,.b false,.l (cj pr up wa se e0 e1 t0 t1)] :=
 ot (F:=ie) (sg:=f_) (o:=gZ) [(7,.i 0)] ⟨yf (by kernel_rfl:cq ie f_ gZ [.l (cj pr up wa se e0 e1 t0 t1),.i x,.i n,.i v] 7 = .i ((su [.i x,.i n]).getD 0 default).ai) (by rw [zyP hh];rfl),trivial⟩ (by kernel_rfl)
theorem xe (a:List DV) (b c d:Int):qL [.l a,.i b,.i c,.i d]=aG nk lD mS [.l a,.i b,.i c,.i d]:=by kernel_rfl
theorem EX (hh:(n != 4)=true\/(n=4/\uL x)):qL [.l (cy pr up wa se e0 e1 t0 t1),.i x,.i n,.i v]=[.b true,.b false,.l (cy pr up wa se e0 e1 t0 t1)] :=
 (xe _ _ _ _).trans <| hh.elim (fun h=>ot (F:=nk) (sg:=lD) (o:=mS) [(10,.b true)] ⟨ig (by kernel_rfl:cq nk lD mS [.l (cy pr up wa se e0 e1 t0 t1),.i x,.i n,.i v] 10 = .b (n != 4)) h,trivial⟩ (by kernel_rfl))
  fun ⟨hn,h⟩=>by
   subst hn
   exact ot (F:=nk) (sg:=lD) (o:=mS) [(18,.b false),(22,.b false),(29,.b false),(35,.b false),(41,.b false)] ⟨ig (by kernel_rfl:cq nk lD mS [.l (cy pr up wa se e0 e1 t0 t1),.i x,.i 4,.i v] 18 = .b ((x==0)||(x==4096))) (by rw [h.b,Bool.or_false];exact zX fun e=>by have:=h.a;rw [e] at this;cases this),ig (by kernel_rfl:cq nk lD mS [.l (cy pr up wa se e0 e1 t0 t1),.i x,.i 4,.i v] 22 = .b (eP x 32&&(Int.tmod x 4==0))) h.a,ig (by kernel_rfl:cq nk lD mS [.l (cy pr up wa se e0 e1 t0 t1),.i x,.i 4,.i v] 29 = .b (ew (bif !(x==8192) then bif !(x==8320) then (-1) else 1 else 0) 0)) (by rw [h.c,h.d];rfl),ig (by kernel_rfl:cq nk lD mS [.l (cy pr up wa se e0 e1 t0 t1),.i x,.i 4,.i v] 35 = .b (ew (bif !(x==2097152) then bif !(x==2101248) then (-1) else 1 else 0) 0)) (by rw [h.e,h.f];rfl),ig (by kernel_rfl:cq nk lD mS [.l (cy pr up wa se e0 e1 t0 t1),.i x,.i 4,.i v] 41 = .b (ew (bif !(x==2097156) then bif !(x==2101252) then (-1) else 1 else 0) 0)) (by rw [h.g,h.h];rfl),trivial⟩ (by kernel_rfl)
def ch (w:Nat->Bool):Nat->Int
 | 0=>bif w 0 then 1 else 0
 | k+1=>bif w (k+1) then bB .u64 (ch w k) ((2^(k+1):Nat):Int) else ch w k
theorem LQ {f g:Nat->Bool} (h:∀ j,j<9->f j=g j):aN f=aN g:=congrArg (fun k:Nat=>(k:Int)) (YC h)
theorem zv1 (w:Nat->Bool):∀ k,k<9->ch w k=aN (fun j=>decide (j<=k)&&w j)
 | 0,_=>by
  show (bif w 0 then 1 else 0)=aN _
  rw [LQ (g:=fun j=>bif Nat.beq j 0 then w 0 else false) (nine (P:=fun j=>(decide (j<=0)&&w j)=bif Nat.beq j 0 then w 0 else false) (by simp) rfl rfl rfl rfl rfl rfl rfl rfl)]
  generalize w 0=b
  cases b<;>decide
 | k+1,h=>by
  show (bif w (k+1) then bB .u64 (ch w k) ((2^(k+1):Nat):Int) else ch w k)=_
  rw [zv1 w k (by omega),<-YD h]
  cases e:w (k+1) with
  | true =>
   rw [cond_true,YE _ h]
   refine LQ fun j _=>?_
   rw [pK]
   by_cases a:j=k+1
   ·subst a;simp [e]
   ·rw [if_neg a,show decide (j<=k)=decide (j<=k+1) from decide_eq_decide.2 (by omega)]
  | false =>
   rw [cond_false]
   refine LQ fun j _=>?_
   by_cases a:j=k+1
   ·subst a;simp [e]
   ·rw [show decide (j<=k)=decide (j<=k+1) from decide_eq_decide.2 (by omega)]
theorem YO (w:Nat->Bool):ch w 8=aN w:=(zv1 w 8 (by decide)).trans (LQ fun j h=>by rw [decide_eq_true (show j<=8 by omega),Bool.true_and])
def BE (wa:Nat->Bool) (m:Nat):Nat->Bool:=bif Nat.beq m 0 then wa else e_ wa m false
def cls (se:Nat->Bool) (m:Nat):Nat->Bool:=bif Nat.beq m 0 then se else e_ se m true
theorem zzB (pr:Nat->Int) (up wa se e0 e1:Nat->Bool) (t0 t1:Int):ic [.l (cj pr up wa se e0 e1 t0 t1),.i 4096,.i 4]=[.b true,.i (ch wa 8),.b true,.l (cj pr up wa se e0 e1 t0 t1)]/\tD [.l (cy pr up wa se e0 e1 t0 t1),.i 4096,.i 4]=[.b true,.i (aN wa),.b true,.l (cy pr up wa se e0 e1 t0 t1)]:=⟨by kernel_rfl,by kernel_rfl⟩
theorem zzC (pr:Nat->Int) (up wa se e0 e1:Nat->Bool) (t0 t1:Int):ic [.l (cj pr up wa se e0 e1 t0 t1),.i 8192,.i 4]=[.b true,.i (ch e0 8),.b true,.l (cj pr up wa se e0 e1 t0 t1)]/\tD [.l (cy pr up wa se e0 e1 t0 t1),.i 8192,.i 4]=[.b true,.i (aN e0),.b true,.l (cy pr up wa se e0 e1 t0 t1)]:=⟨by kernel_rfl,by kernel_rfl⟩
theorem zzD (pr:Nat->Int) (up wa se e0 e1:Nat->Bool) (t0 t1:Int):ic [.l (cj pr up wa se e0 e1 t0 t1),.i 8320,.i 4]=[.b true,.i (ch e1 8),.b true,.l (cj pr up wa se e0 e1 t0 t1)]/\tD [.l (cy pr up wa se e0 e1 t0 t1),.i 8320,.i 4]=[.b true,.i (aN e1),.b true,.l (cy pr up wa se e0 e1 t0 t1)]:=⟨by kernel_rfl,by kernel_rfl⟩
theorem zvv (pr:Nat->Int) (up wa se e0 e1:Nat->Bool) (t0 t1:Int):ic [.l (cj pr up wa se e0 e1 t0 t1),.i 2097152,.i 4]=[.b true,.i (IntKind.wrap .u64 t0),.b true,.l (cj pr up wa se e0 e1 t0 t1)]/\tD [.l (cy pr up wa se e0 e1 t0 t1),.i 2097152,.i 4]=[.b true,.i (t0),.b true,.l (cy pr up wa se e0 e1 t0 t1)]:=⟨by kernel_rfl,by kernel_rfl⟩
theorem zvw (pr:Nat->Int) (up wa se e0 e1:Nat->Bool) (t0 t1:Int):ic [.l (cj pr up wa se e0 e1 t0 t1),.i 2101248,.i 4]=[.b true,.i (IntKind.wrap .u64 t1),.b true,.l (cj pr up wa se e0 e1 t0 t1)]/\tD [.l (cy pr up wa se e0 e1 t0 t1),.i 2101248,.i 4]=[.b true,.i (t1),.b true,.l (cy pr up wa se e0 e1 t0 t1)]:=⟨by kernel_rfl,by kernel_rfl⟩
theorem rpr (pr:Nat->Int) (up wa se e0 e1:Nat->Bool) (t0 t1:Int):∀ k,k<9->ic [.l (cj pr up wa se e0 e1 t0 t1),.i ((4*k:Nat):Int),.i 4]=[.b true,.i (IntKind.wrap .u64 (pr k)),.b true,.l (cj pr up wa se e0 e1 t0 t1)]/\tD [.l (cy pr up wa se e0 e1 t0 t1),.i ((4*k:Nat):Int),.i 4]=[.b true,.i (pr k),.b true,.l (cy pr up wa se e0 e1 t0 t1)] :=
 nine ⟨by kernel_rfl,by kernel_rfl⟩ ⟨by kernel_rfl,by kernel_rfl⟩ ⟨by kernel_rfl,by kernel_rfl⟩ ⟨by kernel_rfl,by kernel_rfl⟩ ⟨by kernel_rfl,by kernel_rfl⟩ ⟨by kernel_rfl,by kernel_rfl⟩ ⟨by kernel_rfl,by kernel_rfl⟩ ⟨by kernel_rfl,by kernel_rfl⟩ ⟨by kernel_rfl,by kernel_rfl⟩
theorem rc0 (m:Nat) (hm:m<9) (hb:sr [.l (cj pr up wa se e0 e1 t0 t1),.i 0]=[.b true,.i m]):ic [.l (cj pr up wa se e0 e1 t0 t1),.i 2097156,.i 4]=[.b true,.i m,.b true,.l (cj pr up (BE wa m) (cls se m) e0 e1 t0 t1)] :=
 ot (F:=lC) (sg:=iD) (o:=kF) [(93,.b true),(94,.i m)] ⟨ig (by kernel_rfl:cq lC iD kF [.l (cj pr up wa se e0 e1 t0 t1),.i 2097156,.i 4] 93 = .b ((sr [.l (cj pr up wa se e0 e1 t0 t1),.i 0]).getD 0 default).aA) (by rw [hb];rfl),yf (by kernel_rfl:cq lC iD kF [.l (cj pr up wa se e0 e1 t0 t1),.i 2097156,.i 4] 94 = .i ((sr [.l (cj pr up wa se e0 e1 t0 t1),.i 0]).getD 1 default).ai) (by rw [hb];rfl),trivial⟩
  (nine (P:=fun m=>mW [(93,.b true),(94,.i m)] lC iD kF [.l (cj pr up wa se e0 e1 t0 t1),.i 2097156,.i 4]=[.b true,.i m,.b true,.l (cj pr up (BE wa m) (cls se m) e0 e1 t0 t1)]) (by kernel_rfl) (by kernel_rfl) (by kernel_rfl) (by kernel_rfl) (by kernel_rfl) (by kernel_rfl) (by kernel_rfl) (by kernel_rfl) (by kernel_rfl) m hm)
theorem rd0 (m:Nat) (hm:m<9) (hb:tC [.l (cy pr up wa se e0 e1 t0 t1),.i 0]=[.b true,.i m]):tD [.l (cy pr up wa se e0 e1 t0 t1),.i 2097156,.i 4]=[.b true,.i m,.b true,.l [.i (aN up),.i (bif Nat.beq m 0 then aN wa else dx .u64 (aN wa) (aF .u64 1 (m:Int))),.i (bif Nat.beq m 0 then aN se else bB .u64 (aN se) (aF .u64 1 (m:Int))),.l (kY e0 e1),.l (jk pr),.l [.i t0,.i t1]]] :=
 ot (F:=qM) (sg:=om) (o:=pW) [(36,.b true),(37,.i m)] ⟨ig (by kernel_rfl:cq qM om pW [.l (cy pr up wa se e0 e1 t0 t1),.i 2097156,.i 4] 36 = .b ((tC [.l (cy pr up wa se e0 e1 t0 t1),.i 0]).getD 0 default).aA) (by rw [hb];rfl),yf (by kernel_rfl:cq qM om pW [.l (cy pr up wa se e0 e1 t0 t1),.i 2097156,.i 4] 37 = .i ((tC [.l (cy pr up wa se e0 e1 t0 t1),.i 0]).getD 1 default).ai) (by rw [hb];rfl),trivial⟩
  (nine (P:=fun m=>mW [(36,.b true),(37,.i m)] qM om pW [.l (cy pr up wa se e0 e1 t0 t1),.i 2097156,.i 4]=[.b true,.i m,.b true,.l [.i (aN up),.i (bif Nat.beq m 0 then aN wa else dx .u64 (aN wa) (aF .u64 1 (m:Int))),.i (bif Nat.beq m 0 then aN se else bB .u64 (aN se) (aF .u64 1 (m:Int))),.l (kY e0 e1),.l (jk pr),.l [.i t0,.i t1]]]) (by kernel_rfl) (by kernel_rfl) (by kernel_rfl) (by kernel_rfl) (by kernel_rfl) (by kernel_rfl) (by kernel_rfl) (by kernel_rfl) (by kernel_rfl) m hm)
theorem rc1 (m:Nat) (hm:m<9) (hb:sr [.l (cj pr up wa se e0 e1 t0 t1),.i 1]=[.b true,.i m]):ic [.l (cj pr up wa se e0 e1 t0 t1),.i 2101252,.i 4]=[.b true,.i m,.b true,.l (cj pr up (BE wa m) (cls se m) e0 e1 t0 t1)] :=
 ot (F:=lC) (sg:=iD) (o:=kF) [(93,.b true),(94,.i m)] ⟨ig (by kernel_rfl:cq lC iD kF [.l (cj pr up wa se e0 e1 t0 t1),.i 2101252,.i 4] 93 = .b ((sr [.l (cj pr up wa se e0 e1 t0 t1),.i 1]).getD 0 default).aA) (by rw [hb];rfl),yf (by kernel_rfl:cq lC iD kF [.l (cj pr up wa se e0 e1 t0 t1),.i 2101252,.i 4] 94 = .i ((sr [.l (cj pr up wa se e0 e1 t0 t1),.i 1]).getD 1 default).ai) (by rw [hb];rfl),trivial⟩
  (nine (P:=fun m=>mW [(93,.b true),(94,.i m)] lC iD kF [.l (cj pr up wa se e0 e1 t0 t1),.i 2101252,.i 4]=[.b true,.i m,.b true,.l (cj pr up (BE wa m) (cls se m) e0 e1 t0 t1)]) (by kernel_rfl) (by kernel_rfl) (by kernel_rfl) (by kernel_rfl) (by kernel_rfl) (by kernel_rfl) (by kernel_rfl) (by kernel_rfl) (by kernel_rfl) m hm)
theorem Bd (m:Nat) (hm:m<9) (hb:tC [.l (cy pr up wa se e0 e1 t0 t1),.i 1]=[.b true,.i m]):tD [.l (cy pr up wa se e0 e1 t0 t1),.i 2101252,.i 4]=[.b true,.i m,.b true,.l [.i (aN up),.i (bif Nat.beq m 0 then aN wa else dx .u64 (aN wa) (aF .u64 1 (m:Int))),.i (bif Nat.beq m 0 then aN se else bB .u64 (aN se) (aF .u64 1 (m:Int))),.l (kY e0 e1),.l (jk pr),.l [.i t0,.i t1]]] :=
 ot (F:=qM) (sg:=om) (o:=pW) [(36,.b true),(37,.i m)] ⟨ig (by kernel_rfl:cq qM om pW [.l (cy pr up wa se e0 e1 t0 t1),.i 2101252,.i 4] 36 = .b ((tC [.l (cy pr up wa se e0 e1 t0 t1),.i 1]).getD 0 default).aA) (by rw [hb];rfl),yf (by kernel_rfl:cq qM om pW [.l (cy pr up wa se e0 e1 t0 t1),.i 2101252,.i 4] 37 = .i ((tC [.l (cy pr up wa se e0 e1 t0 t1),.i 1]).getD 1 default).ai) (by rw [hb];rfl),trivial⟩
  (nine (P:=fun m=>mW [(36,.b true),(37,.i m)] qM om pW [.l (cy pr up wa se e0 e1 t0 t1),.i 2101252,.i 4]=[.b true,.i m,.b true,.l [.i (aN up),.i (bif Nat.beq m 0 then aN wa else dx .u64 (aN wa) (aF .u64 1 (m:Int))),.i (bif Nat.beq m 0 then aN se else bB .u64 (aN se) (aF .u64 1 (m:Int))),.l (kY e0 e1),.l (jk pr),.l [.i t0,.i t1]]]) (by kernel_rfl) (by kernel_rfl) (by kernel_rfl) (by kernel_rfl) (by kernel_rfl) (by kernel_rfl) (by kernel_rfl) (by kernel_rfl) (by kernel_rfl) m hm)
theorem zuA (wa:Nat->Bool) {m:Nat} (hm:m<9):(bif Nat.beq m 0 then aN wa else dx .u64 (aN wa) (aF .u64 1 (m:Int)))=aN (BE wa m):=by
 unfold BE
 rw [Hr wa hm]
 cases Nat.beq m 0<;>rfl
theorem zuB (se:Nat->Bool) {m:Nat} (hm:m<9):(bif Nat.beq m 0 then aN se else bB .u64 (aN se) (aF .u64 1 (m:Int)))=aN (cls se m):=by
 unfold cls
 rw [YE se hm]
 cases Nat.beq m 0<;>rfl
theorem gS.qR (h:gS pr up wa se e0 e1 t0 t1) (m:Nat):gS pr up (BE wa m) (cls se m) e0 e1 t0 t1:=by
 unfold BE cls
 cases m with
 | zero=>exact h
 | succ m =>
  refine ⟨h.p0,h.pr,h.z,h.t0,h.t1,fun j h1 h2=>?_⟩
  simp only [show Nat.beq (m+1) 0=false from rfl,cond_false,pK] at h2 ⊢
  split at h2
  ·cases h2
  ·rw [if_neg (by assumption)]
   exact h.inv j h1 h2
theorem zxw (h:gS pr up wa se e0 e1 t0 t1) (hx:0<=x):∃ v is xg xh,ic [.l (cj pr up wa se e0 e1 t0 t1),.i x,.i n]=[.b true,.i v,.b is,.l (cj pr up xg xh e0 e1 t0 t1)]/\tD [.l (cy pr up wa se e0 e1 t0 t1),.i x,.i n]=[.b true,.i v,.b is,.l (cy pr up xg xh e0 e1 t0 t1)]/\gS pr up xg xh e0 e1 t0 t1:=by
 have w7:∀ {t:Int},0<=t/\t<=7->IntKind.wrap .u64 t=t:=fun h=>uJ h.1 (by omega)
 have qR:∀ c:Nat,c<2->(sr [.l (cj pr up wa se e0 e1 t0 t1),.i c]=[.b true,.i (uK pr (qc wa e0 e1 c) 8 1 0:Nat)]/\tC [.l (cy pr up wa se e0 e1 t0 t1),.i c]=[.b true,.i (uK pr (qc wa e0 e1 c) 8 1 0:Nat)])/\uK pr (qc wa e0 e1 c) 8 1 0<9:=fun c hc=>⟨⟨YJ hc,YM h hc⟩,(Qi h.p0 h.pr _).2⟩
 rcases zyO (n:=n) hx with ⟨rfl,hr⟩ | hno
 ·rcases hr with ⟨k,hk,rfl⟩ | rfl | rfl | rfl | rfl | rfl | rfl | rfl
  ·obtain ⟨a,b⟩:=rpr pr up wa se e0 e1 t0 t1 k hk
   rw [w7 (h.pr k)] at a
   exact ⟨_,_,wa,se,a,b,h⟩
  ·obtain ⟨a,b⟩:=zzB pr up wa se e0 e1 t0 t1
   rw [YO] at a
   exact ⟨_,_,wa,se,a,b,h⟩
  ·obtain ⟨a,b⟩:=zzC pr up wa se e0 e1 t0 t1
   rw [YO] at a
   exact ⟨_,_,wa,se,a,b,h⟩
  ·obtain ⟨a,b⟩:=zzD pr up wa se e0 e1 t0 t1
   rw [YO] at a
   exact ⟨_,_,wa,se,a,b,h⟩
  ·obtain ⟨a,b⟩:=zvv pr up wa se e0 e1 t0 t1
   rw [w7 h.t0] at a
   exact ⟨_,_,wa,se,a,b,h⟩
  ·obtain ⟨a,b⟩:=zvw pr up wa se e0 e1 t0 t1
   rw [w7 h.t1] at a
   exact ⟨_,_,wa,se,a,b,h⟩
  ·obtain ⟨⟨a,b⟩,hm⟩:=qR 0 (by decide)
   have b:=rd0 _ hm b
   rw [zuA wa hm,zuB se hm] at b
   exact ⟨_,_,_,_,rc0 _ hm a,b,h.qR _⟩
  ·obtain ⟨⟨a,b⟩,hm⟩:=qR 1 (by decide)
   have b:=Bd _ hm b
   rw [zuA wa hm,zuB se hm] at b
   exact ⟨_,_,_,_,rc1 _ hm a,b,h.qR _⟩
 ·exact ⟨_,_,wa,se,zzz hno,EW hno,h⟩
end
end Go.Proofs.Ytiabiimoalkmjaa
namespace Go.Proofs.Ytiabiimoalkmjaa
open Go Go.Sx
set_option maxRecDepth 100000
section
variable {pr:Nat->Int} {up wa se e0 e1:Nat->Bool} {t0 t1:Int} {x n v:Int}
theorem cl3 {j:Nat} (h:j<9):((iU pr up wa se e0 e1).getD (Int.toNat (j:Int)*6+3) default).aA=se j:=nine (P:=fun j=>((iU pr up wa se e0 e1).getD (Int.toNat (j:Int)*6+3) default).aA=se j) rfl rfl rfl rfl rfl rfl rfl rfl rfl j h
def nv (e:Nat->Bool) (v:Int):Nat->Bool:=fun j=>bif Nat.beq j 0 then e 0 else (dD .u64 (cW .u64 v (j:Int)) 1==1)
theorem zv2 {e:Nat->Bool} (he:e 0=false) (hv:0<=v/\v<18446744073709551616):dD .u64 (Int.tmod v 4294967296) 510=aN (nv e v):=by
 obtain ⟨k,rfl⟩:=xd hv.1
 rw [Int.tmod_eq_emod_of_nonneg hv.1,show ((k:Int)%4294967296)=((k%4294967296:Nat):Int) by omega,show (510:Int)=((510:Nat):Int) from rfl,Hj (by omega) (by decide)]
 refine congrArg (fun k:Nat=>(k:Int)) (Hp fun j=>?_)
 have hb:∀ j:Nat,j<64->(dD .u64 (cW .u64 (k:Int) (j:Int)) 1==1)=k.testBit j:=fun j hj=>by
  have s:cW .u64 (k:Int) (j:Int)=((k/2^j:Nat):Int):=LG j (by omega) rfl
  have q:k/2^j<=k:=Nat.div_le_self _ _
  rw [s,show (1:Int)=((1:Nat):Int) from rfl,Hj (by omega) (by decide),Nat.and_one_is_mod,Nat.testBit_eq_decide_div_mod_eq,LI]
  apply decide_eq_decide.2
  omega
 rw [Nat.testBit_and,show (4294967296:Nat)=2^32 by decide,Nat.testBit_mod_two_pow]
 by_cases hj:j<9
 ·have h5:(510:Nat).testBit j = !Nat.beq j 0:=nine (P:=fun j=>(510:Nat).testBit j = !Nat.beq j 0) (by decide) (by decide) (by decide) (by decide) (by decide) (by decide) (by decide) (by decide) (by decide) j hj
  rw [h5,decide_eq_true hj,decide_eq_true (show j<32 by omega),Bool.true_and,Bool.true_and]
  unfold nv
  rw [hb j (by omega),he]
  cases Nat.beq j 0<;>simp
 ·have:(510:Nat).testBit j=false:=Nat.testBit_lt_two_pow (Nat.lt_of_lt_of_le (by decide:510<2^9) (Nat.pow_le_pow_right (by decide) (by omega)))
  rw [this,decide_eq_false hj,Bool.and_false,Bool.false_and]
theorem YP (hv:0<=v/\v<18446744073709551616):IntKind.wrap .i64 (dD .u64 v 7)=Int.tmod (Int.tmod v 4294967296) 8/\0<=Int.tmod (Int.tmod v 4294967296) 8/\Int.tmod (Int.tmod v 4294967296) 8<=7:=by
 rw [zS hv.1 hv.2 3 (by decide) (m:=7) (p:=8) (by decide) (by decide),Int.tmod_eq_emod_of_nonneg hv.1,Int.tmod_eq_emod_of_nonneg (by omega),Bz (by omega) (by omega)]
 omega
theorem wpr (pr:Nat->Int) (up wa se e0 e1:Nat->Bool) (t0 t1 v:Int):∀ k,k<9->iE [.l (cj pr up wa se e0 e1 t0 t1),.i ((4*k:Nat):Int),.i 4,.i v]=[.b true,.b true,.l (cj (bif Nat.beq k 0 then pr else e_ pr k (IntKind.wrap .i64 (dD .u64 v 7))) up wa se e0 e1 t0 t1)]/\qL [.l (cy pr up wa se e0 e1 t0 t1),.i ((4*k:Nat):Int),.i 4,.i v]=[.b true,.b true,.l (cy (bif Nat.beq k 0 then pr else e_ pr k (Int.tmod (Int.tmod v 4294967296) 8)) up wa se e0 e1 t0 t1)] :=
 nine ⟨by kernel_rfl,by kernel_rfl⟩ ⟨by kernel_rfl,by kernel_rfl⟩ ⟨by kernel_rfl,by kernel_rfl⟩ ⟨by kernel_rfl,by kernel_rfl⟩ ⟨by kernel_rfl,by kernel_rfl⟩ ⟨by kernel_rfl,by kernel_rfl⟩ ⟨by kernel_rfl,by kernel_rfl⟩ ⟨by kernel_rfl,by kernel_rfl⟩ ⟨by kernel_rfl,by kernel_rfl⟩
theorem zzE (pr:Nat->Int) (up wa se e0 e1:Nat->Bool) (t0 t1 v:Int):iE [.l (cj pr up wa se e0 e1 t0 t1),.i 4096,.i 4,.i v]=[.b true,.b true,.l (cj pr up wa se e0 e1 t0 t1)]/\qL [.l (cy pr up wa se e0 e1 t0 t1),.i 4096,.i 4,.i v]=[.b true,.b true,.l (cy pr up wa se e0 e1 t0 t1)]:=⟨by kernel_rfl,by kernel_rfl⟩
theorem zzF (pr:Nat->Int) (up wa se e0 e1:Nat->Bool) (t0 t1 v:Int):iE [.l (cj pr up wa se e0 e1 t0 t1),.i 8192,.i 4,.i v]=[.b true,.b true,.l (cj pr up wa se (nv e0 v) e1 t0 t1)]/\qL [.l (cy pr up wa se e0 e1 t0 t1),.i 8192,.i 4,.i v]=[.b true,.b true,.l [.i (aN up),.i (aN wa),.i (aN se),.l [.i (dD .u64 (Int.tmod v 4294967296) 510),.i (aN e1)],.l (jk pr),.l [.i t0,.i t1]]]:=⟨by kernel_rfl,by kernel_rfl⟩
theorem zzG (pr:Nat->Int) (up wa se e0 e1:Nat->Bool) (t0 t1 v:Int):iE [.l (cj pr up wa se e0 e1 t0 t1),.i 8320,.i 4,.i v]=[.b true,.b true,.l (cj pr up wa se e0 (nv e1 v) t0 t1)]/\qL [.l (cy pr up wa se e0 e1 t0 t1),.i 8320,.i 4,.i v]=[.b true,.b true,.l [.i (aN up),.i (aN wa),.i (aN se),.l [.i (aN e0),.i (dD .u64 (Int.tmod v 4294967296) 510)],.l (jk pr),.l [.i t0,.i t1]]]:=⟨by kernel_rfl,by kernel_rfl⟩
theorem zvx (pr:Nat->Int) (up wa se e0 e1:Nat->Bool) (t0 t1 v:Int):iE [.l (cj pr up wa se e0 e1 t0 t1),.i 2097152,.i 4,.i v]=[.b true,.b true,.l (cj pr up wa se e0 e1 (IntKind.wrap .i64 (dD .u64 v 7)) t1)]/\qL [.l (cy pr up wa se e0 e1 t0 t1),.i 2097152,.i 4,.i v]=[.b true,.b true,.l (cy pr up wa se e0 e1 (Int.tmod (Int.tmod v 4294967296) 8) t1)]:=⟨by kernel_rfl,by kernel_rfl⟩
theorem zvy (pr:Nat->Int) (up wa se e0 e1:Nat->Bool) (t0 t1 v:Int):iE [.l (cj pr up wa se e0 e1 t0 t1),.i 2101248,.i 4,.i v]=[.b true,.b true,.l (cj pr up wa se e0 e1 t0 (IntKind.wrap .i64 (dD .u64 v 7)))]/\qL [.l (cy pr up wa se e0 e1 t0 t1),.i 2101248,.i 4,.i v]=[.b true,.b true,.l (cy pr up wa se e0 e1 t0 (Int.tmod (Int.tmod v 4294967296) 8))]:=⟨by kernel_rfl,by kernel_rfl⟩
theorem wc0 (k:Nat) (hk:k<9) (h:(dD .u64 v 4294967295)=k) (s e:Bool) (hs:se k=s) (he:e0 k=e):iE [.l (cj pr up wa se e0 e1 t0 t1),.i 2097156,.i 4,.i v]=[.b true,.b true,.l (bif Nat.ble 1 k&&s&&e then cj pr up (e_ wa k (wa k||(up k&&!false))) (e_ se k false) e0 e1 t0 t1 else cj pr up wa se e0 e1 t0 t1)] :=
 ot (F:=ie) (sg:=f_) (o:=gZ) [(76,.i k),(82,.b s),(90,.b e)] ⟨yf (by kernel_rfl:cq ie f_ gZ [.l (cj pr up wa se e0 e1 t0 t1),.i 2097156,.i 4,.i v] 76 = .i (dD .u64 v 4294967295)) h,ig (by kernel_rfl:cq ie f_ gZ [.l (cj pr up wa se e0 e1 t0 t1),.i 2097156,.i 4,.i v] 82 = .b ((iU pr up wa se e0 e1).getD (Int.toNat (dD .u64 v 4294967295)*6+3) default).aA) (by rw [h,cl3 hk,hs]),ig (by kernel_rfl:cq ie f_ gZ [.l (cj pr up wa se e0 e1 t0 t1),.i 2097156,.i 4,.i v] 90 = .b ([((iU pr up wa se e0 e1).getD (Int.toNat (dD .u64 v 4294967295)*6+4) default).aA,((iU pr up wa se e0 e1).getD (Int.toNat (dD .u64 v 4294967295)*6+5) default).aA].getD (Int.toNat 0) false)) (by rw [h,YH hk,YI hk];exact he),trivial⟩
  (nine (P:=fun k=>∀ s e,mW [(76,.i k),(82,.b s),(90,.b e)] ie f_ gZ [.l (cj pr up wa se e0 e1 t0 t1),.i 2097156,.i 4,.i v]=[.b true,.b true,.l (bif Nat.ble 1 k&&s&&e then cj pr up (e_ wa k (wa k||(up k&&!false))) (e_ se k false) e0 e1 t0 t1 else cj pr up wa se e0 e1 t0 t1)]) (by rintro (_ | _) (_ | _)<;>kernel_rfl) (by rintro (_ | _) (_ | _)<;>kernel_rfl) (by rintro (_ | _) (_ | _)<;>kernel_rfl) (by rintro (_ | _) (_ | _)<;>kernel_rfl) (by rintro (_ | _) (_ | _)<;>kernel_rfl) (by rintro (_ | _) (_ | _)<;>kernel_rfl) (by rintro (_ | _) (_ | _)<;>kernel_rfl) (by rintro (_ | _) (_ | _)<;>kernel_rfl) (by rintro (_ | _) (_ | _)<;>kernel_rfl) k hk s e)
theorem wn0 (h:(ew (dD .u64 v 4294967295) 1&&eP (dD .u64 v 4294967295) 8)=false):iE [.l (cj pr up wa se e0 e1 t0 t1),.i 2097156,.i 4,.i v]=[.b true,.b true,.l (cj pr up wa se e0 e1 t0 t1)] :=
 ot (F:=ie) (sg:=f_) (o:=gZ) [(79,.b false)] ⟨ig (by kernel_rfl:cq ie f_ gZ [.l (cj pr up wa se e0 e1 t0 t1),.i 2097156,.i 4,.i v] 79 = .b (ew (dD .u64 v 4294967295) 1&&eP (dD .u64 v 4294967295) 8)) h,trivial⟩ (by kernel_rfl)
theorem wd0 (k:Nat) (hk:k<9) (h:(Int.tmod v 4294967296)=k) (b:Bool) (hb:(se k&&e0 k)=b):qL [.l (cy pr up wa se e0 e1 t0 t1),.i 2097156,.i 4,.i v]=[.b true,.b true,.l (bif Nat.ble 1 k&&b then [.i (aN up),.i (bB .u64 (aN wa) (dx .u64 (aN up) (dx .u64 (aN se) (aF .u64 1 (k:Int))))),.i (dx .u64 (aN se) (aF .u64 1 (k:Int))),.l (kY e0 e1),.l (jk pr),.l [.i t0,.i t1]] else cy pr up wa se e0 e1 t0 t1)] :=
 (xe _ _ _ _).trans <| ot (F:=nk) (sg:=lD) (o:=mS) [(12,.i k),(53,.b b)] ⟨yf (by kernel_rfl:cq nk lD mS [.l (cy pr up wa se e0 e1 t0 t1),.i 2097156,.i 4,.i v] 12 = .i (Int.tmod v 4294967296)) h,ig (by kernel_rfl:cq nk lD mS [.l (cy pr up wa se e0 e1 t0 t1),.i 2097156,.i 4,.i v] 53 = .b (dD .u64 (cW .u64 (dD .u64 (aN se) (aN e0)) (Int.tmod v 4294967296)) 1==1)) (by rw [h,YF,YG _ hk];exact hb),trivial⟩
  (nine (P:=fun k=>∀ b,mW [(12,.i k),(53,.b b)] nk lD mS [.l (cy pr up wa se e0 e1 t0 t1),.i 2097156,.i 4,.i v]=[.b true,.b true,.l (bif Nat.ble 1 k&&b then [.i (aN up),.i (bB .u64 (aN wa) (dx .u64 (aN up) (dx .u64 (aN se) (aF .u64 1 (k:Int))))),.i (dx .u64 (aN se) (aF .u64 1 (k:Int))),.l (kY e0 e1),.l (jk pr),.l [.i t0,.i t1]] else cy pr up wa se e0 e1 t0 t1)]) (by rintro (_ | _)<;>kernel_rfl) (by rintro (_ | _)<;>kernel_rfl) (by rintro (_ | _)<;>kernel_rfl) (by rintro (_ | _)<;>kernel_rfl) (by rintro (_ | _)<;>kernel_rfl) (by rintro (_ | _)<;>kernel_rfl) (by rintro (_ | _)<;>kernel_rfl) (by rintro (_ | _)<;>kernel_rfl) (by rintro (_ | _)<;>kernel_rfl) k hk b)
theorem wm0 (h:(ew (Int.tmod v 4294967296) 1&&eP (Int.tmod v 4294967296) 8)=false):qL [.l (cy pr up wa se e0 e1 t0 t1),.i 2097156,.i 4,.i v]=[.b true,.b true,.l (cy pr up wa se e0 e1 t0 t1)] :=
 (xe _ _ _ _).trans <| ot (F:=nk) (sg:=lD) (o:=mS) [(44,.b false)] ⟨ig (by kernel_rfl:cq nk lD mS [.l (cy pr up wa se e0 e1 t0 t1),.i 2097156,.i 4,.i v] 44 = .b (ew (Int.tmod v 4294967296) 1&&eP (Int.tmod v 4294967296) 8)) h,trivial⟩ (by kernel_rfl)
theorem wc1 (k:Nat) (hk:k<9) (h:(dD .u64 v 4294967295)=k) (s e:Bool) (hs:se k=s) (he:e1 k=e):iE [.l (cj pr up wa se e0 e1 t0 t1),.i 2101252,.i 4,.i v]=[.b true,.b true,.l (bif Nat.ble 1 k&&s&&e then cj pr up (e_ wa k (wa k||(up k&&!false))) (e_ se k false) e0 e1 t0 t1 else cj pr up wa se e0 e1 t0 t1)] :=
 ot (F:=ie) (sg:=f_) (o:=gZ) [(76,.i k),(82,.b s),(90,.b e)] ⟨yf (by kernel_rfl:cq ie f_ gZ [.l (cj pr up wa se e0 e1 t0 t1),.i 2101252,.i 4,.i v] 76 = .i (dD .u64 v 4294967295)) h,ig (by kernel_rfl:cq ie f_ gZ [.l (cj pr up wa se e0 e1 t0 t1),.i 2101252,.i 4,.i v] 82 = .b ((iU pr up wa se e0 e1).getD (Int.toNat (dD .u64 v 4294967295)*6+3) default).aA) (by rw [h,cl3 hk,hs]),ig (by kernel_rfl:cq ie f_ gZ [.l (cj pr up wa se e0 e1 t0 t1),.i 2101252,.i 4,.i v] 90 = .b ([((iU pr up wa se e0 e1).getD (Int.toNat (dD .u64 v 4294967295)*6+4) default).aA,((iU pr up wa se e0 e1).getD (Int.toNat (dD .u64 v 4294967295)*6+5) default).aA].getD (Int.toNat 1) false)) (by rw [h,YH hk,YI hk];exact he),trivial⟩
  (nine (P:=fun k=>∀ s e,mW [(76,.i k),(82,.b s),(90,.b e)] ie f_ gZ [.l (cj pr up wa se e0 e1 t0 t1),.i 2101252,.i 4,.i v]=[.b true,.b true,.l (bif Nat.ble 1 k&&s&&e then cj pr up (e_ wa k (wa k||(up k&&!false))) (e_ se k false) e0 e1 t0 t1 else cj pr up wa se e0 e1 t0 t1)]) (by rintro (_ | _) (_ | _)<;>kernel_rfl) (by rintro (_ | _) (_ | _)<;>kernel_rfl) (by rintro (_ | _) (_ | _)<;>kernel_rfl) (by rintro (_ | _) (_ | _)<;>kernel_rfl) (by rintro (_ | _) (_ | _)<;>kernel_rfl) (by rintro (_ | _) (_ | _)<;>kernel_rfl) (by rintro (_ | _) (_ | _)<;>kernel_rfl) (by rintro (_ | _) (_ | _)<;>kernel_rfl) (by rintro (_ | _) (_ | _)<;>kernel_rfl) k hk s e)
theorem wn1 (h:(ew (dD .u64 v 4294967295) 1&&eP (dD .u64 v 4294967295) 8)=false):iE [.l (cj pr up wa se e0 e1 t0 t1),.i 2101252,.i 4,.i v]=[.b true,.b true,.l (cj pr up wa se e0 e1 t0 t1)] :=
 ot (F:=ie) (sg:=f_) (o:=gZ) [(79,.b false)] ⟨ig (by kernel_rfl:cq ie f_ gZ [.l (cj pr up wa se e0 e1 t0 t1),.i 2101252,.i 4,.i v] 79 = .b (ew (dD .u64 v 4294967295) 1&&eP (dD .u64 v 4294967295) 8)) h,trivial⟩ (by kernel_rfl)
theorem wd1 (k:Nat) (hk:k<9) (h:(Int.tmod v 4294967296)=k) (b:Bool) (hb:(se k&&e1 k)=b):qL [.l (cy pr up wa se e0 e1 t0 t1),.i 2101252,.i 4,.i v]=[.b true,.b true,.l (bif Nat.ble 1 k&&b then [.i (aN up),.i (bB .u64 (aN wa) (dx .u64 (aN up) (dx .u64 (aN se) (aF .u64 1 (k:Int))))),.i (dx .u64 (aN se) (aF .u64 1 (k:Int))),.l (kY e0 e1),.l (jk pr),.l [.i t0,.i t1]] else cy pr up wa se e0 e1 t0 t1)] :=
 (xe _ _ _ _).trans <| ot (F:=nk) (sg:=lD) (o:=mS) [(12,.i k),(53,.b b)] ⟨yf (by kernel_rfl:cq nk lD mS [.l (cy pr up wa se e0 e1 t0 t1),.i 2101252,.i 4,.i v] 12 = .i (Int.tmod v 4294967296)) h,ig (by kernel_rfl:cq nk lD mS [.l (cy pr up wa se e0 e1 t0 t1),.i 2101252,.i 4,.i v] 53 = .b (dD .u64 (cW .u64 (dD .u64 (aN se) (aN e1)) (Int.tmod v 4294967296)) 1==1)) (by rw [h,YF,YG _ hk];exact hb),trivial⟩
  (nine (P:=fun k=>∀ b,mW [(12,.i k),(53,.b b)] nk lD mS [.l (cy pr up wa se e0 e1 t0 t1),.i 2101252,.i 4,.i v]=[.b true,.b true,.l (bif Nat.ble 1 k&&b then [.i (aN up),.i (bB .u64 (aN wa) (dx .u64 (aN up) (dx .u64 (aN se) (aF .u64 1 (k:Int))))),.i (dx .u64 (aN se) (aF .u64 1 (k:Int))),.l (kY e0 e1),.l (jk pr),.l [.i t0,.i t1]] else cy pr up wa se e0 e1 t0 t1)]) (by rintro (_ | _)<;>kernel_rfl) (by rintro (_ | _)<;>kernel_rfl) (by rintro (_ | _)<;>kernel_rfl) (by rintro (_ | _)<;>kernel_rfl) (by rintro (_ | _)<;>kernel_rfl) (by rintro (_ | _)<;>kernel_rfl) (by rintro (_ | _)<;>kernel_rfl) (by rintro (_ | _)<;>kernel_rfl) (by rintro (_ | _)<;>kernel_rfl) k hk b)
theorem wm1 (h:(ew (Int.tmod v 4294967296) 1&&eP (Int.tmod v 4294967296) 8)=false):qL [.l (cy pr up wa se e0 e1 t0 t1),.i 2101252,.i 4,.i v]=[.b true,.b true,.l (cy pr up wa se e0 e1 t0 t1)] :=
 (xe _ _ _ _).trans <| ot (F:=nk) (sg:=lD) (o:=mS) [(44,.b false)] ⟨ig (by kernel_rfl:cq nk lD mS [.l (cy pr up wa se e0 e1 t0 t1),.i 2101252,.i 4,.i v] 44 = .b (ew (Int.tmod v 4294967296) 1&&eP (Int.tmod v 4294967296) 8)) h,trivial⟩ (by kernel_rfl)
theorem gS.done (h:gS pr up wa se e0 e1 t0 t1) {k:Nat} (hk:1<=k):gS pr up (e_ wa k (wa k||up k)) (e_ se k false) e0 e1 t0 t1:=by
 have hz:¬ (0=k):=by omega
 refine ⟨h.p0,h.pr,?_,h.t0,h.t1,fun j h1 h2=>?_⟩
 ·rw [pK,pK,if_neg hz,if_neg hz]
  exact h.z
 ·rw [pK] at h2 ⊢
  by_cases e:j=k
  ·subst e;rw [if_pos rfl,h1,Bool.or_true]
  ·rw [if_neg e] at h2 ⊢
   exact h.inv j h1 h2
theorem zri (h:gS pr up wa se e0 e1 t0 t1) {k:Nat} (hk:k<9):bB .u64 (aN wa) (dx .u64 (aN up) (dx .u64 (aN se) (aF .u64 1 (k:Int))))=aN (e_ wa k (wa k||up k)):=by
 rw [Hr se hk,zrg]
 refine LQ fun j _=>?_
 rw [pK,pK]
 by_cases e:j=k
 ·subst e;simp
 ·rw [if_neg e,if_neg e]
  cases h1:up j<;>cases h2:se j<;>cases h3:wa j<;>first | rfl | (have:=h.inv j h1 h2;rw [h3] at this;cases this)
theorem gS.set (h:gS pr up wa se e0 e1 t0 t1) {k:Nat} {w:Int} (hw:0<=w/\w<=7):gS (bif Nat.beq k 0 then pr else e_ pr k w) up wa se e0 e1 t0 t1:=by
 cases k with
 | zero=>exact h
 | succ k =>
  refine ⟨h.p0,fun j=>?_,h.z,h.t0,h.t1,h.inv⟩
  simp only [show Nat.beq (k+1) 0=false from rfl,cond_false,pK]
  split
  ·exact hw
  ·exact h.pr j
theorem zvz (h:gS pr up wa se e0 e1 t0 t1) (hx:0<=x) (hv:0<=v/\v<18446744073709551616):∃ is LS xg xh LU EV LV LW,iE [.l (cj pr up wa se e0 e1 t0 t1),.i x,.i n,.i v]=[.b true,.b is,.l (cj LS up xg xh LU EV LV LW)]/\qL [.l (cy pr up wa se e0 e1 t0 t1),.i x,.i n,.i v]=[.b true,.b is,.l (cy LS up xg xh LU EV LV LW)]/\gS LS up xg xh LU EV LV LW:=by
 obtain ⟨l1,l2⟩:=YP hv
 have ev:dD .u64 v 4294967295=Int.tmod v 4294967296:=by rw [zS hv.1 hv.2 32 (by decide) (m:=4294967295) (p:=4294967296) (by decide) (by decide),Int.tmod_eq_emod_of_nonneg hv.1]
 have hc:(∃ k:Nat,k<9/\1<=k/\Int.tmod v 4294967296=k)\/(ew (Int.tmod v 4294967296) 1&&eP (Int.tmod v 4294967296) 8)=false:=by
  rw [Int.tmod_eq_emod_of_nonneg hv.1]
  by_cases a:1<=v%4294967296
  ·by_cases b:v%4294967296<=8
   ·exact .inl ⟨(v%4294967296).toNat,by omega,by omega,by omega⟩
   ·exact .inr (by rw [show eP (v%4294967296) 8=false from decide_eq_false b,Bool.and_false])
  ·exact .inr (by rw [show ew (v%4294967296) 1=false from decide_eq_false (by omega),Bool.false_and])
 rcases zyO (n:=n) hx with ⟨rfl,hr⟩ | hno
 ·rcases hr with ⟨k,hk,rfl⟩ | rfl | rfl | rfl | rfl | rfl | rfl | rfl
  ·obtain ⟨a,b⟩:=wpr pr up wa se e0 e1 t0 t1 v k hk
   rw [l1] at a
   exact ⟨_,_,_,_,_,_,_,_,a,b,h.set l2⟩
  ·obtain ⟨a,b⟩:=zzE pr up wa se e0 e1 t0 t1 v
   exact ⟨_,_,_,_,_,_,_,_,a,b,h⟩
  ·obtain ⟨a,b⟩:=zzF pr up wa se e0 e1 t0 t1 v
   rw [zv2 h.z.2.2.2.1 hv] at b
   exact ⟨_,_,_,_,_,_,_,_,a,b,h.p0,h.pr,h.z,h.t0,h.t1,h.inv⟩
  ·obtain ⟨a,b⟩:=zzG pr up wa se e0 e1 t0 t1 v
   rw [zv2 h.z.2.2.2.2 hv] at b
   exact ⟨_,_,_,_,_,_,_,_,a,b,h.p0,h.pr,h.z,h.t0,h.t1,h.inv⟩
  ·obtain ⟨a,b⟩:=zvx pr up wa se e0 e1 t0 t1 v
   rw [l1] at a
   exact ⟨_,_,_,_,_,_,_,_,a,b,h.p0,h.pr,h.z,l2,h.t1,h.inv⟩
  ·obtain ⟨a,b⟩:=zvy pr up wa se e0 e1 t0 t1 v
   rw [l1] at a
   exact ⟨_,_,_,_,_,_,_,_,a,b,h.p0,h.pr,h.z,h.t0,l2,h.inv⟩
  ·rcases hc with ⟨k,hk,h1,qx⟩ | qx
   ·have a:=wc0 (pr:=pr) (up:=up) (wa:=wa) (t0:=t0) (t1:=t1) (e1:=e1) k hk (ev.trans qx) _ _ (rfl:se k=_) (rfl:e0 k=_)
    have b:=wd0 (pr:=pr) (up:=up) (wa:=wa) (t0:=t0) (t1:=t1) (e1:=e1) k hk qx _ (rfl:(se k&&e0 k)=_)
    rw [zri h hk,Hr se hk] at b
    rw [Bool.and_assoc,Bool.not_false,Bool.and_true] at a
    rw [Nat.ble_eq_true_of_le h1,Bool.true_and] at a b
    cases hq:(se k&&e0 k) with
    | true =>
     rw [hq] at a b
     exact ⟨_,_,_,_,_,_,_,_,a,b,h.done h1⟩
    | false =>
     rw [hq] at a b
     exact ⟨_,_,_,_,_,_,_,_,a,b,h⟩
   ·have a:=wn0 (pr:=pr) (up:=up) (wa:=wa) (se:=se) (t0:=t0) (t1:=t1) (e0:=e0) (e1:=e1) (by rw [ev];exact qx)
    have b:=wm0 (pr:=pr) (up:=up) (wa:=wa) (se:=se) (t0:=t0) (t1:=t1) (e0:=e0) (e1:=e1) qx
    exact ⟨_,_,_,_,_,_,_,_,a,b,h⟩
  ·rcases hc with ⟨k,hk,h1,qx⟩ | qx
   ·have a:=wc1 (pr:=pr) (up:=up) (wa:=wa) (t0:=t0) (t1:=t1) (e0:=e0) k hk (ev.trans qx) _ _ (rfl:se k=_) (rfl:e1 k=_)
    have b:=wd1 (pr:=pr) (up:=up) (wa:=wa) (t0:=t0) (t1:=t1) (e0:=e0) k hk qx _ (rfl:(se k&&e1 k)=_)
    rw [zri h hk,Hr se hk] at b
    rw [Bool.and_assoc,Bool.not_false,Bool.and_true] at a
    rw [Nat.ble_eq_true_of_le h1,Bool.true_and] at a b
    cases hq:(se k&&e1 k) with
    | true =>
     rw [hq] at a b
     exact ⟨_,_,_,_,_,_,_,_,a,b,h.done h1⟩
    | false =>
     rw [hq] at a b
     exact ⟨_,_,_,_,_,_,_,_,a,b,h⟩
   ·have a:=wn1 (pr:=pr) (up:=up) (wa:=wa) (se:=se) (t0:=t0) (t1:=t1) (e0:=e0) (e1:=e1) (by rw [ev];exact qx)
    have b:=wm1 (pr:=pr) (up:=up) (wa:=wa) (se:=se) (t0:=t0) (t1:=t1) (e0:=e0) (e1:=e1) qx
    exact ⟨_,_,_,_,_,_,_,_,a,b,h⟩
 ·exact ⟨_,_,_,_,_,_,_,_,zzA hno,EX hno,h⟩
end
end Go.Proofs.Ytiabiimoalkmjaa
namespace Go.Proofs.Ytiabiimoalkmjaa
open Go Go.Sx
set_option maxRecDepth 100000
def has (x n:Int):Bool:=(n==1||n==2||n==4||n==8)&&decide (2147483648<=x/\x+n<=2148532224)
theorem zv3 {x n:Int} (h:has x n=true):∃ k:Nat,n=k/\k<=8/\1<=k/\2147483648<=x/\x+k<=2148532224:=by
 unfold has at h
 simp only [Bool.and_eq_true,Bool.or_eq_true,beq_iff_eq,decide_eq_true_eq] at h
 obtain ⟨(((rfl | rfl) | rfl) | rfl),h1,h2⟩:=h
 ·exact ⟨1,rfl,by decide,by decide,h1,h2⟩
 ·exact ⟨2,rfl,by decide,by decide,h1,h2⟩
 ·exact ⟨4,rfl,by decide,by decide,h1,h2⟩
 ·exact ⟨8,rfl,by decide,by decide,h1,h2⟩
theorem Qj (m:List DV) {x n:Int} (h0:0<=x) (h1:x<18446744073709551616):xU [.l m,.i x,.i n]=[.b (has x n)]/\zG [.l m,.i x,.i n]=[.b (has x n)]:=by
 have e1:xU [.l m,.i x,.i n]=[.b (bif !(bif n==1 then n==1 else bif n==2 then n==2 else bif n==4 then n==4 else n==8) then false else (ew x 2147483648&&eP x (IntKind.wrap .u64 (2148532224-IntKind.wrap .u64 n))))]:=by kernel_rfl
 have e2:zG [.l m,.i x,.i n]=[.b (!(((n != 1&&n != 2)&&n != 4)&&n != 8)&&((ew x 2147483648&&c_ x 2148532224)&&eP (IntKind.wrap .u64 (x+IntKind.wrap .u64 n)) 2148532224))]:=by kernel_rfl
 rw [e1,e2]
 have key:(n=1\/n=2\/n=4\/n=8)\/((n==1)=false/\(n==2)=false/\(n==4)=false/\(n==8)=false):=by
  simp only [beq_eq_false_iff_ne]
  omega
 unfold has
 rcases key with hk | ⟨a,b,c,d⟩
 ·have in':IntKind.wrap .u64 n=n:=uJ (by omega) (by omega)
  rw [in',uJ (n:=2148532224-n) (by omega) (by omega),tF]
  rw [show (bif !(bif n==1 then n==1 else bif n==2 then n==2 else bif n==4 then n==4 else n==8) then false else (ew x 2147483648&&eP x (2148532224-n)))=(ew x 2147483648&&eP x (2148532224-n)) by rcases hk with rfl | rfl | rfl | rfl<;>rfl,
   show (!(((n != 1&&n != 2)&&n != 4)&&n != 8))=true by rcases hk with rfl | rfl | rfl | rfl<;>rfl,show (n==1||n==2||n==4||n==8)=true by rcases hk with rfl | rfl | rfl | rfl<;>rfl,Bool.true_and,Bool.true_and]
  have a1:(ew x 2147483648&&eP x (2148532224-n))=decide (2147483648<=x/\x+n<=2148532224):=by
   show (decide _&&decide _)=_
   rw [Bool.eq_iff_iff]
   simp only [Bool.and_eq_true,decide_eq_true_eq]
   omega
  have a2:((ew x 2147483648&&c_ x 2148532224)&&eP ((x+n)%18446744073709551616) 2148532224)=decide (2147483648<=x/\x+n<=2148532224):=by
   show ((decide _&&decide _)&&decide _)=_
   rw [Bool.eq_iff_iff]
   simp only [Bool.and_eq_true,decide_eq_true_eq]
   omega
  rw [a1,a2]
  exact ⟨rfl,rfl⟩
 ·simp only [bne,a,b,c,d]
  exact ⟨rfl,rfl⟩
def mX (m:List DV) (x:Int) (j:Nat):Int:=bS m (x+j)
def ps (g:Nat->Int):Nat->Int
 | 0=>0
 | i+1=>ps g i+g i*((256^i:Nat):Int)
def vw (m:List DV):Prop:=∀ A:Int,0<=bS m A/\bS m A<256
theorem YQ {g:Nat->Int} (hg:∀ j,0<=g j/\g j<256):∀ i,0<=ps g i/\ps g i<((256^i:Nat):Int)
 | 0=>⟨Int.le_refl 0,show (0:Int)<((256^0:Nat):Int) by decide⟩
 | i+1=>by
  obtain ⟨a,b⟩:=YQ hg i
  obtain ⟨c,d⟩:=hg i
  have e:((256^(i+1):Nat):Int)=256*((256^i:Nat):Int):=by rw [Nat.pow_succ,Nat.mul_comm];rfl
  unfold ps
  rw [e]
  generalize ((256^i:Nat):Int)=p at *
  have m0:0<=g i*p:=Int.mul_nonneg c (by omega)
  have m1:g i*p<=255*p:=Int.mul_le_mul_of_nonneg_right (by omega) (by omega)
  omega
theorem zyQ (i:Nat):(256:Nat)^i=2^(8*i):=by rw [Nat.pow_mul]
theorem d1 {p:Prop} [Decidable p] (h:p) (l:List (Bool×Bool)):ow l (decide p)=true:=zT (decide_eq_true h)
theorem LX {n:Int} (h0:0<=n) (h1:n<18446744073709551616):je n=true:=by show (decide _&&decide _)=true;rw [decide_eq_true h0,decide_eq_true h1];rfl
theorem YR {n:Int} (h0:2147483648<=n) (h1:n<2148532224):Be n=true:=by show (decide _&&decide _)=true;rw [decide_eq_true h0,decide_eq_true h1];rfl
theorem Qk {x k:Int} (hx:0<=x/\x<9223372036854775808) (hk:0<=k/\k<9223372036854775808):IntKind.wrap .u64 (x+IntKind.wrap .u64 k)=x+k:=by rw [uJ hk.1 (by omega),uJ (by omega) (by omega)]
theorem zyR {x b:Int} (hx:0<=x/\x<72057594037927936) (hb:0<=b/\b<256):bB .u64 (aF .u64 x 8) b=x*256+b:=by
 obtain ⟨a,rfl⟩:=xd hx.1
 obtain ⟨c,rfl⟩:=xd hb.1
 have s:aF .u64 (a:Int) 8=((a*2^8:Nat):Int):=by
  show IntKind.wrap .u64 ((a:Int)*2^8)=_
  rw [uJ (by omega) (by omega)]
  omega
 have e:a*2^8 ||| c=a*2^8+c:=by
  rw [Nat.mul_comm]
  exact (Nat.two_pow_add_eq_or_of_lt (by omega) a).symm
 rw [s,LD (by omega) (by omega),e]
 omega
theorem LY {m:List DV} (hm:vw m) {x:Int} {n:Nat} (h0:0<=x) (h1:x+n<=2148532224):∀ (k:Nat) (v:Int),k<=n->k<=8->0<=v->v<((256^(8-k):Nat):Int) ->
  KC x m v ((k:Int)-1)=some [.i 0,.i (v*((256^k:Nat):Int)+ps (mX m x) k),.i (-1)]
 | 0,v,_,_,_,_=>by
  unfold KC
  rw [lU]
  ·show some [DV.i 0,.i v,.i ((0:Nat)-1)]=some [DV.i 0,.i (v*1+0),.i (-1)]
   rw [Int.mul_one,Int.add_zero]
   rfl
  ·kernel_rfl
  ·kernel_rfl
 | k+1,v,hk,hk8,hv,ij=>by
  have hb:=hm (x+k)
  have hp:(256:Nat)^(8-k)=256*256^(8-(k+1)):=by rw [show 8-k=8-(k+1)+1 by omega,Nat.pow_succ,Nat.mul_comm]
  have hp8:(256:Nat)^(8-(k+1))<=256^7:=Nat.pow_le_pow_right (by decide) (by omega)
  have Jl:v<72057594037927936:=Int.lt_of_lt_of_le ij (by have e:(256:Nat)^7=72057594037927936:=(by decide);omega)
  have ih:=LY hm h0 h1 k (v*256+mX m x k) (by omega) (by omega) (by unfold mX;omega) (by rw [hp];unfold mX;omega)
  have hw:IntKind.wrap .i64 (((k+1:Nat):Int)-1-1)=(k:Int)-1:=by rw [Bz (by omega) (by omega)];omega
  have ha:IntKind.wrap .u64 (x+IntKind.wrap .u64 (((k+1:Nat):Int)-1))=x+k:=by rw [Qk (by omega) (by omega)];omega
  unfold KC at ih ⊢
  rw [o5]
  ·show dQ Pv Pw Px Py [.i x,.l m,.i (bB .u64 (aF .u64 v 8) (IntKind.wrap .u64 (bS m (IntKind.wrap .u64 (x+IntKind.wrap .u64 (((k+1:Nat):Int)-1)))))),.i (IntKind.wrap .i64 (((k+1:Nat):Int)-1-1))]=_
   rw [ha,hw,uJ hb.1 (by omega),zyR ⟨hv,Jl⟩ hb]
   refine Eq.trans ih ?_
   have e:(v*256+mX m x k)*((256^k:Nat):Int)+ps (mX m x) k=v*((256^(k+1):Nat):Int)+ps (mX m x) (k+1):=by
    rw [show ps (mX m x) (k+1)=ps (mX m x) k+mX m x k*((256^k:Nat):Int) from rfl,show ((256^(k+1):Nat):Int)=256*((256^k:Nat):Int) by rw [Nat.pow_succ,Nat.mul_comm];rfl,Int.add_mul,Int.mul_assoc]
    omega
   rw [e]
  ·show ([ow [_] (je (IntKind.wrap .u64 (x+IntKind.wrap .u64 (((k+1:Nat):Int)-1))))].all id)=true
   rw [ha,LX (by omega) (by omega),jG]
   rfl
  ·show decide (((k+1:Nat):Int)-1>=0)=true
   exact decide_eq_true (by omega)
theorem LZ {m:List DV} (hm:vw m) {x:Int} {n:Nat} (h0:2147483648<=x) (h1:x+n<=2148532224) (hn:n<=8):∀ (k i:Nat),i+k=n ->
  GM n x m (ps (mX m x) i) (i:Int)=some [.i 0,.i (ps (mX m x) n),.i n]
 | 0,i,hi=>by
  obtain rfl:i=n:=by omega
  have c:decide ((i:Int)<i)=false:=decide_eq_false (by omega)
  unfold GM
  rw [lU]
  ·rfl
  ·show ([ow [(decide ((i:Int)<i),true)] (p84 m (IntKind.wrap .u64 (x+IntKind.wrap .u64 (i:Int)))),ow [(decide ((i:Int)<i),true)] (decide (IntKind.wrap .i64 (8*(i:Int))>=0))].all id)=true
   rw [c]
   simp only [List.all_cons,List.all_nil,id_eq,BD rfl,Bool.and_self]
  ·exact c
 | k+1,i,hi=>by
  have ih:=LZ hm h0 h1 hn k (i+1) (by omega)
  have hb:=hm (x+i)
  have pi:=YQ (g:=mX m x) (fun j=>hm _) (i+1)
  have pj:=YQ (g:=mX m x) (fun j=>hm _) i
  have hle:256^(i+1)<=256^8:=Nat.pow_le_pow_right (by decide) (by omega)
  have h8:(256:Nat)^8=18446744073709551616:=by decide
  have hw:IntKind.wrap .i64 ((i:Int)+1)=((i+1:Nat):Int):=by rw [Bz (by omega) (by omega)];rfl
  have e8:IntKind.wrap .i64 (8*(i:Int))=((8*i:Nat):Int):=by rw [Bz (by omega) (by omega)];omega
  have ha:=Qk (x:=x) (k:=i) (by omega) (by omega)
  have pP:0<=mX m x i*((256^i:Nat):Int):=Int.mul_nonneg hb.1 (by omega)
  have hps:ps (mX m x) (i+1)=ps (mX m x) i+mX m x i*((256^i:Nat):Int):=rfl
  have hs:aF .u64 (mX m x i) ((8*i:Nat):Int)=mX m x i*((256^i:Nat):Int):=by
   unfold aF
   rw [show min (Int.toNat ((8*i:Nat):Int)) (IntKind.bits .u64)=8*i from by simp [IntKind.bits];omega]
   rw [show ((2:Int)^(8*i))=((256^i:Nat):Int) by rw [zyQ];norm_cast,uJ pP (by omega)]
  unfold GM at ih ⊢
  rw [o5]
  ·show dQ VC VD VE VF [.i n,.i x,.l m,.i (IntKind.wrap .u64 (ps (mX m x) i+aF .u64 (IntKind.wrap .u64 (bS m (IntKind.wrap .u64 (x+IntKind.wrap .u64 (i:Int))))) (IntKind.wrap .i64 (8*(i:Int))))),.i (IntKind.wrap .i64 ((i:Int)+1))]=_
   rw [ha,e8,hw,uJ (n:=bS m (x+i)) hb.1 (by omega)]
   rw [show bS m (x+i)=mX m x i from rfl,hs,<-hps,uJ pi.1 (by omega)]
   exact ih
  ·show ([ow [_] (Be (IntKind.wrap .u64 (x+IntKind.wrap .u64 (i:Int)))),ow [_] (decide (IntKind.wrap .i64 (8*(i:Int))>=0))].all id)=true
   rw [ha,e8,YR (by omega) (by omega),jG,d1 (by omega)]
   rfl
  ·show decide ((i:Int)<n)=true
   exact decide_eq_true (by omega)
theorem zvA {m:List DV} (hm:vw m) {x n:Int} (h0:0<=x) (h1:x<18446744073709551616):∃ v,GL [.l m,.i x,.i n]=[.b true,.i v,.b (has x n)]/\KF [.l m,.i x,.i n]=[.b true,.i v,.b (has x n)]:=by
 have e1:GL [.l m,.i x,.i n]=(fun h:Bool=>[.b ([ow [(!!h,true)] (KC x m 0 (IntKind.wrap .i64 (n-1))).isSome].all id),.i (bif !!h then (af ((KC x m 0 (IntKind.wrap .i64 (n-1))).getD []) 1).ai else 0),.b (!!h)]) ((xU [.l m,.i x,.i n]).getD 0 default).aA:=by kernel_rfl
 have e2:KF [.l m,.i x,.i n]=(fun h:Bool=>[.b ([ow [(!!h,true)] (GM n x m 0 0).isSome].all id),.i (bif !!h then (af ((GM n x m 0 0).getD []) 1).ai else 0),.b (!!h)]) ((zG [.l m,.i x,.i n]).getD 0 default).aA:=by kernel_rfl
 obtain ⟨a,b⟩:=Qj m (n:=n) h0 h1
 rw [e1,e2,a,b]
 show ∃ v,[DV.b ([ow [(!!has x n,true)] _].all id),.i (bif !!has x n then _ else 0),.b (!!has x n)]=_/\[DV.b ([ow [(!!has x n,true)] _].all id),.i (bif !!has x n then _ else 0),.b (!!has x n)]=_
 cases h:has x n with
 | false=>exact ⟨0,rfl,rfl⟩
 | true =>
  obtain ⟨k,rfl,k8,k1,x0,x1⟩:=zv3 h
  have hw:IntKind.wrap .i64 ((k:Int)-1)=(k:Int)-1:=Bz (by omega) (by omega)
  have pk:(0:Int)<((256^(8-k):Nat):Int):=by exact_mod_cast (Nat.pow_pos (by decide):0<256^(8-k))
  refine ⟨ps (mX m x) k,?_,?_⟩
  ·rw [hw,LY hm (by omega) x1 k 0 (Nat.le_refl _) k8 (Int.le_refl _) pk,Int.zero_mul,Int.zero_add]
   rfl
  ·rw [show GM (k:Int) x m 0 0=_ from LZ hm x0 x1 k8 k 0 (by omega)]
   rfl
def wr (x v:Int):Nat->Nat->List DV->List DV
 | 0,_,m=>m
 | k+1,i,m=>wr x v k (i+1) (qj m (x+i) (IntKind.wrap .u8 (cW .u64 v ((8*i:Nat):Int))))
theorem wl {x v:Int} {n:Nat} (h0:2147483648<=x) (h1:x+n<=2148532224) (hn:n<=8):∀ (k i:Nat) (m:List DV),i+k=n ->
  KH n x v i m=some [.i 0,.i n,.l (wr x v k i m)]/\KL n x v i m=some [.i 0,.i n,.l (wr x v k i m)]
 | 0,i,m,hi=>by
  obtain rfl:i=n:=by omega
  have c:decide ((i:Int)<i)=false:=decide_eq_false (by omega)
  have w:∀ a b:Bool,([ow [(decide ((i:Int)<i),true)] a,ow [(decide ((i:Int)<i),true)] b].all id)=true:=fun a b=>by
   rw [c]
   simp only [List.all_cons,List.all_nil,id_eq,BD rfl,Bool.and_self]
  exact ⟨(lU (w:=GO) (c:=GQ) (s:=[.i i,.i x,.i v,.i i,.l m]) (w _ _) c).trans rfl,(lU (w:=KJ) (c:=KK) (s:=[.i i,.i x,.i v,.i i,.l m]) (w _ _) c).trans rfl⟩
 | k+1,i,m,hi=>by
  have ih:=wl (v:=v) h0 h1 hn k (i+1) (qj m (x+i) (IntKind.wrap .u8 (cW .u64 v ((8*i:Nat):Int)))) (by omega)
  have hw:IntKind.wrap .i64 ((i:Int)+1)=((i+1:Nat):Int):=by rw [Bz (by omega) (by omega)];rfl
  have e8:IntKind.wrap .i64 (8*(i:Int))=((8*i:Nat):Int):=by rw [Bz (by omega) (by omega)];omega
  have ha:=Qk (x:=x) (k:=i) (by omega) (by omega)
  have c:decide ((i:Int)<n)=true:=decide_eq_true (by omega)
  unfold KH KL at ih ⊢
  refine ⟨(o5 (w:=GO) (c:=GQ) (s:=[.i n,.i x,.i v,.i i,.l m]) ?_ c).trans ?_,(o5 (w:=KJ) (c:=KK) (s:=[.i n,.i x,.i v,.i i,.l m]) ?_ c).trans ?_⟩
  ·show ([ow [_] (decide (IntKind.wrap .i64 (8*(i:Int))>=0)),ow [_] (je (IntKind.wrap .u64 (x+IntKind.wrap .u64 (i:Int))))].all id)=true
   rw [ha,e8,LX (by omega) (by omega),jG,d1 (by omega)]
   rfl
  ·show dQ GO GQ PB PC [.i n,.i x,.i v,.i (IntKind.wrap .i64 ((i:Int)+1)),.l (qj m (IntKind.wrap .u64 (x+IntKind.wrap .u64 (i:Int))) (IntKind.wrap .u8 (cW .u64 v (IntKind.wrap .i64 (8*(i:Int))))))]=_
   rw [ha,e8,hw]
   exact ih.1
  ·show ([ow [_] (decide (IntKind.wrap .i64 (8*(i:Int))>=0)),ow [_] (Be (IntKind.wrap .u64 (x+IntKind.wrap .u64 (i:Int))))].all id)=true
   rw [ha,e8,YR (by omega) (by omega),jG,d1 (by omega)]
   rfl
  ·show dQ KJ KK VJ VK [.i n,.i x,.i v,.i (IntKind.wrap .i64 ((i:Int)+1)),.l (qj m (IntKind.wrap .u64 (x+IntKind.wrap .u64 (i:Int))) (IntKind.wrap .u8 (cW .u64 v (IntKind.wrap .i64 (8*(i:Int))))))]=_
   rw [ha,e8,hw]
   exact ih.2
theorem zv4 {m:List DV} (hm:vw m) (x:Int) {b:Int} (hb:0<=b/\b<256):vw (qj m x b):=fun A=>by
 rw [FQ]
 split
 ·exact hb
 ·exact hm A
theorem zyS (x v:Int):∀ (k i:Nat) (m:List DV),vw m->vw (wr x v k i m)
 | 0,_,_,h=>h
 | k+1,i,m,h=>zyS x v k (i+1) _ (zv4 h _ (by rw [Yw];omega))
theorem zuC {m:List DV} (hm:vw m) {x n v:Int} (h0:0<=x) (h1:x<18446744073709551616):∃ m',GR [.l m,.i x,.i n,.i v]=[.b true,.b (has x n),.l m']/\KM [.l m,.i x,.i n,.i v]=[.b true,.b (has x n),.l m']/\vw m':=by
 have e1:GR [.l m,.i x,.i n,.i v]=(fun h:Bool=>[.b ([ow [(!!h,true)] (KH n x v 0 m).isSome].all id),.b (!!h),.l (bif !!h then (af ((KH n x v 0 m).getD []) 2).ay else m)]) ((xU [.l m,.i x,.i n]).getD 0 default).aA:=by kernel_rfl
 have e2:KM [.l m,.i x,.i n,.i v]=(fun h:Bool=>[.b ([ow [(!!h,true)] (KL n x v 0 m).isSome].all id),.b (!!h),.l (bif !!h then (af ((KL n x v 0 m).getD []) 2).ay else m)]) ((zG [.l m,.i x,.i n]).getD 0 default).aA:=by kernel_rfl
 obtain ⟨a,b⟩:=Qj m (n:=n) h0 h1
 rw [e1,e2,a,b]
 show ∃ m',[DV.b ([ow [(!!has x n,true)] _].all id),.b (!!has x n),.l (bif !!has x n then _ else m)]=_/\[DV.b ([ow [(!!has x n,true)] _].all id),.b (!!has x n),.l (bif !!has x n then _ else m)]=_/\_
 cases h:has x n with
 | false=>exact ⟨m,rfl,rfl,hm⟩
 | true =>
  obtain ⟨k,rfl,k8,k1,x0,x1⟩:=zv3 h
  obtain ⟨c,d⟩:=wl (v:=v) x0 x1 k8 k 0 m (by omega)
  refine ⟨wr x v k 0 m,?_,?_,zyS x v k 0 m hm⟩
  ·rw [show KH (k:Int) x v 0 m=_ from c]
   rfl
  ·rw [show KL (k:Int) x v 0 m=_ from d]
   rfl
end Go.Proofs.Ytiabiimoalkmjaa
namespace Go.Proofs.Ytiabiimoalkmjaa
open Go Go.Sx
set_option maxRecDepth 100000
structure Ev where
 c:Int
 k:Int
 n:Int
 v:Int
def Ev.enc (e:Ev):List DV:=[.i e.c,.i e.k,.i e.n,.i e.v]
def ax (l:List Ev):List DV:=(l.map Ev.enc).flatten
def Ev.may (e:Ev):Bool:=(e.k==1&&e.n==0&&decide (e.v<=255))||(e.k==2&&decide (1<=e.n)&&decide (e.n<=8)&&decide (e.v<=1))
def rE (last:Int):List Ev->Bool
 | []=>true
 | e::r=>decide (last<=e.c)&&e.may&&rE e.c r
def ou (l:List Ev):Bool:=decide (l.length<=1024)&&rE 0 l
theorem zrk (l:List Ev):(ax l).length=4*l.length:=by
 induction l with
 | nil=>rfl
 | cons e l ih=>simp only [ax,List.map_cons,List.flatten_cons,List.length_append,List.length_cons] at ih ⊢;rw [ih];show 4+_=_;omega
theorem oz (l:List Ev):(((ax l).length/4:Nat):Int)=(l.length:Int):=by rw [zrk];congr 1;omega
theorem zuD (e:Ev) (l:List Ev):ax (e::l) = .i e.c::.i e.k::.i e.n::.i e.v::ax l:=rfl
theorem zxy (l:List Ev) (i:Nat) (h:i<l.length) (j:Nat) (hj:j<4):(ax l).getD (i*4+j) default=l[i].enc.getD j default:=by
 induction l generalizing i with
 | nil=>cases h
 | cons e l ih =>
  rw [zuD]
  cases i with
  | zero=>match j,hj with
   | 0,_=>rfl
   | 1,_=>rfl
   | 2,_=>rfl
   | 3,_=>rfl
  | succ i =>
   rw [show (i+1)*4+j=(i*4+j)+1+1+1+1 from by omega]
   simp only [List.getD_cons_succ,List.getElem_cons_succ]
   exact ih i (by simpa using h)
theorem BF (l:List Ev) (i:Nat) (h:i<l.length):((ax l).getD (Int.toNat (i:Int)*4+0) default).ai=l[i].c/\((ax l).getD (Int.toNat (i:Int)*4+1) default).ai=l[i].k /\
  ((ax l).getD (Int.toNat (i:Int)*4+2) default).ai=l[i].n/\((ax l).getD (Int.toNat (i:Int)*4+3) default).ai=l[i].v:=by
 rw [Int.toNat_natCast]
 refine ⟨?_,?_,?_,?_⟩<;>rw [zxy l i h _ (by decide)]<;>rfl
theorem EY {n:Int} (h:0<=n) (h1:n<9223372036854775808):IntKind.wrap .i64 n=n:=by rw [IntKind.wrap_i64];omega
theorem zv5 (l:List Ev) (hl:l.length<=1024):∀ (m k:Nat) (last:Int),k+m=l.length->∃ r2 r3:Int,wX l.length (ax l) false last k =
  some [.i (if rE last (l.drop k) then 1 else 0),.b false,.i r2,.i r3]
 | 0,k,last,hk=>by
  have hk':k=l.length:=by omega
  subst hk'
  refine ⟨last,l.length,?_⟩
  unfold wX
  rw [List.drop_length]
  have hlt:decide ((l.length:Int)<(l.length:Int))=false:=by simp
  rw [lU (by show KS (l.length:Int) (ax l) false last (l.length:Int)=true;unfold KS;simp [ow]) (by show KT (l.length:Int) (ax l) false last (l.length:Int)=false;unfold KT;simp)]
  show some [DV.i (KU _ _ _ _ _),.b (KV _ _ _ _ _),.i (KW _ _ _ _ _),.i (KX _ _ _ _ _)]=_
  unfold KU KV KW KX
  simp [rE]
 | m+1,k,last,hk=>by
  have hlt:k<l.length:=by omega
  have hki:(k:Int)<(l.length:Int):=by omega
  obtain ⟨q0,q1,q2,q3⟩:=BF l k hlt
  have hw:PK [.i l.length,.l (ax l),.b false,.i last,.i k]=true:=by
   show KS (l.length:Int) (ax l) false last (k:Int)=true
   unfold KS
   simp only [oz]
   simp [ow,hki]
  have hd:l.drop k=l[k]::l.drop (k+1):=List.drop_eq_getElem_cons hlt
  have ng:PL [.i l.length,.l (ax l),.b false,.i last,.i k]=(decide (last<=l[k].c)&&l[k].may):=by
   show KT (l.length:Int) (ax l) false last (k:Int)=_
   unfold KT
   simp only [q0,q1,q2,q3,hki,decide_true,Bool.true_and]
   unfold Ev.may eP ew c_
   by_cases h1:last<=l[k].c
   ·have h2:¬ l[k].c<last:=by omega
    simp [h1,h2]
   ·have h2:l[k].c<last:=by omega
    simp [h1,h2]
  unfold wX
  cases hc:decide (last<=l[k].c)&&l[k].may with
  | true =>
   rw [hc] at ng
   rw [o5 hw ng]
   have hn:PM [.i l.length,.l (ax l),.b false,.i last,.i k]=[.i l.length,.l (ax l),.b false,.i l[k].c,.i ((k+1:Nat):Int)]:=by
    show [DV.i _,.l _,.b (VS _ _ _ _ _),.i (VT _ _ _ _ _),.i (VU _ _ _ _ _)]=_
    unfold VS VT VU
    have e1:(af [DV.i l.length,.l (ax l),.b false,.i last,.i k] 4).ai=(k:Int):=rfl
    have e2:(af [DV.i l.length,.l (ax l),.b false,.i last,.i k] 1).ay=ax l:=rfl
    simp only [e1,e2,q0]
    rw [EY (by omega) (by omega)]
    rfl
   rw [hn]
   obtain ⟨r2,r3,ih⟩:=zv5 l hl m (k+1) l[k].c (by omega)
   refine ⟨r2,r3,ih.trans ?_⟩
   rw [hd]
   simp only [rE,hc,Bool.true_and]
  | false =>
   rw [hc] at ng
   rw [lU hw ng]
   refine ⟨last,k,?_⟩
   show some [DV.i (KU _ _ _ _ _),.b (KV _ _ _ _ _),.i (KW _ _ _ _ _),.i (KX _ _ _ _ _)]=_
   unfold KU KV KW KX
   have e1:(af [DV.i l.length,.l (ax l),.b false,.i last,.i k] 4).ai=(k:Int):=rfl
   have e0:(af [DV.i l.length,.l (ax l),.b false,.i last,.i k] 0).ai=(l.length:Int):=rfl
   rw [hd]
   simp only [rE,hc,Bool.false_and,e1,e0,hki,decide_true]
   rfl
theorem zzH (l:List Ev):G1 [.l (ax l)]=[.b true,.b (ou l)]:=by
 have e:G1 [.l (ax l)]=(fun (N:Int) (Y:Option (List DV))=>[.b ([ow [(!(dg N 1024),true)] Y.isSome].all id),.b (!(dg N 1024)&&((!((af (Y.getD []) 0).ai==0))||(af (Y.getD []) 1).aA))]) (((ax l).length/4:Nat):Int) (wX (((ax l).length/4:Nat):Int) (ax l) false 0 0):=by kernel_rfl
 rw [e,oz]
 dsimp only
 unfold ou
 by_cases h:l.length<=1024
 ·have h1:dg (l.length:Int) 1024=false:=decide_eq_false (by omega)
  obtain ⟨r2,r3,hL⟩:=zv5 l h l.length 0 0 (by omega)
  rw [show wX l.length (ax l) false 0 0=_ from hL,h1,decide_eq_true h]
  cases hm:rE 0 l<;>simp [ow,hm,af,DV.ai]
 ·have h1:dg (l.length:Int) 1024=true:=decide_eq_true (by omega)
  rw [h1,decide_eq_false h]
  cases wX l.length (ax l) false 0 0<;>rfl
def qS (l:List Ev) (k:Nat):Int:=if k=0 then 0 else ((l[k-1]?).map (·.c)).getD 0
theorem zxz (e:Ev):(bif e.k==1 then !(e.n != 0||dg e.v 255) else (e.k==2&&!((c_ e.n 1||dg e.n 8)||dg e.v 1)))=e.may:=by
 unfold Ev.may c_ dg
 have a1:(e.k==1)=decide (e.k=1):=rfl
 have a2:(e.k==2)=decide (e.k=2):=rfl
 have a3:(e.n==0)=decide (e.n=0):=rfl
 have a4:(e.n != 0) = !decide (e.n=0):=rfl
 have b1:decide (e.v>255) = !decide (e.v<=255):=by by_cases h:e.v<=255<;>simp [h]<;>omega
 have b2:decide (e.n<1) = !decide (1<=e.n):=by by_cases h:1<=e.n<;>simp [h]<;>omega
 have b3:decide (e.n>8) = !decide (e.n<=8):=by by_cases h:e.n<=8<;>simp [h]<;>omega
 have b4:decide (e.v>1) = !decide (e.v<=1):=by by_cases h:e.v<=1<;>simp [h]<;>omega
 rw [a1,a2,a3,a4,b1,b2,b3,b4]
 by_cases h1:e.k=1
 ·have h2:¬ e.k=2:=by omega
  simp only [h1,h2,decide_true,decide_false,cond_true,Bool.true_and,Bool.false_and,Bool.or_false]
  cases decide (e.n=0)<;>cases decide (e.v<=255)<;>rfl
 ·simp only [h1,decide_false,cond_false,Bool.false_and,Bool.false_or]
  cases decide (e.k=2)<;>cases decide (1<=e.n)<;>cases decide (e.n<=8)<;>cases decide (e.v<=1)<;>rfl
theorem zv6 (l:List Ev) (hl:l.length<=1024):∀ (m k:Nat),k+m=l.length->0<=qS l k->∃ r2:Int,xV (ax l) false k =
  some [.i (if rE (qS l k) (l.drop k) then 1 else 0),.b false,.i r2]
 | 0,k,hk,_=>by
  have hk':k=l.length:=by omega
  subst hk'
  refine ⟨l.length,?_⟩
  unfold xV
  rw [List.drop_length]
  rw [lU (by show KY (ax l) false (l.length:Int)=true;unfold KY;simp only [oz];simp [ow]) (by show KZ (ax l) false (l.length:Int)=false;unfold KZ;simp only [oz];simp)]
  show some [DV.i (K0 _ _ _),.b (K1 _ _ _),.i (K2 _ _ _)]=_
  unfold K0 K1 K2
  have e1:(af [DV.l (ax l),.b false,.i l.length] 0).ay=ax l:=rfl
  have e2:(af [DV.l (ax l),.b false,.i l.length] 2).ai=(l.length:Int):=rfl
  simp only [e1,e2,oz]
  simp [rE]
 | m+1,k,hk,h0=>by
  have hlt:k<l.length:=by omega
  have hki:(k:Int)<(l.length:Int):=by omega
  obtain ⟨q0,q1,q2,q3⟩:=BF l k hlt
  have qz:0<k->IntKind.wrap .i64 ((k:Int)-1)=((k-1:Nat):Int)/\((ax l).getD (Int.toNat ((k-1:Nat):Int)*4+0) default).ai=qS l k:=fun gi=>by
   refine ⟨by rw [EY (by omega) (by omega)];omega,?_⟩
   obtain ⟨p0,_⟩:=BF l (k-1) (by omega)
   rw [p0]
   unfold qS
   rw [if_neg (by omega),List.getElem?_eq_getElem (by omega)]
   rfl
  have hw:V2 [.l (ax l),.b false,.i k]=true:=by
   show KY (ax l) false (k:Int)=true
   unfold KY
   simp only [oz]
   rcases Nat.eq_zero_or_pos k with gi | gi
   ·subst gi
    simp [ow]
   ·obtain ⟨p1,_⟩:=qz gi
    simp only [p1]
    have h3:((k-1:Nat):Int)<(l.length:Int):=by omega
    simp [ow,hki,h3]
  have hd:l.drop k=l[k]::l.drop (k+1):=List.drop_eq_getElem_cons hlt
  have ng:V3 [.l (ax l),.b false,.i k]=(decide (qS l k<=l[k].c)&&l[k].may):=by
   show KZ (ax l) false (k:Int)=_
   unfold KZ
   simp only [oz,q0,q1,q2,q3,hki,decide_true,Bool.true_and]
   have hA:(c_ l[k].c 0||(decide ((k:Int)>0)&&c_ l[k].c ((ax l).getD (Int.toNat (IntKind.wrap .i64 ((k:Int)-1))*4+0) default).ai)) = !decide (qS l k<=l[k].c):=by
    rcases Nat.eq_zero_or_pos k with gi | gi
    ·have hp:qS l k=0:=by unfold qS;rw [if_pos gi]
     rw [hp]
     have:¬ ((k:Int)>0):=by omega
     simp only [this,decide_false,Bool.false_and,Bool.or_false]
     unfold c_
     by_cases h1:l[k].c<0
     ·have h2:¬ 0<=l[k].c:=by omega
      simp [h1,h2]
     ·have h2:0<=l[k].c:=by omega
      simp [h1,h2]
    ·obtain ⟨p1,p2⟩:=qz gi
     rw [p1,p2]
     have:((k:Int)>0):=by omega
     simp only [this,decide_true,Bool.true_and]
     unfold c_
     by_cases h1:qS l k<=l[k].c
     ·have h2:¬ l[k].c<0:=by omega
      have h3:¬ l[k].c<qS l k:=by omega
      simp [h1,h2,h3]
     ·have h3:l[k].c<qS l k:=by omega
      simp [h1,h3]
   rw [hA]
   rw [Bool.not_not]
   exact congrArg (fun b=>decide (qS l k<=l[k].c)&&b) (zxz l[k])
  unfold xV
  cases hc:decide (qS l k<=l[k].c)&&l[k].may with
  | true =>
   rw [hc] at ng
   rw [o5 hw ng]
   have hn:V4 [.l (ax l),.b false,.i k]=[.l (ax l),.b false,.i ((k+1:Nat):Int)]:=by
    show [DV.l _,.b (VZ _ _ _),.i (V0 _ _ _)]=_
    unfold VZ V0
    have e1:(af [DV.l (ax l),.b false,.i k] 2).ai=(k:Int):=rfl
    simp only [e1]
    rw [EY (by omega) (by omega)]
    rfl
   rw [hn]
   have hp:qS l (k+1)=l[k].c:=by
    unfold qS
    rw [if_neg (by omega),Nat.add_sub_cancel,List.getElem?_eq_getElem hlt]
    rfl
   simp only [Bool.and_eq_true,decide_eq_true_eq] at hc
   obtain ⟨r2,ih⟩:=zv6 l hl m (k+1) (by omega) (by rw [hp];omega)
   refine ⟨r2,ih.trans ?_⟩
   rw [hd,hp]
   simp only [rE,hc,decide_true,Bool.true_and]
  | false =>
   rw [hc] at ng
   rw [lU hw ng]
   refine ⟨k,?_⟩
   show some [DV.i (K0 _ _ _),.b (K1 _ _ _),.i (K2 _ _ _)]=_
   unfold K0 K1 K2
   have e1:(af [DV.l (ax l),.b false,.i k] 0).ay=ax l:=rfl
   have e2:(af [DV.l (ax l),.b false,.i k] 2).ai=(k:Int):=rfl
   rw [hd]
   simp only [rE,hc,Bool.false_and,e1,e2,oz,hki,decide_true]
   rfl
theorem zzI (l:List Ev):K3 [.l (ax l)]=[.b true,.b (ou l)]:=by
 have e:K3 [.l (ax l)]=(fun (N:Int) (Y:Option (List DV))=>[.b ([ow [(!(dg N 1024),true)] Y.isSome].all id),.b (!(dg N 1024)&&((!((af (Y.getD []) 0).ai==0))||(af (Y.getD []) 1).aA))]) (((ax l).length/4:Nat):Int) (xV (ax l) false 0):=by kernel_rfl
 rw [e,oz]
 dsimp only
 unfold ou
 by_cases h:l.length<=1024
 ·have h1:dg (l.length:Int) 1024=false:=decide_eq_false (by omega)
  obtain ⟨r2,hL⟩:=zv6 l h l.length 0 (by omega) (Int.le_refl 0)
  rw [show xV (ax l) false 0=_ from hL,h1,decide_eq_true h]
  cases hm:rE (qS l 0) l<;>simp [ow,hm,af,DV.ai,show rE 0 l=rE (qS l 0) l from rfl]
 ·have h1:dg (l.length:Int) 1024=true:=decide_eq_true (by omega)
  rw [h1,decide_eq_false h]
  cases xV (ax l) false 0<;>rfl
def yg:List DV->Int->List DV->List DV
 | [],_,d=>d
 | b::r,k,d=>yg r (k+1) (qj d k b.ai)
theorem zv7:∀ (aL:List DV) (k:Int) (d:List DV),(∀ b∈aL,0<=b.ai/\b.ai<256)->vw d->vw (yg aL k d)
 | [],_,_,_,hd=>hd
 | b::r,k,d,hi,hd=>zv7 r (k+1) (qj d k b.ai) (fun x hx=>hi x (List.mem_cons_of_mem _ hx)) (zv4 hd _ (hi b (List.mem_cons_self ..)))
theorem zyT (aL:List DV) (k:Nat) (d:List DV):(PG [.i aL.length,.l aL,.i k,.l d]=[.i aL.length,.l aL,.i (IntKind.wrap .i64 ((k:Int)+1)),.l (qj d (IntKind.wrap .u64 (2147483648+IntKind.wrap .u64 (k:Int))) (aL.getD (Int.toNat (k:Int)*1+0) default).ai)]/\PF [.i aL.length,.l aL,.i k,.l d]=decide ((k:Int)<aL.length)) /\
  VP [.l aL,.i k,.l d]=([ow [(decide ((k:Int)<((aL.length/1:Nat):Int)),true)] (decide ((k:Int)>=0)),ow [(decide ((k:Int)<((aL.length/1:Nat):Int)),true)] (decide ((k:Int)<((aL.length/1:Nat):Int))),ow [(decide ((k:Int)<((aL.length/1:Nat):Int)),true)] (Be (IntKind.wrap .u64 (2147483648+IntKind.wrap .u64 (k:Int))))].all id) /\
  VR [.l aL,.i k,.l d]=[.l aL,.i (IntKind.wrap .i64 ((k:Int)+1)),.l (qj d (IntKind.wrap .u64 (2147483648+IntKind.wrap .u64 (k:Int))) (aL.getD (Int.toNat (k:Int)*1+0) default).ai)]/\VQ [.l aL,.i k,.l d]=decide ((k:Int)<((aL.length/1:Nat):Int)):=⟨⟨by kernel_rfl,by kernel_rfl⟩,by kernel_rfl,by kernel_rfl,by kernel_rfl⟩
theorem zrl {B:Int} (hB:B=2147483648) (aL:List DV) (hl:aL.length<=1048576):∀ (j k:Nat) (d:List DV),k+j=aL.length ->
  GV aL.length aL k d=some [.i 0,.i aL.length,.l (yg (aL.drop k) (B+k) d)]/\GY aL k d=some [.i 0,.i aL.length,.l (yg (aL.drop k) (B+k) d)]
 | 0,k,d,hk=>by
  obtain rfl:k=aL.length:=by omega
  obtain ⟨⟨n1,c1⟩,w2,n2,c2⟩:=zyT aL aL.length d
  have hd:((aL.length/1:Nat):Int)=(aL.length:Int):=by rw [Nat.div_one]
  have c:decide ((aL.length:Int)<(aL.length:Int))=false:=decide_eq_false (by omega)
  have o:∀ (a:Bool),ow [(false,true)] a=true:=fun a=>BD rfl
  have w1:KP [.i aL.length,.l aL,.i aL.length,.l d]=true:=by
   show (KN (aL.length:Int) aL (aL.length:Int) d).1=true
   unfold KN
   simp only [c,o,List.all_cons,List.all_nil,id_eq,Bool.and_self]
  rw [hd,c,o,o,o] at w2
  rw [c] at c1
  rw [hd,c] at c2
  unfold GV GY
  rw [List.drop_length,lU w1 c1,lU w2 c2]
  exact ⟨rfl,rfl⟩
 | j+1,k,d,hk=>by
  have hlt:k<aL.length:=by omega
  obtain ⟨⟨n1,c1⟩,w2,n2,c2⟩:=zyT aL k d
  have ih:=zrl hB aL hl j (k+1) (qj d (B+k) aL[k].ai) (by omega)
  have hg:(aL.getD (Int.toNat (k:Int)*1+0) default).ai=aL[k].ai:=by rw [Int.toNat_natCast,Nat.mul_one,Nat.add_zero,List.getD_eq_getElem?_getD,List.getElem?_eq_getElem hlt];rfl
  have hd:((aL.length/1:Nat):Int)=(aL.length:Int):=by rw [Nat.div_one]
  have hw:IntKind.wrap .i64 ((k:Int)+1)=((k+1:Nat):Int):=by rw [Bz (by omega) (by omega)];rfl
  have ha:(IntKind.wrap .u64 (2147483648+IntKind.wrap .u64 (k:Int)))=B+k:=by rw [<-hB];exact Qk (by omega) (by omega)
  have c:decide ((k:Int)<aL.length)=true:=decide_eq_true (by omega)
  have w1:KP [.i aL.length,.l aL,.i k,.l d]=true:=by
   show (KN (aL.length:Int) aL (k:Int) d).1=true
   unfold KN
   simp only [hd,ha,c,decide_eq_true (show (k:Int)>=0 by omega),show ∀ x,(af (wT [.l d,.i (B+(k:Int)),.i x]) 0).aA=true from fun x=>show p75 d (B+(k:Int)) x=true from LX (by omega) (by omega),jG,List.all_cons,List.all_nil,id_eq,Bool.and_self]
  rw [ha,hd,YR (by omega) (by omega),jG,d1 (by omega),d1 (by omega)] at w2
  rw [c] at c1
  rw [hd,c] at c2
  rw [ha,hw,hg] at n1 n2
  unfold GV GY at ih ⊢
  rw [o5 w1 c1,o5 w2 c2,n1,n2,List.drop_eq_getElem_cons hlt,yg,show B+(k:Int)+1=B+((k+1:Nat):Int) by omega]
  exact ih
theorem YS (aL d:List DV):GX [.l d,.l aL]=[.b true,.b (decide (aL.length<=1048576)),.l (bif decide (aL.length<=1048576) then yg aL 2147483648 d else d)]/\KR [.l d,.l aL]=[.b true,.b (decide (aL.length<=1048576)),.l (bif decide (aL.length<=1048576) then yg aL 2147483648 d else d)]:=by
 have hd:((aL.length/1:Nat):Int)=(aL.length:Int):=by rw [Nat.div_one]
 have e1:GX [.l d,.l aL]=(fun (N:Int) (Y:Option (List DV))=>[.b ([ow [(!(dg N 1048576),true)] Y.isSome].all id),.b (!(dg N 1048576)),.l (bif !(dg N 1048576) then (af (Y.getD []) 2).ay else d)]) ((aL.length/1:Nat):Int) (GV ((aL.length/1:Nat):Int) aL 0 d):=by kernel_rfl
 have e2:KR [.l d,.l aL]=(fun (N:Int) (Y:Option (List DV))=>[.b ([ow [(!(dg N 1048576),true)] Y.isSome].all id),.b (!(dg N 1048576)),.l (bif !(dg N 1048576) then (af (Y.getD []) 2).ay else d)]) ((aL.length/1:Nat):Int) (GY aL 0 d):=by kernel_rfl
 rw [e1,e2,hd]
 dsimp only
 by_cases h:aL.length<=1048576
 ·have h1:dg (aL.length:Int) 1048576=false:=decide_eq_false (by omega)
  obtain ⟨B,hB⟩:∃ B:Int,B=2147483648:=⟨_,rfl⟩
  obtain ⟨l1,l2⟩:=zrl hB aL h aL.length 0 d (by omega)
  rw [show B+((0:Nat):Int)=B from by omega,List.drop_zero,hB] at l1 l2
  rw [show GV aL.length aL 0 d=_ from l1,show GY aL 0 d=_ from l2,h1,decide_eq_true h]
  exact ⟨rfl,rfl⟩
 ·have h1:dg (aL.length:Int) 1048576=true:=decide_eq_true (by omega)
  rw [h1,decide_eq_false h]
  constructor
  ·cases GV aL.length aL 0 d<;>rfl
  ·cases GY aL 0 d<;>rfl
end Go.Proofs.Ytiabiimoalkmjaa
namespace Go.Proofs.Ytiabiimoalkmjaa
open Go Go.Sx
set_option maxRecDepth 100000
structure St where
 m:List DV
 s:Int
 t:Int
 a:Int
 pr:Nat->Int
 up:Nat->Bool
 wa:Nat->Bool
 se:Nat->Bool
 e0:Nat->Bool
 e1:Nat->Bool
 t0:Int
 t1:Int
 c:List DV
 jQ:List DV
 rd:Nat
 w:Bool
 lo:Bool
 sc:Int
 aR:Int
 l:List Ev
 az:Nat
 one:Bool
abbrev St.C (b:St):List DV:=fU b.s b.t b.a
abbrev St.D (b:St):List DV:=cj b.pr b.up b.wa b.se b.e0 b.e1 b.t0 b.t1
abbrev St.E (b:St):List DV:=cy b.pr b.up b.wa b.se b.e0 b.e1 b.t0 b.t1
abbrev St.U (b:St):List DV:=eO (b.c.drop b.rd) b.jQ b.w b.lo b.sc
abbrev St.V (b:St):List DV:=fA b.c b.jQ b.rd b.w b.lo b.sc
abbrev St.P (b:St):List DV:=[.l b.m,.l b.C,.l b.D,.l b.U,.i b.aR,.l (ax (b.l.drop b.az)),.b b.one]
abbrev St.R (b:St):List DV:=[.l b.m,.l b.C,.l b.E,.l b.V,.i b.aR,.l (ax b.l),.i (b.az:Int),.b b.one]
structure St.Ok (b:St) (n:Nat):Prop where
 m:vw b.m
 C:qP b.s b.t b.a
 D:gS b.pr b.up b.wa b.se b.e0 b.e1 b.t0 b.t1
 U:nU b.c b.jQ b.rd b.sc
 jQ:b.jQ.length<=n
 n:n<35184372088832
 c:b.c.length<=b.az
 az:b.az<=b.l.length
 l:b.l.length<=1024
 ev:∀ e∈b.l,e.may=true/\0<=e.v
def St.EZ (b:St):Bool:=((wW [.l b.U]).getD 0 default).aA
def St.set (b:St):St:={ b with up:=e_ b.up 1 (b.one||b.EZ),wa:=e_ b.wa 1 (b.wa 1||((b.one||b.EZ)&&!b.se 1)) }
def St.Lv (b:St):Prop:=b.up 1=(b.one||b.EZ)
theorem L0 (b:St):b.set.Lv:=show e_ b.up 1 _ 1=_ from pK .. |>.trans (if_pos rfl)
theorem zv8 {b:St} {n:Nat} (h:b.Ok n) (hl:b.Lv):b.set=b:=by
 have e1:e_ b.up 1 (b.one||b.EZ)=b.up:=funext fun j=>by
  rw [pK]
  split
  ·rename_i e;rw [e,hl]
  ·rfl
 have e2:e_ b.wa 1 (b.wa 1||((b.one||b.EZ)&&!b.se 1))=b.wa:=funext fun j=>by
  rw [pK]
  split
  ·rename_i e
   rw [e,<-hl]
   cases h1:b.up 1<;>cases h2:b.se 1<;>cases h3:b.wa 1<;>first | rfl | (have:=h.D.inv 1 h1 h2;rw [h3] at this;cases this)
  ·rfl
 unfold St.set
 rw [e1,e2]
theorem Hs {b:St} {n:Nat} (h:b.Ok n):lF [.l b.P]=[.b true,.l b.set.P]/\nr [.l b.R]=[.b true,.l b.set.R]/\b.set.Ok n:=by
 have e1:lF [.l b.P]=(fun u=>(fun L:List DV=>[.b ([ow [] (L.getD 0 default).aA].all id),.l [.l b.m,.l b.C,.l (L.getD 2 default).ay,.l b.U,.i b.aR,.l (ax (b.l.drop b.az)),.b b.one]]) (mQ [.l b.D,.i 1,.b (b.one||u)])) ((wW [.l b.U]).getD 0 default).aA:=by kernel_rfl
 have e2:nr [.l b.R]=(fun u=>(fun L:List DV=>[.b ([ow [] (L.getD 0 default).aA].all id),.l [.l b.m,.l b.C,.l (L.getD 2 default).ay,.l b.V,.i b.aR,.l (ax b.l),.i b.az,.b b.one]]) (mR [.l b.E,.i 1,.b (b.one||u)])) ((Dp [.l b.V]).getD 0 default).aA:=by kernel_rfl
 obtain ⟨u,u1,u2⟩:=zzy h.U b.w b.lo
 have hu:b.EZ=u:=by unfold St.EZ;rw [u1];rfl
 obtain ⟨p1,p2,p3⟩:=zut h.D (n:=1) (by decide) (by decide) (b.one||u)
 unfold St.set
 rw [hu]
 refine ⟨e1.trans ?_,e2.trans ?_,⟨h.m,h.C,p3,h.U,h.jQ,h.n,h.c,h.az,h.l,h.ev⟩⟩
 ·rw [u1]
  show (fun L:List DV=>[DV.b ([ow [] (L.getD 0 default).aA].all id),.l [.l b.m,.l b.C,.l (L.getD 2 default).ay,.l b.U,.i b.aR,.l (ax (b.l.drop b.az)),.b b.one]]) (mQ [.l b.D,.i ((1:Nat):Int),.b (b.one||u)])=_
  rw [p1]
  rfl
 ·rw [u2]
  show (fun L:List DV=>[DV.b ([ow [] (L.getD 0 default).aA].all id),.l [.l b.m,.l b.C,.l (L.getD 2 default).ay,.l b.V,.i b.aR,.l (ax b.l),.i b.az,.b b.one]]) (mR [.l b.E,.i ((1:Nat):Int),.b (b.one||u)])=_
  rw [p2]
  rfl
theorem zyU (x:Int) (a b c:List DV):wY [.l a,.l b,.l c,.i x]=(fun c1 c2 c3:Bool=>[.i (bif (bif c1 then false else bif c2 then false else !c3) then 0 else bif c1 then 61 else bif c2 then 63 else 65),.i (bif (bif c1 then false else bif c2 then false else !c3) then 0 else bif c1 then IntKind.wrap .u64 (x-33554432) else bif c2 then IntKind.wrap .u64 (x-201326592) else IntKind.wrap .u64 (x-268435456))])
  (ew x 33554432&&c_ x 33619968) (ew x 201326592&&c_ x 205520896) (ew x 268435456&&c_ x 268435464):=by kernel_rfl
theorem zyV (x:Int):Du [.i x]=(fun c1 c2 c3:Bool=>[.i (bif !c1 then bif !c2 then bif !c3 then 0 else 3 else 2 else 1),.i (bif !c1 then bif !c2 then bif !c3 then 0 else IntKind.wrap .u64 (x-268435456) else IntKind.wrap .u64 (x-201326592) else IntKind.wrap .u64 (x-33554432))])
  (ew x 33554432&&c_ x 33619968) (ew x 201326592&&c_ x 205520896) (ew x 268435456&&c_ x 268435464):=by kernel_rfl
theorem zxA (P:Int->Prop) (h0:P 0):∀ (c1 c2 c3:Bool) {o1 o2 o3:Int},P o1->P o2->P o3->∃ d e o:Int,
  [DV.i (bif (bif c1 then false else bif c2 then false else !c3) then 0 else bif c1 then 61 else bif c2 then 63 else 65),DV.i (bif (bif c1 then false else bif c2 then false else !c3) then 0 else bif c1 then o1 else bif c2 then o2 else o3)]=[.i d,.i o] /\
  [DV.i (bif !c1 then bif !c2 then bif !c3 then 0 else 3 else 2 else 1),DV.i (bif !c1 then bif !c2 then bif !c3 then 0 else o3 else o2 else o1)]=[.i e,.i o]/\P o/\((d=61/\e=1)\/(d=63/\e=2)\/(d=65/\e=3)\/(d=0/\e=0))
 | true,_,_,_,_,_,p,_,_=>⟨61,1,_,rfl,rfl,p,.inl ⟨rfl,rfl⟩⟩
 | false,true,_,_,_,_,_,p,_=>⟨63,2,_,rfl,rfl,p,.inr (.inl ⟨rfl,rfl⟩)⟩
 | false,false,true,_,_,_,_,_,p=>⟨65,3,_,rfl,rfl,p,.inr (.inr (.inl ⟨rfl,rfl⟩))⟩
 | false,false,false,_,_,_,_,_,_=>⟨0,0,0,rfl,rfl,h0,.inr (.inr (.inr ⟨rfl,rfl⟩))⟩
theorem find (x:Int) (a b c:List DV):∃ d e o:Int,wY [.l a,.l b,.l c,.i x]=[.i d,.i o]/\Du [.i x]=[.i e,.i o]/\(je o=true/\0<=o)/\((d=61/\e=1)\/(d=63/\e=2)\/(d=65/\e=3)\/(d=0/\e=0)):=by
 have w:∀ y:Int,je (IntKind.wrap .u64 y)=true/\0<=IntKind.wrap .u64 y:=fun y=>by
  rw [tF]
  exact ⟨LX (by omega) (by omega),by omega⟩
 rw [zyU,zyV]
 exact zxA (fun o=>je o=true/\0<=o) ⟨LX (by omega) (by omega),by omega⟩ _ _ _ (w _) (w _) (w _)
end Go.Proofs.Ytiabiimoalkmjaa
namespace Go.Proofs.Ytiabiimoalkmjaa
open Go Go.Sx
set_option maxRecDepth 100000
def B12 (m C D U:List DV) (aR:Int) (ev:List DV) (one:Bool) (K H d0 F0 F3 L3 Bi:Bool) (YT uM uN uO L4:List DV):List DV :=
 let x4:List DV:=m
 let x5:List DV:=C
 let x6:List DV:=D
 let x7:List DV:=U
 let x8:Int:=aR
 let x9:List DV:=ev
 let cr:Bool:=one
 let bX:Bool:=K
 let cM:Bool:=H
 let xj:DV:=YT.getD 0 default
 let cQ:Bool:=xj.aA
 let zY:DV:=YT.getD 1 default
 let dJ:Int:=zY.ai
 let xk:DV:=YT.getD 2 default
 let fG:Bool:=xk.aA
 let dy:Bool:=!cM
 let eY:Bool:=d0
 let fL:Bool:=F0
 let eH:Bool:=eY||fL
 let fq:Bool:=F3
 let fZ:Bool:=eH||fq
 let fc:Bool:=!fZ
 let gH:Bool:=!d0
 let gP:Bool:=L3
 let L5:DV:=uM.getD 0 default
 let gI:Bool:=L5.aA
 let YU:DV:=uM.getD 1 default
 let iS:Int:=YU.ai
 let Hl:DV:=uM.getD 2 default
 let gD:Bool:=Hl.aA
 let kr:Bool:=Bi
 let z35:DV:=uN.getD 0 default
 let iF:Bool:=z35.aA
 let BB:DV:=uN.getD 1 default
 let iT:Int:=BB.ai
 let Ho:DV:=uN.getD 2 default
 let fX:Bool:=Ho.aA
 let z39:DV:=uO.getD 0 default
 let kV:Bool:=z39.aA
 let YV:DV:=uO.getD 1 default
 let jZ:Int:=YV.ai
 let L6:DV:=uO.getD 2 default
 let mT:Bool:=L6.aA
 let jM:Int:=bif kr then iT else jZ
 let kG:Bool:=bif kr then fX else mT
 let lG:Int:=bif gP then iS else jM
 let jh:Bool:=bif gP then gD else kG
 let z52:DV:=L4.getD 0 default
 let nt:Bool:=z52.aA
 let z53:DV:=L4.getD 1 default
 let iG:List DV:=z53.ay
 let nQ:List DV:=(iG.getD (Int.toNat 0*1+0) default).ay
 let jE:List DV:=(iG.getD (Int.toNat 0*1+1) default).ay
 let nR:List DV:=(iG.getD (Int.toNat 0*1+2) default).ay
 let lV:List DV:=(iG.getD (Int.toNat 0*1+3) default).ay
 let gE:Int:=(iG.getD (Int.toNat 0*1+4) default).ai
 let gq:List DV:=(iG.getD (Int.toNat 0*1+5) default).ay
 let jq:Bool:=(iG.getD (Int.toNat 0*1+6) default).aA
 let pX:Int:=bif fc then lG else 0
 let sB:Bool:=fc&&jh
 let kW:List DV:=bif fc then nQ else x4
 let eN:List DV:=bif fc then jE else x5
 let sD:List DV:=bif fc then nR else x6
 let rC:List DV:=bif fc then lV else x7
 let w5:Int:=bif fc then gE else x8
 let gQ:List DV:=bif fc then gq else x9
 let jN:Bool:=bif fc then jq else cr
 let jO:Int:=bif dy then pX else dJ
 let oo:Bool:=bif dy then sB else fG
 let fI:List DV:=bif dy then kW else x4
 let DO:List DV:=bif dy then eN else x5
 let DP:List DV:=bif dy then sD else x6
 let x_:List DV:=bif dy then rC else x7
 let DT:Int:=bif dy then w5 else x8
 let Br:List DV:=bif dy then gQ else x9
 let ya:Bool:=bif dy then jN else cr
 let DU:Int:=bif bX then jO else 0
 let gr:Bool:=bX&&oo
 let Bs:List DV:=bif bX then fI else x4
 let Ld:List DV:=bif bX then DO else x5
 let Le:List DV:=bif bX then DP else x6
 let DW:List DV:=bif bX then x_ else x7
 let yb:Int:=bif bX then DT else x8
 let G9:List DV:=bif bX then Br else x9
 let DX:Bool:=bif bX then ya else cr
 let Lg:List DV:=[.l Bs,.l Ld,.l Le,.l DW,.i yb,.l G9,.b DX]
 [.b ((ow [(bX,true),(cM,true)] cQ::ow [(bX,true),(dy,true),(fc,true)] gH::ow [(bX,true),(dy,true),(fc,true),(gP,true)] gI::ow [(bX,true),(dy,true),(fc,true),(gP,false),(kr,true)] iF::ow [(bX,true),(dy,true),(fc,true),(gP,false),(kr,false)] kV::ow [(bX,true),(dy,true),(fc,true)] nt::[]).all id),.i DU,.b gr,.l Lg]
def B13 (m C D U:List DV) (aR:Int) (ev:List DV) (cm:Int) (one:Bool) (K H F0 F3:Bool) (YW Ht L7:List DV):List DV :=
 let x4:List DV:=m
 let x5:List DV:=C
 let x6:List DV:=D
 let x7:List DV:=U
 let x8:Int:=aR
 let x9:List DV:=ev
 let cr:Int:=cm
 let cx:Bool:=one
 let bZ:Bool:=K
 let cQ:Bool:=H
 let zY:DV:=YW.getD 0 default
 let dJ:Bool:=zY.aA
 let xk:DV:=YW.getD 1 default
 let fG:Int:=xk.ai
 let L8:DV:=YW.getD 2 default
 let dy:Bool:=L8.aA
 let dW:Bool:=!cQ
 let eK:Bool:=F0
 let eY:Bool:=F3
 let fL:Bool:=eK||eY
 let eH:Bool:=!fL
 let L9:DV:=Ht.getD 0 default
 let fq:Bool:=L9.aA
 let L_:DV:=Ht.getD 1 default
 let fZ:Int:=L_.ai
 let BA:DV:=Ht.getD 2 default
 let fc:Bool:=BA.aA
 let YU:DV:=L7.getD 0 default
 let iS:Bool:=YU.aA
 let Hl:DV:=L7.getD 1 default
 let gD:List DV:=Hl.ay
 let kr:List DV:=(gD.getD (Int.toNat 0*1+0) default).ay
 let iF:List DV:=(gD.getD (Int.toNat 0*1+1) default).ay
 let iT:List DV:=(gD.getD (Int.toNat 0*1+2) default).ay
 let fX:List DV:=(gD.getD (Int.toNat 0*1+3) default).ay
 let jD:Int:=(gD.getD (Int.toNat 0*1+4) default).ai
 let kV:List DV:=(gD.getD (Int.toNat 0*1+5) default).ay
 let jZ:Int:=(gD.getD (Int.toNat 0*1+6) default).ai
 let mT:Bool:=(gD.getD (Int.toNat 0*1+7) default).aA
 let fH:Int:=bif eH then fZ else 0
 let jM:Bool:=eH&&fc
 let kG:List DV:=bif eH then kr else x4
 let nN:List DV:=bif eH then iF else x5
 let pz:List DV:=bif eH then iT else x6
 let lG:List DV:=bif eH then fX else x7
 let jh:Int:=bif eH then jD else x8
 let nO:List DV:=bif eH then kV else x9
 let nP:Int:=bif eH then jZ else cr
 let lH:Bool:=bif eH then mT else cx
 let nt:Int:=bif dW then fH else fG
 let iG:Bool:=bif dW then jM else dy
 let nQ:List DV:=bif dW then kG else x4
 let jE:List DV:=bif dW then nN else x5
 let nR:List DV:=bif dW then pz else x6
 let lV:List DV:=bif dW then lG else x7
 let gE:Int:=bif dW then jh else x8
 let gq:List DV:=bif dW then nO else x9
 let jq:Int:=bif dW then nP else cr
 let pX:Bool:=bif dW then lH else cx
 let sB:Int:=bif bZ then nt else 0
 let kW:Bool:=bZ&&iG
 let eN:List DV:=bif bZ then nQ else x4
 let sD:List DV:=bif bZ then jE else x5
 let rC:List DV:=bif bZ then nR else x6
 let w5:List DV:=bif bZ then lV else x7
 let gQ:Int:=bif bZ then gE else x8
 let jN:List DV:=bif bZ then gq else x9
 let jO:Int:=bif bZ then jq else cr
 let oo:Bool:=bif bZ then pX else cx
 let fI:List DV:=[.l eN,.l sD,.l rC,.l w5,.i gQ,.l jN,.i jO,.b oo]
 [.b ((ow [(bZ,true),(cQ,true)] dJ::ow [(bZ,true),(dW,true),(eH,true)] fq::ow [(bZ,true),(dW,true),(eH,true)] iS::[]).all id),.i sB,.b kW,.l fI]
def Ql (x0 x1 x2:List DV) (c1 c2 c3:Bool) (A85 Qm Qn:List DV):List DV :=
 let x7:Bool:=c1
 let z8:DV:=A85.getD 0 default
 let x8:Int:=z8.ai
 let z9:DV:=A85.getD 1 default
 let x9:Bool:=z9.aA
 let cr:Bool:=c2
 let xl:DV:=Qm.getD 0 default
 let cx:Bool:=xl.aA
 let qO:DV:=Qm.getD 1 default
 let cv:Int:=qO.ai
 let xm:DV:=Qm.getD 2 default
 let cc:Bool:=xm.aA
 let pI:DV:=Qm.getD 3 default
 let bX:List DV:=pI.ay
 let bZ:Bool:=c3
 let rD:DV:=Qn.getD 0 default
 let cM:Bool:=rD.aA
 let xj:DV:=Qn.getD 1 default
 let cQ:Int:=xj.ai
 let zY:DV:=Qn.getD 2 default
 let dJ:Bool:=zY.aA
 let xk:DV:=Qn.getD 3 default
 let fG:List DV:=xk.ay
 let dy:Bool:=!bZ
 let dW:Bool:=bif cr then false else dy
 let eK:Bool:=bif x7 then false else dW
 let eY:Int:=bif cr then cv else cQ
 let fL:Bool:=bif cr then cc else dJ
 let eH:List DV:=bif cr then bX else x1
 let fq:List DV:=bif cr then x2 else fG
 let fZ:Int:=bif x7 then x8 else eY
 let fc:Bool:=bif x7 then x9 else fL
 let gH:List DV:=bif x7 then x1 else eH
 let gP:List DV:=bif x7 then x2 else fq
 let gI:Int:=bif eK then 0 else fZ
 let iS:Bool:=bif eK then false else fc
 let gD:List DV:=bif eK then x1 else gH
 let kr:List DV:=bif eK then x2 else gP
 [.b ((ow [(x7,false),(cr,true)] cx::ow [(x7,false),(cr,false),(bZ,true)] cM::[]).all id),.i gI,.b iS,.l gD,.l kr]
theorem Qo (m C D U:List DV) (aR:Int) (ev:List DV) (one:Bool) {x n:Int} (h0:0<=x) (h1:x<18446744073709551616):sA [.l [.l m,.l C,.l D,.l U,.i aR,.l ev,.b one],.i x,.i n]=[.b (has x n)]:=by
 have e:sA [.l [.l m,.l C,.l D,.l U,.i aR,.l ev,.b one],.i x,.i n]=[.b ((xU [.l m,.i x,.i n]).getD 0 default).aA]:=by kernel_rfl
 rw [e,(Qj m h0 h1).1]
 rfl
theorem Qp (m C D U:List DV) (aR:Int) (ev:List DV) (cm:Int) (one:Bool) {x n:Int} (h0:0<=x) (h1:x<18446744073709551616):vr [.l [.l m,.l C,.l D,.l U,.i aR,.l ev,.i cm,.b one],.i x,.i n]=[.b (has x n)]:=by
 have e:vr [.l [.l m,.l C,.l D,.l U,.i aR,.l ev,.i cm,.b one],.i x,.i n]=[.b ((zG [.l m,.i x,.i n]).getD 0 default).aA]:=by kernel_rfl
 rw [e,(Qj m h0 h1).2]
 rfl
theorem zzJ (m C D U:List DV) (aR:Int) (ev:List DV) (one:Bool) (k x n:Int) (dd:List DV) (hd:wY [.l C,.l D,.l U,.i x]=dd):sC [.l [.l m,.l C,.l D,.l U,.i aR,.l ev,.b one],.i k,.i x,.i n] =
  B12 m C D U aR ev one (!(c_ k 0||dg k 3)) ((sA [.l [.l m,.l C,.l D,.l U,.i aR,.l ev,.b one],.i x,.i n]).getD 0 default).aA ((dd.getD 0 default).ai==0) (k==0) (k==3) ((dd.getD 0 default).ai==61) ((dd.getD 0 default).ai==63)
   (GL [.l m,.i x,.i n]) (nM [.l C,dd.getD 1 default,.i n]) (ic [.l D,dd.getD 1 default,.i n]) (g_ [.l U,dd.getD 1 default,.i n])
   (lF [.l [.l m,.l C,.l (bif (dd.getD 0 default).ai==61 then D else bif (dd.getD 0 default).ai==63 then ((ic [.l D,dd.getD 1 default,.i n]).getD 3 default).ay else D),
    .l (bif (dd.getD 0 default).ai==61 then U else bif (dd.getD 0 default).ai==63 then U else ((g_ [.l U,dd.getD 1 default,.i n]).getD 3 default).ay),.i aR,.l ev,.b one]]):=by
 subst hd
 kernel_rfl
theorem zzK (m C D U:List DV) (aR:Int) (ev:List DV) (cm:Int) (one:Bool) (k x n:Int) (L:List DV) (hL:Dv [.l C,.l D,.l U,.i x,.i n]=L):xZ [.l [.l m,.l C,.l D,.l U,.i aR,.l ev,.i cm,.b one],.i k,.i x,.i n] =
  B13 m C D U aR ev cm one (!(c_ k 0||dg k 3)) ((vr [.l [.l m,.l C,.l D,.l U,.i aR,.l ev,.i cm,.b one],.i x,.i n]).getD 0 default).aA (k==0) (k==3) (KF [.l m,.i x,.i n]) L
   (nr [.l [.l m,.l C,.l (L.getD 3 default).ay,.l (L.getD 4 default).ay,.i aR,.l ev,.i cm,.b one]]):=by
 subst hL
 kernel_rfl
theorem zzL (C D U:List DV) (x n:Int) (dd:List DV) (hd:Du [.i x]=dd):Dv [.l C,.l D,.l U,.i x,.i n] =
  Ql C D U ((dd.getD 0 default).ai==1) ((dd.getD 0 default).ai==2) ((dd.getD 0 default).ai==3) (xT [.l C,dd.getD 1 default,.i n]) (tD [.l D,dd.getD 1 default,.i n]) (sy [.l U,dd.getD 1 default,.i n]):=by
 subst hd
 kernel_rfl
theorem dev {b:St} {N:Nat} (h:b.Ok N) {x n:Int} (hn:uz n=true):∃ (d o v:Int) (is:Bool) (b':St),wY [.l b.C,.l b.D,.l b.U,.i x]=[.i d,.i o]/\(d=0\/d=61\/d=63\/d=65) /\
  (d=0->v=0/\is=false/\b'=b)/\(d=61->nM [.l b.C,.i o,.i n]=[.b true,.i v,.b is]/\b'.D=b.D/\b'.U=b.U)/\(d=63->ic [.l b.D,.i o,.i n]=[.b true,.i v,.b is,.l b'.D]/\b'.U=b.U)/\(d=65->g_ [.l b.U,.i o,.i n]=[.b true,.i v,.b is,.l b'.U]/\b'.D=b.D) /\
  Dv [.l b.C,.l b.E,.l b.V,.i x,.i n]=[.b true,.i v,.b is,.l b'.E,.l b'.V]/\b'.Ok N/\b'.m=b.m/\b'.C=b.C/\b'.aR=b.aR/\b'.l=b.l/\b'.az=b.az/\b'.one=b.one:=by
 obtain ⟨d,e,o,f1,f2,⟨o1,o2⟩,hd⟩:=find x b.C b.D b.U
 have t:=zzL b.C b.E b.V x n _ f2
 rcases hd with ⟨rfl,rfl⟩ | ⟨rfl,rfl⟩ | ⟨rfl,rfl⟩ | ⟨rfl,rfl⟩
 ·obtain ⟨v,is,p1,p2,_,_⟩:=zxm h.C o1 hn
  refine ⟨61,o,v,is,b,f1,by decide,fun q=>absurd q (by decide),fun _=>⟨p1,rfl,rfl⟩,fun q=>absurd q (by decide),fun q=>absurd q (by decide),t.trans ?_,h,rfl,rfl,rfl,rfl,rfl,rfl⟩
  show Ql _ _ _ _ _ _ (xT [.l b.C,.i o,.i n]) _ _=_
  rw [p2]
  rfl
 ·obtain ⟨v,is,xg,xh,p1,p2,p3⟩:=zxw (n:=n) h.D o2
  refine ⟨63,o,v,is,{ b with wa:=xg,se:=xh },f1,by decide,fun q=>absurd q (by decide),fun q=>absurd q (by decide),fun _=>⟨p1,rfl⟩,fun q=>absurd q (by decide),t.trans ?_,⟨h.m,h.C,p3,h.U,h.jQ,h.n,h.c,h.az,h.l,h.ev⟩,rfl,rfl,rfl,rfl,rfl,rfl⟩
  show Ql _ _ _ _ _ _ _ (tD [.l b.E,.i o,.i n]) _=_
  rw [p2]
  rfl
 ·obtain ⟨v,is,rd',lo',p1,p2,p3⟩:=zxt h.U b.w b.lo (n:=n) o2
  refine ⟨65,o,v,is,{ b with rd:=rd',lo:=lo' },f1,by decide,fun q=>absurd q (by decide),fun q=>absurd q (by decide),fun q=>absurd q (by decide),fun _=>⟨p1,rfl⟩,t.trans ?_,⟨h.m,h.C,h.D,p3,h.jQ,h.n,h.c,h.az,h.l,h.ev⟩,rfl,rfl,rfl,rfl,rfl,rfl⟩
  show Ql _ _ _ _ _ _ _ _ (sy [.l b.V,.i o,.i n])=_
  rw [p2]
  rfl
 ·exact ⟨0,o,0,false,b,f1,by decide,fun _=>⟨rfl,rfl,rfl⟩,fun q=>absurd q (by decide),fun q=>absurd q (by decide),fun q=>absurd q (by decide),t,h,rfl,rfl,rfl,rfl,rfl,rfl⟩
theorem YX {b:St} {N:Nat} (h:b.Ok N) (hl:b.Lv) (k:Int) {x n:Int} (h0:0<=x) (h1:x<18446744073709551616) (hn:uz n=true):∃ b' v is,sC [.l b.P,.i k,.i x,.i n]=[.b true,.i v,.b is,.l b'.P]/\xZ [.l b.R,.i k,.i x,.i n]=[.b true,.i v,.b is,.l b'.R]/\St.Ok b' N/\b'.Lv:=by
 obtain ⟨d,o,v,is,b',f1,hd,q0,YY,YZ,Y0,f2,h',e1,e2,e3,e4,e5,e6⟩:=dev h (x:=x) hn
 have t1:=zzJ b.m b.C b.D b.U b.aR (ax (b.l.drop b.az)) b.one k x n _ f1
 have t2:=zzK b.m b.C b.E b.V b.aR (ax b.l) b.az b.one k x n _ f2
 obtain ⟨w,r1,r2⟩:=zvA h.m (n:=n) h0 h1
 rw [Qo _ _ _ _ _ _ _ h0 h1,r1] at t1
 rw [Qp _ _ _ _ _ _ _ _ h0 h1,r2] at t2
 obtain ⟨s1,s2,s3⟩:=Hs h'
 have s2':nr [.l [.l b.m,.l b.C,.l b'.E,.l b'.V,.i b.aR,.l (ax b.l),.i b.az,.b b.one]]=[.b true,.l b'.set.R]:=by
  rw [<-s2]
  show _=nr [.l [.l b'.m,.l b'.C,.l b'.E,.l b'.V,.i b'.aR,.l (ax b'.l),.i b'.az,.b b'.one]]
  rw [e1,e2,e3,e4,e5,e6]
 have s1':lF [.l [.l b.m,.l b.C,.l b'.D,.l b'.U,.i b.aR,.l (ax (b.l.drop b.az)),.b b.one]]=[.b true,.l b'.set.P]:=by
  rw [<-s1]
  show _=lF [.l [.l b'.m,.l b'.C,.l b'.D,.l b'.U,.i b'.aR,.l (ax (b'.l.drop b'.az)),.b b'.one]]
  rw [e1,e2,e3,e4,e5,e6]
 have qT:=t2.trans (congrArg (B13 b.m b.C b.E b.V b.aR (ax b.l) b.az b.one _ _ _ _ _ _) s2')
 refine (fun (key:∀ K F0 F3,(!(c_ k 0||dg k 3))=K->(k==0)=F0->(k==3)=F3->_)=>key _ _ _ rfl rfl rfl) fun K F0 F3 hK hF0 hF3=>?_
 rw [hK,hF0,hF3] at t1 qT
 cases K with
 | false=>exact ⟨b,0,false,t1.trans rfl,qT.trans rfl,h,hl⟩
 | true =>
  cases hh:has x n with
  | true =>
   rw [hh] at t1 qT
   exact ⟨b,w,true,t1.trans rfl,qT.trans rfl,h,hl⟩
  | false =>
   rw [hh] at t1 qT
   cases F0 with
   | true=>exact ⟨b,0,false,t1.trans (by rcases hd with rfl | rfl | rfl | rfl<;>rfl),qT.trans rfl,h,hl⟩
   | false =>
    cases F3 with
    | true=>exact ⟨b,0,false,t1.trans (by rcases hd with rfl | rfl | rfl | rfl<;>rfl),qT.trans rfl,h,hl⟩
    | false =>
     refine ⟨_,v,is,?_,qT.trans rfl,s3,L0 b'⟩
     rcases hd with rfl | rfl | rfl | rfl
     ·obtain ⟨rfl,rfl,rfl⟩:=q0 rfl
      rw [zv8 h hl]
      exact t1.trans rfl
     ·obtain ⟨p1,p2,p3⟩:=YY rfl
      rw [p2,p3] at s1'
      exact (t1.trans (congr (congr (congr (congrArg (B12 b.m b.C b.D b.U b.aR (ax (b.l.drop b.az)) b.one _ _ _ _ _ _ _ _) p1) rfl) rfl) s1')).trans rfl
     ·obtain ⟨p1,p2⟩:=YZ rfl
      rw [p2] at s1'
      exact (t1.trans (congr (congr (congr rfl p1) rfl) ((congrArg (fun L:List DV=>lF [.l [.l b.m,.l b.C,.l (L.getD 3 default).ay,.l b.U,.i b.aR,.l (ax (b.l.drop b.az)),.b b.one]]) p1).trans s1'))).trans rfl
     ·obtain ⟨p1,p2⟩:=Y0 rfl
      rw [p2] at s1'
      exact (t1.trans (congr (congr rfl p1) ((congrArg (fun L:List DV=>lF [.l [.l b.m,.l b.C,.l b.D,.l (L.getD 3 default).ay,.i b.aR,.l (ax (b.l.drop b.az)),.b b.one]]) p1).trans s1'))).trans rfl
end Go.Proofs.Ytiabiimoalkmjaa
namespace Go.Proofs.Ytiabiimoalkmjaa
open Go Go.Sx
set_option maxRecDepth 100000
def B10 (m C D U:List DV) (aR:Int) (ev:List DV) (one:Bool) (H d0 L3 Bi:Bool) (Y1 Ma Mb Mc L4:List DV):List DV :=
 let x4:List DV:=m
 let x5:List DV:=C
 let x6:List DV:=D
 let x7:List DV:=U
 let x8:Int:=aR
 let x9:List DV:=ev
 let cr:Bool:=one
 let cv:Bool:=H
 let xm:DV:=Y1.getD 0 default
 let cc:Bool:=xm.aA
 let pI:DV:=Y1.getD 1 default
 let bX:Bool:=pI.aA
 let xp:DV:=Y1.getD 2 default
 let bZ:List DV:=xp.ay
 let cM:Bool:=!cv
 let fG:Bool:=d0
 let dy:Bool:=!fG
 let dW:Bool:=!d0
 let eK:Bool:=L3
 let z23:DV:=Ma.getD 0 default
 let eY:Bool:=z23.aA
 let yd:DV:=Ma.getD 2 default
 let eH:Bool:=yd.aA
 let fq:Bool:=Bi
 let L_:DV:=Mb.getD 0 default
 let fZ:Bool:=L_.aA
 let BA:DV:=Mb.getD 1 default
 let fc:Bool:=BA.aA
 let z30:DV:=Mc.getD 0 default
 let gP:Bool:=z30.aA
 let L5:DV:=Mc.getD 1 default
 let gI:Bool:=L5.aA
 let gD:Bool:=bif fq then fc else gI
 let iT:Bool:=bif eK then eH else gD
 let L6:DV:=L4.getD 0 default
 let mT:Bool:=L6.aA
 let Md:DV:=L4.getD 1 default
 let fH:List DV:=Md.ay
 let jM:List DV:=(fH.getD (Int.toNat 0*1+0) default).ay
 let kG:List DV:=(fH.getD (Int.toNat 0*1+1) default).ay
 let nN:List DV:=(fH.getD (Int.toNat 0*1+2) default).ay
 let pz:List DV:=(fH.getD (Int.toNat 0*1+3) default).ay
 let lG:Int:=(fH.getD (Int.toNat 0*1+4) default).ai
 let jh:List DV:=(fH.getD (Int.toNat 0*1+5) default).ay
 let nO:Bool:=(fH.getD (Int.toNat 0*1+6) default).aA
 let nP:Bool:=dy&&iT
 let lH:List DV:=bif dy then jM else x4
 let nt:List DV:=bif dy then kG else x5
 let iG:List DV:=bif dy then nN else x6
 let nQ:List DV:=bif dy then pz else x7
 let jE:Int:=bif dy then lG else x8
 let nR:List DV:=bif dy then jh else x9
 let lV:Bool:=bif dy then nO else cr
 let gE:Bool:=bif cM then nP else bX
 let gq:List DV:=bif cM then lH else bZ
 let jq:List DV:=bif cM then nt else x5
 let pX:List DV:=bif cM then iG else x6
 let sB:List DV:=bif cM then nQ else x7
 let kW:Int:=bif cM then jE else x8
 let eN:List DV:=bif cM then nR else x9
 let sD:Bool:=bif cM then lV else cr
 let rC:List DV:=[.l gq,.l jq,.l pX,.l sB,.i kW,.l eN,.b sD]
 [.b ((ow [(cv,true)] cc::ow [(cM,true),(dy,true)] dW::ow [(cM,true),(dy,true),(eK,true)] eY::ow [(cM,true),(dy,true),(eK,false),(fq,true)] fZ::ow [(cM,true),(dy,true),(eK,false),(fq,false)] gP::ow [(cM,true),(dy,true)] mT::[]).all id),.b gE,.l rC]
def B11 (m C D U:List DV) (aR:Int) (ev:List DV) (cm:Int) (one:Bool) (H c1 c2 c3:Bool) (Y2 A44 A45 A46 L7:List DV):List DV :=
 let x5:List DV:=C
 let x6:List DV:=D
 let x7:List DV:=U
 let x8:Int:=aR
 let x9:List DV:=ev
 let cr:Int:=cm
 let cx:Bool:=one
 let cc:Bool:=H
 let pI:DV:=Y2.getD 0 default
 let bX:Bool:=pI.aA
 let xp:DV:=Y2.getD 1 default
 let bZ:Bool:=xp.aA
 let rD:DV:=Y2.getD 2 default
 let cM:List DV:=rD.ay
 let cQ:Bool:=!cc
 let dy:Bool:=c1
 let Y3:DV:=A44.getD 0 default
 let dW:Bool:=Y3.aA
 let eY:Bool:=c2
 let tG:DV:=A45.getD 0 default
 let fL:Bool:=tG.aA
 let yd:DV:=A45.getD 1 default
 let eH:Bool:=yd.aA
 let fZ:Bool:=c3
 let BA:DV:=A46.getD 0 default
 let fc:Bool:=BA.aA
 let Y4:DV:=A46.getD 1 default
 let gH:Bool:=Y4.aA
 let gI:Bool:=fZ&&gH
 let gD:Bool:=bif eY then eH else gI
 let iT:Bool:=bif dy then dW else gD
 let L6:DV:=L7.getD 0 default
 let mT:Bool:=L6.aA
 let Md:DV:=L7.getD 1 default
 let fH:List DV:=Md.ay
 let jM:List DV:=(fH.getD (Int.toNat 0*1+0) default).ay
 let kG:List DV:=(fH.getD (Int.toNat 0*1+1) default).ay
 let nN:List DV:=(fH.getD (Int.toNat 0*1+2) default).ay
 let pz:List DV:=(fH.getD (Int.toNat 0*1+3) default).ay
 let lG:Int:=(fH.getD (Int.toNat 0*1+4) default).ai
 let jh:List DV:=(fH.getD (Int.toNat 0*1+5) default).ay
 let nO:Int:=(fH.getD (Int.toNat 0*1+6) default).ai
 let nP:Bool:=(fH.getD (Int.toNat 0*1+7) default).aA
 let lH:Bool:=bif cQ then iT else bZ
 let nt:List DV:=bif cQ then jM else cM
 let iG:List DV:=bif cQ then kG else x5
 let nQ:List DV:=bif cQ then nN else x6
 let jE:List DV:=bif cQ then pz else x7
 let nR:Int:=bif cQ then lG else x8
 let lV:List DV:=bif cQ then jh else x9
 let gE:Int:=bif cQ then nO else cr
 let gq:Bool:=bif cQ then nP else cx
 let jq:List DV:=[.l nt,.l iG,.l nQ,.l jE,.i nR,.l lV,.i gE,.b gq]
 [.b ((ow [(cc,true)] bX::ow [(cQ,true),(dy,false),(eY,true)] fL::ow [(cQ,true),(dy,false),(eY,false),(fZ,true)] fc::ow [(cQ,true)] mT::[]).all id),.b lH,.l jq]
theorem zzM (m C D U:List DV) (aR:Int) (ev:List DV) (one:Bool) (x n v:Int) (dd:List DV) (hd:wY [.l C,.l D,.l U,.i x]=dd):tE [.l [.l m,.l C,.l D,.l U,.i aR,.l ev,.b one],.i x,.i n,.i v] =
  B10 m C D U aR ev one ((sA [.l [.l m,.l C,.l D,.l U,.i aR,.l ev,.b one],.i x,.i n]).getD 0 default).aA ((dd.getD 0 default).ai==0) ((dd.getD 0 default).ai==61) ((dd.getD 0 default).ai==63)
   (GR [.l m,.i x,.i n,.i v]) (o_ [.l C,dd.getD 1 default,.i n,.i v]) (iE [.l D,dd.getD 1 default,.i n,.i v]) (jg [.l U,dd.getD 1 default,.i n,.i v])
   (lF [.l [.l m,.l (bif (dd.getD 0 default).ai==61 then ((o_ [.l C,dd.getD 1 default,.i n,.i v]).getD 1 default).ay else C),
    .l (bif (dd.getD 0 default).ai==61 then D else bif (dd.getD 0 default).ai==63 then ((iE [.l D,dd.getD 1 default,.i n,.i v]).getD 2 default).ay else D),
    .l (bif (dd.getD 0 default).ai==61 then U else bif (dd.getD 0 default).ai==63 then U else ((jg [.l U,dd.getD 1 default,.i n,.i v]).getD 2 default).ay),.i aR,.l ev,.b one]]):=by
 subst hd
 kernel_rfl
theorem zzN (m C D U:List DV) (aR:Int) (ev:List DV) (cm:Int) (one:Bool) (x n v:Int) (dd:List DV) (hd:Du [.i x]=dd):Bo [.l [.l m,.l C,.l D,.l U,.i aR,.l ev,.i cm,.b one],.i x,.i n,.i v] =
  B11 m C D U aR ev cm one ((vr [.l [.l m,.l C,.l D,.l U,.i aR,.l ev,.i cm,.b one],.i x,.i n]).getD 0 default).aA ((dd.getD 0 default).ai==1) ((dd.getD 0 default).ai==2) ((dd.getD 0 default).ai==3)
   (KM [.l m,.i x,.i n,.i v]) (wV [.l C,dd.getD 1 default,.i n,.i v]) (qL [.l D,dd.getD 1 default,.i n,.i v]) (sw [.l U,dd.getD 1 default,.i n,.i v])
   (nr [.l [.l m,.l (bif (dd.getD 0 default).ai==1 then ((wV [.l C,dd.getD 1 default,.i n,.i v]).getD 1 default).ay else C),
    .l (bif (dd.getD 0 default).ai==1 then D else bif (dd.getD 0 default).ai==2 then ((qL [.l D,dd.getD 1 default,.i n,.i v]).getD 2 default).ay else D),
    .l (bif (dd.getD 0 default).ai==1 then U else bif (dd.getD 0 default).ai==2 then U else bif (dd.getD 0 default).ai==3 then ((sw [.l U,dd.getD 1 default,.i n,.i v]).getD 2 default).ay else U),.i aR,.l ev,.i cm,.b one]]):=by
 subst hd
 kernel_rfl
theorem zrm {b:St} {N:Nat} (h:b.Ok N) (hl:b.Lv) (hN:N+1<35184372088832) {x n v:Int} (h0:0<=x) (h1:x<18446744073709551616) (hn:uz n=true) (hv:0<=v/\v<18446744073709551616) :
  ∃ b' is,tE [.l b.P,.i x,.i n,.i v]=[.b true,.b is,.l b'.P]/\Bo [.l b.R,.i x,.i n,.i v]=[.b true,.b is,.l b'.R]/\St.Ok b' (N+1)/\b'.Lv:=by
 obtain ⟨d,e,o,f1,f2,⟨o1,o2⟩,hd⟩:=find x b.C b.D b.U
 have t1:=zzM b.m b.C b.D b.U b.aR (ax (b.l.drop b.az)) b.one x n v _ f1
 have t2:=zzN b.m b.C b.E b.V b.aR (ax b.l) b.az b.one x n v _ f2
 obtain ⟨m',r1,r2,r3⟩:=zuC h.m (n:=n) (v:=v) h0 h1
 rw [Qo _ _ _ _ _ _ _ h0 h1,r1] at t1
 rw [Qp _ _ _ _ _ _ _ _ h0 h1,r2] at t2
 have hs:b.jQ.length<=N+1:=Nat.le_succ_of_le h.jQ
 have hk:b.Ok (N+1):=⟨h.m,h.C,h.D,h.U,hs,hN,h.c,h.az,h.l,h.ev⟩
 cases hh:has x n with
 | true =>
  rw [hh] at t1 t2
  exact ⟨{ b with m:=m' },true,t1.trans rfl,t2.trans rfl,⟨r3,h.C,h.D,h.U,hs,hN,h.c,h.az,h.l,h.ev⟩,hl⟩
 | false =>
  rw [hh] at t1 t2
  rcases hd with ⟨rfl,rfl⟩ | ⟨rfl,rfl⟩ | ⟨rfl,rfl⟩ | ⟨rfl,rfl⟩
  ·obtain ⟨s',t',a',is,p1,p2,p3⟩:=zvp h.C o1 hn hv
   obtain ⟨w1,w2,w3⟩:=Hs (b:={ b with s:=s',t:=t',a:=a' }) (n:=N+1) ⟨h.m,p3,h.D,h.U,hs,hN,h.c,h.az,h.l,h.ev⟩
   refine ⟨_,is,?_,?_,w3,L0 _⟩
   ·exact (t1.trans (congr (congr (congr (congr rfl p1) rfl) rfl) ((congrArg (fun L:List DV=>lF [.l [.l b.m,.l (L.getD 1 default).ay,.l b.D,.l b.U,.i b.aR,.l (ax (b.l.drop b.az)),.b b.one]]) p1).trans w1))).trans rfl
   ·exact (t2.trans (congr (congr (congr (congr rfl p2) rfl) rfl) ((congrArg (fun L:List DV=>nr [.l [.l b.m,.l (L.getD 1 default).ay,.l b.E,.l b.V,.i b.aR,.l (ax b.l),.i b.az,.b b.one]]) p2).trans w2))).trans rfl
  ·obtain ⟨is,LS,xg,xh,LU,EV,LV,LW,p1,p2,p3⟩:=zvz (n:=n) h.D o2 hv
   obtain ⟨w1,w2,w3⟩:=Hs (b:={ b with pr:=LS,wa:=xg,se:=xh,e0:=LU,e1:=EV,t0:=LV,t1:=LW }) (n:=N+1) ⟨h.m,h.C,p3,h.U,hs,hN,h.c,h.az,h.l,h.ev⟩
   refine ⟨_,is,?_,?_,w3,L0 _⟩
   ·exact (t1.trans (congr (congr (congr rfl p1) rfl) ((congrArg (fun L:List DV=>lF [.l [.l b.m,.l b.C,.l (L.getD 2 default).ay,.l b.U,.i b.aR,.l (ax (b.l.drop b.az)),.b b.one]]) p1).trans w1))).trans rfl
   ·exact (t2.trans (congr (congr (congr rfl p2) rfl) ((congrArg (fun L:List DV=>nr [.l [.l b.m,.l b.C,.l (L.getD 2 default).ay,.l b.V,.i b.aR,.l (ax b.l),.i b.az,.b b.one]]) p2).trans w2))).trans rfl
  ·obtain ⟨is,s',w',LN,p1,p2,p3,p4⟩:=zvs h.U (by have:=h.jQ;omega) b.w b.lo (n:=n) o2 hv
   obtain ⟨w1,w2,w3⟩:=Hs (b:={ b with jQ:=s',w:=w',sc:=LN }) (n:=N+1) ⟨h.m,h.C,h.D,p3,by have:=h.jQ;show s'.length<=N+1;omega,hN,h.c,h.az,h.l,h.ev⟩
   refine ⟨_,is,?_,?_,w3,L0 _⟩
   ·exact (t1.trans (congr (congr rfl p1) ((congrArg (fun L:List DV=>lF [.l [.l b.m,.l b.C,.l b.D,.l (L.getD 2 default).ay,.i b.aR,.l (ax (b.l.drop b.az)),.b b.one]]) p1).trans w1))).trans rfl
   ·exact (t2.trans (congr (congr rfl p2) ((congrArg (fun L:List DV=>nr [.l [.l b.m,.l b.C,.l b.E,.l (L.getD 2 default).ay,.i b.aR,.l (ax b.l),.i b.az,.b b.one]]) p2).trans w2))).trans rfl
  ·obtain ⟨w1,w2,w3⟩:=Hs hk
   rw [zv8 hk hl] at w1 w2
   exact ⟨b,false,t1.trans rfl,(t2.trans (congrArg (B11 b.m b.C b.E b.V b.aR (ax b.l) b.az b.one _ _ _ _ _ _ _ _) w2)).trans rfl,hk,hl⟩
end Go.Proofs.Ytiabiimoalkmjaa
namespace Go.Proofs.Ytiabiimoalkmjaa
open Go Go.Sx
set_option maxRecDepth 100000
def Qq (m C D U:List DV) (aR:Int) (ev:List DV) (one:Bool) (F H RW d0 L3 Bi:Bool) (E0 E1 xu uM uN uO:List DV):List DV :=
 let x4:List DV:=m
 let x5:List DV:=C
 let x6:List DV:=D
 let x7:List DV:=U
 let x8:Int:=aR
 let x9:List DV:=ev
 let cr:Bool:=one
 let cc:Bool:=F
 let bZ:Bool:=H
 let dJ:Bool:=RW
 let dy:Bool:=H
 let dW:Bool:=!dy
 let tG:DV:=xu.getD 0 default
 let fL:Bool:=tG.aA
 let yd:DV:=xu.getD 1 default
 let eH:List DV:=yd.ay
 let gP:Bool:=d0
 let gI:Bool:=!gP
 let iS:Bool:=!d0
 let gD:Bool:=L3
 let Qd:DV:=uM.getD 0 default
 let kr:Bool:=Qd.aA
 let BB:DV:=uM.getD 2 default
 let iT:Bool:=BB.aA
 let fX:Bool:=Bi
 let Y5:DV:=uN.getD 0 default
 let jD:Bool:=Y5.aA
 let YV:DV:=uN.getD 2 default
 let jZ:Bool:=YV.aA
 let Md:DV:=uO.getD 0 default
 let fH:Bool:=Md.aA
 let z44:DV:=uO.getD 2 default
 let kG:Bool:=z44.aA
 let lG:Bool:=bif fX then jZ else kG
 let lH:Bool:=bif gD then iT else lG
 let nQ:Bool:=!dJ
 let jE:Bool:=bif cc then false else nQ
 let nR:Bool:=gI&&lH
 let gq:Bool:=bif dW then nR else true
 let jq:List DV:=bif dW then eH else x7
 let pX:Bool:=bif cc then bZ else gq
 let sB:List DV:=bif cc then x7 else jq
 let kW:Bool:=bif jE then false else pX
 let eN:List DV:=bif jE then x7 else sB
 let sD:List DV:=[.l x4,.l x5,.l x6,.l eN,.i x8,.l x9,.b cr]
 [.b ((ow [(cc,false),(dJ,true),(dW,true)] fL::ow [(cc,false),(dJ,true),(dW,true),(gI,true)] iS::ow [(cc,false),(dJ,true),(dW,true),(gI,true),(gD,true)] kr::ow [(cc,false),(dJ,true),(dW,true),(gI,true),(gD,false),(fX,true)] jD::ow [(cc,false),(dJ,true),(dW,true),(gI,true),(gD,false),(fX,false)] fH::[]).all id),.b kW,.l sD]
def B19 (m C D U:List DV) (aR:Int) (ev:List DV) (cm:Int) (one:Bool) (K H F0 F3:Bool) (Hu BG BH Ht:List DV):List DV :=
 let bZ:Bool:=K
 let cQ:Bool:=H
 let dJ:Bool:=F0
 let fG:Bool:=cQ||dJ
 let dy:Bool:=F3
 let dW:Bool:=fG||dy
 let eK:Bool:=!dW
 let tG:DV:=BG.getD 0 default
 let fL:Bool:=tG.aA
 let L9:DV:=BH.getD 0 default
 let fq:Bool:=L9.aA
 let Y4:DV:=Ht.getD 0 default
 let gH:Bool:=Y4.aA
 let L5:DV:=Ht.getD 2 default
 let gI:Bool:=L5.aA
 let kr:Bool:=bif eK then gI else cQ
 let iF:Bool:=bZ&&kr
 [.b ((ow [(bZ,true),(eK,true)] fL::ow [(bZ,true),(eK,true)] fq::ow [(bZ,true),(eK,true)] gH::[]).all id),.b iF]
def B22 (A26 A67 A24 A68 A25 A69 A27 A70:List DV):List DV :=
 let z2:DV:=A26.getD 0 default
 let x2:Bool:=z2.aA
 let z3:DV:=A26.getD 1 default
 let x3:Int:=z3.ai
 let z4:DV:=A67.getD 0 default
 let x4:Bool:=z4.aA
 let z5:DV:=A67.getD 1 default
 let x5:Int:=z5.ai
 let x6:Bool:=x3==x5
 let z7:DV:=A24.getD 0 default
 let x7:Int:=z7.ai
 let z8:DV:=A68.getD 0 default
 let x8:Int:=z8.ai
 let x9:Bool:=x7==x8
 let cr:Bool:=x6&&x9
 let xl:DV:=A25.getD 0 default
 let cx:Int:=xl.ai
 let qO:DV:=A69.getD 0 default
 let cv:Int:=qO.ai
 let cc:Bool:=cx==cv
 let bX:Bool:=cr&&cc
 let xp:DV:=A27.getD 0 default
 let bZ:Bool:=xp.aA
 let rD:DV:=A27.getD 1 default
 let cM:List DV:=rD.ay
 let cQ:List DV:=[]
 let dJ:List DV:=bif bX then cM else cQ
 let xk:DV:=A70.getD 0 default
 let fG:Bool:=xk.aA
 let L8:DV:=A70.getD 1 default
 let dy:List DV:=L8.ay
 let dW:List DV:=[]
 let eK:List DV:=bif bX then dy else dW
 let eY:Bool:=sU dJ eK
 let fL:Bool:=bX&&eY
 [.b ((ow [] x2::ow [] x4::ow [(bX,true)] bZ::ow [(bX,true)] fG::[]).all id),.b fL]
def B14 (m C D U:List DV) (aR:Int) (ev:List DV) (one:Bool) (A51 E0 E1 xu:List DV):List DV :=
 let x1:List DV:=m
 let x2:List DV:=C
 let x3:List DV:=D
 let x5:Int:=aR
 let x6:List DV:=ev
 let x7:Bool:=one
 let z9:DV:=A51.getD 0 default
 let x9:List DV:=z9.ay
 let BC:DV:=E0.getD 0 default
 let cr:List DV:=BC.ay
 let xl:DV:=E1.getD 0 default
 let cx:List DV:=xl.ay
 let qO:DV:=xu.getD 0 default
 let cv:Bool:=qO.aA
 let xm:DV:=xu.getD 1 default
 let cc:List DV:=xm.ay
 let pI:DV:=xu.getD 2 default
 let bX:List DV:=pI.ay
 let bZ:List DV:=[.l x1,.l x2,.l x3,.l cc,.i x5,.l x6,.b x7]
 let cM:List DV:=[.l x9,.l cr,.l cx,.l bX,.i x5,.l x6,.b x7]
 [.b ((ow [] cv::[]).all id),.l bZ,.l cM]
def B15 (m C D U:List DV) (aR:Int) (ev:List DV) (cm:Int) (one:Bool) (A55 Hu BG BH:List DV):List DV :=
 let x5:Int:=aR
 let x6:List DV:=ev
 let x7:Int:=cm
 let x8:Bool:=one
 let z9:DV:=A55.getD 0 default
 let x9:List DV:=z9.ay
 let BC:DV:=Hu.getD 0 default
 let cr:List DV:=BC.ay
 let xl:DV:=BG.getD 0 default
 let cx:Bool:=xl.aA
 let qO:DV:=BG.getD 1 default
 let cv:List DV:=qO.ay
 let xm:DV:=BH.getD 0 default
 let cc:Bool:=xm.aA
 let pI:DV:=BH.getD 1 default
 let bX:List DV:=pI.ay
 let bZ:List DV:=[.l x9,.l cr,.l cv,.l bX,.i x5,.l x6,.i x7,.b x8]
 [.b ((ow [] cx::ow [] cc::[]).all id),.l bZ]
theorem zzO (m C D U:List DV) (aR:Int) (ev:List DV) (one:Bool) (k x n:Int) (E0 E1 xu dd:List DV) (h52:De [.l C]=E0) (h53:Dg [.l D]=E1) (h54:Bj [.l U]=xu) (hd:wY [E0.getD 0 default,E1.getD 0 default,xu.getD 2 default,.i x]=dd):xY [.l [.l m,.l C,.l D,.l U,.i aR,.l ev,.b one],.i k,.i x,.i n] =
  Qq m C D U aR ev one (bif k==0 then k==0 else k==3) ((sA [.l [.l m,.l C,.l D,.l U,.i aR,.l ev,.b one],.i x,.i n]).getD 0 default).aA (bif k==1 then k==1 else k==2) ((dd.getD 0 default).ai==0) ((dd.getD 0 default).ai==61) ((dd.getD 0 default).ai==63)
   E0 E1 xu (nM [E0.getD 0 default,dd.getD 1 default,.i n]) (ic [E1.getD 0 default,dd.getD 1 default,.i n]) (g_ [xu.getD 2 default,dd.getD 1 default,.i n]):=by
 subst h52 h53 h54 hd
 kernel_rfl
theorem zzP (m C D U:List DV) (aR:Int) (ev:List DV) (cm:Int) (one:Bool) (k x n:Int) (Hu BG BH:List DV) (h56:Gw [.l C]=Hu) (h57:GC [.l D]=BG) (h58:Dq [.l U]=BH):DK [.l [.l m,.l C,.l D,.l U,.i aR,.l ev,.i cm,.b one],.i k,.i x,.i n] =
  B19 m C D U aR ev cm one (!(c_ k 0||dg k 3)) ((vr [.l [.l m,.l C,.l D,.l U,.i aR,.l ev,.i cm,.b one],.i x,.i n]).getD 0 default).aA (k==0) (k==3) Hu BG BH (Dv [Hu.getD 0 default,BG.getD 1 default,BH.getD 1 default,.i x,.i n]):=by
 subst h56 h57 h58
 kernel_rfl
theorem zzQ (p r:List DV):Bp [.l p,.l r]=B22 (DG [.l p]) (K_ [.l r]) (G7 [.l p]) (PV [.l r]) (G8 [.l p]) (PX [.l r]) (DI [.l p]) (La [.l r]):=by kernel_rfl
theorem zzR (m C D U:List DV) (aR:Int) (ev:List DV) (one:Bool):xX [.l [.l m,.l C,.l D,.l U,.i aR,.l ev,.b one]]=B14 m C D U aR ev one (Kb [.l m]) (De [.l C]) (Dg [.l D]) (Bj [.l U]):=by kernel_rfl
theorem zzS (m C D U:List DV) (aR:Int) (ev:List DV) (cm:Int) (one:Bool):Dy [.l [.l m,.l C,.l D,.l U,.i aR,.l ev,.i cm,.b one]]=B15 m C D U aR ev cm one (U4 [.l m]) (Gw [.l C]) (GC [.l D]) (Dq [.l U]):=by kernel_rfl
theorem zyW {b:St} {N:Nat} (h:b.Ok N) (k:Int) {x n:Int} (h0:0<=x) (h1:x<18446744073709551616) (hn:uz n=true):∃ is,xY [.l b.P,.i k,.i x,.i n]=[.b true,.b is,.l b.P]/\DK [.l b.R,.i k,.i x,.i n]=[.b true,.b is]:=by
 obtain ⟨d,o,v,is,b',f1,hd,q0,YY,YZ,Y0,f2,h',e1,e2,e3,e4,e5,e6⟩:=dev h (x:=x) hn
 obtain ⟨c1,c2⟩:=zum b.s b.t b.a
 obtain ⟨d1,d2⟩:=zuy b.pr b.up b.wa b.se b.e0 b.e1 b.t0 b.t1
 obtain ⟨u1,u2⟩:=zur h.U (by have:=h.jQ;have:=h.n;omega) b.w b.lo
 have t1:=zzO b.m b.C b.D b.U b.aR (ax (b.l.drop b.az)) b.one k x n _ _ _ _ c1 d1 u1 f1
 have t2:=zzP b.m b.C b.E b.V b.aR (ax b.l) b.az b.one k x n _ _ _ c2 d2 u2
 rw [Qo _ _ _ _ _ _ _ h0 h1] at t1
 rw [Qp _ _ _ _ _ _ _ _ h0 h1] at t2
 have qT:=t2.trans (congrArg (B19 b.m b.C b.E b.V b.aR (ax b.l) b.az b.one _ _ _ _ _ _ _) f2)
 have hk:(k=0\/k=3)\/(k=1\/k=2)\/((k==0)=false/\(k==1)=false/\(k==2)=false/\(k==3)=false/\(!(c_ k 0||dg k 3))=false):=by
  simp only [beq_eq_false_iff_ne,c_,dg,Bool.not_eq_false',Bool.or_eq_true,decide_eq_true_eq]
  omega
 rcases hk with hk | hk | ⟨k0,k1,k2,k3,kk⟩
 ·refine ⟨has x n,?_⟩
  cases hh:has x n<;>rw [hh] at t1 qT<;>rcases hk with rfl | rfl<;>exact ⟨t1.trans rfl,qT.trans rfl⟩
 ·cases hh:has x n with
  | true=>rw [hh] at t1 qT;rcases hk with rfl | rfl<;>exact ⟨true,t1.trans rfl,qT.trans rfl⟩
  | false =>
   rw [hh] at t1 qT
   refine ⟨is,?_,by rcases hk with rfl | rfl<;>exact qT.trans rfl⟩
   rcases hd with rfl | rfl | rfl | rfl
   ·obtain ⟨rfl,rfl,rfl⟩:=q0 rfl
    rcases hk with rfl | rfl<;>exact t1.trans rfl
   ·obtain ⟨p1,p2,p3⟩:=YY rfl
    have t:=t1.trans (congr (congr (congrArg (Qq b.m b.C b.D b.U b.aR (ax (b.l.drop b.az)) b.one _ _ _ _ _ _ _ _ _) p1) rfl) rfl)
    rcases hk with rfl | rfl<;>exact t.trans rfl
   ·obtain ⟨p1,p2⟩:=YZ rfl
    have t:=t1.trans (congr (congrArg (Qq b.m b.C b.D b.U b.aR (ax (b.l.drop b.az)) b.one _ _ _ _ _ _ _ _ _ _) p1) rfl)
    rcases hk with rfl | rfl<;>exact t.trans rfl
   ·obtain ⟨p1,p2⟩:=Y0 rfl
    have t:=t1.trans (congrArg (Qq b.m b.C b.D b.U b.aR (ax (b.l.drop b.az)) b.one _ _ _ _ _ _ _ _ _ _ _) p1)
    rcases hk with rfl | rfl<;>exact t.trans rfl
 ·rw [k0,k1,k2,k3] at t1
  rw [k0,k3,kk] at qT
  exact ⟨false,t1.trans rfl,qT.trans rfl⟩
theorem zxB {b:St} {N:Nat} (h:b.Ok N):xX [.l b.P]=[.b true,.l b.P,.l b.P]/\Dy [.l b.R]=[.b true,.l b.R]:=by
 obtain ⟨c1,c2⟩:=zum b.s b.t b.a
 obtain ⟨d1,d2⟩:=zuy b.pr b.up b.wa b.se b.e0 b.e1 b.t0 b.t1
 obtain ⟨u1,u2⟩:=zur h.U (by have:=h.jQ;have:=h.n;omega) b.w b.lo
 have t1:=zzR b.m b.C b.D b.U b.aR (ax (b.l.drop b.az)) b.one
 have t2:=zzS b.m b.C b.E b.V b.aR (ax b.l) b.az b.one
 rw [c1,d1,u1] at t1
 rw [c2,d2,u2] at t2
 exact ⟨t1.trans rfl,t2.trans rfl⟩
theorem Y6:∀ l:List DV,sU l l=true
 | []=>rfl
 | x::l=>by simp [sU,Y6 l]
def Hv (A B:List DV):List DV:=[.b ([ow [] (B.getD 0 default).aA].all id),.i (bB .u64 (A.getD 0 default).ai (B.getD 1 default).ai)]
def Hw (A:List DV):List DV:=[.b ([ow [] (A.getD 0 default).aA].all id),.l (A.getD 1 default).ay]
theorem zrn {b:St} {N:Nat} (h:b.Ok N):Bp [.l b.P,.l b.R]=[.b true,.b true]:=by
 have hs:b.jQ.length<=35184372088832:=by have:=h.jQ;have:=h.n;omega
 obtain ⟨v,c1,c2⟩:=zr8 h.C
 obtain ⟨w,d1,d2⟩:=zsa h.D
 obtain ⟨u1,u2⟩:=zxv b.c b.jQ b.rd b.w b.lo b.sc hs
 have e26:DG [.l b.P]=Hv [.i v] [.b true,.i w]:=(show DG [.l b.P]=Hv (Gv [.l b.C]) (Gz [.l b.D]) by kernel_rfl).trans (congr (congrArg Hv c1) d1)
 have e67:K_ [.l b.R]=Hv [.i v] [.b true,.i w]:=(show K_ [.l b.R]=Hv (Kg [.l b.C]) (Ku [.l b.E]) by kernel_rfl).trans (congr (congrArg Hv c2) d2)
 have e24:G7 [.l b.P]=[.i b.t]:=by kernel_rfl
 have e68:PV [.l b.R]=[.i b.t]:=by kernel_rfl
 have e25:G8 [.l b.P]=[.i b.aR]:=by kernel_rfl
 have e69:PX [.l b.R]=[.i b.aR]:=by kernel_rfl
 have e27:DI [.l b.P]=Hw [.b true,.l b.jQ]:=(show DI [.l b.P]=Hw (GI [.l b.U]) by kernel_rfl).trans (congrArg Hw u1)
 have e70:La [.l b.R]=Hw [.b true,.l b.jQ]:=(show La [.l b.R]=Hw (Kz [.l b.V]) by kernel_rfl).trans (congrArg Hw u2)
 have t:=zzQ b.P b.R
 rw [e26,e67,e24,e68,e25,e69,e27,e70] at t
 have x1:(bB .u64 v w==bB .u64 v w)=true:=beq_self_eq_true _
 have x2:(b.t==b.t)=true:=beq_self_eq_true _
 have x3:(b.aR==b.aR)=true:=beq_self_eq_true _
 have y:(bB .u64 v w==bB .u64 v w&&b.t==b.t&&b.aR==b.aR)=true:=by rw [x1,x2,x3];rfl
 refine t.trans ?_
 show (fun q:Bool=>[DV.b ([ow [] true,ow [] true,ow [(q,true)] true,ow [(q,true)] true].all id),.b (q&&sU (bif q then b.jQ else []) (bif q then b.jQ else []))]) (bB .u64 v w==bB .u64 v w&&b.t==b.t&&b.aR==b.aR)=_
 rw [y]
 exact congrArg (fun q:Bool=>[DV.b true,.b q]) (Y6 b.jQ)
end Go.Proofs.Ytiabiimoalkmjaa
end
