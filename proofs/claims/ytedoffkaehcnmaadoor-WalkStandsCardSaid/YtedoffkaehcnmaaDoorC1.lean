/- Stores into a known block. -/
import Derived.Test.YtedoffkaehcnmaaDoorC0
import Derived.Deep.AppendSrc
import Derived.Laws.MakeOwn
import Derived.Laws.Externs
import Derived.KernelRfl
namespace Go.Sx
open Go.RowKit
section
variable {P:Program} {F:FEnv} {ν:Nat→DV} {ρ:Nat→Loc} {w:World}
def Like (ν:Nat→DV) (v x:Lf):Prop:=(∀ ρ,v.conc ν ρ=x.conc ν ρ)∧(x.good ν→v.good ν)
theorem Like.refl (v:Lf):Like ν v v:=⟨fun _=>rfl,id⟩
theorem Like.trans {a b c:Lf} (h:Like ν a b) (k:Like ν b c):Like ν a c:=⟨fun ρ=>(h.1 ρ).trans (k.1 ρ),fun g=>h.2 (k.2 g)⟩
structure Desc (ν:Nat→DV) (l l':List (Option Lf)) (p:Nat) (xs:List Lf):Prop where
 len:l'.length=l.length
 room:xs≠[]→p+xs.length≤l.length
 inn:∀ i v,nth l' i=some v→∀ k x,xs[k]? = some x→i=p+k→Like ν v x
 out:∀ i v,nth l' i=some v→(i<p∨p+xs.length≤i)→∃ old,nth l i=some old∧Like ν v old
theorem Desc.nil (l:List (Option Lf)) (p:Nat):Desc ν l l p [] :=
 ⟨rfl,fun h=>absurd rfl h,fun i v _ k x hx=>by simp at hx,fun i v hv _=>⟨v,hv,Like.refl v⟩⟩
theorem Desc.cons {l l1 l2:List (Option Lf)} {p:Nat} {x:Lf} {xs:List Lf} (h:Desc ν l l1 p [x]) (k:Desc ν l1 l2 (p+1) xs):Desc ν l l2 p (x::xs):=by
 refine ⟨k.len.trans h.len,fun _=>?_,fun i v hv j y hy hi=>?_,fun i v hv hi=>?_⟩
 ·have:=h.room (by simp)
  cases xs with
  | nil=>simpa using this
  | cons z zs=>have:=k.room (by simp);rw [h.len] at this;simp at this ⊢;omega
 ·cases j with
  | zero =>
   simp at hy;subst hy
   obtain ⟨old,ho,hl⟩:=k.out i v hv (.inl (by omega))
   exact hl.trans (h.inn i old ho 0 _ rfl (by omega))
  | succ j=>exact k.inn i v hv j y (by simpa using hy) (by omega)
 ·obtain ⟨old,ho,hl⟩:=k.out i v hv (by simp at hi;omega)
  obtain ⟨old2,ho2,hl2⟩:=h.out i old ho (by simp at hi ⊢;omega)
  exact ⟨old2,ho2,hl.trans hl2⟩
theorem zb3:∀ {l l':List (Option Lf)} {o:Nat} {xs:List Lf},zcj l o xs=some l'→Desc ν l l' o xs
 | l,l',o,[],h=>by
  have:l'=l:=by cases l<;>cases o<;>simp [zcj] at h<;>first | exact h.symm | (subst h;rfl)
  subst this;exact Desc.nil _ _
 | [],l',o,x::xs,h=>by cases o<;>simp [zcj] at h
 | c::l,l',o+1,x::xs,h=>by
  simp only [zcj] at h
  obtain ⟨r,hr,rfl⟩:=Option.map_eq_some_iff.1 h
  have ih:=zb3 hr
  refine ⟨by simp [ih.len],fun _=>by have:=ih.room (by simp);simp at this ⊢;omega,fun i v hv k y hy hi=>?_,fun i v hv hi=>?_⟩
  ·cases i with
   | zero=>omega
   | succ i=>exact ih.inn i v hv k y hy (by omega)
  ·cases i with
   | zero=>exact ⟨v,hv,Like.refl v⟩
   | succ i=>exact ih.out i v hv (by simp at hi ⊢;omega)
 | c::l,l',0,x::xs,h=>by
  simp only [zcj] at h
  obtain ⟨r,hr,rfl⟩:=Option.map_eq_some_iff.1 h
  have ih:=zb3 hr
  refine ⟨by simp [ih.len],fun _=>?_,fun i v hv k y hy hi=>?_,fun i v hv hi=>?_⟩
  ·cases xs with
   | nil=>simp
   | cons z zs=>have:=ih.room (by simp);simp at this ⊢;omega
  ·cases i with
   | zero =>
    have:k=0:=by omega
    subst this
    simp at hy;subst hy
    cases hv;exact Like.refl _
   | succ i =>
    cases k with
    | zero=>omega
    | succ k=>exact ih.inn i v hv k y (by simpa using hy) (by omega)
  ·cases i with
   | zero=>simp at hi
   | succ i=>exact ih.out i v hv (.inr (by simp at hi;omega))
theorem zhd {ix:A} {x:Lf} {sz:Nat} (hsz:0<sz):∀ (l:List (Option Lf)) (base len j:Nat),
  M.sat F ν (zee ix x l base sz len j) (fun l'=>l'.length=l.length∧(∀ k,k<len→base+k*sz<l.length) ∧
   ∀ i v,nth l' i=some v →
    (∃ k,k<len∧i=base+k*sz∧∃ old,nth l i=some old∧(ix.int ν=((j+k:Nat):Int)→Like ν v x)∧(ix.int ν≠((j+k:Nat):Int)→Like ν v old)) ∨
    ((∀ k,k<len→i≠base+k*sz)∧nth l i=some v))
 | l,base,0,j=>by
  have e:zee ix x l base sz 0 j=pure l:=by cases l<;>cases base<;>rfl
  rw [e]
  exact zab ⟨rfl,fun k hk=>absurd hk (by omega),fun i v hv=>.inr ⟨fun k hk=>absurd hk (by omega),hv⟩⟩
 | [],base,len+1,j=>by
  have e:zee ix x [] base sz (len+1) j=M.fail:=by cases base<;>rfl
  rw [e];exact zac
 | c::l,base+1,len+1,j=>by
  have e:zee ix x (c::l) (base+1) sz (len+1) j=(do pure (c::(←zee ix x l base sz (len+1) j))):=rfl
  rw [e]
  refine zaa (zhd hsz l base (len+1) j) fun r hr=>zab ?_
  obtain ⟨h1,h2,h3⟩:=hr
  refine ⟨by simp [h1],fun k hk=>by have:=h2 k hk;simp;omega,fun i v hv=>?_⟩
  cases i with
  | zero=>exact .inr ⟨fun k hk=>by omega,hv⟩
  | succ i =>
   rcases h3 i v hv with ⟨k,hk,hi,old,ho,ha⟩ | ⟨hn,ho⟩
   ·exact .inl ⟨k,hk,by omega,old,ho,ha⟩
   ·exact .inr ⟨fun k hk=>by have:=hn k hk;omega,ho⟩
 | c::l,0,len+1,j=>by
  cases c with
  | none =>
   have e:zee ix x (none::l) 0 sz (len+1) j=M.fail:=rfl
   rw [e];exact zac
  | some old =>
   have e:zee ix x (some old::l) 0 sz (len+1) j=(do
    let e ←emit (.eql ix (.z j))
    match ←zk8 e x old with
    | none=>M.fail
    | some y=>do pure (some y::(←zee ix x l (sz-1) sz len (j+1)))):=rfl
   rw [e]
   refine zaa (zag (Q:=fun r=>r.bool ν=(ix.int ν==(j:Int))) fun r h=>A.bool_of_den h) fun e he=>?_
   refine zaa zn2 fun o ho=>?_
   split
   ·exact zac
   ·rename_i y
    have hm:=ho y rfl
    refine zaa (zhd hsz l (sz-1) len (j+1)) fun r hr=>zab ?_
    obtain ⟨h1,h2,h3⟩:=hr
    refine ⟨by simp [h1],fun k hk=>?_,fun i v hv=>?_⟩
    ·cases k with
     | zero=>simp
     | succ k=>have:=h2 k (by omega);simp [Nat.add_mul];omega
    ·cases i with
     | zero =>
      cases hv
      refine .inl ⟨0,by omega,by omega,old,rfl,fun hj=>?_,fun hj=>?_⟩
      ·exact hm.1 (by rw [he];simpa using hj)
      ·exact hm.2 (by rw [he];simpa using hj)
     | succ i =>
      rcases h3 i v hv with ⟨k,hk,hi,old2,ho2,ha⟩ | ⟨hn,ho2⟩
      ·refine .inl ⟨k+1,by omega,by simp [Nat.add_mul];omega,old2,ho2,?_⟩
       have ej:((j+(k+1):Nat):Int)=((j+1+k:Nat):Int):=by omega
       rw [ej];exact ha
      ·refine .inr ⟨fun k hk=>?_,ho2⟩
       cases k with
       | zero=>omega
       | succ k=>have:=hn k (by omega);simp [Nat.add_mul];omega
theorem zn3 {ix:A} {x:Lf} {sz base len:Nat} (hsz:0<sz) (h0:0≤ix.int ν) (h1:ix.int ν<len) (l:List (Option Lf)) :
  M.sat F ν (zee ix x l base sz len 0) (fun l'=>Desc ν l l' (base+(ix.int ν).toNat*sz) [x]):=by
 refine zah (zhd hsz l base len 0) fun l' ⟨ha,hb,hc⟩=>?_
 have hix:ix.int ν=(((ix.int ν).toNat:Nat):Int):=by omega
 have hinj:∀ k,base+k*sz=base+(ix.int ν).toNat*sz→k=(ix.int ν).toNat:=fun k h=>Nat.eq_of_mul_eq_mul_right hsz (by omega)
 refine ⟨ha,fun _=>by have:=hb (ix.int ν).toNat (by omega);simp;omega,fun i v hv k y hy hi=>?_,fun i v hv hi=>?_⟩
 ·have:k=0:=by have:=(List.getElem?_eq_some_iff.1 hy).1;simp at this;omega
  subst this
  simp at hy;subst hy
  rcases hc i v hv with ⟨k,hk,hi',old,ho,h2,h3⟩ | ⟨hn,ho⟩
  ·have:=hinj k (by omega)
   exact h2 (by omega)
  ·exact absurd (by omega) (hn (ix.int ν).toNat (by omega))
 ·rcases hc i v hv with ⟨k,hk,hi',old,ho,h2,h3⟩ | ⟨hn,ho⟩
  ·refine ⟨old,ho,h3 fun he=>?_⟩
   have:k=(ix.int ν).toNat:=by omega
   subst this
   simp at hi;omega
  ·exact ⟨v,ho,Like.refl v⟩
theorem ztm (n:Nat) (l:List DV):(padN n l).length=n:=by simp [padN]
theorem ztn {n k:Nat} (l:List DV) (h:k<n):(padN n l)[k]? = some (l.getD k default):=by simp [padN,h]
def zuM (a a':A):Lf→Lf
 | .e t b j=>if b.beq a then .e t a' j else .e t b j
 | c=>c
theorem zgt (a a':A):∀ (l:List (Option Lf)) (i:Nat),nth (znz a a' l) i=(nth l i).map (zuM a a')
 | [],i=>by cases i<;>rfl
 | none::l,0=>rfl
 | none::l,i+1=>zgt a a' l i
 | some x::l,0=>by cases x<;>rfl
 | some x::l,i+1=>by cases x<;>exact zgt a a' l i
theorem ziV (a a':A):∀ (l:List (Option Lf)),(znz a a' l).length=l.length
 | []=>rfl
 | none::l=>by simp [znz,ziV a a' l]
 | some x::l=>by cases x<;>simp [znz,ziV a a' l]
theorem zgu {a:A} : ∀ {l:List (Option Lf)} {i:Nat} {t:LT} {b:A} {j:Nat},nth l i=some (.e t b j)→b.beq a=true→j<maxE a l
 | [],i,_,_,_,h,_=>by cases i<;>cases h
 | none::l,0,_,_,_,h,_=>by cases h
 | none::l,i+1,_,_,_,h,hb=>zgu (l:=l) (i:=i) h hb
 | some x::l,0,t,b,j,h,hb=>by
  cases h
  simp only [maxE,hb,if_true]
  omega
 | some x::l,i+1,t,b,j,h,hb=>by
  have ih:=zgu (l:=l) (i:=i) h hb
  cases x<;>simp only [maxE]<;>first | exact ih | skip
  split
  ·omega
  ·exact ih
theorem zgv {a:A} {P0 J0:Nat} : ∀ {l:List (Option Lf)} {p i:Nat} {t:LT} {b:A} {j:Nat},affB a P0 J0 p l=true→nth l i=some (.e t b j)→b.beq a=true→j+P0=p+i+J0
 | [],_,i,_,_,_,_,h,_=>by cases i<;>cases h
 | none::l,p,0,_,_,_,_,h,_=>by cases h
 | none::l,p,i+1,t,b,j,ha,h,hb=>by
  have:=zgv (l:=l) (p:=p+1) (i:=i) ha h hb
  omega
 | some x::l,p,0,t,b,j,ha,h,hb=>by
  cases h
  simp only [affB,Bool.and_eq_true,hb,Bool.not_true,Bool.false_or] at ha
  have:=Nat.eq_of_beq_eq_true ha.1
  omega
 | some x::l,p,i+1,t,b,j,ha,h,hb=>by
  have ha':affB a P0 J0 (p+1) l=true:=by
   cases x<;>simp only [affB,Bool.and_eq_true] at ha<;>first | exact ha | exact ha.2
  have:=zgv (l:=l) (p:=p+1) (i:=i) ha' h hb
  omega
theorem zn4 {t:LT} {x:Lf} {v:A} (h:zo8 t x=some v) {a':A} {J:Nat} (ha:(a'.cells ν)[J]? = some (nrm t.ty (v.den ν))):∀ ρ,(Lf.e t a' J).conc ν ρ=x.conc ν ρ:=by
 intro ρ
 have hg:(a'.cells ν).getD J default=nrm t.ty (v.den ν):=by rw [List.getD_eq_getElem?_getD,ha];rfl
 unfold zo8 at h
 split at h
 ·split at h
  ·rename_i hk
   cases h
   have:=zb7 hk;subst this
   simp only [Lf.conc,hg,LT.ty,nrm,A.int]
  ·cases h
 ·cases h
  simp only [Lf.conc,hg,LT.ty,nrm,A.bool]
 ·cases h
theorem zmv {ix:A} {x:Lf} {sz base len:Nat} (hsz:0<sz) (h0:0≤ix.int ν) (h1:ix.int ν<len) (l:List (Option Lf)) :
  M.sat F ν (putE ix x l base sz len) (fun l'=>Desc ν l l' (base+(ix.int ν).toNat*sz) [x]):=by
 unfold putE
 split
 ·rename_i t a i0 r hrow
  refine zae (fun hc=>?_) (fun _=>zac)
  simp only [Bool.and_eq_true] at hc
  obtain ⟨hre,haf⟩:=hc
  obtain ⟨r1,r2⟩:=zbG hrow
  refine zaa (zad (Q:=fun v=>zo8 t x=some v) fun a h=>h) fun v hv=>?_
  refine zaa (zag (Q:=fun q=>q.cells ν=(padN (maxE a l) (a.cells ν)).set ((ix.int ν).toNat*sz+i0) (nrm t.ty (v.den ν))) fun q h=>A.cells_of_den h) fun a' ha'=>zab ?_
  have hk:(ix.int ν).toNat<len:=by omega
  have hcell:=r2 _ hk
  rw [List.getElem?_eq_getElem (by omega)] at hcell
  obtain ⟨b,hb1,hb2⟩:=zeA hre _ _ (List.getElem?_eq_getElem (l:=.e t a i0::r) (i:=(ix.int ν).toNat) (by omega))
  rw [hb2] at hcell
  have hJ:=zgu hcell hb1
  have hJp:=zgv haf hcell hb1
  generalize hp:base+(ix.int ν).toNat*sz=p at *
  generalize hJe:i0+(ix.int ν).toNat*sz=J at *
  have hJ2:(ix.int ν).toNat*sz+i0=J:=by omega
  rw [hJ2] at ha'
  have hpl:=za4 hcell
  have hat:(a'.cells ν)[J]? = some (nrm t.ty (v.den ν)):=by
   rw [ha',List.getElem?_set,if_pos rfl,if_pos (by rw [ztm];exact hJ)]
  refine ⟨ziV _ _ _,fun _=>by simp;omega,fun i u hu k y hy hi=>?_,fun i u hu hi=>?_⟩
  ·have:k=0:=by have:=(List.getElem?_eq_some_iff.1 hy).1;simp at this;omega
   subst this
   simp at hy;subst hy
   have hi:i=p:=by omega
   subst hi
   rw [zgt,hcell] at hu
   simp only [Option.map_some,zuM,hb1,if_true,Option.some.injEq] at hu
   subst hu
   exact ⟨zn4 hv hat,fun _=>trivial⟩
  ·have hip:i≠p:=by simp at hi;omega
   rw [zgt] at hu
   obtain ⟨old,ho,rfl⟩:=Option.map_eq_some_iff.1 hu
   refine ⟨old,ho,?_⟩
   cases old<;>simp only [zuM]<;>try exact Like.refl _
   rename_i u c j
   split
   ·rename_i hcb
    have hj:=zgv haf ho hcb
    have hjm:=zgu ho hcb
    have hjJ:J≠j:=by omega
    have hget:(a'.cells ν).getD j default=(c.cells ν).getD j default:=by
     rw [List.getD_eq_getElem?_getD,ha',List.getElem?_set,if_neg hjJ,ztn _ hjm]
     simp only [A.cells,A.beq_den hcb ν,Option.getD_some]
    refine ⟨fun ρ=>?_,fun _=>trivial⟩
    cases u<;>simp only [Lf.conc,hget]
   ·exact Like.refl _
 ·exact zn3 hsz h0 h1 l
theorem zhL {ix:A} {sz len:Nat} (hsz:0<sz) (h0:0≤ix.int ν) (h1:ix.int ν<len):∀ (xs:List Lf) (l:List (Option Lf)) (base:Nat),
  M.sat F ν (zlb ix xs l base sz len) (fun l'=>Desc ν l l' (base+(ix.int ν).toNat*sz) xs)
 | [],l,base=>zab (Desc.nil _ _)
 | x::xs,l,base=>by
  unfold zlb
  refine zaa (zmv hsz h0 h1 l) fun l1 hl1=>zah (zhL hsz h0 h1 xs l1 (base+1)) fun l2 hl2=>?_
  exact Desc.cons hl1 (by rwa [show base+(ix.int ν).toNat*sz+1=base+1+(ix.int ν).toNat*sz from by omega])
theorem zhM:∀ (xs:List Lf) (l:List (Option Lf)) (o:Nat),M.sat F ν (zlc xs l o) (fun l'=>Desc ν l l' o xs)
 | [],l,o=>zab (Desc.nil _ _)
 | x::xs,l,o=>by
  unfold zlc
  refine zaa (R:=fun l1=>Desc ν l l1 o [x]) ?_ fun l1 hl1=>zah (zhM xs l1 (o+1)) fun l2 hl2=>Desc.cons hl1 hl2
  split
  ·refine zae (fun _=>zad fun l' h=>zb3 h) (fun _=>?_)
   refine zah (zmv (ν:=ν) (ix:=.z 0) (len:=1) (by decide) (by simp) (by show (0:Int)<1;decide) l) fun l' h=>?_
   simpa using h
  ·exact zad fun l' h=>zb3 h
theorem zhe {cs:List (Option Lf)} {off:Off} {xs:List Lf} (hg:off.good ν) :
  M.sat F ν (zem cs off xs) (fun l'=>Desc ν cs l' (off.val ν) xs):=by
 unfold zem
 split
 ·exact zae (fun _=>zhM _ _ _) (fun _=>zad fun l' h=>zb3 h)
 ·exact zae (fun h=>zhL (by simpa using h) hg.1 hg.2 _ _ _) (fun _=>zac)
 ·exact zac
theorem zbq (b:Nat):∀ (vs:List Value) (o:Nat) (w:World),(w.setCells b o vs).heap.size=w.heap.size
 | [],_,_=>rfl
 | v::r,o,w=>by rw [World.setCells,zbq b r,World.size_setCell]
theorem zbu (b:Nat):∀ (vs:List Value) (o:Nat) (w:World) (k:Nat),k≠b→(w.setCells b o vs).heap[k]? = w.heap[k]?
 | [],_,_,_,_=>rfl
 | v::r,o,w,k,h=>by rw [World.setCells,zbu b r _ _ k h];exact Below.heap_setCell w ⟨b,o,none⟩ v k h
theorem zbd (b:Nat):∀ (vs:List Value) (o:Nat) (w:World),(w.setCells b o vs).os=w.os∧(w.setCells b o vs).tape=w.tape∧(w.setCells b o vs).output=w.output
 | [],_,_=>⟨rfl,rfl,rfl⟩
 | v::r,o,w=>by
  rw [World.setCells]
  exact zbd b r (o+1) _
theorem Lf.ok_conc {l:Lf} (h:l.ok=true) (ρ:Nat→Loc):(l.conc ν ρ).oneCell'=true:=by
 cases l with
 | e t _ _=>cases t<;>rfl
 | alt a l =>
  simp only [Lf.conc,zbj]
  split
  ·rename_i x _
   cases x<;>rfl
  ·rfl
 | _=>first | rfl | exact h
theorem CBlk.store {r:Loc} {cs cs':List (Option Lf)} {p:Nat} {xs:List Lf} (h:CBlk ν ρ w r true cs) (hd:Desc ν cs cs' p xs) (hg:∀ x∈xs,x.good ν) (hok:∀ x∈xs,x.ok=true) :
  (storeCells ⟨r.blk,r.off+p,none⟩ (xs.map (Lf.conc ν ρ))).run P w = .ok () (w.setCells r.blk (r.off+p) (xs.map (Lf.conc ν ρ))) ∧
  CBlk ν ρ (w.setCells r.blk (r.off+p) (xs.map (Lf.conc ν ρ))) r true cs':=by
 have hroom:∀ k,k<xs.length→p+k<cs.length:=fun k hk=>by
  have:=hd.room (by intro e;subst e;simp at hk)
  omega
 have hex:∀ k,k<xs.length→(w.cell? ⟨r.blk,r.off+p+k,none⟩).isSome=true∧w.frozen? ⟨r.blk,r.off+p+k,none⟩=false:=fun k hk=>by
  have:=h.own rfl (p+k) (hroom k hk)
  rwa [←Nat.add_assoc] at this
 refine ⟨?_,h.nil,?_,?_,?_,fun _ o=>by rw [World.frozen?_setCells];exact h.fz rfl o⟩
 ·have:=run_storeCells_cells (P:=P) r.blk (r.off+p) (xs.map (Lf.conc ν ρ)) 0 w (by simpa using fun k hk=>(hex k hk).1) (by simpa using fun k hk=>(hex k hk).2)
   (fun v hv=>by obtain ⟨l,hl,rfl⟩:=List.mem_map.1 hv;exact Lf.ok_conc (hok l hl) ρ)
  simpa using this
 ·rw [zbq];exact h.lt
 ·intro i l hl
  by_cases hi:p≤i∧i<p+xs.length
  ·obtain ⟨k,hk⟩:∃ k,i=p+k:=⟨i-p,by omega⟩
   have hkl:k<xs.length:=by omega
   have hlike:=hd.inn i l hl k xs[k] (List.getElem?_eq_getElem hkl) hk
   refine ⟨hlike.2 (hg _ (List.getElem_mem hkl)),?_⟩
   have:=World.cell?_setCells_in r.blk (xs.map (Lf.conc ν ρ)) (r.off+p) w (by simpa using fun k hk=>(hex k hk).1) k (by simpa using hkl)
   rw [hk,←Nat.add_assoc,this,hlike.1 ρ]
   simp
  ·obtain ⟨old,ho,hlike⟩:=hd.out i l hl (by omega)
   have:=h.cell i old ho
   refine ⟨hlike.2 this.1,?_⟩
   rw [World.cell?_setCells_out _ _ _ _ _ (fun _ _=>by simp;omega),this.2,hlike.1 ρ]
 ·intro _ i hi
  rw [World.frozen?_setCells]
  have hi':i<cs.length:=by have:=hd.len;omega
  have:=h.own rfl i hi'
  refine ⟨?_,this.2⟩
  by_cases hi2:p≤i∧i<p+xs.length
  ·obtain ⟨k,hk⟩:∃ k,i=p+k:=⟨i-p,by omega⟩
   have hkl:k<xs.length:=by omega
   have:=World.cell?_setCells_in r.blk (xs.map (Lf.conc ν ρ)) (r.off+p) w (by simpa using fun k hk=>(hex k hk).1) k (by simpa using hkl)
   rw [hk,←Nat.add_assoc,this]
   rfl
  ·rw [World.cell?_setCells_out _ _ _ _ _ (fun _ _=>by simp;omega)]
   exact this.1
end
end Go.Sx
namespace Go.Sx
open Go.RowKit
abbrev dget (l:List DV) (i:Nat):DV:=l.getD i default
def GlobIn (w:World) (g:Nat) (cs:List Lf):Prop :=
 g<w.heap.size∧∀ i l,cs[i]? = some l→∀ ν ρ,l.good ν∧w.cell? ⟨g,i,none⟩=some (l.conc ν ρ)
theorem GlobIn.below {w w':World} {g:Nat} {cs:List Lf} (hb:Below w.heap.size w w') (h:GlobIn w g cs):GlobIn w' g cs :=
 ⟨Nat.lt_of_lt_of_le h.1 hb.size,fun i l hi ν ρ=>⟨(h.2 i l hi ν ρ).1,by rw [←(h.2 i l hi ν ρ).2];exact hb.cell h.1⟩⟩
structure HS (E:Env) (ν:Nat→DV) (ρ:Nat→Loc) (hp:List (Option Blk)) (w:World):Prop where
 heap:HRel E ν ρ hp w
 old:OldF E.W E.V E.w0 w ρ hp
 fr:Fr E.W E.w0 w
 len:E.n0≤hp.length
 keep:∀ j,j<E.n0→ρ j=E.ρ0 j
def callEnv (hin : List (Option Blk)) (ρ : Nat → Loc) (w : World) : Env :=
  ⟨fun b => ∃ j bk, nth hin j = some bk ∧ bk.own = true ∧ (ρ j).nil = false ∧ bk.foot w (ρ j) b,
   fun b => (∃ j bk, nth hin j = some bk ∧ (ρ j).nil = false ∧ bk.rfoot w (ρ j) b) ∨
     (hin.all (zao Blk.flat) = false ∧ b < w.heap.size ∧ ¬ ∃ j bk, nth hin j = some bk ∧ bk.own = true ∧ (ρ j).nil = false ∧ bk.foot w (ρ j) b), w, hin.length, ρ⟩
def Sig.hinI (sg:Sig):List (Option Blk):=sg.hin.map (Option.map (Blk.inst (zal 0 sg.nin)))
def Sig.insI (sg:Sig):List V:=sg.ins.map (V.inst (zal 0 sg.nin))
def Sig.houtI (sg:Sig):List (Option Blk):=sg.hout.map (Option.map (Blk.inst (zal 0 sg.ots.length)))
def Sig.outI (sg:Sig):V:=sg.out.inst (zal 0 sg.ots.length)
def Sig.res (sg:Sig) (ds:List DV):Nat→DV:=fun j=>dget ds (j+if sg.need then 1 else 0)
structure CallOut (sg:Sig) (ds:List DV) (ρ:Nat→Loc) (w:World) (v:Value) (ρ':Nat→Loc) (w':World):Prop where
 val:v=sg.outI.conc (sg.res ds) ρ'
 good:sg.outI.good (sg.res ds)
 heap:HRel (callEnv sg.hinI ρ w) (sg.res ds) ρ' sg.houtI w'
 old:OldF (callEnv sg.hinI ρ w).W (callEnv sg.hinI ρ w).V w w' ρ' sg.houtI
 fr:Fr (callEnv sg.hinI ρ w).W w w'
 keep:∀ j,stays sg.hin j=true→j<sg.hout.length→ρ' j=ρ j
def FnOK (P:Program) (I:World→Prop) (K:Nat) (f:FuncId) (sg:Sig) (G:List DV→List DV):Prop :=
 ∀ (ds:List DV) (ρ:Nat→Loc) (w:World),I w→ds.length=sg.nin→(sg.need=true→(dget (G ds) 0).toB=true) →
  K≤w.heap.size→(∀ b,(callEnv sg.hinI ρ w).W b→K≤b)→(∀ v∈sg.insI,V.good (dget ds) v)→HRel (callEnv sg.hinI ρ w) (dget ds) ρ sg.hinI w →
  Calls P f (sg.insI.map (V.conc (dget ds) ρ)).toArray w (fun e w'=>∃ v ρ',e = .returned v∧CallOut sg (G ds) ρ w v ρ' w')
structure SigsOK (P:Program) (I:World→Prop) (K:Nat) (S:Sigs) (F:FEnv):Prop where
 fns:∀ f sg,S.get f=some sg→FnOK P I K f sg (F f)
 globs:∀ g cs,assoc S.gs g=some cs→∀ w,I w→GlobIn w g cs
def Env.Ok (E:Env) (K:Nat):Prop:=K≤E.w0.heap.size∧∀ b,E.W b→K≤b
section
variable {P:Program} {I:World→Prop} {S:Sigs} {F:FEnv} {E:Env} {ν:Nat→DV}
structure ARel (ν:Nat→DV) (ρ:Nat→Loc) (r:RS) (a:Act):Prop where
 defers:a.defers=[]
 size:a.tmps.size=r.st.sl.length
 slot:∀ t v,nth r.st.sl t=some v→v.good ν∧a.tmps[t]? = some (v.conc ν ρ)
 gl:∀ e∈r.gl,(a.tmps[e.d]? = some (.bool e.want)→e.v.good ν∧a.tmps[e.t]? = some (e.v.conc ν ρ))∧(a.tmps[e.d]?≠some (.bool e.want)→a.tmps[e.t]? = some undef)
def zdz (ctx:Ctx) (a:Act):Prop:=∀ p∈ctx,a.tmps[p.1]? = some (.bool p.2)
theorem Ctx.has_spec:∀ {ctx:Ctx} {d:Nat} {w:Bool},ctx.has d w=true→(d,w)∈ctx
 | [],_,_,h=>by simp [Ctx.has] at h
 | (d,w)::r,d',w',h=>by
  simp only [Ctx.has,Bool.or_eq_true,Bool.and_eq_true] at h
  rcases h with ⟨h1,h2⟩ | h
  ·have:=Nat.eq_of_beq_eq_true h1;subst this
   have:=zcO h2;subst this
   simp
  ·exact List.mem_cons_of_mem _ (Ctx.has_spec h)
theorem ziW {ctx:Ctx} {t:Nat} : ∀ {l:List GE} {v:V},zmh ctx t l=some v→∃ e∈l,e.t=t∧e.v=v∧(e.d,e.want)∈ctx
 | [],v,h=>by simp [zmh] at h
 | e::r,v,h=>by
  simp only [zmh] at h
  split at h
  ·rename_i hc
   simp only [Bool.and_eq_true] at hc
   cases h
   exact ⟨e,by simp,Nat.eq_of_beq_eq_true hc.1,rfl,Ctx.has_spec hc.2⟩
  ·obtain ⟨e',h1,h2⟩:=ziW h
   exact ⟨e',List.mem_cons_of_mem _ h1,h2⟩
theorem zmw {ρ:Nat→Loc} {r:RS} {a:Act} {ctx:Ctx} (h:ARel ν ρ r a) (hc:zdz ctx a) {t:Nat} {v:V} (hv:r.slot ctx t=some v):v.good ν∧a.tmps[t]? = some (v.conc ν ρ):=by
 unfold RS.slot at hv
 split at hv
 ·cases hv;exact h.slot t _ ‹_›
 ·obtain ⟨e,he,rfl,rfl,hctx⟩:=ziW hv
  exact (h.gl e he).1 (hc (e.d,e.want) hctx)
theorem zfM {x:Value} {l:Lf} (h:zil x=some l):l.good ν∧∀ ρ,l.conc ν ρ=x:=by
 unfold zil at h
 split at h<;>first | (cases h;exact ⟨trivial,fun _=>rfl⟩) | cases h
theorem zeB {α β:Type} {f:α→Option β} : ∀ {l:List α} {r:List β},zbw f l=some r→r.length=l.length∧∀ (i:Nat) b,r[i]? = some b→∃ a,l[i]? = some a∧f a=some b
 | [],r,h=>by simp [zbw] at h;subst h;exact ⟨rfl,fun i b hb=>by simp at hb⟩
 | a::l,r,h=>by
  simp only [zbw] at h
  cases hf:f a with
  | none=>simp [hf] at h
  | some b =>
   simp only [hf] at h
   cases hr:zbw f l with
   | none=>simp [hr] at h
   | some r' =>
    simp only [hr,Option.some.injEq] at h
    subst h
    obtain ⟨h1,h2⟩:=zeB hr
    refine ⟨by simp [h1],fun i b' hb=>?_⟩
    cases i with
    | zero=>simp at hb;subst hb;exact ⟨a,rfl,hf⟩
    | succ i=>exact h2 i b' (by simpa using hb)
theorem zdU {l:List Value} {r:List Lf} (h:zbw zil l=some r):(∀ x∈r,x.good ν)∧∀ ρ,r.map (Lf.conc ν ρ)=l:=by
 obtain ⟨h1,h2⟩:=zeB h
 refine ⟨fun x hx=>?_,fun ρ=>?_⟩
 ·obtain ⟨i,hi,rfl⟩:=List.mem_iff_getElem.1 hx
  obtain ⟨a,_,ha⟩:=h2 i _ (List.getElem?_eq_getElem hi)
  exact (zfM ha).1
 ·apply List.ext_getElem?
  intro i
  by_cases hi:i<r.length
  ·obtain ⟨a,ha1,ha2⟩:=h2 i _ (List.getElem?_eq_getElem hi)
   simp [List.getElem?_eq_getElem hi,ha1,(zfM (ν:=ν) ha2).2 ρ]
  ·rw [List.getElem?_eq_none (by simpa using hi),List.getElem?_eq_none (by omega)]
theorem zmx {x:Value} {v:V1} (h:zny x=some v):v.good ν∧∀ ρ,v.conc ν ρ=x:=by
 unfold zny at h
 split at h
 ·obtain ⟨r,hr,rfl⟩:=Option.map_eq_some_iff.1 h
  have:=zdU (ν:=ν) hr
  exact ⟨V1.good_agg.2 this.1,fun ρ=>by simp [V1.conc,this.2 ρ]⟩
 ·obtain ⟨r,hr,rfl⟩:=Option.map_eq_some_iff.1 h
  have:=zfM (ν:=ν) hr
  exact ⟨V1.good_one.2 this.1,fun ρ=>this.2 ρ⟩
theorem zaj {ρ:Nat→Loc} {r:RS} {a:Act} {ctx:Ctx} (h:ARel ν ρ r a) (hc:zdz ctx a) {x:Operand} {v:V} (hv:rd r ctx x=some v):v.good ν∧a.eval x=v.conc ν ρ:=by
 cases x with
 | tmp t =>
  have:=zmw h hc (show r.slot ctx t=some v from hv)
  exact ⟨this.1,by simp [Act.eval,this.2]⟩
 | const c =>
  simp only [rd] at hv
  obtain ⟨u,hu,rfl⟩:=Option.map_eq_some_iff.1 hv
  have:=zmx (ν:=ν) hu
  exact ⟨this.1,(this.2 ρ).symm⟩
 | func f =>
  simp only [rd,Option.some.injEq] at hv
  subst hv
  exact ⟨V.good_s.2 (V1.good_one.2 (show True from trivial)),rfl⟩
 | global g =>
  simp only [rd,Option.some.injEq] at hv
  subst hv
  exact ⟨V.good_s.2 (V1.good_one.2 trivial),by simp [V.conc,V1.conc,Lf.conc,Off.val,Act.eval]⟩
structure RR (ν:Nat→DV) (E:Env) (ρ:Nat→Loc) (r:RS) (a:Act) (w:World):Prop where
 act:ARel ν ρ r a
 hs:HS E ν ρ r.st.hp w
theorem HS.of_below {ρ:Nat→Loc} {hp:List (Option Blk)} {w w':World} (h:HS E ν ρ hp w) (hb:Below w.heap.size w w'):HS E ν ρ hp w' :=
 ⟨h.heap.of_below hb,h.old.congr h.heap fun j bk hj hn _ hf=>hb.block _ ((h.heap.blk j bk hj).lt hn hf),h.fr.trans (Fr.of_below hb),h.len,h.keep⟩
theorem RR.below {ρ:Nat→Loc} {r:RS} {a:Act} {w w':World} (h:RR ν E ρ r a w) (hb:Below w.heap.size w w'):RR ν E ρ r a w':=⟨h.act,h.hs.of_below hb⟩
def zlB (P:Program) (x:Sem Next) (w:World) (v:Value):Prop :=
 x.run P w = .ok (.value v) w∨∃ f args,x.run P w = .ok (.enter f args) w∧Calls P f args w (fun e w'=>e = .returned v∧Below w.heap.size w w')
def zvU (P:Program) (x:Sem Next) (w:World) (K:Option Value→World→Prop):Prop :=
 (∃ v w',x.run P w = .ok (.value v) w'∧K (some v) w')∨(∃ w',x.run P w = .ok .skip w'∧K none w') ∨
 ∃ f args,x.run P w = .ok (.enter f args) w∧Calls P f args w (fun e w'=>∃ v,e = .returned v∧K (some v) w')
def ORok (P:Program) (I:World→Prop) (E:Env) (ν:Nat→DV) (ρ:Nat→Loc) (hp:List (Option Blk)) (x:Sem Next):OR→Prop
 | .val v=>∀ w,HS E ν ρ hp w→I w→v.good ν∧zlB P x w (v.conc ν ρ)
 | .hp v hp'=>∀ w,HS E ν ρ hp w→I w→zvU P x w fun nv w'=>∃ ρ':Nat→Loc,(∀ j,j<hp.length→ρ' j=ρ j)∧HS E ν ρ' hp' w'∧∀ u,v=some u→u.good ν∧nv=some (u.conc ν ρ')
theorem ORok.now {ρ:Nat→Loc} {hp:List (Option Blk)} {x:Sem Next} {v:V} (hg:v.good ν) (h:∀ w,HS E ν ρ hp w→x.run P w = .ok (.value (v.conc ν ρ)) w):ORok P I E ν ρ hp x (.val v) :=
 fun w hw _=>⟨hg,.inl (h w hw)⟩
theorem zgw {v:Value} (h:v.oneCell'=true):v.cells = #[v]:=by
 cases v<;>first | rfl | simp [Value.oneCell'] at h
end
end Go.Sx
namespace Go.Sx
open Go.RowKit
section
variable {P:Program} {I:World→Prop} {S:Sigs} {F:FEnv} {E:Env} {ν:Nat→DV}
theorem zmy {x y:Value} (h:vBeq x y=true):x=y:=by
 unfold vBeq at h
 split at h
 ·simp only [Bool.and_eq_true] at h
  obtain ⟨⟨⟨⟨h1,h2⟩,h3⟩,h4⟩,h5⟩:=h
  have:=Nat.eq_of_beq_eq_true h1;subst this
  rw [Array.eq_empty_of_size_eq_zero (Nat.eq_of_beq_eq_true h2),Array.eq_empty_of_size_eq_zero (Nat.eq_of_beq_eq_true h3),Array.eq_empty_of_size_eq_zero (Nat.eq_of_beq_eq_true h4),Array.eq_empty_of_size_eq_zero (Nat.eq_of_beq_eq_true h5)]
 ·rfl
 ·rfl
 ·rfl
 ·cases h
def SubL (ν:Nat→DV) (m:List Nat) (x y:Lf):Prop:=y.good ν→(∀ ρ:Nat→Loc,x.conc ν (fun j=>ρ (rnm m j))=y.conc ν ρ)∧x.good ν
theorem beqB'_eq {a b:Bool} (h:beqB' a b=true):a=b:=by cases a<;>cases b<;>simp [beqB'] at h<;>rfl
theorem zud {a b:Bool×Nat} (h:ktB a b=true):a=b:=by
 simp only [ktB,Bool.and_eq_true] at h
 exact Prod.ext (beqB'_eq h.1) (Nat.eq_of_beq_eq_true h.2)
theorem Alt.ren_conc (m:List Nat) (ρ:Nat→Loc) (x:Alt):(x.ren m).conc ρ=x.conc (fun j=>ρ (rnm m j)):=by cases x<;>rfl
theorem ze7 (m:List Nat):∀ (l:List (Nat×Alt)) (k:Nat),zaN (zg4 m l) k=(zaN l k).map (Alt.ren m)
 | [],_=>rfl
 | x::l,k=>by
  have:=ze7 m l k
  unfold zg4 at this
  simp only [zg4,List.map_cons,zaN]
  split
  ·rfl
  ·exact this
theorem zgx:∀ {l:List (Nat×Alt)} {k:Nat} {x:Alt},zaN l k=some x→(k,x)∈l
 | [],_,_,h=>by simp [zaN] at h
 | y::l,k,x,h=>by
  simp only [zaN] at h
  split at h
  ·rename_i he
   cases h
   rw [←Nat.eq_of_beq_eq_true he]
   exact List.mem_cons_self
  ·exact List.mem_cons_of_mem _ (zgx h)
theorem zp5 {l l':List (Nat×Alt)} (h:zqQ l l'=true) {k:Nat} {x:Alt} (hx:zaN l k=some x):zaN l' k=some x:=by
 have:=List.all_eq_true.1 h _ (zgx hx)
 simp only at this
 cases hy:zaN l' k with
 | none=>rw [hy] at this;cases this
 | some y=>rw [hy] at this;rw [Alt.beq_eq this]
theorem zn5 {m:List Nat} {a:A} {l:List (Nat×Alt)} {y:Lf} (h:zqR m a l y=true):SubL ν m (.alt a l) y:=by
 intro hg
 unfold zqR at h
 cases hq:zj9 y with
 | none=>rw [hq] at h;cases h
 | some q =>
  rw [hq] at h
  simp only [Bool.and_eq_true] at h
  obtain ⟨h1,h2⟩:=h
  obtain ⟨g1,z,g2,g3⟩:=zkv hq hg
  have ha:a.int ν=q.1.int ν:=by
   split at h1
   ·simp only [A.int,A.beq_den h1 ν]
   ·split at h1
    ·rename_i x hx
     have hx2:=of_decide_eq_true h1
     have:zaN q.2 (q.1.int ν).toNat=some z:=g2
     rw [hx] at this
     simp only [zaN] at this
     split at this
     ·rename_i he
      have:=Nat.eq_of_beq_eq_true he
      rw [A.int_z,hx2]
      omega
     ·cases this
    ·cases h1
   ·cases h1
  have hat:=zp5 h2 g2
  rw [ze7] at hat
  obtain ⟨u,hu,hur⟩:=Option.map_eq_some_iff.1 hat
  refine ⟨fun ρ=>?_,?_⟩
  ·rw [g3 ρ,←hur,Alt.ren_conc]
   simp only [Lf.conc,zbj,ha,hu]
  ·simp only [Lf.good,ha,hu]
   exact ⟨g1,rfl⟩
theorem Lf.sub_spec {m:List Nat} {x y:Lf} (h:x.sub m y=true):SubL ν m x y:=by
 cases x with
 | alt a l=>exact zn5 h
 | i k a =>
  cases y<;>simp [Lf.sub] at h
  obtain ⟨h1,h2⟩:=h
  have:=zb7 h1;subst this
  exact fun _=>⟨fun ρ=>by simp [Lf.conc,A.int,A.beq_den h2 ν],trivial⟩
 | b a =>
  cases y<;>simp [Lf.sub] at h
  exact fun _=>⟨fun ρ=>by simp [Lf.conc,A.bool,A.beq_den h ν],trivial⟩
 | p k off =>
  cases y<;>simp [Lf.sub] at h
  obtain ⟨rfl,h2⟩:=h
  obtain ⟨h3,h4⟩:=Off.beq_spec (ν:=ν) h2
  exact fun hg=>⟨fun ρ=>by simp [Lf.conc,h3],h4 hg⟩
 | gp g off =>
  cases y<;>simp [Lf.sub] at h
  obtain ⟨rfl,h2⟩:=h
  obtain ⟨h3,h4⟩:=Off.beq_spec (ν:=ν) h2
  exact fun hg=>⟨fun ρ=>by simp [Lf.conc,h3],h4 hg⟩
 | nilp =>
  cases y<;>simp [Lf.sub] at h
  exact fun _=>⟨fun ρ=>rfl,trivial⟩
 | vec k =>
  cases y<;>simp [Lf.sub] at h
  subst h
  exact fun _=>⟨fun ρ=>rfl,trivial⟩
 | e t a1 j1 =>
  cases y<;>simp [Lf.sub] at h
  obtain ⟨⟨h1,h2⟩,rfl⟩:=h
  have:=LT.feq_eq h1
  subst this
  refine fun _=>⟨fun ρ=>?_,trivial⟩
  cases t<;>simp only [Lf.conc,A.cells,A.beq_den h2 ν]
 | fnp f bs =>
  cases y<;>simp [Lf.sub] at h
  obtain ⟨rfl,h2⟩:=h
  rw [←ziD h2]
  exact fun _=>⟨fun ρ=>by simp only [Lf.conc];rw [zhF],trivial⟩
 | ifp t q =>
  cases y<;>simp [Lf.sub] at h
  obtain ⟨rfl,rfl⟩:=h
  exact fun _=>⟨fun ρ=>rfl,trivial⟩
 | str a =>
  cases y<;>simp [Lf.sub] at h
  exact fun _=>⟨fun ρ=>by simp only [Lf.conc,A.cells,A.beq_den h ν],trivial⟩
 | mp q =>
  cases y<;>simp [Lf.sub] at h
  subst h
  exact fun _=>⟨fun ρ=>rfl,trivial⟩
 | v x =>
  cases y<;>simp [Lf.sub] at h
  have:=zmy h;subst this
  exact fun hg=>⟨fun ρ=>rfl,hg⟩
theorem Lfs.sub_spec {m:List Nat} : ∀ {x y:List Lf},Lfs.sub m x y=true→(∀ l∈y,Lf.good ν l)→(∀ ρ:Nat→Loc,x.map (Lf.conc ν (fun j=>ρ (rnm m j)))=y.map (Lf.conc ν ρ))∧∀ l∈x,Lf.good ν l
 | [],[],_,h=>⟨fun _=>rfl,h⟩
 | x::l,y::l',h,hg=>by
  simp only [Lfs.sub,Bool.and_eq_true] at h
  obtain ⟨h1,h2⟩:=Lf.sub_spec (ν:=ν) h.1 (hg y (by simp))
  obtain ⟨h3,h4⟩:=Lfs.sub_spec h.2 (fun u hu=>hg u (List.mem_cons_of_mem _ hu))
  refine ⟨fun ρ=>by simp only [List.map_cons,h1 ρ,h3 ρ],fun z hz=>?_⟩
  rcases List.mem_cons.1 hz with rfl | hz
  ·exact h2
  ·exact h4 z hz
 | [],_::_,h,_=>by simp [Lfs.sub] at h
 | _::_,[],h,_=>by simp [Lfs.sub] at h
theorem V1.sub_spec {m:List Nat} {x y:V1} (h:x.sub m y=true) (g:y.good ν):(∀ ρ:Nat→Loc,x.conc ν (fun j=>ρ (rnm m j))=y.conc ν ρ)∧x.good ν:=by
 cases x<;>cases y<;>simp only [V1.sub] at h<;>first | cases h | skip
 ·obtain ⟨h1,h2⟩:=Lf.sub_spec (ν:=ν) h (V1.good_one.1 g)
  exact ⟨fun ρ=>h1 ρ,V1.good_one.2 h2⟩
 ·obtain ⟨h1,h2⟩:=Lfs.sub_spec (ν:=ν) h (V1.good_agg.1 g)
  exact ⟨fun ρ=>by simp only [V1.conc,h1 ρ],V1.good_agg.2 h2⟩
theorem V1s.sub_spec {m:List Nat} : ∀ {x y:List V1},V1s.sub m x y=true→(∀ l∈y,V1.good ν l)→(∀ ρ:Nat→Loc,x.map (V1.conc ν (fun j=>ρ (rnm m j)))=y.map (V1.conc ν ρ))∧∀ l∈x,V1.good ν l
 | [],[],_,h=>⟨fun _=>rfl,h⟩
 | x::l,y::l',h,hg=>by
  simp only [V1s.sub,Bool.and_eq_true] at h
  obtain ⟨h1,h2⟩:=V1.sub_spec (ν:=ν) h.1 (hg y (by simp))
  obtain ⟨h3,h4⟩:=V1s.sub_spec h.2 (fun u hu=>hg u (List.mem_cons_of_mem _ hu))
  refine ⟨fun ρ=>by simp only [List.map_cons,h1 ρ,h3 ρ],fun z hz=>?_⟩
  rcases List.mem_cons.1 hz with rfl | hz
  ·exact h2
  ·exact h4 z hz
 | [],_::_,h,_=>by simp [V1s.sub] at h
 | _::_,[],h,_=>by simp [V1s.sub] at h
theorem V.sub_spec {m:List Nat} {x y:V} (h:x.sub m y=true) (g:y.good ν):(∀ ρ:Nat→Loc,x.conc ν (fun j=>ρ (rnm m j))=y.conc ν ρ)∧x.good ν:=by
 cases x<;>cases y<;>simp only [V.sub] at h<;>first | cases h | skip
 ·exact V1.sub_spec h g
 ·obtain ⟨h1,h2⟩:=V1s.sub_spec (ν:=ν) h g
  exact ⟨fun ρ=>by simp only [V.conc,h1 ρ],h2⟩
theorem zcF {m:List Nat} : ∀ {x y:List (Option V)},zbp m x y=true→x.length=y.length∧∀ t v,nth x t=some v→∃ u,nth y t=some u∧v.sub m u=true
 | [],[],_=>⟨rfl,fun t v h=>by cases t<;>cases h⟩
 | none::l,y::l',h=>by
  simp only [zbp] at h
  obtain ⟨h1,h2⟩:=zcF h
  refine ⟨by simp [h1],fun t v ht=>?_⟩
  cases t with
  | zero=>cases ht
  | succ t=>exact h2 t v ht
 | some x::l,some y::l',h=>by
  simp only [zbp,Bool.and_eq_true] at h
  obtain ⟨h1,h2⟩:=zcF h.2
  refine ⟨by simp [h1],fun t v ht=>?_⟩
  cases t with
  | zero=>cases ht;exact ⟨y,rfl,h.1⟩
  | succ t=>exact h2 t v ht
 | [],_::_,h=>by simp [zbp] at h
 | none::_,[],h=>by simp [zbp] at h
 | some _::_,[],h=>by simp [zbp] at h
 | some _::_,none::_,h=>by simp [zbp] at h
theorem zdV {m:List Nat} : ∀ {x y:List (Option Lf)},zc1 m x y=true→∀ t v,nth x t=some v→∃ u,nth y t=some u∧v.sub m u=true
 | [],_,_,t,v,ht=>by cases t<;>cases ht
 | none::l,y,h,t,v,ht=>by
  simp only [zc1] at h
  cases t with
  | zero=>cases ht
  | succ t =>
   obtain ⟨u,h1,h2⟩:=zdV h t v ht
   refine ⟨u,?_,h2⟩
   cases y with
   | nil=>cases t<;>cases h1
   | cons y l'=>exact h1
 | some x::l,some y::l',h,t,v,ht=>by
  simp only [zc1,Bool.and_eq_true] at h
  cases t with
  | zero=>cases ht;exact ⟨y,rfl,h.1⟩
  | succ t=>exact zdV h.2 t v ht
 | some _::_,[],h,_,_,_=>by simp [zc1] at h
 | some _::_,none::_,h,_,_,_=>by simp [zc1] at h
theorem zeC:∀ {l l':List LT},zhw l l'=true→l=l'
 | [],[],_=>rfl
 | .int k::l,.int k'::l',h=>by
  simp only [zhw,Bool.and_eq_true] at h
  rw [zb7 h.1,zeC h.2]
 | .bool::l,.bool::l',h=>by
  simp only [zhw] at h
  rw [zeC h]
 | [],.int _::_,h=>by cases h
 | [],.bool::_,h=>by cases h
 | [],.vec _::_,h=>by cases h
 | .int _::_,[],h=>by cases h
 | .bool::_,[],h=>by cases h
 | .vec _::_,[],h=>by cases h
 | .int _::_,.bool::_,h=>by cases h
 | .int _::_,.vec _::_,h=>by cases h
 | .bool::_,.int _::_,h=>by cases h
 | .bool::_,.vec _::_,h=>by cases h
 | .vec _::_,.int _::_,h=>by cases h
 | .vec _::_,.bool::_,h=>by cases h
 | .vec _::_,.vec _::_,h=>by cases h
theorem LT.beq_eq:∀ {t u:LT},t.beq u=true→t=u
 | .int k,.int k',h=>by simp only [LT.beq] at h;rw [zb7 h]
 | .bool,.bool,_=>rfl
 | .vec l,.vec l',h=>by simp only [LT.beq] at h;rw [zeC h]
 | .int _,.bool,h=>by simp [LT.beq] at h
 | .int _,.vec _,h=>by simp [LT.beq] at h
 | .bool,.int _,h=>by simp [LT.beq] at h
 | .bool,.vec _,h=>by simp [LT.beq] at h
 | .vec _,.int _,h=>by simp [LT.beq] at h
 | .vec _,.bool,h=>by simp [LT.beq] at h
theorem LTs.beq_eq:∀ {t u:List LT},LTs.beq t u=true→t=u
 | [],[],_=>rfl
 | t::l,u::l',h=>by simp only [LTs.beq,Bool.and_eq_true] at h;rw [LT.beq_eq h.1,LTs.beq_eq h.2]
 | [],_::_,h=>by simp [LTs.beq] at h
 | _::_,[],h=>by simp [LTs.beq] at h
theorem MRel.sub {m:List Nat} {kt vt:Bool×Nat} {cs cs':List Lf} {ρ:Nat→Loc} {w:World} {r:Loc} (h:Lfs.sub m cs cs'=true) (hb:MRel ν ρ w r kt vt cs'):MRel ν (fun j=>ρ (rnm m j)) w r kt vt cs:=by
 obtain ⟨h1,h2⟩:=Lfs.sub_spec h hb.good
 obtain ⟨es,clock,e1,e2⟩:=hb.ents
 exact ⟨hb.nil,⟨es,clock,e1,by rw [zcK (h1 ρ)];exact e2⟩,h2⟩
theorem Blk.sub_spec {m:List Nat} {x y:Blk} (h:x.sub m y=true):(x.own=true→y.own=true) ∧
  ∀ (ρ:Nat→Loc) (w:World) (r:Loc),BlkRel E ν ρ w r y→BlkRel E ν (fun j=>ρ (rnm m j)) w r x:=by
 cases x with
 | obj o k a =>
  cases y with
  | c=>simp [Blk.sub] at h
  | v=>simp [Blk.sub] at h
  | l=>simp [Blk.sub] at h
  | m=>simp [Blk.sub] at h
  | obj o' k' a' =>
   simp only [Blk.sub,Bool.and_eq_true,Bool.or_eq_true,Bool.not_eq_true'] at h
   obtain ⟨⟨h1,h2⟩,h3⟩:=h
   have:=Nat.eq_of_beq_eq_true h2;subst this
   have ha:a.cells ν=a'.cells ν:=by simp [A.cells,A.beq_den h3 ν]
   refine ⟨fun ho=>?_,fun ρ w r hb=>?_⟩
   rotate_left
   ·show zbi o k w r (a.cells ν)
    rw [ha]
    have hb:zbi o' k w r (a'.cells ν):=hb
    refine hb.map fun _ d' hd=>?_
    rcases h1 with h1 | h1
    ·rw [h1];exact (objK _).wk hd
    ·cases o with
     | false=>exact (objK _).wk hd
     | true=>rwa [h1] at hd
   rcases h1 with h1 | h1
   ·change o=true at ho;rw [h1] at ho;cases ho
   ·exact h1
 | c o cs =>
  cases y with
  | v=>simp [Blk.sub] at h
  | obj=>simp [Blk.sub] at h
  | l=>simp [Blk.sub] at h
  | m=>simp [Blk.sub] at h
  | c o' cs' =>
   simp only [Blk.sub,Bool.and_eq_true,Bool.or_eq_true,Bool.not_eq_true'] at h
   obtain ⟨h1,h2⟩:=h
   refine ⟨fun ho=>?_,fun ρ w r hb=>?_⟩
   ·rcases h1 with h1 | h1
    ·change o=true at ho;rw [h1] at ho;cases ho
    ·exact h1.1
   ·have hb:CBlk ν ρ w r o' cs':=hb
    refine ⟨hb.nil,hb.lt,fun i l hl=>?_,fun ho i hi=>?_,fun ho o=>?_⟩
    ·obtain ⟨u,e1,e2⟩:=zdV h2 i l hl
     obtain ⟨g1,g2⟩:=hb.cell i u e1
     obtain ⟨s1,s2⟩:=Lf.sub_spec (ν:=ν) e2 g1
     exact ⟨s2,by rw [s1 ρ];exact g2⟩
    ·rcases h1 with h1 | h1
     ·rw [h1] at ho;cases ho
     ·have:=Nat.eq_of_beq_eq_true h1.2
      exact hb.own h1.1 i (by omega)
    ·rcases h1 with h1 | h1
     ·rw [h1] at ho;cases ho
     ·exact hb.fz h1.1 o
 | l o f ts a =>
  cases y with
  | c=>simp [Blk.sub] at h
  | obj=>simp [Blk.sub] at h
  | m=>simp [Blk.sub] at h
  | l o' f' ts' a' =>
   simp only [Blk.sub,Bool.and_eq_true,Bool.or_eq_true,Bool.not_eq_true'] at h
   obtain ⟨⟨⟨h1,h0⟩,h2⟩,h3⟩:=h
   have:=LTs.beq_eq h2;subst this
   have ha:a.cells ν=a'.cells ν:=by simp [A.cells,A.beq_den h3 ν]
   have himp:∀ {b b':Bool},(b=false∨b'=true)→b=true→b'=true:=fun h e=>by
    rcases h with h | h
    ·rw [h] at e;cases e
    ·exact h
   refine ⟨himp h1,fun ρ w r hb=>?_⟩
   have hb:LRel E w r o' f' ts (a'.cells ν):=hb
   show LRel E w r o f ts (a.cells ν)
   rw [ha]
   exact ⟨hb.row,fun ho=>hb.spare (himp h1 ho),fun hf=>hb.full (himp h0 hf)⟩
  | v o' ts' a' =>
   simp only [Blk.sub,Bool.and_eq_true,Bool.or_eq_true,Bool.not_eq_true'] at h
   obtain ⟨⟨⟨h1,h0⟩,h2⟩,h3⟩:=h
   have:=LTs.beq_eq h2;subst this
   have ha:a.cells ν=a'.cells ν:=by simp [A.cells,A.beq_den h3 ν]
   have himp:∀ {b b':Bool},(b=false∨b'=true)→b=true→b'=true:=fun h e=>by
    rcases h with h | h
    ·rw [h] at e;cases e
    ·exact h
   refine ⟨himp h1,fun ρ w r hb=>?_⟩
   have hb:VRel E w r o' ts (a'.cells ν):=hb
   show LRel E w r o f ts (a.cells ν)
   rw [ha]
   refine ⟨⟨hb.nil,hb.lt,hb.pos,hb.len,hb.cap,hb.cell,fun ho=>(by cases ho),fun ho=>by cases ho⟩,fun ho _=>?_,fun hf=>by rw [h0] at hf;cases hf⟩
   have:=himp h1 ho
   subst this;exact hb
 | m o kt vt cs =>
  cases y with
  | c=>simp [Blk.sub] at h
  | obj=>simp [Blk.sub] at h
  | v=>simp [Blk.sub] at h
  | l=>simp [Blk.sub] at h
  | m o' kt' vt' cs' =>
   simp only [Blk.sub,Bool.and_eq_true,Bool.or_eq_true,Bool.not_eq_true'] at h
   obtain ⟨⟨⟨h1,h2⟩,h3⟩,h5⟩:=h
   have:=zud h2;subst this
   have:=zud h3;subst this
   refine ⟨fun ho=>?_,fun ρ w r hb=>MRel.sub h5 hb⟩
   rcases h1 with h1 | h1
   ·change o=true at ho;rw [h1] at ho;cases ho
   ·exact h1
 | v o ts a =>
  cases y with
  | c=>simp [Blk.sub] at h
  | obj=>simp [Blk.sub] at h
  | m=>simp [Blk.sub] at h
  | l o' f' ts' a' =>
   simp only [Blk.sub,Bool.and_eq_true,Bool.not_eq_true'] at h
   obtain ⟨⟨h1,h2⟩,h3⟩:=h
   have:=LTs.beq_eq h2;subst this
   subst h1
   have ha:a.cells ν=a'.cells ν:=by simp [A.cells,A.beq_den h3 ν]
   refine ⟨fun ho=>(by cases ho),fun ρ w r hb=>?_⟩
   have hb:LRel E w r o' f' ts (a'.cells ν):=hb
   show VRel E w r false ts (a.cells ν)
   rw [ha]
   exact hb.row
  | v o' ts' a' =>
   simp only [Blk.sub,Bool.and_eq_true,Bool.or_eq_true,Bool.not_eq_true'] at h
   obtain ⟨⟨h1,h2⟩,h3⟩:=h
   have:=LTs.beq_eq h2;subst this
   have ha:a.cells ν=a'.cells ν:=by simp [A.cells,A.beq_den h3 ν]
   refine ⟨fun ho=>?_,fun ρ w r hb=>?_⟩
   ·rcases h1 with h1 | h1
    ·change o=true at ho;rw [h1] at ho;cases ho
    ·exact h1
   ·have hb:VRel E w r o' ts (a'.cells ν):=hb
    show VRel E w r o ts (a.cells ν)
    rw [ha]
    refine ⟨hb.nil,hb.lt,hb.pos,hb.len,hb.cap,hb.cell,fun ho=>?_,fun ho=>?_⟩
    ·rcases h1 with h1 | h1
     ·rw [h1] at ho;cases ho
     ·exact hb.own h1
    ·rcases h1 with h1 | h1
     ·rw [h1] at ho;cases ho
     ·exact hb.fz h1
theorem zbD {m:List Nat} {hp:List (Option Blk)} : ∀ {x:List (Option Blk)} {j:Nat},zcL m hp j x=true→∀ i bk,nth x i=some bk→∃ bk',nth hp (rnm m (j+i))=some bk'∧bk.sub m bk'=true
 | [],j,_,i,bk,h=>by cases i<;>cases h
 | none::l,j,hs,i,bk,h=>by
  simp only [zcL] at hs
  cases i with
  | zero=>cases h
  | succ i =>
   have:=zbD hs i bk h
   rwa [show j+1+i=j+(i+1) from by omega] at this
 | some x::l,j,hs,i,bk,h=>by
  simp only [zcL,Bool.and_eq_true] at hs
  cases i with
  | zero =>
   cases h
   cases hn:nth hp (rnm m j) with
   | none=>rw [hn] at hs;cases hs.1
   | some y =>
    rw [hn] at hs
    exact ⟨y,rfl,hs.1⟩
  | succ i =>
   have:=zbD hs.2 i bk h
   rwa [show j+1+i=j+(i+1) from by omega] at this
theorem zfN {m:List Nat} {i b:Nat} : ∀ {x:List (Option Blk)} {j:Nat},zim m i b j x=true→∀ k bk,nth x k=some bk→j+k≠i→rnm m (j+k)≠b
 | [],j,_,k,bk,h,_=>by cases k<;>cases h
 | none::l,j,hs,k,bk,h,hne=>by
  simp only [zim] at hs
  cases k with
  | zero=>cases h
  | succ k =>
   have:=zfN hs k bk h (by omega)
   rwa [show j+1+k=j+(k+1) from by omega] at this
 | some x::l,j,hs,k,bk,h,hne=>by
  simp only [zim,Bool.and_eq_true,Bool.or_eq_true,Bool.not_eq_true'] at hs
  cases k with
  | zero =>
   rcases hs.1 with h1 | h1
   ·exact absurd (Nat.eq_of_beq_eq_true h1) hne
   ·intro e
    rw [Nat.add_zero] at e
    rw [e,Nat.beq_refl] at h1
    cases h1
  | succ k =>
   have:=zfN hs.2 k bk h (by omega)
   rwa [show j+1+k=j+(k+1) from by omega] at this
theorem zfO {m:List Nat} {all:List (Option Blk)} : ∀ {x:List (Option Blk)} {j:Nat},zhx m all j x=true→∀ i bk,nth x i=some bk→bk.own=true→zim m (j+i) (rnm m (j+i)) 0 all=true
 | [],j,_,i,bk,h,_=>by cases i<;>cases h
 | none::l,j,hs,i,bk,h,ho=>by
  simp only [zhx] at hs
  cases i with
  | zero=>cases h
  | succ i =>
   have:=zfO hs i bk h ho
   rwa [show j+1+i=j+(i+1) from by omega] at this
 | some x::l,j,hs,i,bk,h,ho=>by
  simp only [zhx,Bool.and_eq_true,Bool.or_eq_true,Bool.not_eq_true'] at hs
  cases i with
  | zero =>
   cases h
   rcases hs.1 with h1 | h1
   ·rw [ho] at h1;cases h1
   ·exact h1
  | succ i =>
   have:=zfO hs.2 i bk h ho
   rwa [show j+1+i=j+(i+1) from by omega] at this
theorem zdA {m:List Nat} : ∀ {n:Nat},zg5 m n=true→∀ j,j<n→rnm m j=j
 | 0,_,j,h=>by omega
 | n+1,hk,j,h=>by
  simp only [zg5,Bool.and_eq_true] at hk
  rcases Nat.lt_or_ge j n with h1 | h1
  ·exact zdA hk.1 j h1
  ·have:j=n:=by omega
   subst this
   exact Nat.eq_of_beq_eq_true hk.2
theorem Blk.sub_foot {m:List Nat} {x y:Blk} (h:x.sub m y=true) (ho:x.own=true) {w:World} {r:Loc} {b:Nat} (hb:x.foot w r b):y.foot w r b:=by
 cases x<;>cases y<;>simp only [Blk.sub] at h<;>first | exact hb | (cases h;done) | skip
 ·simp only [Bool.and_eq_true] at h
  rename_i o _ _ _ _ _ _
  have ho:o=true:=ho
  subst ho
  cases h.1.1
 ·simp only [Bool.and_eq_true] at h;have:=Nat.eq_of_beq_eq_true h.1.2;subst this;exact hb
 ·exact hb.1
theorem Blk.sub_rfoot {m:List Nat} {x y:Blk} (h:x.sub m y=true) (w:World) (r:Loc):x.rfoot w r=y.rfoot w r:=by
 cases x<;>cases y<;>simp only [Blk.sub] at h<;>first | rfl | (cases h;done) | (simp only [Bool.and_eq_true] at h;have:=Nat.eq_of_beq_eq_true h.1.2;subst this;rfl)
theorem HRel.sub {ρ:Nat→Loc} {m:List Nat} {x y:List (Option Blk)} {w:World} (h:HRel E ν ρ y w) (h1:zcL m y 0 x=true) (h2:zhx m x 0 x=true):HRel E ν (fun j=>ρ (rnm m j)) x w:=by
 refine ⟨fun j bk hj=>?_,fun j j' bk bk' hj ho hj' hne=>?_⟩
 ·obtain ⟨bk',e1,e2⟩:=zbD h1 j bk hj
  rw [Nat.zero_add] at e1
  exact (Blk.sub_spec e2).2 ρ w _ (h.blk _ _ e1)
 ·obtain ⟨b1,e1,e2⟩:=zbD h1 j bk hj
  obtain ⟨b2,e3,e4⟩:=zbD h1 j' bk' hj'
  rw [Nat.zero_add] at e1 e3
  have h3:=zfO h2 j bk hj ho
  have h4:=zfN h3 j' bk' hj' (by omega)
  rw [Nat.zero_add,Nat.zero_add] at h4
  have:=h.apart _ _ _ _ e1 ((Blk.sub_spec (E:=E) (ν:=ν) e2).1 ho) e3 (Ne.symm h4)
  rw [←Blk.sub_rfoot e4] at this
  exact fun g1 g2 b hb=>this g1 g2 b (Blk.sub_foot e2 ho hb)
theorem OldF.sub {W V:Nat→Prop} {w0 w:World} {ρ:Nat→Loc} {m:List Nat} {x y:List (Option Blk)} (h:OldF W V w0 w ρ y) (h1:zcL m y 0 x=true):OldF W V w0 w (fun j=>ρ (rnm m j)) x:=by
 intro j bk hj
 obtain ⟨b1,e1,e2⟩:=zbD h1 j bk hj
 rw [Nat.zero_add] at e1
 rcases h _ _ e1 with h | h
 ·exact .inl h
 ·refine .inr ⟨fun ho b hb=>?_,fun b hb=>?_⟩
  ·exact h.wr ((Blk.sub_spec (E:=⟨W,V,w0,0,ρ⟩) (ν:=fun _=>default) e2).1 ho) b (Blk.sub_foot e2 ho hb)
  ·rw [Blk.sub_rfoot e2] at hb
   exact h.rd b hb
theorem RR.sub {ρ:Nat→Loc} {m:List Nat} {x y:St} {a:Act} {w:World} (h:RR ν E ρ ⟨y,[]⟩ a w) (hs:x.sub m y=true) (hk:zg5 m E.n0=true) (hl:E.n0≤x.hp.length) :
  RR ν E (fun j=>ρ (rnm m j)) ⟨x,[]⟩ a w:=by
 simp only [St.sub,Bool.and_eq_true] at hs
 obtain ⟨⟨h1,h2⟩,h3⟩:=hs
 obtain ⟨s1,s2⟩:=zcF h1
 refine ⟨⟨h.act.defers,by rw [h.act.size];exact s1.symm,fun t v ht=>?_,fun e he=>by cases he⟩,h.hs.heap.sub h2 h3,h.hs.old.sub h2,h.hs.fr,hl,fun j hj=>?_⟩
 ·obtain ⟨u,e1,e2⟩:=s2 t v ht
  obtain ⟨g1,g2⟩:=h.act.slot t u e1
  obtain ⟨c1,c2⟩:=V.sub_spec (ν:=ν) e2 g1
  exact ⟨c2,by rw [c1 ρ];exact g2⟩
 ·rw [zdA hk j hj];exact h.hs.keep j hj
end
end Go.Sx
namespace Go.Sx
open Go.RowKit
section
variable {P:Program} {I:World→Prop} {S:Sigs} {F:FEnv} {E:Env} {ν ν1 ν2:Nat→DV}
theorem zaE {α β:Type} (f:α→β):∀ (l:List (Option α)) (j:Nat),nth (l.map (Option.map f)) j=(nth l j).map f
 | [],j=>by cases j<;>rfl
 | x::l,0=>by simp [nth]
 | x::l,j+1=>by simp only [List.map_cons,nth];exact zaE f l j
theorem zam {α:Type} {q:α→Bool} : ∀ {l:List (Option α)} {i:Nat} {x:α},l.all (zao q)=true→nth l i=some x→q x=true
 | [],i,x,_,h=>by cases i<;>cases h
 | c::l,0,x,h,hx=>by
  simp only [List.all_cons,Bool.and_eq_true] at h
  cases hx
  exact h.1
 | c::l,i+1,x,h,hx=>by
  simp only [List.all_cons,Bool.and_eq_true] at h
  exact zam h.2 hx
theorem Ty.beq_eq {t u:Ty} (h:t.beq u=true):t=u:=by cases t<;>cases u<;>simp [Ty.beq] at h<;>rfl
theorem Ty.eqAt_refl (t:Ty) (d:DV):t.eqAt d d:=by cases t<;>rfl
theorem Ty.eqAt_of {t:Ty} {d e:DV} (h:d=e):t.eqAt d e:=h▸t.eqAt_refl d
theorem Ty.eqAt_trans {t:Ty} {d e f:DV} (h:t.eqAt d e) (k:t.eqAt e f):t.eqAt d f:=by cases t<;>exact Eq.trans h k
theorem Ty.eqAt_symm {t:Ty} {d e:DV} (h:t.eqAt d e):t.eqAt e d:=by cases t<;>exact Eq.symm h
def PEq (ν1 ν2:Nat→DV):List Ty→List A→List A→Prop
 | t::ts,a::as,b::bs=>t.eqAt (a.den ν1) (b.den ν2)∧PEq ν1 ν2 ts as bs
 | [],[],[]=>True
 | _,_,_=>False
theorem PEq.at:∀ {ts:List Ty} {as bs:List A} {j:Nat} {t:Ty},PEq ν1 ν2 ts as bs→ts[j]? = some t→t.eqAt ((as.getD j default).den ν1) ((bs.getD j default).den ν2)
 | _::_,_::_,_::_,0,t,h,e=>by simp at e;subst e;exact h.1
 | _::ts,_::as,_::bs,j+1,t,h,e=>by
  have:=PEq.at (j:=j) h.2 (by simpa using e)
  simpa using this
 | [],_,_,j,t,_,e=>by simp at e
 | _::_,[],_,_,_,h,_=>by exact h.elim
 | _::_,_::_,[],_,_,h,_=>by exact h.elim
theorem PEq.of_den:∀ {ts:List Ty} {as bs:List A},as.length=ts.length→as.map (A.den ν1)=bs.map (A.den ν2)→PEq ν1 ν2 ts as bs
 | [],[],[],_,_=>trivial
 | t::ts,a::as,b::bs,hl,h=>by
  simp only [List.map_cons,List.cons.injEq] at h
  exact ⟨Ty.eqAt_of h.1,PEq.of_den (by simpa using hl) h.2⟩
 | [],[],_::_,_,h=>by simp at h
 | _::_,_::_,[],_,h=>by simp at h
 | [],_::_,_,h,_=>by simp at h
 | _::_,[],_,h,_=>by simp at h
section
variable {p:A→Bool} {tys:List Ty} {as bs:List A} (hp:∀ a,p a=true→a.den ν1=a.den ν2) (h:PEq ν1 ν2 tys as bs)
include hp h
theorem A.inst_to {t:Ty} {a:A} (ha:a.tyOk p tys t=true):t.eqAt ((a.inst as).den ν1) ((a.inst bs).den ν2):=by
 cases a with
 | h j =>
  simp only [A.tyOk,Bool.and_eq_true,decide_eq_true_eq] at ha
  obtain ⟨h1,h2⟩:=ha
  rw [List.getElem?_eq_getElem h2] at h1
  have:=Ty.beq_eq (show t.beq tys[j]=true from h1)
  exact h.at (by rw [this];exact List.getElem?_eq_getElem h2)
 | r i=>exact Ty.eqAt_of (hp _ ha)
 | z n=>exact Ty.eqAt_of (hp _ ha)
 | t b=>exact Ty.eqAt_of (hp _ ha)
theorem A.inst_int {a:A} (ha:a.tyOk p tys .i=true):(a.inst bs).int ν2=(a.inst as).int ν1:=(A.inst_to hp h ha).symm
theorem A.inst_bool {a:A} (ha:a.tyOk p tys .b=true):(a.inst bs).bool ν2=(a.inst as).bool ν1:=(A.inst_to hp h ha).symm
theorem A.inst_cells {a:A} (ha:a.tyOk p tys .l=true):(a.inst bs).cells ν2=(a.inst as).cells ν1:=(A.inst_to hp h ha).symm
theorem Off.inst_to {o:Off} (ho:o.tyOk p tys=true):(o.inst bs).val ν2=(o.inst as).val ν1∧((o.inst as).good ν1→(o.inst bs).good ν2):=by
 cases o with
 | c n=>exact ⟨rfl,id⟩
 | s b ix sz len =>
  have e:=A.inst_int hp h (show ix.tyOk p tys .i=true from ho)
  exact ⟨by simp only [Off.inst,Off.val,e],by simp only [Off.inst,Off.good,e];exact id⟩
 | v b ix sz a =>
  simp only [Off.tyOk,Bool.and_eq_true] at ho
  have e:=A.inst_int hp h ho.1
  have e2:=A.inst_cells hp h ho.2
  exact ⟨by simp only [Off.inst,Off.val,e],by simp only [Off.inst,Off.good,e,e2];exact id⟩
 | d b ix sz len ix2 sz2 len2 =>
  simp only [Off.tyOk,Bool.and_eq_true] at ho
  have e:=A.inst_int hp h ho.1
  have e2:=A.inst_int hp h ho.2
  exact ⟨by simp only [Off.inst,Off.val,e,e2],by simp only [Off.inst,Off.good,e,e2];exact id⟩
 | w b ix sz a ix2 sz2 len2 =>
  simp only [Off.tyOk,Bool.and_eq_true] at ho
  have e:=A.inst_int hp h ho.1.1
  have e1:=A.inst_cells hp h ho.1.2
  have e2:=A.inst_int hp h ho.2
  exact ⟨by simp only [Off.inst,Off.val,e,e2],by simp only [Off.inst,Off.good,e,e1,e2];exact id⟩
theorem Lf.inst_to {l:Lf} (hl:l.tyOk p tys=true):(∀ ρ,(l.inst bs).conc ν2 ρ=(l.inst as).conc ν1 ρ)∧((l.inst as).good ν1→(l.inst bs).good ν2):=by
 cases l with
 | i k a=>exact ⟨fun ρ=>by simp only [Lf.inst,Lf.conc,A.inst_int hp h (show a.tyOk p tys .i=true from hl)],fun _=>trivial⟩
 | b a=>exact ⟨fun ρ=>by simp only [Lf.inst,Lf.conc,A.inst_bool hp h (show a.tyOk p tys .b=true from hl)],fun _=>trivial⟩
 | p blk off =>
  obtain ⟨e1,e2⟩:=Off.inst_to hp h (show off.tyOk p tys=true from hl)
  exact ⟨fun ρ=>by simp only [Lf.inst,Lf.conc,e1],e2⟩
 | gp g off =>
  obtain ⟨e1,e2⟩:=Off.inst_to hp h (show off.tyOk p tys=true from hl)
  exact ⟨fun ρ=>by simp only [Lf.inst,Lf.conc,e1],e2⟩
 | nilp=>exact ⟨fun _=>rfl,id⟩
 | vec b=>exact ⟨fun _=>rfl,id⟩
 | e t a j =>
  have hc:=A.inst_cells hp h (show a.tyOk p tys .l=true from hl)
  refine ⟨fun ρ=>?_,fun _=>trivial⟩
  cases t<;>simp only [Lf.inst,Lf.conc,hc]
 | fnp f bs=>exact ⟨fun _=>rfl,id⟩
 | ifp t b=>exact ⟨fun _=>rfl,id⟩
 | str a =>
  have hc:=A.inst_cells hp h (show a.tyOk p tys .l=true from hl)
  exact ⟨fun ρ=>by simp only [Lf.inst,Lf.conc,hc],fun _=>trivial⟩
 | mp b=>exact ⟨fun _=>rfl,id⟩
 | alt a l =>
  have e:=A.inst_int hp h (show a.tyOk p tys .i=true from hl)
  exact ⟨fun ρ=>by simp only [Lf.inst,Lf.conc,e],fun hg=>by simp only [Lf.inst,Lf.good,e] at hg ⊢;exact hg⟩
 | v x=>exact ⟨fun _=>rfl,id⟩
theorem Lfs.inst_to:∀ {l:List Lf},l.all (Lf.tyOk p tys)=true→(∀ ρ,(l.map (Lf.inst bs)).map (Lf.conc ν2 ρ)=(l.map (Lf.inst as)).map (Lf.conc ν1 ρ))∧((∀ x∈l.map (Lf.inst as),Lf.good ν1 x)→∀ x∈l.map (Lf.inst bs),Lf.good ν2 x)
 | [],_=>⟨fun _=>rfl,fun _ x hx=>by cases hx⟩
 | x::l,hl=>by
  simp only [List.all_cons,Bool.and_eq_true] at hl
  obtain ⟨h1,h2⟩:=Lf.inst_to hp h hl.1
  obtain ⟨h3,h4⟩:=Lfs.inst_to hl.2
  refine ⟨fun ρ=>by simp only [List.map_cons,h1 ρ,h3 ρ],fun hg z hz=>?_⟩
  simp only [List.map_cons] at hg hz
  rcases List.mem_cons.1 hz with rfl | hz
  ·exact h2 (hg _ (by simp))
  ·exact h4 (fun u hu=>hg u (List.mem_cons_of_mem _ hu)) z hz
theorem V1.inst_to {v:V1} (hv:v.tyOk p tys=true):(∀ ρ,(v.inst bs).conc ν2 ρ=(v.inst as).conc ν1 ρ)∧((v.inst as).good ν1→(v.inst bs).good ν2):=by
 cases v with
 | one l =>
  obtain ⟨h1,h2⟩:=Lf.inst_to hp h (l:=l) (by simpa [V1.tyOk,V1.cells] using hv)
  exact ⟨fun ρ=>h1 ρ,fun g=>V1.good_one.2 (h2 (V1.good_one.1 g))⟩
 | agg l =>
  obtain ⟨h1,h2⟩:=Lfs.inst_to hp h (l:=l) hv
  exact ⟨fun ρ=>by simp only [V1.inst,V1.conc,h1 ρ],fun g=>V1.good_agg.2 (h2 (V1.good_agg.1 g))⟩
theorem V1s.inst_to:∀ {l:List V1},l.all (V1.tyOk p tys)=true→(∀ ρ,(l.map (V1.inst bs)).map (V1.conc ν2 ρ)=(l.map (V1.inst as)).map (V1.conc ν1 ρ))∧((∀ x∈l.map (V1.inst as),V1.good ν1 x)→∀ x∈l.map (V1.inst bs),V1.good ν2 x)
 | [],_=>⟨fun _=>rfl,fun _ x hx=>by cases hx⟩
 | x::l,hl=>by
  simp only [List.all_cons,Bool.and_eq_true] at hl
  obtain ⟨h1,h2⟩:=V1.inst_to hp h hl.1
  obtain ⟨h3,h4⟩:=V1s.inst_to hl.2
  refine ⟨fun ρ=>by simp only [List.map_cons,h1 ρ,h3 ρ],fun hg z hz=>?_⟩
  simp only [List.map_cons] at hg hz
  rcases List.mem_cons.1 hz with rfl | hz
  ·exact h2 (hg _ (by simp))
  ·exact h4 (fun u hu=>hg u (List.mem_cons_of_mem _ hu)) z hz
theorem V.inst_to {v:V} (hv:v.tyOk p tys=true):(∀ ρ,(v.inst bs).conc ν2 ρ=(v.inst as).conc ν1 ρ)∧((v.inst as).good ν1→(v.inst bs).good ν2):=by
 cases v with
 | s v=>exact V1.inst_to hp h (v:=v) hv
 | t l =>
  obtain ⟨h1,h2⟩:=V1s.inst_to hp h (l:=l) hv
  exact ⟨fun ρ=>by simp only [V.inst,V.conc,h1 ρ],fun g=>h2 g⟩
theorem Blk.inst_to {bk:Blk} (hb:bk.tyOk p tys=true) {ρ:Nat→Loc} {w:World} {r:Loc} (hr:BlkRel E ν1 ρ w r (bk.inst as)):BlkRel E ν2 ρ w r (bk.inst bs):=by
 cases bk with
 | c o cs =>
  have hr:CBlk ν1 ρ w r o (cs.map (Option.map (Lf.inst as))):=hr
  refine (⟨hr.nil,hr.lt,fun i l hl=>?_,fun ho i hi=>hr.own ho i (by simpa using hi),hr.fz⟩:CBlk ν2 ρ w r o (cs.map (Option.map (Lf.inst bs))))
  rw [zaE] at hl
  obtain ⟨x,hx,rfl⟩:=Option.map_eq_some_iff.1 hl
  have hall:cs.all (zao (Lf.tyOk p tys))=true:=hb
  have hx2:x.tyOk p tys=true:=zam hall hx
  obtain ⟨h1,h2⟩:=Lf.inst_to hp h hx2
  obtain ⟨g1,g2⟩:=hr.cell i (x.inst as) (by rw [zaE,hx];rfl)
  exact ⟨h2 g1,by rw [h1 ρ];exact g2⟩
 | v o ts a =>
  have hr:VRel E w r o ts ((a.inst as).cells ν1):=hr
  show VRel E w r o ts ((a.inst bs).cells ν2)
  rw [A.inst_cells hp h (show a.tyOk p tys .l=true from hb)]
  exact hr
 | obj o k a =>
  have hr:zbi o k w r ((a.inst as).cells ν1):=hr
  show zbi o k w r ((a.inst bs).cells ν2)
  rw [A.inst_cells hp h (show a.tyOk p tys .l=true from hb)]
  exact hr
 | l o f ts a =>
  have hr:LRel E w r o f ts ((a.inst as).cells ν1):=hr
  show LRel E w r o f ts ((a.inst bs).cells ν2)
  rw [A.inst_cells hp h (show a.tyOk p tys .l=true from hb)]
  exact hr
 | m o kt vt cs =>
  have hr:MRel ν1 ρ w r kt vt (cs.map (Lf.inst as)):=hr
  show MRel ν2 ρ w r kt vt (cs.map (Lf.inst bs))
  obtain ⟨h1,h2⟩:=Lfs.inst_to hp h (show cs.all (Lf.tyOk p tys)=true from hb)
  obtain ⟨es,clock,e1,e2⟩:=hr.ents
  exact ⟨hr.nil,⟨es,clock,e1,by rw [zcK (h1 ρ)];exact e2⟩,h2 hr.good⟩
end
theorem Blk.inst_own (ops:List A) (bk:Blk):(bk.inst ops).own=bk.own:=by cases bk<;>rfl
theorem Blk.inst_foot (ops:List A) (bk:Blk) (w:World) (r:Loc):(bk.inst ops).foot w r=bk.foot w r:=by cases bk<;>rfl
theorem Blk.inst_shr (ops:List A) (bk:Blk):(bk.inst ops).shr=bk.shr:=by cases bk<;>rfl
theorem Blk.inst_rfoot (ops:List A) (bk:Blk) (w:World) (r:Loc):(bk.inst ops).rfoot w r=bk.rfoot w r:=by cases bk<;>rfl
section
variable {p:A→Bool} {tys:List Ty} {as bs:List A} (hp:∀ a,p a=true→a.den ν1=a.den ν2) (h:PEq ν1 ν2 tys as bs)
include hp h
theorem HRel.inst {ρ:Nat→Loc} {hp0:List (Option Blk)} {w:World} (ht:hp0.all (zao (Blk.tyOk p tys))=true) (hr:HRel E ν1 ρ (hp0.map (Option.map (Blk.inst as))) w) :
  HRel E ν2 ρ (hp0.map (Option.map (Blk.inst bs))) w:=by
 refine ⟨fun j bk hj=>?_,fun j j' bk bk' hj ho hj'=>?_⟩
 ·rw [zaE] at hj
  obtain ⟨x,hx,rfl⟩:=Option.map_eq_some_iff.1 hj
  exact Blk.inst_to hp h (zam ht hx) (hr.blk j (x.inst as) (by rw [zaE,hx];rfl))
 ·rw [zaE] at hj hj'
  obtain ⟨x,hx,rfl⟩:=Option.map_eq_some_iff.1 hj
  obtain ⟨y,hy,rfl⟩:=Option.map_eq_some_iff.1 hj'
  have:=hr.apart j j' (x.inst as) (y.inst as) (by rw [zaE,hx];rfl) (by rw [Blk.inst_own] at ho ⊢;exact ho) (by rw [zaE,hy];rfl)
  rw [Blk.inst_foot,Blk.inst_rfoot] at this ⊢
  exact this
omit hp h in
theorem OldF.inst {W V:Nat→Prop} {w0 w:World} {ρ:Nat→Loc} {hp0:List (Option Blk)} (ho:OldF W V w0 w ρ (hp0.map (Option.map (Blk.inst as)))):OldF W V w0 w ρ (hp0.map (Option.map (Blk.inst bs))):=by
 intro j bk hj
 rw [zaE] at hj
 obtain ⟨x,hx,rfl⟩:=Option.map_eq_some_iff.1 hj
 have:=ho j (x.inst as) (by rw [zaE,hx];rfl)
 rw [Blk.inst_own,Blk.inst_foot,Blk.inst_rfoot] at this ⊢
 exact this
theorem RR.inst {ρ:Nat→Loc} {s:St} {a:Act} {w:World} (ht:s.tyOk p tys=true) (hr:RR ν1 E ρ ⟨s.inst as,[]⟩ a w):RR ν2 E ρ ⟨s.inst bs,[]⟩ a w:=by
 simp only [St.tyOk,Bool.and_eq_true] at ht
 refine ⟨⟨hr.act.defers,by rw [hr.act.size];simp [St.inst],fun t v ht1=>?_,fun e he=>by cases he⟩,hr.hs.heap.inst hp h ht.2,OldF.inst hr.hs.old,hr.hs.fr,by simpa [St.inst] using hr.hs.len,hr.hs.keep⟩
 simp only [St.inst] at ht1
 rw [zaE] at ht1
 obtain ⟨x,hx,rfl⟩:=Option.map_eq_some_iff.1 ht1
 obtain ⟨h1,h2⟩:=V.inst_to hp h (zam ht.1 hx)
 obtain ⟨g1,g2⟩:=hr.act.slot t (x.inst as) (by simp only [St.inst];rw [zaE,hx];rfl)
 exact ⟨h2 g1,by rw [h1 ρ];exact g2⟩
end
end
end Go.Sx
namespace Go.Sx
open Go.RowKit
section
variable {P:Program} {I:World→Prop} {S:Sigs} {F:FEnv} {E:Env} {ν:Nat→DV}
theorem zeD {ν:Nat→DV} {fid:Nat} {args:List A} : ∀ (n j:Nat),M.sat F ν (zge fid args j n) (fun l=>l.length=n∧∀ i a,l[i]? = some a→a.den ν=(F fid (args.map (A.den ν))).getD (j+i) default)
 | 0,j=>zab ⟨rfl,fun i a h=>by simp at h⟩
 | n+1,j=>by
  unfold zge
  refine zaa (zag (Q:=fun r=>r.den ν=(F fid (args.map (A.den ν))).getD j default) fun r h=>h) fun a ha=>?_
  refine zaa (zeD n (j+1)) fun l hl=>zab ⟨by simp [hl.1],fun i b hb=>?_⟩
  cases i with
  | zero=>simp at hb;subst hb;exact ha
  | succ i =>
   have:=hl.2 i b (by simpa using hb)
   rw [this,show j+1+i=j+(i+1) from by omega]
theorem zcP {ν:Nat→DV} (g:Nat→DV):∀ (k n j:Nat),(∀ i,i<k→ν (n+i)=g (j+i))→(zal n k).map (A.den ν)=(List.range' j k).map g
 | 0,_,_,_=>rfl
 | k+1,n,j,h=>by
  rw [List.range'_succ]
  simp only [zal,List.map_cons]
  rw [zcP g k (n+1) (j+1) (fun i hi=>by have:=h (i+1) (by omega);rwa [show n+(i+1)=n+1+i from by omega,show j+(i+1)=j+1+i from by omega] at this)]
  have:=h 0 (by omega)
  simp only [Nat.add_zero] at this
  rw [show A.den ν (.r n)=ν n from rfl,this]
theorem zkw (xs:List DV) (k:Nat) (h:xs.length=k):(List.range' 0 k).map (fun i=>xs.getD i default)=xs:=by
 apply List.ext_getElem?
 intro i
 by_cases hi:i<k
 ·rw [List.getElem?_map,List.getElem?_range' (by omega)]
  simp [List.getElem?_eq_getElem (show i<xs.length from by omega)]
 ·rw [List.getElem?_eq_none (by simpa using hi),List.getElem?_eq_none (by omega)]
theorem zto (xs:List DV):(zal 0 xs.length).map (A.den (dget xs))=xs:=by
 rw [zcP (dget xs) xs.length 0 0 (fun _ _=>rfl)]
 exact zkw xs _ rfl
theorem ziX:∀ (n k:Nat),(zal n k).length=k
 | _,0=>rfl
 | n,k+1=>by simp [zal,ziX (n+1) k]
theorem zbE {ν1 ν2:Nat→DV} (a:A) (h:a.const=true):a.den ν1=a.den ν2:=by cases a<;>simp [A.const] at h<;>rfl
theorem zeE (n:Nat) (p s:St):(zdM n p s).1.length=n:=by simp [zdM,zqV]
theorem Alt.ren_spec {m:List Nat} {n:Nat} {ρ ρ':Nat→Loc} (h:∀ k,k<n→ρ' (rnm m k)=ρ k) {x:Alt} (hl:x.lt n=true):(x.ren m).conc ρ'=x.conc ρ:=by
 cases x<;>simp only [Alt.lt,decide_eq_true_eq] at hl<;>simp only [Alt.ren,Alt.conc]<;>rw [h _ hl]
theorem zmz {n:Nat} {l:List (Nat×Alt)} (h:zo5 n l=true) {k:Nat} {x:Alt} (hx:zaN l k=some x):x.lt n=true:=List.all_eq_true.1 h _ (zgx hx)
theorem zn6 {m:List Nat} {n:Nat} {ρ ρ':Nat→Loc} (h:∀ k,k<n→ρ' (rnm m k)=ρ k) {l:List (Nat×Alt)} (hl:zo5 n l=true) (k:Nat):zbj ρ' (zg4 m l) k=zbj ρ l k:=by
 unfold zbj
 rw [ze7]
 cases hx:zaN l k with
 | none=>rfl
 | some x=>exact Alt.ren_spec h (zmz hl hx)
theorem zhN {n:Nat} {ρ ρ':Nat→Loc} (h:∀ k,k<n→ρ' k=ρ k) {l:List (Nat×Alt)} (hl:zo5 n l=true) (k:Nat):zbj ρ' l k=zbj ρ l k:=by
 unfold zbj
 cases hx:zaN l k with
 | none=>rfl
 | some x =>
  have hl:=zmz hl hx
  cases x<;>simp only [Alt.lt,decide_eq_true_eq] at hl<;>simp only [Alt.conc]<;>rw [h _ hl]
theorem Lf.ren_spec {m:List Nat} {n:Nat} {ρ ρ':Nat→Loc} (h:∀ k,k<n→ρ' (rnm m k)=ρ k) {l:Lf} (hl:l.lt n=true):(l.ren m).conc ν ρ'=l.conc ν ρ∧(l.good ν→(l.ren m).good ν):=by
 cases l<;>simp only [Lf.lt,decide_eq_true_eq] at hl<;>simp only [Lf.ren]<;>first | exact ⟨rfl,id⟩ | (rename_i t _ _;cases t<;>exact ⟨rfl,id⟩) | skip
 ·exact ⟨by simp only [Lf.conc,h _ hl],id⟩
 ·exact ⟨by simp only [Lf.conc,h _ hl],id⟩
 ·rename_i f bs
  refine ⟨?_,fun _=>trivial⟩
  simp only [Lf.conc]
  rw [←zhF,zfL hl h]
 ·exact ⟨by simp only [Lf.conc,h _ hl],id⟩
 ·exact ⟨by simp only [Lf.conc,h _ hl],id⟩
 ·refine ⟨by simp only [Lf.conc];exact zn6 h hl _,fun hg=>?_⟩
  simp only [Lf.good,ze7] at hg ⊢
  exact ⟨hg.1,by rw [Option.isSome_map];exact hg.2⟩
theorem Lf.keep_spec {n:Nat} {ρ ρ':Nat→Loc} (h:∀ k,k<n→ρ' k=ρ k) {l:Lf} (hl:l.lt n=true):l.conc ν ρ'=l.conc ν ρ:=by
 cases l<;>simp only [Lf.lt,decide_eq_true_eq] at hl<;>simp only [Lf.conc]<;>first | rw [h _ hl] | rw [zfL hl h] | exact zhN h hl _ | (rename_i t _ _;cases t<;>rfl)
theorem VRel.flat {E E':Env} {w:World} {r:Loc} {o:Bool} {ts:List LT} {xs:List DV} (hf:ts.all LT.flat=true) (h:VRel E w r o ts xs):VRel E' w r o ts xs :=
 ⟨h.nil,h.lt,h.pos,h.len,h.cap,fun i hi=>let ⟨v,h1,h2⟩:=h.cell i hi;⟨v,h1,h2.flat (ziO hf _)⟩,h.own,h.fz⟩
theorem V1.ren_spec {m:List Nat} {n:Nat} {ρ ρ':Nat→Loc} (h:∀ k,k<n→ρ' (rnm m k)=ρ k) {v:V1} (hl:v.lt n=true):(v.ren m).conc ν ρ'=v.conc ν ρ∧(v.good ν→(v.ren m).good ν):=by
 cases v with
 | one l =>
  obtain ⟨h1,h2⟩:=Lf.ren_spec (ν:=ν) h (l:=l) (by simpa [V1.lt,V1.cells] using hl)
  exact ⟨h1,fun g=>V1.good_one.2 (h2 (V1.good_one.1 g))⟩
 | agg l =>
  have hall:l.all (Lf.lt n)=true:=hl
  refine ⟨?_,fun g=>V1.good_agg.2 fun x hx=>?_⟩
  ·simp only [V1.ren,V1.conc,List.map_map]
   congr 2
   exact List.map_congr_left fun x hx=>(Lf.ren_spec h (List.all_eq_true.1 hall x hx)).1
  ·obtain ⟨y,hy,rfl⟩:=List.mem_map.1 hx
   exact (Lf.ren_spec h (List.all_eq_true.1 hall y hy)).2 (V1.good_agg.1 g y hy)
theorem V.ren_spec {m:List Nat} {n:Nat} {ρ ρ':Nat→Loc} (h:∀ k,k<n→ρ' (rnm m k)=ρ k) {v:V} (hl:v.lt n=true):(v.ren m).conc ν ρ'=v.conc ν ρ∧(v.good ν→(v.ren m).good ν):=by
 cases v with
 | s v=>exact V1.ren_spec h (v:=v) hl
 | t l =>
  have hall:l.all (V1.lt n)=true:=hl
  refine ⟨?_,fun g x hx=>?_⟩
  ·simp only [V.ren,V.conc,List.map_map]
   congr 2
   exact List.map_congr_left fun x hx=>(V1.ren_spec h (List.all_eq_true.1 hall x hx)).1
  ·obtain ⟨y,hy,rfl⟩:=List.mem_map.1 hx
   exact (V1.ren_spec h (List.all_eq_true.1 hall y hy)).2 (g y hy)
theorem Blk.ren_own (m:List Nat) (b:Blk):(b.ren m).own=b.own:=by cases b<;>rfl
theorem BlkRel.flat {E E':Env} {ρ:Nat→Loc} {w:World} {r:Loc} {b:Blk} (hf:b.flat=true) (h:BlkRel E ν ρ w r b):BlkRel E' ν ρ w r b:=by
 cases b with
 | obj o k a=>exact h
 | c o cs=>exact h
 | v o ts a =>
  have h:VRel E w r o ts (a.cells ν):=h
  exact h.flat hf
 | l o f ts a =>
  have h:LRel E w r o f ts (a.cells ν):=h
  exact ⟨h.row.flat hf,fun ho hc=>(h.spare ho hc).flat hf,h.full⟩
 | m o kt vt cs=>exact h
theorem BlkRel.ren {ρ ρ':Nat→Loc} {m:List Nat} {n:Nat} (hρ:∀ k,k<n→ρ' (rnm m k)=ρ k) {w:World} {r:Loc} {b:Blk} (hl:b.lt n=true) (h:BlkRel E ν ρ w r b):BlkRel E ν ρ' w r (b.ren m):=by
 cases b with
 | obj o k a=>exact h
 | v o ts a=>exact h
 | l o f ts a=>exact h
 | m o kt vt cs =>
  have h:MRel ν ρ w r kt vt cs:=h
  have hall:cs.all (Lf.lt n)=true:=hl
  show MRel ν ρ' w r kt vt (cs.map (Lf.ren m))
  obtain ⟨es,clock,e1,e2⟩:=h.ents
  refine ⟨h.nil,⟨es,clock,e1,?_⟩,fun x hx=>?_⟩
  ·rw [zcK (cs:=cs.map (Lf.ren m)) (cs':=cs) (ν:=ν) (ν':=ν) (ρ:=ρ') (ρ':=ρ) (by
    rw [List.map_map]
    exact List.map_congr_left fun x hx=>(Lf.ren_spec hρ (List.all_eq_true.1 hall x hx)).1)]
   exact e2
  ·obtain ⟨y,hy,rfl⟩:=List.mem_map.1 hx
   exact (Lf.ren_spec hρ (List.all_eq_true.1 hall y hy)).2 (h.good y hy)
 | c o cs =>
  have h:CBlk ν ρ w r o cs:=h
  refine (⟨h.nil,h.lt,fun i l hi=>?_,fun ho i hi=>h.own ho i (by simpa using hi),h.fz⟩:CBlk ν ρ' w r o (cs.map (Option.map (Lf.ren m))))
  rw [zaE] at hi
  obtain ⟨x,hx,rfl⟩:=Option.map_eq_some_iff.1 hi
  obtain ⟨g1,g2⟩:=h.cell i x hx
  have hall:cs.all (zao (Lf.lt n))=true:=hl
  obtain ⟨e1,e2⟩:=Lf.ren_spec (ν:=ν) hρ (zam hall hx)
  exact ⟨e2 g1,by rw [e1];exact g2⟩
theorem BlkRel.keep {ρ ρ':Nat→Loc} {n:Nat} (hρ:∀ k,k<n→ρ' k=ρ k) {w:World} {r:Loc} {b:Blk} (hl:b.lt n=true) (h:BlkRel E ν ρ w r b):BlkRel E ν ρ' w r b:=by
 cases b with
 | obj o k a=>exact h
 | v o ts a=>exact h
 | l o f ts a=>exact h
 | m o kt vt cs =>
  have h:MRel ν ρ w r kt vt cs:=h
  have hall:cs.all (Lf.lt n)=true:=hl
  obtain ⟨es,clock,e1,e2⟩:=h.ents
  refine (⟨h.nil,⟨es,clock,e1,?_⟩,h.good⟩:MRel ν ρ' w r kt vt cs)
  rw [zcK (cs:=cs) (cs':=cs) (ν:=ν) (ν':=ν) (ρ:=ρ') (ρ':=ρ) (List.map_congr_left fun x hx=>Lf.keep_spec hρ (List.all_eq_true.1 hall x hx))]
  exact e2
 | c o cs =>
  have h:CBlk ν ρ w r o cs:=h
  refine (⟨h.nil,h.lt,fun i l hi=>?_,h.own,h.fz⟩:CBlk ν ρ' w r o cs)
  obtain ⟨g1,g2⟩:=h.cell i l hi
  refine ⟨g1,?_⟩
  have hall:cs.all (zao (Lf.lt n))=true:=hl
  have hll:=zam hall hi
  rw [g2,Lf.keep_spec hρ hll]
theorem BlkRel.froze {ρ:Nat→Loc} {w:World} {r:Loc} {b:Blk} (h:BlkRel E ν ρ w r b):BlkRel E ν ρ w r b.froze:=by
 cases b with
 | obj o k a=>exact zbi.map h fun _ d' hd=>(objK _).wk hd
 | c o cs =>
  have h:CBlk ν ρ w r o cs:=h
  exact ⟨h.nil,h.lt,h.cell,fun h=>(by cases h),fun h=>by cases h⟩
 | v o ts a =>
  have h:VRel E w r o ts (a.cells ν):=h
  exact ⟨h.nil,h.lt,h.pos,h.len,h.cap,h.cell,fun h=>(by cases h),fun h=>by cases h⟩
 | l o f ts a =>
  have h:LRel E w r o f ts (a.cells ν):=h
  exact ⟨h.row,fun h=>(by cases h),h.full⟩
 | m o kt vt cs=>exact h
theorem Blk.froze_own (b:Blk):b.froze.own=false:=by cases b<;>rfl
theorem Blk.froze_foot (b:Blk) (w:World) (r:Loc):b.froze.foot w r=b.foot w r:=by cases b<;>rfl
theorem Blk.froze_rfoot (b:Blk) (w:World) (r:Loc):b.froze.rfoot w r=b.rfoot w r:=by cases b<;>rfl
theorem Blk.ren_rfoot (m:List Nat) (b:Blk) (w:World) (r:Loc):(b.ren m).rfoot w r=b.rfoot w r:=by cases b<;>rfl
theorem Blk.ren_foot (m:List Nat) (b:Blk) (w:World) (r:Loc):(b.ren m).foot w r=b.foot w r:=by cases b<;>rfl
def Wk (bk b:Blk):Prop:=bk=b∨bk=b.froze
theorem Blk.froze_froze (b:Blk):b.froze.froze=b.froze:=by cases b<;>rfl
theorem Wk.trans_froze {bk b:Blk} (h:Wk bk b.froze):bk=b.froze:=by
 rcases h with h | h
 ·exact h
 ·rw [h,Blk.froze_froze]
theorem Wk.own {bk b:Blk} (h:Wk bk b) (ho:bk.own=true):b.own=true∧bk=b:=by
 rcases h with rfl | rfl
 ·exact ⟨ho,rfl⟩
 ·rw [Blk.froze_own] at ho;cases ho
theorem Wk.foot {bk b:Blk} (h:Wk bk b) (w:World) (r:Loc):bk.foot w r=b.foot w r:=by
 rcases h with rfl | rfl
 ·rfl
 ·exact Blk.froze_foot _ _ _
theorem Wk.rfoot {bk b:Blk} (h:Wk bk b) (w:World) (r:Loc):bk.rfoot w r=b.rfoot w r:=by
 rcases h with rfl | rfl
 ·rfl
 ·exact Blk.froze_rfoot _ _ _
theorem Wk.rel {ρ:Nat→Loc} {w:World} {r:Loc} {bk b:Blk} (h:Wk bk b) (hb:BlkRel E ν ρ w r b):BlkRel E ν ρ w r bk:=by
 rcases h with rfl | rfl
 ·exact hb
 ·exact hb.froze
theorem zhO {hin hout:List (Option Blk)} {m m1:List Nat} {dem:Bool} : ∀ (k j:Nat) (hp:List (Option Blk)),
  (zbR hin hout m m1 dem k j hp).length=hp.length∧∀ i bk,nth (zbR hin hout m m1 dem k j hp) i=some bk →
   (∃ j' x y,j≤j'∧j'<j+k∧nth hin j'=some x∧x.own=true∧i=rnm m j'∧stays hin j'=true∧nth hout j'=some y∧Wk bk (y.ren m1)) ∨
   (∃ b0,nth hp i=some b0∧Wk bk b0∧(∀ j' x,j≤j'→j'<j+k→nth hin j'=some x→x.own=true→i≠rnm m j') ∧
    (dem=true→bk.own=true→∀ j' x,j≤j'→j'<j+k→nth hin j'=some x→i≠rnm m j'))
 | 0,j,hp=>⟨rfl,fun i bk h=>.inr ⟨bk,h,.inl rfl,fun j' x h1 h2=>by omega,fun _ _ j' x h1 h2=>by omega⟩⟩
 | k+1,j,hp=>by
  have close:∀ (hp1:List (Option Blk)),hp1.length=hp.length→(∀ i b1,nth hp1 i=some b1 →
    (∃ x y,nth hin j=some x∧x.own=true∧i=rnm m j∧stays hin j=true∧nth hout j=some y∧Wk b1 (y.ren m1)) ∨
    (∃ b0,nth hp i=some b0∧Wk b1 b0∧(∀ x,nth hin j=some x→x.own=true→i≠rnm m j)∧(dem=true→b1.own=true→∀ x,nth hin j=some x→i≠rnm m j))) →
    (zbR hin hout m m1 dem k (j+1) hp1).length=hp.length∧∀ i bk,nth (zbR hin hout m m1 dem k (j+1) hp1) i=some bk →
   (∃ j' x y,j≤j'∧j'<j+(k+1)∧nth hin j'=some x∧x.own=true∧i=rnm m j'∧stays hin j'=true∧nth hout j'=some y∧Wk bk (y.ren m1)) ∨
   (∃ b0,nth hp i=some b0∧Wk bk b0∧(∀ j' x,j≤j'→j'<j+(k+1)→nth hin j'=some x→x.own=true→i≠rnm m j') ∧
    (dem=true→bk.own=true→∀ j' x,j≤j'→j'<j+(k+1)→nth hin j'=some x→i≠rnm m j')):=by
   intro hp1 hl h1
   obtain ⟨e1,e2⟩:=zhO k (j+1) hp1
   refine ⟨e1.trans hl,fun i bk hb=>?_⟩
   have wkt:∀ {a b c:Blk},Wk a b→Wk b c→Wk a c:=fun {a b c} h k=>by
    rcases k with rfl | rfl
    ·exact h
    ·exact .inr h.trans_froze
   rcases e2 i bk hb with ⟨j',x,y,a1,a2,a3⟩ | ⟨b1,c1,c2,c3,c4⟩
   ·exact .inl ⟨j',x,y,by omega,by omega,a3⟩
   ·rcases h1 i b1 c1 with ⟨x,y,d1,d2,d3,d4,d5,d6⟩ | ⟨b0,d1,d2,d3,d4⟩
    ·exact .inl ⟨j,x,y,Nat.le_refl _,by omega,d1,d2,d3,d4,d5,wkt c2 d6⟩
    ·refine .inr ⟨b0,d1,wkt c2 d2,fun j' x l1 l2 hx ho=>?_,fun hd ho j' x l1 l2 hx=>?_⟩
     ·rcases Nat.eq_or_lt_of_le l1 with rfl | l1
      ·exact d3 x hx ho
      ·exact c3 j' x l1 (by omega) hx ho
     ·rcases Nat.eq_or_lt_of_le l1 with rfl | l1
      ·exact d4 hd (c2.own ho).1 x hx
      ·exact c4 hd ho j' x l1 (by omega) hx
  unfold zbR
  cases hx:nth hin j with
  | none=>exact close hp rfl fun i b1 hb=>.inr ⟨b1,hb,.inl rfl,(fun x h=>by rw [hx] at h;cases h),(fun _ _ x h=>by rw [hx] at h;cases h)⟩
  | some x =>
   simp only
   split
   ·rename_i ho
    refine close _ (zai _ _ _) fun i b1 hb=>?_
    by_cases hi:rnm m j=i
    ·subst hi
     rw [zaq] at hb
     split at hb
     ·split at hb
      ·rename_i hst
       obtain ⟨y,hy,rfl⟩:=Option.map_eq_some_iff.1 hb
       exact .inl ⟨x,y,hx,ho,rfl,hst,hy,.inl rfl⟩
      ·cases hb
     ·cases hb
    ·rw [zau _ _ _ _ hi] at hb
     exact .inr ⟨b1,hb,.inl rfl,fun _ _ _ e=>hi e.symm,fun _ _ _ _ e=>hi e.symm⟩
   ·rename_i ho
    split
    ·refine close _ (zai _ _ _) fun i b1 hb=>?_
     by_cases hi:rnm m j=i
     ·subst hi
      rw [zaq] at hb
      split at hb
      ·obtain ⟨y,hy,rfl⟩:=Option.map_eq_some_iff.1 hb
       refine .inr ⟨y,hy,.inr rfl,fun x' h' ho'=>?_,fun _ ho'=>?_⟩
       ·rw [hx] at h';cases h';exact absurd ho' ho
       ·rw [Blk.froze_own] at ho';cases ho'
      ·cases hb
     ·rw [zau _ _ _ _ hi] at hb
      exact .inr ⟨b1,hb,.inl rfl,fun _ _ _ e=>hi e.symm,fun _ _ _ _ e=>hi e.symm⟩
    ·rename_i hd
     refine close _ rfl fun i b1 hb=>.inr ⟨b1,hb,.inl rfl,fun x' h' ho'=>?_,fun hd'=>absurd hd' hd⟩
     rw [hx] at h';cases h';exact absurd ho' ho
theorem zhP {hin:List (Option Blk)} {m1:List Nat} : ∀ {l:List (Option Blk)} {j i:Nat} {bk:Blk},nth (zen hin m1 j l) i=some bk→∃ y,nth l i=some y∧stays hin (j+i)=false∧bk=y.ren m1
 | [],j,i,bk,h=>by cases i<;>cases h
 | x::l,j,0,bk,h=>by
  change (if stays hin j then none else x.map (Blk.ren m1))=some bk at h
  split at h
  ·cases h
  ·rename_i hs
   obtain ⟨y,rfl,rfl⟩:=Option.map_eq_some_iff.1 h
   exact ⟨y,rfl,by simpa using hs,rfl⟩
 | x::l,j,i+1,bk,h=>by
  obtain ⟨y,h1,h2,h3⟩:=zhP (l:=l) (j:=j+1) (i:=i) h
  exact ⟨y,h1,by rwa [show j+(i+1)=j+1+i from by omega],h3⟩
theorem zfp {hin:List (Option Blk)} : ∀ {l:List (Option Blk)} {j i:Nat} {y:Blk},nth l i=some y→((y.own=false∧stays hin (j+i)=false)∨y.shr=true)→zaO hin j l=true
 | [],j,i,y,h,_=>by cases i<;>cases h
 | x::l,j,0,y,h,h1=>by
  cases h
  simp only [zaO]
  rw [Nat.add_zero] at h1
  rcases h1 with h1 | h1
  ·simp [h1.1,h1.2]
  ·simp [h1]
 | x::l,j,i+1,y,h,h1=>by
  simp only [zaO,Bool.or_eq_true]
  exact .inr (zfp (l:=l) (j:=j+1) (i:=i) h (by rwa [show j+1+i=j+(i+1) from by omega]))
theorem zp6 {hin:List (Option Blk)} {m:List Nat} {n k j:Nat} (h:j<k):rnm (zcN hin m n k) j=if stays hin j then rnm m j else n+j:=by
 unfold rnm zcN
 rw [List.getD_eq_getElem?_getD,List.getElem?_map,List.getElem?_range h]
 rfl
theorem zpn {hin:List (Option Blk)} {j:Nat} (h:stays hin j=true):∃ x,nth hin j=some x:=by
 unfold stays at h
 cases hn:nth hin j with
 | none=>rw [hn] at h;cases h
 | some x=>exact ⟨x,rfl⟩
theorem CRel.enter {E E':Env} (h0:∀ b,b<E.w0.heap.size→¬ E.W b→b<E'.w0.heap.size∧¬ E'.W b∧E'.V b∧E'.w0.heap[b]? = E.w0.heap[b]?) {t:LT} {d:DV} {v:Value} (h:CRel E t d v):CRel E' t d v:=by
 induction h with
 | int k d=>exact .int k d
 | bool d=>exact .bool d
 | vec ts d r vs hnil hlt hpos hlen hcap hv hc ih =>
  refine .vec ts d r vs hnil (fun e=>?_) hpos hlen hcap (fun i hi=>?_) ih
  ·obtain ⟨a,b,_⟩:=hlt e
   obtain ⟨c1,c2,c3,_⟩:=h0 _ a b
   exact ⟨c1,c2,c3⟩
  ·cases hn:r.nil with
   | true =>
    have:=(hnil hn).1
    rw [hlen,this,Nat.zero_mul] at hi
    omega
   | false =>
    obtain ⟨a,b,_⟩:=hlt hn
    obtain ⟨_,_,_,c3⟩:=h0 _ a b
    rw [World.cell?_of_block (w:=E.w0) c3]
    exact hv i hi
theorem VRel.enter {E E':Env} (h0:∀ b,b<E.w0.heap.size→¬ E.W b→b<E'.w0.heap.size∧¬ E'.W b∧E'.V b∧E'.w0.heap[b]? = E.w0.heap[b]?) {w:World} {r:Loc} {o:Bool} {ts:List LT} {xs:List DV} (h:VRel E w r o ts xs):VRel E' w r o ts xs :=
 ⟨h.nil,h.lt,h.pos,h.len,h.cap,fun i hi=>let ⟨v,h1,h2⟩:=h.cell i hi;⟨v,h1,h2.enter h0⟩,h.own,h.fz⟩
theorem BlkRel.enter {E E':Env} (h0:∀ b,b<E.w0.heap.size→¬ E.W b→b<E'.w0.heap.size∧¬ E'.W b∧E'.V b∧E'.w0.heap[b]? = E.w0.heap[b]?) {ρ:Nat→Loc} {w:World} {r:Loc} {b:Blk} (h:BlkRel E ν ρ w r b):BlkRel E' ν ρ w r b:=by
 cases b with
 | obj o k a=>exact h
 | c o cs=>exact h
 | v o ts a =>
  have h:VRel E w r o ts (a.cells ν):=h
  exact h.enter h0
 | l o f ts a =>
  have h:LRel E w r o f ts (a.cells ν):=h
  exact ⟨h.row.enter h0,fun ho hc=>(h.spare ho hc).enter h0,h.full⟩
 | m o kt vt cs=>exact h
end
end Go.Sx
namespace Go.Sx
open Go.RowKit
section
variable {P:Program} {I:World→Prop} {S:Sigs} {F:FEnv} {E:Env} {ν:Nat→DV}
theorem ze8 {m:List Nat} {hp x:List (Option Blk)} (h:zcL m hp 0 x=true) {j:Nat} {b:Blk} (hj:nth x j=some b):∃ b',nth hp (rnm m j)=some b'∧rnm m j<hp.length∧b.sub m b'=true:=by
 obtain ⟨b',h1,h2⟩:=zbD h j b hj
 rw [Nat.zero_add] at h1
 exact ⟨b',h1,za4 h1,h2⟩
theorem zdB (ops:List A) (hin:List (Option Blk)) (j:Nat):stays (hin.map (Option.map (Blk.inst ops))) j=stays hin j:=by
 unfold stays
 rw [zaE]
 cases nth hin j with
 | none=>rfl
 | some b=>cases b<;>rfl
theorem zie {q:Blk→Bool} (hq:∀ ops b,q (Blk.inst ops b)=q b) (ops:List A) (l:List (Option Blk)):(l.map (Option.map (Blk.inst ops))).all (zao q)=l.all (zao q):=by
 induction l with
 | nil=>rfl
 | cons x l ih =>
  simp only [List.map_cons,List.all_cons,ih]
  cases x with
  | none=>rfl
  | some b=>simp [zao,hq]
theorem Lf.inst_lt (n:Nat) (ops:List A) (l:Lf):(l.inst ops).lt n=l.lt n:=by cases l<;>rfl
theorem V1.inst_lt (n:Nat) (ops:List A) (v:V1):(v.inst ops).lt n=v.lt n:=by
 cases v with
 | one l=>simp [V1.inst,V1.lt,V1.cells,Lf.inst_lt]
 | agg l =>
  simp only [V1.inst,V1.lt,V1.cells,List.all_map]
  congr 1
  funext x
  exact Lf.inst_lt n ops x
theorem V.inst_lt (n:Nat) (ops:List A) (v:V):(v.inst ops).lt n=v.lt n:=by
 cases v with
 | s v=>exact V1.inst_lt n ops v
 | t l =>
  simp only [V.inst,V.lt,List.all_map]
  congr 1
  funext x
  exact V1.inst_lt n ops x
theorem Blk.inst_lt (n:Nat) (ops:List A) (b:Blk):(b.inst ops).lt n=b.lt n:=by
 cases b with
 | obj=>rfl
 | v o ts a=>rfl
 | l o f ts a=>rfl
 | m o kt vt cs =>
  simp only [Blk.inst,Blk.lt,List.all_map]
  congr 1
  funext x
  exact Lf.inst_lt n ops x
 | c o cs =>
  simp only [Blk.inst,Blk.lt,List.all_map]
  congr 1
  funext x
  cases x with
  | none=>rfl
  | some l=>exact Lf.inst_lt n ops l
theorem Blk.inst_flat (ops:List A) (b:Blk):(b.inst ops).flat=b.flat:=by cases b<;>rfl
theorem ziY:∀ {l l':List (Option Blk)} {j:Nat} {x y:Blk},zeo l l'=true→nth l j=some x→nth l' j=some y→stays l j=true→x.own=true →
  y.own=true∨(y.shr=false∧(∀ w r b,y.rfoot w r b↔b=r.blk)∧∀ w r b,x.foot w r b↔b=r.blk)
 | [],_,j,x,y,_,h,_,_,_=>by cases j<;>cases h
 | _::_,[],j,x,y,_,_,h,_,_=>by cases j<;>cases h
 | a::l,b::l',0,x,y,h,hx,hy,hs,ho=>by
  have hx:a=some x:=hx
  have hy:b=some y:=hy
  subst hx hy
  simp only [zeo,Bool.and_eq_true] at h
  have h:=h.1
  cases x with
  | v o ts a =>
   have ho:o=true:=ho
   subst ho
   cases y with
   | v o' ts' a'=>exact .inl (show o'=true by simpa using h)
   | c=>simp at h
   | l=>simp at h
   | m=>simp at h
   | obj=>simp at h
  | l=>simp [stays,nth] at hs
  | m=>simp [stays,nth] at hs
  | c o cs =>
   cases y with
   | l=>simp at h
   | m=>simp at h
   | c=>exact .inr ⟨rfl,fun _ _ _=>Iff.rfl,fun _ _ _=>Iff.rfl⟩
   | v=>exact .inr ⟨rfl,fun _ _ _=>Iff.rfl,fun _ _ _=>Iff.rfl⟩
   | obj=>simp at h
  | obj o k a =>
   cases y with
   | c=>simp at h
   | v=>simp at h
   | l=>simp at h
   | m=>simp at h
   | obj o' k' a' =>
    have ho:o=true:=ho
    subst ho
    simp only [Bool.not_true,Bool.false_or,Bool.and_eq_true] at h
    exact .inl h.1
 | a::l,b::l',j+1,x,y,h,hx,hy,hs,ho=>by
  have h':zeo l l'=true:=by
   cases a<;>cases b<;>simp only [zeo,Bool.and_eq_true] at h<;>first | exact h | exact h.2
  exact ziY h' hx hy hs ho
theorem HS.back {ρ ρ':Nat→Loc} {hp hin ho:List (Option Blk)} {m:List Nat} {w w':World} (h:HS E ν ρ hp w) (hs1:zcL m hp 0 hin=true)
  (hlt:hp.all (zao (Blk.lt hp.length))=true) (holt:ho.all (zao (Blk.lt ho.length))=true) (hofl:ho.all (zao Blk.flat)=true)
  (hb:HRel (callEnv hin (fun j=>ρ (rnm m j)) w) ν ρ' ho w') (hold:OldF (callEnv hin (fun j=>ρ (rnm m j)) w).W (callEnv hin (fun j=>ρ (rnm m j)) w).V w w' ρ' ho)
  (hnest:zaO hin 0 ho=true→hin.all (zao Blk.flat)=true) (hobj:zeo hin ho=true) (hfr:Fr (callEnv hin (fun j=>ρ (rnm m j)) w).W w w') (hk:∀ j,stays hin j=true→j<ho.length→ρ' j=ρ (rnm m j)) :
  (∀ k,k<ho.length→(fun i=>if i<hp.length then ρ i else ρ' (i-hp.length)) (rnm (zcN hin m hp.length ho.length) k)=ρ' k) ∧
  HS E ν (fun i=>if i<hp.length then ρ i else ρ' (i-hp.length))
   (zbR hin ho m (zcN hin m hp.length ho.length) (zaO hin 0 ho) hin.length 0 hp++zen hin (zcN hin m hp.length ho.length) 0 ho) w':=by
 generalize hm1:zcN hin m hp.length ho.length=m1
 generalize hρn:(fun i=>if i<hp.length then ρ i else ρ' (i-hp.length))=ρn
 have hN:∀ i,i<hp.length→ρn i=ρ i:=fun i hi=>by rw [←hρn];simp [hi]
 have hN2:∀ k,ρn (hp.length+k)=ρ' k:=fun k=>by rw [←hρn];simp;intro hc;omega
 have hmap:∀ k,k<ho.length→ρn (rnm m1 k)=ρ' k:=by
  intro k hk1
  rw [←hm1,zp6 hk1]
  split
  ·rename_i hst
   obtain ⟨x,hx⟩:=zpn hst
   obtain ⟨_,_,h3,_⟩:=ze8 hs1 hx
   rw [hN _ h3,hk k hst hk1]
  ·exact hN2 k
 refine ⟨hmap,?_⟩
 obtain ⟨pl,pb⟩:=zhO (hin:=hin) (hout:=ho) (m:=m) (m1:=m1) (dem:=zaO hin 0 ho) hin.length 0 hp
 generalize hA:zbR hin ho m m1 (zaO hin 0 ho) hin.length 0 hp=A0 at *
 -- what went in
 have hinAt:∀ j x,nth hin j=some x→∃ b',nth hp (rnm m j)=some b'∧rnm m j<hp.length∧(x.own=true→b'.own=true)∧(x.own=true→∀ w r b,x.foot w r b→b'.foot w r b)∧∀ w r,x.rfoot w r=b'.rfoot w r:=fun j x hx=>by
  obtain ⟨b',h1,h2,h3⟩:=ze8 hs1 hx
  exact ⟨b',h1,h2,(Blk.sub_spec (E:=E) (ν:=ν) h3).1,fun ho w r b=>Blk.sub_foot h3 ho,fun w r=>Blk.sub_rfoot h3 w r⟩
 -- which block stands at a place
 have hcase:∀ i bk,nth (A0++zen hin m1 0 ho) i=some bk →
   (∃ j x y,nth hin j=some x∧x.own=true∧i=rnm m j∧i<hp.length∧stays hin j=true∧nth ho j=some y∧Wk bk (y.ren m1)) ∨
   (∃ b0,nth hp i=some b0∧i<hp.length∧Wk bk b0∧(∀ j x,nth hin j=some x→x.own=true→i≠rnm m j)∧(zaO hin 0 ho=true→bk.own=true→∀ j x,nth hin j=some x→i≠rnm m j)) ∨
   (∃ j y,i=hp.length+j∧nth ho j=some y∧stays hin j=false∧bk=y.ren m1):=by
  intro i bk hi
  rw [zaL,pl] at hi
  split at hi
  ·rename_i hil
   rcases pb i bk hi with ⟨j,x,y,_,_,h1,h2,h3,h4,h5,h6⟩ | ⟨b0,h1,h2,h3,h4⟩
   ·exact .inl ⟨j,x,y,h1,h2,h3,hil,h4,h5,h6⟩
   ·exact .inr (.inl ⟨b0,h1,hil,h2,fun j x hx=>h3 j x (Nat.zero_le _) (by have:=za4 hx;omega) hx,fun hd hbo j x hx=>h4 hd hbo j x (Nat.zero_le _) (by have:=za4 hx;omega) hx⟩)
  ·rename_i hil
   obtain ⟨y,h1,h2,h3⟩:=zhP hi
   rw [Nat.zero_add] at h2
   exact .inr (.inr ⟨i-hp.length,y,by omega,h1,h2,h3⟩)
 -- blocks that none may write stand as they stood
 have hsame:∀ i b0,nth hp i=some b0→(∀ j x,nth hin j=some x→x.own=true→i≠rnm m j)→(ρ i).nil=false→∀ b,b0.rfoot w (ρ i) b→w'.heap[b]? = w.heap[b]?:=by
  intro i b0 h0 hne hnil b hfb
  refine hfr.block _ ((h.heap.blk i b0 h0).lt hnil hfb) ?_
  rintro ⟨j,x,hx,hxo,hxn,he⟩
  obtain ⟨b',e1,_,e2,e3,_⟩:=hinAt j x hx
  exact h.heap.apart (rnm m j) i b' b0 e1 (e2 hxo) h0 (Ne.symm (hne j x hx hxo)) hxn hnil b (e3 hxo _ _ _ he) hfb
 have hfeq:∀ i b0 bk,nth hp i=some b0→Wk bk b0→(∀ j x,nth hin j=some x→x.own=true→i≠rnm m j)→(ρ i).nil=false→∀ b,bk.foot w' (ρ i) b↔b0.foot w (ρ i) b:=fun i b0 bk h0 hwk hne hnil b=>by
  rw [hwk.foot]
  exact (h.heap.blk i b0 h0).foot_eq hnil (hsame i b0 h0 hne hnil) b
 have hrfeq:∀ i b0 bk,nth hp i=some b0→Wk bk b0→(∀ j x,nth hin j=some x→x.own=true→i≠rnm m j)→(ρ i).nil=false→∀ b,bk.rfoot w' (ρ i) b↔b0.rfoot w (ρ i) b:=fun i b0 bk h0 hwk hne hnil b=>by
  rw [hwk.rfoot]
  exact (h.heap.blk i b0 h0).rfoot_eq hnil (hsame i b0 h0 hne hnil) b
 have hrel1:∀ j y,nth ho j=some y→∀ bk,Wk bk (y.ren m1)→BlkRel E ν ρn w' (ρ' j) bk:=fun j y hy bk hwk =>
  hwk.rel (((hb.blk j y hy).flat (zam hofl hy)).ren hmap (zam holt hy))
 have hft:∀ (y bk:Blk),Wk bk (y.ren m1)→∀ w r,bk.foot w r=y.foot w r:=fun y bk hwk w r=>by rw [hwk.foot,Blk.ren_foot]
 have hrft:∀ (y bk:Blk),Wk bk (y.ren m1)→∀ w r,bk.rfoot w r=y.rfoot w r:=fun y bk hwk w r=>by rw [hwk.rfoot,Blk.ren_rfoot]
 have holdp:∀ j x,nth hin j=some x→x.own=true→(ρ (rnm m j)).nil=true∨∀ b,x.foot w (ρ (rnm m j)) b→E.w0.heap.size≤b∨E.W b:=fun j x hx hxo=>by
  obtain ⟨b',e1,_,e2,e3,_⟩:=hinAt j x hx
  rcases h.old _ _ e1 with h | h
  ·exact .inl h
  ·exact .inr fun b hfb=>h.wr (e2 hxo) b (e3 hxo _ _ _ hfb)
 -- a block that stayed as it was is looked at, and one that came back is written
 have hmixR:∀ i b0,nth hp i=some b0→(∀ j x,nth hin j=some x→x.own=true→i≠rnm m j)→∀ j y,nth ho j=some y→y.own=true →
   (ρ i).nil=false→(ρ' j).nil=false→∀ b,b0.rfoot w (ρ i) b→¬ y.foot w' (ρ' j) b:=by
  intro i b0 h0 hne j y hy hyo hn1 hn2 b hf1 hf2
  have hlt1:=(h.heap.blk i b0 h0).lt hn1 hf1
  rcases hold j y hy with h1 | h1
  ·rw [hn2] at h1;cases h1
  rcases h1.wr hyo b hf2 with h1 | h1
  ·omega
  ·obtain ⟨j0,x,hx,hxo,hxn,hxe⟩:=h1
   obtain ⟨b',e1,_,e2,e3,_⟩:=hinAt j0 x hx
   exact h.heap.apart (rnm m j0) i b' b0 e1 (e2 hxo) h0 (Ne.symm (hne j0 x hx hxo)) hxn hn1 b (e3 hxo _ _ _ hxe) hf1
 -- one that came back to its place: it may be written, or is one block
 have hcell:∀ j x y,nth hin j=some x→x.own=true→stays hin j=true→nth ho j=some y→y.own=true∨(y.shr=false∧(∀ w r b,y.rfoot w r b↔b=r.blk)∧∀ w r b,x.foot w r b↔b=r.blk):=fun j x y hx hxo hst hy =>
  ziY hobj hx hy hst hxo
 -- what one that came back looks at: new, or written by the call, or what went in
 have hlook:∀ j y,nth ho j=some y→(stays hin j=false∨y.own=true)→(ρ' j).nil=false→∀ b,y.rfoot w' (ρ' j) b →
   w.heap.size≤b∨(∃ j0 x,nth hin j0=some x∧x.own=true∧(ρ (rnm m j0)).nil=false∧x.foot w (ρ (rnm m j0)) b) ∨
   (zaO hin 0 ho=true∧((y.own=false∧stays hin j=false)∨y.shr=true)∧∃ j0 x,nth hin j0=some x∧(ρ (rnm m j0)).nil=false∧x.rfoot w (ρ (rnm m j0)) b):=by
  intro j y hy hst hn b hf
  rcases hold j y hy with h1 | h1
  ·rw [hn] at h1;cases h1
  have hgo:((y.own=false∧stays hin j=false)∨y.shr=true)∨(y.own=true∧y.shr=false):=by
   cases ho1:y.own with
   | false =>
    rcases hst with hst | hst
    ·exact .inl (.inl ⟨rfl,hst⟩)
    ·rw [ho1] at hst;cases hst
   | true =>
    cases hs:y.shr with
    | true=>exact .inl (.inr rfl)
    | false=>exact .inr ⟨rfl,rfl⟩
  rcases hgo with hgo | ⟨hyo,hys⟩
  ·have hd:zaO hin 0 ho=true:=zfp (j:=0) hy (by rwa [Nat.zero_add])
   rcases h1.rd b hf with h1 | h1 | h1
   ·exact .inl h1
   ·exact .inr (.inl h1)
   ·rcases h1 with h1 | ⟨h1,_⟩
    ·exact .inr (.inr ⟨hd,hgo,h1⟩)
    ·rw [hnest hd] at h1;cases h1
  ·rcases h1.wr hyo b ((hb.blk j y hy).ex hn hyo hys hf) with h1 | h1
   ·exact .inl h1
   ·exact .inr (.inl h1)
 -- a block that stayed as it was is written, and one that came back is looked at
 have hmixW:∀ i b0 bk,nth hp i=some b0→Wk bk b0→(∀ j x,nth hin j=some x→x.own=true→i≠rnm m j) →
   (zaO hin 0 ho=true→bk.own=true→∀ j x,nth hin j=some x→i≠rnm m j)→∀ j y,nth ho j=some y→(stays hin j=false∨y.own=true)→bk.own=true →
   (ρ i).nil=false→(ρ' j).nil=false→∀ b,b0.foot w (ρ i) b→¬ y.rfoot w' (ρ' j) b:=by
  intro i b0 bk h0 hwk hne hdem j y hy hst hbo hn1 hn2 b hf1 hf2
  have hlt1:=(h.heap.blk i b0 h0).lt hn1 ((h.heap.blk i b0 h0).rd hn1 hf1)
  rcases hlook j y hy hst hn2 b hf2 with h1 | ⟨j0,x,hx,hxo,hxn,hxe⟩ | ⟨hd,_,j0,x,hx,hxn,hxe⟩
  ·omega
  ·obtain ⟨b',e1,_,e2,e3,_⟩:=hinAt j0 x hx
   exact h.heap.apart (rnm m j0) i b' b0 e1 (e2 hxo) h0 (Ne.symm (hne j0 x hx hxo)) hxn hn1 b (e3 hxo _ _ _ hxe) ((h.heap.blk i b0 h0).rd hn1 hf1)
  ·obtain ⟨b',e1,_,_,_,e3⟩:=hinAt j0 x hx
   rw [e3] at hxe
   exact h.heap.apart i (rnm m j0) b0 b' h0 (hwk.own hbo).1 e1 (hdem hd hbo j0 x hx) hn1 hxn b hf1 hxe
 refine ⟨⟨fun i bk hi=>?_,fun i i' bk bk' hi hbo hi' hne hn1 hn2 b hf1 hf2=>?_⟩,fun i bk hi=>?_,?_,?_,?_⟩
 ·rcases hcase i bk hi with ⟨j,x,y,h1,h2,h3,h4,h5,h6,h7⟩ | ⟨b0,h1,h2,h3,h4,h5⟩ | ⟨j,y,h1,h2,h3,h4⟩
  ·rw [hN i h4,h3,←hk j h5 (za4 h6)]
   exact hrel1 j y h6 bk h7
  ·rw [hN i h2]
   refine h3.rel (((h.heap.blk i b0 h1).of_block hfr.size (hsame i b0 h1 h4)).keep (fun k hk=>hN k hk) (zam hlt h1))
  ·rw [h1,hN2 j]
   exact hrel1 j y h2 bk (.inl h4)
 ·rcases hcase i bk hi with ⟨j,x,y,a1,a2,a3,a4,a5,a6,a7⟩ | ⟨b0,a1,a2,a3,a4,a5⟩ | ⟨j,y,a1,a2,a3,a4⟩
  ·have hyo:y.own=true:=by have:=(a7.own hbo).1;rwa [Blk.ren_own] at this
   have e1:ρn i=ρ' j:=by rw [hN i a4,a3,hk j a5 (za4 a6)]
   rw [e1] at hn1 hf1
   rw [hft y bk a7] at hf1
   rcases hcase i' bk' hi' with ⟨j',x',y',b1,b2,b3,b4,b5,b6,b7⟩ | ⟨b0',b1,b2,b3,b4,b5⟩ | ⟨j',y',b1,b2,b3,b4⟩
   ·have e2:ρn i'=ρ' j':=by rw [hN i' b4,b3,hk j' b5 (za4 b6)]
    rw [e2] at hn2 hf2
    rw [hrft y' bk' b7] at hf2
    exact hb.apart j j' y y' a6 hyo b6 (fun e=>hne (by rw [a3,b3,e])) hn1 hn2 b hf1 hf2
   ·rw [hN i' b2] at hn2 hf2
    exact hmixR i' b0' b1 b4 j y a6 hyo hn2 hn1 b ((hrfeq i' b0' bk' b1 b3 b4 hn2 b).1 hf2) hf1
   ·rw [b1,hN2 j'] at hn2 hf2
    rw [b4,Blk.ren_rfoot] at hf2
    exact hb.apart j j' y y' a6 hyo b2 (fun e=>by rw [←e,a5] at b3;cases b3) hn1 hn2 b hf1 hf2
  ·rw [hN i a2] at hn1 hf1
   have hf1':=(hfeq i b0 bk a1 a3 a4 hn1 b).1 hf1
   rcases hcase i' bk' hi' with ⟨j',x',y',b1,b2,b3,b4,b5,b6,b7⟩ | ⟨b0',b1,b2,b3,b4,b5⟩ | ⟨j',y',b1,b2,b3,b4⟩
   ·have e2:ρn i'=ρ' j':=by rw [hN i' b4,b3,hk j' b5 (za4 b6)]
    rw [e2] at hn2 hf2
    rw [hrft y' bk' b7] at hf2
    rcases hcell j' x' y' b1 b2 b5 b6 with c1 | ⟨_,c1,c2⟩
    ·exact hmixW i b0 bk a1 a3 a4 a5 j' y' b6 (.inr c1) hbo hn1 hn2 b hf1' hf2
    ·have hbb:=(c1 _ _ _).1 hf2
     rw [hk j' b5 (za4 b6)] at hbb hn2
     obtain ⟨b',e3,_,e4,e5,_⟩:=hinAt j' x' b1
     exact h.heap.apart i (rnm m j') b0 b' a1 (a3.own hbo).1 e3 (a4 j' x' b1 b2) hn1 hn2 b hf1' ((h.heap.blk _ _ e3).rd hn2 (e5 b2 _ _ _ ((c2 _ _ _).2 hbb)))
   ·rw [hN i' b2] at hn2 hf2
    exact h.heap.apart i i' b0 b0' a1 (a3.own hbo).1 b1 hne hn1 hn2 b hf1' ((hrfeq i' b0' bk' b1 b3 b4 hn2 b).1 hf2)
   ·rw [b1,hN2 j'] at hn2 hf2
    rw [b4,Blk.ren_rfoot] at hf2
    exact hmixW i b0 bk a1 a3 a4 a5 j' y' b2 (.inl b3) hbo hn1 hn2 b hf1' hf2
  ·have hyo:y.own=true:=by rw [a4,Blk.ren_own] at hbo;exact hbo
   rw [a1,hN2 j] at hn1 hf1
   rw [a4,Blk.ren_foot] at hf1
   rcases hcase i' bk' hi' with ⟨j',x',y',b1,b2,b3,b4,b5,b6,b7⟩ | ⟨b0',b1,b2,b3,b4,b5⟩ | ⟨j',y',b1,b2,b3,b4⟩
   ·have e2:ρn i'=ρ' j':=by rw [hN i' b4,b3,hk j' b5 (za4 b6)]
    rw [e2] at hn2 hf2
    rw [hrft y' bk' b7] at hf2
    exact hb.apart j j' y y' a2 hyo b6 (fun e=>by rw [e,b5] at a3;cases a3) hn1 hn2 b hf1 hf2
   ·rw [hN i' b2] at hn2 hf2
    exact hmixR i' b0' b1 b4 j y a2 hyo hn2 hn1 b ((hrfeq i' b0' bk' b1 b3 b4 hn2 b).1 hf2) hf1
   ·rw [b1,hN2 j'] at hn2 hf2
    rw [b4,Blk.ren_rfoot] at hf2
    exact hb.apart j j' y y' a2 hyo b2 (fun e=>hne (by rw [a1,b1,e])) hn1 hn2 b hf1 hf2
 ·-- what was old
  have hnewW:∀ j y,nth ho j=some y→y.own=true→(ρ' j).nil=false→∀ b,y.foot w' (ρ' j) b→E.w0.heap.size≤b∨E.W b:=by
   intro j y hy hyo hn b hf
   rcases hold j y hy with h1 | h1
   ·rw [hn] at h1;cases h1
   rcases h1.wr hyo b hf with h1 | h1
   ·exact .inl (Nat.le_trans h.fr.size h1)
   ·obtain ⟨j0,x,hx,hxo,hxn,hxe⟩:=h1
    rcases holdp j0 x hx hxo with h | h
    ·change (ρ (rnm m j0)).nil=false at hxn
     rw [hxn] at h;cases h
    ·exact h b hxe
  have hnewR:∀ j y,nth ho j=some y→(stays hin j=false∨y.own=true)→(ρ' j).nil=false→∀ b,y.rfoot w' (ρ' j) b→E.w0.heap.size≤b∨E.W b∨E.V b:=by
   intro j y hy hst hn b hf
   rcases hlook j y hy hst hn b hf with h1 | ⟨j0,x,hx,hxo,hxn,hxe⟩ | ⟨_,_,j0,x,hx,hxn,hxe⟩
   ·exact .inl (Nat.le_trans h.fr.size h1)
   ·rcases holdp j0 x hx hxo with h | h
    ·rw [hxn] at h;cases h
    ·rcases h b hxe with h | h
     ·exact .inl h
     ·exact .inr (.inl h)
   ·obtain ⟨b',e1,_,_,_,e3⟩:=hinAt j0 x hx
    rw [e3] at hxe
    rcases h.old _ _ e1 with h | h
    ·rw [hxn] at h;cases h
    ·exact h.rd b hxe
  rcases hcase i bk hi with ⟨j,x,y,a1,a2,a3,a4,a5,a6,a7⟩ | ⟨b0,a1,a2,a3,a4,a5⟩ | ⟨j,y,a1,a2,a3,a4⟩
  ·have e1:ρn i=ρ' j:=by rw [hN i a4,a3,hk j a5 (za4 a6)]
   rw [e1]
   cases hn:(ρ' j).nil with
   | true=>exact .inl rfl
   | false =>
    refine .inr ⟨fun o b hf=>?_,fun b hf=>?_⟩
    ·rw [hft y bk a7] at hf
     have hyo:y.own=true:=by have:=(a7.own o).1;rwa [Blk.ren_own] at this
     exact hnewW j y a6 hyo hn b hf
    ·rw [hrft y bk a7] at hf
     rcases hcell j x y a1 a2 a5 a6 with c1 | ⟨_,c1,c2⟩
     ·exact hnewR j y a6 (.inr c1) hn b hf
     ·have hbb:=(c1 _ _ _).1 hf
      rw [hk j a5 (za4 a6)] at hbb hn
      rcases holdp j x a1 a2 with h | h
      ·rw [hn] at h;cases h
      ·rcases h b ((c2 _ _ _).2 hbb) with h | h
       ·exact .inl h
       ·exact .inr (.inl h)
  ·rw [hN i a2]
   cases hn:(ρ i).nil with
   | true=>exact .inl rfl
   | false =>
    rcases h.old i b0 a1 with h | h
    ·rw [hn] at h;cases h
    ·exact .inr ⟨fun o b hf=>h.wr (a3.own o).1 b ((hfeq i b0 bk a1 a3 a4 hn b).1 hf),fun b hf=>h.rd b ((hrfeq i b0 bk a1 a3 a4 hn b).1 hf)⟩
  ·rw [a1,hN2 j]
   cases hn:(ρ' j).nil with
   | true=>exact .inl rfl
   | false =>
    refine .inr ⟨fun o b hf=>?_,fun b hf=>?_⟩
    ·rw [a4,Blk.ren_foot] at hf
     rw [a4,Blk.ren_own] at o
     exact hnewW j y a2 o hn b hf
    ·rw [a4,Blk.ren_rfoot] at hf
     exact hnewR j y a2 (.inl a3) hn b hf
 ·refine ⟨hfr.os.trans h.fr.os,hfr.tape.trans h.fr.tape,hfr.output.trans h.fr.output,Nat.le_trans h.fr.size hfr.size,fun b hbl hnW=>?_⟩
  rw [hfr.block b (Nat.lt_of_lt_of_le hbl h.fr.size) ?_,h.fr.block b hbl hnW]
  rintro ⟨j,x,hx,hxo,hxn,hxe⟩
  rcases holdp j x hx hxo with h1 | h1
  ·change (ρ (rnm m j)).nil=false at hxn
   rw [hxn] at h1;cases h1
  ·rcases h1 b hxe with h1 | h1
   ·omega
   ·exact hnW h1
 ·rw [List.length_append,pl]
  have:=h.len
  omega
 ·intro j hj
  rw [hN j (by have:=h.len;omega)]
  exact h.keep j hj
end
end Go.Sx
namespace Go.Sx
open Go.RowKit
section
variable {P:Program} {I:World→Prop} {S:Sigs} {F:FEnv} {E:Env} {ν:Nat→DV}
theorem V.easy_good {v:V} (h:v.easy=true):v.good ν:=by
 have h1:∀ l:Lf,l.easy=true→l.good ν:=fun l hl=>by
  cases l with
  | p b off=>cases off<;>first | trivial | cases hl
  | gp b off=>cases off<;>first | trivial | cases hl
  | _=>trivial
 have h2:∀ v:V1,v.cells.all Lf.easy=true→v.good ν:=fun v hv l hl=>h1 l (List.all_eq_true.1 hv l hl)
 cases v with
 | s v=>exact h2 v h
 | t l=>exact fun v hv=>h2 v (List.all_eq_true.1 h v hv)
theorem Lf.inst_easy (ops:List A) (l:Lf):(l.inst ops).easy=l.easy:=by
 cases l with
 | p b off=>cases off<;>rfl
 | gp b off=>cases off<;>rfl
 | _=>rfl
theorem V1.inst_easy (ops:List A) (v:V1):(v.inst ops).cells.all Lf.easy=v.cells.all Lf.easy:=by
 cases v with
 | one l=>simp [V1.inst,V1.cells,Lf.inst_easy]
 | agg l =>
  simp only [V1.inst,V1.cells,List.all_map]
  congr 1
  funext x
  exact Lf.inst_easy ops x
theorem V.inst_easy (ops:List A) (v:V):(v.inst ops).easy=v.easy:=by
 cases v with
 | s v=>exact V1.inst_easy ops v
 | t l =>
  simp only [V.inst,V.easy,List.all_map]
  congr 1
  funext x
  exact V1.inst_easy ops x
theorem zmA {hin:List (Option Blk)} (as bs:List A) (ρ:Nat→Loc) (w:World):callEnv (hin.map (Option.map (Blk.inst as))) ρ w=callEnv (hin.map (Option.map (Blk.inst bs))) ρ w:=by
 have key:∀ (as bs:List A) (b:Nat),(∃ j bk,nth (hin.map (Option.map (Blk.inst as))) j=some bk∧bk.own=true∧(ρ j).nil=false∧bk.foot w (ρ j) b) →
   ∃ j bk,nth (hin.map (Option.map (Blk.inst bs))) j=some bk∧bk.own=true∧(ρ j).nil=false∧bk.foot w (ρ j) b:=by
  rintro as bs b ⟨j,bk,h1,h2,h3,h4⟩
  rw [zaE] at h1
  obtain ⟨y,hy,rfl⟩:=Option.map_eq_some_iff.1 h1
  exact ⟨j,y.inst bs,by rw [zaE,hy];rfl,by rw [Blk.inst_own] at h2 ⊢;exact h2,h3,by rw [Blk.inst_foot] at h4 ⊢;exact h4⟩
 have keyR:∀ (as bs:List A) (b:Nat),(∃ j bk,nth (hin.map (Option.map (Blk.inst as))) j=some bk∧(ρ j).nil=false∧bk.rfoot w (ρ j) b) →
   ∃ j bk,nth (hin.map (Option.map (Blk.inst bs))) j=some bk∧(ρ j).nil=false∧bk.rfoot w (ρ j) b:=by
  rintro as bs b ⟨j,bk,h1,h3,h4⟩
  rw [zaE] at h1
  obtain ⟨y,hy,rfl⟩:=Option.map_eq_some_iff.1 h1
  exact ⟨j,y.inst bs,by rw [zaE,hy];rfl,h3,by rw [Blk.inst_rfoot] at h4 ⊢;exact h4⟩
 unfold callEnv
 congr 1
 ·funext b
  exact propext ⟨key _ _ b,key _ _ b⟩
 ·funext b
  have hf:(hin.map (Option.map (Blk.inst as))).all (zao Blk.flat)=(hin.map (Option.map (Blk.inst bs))).all (zao Blk.flat):=by
   have:∀ (as:List A) (l:List (Option Blk)),(l.map (Option.map (Blk.inst as))).all (zao Blk.flat)=l.all (zao Blk.flat):=fun as l=>zie (fun ops b=>Blk.inst_flat ops b) as l
   rw [this,this]
  have key2:∀ (as bs:List A),(hin.map (Option.map (Blk.inst as))).all (zao Blk.flat)=(hin.map (Option.map (Blk.inst bs))).all (zao Blk.flat) →
    ((∃ j bk,nth (hin.map (Option.map (Blk.inst as))) j=some bk∧(ρ j).nil=false∧bk.rfoot w (ρ j) b)∨((hin.map (Option.map (Blk.inst as))).all (zao Blk.flat)=false∧b<w.heap.size∧¬ ∃ j bk,nth (hin.map (Option.map (Blk.inst as))) j=some bk∧bk.own=true∧(ρ j).nil=false∧bk.foot w (ρ j) b)) →
    (∃ j bk,nth (hin.map (Option.map (Blk.inst bs))) j=some bk∧(ρ j).nil=false∧bk.rfoot w (ρ j) b)∨((hin.map (Option.map (Blk.inst bs))).all (zao Blk.flat)=false∧b<w.heap.size∧¬ ∃ j bk,nth (hin.map (Option.map (Blk.inst bs))) j=some bk∧bk.own=true∧(ρ j).nil=false∧bk.foot w (ρ j) b):=by
   intro as bs hf h
   rcases h with h | ⟨h1,h2,h3⟩
   ·exact .inl (keyR as bs b h)
   ·exact .inr ⟨by rw [←hf];exact h1,h2,fun h=>h3 (key bs as b h)⟩
  exact propext ⟨key2 as bs hf,key2 bs as hf.symm⟩
 ·simp
theorem V.conc_lt0 {v:V} (h:v.lt 0=true) (ρ ρ':Nat→Loc):v.conc ν ρ=v.conc ν ρ':=by
 have h1:∀ l:Lf,l.lt 0=true→l.conc ν ρ=l.conc ν ρ':=fun l hl=>by
  cases l<;>simp only [Lf.lt,decide_eq_true_eq] at hl<;>first | rfl | omega | (rename_i t _ _;cases t<;>rfl) | exact zhN (n:=0) (fun k hk=>by omega) hl _ | (simp only [Lf.conc];rw [zfL hl (fun k hk=>by omega)])
 have h2:∀ v:V1,v.lt 0=true→v.conc ν ρ=v.conc ν ρ':=fun v hv=>by
  cases v with
  | one l=>exact h1 l (by simpa [V1.lt,V1.cells] using hv)
  | agg l =>
   simp only [V1.conc]
   congr 2
   exact List.map_congr_left fun x hx=>h1 x (List.all_eq_true.1 hv x hx)
 cases v with
 | s v=>exact h2 v h
 | t l =>
  simp only [V.conc]
  congr 2
  exact List.map_congr_left fun x hx=>h2 x (List.all_eq_true.1 h x hx)
theorem zfq {m:List Nat} : ∀ {x y:List V},zbp m (x.map some) (y.map some)=true→(∀ v∈y,V.good ν v)→(∀ ρ:Nat→Loc,x.map (V.conc ν (fun j=>ρ (rnm m j)))=y.map (V.conc ν ρ))∧∀ v∈x,V.good ν v
 | [],[],_,h=>⟨fun _=>rfl,h⟩
 | x::l,y::l',h,hg=>by
  simp only [List.map_cons,zbp,Bool.and_eq_true] at h
  obtain ⟨h1,h2⟩:=V.sub_spec (ν:=ν) h.1 (hg y (by simp))
  obtain ⟨h3,h4⟩:=zfq h.2 (fun u hu=>hg u (List.mem_cons_of_mem _ hu))
  refine ⟨fun ρ=>by simp only [List.map_cons,h1 ρ,h3 ρ],fun z hz=>?_⟩
  rcases List.mem_cons.1 hz with rfl | hz
  ·exact h2
  ·exact h4 z hz
 | [],_::_,h,_=>by simp [zbp] at h
 | _::_,[],h,_=>by simp [zbp] at h
theorem Vs.inst_to {ν1 ν2:Nat→DV} {p:A→Bool} {tys:List Ty} {as bs:List A} (hp:∀ a,p a=true→a.den ν1=a.den ν2) (h:PEq ν1 ν2 tys as bs):∀ {l:List V},l.all (V.tyOk p tys)=true →
  (∀ ρ,(l.map (V.inst bs)).map (V.conc ν2 ρ)=(l.map (V.inst as)).map (V.conc ν1 ρ))∧((∀ x∈l.map (V.inst as),V.good ν1 x)→∀ x∈l.map (V.inst bs),V.good ν2 x)
 | [],_=>⟨fun _=>rfl,fun _ x hx=>by cases hx⟩
 | x::l,hl=>by
  simp only [List.all_cons,Bool.and_eq_true] at hl
  obtain ⟨h1,h2⟩:=V.inst_to hp h hl.1
  obtain ⟨h3,h4⟩:=Vs.inst_to hp h hl.2
  refine ⟨fun ρ=>by simp only [List.map_cons,h1 ρ,h3 ρ],fun hg z hz=>?_⟩
  simp only [List.map_cons] at hg hz
  rcases List.mem_cons.1 hz with rfl | hz
  ·exact h2 (hg _ (by simp))
  ·exact h4 (fun u hu=>hg u (List.mem_cons_of_mem _ hu)) z hz
def zeh (P:Program) (E:Env) (ν:Nat→DV) (f:FuncId) (vs:List V) (hp:List (Option Blk)) (ρ:Nat→Loc) (w:World):OR→Prop
 | .val v=>v.good ν∧Calls P f (vs.map (V.conc ν ρ)).toArray w (fun e w'=>e = .returned (v.conc ν ρ)∧Below w.heap.size w w')
 | .hp v hp'=>Calls P f (vs.map (V.conc ν ρ)).toArray w (fun e w'=>∃ x,e = .returned x∧∃ ρ':Nat→Loc,(∀ j,j<hp.length→ρ' j=ρ j)∧HS E ν ρ' hp' w'∧∀ u,v=some u→u.good ν∧x=u.conc ν ρ')
theorem ziZ (as bs:List A):∀ l l':List (Option Blk),zeo (l.map (Option.map (Blk.inst as))) (l'.map (Option.map (Blk.inst bs)))=zeo l l'
 | [],_=>by cases ‹List (Option Blk)›<;>rfl
 | x::l,[]=>by cases x<;>rfl
 | x::l,y::l'=>by
  have ih:=ziZ as bs l l'
  cases x with
  | none=>exact ih
  | some x =>
   cases y with
   | none=>exact ih
   | some y=>cases x<;>cases y<;>simp only [List.map_cons,Option.map_some,zeo,Blk.inst,ih]
theorem zkx {K:Nat} (hS:SigsOK P I K S F) (hE:E.Ok K) {f:FuncId} {vs:List V} {hp:List (Option Blk)} : M.sat F ν (zmi P S f vs hp) (fun res=>∀ ρ w,(∀ v∈vs,V.good ν v)→HS E ν ρ hp w→I w →
  (callFunc f (vs.map (V.conc ν ρ)).toArray).run P w = .ok (.enter f (vs.map (V.conc ν ρ)).toArray) w∧zeh P E ν f vs hp ρ w res):=by
 unfold zmi
 refine zaa (zad (Q:=fun sg=>S.get f=some sg) fun a h=>h) fun sg hsg=>?_
 have hfn:=hS.fns f sg hsg
 dsimp only
 generalize hg:zdM sg.nin ⟨sg.ins.map some,sg.hin⟩ ⟨vs.map some,hp⟩=g
 have hgl:g.1.length=sg.its.length:=by rw [←hg];exact zeE _ _ _
 refine zae (fun hok=>?_) (fun _=>zac)
 simp only [Bool.and_eq_true] at hok
 obtain ⟨⟨⟨⟨⟨hcal,hsub⟩,hsgok⟩,hplt⟩,hnest⟩,hobj⟩:=hok
 simp only [St.sub,Bool.and_eq_true,St.inst] at hsub
 obtain ⟨⟨hs1,hs2⟩,hs3⟩:=hsub
 simp only [Sig.ok,Bool.and_eq_true] at hsgok
 obtain ⟨⟨⟨⟨⟨⟨⟨k1,k2⟩,k3⟩,k4⟩,k5⟩,k6⟩,k7⟩,k8⟩:=hsgok
 have hs1':zbp g.2 ((sg.ins.map (V.inst g.1)).map some) (vs.map some)=true:=by
  have:(sg.ins.map some).map (Option.map (V.inst g.1))=(sg.ins.map (V.inst g.1)).map some:=by simp [List.map_map,Function.comp_def]
  rw [←this];exact hs1
 have hboth:=zfq (ν:=ν) hs1'
 have henter:∀ (args:Array Value) (w:World),(callFunc f args).run P w = .ok (.enter f args) w:=fun args w=>by
  unfold zo6 at hcal
  cases hf:P.funcs[f]? with
  | none=>simp [hf] at hcal
  | some fn =>
   simp only [hf,Bool.and_eq_true,Bool.not_eq_true',beq_eq_false_iff_ne] at hcal
   obtain ⟨h1,h2⟩:=hcal
   obtain ⟨bd,hb⟩:=Option.isSome_iff_exists.1 h2
   simp [callFunc,hf,h1,hb]
 -- the values that go in
 generalize hds:g.1.map (A.den ν)=ds
 have hdl:ds.length=sg.its.length:=by rw [←hds];simpa using hgl
 have hpe:PEq ν (dget ds) sg.its g.1 (zal 0 sg.nin):=by
  refine PEq.of_den hgl ?_
  rw [hds]
  have:=zto ds
  rw [hdl] at this
  exact this.symm
 obtain ⟨hva,hvg⟩:=Vs.inst_to zbE hpe k1
 refine zaa (R:=fun j0=>j0=(if sg.need then 1 else 0)∧(sg.need=true→(dget (F f ds) 0).toB=true)) ?_ fun j0 hj0=>?_
 ·refine zae (fun hn=>?_) (fun hn=>zab ⟨by simp [hn],fun h=>absurd h hn⟩)
  refine zaa (zag (Q:=fun r=>r.den ν=(F f (g.1.map (A.den ν))).getD 0 default) fun r h=>h) fun r hr=>?_
  refine zaa (zbk (Q:=fun _=>r.bool ν=true) fun h=>h) fun _ hr2=>zab ⟨by simp [hn],fun _=>?_⟩
  rw [dget,←hds,←hr];exact hr2
 obtain ⟨rfl,hneed⟩:=hj0
 refine zaa (zeD sg.ots.length _) fun os hos=>?_
 rw [hds] at hos
 have hpo:PEq (sg.res (F f ds)) ν sg.ots (zal 0 sg.ots.length) os:=by
  refine PEq.of_den (ziX _ _) ?_
  rw [zcP (sg.res (F f ds)) sg.ots.length 0 0 (fun _ _=>rfl)]
  apply List.ext_getElem?
  intro i
  by_cases hi:i<sg.ots.length
  ·rw [List.getElem?_map,List.getElem?_range' (by omega),List.getElem?_map,List.getElem?_eq_getElem (by rw [hos.1];exact hi)]
   simp only [Option.map_some,Option.some.injEq]
   rw [hos.2 i _ (List.getElem?_eq_getElem (by rw [hos.1];exact hi))]
   simp only [Sig.res,dget]
   congr 1
   omega
  ·rw [List.getElem?_eq_none (by simpa using hi),List.getElem?_eq_none (by rw [List.length_map,hos.1];omega)]
 obtain ⟨hoc,hog⟩:=V.inst_to zbE hpo k3
 -- the call
 have hcall:∀ ρ w,(∀ v∈vs,V.good ν v)→HS E ν ρ hp w→I w→Calls P f (vs.map (V.conc ν ρ)).toArray w (fun e w'=>∃ x ρ',e = .returned x∧CallOut sg (F f ds) (fun j=>ρ (rnm g.2 j)) w x ρ' w'):=by
  intro ρ w hvs hh hI
  have h1:HRel E ν (fun j=>ρ (rnm g.2 j)) (sg.hin.map (Option.map (Blk.inst g.1))) w:=hh.heap.sub hs2 hs3
  have h2:HRel E (dget ds) (fun j=>ρ (rnm g.2 j)) sg.hinI w:=HRel.inst zbE hpe k2 h1
  have h0:∀ b,b<E.w0.heap.size→¬ E.W b→b<w.heap.size∧¬ (callEnv sg.hinI (fun j=>ρ (rnm g.2 j)) w).W b∧w.heap[b]? = E.w0.heap[b]?:=fun b hb hnW=>by
   refine ⟨Nat.lt_of_lt_of_le hb hh.fr.size,?_,hh.fr.block b hb hnW⟩
   rintro ⟨j,x,hx,hxo,hxn,hxe⟩
   change x.foot w (ρ (rnm g.2 j)) b at hxe
   change (ρ (rnm g.2 j)).nil=false at hxn
   unfold Sig.hinI at hx
   rw [zaE] at hx
   obtain ⟨y,hy,rfl⟩:=Option.map_eq_some_iff.1 hx
   obtain ⟨b',e1,e2,e3⟩:=ze8 hs2 (j:=j) (b:=y.inst g.1) (by rw [zaE,hy];rfl)
   have ho:b'.own=true:=(Blk.sub_spec (E:=E) (ν:=ν) e3).1 (by rw [Blk.inst_own] at hxo ⊢;exact hxo)
   rw [Blk.inst_foot,←Blk.inst_foot g.1] at hxe
   have hxe:=Blk.sub_foot e3 (by rw [Blk.inst_own] at hxo ⊢;exact hxo) hxe
   rcases hh.old _ _ e1 with h | h
   ·rw [hxn] at h;cases h
   ·rcases h.wr ho b hxe with h | h
    ·omega
    ·exact hnW h
  have h3:HRel (callEnv sg.hinI (fun j=>ρ (rnm g.2 j)) w) (dget ds) (fun j=>ρ (rnm g.2 j)) sg.hinI w :=
   ⟨fun j bk hj=>by
    cases hfl:bk.flat with
    | true=>exact (h2.blk j bk hj).flat hfl
    | false =>
     refine (h2.blk j bk hj).enter fun b hb hnW=>?_
     obtain ⟨c1,c2,c3⟩:=h0 b hb hnW
     refine ⟨c1,c2,.inr ⟨?_,c1,c2⟩,c3⟩
     cases hall:sg.hinI.all (zao Blk.flat) with
     | false=>rfl
     | true =>
      rw [zam hall hj] at hfl
      exact absurd hfl (by decide),h2.apart⟩
  have hKW:∀ b,(callEnv sg.hinI (fun j=>ρ (rnm g.2 j)) w).W b→K≤b:=fun b hb=>by
   rcases Nat.lt_or_ge b E.w0.heap.size with hlt | hge
   ·by_cases hEW:E.W b
    ·exact hE.2 b hEW
    ·exact absurd hb (h0 b hlt hEW).2.1
   ·exact Nat.le_trans hE.1 hge
  have:=hfn ds (fun j=>ρ (rnm g.2 j)) w hI hdl hneed (Nat.le_trans hE.1 hh.fr.size) hKW (hvg (hboth hvs).2) h3
  have hargs2:(sg.insI.map (V.conc (dget ds) fun j=>ρ (rnm g.2 j)))=vs.map (V.conc ν ρ):=by
   unfold Sig.insI
   rw [hva,(hboth hvs).1 ρ]
  rw [hargs2] at this
  exact this
 refine zae (fun hemp=>?_) (fun hemp=>?_)
 ·refine zab fun ρ w hvs hh hI=>⟨henter _ w,?_⟩
  simp only [Bool.and_eq_true,List.isEmpty_iff] at hemp
  have hlt0:(sg.out.inst os).lt 0=true:=by rw [V.inst_lt];rw [hemp.2] at k5;exact k5
  have k8:sg.out.easy=true:=by
   simp only [hemp.1,hemp.2,List.isEmpty_nil,Bool.and_self,Bool.not_true,Bool.or_false] at k8
   exact k8
  refine ⟨V.easy_good (by rw [V.inst_easy];exact k8),(hcall ρ w hvs hh hI).mono fun e w' ⟨x,ρ',he,hc⟩=>⟨?_,?_⟩⟩
  ·rw [he,hc.val]
   unfold Sig.outI
   rw [←hoc ρ',V.conc_lt0 hlt0 ρ' ρ]
  ·have:=hc.fr.weaken (W':=fun _=>False) (fun b hb=>by
    obtain ⟨j,bk,h1,h2,_⟩:=hb
    unfold Sig.hinI at h1
    rw [zaE] at h1
    obtain ⟨y,hy,rfl⟩:=Option.map_eq_some_iff.1 h1
    have:=zam hemp.1 hy
    rw [Blk.inst_own] at h2
    rw [h2] at this
    cases this)
   exact this.below
 ·refine zab fun ρ w hvs hh hI=>⟨henter _ w,(hcall ρ w hvs hh hI).mono fun e w' ⟨x,ρ',he,hc⟩=>⟨x,he,?_⟩⟩
  obtain ⟨hc1,hc2,hc3,hc4,hc5,hc6⟩:=hc
  have hcw:callEnv sg.hinI (fun j=>ρ (rnm g.2 j)) w=callEnv (sg.hin.map (Option.map (Blk.inst g.1))) (fun j=>ρ (rnm g.2 j)) w:=zmA _ _ _ _
  rw [hcw] at hc3 hc4 hc5
  have hb:=HRel.inst zbE hpo k4 hc3
  have e2:∀ (l:List (Option Blk)) (j:Nat),zaO (sg.hin.map (Option.map (Blk.inst g.1))) j (l.map (Option.map (Blk.inst os)))=zaO sg.hin j l:=fun l=>by
   induction l with
   | nil=>intro j;rfl
   | cons x l ih =>
    intro j
    simp only [List.map_cons,zaO,ih,zdB]
    cases x with
    | none=>rfl
    | some y=>simp [Blk.inst_own,Blk.inst_shr]
  have hnest':zaO (sg.hin.map (Option.map (Blk.inst g.1))) 0 (sg.hout.map (Option.map (Blk.inst os)))=true→(sg.hin.map (Option.map (Blk.inst g.1))).all (zao Blk.flat)=true:=fun h=>by
   rw [e2] at h
   rw [zie (fun ops b=>Blk.inst_flat ops b)]
   rw [h] at hnest
   simpa using hnest
  have hback:=HS.back (ho:=sg.hout.map (Option.map (Blk.inst os))) hh hs2 hplt (by rw [List.length_map,zie (fun ops b=>Blk.inst_lt _ ops b)];exact k6) (by rw [zie (fun ops b=>Blk.inst_flat ops b)];exact k7) hb (OldF.inst hc4) hnest' (by rw [ziZ];exact hobj) hc5
   (fun j hj hl=>hc6 j (by rw [zdB] at hj;exact hj) (by simpa using hl))
  have e1:∀ k n,zcN (sg.hin.map (Option.map (Blk.inst g.1))) g.2 n k=zcN sg.hin g.2 n k:=fun k n=>by
   unfold zcN
   exact List.map_congr_left fun j _=>by rw [zdB]
  have e3:∀ (l:List (Option Blk)) (m1:List Nat) (j:Nat),zen (sg.hin.map (Option.map (Blk.inst g.1))) m1 j l=zen sg.hin m1 j l:=fun l m1=>by
   induction l with
   | nil=>intro j;rfl
   | cons x l ih=>intro j;simp only [zen,ih,zdB]
  have e4:∀ (ho:List (Option Blk)) (m1:List Nat) (dem:Bool) (k j:Nat) (hp:List (Option Blk)),zbR (sg.hin.map (Option.map (Blk.inst g.1))) ho g.2 m1 dem k j hp=zbR sg.hin ho g.2 m1 dem k j hp:=fun ho m1 dem k=>by
   induction k with
   | zero=>intro j hp;rfl
   | succ k ih =>
    intro j hp
    unfold zbR
    rw [zaE]
    cases nth sg.hin j with
    | none=>exact ih _ _
    | some y=>simp only [Option.map_some,Blk.inst_own,zdB,ih]
  rw [e1,e2,e3,e4,List.length_map,List.length_map] at hback
  refine ⟨_,fun j hj=>by simp [hj],hback.2,fun u hu=>?_⟩
  cases hu
  have hren:=V.ren_spec (ν:=ν) (m:=zcN sg.hin g.2 hp.length sg.hout.length) (ρ:=ρ') (ρ':=fun i=>if i<hp.length then ρ i else ρ' (i-hp.length)) (v:=sg.out.inst os) hback.1 (by rw [V.inst_lt];exact k5)
  refine ⟨hren.2 (hog hc2),?_⟩
  rw [hren.1,hoc ρ']
  exact hc1
theorem zhQ {t:TypeId} {e:Nat} (h:tk P t=some (.ptr e)):P.underlying t=some (.pointer e):=by
 obtain ⟨d,hd,hk⟩:=zey h
 cases d<;>simp [tkOf] at hk
 exact hk▸hd
theorem zaT (w:World) (d:Nat) (t:TypeId) (p:Option Addr) {e:Nat} (h:P.underlying t=some (.pointer e)) :
  (Op.equalIn (d+1) t (.pointer p) (.pointer none)).run P w = .ok p.isNone w:=by
 cases p<;>simp [Op.equalIn,run_underlying h]
theorem zdW {iface:Bool} {key:Nat} {l:List (Nat×Alt)} (h:zdP iface key l=true) {k:Nat} {x:Alt} (hx:zaN l k=some x) :
  (k=key∧x=if iface then .nili else .nilp)∨(k≠key∧if iface then ∃ t q,x = .ifp t q else ∃ q n,x = .p q n):=by
 have:=List.all_eq_true.1 h _ (zgx hx)
 simp only at this
 have hne:(!Nat.beq k key)=true→k≠key:=fun h e=>by subst e;rw [Nat.beq_refl] at h;cases h
 cases iface<;>cases x<;>simp only at this<;>first | (cases this;done) | exact .inl ⟨Nat.eq_of_beq_eq_true this,rfl⟩ | exact .inr ⟨hne this,_,_,rfl⟩
theorem zky {a:A} {key:Nat} (h0:0≤a.int ν):(a.int ν==((key:Nat):Int))=decide ((a.int ν).toNat=key):=by
 rw [Bool.eq_iff_iff]
 simp only [beq_iff_eq,decide_eq_true_eq]
 omega
theorem zhf {iface neg:Bool} {a:A} {l:List (Nat×Alt)} (hg:(Lf.alt a l).good ν):M.sat F ν (zin iface neg a l) (fun r=>∃ c:A,r = .b c ∧
  c.bool ν=(if neg then decide ((a.int ν).toNat≠zaF l) else decide ((a.int ν).toNat=zaF l))∧zdP iface (zaF l) l=true):=by
 unfold zin
 refine zae (fun hok=>?_) (fun _=>zac)
 obtain ⟨h0,_⟩:=hg
 cases neg with
 | false =>
  refine zaa (zag (Q:=fun c=>c.bool ν=(a.int ν==((zaF l:Nat):Int))) fun c h=>A.bool_of_den h) fun c hc=>zab ⟨c,rfl,?_,hok⟩
  rw [hc,zky h0];rfl
 | true =>
  refine zaa (zag (Q:=fun c=>c.bool ν=(a.int ν != ((zaF l:Nat):Int))) fun c h=>A.bool_of_den h) fun c hc=>zab ⟨c,rfl,?_,hok⟩
  rw [hc,bne,zky h0];simp
theorem zkz (b:ByteArray):b.toList=b.data.toList:=by
 have h:∀ n i r,b.size-i=n→ByteArray.toList.loop b i r=r.reverse++b.data.toList.drop i:=by
  intro n
  induction n with
  | zero =>
   intro i r hn
   rw [ByteArray.toList.loop]
   have hi:¬ i<b.size:=by omega
   have h0:b.data.toList.length≤i:=Nat.le_of_not_lt hi
   rw [if_neg hi,List.drop_eq_nil_of_le h0,List.append_nil]
  | succ n ih =>
   intro i r hn
   rw [ByteArray.toList.loop]
   have hi:i<b.size:=by omega
   rw [if_pos hi,ih _ _ (by omega)]
   have hi2:i<b.data.toList.length:=hi
   rw [List.drop_eq_getElem_cons hi2]
   have hi3:i<b.data.size:=hi
   have:b.get! i=b.data.toList[i]:=by
    show b.data[i]! = _
    rw [getElem!_pos b.data i hi3]
    rfl
   rw [this]
   simp
 have:=h _ 0 [] rfl
 rw [List.reverse_nil,List.nil_append,List.drop_zero] at this
 exact this
theorem zmB:∀ l l':List DV,zhu l l'=(l.map DV.byte==l'.map DV.byte)
 | [],[]=>rfl
 | [],_::_=>rfl
 | _::_,[]=>rfl
 | x::l,y::l'=>by
  have:=zmB l l'
  simp only [zhu,this,List.map_cons]
  rfl
theorem zmC {l l':List DV} (w:World):(Op.stringOp .eql (zfh l) (zfh l')).run P w = .ok (.bool (zhu l l')) w∧(Op.stringOp .neq (zfh l) (zfh l')).run P w = .ok (.bool (!zhu l l')) w:=by
 have h:((zfh l).toList==(zfh l').toList)=zhu l l':=by rw [zkz,zkz,zmB];simp [zfh]
 constructor<;>simp [Op.stringOp,h]
theorem zpo {x:Lf} : M.sat F ν (strA x) (fun a=>∀ ρ,x.conc ν ρ = .string (zfh (a.cells ν))):=by
 unfold strA
 split
 ·exact zab fun ρ=>rfl
 ·rename_i s
  refine zag fun r h ρ=>?_
  have h1:r.cells ν=s.data.toList.map fun b=>DV.i b.toNat:=by
   have:A.cells ν r=(zbc F ν (Node.lmk (s.data.toList.map fun _=>.i) (s.data.toList.map fun b=>.z b.toNat))).toL:=by simp [A.cells,h]
   rw [this]
   simp only [zbc,DV.toL]
   generalize s.data.toList=l
   induction l with
   | nil=>rfl
   | cons b l ih =>
    simp only [List.map_cons,nrmZ,ih]
    rfl
  have h2:zfh (r.cells ν)=s:=by
   rw [h1]
   cases s with
   | mk d =>
    simp only [zfh,List.map_map]
    congr 1
    have:(DV.byte∘fun b:UInt8=>DV.i b.toNat)=id:=by
     funext b
     simp [DV.byte]
    rw [this]
    simp
  rw [h2]
  rfl
 ·exact zac
theorem zmD {op:BinOp} {t:TypeId} {x y:Lf} : M.sat F ν (zlf op x y) (fun v=>v.good ν∧∀ (ρ:Nat→Loc) (w:World),∀ (xo yo:Operand),
  (eqGuard op t xo yo ((V.s (.one x)).conc ν ρ) ((V.s (.one y)).conc ν ρ)).run P w = .ok () w∧(binOp op t ((V.s (.one x)).conc ν ρ) ((V.s (.one y)).conc ν ρ)).run P w = .ok (v.conc ν ρ) w):=by
 have hg:∀ (op:BinOp) (xo yo:Operand) (a b:ByteArray) (w:World),(eqGuard op t xo yo (.string a) (.string b)).run P w = .ok () w:=by
  intro op xo yo a b w;cases op<;>simp [eqGuard]
 unfold zlf
 refine zaa zpo fun a ha=>zaa zpo fun b hb=>?_
 refine zaa (zag (Q:=fun r=>r.bool ν=zhu (a.cells ν) (b.cells ν)) fun r h=>A.bool_of_den h) fun q hq=>?_
 split
 ·refine zab ⟨V1.good_one.2 trivial,fun ρ w xo yo=>?_⟩
  simp only [V.conc,V1.conc,ha,hb]
  exact ⟨hg _ _ _ _ _ w,by simp [binOp,(zmC (P:=P) w).1,Lf.conc,hq]⟩
 ·refine zaa zex fun r hr=>zab ⟨V1.good_one.2 trivial,fun ρ w xo yo=>?_⟩
  simp only [V.conc,V1.conc,ha,hb]
  exact ⟨hg _ _ _ _ _ w,by simp [binOp,(zmC (P:=P) w).2,Lf.conc,hq,hr]⟩
 ·exact zac
theorem zp7 {op:BinOp} {t:TypeId} {x y:V} (hx:x.good ν) (hy:y.good ν):M.sat F ν (zq4 P op t x y) (fun v=>v.good ν∧∀ (ρ:Nat→Loc) (w:World),∀ (xo yo:Operand),
  (eqGuard op t xo yo (x.conc ν ρ) (y.conc ν ρ)).run P w = .ok () w∧(binOp op t (x.conc ν ρ) (y.conc ν ρ)).run P w = .ok (v.conc ν ρ) w):=by
 have hgi:∀ (op:BinOp) (xo yo:Operand) (k k':IntKind) (a b:Int) (w:World),(eqGuard op t xo yo (.int k a) (.int k' b)).run P w = .ok () w:=by
  intro op xo yo k k' a b w;cases op<;>simp [eqGuard]
 have hgp:∀ (op:BinOp) (xo yo:Operand) (a b:Option Addr) (w:World),(eqGuard op t xo yo (.pointer a) (.pointer b)).run P w = .ok () w:=by
  intro op xo yo a b w;cases op<;>simp [eqGuard]
 have hgb:∀ (op:BinOp) (xo yo:Operand) (a b:Bool) (w:World),(eqGuard op t xo yo (.bool a) (.bool b)).run P w = .ok () w:=by
  intro op xo yo a b w;cases op<;>simp [eqGuard]
 unfold zq4
 split
 ·exact zaa (zdS fun ρ w=>ziF (ρ:=ρ) (w:=w) t) fun l hl=>zab ⟨V1.good_one.2 hl.1,fun ρ w xo yo=>⟨hgi _ _ _ _ _ _ _ w,hl.2 ρ w⟩⟩
 ·exact zaa (zdS fun ρ w=>ziF (ρ:=ρ) (w:=w) t) fun l hl=>zab ⟨V1.good_one.2 hl.1,fun ρ w xo yo=>⟨hgi _ _ _ _ _ _ _ w,hl.2 ρ w⟩⟩
 ·rename_i k a k' b hne1 hne2
  refine zae (fun hk=>?_) (fun _=>zac)
  have:=zb7 hk;subst this
  have e1:op≠.shl:=fun h=>hne1 h
  have e2:op≠.shr:=fun h=>hne2 h
  exact zaa (zdS fun ρ w=>zrq (ρ:=ρ) (w:=w) e1 e2 t) fun l hl=>zab ⟨V1.good_one.2 hl.1,fun ρ w xo yo=>⟨hgi _ _ _ _ _ _ _ w,hl.2 ρ w⟩⟩
 ·rename_i a b
  refine zaa (zad (Q:=fun k=>tk P t=some k) fun a h=>h) fun k hk=>?_
  split
  ·exact zaa (zdS fun ρ w=>zhG (ρ:=ρ) (w:=w) t (znW hk)) fun l hl=>zab ⟨V1.good_one.2 hl.1,fun ρ w xo yo=>⟨hgb _ _ _ _ _ w,hl.2 ρ w⟩⟩
  ·exact zac
 ·rename_i a b
  refine zaa (zad (Q:=fun k=>tk P t=some k) fun a h=>h) fun k hk=>?_
  split
  ·exact zaa (zdS fun ρ w=>zhG (ρ:=ρ) (w:=w) t (znW hk)) fun l hl=>zab ⟨V1.good_one.2 hl.1,fun ρ w xo yo=>⟨hgb _ _ _ _ _ w,hl.2 ρ w⟩⟩
  ·exact zac
 ·refine zaa (zad (Q:=fun k=>tk P t=some k) fun a h=>h) fun k hk=>?_
  split
  ·exact zab ⟨V1.good_one.2 trivial,fun ρ w xo yo=>⟨hgp _ _ _ _ _ w,by simp [binOp,Op.equal,Op.maxDepth,V.conc,V1.conc,Lf.conc,zaT w 9999 t _ (zhQ hk)]⟩⟩
  ·exact zac
 ·refine zaa (zad (Q:=fun k=>tk P t=some k) fun a h=>h) fun k hk=>?_
  split
  ·exact zab ⟨V1.good_one.2 trivial,fun ρ w xo yo=>⟨hgp _ _ _ _ _ w,by simp [binOp,Op.equal,Op.maxDepth,V.conc,V1.conc,Lf.conc,zaT w 9999 t _ (zhQ hk)]⟩⟩
  ·exact zac
 ·refine zaa (zad (Q:=fun k=>tk P t=some k) fun a h=>h) fun k hk=>?_
  split
  ·exact zab ⟨V1.good_one.2 trivial,fun ρ w xo yo=>⟨hgp _ _ _ _ _ w,by simp [binOp,Op.equal,Op.maxDepth,V.conc,V1.conc,Lf.conc,zaT w 9999 t _ (zhQ hk)]⟩⟩
  ·exact zac
 ·refine zaa (zad (Q:=fun k=>tk P t=some k) fun a h=>h) fun k hk=>?_
  split
  ·exact zab ⟨V1.good_one.2 trivial,fun ρ w xo yo=>⟨hgp _ _ _ _ _ w,by simp [binOp,Op.equal,Op.maxDepth,V.conc,V1.conc,Lf.conc,zaT w 9999 t _ (zhQ hk)]⟩⟩
  ·exact zac
 ·rename_i a l
  refine zaa (zad (Q:=fun k=>tk P t=some k) fun a h=>h) fun k hk=>?_
  split
  ·refine zaa (zhf (V1.good_one.1 hx)) fun r ⟨c,hr,hc,hok⟩=>zab ⟨by rw [hr];exact V1.good_one.2 trivial,fun ρ w xo yo=>?_⟩
   subst hr
   obtain ⟨h0,h1⟩:=V1.good_one.1 hx
   obtain ⟨y,hy⟩:=Option.isSome_iff_exists.1 h1
   have hpt:=zhQ hk
   have hval:(V.s (.one (.alt a l))).conc ν ρ=y.conc ρ:=by simp only [V.conc,V1.conc,Lf.conc,zbj,hy]
   rcases zdW hok hy with ⟨e1,e2⟩ | ⟨e1,q,n,e2⟩
   ·rw [hval,e2]
    refine ⟨hgp _ _ _ _ _ w,?_⟩
    simp [binOp,Op.equal,Op.maxDepth,V.conc,V1.conc,Lf.conc,Alt.conc,zaT w 9999 t _ hpt,hc,e1]
   ·rw [hval,e2]
    refine ⟨hgp _ _ _ _ _ w,?_⟩
    simp [binOp,Op.equal,Op.maxDepth,V.conc,V1.conc,Lf.conc,Alt.conc,zaT w 9999 t _ hpt,hc,e1]
  ·exact zac
 ·rename_i a l
  refine zaa (zad (Q:=fun k=>tk P t=some k) fun a h=>h) fun k hk=>?_
  split
  ·refine zaa (zhf (V1.good_one.1 hx)) fun r ⟨c,hr,hc,hok⟩=>zab ⟨by rw [hr];exact V1.good_one.2 trivial,fun ρ w xo yo=>?_⟩
   subst hr
   obtain ⟨h0,h1⟩:=V1.good_one.1 hx
   obtain ⟨y,hy⟩:=Option.isSome_iff_exists.1 h1
   have hpt:=zhQ hk
   have hval:(V.s (.one (.alt a l))).conc ν ρ=y.conc ρ:=by simp only [V.conc,V1.conc,Lf.conc,zbj,hy]
   rcases zdW hok hy with ⟨e1,e2⟩ | ⟨e1,q,n,e2⟩
   ·rw [hval,e2]
    refine ⟨hgp _ _ _ _ _ w,?_⟩
    simp [binOp,Op.equal,Op.maxDepth,V.conc,V1.conc,Lf.conc,Alt.conc,zaT w 9999 t _ hpt,hc,e1]
   ·rw [hval,e2]
    refine ⟨hgp _ _ _ _ _ w,?_⟩
    simp [binOp,Op.equal,Op.maxDepth,V.conc,V1.conc,Lf.conc,Alt.conc,zaT w 9999 t _ hpt,hc,e1]
  ·exact zac
 ·refine zae (fun _=>zac) (fun hgt=>?_)
  refine zaa (zid 8 t _ _ hx hy) fun r hr=>zab ⟨V1.good_one.2 trivial,fun ρ w xo yo=>⟨?_,?_⟩⟩
  ·exact run_eqGuard_agg w _ t xo yo _ _ (by simpa using hgt)
  ·have:=hr ρ 9992 w
   simp only [V.conc,V1.conc] at this ⊢
   rw [run_eql_struct,this]
   rfl
 ·refine zae (fun _=>zac) (fun hgt=>?_)
  refine zaa (zid 8 t _ _ hx hy) fun r hr=>zaa zex fun r2 hr2=>zab ⟨V1.good_one.2 trivial,fun ρ w xo yo=>⟨?_,?_⟩⟩
  ·exact run_eqGuard_agg w _ t xo yo _ _ (by simpa using hgt)
  ·have:=hr ρ 9992 w
   simp only [V.conc,V1.conc] at this ⊢
   rw [run_neq_struct,this]
   simp [Lf.conc,hr2]
 ·exact zmD
 ·exact zac
end
end Go.Sx
namespace Go.Sx
open Go.RowKit
section
variable {P:Program} {I:World→Prop} {S:Sigs} {F:FEnv} {E:Env} {ν:Nat→DV}
theorem zfr {ρ:Nat→Loc} : ∀ (l:List Lf) (cs:List Lf) (k o:Nat) (A:Array Value),A.toList=cs.map (Lf.conc ν ρ) →
  (((l.map (Lf.conc ν ρ)).zipIdx k).foldl (fun (cs:Array Value) (p:Value×Nat)=>cs.setIfInBounds (o+p.2) p.1) A).toList=(zcn cs (o+k) l).map (Lf.conc ν ρ)
 | [],cs,k,o,A,h=>by simpa [zcn] using h
 | c::l,cs,k,o,A,h=>by
  simp only [List.map_cons,List.zipIdx_cons,List.foldl_cons,zcn]
  rw [zfr l (cs.set (o+k) c) (k+1) o _ (by simp [h,List.map_set])]
  rfl
theorem zfs:∀ {l cs:List Lf} {o:Nat},(∀ x∈cs,Lf.good ν x)→(∀ x∈l,Lf.good ν x)→∀ x∈zcn cs o l,Lf.good ν x
 | [],cs,o,h,_=>h
 | c::l,cs,o,h,h2=>zfs (l:=l) (fun x hx=>by
   rcases List.mem_or_eq_of_mem_set hx with hx | rfl
   ·exact h x hx
   ·exact h2 x (by simp)) (fun x hx=>h2 x (List.mem_cons_of_mem _ hx))
theorem V1.cells_conc {v:V1} (hok:v.cells.all Lf.ok=true) (ρ:Nat→Loc):(v.conc ν ρ).cells=(v.cells.map (Lf.conc ν ρ)).toArray:=by
 cases v with
 | one l =>
  have h1:(l.conc ν ρ).oneCell'=true:=Lf.ok_conc (by simpa [V1.cells] using hok) ρ
  exact zgw h1
 | agg l=>rfl
theorem ze9 {place:Nat→Option (Nat×Nat)} {place':Nat→Option (Nat×Nat)} (hp:∀ i,place' i=place i) {ρ:Nat→Loc} : ∀ (ps:List (Nat×V1)) (cs r:List Lf) (A:Array Value),
  A.toList=cs.map (Lf.conc ν ρ)→zgd place cs ps=some r →
  ∃ B,Instr.fill place' A (ps.map fun p=>(p.1,p.2.conc ν ρ))=some B∧B.toList=r.map (Lf.conc ν ρ)
 | [],cs,r,A,h,hf=>by simp [zgd] at hf;subst hf;exact ⟨A,rfl,h⟩
 | p::ps,cs,r,A,h,hf=>by
  simp only [zgd] at hf
  split at hf
  ·cases hf
  ·rename_i o sz hpl
   split at hf
   ·rename_i hc
    simp only [Bool.and_eq_true] at hc
    obtain ⟨⟨h1,h2⟩,h3⟩:=hc
    have h1:=Nat.eq_of_beq_eq_true h1
    have h2:=Nat.le_of_ble_eq_true h2
    have hcells:=V1.cells_conc (ν:=ν) h3 ρ
    have hA:A.size=cs.length:=by rw [←Array.length_toList,h];simp
    simp only [List.map_cons,Instr.fill,hp,hpl,hcells]
    rw [if_neg (by simp;omega)]
    refine ze9 hp ps _ r _ ?_ hf
    have:=zfr (ν:=ν) (ρ:=ρ) p.2.cells cs 0 o A h
    rw [Nat.add_zero] at this
    rw [←this,←Array.foldl_toList]
    simp
   ·cases hf
theorem zhg {place:Nat→Option (Nat×Nat)} : ∀ (ps:List (Nat×V1)) (cs r:List Lf),(∀ x∈cs,Lf.good ν x)→(∀ p∈ps,p.2.good ν)→zgd place cs ps=some r→∀ x∈r,Lf.good ν x
 | [],cs,r,h,_,hf=>by simp [zgd] at hf;subst hf;exact h
 | p::ps,cs,r,h,hg,hf=>by
  simp only [zgd] at hf
  split at hf
  ·cases hf
  ·split at hf
   ·exact zhg ps _ r (zfs h (hg p (by simp))) (fun q hq=>hg q (List.mem_cons_of_mem _ hq)) hf
   ·cases hf
def ext (ρ:Nat→Loc) (n:Nat) (x:Loc):Nat→Loc:=fun j=>if j=n then x else ρ j
theorem zbI (ρ:Nat→Loc) (n:Nat) (x:Loc):ext ρ n x n=x:=by simp [ext]
theorem zbO {ρ:Nat→Loc} {n j:Nat} {x:Loc} (h:j<n):ext ρ n x j=ρ j:=by simp [ext];intro e;omega
theorem Lf.conc_ext {ρ:Nat→Loc} {n:Nat} {x:Loc} {l:Lf} (h:l.lt n=true):l.conc ν (ext ρ n x)=l.conc ν ρ:=by
 exact Lf.keep_spec (fun k hk=>zbO hk) h
theorem HS.push {ρ:Nat→Loc} {hp:List (Option Blk)} {w w':World} (h:HS E ν ρ hp w) (hlt:hpLt hp=true) (hb:Below w.heap.size w w') {bk:Blk} {r:Loc}
  (hrel:BlkRel E ν (ext ρ hp.length r) w' r bk)
  (hap:∀ j b',nth hp j=some b'→r.nil=false→(ρ j).nil=false→(bk.own=true→∀ b,bk.foot w' r b→¬ b'.rfoot w (ρ j) b)∧(b'.own=true→∀ b,b'.foot w (ρ j) b→¬ bk.rfoot w' r b))
  (hold:r.nil=true∨OldB E.W E.V E.w0.heap.size bk.own (bk.foot w' r) (bk.rfoot w' r)):HS E ν (ext ρ hp.length r) (hp++[some bk]) w':=by
 have hcase:∀ j b',nth (hp++[some bk]) j=some b'→(nth hp j=some b'∧j<hp.length)∨(j=hp.length∧b'=bk):=by
  intro j b' hj
  rw [zaL] at hj
  split at hj
  ·exact .inl ⟨hj,za4 hj⟩
  ·right
   have:j-hp.length=0:=by
    cases hk:j-hp.length with
    | zero=>rfl
    | succ k=>rw [hk] at hj;cases k<;>cases hj
   rw [this] at hj
   cases hj
   exact ⟨by omega,rfl⟩
 have hfe:∀ j b',nth hp j=some b'→(ρ j).nil=false→∀ b,b'.foot w' (ρ j) b↔b'.foot w (ρ j) b:=fun j b' hj hn b =>
  (h.heap.blk j b' hj).foot_eq hn (fun _ hf=>hb.block _ ((h.heap.blk j b' hj).lt hn hf)) b
 have hre:∀ j b',nth hp j=some b'→(ρ j).nil=false→∀ b,b'.rfoot w' (ρ j) b↔b'.rfoot w (ρ j) b:=fun j b' hj hn b =>
  (h.heap.blk j b' hj).rfoot_eq hn (fun _ hf=>hb.block _ ((h.heap.blk j b' hj).lt hn hf)) b
 refine ⟨⟨fun j b' hj=>?_,fun j j' b1 b2 hj ho hj' hne hn1 hn2 b hf1 hf2=>?_⟩,fun j b' hj=>?_,h.fr.trans (Fr.of_below hb),by rw [List.length_append];have:=h.len;omega,fun j hj=>by rw [zbO (by have:=h.len;omega)];exact h.keep j hj⟩
 ·rcases hcase j b' hj with ⟨hj,hjl⟩ | ⟨rfl,rfl⟩
  ·rw [zbO hjl]
   exact (((h.heap.blk j b' hj).of_block hb.size (fun hn _ hf=>hb.block _ ((h.heap.blk j b' hj).lt hn hf))).keep (fun k hk=>zbO hk) (zam hlt hj))
  ·rw [zbI]
   exact hrel
 ·rcases hcase j b1 hj with ⟨kj,hjl⟩ | ⟨e1,e2⟩
  ·rw [zbO hjl] at hn1 hf1
   have hf1:=(hfe j b1 kj hn1 b).1 hf1
   rcases hcase j' b2 hj' with ⟨kj',hjl'⟩ | ⟨e3,e4⟩
   ·rw [zbO hjl'] at hn2 hf2
    exact h.heap.apart j j' b1 b2 kj ho kj' hne hn1 hn2 b hf1 ((hre j' b2 kj' hn2 b).1 hf2)
   ·subst e3
    rw [zbI] at hn2 hf2
    rw [e4] at hf2
    exact (hap j b1 kj hn2 hn1).2 ho b hf1 hf2
  ·rcases hcase j' b2 hj' with ⟨kj',hjl'⟩ | ⟨e3,e4⟩
   ·subst e1
    rw [zbO hjl'] at hn2 hf2
    rw [zbI] at hn1 hf1
    rw [e2] at hf1
    exact (hap j' b2 kj' hn1 hn2).1 (by rw [←e2];exact ho) b hf1 ((hre j' b2 kj' hn2 b).1 hf2)
   ·exact absurd (e1.trans e3.symm) hne
 ·rcases hcase j b' hj with ⟨hj,hjl⟩ | ⟨rfl,rfl⟩
  ·rw [zbO hjl]
   cases hn:(ρ j).nil with
   | true=>exact .inl rfl
   | false =>
    rcases h.old j b' hj with h1 | h1
    ·rw [hn] at h1;cases h1
    ·exact .inr ⟨fun o b hf=>h1.wr o b ((hfe j b' hj hn b).1 hf),fun b hf=>h1.rd b ((hre j b' hj hn b).1 hf)⟩
  ·rw [zbI];exact hold
theorem HS.freshO {ρ:Nat→Loc} {hp:List (Option Blk)} {w w':World} (h:HS E ν ρ hp w) (hlt:hpLt hp=true) (hb:Below w.heap.size w w') {bk:Blk} {r:Loc}
  (hrel:BlkRel E ν (ext ρ hp.length r) w' r bk) (hr:r.nil=true∨∀ b,bk.rfoot w' r b→w.heap.size≤b):HS E ν (ext ρ hp.length r) (hp++[some bk]) w':=by
 refine h.push hlt hb hrel (fun j b' hj hn hn'=>⟨fun _ b hf1 hf2=>?_,fun _ b hf1 hf2=>?_⟩) ?_
 ·have:=(h.heap.blk j b' hj).lt hn' hf2
  rcases hr with hr | hr
  ·rw [hn] at hr;cases hr
  ·have:=hr b (hrel.rd hn hf1);omega
 ·have:=(h.heap.blk j b' hj).lt hn' ((h.heap.blk j b' hj).rd hn' hf1)
  rcases hr with hr | hr
  ·rw [hn] at hr;cases hr
  ·have:=hr b hf2;omega
 ·rcases hr with hr | hr
  ·exact .inl hr
  ·cases hn:r.nil with
   | true=>exact .inl rfl
   | false=>exact .inr ⟨fun _ b hf=>.inl (Nat.le_trans h.fr.size (hr b (hrel.rd hn hf))),fun b hf=>.inl (Nat.le_trans h.fr.size (hr b hf))⟩
def Blk.plain:Blk→Bool
 | .obj _ _ _=>false
 | .l _ _ _ _=>false
 | _=>true
theorem Blk.plain_foot {bk:Blk} (h:bk.plain=true) (w:World) (r:Loc) (b:Nat):bk.foot w r b↔b=r.blk:=by
 cases bk with
 | c=>exact Iff.rfl
 | v=>exact Iff.rfl
 | m=>exact Iff.rfl
 | l=>cases h
 | obj=>cases h
theorem Blk.plain_rfoot {bk:Blk} (h:bk.plain=true) (w:World) (r:Loc) (b:Nat):bk.rfoot w r b↔b=r.blk:=by
 cases bk with
 | c=>exact Iff.rfl
 | v=>exact Iff.rfl
 | m=>exact Iff.rfl
 | l=>cases h
 | obj=>cases h
theorem Blk.plain_foots {bk:Blk} (h:bk.plain=true) (w:World) (r:Loc):bk.foot w r=(fun b=>b=r.blk)∧bk.rfoot w r=fun b=>b=r.blk:=by
 cases bk with
 | c=>exact ⟨rfl,rfl⟩
 | v=>exact ⟨rfl,rfl⟩
 | m=>exact ⟨rfl,rfl⟩
 | l=>cases h
 | obj=>cases h
theorem HS.pushP {ρ:Nat→Loc} {hp:List (Option Blk)} {w w':World} (h:HS E ν ρ hp w) (hlt:hpLt hp=true) (hb:Below w.heap.size w w') {bk:Blk} {r:Loc}
  (hrel:BlkRel E ν (ext ρ hp.length r) w' r bk)
  (hap:∀ j b',nth hp j=some b'→r.nil=false→(ρ j).nil=false→(bk.own=true→¬ b'.rfoot w (ρ j) r.blk)∧(b'.own=true→¬ b'.foot w (ρ j) r.blk))
  (hold:r.nil=true∨E.w0.heap.size≤r.blk∨E.W r.blk∨(bk.own=false∧E.V r.blk)) (hpl:bk.plain=true:=by rfl):HS E ν (ext ρ hp.length r) (hp++[some bk]) w':=by
 refine h.push hlt hb hrel (fun j b' hj hn hn'=>⟨fun o b hf1 hf2=>?_,fun o b hf1 hf2=>?_⟩) ?_
 ·have:=(Blk.plain_foot hpl _ _ _).1 hf1
  subst this
  exact (hap j b' hj hn hn').1 o hf2
 ·have:=(Blk.plain_rfoot hpl _ _ _).1 hf2
  subst this
  exact (hap j b' hj hn hn').2 o hf1
 ·rcases hold with h | h
  ·exact .inl h
  ·rw [(Blk.plain_foots hpl _ _).1,(Blk.plain_foots hpl _ _).2]
   exact .inr (OldB.plain.2 h)
theorem HS.oldP {ρ:Nat→Loc} {hp:List (Option Blk)} {w:World} (h:HS E ν ρ hp w) {b:Nat} {bk:Blk} (hbk:nth hp b=some bk) (hpl:bk.plain=true:=by rfl):(ρ b).nil=true∨E.w0.heap.size≤(ρ b).blk∨E.W (ρ b).blk∨(bk.own=false∧E.V (ρ b).blk):=by
 rcases h.old b bk hbk with g | g
 ·exact .inl g
 ·rw [(Blk.plain_foots hpl _ _).1,(Blk.plain_foots hpl _ _).2] at g
  exact .inr (OldB.plain.1 g)
theorem HS.fresh {ρ:Nat→Loc} {hp:List (Option Blk)} {w w':World} (h:HS E ν ρ hp w) (hlt:hpLt hp=true) (hb:Below w.heap.size w w') {bk:Blk} {r:Loc}
  (hrel:BlkRel E ν (ext ρ hp.length r) w' r bk) (hr:r.nil=true∨w.heap.size≤r.blk) (hpl:bk.plain=true:=by rfl):HS E ν (ext ρ hp.length r) (hp++[some bk]) w':=by
 refine h.freshO hlt hb hrel ?_
 rcases hr with hr | hr
 ·exact .inl hr
 ·exact .inr fun b hf=>by rw [(Blk.plain_rfoot hpl _ _ _).1 hf];exact hr
theorem HS.new {ρ:Nat→Loc} {hp:List (Option Blk)} {w:World} (h:HS E ν ρ hp w) (hlt:hp.all (zao (Blk.lt hp.length))=true) {cs:List Lf} (hcs:cs.all (Lf.lt hp.length)=true) (hg:∀ l∈cs,Lf.good ν l) (el:TypeId) :
  HS E ν (ext ρ hp.length ⟨w.heap.size,0,false,0,0,none⟩) (hp++[some (.c true (cs.map some))]) (w.alloc (.cells (cs.map (Lf.conc ν ρ)).toArray el)):=by
 have hb:Below w.heap.size w (w.alloc (.cells (cs.map (Lf.conc ν ρ)).toArray el)):=⟨rfl,rfl,rfl,by simp,fun k hk=>Below.heap_alloc _ _ _ hk⟩
 refine h.fresh hlt hb ?_ (.inr (Nat.le_refl _))
 show CBlk ν (ext ρ hp.length ⟨w.heap.size,0,false,0,0,none⟩) (w.alloc (.cells (cs.map (Lf.conc ν ρ)).toArray el)) ⟨w.heap.size,0,false,0,0,none⟩ true (cs.map some)
 refine ⟨rfl,by simp,fun i l hl=>?_,fun _ i hi=>?_,fun _ o=>World.frozen?_alloc_new _ _ _ _⟩
 ·rw [za1] at hl
  have hm:=List.mem_of_getElem? hl
  refine ⟨hg l hm,?_⟩
  rw [Lf.conc_ext (List.all_eq_true.1 hcs l hm)]
  simp only [Nat.zero_add]
  rw [World.cell?_alloc_new]
  simp [hl]
 ·simp only [Nat.zero_add]
  rw [World.cell?_alloc_new,World.frozen?_alloc_new]
  simp at hi
  simp [hi]
theorem HS.updO {ρ:Nat→Loc} {hp:List (Option Blk)} {w w':World} (h:HS E ν ρ hp w) {b:Nat} {bk nb:Blk} (hbk:nth hp b=some bk) (ho:bk.own=true)
  (hb:BlkRel E ν ρ w' (ρ b) nb) (hn:(ρ b).nil=false) (hs:w.heap.size≤w'.heap.size) (h1:w'.os=w.os) (h2:w'.tape=w.tape) (h3:w'.output=w.output) (hk:∀ k,k<w.heap.size→¬ bk.foot w (ρ b) k→w'.heap[k]? = w.heap[k]?)
  (hnf:∀ k,nb.foot w' (ρ b) k→bk.foot w (ρ b) k∨w.heap.size≤k) (hnr:∀ k,nb.rfoot w' (ρ b) k→bk.rfoot w (ρ b) k∨w.heap.size≤k) :
  HS E ν ρ (zat (some nb) hp b) w':=by
 have hlt:=za4 hbk
 have hcase:∀ j bk',nth (zat (some nb) hp b) j=some bk'→(j=b∧bk'=nb)∨(j≠b∧nth hp j=some bk'):=by
  intro j bk' hj
  by_cases hjb:b=j
  ·subst hjb
   rw [zaq,if_pos hlt] at hj
   cases hj;exact .inl ⟨rfl,rfl⟩
  ·rw [zau _ _ _ _ hjb] at hj
   exact .inr ⟨fun e=>hjb e.symm,hj⟩
 have hstay:∀ j bk',j≠b→nth hp j=some bk'→(ρ j).nil=false→∀ k,bk'.rfoot w (ρ j) k→w'.heap[k]? = w.heap[k]?:=fun j bk' hne hj hnj k hf =>
  hk k ((h.heap.blk j bk' hj).lt hnj hf) fun hf2=>h.heap.apart b j bk bk' hbk ho hj (Ne.symm hne) hn hnj k hf2 hf
 have hfe:∀ j bk',j≠b→nth hp j=some bk'→(ρ j).nil=false→∀ k,bk'.foot w' (ρ j) k↔bk'.foot w (ρ j) k:=fun j bk' hne hj hnj k=>(h.heap.blk j bk' hj).foot_eq hnj (hstay j bk' hne hj hnj) k
 have hre:∀ j bk',j≠b→nth hp j=some bk'→(ρ j).nil=false→∀ k,bk'.rfoot w' (ρ j) k↔bk'.rfoot w (ρ j) k:=fun j bk' hne hj hnj k=>(h.heap.blk j bk' hj).rfoot_eq hnj (hstay j bk' hne hj hnj) k
 refine ⟨⟨fun j bk' hj=>?_,fun j j' bk1 bk2 hj ho1 hj' hne hn1 hn2 k hf1 hf2=>?_⟩,fun j bk' hj=>?_,?_,by rw [zai];exact h.len,h.keep⟩
 ·rcases hcase j bk' hj with ⟨rfl,rfl⟩ | ⟨hne,hj⟩
  ·exact hb
  ·exact (h.heap.blk j bk' hj).of_block hs (hstay j bk' hne hj)
 ·rcases hcase j bk1 hj with ⟨e1,e2⟩ | ⟨hq1,k1⟩
  ·rcases hcase j' bk2 hj' with ⟨e3,e4⟩ | ⟨hq2,k2⟩
   ·exact absurd (e1.trans e3.symm) hne
   ·subst e1
    rw [e2] at hf1
    have hf2:=(hre j' bk2 hq2 k2 hn2 k).1 hf2
    rcases hnf k hf1 with g | g
    ·exact h.heap.apart j j' bk bk2 hbk ho k2 hne hn1 hn2 k g hf2
    ·have:=(h.heap.blk j' bk2 k2).lt hn2 hf2;omega
  ·have hf1:=(hfe j bk1 hq1 k1 hn1 k).1 hf1
   rcases hcase j' bk2 hj' with ⟨e3,e4⟩ | ⟨hq2,k2⟩
   ·subst e3
    rw [e4] at hf2
    rcases hnr k hf2 with g | g
    ·exact h.heap.apart j j' bk1 bk k1 ho1 hbk hne hn1 hn2 k hf1 g
    ·have:=(h.heap.blk j bk1 k1).lt hn1 ((h.heap.blk j bk1 k1).rd hn1 hf1);omega
   ·exact h.heap.apart j j' bk1 bk2 k1 ho1 k2 hne hn1 hn2 k hf1 ((hre j' bk2 hq2 k2 hn2 k).1 hf2)
 ·rcases hcase j bk' hj with ⟨rfl,rfl⟩ | ⟨hne,hj⟩
  ·rcases h.old j bk hbk with g | g
   ·exact .inl g
   ·refine .inr ⟨fun _ k hf=>?_,fun k hf=>?_⟩
    ·rcases hnf k hf with g2 | g2
     ·exact g.wr ho k g2
     ·exact .inl (Nat.le_trans h.fr.size g2)
    ·rcases hnr k hf with g2 | g2
     ·exact g.rd k g2
     ·exact .inl (Nat.le_trans h.fr.size g2)
  ·cases hnj:(ρ j).nil with
   | true=>exact .inl rfl
   | false =>
    rcases h.old j bk' hj with g | g
    ·rw [hnj] at g;cases g
    ·exact .inr ⟨fun o k hf=>g.wr o k ((hfe j bk' hne hj hnj k).1 hf),fun k hf=>g.rd k ((hre j bk' hne hj hnj k).1 hf)⟩
 ·refine ⟨h1.trans h.fr.os,h2.trans h.fr.tape,h3.trans h.fr.output,Nat.le_trans h.fr.size hs,fun k hkl hW=>?_⟩
  have hkb:¬ bk.foot w (ρ b) k:=by
   intro e
   rcases h.old b bk hbk with h' | h'
   ·rw [hn] at h';cases h'
   ·rcases h'.wr ho k e with h' | h'
    ·omega
    ·exact hW h'
  rw [hk k (Nat.lt_of_lt_of_le hkl h.fr.size) hkb];exact h.fr.block k hkl hW
theorem HS.upd {ρ:Nat→Loc} {hp:List (Option Blk)} {w w':World} (h:HS E ν ρ hp w) {b:Nat} {bk nb:Blk} (hbk:nth hp b=some bk) (ho:bk.own=true) (hnb:nb.own=true)
  (hb:BlkRel E ν ρ w' (ρ b) nb) (hn:(ρ b).nil=false) (hs:w'.heap.size=w.heap.size) (h1:w'.os=w.os) (h2:w'.tape=w.tape) (h3:w'.output=w.output) (hk:∀ k,k≠(ρ b).blk→w'.heap[k]? = w.heap[k]?)
  (hp1:bk.plain=true:=by rfl) (hp2:nb.plain=true:=by rfl):HS E ν ρ (zat (some nb) hp b) w' :=
 have _:=hnb
 h.updO hbk ho hb hn (by omega) h1 h2 h3 (fun k _ hf=>hk k fun e=>hf ((Blk.plain_foot hp1 _ _ _).2 e)) (fun k hf=>.inl ((Blk.plain_foot hp1 _ _ _).2 ((Blk.plain_foot hp2 _ _ _).1 hf))) fun k hf=>.inl ((Blk.plain_rfoot hp1 _ _ _).2 ((Blk.plain_rfoot hp2 _ _ _).1 hf))
theorem zi0 {α:Type} {p:Option α→Bool} (hp:p none=true):∀ {l:List (Option α)} {n:Nat},l.all p=true→(zat none l n).all p=true
 | [],_,_=>rfl
 | x::l,0,h=>by
  simp only [List.all_cons,Bool.and_eq_true] at h
  simp [zat,hp,h.2]
 | x::l,n+1,h=>by
  simp only [List.all_cons,Bool.and_eq_true] at h
  simp [zat,h.1,zi0 hp h.2]
theorem zdC {hp:List (Option Blk)} {b:Nat} (h:hpLt hp=true):hpLt (zat none hp b)=true:=by
 unfold hpLt at *
 rw [zai]
 exact zi0 rfl h
theorem zaR {α:Type} {l:List (Option α)} {b j:Nat} {x:α} (h:nth (zat none l b) j=some x):j≠b∧nth l j=some x:=by
 by_cases hj:b=j
 ·subst hj
  rw [zaq] at h
  split at h<;>cases h
 ·rw [zau _ _ _ _ hj] at h
  exact ⟨fun e=>hj e.symm,h⟩
theorem HS.killw {ρ:Nat→Loc} {hp:List (Option Blk)} {w w':World} (h:HS E ν ρ hp w) {b:Nat} {bk:Blk} (hbk:nth hp b=some bk) (ho:bk.own=true) (hn:(ρ b).nil=false)
  (hs:w'.heap.size=w.heap.size) (h1:w'.os=w.os) (h2:w'.tape=w.tape) (h3:w'.output=w.output) (hk:∀ k,k≠(ρ b).blk→w'.heap[k]? = w.heap[k]?) (hpl:bk.plain=true:=by rfl):HS E ν ρ (zat none hp b) w':=by
 have hstay:∀ j bk',j≠b→nth hp j=some bk'→(ρ j).nil=false→∀ k,bk'.rfoot w (ρ j) k→w'.heap[k]? = w.heap[k]?:=fun j bk' hne hj hnj k hf =>
  hk k fun e=>h.heap.apart b j bk bk' hbk ho hj (Ne.symm hne) hn hnj k ((Blk.plain_foot hpl _ _ _).2 e) hf
 have hfe:∀ j bk',j≠b→nth hp j=some bk'→(ρ j).nil=false→∀ k,bk'.foot w' (ρ j) k↔bk'.foot w (ρ j) k:=fun j bk' hne hj hnj k=>(h.heap.blk j bk' hj).foot_eq hnj (hstay j bk' hne hj hnj) k
 have hre:∀ j bk',j≠b→nth hp j=some bk'→(ρ j).nil=false→∀ k,bk'.rfoot w' (ρ j) k↔bk'.rfoot w (ρ j) k:=fun j bk' hne hj hnj k=>(h.heap.blk j bk' hj).rfoot_eq hnj (hstay j bk' hne hj hnj) k
 refine ⟨⟨fun j bk' hj=>?_,fun j j' bk1 bk2 hj ho1 hj' hne hn1 hn2 k hf1 hf2=>?_⟩,fun j bk' hj=>?_,?_,by rw [zai];exact h.len,h.keep⟩
 ·obtain ⟨hne,hj⟩:=zaR hj
  exact (h.heap.blk j bk' hj).of_block (by omega) (hstay j bk' hne hj)
 ·obtain ⟨hq1,k1⟩:=zaR hj
  obtain ⟨hq2,k2⟩:=zaR hj'
  exact h.heap.apart j j' bk1 bk2 k1 ho1 k2 hne hn1 hn2 k ((hfe j bk1 hq1 k1 hn1 k).1 hf1) ((hre j' bk2 hq2 k2 hn2 k).1 hf2)
 ·obtain ⟨hne,hj⟩:=zaR hj
  cases hnj:(ρ j).nil with
  | true=>exact .inl rfl
  | false =>
   rcases h.old j bk' hj with g | g
   ·rw [hnj] at g;cases g
   ·exact .inr ⟨fun o k hf=>g.wr o k ((hfe j bk' hne hj hnj k).1 hf),fun k hf=>g.rd k ((hre j bk' hne hj hnj k).1 hf)⟩
 ·refine ⟨h1.trans h.fr.os,h2.trans h.fr.tape,h3.trans h.fr.output,by rw [hs];exact h.fr.size,fun k hkl hW=>?_⟩
  have hkb:k≠(ρ b).blk:=by
   intro e
   rcases h.old b bk hbk with h' | h'
   ·rw [hn] at h';cases h'
   ·rcases h'.wr ho k ((Blk.plain_foot hpl _ _ _).2 e) with h' | h'
    ·omega
    ·exact hW h'
  rw [hk k hkb];exact h.fr.block k hkl hW
theorem HS.kill {ρ : Nat → Loc} {hp : List (Option Blk)} {w : World} (h : HS E ν ρ hp w) (b : Nat) : HS E ν ρ (zat none hp b) w :=
  ⟨⟨fun j bk' hj => h.heap.blk j bk' (zaR hj).2, fun j j' bk1 bk2 hj ho1 hj' hne hn1 hn2 => h.heap.apart j j' bk1 bk2 (zaR hj).2 ho1 (zaR hj').2 hne hn1 hn2⟩,
   fun j bk' hj => h.old j bk' (zaR hj).2, h.fr, by rw [zai]; exact h.len, h.keep⟩
theorem HS.reloc {ρ ρ':Nat→Loc} {hp:List (Option Blk)} {w:World} (h:HS E ν ρ hp w) (hlt:hpLt hp=true) (hρ:∀ j,j<hp.length→ρ' j=ρ j):HS E ν ρ' hp w:=by
 refine ⟨⟨fun j bk hj=>?_,fun j j' b1 b2 hj ho hj' hne hn1 hn2 b hf1 hf2=>?_⟩,fun j bk hj=>?_,h.fr,h.len,fun j hj=>by rw [hρ j (by have:=h.len;omega)];exact h.keep j hj⟩
 ·rw [hρ j (za4 hj)]
  exact (h.heap.blk j bk hj).keep hρ (zam hlt hj)
 ·rw [hρ j (za4 hj)] at hn1 hf1
  rw [hρ j' (za4 hj')] at hn2 hf2
  exact h.heap.apart j j' b1 b2 hj ho hj' hne hn1 hn2 b hf1 hf2
 ·rw [hρ j (za4 hj)]
  exact h.old j bk hj
end
end Go.Sx
namespace Go.Sx
open Go.RowKit
section
variable {P:Program} {I:World→Prop} {S:Sigs} {F:FEnv} {E:Env} {ν:Nat→DV}
theorem za7 {t:TypeId} {e:Nat} (h:tk P t=some (.slice e)):P.underlying t=some (.slice e):=by
 obtain ⟨d,hd,hk⟩:=zey h
 cases d<;>simp [tkOf] at hk
 subst hk
 exact hd
theorem zhh {hp:List (Option Blk)} {b:Nat} {r:Bool×List LT×A} (h:zkb hp b=some r):nth hp b=some (.v r.1 r.2.1 r.2.2):=by
 unfold zkb at h
 split at h
 ·rename_i hb
  cases h
  exact hb
 ·cases h
theorem zdD {hp:List (Option Blk)} {b:Nat} {r:Bool×List LT×A} (h:zcY hp b=some r) {ρ:Nat→Loc} {w:World} (hw:HS E ν ρ hp w):VRel E w (ρ b) r.1 r.2.1 (r.2.2.cells ν):=by
 unfold zcY at h
 split at h
 ·rename_i hb
  cases h
  exact hw.heap.blk b _ hb
 ·rename_i hb
  cases h
  exact LRel.row (hw.heap.blk b _ hb)
 ·cases h
theorem zru {hp:List (Option Blk)} {b:Nat} {r:Bool×List LT×A} (h:zcY hp b=some r):(∃ o,nth hp b=some (.v o r.2.1 r.2.2)∧r.1=o)∨∃ o f,nth hp b=some (.l o f r.2.1 r.2.2):=by
 unfold zcY at h
 split at h
 ·rename_i hb
  cases h
  exact .inl ⟨_,hb,rfl⟩
 ·rename_i hb
  cases h
  exact .inr ⟨_,_,hb⟩
 ·cases h
theorem zn7 {hp:List (Option Blk)} {b:Nat} {r:Bool×List LT×A} (h:zkb hp b=some r) {ρ:Nat→Loc} {w:World} (hw:HS E ν ρ hp w):VRel E w (ρ b) r.1 r.2.1 (r.2.2.cells ν) :=
 hw.heap.blk b _ (zhh h)
theorem VRel.elems {w:World} {r:Loc} {o:Bool} {ts:List LT} {xs:List DV} (h:VRel E w r o ts xs):xs.length/ts.length=r.len:=by
 rw [h.len];exact Nat.mul_div_cancel _ h.pos
theorem zcd {a b:A} : M.sat F ν (zgg a b) (fun _=>a.int ν≤b.int ν):=by
 unfold zgg
 split
 ·exact zae (fun h=>zab (by simpa using h)) (fun _=>zac)
 ·refine zaa (zag (Q:=fun r=>r.bool ν=decide (a.int ν≤b.int ν)) fun r h=>A.bool_of_den h) fun r hr=>?_
  exact zbk fun h=>by rw [hr] at h;simpa using h
theorem zmE {hp:List (Option Blk)} {t:TypeId} {v:V} : M.sat F ν (zuB P hp t v) (fun u=>u.good ν∧∀ ρ w w1 ty (ts:Array TypeId),ts[0]? = some t→HS E ν ρ hp w →
  (Builtin.len_ ts ty #[v.conc ν ρ]).run P w1 = .ok (u.conc ν ρ) w1):=by
 unfold zuB
 refine zaa (zad (Q:=fun k=>P.underlying t=some k) fun a h=>h) fun k hk=>?_
 split
 ·rename_i e b
  refine zaa (zad (Q:=fun r=>zcY hp b=some r) fun a h=>h) fun r hr=>?_
  refine zaa (zag (Q:=fun q=>q.int ν=((r.2.2.cells ν).length/r.2.1.length:Nat)) fun q h=>A.int_of_den h) fun q hq=>zab ⟨V1.good_one.2 trivial,fun ρ w w1 ty ts hts hw=>?_⟩
  have hl:=(zdD hr hw).elems
  simp [Builtin.len_,hts,run_underlying hk,V.conc,V1.conc,Lf.conc,Loc.slice,goInt,hq,hl]
 ·refine zab ⟨V1.good_one.2 trivial,fun ρ w w1 ty ts hts hw=>?_⟩
  simp [Builtin.len_,hts,run_underlying hk,V.conc,V1.conc,Lf.conc,goInt]
 ·refine zab ⟨V1.good_one.2 trivial,fun ρ w w1 ty ts hts hw=>?_⟩
  simp [Builtin.len_,hts,run_underlying hk,V.conc,V1.conc,Lf.conc,goInt]
 ·rename_i a
  refine zaa (zag (Q:=fun q=>q.int ν=((a.cells ν).length/1:Nat)) fun q h=>A.int_of_den h) fun q hq=>zab ⟨V1.good_one.2 trivial,fun ρ w w1 ty ts hts hw=>?_⟩
  have hz:(zfh (a.cells ν)).size=(a.cells ν).length:=by
   show ((a.cells ν).map DV.byte).toArray.size=_
   rw [List.size_toArray,List.length_map]
  simp [Builtin.len_,hts,run_underlying hk,V.conc,V1.conc,Lf.conc,goInt,hq,hz]
 ·refine zab ⟨V1.good_one.2 trivial,fun ρ w w1 ty ts hts hw=>?_⟩
  simp [Builtin.len_,hts,run_underlying hk,V.conc,V1.conc,Lf.conc,goInt]
 ·exact zac
theorem zp8 (w:World) (l:List DV) (acc:ByteArray) (f:Value→ByteArray→Sem (ForInStep ByteArray))
  (hf:∀ (d:DV) (a:ByteArray),(f (.int .u8 d.toI) a).run P w = .ok (.yield (a.push d.byte)) w) :
  (forIn (l.map fun d=>Value.int .u8 d.toI) acc f).run P w = .ok ⟨acc.data++(l.map DV.byte).toArray⟩ w:=by
 induction l generalizing acc with
 | nil=>simp
 | cons d l ih =>
  simp only [List.map_cons,List.forIn_cons,Sem.run_bind,hf,Result.andThen_ok]
  rw [ih]
  simp [ByteArray.push]
theorem zp9 {hp:List (Option Blk)} {s d:TypeId} {b:Nat} : M.sat F ν (zmn P hp s d b) (fun v=>v.good ν∧∀ ρ w w1,HS E ν ρ hp w→w1=w →
  (convert s d ((Lf.vec b).conc ν ρ)).run P w1 = .ok (v.conc ν ρ) w1):=by
 unfold zmn
 refine zaa (zad (Q:=fun k=>tk P s=some k) fun a h=>h) fun k hk=>?_
 refine zaa (zad (Q:=fun k=>P.underlying d=some k) fun a h=>h) fun kd hkd=>?_
 split
 ·rename_i e
  have hks:=za7 hk
  refine zaa (zad (Q:=fun k=>tk P e=some k) fun a h=>h) fun ke hke=>?_
  refine zaa (zad (Q:=fun r=>zcY hp b=some r) fun a h=>h) fun r hr=>?_
  split
  ·rename_i o a
   refine zab ⟨V1.good_one.2 trivial,fun ρ w w1 hw he=>?_⟩
   subst he
   have hv:=zdD hr hw
   have hue:=zpm hke
   have hlen:((a.cells ν).map fun d=>Value.int .u8 d.toI).length=(ρ b).len:=by
    rw [List.length_map];simpa using hv.len
   have hld:∀ x:Addr,(∀ j v,((a.cells ν).map fun d=>Value.int .u8 d.toI)[j]? = some v→w1.cell? (x.add j)=some v) →
     (Conv.bytesToString (.slice (some x) (ρ b).len (ρ b).cap)).run P w1 = .ok (.string (zfh (a.cells ν))) w1:=by
    intro x hx
    have h1:=run_loadCells_list (P:=P) w1 x _ hx
    rw [hlen] at h1
    simp only [Conv.bytesToString,Sem.run_bind,h1,Result.andThen_ok]
    rw [←Array.forIn_toList,zp8 (P:=P) w1 (a.cells ν) ByteArray.empty _ (fun d acc=>by simp [DV.byte])]
    have he:ByteArray.empty.data = #[]:=rfl
    simp [zfh,he]
   have hcv:∀ x:Option Addr,(x=none→a.cells ν=[])→(∀ y,x=some y→∀ j v,((a.cells ν).map fun d=>Value.int .u8 d.toI)[j]? = some v→w1.cell? (y.add j)=some v) →
     (convert s d (.slice x (ρ b).len (ρ b).cap)).run P w1 = .ok (.string (zfh (a.cells ν))) w1:=by
    intro x h0 h1
    cases x with
    | none =>
     have he:ByteArray.empty=⟨#[]⟩:=rfl
     simp [convert,run_underlying hks,run_underlying hkd,run_underlying hue,Conv.bytesToString,zfh,h0 rfl,he]
    | some y =>
     have:=hld y (h1 y rfl)
     simp [convert,run_underlying hks,run_underlying hkd,run_underlying hue,this]
   cases hn:(ρ b).nil with
   | true =>
    have h0:=(hv.nil hn).1
    have hl:a.cells ν=[]:=by
     have h1:=hv.len
     simp only at h1
     rw [h0,Nat.zero_mul] at h1
     exact List.eq_nil_of_length_eq_zero h1
    have:=hcv (ρ b).raw (fun _=>hl) (fun y _ j v h=>by simp [hl] at h)
    simpa [V.conc,V1.conc,Lf.conc,Loc.slice,hn] using this
   | false =>
    have:=hcv (some ⟨(ρ b).blk,(ρ b).off,none⟩) (fun h=>by cases h) (fun y hy j v h=>by
     cases hy
     rw [List.getElem?_map] at h
     cases hd:(a.cells ν)[j]? with
     | none=>rw [hd] at h;cases h
     | some d =>
      rw [hd] at h
      cases h
      have hj:j<(a.cells ν).length:=by
       rcases Nat.lt_or_ge j (a.cells ν).length with h | h
       ·exact h
       ·rw [List.getElem?_eq_none h] at hd;cases hd
      obtain ⟨v,h1,h2⟩:=hv.cell j hj
      rw [zbH,h1]
      simp only [List.length_singleton,Nat.mod_one,List.getD_cons_zero] at h2
      rw [show (a.cells ν).getD j default=d from by simp [List.getD,hd]] at h2
      cases h2
      rfl)
    simpa [V.conc,V1.conc,Lf.conc,Loc.slice,hn] using this
  ·exact zac
 ·exact zac
theorem zkA {i n s:Nat} (h:i<n/s):(i+1)*s≤n:=by
 have:(i+1)*s≤n/s*s:=Nat.mul_le_mul_right _ h
 exact Nat.le_trans this (Nat.div_mul_le_self n s)
theorem zft {hp:List (Option Blk)} {t:TypeId} {b:Nat} {ix:Lf} : M.sat F ν (zg7 P hp t b ix) (fun l=>l.good ν∧∀ ρ w w1,HS E ν ρ hp w →
  (Instr.indexAt t (ρ b).slice (ix.conc ν ρ)).run P w1 = .ok (l.conc ν ρ) w1):=by
 unfold zg7
 refine zaa (zad (Q:=fun k=>tk P t=some k) fun a h=>h) fun k hk=>?_
 split
 ·rename_i elem ki i
  have hu:=za7 hk
  refine zaa (zad (Q:=fun k=>zaM P elem=some k) fun a h=>h) fun sz hs=>?_
  refine zaa (zad (Q:=fun r=>zcY hp b=some r) fun a h=>h) fun r hr=>?_
  refine zae (fun hc=>?_) (fun _=>zac)
  have hc:=Nat.eq_of_beq_eq_true hc
  refine zaa zbF fun _ h0=>?_
  refine zaa (zag (Q:=fun q=>q.int ν=((r.2.2.cells ν).length/r.2.1.length:Nat)) fun q h=>A.int_of_den h) fun n hn=>?_
  refine zaa (zag (Q:=fun q=>q.bool ν=decide (i.int ν<n.int ν)) fun q h=>A.bool_of_den h) fun q hq=>?_
  refine zaa (zbk (Q:=fun _=>i.int ν<n.int ν) fun h=>by rw [hq] at h;simpa using h) fun _ hlt=>zab ⟨⟨h0,?_⟩,fun ρ w w1 hw=>?_⟩
  ·rw [hn] at hlt
   rw [hc]
   exact zkA (by omega)
  ·have hv:=zdD hr hw
   rw [hn,hv.elems] at hlt
   have hnil:(ρ b).nil=false:=by
    cases hx:(ρ b).nil with
    | false=>rfl
    | true=>have:=(hv.nil hx).1;omega
   simp [Instr.indexAt,asIntOf,Lf.conc,Loc.slice,hnil,run_underlying hu,h0,hlt,za6 hs,zbH,Off.val]
 ·exact zac
theorem zdX {sz:Nat} {ix a0 a:A} (h0:0≤ix.int ν) (h1:((ix.int ν).toNat+1)*sz≤(a0.cells ν).length):M.sat F ν (zg8 sz ix a0 a) (fun _=>((ix.int ν).toNat+1)*sz≤(a.cells ν).length):=by
 unfold zg8
 refine zae (fun h=>zab ?_) (fun _=>?_)
 ·have:=A.beq_den h ν
  rwa [show A.cells ν a=A.cells ν a0 from by simp [A.cells,this]]
 ·refine zaa (zag (Q:=fun q=>q.int ν=((a.cells ν).length/sz:Nat)) fun q h=>A.int_of_den h) fun n hn=>?_
  refine zaa (zag (Q:=fun q=>q.bool ν=decide (ix.int ν<n.int ν)) fun q h=>A.bool_of_den h) fun q hq=>?_
  exact zbk fun h=>by
   rw [hq,hn] at h
   exact zkA (by have:=of_decide_eq_true h;omega)
theorem VRel.at {w:World} {r:Loc} {o:Bool} {ts:List LT} {xs:List DV} (h:VRel E w r o ts xs) {i j:Nat} (hj:j<ts.length) (hi:(i+1)*ts.length≤xs.length) :
  ∃ v,w.cell? ⟨r.blk,r.off+(j+i*ts.length),none⟩=some v∧CRel E (ts.getD j .bool) (xs.getD (i*ts.length+j) default) v:=by
 have hlt:i*ts.length+j<xs.length:=by rw [Nat.add_mul] at hi;omega
 obtain ⟨v,h1,h2⟩:=h.cell _ hlt
 rw [Nat.mul_comm i,Nat.mul_add_mod,Nat.mod_eq_of_lt hj] at h2
 refine ⟨v,?_,by rw [Nat.mul_comm i];exact h2⟩
 rw [←h1]
 congr 2
 omega
theorem zfP {ts:List LT} {a ix:A} {j:Nat} (hj:j<ts.length) (hl:((ix.int ν).toNat+1)*ts.length≤(a.cells ν).length) :
  M.sat F ν (zg9 ts.length j a ix (ts.getD j .bool)) (fun x=>x.good ν∧∀ (ρ:Nat→Loc) (w:World) (r:Loc) o,VRel E w r o ts (a.cells ν) →
   w.cell? ⟨r.blk,r.off+(j+(ix.int ν).toNat*ts.length),none⟩=some (x.conc ν ρ)):=by
 cases ht:ts.getD j .bool with
 | int k =>
  unfold zg9
  refine zaa (zag (Q:=fun q=>q.int ν=((a.cells ν).getD ((ix.int ν).toNat*ts.length+j) default).toI) fun q h=>A.int_of_den h) fun q hq=>zab ⟨trivial,fun ρ w r o hv=>?_⟩
  obtain ⟨v,h1,h2⟩:=hv.at hj hl
  rw [ht] at h2
  rw [h1]
  cases h2
  simp [Lf.conc,hq]
 | bool =>
  unfold zg9
  refine zaa (zag (Q:=fun q=>q.bool ν=((a.cells ν).getD ((ix.int ν).toNat*ts.length+j) default).toB) fun q h=>A.bool_of_den h) fun q hq=>zab ⟨trivial,fun ρ w r o hv=>?_⟩
  obtain ⟨v,h1,h2⟩:=hv.at hj hl
  rw [ht] at h2
  rw [h1]
  cases h2
  simp [Lf.conc,hq]
 | vec us=>exact zac
theorem zdY {ts:List LT} {a ix:A} (hl:((ix.int ν).toNat+1)*ts.length≤(a.cells ν).length):∀ (n j:Nat),j+n≤ts.length →
  M.sat F ν (zeq ts a ix j n) (fun xs=>xs.length=n∧(∀ x∈xs,Lf.good ν x)∧∀ i x,xs[i]? = some x→∀ (ρ:Nat→Loc) (w:World) (r:Loc) o,VRel E w r o ts (a.cells ν) →
   w.cell? ⟨r.blk,r.off+(j+i+(ix.int ν).toNat*ts.length),none⟩=some (x.conc ν ρ))
 | 0,j,_=>zab ⟨rfl,fun x hx=>(by cases hx),fun i x h=>(by simp at h)⟩
 | n+1,j,hj=>by
  unfold zeq
  refine zaa (zfP (E:=E) (show j<ts.length by omega) hl) fun x hx=>zaa (zdY hl n (j+1) (by omega)) fun r hr=>zab ⟨by simp [hr.1],fun y hy=>?_,fun i y hi=>?_⟩
  ·rcases List.mem_cons.1 hy with rfl | hy
   ·exact hx.1
   ·exact hr.2.1 y hy
  ·cases i with
   | zero=>simp at hi;subst hi;exact hx.2
   | succ i =>
    have:=hr.2.2 i y (by simpa using hi)
    rwa [show j+1+i=j+(i+1) from by omega] at this
theorem zn8 {ts:List LT} {base size:Nat} {t:LT} (h:zra ts base size=some t):t.flat=true∧∀ i,i<size→ts.getD (base+i) .bool=t:=by
 unfold zra at h
 split at h
 ·rename_i u l hl
  split at h
  ·rename_i hc
   cases h
   simp only [Bool.and_eq_true] at hc
   obtain ⟨⟨⟨_,c2⟩,c3⟩,c4⟩:=hc
   have c2:=Nat.eq_of_beq_eq_true c2
   refine ⟨c3,fun i hi=>?_⟩
   have e:ts[base+i]? = (t::l)[i]?:=by rw [←hl,List.getElem?_take_of_lt hi,List.getElem?_drop]
   rw [List.getD_eq_getElem?_getD,e]
   cases i with
   | zero=>rfl
   | succ i =>
    rw [List.getElem?_cons_succ,List.getElem?_eq_getElem (by omega)]
    exact (LT.feq_eq (List.all_eq_true.1 c4 _ (List.getElem_mem _))).symm
  ·cases h
 ·cases h
theorem zpp (t:LT) (a:A):∀ (n i:Nat),(allE t a i n).length=n
 | 0,_=>rfl
 | n+1,i=>by simp [allE,zpp t a n]
theorem zpq {t:LT} {a:A} : ∀ {n i j:Nat} {x:Lf},(allE t a i n)[j]? = some x→j<n∧x = .e t a (i+j)
 | 0,i,j,x,h=>by simp [allE] at h
 | n+1,i,0,x,h=>by simp [allE] at h;exact ⟨by omega,h.symm⟩
 | n+1,i,j+1,x,h=>by
  simp only [allE,List.getElem?_cons_succ] at h
  obtain ⟨h1,h2⟩:=zpq h
  exact ⟨by omega,by rw [h2];congr 1;omega⟩
theorem zmF {t:LT} {a:A} {x:Lf} : ∀ {n i:Nat},x∈allE t a i n→x.good ν
 | 0,_,h=>by cases h
 | n+1,i,h=>by
  rcases List.mem_cons.1 h with rfl | h
  ·trivial
  ·exact zmF h
theorem zfQ {t:TypeId} {k:TK} {sz:Nat} {ts:List LT} {a:A} {off:Off} (hk:tk P t=some k) (hs:zaM P t=some sz) (hg:off.good ν) :
  M.sat F ν (zfI ts a off (zb0 k) sz) (fun v=>v.good ν∧∀ (ρ:Nat→Loc) (w:World) (r:Loc) o,VRel E w r o ts (a.cells ν)→(loadVar t ⟨r.blk,r.off+off.val ν,none⟩).run P w = .ok (v.conc ν ρ) w):=by
 unfold zfI
 split
 ·rename_i base ix sz' a0
  refine zae (fun hc=>?_) (fun _=>zac)
  simp only [Bool.and_eq_true] at hc
  have h1:=Nat.eq_of_beq_eq_true hc.1
  have h2:=Nat.le_of_ble_eq_true hc.2
  subst h1
  refine zaa (zdX hg.1 hg.2) fun _ hl=>?_
  refine zae (fun ha=>?_) (fun ha=>?_)
  ·split
   ·rename_i u hgr
    have hgs:=zn8 hgr
    refine zaa (zag (Q:=fun q=>q.cells ν=(List.range sz).map fun k=>(a.cells ν).getD ((ix.int ν).toNat*ts.length+base+k) default) fun q h=>A.cells_of_den h) fun q hq=>zab ⟨V1.good_agg.2 fun x hx=>zmF hx,fun ρ w r o hv=>?_⟩
    refine zbC hk ha hs (by simp [zpp]) fun i v hi=>?_
    rw [List.getElem?_map] at hi
    obtain ⟨l,hl',rfl⟩:=Option.map_eq_some_iff.1 hi
    obtain ⟨hi2,rfl⟩:=zpq hl'
    obtain ⟨v,g1,g2⟩:=hv.at (i:=(ix.int ν).toNat) (j:=base+i) (by omega) hl
    rw [hgs.2 i hi2] at g2
    have e1:(⟨r.blk,r.off+(Off.v base ix ts.length a0).val ν+i,none⟩:Addr)=⟨r.blk,r.off+(base+i+(ix.int ν).toNat*ts.length),none⟩:=by
     simp only [Off.val];congr 1;omega
    rw [e1,g1]
    have e2:(q.cells ν).getD (0+i) default=(a.cells ν).getD ((ix.int ν).toNat*ts.length+(base+i)) default:=by
     rw [hq,List.getD_eq_getElem?_getD,List.getElem?_map,List.getElem?_range (by omega),Nat.zero_add]
     show (a.cells ν).getD ((ix.int ν).toNat*ts.length+base+i) default=_
     congr 1
     omega
    congr 1
    have hfl:=hgs.1
    cases u with
    | int kk=>cases g2;simp only [Lf.conc];rw [e2]
    | bool=>cases g2;simp only [Lf.conc];rw [e2]
    | vec us=>cases hfl
   ·refine zaa (zdY (E:=E) hl sz base h2) fun xs hxs=>zab ⟨V1.good_agg.2 hxs.2.1,fun ρ w r o hv=>?_⟩
    refine zbC hk ha hs (by simpa using hxs.1) fun i v hi=>?_
    rw [List.getElem?_map] at hi
    obtain ⟨l,hl',rfl⟩:=Option.map_eq_some_iff.1 hi
    have:=hxs.2.2 i l hl' ρ w r o hv
    rw [←this]
    simp only [Off.val]
    congr 2
    omega
  ·refine zae (fun hb=>?_) (fun _=>zac)
   have hb:base<ts.length:=Nat.le_of_ble_eq_true hb
   refine zaa (zfP (E:=E) hb hl) fun x hx=>zab ⟨V1.good_one.2 hx.1,fun ρ w r o hv=>?_⟩
   exact zbl hk ha (hx.2 ρ w r o hv)
 ·rename_i base ix sz' a0 ix2 sz2 len2
  refine zae (fun hc=>?_) (fun _=>zac)
  simp only [Bool.and_eq_true,Bool.not_eq_true'] at hc
  obtain ⟨⟨⟨ha,h1⟩,h2⟩,h3⟩:=hc
  have h1:=Nat.eq_of_beq_eq_true h1
  have h2:=Nat.le_of_ble_eq_true h2
  have h3:=Nat.eq_of_beq_eq_true h3
  subst h1 h3
  refine zaa (zdX hg.1.1 hg.1.2) fun _ hl=>zaa (zdY (E:=E) hl len2 base h2) fun xs hxs=>zaa (zcc hxs.1 hg.2.1 hg.2.2) fun x hx=>zab ⟨V1.good_one.2 hx.1,fun ρ w r o hv=>?_⟩
  obtain ⟨y,e1,e2⟩:=hx.2 ρ
  refine zbl hk (by rw [ha];decide) ?_
  have:=hxs.2.2 _ y e1 ρ w r o hv
  rw [V1.conc,e2,←this]
  simp only [Off.val]
  congr 2
  omega
 ·exact zac
theorem Lf.lt_mono {n m:Nat} (h:n≤m) {x:Lf} (hx:x.lt n=true):x.lt m=true:=by
 cases x<;>simp only [Lf.lt,decide_eq_true_eq] at hx ⊢<;>try omega
 ·exact List.all_eq_true.2 fun b hb=>by have:=List.all_eq_true.1 hx b hb;simp only [decide_eq_true_eq] at this ⊢;omega
 ·refine List.all_eq_true.2 fun b hb=>?_
  have:=List.all_eq_true.1 hx b hb
  obtain ⟨k,y⟩:=b
  cases y<;>simp only [Alt.lt,decide_eq_true_eq] at this ⊢<;>omega
theorem Blk.lt_mono {n m:Nat} (h:n≤m) {x:Blk} (hx:x.lt n=true):x.lt m=true:=by
 cases x with
 | obj=>rfl
 | v o ts a=>rfl
 | l o f ts a=>rfl
 | m o kt vt cs=>exact List.all_eq_true.2 fun y hy=>Lf.lt_mono h (List.all_eq_true.1 (show cs.all (Lf.lt n)=true from hx) y hy)
 | c o cs =>
  refine List.all_eq_true.2 fun y hy=>?_
  have:=List.all_eq_true.1 (show cs.all (zao (Lf.lt n))=true from hx) y hy
  cases y with
  | none=>rfl
  | some l=>exact Lf.lt_mono h this
theorem zrv {hp:List (Option Blk)} (h:hpLt hp=true) {bk:Blk} (hb:bk.lt (hp.length+1)=true):hpLt (hp++[some bk])=true:=by
 unfold hpLt at *
 rw [List.all_append,List.length_append]
 simp only [List.all_cons,List.all_nil,Bool.and_true,Bool.and_eq_true,List.length_cons,List.length_nil]
 refine ⟨List.all_eq_true.2 fun x hx=>?_,hb⟩
 have:=List.all_eq_true.1 h x hx
 cases x with
 | none=>rfl
 | some b=>exact Blk.lt_mono (by omega) this
theorem CRel.vec_inv {us:List LT} {d:DV} {v:Value} (h:CRel E (.vec us) d v):∃ (r:Loc) (vs:Nat→Value),v=r.slice∧(r.nil=true→r.len=0∧r.cap=0)∧(r.nil=false→r.blk<E.w0.heap.size∧¬ E.W r.blk∧E.V r.blk) ∧
  0<us.length∧d.toL.length=r.len*us.length∧r.len≤r.cap∧(∀ i,i<d.toL.length→E.w0.cell? ⟨r.blk,r.off+i,none⟩=some (vs i))∧∀ i,i<d.toL.length→CRel E (us.getD (i%us.length) .bool) (d.toL.getD i default) (vs i):=by
 cases h with
 | vec _ _ r vs hnil hlt hpos hlen hcap hv hc=>exact ⟨r,vs,rfl,hnil,hlt,hpos,hlen,hcap,hv,hc⟩
theorem zdn {ts:List LT} {a ix:A} (hl:((ix.int ν).toNat+1)*ts.length≤(a.cells ν).length):∀ (n j:Nat) (hp:List (Option Blk)),j+n≤ts.length →
  M.sat F ν (zdu ts a ix j n hp) (fun q=>∀ ρ w,HS E ν ρ hp w→hpLt hp=true→∀ (r:Loc) o,VRel E w r o ts (a.cells ν) →
   q.1.length=n∧(∀ x∈q.1,Lf.good ν x)∧∃ ρ':Nat→Loc,(∀ k,k<hp.length→ρ' k=ρ k)∧HS E ν ρ' q.2 w∧∀ i x,q.1[i]? = some x →
    w.cell? ⟨r.blk,r.off+(j+i+(ix.int ν).toNat*ts.length),none⟩=some (x.conc ν ρ'))
 | 0,j,hp,_=>zab fun ρ w h _ r o hv=>⟨rfl,fun x hx=>(by cases hx),ρ,fun _ _=>rfl,h,fun i x h=>(by simp at h)⟩
 | n+1,j,hp,hj=>by
  unfold zdu
  have hj2:j<ts.length:=by omega
  split
  ·rename_i us hus
   refine zae (fun hfl=>?_) (fun _=>zac)
   refine zaa (zag (Q:=fun q=>q.cells ν=((a.cells ν).getD ((ix.int ν).toNat*ts.length+j) default).toL) fun q h=>A.cells_of_den h) fun q hq=>?_
   refine zaa (zdn hl n (j+1) (hp++[some (.v false us q)]) (by omega)) fun z hz=>zab fun ρ w h hlt r o hv=>?_
   obtain ⟨v,h1,h2⟩:=hv.at hj2 hl
   rw [hus] at h2
   generalize hd:(a.cells ν).getD ((ix.int ν).toNat*ts.length+j) default=d at *
   obtain ⟨r2,vs,rfl,hnil,hloc,hpos,hlen,hcap,hcv,hc⟩:=CRel.vec_inv h2
   have hbel:Below w.heap.size w w:=Below.refl _ _
   have hsame:r2.nil=false→∀ i,w.cell? ⟨r2.blk,r2.off+i,none⟩=E.w0.cell? ⟨r2.blk,r2.off+i,none⟩:=fun hn i=>by
    obtain ⟨k1,k2,_⟩:=hloc hn
    exact World.cell?_of_block (w:=E.w0) (h.fr.block _ k1 k2)
   have hrel:VRel E w r2 false us (q.cells ν):=by
    rw [hq]
    refine ⟨hnil,fun hn=>Nat.lt_of_lt_of_le (hloc hn).1 h.fr.size,hpos,hlen,hcap,fun i hi=>?_,fun e=>(by cases e),fun e=>by cases e⟩
    cases hn:r2.nil with
    | true =>
     have:=(hnil hn).1
     rw [hlen,this,Nat.zero_mul] at hi
     omega
    | false=>exact ⟨vs i,by rw [hsame hn i];exact hcv i hi,hc i hi⟩
   have hpush:=h.pushP hlt hbel (bk:=.v false us q) (r:=r2) hrel (fun k b' hk hn hn'=>⟨fun o=>(by cases o),fun ho hfo=>by
    obtain ⟨k1,k2,_⟩:=hloc hn
    rcases h.old k b' hk with g | g
    ·rw [hn'] at g;cases g
    ·rcases g.wr ho _ hfo with g | g
     ·omega
     ·exact k2 g⟩) (by
    cases hn:r2.nil with
    | true=>exact .inl rfl
    | false=>exact .inr (.inr (.inr ⟨rfl,(hloc hn).2.2⟩)))
   obtain ⟨z1,z2,ρ',z3,z4,z5⟩:=hz _ w hpush (zrv hlt rfl) r o hv
   rw [List.length_append,List.length_cons,List.length_nil] at z3
   refine ⟨by simp [z1],fun x hx=>?_,ρ',fun k hk=>by rw [z3 k (by omega),zbO hk],z4,fun i x hi=>?_⟩
   ·rcases List.mem_cons.1 hx with rfl | hx
    ·trivial
    ·exact z2 x hx
   ·cases i with
    | zero =>
     simp only [List.getElem?_cons_zero,Option.some.injEq] at hi
     subst hi
     rw [Nat.add_zero,h1]
     simp only [Lf.conc,z3 hp.length (by omega),zbI]
    | succ i =>
     rw [List.getElem?_cons_succ] at hi
     have:=z5 i x hi
     rwa [show j+1+i=j+(i+1) from by omega] at this
  ·refine zaa (zfP (E:=E) hj2 hl) fun x hx=>zaa (zdn hl n (j+1) hp (by omega)) fun z hz=>zab fun ρ w h hlt r o hv=>?_
   obtain ⟨z1,z2,ρ',z3,z4,z5⟩:=hz ρ w h hlt r o hv
   refine ⟨by simp [z1],fun y hy=>?_,ρ',z3,z4,fun i y hi=>?_⟩
   ·rcases List.mem_cons.1 hy with rfl | hy
    ·exact hx.1
    ·exact z2 y hy
   ·cases i with
    | zero =>
     simp only [List.getElem?_cons_zero,Option.some.injEq] at hi
     subst hi
     exact hx.2 ρ' w r o hv
    | succ i =>
     rw [List.getElem?_cons_succ] at hi
     have:=z5 i y hi
     rwa [show j+1+i=j+(i+1) from by omega] at this
theorem zmG {t:TypeId} {k:TK} {sz:Nat} {ts:List LT} {a:A} {off:Off} {hp:List (Option Blk)} (hk:tk P t=some k) (hs:zaM P t=some sz) (hg:off.good ν) :
  M.sat F ν (zic ts a off (zb0 k) sz hp) (fun q=>∀ ρ w,HS E ν ρ hp w→hpLt hp=true→∀ (r:Loc) o,VRel E w r o ts (a.cells ν) →
   q.1.good ν∧∃ ρ':Nat→Loc,(∀ k,k<hp.length→ρ' k=ρ k)∧HS E ν ρ' q.2 w∧(loadVar t ⟨r.blk,r.off+off.val ν,none⟩).run P w = .ok (q.1.conc ν ρ') w):=by
 unfold zic
 split
 ·rename_i base ix sz' a0
  refine zae (fun hc=>?_) (fun _=>zac)
  simp only [Bool.and_eq_true] at hc
  have h1:=Nat.eq_of_beq_eq_true hc.1.1
  have h2:=Nat.le_of_ble_eq_true hc.1.2
  subst h1
  refine zaa (zdX hg.1 hg.2) fun _ hl=>zaa (zdn (E:=E) hl sz base hp h2) fun z hz=>?_
  refine zae (fun ha=>?_) (fun ha=>?_)
  ·refine zab fun ρ w h hlt r o hv=>?_
   obtain ⟨z1,z2,ρ',z3,z4,z5⟩:=hz ρ w h hlt r o hv
   refine ⟨V1.good_agg.2 z2,ρ',z3,z4,zbC hk ha hs (by simpa using z1) fun i v hi=>?_⟩
   rw [List.getElem?_map] at hi
   obtain ⟨l,hl',rfl⟩:=Option.map_eq_some_iff.1 hi
   have:=z5 i l hl'
   rw [←this]
   simp only [Off.val]
   congr 2
   omega
  ·split
   ·rename_i x hx
    refine zab fun ρ w h hlt r o hv=>?_
    obtain ⟨z1,z2,ρ',z3,z4,z5⟩:=hz ρ w h hlt r o hv
    rw [hx] at z2 z5
    refine ⟨V1.good_one.2 (z2 x (by simp)),ρ',z3,z4,zbl hk ha ?_⟩
    have:=z5 0 x rfl
    rw [Nat.add_zero] at this
    exact this
   ·exact zac
 ·refine zaa (zfQ (E:=E) hk hs hg) fun v hv=>zab fun ρ w h hlt r o hr=>?_
  exact ⟨hv.1,ρ,fun _ _=>rfl,h,hv.2 ρ w r o hr⟩
 ·exact zac
def zlC:List DV→Nat→List DV→List DV
 | l,_,[]=>l
 | l,p,v::vs=>zlC (l.set p v) (p+1) vs
theorem zmH:∀ (vs l:List DV) (p:Nat),(zlC l p vs).length=l.length
 | [],_,_=>rfl
 | v::vs,l,p=>by rw [zlC,zmH vs];simp
theorem zi1:∀ (vs l:List DV) (p i:Nat),(i<p∨p+vs.length≤i)→(zlC l p vs)[i]? = l[i]?
 | [],_,_,_,_=>rfl
 | v::vs,l,p,i,h=>by
  simp only [List.length_cons] at h
  rw [zlC,zi1 vs _ _ i (by omega),List.getElem?_set_ne (by omega)]
theorem zpr:∀ (vs l:List DV) (p k:Nat),k<vs.length→p+k<l.length→(zlC l p vs)[p+k]? = vs[k]?
 | [],_,_,_,h,_=>by simp at h
 | v::vs,l,p,0,_,h2=>by
  simp only [zlC,Nat.add_zero] at h2 ⊢
  rw [zi1 vs _ _ p (by omega),List.getElem?_set_self (by simpa using h2)]
  rfl
 | v::vs,l,p,k+1,h1,h2=>by
  rw [zlC,show p+(k+1)=p+1+k from by omega,zpr vs _ (p+1) k (by simpa using h1) (by simp;omega)]
  rfl
theorem zfR {t:LT} {x:Lf} {a:A} (h:zkl t x=some a):x.good ν∧x.ok=true∧∀ ρ,CRel E t (nrm (zmm t) (a.den ν)) (x.conc ν ρ):=by
 unfold zkl at h
 split at h
 ·split at h
  ·rename_i hk
   have:=zb7 hk;subst this
   cases h
   exact ⟨trivial,rfl,fun ρ=>.int _ (.i _)⟩
  ·cases h
 ·cases h
  exact ⟨trivial,rfl,fun ρ=>.bool (.b _)⟩
 ·cases h
theorem zgy {ts:List LT} {ix:A} : ∀ (xs:List Lf) (j:Nat) (a:A),
  M.sat F ν (zgh ts ix j a xs) (fun a'=>∃ vs:List DV,vs.length=xs.length∧a'.cells ν=zlC (a.cells ν) ((ix.int ν).toNat*ts.length+j) vs∧(∀ x∈xs,x.good ν∧x.ok=true) ∧
   ∀ i x v,xs[i]? = some x→vs[i]? = some v→∀ ρ,CRel E (ts.getD (j+i) .bool) v (x.conc ν ρ))
 | [],j,a=>zab ⟨[],rfl,rfl,fun x hx=>(by cases hx),fun i x v h=>(by simp at h)⟩
 | x::xs,j,a=>by
  unfold zgh
  refine zaa (zad (Q:=fun v=>zkl (ts.getD j .bool) x=some v) fun a h=>h) fun v hv=>?_
  refine zaa (zag (Q:=fun q=>q.cells ν=(a.cells ν).set ((ix.int ν).toNat*ts.length+j) (nrm (zmm (ts.getD j .bool)) (v.den ν))) fun q h=>A.cells_of_den h) fun q hq=>?_
  refine zah (zgy xs (j+1) q) fun a' ⟨vs,h1,h2,h3,h4⟩=>⟨nrm (zmm (ts.getD j .bool)) (v.den ν)::vs,by simp [h1],?_,?_,?_⟩
  ·rw [h2,hq]
   rfl
  ·intro y hy
   rcases List.mem_cons.1 hy with rfl | hy
   ·have:=zfR (E:=E) (ν:=ν) hv
    exact ⟨this.1,this.2.1⟩
   ·exact h3 y hy
  ·intro i y u hi hu ρ
   cases i with
   | zero=>simp at hi hu;subst hi;subst hu;exact (zfR hv).2.2 ρ
   | succ i =>
    have:=h4 i y u (by simpa using hi) (by simpa using hu) ρ
    rwa [show j+1+i=j+(i+1) from by omega] at this
theorem zmI {ts:List LT} {a:A} {off:Off} {xs:List Lf} (hg:off.good ν) (hne:xs≠[]) :
  M.sat F ν (zlm ts a off xs) (fun a'=>∀ (ρ:Nat→Loc) (w:World) (r:Loc),VRel E w r true ts (a.cells ν)→r.nil=false∧(∀ x∈xs,x.ok=true) ∧
   (storeCells ⟨r.blk,r.off+off.val ν,none⟩ (xs.map (Lf.conc ν ρ))).run P w = .ok () (w.setCells r.blk (r.off+off.val ν) (xs.map (Lf.conc ν ρ))) ∧
   VRel E (w.setCells r.blk (r.off+off.val ν) (xs.map (Lf.conc ν ρ))) r true ts (a'.cells ν)):=by
 unfold zlm
 split
 ·rename_i base ix sz' a0
  refine zae (fun hc=>?_) (fun _=>zac)
  simp only [Bool.and_eq_true] at hc
  have h1:=Nat.eq_of_beq_eq_true hc.1
  have h2:=Nat.le_of_ble_eq_true hc.2
  subst h1
  refine zaa (zdX hg.1 hg.2) fun _ hl=>?_
  refine zah (zgy (E:=E) xs base a) fun a' ⟨vs,k1,k2,k3,k4⟩ ρ w r hv=>?_
  have hpos:0<xs.length:=by cases xs with | nil=>exact absurd rfl hne | cons x xs=>simp
  have hcap:((ix.int ν).toNat+1)*ts.length≤r.cap*ts.length:=by
   have:=hv.len
   have h3:r.len*ts.length≤r.cap*ts.length:=Nat.mul_le_mul_right _ hv.cap
   omega
  have hnil:r.nil=false:=by
   cases hx:r.nil with
   | false=>rfl
   | true =>
    have:=(hv.nil hx).2
    rw [this,Nat.zero_mul] at hcap
    have:=hv.pos
    rw [Nat.add_mul] at hcap
    omega
  rw [Nat.add_mul,Nat.one_mul] at hl hcap
  rw [Nat.add_comm] at k2
  have hmod:∀ k,k<xs.length→(base+(ix.int ν).toNat*ts.length+k)%ts.length=base+k:=fun k hk=>by
   rw [show base+(ix.int ν).toNat*ts.length+k=ts.length*(ix.int ν).toNat+(base+k) from by rw [Nat.mul_comm];omega,Nat.mul_add_mod,Nat.mod_eq_of_lt (by omega)]
  have hroom:base+(ix.int ν).toNat*ts.length+xs.length≤(a.cells ν).length:=by omega
  have hroom2:base+(ix.int ν).toNat*ts.length+xs.length≤r.cap*ts.length:=by omega
  simp only [Off.val]
  generalize base+(ix.int ν).toNat*ts.length=p at *
  have hex:∀ k,k<xs.length→(w.cell? ⟨r.blk,r.off+p+k,none⟩).isSome=true∧w.frozen? ⟨r.blk,r.off+p+k,none⟩=false:=fun k hk=>by
   have:=hv.own rfl hnil (p+k) (by omega)
   rwa [←Nat.add_assoc] at this
  refine ⟨hnil,fun x hx=>(k3 x hx).2,?_,?_⟩
  ·have:=run_storeCells_cells (P:=P) r.blk (r.off+p) (xs.map (Lf.conc ν ρ)) 0 w (by simpa using fun k hk=>(hex k hk).1) (by simpa using fun k hk=>(hex k hk).2)
    (fun v hv=>by obtain ⟨l,hl,rfl⟩:=List.mem_map.1 hv;exact Lf.ok_conc (k3 l hl).2 ρ)
   simpa using this
  ·have hlen:(a'.cells ν).length=(a.cells ν).length:=by rw [k2,zmH]
   refine ⟨hv.nil,fun e=>by rw [zbq];exact hv.lt e,hv.pos,by rw [hlen];exact hv.len,hv.cap,fun i hi=>?_,fun _ e i hi=>?_,fun ho e=>⟨(hv.fz ho e).1,fun o=>by rw [World.frozen?_setCells];exact (hv.fz ho e).2 o⟩⟩
   ·rw [hlen] at hi
    by_cases hin:p≤i∧i<p+xs.length
    ·obtain ⟨k,hk⟩:∃ k,i=p+k:=⟨i-p,by omega⟩
     have hkl:k<xs.length:=by omega
     have e1:=World.cell?_setCells_in r.blk (xs.map (Lf.conc ν ρ)) (r.off+p) w (by simpa using fun k hk=>(hex k hk).1) k (by simpa using hkl)
     refine ⟨(xs[k]).conc ν ρ,?_,?_⟩
     ·rw [hk,←Nat.add_assoc,e1]
      simp
     ·have e2:=zpr vs (a.cells ν) p k (by omega) (by omega)
      have hkv:k<vs.length:=by omega
      have e3:(a'.cells ν).getD i default=vs[k]:=by
       subst hk
       rw [List.getD_eq_getElem?_getD,k2,e2,List.getElem?_eq_getElem hkv]
       rfl
      have e4:=k4 k xs[k] vs[k] (List.getElem?_eq_getElem hkl) (List.getElem?_eq_getElem hkv) ρ
      rw [e3,hk,hmod k hkl]
      exact e4
    ·obtain ⟨v,g1,g2⟩:=hv.cell i hi
     refine ⟨v,?_,?_⟩
     ·rw [World.cell?_setCells_out _ _ _ _ _ (fun _ _=>by simp;omega)]
      exact g1
     ·have:(a'.cells ν).getD i default=(a.cells ν).getD i default:=by
       rw [List.getD_eq_getElem?_getD,List.getD_eq_getElem?_getD,k2,zi1 vs _ _ i (by omega)]
      rw [this]
      exact g2
   ·rw [World.frozen?_setCells]
    have:=hv.own rfl e i hi
    refine ⟨?_,this.2⟩
    by_cases hi2:p≤i∧i<p+xs.length
    ·obtain ⟨k,hk⟩:∃ k,i=p+k:=⟨i-p,by omega⟩
     have hkl:k<xs.length:=by omega
     have e1:=World.cell?_setCells_in r.blk (xs.map (Lf.conc ν ρ)) (r.off+p) w (by simpa using fun k hk=>(hex k hk).1) k (by simpa using hkl)
     rw [hk,←Nat.add_assoc,e1]
     rfl
    ·rw [World.cell?_setCells_out _ _ _ _ _ (fun _ _=>by simp;omega)]
     exact this.1
 ·exact zac
def za8 (E:Env) (ν:Nat→DV) (ρ:Nat→Loc) (hp:List (Option Blk)) (v:Value) (w':World):OR→Prop
 | .hp (some u) hp'=>u.good ν∧∃ ρ':Nat→Loc,(∀ j,j<hp.length→ρ' j=ρ j)∧HS E ν ρ' hp' w'∧v=u.conc ν ρ'
 | _=>False
theorem za8.run {ρ:Nat→Loc} {hp:List (Option Blk)} {x:Sem Next} {y:Sem Value} {z:OR} (hx:∀ w v w',y.run P w = .ok v w'→x.run P w = .ok (.value v) w')
  (h:∀ w,HS E ν ρ hp w→∃ v w',y.run P w = .ok v w'∧za8 E ν ρ hp v w' z):ORok P I E ν ρ hp x z:=by
 cases z with
 | val v=>intro w hw _;obtain ⟨_,_,_,h2⟩:=h w hw;exact h2.elim
 | hp v hp' =>
  intro w hw _
  obtain ⟨u,w',h1,h2⟩:=h w hw
  cases v with
  | none=>exact h2.elim
  | some v =>
   obtain ⟨g,ρ',h3,h4,h5⟩:=h2
   exact .inl ⟨u,w',hx w u w' h1,ρ',h3,h4,fun q hq=>by cases hq;exact ⟨g,by rw [h5]⟩⟩
theorem za8.mk {ρ:Nat→Loc} {hp hp1:List (Option Blk)} {w':World} {v:Value} {bk:Blk} {r:Loc} (_hl:hp1.length=hp.length) (hv:v=r.slice) (h:HS E ν (ext ρ hp.length r) (hp1++[some bk]) w') :
  za8 E ν ρ hp v w' (.hp (some (.s (.one (.vec hp.length)))) (hp1++[some bk])) :=
 ⟨V1.good_one.2 trivial,ext ρ hp.length r,fun j hj=>zbO hj,h,by rw [hv];simp [V.conc,V1.conc,Lf.conc,zbI]⟩
def zeF (x:Option Value) (d n:Nat):Prop:=(x=none∧n=d)∨∃ k,x=some (.int k n)
theorem zeG {b:Bool} {len cap l h:Nat} {lo hi:Option Value} (hlo:zeF lo 0 l) (hhi:zeF hi len h) (h1:l≤h) (h2:h≤cap) (h3:len≤cap) (w:World) :
  (Instr.sliceBounds b len cap lo hi none).run P w = .ok (l,h,cap) w:=by
 rcases hlo with ⟨rfl,rfl⟩ | ⟨k,rfl⟩<;>rcases hhi with ⟨rfl,rfl⟩ | ⟨k',rfl⟩<;>simp [Instr.sliceBounds,Instr.sliceBound,asIntOf,h1,h2,Int.ofNat_le]
theorem zgz {t:TypeId} {e sz:Nat} (ht:P.underlying t=some (.slice e)) (hs:zaM P e=some sz) {r:Loc} {lo hi:Option Value} {l h:Nat} (hlo:zeF lo 0 l) (hhi:zeF hi r.len h) (h1:l≤h) (h2:h≤r.len) (h3:r.len≤r.cap) (w:World) :
  (Instr.sliceAt t r.slice lo hi none).run P w = .ok (Loc.slice ⟨r.blk,if r.cap=l then r.off else r.off+l*sz,r.nil,h-l,r.cap-l,if r.cap=l then r.raw else r.raw.map fun x:Addr=>x.add (l*sz)⟩) w:=by
 have hb:=zeG (P:=P) (b:=true) (cap:=r.cap) hlo hhi h1 (by omega) h3 w
 simp only [Instr.sliceAt,Instr.slice,Loc.slice,Sem.run_bind,run_underlying ht,Result.andThen_ok,hb,za6 hs,Sem.run_pure]
 cases r.nil
 ·by_cases hc:r.cap=l<;>simp [hc,zbH]
 ·simp
theorem zlD {t:TypeId} {n e sz:Nat} (ht:P.underlying t=some (.array n e)) (hs:zaM P e=some sz) {b o:Nat} {lo hi:Option Value} {l h:Nat} (hlo:zeF lo 0 l) (hhi:zeF hi n h) (h1:l≤h) (h2:h≤n) (w:World) :
  (Instr.sliceAt t (.pointer (some ⟨b,o,none⟩)) lo hi none).run P w = .ok (Loc.slice ⟨b,if n=l then o else o+l*sz,false,h-l,n-l,none⟩) w:=by
 have hb:=zeG (P:=P) (b:=false) (cap:=n) hlo hhi h1 h2 (Nat.le_refl _) w
 simp only [Instr.sliceAt,Loc.slice,Sem.run_bind,run_underlying ht,Result.andThen_ok,hb,za6 hs,Sem.run_pure,Instr.sureAddr]
 by_cases hc:n=l<;>simp [hc,zbH]
theorem VRel.cut {w:World} {r:Loc} {o:Bool} {ts:List LT} {xs:List DV} (hv:VRel E w r o ts xs) {l h:Nat} (h1:l≤h) (h2:h≤r.len) {x:Option Addr} :
  VRel E w ⟨r.blk,if r.cap=l then r.off else r.off+l*ts.length,r.nil,h-l,r.cap-l,x⟩ o ts ((xs.take (h*ts.length)).drop (l*ts.length)):=by
 have hle:h*ts.length≤xs.length:=by rw [hv.len];exact Nat.mul_le_mul_right _ h2
 have hlen:((xs.take (h*ts.length)).drop (l*ts.length)).length=(h-l)*ts.length:=by
  rw [List.length_drop,List.length_take,Nat.min_eq_left hle,Nat.sub_mul]
 have hcap:=hv.cap
 refine ⟨fun hn=>?_,hv.lt,hv.pos,hlen,by show h-l≤r.cap-l;omega,fun i hi=>?_,fun ho hn i hi=>?_,fun ho hn=>⟨Nat.le_trans (Nat.sub_le _ _) (hv.fz ho hn).1,(hv.fz ho hn).2⟩⟩
 ·have:=hv.nil hn
  exact ⟨by show h-l=0;omega,by show r.cap-l=0;omega⟩
 ·rw [hlen] at hi
  have hlh:l<h:=by
   rcases Nat.lt_or_ge l h with h | h
   ·exact h
   ·rw [Nat.sub_eq_zero_of_le h,Nat.zero_mul] at hi;omega
  rw [Nat.sub_mul] at hi
  obtain ⟨v,e1,e2⟩:=hv.cell (l*ts.length+i) (by omega)
  refine ⟨v,?_,?_⟩
  ·show w.cell? ⟨r.blk,(if r.cap=l then r.off else r.off+l*ts.length)+i,none⟩=some v
   rw [if_neg (by omega),←e1]
   congr 2
   omega
  ·have e3:((xs.take (h*ts.length)).drop (l*ts.length)).getD i default=xs.getD (l*ts.length+i) default:=by
    simp only [List.getD_eq_getElem?_getD]
    rw [List.getElem?_drop,List.getElem?_take_of_lt (by omega)]
   rw [e3]
   have e4:(l*ts.length+i)%ts.length=i%ts.length:=by rw [Nat.mul_comm l,Nat.mul_add_mod]
   rw [←e4]
   exact e2
 ·have hi:i<(r.cap-l)*ts.length:=hi
  have hlc:l<r.cap:=by
   rcases Nat.lt_or_ge l r.cap with h | h
   ·exact h
   ·rw [Nat.sub_eq_zero_of_le h,Nat.zero_mul] at hi;omega
  have hle2:l*ts.length≤r.cap*ts.length:=Nat.mul_le_mul_right _ (by omega)
  rw [Nat.sub_mul] at hi
  have:=hv.own ho hn (l*ts.length+i) (by omega)
  show (w.cell? ⟨r.blk,(if r.cap=l then r.off else r.off+l*ts.length)+i,none⟩).isSome=true∧w.frozen? ⟨r.blk,(if r.cap=l then r.off else r.off+l*ts.length)+i,none⟩=false
  rw [if_neg (by omega),Nat.add_assoc]
  exact this
theorem zfS {sz:Nat} {a:A} {high:Option Lf} (hd:(a.cells ν).length%sz=0):M.sat F ν (zio sz a high) (fun q=>∃ h:Nat,h≤(a.cells ν).length/sz∧q.2.int ν=h∧q.1.cells ν=(a.cells ν).take (h*sz) ∧
  ∀ ρ:Nat→Loc,zeF (high.map (Lf.conc ν ρ)) ((a.cells ν).length/sz) h):=by
 unfold zio
 split
 ·refine zaa (zag (Q:=fun q=>q.int ν=((a.cells ν).length/sz:Nat)) fun q h=>A.int_of_den h) fun n hn=>zab ⟨_,Nat.le_refl _,hn,?_,fun ρ=>.inl ⟨rfl,rfl⟩⟩
  rw [Nat.div_mul_cancel (Nat.dvd_of_mod_eq_zero hd),List.take_length]
 ·rename_i k h
  refine zaa zbF fun _ h0=>?_
  refine zaa (zag (Q:=fun q=>q.int ν=((a.cells ν).length/sz:Nat)) fun q h=>A.int_of_den h) fun n hn=>?_
  refine zaa zcd fun _ h1=>?_
  refine zaa (zag (Q:=fun q=>q.cells ν=(a.cells ν).take ((h.int ν).toNat*sz)) fun q h=>A.cells_of_den h) fun q hq=>zab ⟨(h.int ν).toNat,by omega,by show h.int ν=((h.int ν).toNat:Int);omega,hq,fun ρ=>.inr ⟨k,?_⟩⟩
  simp [Lf.conc,Int.toNat_of_nonneg h0]
 ·exact zac
theorem zhi {sz:Nat} {a n:A} {low:Option Lf} {h:Nat} (hn:n.int ν=h):M.sat F ν (zmo sz a n low) (fun q=>∃ l:Nat,l≤h∧q.cells ν=(a.cells ν).drop (l*sz)∧∀ ρ:Nat→Loc,zeF (low.map (Lf.conc ν ρ)) 0 l):=by
 unfold zmo
 split
 ·exact zab ⟨0,Nat.zero_le _,by simp,fun ρ=>.inl ⟨rfl,rfl⟩⟩
 ·rename_i k l
  refine zaa zbF fun _ h0=>zaa zcd fun _ h1=>?_
  refine zag fun q hq=>⟨(l.int ν).toNat,by omega,A.cells_of_den hq,fun ρ=>.inr ⟨k,?_⟩⟩
  simp [Lf.conc,Int.toNat_of_nonneg h0]
 ·exact zac
theorem zco {ts:List LT} : ∀ {cs:List (Option Lf)} {i:Nat} {r:List Ty×List A},zcA ts i cs=some r→r.1.length=cs.length∧r.2.length=cs.length ∧
  ∀ j,j<cs.length→∃ x,nth cs j=some x∧x.ok=true∧x.good ν∧∀ ρ,CRel E (ts.getD ((i+j)%ts.length) .bool) ((nrmZ r.1 (r.2.map (A.den ν))).getD j default) (x.conc ν ρ)
 | [],i,r,h=>by simp [zcA] at h;subst h;exact ⟨rfl,rfl,fun j hj=>by simp at hj⟩
 | c::cs,i,r,h=>by
  simp only [zcA] at h
  cases c with
  | none=>simp at h
  | some x =>
   simp only [Option.bind_some] at h
   cases hx:zkl (ts.getD (i%ts.length) .bool) x with
   | none=>simp only [hx] at h;cases h
   | some a =>
    simp only [hx] at h
    cases hr:zcA ts (i+1) cs with
    | none=>simp only [hr] at h;cases h
    | some r' =>
     simp only [hr,Option.some.injEq] at h
     subst h
     obtain ⟨h1,h2,h3⟩:=zco hr
     refine ⟨by simp [h1],by simp [h2],fun j hj=>?_⟩
     cases j with
     | zero =>
      have:=zfR (E:=E) (ν:=ν) hx
      exact ⟨x,rfl,this.2.1,this.1,fun ρ=>this.2.2 ρ⟩
     | succ j =>
      obtain ⟨y,k1,k2,k3,k4⟩:=h3 j (by simpa using hj)
      refine ⟨y,k1,k2,k3,fun ρ=>?_⟩
      have:=k4 ρ
      rw [show i+1+j=i+(j+1) from by omega] at this
      exact this
theorem zgA:∀ {ts:List Ty} {ds:List DV},ts.length=ds.length→(nrmZ ts ds).length=ds.length
 | [],[],_=>rfl
 | t::ts,d::ds,h=>by simp [nrmZ,zgA (show ts.length=ds.length by simpa using h)]
 | [],_::_,h=>by simp at h
 | _::_,[],h=>by simp at h
theorem zdZ:∀ {l:List Lf} {ts:List LT},zbx l=some ts→ts.length=l.length
 | [],ts,h=>by simp [zbx] at h;subst h;rfl
 | .i k a::l,ts,h=>by
  simp only [zbx] at h
  obtain ⟨r,hr,rfl⟩:=Option.map_eq_some_iff.1 h
  simp [zdZ hr]
 | .b a::l,ts,h=>by
  simp only [zbx] at h
  obtain ⟨r,hr,rfl⟩:=Option.map_eq_some_iff.1 h
  simp [zdZ hr]
 | .p _ _::_,_,h=>by simp [zbx] at h
 | .gp _ _::_,_,h=>by simp [zbx] at h
 | .nilp::_,_,h=>by simp [zbx] at h
 | .vec _::_,_,h=>by simp [zbx] at h
 | .fnp _ _::_,_,h=>by simp [zbx] at h
 | .v _::_,_,h=>by simp [zbx] at h
theorem CBlk.row {ρ:Nat→Loc} {w:World} {r:Loc} {o:Bool} {cs:List (Option Lf)} (h:CBlk ν ρ w r o cs) {ts:List LT} {q:List Ty×List A} (hq:zcA ts 0 cs=some q) {n:Nat} (hn:cs.length=n*ts.length) (hpos:0<ts.length) (hn63:n≤9223372036854775807) :
  VRel E w ⟨r.blk,r.off,false,n,n,none⟩ o ts (nrmZ q.1 (q.2.map (A.den ν))):=by
 obtain ⟨h1,h2,h3⟩:=zco (E:=E) (ν:=ν) hq
 have hl:(nrmZ q.1 (q.2.map (A.den ν))).length=cs.length:=by rw [zgA (by simp [h1,h2]),List.length_map,h2]
 refine ⟨fun e=>(by cases e),fun _=>h.lt,hpos,by rw [hl,hn],Nat.le_refl _,fun i hi=>?_,fun ho _ i hi=>h.own ho i (by rw [hn];exact hi),fun ho _=>⟨hn63,fun o=>h.fz ho o⟩⟩
 rw [hl] at hi
 obtain ⟨x,k1,_,_,k4⟩:=h3 i hi
 rw [Nat.zero_add] at k4
 exact ⟨_,(h.cell i x k1).2,k4 ρ⟩
theorem zn9 {hp:List (Option Blk)} {t:TypeId} {x:V} {low high:Option Lf} : M.sat F ν (znK P hp t x low high) (fun z=>∀ ρ w,HS E ν ρ hp w →
  ∃ v w',(Instr.sliceAt t (x.conc ν ρ) (low.map (Lf.conc ν ρ)) (high.map (Lf.conc ν ρ)) none).run P w = .ok v w'∧za8 E ν ρ hp v w' z):=by
 unfold znK
 refine zaa (zad (Q:=fun k=>tk P t=some k) fun a h=>h) fun k hk=>?_
 split
 ·rename_i elem b
  refine zaa (zad (Q:=fun k=>zaM P elem=some k) fun a h=>h) fun sz hs=>?_
  refine zaa (zad (Q:=fun r=>zkb hp b=some r) fun a h=>h) fun r hr=>?_
  refine zae (fun hc=>?_) (fun _=>zac)
  simp only [Bool.and_eq_true] at hc
  have h1:=Nat.eq_of_beq_eq_true hc.1
  have hlt:=hc.2
  subst h1
  by_cases hd:(r.2.2.cells ν).length%r.2.1.length=0
  ·refine zaa (zfS hd) fun q ⟨h,k1,k2,k3,k4⟩=>zaa (zhi k2) fun q2 ⟨l,m1,m2,m3⟩=>zab fun ρ w hw=>?_
   have hv:=zn7 hr hw
   rw [hv.elems] at k1 k4
   have hrun:=zgz (P:=P) (za7 hk) hs (r:=ρ b) (m3 ρ) (k4 ρ) m1 k1 hv.cap w
   have hv2:=hv.cut m1 k1 (x:=if (ρ b).cap=l then (ρ b).raw else (ρ b).raw.map fun x:Addr=>x.add (l*r.2.1.length))
   rw [←k3,←m2] at hv2
   refine ⟨_,w,hrun,za8.mk (by split<;>simp [zai]) rfl ?_⟩
   have hbk:=zhh hr
   cases ho:r.1 with
   | true =>
    rw [ho] at hv2 hbk
    simp only [if_true]
    have hk1:=(hw.kill b).pushP (w':=w) (bk:=.v true r.2.1 q2) (r:=⟨(ρ b).blk,if (ρ b).cap=l then (ρ b).off else (ρ b).off+l*r.2.1.length,(ρ b).nil,h-l,(ρ b).cap-l,if (ρ b).cap=l then (ρ b).raw else (ρ b).raw.map fun x:Addr=>x.add (l*r.2.1.length)⟩) (zdC hlt) (Below.refl _ w) hv2
     (fun j b' hj hn1 hn2=>⟨fun _=>hw.heap.apart b j _ b' hbk rfl (zaR hj).2 (Ne.symm (zaR hj).1) hn1 hn2 _ rfl,
      fun _ hfo=>hw.heap.apart b j _ b' hbk rfl (zaR hj).2 (Ne.symm (zaR hj).1) hn1 hn2 _ rfl ((hw.heap.blk j b' (zaR hj).2).rd hn2 hfo)⟩) (by
      rcases hw.oldP hbk with h | h | h | h
      ·exact .inl h
      ·exact .inr (.inl h)
      ·exact .inr (.inr (.inl h))
      ·cases h.1)
    rw [zai] at hk1
    exact hk1
   | false =>
    rw [ho] at hv2 hbk
    simp only [Bool.false_eq_true,if_false]
    refine hw.pushP (w':=w) (bk:=.v false r.2.1 q2) hlt (Below.refl _ w) hv2 (fun j b' hj hn1 hn2=>⟨fun o=>(by cases o),fun hor hfo=>?_⟩) (by
     rcases hw.oldP hbk with h | h | h | h
     ·exact .inl h
     ·exact .inr (.inl h)
     ·exact .inr (.inr (.inl h))
     ·exact .inr (.inr (.inr ⟨rfl,h.2⟩)))
    by_cases hjb:j=b
    ·subst hjb
     rw [hbk] at hj
     cases hj
     cases hor
    ·exact hw.heap.apart j b b' _ hj hor hbk hjb hn2 hn1 _ hfo rfl
  ·refine zaa zap fun q _=>zaa zap fun q2 _=>zab fun ρ w hw=>?_
   have hv:=zn7 hr hw
   exact absurd (by rw [hv.len];exact Nat.mul_mod_left _ _) hd
 ·rename_i n elem b
  refine zaa (zad (Q:=fun bk=>nth hp b=some bk) fun a h=>h) fun bk hbk=>?_
  split
  ·rename_i o cs
   refine zaa (zad (Q:=fun k=>zaM P elem=some k) fun a h=>h) fun sz hs=>?_
   refine zaa zap fun z _=>?_
   refine zaa zap fun ts _=>?_
   refine zaa (zad (Q:=fun r=>zcA ts 0 cs=some r) fun a h=>h) fun r hr=>?_
   refine zae (fun hc=>?_) (fun _=>zac)
   simp only [Bool.and_eq_true] at hc
   obtain ⟨⟨⟨⟨c1,c2⟩,c3⟩,c4⟩,hlt⟩:=hc
   have c4:=Nat.le_of_ble_eq_true c4
   have c1:=Nat.eq_of_beq_eq_true c1
   have c2:0<sz:=Nat.le_of_ble_eq_true c2
   have c3:=Nat.eq_of_beq_eq_true c3
   subst c1
   refine zaa (zag (Q:=fun q=>q.cells ν=nrmZ r.1 (r.2.map (A.den ν))) fun q h=>A.cells_of_den h) fun q0 hq0=>?_
   have hlen:(q0.cells ν).length=n*ts.length:=by
    obtain ⟨l1,l2,_⟩:=zco (E:=E) (ν:=ν) hr
    rw [hq0,zgA (by simp [l1,l2]),List.length_map,l2,c3]
   refine zaa (zfS (by rw [hlen];exact Nat.mul_mod_left _ _)) fun q ⟨h,k1,k2,k3,k4⟩=>zaa (zhi k2) fun q2 ⟨l,m1,m2,m3⟩=>zab fun ρ w hw=>?_
   rw [hlen,Nat.mul_div_cancel _ c2] at k1 k4
   have hb0:CBlk ν ρ w (ρ b) o cs:=hw.heap.blk b _ hbk
   have hv:=hb0.row (E:=E) hr c3 c2 (by omega)
   rw [←hq0] at hv
   have hrun:=zlD (P:=P) (zkr hk) hs (b:=(ρ b).blk) (o:=(ρ b).off) (m3 ρ) (k4 ρ) m1 k1 w
   have hv2:=hv.cut m1 k1 (x:=none)
   rw [←k3,←m2] at hv2
   refine ⟨_,w,by simpa [V.conc,V1.conc,Lf.conc,Off.val] using hrun,za8.mk (zai _ _ _) rfl ?_⟩
   have hk1:=(hw.kill b).pushP (w':=w) (bk:=.v o ts q2) (r:=⟨(ρ b).blk,if n=l then (ρ b).off else (ρ b).off+l*ts.length,false,h-l,n-l,none⟩) (zdC hlt) (Below.refl _ w) hv2
     (fun j b' hj hn1 hn2=>by
      obtain ⟨hjb,hj⟩:=zaR hj
      exact ⟨fun hor hfo=>hw.heap.apart b j _ b' hbk hor hj (Ne.symm hjb) hb0.nil hn2 _ rfl hfo,fun hor hfo=>hw.heap.apart j b b' _ hj hor hbk hjb hn2 hb0.nil _ hfo rfl⟩) (by
      rcases hw.oldP hbk with h | h | h | h
      ·rw [hb0.nil] at h;cases h
      ·exact .inr (.inl h)
      ·exact .inr (.inr (.inl h))
      ·exact .inr (.inr (.inr h)))
   rw [zai] at hk1
   exact hk1
  ·exact zac
 ·exact zac
def zaU (w:World) (r:Loc) (n:Nat):List Value:=(List.range n).map fun i=>(w.cell? ⟨r.blk,r.off+i,none⟩).getD undef
theorem zaP (w:World) (r:Loc) (n:Nat):(zaU w r n).length=n:=by simp [zaU]
theorem CRel.one {t:LT} {d:DV} {v:Value} (h:CRel E t d v):v.oneCell'=true:=by cases h<;>rfl
theorem VRel.vals {w:World} {r:Loc} {o:Bool} {ts:List LT} {xs:List DV} (h:VRel E w r o ts xs):(∀ (j:Nat) (v:Value),(zaU w r xs.length)[j]? = some v→w.cell? ⟨r.blk,r.off+j,none⟩=some v∧CRel E (ts.getD (j%ts.length) .bool) (xs.getD j default) v) ∧
  (∀ v∈zaU w r xs.length,v.oneCell'=true):=by
 have key:∀ (j:Nat) (v:Value),(zaU w r xs.length)[j]? = some v→w.cell? ⟨r.blk,r.off+j,none⟩=some v∧CRel E (ts.getD (j%ts.length) .bool) (xs.getD j default) v:=by
  intro j v hj
  have hl:j<xs.length:=by
   have:=(List.getElem?_eq_some_iff.1 hj).1
   rwa [zaP] at this
  obtain ⟨u,h1,h2⟩:=h.cell j hl
  unfold zaU at hj
  rw [List.getElem?_map,List.getElem?_range hl,Option.map_some,h1] at hj
  simp only [Option.getD_some,Option.some.injEq] at hj
  subst hj
  exact ⟨h1,h2⟩
 refine ⟨key,fun v hv=>?_⟩
 obtain ⟨j,hj,rfl⟩:=List.mem_iff_getElem.1 hv
 exact (key j _ (List.getElem?_eq_getElem hj)).2.one
theorem zfT {t:TypeId} {n:Nat} (h:zfn P t=some n):∃ i,P.info? t=some i∧i.bytes=n:=by
 unfold zfn at h
 cases hi:P.info? t with
 | none=>simp [hi] at h
 | some i=>simp [hi] at h;exact ⟨i,rfl,h⟩
theorem zbe {t:TypeId} {z:List Lf} (h:zeroCells P t=some z):∃ i v,P.info? t=some i∧i.zero=some v∧(∀ x∈z,x.good ν)∧∀ ρ,v.cells.toList=z.map (Lf.conc ν ρ):=by
 unfold zeroCells at h
 split at h
 ·cases h
 ·rename_i i hi
  split at h
  ·cases h
  ·rename_i v hv
   have:=zdU (ν:=ν) h
   exact ⟨i,v,hi,hv,this.1,fun ρ=>(this.2 ρ).symm⟩
theorem zhj {n by_:Nat} (h:n≤zep by_):n*by_≤140737488355328∧n≤9223372036854775807:=by
 unfold zep at h
 have h1:n*(by_+1)≤70368744177664:=(Nat.le_div_iff_mul_le (by omega)).1 h
 have h2:n*by_≤n*(by_+1):=Nat.mul_le_mul_left _ (by omega)
 have h3:n≤n*(by_+1):=Nat.le_mul_of_pos_right _ (by omega)
 exact ⟨by omega,by omega⟩
theorem zoa {tx ex:TypeId} {i:TypeInfo} {w:World} {rc:Loc} {o':Bool} {ts:List LT} {xc:List DV} (hkx:tk P tx=some (.slice ex)) (hvc:VRel E w rc o' ts xc) (hsr:i.size=ts.length):Src P i.size tx rc.slice rc.len (zaU w rc xc.length) w:=by
 have hv:=hvc.vals
 cases hnil:rc.nil with
 | true =>
  have h0:=hvc.nil hnil
  have:xc.length=0:=by rw [hvc.len,h0.1,Nat.zero_mul]
  rw [this]
  cases hraw:rc.raw with
  | none =>
   have:=Src.ofNil w (size:=i.size) (za7 hkx) 0
   simpa [Loc.slice,hnil,h0,zaU,hraw] using this
  | some a =>
   have:=Src.ofSlice w (size:=i.size) (za7 hkx) a 0 0 [] (by simp) (fun j v hj=>by simp at hj) (by simp)
   simpa [Loc.slice,hnil,h0,zaU,hraw] using this
 | false =>
  have:=Src.ofSlice w (size:=i.size) (za7 hkx) ⟨rc.blk,rc.off,none⟩ rc.len rc.cap (zaU w rc xc.length) (by rw [zaP,hvc.len,hsr])
   (fun j v hj=>by rw [zbH];exact (hv.1 j v hj).1) hv.2
  simpa [Loc.slice,hnil] using this
theorem zmJ {w:World} {rb rc:Loc} {o o':Bool} {ts:List LT} {xb xc:List DV} (hvb:VRel E w rb o ts xb) (hvc:VRel E w rc o' ts xc):∀ (w':World) (r':Loc),(∀ j,j<xb.length→w'.cell? ⟨r'.blk,r'.off+j,none⟩=w.cell? ⟨rb.blk,rb.off+j,none⟩) →
   (∀ j v,(zaU w rc xc.length)[j]? = some v→w'.cell? ⟨r'.blk,r'.off+(xb.length+j),none⟩=some v) →
   ∀ j,j<(xb++xc).length→∃ v,w'.cell? ⟨r'.blk,r'.off+j,none⟩=some v∧CRel E (ts.getD (j%ts.length) .bool) ((xb++xc).getD j default) v:=by
 intro w' r' h1 h2 j hj
 rw [List.length_append] at hj
 rcases Nat.lt_or_ge j xb.length with hj1 | hj1
 ·obtain ⟨v,g1,g2⟩:=hvb.cell j hj1
  refine ⟨v,by rw [h1 j hj1];exact g1,?_⟩
  have e0:(xb++xc).getD j default=xb.getD j default:=by
   simp only [List.getD_eq_getElem?_getD]
   rw [List.getElem?_append_left hj1]
  rw [e0]
  exact g2
 ·obtain ⟨k,rfl⟩:∃ k,j=xb.length+k:=⟨j-xb.length,by omega⟩
  have hk:k<(zaU w rc xc.length).length:=by rw [zaP];omega
  have g:=hvc.vals.1 k _ (List.getElem?_eq_getElem hk)
  refine ⟨_,h2 k _ (List.getElem?_eq_getElem hk),?_⟩
  have e1:(xb.length+k)%ts.length=k%ts.length:=by rw [hvb.len,Nat.mul_comm,Nat.mul_add_mod]
  have e0:(xb++xc).getD (xb.length+k) default=xc.getD k default:=by
   simp only [List.getD_eq_getElem?_getD]
   rw [List.getElem?_append_right (by omega),Nat.add_sub_cancel_left]
  rw [e1,e0]
  exact g.2
theorem zi2 {t tx ty elem ex:TypeId} {w:World} {rb rc:Loc} {o o':Bool} {ts:List LT} {xb xc:List DV} {z:List Lf} {sz by_:Nat} (hk:tk P t=some (.slice elem)) (hkx:tk P tx=some (.slice ex)) (hz:zeroCells P elem=some z) (hs:zaM P elem=some sz)
  (hby:zfn P elem=some by_) (c4:sz=ts.length) (c5:sz=z.length) (hvb:VRel E w rb o ts xb) (hvc:VRel E w rc o' ts xc) (hnn:rb.len+rc.len≤zep by_) (hroom:rb.cap<rb.len+rc.len) :
  ∃ w' r',(Builtin.append_ #[t,tx] ty #[rb.slice,rc.slice]).run P w = .ok r'.slice w'∧r'.nil=false∧r'.blk=w.heap.size∧Below w.heap.size w w'∧VRel E w' r' true ts (xb++xc):=by
 obtain ⟨i,zv,hi,hzv,_,hzc⟩:=zbe (ν:=fun _=>default) hz
 obtain ⟨i1,hi1,hsz⟩:=zcJ hs
 obtain ⟨i2,hi2,hbz⟩:=zfT hby
 rw [hi] at hi1 hi2
 cases hi1
 cases hi2
 have hsr:i.size=ts.length:=by rw [hsz];exact c4
 have hpos:=hvb.pos
 have hqn:(xb++xc).length=(rb.len+rc.len)*ts.length:=by rw [List.length_append,hvb.len,hvc.len,Nat.add_mul]
 obtain ⟨hl1,hl2⟩:=zhj hnn
 rw [←hbz] at hl1
 have hsrc:=zoa hkx hvc hsr
 have hold:(Builtin.firstCells i.size rb.len (.slice (bif rb.nil then rb.raw else some ⟨rb.blk,rb.off,none⟩) rb.len rb.cap)).run P w.drew = .ok (zaU w rb xb.length).toArray w.drew:=by
  cases hnil:rb.nil with
  | true =>
   have h0:=hvb.nil hnil
   have:xb.length=0:=by rw [hvb.len,h0.1,Nat.zero_mul]
   rw [this]
   cases hraw:rb.raw with
   | none=>exact run_firstCells_none w.drew _ _ _ _
   | some a =>
    rw [h0.1]
    exact run_firstCells_some w.drew i.size 0 a _ _ _ (by simp [zaU]) (fun j v hj=>by simp [zaU] at hj)
  | false =>
   exact run_firstCells_some w.drew i.size _ ⟨rb.blk,rb.off,none⟩ _ _ _ (by rw [zaP,hvb.len,hsr]) (fun j v hj=>by
    rw [zbH]
    simpa using (hvb.vals.1 j v hj).1)
 have hrun:=run_append_grow_src (P:=P) w t tx ty elem i zv (za7 hk) hi hzv _ _ _ _ hold rc.slice _ _ hsrc hroom (by omega) (growslice_fits hroom (by omega))
 have hge:=grownCap_ge w (rb.len+rc.len) rb.cap elem
 have hgm:=grownCap_le_maxLen w (rb.len+rc.len) rb.cap elem (by unfold maxLen;omega)
 unfold maxLen at hgm
 generalize hcp:grownCap w (rb.len+rc.len) rb.cap elem=cp at *
 generalize hob:(.cells ((zaU w rb xb.length++zaU w rc xc.length).toArray++Builtin.zeroCells zv.cells (cp-(rb.len+rc.len))) elem:Obj)=ob
 have hbel:Below w.heap.size w (w.drew.alloc ob):=⟨rfl,rfl,rfl,by simp,fun k hk=>Below.heap_alloc w.drew _ _ hk⟩
 have hnew:∀ j,(w.drew.alloc ob).cell? ⟨w.heap.size,j,none⟩=((zaU w rb xb.length++zaU w rc xc.length).toArray++Builtin.zeroCells zv.cells (cp-(rb.len+rc.len)))[j]?:=fun j=>by
  rw [←hob]
  exact World.cell?_alloc_new w.drew _ _ j
 have hfrz:∀ j,(w.drew.alloc ob).frozen? ⟨w.heap.size,j,none⟩=false:=fun j=>by
  rw [←hob]
  exact World.frozen?_alloc_new w.drew _ _ j
 refine ⟨w.drew.alloc ob,⟨w.heap.size,0,false,rb.len+rc.len,cp,none⟩,by rw [hob] at hrun;exact hrun,rfl,rfl,hbel,⟨fun e=>(by cases e),fun _=>by simp,hpos,hqn,hge,fun j hj=>?_,fun _ _ j hj=>?_,fun _ _=>⟨hgm,fun o=>hfrz o⟩⟩⟩
 ·refine zmJ hvb hvc (w.drew.alloc ob) ⟨w.heap.size,0,false,rb.len+rc.len,cp,none⟩ (fun j hj=>?_) (fun j v hj=>?_) j hj
  ·simp only [Nat.zero_add]
   rw [hnew,Array.getElem?_append_left (by simp [zaP];omega)]
   obtain ⟨v,g1,_⟩:=hvb.cell j hj
   rw [g1,List.getElem?_toArray,List.getElem?_append_left (by rw [zaP];exact hj)]
   unfold zaU
   rw [List.getElem?_map,List.getElem?_range hj,Option.map_some,g1]
   rfl
  ·have hjl:=(List.getElem?_eq_some_iff.1 hj).1
   simp only [Nat.zero_add]
   rw [hnew,Array.getElem?_append_left (by simp [zaP] at hjl ⊢;omega),List.getElem?_toArray,List.getElem?_append_right (by rw [zaP];omega),zaP,Nat.add_sub_cancel_left]
   exact hj
 ·simp only [Nat.zero_add]
  refine ⟨?_,hfrz j⟩
  rw [hnew]
  have hsz2:((zaU w rb xb.length++zaU w rc xc.length).toArray++Builtin.zeroCells zv.cells (cp-(rb.len+rc.len))).size=cp*ts.length:=by
   have hzs:zv.cells.size=ts.length:=by
    rw [←Array.length_toList,hzc (fun _=>default),List.length_map,←c5,c4]
   rw [Array.size_append,size_zeroCells,hzs,List.size_toArray,List.length_append,zaP,zaP,hvb.len,hvc.len,←Nat.add_mul,←Nat.add_mul]
   congr 1
   omega
  have hj:j<cp*ts.length:=hj
  rw [Array.getElem?_eq_getElem (by rw [hsz2];exact hj)]
  rfl
theorem zi3 {hp:List (Option Blk)} {t tx elem ex:TypeId} {b c:Nat} {r u:Bool×List LT×A} {z:List Lf} {sz by_:Nat} {q n:A} (hk:tk P t=some (.slice elem)) (hkx:tk P tx=some (.slice ex)) (hr:zkb hp b=some r) (hu:zcY hp c=some u)
  (hz:zeroCells P elem=some z) (hs:zaM P elem=some sz) (hby:zfn P elem=some by_) (c1:r.1=true) (c3:r.2.1=u.2.1) (c4:sz=r.2.1.length) (c5:sz=z.length) (hlt:hpLt hp=true)
  (hq:q.cells ν=r.2.2.cells ν++u.2.2.cells ν) (hn:n.int ν=((q.cells ν).length/sz:Nat)) (hle:n.int ν≤(A.z (zep by_)).int ν) (ρ:Nat→Loc) (w:World) (ty:TypeId) (hw:HS E ν ρ hp w) :
  ∃ v w',(Builtin.append_ #[t,tx] ty #[(ρ b).slice,(ρ c).slice]).run P w = .ok v w'∧za8 E ν ρ hp v w' (.hp (some (.s (.one (.vec hp.length)))) (zat none hp b++[some (.v true r.2.1 q)])):=by
 obtain ⟨i,zv,hi,hzv,_,hzc⟩:=zbe (ν:=ν) hz
 obtain ⟨i1,hi1,hsz⟩:=zcJ hs
 obtain ⟨i2,hi2,hbz⟩:=zfT hby
 rw [hi] at hi1 hi2
 cases hi1
 cases hi2
 have hvb:=zn7 hr hw
 have hvc:=zdD hu hw
 rw [←c3] at hvc
 rw [c1] at hvb
 have hsr:i.size=r.2.1.length:=by rw [hsz];exact c4
 have hpos:=hvb.pos
 have hqn:(q.cells ν).length=((ρ b).len+(ρ c).len)*r.2.1.length:=by rw [hq,List.length_append,hvb.len,hvc.len,Nat.add_mul]
 have hnn:(ρ b).len+(ρ c).len≤zep by_:=by
  rw [hn,hqn,c4,Nat.mul_div_cancel _ hpos] at hle
  exact Int.ofNat_le.1 hle
 obtain ⟨hl1,hl2⟩:=zhj hnn
 rw [←hbz] at hl1
 have hsrc:=zoa hkx hvc hsr
 have hcells:∀ (w':World) (r':Loc),_:=zmJ hvb hvc
 rw [←hq] at hcells
 have hcl:(u.2.2.cells ν).length=(ρ c).len*r.2.1.length:=hvc.len
 rcases Nat.lt_or_ge (ρ b).cap ((ρ b).len+(ρ c).len) with hroom | hroom
 ·obtain ⟨w',r',hrun,g1,g2,g3,g4⟩:=zi2 (ty:=ty) hk hkx hz hs hby c4 c5 hvb hvc hnn hroom
  refine ⟨_,w',hrun,za8.mk (r:=r') (zai _ _ _) rfl ?_⟩
  rw [←hq] at g4
  have hk1:=(hw.kill b).fresh (w':=w') (bk:=.v true r.2.1 q) (r:=r') (zdC hlt) g3 g4 (.inr (by rw [g2];exact Nat.le_refl _))
  rw [zai] at hk1
  exact hk1
 ·-- there is room
  cases hnil:(ρ b).nil with
  | true =>
   have h0:=hvb.nil hnil
   have hc0:(ρ c).len=0:=by omega
   have hr0:(r.2.2.cells ν).length=0:=by rw [hvb.len,h0.1,Nat.zero_mul]
   have hq0:(q.cells ν).length=0:=by rw [hqn,h0.1,hc0];simp
   have hun:(u.2.2.cells ν).length=0:=by rw [hvc.len,hc0,Nat.zero_mul]
   have hrun:(Builtin.append_ #[t,tx] ty #[.slice (ρ b).raw 0 0,(ρ c).slice]).run P w = .ok (.slice (ρ b).raw 0 0) w:=by
    have hlen:=hsrc.len w
    have hcel:=hsrc.cells
    rw [hc0] at hlen hcel
    rw [hun] at hcel
    cases (ρ b).raw<;>simp [zaU,storeCells,Builtin.append_,run_underlying (za7 hk),run_underlying (za7 hkx),sizeOf,typeInfo,hi,hlen,hcel]
   refine ⟨.slice (ρ b).raw 0 0,w,by simpa [V.conc,V1.conc,Lf.conc,Loc.slice,hnil,h0] using hrun,za8.mk (r:=⟨0,0,true,0,0,(ρ b).raw⟩) (zai _ _ _) rfl ?_⟩
   have hk1:=(hw.kill b).fresh (w':=w) (bk:=.v true r.2.1 q) (r:=⟨0,0,true,0,0,(ρ b).raw⟩) (zdC hlt) (Below.refl _ w)
    (⟨fun _=>⟨rfl,rfl⟩,fun e=>(by cases e),hpos,by rw [hq0];simp,Nat.le_refl _,fun j hj=>by omega,fun _ e=>(by cases e),fun _ e=>(by cases e)⟩:VRel E w ⟨0,0,true,0,0,(ρ b).raw⟩ true r.2.1 (q.cells ν)) (.inl rfl)
   rw [zai] at hk1
   exact hk1
  | false =>
   have hcb:((ρ b).len+(ρ c).len)*r.2.1.length≤(ρ b).cap*r.2.1.length:=Nat.mul_le_mul_right _ hroom
   rw [Nat.add_mul] at hcb
   have hlb:=hvb.len
   have hex:∀ j,j<(zaU w (ρ c) (u.2.2.cells ν).length).length→(w.cell? ⟨(ρ b).blk,(ρ b).off+(r.2.2.cells ν).length+j,none⟩).isSome=true∧w.frozen? ⟨(ρ b).blk,(ρ b).off+(r.2.2.cells ν).length+j,none⟩=false:=fun j hj=>by
    rw [zaP] at hj
    have:=hvb.own rfl hnil ((r.2.2.cells ν).length+j) (by omega)
    rwa [←Nat.add_assoc] at this
   have hrun:=run_append_room_src (P:=P) w t tx ty elem i (za7 hk) hi (ρ b).blk (ρ b).off (ρ b).len (ρ b).cap (ρ c).slice _ _ hsrc hroom (by rw [hsr,←hlb];exact fun j hj=>(hex j hj).1) (by rw [hsr,←hlb];exact fun j hj=>(hex j hj).2)
   rw [hsr,←hlb] at hrun
   refine ⟨_,_,by simpa [V.conc,V1.conc,Lf.conc,Loc.slice,hnil] using hrun,za8.mk (r:=⟨(ρ b).blk,(ρ b).off,false,(ρ b).len+(ρ c).len,(ρ b).cap,none⟩) (zai _ _ _) rfl ?_⟩
   generalize hvs:zaU w (ρ c) (u.2.2.cells ν).length=vs at *
   have hvl:vs.length=(u.2.2.cells ν).length:=by rw [←hvs,zaP]
   have hbk:=zhh hr
   rw [c1] at hbk
   have hkw:=hw.killw (w':=w.setCells (ρ b).blk ((ρ b).off+(r.2.2.cells ν).length) vs) hbk rfl hnil (zbq _ _ _ _) (zbd _ _ _ _).1 (zbd _ _ _ _).2.1 (zbd _ _ _ _).2.2 (fun k hk=>zbu _ _ _ _ k hk)
   have hk1:=hkw.pushP (w':=w.setCells (ρ b).blk ((ρ b).off+(r.2.2.cells ν).length) vs) (bk:=.v true r.2.1 q) (r:=⟨(ρ b).blk,(ρ b).off,false,(ρ b).len+(ρ c).len,(ρ b).cap,none⟩) (zdC hlt) (Below.refl _ _)
    (⟨fun e=>(by cases e),fun _=>by rw [zbq];exact hvb.lt hnil,hpos,hqn,hroom,fun j hj=>?_,fun _ _ j hj=>?_,fun _ _=>⟨(hvb.fz rfl hnil).1,fun o=>by rw [World.frozen?_setCells];exact (hvb.fz rfl hnil).2 o⟩⟩:VRel E _ ⟨(ρ b).blk,(ρ b).off,false,(ρ b).len+(ρ c).len,(ρ b).cap,none⟩ true r.2.1 (q.cells ν))
    (fun j b' hj hn1 hn2=>by
     have h0:=hw.heap.apart b j _ b' hbk rfl (zaR hj).2 (Ne.symm (zaR hj).1) hnil hn2
     exact ⟨fun _ hfo=>h0 _ rfl (((hw.heap.blk j b' (zaR hj).2).rfoot_eq hn2 (fun k hf=>zbu _ _ _ _ k fun e=>h0 k e hf) _).1 hfo),
      fun _ hfo=>h0 _ rfl ((hw.heap.blk j b' (zaR hj).2).rd hn2 (((hw.heap.blk j b' (zaR hj).2).foot_eq hn2 (fun k hf=>zbu _ _ _ _ k fun e=>h0 k e hf) _).1 hfo))⟩) (by
     rcases hw.oldP hbk with h | h | h | h
     ·rw [hnil] at h;cases h
     ·exact .inr (.inl h)
     ·exact .inr (.inr (.inl h))
     ·cases h.1)
   ·rw [zai] at hk1
    exact hk1
   ·refine hcells _ ⟨(ρ b).blk,(ρ b).off,false,(ρ b).len+(ρ c).len,(ρ b).cap,none⟩ (fun j hj=>?_) (fun j v hj=>?_) j hj
    ·exact World.cell?_setCells_out _ _ _ _ _ (fun _ _=>by simp;omega)
    ·have hjl:=(List.getElem?_eq_some_iff.1 hj).1
     have e1:=World.cell?_setCells_in (ρ b).blk vs ((ρ b).off+(r.2.2.cells ν).length) w (fun k hk=>(hex k hk).1) j hjl
     simp only
     rw [←Nat.add_assoc,e1,←hj,List.getElem?_eq_getElem hjl]
   ·have hj:j<(ρ b).cap*r.2.1.length:=hj
    rw [World.frozen?_setCells]
    have:=hvb.own rfl hnil j hj
    refine ⟨?_,this.2⟩
    by_cases hin:(r.2.2.cells ν).length≤j∧j<(r.2.2.cells ν).length+vs.length
    ·obtain ⟨k,rfl⟩:∃ k,j=(r.2.2.cells ν).length+k:=⟨j-(r.2.2.cells ν).length,by omega⟩
     have e1:=World.cell?_setCells_in (ρ b).blk vs ((ρ b).off+(r.2.2.cells ν).length) w (fun k hk=>(hex k hk).1) k (by omega)
     simp only
     rw [←Nat.add_assoc,e1]
     rfl
    ·rw [World.cell?_setCells_out _ _ _ _ _ (fun _ _=>by simp;omega)]
     exact this.1
theorem zeH {hp:List (Option Blk)} {t tx:TypeId} {s x:V} : M.sat F ν (zgi P hp t tx s x) (fun z=>∀ ρ w ty,HS E ν ρ hp w →
  ∃ v w',(Builtin.append_ #[t,tx] ty #[s.conc ν ρ,x.conc ν ρ]).run P w = .ok v w'∧za8 E ν ρ hp v w' z):=by
 unfold zgi
 refine zaa (zad (Q:=fun k=>tk P t=some k) fun a h=>h) fun k hk=>?_
 refine zaa (zad (Q:=fun k=>tk P tx=some k) fun a h=>h) fun kx hkx=>?_
 split
 ·rename_i elem ex b c
  refine zaa (zad (Q:=fun r=>zkb hp b=some r) fun a h=>h) fun r hr=>?_
  refine zaa (zad (Q:=fun r=>zcY hp c=some r) fun a h=>h) fun u hu=>?_
  refine zaa (zad (Q:=fun z=>zeroCells P elem=some z) fun a h=>h) fun z hz=>?_
  refine zaa (zad (Q:=fun k=>zaM P elem=some k) fun a h=>h) fun sz hs=>?_
  refine zaa (zad (Q:=fun k=>zfn P elem=some k) fun a h=>h) fun by_ hby=>?_
  refine zae (fun hc=>?_) (fun _=>zac)
  simp only [Bool.and_eq_true,Bool.not_eq_true'] at hc
  obtain ⟨⟨⟨⟨⟨c1,c2⟩,c3⟩,c4⟩,c5⟩,hlt⟩:=hc
  have c2:b≠c:=fun e=>by subst e;rw [Nat.beq_refl] at c2;cases c2
  have c3:=LTs.beq_eq c3
  have c4:=Nat.eq_of_beq_eq_true c4
  have c5:=Nat.eq_of_beq_eq_true c5
  refine zaa (zag (Q:=fun q=>q.cells ν=r.2.2.cells ν++u.2.2.cells ν) fun q h=>A.cells_of_den h) fun q hq=>?_
  refine zaa (zag (Q:=fun n=>n.int ν=((q.cells ν).length/sz:Nat)) fun q h=>A.int_of_den h) fun n hn=>?_
  refine zaa zcd fun _ hle=>zab fun ρ w ty hw=>?_
  exact zi3 hk hkx hr hu hz hs hby c1 c3 c4 c5 hlt hq hn hle ρ w ty hw
 ·exact zac
theorem Lf.conc_keep {ρ ρ':Nat→Loc} {n:Nat} (h:∀ k,k<n→ρ' k=ρ k) {l:Lf} (hl:l.lt n=true):l.conc ν ρ'=l.conc ν ρ:=Lf.keep_spec h hl
theorem zcQ {α:Type} (l:List α) (hl:0<l.length):∀ (n j:Nat),j<n*l.length→(List.replicate n l).flatten[j]? = l[j%l.length]?
 | 0,j,h=>by simp at h
 | n+1,j,h=>by
  rw [List.replicate_succ,List.flatten_cons]
  rcases Nat.lt_or_ge j l.length with hj | hj
  ·rw [List.getElem?_append_left hj,Nat.mod_eq_of_lt hj]
  ·rw [List.getElem?_append_right hj,zcQ l hl n (j-l.length) (by rw [Nat.succ_mul] at h;omega)]
   congr 1
   exact (Nat.mod_eq_sub_mod hj).symm
theorem zb4 {α:Type} (l:List α) (n:Nat):(List.replicate n l).flatten.length=n*l.length:=by simp
theorem zqa {hp:List (Option Blk)} {t:TypeId} {l c:Lf} : M.sat F ν (zrb P hp t l c) (fun x=>∀ ρ w,HS E ν ρ hp w →
  ∃ v w',(Instr.makeSlice t (l.conc ν ρ) (c.conc ν ρ)).run P w = .ok v w'∧za8 E ν ρ hp v w' x):=by
 unfold zrb
 refine zaa (zad (Q:=fun k=>tk P t=some k) fun a h=>h) fun k hk=>?_
 split
 ·rename_i elem kn n km m
  refine zaa (zad (Q:=fun z=>zeroCells P elem=some z) fun a h=>h) fun z hz=>?_
  refine zaa (zad (Q:=fun ts=>zbx z=some ts) fun a h=>h) fun ts hts=>?_
  refine zaa (zad (Q:=fun r=>zcA ts 0 (z.map some)=some r) fun a h=>h) fun r hr=>?_
  refine zaa (zad (Q:=fun k=>zaM P elem=some k) fun a h=>h) fun sz hs=>?_
  refine zaa (zad (Q:=fun k=>zfn P elem=some k) fun a h=>h) fun by_ hby=>?_
  refine zae (fun hc=>?_) (fun _=>zac)
  simp only [Bool.and_eq_true] at hc
  obtain ⟨⟨c1,c2⟩,hlt⟩:=hc
  have c1:=Nat.eq_of_beq_eq_true c1
  have c2:0<sz:=Nat.le_of_ble_eq_true c2
  refine zaa zbF fun _ h0=>zaa zcd fun _ h1=>zaa zcd fun _ h2=>?_
  refine zaa (zag (Q:=fun q=>q.cells ν=(List.replicate (n.int ν).toNat (nrmZ r.1 (r.2.map (A.den ν)))).flatten) fun q h=>A.cells_of_den h) fun q hq=>zab fun ρ w hw=>?_
  obtain ⟨i,zv,hi,hzv,_,hzc⟩:=zbe (ν:=ν) hz
  obtain ⟨i1,hi1,hsz⟩:=zcJ hs
  obtain ⟨i2,hi2,hbz⟩:=zfT hby
  rw [hi] at hi1 hi2
  cases hi1
  cases hi2
  have htl:=zdZ hts
  obtain ⟨l1,l2,l3⟩:=zco (E:=E) (ν:=ν) hr
  have hcl:(nrmZ r.1 (r.2.map (A.den ν))).length=ts.length:=by
   rw [zgA (by simp [l1,l2]),List.length_map,l2,List.length_map,htl]
  have hzs:zv.cells.size=ts.length:=by rw [←Array.length_toList,hzc ρ,List.length_map,htl]
  have hst:sz=ts.length:=by omega
  have hlim:(m.int ν).toNat≤zep by_:=by
   have h2:m.int ν≤(zep by_:Int):=h2
   omega
  obtain ⟨q1,q2⟩:=zhj hlim
  have hb2:(i.bytes:Int)*m.int ν≤281474976710656:=by
   have e:((m.int ν).toNat:Int)=m.int ν:=Int.toNat_of_nonneg (by omega)
   rw [←e,←Int.natCast_mul,Nat.mul_comm,hbz]
   omega
  have hrun:=run_make (P:=P) w t elem i zv (za7 hk) hi hzv kn km (n.int ν) (m.int ν) h0 h1 hb2 (by omega)
  generalize hob:(.cells (madeCells zv.cells ((m.int ν).toNat*i.size)) elem:Obj)=ob at *
  have hbel:Below w.heap.size w (w.alloc ob):=⟨rfl,rfl,rfl,by simp,fun k hk=>Below.heap_alloc w _ _ hk⟩
  have hnew:∀ j,(w.alloc ob).cell? ⟨w.heap.size,j,none⟩=(madeCells zv.cells ((m.int ν).toNat*i.size))[j]?:=fun j=>by
   rw [←hob]
   exact World.cell?_alloc_new w _ _ j
  have hfrz:∀ j,(w.alloc ob).frozen? ⟨w.heap.size,j,none⟩=false:=fun j=>by
   rw [←hob]
   exact World.frozen?_alloc_new w _ _ j
  have hget:∀ j,j<(m.int ν).toNat*ts.length→∃ x,nth (z.map some) (j%ts.length)=some x∧(madeCells zv.cells ((m.int ν).toNat*i.size))[j]? = some (x.conc ν ρ)∧CRel E (ts.getD (j%ts.length) .bool) ((nrmZ r.1 (r.2.map (A.den ν))).getD (j%ts.length) default) (x.conc ν ρ):=fun j hj=>by
   have hjm:j%ts.length<z.length:=by rw [←htl];exact Nat.mod_lt _ (by omega)
   obtain ⟨x,k1,_,_,k4⟩:=l3 (j%ts.length) (by simpa using hjm)
   have k4:=k4 ρ
   rw [Nat.zero_add,Nat.mod_mod] at k4
   refine ⟨x,k1,?_,k4⟩
   have hx:z[j%ts.length]? = some x:=by rw [za1] at k1;exact k1
   have hzx:zv.cells[j%zv.cells.size]! = x.conc ν ρ:=by
    have:zv.cells.toList[j%ts.length]? = some (x.conc ν ρ):=by rw [hzc ρ,List.getElem?_map,hx];rfl
    rw [Array.getElem?_toList] at this
    rw [hzs,Array.getElem!_eq_getD,Array.getD_eq_getD_getElem?,this]
    rfl
   unfold madeCells
   rw [Array.getElem?_map,Array.getElem?_range,if_pos (by rw [hsz,hst];exact hj)]
   simp [hzx]
  refine ⟨_,_,hrun,za8.mk (r:=⟨w.heap.size,0,false,(n.int ν).toNat,(m.int ν).toNat,none⟩) rfl rfl ?_⟩
  have hnm:(n.int ν).toNat*ts.length≤(m.int ν).toNat*ts.length:=Nat.mul_le_mul_right _ (by omega)
  refine hw.fresh (w':=w.alloc ob) (bk:=.v true ts q) hlt hbel (⟨fun e=>(by cases e),fun _=>by simp,by omega,by rw [hq,zb4,hcl],by show (n.int ν).toNat≤(m.int ν).toNat;omega,fun j hj=>?_,fun _ _ j hj=>?_,fun _ _=>⟨by show (m.int ν).toNat≤_;omega,fun o=>hfrz o⟩⟩:VRel E (w.alloc ob) ⟨w.heap.size,0,false,(n.int ν).toNat,(m.int ν).toNat,none⟩ true ts (q.cells ν)) (.inr (Nat.le_refl _))
  ·rw [hq,zb4,hcl] at hj
   obtain ⟨x,_,k2,k3⟩:=hget j (by omega)
   refine ⟨x.conc ν ρ,by show (w.alloc ob).cell? ⟨w.heap.size,0+j,none⟩=_;rw [Nat.zero_add,hnew];exact k2,?_⟩
   have e:(q.cells ν).getD j default=(nrmZ r.1 (r.2.map (A.den ν))).getD (j%ts.length) default:=by
    simp only [List.getD_eq_getElem?_getD]
    rw [hq,zcQ _ (by rw [hcl];omega) _ _ (by rw [hcl];exact hj),hcl]
   rw [e]
   exact k3
  ·have hj:j<(m.int ν).toNat*ts.length:=hj
   obtain ⟨x,_,k2,_⟩:=hget j hj
   show ((w.alloc ob).cell? ⟨w.heap.size,0+j,none⟩).isSome=true∧(w.alloc ob).frozen? ⟨w.heap.size,0+j,none⟩=false
   rw [Nat.zero_add,hnew,k2]
   exact ⟨rfl,hfrz j⟩
 ·exact zac
theorem zob (ts:List LT) (cs:List Lf):M.sat F ν (znJ ts cs) (fun q=>(q.cells ν).length=cs.length∧∀ j,j<cs.length→∃ x,cs[j]? = some x∧∀ ρ,CRel E (ts.getD (j%ts.length) .bool) ((q.cells ν).getD j default) (x.conc ν ρ)):=by
 unfold znJ
 split
 ·rename_i t a i0 l
  refine zae (fun hc=>?_) (fun _=>zac)
  simp only [Bool.and_eq_true] at hc
  obtain ⟨⟨c1,c2⟩,c3⟩:=hc
  have c3:=Nat.eq_of_beq_eq_true c3
  refine zag fun q hq=>?_
  have hq:q.cells ν=(List.range (l.length+1)).map fun k=>(a.cells ν).getD (Int.toNat 0*1+i0+k) default:=A.cells_of_den hq
  refine ⟨by rw [hq];simp,fun j hj=>?_⟩
  have hj:j<l.length+1:=by simpa using hj
  refine ⟨_,List.getElem?_eq_getElem hj,fun ρ=>?_⟩
  obtain ⟨b,hb,he⟩:=zeA c1 j _ (List.getElem?_eq_getElem hj)
  have ht:ts.getD (j%ts.length) .bool=t:=by
   rw [c3,Nat.mod_eq_of_lt hj,List.getD_eq_getElem?_getD,List.getElem?_eq_getElem (by omega)]
   exact (LT.feq_eq (List.all_eq_true.1 c2 _ (List.getElem_mem _))).symm
  have hcell:(q.cells ν).getD j default=(b.cells ν).getD (i0+j*1) default:=by
   rw [hq,List.getD_eq_getElem?_getD,List.getElem?_map,List.getElem?_range hj]
   have:a.cells ν=b.cells ν:=by simp only [A.cells,A.beq_den hb ν]
   rw [this]
   show (b.cells ν).getD (Int.toNat 0*1+i0+j) default=_
   congr 1
   show 0*1+i0+j=_
   omega
  rw [ht,hcell]
  have he2:((.e t a i0::l:List Lf)[j]'hj) = .e t b (i0+j*1):=he
  rw [he2]
  cases t with
  | int k=>exact CRel.int k _
  | bool=>exact CRel.bool _
  | vec us =>
   have:=List.all_eq_true.1 c2 (ts[0]'(by omega)) (List.getElem_mem _)
   simp only [LT.feq] at this
   cases this
 ·refine zaa (zad (Q:=fun r=>zcA ts 0 (cs.map some)=some r) fun a h=>h) fun r hr=>zag fun q hq=>?_
  have hq:q.cells ν=nrmZ r.1 (r.2.map (A.den ν)):=A.cells_of_den hq
  obtain ⟨l1,l2,l3⟩:=zco (E:=E) (ν:=ν) hr
  refine ⟨by rw [hq,zgA (by simp [l1,l2]),List.length_map,l2,List.length_map],fun j hj=>?_⟩
  obtain ⟨x,k1,_,_,k4⟩:=l3 j (by simpa using hj)
  rw [za1] at k1
  refine ⟨x,k1,fun ρ=>?_⟩
  have k4:=k4 ρ
  rw [Nat.zero_add,←hq] at k4
  exact k4
theorem zh2 {hp:List (Option Blk)} {t:TypeId} {len:Nat} {ps:List (Nat×V1)} (_hg:∀ p∈ps,p.2.good ν):M.sat F ν (zes P hp t len ps) (fun x=>∀ ρ w,HS E ν ρ hp w →
  ∃ v w',(Instr.buildSlice t len (ps.map fun p=>(p.1,p.2.conc ν ρ)).toArray).run P w = .ok v w'∧za8 E ν ρ hp v w' x):=by
 unfold zes
 refine zaa (zad (Q:=fun k=>tk P t=some k) fun a h=>h) fun k hk=>?_
 split
 ·rename_i elem
  refine zaa (zad (Q:=fun k=>zaM P elem=some k) fun a h=>h) fun sz hs=>?_
  refine zaa (zad (Q:=fun z=>zeroCells P elem=some z) fun a h=>h) fun z hz=>?_
  refine zaa (zad (Q:=fun ts=>zbx z=some ts) fun a h=>h) fun ts hts=>?_
  refine zaa (zad (Q:=fun cs=>zgd (fun i=>some (i*sz,sz)) (List.replicate len z).flatten ps=some cs) fun a h=>h) fun cs hcs=>?_
  refine zae (fun hc=>?_) (fun _=>zac)
  simp only [Bool.and_eq_true] at hc
  obtain ⟨⟨⟨c1,c2⟩,c3⟩,hlt⟩:=hc
  have c1:=Nat.eq_of_beq_eq_true c1
  have c2:0<sz:=Nat.le_of_ble_eq_true c2
  have c3:=Nat.le_of_ble_eq_true c3
  refine zaa (zob (E:=E) ts cs) fun q hq=>zab fun ρ w hw=>?_
  obtain ⟨i,zv,hi,hzv,hzg,hzc⟩:=zbe (ν:=ν) hz
  have htl:=zdZ hts
  have hzs:zv.cells.size=sz:=by rw [←Array.length_toList,hzc ρ,List.length_map,c1]
  have hinit:((Array.range (len*sz)).map (zv.cells[· % zv.cells.size]!)).toList=(List.replicate len z).flatten.map (Lf.conc ν ρ):=by
   apply List.ext_getElem?
   intro j
   rw [Array.getElem?_toList,Array.getElem?_map,List.getElem?_map,Array.getElem?_range]
   by_cases hj:j<len*sz
   ·obtain ⟨zx,hzj⟩:∃ zx,z[j%z.length]? = some zx:=⟨_,List.getElem?_eq_getElem (Nat.mod_lt _ (by omega))⟩
    rw [if_pos hj,zcQ z (by omega) _ _ (by rw [←c1];exact hj),hzj]
    have:zv.cells.toList[j%z.length]? = some (zx.conc ν ρ):=by rw [hzc ρ,List.getElem?_map,hzj];rfl
    rw [Array.getElem?_toList] at this
    simp only [Option.map_some,Option.some.injEq]
    rw [hzs,c1,Array.getElem!_eq_getD,Array.getD_eq_getD_getElem?,this]
    rfl
   ·rw [if_neg hj,List.getElem?_eq_none (by rw [zb4,←c1];omega)]
    rfl
  obtain ⟨B,hB,hB2⟩:=ze9 (ν:=ν) (ρ:=ρ) (place':=fun i=>some (i*sz,sz)) (fun i=>rfl) ps _ cs _ hinit hcs
  obtain ⟨l1,l3⟩:=hq
  have hfl:∀ (ps:List (Nat×V1)) (cs r:List Lf),zgd (fun i=>some (i*sz,sz)) cs ps=some r→r.length=cs.length:=by
   intro ps
   induction ps with
   | nil=>intro cs r h;simp [zgd] at h;rw [h]
   | cons p ps ih =>
    intro cs r h
    simp only [zgd] at h
    split at h
    ·rw [ih _ _ h]
     have:∀ (l cs:List Lf) (o:Nat),(zcn cs o l).length=cs.length:=fun l=>by
      induction l with
      | nil=>intro cs o;rfl
      | cons c l ih=>intro cs o;rw [zcn,ih];simp
     exact this _ _ _
    ·cases h
  have hcl:cs.length=len*sz:=by rw [hfl _ _ _ hcs,zb4,c1]
  have hql:(q.cells ν).length=len*sz:=by rw [l1,hcl]
  have hBs:B.size=len*sz:=by rw [←Array.length_toList,hB2,List.length_map,hcl]
  have hrun:(Instr.buildSlice t len (ps.map fun p=>(p.1,p.2.conc ν ρ)).toArray).run P w = .ok (.slice (some ⟨w.heap.size,0,none⟩) len len) (w.alloc (.cells B elem)):=by
   have c3':¬ (16777216<len*sz):=by omega
   by_cases h0:len*sz=0
   ·have hB':Instr.fill (fun i=>some (i*sz,sz)) #[] (ps.map fun p=>(p.1,p.2.conc ν ρ))=some B:=by
     have e:((Array.range (len*sz)).map (zv.cells[· % zv.cells.size]!)) = #[]:=by rw [h0];simp
     rw [e] at hB
     exact hB
    simp [Instr.buildSlice,run_underlying (za7 hk),za6 hs,h0,hB',newRow,Array.range_zero']
   ·simp [Instr.buildSlice,run_underlying (za7 hk),za6 hs,h0,c3',zeroValue,typeInfo,hi,hzv,hB,newRow]
  generalize hob:(.cells B elem:Obj)=ob at *
  have hbel:Below w.heap.size w (w.alloc ob):=⟨rfl,rfl,rfl,by simp,fun k hk=>Below.heap_alloc w _ _ hk⟩
  have hnew:∀ j,(w.alloc ob).cell? ⟨w.heap.size,j,none⟩=B[j]?:=fun j=>by
   rw [←hob]
   exact World.cell?_alloc_new w _ _ j
  have hfrz:∀ j,(w.alloc ob).frozen? ⟨w.heap.size,j,none⟩=false:=fun j=>by
   rw [←hob]
   exact World.frozen?_alloc_new w _ _ j
  have hst:sz=ts.length:=by omega
  refine ⟨_,_,hrun,za8.mk (r:=⟨w.heap.size,0,false,len,len,none⟩) rfl rfl ?_⟩
  refine hw.fresh (w':=w.alloc ob) (bk:=.v true ts q) hlt hbel (⟨fun e=>(by cases e),fun _=>by simp,by omega,by rw [hql,hst],Nat.le_refl _,fun j hj=>?_,fun _ _ j hj=>?_,fun _ _=>⟨by show len≤_;have:=Nat.le_mul_of_pos_right len (show 0<sz by omega);omega,fun o=>hfrz o⟩⟩:VRel E (w.alloc ob) ⟨w.heap.size,0,false,len,len,none⟩ true ts (q.cells ν)) (.inr (Nat.le_refl _))
  ·rw [hql] at hj
   obtain ⟨x,k1,k4⟩:=l3 j (by simpa [hcl] using hj)
   have k4:=k4 ρ
   refine ⟨x.conc ν ρ,?_,k4⟩
   show (w.alloc ob).cell? ⟨w.heap.size,0+j,none⟩=_
   rw [Nat.zero_add,hnew,←Array.getElem?_toList,hB2,List.getElem?_map]
   rw [k1]
   rfl
  ·have hj:j<len*ts.length:=hj
   show ((w.alloc ob).cell? ⟨w.heap.size,0+j,none⟩).isSome=true∧(w.alloc ob).frozen? ⟨w.heap.size,0+j,none⟩=false
   rw [Nat.zero_add,hnew,Array.getElem?_eq_getElem (by rw [hBs,hst];exact hj)]
   exact ⟨rfl,hfrz j⟩
 ·exact zac
theorem zhk {x:Lf} (h:x.isNil=true):x = .v (.slice none 0 0):=by
 unfold Lf.isNil at h
 split at h
 ·rfl
 ·cases h
theorem zcp {w:World} : ∀ (lt:List LT) (cs:List Lf) (hp:List (Option Blk)),M.sat F ν (zbQ lt cs hp) (fun q=>∀ ρ,HS E ν ρ hp w→hpLt hp=true→(cs.all (Lf.lt hp.length)=true)→(∀ x∈cs,x.good ν) →
  hpLt q.2=true∧q.1.all (Lf.lt q.2.length)=true∧(∀ x∈q.1,x.good ν)∧hp.length≤q.2.length∧∃ ρ':Nat→Loc,(∀ j,j<hp.length→ρ' j=ρ j)∧HS E ν ρ' q.2 w∧q.1.map (Lf.conc ν ρ')=cs.map (Lf.conc ν ρ)):=by
 intro lt cs
 induction cs generalizing lt with
 | nil =>
  intro hp
  have e:zbQ lt [] hp=pure ([],hp):=by cases lt<;>rfl
  rw [e]
  exact zab fun ρ hw hlt _ _=>⟨hlt,rfl,fun x hx=>(by cases hx),Nat.le_refl _,ρ,fun _ _=>rfl,hw,rfl⟩
 | cons x l ih =>
  intro hp
  -- a cell that stays
  have keep:∀ (lt':List LT),M.sat F ν (do let r ←zbQ lt' l hp;pure (x::r.1,r.2)) (fun q=>∀ ρ,HS E ν ρ hp w→hpLt hp=true→((x::l).all (Lf.lt hp.length)=true)→(∀ y∈x::l,Lf.good ν y) →
    hpLt q.2=true∧q.1.all (Lf.lt q.2.length)=true∧(∀ x∈q.1,Lf.good ν x)∧hp.length≤q.2.length∧∃ ρ':Nat→Loc,(∀ j,j<hp.length→ρ' j=ρ j)∧HS E ν ρ' q.2 w∧q.1.map (Lf.conc ν ρ')=(x::l).map (Lf.conc ν ρ)):=fun lt'=>by
   refine zaa (ih lt' hp) fun r hr=>zab fun ρ hw hlt hcs hg=>?_
   simp only [List.all_cons,Bool.and_eq_true] at hcs
   obtain ⟨h1,h2,h3,h4,ρ',h5,h6,h7⟩:=hr ρ hw hlt hcs.2 (fun y hy=>hg y (List.mem_cons_of_mem _ hy))
   refine ⟨h1,?_,fun y hy=>?_,h4,ρ',h5,h6,?_⟩
   ·simp only [List.all_cons,Bool.and_eq_true]
    exact ⟨Lf.lt_mono h4 hcs.1,h2⟩
   ·rcases List.mem_cons.1 hy with rfl | hy
    ·exact hg _ (by simp)
    ·exact h3 y hy
   ·simp only [List.map_cons]
    rw [h7,Lf.conc_keep h5 hcs.1]
  cases lt with
  | nil=>exact zab fun ρ hw hlt hcs hg=>⟨hlt,hcs,hg,Nat.le_refl _,ρ,fun _ _=>rfl,hw,rfl⟩
  | cons t lt' =>
   cases t with
   | int k=>exact keep lt'
   | bool=>exact keep lt'
   | vec ts =>
    simp only [zbQ]
    refine zae (fun hc=>?_) (fun _=>keep lt')
    simp only [Bool.and_eq_true] at hc
    have hx:=zhk hc.1
    have hpos:0<ts.length:=Nat.le_of_ble_eq_true hc.2
    refine zaa (zag (Q:=fun q=>q.cells ν=[]) fun q h=>A.cells_of_den h) fun q hq=>zaa (ih lt' (hp++[some (.v true ts q)])) fun r hr=>zab fun ρ hw hlt hcs hg=>?_
    simp only [List.all_cons,Bool.and_eq_true] at hcs
    have hw1:=hw.fresh (w':=w) (bk:=.v true ts q) (r:=⟨0,0,true,0,0,none⟩) hlt (Below.refl _ w)
     (⟨fun _=>⟨rfl,rfl⟩,fun e=>(by cases e),hpos,by rw [hq];simp,Nat.le_refl _,fun j hj=>by rw [hq] at hj;simp at hj,fun _ e=>(by cases e),fun _ e=>(by cases e)⟩:VRel E w ⟨0,0,true,0,0,none⟩ true ts (q.cells ν)) (.inl rfl)
    have hlt1:hpLt (hp++[some (.v true ts q)])=true:=by
     unfold hpLt at hlt ⊢
     rw [List.all_append,Bool.and_eq_true,List.length_append]
     refine ⟨List.all_eq_true.2 fun y hy=>?_,rfl⟩
     have:=List.all_eq_true.1 hlt y hy
     cases y with
     | none=>rfl
     | some b=>exact Blk.lt_mono (Nat.le_add_right _ _) this
    have hcs1:l.all (Lf.lt (hp++[some (Blk.v true ts q)]).length)=true:=by
     refine List.all_eq_true.2 fun y hy=>Lf.lt_mono (by simp) (List.all_eq_true.1 hcs.2 y hy)
    obtain ⟨h1,h2,h3,h4,ρ',h5,h6,h7⟩:=hr _ hw1 hlt1 hcs1 (fun y hy=>hg y (List.mem_cons_of_mem _ hy))
    rw [List.length_append] at h4 h5
    simp only [List.length_cons,List.length_nil] at h4 h5
    refine ⟨h1,?_,fun y hy=>?_,by show hp.length≤r.2.length;omega,ρ',fun j hj=>by rw [h5 j (by omega),zbO hj],h6,?_⟩
    ·simp only [List.all_cons,Bool.and_eq_true,Lf.lt,decide_eq_true_eq]
     exact ⟨by omega,h2⟩
    ·rcases List.mem_cons.1 hy with rfl | hy
     ·trivial
     ·exact h3 y hy
    ·simp only [List.map_cons,h7]
     rw [hx]
     simp only [Lf.conc]
     rw [h5 _ (by omega),zbI]
     congr 1
     exact List.map_congr_left fun y hy=>Lf.conc_keep (fun j hj=>zbO hj) (List.all_eq_true.1 hcs.2 y hy)
end
theorem V1.conc_low {ν:Nat→DV} {v:V1} {n:Nat} (h:v.lt n=true) {ρ ρ':Nat→Loc} (hρ:∀ j,j<n→ρ' j=ρ j):v.conc ν ρ'=v.conc ν ρ:=by
 have h1:∀ l:Lf,l.lt n=true→l.conc ν ρ'=l.conc ν ρ:=fun l hl=>Lf.keep_spec hρ hl
 cases v with
 | one l=>exact h1 l (by simpa [V1.lt,V1.cells] using h)
 | agg l =>
  have hl:∀ x∈l,x.lt n=true:=fun x hx=>List.all_eq_true.1 h x hx
  simp only [V1.conc]
  congr 2
  exact List.map_congr_left fun x hx=>h1 x (hl x hx)
theorem V.conc_low {ν:Nat→DV} {v:V} {n:Nat} (h:v.lt n=true) {ρ ρ':Nat→Loc} (hρ:∀ j,j<n→ρ' j=ρ j):v.conc ν ρ'=v.conc ν ρ:=by
 cases v with
 | s v=>exact V1.conc_low h hρ
 | t l =>
  have hl:∀ x∈l,x.lt n=true:=fun x hx=>List.all_eq_true.1 h x hx
  simp only [V.conc]
  congr 2
  exact List.map_congr_left fun x hx=>V1.conc_low (hl x hx) hρ
section
variable {P:Program} {F:FEnv} {E:Env} {ν:Nat→DV}
theorem zlE {hp:List (Option Blk)} {t tx:TypeId} {s x:V} : M.sat F ν (ziq P hp t tx s x) (fun z=>∀ ρ w ty,HS E ν ρ hp w →
  ∃ v w',(Builtin.append_ #[t,tx] ty #[s.conc ν ρ,x.conc ν ρ]).run P w = .ok v w'∧za8 E ν ρ hp v w' z):=by
 unfold ziq
 split
 ·rename_i l
  refine zae (fun hc=>?_) (fun _=>zeH)
  simp only [Bool.and_eq_true] at hc
  refine zaa zap fun k _=>?_
  split
  ·refine zaa zap fun z0 _=>zaa zap fun ts _=>zaa (zdw fun w=>zcp (E:=E) (w:=w) _ _ _) fun q hq=>?_
   split
   ·rename_i l' hl'
    refine zah (zeH (E:=E)) fun z hz ρ w ty hw=>?_
    have hn:=zhk hc.1.1
    obtain ⟨h1,h2,h3,h4,ρ',h5,h6,h7⟩:=hq w ρ hw hc.1.2 (by subst hn;rfl) (fun y hy=>by
     rcases List.mem_cons.1 hy with rfl | hy
     ·subst hn;trivial
     ·cases hy)
    rw [hl'] at h7
    have h7:l'.conc ν ρ'=l.conc ν ρ:=by simpa using h7
    obtain ⟨v,w',g1,g2⟩:=hz ρ' w ty h6
    have e1:(V.s (.one l')).conc ν ρ'=(V.s (.one l)).conc ν ρ:=h7
    rw [e1,V.conc_low hc.2 h5] at g1
    refine ⟨v,w',g1,?_⟩
    cases z with
    | val _=>exact g2
    | hp u hp' =>
     cases u with
     | none=>exact g2
     | some u =>
      obtain ⟨a1,ρ2,a2,a3,a4⟩:=g2
      exact ⟨a1,ρ2,fun j hj=>by rw [a2 j (by omega),h5 j hj],a3,a4⟩
   ·exact zac
  ·exact zac
 ·exact zeH
end
end Go.Sx
namespace Go.Sx
open Go.RowKit
section
variable {P:Program} {F:FEnv} {ν:Nat→DV}
theorem zhR (n:String) (hg:Extern.allGenericRows.lookup n=none) (ht:Extern.allTypedRows.lookup n=none) {fn:Func} (hn:fn.name=n) {e:Array Value→Sem Value} (hr:Extern.allRows.lookup n=some e):Extern.find fn=some e:=by
 unfold Extern.find
 simp only [hn,hg,ht,hr]
 rfl
theorem zmK (n : String) (h : Extern.allNextRows.lookup n = none) (h0 : Extern.allNextRows.lookup "" = none) {fn : Func} (hn : fn.name = n) (ho : fn.origin = "") : Extern.findNext fn = none := by
 unfold Extern.findNext
 simp only [hn,ho,h,h0]
 rfl
def zue:Array Value→Sem Value:=fun args=>do
 let (x, y, c) ← Extern.MathBitsCarry.three "Add64" args
 pure (Extern.MathBitsCarry.pair ((x+y+c)%Extern.MathBitsCarry.m64) ((x+y+c)/Extern.MathBitsCarry.m64))
def zuf:Array Value→Sem Value:=fun args=>do
 let (x, y, b) ← Extern.MathBitsCarry.three "Sub64" args
 pure (Extern.MathBitsCarry.pair ((x+Extern.MathBitsCarry.m64-y-b)%Extern.MathBitsCarry.m64) (if x<y+b then 1 else 0))
theorem zmL (n:String) (x y c:Nat) (hc:¬ c>1) (w:World):(Extern.MathBitsCarry.three n #[.int .u64 x,.int .u64 y,.int .u64 c]).run P w = .ok (x,y,c) w:=by
 have:Extern.MathBitsCarry.three n #[.int .u64 x,.int .u64 y,.int .u64 c]=(do
  let c0 ←asInt (.int .u64 (c:Int))
  if c0.toNat > 1 then unsupported (.noEntry ("extern/math/bits." ++ n ++ ": a carry that is neither 0 nor 1"))
  let x0 ←asInt (.int .u64 (x:Int))
  let y0 ←asInt (.int .u64 (y:Int))
  pure (x0.toNat,y0.toNat,c0.toNat)):=rfl
 have h:∀ x:Nat,asInt (.int .u64 (x:Int))=pure (x:Int):=fun _=>rfl
 rw [this]
 simp only [h,pure_bind,Int.toNat_natCast,if_neg hc]
 rfl
theorem zqb {fn : Func} (hn : fn.name = "math/bits.Add64") : Extern.find fn = some zue :=
 zhR "math/bits.Add64" (by kernel_rfl) (by kernel_rfl) hn (by kernel_rfl)
theorem zqc {fn : Func} (hn : fn.name = "math/bits.Sub64") : Extern.find fn = some zuf :=
 zhR "math/bits.Sub64" (by kernel_rfl) (by kernel_rfl) hn (by kernel_rfl)
theorem zqd {fn : Func} (hn : fn.name = "math/bits.Add64") (ho : fn.origin = "") : Extern.findNext fn = none :=
 zmK "math/bits.Add64" (by kernel_rfl) (by kernel_rfl) hn ho
theorem zqe {fn : Func} (hn : fn.name = "math/bits.Sub64") (ho : fn.origin = "") : Extern.findNext fn = none :=
 zmK "math/bits.Sub64" (by kernel_rfl) (by kernel_rfl) hn ho
theorem zlF {f : FuncId} {add : Bool} (h : zib P f = some add) : ∃ fn, P.funcs[f]? = some fn ∧ fn.body.isNone = true ∧ fn.origin = "" ∧ fn.name = bif add then "math/bits.Add64" else "math/bits.Sub64" := by
 unfold zib at h
 split at h
 ·rename_i fn hf
  split at h
  ·rename_i hb
   simp only [Bool.and_eq_true,beq_iff_eq] at hb
   refine ⟨fn,hf,hb.1,hb.2,?_⟩
   split at h
   ·rename_i hn;cases h;simpa using hn
   ·split at h
    ·rename_i hn;cases h;simpa using hn
    ·cases h
  ·cases h
 ·cases h
theorem zvV (n:Int):IntKind.wrap .u64 n=n%18446744073709551616:=by simp [IntKind.wrap,IntKind.signed,IntKind.bits]
theorem zps {a:A} : M.sat F ν (oweU a) (fun _=>0≤a.int ν∧a.int ν<18446744073709551616):=by
 unfold oweU
 refine zaa (zag (Q:=fun r=>r.bool ν=decide (a.int ν≥0)) fun r h=>A.bool_of_den h) fun q hq=>?_
 refine zaa (zbk (Q:=fun _=>0≤a.int ν) fun h=>by rw [hq] at h;simpa using h) fun _ h0=>?_
 refine zaa (zag (Q:=fun r=>r.bool ν=decide (a.int ν<18446744073709551616)) fun r h=>A.bool_of_den h) fun q hq=>?_
 exact zbk fun h=>⟨h0,by rw [hq] at h;simpa using h⟩
theorem zoc {add:Bool} {a b q:A} : M.sat F ν (znI add a b q) (fun z=>∃ s k:A,z = .val (.t [.one (.i .u64 s),.one (.i .u64 k)]) ∧
  ∀ f,zib P f=some add→∀ w,(callFunc f #[.int .u64 (a.int ν),.int .u64 (b.int ν),.int .u64 (q.int ν)]).run P w = .ok (.value (.tuple #[.int .u64 (s.int ν),.int .u64 (k.int ν)])) w):=by
 unfold znI
 refine zaa zps fun _ ha=>zaa zps fun _ hb=>?_
 refine zaa (zag (Q:=fun r=>r.bool ν=decide (q.int ν≥0)) fun r h=>A.bool_of_den h) fun x hx=>?_
 refine zaa (zbk (Q:=fun _=>0≤q.int ν) fun h=>by rw [hx] at h;simpa using h) fun _ hq0=>?_
 refine zaa (zag (Q:=fun r=>r.bool ν=decide (q.int ν<2)) fun r h=>A.bool_of_den h) fun x hx=>?_
 refine zaa (zbk (Q:=fun _=>q.int ν<2) fun h=>by rw [hx] at h;simpa using h) fun _ hq1=>?_
 refine zaa (zag (Q:=fun r=>r.bool ν=(q.int ν==1)) fun r h=>A.bool_of_den h) fun one hone=>?_
 refine zaa (zag (Q:=fun r=>r.int ν=IntKind.wrap .u64 (if add then a.int ν+b.int ν else a.int ν-b.int ν)) fun r h=>by cases add<;>exact A.int_of_den h) fun s1 hs1=>?_
 refine zaa (zag (Q:=fun r=>r.int ν=IntKind.wrap .u64 (if add then s1.int ν+q.int ν else s1.int ν-q.int ν)) fun r h=>by cases add<;>exact A.int_of_den h) fun s hs=>?_
 refine zaa (zag (Q:=fun r=>r.bool ν=(if add then decide (s.int ν<a.int ν) else decide (a.int ν<b.int ν))) fun r h=>by cases add<;>exact A.bool_of_den h) fun low hlow=>?_
 refine zaa (zag (Q:=fun r=>r.bool ν=(if add then s.int ν==a.int ν else a.int ν==b.int ν)) fun r h=>by cases add<;>exact A.bool_of_den h) fun same hsame=>?_
 refine zaa (zag (Q:=fun r=>r.bool ν=(one.bool ν&&same.bool ν)) fun r h=>A.bool_of_den h) fun both hboth=>?_
 refine zaa (zag (Q:=fun r=>r.bool ν=(low.bool ν||both.bool ν)) fun r h=>A.bool_of_den h) fun c hc=>?_
 refine zaa (zag (Q:=fun r=>r.int ν=bif c.bool ν then 1 else 0) fun r h=>A.int_of_den h) fun k hk=>zab ⟨s,k,rfl,fun f hf w=>?_⟩
 obtain ⟨fn,h1,h2,h3,h4⟩:=zlF hf
 generalize a.int ν=x at *
 generalize b.int ν=y at *
 generalize q.int ν=z at *
 generalize s.int ν=s at *
 generalize k.int ν=k at *
 generalize s1.int ν=s1 at *
 obtain ⟨X,rfl⟩:=Int.eq_ofNat_of_zero_le ha.1
 obtain ⟨Y,rfl⟩:=Int.eq_ofNat_of_zero_le hb.1
 obtain ⟨Z,rfl⟩:=Int.eq_ofNat_of_zero_le hq0
 have hZ:¬ Z>1:=by omega
 rw [hc,hlow,hboth,hone,hsame] at hk
 cases add
 ·simp only [cond_false] at h4
  rw [run_callFunc_extern h1 (by rw [h4];rfl) h2 (zqe h4 h3) (zqc h4)]
  simp only [Bool.false_eq_true,if_false] at hs1 hs hk
  rw [zvV] at hs1 hs
  unfold zuf
  rw [Sem.run_bind,zmL _ _ _ _ hZ]
  have e1:s=((X+2^64-Y-Z:Nat):Int)%18446744073709551616:=by omega
  have e2:k=((if X<Y+Z then 1 else 0:Nat):Int):=by
   rw [hk,Bool.cond_eq_ite]
   simp only [Bool.or_eq_true,decide_eq_true_eq,Bool.and_eq_true,beq_iff_eq]
   split<;>split<;>omega
  simp [e1,e2,Extern.MathBitsCarry.pair,Extern.MathBitsCarry.m64]
 ·simp only [cond_true] at h4
  rw [run_callFunc_extern h1 (by rw [h4];rfl) h2 (zqd h4 h3) (zqb h4)]
  simp only [if_true] at hs1 hs hk
  rw [zvV] at hs1 hs
  unfold zue
  rw [Sem.run_bind,zmL _ _ _ _ hZ]
  have e1:s=((X+Y+Z:Nat):Int)%18446744073709551616:=by omega
  have e2:k=(((X+Y+Z)/18446744073709551616:Nat):Int):=by
   rw [hk,Bool.cond_eq_ite]
   simp only [Bool.or_eq_true,decide_eq_true_eq,Bool.and_eq_true,beq_iff_eq]
   split<;>omega
  simp [e1,e2,Extern.MathBitsCarry.pair,Extern.MathBitsCarry.m64]
end
end Go.Sx
