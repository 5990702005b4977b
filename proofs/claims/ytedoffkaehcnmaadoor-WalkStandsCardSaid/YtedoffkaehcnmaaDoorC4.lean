/- What a function of nodes is at known arguments: reckoned by the kernel, whatever calls and loops are in it. -/
import Derived.Test.YtedoffkaehcnmaaDoorC3
namespace Go.Sx
inductive KD where
 | hand (g:List DV→List DV)
 | fn (sg:Sig) (o:Out)
 | lp (l:LR) (tys:List Ty)
def outK (sg:Sig) (o:Out) (ν:Nat→DV):List DV:=(bif sg.need then [.b (zcf ν o.owes)] else [])++nrms sg.ots (o.outs.map (A.den ν))
def A.belowB (n:Nat):A→Bool
 | .r i=>Nat.blt i n
 | _=>true
def asEq:List A→List A→Bool
 | [],[]=>true
 | a::l,b::l'=>a.beq b&&asEq l l'
 | _,_=>false
def hitK (last:Option (Nat×List A×List DV)) (f:Nat) (args:List A):Option (List DV) :=
 match last with
 | some (f',args',res)=>bif Nat.beq f' f&&asEq args' args then some res else none
 | none=>none
def zfy (ev:Nat→List DV→Option (List DV)) (base:Nat→DV) (n0:Nat):Em→List DV→Nat→Option (Nat×List A×List DV)→Option (List DV)
 | [],vs,_,_=>some vs
 | (_,.call f args j)::r,vs,n,last =>
  match hitK last f args with
  | some res=>zfy ev base n0 r (res.getD j default::vs) (n+1) last
  | none =>
   match ev f (args.map (A.den (look base n0 vs n))) with
   | none=>none
   | some res=>zfy ev base n0 r (res.getD j default::vs) (n+1) (bif args.all (A.belowB n) then some (f,args,res) else none)
 | (_,x)::r,vs,n,_=>zfy ev base n0 r (zbc (fun _ _=>[]) (look base n0 vs n) x::vs) (n+1) none
def idxK (i:Nat):List Nat→Nat
 | []=>0
 | j::l=>bif Nat.beq j i then 0 else idxK i l+1
def memK (i:Nat):List Nat→Bool
 | []=>false
 | j::l=>Nat.beq j i||memK i l
def zne:List Nat→Bool
 | []=>true
 | i::l=>!memK i l&&zne l
def zd3 (inv:List Nat) (s:List DV) (i:Nat):DV:=s.getD (idxK i inv) default
def zpG (ev:Nat→List DV→Option (List DV)) (l:LR) (tys:List Ty):Nat→List DV→Option (Option (List DV))
 | 0,_=>none
 | n+1,s =>
  bif zne l.inv&&Nat.beq s.length (l.inv.length+l.k) then
   match zfy ev (zd3 l.inv s) l.n l.nodes (s.drop l.inv.length).reverse (l.n+l.k) none with
   | none=>none
   | some vs =>
    bif zcf (look (zd3 l.inv s) l.n vs (l.n+l.k+l.nodes.length)) l.owes then
     bif l.c.bool (look (zd3 l.inv s) l.n vs (l.n+l.k+l.nodes.length)) then
      zpG ev l tys n (nrms tys (l.inv.map (zd3 l.inv s)++l.nx.map (A.den (look (zd3 l.inv s) l.n vs (l.n+l.k+l.nodes.length)))))
     else some (some (nrms (.i::l.ts) (l.outs.map (A.den (look (zd3 l.inv s) l.n vs (l.n+l.k+l.nodes.length))))))
    else some none
  else none
def evK (T:List (Nat×KD)):Nat→Nat→List DV→Option (List DV)
 | 0,_,_=>none
 | k+1,f,ds =>
  match assoc T f with
  | none=>none
  | some (.hand g)=>some (g ds)
  | some (.fn sg o) =>
   bif Nat.beq ds.length sg.nin then
    match zfy (evK T k) (fun _=>default) 0 o.nodes (nrms sg.its ds).reverse sg.nin none with
    | none=>none
    | some vs=>some (outK sg o (look (fun _=>default) 0 vs (sg.nin+o.nodes.length)))
   else none
  | some (.lp l tys) =>
   match zpG (evK T k) l tys k (nrms tys ds) with
   | none=>none
   | some none=>some (.b false::nrms (.i::l.ts) [])
   | some (some r)=>some (.b true::r)
def KD.ok (F:FEnv) (f:Nat):KD→Prop
 | .hand g=>∀ ds,F f ds=g ds
 | .fn sg o=>∀ ds,ds.length=sg.nin→F f ds=outK sg o (zaV F sg o (nrms sg.its ds))
 | .lp l tys=>∃ (w c:List DV→Bool) (nx out:List DV→List DV),(∀ ds,F f ds=ztz (.i::l.ts) (zcB w c nx out (nrms tys ds))) ∧
  (∀ ν xs,xs.length=l.k→zcf (l.env F ν xs) l.owes=w (nrms tys (l.inv.map ν++xs))) ∧
  (∀ ν xs,xs.length=l.k→l.c.bool (l.env F ν xs)=c (nrms tys (l.inv.map ν++xs))) ∧
  (∀ ν xs,xs.length=l.k→nrms tys (l.inv.map ν++l.nx.map (A.den (l.env F ν xs)))=nx (nrms tys (l.inv.map ν++xs))) ∧
  (∀ ν xs,xs.length=l.k→nrms (.i::l.ts) (l.outs.map (A.den (l.env F ν xs)))=out (nrms tys (l.inv.map ν++xs)))
theorem A.beq_eq {a b:A} (h:a.beq b=true):a=b:=by
 cases a<;>cases b<;>simp only [A.beq] at h<;>first | (cases h;done) | skip
 ·rw [Nat.eq_of_beq_eq_true h]
 ·rw [of_decide_eq_true h]
 ·rename_i x y;cases x<;>cases y<;>first | rfl | cases h
 ·rw [Nat.eq_of_beq_eq_true h]
theorem zrP:∀ {l l':List A},asEq l l'=true→l=l'
 | [],[],_=>rfl
 | a::l,b::l',h=>by
  simp only [asEq,Bool.and_eq_true] at h
  rw [A.beq_eq h.1,zrP h.2]
 | [],_::_,h=>by cases h
 | _::_,[],h=>by cases h
theorem zrQ (base:Nat→DV) (n0:Nat) (vs:List DV) (n i:Nat) (v:DV) (h:i<n):look base n0 (v::vs) (n+1) i=look base n0 vs n i:=by
 unfold look
 cases Nat.blt i n0 with
 | true=>rfl
 | false =>
  show (v::vs).getD (n+1-1-i) default=vs.getD (n-1-i) default
  rw [show n+1-1-i=(n-1-i)+1 from by omega,List.getD_cons_succ]
theorem ztA (base:Nat→DV) (n0:Nat) (vs:List DV) (n:Nat) (v:DV) {a:A} (h:a.belowB n=true):a.den (look base n0 (v::vs) (n+1))=a.den (look base n0 vs n):=by
 cases a with
 | r i=>exact zrQ base n0 vs n i v (by simpa [A.belowB] using h)
 | _=>rfl
theorem zcu {F:FEnv} {ev:Nat→List DV→Option (List DV)} (hev:∀ f ds r,ev f ds=some r→F f ds=r) (base:Nat→DV) (n0:Nat):∀ (e:Em) (vs:List DV) (n:Nat) (last:Option (Nat×List A×List DV)) (out:List DV),
  (∀ f args res,last=some (f,args,res)→args.all (A.belowB n)=true∧F f (args.map (A.den (look base n0 vs n)))=res)→zfy ev base n0 e vs n last=some out→zaS F base n0 e vs n=out
 | [],vs,n,last,out,_,h=>by simpa [zfy,zaS] using h
 | (i,x)::r,vs,n,last,out,hl,h=>by
  have plain:(∀ f args j,x≠.call f args j)→zaS F base n0 ((i,x)::r) vs n=out:=fun hx=>by
   have e1:zfy ev base n0 ((i,x)::r) vs n last=zfy ev base n0 r (zbc (fun _ _=>[]) (look base n0 vs n) x::vs) (n+1) none:=by
    cases x<;>first | rfl | exact absurd rfl (hx _ _ _)
   have e2:zbc F (look base n0 vs n) x=zbc (fun _ _=>[]) (look base n0 vs n) x:=by
    cases x<;>first | rfl | exact absurd rfl (hx _ _ _)
   rw [e1] at h
   rw [zaS,e2]
   exact zcu hev base n0 r _ _ none out (fun _ _ _ h=>by cases h) h
  by_cases hx:∃ f args j,x = .call f args j
  ·obtain ⟨f,args,j,rfl⟩:=hx
   have keep:∀ {f':Nat} {args':List A} {res:List DV} {v:DV},args'.all (A.belowB n)=true→F f' (args'.map (A.den (look base n0 vs n)))=res →
     args'.all (A.belowB (n+1))=true∧F f' (args'.map (A.den (look base n0 (v::vs) (n+1))))=res:=fun {f' args' res v} h1 h2=>by
    refine ⟨List.all_eq_true.2 fun a ha=>?_,?_⟩
    ·have:=List.all_eq_true.1 h1 a ha
     cases a with
     | r i=>simp only [A.belowB,Nat.blt_eq] at this ⊢;omega
     | _=>rfl
    ·rw [←h2]
     congr 1
     exact List.map_congr_left fun a ha=>ztA base n0 vs n v (List.all_eq_true.1 h1 a ha)
   simp only [zfy] at h
   rw [zaS]
   show zaS F base n0 r ((F f (args.map (A.den (look base n0 vs n)))).getD j default::vs) (n+1)=out
   split at h
   ·rename_i res hh
    cases last with
    | none=>cases hh
    | some q =>
     obtain ⟨f',args',res'⟩:=q
     simp only [hitK] at hh
     cases hb:Nat.beq f' f&&asEq args' args with
     | false=>rw [hb] at hh;cases hh
     | true =>
      rw [hb] at hh
      simp only [cond_true,Option.some.injEq] at hh
      subst hh
      simp only [Bool.and_eq_true] at hb
      have hf:=Nat.eq_of_beq_eq_true hb.1
      have ha:=zrP hb.2
      subst hf;subst ha
      obtain ⟨h1,h2⟩:=hl _ _ _ rfl
      rw [h2]
      exact zcu hev base n0 r _ _ _ out (fun f1 a1 r1 h3=>by cases h3;exact keep h1 h2) h
   ·split at h
    ·cases h
    ·rename_i res hr
     have h2:=hev _ _ _ hr
     rw [h2]
     refine zcu hev base n0 r _ _ _ out (fun f1 a1 r1 h3=>?_) h
     cases hb:args.all (A.belowB n) with
     | false=>rw [hb] at h3;cases h3
     | true=>rw [hb] at h3;cases h3;exact keep hb h2
  ·exact plain fun f args j e=>hx ⟨f,args,j,e⟩
theorem zl4 {i:Nat} : ∀ {l:List Nat},memK i l=true↔i∈l
 | []=>by simp [memK]
 | j::l=>by
  simp only [memK,Bool.or_eq_true,List.mem_cons,zl4 (l:=l)]
  exact or_congr ⟨fun h=>(Nat.eq_of_beq_eq_true h).symm,fun h=>by rw [h];exact Nat.beq_refl j⟩ Iff.rfl
theorem znf:∀ (inv:List Nat) (s:List DV),zne inv=true→inv.length≤s.length→inv.map (zd3 inv s)=s.take inv.length
 | [],s,_,_=>rfl
 | i::l,[],_,h=>by simp at h
 | i::l,d::s,hn,h=>by
  simp only [zne,Bool.and_eq_true,Bool.not_eq_true'] at hn
  have h1:zd3 (i::l) (d::s) i=d:=by
   unfold zd3 idxK
   rw [Nat.beq_refl];rfl
  have h2:l.map (zd3 (i::l) (d::s))=l.map (zd3 l s):=List.map_congr_left fun j hj=>by
   unfold zd3
   have hb:Nat.beq i j=false:=by
    cases hb:Nat.beq i j with
    | false=>rfl
    | true =>
     have:=Nat.eq_of_beq_eq_true hb
     subst this
     rw [zl4.2 hj] at hn
     cases hn.1
   rw [idxK,hb]
   rfl
  rw [List.map_cons,h1,h2,znf l s hn.2 (by simpa using h)]
  rfl
theorem zhZ {F:FEnv} {ev:Nat→List DV→Option (List DV)} (hev:∀ f ds r,ev f ds=some r→F f ds=r) {l:LR} {tys:List Ty} {w c:List DV→Bool} {nx out:List DV→List DV}
  (hw:∀ ν xs,xs.length=l.k→zcf (l.env F ν xs) l.owes=w (nrms tys (l.inv.map ν++xs)))
  (hc:∀ ν xs,xs.length=l.k→l.c.bool (l.env F ν xs)=c (nrms tys (l.inv.map ν++xs)))
  (hn:∀ ν xs,xs.length=l.k→nrms tys (l.inv.map ν++l.nx.map (A.den (l.env F ν xs)))=nx (nrms tys (l.inv.map ν++xs)))
  (ho:∀ ν xs,xs.length=l.k→nrms (.i::l.ts) (l.outs.map (A.den (l.env F ν xs)))=out (nrms tys (l.inv.map ν++xs))) :
  ∀ (n:Nat) (ds:List DV) (r:Option (List DV)),zpG ev l tys n (nrms tys ds)=some r→(zcB w c nx out (nrms tys ds)).map (nrms (.i::l.ts))=r
 | 0,_,_,h=>by cases h
 | n+1,ds,r,h=>by
  generalize hs:nrms tys ds=s at *
  have hss:nrms tys s=s:=by rw [←hs,zdI]
  rw [zpG] at h
  cases hb:zne l.inv&&Nat.beq s.length (l.inv.length+l.k) with
  | false=>rw [hb] at h;cases h
  | true =>
   rw [hb] at h
   simp only [cond_true] at h
   simp only [Bool.and_eq_true] at hb
   have hlen:=Nat.eq_of_beq_eq_true hb.2
   have hmap:=znf l.inv s hb.1 (by omega)
   have hxs:(s.drop l.inv.length).length=l.k:=by rw [List.length_drop];omega
   have hcat:l.inv.map (zd3 l.inv s)++s.drop l.inv.length=s:=by rw [hmap,List.take_append_drop]
   split at h
   ·cases h
   ·rename_i vs hv
    have henv:look (zd3 l.inv s) l.n vs (l.n+l.k+l.nodes.length)=l.env F (zd3 l.inv s) (s.drop l.inv.length):=by
     unfold LR.env
     rw [zcu hev _ _ _ _ _ none _ (fun _ _ _ h=>by cases h) hv]
    rw [henv] at h
    have h1:=hw (zd3 l.inv s) _ hxs
    have h2:=hc (zd3 l.inv s) _ hxs
    have h3:=hn (zd3 l.inv s) _ hxs
    have h4:=ho (zd3 l.inv s) _ hxs
    rw [hcat,hss] at h1 h2 h3 h4
    rw [h1,h2,h4] at h
    cases hwv:w s with
    | false =>
     rw [hwv] at h
     simp only [cond_false,Option.some.injEq] at h
     subst h
     cases hl:zcB w c nx out s with
     | none=>rfl
     | some q=>have:=zoz hl;rw [hwv] at this;cases this
    | true =>
     rw [hwv] at h
     cases hcv:c s with
     | false =>
      rw [hcv] at h
      simp only [cond_true,cond_false,Option.some.injEq] at h
      subst h
      rw [zbY hwv hcv,Option.map_some]
      congr 1
      rw [←h4,zdI]
     | true =>
      rw [hcv] at h
      simp only [cond_true] at h
      rw [zbX hwv hcv,←h3]
      exact zhZ hev hw hc hn ho n _ r h
theorem zng {F:FEnv} {T:List (Nat×KD)} (hT:∀ f c,assoc T f=some c→c.ok F f):∀ (k f:Nat) (ds r:List DV),evK T k f ds=some r→F f ds=r
 | 0,_,_,_,h=>by cases h
 | k+1,f,ds,r,h=>by
  have hev:=zng hT k
  rw [evK] at h
  split at h
  ·cases h
  ·rename_i g hg
   cases h
   exact hT f _ hg ds
  ·rename_i sg o hg
   cases hb:Nat.beq ds.length sg.nin with
   | false=>rw [hb] at h;cases h
   | true =>
    rw [hb] at h
    simp only [cond_true] at h
    split at h
    ·cases h
    ·rename_i vs hv
     cases h
     have h1:F f ds=outK sg o (zaV F sg o (nrms sg.its ds)):=hT f _ hg ds (Nat.eq_of_beq_eq_true hb)
     rw [h1]
     unfold zaV
     rw [zcu hev _ _ _ _ _ none _ (fun _ _ _ h=>by cases h) hv]
  ·rename_i l tys hg
   obtain ⟨w,c,nx,out,hF,hw,hc,hn,ho⟩:=hT f _ hg
   have hs:=fun r h=>zhZ hev hw hc hn ho k ds r h
   split at h
   ·cases h
   ·rename_i hl
    cases h
    have:=hs _ hl
    rw [hF]
    unfold ztz
    cases hq:zcB w c nx out (nrms tys ds) with
    | none=>rfl
    | some q=>rw [hq] at this;cases this
   ·rename_i q hl
    cases h
    have:=hs _ hl
    rw [hF]
    unfold ztz
    cases hq:zcB w c nx out (nrms tys ds) with
    | none=>rw [hq] at this;cases this
    | some q' =>
     rw [hq] at this
     simp only [Option.map_some,Option.some.injEq] at this
     show DV.b true::nrms (.i::l.ts) q'=_
     rw [this]
end Go.Sx
namespace Go.Sx
variable {P:Program} {I:World→Prop} {gK:Nat} {F:FEnv} {S:Sigs}
noncomputable def outI (F:FEnv) (sg:Sig) (o:Out) (ds:List DV):List DV:=outK sg o (zaV F sg o (nrms sg.its ds))
def Out.wellB (o:Out) (sg:Sig):Bool:=(sg.need||(match o.owes with | []=>true | _=>false))&&Nat.beq o.outs.length sg.ots.length
theorem zcv {fuel:Nat} {f:FuncId} {fn:Func} {sg:Sig} {out:Out} {G:List DV→List DV} (hst:zpD I gK) (hS:SigsOK P I gK S F) (hf:P.funcs[f]? = some fn)
  (hev:evFn P S fuel fn sg=some out) (hwf:zfK sg.nin out.nodes=true) (hw:out.wellB sg=true) (hlp:∀ l∈out.loops,zaB F l)
  (hG:∀ ds,G ds=outI F sg out ds):FnOK P I gK f sg G :=
 zuh hst hS hf hev hlp fun ds _ hp=>by
  simp only [Out.wellB,Bool.and_eq_true] at hw
  have hlen:=Nat.eq_of_beq_eq_true hw.2
  have hnl:(nrms sg.its ds).length=sg.nin:=zii _ _
  obtain ⟨hl2,hsat⟩:=zcm (F:=F) (base:=fun _=>default) (n0:=0) (vs:=(nrms sg.its ds).reverse) (n:=sg.nin) (by simp [hnl]) hwf
  change Sat F (zaV F sg out (nrms sg.its ds)) out.nodes at hsat
  have hl2':∀ i,i<sg.nin→zaV F sg out (nrms sg.its ds) i=look (fun _=>default) 0 (nrms sg.its ds).reverse sg.nin i:=hl2
  refine ⟨zaV F sg out (nrms sg.its ds),hsat,fun i t ht=>?_,?_⟩
  ·have hi:i<sg.nin:=(List.getElem?_eq_some_iff.1 ht).1
   rw [hl2' i hi,zdH (by simp [hnl])]
   have h2:(nrms sg.its ds).reverse.getD (sg.nin-1-i) default=nrm t (dget ds i):=by
    rw [List.getD_eq_getElem?_getD,List.getElem?_reverse (by omega),hnl,show sg.nin-1-(sg.nin-1-i)=i from by omega,zgQ,ht]
    rfl
   rw [h2]
   exact zpu t _
  rw [hG] at hp ⊢
  unfold outI outK at hp ⊢
  cases hn:sg.need with
  | true =>
   rw [hn] at hp
   refine ⟨by simpa [dget,DV.toB] using hp rfl,zay ?_ ?_ ?_⟩
   ·simp [zdI]
   ·simp [zii]
   ·simpa using hlen
  | false =>
   have h1:=hw.1
   rw [hn] at h1
   refine ⟨?_,zay ?_ ?_ ?_⟩
   ·cases ho:out.owes with
    | nil=>rfl
    | cons _ _=>rw [ho] at h1;cases h1
   ·simp [zdI]
   ·simp [zii]
   ·simpa using hlen
theorem FnOK.up {f:FuncId} {sg:Sig} {G:List DV→List DV} {K:Nat} (h:FnOK P I 0 f sg G):FnOK P I K f sg G :=
 fun ds ρ w h1 h2 h3 _ _ h6 h7=>h ds ρ w h1 h2 h3 (Nat.zero_le _) (fun _ _=>Nat.zero_le _) h6 h7
def zkZ (l:List Nat):Em→Bool
 | []=>true
 | (_,.call f _ _)::r=>memK f l&&zkZ l r
 | _::r=>zkZ l r
theorem zeS {F F':FEnv} {l:List Nat} (h:∀ f∈l,F f=F' f) (base:Nat→DV) (n0:Nat):∀ (e:Em) (vs:List DV) (n:Nat),zkZ l e=true→zaS F base n0 e vs n=zaS F' base n0 e vs n
 | [],_,_,_=>rfl
 | (i,x)::r,vs,n,hc=>by
  rw [zaS,zaS]
  have h1:zbc F (look base n0 vs n) x=zbc F' (look base n0 vs n) x∧zkZ l r=true:=by
   cases x<;>first | exact ⟨rfl,hc⟩ | skip
   rename_i f args j
   simp only [zkZ,Bool.and_eq_true] at hc
   refine ⟨?_,hc.2⟩
   simp only [zbc]
   rw [h f (zl4.1 hc.1)]
  rw [h1.1]
  exact zeS h base n0 r _ _ h1.2
theorem zaH {F F':FEnv} {l:List Nat} {sg:Sig} {o:Out} (hc:zkZ l o.nodes=true) (h:∀ f∈l,F f=F' f) (ds:List DV):outI F sg o ds=outI F' sg o ds:=by
 unfold outI zaV
 rw [zeS h _ _ _ _ _ hc]
theorem zjD {Q:LR→Prop} {a b:List LR} (h:a=b) (hb:∀ l∈b,Q l):∀ l∈a,Q l:=h▸hb
theorem zak {f:FuncId} {s:Sig} {g:List DV→List DV} {l:List (FuncId×Sig)} (k:FnOK P I gK f s g) (h:F f=g) (t:∀ p∈l,FnOK P I gK p.1 p.2 (F p.1)) :
  ∀ p∈(f,s)::l,FnOK P I gK p.1 p.2 (F p.1):=List.forall_mem_cons.2 ⟨by rw [h];exact k,t⟩
theorem zax {Q:LR→Prop} {a:List LR} (h:a=[]):∀ l∈a,Q l:=h▸fun _ h=>(by cases h)
end Go.Sx
namespace Go.Sx
def rdN:Nat→Nat→Nat×Nat
 | 0,n=>(0,n)
 | k+1,n=>bif Nat.ble 8 (n%16) then (n%16-8+8*(rdN k (n/16)).1,(rdN k (n/16)).2) else (n%16,n/16)
def num (n:Nat):Nat×Nat:=rdN 64 n
def rdS {α:Type} (f:Nat→α×Nat):Nat→Nat→List α×Nat
 | 0,n=>([],n)
 | k+1,n=>((f n).1::(rdS f k (f n).2).1,(rdS f k (f n).2).2)
def rdL {α:Type} (f:Nat→α×Nat) (n:Nat):List α×Nat:=rdS f (num n).1 (num n).2
def mkA (c v:Nat):A :=
 match v%4 with
 | 0=>.r (c-v/4)
 | 1=>.z (Int.ofNat (v/4))
 | 2=>.z (-Int.ofNat (v/4))
 | _=>.t (Nat.beq (v/4) 1)
def rdA (c n:Nat):A×Nat:=(mkA c (num n).1,(num n).2)
def mkK:Nat→IntKind
 | 0=>.i8
 | 1=>.i16
 | 2=>.i32
 | 3=>.i64
 | 4=>.u8
 | 5=>.u16
 | 6=>.u32
 | _=>.u64
def rdK (n:Nat):IntKind×Nat:=(mkK (n%16),n/16)
def mkT:Nat→Ty
 | 0=>.i
 | 1=>.b
 | _=>.l
def rdT (n:Nat):Ty×Nat:=(mkT (n%16),n/16)
def rd1 (c:Nat) (f:A→Node) (n:Nat):Node×Nat:=(f (rdA c n).1,(rdA c n).2)
def rd2 (c:Nat) (f:A→A→Node) (n:Nat):Node×Nat:=rd1 c (f (rdA c n).1) (rdA c n).2
def rd3 (c:Nat) (f:A→A→A→Node) (n:Nat):Node×Nat:=rd2 c (f (rdA c n).1) (rdA c n).2
def rdK1 (c:Nat) (f:IntKind→A→Node) (n:Nat):Node×Nat:=rd1 c (f (rdK n).1) (rdK n).2
def rdK2 (c:Nat) (f:IntKind→A→A→Node) (n:Nat):Node×Nat:=rd2 c (f (rdK n).1) (rdK n).2
def zui (c n:Nat):Node×Nat :=
 match (num n).1,(num n).2 with
 | 0,n=>rd2 c .eql n
 | 1,n=>rd2 c .and n
 | 2,n=>rd3 c .itei n
 | 3,n=>(.lgeti (num n).1 (num (num n).2).1 (rdA c (num (num n).2).2).1 (rdA c (rdA c (num (num n).2).2).2).1,(rdA c (rdA c (num (num n).2).2).2).2)
 | 4,n=>rd2 c .lss n
 | 5,n=>(.lgetl (num n).1 (num (num n).2).1 (rdA c (num (num n).2).2).1 (rdA c (rdA c (num (num n).2).2).2).1,(rdA c (rdA c (num (num n).2).2).2).2)
 | 6,n=>rd1 c .not n
 | 7,n=>(.call (num n).1 (rdL (rdA c) (num n).2).1 (num (rdL (rdA c) (num n).2).2).1,(num (rdL (rdA c) (num n).2).2).2)
 | 8,n=>rdK2 c .add n
 | 9,n=>rdK2 c .sub n
 | 10,n=>rdK2 c .mul n
 | 11,n=>rdK2 c .land n
 | 12,n=>rdK2 c .lor n
 | 13,n=>rdK2 c .lxor n
 | 14,n=>rdK2 c .landNot n
 | 15,n=>rdK2 c .quo n
 | 16,n=>rdK2 c .rem n
 | 17,n=>rdK2 c .shl n
 | 18,n=>rdK2 c .shr n
 | 19,n=>rd2 c .neq n
 | 20,n=>rd2 c .leq n
 | 21,n=>rd2 c .gtr n
 | 22,n=>rd2 c .geq n
 | 23,n=>rd2 c .beq n
 | 24,n=>rd2 c .bne n
 | 25,n=>rd2 c .or n
 | 26,n=>rd3 c .iteb n
 | 27,n=>rdK1 c .conv n
 | 28,n=>rd1 c (.seli (rdL (rdA c) n).1) (rdL (rdA c) n).2
 | 29,n=>rd1 c (.selb (rdL (rdA c) n).1) (rdL (rdA c) n).2
 | 30,n=>(.lmk (rdL rdT n).1 (rdL (rdA c) (rdL rdT n).2).1,(rdL (rdA c) (rdL rdT n).2).2)
 | 31,n=>rd1 c (.llen (num n).1) (num n).2
 | 32,n=>(.lgetb (num n).1 (num (num n).2).1 (rdA c (num (num n).2).2).1 (rdA c (rdA c (num (num n).2).2).2).1,(rdA c (rdA c (num (num n).2).2).2).2)
 | 33,n=>rd3 c (.lset (num n).1 (num (num n).2).1 (rdT (num (num n).2).2).1) (rdT (num (num n).2).2).2
 | 34,n=>rd2 c .lcat n
 | 35,n=>rd2 c (.ltake (num n).1) (num n).2
 | 36,n=>rd2 c (.ldrop (num n).1) (num n).2
 | 37,n=>(.lrep (rdA c n).1 (rdL rdT (rdA c n).2).1 (rdL (rdA c) (rdL rdT (rdA c n).2).2).1,(rdL (rdA c) (rdL rdT (rdA c n).2).2).2)
 | 38,n=>rd3 c .itel n
 | 39,n=>rd3 c (.aset (num n).1 (num (num n).2).1 (num (num (num n).2).2).1 (rdT (num (num (num n).2).2).2).1) (rdT (num (num (num n).2).2).2).2
 | 40,n=>rd2 c (.lsub (num n).1 (num (num n).2).1 (num (num (num n).2).2).1) (num (num (num n).2).2).2
 | _,n=>rd2 c .sbeq n
def rdNs:Nat→Nat→Nat→Em
 | 0,_,_=>[]
 | k+1,c,n=>(c,(zui c n).1)::rdNs k (c+1) (zui c n).2
def rdPB (c n:Nat):(A×Bool)×Nat:=(((rdA c n).1,Nat.beq ((rdA c n).2%16) 1),(rdA c n).2/16)
def rdNd (c n:Nat):Nd×Nat:=(⟨(rdL (rdPB c) n).1,(rdA c (rdL (rdPB c) n).2).1⟩,(rdA c (rdL (rdPB c) n).2).2)
def dec (nin:Nat) (ls:List LR) (n:Nat):Out :=
 let k:=(num n).1
 let a:=rdL (rdA (nin+k)) (num n).2
 let o:=rdL (rdNd (nin+k)) a.2
 ⟨rdNs k nin o.2,o.1,ls,a.1⟩
end Go.Sx
