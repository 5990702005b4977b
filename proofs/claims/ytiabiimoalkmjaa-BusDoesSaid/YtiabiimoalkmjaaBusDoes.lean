/- BusDoes: whatever the zzV, the law gives true, and the zzV reads as it did. No condition. -/
import Derived.Test.YtiabiimoalkmjaaD7
import Derived.Test.YtiabiimoalkmjaaD6
import Derived.Test.YtiabiimoalkmjaaRows
namespace Go.Proofs.Ytiabiimoalkmjaa
open Go Go.Sx Go.RowKit
set_option maxRecDepth 100000
theorem ZL:ownKnob Try.prog.godebug=none:=by kernel_rfl
noncomputable def Mu:List mZ:=(yl Try.prog Try.f3.params.toList).getD []
theorem z_ {k:IntKind} {d:DV} (h:bY [LT.int k] [d]):∃ n,d = .i n/\(Lit.int k n).wf=true:=by
 cases d with
 | i n=>exact ⟨n,rfl,h.1⟩
 | b _=>exact absurd h (by simp [bY])
 | l _=>exact absurd h (by simp [bY])
theorem zuJ:∀ (n:Nat) (xs:List DV),xs.length=n*4->(∀ i,i<xs.length->bY [([LT.int .i64,.int .i64,.int .i64,.int .u64]:List LT).getD (i%4) .bool] [xs.getD i default]) ->
  ∃ l:List Ev,l.length=n/\xs=ax l/\∀ e∈l,(Lit.int .i64 e.c).wf=true/\(Lit.int .i64 e.k).wf=true/\(Lit.int .i64 e.n).wf=true/\(Lit.int .u64 e.v).wf=true
 | 0,xs,h,_=>⟨[],rfl,by have:xs=[]:=List.eq_nil_of_length_eq_zero (by omega);rw [this];rfl,fun e he=>by cases he⟩
 | n+1,xs,h,hc=>by
  match xs,h,hc with
  | a::b::c::d::r,h,hc =>
   have h0:=hc 0 (by simp)
   have h1:=hc 1 (by simp)
   have h2:=hc 2 (by simp)
   have h3:=hc 3 (by simp)
   obtain ⟨a,rfl,w0⟩:=z_ (k:=.i64) (d:=a) h0
   obtain ⟨b,rfl,w1⟩:=z_ (k:=.i64) (d:=b) h1
   obtain ⟨c,rfl,w2⟩:=z_ (k:=.i64) (d:=c) h2
   obtain ⟨d,rfl,w3⟩:=z_ (k:=.u64) (d:=d) h3
   obtain ⟨l,hl,hr,hw⟩:=zuJ n r (by simp at h;omega) (fun i hi=>by
    have:=hc (i+4) (by simp;omega)
    rwa [show (i+4)%4=i%4 from by omega] at this)
   refine ⟨⟨a,b,c,d⟩::l,by simp [hl],by rw [hr];rfl,fun e he=>?_⟩
   rcases List.mem_cons.1 he with rfl | he
   ·exact ⟨w0,w1,w2,w3⟩
   ·exact hw e he
  | [],h,_=>simp at h
  | [_],h,_=>simp at h;omega
  | [_,_],h,_=>simp at h;omega
  | [_,_,_],h,_=>simp at h;omega
theorem zy5 {xs:List DV} (h:qX [.int .i64,.int .i64,.int .i64,.int .u64] xs):∃ l:List Ev,xs=ax l/\l.length<=maxLen/\∀ e∈l,(Lit.int .i64 e.c).wf=true/\(Lit.int .i64 e.k).wf=true/\(Lit.int .i64 e.n).wf=true/\(Lit.int .u64 e.v).wf=true:=by
 obtain ⟨n,hn,hlen⟩:=h.len
 obtain ⟨l,h1,h2,h3⟩:=zuJ n xs hlen h.cell
 exact ⟨l,h2,by omega,h3⟩
theorem zuK:∀ (n:Nat) (xs:List DV),xs.length=n*4->(∀ i,i<xs.length->bY [([LT.int .i64,.int .u64,.int .i64,.int .u64]:List LT).getD (i%4) .bool] [xs.getD i default]) ->
  ∃ l:List Ev,l.length=n/\xs=ax l/\∀ e∈l,(Lit.int .u64 e.k).wf=true/\(Lit.int .i64 e.n).wf=true/\(Lit.int .u64 e.v).wf=true
 | 0,xs,h,_=>⟨[],rfl,by have:xs=[]:=List.eq_nil_of_length_eq_zero (by omega);rw [this];rfl,fun e he=>by cases he⟩
 | n+1,xs,h,hc=>by
  match xs,h,hc with
  | a::b::c::d::r,h,hc =>
   have h0:=hc 0 (by simp)
   have h1:=hc 1 (by simp)
   have h2:=hc 2 (by simp)
   have h3:=hc 3 (by simp)
   obtain ⟨a,rfl,w0⟩:=z_ (k:=.i64) (d:=a) h0
   obtain ⟨b,rfl,w1⟩:=z_ (k:=.u64) (d:=b) h1
   obtain ⟨c,rfl,w2⟩:=z_ (k:=.i64) (d:=c) h2
   obtain ⟨d,rfl,w3⟩:=z_ (k:=.u64) (d:=d) h3
   obtain ⟨l,hl,hr,hw⟩:=zuK n r (by simp at h;omega) (fun i hi=>by
    have:=hc (i+4) (by simp;omega)
    rwa [show (i+4)%4=i%4 from by omega] at this)
   refine ⟨⟨a,b,c,d⟩::l,by simp [hl],by rw [hr];rfl,fun e he=>?_⟩
   rcases List.mem_cons.1 he with rfl | he
   ·exact ⟨w1,w2,w3⟩
   ·exact hw e he
  | [],h,_=>simp at h
  | [_],h,_=>simp at h;omega
  | [_,_],h,_=>simp at h;omega
  | [_,_,_],h,_=>simp at h;omega
theorem zy6 {xs:List DV} (h:qX [.int .i64,.int .u64,.int .i64,.int .u64] xs):∃ l:List Ev,xs=ax l/\∀ e∈l,(Lit.int .u64 e.k).wf=true/\(Lit.int .i64 e.n).wf=true/\(Lit.int .u64 e.v).wf=true:=by
 obtain ⟨n,hn,hlen⟩:=h.len
 obtain ⟨l,h1,h2,h3⟩:=zuK n xs hlen h.cell
 exact ⟨l,h2,h3⟩
theorem zy7 {xs:List DV} (h:qX [.int .u8] xs):∀ i,i<xs.length->0<=(xs.getD i default).ai/\(xs.getD i default).ai<256:=fun i hi=>by
 have:=h.cell i hi
 rw [show i%([LT.int .u8]:List LT).length=0 from Nat.mod_one i] at this
 obtain ⟨n,hn,hw⟩:=z_ (k:=.u8) (d:=xs.getD i default) this
 rw [hn]
 have hb:0<=n/\n<=255:=by simpa [Lit.wf,IntKind.min,IntKind.max,IntKind.bits,IntKind.signed] using hw
 show 0<=n/\n<256
 omega
def Qx (xs:List DV):Prop:=(xs.getD 0 default).ay.length<=140737488351232/\(xs.getD 1 default).ay.length<=17592186044416/\(xs.getD 2 default).ay.length<=17592186044416
theorem zwe:Mu=[.row [.int .u8],.row [.int .i64,.int .i64,.int .i64,.int .u64],.row [.int .i64,.int .u64,.int .i64,.int .u64]]:=by kernel_rfl
theorem zse {H:Type} (xs:List DV) (ds:List (DataW H)) (h:Fc Mu xs ds) (hz:(DataW.weightsEach Try.checked.prog Try.f3.params.toList ds).all (·<=reachBytes)=true):Qx xs:=by
 rw [zwe] at h
 unfold Qx
 match ds,h with
 | d0::d1::d2::_,⟨ha,hb,h,_⟩ =>
  have h:(xs.tail.tail.headD default).ay.length=nV d2*4:=h
  have hb:(xs.tail.headD default).ay.length=nV d1*4:=hb
  have ha:(xs.headD default).ay.length=nV d0*1:=ha
  have e0:xs.getD 0 default=xs.headD default:=by cases xs<;>rfl
  have e1:xs.getD 1 default=xs.tail.headD default:=by rcases xs with _ | ⟨a,_ | ⟨b,r⟩⟩<;>rfl
  have e2:xs.getD 2 default=xs.tail.tail.headD default:=by rcases xs with _ | ⟨a,_ | ⟨b,_ | ⟨c,r⟩⟩⟩<;>rfl
  rw [e0,e1,e2]
  rw [h,ha,hb]
  refine ⟨?_,?_,?_⟩
  ·cases d0 with
   | slice elems spare =>
    have hs:=sized_slice (e:=5) hz (j:=0) (t:=22) (elems:=elems) (spare:=spare) (by kernel_rfl) rfl (by kernel_rfl)
    rw [show Try.checked.prog.bytesOf 5=1 from by kernel_rfl] at hs
    unfold reachBytes at hs
    show elems.length*1<=_
    omega
   | _=>simp [nV]
  ·cases d1 with
   | slice elems spare =>
    have hs:=sized_slice (e:=38) hz (j:=1) (t:=23) (elems:=elems) (spare:=spare) (by kernel_rfl) rfl (by kernel_rfl)
    rw [show Try.checked.prog.bytesOf 38=32 from by kernel_rfl] at hs
    unfold reachBytes at hs
    show elems.length*4<=_
    omega
   | _=>simp [nV]
  ·cases d2 with
   | slice elems spare =>
    have hs:=sized_slice (e:=40) hz (j:=2) (t:=24) (elems:=elems) (spare:=spare) (by kernel_rfl) rfl (by kernel_rfl)
    rw [show Try.checked.prog.bytesOf 40=32 from by kernel_rfl] at hs
    unfold reachBytes at hs
    show elems.length*4<=_
    omega
   | _=>simp [nV]
 | [],h=>exact h.elim
 | [_],h=>exact h.2.elim
 | [_,_],h=>exact h.2.2.elim
theorem zuL (xs:List DV) (h:Hx Mu xs) (Mv:xs.length=jl Mu) (hsz:Qx xs):(s3.need=true->(af (g3 xs) 0).aA=true)/\(af (g3 xs) (if s3.need then 1 else 0)).aA=true:=by
 rw [zwe] at h
 obtain ⟨⟨v0,ru,hr0⟩,⟨v1,lQ,ff⟩,⟨v2,ij,me⟩,_⟩:=h
 have hu:=zy7 hr0
 obtain ⟨l,rfl,_,hwl⟩:=zy5 ff
 obtain ⟨s,rfl,hw⟩:=zy6 me
 match xs,ru,lQ,ij,Mv,hsz with
 | [y0,y1,y2],ru,lQ,ij,_,hsz =>
  have ru:some y0=some (.l v0):=ru
  have lQ:some y1=some (.l (ax l)):=lQ
  have ij:some y2=some (.l (ax s)):=ij
  cases ru
  cases lQ
  cases ij
  obtain ⟨x0,x1,x2⟩:=hsz
  have x0:v0.length<=140737488351232:=x0
  have x1:(ax l).length<=17592186044416:=x1
  have x2:(ax s).length<=17592186044416:=x2
  rw [zrk] at x1 x2
  have r:=zvC v0 l s (fun b hb=>by
   obtain ⟨i,hi,rfl⟩:=List.getElem_of_mem hb
   have:=hu i hi
   rwa [List.getD_eq_getElem?_getD,List.getElem?_eq_getElem hi,Option.getD_some] at this) (by omega) (by omega) (fun e he=>by
   obtain ⟨_,_,_,a⟩:=hwl e he
   have ha:0<=e.v/\e.v<=18446744073709551615:=by simpa [Lit.wf,IntKind.min,IntKind.max,IntKind.bits,IntKind.signed] using a
   exact ha.1) (by omega) (fun e he=>by
   obtain ⟨a,b,c⟩:=hw e he
   have ha:0<=e.k/\e.k<=18446744073709551615:=by simpa [Lit.wf,IntKind.min,IntKind.max,IntKind.bits,IntKind.signed] using a
   have hb : -9223372036854775808<=e.n/\e.n<=9223372036854775807:=by simpa [Lit.wf,IntKind.min,IntKind.max,IntKind.bits,IntKind.signed] using b
   have hc:0<=e.v/\e.v<=18446744073709551615:=by simpa [Lit.wf,IntKind.min,IntKind.max,IntKind.bits,IntKind.signed] using c
   exact ⟨by omega,by omega,by unfold uz;rw [Bool.and_eq_true,decide_eq_true_eq,decide_eq_true_eq];omega,by omega,by omega⟩)
  rw [r]
  exact ⟨fun _=>rfl,rfl⟩
theorem zkX (os:Os) (started:os.Started) (H:Type) (enc:TypeId×Value->H) :
  ReturnsInHanded {} Try.checked os 3 .any (Rows.busDoesSpec.pre6 enc Try.prog Try.f3 [] false) (Rows.busDoesSpec.post enc Try.prog Try.f3 false true false false) :=
 zoI (C:=Try.checked) (fn:=Try.f3) (sg:=s3) (G:=g3) (I:=WI) (ss:=Mu) (tb:=(Try.f3.resultTypes.getD 0 0)) k3 (by kernel_rfl) ⟨by kernel_rfl,by kernel_rfl,by kernel_rfl,rfl,rfl,rfl⟩ (by kernel_rfl) (by kernel_rfl) rfl
  (fun ds h=>match ds,(h.trans (by kernel_rfl):ds.length=3) with | [_,_,_],_=>rfl)
  ⟨by kernel_rfl,by kernel_rfl,by kernel_rfl,by kernel_rfl⟩
  (X:=Qx) zuL zse (fun _=>trivial) rfl ZL started (by kernel_rfl) Try.func3
  (ChangeSpec.witness6 (enc:=enc) (C:=Try.checked) false ⟨#[],#[.slice none 0 0,.slice none 0 0,.slice none 0 0],[]⟩ 8 (by kernel_rfl) (by kernel_rfl) (by kernel_rfl) (by kernel_rfl))
theorem busDoes_holds:Rows.BusDoesSaid :=
 OpenClaim.holds_of_wide 3 Try.f3 rfl rfl rfl rfl rfl rfl rfl ⟨rfl,rfl,rfl,rfl,rfl⟩ rfl rfl rfl rfl rfl (by kernel_rfl) Try.func3 (by kernel_rfl)
  (of_decide_eq_true (by kernel_rfl)) (by unfold Func.isWrapper;first | (rw [if_pos (by decide +kernel)];kernel_rfl) | (rw [if_neg (by decide +kernel)];exact ⟨rfl,rfl⟩))
  (fun os started H enc _=>zkX os started H enc)
#print axioms busDoes_holds
end Go.Proofs.Ytiabiimoalkmjaa
