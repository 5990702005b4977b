/- The next cycle: its zwd come in, alike. -/
import Derived.Test.YtiabiimoalkmjaaD6
import Derived.Test.YtiabiimoalkmjaaD4
import Derived.ProofKit
import Derived.LaidMore
import Derived.Stop.Joined
import Derived.SizedLaws
import Derived.ReadAgain
noncomputable section
namespace Go.Proofs.Ytiabiimoalkmjaa
open Go Go.Sx
set_option maxRecDepth 100000
def B16 (A B:List DV):List DV :=
 let z9:DV:=A.getD 0 default
 let x9:Bool:=z9.aA
 let xl:DV:=A.getD 2 default
 let cx:List DV:=xl.ay
 let xm:DV:=A.getD 4 default
 let cc:List DV:=xm.ay
 let pI:DV:=A.getD 5 default
 let bX:List DV:=pI.ay
 let xp:DV:=A.getD 6 default
 let bZ:Int:=xp.ai
 let rD:DV:=A.getD 7 default
 let cM:List DV:=rD.ay
 let xj:DV:=A.getD 8 default
 let cQ:Bool:=xj.aA
 let Me:DV:=B.getD 0 default
 let eK:List DV:=Me.ay
 let eY:List DV:=[.l cx,.l eK,.l cc,.l bX,.i bZ,.l cM,.b cQ]
 [.b ((ow [] x9::[]).all id),.l eY]
def B17 (A B:List DV):List DV :=
 let BC:DV:=A.getD 0 default
 let cr:Bool:=BC.aA
 let qO:DV:=A.getD 2 default
 let cv:List DV:=qO.ay
 let pI:DV:=A.getD 4 default
 let bX:List DV:=pI.ay
 let xp:DV:=A.getD 5 default
 let bZ:List DV:=xp.ay
 let rD:DV:=A.getD 6 default
 let cM:Int:=rD.ai
 let xj:DV:=A.getD 7 default
 let cQ:List DV:=xj.ay
 let zY:DV:=A.getD 8 default
 let dJ:Int:=zY.ai
 let xk:DV:=A.getD 9 default
 let fG:Bool:=xk.aA
 let tG:DV:=B.getD 0 default
 let fL:List DV:=tG.ay
 let eH:List DV:=[.l cv,.l fL,.l bX,.l bZ,.i cM,.l cQ,.i dJ,.b fG]
 [.b ((ow [] cr::[]).all id),.l eH]
theorem zv9 (q m C D U:List DV) (aR:Int) (ev:List DV) (one:Bool) (c k n v N:Int) (rest:List DV) (hN:((ev.length/4:Nat):Int)=N) (hc:(ev.getD (Int.toNat 0*(4:Nat)+(0:Nat)) default).ai=c) (hk:(ev.getD (Int.toNat 0*(4:Nat)+(1:Nat)) default).ai=k) (hn:(ev.getD (Int.toNat 0*(4:Nat)+(2:Nat)) default).ai=n) (hv:(ev.getD (Int.toNat 0*(4:Nat)+(3:Nat)) default).ai=v) (hr:ev.drop (Int.toNat 1*4)=rest):DA [.l q,.l m,.l C,.l D,.l U,.i aR,.l ev,.b one,.l q,.l q,.l q,.l q] =
  [ow [(decide (N>0),true)] (decide (0<N)),ow [(decide (N>0)&&c==aR,true)] (decide (0<N)),ow [(decide (N>0)&&c==aR,true)] (decide (1<=N)),ow [(decide (N>0)&&c==aR,true),(k==1,true)] ((uD [.l U,.i (IntKind.wrap .u8 v)]).getD 0 default).aA,
   ow [(decide (N>0)&&c==aR,true),(k==1,false),(n==1,false)] ((mQ [.l D,.i n,.b (v==1)]).getD 0 default).aA,ow [(decide (N>0)&&c==aR,true)] ((lF [.l [.l m,.l C,.l (bif k==1 then D else bif n==1 then D else ((mQ [.l D,.i n,.b (v==1)]).getD 2 default).ay),.l (bif k==1 then ((uD [.l U,.i (IntKind.wrap .u8 v)]).getD 1 default).ay else U),.i aR,.l rest,.b (bif k==1 then one else bif n==1 then v==1 else one)]]).getD 0 default).aA].all id:=by
 subst hN hc hk hn hv hr
 kernel_rfl
theorem zwa (q m C D U:List DV) (aR:Int) (ev:List DV) (one:Bool) (c N:Int) (hN:((ev.length/4:Nat):Int)=N) (hc:(ev.getD (Int.toNat 0*(4:Nat)+(0:Nat)) default).ai=c):DB [.l q,.l m,.l C,.l D,.l U,.i aR,.l ev,.b one,.l q,.l q,.l q,.l q]=(decide (N>0)&&c==aR):=by
 subst hN hc
 kernel_rfl
theorem zyX (q m C D U:List DV) (aR:Int) (ev:List DV) (one:Bool) (k n v:Int) (rest L:List DV) (hk:(ev.getD (Int.toNat 0*(4:Nat)+(1:Nat)) default).ai=k) (hn:(ev.getD (Int.toNat 0*(4:Nat)+(2:Nat)) default).ai=n) (hv:(ev.getD (Int.toNat 0*(4:Nat)+(3:Nat)) default).ai=v) (hr:ev.drop (Int.toNat 1*4)=rest) (hL:((lF [.l [.l m,.l C,.l (bif k==1 then D else bif n==1 then D else ((mQ [.l D,.i n,.b (v==1)]).getD 2 default).ay),.l (bif k==1 then ((uD [.l U,.i (IntKind.wrap .u8 v)]).getD 1 default).ay else U),.i aR,.l rest,.b (bif k==1 then one else bif n==1 then v==1 else one)]]).getD 1 default).ay=L):G3 [.l q,.l m,.l C,.l D,.l U,.i aR,.l ev,.b one,.l q,.l q,.l q,.l q] =
  [.l q,.l (L.getD 0 default).ay,.l (L.getD 1 default).ay,.l (L.getD 2 default).ay,.l (L.getD 3 default).ay,.i (L.getD 4 default).ai,.l (L.getD 5 default).ay,.b (L.getD 6 default).aA,.l q,.l q,.l q,.l q]:=by
 subst hk hn hv hr hL
 kernel_rfl
theorem zwb (q m C D U:List DV) (aR:Int) (ev:List DV) (cm:Int) (one:Bool) (c k n v N:Int) (hN:((ev.length/4:Nat):Int)=N) (hc:(ev.getD (Int.toNat cm*(4:Nat)+(0:Nat)) default).ai=c) (hk:(ev.getD (Int.toNat cm*(4:Nat)+(1:Nat)) default).ai=k) (hn:(ev.getD (Int.toNat cm*(4:Nat)+(2:Nat)) default).ai=n) (hv:(ev.getD (Int.toNat cm*(4:Nat)+(3:Nat)) default).ai=v):G5 [.l q,.l m,.l C,.l D,.l U,.i aR,.l ev,.i cm,.b one,.l q,.l q,.l q,.l q] =
  [ow [(c_ cm N,true)] (ew cm 0),ow [(c_ cm N,true)] (c_ cm N),ow [(c_ cm N&&c==aR,true)] (ew cm 0),ow [(c_ cm N&&c==aR,true)] (c_ cm N),ow [(c_ cm N&&c==aR,true),(k==1,true)] ((vq [.l U,.i (IntKind.wrap .u8 v)]).getD 0 default).aA,
   ow [(c_ cm N&&c==aR,true),(k==1,false),(n==1,false)] ((mR [.l D,.i n,.b (v==1)]).getD 0 default).aA,ow [(c_ cm N&&c==aR,true)] ((nr [.l [.l m,.l C,.l (bif k==1 then D else bif n==1 then D else ((mR [.l D,.i n,.b (v==1)]).getD 2 default).ay),.l (bif k==1 then ((vq [.l U,.i (IntKind.wrap .u8 v)]).getD 1 default).ay else U),.i aR,.l ev,.i (IntKind.wrap .i64 (cm+1)),.b (bif k==1 then one else bif n==1 then v==1 else one)]]).getD 0 default).aA].all id:=by
 subst hN hc hk hn hv
 kernel_rfl
theorem zwc (q m C D U:List DV) (aR:Int) (ev:List DV) (cm:Int) (one:Bool) (c N:Int) (hN:((ev.length/4:Nat):Int)=N) (hc:(ev.getD (Int.toNat cm*(4:Nat)+(0:Nat)) default).ai=c):G6 [.l q,.l m,.l C,.l D,.l U,.i aR,.l ev,.i cm,.b one,.l q,.l q,.l q,.l q]=(c_ cm N&&c==aR):=by
 subst hN hc
 kernel_rfl
theorem zyY (q m C D U:List DV) (aR:Int) (ev:List DV) (cm:Int) (one:Bool) (k n v:Int) (L:List DV) (hk:(ev.getD (Int.toNat cm*(4:Nat)+(1:Nat)) default).ai=k) (hn:(ev.getD (Int.toNat cm*(4:Nat)+(2:Nat)) default).ai=n) (hv:(ev.getD (Int.toNat cm*(4:Nat)+(3:Nat)) default).ai=v) (hL:((nr [.l [.l m,.l C,.l (bif k==1 then D else bif n==1 then D else ((mR [.l D,.i n,.b (v==1)]).getD 2 default).ay),.l (bif k==1 then ((vq [.l U,.i (IntKind.wrap .u8 v)]).getD 1 default).ay else U),.i aR,.l ev,.i (IntKind.wrap .i64 (cm+1)),.b (bif k==1 then one else bif n==1 then v==1 else one)]]).getD 1 default).ay=L):K8 [.l q,.l m,.l C,.l D,.l U,.i aR,.l ev,.i cm,.b one,.l q,.l q,.l q,.l q] =
  [.l q,.l (L.getD 0 default).ay,.l (L.getD 1 default).ay,.l (L.getD 2 default).ay,.l (L.getD 3 default).ay,.i (L.getD 4 default).ai,.l (L.getD 5 default).ay,.i (L.getD 6 default).ai,.b (L.getD 7 default).aA,.l q,.l q,.l q,.l q]:=by
 subst hk hn hv hL
 kernel_rfl
theorem zyZ (q m C D U:List DV) (aR:Int) (ev:List DV) (one:Bool):jY [.i,.l,.l,.l,.l,.i,.l,.b,.l,.l,.l,.l] (some (G4 [.l q,.l m,.l C,.l D,.l U,.i aR,.l ev,.b one,.l q,.l q,.l q,.l q]))=[.b true,.i 0,.l m,.l C,.l D,.l U,.i aR,.l ev,.b one,.l q,.l q,.l q,.l q]:=by kernel_rfl
theorem zy0 (q m C D U:List DV) (aR:Int) (ev:List DV) (cm:Int) (one:Bool):jY [.i,.l,.l,.l,.l,.i,.l,.i,.b,.l,.l,.l,.l] (some (K9 [.l q,.l m,.l C,.l D,.l U,.i aR,.l ev,.i cm,.b one,.l q,.l q,.l q,.l q]))=[.b true,.i 0,.l m,.l C,.l D,.l U,.i aR,.l ev,.i cm,.b one,.l q,.l q,.l q,.l q]:=by kernel_rfl
theorem zzT (m C D U:List DV) (aR:Int) (ev:List DV) (one:Bool) (A:List DV) (hA:jY [.i,.l,.l,.l,.l,.i,.l,.b,.l,.l,.l,.l] (dQ DA DB G3 G4 ((fun (q:List DV) (aR:Int)=>[.l q,.l m,.l C,.l D,.l U,.i aR,.l ev,.b one,.l q,.l q,.l q,.l q]) [.l m,.l C,.l D,.l U,.i aR,.l ev,.b one] (IntKind.wrap .i64 (aR+1))))=A):uF [.l [.l m,.l C,.l D,.l U,.i aR,.l ev,.b one]]=B16 A (Ke [A.getD 3 default]):=by
 subst hA
 kernel_rfl
theorem zzU (m C D U:List DV) (aR:Int) (ev:List DV) (cm:Int) (one:Bool) (A:List DV) (hA:jY [.i,.l,.l,.l,.l,.i,.l,.i,.b,.l,.l,.l,.l] (dQ G5 G6 K8 K9 ((fun (q:List DV) (aR:Int)=>[.l q,.l m,.l C,.l D,.l U,.i aR,.l ev,.i cm,.b one,.l q,.l q,.l q,.l q]) [.l m,.l C,.l D,.l U,.i aR,.l ev,.i cm,.b one] (IntKind.wrap .i64 (aR+1))))=A):DC [.l [.l m,.l C,.l D,.l U,.i aR,.l ev,.i cm,.b one]]=B17 A (OW [A.getD 3 default]):=by
 subst hA
 kernel_rfl
abbrev St.S (b:St) (q:List DV):List DV:=[.l q,.l b.m,.l b.C,.l b.D,.l b.U,.i b.aR,.l (ax (b.l.drop b.az)),.b b.one,.l q,.l q,.l q,.l q]
abbrev St.Z (b:St) (q:List DV):List DV:=[.l q,.l b.m,.l b.C,.l b.E,.l b.V,.i b.aR,.l (ax b.l),.i (b.az:Int),.b b.one,.l q,.l q,.l q,.l q]
theorem zzV {b : St} {N : Nat} (h : b.Ok N) (hlt : b.az < b.l.length) : ∃ b' : St, b'.Ok N /\ b'.az = b.az + 1 /\ b'.l = b.l /\ b'.aR = b.aR /\ b'.m = b.m /\ b'.C = b.C /\
    (let e := b.l[b.az]
     (e.k == 1) = true /\ (∃ u, uD [.l b.U, .i (IntKind.wrap .u8 e.v)] = [.b true, .l b'.U] /\ vq [.l b.V, .i (IntKind.wrap .u8 e.v)] = [.b true, .l b'.V] /\ b'.D = b.D /\ b'.E = b.E /\ b'.one = b.one /\ u = true) \/
     (e.k == 1) = false /\ b'.U = b.U /\ b'.V = b.V /\ ((e.n == 1) = true /\ b'.D = b.D /\ b'.E = b.E /\ b'.one = (e.v == 1) \/
       (e.n == 1) = false /\ b'.one = b.one /\ mQ [.l b.D, .i e.n, .b (e.v == 1)] = [.b true, .b true, .l b'.D] /\ mR [.l b.E, .i e.n, .b (e.v == 1)] = [.b true, .b true, .l b'.E])) := by
  obtain ⟨hm, hv⟩ := h.ev _ (List.getElem_mem hlt)
  have hce := h.az
  have Ts := h.c
  have FV := h.l
  have o : b.az + 1 <= b.l.length := by omega
  have oc : b.c.length <= b.az + 1 := by omega
  unfold Ev.may at hm
  rcases Bool.or_eq_true_iff.1 hm with hm | hm
  · simp only [Bool.and_eq_true] at hm
    obtain ⟨⟨k1, _⟩, _⟩ := hm
    obtain ⟨c', lo', p1, p2, p3, p4⟩ := zxu h.U (by omega) b.w b.lo (IntKind.wrap .u8 b.l[b.az].v)
    exact ⟨{ b with az := b.az + 1, c := c', lo := lo' }, ⟨h.m, h.C, h.D, p3, h.jQ, h.n, show c'.length <= b.az + 1 by omega, o, h.l, h.ev⟩, rfl, rfl, rfl, rfl, rfl, .inl ⟨k1, true, p1, p2, rfl, rfl, rfl, rfl⟩⟩
  · simp only [Bool.and_eq_true, decide_eq_true_eq, beq_iff_eq] at hm
    obtain ⟨⟨⟨k2, n1⟩, n8⟩, _⟩ := hm
    have k1 : (b.l[b.az].k == 1) = false := by rw [k2]; rfl
    cases hn : b.l[b.az].n == 1 with
    | true => exact ⟨{ b with az := b.az + 1, one := b.l[b.az].v == 1 }, ⟨h.m, h.C, h.D, h.U, h.jQ, h.n, oc, o, h.l, h.ev⟩, rfl, rfl, rfl, rfl, rfl, .inr ⟨k1, rfl, rfl, .inl ⟨hn, rfl, rfl, rfl⟩⟩⟩
    | false =>
      obtain ⟨j, hj⟩ := xd (show 0 <= b.l[b.az].n by omega)
      obtain ⟨p1, p2, p3⟩ := zut h.D (n := j) (by omega) (by omega) (b.l[b.az].v == 1)
      rw [<- hj] at p1 p2
      exact ⟨{ b with az := b.az + 1, up := _, wa := _ }, ⟨h.m, h.C, p3, h.U, h.jQ, h.n, oc, o, h.l, h.ev⟩, rfl, rfl, rfl, rfl, rfl, .inr ⟨k1, rfl, rfl, .inr ⟨hn, rfl, p1, p2⟩⟩⟩
theorem round {b:St} {N:Nat} (h:b.Ok N) (hlt:b.az<b.l.length) (hc:(b.l[b.az].c==b.aR)=true) (q r:List DV) :
  ∃ b':St,b'.Ok N/\b'.Lv/\b'.az=b.az+1/\b'.l=b.l/\(DA (b.S q)=true/\DB (b.S q)=true/\G3 (b.S q)=b'.S q)/\(G5 (b.Z r)=true/\G6 (b.Z r)=true/\K8 (b.Z r)=b'.Z r):=by
 obtain ⟨b',h',e1,e2,e3,e4,e5,hd⟩:=zzV h hlt
 obtain ⟨s1,s2,s3⟩:=Hs h'
 refine ⟨b'.set,s3,L0 _,e1,e2,?_⟩
 have ga:(b.l.drop b.az)=b.l[b.az]::b.l.drop (b.az+1):=List.drop_eq_getElem_cons hlt
 have hlen:(b.l.drop b.az).length=b.l.length-b.az:=List.length_drop ..
 have hN:=oz (b.l.drop b.az)
 have ua:=oz b.l
 obtain ⟨q0,q1,q2,q3⟩:=BF b.l b.az hlt
 obtain ⟨r0,r1,r2,r3⟩:=BF (b.l.drop b.az) 0 (by omega)
 have g0:(b.l.drop b.az)[0]'(by omega)=b.l[b.az]:=by rw [List.getElem_drop];rfl
 rw [g0] at r0 r1 r2 r3
 have hr:(ax (b.l.drop b.az)).drop (Int.toNat 1*4)=ax (b.l.drop (b.az+1)):=by rw [ga];rfl
 have F7:IntKind.wrap .i64 ((b.az:Int)+1)=((b.az+1:Nat):Int):=by have:=h.l;rw [EY (by omega) (by omega)];rfl
 have w1:=zv9 q b.m b.C b.D b.U b.aR _ b.one _ _ _ _ _ _ hN r0 r1 r2 r3 hr
 have c1:=zwa q b.m b.C b.D b.U b.aR _ b.one _ _ hN r0
 have n1:=fun L=>zyX q b.m b.C b.D b.U b.aR _ b.one _ _ _ _ L r1 r2 r3 hr
 have w2:=zwb r b.m b.C b.E b.V b.aR _ b.az b.one _ _ _ _ _ ua q0 q1 q2 q3
 have c2:=zwc r b.m b.C b.E b.V b.aR _ b.az b.one _ _ ua q0
 have n2:=fun L=>zyY r b.m b.C b.E b.V b.aR _ b.az b.one _ _ _ L q1 q2 q3
 have d1:decide (((b.l.drop b.az).length:Int)>0)=true:=decide_eq_true (by omega)
 have d2:decide (1<=((b.l.drop b.az).length:Int))=true:=decide_eq_true (by omega)
 have d4:c_ (b.az:Int) (b.l.length:Int)=true:=decide_eq_true (by omega)
 have d5:ew (b.az:Int) 0=true:=decide_eq_true (by omega)
 rw [d1,d2,hc] at w1
 rw [d4,d5,hc,F7] at w2
 rw [d1,hc] at c1
 rw [d4,hc] at c2
 rw [F7] at n2
 have S1:lF [.l [.l b.m,.l b.C,.l b'.D,.l b'.U,.i b.aR,.l (ax (b.l.drop (b.az+1))),.b b'.one]]=[.b true,.l b'.set.P]:=by
  rw [<-s1]
  show _=lF [.l [.l b'.m,.l b'.C,.l b'.D,.l b'.U,.i b'.aR,.l (ax (b'.l.drop b'.az)),.b b'.one]]
  rw [e1,e2,e3,e4,e5]
 have S2:nr [.l [.l b.m,.l b.C,.l b'.E,.l b'.V,.i b.aR,.l (ax b.l),.i ((b.az+1:Nat):Int),.b b'.one]]=[.b true,.l b'.set.R]:=by
  rw [<-s2]
  show _=nr [.l [.l b'.m,.l b'.C,.l b'.E,.l b'.V,.i b'.aR,.l (ax b'.l),.i (b'.az:Int),.b b'.one]]
  rw [e1,e2,e3,e4,e5]
 rcases hd with ⟨k1,u,p1,p2,f1,f2,f3,_⟩ | ⟨k1,f1,f2,⟨m1,f3,f4,f5⟩ | ⟨m1,f5,p1,p2⟩⟩
 ·rw [k1] at w1 n1 w2 n2
  rw [f1,f3] at S1
  rw [f2,f3] at S2
  rw [p1] at w1 n1
  rw [p2] at w2 n2
  have Mf:lF [.l [.l b.m,.l b.C,.l (bif true then b.D else bif b.l[b.az].n==1 then b.D else ((mQ [.l b.D,.i b.l[b.az].n,.b (b.l[b.az].v==1)]).getD 2 default).ay),.l (bif true then (([DV.b true,.l b'.U]:List DV).getD 1 default).ay else b.U),.i b.aR,.l (ax (b.l.drop (b.az+1))),.b (bif true then b.one else bif b.l[b.az].n==1 then b.l[b.az].v==1 else b.one)]]=[.b true,.l b'.set.P]:=S1
  have Mg:nr [.l [.l b.m,.l b.C,.l (bif true then b.E else bif b.l[b.az].n==1 then b.E else ((mR [.l b.E,.i b.l[b.az].n,.b (b.l[b.az].v==1)]).getD 2 default).ay),.l (bif true then (([DV.b true,.l b'.V]:List DV).getD 1 default).ay else b.V),.i b.aR,.l (ax b.l),.i ((b.az+1:Nat):Int),.b (bif true then b.one else bif b.l[b.az].n==1 then b.l[b.az].v==1 else b.one)]]=[.b true,.l b'.set.R]:=S2
  rw [Mf] at w1 n1
  rw [Mg] at w2 n2
  exact ⟨⟨w1.trans rfl,c1,(n1 _ rfl).trans rfl⟩,⟨w2.trans rfl,c2,(n2 _ rfl).trans rfl⟩⟩
 ·rw [k1,m1] at w1 n1 w2 n2
  rw [f3,f1,f5] at S1
  rw [f4,f2,f5] at S2
  have Mf:lF [.l [.l b.m,.l b.C,.l (bif false then b.D else bif true then b.D else ((mQ [.l b.D,.i b.l[b.az].n,.b (b.l[b.az].v==1)]).getD 2 default).ay),.l (bif false then ((uD [.l b.U,.i (IntKind.wrap .u8 b.l[b.az].v)]).getD 1 default).ay else b.U),.i b.aR,.l (ax (b.l.drop (b.az+1))),.b (bif false then b.one else bif true then b.l[b.az].v==1 else b.one)]]=[.b true,.l b'.set.P]:=S1
  have Mg:nr [.l [.l b.m,.l b.C,.l (bif false then b.E else bif true then b.E else ((mR [.l b.E,.i b.l[b.az].n,.b (b.l[b.az].v==1)]).getD 2 default).ay),.l (bif false then ((vq [.l b.V,.i (IntKind.wrap .u8 b.l[b.az].v)]).getD 1 default).ay else b.V),.i b.aR,.l (ax b.l),.i ((b.az+1:Nat):Int),.b (bif false then b.one else bif true then b.l[b.az].v==1 else b.one)]]=[.b true,.l b'.set.R]:=S2
  rw [Mf] at w1 n1
  rw [Mg] at w2 n2
  exact ⟨⟨w1.trans rfl,c1,(n1 _ rfl).trans rfl⟩,⟨w2.trans rfl,c2,(n2 _ rfl).trans rfl⟩⟩
 ·rw [k1,m1] at w1 n1 w2 n2
  rw [f1,f5] at S1
  rw [f2,f5] at S2
  rw [p1] at w1 n1
  rw [p2] at w2 n2
  have Mf:lF [.l [.l b.m,.l b.C,.l (bif false then b.D else bif false then b.D else (([DV.b true,.b true,.l b'.D]:List DV).getD 2 default).ay),.l (bif false then ((uD [.l b.U,.i (IntKind.wrap .u8 b.l[b.az].v)]).getD 1 default).ay else b.U),.i b.aR,.l (ax (b.l.drop (b.az+1))),.b (bif false then b.one else bif false then b.l[b.az].v==1 else b.one)]]=[.b true,.l b'.set.P]:=S1
  have Mg:nr [.l [.l b.m,.l b.C,.l (bif false then b.E else bif false then b.E else (([DV.b true,.b true,.l b'.E]:List DV).getD 2 default).ay),.l (bif false then ((vq [.l b.V,.i (IntKind.wrap .u8 b.l[b.az].v)]).getD 1 default).ay else b.V),.i b.aR,.l (ax b.l),.i ((b.az+1:Nat):Int),.b (bif false then b.one else bif false then b.l[b.az].v==1 else b.one)]]=[.b true,.l b'.set.R]:=S2
  rw [Mf] at w1 n1
  rw [Mg] at w2 n2
  exact ⟨⟨w1.trans rfl,c1,(n1 _ rfl).trans rfl⟩,⟨w2.trans rfl,c2,(n2 _ rfl).trans rfl⟩⟩
theorem last {b:St} {N:Nat} (h:b.Ok N) (hc:∀ hlt:b.az<b.l.length,(b.l[b.az].c==b.aR)=false) (q r:List DV) :
  (DA (b.S q)=true/\DB (b.S q)=false)/\(G5 (b.Z r)=true/\G6 (b.Z r)=false):=by
 have hN:=oz (b.l.drop b.az)
 have ua:=oz b.l
 have w1:=zv9 q b.m b.C b.D b.U b.aR _ b.one _ _ _ _ _ _ hN rfl rfl rfl rfl rfl
 have c1:=zwa q b.m b.C b.D b.U b.aR _ b.one _ _ hN rfl
 have w2:=zwb r b.m b.C b.E b.V b.aR _ b.az b.one _ _ _ _ _ ua rfl rfl rfl rfl
 have c2:=zwc r b.m b.C b.E b.V b.aR _ b.az b.one _ _ ua rfl
 have d5:ew (b.az:Int) 0=true:=decide_eq_true (by omega)
 have hlen:(b.l.drop b.az).length=b.l.length-b.az:=List.length_drop ..
 rw [d5] at w2
 by_cases hlt:b.az<b.l.length
 ·obtain ⟨q0,_⟩:=BF b.l b.az hlt
  obtain ⟨r0,_⟩:=BF (b.l.drop b.az) 0 (by omega)
  have g0:(b.l.drop b.az)[0]'(by omega)=b.l[b.az]:=by rw [List.getElem_drop];rfl
  rw [g0] at r0
  have r0':((ax (b.l.drop b.az)).getD (Int.toNat 0*(4:Nat)+(0:Nat)) default).ai=b.l[b.az].c:=r0
  have d1:decide (((b.l.drop b.az).length:Int)>0)=true:=decide_eq_true (by omega)
  have d4:c_ (b.az:Int) (b.l.length:Int)=true:=decide_eq_true (by omega)
  rw [r0',hc hlt,d1] at w1
  rw [r0',hc hlt,d1] at c1
  rw [q0,hc hlt,d4] at w2 c2
  exact ⟨⟨w1.trans rfl,c1⟩,⟨w2.trans rfl,c2⟩⟩
 ·have d1:decide (((b.l.drop b.az).length:Int)>0)=false:=decide_eq_false (by omega)
  have d4:c_ (b.az:Int) (b.l.length:Int)=false:=decide_eq_false (by omega)
  rw [d1] at w1 c1
  rw [d4] at w2 c2
  exact ⟨⟨w1.trans rfl,c1.trans rfl⟩,⟨w2.trans rfl,c2.trans rfl⟩⟩
theorem zwd:∀ (j:Nat) {b:St} {N:Nat} (_:b.Ok N) (_:b.Lv) (_:b.l.length-b.az=j) (q r:List DV),
  ∃ b':St,b'.Ok N/\b'.Lv/\dQ DA DB G3 G4 (b.S q)=some (G4 (b'.S q))/\dQ G5 G6 K8 K9 (b.Z r)=some (K9 (b'.Z r))
 | j,b,N,h,hl,hj,q,r=>by
  by_cases hlt:b.az<b.l.length
  ·cases hc:b.l[b.az].c==b.aR with
   | true =>
    obtain ⟨b1,h1,l1,e1,e2,⟨w1,c1,n1⟩,⟨w2,c2,n2⟩⟩:=round h hlt hc q r
    rw [o5 w1 c1,o5 w2 c2,n1,n2]
    match j,hj with
    | 0,hj=>omega
    | j+1,hj=>exact zwd j h1 l1 (by rw [e1,e2];omega) q r
   | false =>
    obtain ⟨⟨w1,c1⟩,⟨w2,c2⟩⟩:=last h (fun _=>hc) q r
    exact ⟨b,h,hl,lU w1 c1,lU w2 c2⟩
  ·obtain ⟨⟨w1,c1⟩,⟨w2,c2⟩⟩:=last h (fun x=>absurd x hlt) q r
   exact ⟨b,h,hl,lU w1 c1,lU w2 c2⟩
theorem zxC {b:St} {N:Nat} (h:b.Ok N) (hl:b.Lv):∃ b':St,uF [.l b.P]=[.b true,.l b'.P]/\DC [.l b.R]=[.b true,.l b'.R]/\b'.Ok N/\b'.Lv:=by
 obtain ⟨b1,h1,l1,L1,L2⟩:=zwd _ (b:={ b with aR:=IntKind.wrap .i64 (b.aR+1) }) (N:=N) ⟨h.m,h.C,h.D,h.U,h.jQ,h.n,h.c,h.az,h.l,h.ev⟩ hl rfl b.P b.R
 obtain ⟨c1,c2,c3⟩:=zxn h1.C
 have t1:=zzT b.m b.C b.D b.U b.aR (ax (b.l.drop b.az)) b.one _ ((congrArg (jY _) L1).trans (zyZ ..))
 have t2:=zzU b.m b.C b.E b.V b.aR (ax b.l) b.az b.one _ ((congrArg (jY _) L2).trans (zy0 ..))
 exact ⟨{ b1 with t:=IntKind.wrap .u64 (b1.t+1) },(t1.trans (congrArg (B16 _) c1)).trans rfl,(t2.trans (congrArg (B17 _) c2)).trans rfl,⟨h1.m,c3,h1.D,h1.U,h1.jQ,h1.n,h1.c,h1.az,h1.l,h1.ev⟩,l1⟩
end Go.Proofs.Ytiabiimoalkmjaa
namespace Go.Proofs.Ytiabiimoalkmjaa
open Go Go.Sx
set_option maxRecDepth 100000
def B8 (x0 x2 x3 Mh A29 Y7 A31 A32 A33:List DV):List DV :=
 let z7:DV:=Mh.getD 0 default
 let x7:List DV:=z7.ay
 let z8:DV:=A29.getD 0 default
 let x8:Bool:=z8.aA
 let z9:DV:=A29.getD 1 default
 let x9:Bool:=z9.aA
 let cr:Bool:=!x9
 let xl:DV:=Y7.getD 0 default
 let cx:Bool:=xl.aA
 let qO:DV:=Y7.getD 1 default
 let cv:Bool:=qO.aA
 let xm:DV:=Y7.getD 2 default
 let cc:List DV:=xm.ay
 let bX:Bool:=!cr
 let bZ:List DV:=bif bX then cc else x7
 let cM:Bool:=!cv
 let cQ:Bool:=cr||cM
 let dJ:Bool:=!cQ
 let xk:DV:=A31.getD 0 default
 let fG:List DV:=xk.ay
 let L8:DV:=A32.getD 0 default
 let dy:List DV:=L8.ay
 let Y3:DV:=A33.getD 0 default
 let dW:List DV:=Y3.ay
 let eK:List DV:=[]
 let eY:List DV:=eK++x3
 let fL:Int:=((eY.length/4:Nat):Int)
 let eH:Bool:=eP fL 7036874417612
 let fq:List DV:=[.l bZ,.l fG,.l dy,.l dW,.i (-1),.l eY,.b false]
 let fZ:List DV:=[.b true,.l fq]
 let fc:List DV:=[.b false,.l []]
 let gH:Int:=bif dJ then 1 else 0
 let gP:List DV:=bif dJ then fZ else fc
 [.b ((ow [] x8::ow [(cr,false)] cx::ow [(dJ,true)] eH::[]).all id),.i gH,.b dJ,.l x0,.l x2,.l x3,.l gP]
def B9 (x0 x3 A23 Qr A35 A36 A37 A38:List DV):List DV :=
 let z7:DV:=A23.getD 0 default
 let x7:Bool:=z7.aA
 let z8:DV:=A23.getD 1 default
 let x8:Bool:=z8.aA
 let x9:Bool:=!x8
 let cr:Int:=((x0.length/1:Nat):Int)
 let cx:Bool:=dg cr 1048576
 let cv:Bool:=x9||cx
 let cc:Bool:=!cv
 let xp:DV:=A35.getD 0 default
 let bZ:List DV:=xp.ay
 let rD:DV:=A36.getD 0 default
 let cM:List DV:=rD.ay
 let xj:DV:=A37.getD 0 default
 let cQ:List DV:=xj.ay
 let dJ:List DV:=[]
 let fG:List DV:=dJ++x3
 let dy:Int:=((fG.length/4:Nat):Int)
 let dW:Bool:=eP dy 7036874417612
 let Me:DV:=A38.getD 0 default
 let eK:Bool:=Me.aA
 let tG:DV:=A38.getD 2 default
 let fL:List DV:=tG.ay
 let eH:List DV:=[.l fL,.l bZ,.l cM,.l cQ,.i (-1),.l fG,.i 0,.b false]
 let fq:List DV:=[.b true,.l eH]
 let fZ:List DV:=[.b false,.l []]
 let fc:Int:=bif cc then 1 else 0
 let gH:List DV:=bif cc then fq else fZ
 [.b ((ow [] x7::ow [(cc,true)] dW::ow [(cc,true)] eK::[]).all id),.i fc,.b cc,.l gH]
def B3 (q1 q2 q3 q4 q5:Bool) (A7 A8 A9 mY sH jH sI sJ E4:List DV):List DV :=
 let z3:DV:=A7.getD 0 default
 let x3:Bool:=z3.aA
 let z4:DV:=A7.getD 1 default
 let x4:Bool:=z4.aA
 let x5:Bool:=!x4
 let x6:Bool:=!x5
 let cr:Bool:=q1
 let bX:Bool:=q2
 let rD:DV:=A8.getD 0 default
 let cM:Bool:=rD.aA
 let xj:DV:=A8.getD 1 default
 let cQ:Int:=xj.ai
 let zY:DV:=A8.getD 2 default
 let dJ:Bool:=zY.aA
 let Me:DV:=A8.getD 6 default
 let eK:List DV:=Me.ay
 let tG:DV:=A9.getD 0 default
 let fL:Bool:=tG.aA
 let yd:DV:=A9.getD 1 default
 let eH:Int:=yd.ai
 let L9:DV:=A9.getD 2 default
 let fq:Bool:=L9.aA
 let L_:DV:=A9.getD 3 default
 let fZ:List DV:=L_.ay
 let fc:Bool:=dJ != fq
 let gH:Bool:=cQ==0
 let gP:Bool:=gH==dJ
 let gI:Bool:=fc||gP
 let iS:Bool:=q3
 let gD:Bool:=!iS
 let kr:Bool:=gI||gD
 let iF:Bool:=!kr
 let BB:DV:=mY.getD 0 default
 let iT:Bool:=BB.aA
 let Ho:DV:=mY.getD 1 default
 let fX:Int:=Ho.ai
 let Y5:DV:=mY.getD 2 default
 let jD:Bool:=Y5.aA
 let mT:Bool:=fX==0
 let fH:Bool:=!mT
 let z43:DV:=sH.getD 0 default
 let jM:Bool:=z43.aA
 let lG:Bool:=!dJ
 let jh:Bool:=!lG
 let nO:Bool:=cQ==1
 let nP:Bool:=eH==1
 let lH:Bool:=cQ==1
 let nt:Bool:=eH==1
 let iG:Bool:=(eK.getD (Int.toNat 0*1+0) default).aA
 let jE:Bool:=(fZ.getD (Int.toNat 0*1+0) default).aA
 let z57:DV:=jH.getD 0 default
 let lV:Bool:=z57.aA
 let z58:DV:=jH.getD 1 default
 let gE:Int:=z58.ai
 let z59:DV:=jH.getD 2 default
 let gq:Bool:=z59.aA
 let sD:Bool:=gE==0
 let rC:Bool:=!sD
 let z67:DV:=sI.getD 0 default
 let w5:Bool:=z67.aA
 let z71:DV:=sJ.getD 0 default
 let oo:Bool:=z71.aA
 let x_:Bool:=q4
 let DT:Bool:=q5
 let Br:Bool:=x_&&DT
 let z78:DV:=E4.getD 0 default
 let ya:Bool:=z78.aA
 let z79:DV:=E4.getD 1 default
 let DU:Bool:=z79.aA
 let gr:Bool:=Br&&DU
 let Bs:Bool:=bif rC then gr else gq
 let DW:Bool:=bif jh then Bs else true
 let yb:Bool:=bif fH then DW else jD
 let DX:Bool:=iF&&yb
 let Bt:Bool:=x6&&DX
 [.b ((ow [] x3::ow [(x6,true)] cr::ow [(x6,true)] bX::ow [(x6,true)] cM::ow [(x6,true)] fL::ow [(x6,true),(iF,true)] iT::ow [(x6,true),(iF,true),(fH,true)] jM::ow [(x6,true),(iF,true),(fH,true),(jh,true)] nO::ow [(x6,true),(iF,true),(fH,true),(jh,true)] nP::ow [(x6,true),(iF,true),(fH,true),(jh,true)] lH::ow [(x6,true),(iF,true),(fH,true),(jh,true)] nt::ow [(x6,true),(iF,true),(fH,true),(jh,true)] iG::ow [(x6,true),(iF,true),(fH,true),(jh,true)] jE::ow [(x6,true),(iF,true),(fH,true),(jh,true)] lV::ow [(x6,true),(iF,true),(fH,true),(jh,true),(rC,true)] w5::ow [(x6,true),(iF,true),(fH,true),(jh,true),(rC,true)] oo::ow [(x6,true),(iF,true),(fH,true),(jh,true),(rC,true),(Br,true)] ya::[]).all id),.b Bt]
def bW (N i k:Int) (p r:List DV) (qU qV pZ p5 rF sK sL sM p6 sN tH tI sO sP sQ tJ:List DV):Bool :=
 let kW:Int:=N
 let eN:Bool:=c_ i kW
 let sD:Bool:=ew i 0
 let rC:Int:=N
 let w5:Bool:=c_ i rC
 let gQ:Int:=k
 let fI:Bool:=gQ==0
 let DO:Bool:=(qU.getD 0 default).aA
 let DT:Bool:=(qV.getD 0 default).aA
 let gr:Bool:=gQ==1
 let Ld:Bool:=(pZ.getD 0 default).aA
 let DX:Bool:=(p5.getD 0 default).aA
 let jP:Bool:=gQ==2
 let Wv:Bool:=(rF.getD 0 default).aA
 let Wx:Bool:=(sK.getD 0 default).aA
 let DY:Bool:=(sP.getD 0 default).aA
 let DZ:Bool:=(sQ.getD 0 default).aA
 let D0:Bool:=(tJ.getD 0 default).aA
 let gR:Bool:=gQ==3
 let D2:Bool:=(sL.getD 0 default).aA
 let D4:Bool:=(sM.getD 0 default).aA
 let ji:Bool:=gQ==4
 let D7:Bool:=(p6.getD 0 default).aA
 let D9:Bool:=(sN.getD 0 default).aA
 let Ef:Bool:=(sO.getD 0 default).aA
 [ow [(eN,true)] sD,ow [(eN,true)] w5,ow [(eN,true),(fI,true)] DO,ow [(eN,true),(fI,true)] DT,ow [(eN,true),(fI,false),(gr,true)] Ld,ow [(eN,true),(fI,false),(gr,true)] DX,ow [(eN,true),(fI,false),(gr,false),(jP,true)] Wv,ow [(eN,true),(fI,false),(gr,false),(jP,true)] Wx,ow [(eN,true),(fI,false),(gr,false),(jP,true)] DY,ow [(eN,true),(fI,false),(gr,false),(jP,true)] DZ,ow [(eN,true),(fI,false),(gr,false),(jP,true)] D0,ow [(eN,true),(fI,false),(gr,false),(jP,false),(gR,true)] D2,ow [(eN,true),(fI,false),(gr,false),(jP,false),(gR,true)] D4,ow [(eN,true),(fI,false),(gr,false),(jP,false),(gR,false),(ji,true)] D7,ow [(eN,true),(fI,false),(gr,false),(jP,false),(gR,false),(ji,true)] D9,ow [(eN,true),(fI,false),(gr,false),(jP,false),(gR,false),(ji,false)] Ef].all id
def bC (N i k:Int) (p r:List DV) (qU qV pZ p5 rF sK sL sM p6 sN tH tI sO sP sQ tJ:List DV):Bool :=
 let kW:Int:=N
 let eN:Bool:=c_ i kW
 let gQ:Int:=k
 let fI:Bool:=gQ==0
 let DP:Bool:=(qU.getD 1 default).aA
 let Br:Bool:=(qV.getD 1 default).aA
 let DU:Bool:=DP != Br
 let gr:Bool:=gQ==1
 let Le:Int:=(pZ.getD 1 default).ai
 let DW:Bool:=(pZ.getD 2 default).aA
 let Lg:Int:=(p5.getD 1 default).ai
 let Wr:Bool:=(p5.getD 2 default).aA
 let Ws:Bool:=Le != Lg
 let Wt:Bool:=DW != Wr
 let Wu:Bool:=Ws||Wt
 let jP:Bool:=gQ==2
 let gR:Bool:=gQ==3
 let ji:Bool:=gQ==4
 let D8:Bool:=(p6.getD 1 default).aA
 let D_:Bool:=(sN.getD 1 default).aA
 let Ea:Bool:=D8 != D_
 let Eb:Bool:=(tH.getD 0 default).aA
 let Ec:Bool:=(tI.getD 0 default).aA
 let Ed:Bool:=Eb != Ec
 let Ee:Bool:=Ea||Ed
 let Eg:Bool:=(sO.getD 1 default).aA
 let Ei:Bool:=!Eg
 let Ej:Bool:=!DU
 let Ek:Bool:=!Wu
 let El:Bool:=!Ee
 let En:Bool:=!Ei
 let Eo:Bool:=bif ji then El else En
 let Ep:Bool:=gR||Eo
 let Er:Bool:=jP||Ep
 let Es:Bool:=bif gr then Ek else Er
 let Et:Bool:=bif fI then Ej else Es
 let EE:Bool:=eN&&Et
 EE
def bP (N i k:Int) (p r:List DV) (qU qV pZ p5 rF sK sL sM p6 sN tH tI sO sP sQ tJ:List DV):List DV :=
 let gQ:Int:=k
 let fI:Bool:=gQ==0
 let x_:List DV:=(qU.getD 2 default).ay
 let gr:Bool:=gQ==1
 let yb:List DV:=(pZ.getD 3 default).ay
 let jP:Bool:=gQ==2
 let Ww:List DV:=(rF.getD 2 default).ay
 let gR:Bool:=gQ==3
 let D3:List DV:=(sL.getD 1 default).ay
 let ji:Bool:=gQ==4
 let sE:List DV:=(p6.getD 2 default).ay
 let Eu:List DV:=bif ji then sE else p
 let Ew:List DV:=bif gR then D3 else Eu
 let Ey:List DV:=bif jP then Ww else Ew
 let EA:List DV:=bif gr then yb else Ey
 let EC:List DV:=bif fI then x_ else EA
 EC
def bR (N i k:Int) (p r:List DV) (qU qV pZ p5 rF sK sL sM p6 sN tH tI sO sP sQ tJ:List DV):List DV :=
 let gQ:Int:=k
 let fI:Bool:=gQ==0
 let ya:List DV:=(qV.getD 2 default).ay
 let gr:Bool:=gQ==1
 let Bt:List DV:=(p5.getD 3 default).ay
 let jP:Bool:=gQ==2
 let Wy:List DV:=(sK.getD 1 default).ay
 let gR:Bool:=gQ==3
 let D5:List DV:=(sM.getD 1 default).ay
 let Ex:List DV:=bif gR then D5 else r
 let Ez:List DV:=bif jP then Wy else Ex
 let EB:List DV:=bif gr then Bt else Ez
 let ED:List DV:=bif fI then ya else EB
 ED
def bT (N i k:Int) (p r:List DV) (qU qV pZ p5 rF sK sL sM p6 sN tH tI sO sP sQ tJ:List DV):List DV :=
 let kW:Int:=N
 let eN:Bool:=c_ i kW
 let gQ:Int:=k
 let fI:Bool:=gQ==0
 let x_:List DV:=(qU.getD 2 default).ay
 let gr:Bool:=gQ==1
 let yb:List DV:=(pZ.getD 3 default).ay
 let ji:Bool:=gQ==4
 let sE:List DV:=(p6.getD 2 default).ay
 let EF:List DV:=bif ji then sE else p
 let EG:List DV:=bif gr then yb else EF
 let EI:List DV:=bif fI then x_ else EG
 let EK:List DV:=bif eN then EI else p
 EK
def bU (N i k:Int) (p r:List DV) (qU qV pZ p5 rF sK sL sM p6 sN tH tI sO sP sQ tJ:List DV):List DV :=
 let kW:Int:=N
 let eN:Bool:=c_ i kW
 let gQ:Int:=k
 let fI:Bool:=gQ==0
 let ya:List DV:=(qV.getD 2 default).ay
 let gr:Bool:=gQ==1
 let Bt:List DV:=(p5.getD 3 default).ay
 let EH:List DV:=bif gr then Bt else r
 let EJ:List DV:=bif fI then ya else EH
 let EL:List DV:=bif eN then EJ else r
 EL
theorem Mi (st aL:List DV) (q:Bool) (p r:List DV) (i:Int) (y z:List DV) (N k a n v:Int) (qU qV pZ p5 rF sK sL sM p6 sN tH tI sO sP sQ tJ:List DV) (hN:((st.length/4:Nat):Int)=N) (hk:(st.getD (Int.toNat i*(4:Nat)+(0:Nat)) default).ai=k) (ha:(st.getD (Int.toNat i*(4:Nat)+(1:Nat)) default).ai=a) (hn:(st.getD (Int.toNat i*(4:Nat)+(2:Nat)) default).ai=n) (hv:(st.getD (Int.toNat i*(4:Nat)+(3:Nat)) default).ai=v) (Y8:tE [.l p,.i a,.i n,.i v]=qU) (Y9:Bo [.l r,.i a,.i n,.i v]=qV) (Y_:sC [.l p,.i (IntKind.wrap .i64 v),.i a,.i n]=pZ) (Za:xZ [.l r,.i (IntKind.wrap .i64 v),.i a,.i n]=p5) (Zb:xX [.l p]=rF) (Zc:Dy [.l r]=sK) (Zd:uF [.l p]=sL) (Ze:DC [.l r]=sM) (Zf:xY [.l p,.i (IntKind.wrap .i64 v),.i a,.i n]=p6) (Zg:DK [.l r,.i (IntKind.wrap .i64 v),.i a,.i n]=sN) (Zh:sA [.l (p6.getD 2 default).ay,.i a,.i n]=tH) (Zi:vr [.l r,.i a,.i n]=tI) (Zj:Bp [.l p,.l r]=sO) (Zk:uF [.l (rF.getD 1 default).ay]=sP) (Zl:tE [.l (sP.getD 1 default).ay,.i a,.i n,.i v]=sQ) (Zm:sC [.l (sQ.getD 2 default).ay,.i 1,.i a,.i n]=tJ) :
  G_ [.l st,.l aL,.b q,.l p,.l r,.i i,.l y,.l z]=bW N i k p r qU qV pZ p5 rF sK sL sM p6 sN tH tI sO sP sQ tJ/\He [.l st,.l aL,.b q,.l p,.l r,.i i,.l y,.l z]=bC N i k p r qU qV pZ p5 rF sK sL sM p6 sN tH tI sO sP sQ tJ/\Lk [.l st,.l aL,.b q,.l p,.l r,.i i,.l y,.l z]=[.l st,.l aL,.b q,.l (bP N i k p r qU qV pZ p5 rF sK sL sM p6 sN tH tI sO sP sQ tJ),.l (bR N i k p r qU qV pZ p5 rF sK sL sM p6 sN tH tI sO sP sQ tJ),.i (IntKind.wrap .i64 (i+1)),.l aL,.l aL] /\
  Ll [.l st,.l aL,.b q,.l p,.l r,.i i,.l y,.l z]=[.i (bif c_ i N then 0 else 1),.b (bif c_ i N then false else q),.l (bT N i k p r qU qV pZ p5 rF sK sL sM p6 sN tH tI sO sP sQ tJ),.l (bU N i k p r qU qV pZ p5 rF sK sL sM p6 sN tH tI sO sP sQ tJ),.i i,.l aL,.l aL]:=by
 subst hN hk ha hn hv Y8 Y9 Y_ Za Zb Zc Zd Ze Zf Zg Zh Zi Zj Zk Zl Zm
 exact ⟨by kernel_rfl,by kernel_rfl,by kernel_rfl,by kernel_rfl⟩
theorem Zn (aL sd ev:List DV) (a b c d:Int) (Mh:List DV) (Zo:Gn []=Mh):g8 [.l aL,.i a,.l sd,.l ev,.i b,.i c,.i d]=B8 aL sd ev Mh (G1 [.l ev]) (GX [Mh.getD 0 default,.l aL]) (Kc []) (Ki []) (Kv []):=by
 subst Zo
 kernel_rfl
theorem Zp (aL sd ev:List DV) (a b c d:Int) (Qr:List DV) (Zq:OO []=Qr):g9 [.l aL,.i a,.l sd,.l ev,.i b,.i c,.i d]=B9 aL ev (K3 [.l ev]) Qr (OU []) (Pd []) (Pn []) (KR [Qr.getD 0 default,.l aL]):=by
 subst Zq
 kernel_rfl
theorem Zr (F:aC) (x0 x1 x2:List DV) (A7 A8 A9 mY sH jH sI sJ:List DV) (h7:F 7 []=A7) (h8:F 8 [.l ([]++x0),.i 0,.l [],.l ([]++x1),.i 0,.i 0,.i 0]=A8) (h9:F 9 [.l x0,.i 0,.l [],.l x1,.i 0,.i 0,.i 0]=A9)
  (E5:F 100300 [.l x1,.b false,.i 0,A8.getD 5 default]=mY) (E6:F 100302 [.i 0,A8.getD 3 default]=sH)
  (E_:F 100304 [.l x2,.l x0,mY.getD 2 default,.l (((A8.getD 6 default).ay.getD (Int.toNat 0*1+1) default).ay),.l (((A9.getD 3 default).ay.getD (Int.toNat 0*1+1) default).ay),.i 0,.l x0,.l x0]=jH)
  (h12:F 12 [jH.getD 3 default,.i 1,.i 2147483648,.i 8]=sI) (Zs:F 13 [jH.getD 4 default,.i 1,.i 2147483648,.i 8]=sJ) :
  aG F s3 o3 [.l x0,.l x1,.l x2]=B3 (eP (((([]:List DV)++x0).length/1:Nat):Int) 225179981368371) (eP (((([]:List DV)++x1).length/4:Nat):Int) 7036874417612) (sU (A8.getD 3 default).ay x0) ((sI.getD 1 default).ai==(sJ.getD 1 default).ai) ((sI.getD 2 default).aA==(sJ.getD 2 default).aA) A7 A8 A9 mY sH jH sI sJ (F 22 [sI.getD 3 default,sJ.getD 3 default]):=by
 subst h7 h8 h9 E5 E6 E_ h12 Zs
 kernel_rfl
theorem zuE (l:List Ev) (hl:l.length<=9007199254740992) (q:Bool):∀ (m k:Nat) (X:List DV),k+m=l.length->X.length=(ax l).length->(∀ j,4*k<=j->X.getD j default=(ax l).getD j default)->∃ (r2:Int) (r3:List DV),
  Bq (ax l) q k X=some [.i 1,.b q,.i r2,.l r3]
 | 0,k,X,hk,hX,_=>by
  have hk':k=l.length:=by omega
  subst hk'
  have hd:((X.length/4:Nat):Int)=(l.length:Int):=by rw [hX,oz]
  have c:decide ((l.length:Int)<(l.length:Int))=false:=decide_eq_false (by omega)
  refine ⟨l.length,X,?_⟩
  unfold Bq
  rw [lU]
  ·show some (wZ (ax l) q (l.length:Int) X).2.2.2=_
   unfold wZ
   simp only [hd,c]
   rfl
  ·show (wZ (ax l) q (l.length:Int) X).1=true
   unfold wZ
   simp only [hd,c]
   simp [ow]
  ·show (wZ (ax l) q (l.length:Int) X).2.1=false
   unfold wZ
   simp only [hd,c,Bool.false_and]
 | m+1,k,X,hk,hX,hi=>by
  have hd:((X.length/4:Nat):Int)=(l.length:Int):=by rw [hX,oz]
  have c:decide ((k:Int)<(l.length:Int))=true:=decide_eq_true (by omega)
  have c0:decide ((k:Int)>=0)=true:=decide_eq_true (by omega)
  have g:∀ i,X.getD (Int.toNat (k:Int)*4+i) default=(ax l).getD (Int.toNat (k:Int)*4+i) default:=fun i=>hi _ (by rw [Int.toNat_natCast];omega)
  have hw:IntKind.wrap .i64 ((k:Int)+1)=((k+1:Nat):Int):=by rw [EY (by omega) (by omega)];rfl
  unfold Bq
  rw [o5]
  ·show ∃ r2 r3,dQ Wi Wj Wl Wm [.l (ax l),.b q,.i (IntKind.wrap .i64 ((k:Int)+1)),.l ((((X.set (Int.toNat (k:Int)*4+0) (.i 1)).set (Int.toNat (k:Int)*4+1) (.i 1)).set (Int.toNat (k:Int)*4+2) (.i 0)).set (Int.toNat (k:Int)*4+3) (.i 9))]=_
   rw [hw]
   refine zuE l hl q m (k+1) _ (by omega) ?_ fun j hj=>?_
   ·simp only [List.length_set,hX]
   ·rw [<-hi j (by omega)]
    have hne:∀ a,a<4->∀ (Y:List DV) (v:DV),(Y.set (Int.toNat (k:Int)*4+a) v).getD j default=Y.getD j default:=fun a ha Y v=>by
     rw [List.getD_eq_getElem?_getD,List.getD_eq_getElem?_getD,List.getElem?_set_ne (by rw [Int.toNat_natCast];omega)]
    rw [hne 3 (by decide),hne 2 (by decide),hne 1 (by decide),hne 0 (by decide)]
  ·show (wZ (ax l) q (k:Int) X).1=true
   unfold wZ
   simp only [hd,oz,c,c0,g]
   simp [ow]
  ·show (wZ (ax l) q (k:Int) X).2.1=true
   unfold wZ
   simp only [hd,c,g]
   simp
theorem zuF:∀ (m k:Nat) (X:List DV),k+m=X.length->X.length<=9007199254740992->∃ r1 r2,DR k X=some [.i 0,.i r1,.l r2]
 | 0,k,X,hk,_=>by
  have hk':k=X.length:=by omega
  have c:decide ((k:Int)<((X.length/1:Nat):Int))=false:=decide_eq_false (by rw [Nat.div_one];omega)
  unfold DR
  rw [lU]
  ·exact ⟨_,_,rfl⟩
  ·show (zI (k:Int) X).1=true
   unfold zI
   simp only [c]
   simp [ow]
  ·show (zI (k:Int) X).2.1=false
   unfold zI
   exact c
 | m+1,k,X,hk,hX=>by
  have c:decide ((k:Int)<((X.length/1:Nat):Int))=true:=decide_eq_true (by rw [Nat.div_one];omega)
  have c0:decide ((k:Int)>=0)=true:=decide_eq_true (by omega)
  have hw:IntKind.wrap .i64 ((k:Int)+1)=((k+1:Nat):Int):=by rw [EY (by omega) (by omega)];rfl
  unfold DR
  rw [o5]
  ·show ∃ r1 r2,dQ Wn Wo Wp Wq [.i (IntKind.wrap .i64 ((k:Int)+1)),.l (X.set (Int.toNat (k:Int)*(1:Nat)+(0:Nat)) (.i 90))]=_
   rw [hw]
   exact zuF m (k+1) _ (by rw [List.length_set];omega) (by rw [List.length_set];omega)
  ·show (zI (k:Int) X).1=true
   unfold zI
   simp only [c,c0]
   simp [ow]
  ·show (zI (k:Int) X).2.1=true
   unfold zI
   exact c
theorem zxD {l:List Ev} : ∀ {a:Int},rE a l=true->∀ e∈l,e.may=true:=by
 induction l with
 | nil=>exact fun _ e he=>by cases he
 | cons x r ih =>
  intro a h e he
  unfold rE at h
  simp only [Bool.and_eq_true] at h
  rcases List.mem_cons.1 he with rfl | he
  ·exact h.1.2
  ·exact ih h.2 e he
def j7 (aL:List DV) (l:List Ev):St:={ m:=yg aL 2147483648 [],s:=0,t:=0,a:=18446744073709551615,pr:=fun _=>0,up:=fun _=>false,wa:=fun _=>false,se:=fun _=>false,e0:=fun _=>false,e1:=fun _=>false,t0:=0,t1:=0,c:=[],jQ:=[],rd:=0,w:=false,lo:=false,sc:=0,aR:=-1,l:=l,az:=0,one:=false }
theorem zvB {aL:List DV} {l:List Ev} (hm:ou l=true) (hi:∀ b∈aL,0<=b.ai/\b.ai<256) (hv:∀ e∈l,0<=e.v):(j7 aL l).Ok 0/\(j7 aL l).Lv:=by
 unfold ou at hm
 simp only [Bool.and_eq_true,decide_eq_true_eq] at hm
 refine ⟨⟨zv7 aL _ [] hi (fun _=>⟨Int.le_refl 0,show (0:Int)<256 by decide⟩),Yz.1,YN.2.2,YB.2.2,Nat.le_refl 0,by decide,Nat.le_refl 0,Nat.zero_le _,hm.1,fun e he=>⟨zxD hm.2 e he,hv e he⟩⟩,?_⟩
 have e:wW [.l (eO [] [] false false 0)]=[.b false]:=by kernel_rfl
 show false=(false||((wW [.l (eO [] [] false false 0)]).getD 0 default).aA)
 rw [e]
 rfl
theorem zy1 (aL:List DV) (l:List Ev) (a b c d:Int) (sd:List DV) :
  g8 [.l aL,.i a,.l sd,.l (ax l),.i b,.i c,.i d]=[.b true,.i (bif ou l&&decide (aL.length<=1048576) then 1 else 0),.b (ou l&&decide (aL.length<=1048576)),.l aL,.l sd,.l (ax l),.l (bif ou l&&decide (aL.length<=1048576) then [.b true,.l (j7 aL l).P] else [.b false,.l []])] /\
  g9 [.l aL,.i a,.l sd,.l (ax l),.i b,.i c,.i d]=[.b true,.i (bif ou l&&decide (aL.length<=1048576) then 1 else 0),.b (ou l&&decide (aL.length<=1048576)),.l (bif ou l&&decide (aL.length<=1048576) then [.b true,.l (j7 aL l).R] else [.b false,.l []])]:=by
 have Zo:Gn []=[.l []]:=by kernel_rfl
 have Zq:OO []=[.l []]:=by kernel_rfl
 have t8:=Zn aL sd (ax l) a b c d _ Zo
 have t9:=Zp aL sd (ax l) a b c d _ Zq
 obtain ⟨l1,l2⟩:=YS aL []
 rw [zzH,show (([DV.l []]:List DV).getD 0 default) = .l [] from rfl,l1,Yz.2.1,YN.1,YB.1] at t8
 rw [zzI,show (([DV.l []]:List DV).getD 0 default) = .l [] from rfl,l2,Yz.2.2,YN.2.1,YB.2.1] at t9
 have hle:ou l=true->eP (((([]:List DV)++ax l).length/4:Nat):Int) 7036874417612=true:=fun h=>by
  unfold ou at h
  simp only [Bool.and_eq_true,decide_eq_true_eq] at h
  rw [List.nil_append,oz]
  exact decide_eq_true (by omega)
 have hlen:dg ((aL.length/1:Nat):Int) 1048576 = !decide (aL.length<=1048576):=by
  rw [Nat.div_one]
  by_cases h:aL.length<=1048576
  ·rw [decide_eq_true h];exact decide_eq_false (by omega)
  ·rw [decide_eq_false h];exact decide_eq_true (by omega)
 refine ⟨t8.trans ?_,t9.trans ?_⟩
 ·cases hm:ou l with
  | false=>cases decide (aL.length<=1048576)<;>rfl
  | true =>
   cases hd:decide (aL.length<=1048576) with
   | false=>rfl
   | true =>
    show (fun q:Bool=>[DV.b ([ow [] true,ow [(false,false)] true,ow [(true,true)] q].all id),.i 1,.b true,.l aL,.l sd,.l (ax l),.l [.b true,.l (j7 aL l).P]]) (eP (((([]:List DV)++ax l).length/4:Nat):Int) 7036874417612)=_
    rw [hle hm]
    rfl
 ·have e9:B9 aL (ax l) [.b true,.b (ou l)] [.l []] [.l (fU 0 0 18446744073709551615)] [.l (cy (fun _=>0) (fun _=>false) (fun _=>false) (fun _=>false) (fun _=>false) (fun _=>false) 0 0)] [.l (fA [] [] 0 false false 0)] [.b true,.b (decide (aL.length<=1048576)),.l (bif decide (aL.length<=1048576) then yg aL 2147483648 [] else [])] =
   (fun (m Mj q:Bool)=>[DV.b ([ow [] true,ow [(!(!m||Mj),true)] q,ow [(!(!m||Mj),true)] true].all id),.i (bif !(!m||Mj) then 1 else 0),.b (!(!m||Mj)),.l (bif !(!m||Mj) then [.b true,.l [.l (bif decide (aL.length<=1048576) then yg aL 2147483648 [] else []),.l (j7 aL l).C,.l (j7 aL l).E,.l (j7 aL l).V,.i (-1),.l (ax l),.i 0,.b false]] else [.b false,.l []])])
    (ou l) (dg ((aL.length/1:Nat):Int) 1048576) (eP (((([]:List DV)++ax l).length/4:Nat):Int) 7036874417612):=rfl
  rw [e9,hlen]
  cases hm:ou l with
  | false=>cases decide (aL.length<=1048576)<;>rfl
  | true =>
   rw [hle hm]
   cases hd:decide (aL.length<=1048576) with
   | false=>rfl
   | true=>rfl
end Go.Proofs.Ytiabiimoalkmjaa
namespace Go.Proofs.Ytiabiimoalkmjaa
open Go Go.Sx
set_option maxRecDepth 100000
set_option maxHeartbeats 4000000
def FE:aC:=cE [⟨28,ON,Gn⟩,⟨29,GZ,G1⟩,⟨75,Ka,wT⟩,⟨30,GU,GX⟩,⟨31,Gq,Kc⟩,⟨32,Gx,Ki⟩,⟨33,GF,Kv⟩,⟨8,s8,g8⟩,⟨25,DE,G8⟩,⟨61,Gr,Ke⟩,⟨59,GG,uD⟩,⟨88,Dh,O7⟩,⟨60,Di,mQ⟩,⟨77,Dl,wW⟩,⟨41,Bn,lF⟩,⟨16,Dz,uF⟩,⟨65,Bk,xU⟩,⟨20,xW,sA⟩,⟨83,UZ,Gp⟩,⟨48,GK,GL⟩,⟨40,Bm,wY⟩,⟨111,zD,nM⟩,⟨116,gO,su⟩,⟨92,Dj,sr⟩,⟨114,iD,ic⟩,⟨119,uC,pq⟩,⟨117,sv,g_⟩,⟨12,DL,sC⟩,⟨39,GN,GR⟩,⟨112,zF,o_⟩,⟨115,f_,iE⟩,⟨118,uE,jg⟩,⟨10,DM,tE⟩,⟨51,OS,Kb⟩,⟨52,Dd,De⟩,⟨53,Df,Dg⟩,⟨54,Ds,Bj⟩,⟨14,Dx,xX⟩,⟨71,Gt,U_⟩,⟨24,DD,G7⟩,⟨74,GH,GI⟩,⟨27,DH,DI⟩,⟨18,DJ,xY⟩,⟨72,Gu,Gv⟩,⟨73,Gy,Gz⟩,⟨26,DF,DG⟩,⟨7,s7,g7⟩] (lE [(102900,ztM),(103000,ztE),(101600,ztT),(104800,zty),(109200,ztu),(103900,ztB)])
def Mk:List (Nat×KD):=[(28,.hand Gn),(102900,.lp PJ [.i,.l,.b,.i,.i]),(29,.fn GZ VW),(75,.hand wT),(103000,.lp PE [.i,.l,.i,.l]),(30,.fn GU VM),(31,.fn Gq U6),(32,.fn Gx Vb),(33,.fn GF Vr),(8,.fn s8 o8),(25,.fn DE Wc),(61,.fn Gr U8),(59,.fn GG Vv),(88,.fn Dh Vd),(60,.fn Di Ve),(77,.fn Dl Vt),(41,.fn Bn V6),(101600,.lp PR [.l,.l,.l,.l,.l,.i,.l,.b,.l,.l,.l,.l]),(16,.fn Dz V9),(65,.fn Bk Vy),(20,.fn xW V7),(83,.hand Gp),(104800,.lp Pu [.i,.l,.i,.i]),(48,.fn GK Vz),(40,.fn Bm V5),(111,.hand nM),(116,.fn gO jf),(109200,.lp O8 [.i,.l,.i,.i]),(92,.fn Dj Vf),(114,.fn iD kF),(119,.fn uC Dm),(117,.fn sv Dn),(12,.fn DL Wg),(103900,.lp PA [.i,.i,.i,.i,.l]),(39,.fn GN VG),(112,.hand o_),(115,.fn f_ gZ),(118,.fn uE Dr),(10,.fn DM Wh),(51,.hand Kb),(52,.fn Dd U7),(53,.fn Df Vc),(54,.fn Ds Vx),(14,.fn Dx V8),(71,.fn Gt U9),(24,.fn DD Wb),(74,.fn GH Vw),(27,.fn DH We),(18,.fn DJ Wf),(72,.fn Gu Va),(73,.fn Gy Vh),(26,.fn DF Wd),(7,.fn s7 o7)]
theorem zxE:∀ f c,assoc Mk f=some c->c.ok FE f:=tOK (by
 unfold Mk
 exact fm (Gm (by kernel_rfl)) (fm (Gl (w:=PK) (c:=PL) (nx:=PM) (out:=VV) (fun O xs h=>match xs,h with | [x0,x1,x2],_=>by kernel_rfl) (fun ds=>by kernel_rfl)) (fm (kd (E:=VX) [102900] (by kernel_rfl)) (fm (Gm (by kernel_rfl)) (fm (Gl (w:=KP) (c:=PF) (nx:=PG) (out:=VL) (fun O xs h=>match xs,h with | [x0,x1],_=>by kernel_rfl) (fun ds=>by kernel_rfl)) (fm (kd (E:=VN) [75,103000] (by kernel_rfl)) (fm (kd (E:=cE [] (lE [])) [] (by kernel_rfl)) (fm (kd (E:=cE [] (lE [])) [] (by kernel_rfl)) (fm (kd (E:=cE [] (lE [])) [] (by kernel_rfl)) (fm (kd (E:=E8) [28,29,30,31,32,33] (by kernel_rfl)) (fm (kd (E:=cE [] (lE [])) [] (by kernel_rfl)) (fm (kd (E:=cE [] (lE [])) [] (by kernel_rfl)) (fm (kd (E:=cE [] (lE [])) [] (by kernel_rfl)) (fm (kd (E:=cE [] (lE [])) [] (by kernel_rfl)) (fm (kd (E:=E60) [88] (by kernel_rfl)) (fm (kd (E:=cE [] (lE [])) [] (by kernel_rfl)) (fm (kd (E:=E41) [77,60] (by kernel_rfl)) (fm (Gl (w:=DA) (c:=DB) (nx:=G3) (out:=G4) (fun O xs h=>match xs,h with | [x0,x1,x2,x3,x4,x5,x6,x7,x8,x9,cr],_=>by kernel_rfl) (fun ds=>by kernel_rfl)) (fm (kd (E:=V_) [61,59,60,41,101600] (by kernel_rfl)) (fm (kd (E:=cE [] (lE [])) [] (by kernel_rfl)) (fm (kd (E:=E20) [65] (by kernel_rfl)) (fm (Gm (by kernel_rfl)) (fm (Gl (w:=Pv) (c:=Pw) (nx:=Px) (out:=Py) (fun O xs h=>match xs,h with | [x0,x1],_=>by kernel_rfl) (fun ds=>by kernel_rfl)) (fm (kd (E:=VA) [65,83,104800] (by kernel_rfl)) (fm (kd (E:=cE [] (lE [])) [] (by kernel_rfl)) (fm (Gm (by kernel_rfl)) (fm (kd (E:=cE [] (lE [])) [] (by kernel_rfl)) (fm (Gl (w:=O9) (c:=O_) (nx:=Pa) (out:=Pb) (fun O xs h=>match xs,h with | [x0,x1],_=>by kernel_rfl) (fun ds=>by kernel_rfl)) (fm (kd (E:=Vg) [109200] (by kernel_rfl)) (fm (kd (E:=lC) [116,92] (by kernel_rfl)) (fm (kd (E:=cE [] (lE [])) [] (by kernel_rfl)) (fm (kd (E:=Kx) [119,77] (by kernel_rfl)) (fm (kd (E:=E12) [20,48,40,111,114,117,41] (by kernel_rfl)) (fm (Gl (w:=GO) (c:=GQ) (nx:=PB) (out:=PC) (fun O xs h=>match xs,h with | [x0,x1],_=>by kernel_rfl) (fun ds=>by kernel_rfl)) (fm (kd (E:=VH) [65,75,103900] (by kernel_rfl)) (fm (Gm (by kernel_rfl)) (fm (kd (E:=ie) [116,88] (by kernel_rfl)) (fm (kd (E:=cE [] (lE [])) [] (by kernel_rfl)) (fm (kd (E:=E10) [20,39,40,112,115,118,41] (by kernel_rfl)) (fm (Gm (by kernel_rfl)) (fm (kd (E:=cE [] (lE [])) [] (by kernel_rfl)) (fm (kd (E:=cE [] (lE [])) [] (by kernel_rfl)) (fm (kd (E:=cE [] (lE [])) [] (by kernel_rfl)) (fm (kd (E:=E14) [51,52,53,54] (by kernel_rfl)) (fm (kd (E:=cE [] (lE [])) [] (by kernel_rfl)) (fm (kd (E:=E24) [71] (by kernel_rfl)) (fm (kd (E:=cE [] (lE [])) [] (by kernel_rfl)) (fm (kd (E:=E27) [74] (by kernel_rfl)) (fm (kd (E:=E18) [20,52,53,54,40,111,114,117] (by kernel_rfl)) (fm (kd (E:=cE [] (lE [])) [] (by kernel_rfl)) (fm (kd (E:=E73) [92] (by kernel_rfl)) (fm (kd (E:=E26) [72,73] (by kernel_rfl)) (fm (kd (E:=E7) [8,25,16,12,10,14,24,27,18,20,26] (by kernel_rfl)) ((fun _ h=>(by cases h))))))))))))))))))))))))))))))))))))))))))))))))))))))))
end Go.Proofs.Ytiabiimoalkmjaa
namespace Go.Proofs.Ytiabiimoalkmjaa
open Go Go.Sx
set_option maxRecDepth 100000
theorem zy2:FE 7 []=[.b true,.b true]:=zot zxE 40 7 [] _ (by kernel_rfl)
end Go.Proofs.Ytiabiimoalkmjaa
namespace Go.Proofs.Ytiabiimoalkmjaa
open Go Go.Sx
set_option maxRecDepth 100000
def Zt (e:Ev):Prop:=0<=e.k/\e.k<18446744073709551616/\uz e.n=true/\0<=e.v/\e.v<18446744073709551616
theorem zxF (x:Int):(x != x)=false:=by simp [bne]
theorem Qs (x:Bool):(x != x)=false:=by cases x<;>rfl
theorem step {b:St} {i:Nat} (h:b.Ok i) (hl:b.Lv) (hi:i+2<35184372088832) (s:List Ev) (hlt:i<s.length) (he:Zt s[i]) (aL:List DV) (q:Bool) (y z:List DV) :
  ∃ b':St,b'.Ok (i+1)/\b'.Lv/\G_ [.l (ax s),.l aL,.b q,.l b.P,.l b.R,.i i,.l y,.l z]=true/\He [.l (ax s),.l aL,.b q,.l b.P,.l b.R,.i i,.l y,.l z]=true /\
   Lk [.l (ax s),.l aL,.b q,.l b.P,.l b.R,.i i,.l y,.l z]=[.l (ax s),.l aL,.b q,.l b'.P,.l b'.R,.i ((i+1:Nat):Int),.l aL,.l aL]:=by
 obtain ⟨k0,k1,hn,v0,v1⟩:=he
 obtain ⟨q0,q1,q2,q3⟩:=BF s i hlt
 have hw:IntKind.wrap .i64 ((i:Int)+1)=((i+1:Nat):Int):=by rw [EY (by omega) (by omega)];rfl
 have up:∀ {c:St},c.Ok i->c.Ok (i+1):=fun h=>⟨h.m,h.C,h.D,h.U,Nat.le_succ_of_le h.jQ,by omega,h.c,h.az,h.l,h.ev⟩
 obtain ⟨bw,w,w1,w2,w3,w4⟩:=zrm h hl (by omega) (n:=s[i].n) (v:=s[i].v) k0 k1 hn ⟨v0,v1⟩
 obtain ⟨br,rv,ri,r1,r2,r3,r4⟩:=YX h hl (IntKind.wrap .i64 s[i].v) (n:=s[i].n) k0 k1 hn
 obtain ⟨c1,c2⟩:=zxB h
 obtain ⟨bt,t1,t2,t3,t4⟩:=zxC h hl
 obtain ⟨m,m1,m2⟩:=zyW h (IntKind.wrap .i64 s[i].v) (n:=s[i].n) k0 k1 hn
 have a1:=zrn h
 obtain ⟨bo,o,o1,o2,o3,o4⟩:=zrm t3 t4 (by omega) (n:=s[i].n) (v:=s[i].v) k0 k1 hn ⟨v0,v1⟩
 obtain ⟨bp,pv,pi,p1,p2,p3,p4⟩:=YX o3 o4 1 (n:=s[i].n) k0 k1 hn
 have e1:=Qo b.m b.C b.D b.U b.aR (ax (b.l.drop b.az)) b.one (n:=s[i].n) k0 k1
 have e2:=Qp b.m b.C b.E b.V b.aR (ax b.l) b.az b.one (n:=s[i].n) k0 k1
 obtain ⟨tw,tc,tn,_⟩:=Mi (ax s) aL q b.P b.R i y z _ _ _ _ _ _ _ _ _ _ _ _ _ _ _ _ _ _ _ _ _ (oz s) q0 q1 q2 q3 w1 w2 r1 r2 c1 c2 t1 t2 m1 m2 (show sA [.l ([DV.b true,.b m,.l b.P].getD 2 default).ay,.i s[i].k,.i s[i].n]=_ from e1) e2 a1 (show uF [.l ([DV.b true,.l b.P,.l b.P].getD 1 default).ay]=_ from t1)
  (show tE [.l ([DV.b true,.l bt.P].getD 1 default).ay,.i s[i].k,.i s[i].n,.i s[i].v]=_ from o1) (show sC [.l ([DV.b true,.b o,.l bo.P].getD 2 default).ay,.i 1,.i s[i].k,.i s[i].n]=_ from p1)
 rw [hw] at tn
 have d1:c_ (i:Int) (s.length:Int)=true:=decide_eq_true (by omega)
 have d2:ew (i:Int) 0=true:=decide_eq_true (by omega)
 have W:∀ k:Int,bW (s.length:Int) i k b.P b.R [.b true,.b w,.l bw.P] [.b true,.b w,.l bw.R] [.b true,.i rv,.b ri,.l br.P] [.b true,.i rv,.b ri,.l br.R] [.b true,.l b.P,.l b.P] [.b true,.l b.R] [.b true,.l bt.P] [.b true,.l bt.R] [.b true,.b m,.l b.P] [.b true,.b m] [.b (has s[i].k s[i].n)] [.b (has s[i].k s[i].n)] [.b true,.b true] [.b true,.l bt.P] [.b true,.b o,.l bo.P] [.b true,.i pv,.b pi,.l bp.P]=true:=fun k=>by
  show ([ow [(c_ (i:Int) (s.length:Int),true)] (ew (i:Int) 0),ow [(c_ (i:Int) (s.length:Int),true)] (c_ (i:Int) (s.length:Int)),ow _ true,ow _ true,ow _ true,ow _ true,ow _ true,ow _ true,ow _ true,ow _ true,ow _ true,ow _ true,ow _ true,ow _ true,ow _ true,ow _ true].all id)=true
  rw [d1,d2]
  simp only [jG,List.all_cons,List.all_nil,id_eq,Bool.and_self]
 have C:∀ k:Int,bC (s.length:Int) i k b.P b.R [.b true,.b w,.l bw.P] [.b true,.b w,.l bw.R] [.b true,.i rv,.b ri,.l br.P] [.b true,.i rv,.b ri,.l br.R] [.b true,.l b.P,.l b.P] [.b true,.l b.R] [.b true,.l bt.P] [.b true,.l bt.R] [.b true,.b m,.l b.P] [.b true,.b m] [.b (has s[i].k s[i].n)] [.b (has s[i].k s[i].n)] [.b true,.b true] [.b true,.l bt.P] [.b true,.b o,.l bo.P] [.b true,.i pv,.b pi,.l bp.P]=true:=fun k=>by
  show (c_ (i:Int) (s.length:Int)&&(bif k==0 then !(w != w) else bif k==1 then !((rv != rv)||(ri != ri)) else ((k==2)||((k==3)||bif k==4 then !((m != m)||(has s[i].k s[i].n != has s[i].k s[i].n)) else !!true))))=true
  rw [d1,Qs w,zxF,Qs ri,Qs m,Qs]
  cases k==0<;>cases k==1<;>cases k==2<;>cases k==3<;>cases k==4<;>rfl
 have P:∀ k:Int,bP (s.length:Int) i k b.P b.R [.b true,.b w,.l bw.P] [.b true,.b w,.l bw.R] [.b true,.i rv,.b ri,.l br.P] [.b true,.i rv,.b ri,.l br.R] [.b true,.l b.P,.l b.P] [.b true,.l b.R] [.b true,.l bt.P] [.b true,.l bt.R] [.b true,.b m,.l b.P] [.b true,.b m] [.b (has s[i].k s[i].n)] [.b (has s[i].k s[i].n)] [.b true,.b true] [.b true,.l bt.P] [.b true,.b o,.l bo.P] [.b true,.i pv,.b pi,.l bp.P] =
   (bif k==0 then bw.P else bif k==1 then br.P else bif k==2 then b.P else bif k==3 then bt.P else bif k==4 then b.P else b.P):=fun k=>rfl
 have R:∀ k:Int,bR (s.length:Int) i k b.P b.R [.b true,.b w,.l bw.P] [.b true,.b w,.l bw.R] [.b true,.i rv,.b ri,.l br.P] [.b true,.i rv,.b ri,.l br.R] [.b true,.l b.P,.l b.P] [.b true,.l b.R] [.b true,.l bt.P] [.b true,.l bt.R] [.b true,.b m,.l b.P] [.b true,.b m] [.b (has s[i].k s[i].n)] [.b (has s[i].k s[i].n)] [.b true,.b true] [.b true,.l bt.P] [.b true,.b o,.l bo.P] [.b true,.i pv,.b pi,.l bp.P] =
   (bif k==0 then bw.R else bif k==1 then br.R else bif k==2 then b.R else bif k==3 then bt.R else b.R):=fun k=>rfl
 rw [P,R] at tn
 refine (fun (key:∃ b':St,b'.Ok (i+1)/\b'.Lv/\(bif s[i].c==0 then bw.P else bif s[i].c==1 then br.P else bif s[i].c==2 then b.P else bif s[i].c==3 then bt.P else bif s[i].c==4 then b.P else b.P)=b'.P/\(bif s[i].c==0 then bw.R else bif s[i].c==1 then br.R else bif s[i].c==2 then b.R else bif s[i].c==3 then bt.R else b.R)=b'.R)=>?_) ?_
 ·obtain ⟨b',x1,x2,x3,x4⟩:=key
  rw [x3,x4] at tn
  exact ⟨b',x1,x2,tw.trans (W _),tc.trans (C _),tn⟩
 ·cases s[i].c==0 with
  | true=>exact ⟨bw,w3,w4,rfl,rfl⟩
  | false =>
   cases s[i].c==1 with
   | true=>exact ⟨br,up r3,r4,rfl,rfl⟩
   | false =>
    cases s[i].c==2 with
    | true=>exact ⟨b,up h,hl,rfl,rfl⟩
    | false =>
     cases s[i].c==3 with
     | true=>exact ⟨bt,up t3,t4,rfl,rfl⟩
     | false=>cases s[i].c==4<;>exact ⟨b,up h,hl,rfl,rfl⟩
theorem stop (b:St) (s:List Ev) (aL:List DV) (q:Bool) (y z:List DV):G_ [.l (ax s),.l aL,.b q,.l b.P,.l b.R,.i s.length,.l y,.l z]=true/\He [.l (ax s),.l aL,.b q,.l b.P,.l b.R,.i s.length,.l y,.l z]=false /\
  Ll [.l (ax s),.l aL,.b q,.l b.P,.l b.R,.i s.length,.l y,.l z]=[.i 1,.b q,.l b.P,.l b.R,.i s.length,.l aL,.l aL]:=by
 obtain ⟨tw,tc,_,tt⟩:=Mi (ax s) aL q b.P b.R s.length y z _ _ _ _ _ _ _ _ _ _ _ _ _ _ _ _ _ _ _ _ _ (oz s) rfl rfl rfl rfl rfl rfl rfl rfl rfl rfl rfl rfl rfl rfl rfl rfl rfl rfl rfl rfl
 have c:c_ (s.length:Int) (s.length:Int)=false:=decide_eq_false (by omega)
 refine ⟨tw.trans ?_,tc.trans ?_,tt.trans ?_⟩
 ·unfold bW
  dsimp only
  rw [c]
  simp only [BD rfl,List.all_cons,List.all_nil,id_eq,Bool.and_self]
 ·unfold bC
  dsimp only
  rw [c]
  rfl
 ·unfold bT bU
  dsimp only
  rw [c]
  rfl
theorem zy3 (s:List Ev) (hs:s.length<=17592186044416) (hw:∀ e∈s,Zt e) (aL:List DV) (q:Bool):∀ (j i:Nat) {b:St} (_:b.Ok i) (_:b.Lv) (_:i+j=s.length) (y z:List DV),∃ b':St,b'.Ok s.length/\b'.Lv /\
  dQ G_ He Lk Ll [.l (ax s),.l aL,.b q,.l b.P,.l b.R,.i i,.l y,.l z]=some [.i 1,.b q,.l b'.P,.l b'.R,.i s.length,.l aL,.l aL]
 | 0,i,b,h,hl,hj,y,z=>by
  obtain rfl:i=s.length:=by omega
  obtain ⟨w,c,t⟩:=stop b s aL q y z
  exact ⟨b,h,hl,(lU w c).trans (congrArg some t)⟩
 | j+1,i,b,h,hl,hj,y,z=>by
  have hlt:i<s.length:=by omega
  obtain ⟨b1,h1,l1,w,c,n⟩:=step h hl (by omega) s hlt (hw _ (List.getElem_mem hlt)) aL q y z
  obtain ⟨b',o1,o2,o3⟩:=zy3 s hs hw aL q j (i+1) h1 l1 (by omega) aL aL
  rw [o5 w c,n]
  exact ⟨b',o1,o2,o3⟩
theorem no3 (i e n1 n2 a3 c2 jH sI sJ E4:List DV) (q4 q5:Bool) (a2 c1:Int):B3 true true true q4 q5 [.b true,.b true] [.b true,.i 0,.b false,.l i,.l [],.l e,.l n1] [.b true,.i 0,.b false,.l n2] [.b true,.i 1,.b false,.i a2,.l a3] [.b true,.i 0,.i c1,.l c2] jH sI sJ E4=[.b true,.b true]:=rfl
theorem Zu (i e n1 n2 a3 c2 p r p' r' r5 r6:List DV) (a2 c1 v r4:Int) (w:Bool):B3 true true true true true [.b true,.b true] [.b true,.i 1,.b true,.l i,.l [],.l e,.l [.b true,.l n1]] [.b true,.i 1,.b true,.l [.b true,.l n2]] [.b true,.i 1,.b false,.i a2,.l a3] [.b true,.i 0,.i c1,.l c2] [.b true,.i 1,.b false,.l p,.l r,.i r4,.l r5,.l r6] [.b true,.i v,.b w,.l p'] [.b true,.i v,.b w,.l r'] [.b true,.b true]=[.b true,.b true]:=rfl
theorem Ml {F:aC} {x0 x1 x2:List DV} {A7 A8 A9 mY sH jH sI sJ E4 r:List DV} (h7:F 7 []=A7) (h8:F 8 [.l ([]++x0),.i 0,.l [],.l ([]++x1),.i 0,.i 0,.i 0]=A8) (h9:F 9 [.l x0,.i 0,.l [],.l x1,.i 0,.i 0,.i 0]=A9)
  (E5:F 100300 [.l x1,.b false,.i 0,A8.getD 5 default]=mY) (E6:F 100302 [.i 0,A8.getD 3 default]=sH)
  (E_:F 100304 [.l x2,.l x0,mY.getD 2 default,.l (((A8.getD 6 default).ay.getD (Int.toNat 0*1+1) default).ay),.l (((A9.getD 3 default).ay.getD (Int.toNat 0*1+1) default).ay),.i 0,.l x0,.l x0]=jH)
  (h12:F 12 [jH.getD 3 default,.i 1,.i 2147483648,.i 8]=sI) (Zs:F 13 [jH.getD 4 default,.i 1,.i 2147483648,.i 8]=sJ) (h22:F 22 [sI.getD 3 default,sJ.getD 3 default]=E4)
  (q1:eP (((([]:List DV)++x0).length/1:Nat):Int) 225179981368371=true) (q2:eP (((([]:List DV)++x1).length/4:Nat):Int) 7036874417612=true) (q3:sU (A8.getD 3 default).ay x0=true)
  (hr:∀ a b:Bool,a=((sI.getD 1 default).ai==(sJ.getD 1 default).ai)->b=((sI.getD 2 default).aA==(sJ.getD 2 default).aA)->B3 true true true a b A7 A8 A9 mY sH jH sI sJ E4=r):aG F s3 o3 [.l x0,.l x1,.l x2]=r:=by
 rw [Zr F x0 x1 x2 _ _ _ _ _ _ _ _ h7 h8 h9 E5 E6 E_ h12 Zs,q1,q2,q3,h22]
 exact hr _ _ rfl rfl
theorem q7:E3 7=FE 7:=by kernel_rfl
theorem q8 (a:List DV):E3 8 a=g8 a:=by kernel_rfl
theorem q9 (a:List DV):E3 9 a=g9 a:=by kernel_rfl
theorem q12 (a:List DV):E3 12 a=sC a:=by kernel_rfl
theorem q13 (a:List DV):E3 13 a=xZ a:=by kernel_rfl
theorem q22 (a:List DV):E3 22 a=Bp a:=by kernel_rfl
theorem Zv (a:List DV):E3 100300 a=ztW a:=by kernel_rfl
theorem Zw (a:List DV):E3 100302 a=ztY a:=by kernel_rfl
theorem zvC (aL:List DV) (l s:List Ev) (hi:∀ b∈aL,0<=b.ai/\b.ai<256) (hl8:aL.length<=225179981368371) (hl:l.length<=7036874417612) (hv:∀ e∈l,0<=e.v) (hs:s.length<=17592186044416) (hw:∀ e∈s,Zt e):g3 [.l aL,.l (ax l),.l (ax s)]=[.b true,.b true]:=by
 have h7:E3 7 []=[.b true,.b true]:=(congrFun q7 []).trans zy2
 obtain ⟨n8,n9⟩:=zy1 aL l 0 0 0 0 []
 have H8:E3 8 [.l ([]++aL),.i 0,.l [],.l ([]++ax l),.i 0,.i 0,.i 0]=_:=(q8 _).trans n8
 have H9:E3 9 [.l aL,.i 0,.l [],.l (ax l),.i 0,.i 0,.i 0]=_:=(q9 _).trans n9
 obtain ⟨a2,a3,Zx⟩:=zuE l (by omega) false l.length 0 (ax l) (by omega) rfl (fun _ _=>rfl)
 have Mm:E3 100300 [.l (ax l),.b false,.i 0,.l (ax l)]=[.b true,.i 1,.b false,.i a2,.l a3]:=by
  refine (Zv _).trans ?_
  show [DV.b (Bq (ax l) false ((0:Nat):Int) (ax l)).isSome,.i (af ((Bq (ax l) false ((0:Nat):Int) (ax l)).getD []) 0).ai,.b (af ((Bq (ax l) false ((0:Nat):Int) (ax l)).getD []) 1).aA,.i (af ((Bq (ax l) false ((0:Nat):Int) (ax l)).getD []) 2).ai,.l (af ((Bq (ax l) false ((0:Nat):Int) (ax l)).getD []) 3).ay]=_
  rw [Zx]
  rfl
 obtain ⟨c1,c2,Zy⟩:=zuF aL.length 0 aL (by omega) (by omega)
 have Mn:E3 100302 [.i 0,.l aL]=[.b true,.i 0,.i c1,.l c2]:=by
  refine (Zw _).trans ?_
  show [DV.b (DR ((0:Nat):Int) aL).isSome,.i (af ((DR ((0:Nat):Int) aL).getD []) 0).ai,.i (af ((DR ((0:Nat):Int) aL).getD []) 1).ai,.l (af ((DR ((0:Nat):Int) aL).getD []) 2).ay]=_
  rw [Zy]
  rfl
 have cr:eP (((([]:List DV)++aL).length/1:Nat):Int) 225179981368371=true:=by rw [List.nil_append,Nat.div_one];exact decide_eq_true (by omega)
 have bX:eP (((([]:List DV)++ax l).length/4:Nat):Int) 7036874417612=true:=by rw [List.nil_append,oz];exact decide_eq_true (by omega)
 have hb:=Y6 aL
 cases hok:(ou l&&decide (aL.length<=1048576)) with
 | false =>
  rw [hok] at H8 H9
  exact Ml h7 H8 H9 Mm Mn rfl rfl rfl rfl cr bX hb fun a b _ _=>no3 ..
 | true =>
  rw [hok] at H8 H9
  have hm:ou l=true:=(Bool.and_eq_true _ _▸hok).1
  obtain ⟨o1,o2⟩:=zvB (aL:=aL) hm hi hv
  obtain ⟨b,s1,s2,s3⟩:=zy3 s hs hw aL false s.length 0 o1 o2 (by omega) aL aL
  have Zz:E3 100304 [.l (ax s),.l aL,.b false,.l (j7 aL l).P,.l (j7 aL l).R,.i 0,.l aL,.l aL]=[.b true,.i 1,.b false,.l b.P,.l b.R,.i s.length,.l aL,.l aL] :=
   (show E3 100304 [.l (ax s),.l aL,.b false,.l (j7 aL l).P,.l (j7 aL l).R,.i 0,.l aL,.l aL]=jY [.i,.b,.l,.l,.i,.l,.l] (dQ G_ He Lk Ll [.l (ax s),.l aL,.b false,.l (j7 aL l).P,.l (j7 aL l).R,.i ((0:Nat):Int),.l aL,.l aL]) by kernel_rfl).trans ((congrArg (jY _) s3).trans rfl)
  obtain ⟨b',v,w,d1,d2,d3,d4⟩:=YX s1 s2 1 (x:=2147483648) (n:=8) (by decide) (by decide) (by decide)
  have D12:E3 12 [.l b.P,.i 1,.i 2147483648,.i 8]=_:=(q12 _).trans d1
  have D13:E3 13 [.l b.R,.i 1,.i 2147483648,.i 8]=_:=(q13 _).trans d2
  have D22:E3 22 [.l b'.P,.l b'.R]=_:=(q22 _).trans (zrn d3)
  exact Ml h7 H8 H9 Mm Mn Zz D12 D13 D22 cr bX hb fun a b ha hb=>by
   rw [ha.trans (beq_self_eq_true _),hb.trans (beq_self_eq_true _)]
   exact Zu ..
end Go.Proofs.Ytiabiimoalkmjaa
namespace Go.Sx
open Go Go.ChangeShapes Go.WideShapes Go.RowKit
inductive Sh where
 | one (t:LT)
 | agg (l:List LT)
 deriving Inhabited
def Sh.lf:Sh->List LT
 | .one t=>[t]
 | .agg l=>l
def nIn (ss:List Sh):Nat:=(ss.map fun s=>s.lf.length).sum
def LT.aa (t:LT) (d:DV):Value :=
 match t with
 | .int k=>.int k d.ai
 | .bool=>.bool d.aA
 | .vec _=>.bool false
def BI (g:Nat->DV):Nat->List LT->List Value
 | _,[]=>[]
 | j,t::ts=>t.aa (g j)::BI g (j+1) ts
def yh (g:Nat->DV):Nat->List Sh->List Value
 | _,[]=>[]
 | j,.one t::ss=>t.aa (g j)::yh g (j+1) ss
 | j,.agg ts::ss=>.agg (BI g j ts).toArray::yh g (j+ts.length) ss
def LT.pat (j:Nat):LT->Lf
 | .int k=>.i k (.h j)
 | .bool=>.b (.h j)
 | .vec _=>.b (.t false)
def Fa:Nat->List LT->List Lf
 | _,[]=>[]
 | j,t::ts=>t.pat j::Fa (j+1) ts
def kI:Nat->List Sh->List V
 | _,[]=>[]
 | j,.one t::ss=>.s (.one (t.pat j))::kI (j+1) ss
 | j,.agg ts::ss=>.s (.agg (Fa j ts))::kI (j+ts.length) ss
theorem ZA:∀ (k n j:Nat),j<k->(eL n k).getD j default = .r (n+j)
 | 0,_,_,h=>by omega
 | k+1,n,0,_=>rfl
 | k+1,n,j+1,h=>by
  have:=ZA k (n+1) j (by omega)
  simp only [eL,List.getD_cons_succ,this]
  congr 1
  omega
theorem zro {n:Nat} (g:Nat->DV) (U:Nat->Loc) {t:LT} {j:Nat} (h:j<n):((t.pat j).inst (eL 0 n)).aa g U=t.aa (g j)/\((t.pat j).inst (eL 0 n)).good g:=by
 have e:(A.h j).inst (eL 0 n) = .r j:=by
  have:=ZA n 0 j h
  simpa [A.inst] using this
 cases t with
 | int k=>exact ⟨by simp only [LT.pat,Lf.inst,e];rfl,trivial⟩
 | bool=>exact ⟨by simp only [LT.pat,Lf.inst,e];rfl,trivial⟩
 | vec ts=>exact ⟨rfl,trivial⟩
theorem zfH {n:Nat} (g:Nat->DV) (U:Nat->Loc):∀ (ts:List LT) (j:Nat),j+ts.length<=n->((Fa j ts).map (Lf.inst (eL 0 n))).map (Lf.aa g U)=BI g j ts/\∀ x∈(Fa j ts).map (Lf.inst (eL 0 n)),Lf.good g x
 | [],j,_=>⟨rfl,fun x hx=>by cases hx⟩
 | t::ts,j,h=>by
  simp only [List.length_cons] at h
  obtain ⟨h1,h2⟩:=zfH (n:=n) g U ts (j+1) (by omega)
  obtain ⟨h3,h4⟩:=zro g U (t:=t) (show j<n by omega)
  refine ⟨by simp only [Fa,List.map_cons,BI,h1,h3],fun x hx=>?_⟩
  simp only [Fa,List.map_cons] at hx
  rcases List.mem_cons.1 hx with rfl | hx
  ·exact h4
  ·exact h2 x hx
def yj (P:Program) (rec:TypeId->Option (List LT)):Nat->List Field->Option (List LT)
 | _,[]=>some []
 | o,f::fs =>
  if Nat.beq f.offset o then
   match rec f.type with
   | none=>none
   | some l =>
    if Nat.beq l.length (P.cellsOf f.type) then
     match yj P rec (o+l.length) fs with
     | none=>none
     | some r=>some (l++r)
    else none
  else none
def qW (P:Program):Nat->TypeId->Option (List LT)
 | 0,_=>none
 | d+1,t =>
  match P.underlying t with
  | some .bool=>some [.bool]
  | some (.int k)=>some [.int k]
  | some (.array n e) =>
   match qW P d e with
   | none=>none
   | some l=>if Nat.beq l.length (P.cellsOf e)&&Nat.beq (P.cellsOf t) (n*l.length) then some (List.replicate n l).flatten else none
  | some (.struct fs) =>
   match yj P (qW P d) 0 fs.toList with
   | none=>none
   | some l=>if Nat.beq l.length (P.cellsOf t) then some l else none
  | _=>none
def ZB (P:Program) (t:TypeId):Option Sh :=
 match P.underlying t with
 | some .bool=>some (.one .bool)
 | some (.int k)=>some (.one (.int k))
 | some (.array _ _)=>(qW P 20 t).map .agg
 | some (.struct _)=>(qW P 20 t).map .agg
 | _=>none
def Fb:LT->Value->Prop
 | .int k,.int k' n=>k'=k/\(Lit.int k n).wf=true
 | .bool,.bool _=>True
 | _,_=>False
def p7:List LT->List Value->Prop
 | [],[]=>True
 | t::ts,v::vs=>Fb t v/\p7 ts vs
 | _,_=>False
theorem p7.len:∀ {ts:List LT} {vs:List Value},p7 ts vs->vs.length=ts.length
 | [],[],_=>rfl
 | _::_,_::_,h=>by simp [p7.len h.2]
 | [],_::_,h=>h.elim
 | _::_,[],h=>h.elim
theorem p7.append:∀ {a b:List LT} {c d:List Value},p7 a c->p7 b d->p7 (a++b) (c++d)
 | [],_,[],_,_,h=>h
 | _::_,_,_::_,_,h,h'=>⟨h.1,p7.append h.2 h'⟩
 | [],_,_::_,_,h,_=>h.elim
 | _::_,_,[],_,h,_=>h.elim
theorem ZC {α β γ:Type} {f g:α->Option (β×List γ)} : ∀ {l:List α} {xs:List (β×List γ)},l.mapM f=some xs ->
  (∀ a∈l,∀ y,f a=some y->g a=some y/\y.2=[])->l.mapM g=some xs/\xs.flatMap (·.2)=[]/\∀ a∈l,∃ y,f a=some y
 | [],xs,h,_=>by
  simp at h
  subst h
  exact ⟨by simp,rfl,fun a ha=>by cases ha⟩
 | a::l,xs,h,hc=>by
  simp only [List.mapM_cons,Option.bind_eq_bind,Option.bind_eq_some_iff,Option.pure_def,Option.some.injEq] at h
  obtain ⟨y,hy,ys,hys,rfl⟩:=h
  obtain ⟨h1,h2⟩:=hc a (by simp) y hy
  obtain ⟨h3,h4,h5⟩:=ZC hys (fun b hb=>hc b (List.mem_cons_of_mem _ hb))
  refine ⟨by simp [List.mapM_cons,h1,h3],by simp only [List.flatMap_cons,h2,h4,List.nil_append],fun b hb=>?_⟩
  rcases List.mem_cons.1 hb with rfl | hb
  ·exact ⟨y,hy⟩
  ·exact h5 b hb
theorem zkM {l:List LT} {c:Nat} (hl:l.length=c):∀ {n:Nat} {cs:List Value},cs.length=n*c->(∀ i,i<n->p7 l ((cs.drop (i*c)).take c))->p7 (List.replicate n l).flatten cs
 | 0,cs,h,_=>by
  have:cs=[]:=List.eq_nil_of_length_eq_zero (by simpa using h)
  subst this
  trivial
 | n+1,cs,h,hp=>by
  have h0:=hp 0 (by omega)
  simp only [Nat.zero_mul,List.drop_zero] at h0
  have h1:=zkM hl (n:=n) (cs:=cs.drop c) (by rw [List.length_drop,h,Nat.succ_mul];omega) (fun i hi=>by
   have:=hp (i+1) (by omega)
   rw [List.drop_drop]
   rwa [show c+i*c=(i+1)*c from by rw [Nat.succ_mul];omega])
  have:=p7.append h0 h1
  rw [List.take_append_drop] at this
  simpa [List.replicate_succ] using this
section
variable {H:Type} {enc:TypeId×Value->H} {P:Program}
def zy4 (enc:TypeId×Value->H) (P:Program) (fuel:Nat) (t:TypeId) (lf:List LT):Prop :=
 ∀ (w:World) (base:Nat) (sp:Nat->Bool) (held:Bool) (cs:List Value) (x:DataW H) (ps:List MemPlace),DataW.trod enc P w base sp held fuel t cs=some (x,ps) ->
  p7 lf cs/\ps=[]/\∀ (w':World) (base':Nat) (sp':Nat->Bool) (held':Bool),DataW.trod enc P w' base' sp' held' fuel t cs=some (x,[])
theorem zgY {rec:TypeId->Option (List LT)} {cs:List Value} : ∀ {fs:List Field} {o:Nat} {l:List LT},yj P rec o fs=some l->cs.length=o+l.length ->
  (∀ f∈fs,∀ r,rec f.type=some r->p7 r ((cs.drop f.offset).take (P.cellsOf f.type)))->p7 l (cs.drop o)
 | [],o,l,h,hlen,_=>by
  simp [yj] at h
  subst h
  rw [List.drop_of_length_le (by simpa using Nat.le_of_eq hlen)]
  trivial
 | f::fs,o,l,h,hlen,hp=>by
  simp only [yj] at h
  split at h
  ·rename_i ho
   have ho:=Nat.eq_of_beq_eq_true ho
   split at h
   ·cases h
   ·rename_i r hr
    split at h
    ·rename_i hc
     have hc:=Nat.eq_of_beq_eq_true hc
     split at h
     ·cases h
     ·rename_i r' hr'
      cases h
      have h0:=hp f (by simp) r hr
      have h1:=zgY hr' (by simp at hlen;omega) (fun g hg=>hp g (List.mem_cons_of_mem _ hg))
      rw [ho,<-hc] at h0
      have h2:=p7.append h0 h1
      rw [<-List.drop_drop,List.take_append_drop] at h2
      exact h2
    ·cases h
  ·cases h
theorem BJ:∀ (d:Nat) {t:TypeId} {lf:List LT},qW P d t=some lf->∀ fuel,zy4 enc P fuel t lf
 | 0,_,_,h,_=>by cases h
 | d+1,t,lf,h,fuel=>by
  intro w base sp held cs x ps hx
  cases fuel with
  | zero=>simp [DataW.trod] at hx
  | succ fuel =>
   simp only [qW] at h
   split at h
   ·rename_i hu
    cases h
    obtain ⟨b,rfl,he⟩:=DataW.trod_bool hu hx
    cases he
    exact ⟨⟨trivial,trivial⟩,rfl,fun _ _ _ _=>by simp [DataW.trod,hu]⟩
   ·rename_i k hu
    cases h
    obtain ⟨n,rfl,he,hw⟩:=DataW.trod_int hu hx
    cases he
    exact ⟨⟨⟨rfl,hw⟩,trivial⟩,rfl,fun _ _ _ _=>by simp [DataW.trod,hu,hw]⟩
   ·rename_i n e hu
    split at h
    ·cases h
    ·rename_i l hl
     split at h
     ·rename_i hc
      cases h
      simp only [Bool.and_eq_true] at hc
      have ue:=Nat.eq_of_beq_eq_true hc.1
      have m_:=Nat.eq_of_beq_eq_true hc.2
      simp only [DataW.trod,hu] at hx
      split at hx
      ·rename_i hlen
       obtain ⟨xs,hxs,he⟩:=Option.map_eq_some_iff.1 hx
       cases he
       have ih:=BJ d hl fuel
       have hall:=fun w' base' sp' held'=>ZC (g:=fun i=>DataW.trod enc P w' base' sp' held' fuel e ((cs.drop (i*P.cellsOf e)).take (P.cellsOf e))) hxs
        (fun i _ y hy=>by
         have:=ih _ _ _ _ _ y.1 y.2 hy
         exact ⟨by rw [this.2.2 w' base' sp' held',<-this.2.1],this.2.1⟩)
       refine ⟨zkM ue (by rw [hlen,m_,ue]) (fun i hi=>?_),(hall w base sp held).2.1,fun w' base' sp' held'=>?_⟩
       ·obtain ⟨y,hy⟩:=(hall w base sp held).2.2 i (List.mem_range.2 hi)
        exact (ih _ _ _ _ _ y.1 y.2 hy).1
       ·obtain ⟨h1,h2,_⟩:=hall w' base' sp' held'
        simp only [DataW.trod,hu]
        rw [if_pos hlen,h1,Option.map_some,h2]
      ·cases hx
     ·cases h
   ·rename_i fs hu
    split at h
    ·cases h
    ·rename_i l hl
     split at h
     ·rename_i hc
      cases h
      have ue:=Nat.eq_of_beq_eq_true hc
      simp only [DataW.trod,hu] at hx
      split at hx
      ·rename_i hlen
       obtain ⟨xs,hxs,he⟩:=Option.map_eq_some_iff.1 hx
       cases he
       -- each Qt type has leaves
       have hfl:∀ {gs:List Field} {o:Nat} {r:List LT},yj P (qW P d) o gs=some r->∀ f∈gs,∃ r',qW P d f.type=some r':=by
        intro gs
        induction gs with
        | nil=>intro o r _ f hf;cases hf
        | cons g gs ih =>
         intro o r hr f hf
         simp only [yj] at hr
         split at hr
         ·split at hr
          ·cases hr
          ·rename_i r1 ff
           split at hr
           ·split at hr
            ·cases hr
            ·rename_i r2 me
             rcases List.mem_cons.1 hf with rfl | hf
             ·exact ⟨r1,ff⟩
             ·exact ih me f hf
           ·cases hr
         ·cases hr
       have hall:=fun w' base' sp' held'=>ZC (g:=fun f:Field=>DataW.trod enc P w' base' sp' held' fuel f.type ((cs.drop f.offset).take (P.cellsOf f.type))) hxs
        (fun f hf y hy=>by
         obtain ⟨r',hr'⟩:=hfl hl f hf
         have:=BJ d hr' fuel _ _ _ _ _ y.1 y.2 hy
         exact ⟨by rw [this.2.2 w' base' sp' held',<-this.2.1],this.2.1⟩)
       refine ⟨?_,(hall w base sp held).2.1,fun w' base' sp' held'=>?_⟩
       ·have:=zgY (P:=P) (cs:=cs) hl (by rw [hlen,ue];omega) (fun f hf r hr=>by
         obtain ⟨y,hy⟩:=(hall w base sp held).2.2 f hf
         exact (BJ d hr fuel _ _ _ _ _ y.1 y.2 hy).1)
        simpa using this
       ·obtain ⟨h1,h2,_⟩:=hall w' base' sp' held'
        simp only [DataW.trod,hu]
        rw [if_pos hlen,h1,Option.map_some,h2]
      ·cases hx
     ·cases h
   ·cases h
def bY:List LT->List DV->Prop
 | [],[]=>True
 | .int k::ts,.i n::ds=>(Lit.int k n).wf=true/\bY ts ds
 | .bool::ts,.b _::ds=>True/\bY ts ds
 | _,_=>False
theorem bY.len:∀ {ts:List LT} {ds:List DV},bY ts ds->ds.length=ts.length
 | [],[],_=>rfl
 | .int _::_,.i _::_,h=>by simp [bY.len h.2]
 | .bool::_,.b _::_,h=>by simp [bY.len h.2]
 | [],_::_,h=>h.elim
 | .int _::_,[],h=>h.elim
 | .bool::_,[],h=>h.elim
 | .int _::_,.b _::_,h=>h.elim
 | .bool::_,.i _::_,h=>h.elim
 | .int _::_,.l _::_,h=>h.elim
 | .bool::_,.l _::_,h=>h.elim
 | .vec _::_,[],h=>h.elim
 | .vec _::_,_::_,h=>h.elim
theorem bY.append:∀ {a b:List LT} {c d:List DV},bY a c->bY b d->bY (a++b) (c++d)
 | [],_,[],_,_,h=>h
 | .int _::_,_,.i _::_,_,h,h'=>⟨h.1,bY.append h.2 h'⟩
 | .bool::_,_,.b _::_,_,h,h'=>⟨trivial,bY.append h.2 h'⟩
 | [],_,_::_,_,h,_=>h.elim
 | .int _::_,_,[],_,h,_=>h.elim
 | .bool::_,_,[],_,h,_=>h.elim
 | .int _::_,_,.b _::_,_,h,_=>h.elim
 | .bool::_,_,.i _::_,_,h,_=>h.elim
 | .int _::_,_,.l _::_,_,h,_=>h.elim
 | .bool::_,_,.l _::_,_,h,_=>h.elim
 | .vec _::_,_,[],_,h,_=>h.elim
 | .vec _::_,_,_::_,_,h,_=>h.elim
theorem Qu (pre:List DV) (d:DV) (post:List DV):af (pre++d::post) pre.length=d:=by
 simp [af,List.getD_eq_getElem?_getD]
theorem Qv:∀ {ts:List LT} {vs:List Value},p7 ts vs->∃ ds,bY ts ds/\∀ pre post:List DV,BI (af (pre++ds++post)) pre.length ts=vs
 | [],[],_=>⟨[],trivial,fun _ _=>rfl⟩
 | .int k::ts,.int k' n::vs,h=>by
  obtain ⟨ds,h1,h2⟩:=Qv h.2
  obtain ⟨⟨rfl,hw⟩,_⟩:=h
  refine ⟨.i n::ds,⟨hw,h1⟩,fun pre post=>?_⟩
  have:=h2 (pre++[.i n]) post
  simp only [BI,List.append_assoc,List.cons_append,List.nil_append,List.length_append,List.length_cons,List.length_nil,Nat.zero_add] at this ⊢
  rw [this,Qu]
  rfl
 | .bool::ts,.bool b::vs,h=>by
  obtain ⟨ds,h1,h2⟩:=Qv h.2
  refine ⟨.b b::ds,⟨trivial,h1⟩,fun pre post=>?_⟩
  have:=h2 (pre++[.b b]) post
  simp only [BI,List.append_assoc,List.cons_append,List.nil_append,List.length_append,List.length_cons,List.length_nil,Nat.zero_add] at this ⊢
  rw [this,Qu]
  rfl
 | [],_::_,h=>h.elim
 | _::_,[],h=>h.elim
 | .int _::_,.bool _::_,h=>h.1.elim
 | .bool::_,.int _ _::_,h=>h.1.elim
 | .vec _::_,_::_,h=>h.1.elim
theorem zsd {w:World} {base b0:Nat} {sp:Nat->Bool} {held:Bool} {r:Reach} {t:TypeId} {v:Value} {d:DataW H} {ps:List MemPlace} {s:Sh} (hs:ZB P t=some s)
  (hval:Value.okWide P w r b0 t v) (hd:DataW.Trod enc P w base sp held t v d ps) :
  ∃ ds:List DV,bY s.lf ds/\ps=[]/\(∀ (pre post:List DV) (ss:List Sh),yh (af (pre++ds++post)) pre.length (s::ss)=v::yh (af (pre++ds++post)) (pre.length+ds.length) ss) /\
   ∀ (w':World) (base':Nat) (sp':Nat->Bool) (held':Bool),DataW.Trod enc P w' base' sp' held' t v d []:=by
 obtain ⟨fuel,hf⟩:=hd
 unfold ZB at hs
 split at hs
 ·rename_i hu
  cases hs
  obtain ⟨b,rfl⟩:=okWide_bool hu hval
  have hfl:qW P 1 t=some [.bool]:=by simp [qW,hu]
  obtain ⟨_,h2,h3⟩:=BJ (enc:=enc) 1 hfl fuel _ _ _ _ _ _ _ hf
  refine ⟨[.b b],⟨trivial,trivial⟩,h2,fun pre post ss=>?_,fun w' base' sp' held'=>⟨fuel,h3 w' base' sp' held'⟩⟩
  simp only [yh,List.append_assoc,List.cons_append,List.nil_append,Qu,List.length_cons,List.length_nil]
  rfl
 ·rename_i k hu
  cases hs
  obtain ⟨n,rfl⟩:=okWide_int hu hval
  have hfl:qW P 1 t=some [.int k]:=by simp [qW,hu]
  obtain ⟨h1,h2,h3⟩:=BJ (enc:=enc) 1 hfl fuel _ _ _ _ _ _ _ hf
  refine ⟨[.i n],⟨h1.1.2,trivial⟩,h2,fun pre post ss=>?_,fun w' base' sp' held'=>⟨fuel,h3 w' base' sp' held'⟩⟩
  simp only [yh,List.append_assoc,List.cons_append,List.nil_append,Qu,List.length_cons,List.length_nil]
  rfl
 ·rename_i n e hu
  obtain ⟨l,hl,rfl⟩:=Option.map_eq_some_iff.1 hs
  simp only [Value.okWide,hu] at hval
  obtain ⟨cs,rfl,_,_⟩:=hval
  obtain ⟨h1,h2,h3⟩:=BJ (enc:=enc) 20 hl fuel _ _ _ _ _ _ _ hf
  obtain ⟨ds,h4,h5⟩:=Qv h1
  refine ⟨ds,h4,h2,fun pre post ss=>?_,fun w' base' sp' held'=>⟨fuel,h3 w' base' sp' held'⟩⟩
  simp only [yh,h5 pre post,<-h4.len]
  rfl
 ·rename_i fs hu
  obtain ⟨l,hl,rfl⟩:=Option.map_eq_some_iff.1 hs
  simp only [Value.okWide,hu] at hval
  obtain ⟨cs,rfl,_,_⟩:=hval
  obtain ⟨h1,h2,h3⟩:=BJ (enc:=enc) 20 hl fuel _ _ _ _ _ _ _ hf
  obtain ⟨ds,h4,h5⟩:=Qv h1
  refine ⟨ds,h4,h2,fun pre post ss=>?_,fun w' base' sp' held'=>⟨fuel,h3 w' base' sp' held'⟩⟩
  simp only [yh,h5 pre post,<-h4.len]
  rfl
 ·cases hs
end
theorem zrp {α β:Type} {f:α->Option β} : ∀ {l:List α} {xs:List β},l.mapM f=some xs->∀ (i:Nat) (a:α),l[i]? = some a->∃ y,xs[i]? = some y/\f a=some y
 | [],xs,_,i,a,ha=>by simp at ha
 | b::l,xs,h,i,a,ha=>by
  simp only [List.mapM_cons,Option.bind_eq_bind,Option.bind_eq_some_iff,Option.pure_def,Option.some.injEq] at h
  obtain ⟨y,hy,ys,hys,rfl⟩:=h
  cases i with
  | zero=>simp at ha;subst ha;exact ⟨y,rfl,hy⟩
  | succ i=>obtain ⟨z,h1,h2⟩:=zrp hys i a (by simpa using ha);exact ⟨z,by simpa using h1,h2⟩
section
variable {C:Checked} {os:Os} {f:FuncId} {fn:Func} {s:ChangeSpec} {H:Type} {enc:TypeId×Value->H} {sg:aW} {G:List DV->List DV} {I:World->Prop}
structure ZD (sg:aW) (ss:List Sh):Prop where
 ins:sg.ins=kI 0 ss
 hin:sg.hin=[]
 fE:sg.fE=nIn ss
 out:sg.out = .s (.one (.b (.h 0)))
 hout:sg.hout=[]
 iK:sg.iK=[.b]
end
end Go.Sx
namespace Go.Sx
open Go Go.ChangeShapes Go.WideShapes Go.RowKit
inductive mZ where
 | pl (s:Sh)
 | row (ts:List LT)
 deriving Inhabited
def mZ.wd:mZ->Nat
 | .pl s=>s.lf.length
 | .row _=>1
def jl:List mZ->Nat
 | []=>0
 | s::ss=>s.wd+jl ss
def kJ:Nat->Nat->List mZ->List V
 | _,_,[]=>[]
 | j,b,.pl (.one t)::ss=>.s (.one (t.pat j))::kJ (j+1) b ss
 | j,b,.pl (.agg ts)::ss=>.s (.agg (Fa j ts))::kJ (j+ts.length) b ss
 | j,b,.row _::ss=>.s (.one (.vec b))::kJ (j+1) (b+1) ss
def oA:Nat->List mZ->List (Option ag)
 | _,[]=>[]
 | j,.pl s::ss=>oA (j+s.lf.length) ss
 | j,.row ts::ss=>some (.v false ts (.h j))::oA (j+1) ss
def m6 (g:Nat->DV) (U:Nat->Loc):Nat->Nat->List mZ->List Value
 | _,_,[]=>[]
 | j,b,.pl (.one t)::ss=>t.aa (g j)::m6 g U (j+1) b ss
 | j,b,.pl (.agg ts)::ss=>.agg (BI g j ts).toArray::m6 g U (j+ts.length) b ss
 | j,b,.row _::ss=>(U b).slice::m6 g U (j+1) (b+1) ss
theorem Qw {n:Nat} (g:Nat->DV) (U:Nat->Loc):∀ (ss:List mZ) (j b:Nat),j+jl ss<=n->((kJ j b ss).map (V.inst (eL 0 n))).map (V.aa g U)=m6 g U j b ss/\∀ x∈(kJ j b ss).map (V.inst (eL 0 n)),V.good g x
 | [],j,b,_=>⟨rfl,fun x hx=>by cases hx⟩
 | .pl (.one t)::ss,j,b,h=>by
  have h:j+(1+jl ss)<=n:=h
  obtain ⟨h1,h2⟩:=Qw (n:=n) g U ss (j+1) b (by omega)
  obtain ⟨h3,h4⟩:=zro g U (t:=t) (show j<n by omega)
  refine ⟨by simp only [kJ,List.map_cons,m6,h1,V.inst,V1.inst,V.aa,V1.aa,h3],fun x hx=>?_⟩
  simp only [kJ,List.map_cons] at hx
  rcases List.mem_cons.1 hx with rfl | hx
  ·exact V1.ah.2 h4
  ·exact h2 x hx
 | .pl (.agg ts)::ss,j,b,h=>by
  have h:j+(ts.length+jl ss)<=n:=h
  obtain ⟨h1,h2⟩:=Qw (n:=n) g U ss (j+ts.length) b (by omega)
  obtain ⟨h3,h4⟩:=zfH (n:=n) g U ts j (show j+ts.length<=n by omega)
  refine ⟨by simp only [kJ,List.map_cons,m6,h1,V.inst,V1.inst,V.aa,V1.aa,h3],fun x hx=>?_⟩
  simp only [kJ,List.map_cons] at hx
  rcases List.mem_cons.1 hx with rfl | hx
  ·exact V1.aP.2 h4
  ·exact h2 x hx
 | .row ts::ss,j,b,h=>by
  have h:j+(1+jl ss)<=n:=h
  obtain ⟨h1,h2⟩:=Qw (n:=n) g U ss (j+1) (b+1) (by omega)
  refine ⟨by simp only [kJ,List.map_cons,m6,h1,V.inst,V1.inst,V.aa,V1.aa,Lf.inst,Lf.aa],fun x hx=>?_⟩
  simp only [kJ,List.map_cons] at hx
  rcases List.mem_cons.1 hx with rfl | hx
  ·exact V1.ah.2 trivial
  ·exact h2 x hx
def Mo:Value->DV
 | .int _ n=>.i n
 | .bool b=>.b b
 | _=>.i 0
structure qX (ts:List LT) (xs:List DV):Prop where
 pos:0<ts.length
 len:∃ n,n<=maxLen/\xs.length=n*ts.length
 cell:∀ i,i<xs.length->bY [ts.getD (i%ts.length) .bool] [xs.getD i default]
def Hx:List mZ->List DV->Prop
 | [],ds=>ds=[]
 | .pl s::ss,ds=>bY s.lf (ds.take s.lf.length)/\Hx ss (ds.drop s.lf.length)
 | .row ts::ss,ds=>(∃ xs,ds.head? = some (.l xs)/\qX ts xs)/\Hx ss ds.tail
def zZ (E:Env) (W:World):List mZ->List DV->List Loc->Prop
 | [],_,_=>True
 | .pl s::ss,ds,ls=>zZ E W ss (ds.drop s.lf.length) ls
 | .row ts::ss,ds,ls=>bf E W (ls.headD default) false ts (ds.headD default).ay/\zZ E W ss ds.tail ls.tail
def ZE (P:Program) (t:TypeId):Option mZ :=
 match P.underlying t with
 | some (.slice e) =>
  match qW P 20 e with
  | some l=>if Nat.beq l.length (P.cellsOf e)&&Nat.blt 0 l.length then some (.row l) else none
  | none=>none
 | _=>(ZB P t).map .pl
def yl (P:Program):List TypeId->Option (List mZ)
 | []=>some []
 | t::ts =>
  match ZE P t,yl P ts with
  | some s,some r=>some (s::r)
  | _,_=>none
theorem zoG:∀ {ts:List LT} {vs:List Value},p7 ts vs->∀ i,i<ts.length->∃ v,vs[i]? = some v/\Fb (ts.getD i .bool) v
 | t::ts,v::vs,h,0,_=>⟨v,rfl,h.1⟩
 | t::ts,v::vs,h,i+1,hi=>by
  obtain ⟨u,h1,h2⟩:=zoG h.2 i (by simpa using hi)
  exact ⟨u,by simpa using h1,by simpa using h2⟩
 | [],_,_,i,hi=>by simp at hi
 | _::_,[],h,_,_=>h.elim
theorem zkN {E:Env} {t:LT} {v:Value} (h:Fb t v):eD E t (Mo v) v/\bY [t] [Mo v]:=by
 cases t with
 | int k =>
  cases v<;>simp only [Fb] at h
  obtain ⟨rfl,hw⟩:=h
  exact ⟨.int _ (.i _),⟨hw,trivial⟩⟩
 | bool =>
  cases v<;>simp only [Fb] at h
  exact ⟨.bool (.b _),trivial,trivial⟩
 | vec ts=>cases v<;>simp only [Fb] at h
theorem zvD {w:World} {base:Nat} {a:Addr} {n:Nat} {cs:List Value} (h:w.cells? base a n=some cs):∀ i,i<n->∀ v,cs[i]? = some v->w.cell? (a.add i)=some v:=by
 unfold World.cells? at h
 split at h
 ·intro i hi v hv
  obtain ⟨y,h1,h2⟩:=zrp h i i (List.getElem?_range hi)
  rw [h1] at hv
  cases hv
  exact h2
 ·cases h
section
variable {H:Type} {enc:TypeId×Value->H} {P:Program}
def nV:DataW H->Nat
 | .slice elems _=>elems.length
 | _=>0
def Fc:List mZ->List DV->List (DataW H)->Prop
 | [],_,_=>True
 | .pl s::ss,xs,_::ds=>Fc ss (xs.drop s.lf.length) ds
 | .row ts::ss,xs,d::ds=>(xs.headD default).ay.length=nV d*ts.length/\Fc ss xs.tail ds
 | _::_,_,[]=>False
theorem zuI {w:World} {base b0:Nat} {sp:Nat->Bool} {held:Bool} {r:Reach} {t e:TypeId} {v:Value} {d:DataW H} {ps:List MemPlace} {ts:List LT} (hu:P.underlying t=some (.slice e)) (hf:qW P 20 e=some ts) (hc:ts.length=P.cellsOf e) (hpos:0<ts.length)
  (hval:Value.okWide P w r b0 t v) (hd:DataW.Trod enc P w base sp held t v d ps) (E:Env):∃ (xs:List DV) (l:Loc),qX ts xs/\v=l.slice/\bf E w l false ts xs/\xs.length=nV d*ts.length:=by
 obtain ⟨fuel,hd⟩:=hd
 obtain ⟨a,len,cap,rfl⟩:=okWide_slice hu hval
 have hcell:(Value.slice a len cap).cells.toList=[Value.slice a len cap]:=rfl
 rw [hcell] at hd
 rcases DataW.trod_slice hu hd with ⟨h1,hx⟩ | ⟨a,len',cap',elems,rest,n,_,h1,hx,_,hlc,F7,hel,Mp,_,_⟩
 ·simp only [List.cons.injEq,Value.slice.injEq,and_true] at h1
  obtain ⟨rfl,rfl,rfl⟩:=h1
  refine ⟨[],⟨0,0,true,0,0,none⟩,⟨hpos,⟨0,Nat.zero_le _,by simp⟩,fun i hi=>by simp at hi⟩,rfl,?_,?_⟩
  ·exact ⟨fun _=>⟨rfl,rfl⟩,fun e=>(by cases e),hpos,by simp,Nat.le_refl _,fun i hi=>by simp at hi,fun e=>(by cases e),fun e=>(by cases e)⟩
  ·rw [(Prod.mk.inj hx).1]
   simp [nV]
 ·simp only [List.cons.injEq,Value.slice.injEq,and_true] at h1
  obtain ⟨rfl,rfl,rfl⟩:=h1
  have Mq:a.spot=none/\w.shape? a.block≠none:=by
   simp only [Value.okWide,hu,Cell.okWide,Cell.ok] at hval
   obtain ⟨_,_,_,h2,_,_,h3,_⟩:=hval
   exact ⟨h2,by rw [h3];simp⟩
  have ha:a=⟨a.block,a.off,none⟩:=by cases a;simp_all
  have ZF:∀ i,a.add i=⟨a.block,a.off+i,none⟩:=fun i=>by rw [ha];exact s_ _ _ _
  have hkey:∀ j,j<len*ts.length->∃ v,w.cell? ⟨a.block,a.off+j,none⟩=some v/\Fb (ts.getD (j%ts.length) .bool) v:=fun j hj=>by
   have hq:j/ts.length<len:=(Nat.div_lt_iff_lt_mul hpos).2 hj
   have hr:j%ts.length<ts.length:=Nat.mod_lt _ hpos
   have he:=Mp (j/ts.length) hq
   rw [List.getElem?_eq_getElem (by rw [hel];exact hq)] at he
   obtain ⟨cs,hcs,htr⟩:=Option.bind_eq_some_iff.1 he
   have hlv:=(BJ (enc:=enc) 20 hf n w base sp held cs _ _ htr).1
   obtain ⟨v,lQ,ij⟩:=zoG hlv (j%ts.length) hr
   refine ⟨v,?_,ij⟩
   have:=zvD hcs (j%ts.length) (by rw [<-hc];exact hr) v lQ
   rw [ZF,s_,<-hc] at this
   rw [<-this]
   congr 2
   have:=Nat.div_add_mod j ts.length
   rw [Nat.mul_comm] at this
   omega
  have iX:∀ (i:Nat) (v:Value),i<len*ts.length->w.cell? ⟨a.block,a.off+i,none⟩=some v->((List.range (len*ts.length)).map fun i=>Mo ((w.cell? ⟨a.block,a.off+i,none⟩).getD undef)).getD i default=Mo v:=fun i v hi hv=>by
   rw [List.getD_eq_getElem?_getD,List.getElem?_map,List.getElem?_range hi]
   simp [hv]
  refine ⟨(List.range (len*ts.length)).map fun i=>Mo ((w.cell? ⟨a.block,a.off+i,none⟩).getD undef),⟨a.block,a.off,false,len,cap,none⟩,⟨hpos,⟨len,Nat.le_trans hlc F7,by simp⟩,fun i hi=>?_⟩,?_,?_,?_⟩
  ·simp only [List.length_map,List.length_range] at hi
   obtain ⟨v,h1,h2⟩:=hkey i hi
   rw [iX i v hi h1]
   exact (zkN (E:=E) h2).2
  ·unfold Loc.slice
   rw [ha]
   rfl
  ·refine ⟨fun e=>(by cases e),fun _=>?_,hpos,by simp,hlc,fun i hi=>?_,fun e=>(by cases e),fun e=>(by cases e)⟩
   ·rcases Nat.lt_or_ge a.block w.heap.size with h | h
    ·exact h
    ·exfalso
     apply Mq.2
     unfold World.shape?
     rw [Array.getElem?_eq_none h]
   ·simp only [List.length_map,List.length_range] at hi
    obtain ⟨v,h1,h2⟩:=hkey i hi
    refine ⟨v,h1,?_⟩
    rw [iX i v hi h1]
    exact (zkN h2).1
  ·rw [(Prod.mk.inj hx).1]
   simp [nV,hel]
theorem zoH {w:World} {base b0:Nat} {sp:Nat->Bool} {held:Bool} {r:Reach} (E:Env):∀ {ts:List TypeId} {vs:List Value} {ds:List (DataW H)} {ps:List MemPlace} {ss:List mZ},yl P ts=some ss ->
  (∀ (j:Nat) t v,ts[j]? = some t->vs[j]? = some v->Value.okWide P w r b0 t v)->DataW.TrodAll enc P w base sp held ts vs ds ps ->
  ∃ (xs:List DV) (ls:List Loc),Hx ss xs/\Fc ss xs ds/\xs.length=jl ss/\zZ E w ss xs ls/\(∀ (pre:List DV) (uP:List Loc),m6 (af (pre++xs)) (fun i=>(uP++ls).getD i default) pre.length uP.length ss=vs)
 | [],[],[],ps,ss,hs,_,hd=>by
  simp [yl] at hs
  subst hs
  exact ⟨[],[],rfl,trivial,rfl,trivial,fun _ _=>rfl⟩
 | t::ts,v::vs,d::ds,ps,ss,hs,hval,hd=>by
  simp only [yl] at hs
  split at hs
  ·rename_i s rr fJ uc
   cases hs
   obtain ⟨p,q,h1,h2,rfl⟩:=hd
   obtain ⟨ys,ls,b1,bl,b2,b3,b4⟩:=zoH E uc (fun j t v ht hv=>hval (j+1) t v (by simpa using ht) (by simpa using hv)) h2
   unfold ZE at fJ
   split at fJ
   ·rename_i e hu
    split at fJ
    ·rename_i l hl
     split at fJ
     ·rename_i hc
      cases fJ
      simp only [Bool.and_eq_true] at hc
      have ue:=Nat.eq_of_beq_eq_true hc.1
      have m_:0<l.length:=Nat.le_of_ble_eq_true hc.2
      obtain ⟨xs,lo,c1,rfl,c3,c4⟩:=zuI hu hl ue m_ (hval 0 t v rfl rfl) h1 E
      refine ⟨.l xs::ys,lo::ls,⟨⟨xs,rfl,c1⟩,b1⟩,⟨c4,bl⟩,by simp [jl,mZ.wd,b2];omega,⟨c3,b3⟩,fun pre uP=>?_⟩
      have:=b4 (pre++[.l xs]) (uP++[lo])
      simp only [List.append_assoc,List.cons_append,List.nil_append,List.length_append,List.length_cons,List.length_nil,Nat.zero_add] at this
      simp only [m6,this]
      congr 1
      simp [List.getD_eq_getElem?_getD]
     ·cases fJ
    ·cases fJ
   ·obtain ⟨s',hs',rfl⟩:=Option.map_eq_some_iff.1 fJ
    obtain ⟨xs,a1,_,a3,_⟩:=zsd hs' (hval 0 t v rfl rfl) h1
    refine ⟨xs++ys,ls,⟨?_,?_⟩,by show Fc rr ((xs++ys).drop s'.lf.length) ds;rw [<-a1.len,List.drop_left];exact bl,by simp [jl,mZ.wd,b2,a1.len],?_,fun pre uP=>?_⟩
    ·rw [<-a1.len,List.take_left];exact a1
    ·rw [<-a1.len,List.drop_left];exact b1
    ·show zZ E w rr ((xs++ys).drop s'.lf.length) ls
     rw [<-a1.len,List.drop_left];exact b3
    ·have e1:=a3 pre ys []
     have e2:=b4 (pre++xs) uP
     rw [List.append_assoc,List.length_append] at e2
     rw [List.append_assoc] at e1
     cases s' with
     | one t' =>
      have ga:xs.length=1:=a1.len
      simp only [yh,List.cons.injEq] at e1
      simp only [m6,e1.1]
      rw [ga] at e2
      rw [e2]
     | agg l =>
      have ga:xs.length=l.length:=a1.len
      simp only [yh,List.cons.injEq] at e1
      simp only [m6,e1.1]
      rw [ga] at e2
      rw [e2]
  ·cases hs
 | [],_::_,_,_,_,_,_,hd=>by cases hd
 | [],[],_::_,_,_,_,_,hd=>by cases hd
 | _::_,[],_,_,_,_,_,hd=>by cases hd
 | _::_,_::_,[],_,_,_,_,hd=>by cases hd
end
theorem ZG:∀ (ss:List mZ) (j i:Nat) (b:ag),nth (oA j ss) i=some b->b.own=false
 | [],_,i,b,h=>by cases i<;>cases h
 | .pl s::ss,j,i,b,h=>ZG ss _ i b h
 | .row ts::ss,j,0,b,h=>by cases h;rfl
 | .row ts::ss,j,i+1,b,h=>ZG ss _ i b h
theorem ZH {E:Env} {W:World} {n:Nat} (xs:List DV) (ym:List Loc) (hn:xs.length=n):∀ (ss:List mZ) (j b:Nat),j+jl ss<=n->zZ E W ss (xs.drop j) (ym.drop b) ->
  ∀ i bk,nth ((oA j ss).map (Option.map (ag.inst (eL 0 n)))) i=some bk->aD E (af xs) (fun i=>ym.getD i default) W (ym.getD (b+i) default) bk
 | [],j,b,_,_,i,bk,h=>by cases i<;>cases h
 | .pl s::ss,j,b,hj,hr,i,bk,h=>by
  have hj:j+(s.lf.length+jl ss)<=n:=hj
  refine ZH xs ym hn ss (j+s.lf.length) b (by omega) ?_ i bk h
  have hr:zZ E W ss ((xs.drop j).drop s.lf.length) (ym.drop b):=hr
  rwa [List.drop_drop] at hr
 | .row ts::ss,j,b,hj,hr,0,bk,h=>by
  have hj:j+(1+jl ss)<=n:=hj
  cases h
  have hid:(A.h j).inst (eL 0 n) = .r j:=by
   have:=ZA n 0 j (by omega)
   simpa [A.inst] using this
  have h1:=hr.1
  show bf E W (ym.getD (b+0) default) false ts (((A.h j).inst (eL 0 n)).cells (af xs))
  rw [hid]
  have e1:(ym.drop b).headD default=ym.getD (b+0) default:=by
   rw [List.headD_eq_head?_getD,List.head?_drop,List.getD_eq_getElem?_getD,Nat.add_zero]
  have e2:(xs.drop j).headD default=af xs j:=by
   rw [List.headD_eq_head?_getD,List.head?_drop,af,List.getD_eq_getElem?_getD]
  rw [e1,e2] at h1
  exact h1
 | .row ts::ss,j,b,hj,hr,i+1,bk,h=>by
  have hj:j+(1+jl ss)<=n:=hj
  have h2:zZ E W ss ((xs.drop j).tail) ((ym.drop b).tail):=hr.2
  rw [List.tail_drop,List.tail_drop] at h2
  have:=ZH xs ym hn ss (j+1) (b+1) (by omega) h2 i bk h
  rwa [show b+1+i=b+(i+1) from by omega] at this
section
variable {C:Checked} {os:Os} {f:FuncId} {fn:Func} {s:ChangeSpec} {H:Type} {enc:TypeId×Value->H} {sg:aW} {G:List DV->List DV} {I:World->Prop}
structure tK (sg:aW) (ss:List mZ):Prop where
 ins:sg.ins=kJ 0 0 ss
 hin:sg.hin=oA 0 ss
 fE:sg.fE=jl ss
 out:sg.out = .s (.one (.b (.h 0)))
 hout:sg.hout=[]
 iK:sg.iK=[.b]
structure xw (P:Program) (ts:List TypeId):Prop where
 rows:laidOutB P=true
 maps:mapsRowed P=true
 full:((List.range P.types.size).all fun t=>match P.underlying t with | some (.slice e)=>decide (0<P.cellsOf e) | _=>true)=true
 lt:ts.all (fun t=>decide (t<P.types.size))=true
theorem zkW {gK : Nat} {ss : List mZ} (k : aI C.prog I gK f sg G) (hsh : yl C.prog fn.params.toList = some ss) (hl : tK sg ss) {tb : TypeId} (ZI : fn.resultTypes = #[tb])
    (htb : C.prog.underlying tb = some .bool) (hvars : s.vars = []) (hs : ∀ ds : List (DataW H), ds.length = fn.params.size -> s.fn H ds = { results := [.lit (.bool true)], args := ds }) (hlo : xw C.prog fn.params.toList)
    {X : List DV -> Prop} (hG : ∀ xs, Hx ss xs -> xs.length = jl ss -> X xs -> (sg.need = true -> (af (G xs) 0).aA = true) /\ (af (G xs) (if sg.need then 1 else 0)).aA = true)
    {W : World} {base : Nat} {args : Array Value} {ds gs : List (DataW H)} {before : List MemPlace}
    (hval : ∀ (j : Nat) t v, fn.params[j]? = some t -> args[j]? = some v -> Value.okWide C.prog W .any base t v)
    (hW : DataW.Whole enc C.prog fn.params.toList s.vars false W args.toList ds gs before) (hX : ∀ xs, Fc ss xs ds -> X xs) (hI : I W) (hK : gK <= W.heap.size) :
    Calls C.prog f args W fun e W' => ∃ v, e = .returned v /\ s.post enc C.prog fn false true false false W args v W' := by
  have hW0 := hW
  obtain ⟨p, q, hA, hV, rfl, hfz, _⟩ := hW
  rw [hvars] at hV
  obtain ⟨rfl, rfl⟩ := trodVars_none hV
  have hlen : ∀ {ts : List TypeId} {vs : List Value} {ds : List (DataW H)} {ps : List MemPlace}, DataW.TrodAll enc C.prog W 0 (fun _ => true) true ts vs ds ps -> ds.length = ts.length := by
    intro ts
    induction ts with
    | nil => intro vs ds ps h; cases vs <;> cases ds <;> first | rfl | cases h
    | cons t ts ih =>
      intro vs ds ps h
      cases vs with
      | nil => cases h
      | cons v vs =>
        cases ds with
        | nil => cases h
        | cons d ds =>
          obtain ⟨p, q, _, h2, _⟩ := h
          simp [ih h2]
  obtain ⟨xs, ls, h1, hlx, hx, h3, h2⟩ := zoH (bA sg.eE (fun i => default) W) hsh (fun j t v ht hv => hval j t v (by simpa using ht) (by simpa using hv)) hA
  have hg := hG xs h1 hx (hX xs hlx)
  have Mr : sg.eE = (oA 0 ss).map (Option.map (ag.inst (eL 0 sg.fE))) := by unfold aW.eE; rw [hl.hin]
  have hown : ∀ j b, nth sg.eE j = some b -> b.own = false := fun j b hj => by
    rw [Mr, jy] at hj
    obtain ⟨y, hy, rfl⟩ := Option.map_eq_some_iff.1 hj
    rw [ag.cC]
    exact ZG ss 0 j y hy
  have xK : ∀ (U : Nat -> Loc) b, ¬ (bA sg.eE U W).W b := fun U b ⟨j, bk, hj, ho, _⟩ => by rw [hown j bk hj] at ho; cases ho
  obtain ⟨c1, c2⟩ := Qw (n := sg.fE) (af xs) (fun i => ls.getD i default) ss 0 0 (by rw [hl.fE]; omega)
  have Ms : sg.iZ = (kJ 0 0 ss).map (V.inst (eL 0 sg.fE)) := by unfold aW.iZ; rw [hl.ins]
  have wH : ∀ {E E' : Env} {ss : List mZ} {ds : List DV} {ls : List Loc}, zZ E W ss ds ls -> (∀ t ∈ ss, match t with | .row ts => ts.all LT.flat = true | _ => True) -> zZ E' W ss ds ls := by
    intro E E' ss
    induction ss with
    | nil => intro ds ls _ _; trivial
    | cons t ss ih =>
      intro ds ls h ht
      cases t with
      | pl s => exact ih (ds := ds.drop s.lf.length) h (fun u hu => ht u (List.mem_cons_of_mem _ hu))
      | row ts =>
        refine ⟨?_, ih h.2 (fun u hu => ht u (List.mem_cons_of_mem _ hu))⟩
        have hf : ts.all LT.flat = true := ht (.row ts) (by simp)
        have h := h.1
        exact ⟨h.nil, h.lt, h.pos, h.len, h.cap, fun i hi => let ⟨v, h1, h2⟩ := h.cell i hi; ⟨v, h1, h2.flat (Sk hf _)⟩, h.own, h.fz⟩
  have hfl : ∀ t ∈ ss, match t with | .row ts => ts.all LT.flat = true | _ => True := by
    have key : ∀ (d : Nat) (t : TypeId) (l : List LT), qW C.prog d t = some l -> l.all LT.flat = true := by
      intro d
      induction d with
      | zero => intro t l h; cases h
      | succ d ih =>
        intro t l h
        simp only [qW] at h
        split at h
        · cases h; rfl
        · cases h; rfl
        · split at h
          · cases h
          · rename_i l' hl'
            split at h
            · cases h
              refine List.all_eq_true.2 fun x hx => ?_
              obtain ⟨y, hy, hxy⟩ := List.mem_flatten.1 hx
              rw [(List.mem_replicate.1 hy).2] at hxy
              exact List.all_eq_true.1 (ih _ _ hl') x hxy
            · cases h
        · split at h
          · cases h
          · rename_i l' hl'
            split at h
            · cases h
              have kf : ∀ (fs : List Field) (o : Nat) (l : List LT), yj C.prog (qW C.prog d) o fs = some l -> l.all LT.flat = true := by
                intro fs
                induction fs with
                | nil => intro o l h; simp [yj] at h; subst h; rfl
                | cons f fs ihf =>
                  intro o l h
                  simp only [yj] at h
                  split at h
                  · split at h
                    · cases h
                    · rename_i r hr
                      split at h
                      · split at h
                        · cases h
                        · rename_i r' hr'
                          cases h
                          rw [List.all_append, ih _ _ hr, ihf _ _ hr']
                          rfl
                      · cases h
                  · cases h
              exact kf _ _ _ hl'
            · cases h
        · cases h
    have yY : ∀ {ts : List TypeId} {ss : List mZ}, yl C.prog ts = some ss -> ∀ t ∈ ss, match t with | .row ts => ts.all LT.flat = true | _ => True := by
      intro ts
      induction ts with
      | nil => intro ss h t ht; simp [yl] at h; subst h; cases ht
      | cons t ts ih =>
        intro ss h u hu
        simp only [yl] at h
        split at h
        · rename_i s rr fJ uc
          cases h
          rcases List.mem_cons.1 hu with rfl | hu
          · unfold ZE at fJ
            split at fJ
            · split at fJ
              · rename_i l hl
                split at fJ
                · cases fJ; exact key _ _ _ hl
                · cases fJ
              · cases fJ
            · obtain ⟨s', _, rfl⟩ := Option.map_eq_some_iff.1 fJ
              trivial
          · exact ih uc u hu
        · cases h
    exact yY hsh
  have hk := k xs (fun i => ls.getD i default) W hI (by rw [hl.fE]; exact hx) hg.1 hK (fun b hb => absurd hb (xK _ b)) (by rw [Ms]; exact c2)
    ⟨fun j bk hj => by
      have Se := wH (E' := bA sg.eE (fun i => ls.getD i default) W) h3 hfl
      have := ZH xs ls (n := sg.fE) (by rw [hl.fE]; exact hx) ss 0 0 (by rw [hl.fE]; omega) (by simpa using Se) j bk (by rw [<- Mr]; exact hj)
      rwa [Nat.zero_add] at this,
     fun j j' bk aS hj ho => by rw [hown j bk hj] at ho; cases ho⟩
  have ha : (sg.iZ.map (V.aa (af xs) fun i => ls.getD i default)).toArray = args := by
    rw [Ms, c1]
    apply Array.ext'
    simpa using h2 [] []
  rw [ha] at hk
  refine hk.mono fun e W' ⟨v, U', he, hc⟩ => ⟨.bool true, ?_, ?_⟩
  · rw [he, hc.val]
    have : sg.aG.aa (sg.res (G xs)) U' = .bool (af (G xs) (if sg.need then 1 else 0)).aA := by
      unfold aW.aG aW.res
      rw [hl.out, hl.iK]
      show Value.bool (af (G xs) (0 + _)).aA = _
      rw [Nat.zero_add]
    rw [this, hg.2]
  · have hb : Below W.heap.size W W' := (hc.fr.weaken (W' := fun _ => False) fun b hb => xK _ b hb).below
    have ZJ := hs ds (by have := hlen hA; simpa using this)
    have Mt := kids_rows hlo.rows hlo.maps
    have hT : ∀ t ∈ fn.params.toList, t < C.prog.types.size := fun t ht => by simpa using List.all_eq_true.1 hlo.lt t ht
    have m9 := DataW.TrodAll.respare (spare' := fun b => decide (b < W.heap.size)) Mt (slices_full_of C.prog hlo.full) hT hA (fun x hx => by simpa using hA.lt x hx)
    have Fe : ∀ {ts : List TypeId} {vs : List Value} {ds : List (DataW H)} {ps : List MemPlace}, DataW.TrodAll enc C.prog W 0 (fun b => decide (b < W.heap.size)) true ts vs ds ps -> (∀ p ∈ ps, W.sameAt W' p) -> DataW.TrodAll enc C.prog W' 0 (fun b => decide (b < W.heap.size)) true ts vs ds ps := by
      intro ts
      induction ts with
      | nil => intro vs ds ps h _; cases vs <;> cases ds <;> first | exact h | cases h
      | cons t ts ih =>
        intro vs ds ps h hsame
        cases vs with
        | nil => cases h
        | cons v vs =>
        cases ds with
        | nil => cases h
        | cons d ds =>
        obtain ⟨p, q, ⟨fu, h1⟩, h2, rfl⟩ := h
        exact ⟨p, q, ⟨fu, DataW.trod_carry fu _ _ _ h1 (fun x hx => hsame x (List.mem_append_left _ hx))⟩, ih h2 (fun x hx => hsame x (List.mem_append_right _ hx)), rfl⟩
    have ZK := Fe m9 (fun x hx => hb.same (hA.lt x hx))
    refine ⟨ds, [], p ++ [], [], p, [], ⟨p, [], hA, by rw [hvars]; exact rfl, rfl, hfz, fun h => by cases h⟩, ?_, ?_, ?_, hb.frame _, fun h => by cases h⟩
    · rw [List.append_nil, ZJ, ZI]
      exact trodAll_mk1 (shut_bool htb true)
    · rw [List.append_nil, ZJ]
      exact ZK
    · rw [List.append_nil, ZJ, hvars]
      rfl
theorem zoI {gK:Nat} {ss:List mZ} (k:aI C.prog I gK f sg G) (hsh:yl C.prog fn.params.toList=some ss) (hl:tK sg ss) {tb:TypeId} (ZI:fn.resultTypes = #[tb])
  (htb:C.prog.underlying tb=some .bool) (hvars:s.vars=[]) (hs:∀ ds:List (DataW H),ds.length=fn.params.size->s.fn H ds = { results:=[.lit (.bool true)],args:=ds }) (hlo:xw C.prog fn.params.toList)
  {X:List DV->Prop} (hG:∀ xs,Hx ss xs->xs.length=jl ss->X xs->(sg.need=true->(af (G xs) 0).aA=true)/\(af (G xs) (if sg.need then 1 else 0)).aA=true)
  (hX:∀ (xs:List DV) (ds:List (DataW H)),Fc ss xs ds->(DataW.weightsEach C.prog fn.params.toList ds).all (·<=reachBytes)=true->X xs) (hI:∀ W,I W) (hK:gK=0)
  (own:ownKnob C.prog.godebug=none) (started:os.Started) (noInit:C.prog.inits.idxOf? f=none) (hfn:C.prog.funcs[f]? = some fn)
  (witness:∃ (w:World) (tape:Tape) (i:Input),w.os=os/\(w.forCall tape i).Shaped C.prog/\i.vars=[]/\Input.okWide C.prog (w.forCall tape i) .any w.heap.size f i /\
   s.pre6 enc C.prog fn [] false (w.forCall tape i).memory i.args/\({} : Assume).holds C.prog (lone (Frame.enter C.prog f i.args .normal) [] (w.forCall tape i))) :
  ReturnsInHanded {} C os f .any (s.pre6 enc C.prog fn [] false) (s.post enc C.prog fn false true false false) :=
 returnsInHanded_of_change_sized (C:=C) own started noInit hfn witness
  fun W _ _ ds gs _ hval hW _ hz _=>zkW k hsh hl ZI htb hvars hs hlo hG hval hW (fun xs h=>hX xs ds h (by
   obtain ⟨_,_,_,hV,_⟩:=hW
   rw [hvars] at hV
   obtain ⟨rfl,_⟩:=trodVars_none hV
   have e:s.plain.varTypes C.prog=[]:=by simp [ChangeSpec.plain,DataSpec.varTypes,hvars]
   rw [e,List.append_nil,List.append_nil] at hz
   exact hz)) (hI W) (by rw [hK];exact Nat.zero_le _)
end
end Go.Sx
end
