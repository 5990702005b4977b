/- WalkAllows: the row's statement, and its card. -/
import Derived.Test.YtedoffkaehcnmaaDoorA5
namespace Go.Proofs.YtedoffkaehcnmaaDoor
open Go Go.Sx Go.RowKit
set_option maxRecDepth 100000
noncomputable def sh4:List ShV:=(zcg Tryd.prog Tryd.f4.params.toList).getD []
theorem zup (F : FEnv) (x0 x1 x2 x3 x4 x5 x6 x7 x8 x9 x10 x11 x12 x13 x14 x15 x16 x17 x18 x19 x20 x21 : Int) (a b : List DV) (y0 y1 y2 : Int) : outI F s4 o4 [.i x0, .i x1, .i x2, .i x3, .i x4, .i x5, .i x6, .i x7, .i x8, .i x9, .i x10, .i x11, .i x12, .i x13, .i x14, .i x15, .i x16, .i x17, .i x18, .i x19, .i x20, .i x21, .l a, .l b, .i y0, .i y1, .i y2] =
    [.b ([ow [] ((F 7 []).getD 0 default).toB, ow [(((F 7 []).getD 1 default).toB, true)] ((F 11 [.i x0, .i x1, .i x2, .i x3, .i x4, .i x5, .i x6, .i x7, .i x8, .i x9, .i x10, .i x11, .i x12, .i x13, .i x14, .i x15, .i x16, .i x17, .i x18, .i x19, .i x20, .i x21, .l a, .l b, .i y0, .i y1, .i y2]).getD 0 default).toB].all id),
     .b (((F 7 []).getD 1 default).toB && (((F 10 [.i x0, .i x1, .i x2, .i x3, .i x4, .i x5, .i x6, .i x7, .i x8, .i x9, .i x10, .i x11, .i x12, .i x13, .i x14, .i x15, .i x16, .i x17, .i x18, .i x19, .i x20, .i x21, .l a, .l b, .i y0, .i y1, .i y2]).getD 0 default).toB == ((F 11 [.i x0, .i x1, .i x2, .i x3, .i x4, .i x5, .i x6, .i x7, .i x8, .i x9, .i x10, .i x11, .i x12, .i x13, .i x14, .i x15, .i x16, .i x17, .i x18, .i x19, .i x20, .i x21, .l a, .l b, .i y0, .i y1, .i y2]).getD 1 default).toB))] := by kernel_rfl
theorem zsS:sh4=[.pl (.agg [.int .u64,.int .u64,.int .u64,.int .u64,.int .u64,.int .u64,.int .u64,.int .u64,.int .u64,.int .u64,.int .u64,.int .u64,.int .u64,.int .u64,.int .u64,.int .u64,.int .u64,.int .u64,.int .u64,.int .u64,.int .u64,.int .u64,.int .u8,.int .u8,.int .u8,.int .u8,.int .u8,.int .u8,.int .u8,.int .u8,.int .u64,.int .u64,.int .u64,.int .u64,.int .u64,.int .u64,.int .u64,.int .u64]),.pl (.one (.int .i64)),.pl (.one (.int .i64)),.pl (.one (.int .u64))]:=by kernel_rfl
def packF (ds:List DV):List DV:=ds.take 22++[.l ((ds.drop 22).take 8),.l ((ds.drop 30).take 8)]++ds.drop 38
noncomputable def sF4:Sig:=⟨patV 0 0 sh4,[],List.replicate 41 .i,.s (.one (.b (.h 0))),[],[.b],true⟩
noncomputable def gF4 (ds:List DV):List DV:=g4 (packF ds)
theorem kF4:FnOK Tryd.prog WI gK 4 sF4 gF4:=FnOK.flat k4 packF rfl rfl rfl rfl rfl rfl fun ds h=>match ds,(h.trans (by kernel_rfl):ds.length=41) with
 | zz0::zz1::zz2::zz3::zz4::zz5::zz6::zz7::zz8::zz9::zz10::zz11::zz12::zz13::zz14::zz15::zz16::zz17::zz18::zz19::zz20::zz21::zz22::zz23::zz24::zz25::zz26::zz27::zz28::zz29::zz30::zz31::zz32::zz33::zz34::zz35::zz36::zz37::zz38::zz39::zz40::[],_=>⟨by kernel_rfl,allG (by kernel_rfl),fun ρ=>by kernel_rfl⟩
theorem zmy (xs:List DV) (h:zho sh4 xs) (hlen:xs.length=nInV sh4):(sF4.need=true→(dget (gF4 xs) 0).toB=true)∧(dget (gF4 xs) (if sF4.need then 1 else 0)).toB=true:=by
 have hlen:xs.length=41:=hlen.trans (by rw [zsS];rfl)
 rw [zsS] at h
 obtain ⟨h1,h2,h3,h4,_⟩:=h
 match xs,hlen,h1,h2,h3,h4 with
 | zz0::zz1::zz2::zz3::zz4::zz5::zz6::zz7::zz8::zz9::zz10::zz11::zz12::zz13::zz14::zz15::zz16::zz17::zz18::zz19::zz20::zz21::zz22::zz23::zz24::zz25::zz26::zz27::zz28::zz29::zz30::zz31::zz32::zz33::zz34::zz35::zz36::zz37::zz38::zz39::zz40::[],_,h1,h2,h3,h4 =>
  have w0:(Lit.int .u64 zz0.toI).wf=true:=RangeOk.int_at (k:=.u64) 0 h1 rfl
  have w0:0≤zz0.toI∧zz0.toI≤18446744073709551615:=by simpa [Lit.wf,IntKind.min,IntKind.max,IntKind.bits,IntKind.signed] using w0
  have w1:(Lit.int .u64 zz40.toI).wf=true:=RangeOk.int_at (k:=.u64) 0 h4 rfl
  have w1:0≤zz40.toI∧zz40.toI≤18446744073709551615:=by simpa [Lit.wf,IntKind.min,IntKind.max,IntKind.bits,IntKind.signed] using w1
  obtain ⟨a,b⟩:=zpv zz0.toI zz38.toI zz39.toI zz40.toI w0.1 (by omega) w1.1 (by omega)
  have hg:gF4 [zz0,zz1,zz2,zz3,zz4,zz5,zz6,zz7,zz8,zz9,zz10,zz11,zz12,zz13,zz14,zz15,zz16,zz17,zz18,zz19,zz20,zz21,zz22,zz23,zz24,zz25,zz26,zz27,zz28,zz29,zz30,zz31,zz32,zz33,zz34,zz35,zz36,zz37,zz38,zz39,zz40]=[.b true,.b true]:=by
   show g4 (packF [zz0,zz1,zz2,zz3,zz4,zz5,zz6,zz7,zz8,zz9,zz10,zz11,zz12,zz13,zz14,zz15,zz16,zz17,zz18,zz19,zz20,zz21,zz22,zz23,zz24,zz25,zz26,zz27,zz28,zz29,zz30,zz31,zz32,zz33,zz34,zz35,zz36,zz37,zz38,zz39,zz40])=_
   have hp:packF [zz0,zz1,zz2,zz3,zz4,zz5,zz6,zz7,zz8,zz9,zz10,zz11,zz12,zz13,zz14,zz15,zz16,zz17,zz18,zz19,zz20,zz21,zz22,zz23,zz24,zz25,zz26,zz27,zz28,zz29,zz30,zz31,zz32,zz33,zz34,zz35,zz36,zz37,zz38,zz39,zz40]=[zz0,zz1,zz2,zz3,zz4,zz5,zz6,zz7,zz8,zz9,zz10,zz11,zz12,zz13,zz14,zz15,zz16,zz17,zz18,zz19,zz20,zz21,.l [zz22,zz23,zz24,zz25,zz26,zz27,zz28,zz29],.l [zz30,zz31,zz32,zz33,zz34,zz35,zz36,zz37],zz38,zz39,zz40]:=rfl
   have hn:g4 (packF [zz0,zz1,zz2,zz3,zz4,zz5,zz6,zz7,zz8,zz9,zz10,zz11,zz12,zz13,zz14,zz15,zz16,zz17,zz18,zz19,zz20,zz21,zz22,zz23,zz24,zz25,zz26,zz27,zz28,zz29,zz30,zz31,zz32,zz33,zz34,zz35,zz36,zz37,zz38,zz39,zz40])=outI FE s4 o4 [.i zz0.toI,.i zz1.toI,.i zz2.toI,.i zz3.toI,.i zz4.toI,.i zz5.toI,.i zz6.toI,.i zz7.toI,.i zz8.toI,.i zz9.toI,.i zz10.toI,.i zz11.toI,.i zz12.toI,.i zz13.toI,.i zz14.toI,.i zz15.toI,.i zz16.toI,.i zz17.toI,.i zz18.toI,.i zz19.toI,.i zz20.toI,.i zz21.toI,.l [zz22,zz23,zz24,zz25,zz26,zz27,zz28,zz29],.l [zz30,zz31,zz32,zz33,zz34,zz35,zz36,zz37],.i zz38.toI,.i zz39.toI,.i zz40.toI]:=by
    rw [hp,e4]
    show outK s4 o4 (zbx FE s4 o4 (nrms s4.its _))=outK s4 o4 (zbx FE s4 o4 (nrms s4.its _))
    rfl
   have q1:FE 10 [.i zz0.toI,.i zz1.toI,.i zz2.toI,.i zz3.toI,.i zz4.toI,.i zz5.toI,.i zz6.toI,.i zz7.toI,.i zz8.toI,.i zz9.toI,.i zz10.toI,.i zz11.toI,.i zz12.toI,.i zz13.toI,.i zz14.toI,.i zz15.toI,.i zz16.toI,.i zz17.toI,.i zz18.toI,.i zz19.toI,.i zz20.toI,.i zz21.toI,.l [zz22,zz23,zz24,zz25,zz26,zz27,zz28,zz29],.l [zz30,zz31,zz32,zz33,zz34,zz35,zz36,zz37],.i zz38.toI,.i zz39.toI,.i zz40.toI]=[.b (zsb zz0.toI zz38.toI zz39.toI zz40.toI)]:=rfl
   have q2:FE 11 [.i zz0.toI,.i zz1.toI,.i zz2.toI,.i zz3.toI,.i zz4.toI,.i zz5.toI,.i zz6.toI,.i zz7.toI,.i zz8.toI,.i zz9.toI,.i zz10.toI,.i zz11.toI,.i zz12.toI,.i zz13.toI,.i zz14.toI,.i zz15.toI,.i zz16.toI,.i zz17.toI,.i zz18.toI,.i zz19.toI,.i zz20.toI,.i zz21.toI,.l [zz22,zz23,zz24,zz25,zz26,zz27,zz28,zz29],.l [zz30,zz31,zz32,zz33,zz34,zz35,zz36,zz37],.i zz38.toI,.i zz39.toI,.i zz40.toI]=[.b p11,.b (zsc zz0.toI zz38.toI zz39.toI zz40.toI)]:=rfl
   rw [hn,zup,show FE 7 []=[.b true,.b true] from zoI,q1,q2]
   simp only [List.getD_cons_zero,List.getD_cons_succ,DV.toI,DV.toB,a,b]
   simp [ow]
  exact zsQ rfl hg
theorem zgR (os:Os) (started:os.Started) (H:Type) (enc:TypeId×Value→H) :
  ReturnsInHanded {} Tryd.checked os 4 .any (fun w args => (Rows.walkAllowsSpec.pre enc Tryd.prog Tryd.f4 [] false w args ∧ laidMetH Tryd.prog [("math/bits.deBruijn64tab", Rows.laid_math_bits_deBruijn64tab)] w) ∧ sizedMet enc Tryd.prog Tryd.f4 (OpenSpec.ofChange Rows.walkAllowsSpec) false w args)
   (Rows.walkAllowsSpec.post enc Tryd.prog Tryd.f4 false true false false) :=
 zdP (C:=Tryd.checked) (fn:=Tryd.f4) (sg:=sF4) (G:=gF4) (I:=WI) (ss:=sh4) (tb:=(Tryd.f4.resultTypes.getD 0 0)) kF4 (by kernel_rfl) ⟨by kernel_rfl,by kernel_rfl,by kernel_rfl,rfl,rfl,rfl⟩ (by kernel_rfl) (by kernel_rfl) rfl
  (fun ds h=>match ds,(h.trans (by kernel_rfl):ds.length=4) with | [_,_,_,_],_=>rfl)
  ⟨by kernel_rfl,by kernel_rfl,by kernel_rfl,by kernel_rfl⟩
  zmy (fun W hW=>zrH hW) (fun W hW=>hW.1) ownL started (by kernel_rfl) Tryd.func4
  (ChangeSpec.witness_shaped (enc := enc) (C := Tryd.checked) (os := os) (X := fun w _ => laidMetH Tryd.prog [("math/bits.deBruijn64tab", Rows.laid_math_bits_deBruijn64tab)] w) false (World.doorLaid Tryd.prog 400 os)
   #[.agg #[.int .u64 0,.int .u64 0,.int .u64 0,.int .u64 0,.int .u64 0,.int .u64 0,.int .u64 0,.int .u64 0,.int .u64 0,.int .u64 0,.int .u64 0,.int .u64 0,.int .u64 0,.int .u64 0,.int .u64 0,.int .u64 0,.int .u64 0,.int .u64 0,.int .u64 0,.int .u64 0,.int .u64 0,.int .u64 0,.int .u8 0,.int .u8 0,.int .u8 0,.int .u8 0,.int .u8 0,.int .u8 0,.int .u8 0,.int .u8 0,.int .u64 0,.int .u64 0,.int .u64 0,.int .u64 0,.int .u64 0,.int .u64 0,.int .u64 0,.int .u64 0],.int .i64 0,.int .i64 0,.int .u64 0]
   8 rfl (World.shaped_of_RefB (by kernel_rfl) (by kernel_rfl)) (by kernel_rfl) (by kernel_rfl) (by kernel_rfl) (zoL os _))
theorem zhu:Rows.WalkAllowsSaid :=
 OpenClaim.holds_of_wide 4 Tryd.f4 rfl rfl rfl rfl rfl rfl rfl ⟨rfl,rfl,rfl,rfl,rfl⟩ rfl rfl rfl rfl rfl (by kernel_rfl) Tryd.func4 (by kernel_rfl)
  (of_decide_eq_true (by kernel_rfl)) (by unfold Func.isWrapper;first | (rw [if_pos (by decide +kernel)];kernel_rfl) | (rw [if_neg (by decide +kernel)];exact ⟨rfl,rfl⟩))
  (fun os started H enc _=>zgR os started H enc)
theorem walkAllows_card:Rows.WalkAllowsCardSaid :=
 Claim7.holds_tied_plain_at .later [] [.data] true (true, "ad82bc64db00a77ddb4f6da76236ea02588450c80ed5b0efe6ae7a4971dd16f1") false
  zhu (fun _ h=>by cases h) (by kernel_rfl) (fun _ h=>by cases h) walkAllows_row_tie rfl ⟨rfl,rfl⟩ (by kernel_rfl) rfl
  (fun f fn hf hfn=>by
   obtain rfl:f=4:=Option.some.inj ((show Tryd.prog.funcNamed Rows.walkAllowsRow.func=some 4 by kernel_rfl).symm.trans hf) |>.symm
   obtain rfl:fn=Tryd.f4:=(Option.some.inj (Tryd.func4.symm.trans hfn)).symm
   exact ⟨by kernel_rfl,fun j t ht=>by
    have hp:Tryd.f4.params = #[26,3,3,22]:=by kernel_rfl
    rw [hp] at ht
    have hm:t∈[26,3,3,22]:=by simpa using Array.mem_of_getElem? ht
    have hall:([26,3,3,22].all fun u=>!Tryd.prog.wantsStandIn u)=true:=by kernel_rfl
    exact (show Tryd.prog.wantsStandIn t=false by simpa using List.all_eq_true.1 hall t hm)⟩)
  (by kernel_rfl)
#print axioms walkAllows_card
end Go.Proofs.YtedoffkaehcnmaaDoor
