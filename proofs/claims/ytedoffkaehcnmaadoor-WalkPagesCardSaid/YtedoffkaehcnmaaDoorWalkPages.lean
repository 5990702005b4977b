/- WalkPages: the row's statement, and its card. -/
import Derived.Test.YtedoffkaehcnmaaDoorB6
namespace Go.Proofs.YtedoffkaehcnmaaDoor
open Go Go.Sx Go.RowKit
set_option maxRecDepth 100000
noncomputable def sh5:List ShV:=(zcP Tryd.prog Tryd.f5.params.toList).getD []
theorem ztw:sh5=[.row [.int .u8],.pl (.agg [.int .u64,.int .u64,.int .u64,.int .u64,.int .u64,.int .u64,.int .u64,.int .u64,.int .u64,.int .u64,.int .u64,.int .u64,.int .u64,.int .u64,.int .u64,.int .u64,.int .u64,.int .u64,.int .u64,.int .u64,.int .u64,.int .u64,.int .u8,.int .u8,.int .u8,.int .u8,.int .u8,.int .u8,.int .u8,.int .u8,.int .u64,.int .u64,.int .u64,.int .u64,.int .u64,.int .u64,.int .u64,.int .u64]),.pl (.one (.int .i64)),.pl (.one (.int .i64)),.pl (.one (.int .u64)),.pl (.one (.int .u64))]:=by kernel_rfl
def zsc (ds:List DV):List DV:=ds.take 23++[.l ((ds.drop 23).take 8),.l ((ds.drop 31).take 8)]++ds.drop 39
noncomputable def sF5:Sig:=⟨patV 0 0 sh5,blksV 0 sh5,.l::List.replicate 42 .i,.s (.one (.b (.h 0))),[],[.b],true⟩
noncomputable def gF5 (ds:List DV):List DV:=g5 (zsc ds)
theorem kF5:FnOK Tryd.prog WI gK 5 sF5 gF5:=FnOK.flatH k5 zsc [.l] (fun a h=>zbz a h) (by kernel_rfl) (by kernel_rfl) (by kernel_rfl) (by kernel_rfl) rfl rfl rfl rfl fun ds h=>match ds,(h.trans (by kernel_rfl):ds.length=43) with
 | zz0::zz1::zz2::zz3::zz4::zz5::zz6::zz7::zz8::zz9::zz10::zz11::zz12::zz13::zz14::zz15::zz16::zz17::zz18::zz19::zz20::zz21::zz22::zz23::zz24::zz25::zz26::zz27::zz28::zz29::zz30::zz31::zz32::zz33::zz34::zz35::zz36::zz37::zz38::zz39::zz40::zz41::zz42::[],_=>⟨by kernel_rfl,allG (by kernel_rfl),fun ρ=>by kernel_rfl,fun i t ht=>match i,ht with
  | 0,ht=>by cases ht;rfl
  | i+1,ht=>by cases ht⟩
theorem zor (xs:List DV) (h:zjF sh5 xs) (hlen:xs.length=nInV sh5):(sF5.need=true→(dget (gF5 xs) 0).toB=true)∧(dget (gF5 xs) (if sF5.need then 1 else 0)).toB=true:=by
 have hlen:xs.length=43:=hlen.trans (by rw [ztw];rfl)
 rw [ztw] at h
 obtain ⟨⟨img,hi,_⟩,h1,h2,h3,h4,h5,_⟩:=h
 match xs,hlen,hi,h4,h5 with
 | zz0::zz1::zz2::zz3::zz4::zz5::zz6::zz7::zz8::zz9::zz10::zz11::zz12::zz13::zz14::zz15::zz16::zz17::zz18::zz19::zz20::zz21::zz22::zz23::zz24::zz25::zz26::zz27::zz28::zz29::zz30::zz31::zz32::zz33::zz34::zz35::zz36::zz37::zz38::zz39::zz40::zz41::zz42::[],_,hi,h4,h5 =>
  have hi:zz0 = .l img:=Option.some.inj hi
  subst hi
  have w4:(Lit.int .u64 zz41.toI).wf=true:=RangeOk.int_at (k:=.u64) 0 h4 rfl
  have w4:0≤zz41.toI∧zz41.toI≤18446744073709551615:=by simpa [Lit.wf,IntKind.min,IntKind.max,IntKind.bits,IntKind.signed] using w4
  have w5:(Lit.int .u64 zz42.toI).wf=true:=RangeOk.int_at (k:=.u64) 0 h5 rfl
  have w5:0≤zz42.toI∧zz42.toI≤18446744073709551615:=by simpa [Lit.wf,IntKind.min,IntKind.max,IntKind.bits,IntKind.signed] using w5
  have hg:gF5 [DV.l img,zz1,zz2,zz3,zz4,zz5,zz6,zz7,zz8,zz9,zz10,zz11,zz12,zz13,zz14,zz15,zz16,zz17,zz18,zz19,zz20,zz21,zz22,zz23,zz24,zz25,zz26,zz27,zz28,zz29,zz30,zz31,zz32,zz33,zz34,zz35,zz36,zz37,zz38,zz39,zz40,zz41,zz42]=[.b true,.b true]:=by
   show g5 (zsc [DV.l img,zz1,zz2,zz3,zz4,zz5,zz6,zz7,zz8,zz9,zz10,zz11,zz12,zz13,zz14,zz15,zz16,zz17,zz18,zz19,zz20,zz21,zz22,zz23,zz24,zz25,zz26,zz27,zz28,zz29,zz30,zz31,zz32,zz33,zz34,zz35,zz36,zz37,zz38,zz39,zz40,zz41,zz42])=_
   have hp:zsc [DV.l img,zz1,zz2,zz3,zz4,zz5,zz6,zz7,zz8,zz9,zz10,zz11,zz12,zz13,zz14,zz15,zz16,zz17,zz18,zz19,zz20,zz21,zz22,zz23,zz24,zz25,zz26,zz27,zz28,zz29,zz30,zz31,zz32,zz33,zz34,zz35,zz36,zz37,zz38,zz39,zz40,zz41,zz42]=[DV.l img,zz1,zz2,zz3,zz4,zz5,zz6,zz7,zz8,zz9,zz10,zz11,zz12,zz13,zz14,zz15,zz16,zz17,zz18,zz19,zz20,zz21,zz22,.l [zz23,zz24,zz25,zz26,zz27,zz28,zz29,zz30],.l [zz31,zz32,zz33,zz34,zz35,zz36,zz37,zz38],zz39,zz40,zz41,zz42]:=rfl
   have hn:g5 (zsc [DV.l img,zz1,zz2,zz3,zz4,zz5,zz6,zz7,zz8,zz9,zz10,zz11,zz12,zz13,zz14,zz15,zz16,zz17,zz18,zz19,zz20,zz21,zz22,zz23,zz24,zz25,zz26,zz27,zz28,zz29,zz30,zz31,zz32,zz33,zz34,zz35,zz36,zz37,zz38,zz39,zz40,zz41,zz42])=outI FE s5 o5 [.l img,.i zz1.toI,.i zz2.toI,.i zz3.toI,.i zz4.toI,.i zz5.toI,.i zz6.toI,.i zz7.toI,.i zz8.toI,.i zz9.toI,.i zz10.toI,.i zz11.toI,.i zz12.toI,.i zz13.toI,.i zz14.toI,.i zz15.toI,.i zz16.toI,.i zz17.toI,.i zz18.toI,.i zz19.toI,.i zz20.toI,.i zz21.toI,.i zz22.toI,.l [zz23,zz24,zz25,zz26,zz27,zz28,zz29,zz30],.l [zz31,zz32,zz33,zz34,zz35,zz36,zz37,zz38],.i zz39.toI,.i zz40.toI,.i zz41.toI,.i zz42.toI]:=by
    rw [hp,e5]
    show outK s5 o5 (za3 FE s5 o5 (nrms s5.its _))=outK s5 o5 (za3 FE s5 o5 (nrms s5.its _))
    rfl
   rw [hn,zvA,zuy _ _ _ _ _ _ _ _ _ _ _ _ _ _ _ _ _ _ _ _ _ _ _ _ _ _ _ _ _ w4.1 (by omega),zuz _ _ _ _ _ _ _ _ _ _ _ _ _ _ _ _ _ _ _ _ _ _ _ _ _ _ _ _ _ w4.1 (by omega) w5.1 (by omega)]
  exact zvz rfl hg
theorem zhM (os:Os) (started:os.Started) (H:Type) (enc:TypeId×Value→H) :
  ReturnsInHanded {} Tryd.checked os 5 .any (fun w args => (Rows.walkPagesSpec.pre enc Tryd.prog Tryd.f5 [] false w args ∧ laidMetH Tryd.prog [("math/bits.deBruijn64tab", Rows.laid_math_bits_deBruijn64tab)] w) ∧ sizedMet enc Tryd.prog Tryd.f5 (OpenSpec.ofChange Rows.walkPagesSpec) false w args)
   (Rows.walkPagesSpec.post enc Tryd.prog Tryd.f5 false true false false) :=
 zhL (C:=Tryd.checked) (fn:=Tryd.f5) (sg:=sF5) (G:=gF5) (I:=WI) (ss:=sh5) (tb:=(Tryd.f5.resultTypes.getD 0 0)) kF5 (by kernel_rfl) ⟨by kernel_rfl,by kernel_rfl,by kernel_rfl,rfl,rfl,rfl⟩ (by kernel_rfl) (by kernel_rfl) rfl
  (fun ds h=>match ds,(h.trans (by kernel_rfl):ds.length=6) with | [_,_,_,_,_,_],_=>rfl)
  ⟨by kernel_rfl,by kernel_rfl,by kernel_rfl,by kernel_rfl⟩
  zor (fun W hW=>zuA hW) (fun W hW=>hW.1) ownL started (by kernel_rfl) Tryd.func5
  (ChangeSpec.witness_shaped (enc := enc) (C := Tryd.checked) (os := os) (X := fun w _ => laidMetH Tryd.prog [("math/bits.deBruijn64tab", Rows.laid_math_bits_deBruijn64tab)] w) false (World.doorLaid Tryd.prog 400 os)
   #[.slice none 0 0,.agg #[.int .u64 0,.int .u64 0,.int .u64 0,.int .u64 0,.int .u64 0,.int .u64 0,.int .u64 0,.int .u64 0,.int .u64 0,.int .u64 0,.int .u64 0,.int .u64 0,.int .u64 0,.int .u64 0,.int .u64 0,.int .u64 0,.int .u64 0,.int .u64 0,.int .u64 0,.int .u64 0,.int .u64 0,.int .u64 0,.int .u8 0,.int .u8 0,.int .u8 0,.int .u8 0,.int .u8 0,.int .u8 0,.int .u8 0,.int .u8 0,.int .u64 0,.int .u64 0,.int .u64 0,.int .u64 0,.int .u64 0,.int .u64 0,.int .u64 0,.int .u64 0],.int .i64 0,.int .i64 0,.int .u64 0,.int .u64 0]
   8 rfl (World.shaped_of_RefB (by kernel_rfl) (by kernel_rfl)) (by kernel_rfl) (by kernel_rfl) (by kernel_rfl) (zs7 os _))
theorem zjI:Rows.WalkPagesSaid :=
 OpenClaim.holds_of_wide 5 Tryd.f5 rfl rfl rfl rfl rfl rfl rfl ⟨rfl,rfl,rfl,rfl,rfl⟩ rfl rfl rfl rfl rfl (by kernel_rfl) Tryd.func5 (by kernel_rfl)
  (of_decide_eq_true (by kernel_rfl)) (by unfold Func.isWrapper;first | (rw [if_pos (by decide +kernel)];kernel_rfl) | (rw [if_neg (by decide +kernel)];exact ⟨rfl,rfl⟩))
  (fun os started H enc _=>zhM os started H enc)
theorem walkPages_card:Rows.WalkPagesCardSaid :=
 Claim7.holds_tied_plain_at .later [] [.data] true (true, "ad82bc64db00a77ddb4f6da76236ea02588450c80ed5b0efe6ae7a4971dd16f1") false
  zjI (fun _ h=>by cases h) (by kernel_rfl) (fun _ h=>by cases h) walkPages_row_tie rfl ⟨rfl,rfl⟩ (by kernel_rfl) rfl
  (fun f fn hf hfn=>by
   obtain rfl:f=5:=Option.some.inj ((show Tryd.prog.funcNamed Rows.walkPagesRow.func=some 5 by kernel_rfl).symm.trans hf) |>.symm
   obtain rfl:fn=Tryd.f5:=(Option.some.inj (Tryd.func5.symm.trans hfn)).symm
   exact ⟨by kernel_rfl,fun j t ht=>by
    have hp:Tryd.f5.params = #[33,26,3,3,22,22]:=by kernel_rfl
    rw [hp] at ht
    have hm:t∈[33,26,3,3,22,22]:=by simpa using Array.mem_of_getElem? ht
    have hall:([33,26,3,3,22,22].all fun u=>!Tryd.prog.wantsStandIn u)=true:=by kernel_rfl
    exact (show Tryd.prog.wantsStandIn t=false by simpa using List.all_eq_true.1 hall t hm)⟩)
  (by kernel_rfl)
#print axioms walkPages_card
end Go.Proofs.YtedoffkaehcnmaaDoor
