/- WalkStands: the row's statement, and its card. -/
import Derived.Test.YtedoffkaehcnmaaDoorC6
import Derived.Test.YtedoffkaehcnmaaDoorC8
namespace Go.Proofs.YtedoffkaehcnmaaDoor
open Go Go.Sx Go.RowKit
set_option maxRecDepth 100000
noncomputable def sh6:List ShV:=(zcX Tryd.prog Tryd.f6.params.toList).getD []
theorem zuq:sh6=[.row [.int .u8],.pl (.agg [.int .u64,.int .u64,.int .u64,.int .u64,.int .u64,.int .u64,.int .u64,.int .u64,.int .u64,.int .u64,.int .u64,.int .u64,.int .u64,.int .u64,.int .u64,.int .u64,.int .u64,.int .u64,.int .u64,.int .u64,.int .u64,.int .u64,.int .u8,.int .u8,.int .u8,.int .u8,.int .u8,.int .u8,.int .u8,.int .u8,.int .u64,.int .u64,.int .u64,.int .u64,.int .u64,.int .u64,.int .u64,.int .u64]),.pl (.one (.int .i64)),.pl (.one (.int .i64)),.pl (.one (.int .u64)),.pl (.one (.int .u64))]:=by kernel_rfl
def zs7 (ds:List DV):List DV:=ds.take 23++[.l ((ds.drop 23).take 8),.l ((ds.drop 31).take 8)]++ds.drop 39
noncomputable def sF6:Sig:=⟨patV 0 0 sh6,blksV 0 sh6,.l::List.replicate 42 .i,.s (.one (.b (.h 0))),[],[.b],true⟩
noncomputable def gF6 (ds:List DV):List DV:=g6 (zs7 ds)
theorem kF6:FnOK Tryd.prog WI gK 6 sF6 gF6:=FnOK.flatH k6 zs7 [.l] (fun a h=>zbE a h) (by kernel_rfl) (by kernel_rfl) (by kernel_rfl) (by kernel_rfl) rfl rfl rfl rfl fun ds h=>match ds,(h.trans (by kernel_rfl):ds.length=43) with
 | zz0::zz1::zz2::zz3::zz4::zz5::zz6::zz7::zz8::zz9::zz10::zz11::zz12::zz13::zz14::zz15::zz16::zz17::zz18::zz19::zz20::zz21::zz22::zz23::zz24::zz25::zz26::zz27::zz28::zz29::zz30::zz31::zz32::zz33::zz34::zz35::zz36::zz37::zz38::zz39::zz40::zz41::zz42::[],_=>⟨by kernel_rfl,allG (by kernel_rfl),fun ρ=>by kernel_rfl,fun i t ht=>match i,ht with
  | 0,ht=>by cases ht;rfl
  | i+1,ht=>by cases ht⟩
theorem znw (xs:List DV) (h:zj5 sh6 xs) (hlen:xs.length=nInV sh6):(sF6.need=true→(dget (gF6 xs) 0).toB=true)∧(dget (gF6 xs) (if sF6.need then 1 else 0)).toB=true:=by
 have hlen:xs.length=43:=hlen.trans (by rw [zuq];rfl)
 rw [zuq] at h
 obtain ⟨⟨img,hi,_⟩,h1,h2,h3,h4,h5,_⟩:=h
 match xs,hlen,hi,h4,h5 with
 | zz0::zz1::zz2::zz3::zz4::zz5::zz6::zz7::zz8::zz9::zz10::zz11::zz12::zz13::zz14::zz15::zz16::zz17::zz18::zz19::zz20::zz21::zz22::zz23::zz24::zz25::zz26::zz27::zz28::zz29::zz30::zz31::zz32::zz33::zz34::zz35::zz36::zz37::zz38::zz39::zz40::zz41::zz42::[],_,hi,h4,h5 =>
  have hi:zz0 = .l img:=Option.some.inj hi
  subst hi
  have w4:(Lit.int .u64 zz41.toI).wf=true:=RangeOk.int_at (k:=.u64) 0 h4 rfl
  have w4:0≤zz41.toI∧zz41.toI≤18446744073709551615:=by simpa [Lit.wf,IntKind.min,IntKind.max,IntKind.bits,IntKind.signed] using w4
  have w5:(Lit.int .u64 zz42.toI).wf=true:=RangeOk.int_at (k:=.u64) 0 h5 rfl
  have w5:0≤zz42.toI∧zz42.toI≤18446744073709551615:=by simpa [Lit.wf,IntKind.min,IntKind.max,IntKind.bits,IntKind.signed] using w5
  have hg:gF6 [DV.l img,zz1,zz2,zz3,zz4,zz5,zz6,zz7,zz8,zz9,zz10,zz11,zz12,zz13,zz14,zz15,zz16,zz17,zz18,zz19,zz20,zz21,zz22,zz23,zz24,zz25,zz26,zz27,zz28,zz29,zz30,zz31,zz32,zz33,zz34,zz35,zz36,zz37,zz38,zz39,zz40,zz41,zz42]=[.b true,.b true]:=by
   show g6 (zs7 [DV.l img,zz1,zz2,zz3,zz4,zz5,zz6,zz7,zz8,zz9,zz10,zz11,zz12,zz13,zz14,zz15,zz16,zz17,zz18,zz19,zz20,zz21,zz22,zz23,zz24,zz25,zz26,zz27,zz28,zz29,zz30,zz31,zz32,zz33,zz34,zz35,zz36,zz37,zz38,zz39,zz40,zz41,zz42])=_
   have hp:zs7 [DV.l img,zz1,zz2,zz3,zz4,zz5,zz6,zz7,zz8,zz9,zz10,zz11,zz12,zz13,zz14,zz15,zz16,zz17,zz18,zz19,zz20,zz21,zz22,zz23,zz24,zz25,zz26,zz27,zz28,zz29,zz30,zz31,zz32,zz33,zz34,zz35,zz36,zz37,zz38,zz39,zz40,zz41,zz42]=[DV.l img,zz1,zz2,zz3,zz4,zz5,zz6,zz7,zz8,zz9,zz10,zz11,zz12,zz13,zz14,zz15,zz16,zz17,zz18,zz19,zz20,zz21,zz22,.l [zz23,zz24,zz25,zz26,zz27,zz28,zz29,zz30],.l [zz31,zz32,zz33,zz34,zz35,zz36,zz37,zz38],zz39,zz40,zz41,zz42]:=rfl
   have hn:g6 (zs7 [DV.l img,zz1,zz2,zz3,zz4,zz5,zz6,zz7,zz8,zz9,zz10,zz11,zz12,zz13,zz14,zz15,zz16,zz17,zz18,zz19,zz20,zz21,zz22,zz23,zz24,zz25,zz26,zz27,zz28,zz29,zz30,zz31,zz32,zz33,zz34,zz35,zz36,zz37,zz38,zz39,zz40,zz41,zz42])=outI FE s6 o6 [.l img,.i zz1.toI,.i zz2.toI,.i zz3.toI,.i zz4.toI,.i zz5.toI,.i zz6.toI,.i zz7.toI,.i zz8.toI,.i zz9.toI,.i zz10.toI,.i zz11.toI,.i zz12.toI,.i zz13.toI,.i zz14.toI,.i zz15.toI,.i zz16.toI,.i zz17.toI,.i zz18.toI,.i zz19.toI,.i zz20.toI,.i zz21.toI,.i zz22.toI,.l [zz23,zz24,zz25,zz26,zz27,zz28,zz29,zz30],.l [zz31,zz32,zz33,zz34,zz35,zz36,zz37,zz38],.i zz39.toI,.i zz40.toI,.i zz41.toI,.i zz42.toI]:=by
    rw [hp,e6]
    show outK s6 o6 (zaV FE s6 o6 (nrms s6.its _))=outK s6 o6 (zaV FE s6 o6 (nrms s6.its _))
    rfl
   rw [hn,zwU,ztW _ _ _ _ _ _ _ _ _ _ _ _ _ _ _ _ _ _ _ _ _ _ _ _ _ _ _ _ _ w4.1 (by omega) w5.1 (by omega),ztX _ _ _ _ _ _ _ _ _ _ _ _ _ _ _ _ _ _ _ _ _ _ _ _ _ _ _ _ _ w4.1 (by omega) w5.1 (by omega)]
  exact zwT rfl hg
theorem zht (os:Os) (started:os.Started) (H:Type) (enc:TypeId×Value→H) :
  ReturnsInHanded {} Tryd.checked os 6 .any (fun w args => (Rows.walkStandsSpec.pre enc Tryd.prog Tryd.f6 [] false w args ∧ laidMetH Tryd.prog [("math/bits.deBruijn64tab", Rows.laid_math_bits_deBruijn64tab)] w) ∧ sizedMet enc Tryd.prog Tryd.f6 (OpenSpec.ofChange Rows.walkStandsSpec) false w args)
   (Rows.walkStandsSpec.post enc Tryd.prog Tryd.f6 false true false false) :=
 zh4 (C:=Tryd.checked) (fn:=Tryd.f6) (sg:=sF6) (G:=gF6) (I:=WI) (ss:=sh6) (tb:=(Tryd.f6.resultTypes.getD 0 0)) kF6 (by kernel_rfl) ⟨by kernel_rfl,by kernel_rfl,by kernel_rfl,rfl,rfl,rfl⟩ (by kernel_rfl) (by kernel_rfl) rfl
  (fun ds h=>match ds,(h.trans (by kernel_rfl):ds.length=6) with | [_,_,_,_,_,_],_=>rfl)
  ⟨by kernel_rfl,by kernel_rfl,by kernel_rfl,by kernel_rfl⟩
  znw (fun W hW=>zvG hW) (fun W hW=>hW.1) ownL started (by kernel_rfl) Tryd.func6
  (ChangeSpec.witness_shaped (enc := enc) (C := Tryd.checked) (os := os) (X := fun w _ => laidMetH Tryd.prog [("math/bits.deBruijn64tab", Rows.laid_math_bits_deBruijn64tab)] w) false (World.doorLaid Tryd.prog 400 os)
   #[.slice none 0 0,.agg #[.int .u64 0,.int .u64 0,.int .u64 0,.int .u64 0,.int .u64 0,.int .u64 0,.int .u64 0,.int .u64 0,.int .u64 0,.int .u64 0,.int .u64 0,.int .u64 0,.int .u64 0,.int .u64 0,.int .u64 0,.int .u64 0,.int .u64 0,.int .u64 0,.int .u64 0,.int .u64 0,.int .u64 0,.int .u64 0,.int .u8 0,.int .u8 0,.int .u8 0,.int .u8 0,.int .u8 0,.int .u8 0,.int .u8 0,.int .u8 0,.int .u64 0,.int .u64 0,.int .u64 0,.int .u64 0,.int .u64 0,.int .u64 0,.int .u64 0,.int .u64 0],.int .i64 0,.int .i64 0,.int .u64 0,.int .u64 0]
   8 rfl (World.shaped_of_RefB (by kernel_rfl) (by kernel_rfl)) (by kernel_rfl) (by kernel_rfl) (by kernel_rfl) (ztZ os _))
theorem zh5:Rows.WalkStandsSaid :=
 OpenClaim.holds_of_wide 6 Tryd.f6 rfl rfl rfl rfl rfl rfl rfl ⟨rfl,rfl,rfl,rfl,rfl⟩ rfl rfl rfl rfl rfl (by kernel_rfl) Tryd.func6 (by kernel_rfl)
  (of_decide_eq_true (by kernel_rfl)) (by unfold Func.isWrapper;first | (rw [if_pos (by decide +kernel)];kernel_rfl) | (rw [if_neg (by decide +kernel)];exact ⟨rfl,rfl⟩))
  (fun os started H enc _=>zht os started H enc)
theorem walkStands_card:Rows.WalkStandsCardSaid :=
 Claim7.holds_tied_plain_at .later [] [.data] true (true, "ad82bc64db00a77ddb4f6da76236ea02588450c80ed5b0efe6ae7a4971dd16f1") false
  zh5 (fun _ h=>by cases h) (by kernel_rfl) (fun _ h=>by cases h) walkStands_row_tie rfl ⟨rfl,rfl⟩ (by kernel_rfl) rfl
  (fun f fn hf hfn=>by
   obtain rfl:f=6:=Option.some.inj ((show Tryd.prog.funcNamed Rows.walkStandsRow.func=some 6 by kernel_rfl).symm.trans hf) |>.symm
   obtain rfl:fn=Tryd.f6:=(Option.some.inj (Tryd.func6.symm.trans hfn)).symm
   exact ⟨by kernel_rfl,fun j t ht=>by
    have hp:Tryd.f6.params = #[33,26,3,3,22,22]:=by kernel_rfl
    rw [hp] at ht
    have hm:t∈[33,26,3,3,22,22]:=by simpa using Array.mem_of_getElem? ht
    have hall:([33,26,3,3,22,22].all fun u=>!Tryd.prog.wantsStandIn u)=true:=by kernel_rfl
    exact (show Tryd.prog.wantsStandIn t=false by simpa using List.all_eq_true.1 hall t hm)⟩)
  (by kernel_rfl)
#print axioms walkStands_card
end Go.Proofs.YtedoffkaehcnmaaDoor
