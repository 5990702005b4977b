/- WalkFinds: the row's statement, and its card. -/
import Derived.Test.YtedoffkaehcnmaaGreatDoorF6
import Derived.Test.YtedoffkaehcnmaaGreatDoorF8
namespace Go.Proofs.YtedoffkaehcnmaaGreatDoor
open Go Go.Sx Go.RowKit
set_option maxRecDepth 100000
noncomputable def sh3:List ShV:=(zc6 Tryz.prog Tryz.f3.params.toList).getD []
theorem zw2:sh3=[.row [.int .u8],.pl (.agg [.int .u64,.int .u64,.int .u64,.int .u64,.int .u64,.int .u64,.int .u64,.int .u64,.int .u64,.int .u64,.int .u64,.int .u64,.int .u64,.int .u64,.int .u64,.int .u64,.int .u64,.int .u64,.int .u64,.int .u64,.int .u64,.int .u64,.int .u8,.int .u8,.int .u8,.int .u8,.int .u8,.int .u8,.int .u8,.int .u8,.int .u64,.int .u64,.int .u64,.int .u64,.int .u64,.int .u64,.int .u64,.int .u64]),.pl (.one (.int .i64)),.pl (.one (.int .i64)),.pl (.one (.int .u64))]:=by kernel_rfl
def zvE (ds:List DV):List DV:=ds.take 23++[.l ((ds.drop 23).take 8),.l ((ds.drop 31).take 8)]++ds.drop 39
noncomputable def sF3:Sig:=⟨patV 0 0 sh3,blksV 0 sh3,.l::List.replicate 41 .i,.s (.one (.b (.h 0))),[],[.b],true⟩
noncomputable def gF3 (ds:List DV):List DV:=g3 (zvE ds)
theorem kF3:FnOK Tryz.prog WI gK 3 sF3 gF3:=FnOK.flatH k3 zvE [.l] (fun a h=>zbE a h) (by kernel_rfl) (by kernel_rfl) (by kernel_rfl) (by kernel_rfl) rfl rfl rfl rfl fun ds h=>match ds,(h.trans (by kernel_rfl):ds.length=42) with
 | zz0::zz1::zz2::zz3::zz4::zz5::zz6::zz7::zz8::zz9::zz10::zz11::zz12::zz13::zz14::zz15::zz16::zz17::zz18::zz19::zz20::zz21::zz22::zz23::zz24::zz25::zz26::zz27::zz28::zz29::zz30::zz31::zz32::zz33::zz34::zz35::zz36::zz37::zz38::zz39::zz40::zz41::[],_=>⟨by kernel_rfl,allG (by kernel_rfl),fun ρ=>by kernel_rfl,fun i t ht=>match i,ht with
  | 0,ht=>by cases ht;rfl
  | i+1,ht=>by cases ht⟩
theorem zvF {P:Int→Prop} {l:List DV} (h:∀ x∈l,P x.toI) (h0:P 0) (n:Int):P (at8 l n):=by
 unfold at8
 rw [List.getD_eq_getElem?_getD]
 cases k:l[Int.toNat n*1+0]? with
 | none=>exact h0
 | some x=>exact h x (List.mem_of_getElem? k)
theorem wf8 {n:Int} (h:(Lit.int .u8 n).wf=true):R8 n:=by
 have:0≤n∧n≤255:=by simpa [Lit.wf,IntKind.min,IntKind.max,IntKind.bits,IntKind.signed] using h
 exact ⟨this.1,by omega⟩
theorem wf64' {n:Int} (h:(Lit.int .u64 n).wf=true):R64 n:=by
 have:0≤n∧n≤18446744073709551615:=by simpa [Lit.wf,IntKind.min,IntKind.max,IntKind.bits,IntKind.signed] using h
 exact ⟨this.1,by omega⟩
theorem zvG {img:List DV} (h:RowIn [.int .u8] img):∀ b∈img,0≤b.toI∧b.toI<256:=fun b hb=>by
 obtain ⟨i,hi,e⟩:=List.getElem_of_mem hb
 have c:=h.cell i hi
 have l:(LT.int .u8:LT)=([LT.int .u8].getD (i%1) .bool):=by rw [Nat.mod_one];rfl
 have w:(Lit.int .u8 (dget [img.getD i default] 0).toI).wf=true:=RangeOk.int_at (k:=.u8) 0 c (by show some ([LT.int .u8].getD (i%1) .bool)=_;rw [←l])
 have g:(dget [img.getD i default] 0)=b:=by
  show img.getD i default=b
  rw [List.getD_eq_getElem?_getD,List.getElem?_eq_getElem hi,e]
  rfl
 rw [g] at w
 exact wf8 w
theorem zqn (xs:List DV) (h:zk0 sh3 xs) (hlen:xs.length=nInV sh3):(sF3.need=true→(dget (gF3 xs) 0).toB=true)∧(dget (gF3 xs) (if sF3.need then 1 else 0)).toB=true:=by
 have hlen:xs.length=42:=hlen.trans (by rw [zw2];rfl)
 rw [zw2] at h
 obtain ⟨⟨img,hi,hr⟩,h1,h2,h3,h4,_⟩:=h
 match xs,hlen,hi,h1,h4 with
 | zz0::zz1::zz2::zz3::zz4::zz5::zz6::zz7::zz8::zz9::zz10::zz11::zz12::zz13::zz14::zz15::zz16::zz17::zz18::zz19::zz20::zz21::zz22::zz23::zz24::zz25::zz26::zz27::zz28::zz29::zz30::zz31::zz32::zz33::zz34::zz35::zz36::zz37::zz38::zz39::zz40::zz41::[],_,hi,h1,h4 =>
  have hi:zz0 = .l img:=Option.some.inj hi
  subst hi
  have w4:R64 zz41.toI:=wf64' (RangeOk.int_at (k:=.u64) 0 h4 rfl)
  have a1:R64 zz1.toI:=wf64' (RangeOk.int_at (k:=.u64) 0 h1 rfl)
  have a21:R64 zz21.toI:=wf64' (RangeOk.int_at (k:=.u64) 20 h1 rfl)
  have hcfg:∀ n,R8 (at8 [zz23,zz24,zz25,zz26,zz27,zz28,zz29,zz30] n):=zvF (by
   simp only [List.forall_mem_cons]
   exact ⟨wf8 (RangeOk.int_at (k:=.u8) 22 h1 rfl),wf8 (RangeOk.int_at (k:=.u8) 23 h1 rfl),wf8 (RangeOk.int_at (k:=.u8) 24 h1 rfl),wf8 (RangeOk.int_at (k:=.u8) 25 h1 rfl),wf8 (RangeOk.int_at (k:=.u8) 26 h1 rfl),wf8 (RangeOk.int_at (k:=.u8) 27 h1 rfl),wf8 (RangeOk.int_at (k:=.u8) 28 h1 rfl),wf8 (RangeOk.int_at (k:=.u8) 29 h1 rfl),fun _ h=>by cases h⟩) ⟨by decide,by decide⟩
  have hadr:∀ n,R64 (at8 [zz31,zz32,zz33,zz34,zz35,zz36,zz37,zz38] n):=zvF (by
   simp only [List.forall_mem_cons]
   exact ⟨wf64' (RangeOk.int_at (k:=.u64) 30 h1 rfl),wf64' (RangeOk.int_at (k:=.u64) 31 h1 rfl),wf64' (RangeOk.int_at (k:=.u64) 32 h1 rfl),wf64' (RangeOk.int_at (k:=.u64) 33 h1 rfl),wf64' (RangeOk.int_at (k:=.u64) 34 h1 rfl),wf64' (RangeOk.int_at (k:=.u64) 35 h1 rfl),wf64' (RangeOk.int_at (k:=.u64) 36 h1 rfl),wf64' (RangeOk.int_at (k:=.u64) 37 h1 rfl),fun _ h=>by cases h⟩) ⟨by decide,by decide⟩
  have hb:=zvG hr
  have hg:gF3 [DV.l img,zz1,zz2,zz3,zz4,zz5,zz6,zz7,zz8,zz9,zz10,zz11,zz12,zz13,zz14,zz15,zz16,zz17,zz18,zz19,zz20,zz21,zz22,zz23,zz24,zz25,zz26,zz27,zz28,zz29,zz30,zz31,zz32,zz33,zz34,zz35,zz36,zz37,zz38,zz39,zz40,zz41]=[.b true,.b true]:=by
   show g3 (zvE [DV.l img,zz1,zz2,zz3,zz4,zz5,zz6,zz7,zz8,zz9,zz10,zz11,zz12,zz13,zz14,zz15,zz16,zz17,zz18,zz19,zz20,zz21,zz22,zz23,zz24,zz25,zz26,zz27,zz28,zz29,zz30,zz31,zz32,zz33,zz34,zz35,zz36,zz37,zz38,zz39,zz40,zz41])=_
   have hp:zvE [DV.l img,zz1,zz2,zz3,zz4,zz5,zz6,zz7,zz8,zz9,zz10,zz11,zz12,zz13,zz14,zz15,zz16,zz17,zz18,zz19,zz20,zz21,zz22,zz23,zz24,zz25,zz26,zz27,zz28,zz29,zz30,zz31,zz32,zz33,zz34,zz35,zz36,zz37,zz38,zz39,zz40,zz41]=[DV.l img,zz1,zz2,zz3,zz4,zz5,zz6,zz7,zz8,zz9,zz10,zz11,zz12,zz13,zz14,zz15,zz16,zz17,zz18,zz19,zz20,zz21,zz22,.l [zz23,zz24,zz25,zz26,zz27,zz28,zz29,zz30],.l [zz31,zz32,zz33,zz34,zz35,zz36,zz37,zz38],zz39,zz40,zz41]:=rfl
   have hn:g3 (zvE [DV.l img,zz1,zz2,zz3,zz4,zz5,zz6,zz7,zz8,zz9,zz10,zz11,zz12,zz13,zz14,zz15,zz16,zz17,zz18,zz19,zz20,zz21,zz22,zz23,zz24,zz25,zz26,zz27,zz28,zz29,zz30,zz31,zz32,zz33,zz34,zz35,zz36,zz37,zz38,zz39,zz40,zz41])=outI FE s3 o3 [.l img,.i zz1.toI,.i zz2.toI,.i zz3.toI,.i zz4.toI,.i zz5.toI,.i zz6.toI,.i zz7.toI,.i zz8.toI,.i zz9.toI,.i zz10.toI,.i zz11.toI,.i zz12.toI,.i zz13.toI,.i zz14.toI,.i zz15.toI,.i zz16.toI,.i zz17.toI,.i zz18.toI,.i zz19.toI,.i zz20.toI,.i zz21.toI,.i zz22.toI,.l [zz23,zz24,zz25,zz26,zz27,zz28,zz29,zz30],.l [zz31,zz32,zz33,zz34,zz35,zz36,zz37,zz38],.i zz39.toI,.i zz40.toI,.i zz41.toI]:=by
    rw [hp,e3]
    show outK s3 o3 (zaX FE s3 o3 (nrms s3.its _))=outK s3 o3 (zaX FE s3 o3 (nrms s3.its _))
    rfl
   rw [hn,zzI,zyk _ _ _ _ _ _ _ _ _ _ _ _ _ _ _ _ _ _ _ _ _ _ _ _ _ _ _ _  hb a1.1 a1.2 a21.1 a21.2 hcfg hadr w4.1 w4.2,zyl _ _ _ _ _ _ _ _ _ _ _ _ _ _ _ _ _ _ _ _ _ _ _ _ _ _ _ _  hb a1.1 a1.2 a21.1 a21.2 hcfg hadr w4.1 w4.2]
  exact zzH rfl hg
theorem ziz (os:Os) (started:os.Started) (H:Type) (enc:TypeId×Value→H) :
  ReturnsInHanded {} Tryz.checked os 3 .any (fun w args => (Rows.walkFindsSpec.pre enc Tryz.prog Tryz.f3 [] false w args ∧ laidMetH Tryz.prog [("math/bits.deBruijn64tab", Rows.laid_math_bits_deBruijn64tab)] w) ∧ sizedMet enc Tryz.prog Tryz.f3 (OpenSpec.ofChange Rows.walkFindsSpec) false w args)
   (Rows.walkFindsSpec.post enc Tryz.prog Tryz.f3 false true false false) :=
 ziy (C:=Tryz.checked) (fn:=Tryz.f3) (sg:=sF3) (G:=gF3) (I:=WI) (ss:=sh3) (tb:=(Tryz.f3.resultTypes.getD 0 0)) kF3 (by kernel_rfl) ⟨by kernel_rfl,by kernel_rfl,by kernel_rfl,rfl,rfl,rfl⟩ (by kernel_rfl) (by kernel_rfl) rfl
  (fun ds h=>match ds,(h.trans (by kernel_rfl):ds.length=5) with | [_,_,_,_,_],_=>rfl)
  ⟨by kernel_rfl,by kernel_rfl,by kernel_rfl,by kernel_rfl⟩
  zqn (fun W hW=>zym hW) (fun W hW=>hW.1) ownL started (by kernel_rfl) Tryz.func3
  (ChangeSpec.witness_shaped (enc := enc) (C := Tryz.checked) (os := os) (X := fun w _ => laidMetH Tryz.prog [("math/bits.deBruijn64tab", Rows.laid_math_bits_deBruijn64tab)] w) false (World.doorLaid Tryz.prog 400 os)
   #[.slice none 0 0,.agg #[.int .u64 0,.int .u64 0,.int .u64 0,.int .u64 0,.int .u64 0,.int .u64 0,.int .u64 0,.int .u64 0,.int .u64 0,.int .u64 0,.int .u64 0,.int .u64 0,.int .u64 0,.int .u64 0,.int .u64 0,.int .u64 0,.int .u64 0,.int .u64 0,.int .u64 0,.int .u64 0,.int .u64 0,.int .u64 0,.int .u8 0,.int .u8 0,.int .u8 0,.int .u8 0,.int .u8 0,.int .u8 0,.int .u8 0,.int .u8 0,.int .u64 0,.int .u64 0,.int .u64 0,.int .u64 0,.int .u64 0,.int .u64 0,.int .u64 0,.int .u64 0],.int .i64 0,.int .i64 0,.int .u64 0]
   8 rfl (World.shaped_of_RefB (by kernel_rfl) (by kernel_rfl)) (by kernel_rfl) (by kernel_rfl) (by kernel_rfl) (zwB os _))
theorem zk3:Rows.WalkFindsSaid :=
 OpenClaim.holds_of_wide 3 Tryz.f3 rfl rfl rfl rfl rfl rfl rfl ⟨rfl,rfl,rfl,rfl,rfl⟩ rfl rfl rfl rfl rfl (by kernel_rfl) Tryz.func3 (by kernel_rfl)
  (of_decide_eq_true (by kernel_rfl)) (by unfold Func.isWrapper;first | (rw [if_pos (by decide +kernel)];kernel_rfl) | (rw [if_neg (by decide +kernel)];exact ⟨rfl,rfl⟩))
  (fun os started H enc _=>ziz os started H enc)
theorem walkFinds_card:Rows.WalkFindsCardSaid :=
 Claim7.holds_tied_plain_at .later [] [.data] true (true, "baa1f62aab85fa503868b71a5b71db619ffc0b4b36198e43a05c48b12befd4e7") false
  zk3 (fun _ h=>by cases h) (by kernel_rfl) (fun _ h=>by cases h) walkFinds_row_tie rfl ⟨rfl,rfl⟩ (by kernel_rfl) rfl
  (fun f fn hf hfn=>by
   obtain rfl:f=3:=Option.some.inj ((show Tryz.prog.funcNamed Rows.walkFindsRow.func=some 3 by kernel_rfl).symm.trans hf) |>.symm
   obtain rfl:fn=Tryz.f3:=(Option.some.inj (Tryz.func3.symm.trans hfn)).symm
   exact ⟨by kernel_rfl,fun j t ht=>by
    have hp:Tryz.f3.params = #[22,27,3,3,23]:=by kernel_rfl
    rw [hp] at ht
    have hm:t∈[22,27,3,3,23]:=by simpa using Array.mem_of_getElem? ht
    have hall:([22,27,3,3,23].all fun u=>!Tryz.prog.wantsStandIn u)=true:=by kernel_rfl
    exact (show Tryz.prog.wantsStandIn t=false by simpa using List.all_eq_true.1 hall t hm)⟩)
  (by kernel_rfl)
#print axioms walkFinds_card
end Go.Proofs.YtedoffkaehcnmaaGreatDoor
