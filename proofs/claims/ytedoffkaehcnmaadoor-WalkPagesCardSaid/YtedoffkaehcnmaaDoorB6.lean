/- The contracts of the functions. Written by the generator. -/
import Derived.Test.YtedoffkaehcnmaaDoorB5
import Derived.Test.YtedoffkaehcnmaaDoorB4
import Derived.Test.YtedoffkaehcnmaaDoorB0
import Derived.Test.YtedoffkaehcnmaaDoorB3
import Derived.ProofKit
import Derived.LaidMore
import Derived.Stop.Joined
import Derived.SizedLaws
import Derived.ReadAgain
import Derived.Test.YtedoffkaehcnmaaDoorRows
import Derived.Test.YtedoffkaehcnmaaDoorCards
import Derived.Test.YtedoffkaehcnmaaDoorTie
import Derived.SevenTiedAt
namespace Go.Proofs.YtedoffkaehcnmaaDoor
open Go Go.Sx
set_option maxRecDepth 100000
set_option maxHeartbeats 4000000
def gK:Nat:=1
def WI (w:World):Prop:=GlobIn w 0 c0
theorem gl0:∀ w,WI w→GlobIn w 0 c0:=fun _ h=>h
theorem zao:zo0 WI gK:=fun w w' hs hb h=>⟨Nat.lt_of_lt_of_le h.1 hs,fun i l hi ν ρ=>⟨(h.2 i l hi ν ρ).1,by
 rw [←(h.2 i l hi ν ρ).2]
 have e:=hb 0 (by decide)
 simp only [World.cell?,e]⟩⟩
theorem k23:FnOK Tryd.prog WI gK 23 s23 g23:=FnOK.up hk23
theorem k38:FnOK Tryd.prog WI gK 38 s38 g38:=FnOK.up hk38
theorem k42:FnOK Tryd.prog WI gK 42 s42 g42:=FnOK.up hk42
theorem k67:FnOK Tryd.prog WI gK 67 s67 g67:=FnOK.up hk67
noncomputable def FE:FEnv:=fun f=>match f with
 | 26=>g26
 | 45=>g45
 | 27=>g27
 | 46=>g46
 | 50=>g50
 | 43=>g43
 | 75=>g75
 | 74=>g74
 | 72=>g72
 | 28=>g28
 | 44=>g44
 | 79=>g79
 | 77=>g77
 | 47=>g47
 | 23=>g23
 | 38=>g38
 | 42=>g42
 | 67=>g67
 | 41=>g41
 | 103300=>zt0
 | 33=>g33
 | 102500=>zt1
 | 25=>g25
 | 102400=>zlJ
 | 24=>g24
 | 34=>g34
 | 35=>g35
 | 30=>g30
 | 12=>g12
 | 37=>g37
 | 14=>g14
 | 48=>g48
 | 39=>g39
 | 49=>g49
 | 40=>g40
 | 29=>g29
 | 20=>g20
 | 31=>g31
 | 32=>g32
 | 8=>g8
 | 10=>g10
 | 13=>g13
 | 19=>g19
 | 101700=>zt4
 | 17=>g17
 | 18=>g18
 | 7=>g7
 | 5=>g5
 | _=>fun _=>[]
theorem e26:∀ ds,g26 ds=outI FE s26 o26 ds:=zaw (l:=[]) (by kernel_rfl) (fun _ h=>(by cases h))
theorem k26:FnOK Tryd.prog WI gK 26 s26 g26 :=
 zbU (F:=FE) zao (⟨fun _ _ h=>(by cases h),(fun _ _ h=>(by cases h))⟩) Tryd.func26 ev26 (by kernel_rfl) (by kernel_rfl) (zav (by kernel_rfl)) e26
theorem e45:∀ ds,g45 ds=outI FE s45 o45 ds:=zaw (l:=[]) (by kernel_rfl) (fun _ h=>(by cases h))
theorem k45:FnOK Tryd.prog WI gK 45 s45 g45 :=
 zbU (F:=FE) zao (⟨fun _ _ h=>(by cases h),(fun _ _ h=>(by cases h))⟩) Tryd.func45 ev45 (by kernel_rfl) (by kernel_rfl) (zav (by kernel_rfl)) e45
theorem e27:∀ ds,g27 ds=outI FE s27 o27 ds:=zaw (l:=[]) (by kernel_rfl) (fun _ h=>(by cases h))
theorem k27:FnOK Tryd.prog WI gK 27 s27 g27 :=
 zbU (F:=FE) zao (⟨fun _ _ h=>(by cases h),(fun _ _ h=>(by cases h))⟩) Tryd.func27 ev27 (by kernel_rfl) (by kernel_rfl) (zav (by kernel_rfl)) e27
theorem e46:∀ ds,g46 ds=outI FE s46 o46 ds:=zaw (l:=[]) (by kernel_rfl) (fun _ h=>(by cases h))
theorem k46:FnOK Tryd.prog WI gK 46 s46 g46 :=
 zbU (F:=FE) zao (⟨fun _ _ h=>(by cases h),(fun _ _ h=>(by cases h))⟩) Tryd.func46 ev46 (by kernel_rfl) (by kernel_rfl) (zav (by kernel_rfl)) e46
theorem k50:FnOK Tryd.prog WI gK 50 s50 g50 :=
 zdv (F:=FE) zao (⟨fun _ _ h=>(by cases h),(fun _ _ h=>(by cases h))⟩) Tryd.func50 ev50 (by kernel_rfl) (zav (by kernel_rfl)) fun ds h hp=>match ds,h,hp with
  | [d0,d1],_,hp=>⟨(by kernel_rfl:zcL (za3 FE s50 o50 [d0,d1]) o50.owes=(dget (g50 [d0,d1]) 0).toB).trans (hp rfl),zaF (by kernel_rfl) (by kernel_rfl) (by kernel_rfl)⟩
theorem k43:FnOK Tryd.prog WI gK 43 s43 g43 :=
 zdv (F:=FE) zao (⟨(fun f s h=>zaK (Q:=fun f s=>FnOK Tryd.prog WI gK f s (FE f)) (l:=S43.fs)
  (show ∀ p∈[(50,s50)],FnOK Tryd.prog WI gK p.1 p.2 (FE p.1) from
  zal k50 (by kernel_rfl) (fun _ h=>(by cases h))) h),(fun _ _ h=>(by cases h))⟩) Tryd.func43 ev43 (by kernel_rfl) (zav (by kernel_rfl)) fun ds h hp=>match ds,h,hp with
  | [d0,d1,d2],_,hp=>⟨(by kernel_rfl:zcL (za3 FE s43 o43 [d0,d1,d2]) o43.owes=(dget (g43 [d0,d1,d2]) 0).toB).trans (hp rfl),zaF (by kernel_rfl) (by kernel_rfl) (by kernel_rfl)⟩
theorem e75:∀ ds,g75 ds=outI FE s75 o75 ds:=zaw (l:=[]) (by kernel_rfl) (fun _ h=>(by cases h))
theorem k75:FnOK Tryd.prog WI gK 75 s75 g75 :=
 zbU (F:=FE) zao (⟨fun _ _ h=>(by cases h),(fun _ _ h=>(by cases h))⟩) Tryd.func75 ev75 (by kernel_rfl) (by kernel_rfl) (zav (by kernel_rfl)) e75
theorem e74:∀ ds,g74 ds=outI FE s74 o74 ds:=zaw (l:=[]) (by kernel_rfl) (fun _ h=>(by cases h))
theorem k74:FnOK Tryd.prog WI gK 74 s74 g74 :=
 zbU (F:=FE) zao (⟨fun _ _ h=>(by cases h),(fun _ _ h=>(by cases h))⟩) Tryd.func74 ev74 (by kernel_rfl) (by kernel_rfl) (zav (by kernel_rfl)) e74
theorem k72:FnOK Tryd.prog WI gK 72 s72 g72 :=
 zdv (F:=FE) zao (⟨(fun f s h=>zaK (Q:=fun f s=>FnOK Tryd.prog WI gK f s (FE f)) (l:=S72.fs)
  (show ∀ p∈[(74,s74),(75,s75)],FnOK Tryd.prog WI gK p.1 p.2 (FE p.1) from
  zal k74 (by kernel_rfl) (zal k75 (by kernel_rfl) (fun _ h=>(by cases h)))) h),(fun _ _ h=>(by cases h))⟩) Tryd.func72 ev72 (by kernel_rfl) (zav (by kernel_rfl)) fun ds h hp=>match ds,h,hp with
  | [d0,d1,d2],_,hp=>⟨(by kernel_rfl:zcL (za3 FE s72 o72 [d0,d1,d2]) o72.owes=(dget (g72 [d0,d1,d2]) 0).toB).trans (hp rfl),zaF (by kernel_rfl) (by kernel_rfl) (by kernel_rfl)⟩
theorem e28:∀ ds,g28 ds=outI FE s28 o28 ds:=zaw (l:=[]) (by kernel_rfl) (fun _ h=>(by cases h))
theorem k28:FnOK Tryd.prog WI gK 28 s28 g28 :=
 zbU (F:=FE) zao (⟨fun _ _ h=>(by cases h),(fun _ _ h=>(by cases h))⟩) Tryd.func28 ev28 (by kernel_rfl) (by kernel_rfl) (zav (by kernel_rfl)) e28
theorem e44:∀ ds,g44 ds=outI FE s44 o44 ds:=zaw (l:=[]) (by kernel_rfl) (fun _ h=>(by cases h))
theorem k44:FnOK Tryd.prog WI gK 44 s44 g44 :=
 zbU (F:=FE) zao (⟨fun _ _ h=>(by cases h),(fun _ _ h=>(by cases h))⟩) Tryd.func44 ev44 (by kernel_rfl) (by kernel_rfl) (zav (by kernel_rfl)) e44
theorem e79:∀ ds,g79 ds=outI FE s79 o79 ds:=zaw (l:=[]) (by kernel_rfl) (fun _ h=>(by cases h))
theorem k79:FnOK Tryd.prog WI gK 79 s79 g79 :=
 zbU (F:=FE) zao (⟨fun _ _ h=>(by cases h),(fun _ _ h=>(by cases h))⟩) Tryd.func79 ev79 (by kernel_rfl) (by kernel_rfl) (zav (by kernel_rfl)) e79
theorem k77:FnOK Tryd.prog WI gK 77 s77 g77 :=
 zdv (F:=FE) zao (⟨(fun f s h=>zaK (Q:=fun f s=>FnOK Tryd.prog WI gK f s (FE f)) (l:=S77.fs)
  (show ∀ p∈[(79,s79),(44,s44)],FnOK Tryd.prog WI gK p.1 p.2 (FE p.1) from
  zal k79 (by kernel_rfl) (zal k44 (by kernel_rfl) (fun _ h=>(by cases h)))) h),(fun _ _ h=>(by cases h))⟩) Tryd.func77 ev77 (by kernel_rfl) (zav (by kernel_rfl)) fun ds h hp=>match ds,h,hp with
  | [d0,d1,d2],_,hp=>⟨(by kernel_rfl:zcL (za3 FE s77 o77 [d0,d1,d2]) o77.owes=(dget (g77 [d0,d1,d2]) 0).toB).trans (hp rfl),zaF (by kernel_rfl) (by kernel_rfl) (by kernel_rfl)⟩
theorem e47:∀ ds,g47 ds=outI FE s47 o47 ds:=zaw (l:=[]) (by kernel_rfl) (fun _ h=>(by cases h))
theorem k47:FnOK Tryd.prog WI gK 47 s47 g47 :=
 zbU (F:=FE) zao (⟨fun _ _ h=>(by cases h),(fun _ _ h=>(by cases h))⟩) Tryd.func47 ev47 (by kernel_rfl) (by kernel_rfl) (zav (by kernel_rfl)) e47
theorem k41:FnOK Tryd.prog WI gK 41 s41 g41 :=
 zdv (F:=FE) zao (⟨fun _ _ h=>(by cases h),(fun _ _ h=>(by cases h))⟩) Tryd.func41 ev41 (by kernel_rfl) (zav (by kernel_rfl)) fun ds h hp=>match ds,h,hp with
  | [d0,d1,d2],_,_=>⟨by kernel_rfl,zaF (by kernel_rfl) (by kernel_rfl) (by kernel_rfl)⟩
theorem zvf:zaA FE zpX:=zlC (w:=zlF) (c:=zlG) (nx:=zlH) (out:=zn4) [.i,.l,.i,.i] (fun ds=>by kernel_rfl) rfl (fun ν xs h=>match xs,h with | [x0,x1],_=>by kernel_rfl)
 (fun ν xs h=>match xs,h with | [x0,x1],_=>by kernel_rfl)
 (fun ν xs h=>match xs,h with | [x0,x1],_=>by kernel_rfl)
 (fun ν xs h=>match xs,h with | [x0,x1],_=>by kernel_rfl)
theorem hl33:∀ l∈o33.loops,zaA FE l:=zlE (by kernel_rfl:o33.loops=[zpX])
 (  List.forall_mem_cons.2 ⟨zvf,fun _ h=>(by cases h)⟩)
theorem k33:FnOK Tryd.prog WI gK 33 s33 g33 :=
 zdv (F:=FE) zao (⟨(fun f s h=>zaK (Q:=fun f s=>FnOK Tryd.prog WI gK f s (FE f)) (l:=S33.fs)
  (show ∀ p∈[(41,s41),(42,s42)],FnOK Tryd.prog WI gK p.1 p.2 (FE p.1) from
  zal k41 (by kernel_rfl) (zal k42 (by kernel_rfl) (fun _ h=>(by cases h)))) h),(fun _ _ h=>(by cases h))⟩) Tryd.func33 ev33 (by kernel_rfl) hl33 fun ds h hp=>match ds,h,hp with
  | [d0,d1,d2],_,hp=>⟨(by kernel_rfl:zcL (za3 FE s33 o33 [d0,d1,d2]) o33.owes=(dget (g33 [d0,d1,d2]) 0).toB).trans (hp rfl),zaF (by kernel_rfl) (by kernel_rfl) (by kernel_rfl)⟩
theorem zvg:zaA FE zt2:=zlC (w:=zn6) (c:=zn7) (nx:=zn8) (out:=zrm) [.i,.l,.i,.l] (fun ds=>by kernel_rfl) rfl (fun ν xs h=>match xs,h with | [x0,x1],_=>by kernel_rfl)
 (fun ν xs h=>match xs,h with | [x0,x1],_=>by kernel_rfl)
 (fun ν xs h=>match xs,h with | [x0,x1],_=>by kernel_rfl)
 (fun ν xs h=>match xs,h with | [x0,x1],_=>by kernel_rfl)
theorem hl25:∀ l∈o25.loops,zaA FE l:=zlE (by kernel_rfl:o25.loops=[zt2])
 (  List.forall_mem_cons.2 ⟨zvg,fun _ h=>(by cases h)⟩)
theorem k25:FnOK Tryd.prog WI gK 25 s25 g25 :=
 zdv (F:=FE) zao (⟨(fun f s h=>zaK (Q:=fun f s=>FnOK Tryd.prog WI gK f s (FE f)) (l:=S25.fs)
  (show ∀ p∈[(38,s38)],FnOK Tryd.prog WI gK p.1 p.2 (FE p.1) from
  zal k38 (by kernel_rfl) (fun _ h=>(by cases h))) h),(fun _ _ h=>(by cases h))⟩) Tryd.func25 ev25 (by kernel_rfl) hl25 fun ds h hp=>match ds,h,hp with
  | [d0,d1],_,hp=>⟨(by kernel_rfl:zcL (za3 FE s25 o25 [d0,d1]) o25.owes=(dget (g25 [d0,d1]) 0).toB).trans (hp rfl),zaF (by kernel_rfl) (by kernel_rfl) (by kernel_rfl)⟩
theorem zvh:zaA FE zpZ:=zlC (w:=zoc) (c:=zod) (nx:=zoe) (out:=zof) [.i,.l,.b,.i,.i] (fun ds=>by kernel_rfl) rfl (fun ν xs h=>match xs,h with | [x0,x1,x2],_=>by kernel_rfl)
 (fun ν xs h=>match xs,h with | [x0,x1,x2],_=>by kernel_rfl)
 (fun ν xs h=>match xs,h with | [x0,x1,x2],_=>by kernel_rfl)
 (fun ν xs h=>match xs,h with | [x0,x1,x2],_=>by kernel_rfl)
theorem hl24:∀ l∈o24.loops,zaA FE l:=zlE (by kernel_rfl:o24.loops=[zpZ])
 (  List.forall_mem_cons.2 ⟨zvh,fun _ h=>(by cases h)⟩)
theorem k24:FnOK Tryd.prog WI gK 24 s24 g24 :=
 zdv (F:=FE) zao (⟨fun _ _ h=>(by cases h),(fun _ _ h=>(by cases h))⟩) Tryd.func24 ev24 (by kernel_rfl) hl24 fun ds h hp=>match ds,h,hp with
  | [d0],_,hp=>⟨(by kernel_rfl:zcL (za3 FE s24 o24 [d0]) o24.owes=(dget (g24 [d0]) 0).toB).trans (hp rfl),zaF (by kernel_rfl) (by kernel_rfl) (by kernel_rfl)⟩
theorem k34:FnOK Tryd.prog WI gK 34 s34 g34 :=
 zdv (F:=FE) zao (⟨fun _ _ h=>(by cases h),(fun _ _ h=>(by cases h))⟩) Tryd.func34 ev34 (by kernel_rfl) (zav (by kernel_rfl)) fun ds h hp=>match ds,h,hp with
  | [d0,d1,d2,d3],_,_=>⟨by kernel_rfl,zaF (by kernel_rfl) (by kernel_rfl) (by kernel_rfl)⟩
theorem k35:FnOK Tryd.prog WI gK 35 s35 g35 :=
 zdv (F:=FE) zao (⟨(fun f s h=>zaK (Q:=fun f s=>FnOK Tryd.prog WI gK f s (FE f)) (l:=S35.fs)
  (show ∀ p∈[(44,s44),(43,s43)],FnOK Tryd.prog WI gK p.1 p.2 (FE p.1) from
  zal k44 (by kernel_rfl) (zal k43 (by kernel_rfl) (fun _ h=>(by cases h)))) h),(fun _ _ h=>(by cases h))⟩) Tryd.func35 ev35 (by kernel_rfl) (zav (by kernel_rfl)) fun ds h hp=>match ds,h,hp with
  | [d0],_,hp=>⟨(by kernel_rfl:zcL (za3 FE s35 o35 [d0]) o35.owes=(dget (g35 [d0]) 0).toB).trans (hp rfl),zaF (by kernel_rfl) (by kernel_rfl) (by kernel_rfl)⟩
theorem k30:FnOK Tryd.prog WI gK 30 s30 g30 :=
 zdv (F:=FE) zao (⟨(fun f s h=>zaK (Q:=fun f s=>FnOK Tryd.prog WI gK f s (FE f)) (l:=S30.fs)
  (show ∀ p∈[(41,s41)],FnOK Tryd.prog WI gK p.1 p.2 (FE p.1) from
  zal k41 (by kernel_rfl) (fun _ h=>(by cases h))) h),(fun _ _ h=>(by cases h))⟩) Tryd.func30 ev30 (by kernel_rfl) (zav (by kernel_rfl)) fun ds h hp=>match ds,h,hp with
  | [d0,d1,d2],_,_=>⟨by kernel_rfl,zaF (by kernel_rfl) (by kernel_rfl) (by kernel_rfl)⟩
theorem k12:FnOK Tryd.prog WI gK 12 s12 g12 :=
 zdv (F:=FE) zao (⟨(fun f s h=>zaK (Q:=fun f s=>FnOK Tryd.prog WI gK f s (FE f)) (l:=S12.fs)
  (show ∀ p∈[(23,s23),(24,s24),(25,s25),(26,s26),(27,s27),(28,s28)],FnOK Tryd.prog WI gK p.1 p.2 (FE p.1) from
  zal k23 (by kernel_rfl) (zal k24 (by kernel_rfl) (zal k25 (by kernel_rfl) (zal k26 (by kernel_rfl) (zal k27 (by kernel_rfl) (zal k28 (by kernel_rfl) (fun _ h=>(by cases h)))))))) h),(fun _ _ h=>(by cases h))⟩) Tryd.func12 ev12 (by kernel_rfl) (zav (by kernel_rfl)) fun ds h hp=>match ds,h,hp with
  | [d0,d1,d2,d3,d4,d5,d6],_,hp=>⟨(by kernel_rfl:zcL (za3 FE s12 o12 [d0,d1,d2,d3,d4,d5,d6]) o12.owes=(dget (g12 [d0,d1,d2,d3,d4,d5,d6]) 0).toB).trans (hp rfl),zaF (by kernel_rfl) (by kernel_rfl) (by kernel_rfl)⟩
theorem e37:∀ ds,g37 ds=outI FE s37 o37 ds:=zaw (l:=[30,45,46,47,34,67,72,77]) (by kernel_rfl) (List.forall_mem_cons.2 ⟨by kernel_rfl,List.forall_mem_cons.2 ⟨by kernel_rfl,List.forall_mem_cons.2 ⟨by kernel_rfl,List.forall_mem_cons.2 ⟨by kernel_rfl,List.forall_mem_cons.2 ⟨by kernel_rfl,List.forall_mem_cons.2 ⟨by kernel_rfl,List.forall_mem_cons.2 ⟨by kernel_rfl,List.forall_mem_cons.2 ⟨by kernel_rfl,fun _ h=>(by cases h)⟩⟩⟩⟩⟩⟩⟩⟩)
theorem k37:FnOK Tryd.prog WI gK 37 s37 g37 :=
 zbU (F:=FE) zao (⟨(fun f s h=>zaK (Q:=fun f s=>FnOK Tryd.prog WI gK f s (FE f)) (l:=S37.fs)
  (show ∀ p∈[(30,s30),(45,s45),(46,s46),(47,s47),(34,s34),(67,s67),(72,s72),(77,s77)],FnOK Tryd.prog WI gK p.1 p.2 (FE p.1) from
  zal k30 (by kernel_rfl) (zal k45 (by kernel_rfl) (zal k46 (by kernel_rfl) (zal k47 (by kernel_rfl) (zal k34 (by kernel_rfl) (zal k67 (by kernel_rfl) (zal k72 (by kernel_rfl) (zal k77 (by kernel_rfl) (fun _ h=>(by cases h)))))))))) h),(fun _ _ h=>(by cases h))⟩) Tryd.func37 ev37 (by kernel_rfl) (by kernel_rfl) (zav (by kernel_rfl)) e37
theorem k14:FnOK Tryd.prog WI gK 14 s14 g14 :=
 zdv (F:=FE) zao (⟨(fun f s h=>zaK (Q:=fun f s=>FnOK Tryd.prog WI gK f s (FE f)) (l:=S14.fs)
  (show ∀ p∈[(30,s30),(33,s33),(34,s34),(67,s67),(72,s72),(77,s77),(35,s35)],FnOK Tryd.prog WI gK p.1 p.2 (FE p.1) from
  zal k30 (by kernel_rfl) (zal k33 (by kernel_rfl) (zal k34 (by kernel_rfl) (zal k67 (by kernel_rfl) (zal k72 (by kernel_rfl) (zal k77 (by kernel_rfl) (zal k35 (by kernel_rfl) (fun _ h=>(by cases h))))))))) h),(fun _ _ h=>(by cases h))⟩) Tryd.func14 ev14 (by kernel_rfl) (zav (by kernel_rfl)) fun ds h hp=>match ds,h,hp with
  | [d0,d1,d2,d3],_,hp=>⟨(by kernel_rfl:zcL (za3 FE s14 o14 [d0,d1,d2,d3]) o14.owes=(dget (g14 [d0,d1,d2,d3]) 0).toB).trans (hp rfl),zaF (by kernel_rfl) (by kernel_rfl) (by kernel_rfl)⟩
theorem e48:∀ ds,g48 ds=outI FE s48 o48 ds:=zaw (l:=[]) (by kernel_rfl) (fun _ h=>(by cases h))
theorem k48:FnOK Tryd.prog WI gK 48 s48 g48 :=
 zbU (F:=FE) zao (⟨fun _ _ h=>(by cases h),(fun _ _ h=>(by cases h))⟩) Tryd.func48 ev48 (by kernel_rfl) (by kernel_rfl) (zav (by kernel_rfl)) e48
theorem e39:∀ ds,g39 ds=outI FE s39 o39 ds:=zaw (l:=[]) (by kernel_rfl) (fun _ h=>(by cases h))
theorem k39:FnOK Tryd.prog WI gK 39 s39 g39 :=
 zbU (F:=FE) zao (⟨fun _ _ h=>(by cases h),(fun _ _ h=>(by cases h))⟩) Tryd.func39 ev39 (by kernel_rfl) (by kernel_rfl) (zav (by kernel_rfl)) e39
theorem k49:FnOK Tryd.prog WI gK 49 s49 g49 :=
 zdv (F:=FE) zao (⟨fun _ _ h=>(by cases h),(fun g cs h=>by
  simp only [S49,assoc] at h
  split at h
  ·rename_i hg;obtain rfl:=Nat.eq_of_beq_eq_true hg;cases h;exact gl0
  cases h)⟩) Tryd.func49 ev49 (by kernel_rfl) (zav (by kernel_rfl)) fun ds h hp=>match ds,h,hp with
  | [d0],_,hp=>⟨(by kernel_rfl:zcL (za3 FE s49 o49 [d0]) o49.owes=(dget (g49 [d0]) 0).toB).trans (hp rfl),zaF (by kernel_rfl) (by kernel_rfl) (by kernel_rfl)⟩
theorem k40:FnOK Tryd.prog WI gK 40 s40 g40 :=
 zdv (F:=FE) zao (⟨(fun f s h=>zaK (Q:=fun f s=>FnOK Tryd.prog WI gK f s (FE f)) (l:=S40.fs)
  (show ∀ p∈[(48,s48),(49,s49)],FnOK Tryd.prog WI gK p.1 p.2 (FE p.1) from
  zal k48 (by kernel_rfl) (zal k49 (by kernel_rfl) (fun _ h=>(by cases h)))) h),(fun _ _ h=>(by cases h))⟩) Tryd.func40 ev40 (by kernel_rfl) (zav (by kernel_rfl)) fun ds h hp=>match ds,h,hp with
  | [d0,d1,d2],_,hp=>⟨(by kernel_rfl:zcL (za3 FE s40 o40 [d0,d1,d2]) o40.owes=(dget (g40 [d0,d1,d2]) 0).toB).trans (hp rfl),zaF (by kernel_rfl) (by kernel_rfl) (by kernel_rfl)⟩
theorem k29:FnOK Tryd.prog WI gK 29 s29 g29 :=
 zdv (F:=FE) zao (⟨(fun f s h=>zaK (Q:=fun f s=>FnOK Tryd.prog WI gK f s (FE f)) (l:=S29.fs)
  (show ∀ p∈[(39,s39),(40,s40)],FnOK Tryd.prog WI gK p.1 p.2 (FE p.1) from
  zal k39 (by kernel_rfl) (zal k40 (by kernel_rfl) (fun _ h=>(by cases h)))) h),(fun _ _ h=>(by cases h))⟩) Tryd.func29 ev29 (by kernel_rfl) (zav (by kernel_rfl)) fun ds h hp=>match ds,h,hp with
  | [d0,d1,d2,d3,d4,d5],_,hp=>⟨(by kernel_rfl:zcL (za3 FE s29 o29 [d0,d1,d2,d3,d4,d5]) o29.owes=(dget (g29 [d0,d1,d2,d3,d4,d5]) 0).toB).trans (hp rfl),zaF (by kernel_rfl) (by kernel_rfl) (by kernel_rfl)⟩
theorem k20:FnOK Tryd.prog WI gK 20 s20 g20 :=
 zdv (F:=FE) zao (⟨fun _ _ h=>(by cases h),(fun _ _ h=>(by cases h))⟩) Tryd.func20 ev20 (by kernel_rfl) (zav (by kernel_rfl)) fun ds h hp=>match ds,h,hp with
  | [d0],_,_=>⟨by kernel_rfl,zaF (by kernel_rfl) (by kernel_rfl) (by kernel_rfl)⟩
theorem e31:∀ ds,g31 ds=outI FE s31 o31 ds:=zaw (l:=[]) (by kernel_rfl) (fun _ h=>(by cases h))
theorem k31:FnOK Tryd.prog WI gK 31 s31 g31 :=
 zbU (F:=FE) zao (⟨fun _ _ h=>(by cases h),(fun _ _ h=>(by cases h))⟩) Tryd.func31 ev31 (by kernel_rfl) (by kernel_rfl) (zav (by kernel_rfl)) e31
theorem e32:∀ ds,g32 ds=outI FE s32 o32 ds:=zaw (l:=[]) (by kernel_rfl) (fun _ h=>(by cases h))
theorem k32:FnOK Tryd.prog WI gK 32 s32 g32 :=
 zbU (F:=FE) zao (⟨fun _ _ h=>(by cases h),(fun _ _ h=>(by cases h))⟩) Tryd.func32 ev32 (by kernel_rfl) (by kernel_rfl) (zav (by kernel_rfl)) e32
theorem e8:∀ ds,g8 ds=outI FE s8 o8 ds:=zaw (l:=[20]) (by kernel_rfl) (List.forall_mem_cons.2 ⟨by kernel_rfl,fun _ h=>(by cases h)⟩)
theorem k8:FnOK Tryd.prog WI gK 8 s8 g8 :=
 zbU (F:=FE) zao (⟨(fun f s h=>zaK (Q:=fun f s=>FnOK Tryd.prog WI gK f s (FE f)) (l:=S8.fs)
  (show ∀ p∈[(20,s20)],FnOK Tryd.prog WI gK p.1 p.2 (FE p.1) from
  zal k20 (by kernel_rfl) (fun _ h=>(by cases h))) h),(fun _ _ h=>(by cases h))⟩) Tryd.func8 ev8 (by kernel_rfl) (by kernel_rfl) (zav (by kernel_rfl)) e8
theorem k10:FnOK Tryd.prog WI gK 10 s10 g10 :=
 zdv (F:=FE) zao (⟨fun _ _ h=>(by cases h),(fun _ _ h=>(by cases h))⟩) Tryd.func10 ev10 (by kernel_rfl) (zav (by kernel_rfl)) fun ds h hp=>match ds,h,hp with
  | [d0,d1,d2,d3,d4,d5,d6,d7,d8,d9,d10,d11,d12,d13,d14,d15,d16,d17,d18,d19,d20,d21,d22,d23,d24,d25,d26],_,_=>⟨by kernel_rfl,zaF (by kernel_rfl) (by kernel_rfl) (by kernel_rfl)⟩
theorem k13:FnOK Tryd.prog WI gK 13 s13 g13 :=
 zdv (F:=FE) zao (⟨(fun f s h=>zaK (Q:=fun f s=>FnOK Tryd.prog WI gK f s (FE f)) (l:=S13.fs)
  (show ∀ p∈[(29,s29),(30,s30),(31,s31),(14,s14),(10,s10),(32,s32)],FnOK Tryd.prog WI gK p.1 p.2 (FE p.1) from
  zal k29 (by kernel_rfl) (zal k30 (by kernel_rfl) (zal k31 (by kernel_rfl) (zal k14 (by kernel_rfl) (zal k10 (by kernel_rfl) (zal k32 (by kernel_rfl) (fun _ h=>(by cases h)))))))) h),(fun _ _ h=>(by cases h))⟩) Tryd.func13 ev13 (by kernel_rfl) (zav (by kernel_rfl)) fun ds h hp=>match ds,h,hp with
  | [d0,d1,d2,d3,d4,d5,d6,d7,d8,d9,d10,d11,d12,d13,d14,d15,d16,d17,d18,d19,d20,d21,d22,d23,d24,d25,d26,d27],_,hp=>⟨(by kernel_rfl:zcL (za3 FE s13 o13 [d0,d1,d2,d3,d4,d5,d6,d7,d8,d9,d10,d11,d12,d13,d14,d15,d16,d17,d18,d19,d20,d21,d22,d23,d24,d25,d26,d27]) o13.owes=(dget (g13 [d0,d1,d2,d3,d4,d5,d6,d7,d8,d9,d10,d11,d12,d13,d14,d15,d16,d17,d18,d19,d20,d21,d22,d23,d24,d25,d26,d27]) 0).toB).trans (hp rfl),zaF (by kernel_rfl) (by kernel_rfl) (by kernel_rfl)⟩
theorem e19:∀ ds,g19 ds=outI FE s19 o19 ds:=zaw (l:=[8,13,29,37,31]) (by kernel_rfl) (List.forall_mem_cons.2 ⟨by kernel_rfl,List.forall_mem_cons.2 ⟨by kernel_rfl,List.forall_mem_cons.2 ⟨by kernel_rfl,List.forall_mem_cons.2 ⟨by kernel_rfl,List.forall_mem_cons.2 ⟨by kernel_rfl,fun _ h=>(by cases h)⟩⟩⟩⟩⟩)
theorem k19:FnOK Tryd.prog WI gK 19 s19 g19 :=
 zbU (F:=FE) zao (⟨(fun f s h=>zaK (Q:=fun f s=>FnOK Tryd.prog WI gK f s (FE f)) (l:=S19.fs)
  (show ∀ p∈[(8,s8),(13,s13),(29,s29),(37,s37),(31,s31)],FnOK Tryd.prog WI gK p.1 p.2 (FE p.1) from
  zal k8 (by kernel_rfl) (zal k13 (by kernel_rfl) (zal k29 (by kernel_rfl) (zal k37 (by kernel_rfl) (zal k31 (by kernel_rfl) (fun _ h=>(by cases h))))))) h),(fun _ _ h=>(by cases h))⟩) Tryd.func19 ev19 (by kernel_rfl) (by kernel_rfl) (zav (by kernel_rfl)) e19
theorem zvi:zaA FE zp1:=zlC (w:=zjr) (c:=zjs) (nx:=zlK) (out:=zoi) [.i,.i,.i,.l] (fun ds=>by kernel_rfl) rfl (fun ν xs h=>match xs,h with | [x0,x1],_=>by kernel_rfl)
 (fun ν xs h=>match xs,h with | [x0,x1],_=>by kernel_rfl)
 (fun ν xs h=>match xs,h with | [x0,x1],_=>by kernel_rfl)
 (fun ν xs h=>match xs,h with | [x0,x1],_=>by kernel_rfl)
theorem hl17:∀ l∈o17.loops,zaA FE l:=zlE (by kernel_rfl:o17.loops=[zp1])
 (  List.forall_mem_cons.2 ⟨zvi,fun _ h=>(by cases h)⟩)
theorem k17:FnOK Tryd.prog WI gK 17 s17 g17 :=
 zdv (F:=FE) zao (⟨fun _ _ h=>(by cases h),(fun _ _ h=>(by cases h))⟩) Tryd.func17 ev17 (by kernel_rfl) hl17 fun ds h hp=>match ds,h,hp with
  | [d0,d1,d2],_,hp=>⟨(by kernel_rfl:zcL (za3 FE s17 o17 [d0,d1,d2]) o17.owes=(dget (g17 [d0,d1,d2]) 0).toB).trans (hp rfl),zaF (by kernel_rfl) (by kernel_rfl) (by kernel_rfl)⟩
theorem e18:∀ ds,g18 ds=outI FE s18 o18 ds:=zaw (l:=[]) (by kernel_rfl) (fun _ h=>(by cases h))
theorem k18:FnOK Tryd.prog WI gK 18 s18 g18 :=
 zbU (F:=FE) zao (⟨fun _ _ h=>(by cases h),(fun _ _ h=>(by cases h))⟩) Tryd.func18 ev18 (by kernel_rfl) (by kernel_rfl) (zav (by kernel_rfl)) e18
theorem e7:∀ ds,g7 ds=outI FE s7 o7 ds:=zaw (l:=[17,12,18,13,19,8,10]) (by kernel_rfl) (List.forall_mem_cons.2 ⟨by kernel_rfl,List.forall_mem_cons.2 ⟨by kernel_rfl,List.forall_mem_cons.2 ⟨by kernel_rfl,List.forall_mem_cons.2 ⟨by kernel_rfl,List.forall_mem_cons.2 ⟨by kernel_rfl,List.forall_mem_cons.2 ⟨by kernel_rfl,List.forall_mem_cons.2 ⟨by kernel_rfl,fun _ h=>(by cases h)⟩⟩⟩⟩⟩⟩⟩)
theorem k7:FnOK Tryd.prog WI gK 7 s7 g7 :=
 zbU (F:=FE) zao (⟨(fun f s h=>zaK (Q:=fun f s=>FnOK Tryd.prog WI gK f s (FE f)) (l:=S7.fs)
  (show ∀ p∈[(17,s17),(12,s12),(18,s18),(13,s13),(19,s19),(8,s8),(10,s10)],FnOK Tryd.prog WI gK p.1 p.2 (FE p.1) from
  zal k17 (by kernel_rfl) (zal k12 (by kernel_rfl) (zal k18 (by kernel_rfl) (zal k13 (by kernel_rfl) (zal k19 (by kernel_rfl) (zal k8 (by kernel_rfl) (zal k10 (by kernel_rfl) (fun _ h=>(by cases h))))))))) h),(fun _ _ h=>(by cases h))⟩) Tryd.func7 ev7 (by kernel_rfl) (by kernel_rfl) (zav (by kernel_rfl)) e7
theorem e5:∀ ds,g5 ds=outI FE s5 o5 ds:=zaw (l:=[7,12,13]) (by kernel_rfl) (List.forall_mem_cons.2 ⟨by kernel_rfl,List.forall_mem_cons.2 ⟨by kernel_rfl,List.forall_mem_cons.2 ⟨by kernel_rfl,fun _ h=>(by cases h)⟩⟩⟩)
theorem k5:FnOK Tryd.prog WI gK 5 s5 g5 :=
 zbU (F:=FE) zao (⟨(fun f s h=>zaK (Q:=fun f s=>FnOK Tryd.prog WI gK f s (FE f)) (l:=S5.fs)
  (show ∀ p∈[(7,s7),(12,s12),(13,s13)],FnOK Tryd.prog WI gK p.1 p.2 (FE p.1) from
  zal k7 (by kernel_rfl) (zal k12 (by kernel_rfl) (zal k13 (by kernel_rfl) (fun _ h=>(by cases h))))) h),(fun _ _ h=>(by cases h))⟩) Tryd.func5 ev5 (by kernel_rfl) (by kernel_rfl) (zav (by kernel_rfl)) e5
end Go.Proofs.YtedoffkaehcnmaaDoor
namespace Go.Proofs.YtedoffkaehcnmaaDoor
open Go Go.Sx
set_option maxRecDepth 100000
theorem zaV {n:Int} (h:0≤n) (h1:n<9223372036854775808):IntKind.wrap .i64 n=n:=by rw [IntKind.wrap_i64];omega
def zdW:List DV→Int→List DV→List DV
 | [],_,d=>d
 | b::r,k,d=>zdW r (k+1) (zen d k b.toI)
theorem zgG {n:Int} (h:0≤n) (h1:n<18446744073709551616):IntKind.wrap .u64 n=n:=by
 unfold IntKind.wrap
 simp [IntKind.bits,IntKind.signed]
 omega
theorem zsY {B k:Int} (hB:B=2147483648) (h:0≤k) (h1:k<9223372036854775808):IntKind.wrap .u64 (2147483648+IntKind.wrap .u64 k)=B+k:=by
 rw [zgG (n:=k) h (by omega),zgG (by omega) (by omega),hB]
theorem zul {B:Int} (hB:B=2147483648) (img:List DV) (hl:img.length≤1048576) (k:Nat) (d:List DV) (hlt:k<img.length):zn6 [.i img.length,.l img,.i k,.l d]=true∧zn7 [.i img.length,.l img,.i k,.l d]=true ∧
  zn8 [.i img.length,.l img,.i k,.l d]=[.i img.length,.l img,.i ((k+1:Nat):Int),.l (zen d (B+k) img[k].toI)]:=by
 have hki:(k:Int)<(img.length:Int):=by omega
 have hdiv:((img.length/1:Nat):Int)=img.length:=by rw [Nat.div_one]
 have hadr:=zsY hB (k:=(k:Int)) (by omega) (by omega)
 refine ⟨?_,?_,?_⟩
 ·show zjn (img.length:Int) img (k:Int) d=true
  unfold zjn
  simp only [hdiv,hadr]
  have:p38 d (B+(k:Int)) (img.getD (Int.toNat k*1+0) default).toI=true:=by
   unfold p38
   simp only [in64,Bool.and_eq_true,decide_eq_true_eq]
   omega
  rw [this]
  simp [ow,hki]
 ·show zjo (img.length:Int) img (k:Int) d=true
  unfold zjo
  simp [hki]
 ·have hg:(img.getD (Int.toNat (k:Int)*1+0) default).toI=img[k].toI:=by rw [Int.toNat_natCast,Nat.mul_one,Nat.add_zero,List.getD_eq_getElem?_getD,List.getElem?_eq_getElem hlt];rfl
  have e0:zgA img.length img k d=((k+1:Nat):Int):=by
   unfold zgA
   rw [zaV (by omega) (by omega)]
   rfl
  have e1:zgB img.length img k d=zen d (B+k) img[k].toI:=by
   unfold zgB
   simp only [hadr,hg]
   rfl
  show [DV.i _,.l _,.i (zgA img.length img k d),.l (zgB img.length img k d)]=_
  rw [e0,e1]
  rfl
theorem zvj {B:Int} (hB:B=2147483648) (img:List DV) (hl:img.length≤1048576) (m:Nat):∀ (k:Nat) (d:List DV),k+m=img.length →
  zdT img.length img k d=some [.i 0,.i img.length,.l (zdW (img.drop k) (B+k) d)]:=by
 induction m with
 | zero =>
  intro k d hk
  have hk':k=img.length:=by omega
  subst hk'
  unfold zdT
  rw [List.drop_length]
  rw [zcB (by show zjn (img.length:Int) img (img.length:Int) d=true;unfold zjn;simp [ow]) (by show zjo (img.length:Int) img (img.length:Int) d=false;unfold zjo;simp)]
  rfl
 | succ m ih =>
  intro k d hk
  have hlt:k<img.length:=by omega
  obtain ⟨hw,hc,hn⟩:=zul hB img hl k d hlt
  unfold zdT
  rw [zcA hw hc,hn]
  have h1:=ih (k+1) (zen d (B+k) img[k].toI) (by omega)
  unfold zdT at h1
  rw [h1,List.drop_eq_getElem_cons hlt,zdW,show B+((k+1:Nat):Int)=B+k+1 from by omega]
theorem zvk (img d:List DV):p25 d img=true∧zn9 img=decide (img.length≤1048576)∧(img.length≤1048576→zpY d img=zdW img 2147483648 d):=by
 have hdiv:((img.length/1:Nat):Int)=img.length:=by rw [Nat.div_one]
 unfold p25 zn9 zpY
 simp only [hdiv]
 by_cases h:img.length≤1048576
 ·have h1:¬ ((img.length:Int)>1048576):=by omega
  have hL:zdT img.length img 0 d=some [.i 0,.i img.length,.l (zdW img 2147483648 d)]:=by
   obtain ⟨B,hB⟩:∃ B:Int,B=2147483648:=⟨_,rfl⟩
   have:=zvj hB img h img.length 0 d (by omega)
   rw [←hB]
   rw [show B+((0:Nat):Int)=B from by omega,List.drop_zero] at this
   exact this
  have e0:zlI img.length img 0 d=true:=by unfold zlI;rw [hL];rfl
  have e2:zgC img.length img 0 d=zdW img 2147483648 d:=by unfold zgC;rw [hL];rfl
  rw [e0,e2]
  simp [ow,h,h1]
 ·have h1:((img.length:Int)>1048576):=by omega
  simp [ow,h,h1]
def layK:List DV→Nat→List DV→List DV
 | [],_,d=>d
 | b::r,n,d=>bif Nat.ble n 0 then layK r (n+1) (zen d n b.toI) else layK r (n+1) (zen d n b.toI)
theorem zr0:∀ (l:List DV) (n:Nat) (d:List DV),layK l n d=zdW l n d
 | [],_,_=>rfl
 | b::r,n,d=>by
  rw [layK,zdW]
  cases Nat.ble n 0<;>exact (zr0 r (n+1) (zen d n b.toI)).trans (by rw [show ((n+1:Nat):Int)=(n:Int)+1 from by omega])
def g25h (ds:List DV):List DV :=
 [.b true,.b (Nat.ble (dget ds 1).toL.length 1048576),.l (bif Nat.ble (dget ds 1).toL.length 1048576 then layK (dget ds 1).toL 2147483648 (dget ds 0).toL else (dget ds 0).toL)]
theorem zum (n m:Nat):Nat.ble n m=decide (n≤m):=by
 by_cases h:n≤m
 ·rw [decide_eq_true h];exact Nat.ble_eq_true_of_le h
 ·rw [decide_eq_false h]
  cases hb:Nat.ble n m with
  | false=>rfl
  | true=>exact absurd (Nat.le_of_ble_eq_true hb) h
theorem zsZ:KD.ok FE 25 (.hand g25h):=fun ds=>by
 show g25 ds=g25h ds
 unfold g25 g25h
 obtain ⟨h1,h2,h3⟩:=zvk (dget ds 1).toL (dget ds 0).toL
 rw [h1,h2,zum]
 by_cases h:(dget ds 1).toL.length≤1048576
 ·rw [h3 h,decide_eq_true h,cond_true,zr0]
  rfl
 ·have h4:zpY (dget ds 0).toL (dget ds 1).toL=(dget ds 0).toL:=by
   unfold zpY
   have h5:decide ((((dget ds 1).toL.length/1:Nat):Int)>1048576)=true:=decide_eq_true (by rw [Nat.div_one];omega)
   simp only [h5,Bool.not_true,cond_false]
  rw [h4,decide_eq_false h,cond_false]
def putL:List DV→Nat→List DV→List DV
 | [],_,_=>[]
 | x::l,n+1,bs=>x::putL l n bs
 | _::l,0,b::bs=>b::putL l 0 bs
 | x::l,0,[]=>x::l
theorem zo9:∀ (l:List DV) (n:Nat),putL l n []=l
 | [],_=>rfl
 | x::l,n+1=>by rw [putL,zo9 l n]
 | x::l,0=>rfl
theorem zpa:∀ (l:List DV) (n:Nat) (b:DV) (bs:List DV),n<l.length→putL (l.set n b) (n+1) bs=putL l n (b::bs)
 | [],n,b,bs,h=>by simp at h
 | x::l,0,b,bs,_=>rfl
 | x::l,n+1,b,bs,h=>by
  have:=zpa l n b bs (by simpa using h)
  show x::putL (l.set n b) (n+1) bs=x::putL l n (b::bs)
  rw [this]
def zjz (v:Int) (k:Nat):DV:=.i (IntKind.wrap .u8 (ishr .u64 v (8*(k:Int))))
theorem ztt (a:Nat) (v:Int) (ha:a<4611686018427387904):∀ (j i:Nat) (l:List DV),i+j=8→a+8≤l.length →
  zdU a v i l=some [.i 0,.i 8,.l (putL l (a+i) ((List.range' i j).map (zjz v)))]
 | 0,i,l,h,_=>by
  have hi:i=8:=by omega
  subst hi
  unfold zdU
  rw [zcB (show zjr [.i a,.i v,.i (8:Nat),.l l]=true by show zjp a v (8:Nat) l=true;unfold zjp;simp [ow]) (show zjs [.i a,.i v,.i (8:Nat),.l l]=false by show zjq a v (8:Nat) l=false;unfold zjq;simp)]
  rw [List.range'_zero,List.map_nil,zo9]
  rfl
 | j+1,i,l,h,hl=>by
  have e1:IntKind.wrap .i64 ((a:Int)+(i:Int))=((a+i:Nat):Int):=by rw [zaV (by omega) (by omega)];omega
  have e2:IntKind.wrap .i64 (8*(i:Int))=8*(i:Int):=zaV (by omega) (by omega)
  have hw:zjp a v i l=true:=by
   have h1:decide (8*(i:Int)≥0)=true:=decide_eq_true (by omega)
   have h2:decide (((a+i:Nat):Int)≥0)=true:=decide_eq_true (by omega)
   have h3:decide (((a+i:Nat):Int)<((l.length/1:Nat):Int))=true:=decide_eq_true (by rw [Nat.div_one];omega)
   unfold zjp
   simp only [e1,e2,h1,h2,h3]
   simp [ow]
  have hc:zjq a v i l=true:=by unfold zjq;simp;omega
  unfold zdU
  rw [zcA (show zjr [.i a,.i v,.i i,.l l]=true from hw) (show zjs [.i a,.i v,.i i,.l l]=true from hc)]
  have hn:zlK [.i a,.i v,.i i,.l l]=[.i a,.i v,.i ((i+1:Nat):Int),.l (l.set (a+i) (zjz v i))]:=by
   show [DV.i a,.i v,.i (IntKind.wrap .i64 ((i:Int)+1)),.l (l.set (Int.toNat (IntKind.wrap .i64 ((a:Int)+(i:Int)))*1+0) (.i (IntKind.wrap .u8 (ishr .u64 v (IntKind.wrap .i64 (8*(i:Int)))))))]=_
   rw [e1,e2,zaV (n:=(i:Int)+1) (by omega) (by omega),Int.toNat_natCast,Nat.mul_one,Nat.add_zero]
   rfl
  rw [hn]
  have ih:=ztt a v ha j (i+1) (l.set (a+i) (zjz v i)) (by omega) (by simpa using hl)
  unfold zdU at ih
  rw [ih,List.range'_succ,List.map_cons,show a+(i+1)=a+i+1 from rfl,zpa _ _ _ _ (by omega)]
def zr1 (v:Int):List DV:=[zjz v 0,zjz v 1,zjz v 2,zjz v 3,zjz v 4,zjz v 5,zjz v 6,zjz v 7]
noncomputable def g17h (ds:List DV):List DV :=
 bif (decide (0≤(dget ds 1).toI)&&Nat.ble ((dget ds 1).toI.toNat+8) (dget ds 0).toL.length)&&Nat.blt (dget ds 1).toI.toNat 4611686018427387904 then
  [.b true,.l (putL (dget ds 0).toL (dget ds 1).toI.toNat (zr1 (dget ds 2).toI))]
 else g17 ds
theorem zs0:KD.ok FE 17 (.hand g17h):=fun ds=>by
 show g17 ds=g17h ds
 unfold g17h
 cases hb:(decide (0≤(dget ds 1).toI)&&Nat.ble ((dget ds 1).toI.toNat+8) (dget ds 0).toL.length)&&Nat.blt (dget ds 1).toI.toNat 4611686018427387904 with
 | false=>rfl
 | true =>
  simp only [Bool.and_eq_true,decide_eq_true_eq] at hb
  obtain ⟨⟨h0,h1⟩,h2⟩:=hb
  have h1:=Nat.le_of_ble_eq_true h1
  have h2:(dget ds 1).toI.toNat<4611686018427387904:=Nat.le_of_ble_eq_true h2
  have hL:=ztt (dget ds 1).toI.toNat (dget ds 2).toI h2 8 0 (dget ds 0).toL (by omega) h1
  rw [show (((dget ds 1).toI.toNat:Nat):Int)=(dget ds 1).toI from by omega] at hL
  have hL:zdU (dget ds 1).toI (dget ds 2).toI 0 (dget ds 0).toL=some [.i 0,.i 8,.l (putL (dget ds 0).toL (dget ds 1).toI.toNat (zr1 (dget ds 2).toI))]:=hL
  rw [cond_true]
  have e1:p17 (dget ds 0).toL (dget ds 1).toI (dget ds 2).toI=true:=by
   unfold p17 zoj
   simp only [hL]
   simp [ow]
  have e2:zt5 (dget ds 0).toL (dget ds 1).toI (dget ds 2).toI=putL (dget ds 0).toL (dget ds 1).toI.toNat (zr1 (dget ds 2).toI):=by
   unfold zt5 zjt
   simp only [hL]
   rfl
  unfold g17
  rw [e1,e2]
end Go.Proofs.YtedoffkaehcnmaaDoor
namespace Go.Sx
theorem ze2 (n:Int):IntKind.wrap .u64 n=n%18446744073709551616:=by simp [IntKind.wrap,IntKind.signed,IntKind.bits]
theorem wrap_i64 (n:Int):IntKind.wrap .i64 n=if n%18446744073709551616≥9223372036854775808 then n%18446744073709551616-18446744073709551616 else n%18446744073709551616:=by
 simp [IntKind.wrap,IntKind.signed,IntKind.bits]
theorem zjA {n:Int} (h0:0≤n) (h1:n<18446744073709551616):IntKind.wrap .u64 n=n:=by rw [ze2];omega
theorem zdx {a:Nat} (ha:a<18446744073709551616):(BitVec.ofInt 64 (a:Int)).toNat=a:=by
 rw [BitVec.ofInt_natCast,BitVec.toNat_ofNat];exact Nat.mod_eq_of_lt (by omega)
theorem zun {a b:Nat} (ha:a<18446744073709551616) (hb:b<18446744073709551616):zaf .u64 (a:Int) (b:Int)=((a &&& b:Nat):Int):=by
 show IntKind.wrap .u64 ((BitVec.ofInt 64 (a:Int) &&& BitVec.ofInt 64 (b:Int)).toNat:Int)=_
 rw [BitVec.toNat_and,zdx ha,zdx hb,ze2]
 have:a &&& b≤a:=Nat.and_le_left
 omega
theorem zvl {a b:Nat} (ha:a<18446744073709551616) (hb:b<18446744073709551616):ilor .u64 (a:Int) (b:Int)=((a ||| b:Nat):Int):=by
 show IntKind.wrap .u64 ((BitVec.ofInt 64 (a:Int) ||| BitVec.ofInt 64 (b:Int)).toNat:Int)=_
 rw [BitVec.toNat_or,zdx ha,zdx hb,ze2]
 have:a ||| b<2^64:=Nat.or_lt_two_pow (by omega) (by omega)
 omega
theorem zp3 {a b:Nat} (ha:a<18446744073709551616) (hb:b<18446744073709551616):zay .u64 (a:Int) (b:Int)=((a &&& (18446744073709551615-b):Nat):Int):=by
 show IntKind.wrap .u64 ((BitVec.ofInt 64 (a:Int) &&& ~~~ BitVec.ofInt 64 (b:Int)).toNat:Int)=_
 rw [BitVec.toNat_and,zdx ha,BitVec.toNat_not,zdx hb,ze2]
 have e:2^64-1-b=18446744073709551615-b:=by omega
 rw [e]
 have:a &&& (18446744073709551615-b)≤a:=Nat.and_le_left
 omega
theorem zoo {a:Int} (h0:0≤a):∃ n:Nat,a=n:=⟨a.toNat,by omega⟩
theorem zbF {k r:Nat} (hr:r<2^k) (q j:Nat):(2^k*q+r).testBit j=if j<k then r.testBit j else q.testBit (j-k):=Nat.testBit_two_pow_mul_add q hr j
theorem zr2 {k r s:Nat} (hr:r<2^k) (hs:s<2^k) (q q':Nat):(2^k*q+r) &&& (2^k*q'+s)=2^k*(q &&& q')+(r &&& s):=by
 apply Nat.eq_of_testBit_eq
 intro j
 rw [Nat.testBit_and,zbF hr,zbF hs,zbF (Nat.and_lt_two_pow r hs),Nat.testBit_and,Nat.testBit_and]
 split<;>rfl
theorem zs1 {k r s:Nat} (hr:r<2^k) (hs:s<2^k) (q q':Nat):(2^k*q+r) ||| (2^k*q'+s)=2^k*(q ||| q')+(r ||| s):=by
 apply Nat.eq_of_testBit_eq
 intro j
 rw [Nat.testBit_or,zbF hr,zbF hs,zbF (Nat.or_lt_two_pow hr hs),Nat.testBit_or,Nat.testBit_or]
 split<;>rfl
theorem zpb (n k:Nat):2^k*(n/2^k)+n%2^k=n:=Nat.div_add_mod n (2^k)
theorem mod_lt (n k:Nat):n%2^k<2^k:=Nat.mod_lt _ (Nat.two_pow_pos k)
section
variable {a m p:Int}
theorem za7 (h0:0≤a) (h1:a<18446744073709551616) (k:Nat) (hk:k≤64) (hm:m=((2^k-1:Nat):Int)) (hp:p=((2^k:Nat):Int)):zaf .u64 a m=a%p:=by
 obtain ⟨n,rfl⟩:=zoo h0
 have:2^k≤2^64:=Nat.pow_le_pow_right (by decide) hk
 rw [hm,zun (by omega) (by omega),Nat.and_two_pow_sub_one_eq_mod,hp]
 omega
theorem zpc (k:Nat) (hk:k≤64) (hp:p=((2^k:Nat):Int)):ishr .u64 a (k:Int)=a/p:=by
 show Int.fdiv a (2^min (k:Int).toNat 64)=_
 have e:min (k:Int).toNat 64=k:=by simp;omega
 rw [e,hp,Int.fdiv_eq_ediv_of_nonneg _ (by exact Int.le_of_lt (Int.pow_pos (by decide)))]
 simp
end
theorem ibeq (x y:Int):(x==y)=decide (x=y):=by by_cases h:x=y<;>simp [h]
end Go.Sx
namespace Go.Proofs.YtedoffkaehcnmaaDoor
open Go Go.Sx
set_option maxRecDepth 100000
theorem zkD (n:Int):0≤IntKind.wrap .u64 n∧IntKind.wrap .u64 n<18446744073709551616:=by
 unfold IntKind.wrap
 simp [IntKind.bits,IntKind.signed]
 omega
theorem zbQ {l:List (Bool×Bool)} {x:Bool} (h:x=true):ow l x=true:=by subst h;unfold ow;simp
theorem zs2 {c x:Bool} (l:List (Bool×Bool)) (h:c=true→x=true):ow ((c,true)::l) x=true:=by
 cases c with
 | false=>unfold ow;simp
 | true=>rw [h rfl];unfold ow;simp
theorem zs3 {l:List Int} (P:Int→Prop) (h:∀ x∈l,P x) (h0:P 0) (i:Nat):P (l.getD i 0):=by
 rw [List.getD_eq_getElem?_getD]
 by_cases hi:i<l.length
 ·rw [List.getElem?_eq_getElem hi];exact h _ (List.getElem_mem hi)
 ·rw [List.getElem?_eq_none (by omega)];exact h0
theorem zvm (x:Int):p49 x=true:=by
 unfold p49
 extract_lets -merge x1 x2 x3 x4 x5 x6 x7 x8
 have h:x6=x5/288230376151711744:=zpc 58 (by decide) rfl
 obtain ⟨a,b⟩:0≤x5∧x5<18446744073709551616:=zkD _
 have h7:x7=true:=decide_eq_true (by rw [h];omega)
 have h8:x8=true:=decide_eq_true (by rw [h];omega)
 simp only [List.all_cons,List.all_nil,id_eq,zbQ h7,zbQ h8,Bool.and_self]
def tabL:List Int:=[0,1,56,2,57,49,28,3,61,58,42,50,38,29,17,4,62,47,59,36,45,43,51,22,53,39,33,30,24,18,12,5,63,55,48,27,60,41,37,16,46,35,44,21,52,32,23,11,54,26,40,15,34,20,31,10,25,14,19,9,13,8,7,6]
theorem zvn (x:Int):0≤zoh x∧zoh x≤64:=by
 obtain ⟨i,hi⟩:∃ i,zoh x=bif !(x==0) then IntKind.wrap .i64 (tabL.getD i 0) else 64:=⟨_,rfl⟩
 rw [hi]
 have h9:0≤tabL.getD i 0∧tabL.getD i 0≤63:=zs3 (l:=tabL) (fun y=>0≤y∧y≤63) (by decide) (by decide) _
 rw [zaV h9.1 (by omega)]
 cases !(x==0)
 ·exact ⟨show (0:Int)≤64 by decide,show (64:Int)≤64 by decide⟩
 ·exact ⟨h9.1,by show tabL.getD i 0≤64;omega⟩
theorem zvo (a b:List DV) (k:Int):p40 a b k=true:=by
 unfold p40
 extract_lets -merge x3 x4 x5 x6 x7 x8 x9 x10 x11 x12 x13 x14 x15 x16 x17 x18 x19 x29 x33 x34 x35 x36 x37 x38 x40 x41 x44 x45
 obtain ⟨u,v⟩:0≤x36∧x36≤64:=zvn _
 have h38:x38=true:=decide_eq_true (by show IntKind.wrap .i64 (x36+1)≥0;rw [zaV (by omega) (by omega)];omega)
 have h45:x45=true:=decide_eq_true (by show IntKind.wrap .i64 (x36+3)≥0;rw [zaV (by omega) (by omega)];omega)
 have h35:x35=true:=zvm _
 have k6:x6=true→0≤k∧k<8:=fun h=>by
  have h:(!(decide (k<0)||decide (k≥8)))=true:=h
  simp at h
  omega
 have h7:x6=true→x7=true:=fun h=>decide_eq_true (k6 h).1
 have h8:x6=true→x8=true:=fun h=>decide_eq_true (k6 h).2
 have h18:∀ l,ow ((x6,true)::l) x18=true∨x16=false:=fun l=>by
  cases h16:x16 with
  | false=>exact .inr rfl
  | true =>
   refine .inl (zs2 l fun h=>decide_eq_true ?_)
   have hk:k>0:=of_decide_eq_true h16
   show IntKind.wrap .i64 (k-1)≥0
   have:=k6 h
   rw [zaV (by omega) (by omega)]
   omega
 have h19:∀ l,ow ((x6,true)::l) x19=true∨x16=false:=fun l=>by
  cases h16:x16 with
  | false=>exact .inr rfl
  | true =>
   refine .inl (zs2 l fun h=>decide_eq_true ?_)
   have hk:k>0:=of_decide_eq_true h16
   show IntKind.wrap .i64 (k-1)<8
   have:=k6 h
   rw [zaV (by omega) (by omega)]
   omega
 have g18:ow [(x6,true),(x15,true),(x16,true)] x18=true:=by
  rcases h18 [(x15,true),(x16,true)] with h | h
  ·exact h
  ·rw [h];unfold ow;simp
 have g19:ow [(x6,true),(x15,true),(x16,true)] x19=true:=by
  rcases h19 [(x15,true),(x16,true)] with h | h
  ·exact h
  ·rw [h];unfold ow;simp
 have g7:ow [(x6,true)] x7=true:=zs2 [] h7
 have g8:ow [(x6,true)] x8=true:=zs2 [] h8
 simp only [List.all_cons,List.all_nil,id_eq,show x11=x7 from rfl,show x12=x8 from rfl,g7,g8,g18,g19,zbQ h35,zbQ h38,show x41=x38 from rfl,zbQ h45,Bool.and_self]
theorem zvp (a b:List DV) (k x n:Int):p29 a b k x n=true:=by
 unfold p29
 simp only [zvo,List.all_cons,List.all_nil,id_eq,zbQ,Bool.and_self]
theorem ztu (a:Int) (m:List DV):∀ (k:Nat) (x7:Int),k≤8→(zeG a m x7 ((k:Int)-1)).isSome=true
 | 0,x7,_=>by
  unfold zeG
  rw [zcB (by show zjk a m x7 (((0:Nat):Int)-1)=true;unfold zjk;simp [ow]) (by show zjl a m x7 (((0:Nat):Int)-1)=false;unfold zjl;simp)]
  rfl
 | k+1,x7,h=>by
  have hk:(((k+1:Nat):Int)-1)=(k:Int):=by omega
  unfold zeG
  rw [hk]
  have hw:zjk a m x7 (k:Int)=true:=by
   unfold zjk
   extract_lets -merge x9 x11 x12 x13
   have h13:x13=true:=by
    show in64 x12=true
    obtain ⟨u,v⟩:0≤x12∧x12<18446744073709551616:=zkD _
    simp only [in64,Bool.and_eq_true,decide_eq_true_eq]
    omega
   simp only [List.all_cons,List.all_nil,id_eq,zbQ h13,Bool.and_self]
  have hc:zjl a m x7 (k:Int)=true:=by
   unfold zjl
   simp
  rw [zcA (show zlF [.i a,.l m,.i x7,.i k]=true from hw) (show zlG [.i a,.l m,.i x7,.i k]=true from hc)]
  have hn:zlH [.i a,.l m,.i x7,.i k]=[.i a,.l m,.i (zgz a m x7 k),.i ((k:Int)-1)]:=by
   show [DV.i a,.l m,.i (zgz a m x7 k),.i (zjm a m x7 k)]=_
   have:zjm a m x7 k=(k:Int)-1:=by
    show IntKind.wrap .i64 ((k:Int)-1)=_
    rw [IntKind.wrap_i64]
    omega
   rw [this]
  rw [hn]
  have ih:=ztu a m k (zgz a m x7 k) (by omega)
  unfold zeG at ih
  exact ih
theorem zvS (m:List DV) (a:Int):p33 m a 8=true:=by
 unfold p33
 have e:zn5 a m 0 (IntKind.wrap .i64 (8-1))=true:=by
  rw [zaV (by omega) (by omega)]
  exact ztu a m 8 0 (by omega)
 simp only [e]
 simp [ow]
def zmY (b:List DV):Prop:=∃ m c p u n e f,b=[.l m,.l c,.l p,.l u,.i n,.l e,.b f]
noncomputable def bus0 (img:List DV):List DV:=[.l (zdW img 2147483648 []),.l zuU,.l zuV,.l zu1,.i (-1),.l [],.b false]
theorem zjB (img:List DV):zmY (bus0 img):=⟨_,_,_,_,_,_,_,rfl⟩
theorem zvT:p24 []=true∧zog []=true:=by
 have hL:zlJ [.i 0,.l [],.b false,.i 0,.i 0]=[.b true,.i 1,.b false,.i 0,.i 0]:=by
  show [DV.b (zcM 0 [] false 0 0).isSome,.i (dget ((zcM 0 [] false 0 0).getD []) 0).toI,.b (dget ((zcM 0 [] false 0 0).getD []) 1).toB,.i (dget ((zcM 0 [] false 0 0).getD []) 2).toI,.i (dget ((zcM 0 [] false 0 0).getD []) 3).toI]=_
  unfold zcM
  rw [zcB (by show zoa 0 [] false 0 0=true;unfold zoa;simp [ow]) (by show zob 0 [] false 0 0=false;unfold zob;simp)]
  rfl
 have e:((([]:List DV).length/4:Nat):Int)=0:=rfl
 unfold p24 zog
 simp only [e,hL]
 exact ⟨rfl,rfl⟩
theorem zvq (img:List DV):p12 img []=true∧zsK img []=decide (img.length≤1048576)∧zsJ img []=(bif decide (img.length≤1048576) then 1 else 0) ∧
  (img.length≤1048576→zp0 img []=[.b true,.l (bus0 img)]):=by
 obtain ⟨a1,a2⟩:=zvT
 obtain ⟨b1,b2,b3⟩:=zvk img []
 unfold p12 zsJ zsK zp0
 simp only [a1,a2,b1,b2,show zsG=[] from rfl,Bool.not_not]
 cases hi:decide (img.length≤1048576) with
 | false =>
  have:¬ img.length≤1048576:=of_decide_eq_false hi
  simp [ow,this]
 | true =>
  rw [b3 (of_decide_eq_true hi)]
  simp [ow,bus0]
noncomputable def ent (b:List DV) (a:Int):Int:=zbd b 1 a 8
theorem zlO (b:List DV) (a:Int) (h:zbL a 8=true):p14 b 1 a 8=true∧zaZ b 1 a 8=true∧(zmY b→zbm b 1 a 8=b):=by
 refine ⟨?_,?_,?_⟩
 ·unfold p14
  simp only [h,zvS,Bool.not_true]
  simp [ow]
 ·unfold zaZ
  simp only [h,Bool.not_true]
  have:zsI a 8=true:=by
   have h:zpW a 8=true:=h
   unfold zsI
   rw [h]
   rfl
  rw [this]
  rfl
 ·rintro ⟨m,c,p,u,n,e,f,rfl⟩
  unfold zbm
  simp only [h,Bool.not_true,cond_false]
  rfl
end Go.Proofs.YtedoffkaehcnmaaDoor
namespace Go.Proofs.YtedoffkaehcnmaaDoor
open Go Go.Sx
set_option maxRecDepth 100000
noncomputable def zvr (x33 x39 x52 x67 x75 x81 x74 x118 x133 x141 x147 x140 x193 x208 x215 x221:Bool) (x27:Int) (x84:Int) (x150:Int) (x224:Int):Int :=
 let x85:=!x81
 let x86:=!x74
 let x87:=bif x75 then x85 else x86
 let x88:=bif x67 then x87 else true
 let x89:=x52&&x88
 let x90:=bif x39 then x89 else true
 let x91:=x33&&x90
 let x102:=!x75
 let x103:=x52&&x102
 let x104:=x33&&x103
 let x105:=bif x91 then false else x104
 let x151:=!x147
 let x152:=!x140
 let x153:=bif x141 then x151 else x152
 let x154:=bif x133 then x153 else true
 let x155:=x118&&x154
 let x156:=x105&&x155
 let x177:=!x141
 let x178:=x118&&x177
 let x179:=x105&&x178
 let x180:=bif x156 then false else x179
 let x225:=!x221
 let x226:=bif x215 then x225 else true
 let x227:=bif x208 then x226 else true
 let x228:=x193&&x227
 let x229:=x180&&x228
 let x248:=bif x193 then x224 else 0
 let x256:=bif x118 then x150 else 0
 let x266:=bif x52 then x84 else 0
 let x276:=bif x33 then x266 else x27
 let x286:=bif x91 then 0 else x276
 let x296:=bif x105 then x256 else x286
 let x306:=bif x156 then 0 else x296
 let x316:=bif x180 then x248 else x306
 let x326:=bif x229 then 0 else x316
 x326
noncomputable def zvs (x33 x39 x52 x67 x75 x81 x74 x118 x133 x141 x147 x140 x193 x208 x215 x221:Bool):Int :=
 let x85:=!x81
 let x86:=!x74
 let x87:=bif x75 then x85 else x86
 let x88:=bif x67 then x87 else true
 let x89:=x52&&x88
 let x90:=bif x39 then x89 else true
 let x91:=x33&&x90
 let x102:=!x75
 let x103:=x52&&x102
 let x104:=x33&&x103
 let x105:=bif x91 then false else x104
 let x151:=!x147
 let x152:=!x140
 let x153:=bif x141 then x151 else x152
 let x154:=bif x133 then x153 else true
 let x155:=x118&&x154
 let x156:=x105&&x155
 let x177:=!x141
 let x178:=x118&&x177
 let x179:=x105&&x178
 let x180:=bif x156 then false else x179
 let x225:=!x221
 let x226:=bif x215 then x225 else true
 let x227:=bif x208 then x226 else true
 let x228:=x193&&x227
 let x229:=x180&&x228
 let x257:=bif x118 then 1 else 0
 let x267:=bif x52 then 2 else 0
 let x277:=bif x33 then x267 else (-1)
 let x287:=bif x91 then 0 else x277
 let x297:=bif x105 then x257 else x287
 let x307:=bif x156 then 0 else x297
 let x317:=bif x180 then 0 else x307
 let x327:=bif x229 then 0 else x317
 x327
noncomputable def zvt (x33 x39 x52 x67 x75 x81 x74 x118 x133 x141 x147 x140 x193 x208 x215 x221:Bool) (x54:Int) (x120:Int) (x195:Int):Int :=
 let x85:=!x81
 let x86:=!x74
 let x87:=bif x75 then x85 else x86
 let x88:=bif x67 then x87 else true
 let x89:=x52&&x88
 let x90:=bif x39 then x89 else true
 let x91:=x33&&x90
 let x102:=!x75
 let x103:=x52&&x102
 let x104:=x33&&x103
 let x105:=bif x91 then false else x104
 let x151:=!x147
 let x152:=!x140
 let x153:=bif x141 then x151 else x152
 let x154:=bif x133 then x153 else true
 let x155:=x118&&x154
 let x156:=x105&&x155
 let x177:=!x141
 let x178:=x118&&x177
 let x179:=x105&&x178
 let x180:=bif x156 then false else x179
 let x225:=!x221
 let x226:=bif x215 then x225 else true
 let x227:=bif x208 then x226 else true
 let x228:=x193&&x227
 let x229:=x180&&x228
 let x249:=bif x193 then x195 else 0
 let x258:=bif x118 then x120 else 0
 let x268:=bif x52 then x54 else 0
 let x278:=bif x33 then x268 else 0
 let x288:=bif x91 then 0 else x278
 let x298:=bif x105 then x258 else x288
 let x308:=bif x156 then 0 else x298
 let x318:=bif x180 then x249 else x308
 let x328:=bif x229 then 0 else x318
 x328
noncomputable def zvu (x33 x39 x52 x67 x75 x81 x74 x118 x133 x141 x147 x140 x193 x208 x215 x221:Bool) (x44:Int) (x110:Int) (x185:Int):Int :=
 let x85:=!x81
 let x86:=!x74
 let x87:=bif x75 then x85 else x86
 let x88:=bif x67 then x87 else true
 let x89:=x52&&x88
 let x90:=bif x39 then x89 else true
 let x91:=x33&&x90
 let x102:=!x75
 let x103:=x52&&x102
 let x104:=x33&&x103
 let x105:=bif x91 then false else x104
 let x151:=!x147
 let x152:=!x140
 let x153:=bif x141 then x151 else x152
 let x154:=bif x133 then x153 else true
 let x155:=x118&&x154
 let x156:=x105&&x155
 let x177:=!x141
 let x178:=x118&&x177
 let x179:=x105&&x178
 let x180:=bif x156 then false else x179
 let x225:=!x221
 let x226:=bif x215 then x225 else true
 let x227:=bif x208 then x226 else true
 let x228:=x193&&x227
 let x229:=x180&&x228
 let x250:=bif x193 then x185 else 0
 let x259:=bif x118 then x110 else 0
 let x269:=bif x52 then x44 else 0
 let x279:=bif x33 then x269 else 0
 let x289:=bif x91 then 0 else x279
 let x299:=bif x105 then x259 else x289
 let x309:=bif x156 then 0 else x299
 let x319:=bif x180 then x250 else x309
 let x329:=bif x229 then 0 else x319
 x329
noncomputable def zvv (x33 x39 x52 x67 x75 x81 x74 x118 x133 x141 x147 x140 x193 x208 x215 x221:Bool) (x51:Int) (x101:Int) (x117:Int) (x176:Int) (x192:Int) (x247:Int):Int :=
 let x85:=!x81
 let x86:=!x74
 let x87:=bif x75 then x85 else x86
 let x88:=bif x67 then x87 else true
 let x89:=x52&&x88
 let x90:=bif x39 then x89 else true
 let x91:=x33&&x90
 let x102:=!x75
 let x103:=x52&&x102
 let x104:=x33&&x103
 let x105:=bif x91 then false else x104
 let x151:=!x147
 let x152:=!x140
 let x153:=bif x141 then x151 else x152
 let x154:=bif x133 then x153 else true
 let x155:=x118&&x154
 let x156:=x105&&x155
 let x177:=!x141
 let x178:=x118&&x177
 let x179:=x105&&x178
 let x180:=bif x156 then false else x179
 let x225:=!x221
 let x226:=bif x215 then x225 else true
 let x227:=bif x208 then x226 else true
 let x228:=x193&&x227
 let x229:=x180&&x228
 let x251:=bif x193 then 0 else x192
 let x260:=bif x118 then 0 else x117
 let x270:=bif x52 then 0 else x51
 let x280:=bif x33 then x270 else 0
 let x290:=bif x91 then x101 else x280
 let x300:=bif x105 then x260 else x290
 let x310:=bif x156 then x176 else x300
 let x320:=bif x180 then x251 else x310
 let x330:=bif x229 then x247 else x320
 x330
noncomputable def zvw (x33 x39 x52 x67 x75 x81 x74 x118 x133 x141 x147 x140 x193 x208 x215 x221:Bool) (x0:List DV) (x56:List DV) (x122:List DV) (x197:List DV):List DV :=
 let x85:=!x81
 let x86:=!x74
 let x87:=bif x75 then x85 else x86
 let x88:=bif x67 then x87 else true
 let x89:=x52&&x88
 let x90:=bif x39 then x89 else true
 let x91:=x33&&x90
 let x100:=bif x39 then x56 else x0
 let x102:=!x75
 let x103:=x52&&x102
 let x104:=x33&&x103
 let x105:=bif x91 then false else x104
 let x151:=!x147
 let x152:=!x140
 let x153:=bif x141 then x151 else x152
 let x154:=bif x133 then x153 else true
 let x155:=x118&&x154
 let x156:=x105&&x155
 let x177:=!x141
 let x178:=x118&&x177
 let x179:=x105&&x178
 let x180:=bif x156 then false else x179
 let x225:=!x221
 let x226:=bif x215 then x225 else true
 let x227:=bif x208 then x226 else true
 let x228:=x193&&x227
 let x229:=x180&&x228
 let x252:=bif x193 then x197 else x122
 let x261:=bif x118 then x122 else x56
 let x271:=bif x52 then x56 else x0
 let x281:=bif x33 then x271 else x0
 let x291:=bif x91 then x100 else x281
 let x301:=bif x105 then x261 else x291
 let x311:=bif x156 then x122 else x301
 let x321:=bif x180 then x252 else x311
 let x331:=bif x229 then x197 else x321
 x331
noncomputable def tree {α:Type} (x33 x39 x52 x67 x75 x81 x74 x118 x133 x141 x147 x140 x193 x208 x215 x221:Bool) (no sg f2 p2 v2 f1 p1 v1 f0 p0 v0:α):α :=
 bif !x33 then no else bif !x39 then sg else
 bif !x52 then f2 else bif !x67 then p2 else bif x75 then (bif x81 then v2 else p2) else bif !x74 then p2 else
 bif !x118 then f1 else bif !x133 then p1 else bif x141 then (bif x147 then v1 else p1) else bif !x140 then p1 else
 bif !x193 then f0 else bif !x208 then p0 else bif x215 then (bif x221 then v0 else p0) else p0
noncomputable def pt (t at_ k:Int):Int:=IntKind.wrap .u64 (ishl .u64 t 12+IntKind.wrap .u64 (zaf .u64 (ishr .u64 at_ k) 511*8))
noncomputable def sOn (x25 x21:Int):Bool:=!((x25==3)||(ishr .u64 x21 60 != 8))
noncomputable def sSg (x27:Int):Bool:=!(ishr .i64 (IntKind.wrap .i64 (ishl .u64 x27 25)) 25 != IntKind.wrap .i64 x27)
noncomputable def ckF (x23 x24:List DV) (a:Int):Bool:=!((!zcN x23 x24 1 1 a 8)||(!zbL a 8))
noncomputable def okR (v:Bool) (e:Int):Bool:=!((((!v)||(zaf .u64 e 1==0))||(zaf .u64 e 6==4))||(ishr .u64 e 54 != 0))
noncomputable def tbF (e:Int):Int:=zaf .u64 (ishr .u64 e 10) 17592186044415
noncomputable def lfF (e:Int):Bool:=!(zaf .u64 e 10==0)
noncomputable def nbF (e:Int):Bool:=!(zaf .u64 e 208 != 0)
noncomputable def alF (al:Int→Bool) (m e:Int):Bool:=!((!al e)||(zaf .u64 (tbF e) m != 0))
noncomputable def vaF (e o:Int):Int:=IntKind.wrap .u64 (ishl .u64 (tbF e) 12+o)
theorem zvU (x0:List DV) (x1 x21:Int) (x23 x24:List DV) (x25 x26 x27:Int) (b1 b2 b3:List DV) (a2 a1 a0 e2 e1 e0:Int) (hb1:b1=zbm x0 1 a2 8) (hb2:b2=zbm b1 1 a1 8) (hb3:b3=zbm b2 1 a0 8) (h2:a2=pt (zaf .u64 x21 17592186044415) x27 30) (g2:e2=zbd x0 1 a2 8) (h1:a1=pt (tbF e2) x27 21) (g1:e1=zbd b1 1 a1 8) (h0:a0=pt (tbF e1) x27 12) (g0:e0=zbd b2 1 a0 8) :
  zsM x0 x1 x21 x23 x24 x25 x26 x27=zvr (sOn x25 x21) (sSg x27) (ckF x23 x24 a2) (okR (zaZ x0 1 a2 8) e2) (lfF e2) (alF (zaQ x1 x25 x26) 262143 e2) (nbF e2) (ckF x23 x24 a1) (okR (zaZ b1 1 a1 8) e1) (lfF e1) (alF (zaQ x1 x25 x26) 511 e1) (nbF e1) (ckF x23 x24 a0) (okR (zaZ b2 1 a0 8) e0) (lfF e0) (alF (zaQ x1 x25 x26) 0 e0) x27 (vaF e2 (zaf .u64 x27 1073741823)) (vaF e1 (zaf .u64 x27 2097151)) (vaF e0 (zaf .u64 x27 4095)):=by
 subst hb1 h2 g2 h1 hb2 g1 h0 hb3 g0
 rfl
theorem zvV (x0:List DV) (x1 x21:Int) (x23 x24:List DV) (x25 x26 x27:Int) (b1 b2 b3:List DV) (a2 a1 a0 e2 e1 e0:Int) (hb1:b1=zbm x0 1 a2 8) (hb2:b2=zbm b1 1 a1 8) (hb3:b3=zbm b2 1 a0 8) (h2:a2=pt (zaf .u64 x21 17592186044415) x27 30) (g2:e2=zbd x0 1 a2 8) (h1:a1=pt (tbF e2) x27 21) (g1:e1=zbd b1 1 a1 8) (h0:a0=pt (tbF e1) x27 12) (g0:e0=zbd b2 1 a0 8) :
  zsN x0 x1 x21 x23 x24 x25 x26 x27=zvs (sOn x25 x21) (sSg x27) (ckF x23 x24 a2) (okR (zaZ x0 1 a2 8) e2) (lfF e2) (alF (zaQ x1 x25 x26) 262143 e2) (nbF e2) (ckF x23 x24 a1) (okR (zaZ b1 1 a1 8) e1) (lfF e1) (alF (zaQ x1 x25 x26) 511 e1) (nbF e1) (ckF x23 x24 a0) (okR (zaZ b2 1 a0 8) e0) (lfF e0) (alF (zaQ x1 x25 x26) 0 e0):=by
 subst hb1 h2 g2 h1 hb2 g1 h0 hb3 g0
 rfl
theorem zvW (x0:List DV) (x1 x21:Int) (x23 x24:List DV) (x25 x26 x27:Int) (b1 b2 b3:List DV) (a2 a1 a0 e2 e1 e0:Int) (hb1:b1=zbm x0 1 a2 8) (hb2:b2=zbm b1 1 a1 8) (hb3:b3=zbm b2 1 a0 8) (h2:a2=pt (zaf .u64 x21 17592186044415) x27 30) (g2:e2=zbd x0 1 a2 8) (h1:a1=pt (tbF e2) x27 21) (g1:e1=zbd b1 1 a1 8) (h0:a0=pt (tbF e1) x27 12) (g0:e0=zbd b2 1 a0 8) :
  zsO x0 x1 x21 x23 x24 x25 x26 x27=zvt (sOn x25 x21) (sSg x27) (ckF x23 x24 a2) (okR (zaZ x0 1 a2 8) e2) (lfF e2) (alF (zaQ x1 x25 x26) 262143 e2) (nbF e2) (ckF x23 x24 a1) (okR (zaZ b1 1 a1 8) e1) (lfF e1) (alF (zaQ x1 x25 x26) 511 e1) (nbF e1) (ckF x23 x24 a0) (okR (zaZ b2 1 a0 8) e0) (lfF e0) (alF (zaQ x1 x25 x26) 0 e0) e2 e1 e0:=by
 subst hb1 h2 g2 h1 hb2 g1 h0 hb3 g0
 rfl
theorem zvX (x0:List DV) (x1 x21:Int) (x23 x24:List DV) (x25 x26 x27:Int) (b1 b2 b3:List DV) (a2 a1 a0 e2 e1 e0:Int) (hb1:b1=zbm x0 1 a2 8) (hb2:b2=zbm b1 1 a1 8) (hb3:b3=zbm b2 1 a0 8) (h2:a2=pt (zaf .u64 x21 17592186044415) x27 30) (g2:e2=zbd x0 1 a2 8) (h1:a1=pt (tbF e2) x27 21) (g1:e1=zbd b1 1 a1 8) (h0:a0=pt (tbF e1) x27 12) (g0:e0=zbd b2 1 a0 8) :
  zsP x0 x1 x21 x23 x24 x25 x26 x27=zvu (sOn x25 x21) (sSg x27) (ckF x23 x24 a2) (okR (zaZ x0 1 a2 8) e2) (lfF e2) (alF (zaQ x1 x25 x26) 262143 e2) (nbF e2) (ckF x23 x24 a1) (okR (zaZ b1 1 a1 8) e1) (lfF e1) (alF (zaQ x1 x25 x26) 511 e1) (nbF e1) (ckF x23 x24 a0) (okR (zaZ b2 1 a0 8) e0) (lfF e0) (alF (zaQ x1 x25 x26) 0 e0) a2 a1 a0:=by
 subst hb1 h2 g2 h1 hb2 g1 h0 hb3 g0
 rfl
theorem zvY (x0:List DV) (x1 x21:Int) (x23 x24:List DV) (x25 x26 x27:Int) (b1 b2 b3:List DV) (a2 a1 a0 e2 e1 e0:Int) (hb1:b1=zbm x0 1 a2 8) (hb2:b2=zbm b1 1 a1 8) (hb3:b3=zbm b2 1 a0 8) (h2:a2=pt (zaf .u64 x21 17592186044415) x27 30) (g2:e2=zbd x0 1 a2 8) (h1:a1=pt (tbF e2) x27 21) (g1:e1=zbd b1 1 a1 8) (h0:a0=pt (tbF e1) x27 12) (g0:e0=zbd b2 1 a0 8) :
  zsQ x0 x1 x21 x23 x24 x25 x26 x27=zvv (sOn x25 x21) (sSg x27) (ckF x23 x24 a2) (okR (zaZ x0 1 a2 8) e2) (lfF e2) (alF (zaQ x1 x25 x26) 262143 e2) (nbF e2) (ckF x23 x24 a1) (okR (zaZ b1 1 a1 8) e1) (lfF e1) (alF (zaQ x1 x25 x26) 511 e1) (nbF e1) (ckF x23 x24 a0) (okR (zaZ b2 1 a0 8) e0) (lfF e0) (alF (zaQ x1 x25 x26) 0 e0) (zgD x26) (zfQ x26) (zgD x26) (zfQ x26) (zgD x26) (zfQ x26):=by
 subst hb1 h2 g2 h1 hb2 g1 h0 hb3 g0
 rfl
theorem zvZ (x0:List DV) (x1 x21:Int) (x23 x24:List DV) (x25 x26 x27:Int) (b1 b2 b3:List DV) (a2 a1 a0 e2 e1 e0:Int) (hb1:b1=zbm x0 1 a2 8) (hb2:b2=zbm b1 1 a1 8) (hb3:b3=zbm b2 1 a0 8) (h2:a2=pt (zaf .u64 x21 17592186044415) x27 30) (g2:e2=zbd x0 1 a2 8) (h1:a1=pt (tbF e2) x27 21) (g1:e1=zbd b1 1 a1 8) (h0:a0=pt (tbF e1) x27 12) (g0:e0=zbd b2 1 a0 8) :
  zsR x0 x1 x21 x23 x24 x25 x26 x27=zvw (sOn x25 x21) (sSg x27) (ckF x23 x24 a2) (okR (zaZ x0 1 a2 8) e2) (lfF e2) (alF (zaQ x1 x25 x26) 262143 e2) (nbF e2) (ckF x23 x24 a1) (okR (zaZ b1 1 a1 8) e1) (lfF e1) (alF (zaQ x1 x25 x26) 511 e1) (nbF e1) (ckF x23 x24 a0) (okR (zaZ b2 1 a0 8) e0) (lfF e0) (alF (zaQ x1 x25 x26) 0 e0) x0 b1 b2 b3:=by
 subst hb1 h2 g2 h1 hb2 g1 h0 hb3 g0
 rfl
theorem zv0 (x33 x39 x52 x67 x75 x81 x74 x118 x133 x141 x147 x140 x193 x208 x215 x221:Bool) (x27 v2 v1 v0 e2 e1 e0 a2 a1 a0 fl pg:Int):zvr x33 x39 x52 x67 x75 x81 x74 x118 x133 x141 x147 x140 x193 x208 x215 x221 x27 v2 v1 v0 =
  (tree x33 x39 x52 x67 x75 x81 x74 x118 x133 x141 x147 x140 x193 x208 x215 x221 (x27,-1,0,0,0) (0,0,0,0,pg) (0,0,0,0,fl) (0,0,0,0,pg) (v2,2,e2,a2,0) (0,0,0,0,fl) (0,0,0,0,pg) (v1,1,e1,a1,0) (0,0,0,0,fl) (0,0,0,0,pg) (v0,0,e0,a0,0)).1:=by
 all_goals (cases x33<;>try rfl)
 all_goals (cases x39<;>try rfl)
 all_goals (cases x52<;>try rfl)
 all_goals (cases x67<;>try rfl)
 all_goals (cases x75<;>try rfl)
 all_goals (cases x81<;>try rfl)
 all_goals (cases x74<;>try rfl)
 all_goals (cases x118<;>try rfl)
 all_goals (cases x133<;>try rfl)
 all_goals (cases x141<;>try rfl)
 all_goals (cases x147<;>try rfl)
 all_goals (cases x140<;>try rfl)
 all_goals (cases x193<;>try rfl)
 all_goals (cases x208<;>try rfl)
 all_goals (cases x215<;>try rfl)
 all_goals (cases x221<;>try rfl)
theorem zv1 (x33 x39 x52 x67 x75 x81 x74 x118 x133 x141 x147 x140 x193 x208 x215 x221:Bool) (x27 v2 v1 v0 e2 e1 e0 a2 a1 a0 fl pg:Int):zvs x33 x39 x52 x67 x75 x81 x74 x118 x133 x141 x147 x140 x193 x208 x215 x221  =
  (tree x33 x39 x52 x67 x75 x81 x74 x118 x133 x141 x147 x140 x193 x208 x215 x221 (x27,-1,0,0,0) (0,0,0,0,pg) (0,0,0,0,fl) (0,0,0,0,pg) (v2,2,e2,a2,0) (0,0,0,0,fl) (0,0,0,0,pg) (v1,1,e1,a1,0) (0,0,0,0,fl) (0,0,0,0,pg) (v0,0,e0,a0,0)).2.1:=by
 all_goals (cases x33<;>try rfl)
 all_goals (cases x39<;>try rfl)
 all_goals (cases x52<;>try rfl)
 all_goals (cases x67<;>try rfl)
 all_goals (cases x75<;>try rfl)
 all_goals (cases x81<;>try rfl)
 all_goals (cases x74<;>try rfl)
 all_goals (cases x118<;>try rfl)
 all_goals (cases x133<;>try rfl)
 all_goals (cases x141<;>try rfl)
 all_goals (cases x147<;>try rfl)
 all_goals (cases x140<;>try rfl)
 all_goals (cases x193<;>try rfl)
 all_goals (cases x208<;>try rfl)
 all_goals (cases x215<;>try rfl)
 all_goals (cases x221<;>try rfl)
theorem zv2 (x33 x39 x52 x67 x75 x81 x74 x118 x133 x141 x147 x140 x193 x208 x215 x221:Bool) (x27 v2 v1 v0 e2 e1 e0 a2 a1 a0 fl pg:Int):zvt x33 x39 x52 x67 x75 x81 x74 x118 x133 x141 x147 x140 x193 x208 x215 x221 e2 e1 e0 =
  (tree x33 x39 x52 x67 x75 x81 x74 x118 x133 x141 x147 x140 x193 x208 x215 x221 (x27,-1,0,0,0) (0,0,0,0,pg) (0,0,0,0,fl) (0,0,0,0,pg) (v2,2,e2,a2,0) (0,0,0,0,fl) (0,0,0,0,pg) (v1,1,e1,a1,0) (0,0,0,0,fl) (0,0,0,0,pg) (v0,0,e0,a0,0)).2.2.1:=by
 all_goals (cases x33<;>try rfl)
 all_goals (cases x39<;>try rfl)
 all_goals (cases x52<;>try rfl)
 all_goals (cases x67<;>try rfl)
 all_goals (cases x75<;>try rfl)
 all_goals (cases x81<;>try rfl)
 all_goals (cases x74<;>try rfl)
 all_goals (cases x118<;>try rfl)
 all_goals (cases x133<;>try rfl)
 all_goals (cases x141<;>try rfl)
 all_goals (cases x147<;>try rfl)
 all_goals (cases x140<;>try rfl)
 all_goals (cases x193<;>try rfl)
 all_goals (cases x208<;>try rfl)
 all_goals (cases x215<;>try rfl)
 all_goals (cases x221<;>try rfl)
theorem zv3 (x33 x39 x52 x67 x75 x81 x74 x118 x133 x141 x147 x140 x193 x208 x215 x221:Bool) (x27 v2 v1 v0 e2 e1 e0 a2 a1 a0 fl pg:Int):zvu x33 x39 x52 x67 x75 x81 x74 x118 x133 x141 x147 x140 x193 x208 x215 x221 a2 a1 a0 =
  (tree x33 x39 x52 x67 x75 x81 x74 x118 x133 x141 x147 x140 x193 x208 x215 x221 (x27,-1,0,0,0) (0,0,0,0,pg) (0,0,0,0,fl) (0,0,0,0,pg) (v2,2,e2,a2,0) (0,0,0,0,fl) (0,0,0,0,pg) (v1,1,e1,a1,0) (0,0,0,0,fl) (0,0,0,0,pg) (v0,0,e0,a0,0)).2.2.2.1:=by
 all_goals (cases x33<;>try rfl)
 all_goals (cases x39<;>try rfl)
 all_goals (cases x52<;>try rfl)
 all_goals (cases x67<;>try rfl)
 all_goals (cases x75<;>try rfl)
 all_goals (cases x81<;>try rfl)
 all_goals (cases x74<;>try rfl)
 all_goals (cases x118<;>try rfl)
 all_goals (cases x133<;>try rfl)
 all_goals (cases x141<;>try rfl)
 all_goals (cases x147<;>try rfl)
 all_goals (cases x140<;>try rfl)
 all_goals (cases x193<;>try rfl)
 all_goals (cases x208<;>try rfl)
 all_goals (cases x215<;>try rfl)
 all_goals (cases x221<;>try rfl)
theorem zv4 (x33 x39 x52 x67 x75 x81 x74 x118 x133 x141 x147 x140 x193 x208 x215 x221:Bool) (x27 v2 v1 v0 e2 e1 e0 a2 a1 a0 fl pg:Int):zvv x33 x39 x52 x67 x75 x81 x74 x118 x133 x141 x147 x140 x193 x208 x215 x221 fl pg fl pg fl pg =
  (tree x33 x39 x52 x67 x75 x81 x74 x118 x133 x141 x147 x140 x193 x208 x215 x221 (x27,-1,0,0,0) (0,0,0,0,pg) (0,0,0,0,fl) (0,0,0,0,pg) (v2,2,e2,a2,0) (0,0,0,0,fl) (0,0,0,0,pg) (v1,1,e1,a1,0) (0,0,0,0,fl) (0,0,0,0,pg) (v0,0,e0,a0,0)).2.2.2.2:=by
 all_goals (cases x33<;>try rfl)
 all_goals (cases x39<;>try rfl)
 all_goals (cases x52<;>try rfl)
 all_goals (cases x67<;>try rfl)
 all_goals (cases x75<;>try rfl)
 all_goals (cases x81<;>try rfl)
 all_goals (cases x74<;>try rfl)
 all_goals (cases x118<;>try rfl)
 all_goals (cases x133<;>try rfl)
 all_goals (cases x141<;>try rfl)
 all_goals (cases x147<;>try rfl)
 all_goals (cases x140<;>try rfl)
 all_goals (cases x193<;>try rfl)
 all_goals (cases x208<;>try rfl)
 all_goals (cases x215<;>try rfl)
 all_goals (cases x221<;>try rfl)
theorem zv5 (x33 x39 x52 x67 x75 x81 x74 x118 x133 x141 x147 x140 x193 x208 x215 x221:Bool) (x0 b1 b2 b3:List DV):zvw x33 x39 x52 x67 x75 x81 x74 x118 x133 x141 x147 x140 x193 x208 x215 x221 x0 b1 b2 b3=tree x33 x39 x52 x67 x75 x81 x74 x118 x133 x141 x147 x140 x193 x208 x215 x221 x0 x0 x0 b1 b1 b1 b2 b2 b2 b3 b3:=by
 all_goals (cases x33<;>try rfl)
 all_goals (cases x39<;>try rfl)
 all_goals (cases x52<;>try rfl)
 all_goals (cases x67<;>try rfl)
 all_goals (cases x75<;>try rfl)
 all_goals (cases x81<;>try rfl)
 all_goals (cases x74<;>try rfl)
 all_goals (cases x118<;>try rfl)
 all_goals (cases x133<;>try rfl)
 all_goals (cases x141<;>try rfl)
 all_goals (cases x147<;>try rfl)
 all_goals (cases x140<;>try rfl)
 all_goals (cases x193<;>try rfl)
 all_goals (cases x208<;>try rfl)
 all_goals (cases x215<;>try rfl)
 all_goals (cases x221<;>try rfl)
end Go.Proofs.YtedoffkaehcnmaaDoor
namespace Go.Proofs.YtedoffkaehcnmaaDoor
open Go Go.Sx
set_option maxRecDepth 100000
theorem zuo {α:Type} (x33 x39 x67 x75 x81 x74 x118 x133 x141 x147 x140 x193 x208 x215 x221 y67 y75 y81 y74 y118 y133 y141 y147 y140 y193 y208 y215 y221:Bool) (no sg f2 p2 v2 f1 p1 v1 f0 p0 v0 wp2 wv2 wf1 wp1 wv1 wf0 wp0 wv0:α):tree x33 x39 false x67 x75 x81 x74 x118 x133 x141 x147 x140 x193 x208 x215 x221 no sg f2 p2 v2 f1 p1 v1 f0 p0 v0=tree x33 x39 false y67 y75 y81 y74 y118 y133 y141 y147 y140 y193 y208 y215 y221 no sg f2 wp2 wv2 wf1 wp1 wv1 wf0 wp0 wv0:=by
 all_goals (cases x33<;>try rfl)
 all_goals (cases x39<;>try rfl)
theorem zup {α:Type} (x33 x39 x52 x67 x75 x81 x74 x133 x141 x147 x140 x193 x208 x215 x221 y133 y141 y147 y140 y193 y208 y215 y221:Bool) (no sg f2 p2 v2 f1 p1 v1 f0 p0 v0 wp1 wv1 wf0 wp0 wv0:α):tree x33 x39 x52 x67 x75 x81 x74 false x133 x141 x147 x140 x193 x208 x215 x221 no sg f2 p2 v2 f1 p1 v1 f0 p0 v0=tree x33 x39 x52 x67 x75 x81 x74 false y133 y141 y147 y140 y193 y208 y215 y221 no sg f2 p2 v2 f1 wp1 wv1 wf0 wp0 wv0:=by
 all_goals (cases x33<;>try rfl)
 all_goals (cases x39<;>try rfl)
 all_goals (cases x52<;>try rfl)
 all_goals (cases x67<;>try rfl)
 all_goals (cases x75<;>try rfl)
 all_goals (cases x81<;>try rfl)
 all_goals (cases x74<;>try rfl)
theorem zuq {α:Type} (x33 x39 x52 x67 x75 x81 x74 x118 x133 x141 x147 x140 x208 x215 x221 y208 y215 y221:Bool) (no sg f2 p2 v2 f1 p1 v1 f0 p0 v0 wp0 wv0:α):tree x33 x39 x52 x67 x75 x81 x74 x118 x133 x141 x147 x140 false x208 x215 x221 no sg f2 p2 v2 f1 p1 v1 f0 p0 v0=tree x33 x39 x52 x67 x75 x81 x74 x118 x133 x141 x147 x140 false y208 y215 y221 no sg f2 p2 v2 f1 p1 v1 f0 wp0 wv0:=by
 all_goals (cases x33<;>try rfl)
 all_goals (cases x39<;>try rfl)
 all_goals (cases x52<;>try rfl)
 all_goals (cases x67<;>try rfl)
 all_goals (cases x75<;>try rfl)
 all_goals (cases x81<;>try rfl)
 all_goals (cases x74<;>try rfl)
 all_goals (cases x118<;>try rfl)
 all_goals (cases x133<;>try rfl)
 all_goals (cases x141<;>try rfl)
 all_goals (cases x147<;>try rfl)
 all_goals (cases x140<;>try rfl)
abbrev WT:Type:=Int×Int×Int×Int×Int
noncomputable def ptq (t q:Int):Int:=IntKind.wrap .u64 (ishl .u64 t 12+IntKind.wrap .u64 (zaf .u64 q 511*8))
noncomputable def WR (ck:Int→Bool) (en:Int→Int) (al:Int→Bool) (pg fl:Int) (on sg:Bool) (t at_ q2 q1 q0 o2 o1 o0:Int):WT :=
 let a2:=ptq t q2
 let e2:=en a2
 let a1:=ptq (tbF e2) q1
 let e1:=en a1
 let a0:=ptq (tbF e1) q0
 let e0:=en a0
 tree on sg (ck a2) (okR true e2) (lfF e2) (alF al 262143 e2) (nbF e2) (ck a1) (okR true e1) (lfF e1) (alF al 511 e1) (nbF e1) (ck a0) (okR true e0) (lfF e0) (alF al 0 e0) (at_,-1,0,0,0) (0,0,0,0,pg) (0,0,0,0,fl) (0,0,0,0,pg) (vaF e2 o2,2,e2,a2,0) (0,0,0,0,fl) (0,0,0,0,pg) (vaF e1 o1,1,e1,a1,0) (0,0,0,0,fl) (0,0,0,0,pg) (vaF e0 o0,0,e0,a0,0)
noncomputable def WA (x0:List DV) (x1 x21:Int) (x23 x24:List DV) (x25 x26 x27:Int):WT:=WR (ckF x23 x24) (ent x0) (zaQ x1 x25 x26) (zfQ x26) (zgD x26) (sOn x25 x21) (sSg x27) (zaf .u64 x21 17592186044415) x27
 (ishr .u64 x27 30) (ishr .u64 x27 21) (ishr .u64 x27 12) (zaf .u64 x27 1073741823) (zaf .u64 x27 2097151) (zaf .u64 x27 4095)
theorem zlP {x23 x24:List DV} {a:Int} (h:ckF x23 x24 a=true):zbL a 8=true:=by
 unfold ckF at h
 cases h2:zbL a 8 with
 | true=>rfl
 | false=>rw [h2] at h;simp at h
theorem zr3 (x0:List DV) (x1 x21:Int) (x23 x24:List DV) (x25 x26 x27:Int) (hs:zmY x0) (b1 b2 b3:List DV) (a2 a1 a0 e2 e1 e0:Int) (hb1:b1=zbm x0 1 a2 8) (hb2:b2=zbm b1 1 a1 8) (hb3:b3=zbm b2 1 a0 8) (h2:a2=pt (zaf .u64 x21 17592186044415) x27 30) (g2:e2=zbd x0 1 a2 8) (h1:a1=pt (tbF e2) x27 21) (g1:e1=zbd b1 1 a1 8) (h0:a0=pt (tbF e1) x27 12) (g0:e0=zbd b2 1 a0 8) :
  tree (sOn x25 x21) (sSg x27) (ckF x23 x24 a2) (okR (zaZ x0 1 a2 8) e2) (lfF e2) (alF (zaQ x1 x25 x26) 262143 e2) (nbF e2) (ckF x23 x24 a1) (okR (zaZ b1 1 a1 8) e1) (lfF e1) (alF (zaQ x1 x25 x26) 511 e1) (nbF e1) (ckF x23 x24 a0) (okR (zaZ b2 1 a0 8) e0) (lfF e0) (alF (zaQ x1 x25 x26) 0 e0) (x27,-1,0,0,0) (0,0,0,0,zfQ x26) (0,0,0,0,zgD x26) (0,0,0,0,zfQ x26) (vaF e2 (zaf .u64 x27 1073741823),2,e2,a2,0) (0,0,0,0,zgD x26) (0,0,0,0,zfQ x26) (vaF e1 (zaf .u64 x27 2097151),1,e1,a1,0) (0,0,0,0,zgD x26) (0,0,0,0,zfQ x26) (vaF e0 (zaf .u64 x27 4095),0,e0,a0,0)=WA x0 x1 x21 x23 x24 x25 x26 x27∧tree (sOn x25 x21) (sSg x27) (ckF x23 x24 a2) (okR (zaZ x0 1 a2 8) e2) (lfF e2) (alF (zaQ x1 x25 x26) 262143 e2) (nbF e2) (ckF x23 x24 a1) (okR (zaZ b1 1 a1 8) e1) (lfF e1) (alF (zaQ x1 x25 x26) 511 e1) (nbF e1) (ckF x23 x24 a0) (okR (zaZ b2 1 a0 8) e0) (lfF e0) (alF (zaQ x1 x25 x26) 0 e0) x0 x0 x0 b1 b1 b1 b2 b2 b2 b3 b3=x0:=by
 unfold WA WR
 extract_lets -merge c2 d2 c1 d1 c0 d0
 have k2:a2=c2:=h2
 have l2:e2=d2:=by rw [g2,k2];rfl
 have k1:a1=c1:=by rw [h1,l2];rfl
 clear_value c2 d2 c1
 subst k2 l2 k1
 cases q2:ckF x23 x24 a2 with
 | false =>
  refine ⟨zuo ..,?_⟩
  cases sOn x25 x21<;>cases sSg x27<;>rfl
 | true =>
  obtain ⟨_,r2,s2⟩:=zlO x0 a2 (zlP q2)
  have hb1:b1=x0:=hb1.trans (s2 hs)
  subst hb1
  have l1:e1=d1:=g1
  have k0:a0=c0:=by rw [h0,l1];rfl
  clear_value d1 c0
  subst l1 k0
  rw [r2]
  cases q1:ckF x23 x24 a1 with
  | false =>
   refine ⟨zup ..,?_⟩
   generalize sOn x25 x21=u1
   generalize sSg x27=u2
   generalize okR true e2=u3
   generalize lfF e2=u4
   generalize alF (zaQ x1 x25 x26) 262143 e2=u5
   generalize nbF e2=u6
   cases u1<;>cases u2<;>cases u3<;>cases u4<;>cases u5<;>cases u6<;>rfl
  | true =>
   obtain ⟨_,r1,s1⟩:=zlO b1 a1 (zlP q1)
   have hb2:b2=b1:=hb2.trans (s1 hs)
   subst hb2
   have l0:e0=d0:=g0
   clear_value d0
   subst l0
   rw [r1]
   cases q0:ckF x23 x24 a0 with
   | false =>
    refine ⟨zuq ..,?_⟩
    generalize sOn x25 x21=u1
    generalize sSg x27=u2
    generalize okR true e2=u3
    generalize lfF e2=u4
    generalize alF (zaQ x1 x25 x26) 262143 e2=u5
    generalize nbF e2=u6
    generalize okR true e1=u7
    generalize lfF e1=u8
    generalize alF (zaQ x1 x25 x26) 511 e1=u9
    generalize nbF e1=u10
    cases u1<;>try rfl
    all_goals (cases u2<;>try rfl)
    all_goals (cases u3<;>try rfl)
    all_goals (cases u4<;>try rfl)
    all_goals (cases u5<;>try rfl)
    all_goals (cases u6<;>try rfl)
    all_goals (cases u7<;>try rfl)
    all_goals (cases u8<;>try rfl)
    all_goals (cases u9<;>try rfl)
    all_goals (cases u10<;>try rfl)
   | true =>
    obtain ⟨_,r0,s0⟩:=zlO b2 a0 (zlP q0)
    have hb3:b3=b2:=hb3.trans (s0 hs)
    subst hb3
    rw [r0]
    refine ⟨rfl,?_⟩
    generalize sOn x25 x21=u1
    generalize sSg x27=u2
    generalize okR true e2=u3
    generalize lfF e2=u4
    generalize alF (zaQ x1 x25 x26) 262143 e2=u5
    generalize nbF e2=u6
    generalize okR true e1=u7
    generalize lfF e1=u8
    generalize alF (zaQ x1 x25 x26) 511 e1=u9
    generalize nbF e1=u10
    generalize okR true e0=u11
    generalize lfF e0=u12
    generalize alF (zaQ x1 x25 x26) 0 e0=u13
    cases u1<;>try rfl
    all_goals (cases u2<;>try rfl)
    all_goals (cases u3<;>try rfl)
    all_goals (cases u4<;>try rfl)
    all_goals (cases u5<;>try rfl)
    all_goals (cases u6<;>try rfl)
    all_goals (cases u7<;>try rfl)
    all_goals (cases u8<;>try rfl)
    all_goals (cases u9<;>try rfl)
    all_goals (cases u10<;>try rfl)
    all_goals (cases u11<;>try rfl)
    all_goals (cases u12<;>try rfl)
    all_goals (cases u13<;>try rfl)
theorem zr4 (x0:List DV) (x1 x21:Int) (x23 x24:List DV) (x25 x26 x27:Int) (hs:zmY x0):zsM x0 x1 x21 x23 x24 x25 x26 x27=(WA x0 x1 x21 x23 x24 x25 x26 x27).1∧zsN x0 x1 x21 x23 x24 x25 x26 x27=(WA x0 x1 x21 x23 x24 x25 x26 x27).2.1∧zsO x0 x1 x21 x23 x24 x25 x26 x27=(WA x0 x1 x21 x23 x24 x25 x26 x27).2.2.1∧zsP x0 x1 x21 x23 x24 x25 x26 x27=(WA x0 x1 x21 x23 x24 x25 x26 x27).2.2.2.1∧zsQ x0 x1 x21 x23 x24 x25 x26 x27=(WA x0 x1 x21 x23 x24 x25 x26 x27).2.2.2.2∧zsR x0 x1 x21 x23 x24 x25 x26 x27=x0:=by
 obtain ⟨t,s⟩:=zr3 x0 x1 x21 x23 x24 x25 x26 x27 hs _ _ _ _ _ _ _ _ _ rfl rfl rfl rfl rfl rfl rfl rfl rfl
 refine ⟨?_,?_,?_,?_,?_,?_⟩
 ·exact (zvU x0 x1 x21 x23 x24 x25 x26 x27 _ _ _ _ _ _ _ _ _ rfl rfl rfl rfl rfl rfl rfl rfl rfl).trans ((zv0 .. ).trans (congrArg (fun z:WT=>z.1) t))
 ·exact (zvV x0 x1 x21 x23 x24 x25 x26 x27 _ _ _ _ _ _ _ _ _ rfl rfl rfl rfl rfl rfl rfl rfl rfl).trans ((zv1 .. ).trans (congrArg (fun z:WT=>z.2.1) t))
 ·exact (zvW x0 x1 x21 x23 x24 x25 x26 x27 _ _ _ _ _ _ _ _ _ rfl rfl rfl rfl rfl rfl rfl rfl rfl).trans ((zv2 .. ).trans (congrArg (fun z:WT=>z.2.2.1) t))
 ·exact (zvX x0 x1 x21 x23 x24 x25 x26 x27 _ _ _ _ _ _ _ _ _ rfl rfl rfl rfl rfl rfl rfl rfl rfl).trans ((zv3 .. ).trans (congrArg (fun z:WT=>z.2.2.2.1) t))
 ·exact (zvY x0 x1 x21 x23 x24 x25 x26 x27 _ _ _ _ _ _ _ _ _ rfl rfl rfl rfl rfl rfl rfl rfl rfl).trans ((zv4 .. ).trans (congrArg (fun z:WT=>z.2.2.2.2) t))
 ·exact (zvZ x0 x1 x21 x23 x24 x25 x26 x27 _ _ _ _ _ _ _ _ _ rfl rfl rfl rfl rfl rfl rfl rfl rfl).trans ((zv5 .. ).trans s)
theorem zr5 {c x:Bool} (l:List (Bool×Bool)) (h:c=true→x=true):ow (l++[(c,true)]) x=true:=by
 cases c with
 | true=>rw [h rfl];unfold ow;simp
 | false=>unfold ow;simp
theorem ztv (x0:List DV) (x1 x21:Int) (x23 x24:List DV) (x25 x26 x27:Int):p13 x0 x1 x21 x23 x24 x25 x26 x27=true:=by
 unfold p13
 simp only [zvp]
 have k:∀ (u:Bool) (b:List DV) (a:Int),(!(u||(!zbL a 8)))=true→p14 b 1 a 8=true:=fun u b a h=>by
  cases h2:zbL a 8 with
  | true=>exact (zlO b a h2).1
  | false=>rw [h2] at h;simp at h
 have o1:∀ (x y c z:Bool),(c=true→z=true)→ow [(x,true),(y,true),(c,true)] z=true:=fun x y c z h=>zr5 [(x,true),(y,true)] h
 have o2:∀ (x c z:Bool),(c=true→z=true)→ow [(x,true),(c,true)] z=true:=fun x c z h=>zr5 [(x,true)] h
 simp only [List.all_cons,List.all_nil,id_eq,Bool.and_true,zbQ,o1 _ _ _ _ (k _ _ _),o2 _ _ _ (k _ _ _),Bool.and_self]
end Go.Proofs.YtedoffkaehcnmaaDoor
namespace Go.Proofs.YtedoffkaehcnmaaDoor
open Go Go.Sx
set_option maxRecDepth 100000
theorem zp4 {α:Type} {x33 x39 x52 x67 x75 x81 x74 x118 x133 x141 x147 x140 x193 x208 x215 x221:Bool} {no sg f2 p2 v2 f1 p1 v1 f0 p0 v0 r:α}
  (h:tree x33 x39 x52 x67 x75 x81 x74 x118 x133 x141 x147 x140 x193 x208 x215 x221 no sg f2 p2 v2 f1 p1 v1 f0 p0 v0=r) :
  (x33=false∧r=no)∨(x33=true∧(r=sg∨r=f2∨r=p2∨r=f1∨r=p1∨r=f0∨r=p0)) ∨
  ((x33=true∧x39=true∧x52=true∧x67=true∧x75=true∧x81=true)∧r=v2) ∨
  ((x33=true∧x39=true∧x52=true∧x67=true∧x75=false∧x74=true)∧(x118=true∧x133=true∧x141=true∧x147=true)∧r=v1) ∨
  ((x33=true∧x39=true∧x52=true∧x67=true∧x75=false∧x74=true)∧(x118=true∧x133=true∧x141=false∧x140=true)∧(x193=true∧x208=true∧x215=true∧x221=true)∧r=v0):=by
 subst h
 cases x33
 ·exact .inl ⟨rfl,rfl⟩
 refine .inr ?_
 cases x39
 ·exact .inl ⟨rfl,.inl rfl⟩
 cases x52
 ·exact .inl ⟨rfl,.inr (.inl rfl)⟩
 cases x67
 ·exact .inl ⟨rfl,.inr (.inr (.inl rfl))⟩
 cases x75
 ·cases x74
  ·exact .inl ⟨rfl,.inr (.inr (.inl rfl))⟩
  cases x118
  ·exact .inl ⟨rfl,.inr (.inr (.inr (.inl rfl)))⟩
  cases x133
  ·exact .inl ⟨rfl,.inr (.inr (.inr (.inr (.inl rfl))))⟩
  cases x141
  ·cases x140
   ·exact .inl ⟨rfl,.inr (.inr (.inr (.inr (.inl rfl))))⟩
   cases x193
   ·exact .inl ⟨rfl,.inr (.inr (.inr (.inr (.inr (.inl rfl)))))⟩
   cases x208
   ·exact .inl ⟨rfl,.inr (.inr (.inr (.inr (.inr (.inr rfl)))))⟩
   cases x215
   ·exact .inl ⟨rfl,.inr (.inr (.inr (.inr (.inr (.inr rfl)))))⟩
   cases x221
   ·exact .inl ⟨rfl,.inr (.inr (.inr (.inr (.inr (.inr rfl)))))⟩
   ·exact .inr (.inr (.inr ⟨⟨rfl,rfl,rfl,rfl,rfl,rfl⟩,⟨rfl,rfl,rfl,rfl⟩,⟨rfl,rfl,rfl,rfl⟩,rfl⟩))
  ·cases x147
   ·exact .inl ⟨rfl,.inr (.inr (.inr (.inr (.inl rfl))))⟩
   ·exact .inr (.inr (.inl ⟨⟨rfl,rfl,rfl,rfl,rfl,rfl⟩,⟨rfl,rfl,rfl,rfl⟩,rfl⟩))
 ·cases x81
  ·exact .inl ⟨rfl,.inr (.inr (.inl rfl))⟩
  ·exact .inr (.inl ⟨⟨rfl,rfl,rfl,rfl,rfl,rfl⟩,rfl⟩)
theorem zr6 {al:Int→Bool} {m e:Int} (h:alF al m e=true):al e=true∧zaf .u64 (tbF e) m=0:=by
 unfold alF at h
 cases h1:al e with
 | false=>rw [h1] at h;simp at h
 | true =>
  rw [h1] at h
  refine ⟨rfl,?_⟩
  simpa using h
theorem zs4 (ck:Int→Bool) (en:Int→Int) (al:Int→Bool) (pg fl:Int) (on sg:Bool) (t a q2 q1 q0 o2 o1 o0:Int) :
  (on=false∧WR ck en al pg fl on sg t a q2 q1 q0 o2 o1 o0=(a,-1,0,0,0)) ∨
  (∃ c,(c=pg∨c=fl)∧WR ck en al pg fl on sg t a q2 q1 q0 o2 o1 o0=(0,0,0,0,c)) ∨
  (∃ e f,zaf .u64 (tbF e) 262143=0∧WR ck en al pg fl on sg t a q2 q1 q0 o2 o1 o0=(vaF e o2,2,e,f,0) ∧
   ∀ b r1 r0 w2 w1 w0,WR ck en al pg fl on sg t b q2 r1 r0 w2 w1 w0=(vaF e w2,2,e,f,0)) ∨
  (∃ e f,zaf .u64 (tbF e) 511=0∧WR ck en al pg fl on sg t a q2 q1 q0 o2 o1 o0=(vaF e o1,1,e,f,0) ∧
   ∀ b r0 w2 w1 w0,WR ck en al pg fl on sg t b q2 q1 r0 w2 w1 w0=(vaF e w1,1,e,f,0)) ∨
  (∃ e f,WR ck en al pg fl on sg t a q2 q1 q0 o2 o1 o0=(vaF e o0,0,e,f,0) ∧
   ∀ b w2 w1 w0,WR ck en al pg fl on sg t b q2 q1 q0 w2 w1 w0=(vaF e w0,0,e,f,0)):=by
 rcases zp4 (r:=WR ck en al pg fl on sg t a q2 q1 q0 o2 o1 o0) rfl with h | h | h | h | h
 ·exact .inl h
 ·refine .inr (.inl ?_)
  rcases h.2 with h | h | h | h | h | h | h
  ·exact ⟨_,.inl rfl,h⟩
  ·exact ⟨_,.inr rfl,h⟩
  ·exact ⟨_,.inl rfl,h⟩
  ·exact ⟨_,.inr rfl,h⟩
  ·exact ⟨_,.inl rfl,h⟩
  ·exact ⟨_,.inr rfl,h⟩
  ·exact ⟨_,.inl rfl,h⟩
 ·obtain ⟨⟨a1,a2,a3,a4,a5,a6⟩,h⟩:=h
  refine .inr (.inr (.inl ⟨_,_,(zr6 a6).2,h,fun b r1 r0 w2 w1 w0=>?_⟩))
  unfold WR
  extract_lets -merge c2 d2 c1 d1 c0 d0
  rw [a1,a2,show ck c2=true from a3,show okR true d2=true from a4,show lfF d2=true from a5,show alF al 262143 d2=true from a6]
  rfl
 ·obtain ⟨⟨a1,a2,a3,a4,a5,a6⟩,⟨b1,b2,b3,b4⟩,h⟩:=h
  refine .inr (.inr (.inr (.inl ⟨_,_,(zr6 b4).2,h,fun b r0 w2 w1 w0=>?_⟩)))
  unfold WR
  extract_lets -merge c2 d2 c1 d1 c0 d0
  rw [a1,a2,show ck c2=true from a3,show okR true d2=true from a4,show lfF d2=false from a5,show nbF d2=true from a6,
   show ck c1=true from b1,show okR true d1=true from b2,show lfF d1=true from b3,show alF al 511 d1=true from b4]
  rfl
 ·obtain ⟨⟨a1,a2,a3,a4,a5,a6⟩,⟨b1,b2,b3,b4⟩,⟨e1,e2,e3,e4⟩,h⟩:=h
  refine .inr (.inr (.inr (.inr ⟨_,_,h,fun b w2 w1 w0=>?_⟩)))
  unfold WR
  extract_lets -merge c2 d2 c1 d1 c0 d0
  rw [a1,a2,show ck c2=true from a3,show okR true d2=true from a4,show lfF d2=false from a5,show nbF d2=true from a6,
   show ck c1=true from b1,show okR true d1=true from b2,show lfF d1=false from b3,show nbF d1=true from b4,
   show ck c0=true from e1,show okR true d0=true from e2,show lfF d0=true from e3,show alF al 0 d0=true from e4]
  rfl
theorem zvx (k:Int):zgD k=bif (bif k==0 then false else !(bif k==2 then k==2 else k==3)) then 5 else bif k==0 then 1 else 7:=by kernel_rfl
theorem zvy (k:Int):zfQ k=bif (bif k==0 then false else !(bif k==2 then k==2 else k==3)) then 13 else bif k==0 then 12 else 15:=by kernel_rfl
theorem zur (k:Int):(zfQ k≠0∧zfQ k<16)∧(zgD k≠0∧zgD k<16):=by
 rw [zvx,zvy]
 generalize (k==0)=a
 generalize (k==2)=b
 generalize (k==3)=c
 cases a<;>cases b<;>cases c<;>decide
theorem zus (x:Int):ishl .u64 x 12=IntKind.u64.wrap (x*4096):=by
 unfold ishl
 show IntKind.u64.wrap (x*2^12)=_
 rfl
theorem zut (x:Int):ishl .u64 x 25=IntKind.u64.wrap (x*33554432):=by
 unfold ishl
 show IntKind.u64.wrap (x*2^25)=_
 rfl
theorem zs5 (e:Int):0≤tbF e∧tbF e<17592186044416:=by
 show 0≤IntKind.wrap .u64 ((BitVec.ofInt 64 (ishr .u64 e 10) &&& BitVec.ofInt 64 17592186044415).toNat:Int)∧IntKind.wrap .u64 ((BitVec.ofInt 64 (ishr .u64 e 10) &&& BitVec.ofInt 64 17592186044415).toNat:Int)<_
 rw [BitVec.toNat_and,ze2]
 have:(BitVec.ofInt 64 (ishr .u64 e 10)).toNat &&& (BitVec.ofInt 64 17592186044415).toNat≤17592186044415:=Nat.and_le_right
 omega
theorem zp5 {e o:Int} (h0:0≤o) (h1:o<1073741824):vaF e o=tbF e*4096+o:=by
 obtain ⟨a,b⟩:=zs5 e
 unfold vaF
 rw [zus,zjA (n:=tbF e*4096) (by omega) (by omega),zjA (by omega) (by omega)]
theorem zbW {a m p:Int} (h0:0≤a) (h1:a<18446744073709551616) (k j:Nat) (hj:18446744073709551615-(2^k-1)=2^k*(2^j-1)+0) (hk:2^k*2^j=18446744073709551616) (hm:m=((2^k-1:Nat):Int)) (hp:p=((2^k:Nat):Int)):zay .u64 a m=a-a%p:=by
 obtain ⟨n,rfl⟩:=zoo h0
 have hp0:0<2^k:=Nat.two_pow_pos k
 have hj0:0<2^j:=Nat.two_pow_pos j
 have hle:2^k≤18446744073709551616:=by rw [←hk];exact Nat.le_mul_of_pos_right _ hj0
 have hq:n/2^k<2^j:=by rw [Nat.div_lt_iff_lt_mul hp0,Nat.mul_comm,hk];omega
 rw [hm,zp3 (by omega) (by omega),hj]
 have e:n &&& (2^k*(2^j-1)+0)=2^k*(n/2^k):=by
  have:=zr2 (k:=k) (r:=n%2^k) (s:=0) (mod_lt n k) hp0 (n/2^k) (2^j-1)
  rw [zpb] at this
  rw [this,Nat.and_two_pow_sub_one_eq_mod,Nat.mod_eq_of_lt hq,Nat.and_zero,Nat.add_zero]
 rw [e,hp]
 have:=zpb n k
 omega
theorem zdy {h s p:Int} (k:Nat) (q:Nat) (hh:h=((2^k*q:Nat):Int)) (h1:h<18446744073709551616) (s0:0≤s) (s1:s<p) (hp:p=((2^k:Nat):Int)) (hk:k≤64):ilor .u64 h s=h+s:=by
 obtain ⟨n,rfl⟩:=zoo s0
 have hn:n<2^k:=by omega
 have:2^k≤2^64:=Nat.pow_le_pow_right (by decide) hk
 rw [hh,zvl (by omega) (by omega)]
 have e:=zs1 (k:=k) (r:=0) (s:=n) (Nat.two_pow_pos k) hn q 0
 rw [Nat.add_zero,Nat.mul_zero,Nat.zero_add,Nat.or_zero,Nat.zero_or] at e
 rw [e]
 omega
theorem zp6 {x:Int} (h0:0≤x) (h1:x<18446744073709551616):sSg x=(decide (x/274877906944=0)||decide (x/274877906944=67108863)):=by
 unfold sSg
 rw [zut]
 have e:ishr .i64 (IntKind.wrap .i64 (IntKind.u64.wrap (x*33554432))) 25=IntKind.wrap .i64 (IntKind.u64.wrap (x*33554432))/33554432:=by
  show Int.fdiv _ (2^25)=_
  exact Int.fdiv_eq_ediv_of_nonneg _ (by decide)
 rw [e]
 have hb:(!(IntKind.wrap .i64 (IntKind.u64.wrap (x*33554432))/33554432 != IntKind.wrap .i64 x))=decide (IntKind.wrap .i64 (IntKind.u64.wrap (x*33554432))/33554432=IntKind.wrap .i64 x):=by
  simp [bne,ibeq]
 rw [hb,ze2,wrap_i64,wrap_i64,←Bool.decide_or]
 apply decide_eq_decide.2
 have hm:x%18446744073709551616=x:=Int.emod_eq_of_lt h0 h1
 rw [hm,Int.emod_emod_of_dvd _ (Int.dvd_refl _)]
 have hx:x*33554432%18446744073709551616=x%549755813888*33554432:=by omega
 rw [hx]
 split<;>split<;>omega
theorem zv6 {e x y:Int} (x0:0≤x) (x1:x<18446744073709551616) (y0:0≤y) (y1:y<18446744073709551616) :
  zaf .u64 x 4095=x%4096∧ilor .u64 (zay .u64 x 4095) (zaf .u64 y 4095)=x-x%4096+y%4096 ∧
  ilor .u64 (zay .u64 (vaF e (zaf .u64 x 4095)) 4095) (zaf .u64 y 4095)=vaF e (y%4096)∧zaf .u64 (vaF e (zaf .u64 x 4095)) 4095=zaf .u64 x 4095:=by
  obtain ⟨t0,t1⟩:=zs5 e
  have hx:zaf .u64 x 4095=x%4096:=za7 x0 x1 12 (by decide) rfl rfl
  have hy:zaf .u64 y 4095=y%4096:=za7 y0 y1 12 (by decide) rfl rfl
  have hn:zay .u64 x 4095=x-x%4096:=zbW x0 x1 12 52 (by decide) (by decide) rfl rfl
  have hv:vaF e (x%4096)=tbF e*4096+x%4096:=zp5 (by omega) (by omega)
  have hw:vaF e (y%4096)=tbF e*4096+y%4096:=zp5 (by omega) (by omega)
  have hvn:zay .u64 (vaF e (x%4096)) 4095=vaF e (x%4096)-vaF e (x%4096)%4096:=zbW (by omega) (by omega) 12 52 (by decide) (by decide) rfl rfl
  have hvm:zaf .u64 (vaF e (x%4096)) 4095=vaF e (x%4096)%4096:=za7 (by omega) (by omega) 12 (by decide) rfl rfl
  have o1:ilor .u64 (x-x%4096) (y%4096)=x-x%4096+y%4096:=zdy 12 (x/4096).toNat (by rw [show (((2:Nat)^12*(x/4096).toNat:Nat):Int)=4096*(((x/4096).toNat:Nat):Int) from Int.natCast_mul _ _];omega) (by omega) (by omega) (by omega) rfl (by decide)
  have o2:ilor .u64 (vaF e (x%4096)-vaF e (x%4096)%4096) (y%4096)=vaF e (x%4096)-vaF e (x%4096)%4096+y%4096:=zdy 12 (vaF e (x%4096)/4096).toNat (by rw [show (((2:Nat)^12*(vaF e (x%4096)/4096).toNat:Nat):Int)=4096*(((vaF e (x%4096)/4096).toNat:Nat):Int) from Int.natCast_mul _ _];omega) (by omega) (by omega) (by omega) rfl (by decide)
  rw [hx,hy,hn,hvn,hvm,o1,o2]
  exact ⟨rfl,rfl,by omega,by omega⟩
theorem zv7 {e x y:Int} (x0:0≤x) (x1:x<18446744073709551616) (y0:0≤y) (y1:y<18446744073709551616) (h:zaf .u64 (tbF e) 511=0) :
  zaf .u64 x 2097151=x%2097152∧ilor .u64 (zay .u64 x 2097151) (zaf .u64 y 2097151)=x-x%2097152+y%2097152 ∧
  ilor .u64 (zay .u64 (vaF e (zaf .u64 x 2097151)) 2097151) (zaf .u64 y 2097151)=vaF e (y%2097152)∧zaf .u64 (vaF e (zaf .u64 x 2097151)) 2097151=zaf .u64 x 2097151:=by
  obtain ⟨t0,t1⟩:=zs5 e
  have ha:zaf .u64 (tbF e) 511=tbF e%512:=za7 t0 (by omega) 9 (by decide) rfl rfl
  have hx:zaf .u64 x 2097151=x%2097152:=za7 x0 x1 21 (by decide) rfl rfl
  have hy:zaf .u64 y 2097151=y%2097152:=za7 y0 y1 21 (by decide) rfl rfl
  have hn:zay .u64 x 2097151=x-x%2097152:=zbW x0 x1 21 43 (by decide) (by decide) rfl rfl
  have hv:vaF e (x%2097152)=tbF e*4096+x%2097152:=zp5 (by omega) (by omega)
  have hw:vaF e (y%2097152)=tbF e*4096+y%2097152:=zp5 (by omega) (by omega)
  have hvn:zay .u64 (vaF e (x%2097152)) 2097151=vaF e (x%2097152)-vaF e (x%2097152)%2097152:=zbW (by omega) (by omega) 21 43 (by decide) (by decide) rfl rfl
  have hvm:zaf .u64 (vaF e (x%2097152)) 2097151=vaF e (x%2097152)%2097152:=za7 (by omega) (by omega) 21 (by decide) rfl rfl
  have o1:ilor .u64 (x-x%2097152) (y%2097152)=x-x%2097152+y%2097152:=zdy 21 (x/2097152).toNat (by rw [show (((2:Nat)^21*(x/2097152).toNat:Nat):Int)=2097152*(((x/2097152).toNat:Nat):Int) from Int.natCast_mul _ _];omega) (by omega) (by omega) (by omega) rfl (by decide)
  have o2:ilor .u64 (vaF e (x%2097152)-vaF e (x%2097152)%2097152) (y%2097152)=vaF e (x%2097152)-vaF e (x%2097152)%2097152+y%2097152:=zdy 21 (vaF e (x%2097152)/2097152).toNat (by rw [show (((2:Nat)^21*(vaF e (x%2097152)/2097152).toNat:Nat):Int)=2097152*(((vaF e (x%2097152)/2097152).toNat:Nat):Int) from Int.natCast_mul _ _];omega) (by omega) (by omega) (by omega) rfl (by decide)
  rw [hx,hy,hn,hvn,hvm,o1,o2]
  exact ⟨rfl,rfl,by omega,by omega⟩
theorem zv8 {e x y:Int} (x0:0≤x) (x1:x<18446744073709551616) (y0:0≤y) (y1:y<18446744073709551616) (h:zaf .u64 (tbF e) 262143=0) :
  zaf .u64 x 1073741823=x%1073741824∧ilor .u64 (zay .u64 x 1073741823) (zaf .u64 y 1073741823)=x-x%1073741824+y%1073741824 ∧
  ilor .u64 (zay .u64 (vaF e (zaf .u64 x 1073741823)) 1073741823) (zaf .u64 y 1073741823)=vaF e (y%1073741824)∧zaf .u64 (vaF e (zaf .u64 x 1073741823)) 1073741823=zaf .u64 x 1073741823:=by
  obtain ⟨t0,t1⟩:=zs5 e
  have ha:zaf .u64 (tbF e) 262143=tbF e%262144:=za7 t0 (by omega) 18 (by decide) rfl rfl
  have hx:zaf .u64 x 1073741823=x%1073741824:=za7 x0 x1 30 (by decide) rfl rfl
  have hy:zaf .u64 y 1073741823=y%1073741824:=za7 y0 y1 30 (by decide) rfl rfl
  have hn:zay .u64 x 1073741823=x-x%1073741824:=zbW x0 x1 30 34 (by decide) (by decide) rfl rfl
  have hv:vaF e (x%1073741824)=tbF e*4096+x%1073741824:=zp5 (by omega) (by omega)
  have hw:vaF e (y%1073741824)=tbF e*4096+y%1073741824:=zp5 (by omega) (by omega)
  have hvn:zay .u64 (vaF e (x%1073741824)) 1073741823=vaF e (x%1073741824)-vaF e (x%1073741824)%1073741824:=zbW (by omega) (by omega) 30 34 (by decide) (by decide) rfl rfl
  have hvm:zaf .u64 (vaF e (x%1073741824)) 1073741823=vaF e (x%1073741824)%1073741824:=za7 (by omega) (by omega) 30 (by decide) rfl rfl
  have o1:ilor .u64 (x-x%1073741824) (y%1073741824)=x-x%1073741824+y%1073741824:=zdy 30 (x/1073741824).toNat (by rw [show (((2:Nat)^30*(x/1073741824).toNat:Nat):Int)=1073741824*(((x/1073741824).toNat:Nat):Int) from Int.natCast_mul _ _];omega) (by omega) (by omega) (by omega) rfl (by decide)
  have o2:ilor .u64 (vaF e (x%1073741824)-vaF e (x%1073741824)%1073741824) (y%1073741824)=vaF e (x%1073741824)-vaF e (x%1073741824)%1073741824+y%1073741824:=zdy 30 (vaF e (x%1073741824)/1073741824).toNat (by rw [show (((2:Nat)^30*(vaF e (x%1073741824)/1073741824).toNat:Nat):Int)=1073741824*(((vaF e (x%1073741824)/1073741824).toNat:Nat):Int) from Int.natCast_mul _ _];omega) (by omega) (by omega) (by omega) rfl (by decide)
  rw [hx,hy,hn,hvn,hvm,o1,o2]
  exact ⟨rfl,rfl,by omega,by omega⟩
theorem sh30 (x:Int):ishr .u64 x 30=x/1073741824:=zpc 30 (by decide) rfl
theorem sh21 (x:Int):ishr .u64 x 21=x/2097152:=zpc 21 (by decide) rfl
theorem sh12 (x:Int):ishr .u64 x 12=x/4096:=zpc 12 (by decide) rfl
theorem zjC (x0:List DV) (x1 x21:Int) (x23 x24:List DV) (x25 x26 x y:Int) (hx0:0≤x) (hx1:x<18446744073709551616) (hy0:0≤y) (hy1:y<18446744073709551616) :
  (∃ c,c≠0∧c<16∧WA x0 x1 x21 x23 x24 x25 x26 x=(0,0,0,0,c)) ∨
  (WA x0 x1 x21 x23 x24 x25 x26 x=(x,-1,0,0,0)∧sOn x25 x21=false) ∨
  (∃ n M v e f,(n=0∧M=4095∨n=1∧M=2097151∨n=2∧M=1073741823)∧WA x0 x1 x21 x23 x24 x25 x26 x=(v,n,e,f,0) ∧
   WA x0 x1 x21 x23 x24 x25 x26 (ilor .u64 (zay .u64 x M) (zaf .u64 y M))=(ilor .u64 (zay .u64 v M) (zaf .u64 y M),n,e,f,0)∧zaf .u64 v M=zaf .u64 x M):=by
 obtain ⟨p1,p2⟩:=zur x26
 rcases zs4 (ckF x23 x24) (ent x0) (zaQ x1 x25 x26) (zfQ x26) (zgD x26) (sOn x25 x21) (sSg x) (zaf .u64 x21 17592186044415) x
  (ishr .u64 x 30) (ishr .u64 x 21) (ishr .u64 x 12) (zaf .u64 x 1073741823) (zaf .u64 x 2097151) (zaf .u64 x 4095) with h | h | h | h | h
 ·exact .inr (.inl ⟨h.2,h.1⟩)
 ·obtain ⟨c,hc,h⟩:=h
  refine .inl ⟨c,?_,?_,h⟩
  ·rcases hc with hc | hc
   ·rw [hc];exact p1.1
   ·rw [hc];exact p2.1
  ·rcases hc with hc | hc
   ·rw [hc];exact p1.2
   ·rw [hc];exact p2.2
 ·obtain ⟨e,f,ha,hw,hall⟩:=h
  obtain ⟨q1,q2,q3,q4⟩:=zv8 (e:=e) hx0 hx1 hy0 hy1 ha
  refine .inr (.inr ⟨2,1073741823,_,e,f,.inr (.inr ⟨rfl,rfl⟩),hw,?_,q4⟩)
  rw [q3,q2]
  unfold WA
  rw [zp6 (by omega) (by omega),show (x-x%1073741824+y%1073741824)/274877906944=x/274877906944 by omega,←zp6 hx0 hx1,
   sh30,show (x-x%1073741824+y%1073741824)/1073741824=x/1073741824 by omega,←sh30,hall]
  have hl:zaf .u64 (x-x%1073741824+y%1073741824) 1073741823=(x-x%1073741824+y%1073741824)%1073741824:=za7 (by omega) (by omega) 30 (by decide) rfl rfl
  rw [hl,show (x-x%1073741824+y%1073741824)%1073741824=y%1073741824 by omega]
 ·obtain ⟨e,f,ha,hw,hall⟩:=h
  obtain ⟨q1,q2,q3,q4⟩:=zv7 (e:=e) hx0 hx1 hy0 hy1 ha
  refine .inr (.inr ⟨1,2097151,_,e,f,.inr (.inl ⟨rfl,rfl⟩),hw,?_,q4⟩)
  rw [q3,q2]
  unfold WA
  rw [zp6 (by omega) (by omega),show (x-x%2097152+y%2097152)/274877906944=x/274877906944 by omega,←zp6 hx0 hx1,
   sh30,show (x-x%2097152+y%2097152)/1073741824=x/1073741824 by omega,←sh30,
   sh21,show (x-x%2097152+y%2097152)/2097152=x/2097152 by omega,←sh21,hall]
  have hl:zaf .u64 (x-x%2097152+y%2097152) 2097151=(x-x%2097152+y%2097152)%2097152:=za7 (by omega) (by omega) 21 (by decide) rfl rfl
  rw [hl,show (x-x%2097152+y%2097152)%2097152=y%2097152 by omega]
 ·obtain ⟨e,f,hw,hall⟩:=h
  obtain ⟨q1,q2,q3,q4⟩:=zv6 (e:=e) hx0 hx1 hy0 hy1
  refine .inr (.inr ⟨0,4095,_,e,f,.inl ⟨rfl,rfl⟩,hw,?_,q4⟩)
  rw [q3,q2]
  unfold WA
  rw [zp6 (by omega) (by omega),show (x-x%4096+y%4096)/274877906944=x/274877906944 by omega,←zp6 hx0 hx1,
   sh30,show (x-x%4096+y%4096)/1073741824=x/1073741824 by omega,←sh30,
   sh21,show (x-x%4096+y%4096)/2097152=x/2097152 by omega,←sh21,
   sh12,show (x-x%4096+y%4096)/4096=x/4096 by omega,←sh12,hall]
  have hl:zaf .u64 (x-x%4096+y%4096) 4095=(x-x%4096+y%4096)%4096:=za7 (by omega) (by omega) 12 (by decide) rfl rfl
  rw [hl,show (x-x%4096+y%4096)%4096=y%4096 by omega]
end Go.Proofs.YtedoffkaehcnmaaDoor
namespace Go.Sx
variable {P:Program} {I:World→Prop}
def Lf.plainG:Lf→Bool
 | .p _ _ | .gp _ _ | .alt _ _=>false
 | _=>true
def V.plainG:V→Bool
 | .s v=>v.cells.all Lf.plainG
 | .t l=>l.all fun v=>v.cells.all Lf.plainG
theorem Lf.plainG_good {ν:Nat→DV} {l:Lf} (h:l.plainG=true):l.good ν:=by
 cases l<;>first | trivial | cases h
theorem V.plainG_good {ν:Nat→DV} {v:V} (h:v.plainG=true):v.good ν:=by
 cases v with
 | s v=>exact fun l hl=>Lf.plainG_good (List.all_eq_true.1 h l hl)
 | t l=>exact fun v hv x hx=>Lf.plainG_good (List.all_eq_true.1 (List.all_eq_true.1 h v hv) x hx)
theorem allG {ν:Nat→DV} {l:List V} (h:l.all V.plainG=true):∀ v∈l,V.good ν v:=fun v hv=>V.plainG_good (List.all_eq_true.1 h v hv)
theorem zvz {sg:Sig} {v:List DV} (hn:sg.need=true) (h:v=[.b true,.b true]):(sg.need=true→(dget v 0).toB=true)∧(dget v (if sg.need then 1 else 0)).toB=true:=by
 subst h
 rw [hn]
 exact ⟨fun _=>rfl,rfl⟩
end Go.Sx
namespace Go.Sx
variable {P:Program} {I:World→Prop}
theorem FnOK.flatH {K:Nat} {f:FuncId} {sg sg':Sig} {G:List DV→List DV} (h:FnOK P I K f sg G) (pack:List DV→List DV) (tys:List Ty) {p:A→Bool} (hc:∀ {ν1 ν2:Nat→DV} (a:A),p a=true→a.den ν1=a.den ν2)
  (e1:sg'.hin=sg.hin) (i1:sg.hinI=sg.hin.map (Option.map (Blk.inst (zak 0 tys.length)))) (i2:sg'.hinI=sg.hinI) (ht:sg.hin.all (zan (Blk.tyOk p tys))=true)
  (eo:sg'.out=sg.out) (eh:sg'.hout=sg.hout) (et:sg'.ots=sg.ots) (en:sg'.need=sg.need)
  (hp:∀ ds:List DV,ds.length=sg'.nin→(pack ds).length=sg.nin∧(∀ v∈sg.insI,V.good (dget (pack ds)) v)∧(∀ ρ:Nat→Loc,sg'.insI.map (V.conc (dget ds) ρ)=sg.insI.map (V.conc (dget (pack ds)) ρ)) ∧
   ∀ (i:Nat) (t:Ty),tys[i]? = some t→t.eqAt (dget ds (0+i)) (dget (pack ds) (0+i))) :
  FnOK P I K f sg' (fun ds=>G (pack ds)):=by
 intro ds ρ w h1 h2 h3 h4 h5 _ h7
 obtain ⟨p1,p2,p3,p4⟩:=hp ds h2
 have o1:sg'.outI=sg.outI:=by unfold Sig.outI;rw [eo,et]
 have o2:sg'.houtI=sg.houtI:=by unfold Sig.houtI;rw [eh,et]
 rw [p3 ρ]
 rw [i2] at h5 h7
 have hr:HRel (callEnv sg.hinI ρ w) (dget (pack ds)) ρ sg.hinI w:=by
  rw [i1] at h7 ⊢
  exact HRel.inst hc (PEq.of_ids tys 0 p4) ht h7
 refine (h (pack ds) ρ w h1 p1 (by rw [←en];exact h3) h4 h5 p2 hr).mono fun e w' ⟨v,ρ',he,hc⟩=>⟨v,ρ',he,?_⟩
 have er:sg'.res (G (pack ds))=sg.res (G (pack ds)):=by unfold Sig.res;rw [en]
 obtain ⟨c1,c2,c3,c4,c5,c6⟩:=hc
 exact ⟨by rw [o1,er];exact c1,by rw [o1,er];exact c2,by rw [i2,o2,er];exact c3,by rw [i2,o2];exact c4,by rw [i2];exact c5,fun j hj hl=>c6 j (by rw [←e1];exact hj) (by rw [←eh];exact hl)⟩
end Go.Sx
namespace Go.Proofs.YtedoffkaehcnmaaDoor
open Go Go.Sx
set_option maxRecDepth 100000
noncomputable def P5 (F:FEnv) (x0:List DV) (x1:Int) (x2:Int) (x3:Int) (x4:Int) (x5:Int) (x6:Int) (x7:Int) (x8:Int) (x9:Int) (x10:Int) (x11:Int) (x12:Int) (x13:Int) (x14:Int) (x15:Int) (x16:Int) (x17:Int) (x18:Int) (x19:Int) (x20:Int) (x21:Int) (x22:Int) (x23:List DV) (x24:List DV) (x25:Int) (x26:Int) (x27:Int) (x28:Int):Bool :=
 let x29:Bool:=((F 7 []).getD 0 default).toB
 let x30:Bool:=((F 7 []).getD 1 default).toB
 let x31:=!x30
 let x32:=!x31
 let x34:List DV:=[]
 let x35:Bool:=((F 12 [.l x0,.i 0,.l [],.l x34,.i 0,.i 0,.i 0]).getD 0 default).toB
 let x36:Int:=((F 12 [.l x0,.i 0,.l [],.l x34,.i 0,.i 0,.i 0]).getD 1 default).toI
 let x37:Bool:=((F 12 [.l x0,.i 0,.l [],.l x34,.i 0,.i 0,.i 0]).getD 2 default).toB
 let x38:List DV:=((F 12 [.l x0,.i 0,.l [],.l x34,.i 0,.i 0,.i 0]).getD 3 default).toL
 let x39:=!x37
 let x41:=!x39
 let x42:=x36==1
 let x43:Bool:=(x38.getD (Int.toNat 0*1+0) default).toB
 let x44:List DV:=(x38.getD (Int.toNat 0*1+1) default).toL
 let y45:List DV:=F 13 [.l x44,.i x1,.i x2,.i x3,.i x4,.i x5,.i x6,.i x7,.i x8,.i x9,.i x10,.i x11,.i x12,.i x13,.i x14,.i x15,.i x16,.i x17,.i x18,.i x19,.i x20,.i x21,.i x22,.l x23,.l x24,.i x25,.i x26,.i x27]
 let x45:Bool:=(dget y45 0).toB
 let x47:Int:=(dget y45 2).toI
 let x50:Int:=(dget y45 5).toI
 let x51:List DV:=(dget y45 6).toL
 let x52:List DV:=(x51.getD (Int.toNat 0*1+0) default).toL
 let x53:List DV:=(x51.getD (Int.toNat 0*1+1) default).toL
 let x54:List DV:=(x51.getD (Int.toNat 0*1+2) default).toL
 let x55:List DV:=(x51.getD (Int.toNat 0*1+3) default).toL
 let x56:Int:=(x51.getD (Int.toNat 0*1+4) default).toI
 let x57:List DV:=(x51.getD (Int.toNat 0*1+5) default).toL
 let x58:Bool:=(x51.getD (Int.toNat 0*1+6) default).toB
 let x59:=x50 != 0
 let x69:=!x59
 let x70:=ilt x47 0
 let x83:=!x70
 let x84:=igt x47 2
 let x85:=!x84
 let x86:=IntKind.wrap .i64 (9*x47)
 let x87:=IntKind.wrap .i64 (12+x86)
 let x88:=ige x87 0
 let x89:=ishl .u64 1 x87
 let x90:=IntKind.wrap .u64 (x89-1)
 let x91:=zaf .u64 x28 x90
 let x92:=zay .u64 x27 x90
 let x93:=ilor .u64 x92 x91
 let x94:=x36==1
 let x95:List DV:=[.l x52,.l x53,.l x54,.l x55,.i x56,.l x57,.b x58]
 let y96:List DV:=F 13 [.l x95,.i x1,.i x2,.i x3,.i x4,.i x5,.i x6,.i x7,.i x8,.i x9,.i x10,.i x11,.i x12,.i x13,.i x14,.i x15,.i x16,.i x17,.i x18,.i x19,.i x20,.i x21,.i x22,.l x23,.l x24,.i x25,.i x26,.i x93]
 let x96:Bool:=(dget y96 0).toB
 [ow [] x29,ow [(x32,true)] x35,ow [(x32,true),(x41,true)] x42,ow [(x32,true),(x41,true)] x43,ow [(x32,true),(x41,true)] x45,ow [(x32,true),(x41,true),(x69,true),(x83,true),(x85,true)] x88,ow [(x32,true),(x41,true),(x69,true),(x83,true),(x85,true)] x94,ow [(x32,true),(x41,true),(x69,true),(x83,true),(x85,true)] x96].all id
noncomputable def R5 (F:FEnv) (x0:List DV) (x1:Int) (x2:Int) (x3:Int) (x4:Int) (x5:Int) (x6:Int) (x7:Int) (x8:Int) (x9:Int) (x10:Int) (x11:Int) (x12:Int) (x13:Int) (x14:Int) (x15:Int) (x16:Int) (x17:Int) (x18:Int) (x19:Int) (x20:Int) (x21:Int) (x22:Int) (x23:List DV) (x24:List DV) (x25:Int) (x26:Int) (x27:Int) (x28:Int):Bool :=
 let x30:Bool:=((F 7 []).getD 1 default).toB
 let x31:=!x30
 let x32:=!x31
 let x34:List DV:=[]
 let x36:Int:=((F 12 [.l x0,.i 0,.l [],.l x34,.i 0,.i 0,.i 0]).getD 1 default).toI
 let x37:Bool:=((F 12 [.l x0,.i 0,.l [],.l x34,.i 0,.i 0,.i 0]).getD 2 default).toB
 let x38:List DV:=((F 12 [.l x0,.i 0,.l [],.l x34,.i 0,.i 0,.i 0]).getD 3 default).toL
 let x39:=!x37
 let x40:=x36==0
 let x41:=!x39
 let x44:List DV:=(x38.getD (Int.toNat 0*1+1) default).toL
 let y46:List DV:=F 13 [.l x44,.i x1,.i x2,.i x3,.i x4,.i x5,.i x6,.i x7,.i x8,.i x9,.i x10,.i x11,.i x12,.i x13,.i x14,.i x15,.i x16,.i x17,.i x18,.i x19,.i x20,.i x21,.i x22,.l x23,.l x24,.i x25,.i x26,.i x27]
 let x46:Int:=(dget y46 1).toI
 let x47:Int:=(dget y46 2).toI
 let x48:Int:=(dget y46 3).toI
 let x49:Int:=(dget y46 4).toI
 let x50:Int:=(dget y46 5).toI
 let x51:List DV:=(dget y46 6).toL
 let x52:List DV:=(x51.getD (Int.toNat 0*1+0) default).toL
 let x53:List DV:=(x51.getD (Int.toNat 0*1+1) default).toL
 let x54:List DV:=(x51.getD (Int.toNat 0*1+2) default).toL
 let x55:List DV:=(x51.getD (Int.toNat 0*1+3) default).toL
 let x56:Int:=(x51.getD (Int.toNat 0*1+4) default).toI
 let x57:List DV:=(x51.getD (Int.toNat 0*1+5) default).toL
 let x58:Bool:=(x51.getD (Int.toNat 0*1+6) default).toB
 let x59:=x50 != 0
 let x60:=x46==0
 let x61:=x47==0
 let x62:=x48==0
 let x63:=x49==0
 let x64:=x62&&x63
 let x65:=x61&&x64
 let x66:=x60&&x65
 let x67:=ilt x50 16
 let x68:=x66&&x67
 let x69:=!x59
 let x70:=ilt x47 0
 let x71:=x46==x27
 let x72:=x47==(-1)
 let x73:=x48==0
 let x74:=x49==0
 let x75:=x73&&x74
 let x76:=x72&&x75
 let x77:=x71&&x76
 let x78:=x25==3
 let x79:=ishr .u64 x21 60
 let x80:=x79 != 8
 let x81:=x78||x80
 let x82:=x77&&x81
 let x83:=!x70
 let x84:=igt x47 2
 let x85:=!x84
 let x86:=IntKind.wrap .i64 (9*x47)
 let x87:=IntKind.wrap .i64 (12+x86)
 let x89:=ishl .u64 1 x87
 let x90:=IntKind.wrap .u64 (x89-1)
 let x91:=zaf .u64 x28 x90
 let x92:=zay .u64 x27 x90
 let x93:=ilor .u64 x92 x91
 let x95:List DV:=[.l x52,.l x53,.l x54,.l x55,.i x56,.l x57,.b x58]
 let y97:List DV:=F 13 [.l x95,.i x1,.i x2,.i x3,.i x4,.i x5,.i x6,.i x7,.i x8,.i x9,.i x10,.i x11,.i x12,.i x13,.i x14,.i x15,.i x16,.i x17,.i x18,.i x19,.i x20,.i x21,.i x22,.l x23,.l x24,.i x25,.i x26,.i x93]
 let x97:Int:=(dget y97 1).toI
 let x98:Int:=(dget y97 2).toI
 let x99:Int:=(dget y97 3).toI
 let x100:Int:=(dget y97 4).toI
 let x101:Int:=(dget y97 5).toI
 let x110:=x101==0
 let x111:=x98==x47
 let x112:=x110&&x111
 let x113:=x99==x48
 let x114:=x112&&x113
 let x115:=x100==x49
 let x116:=x114&&x115
 let x117:=zay .u64 x46 x90
 let x118:=ilor .u64 x117 x91
 let x119:=x97==x118
 let x120:=x116&&x119
 let x121:=zaf .u64 x46 x90
 let x122:=zaf .u64 x27 x90
 let x123:=x121==x122
 let x124:=x120&&x123
 let x125:=x85&&x124
 let x133:=bif x83 then x125 else x82
 let x141:=bif x69 then x133 else x68
 let x149:=bif x41 then x141 else x40
 let x150:=x32&&x149
 x150
theorem zvA (F:FEnv) (x0:List DV) (x1:Int) (x2:Int) (x3:Int) (x4:Int) (x5:Int) (x6:Int) (x7:Int) (x8:Int) (x9:Int) (x10:Int) (x11:Int) (x12:Int) (x13:Int) (x14:Int) (x15:Int) (x16:Int) (x17:Int) (x18:Int) (x19:Int) (x20:Int) (x21:Int) (x22:Int) (x23:List DV) (x24:List DV) (x25:Int) (x26:Int) (x27:Int) (x28:Int):outI F s5 o5 [.l x0,.i x1,.i x2,.i x3,.i x4,.i x5,.i x6,.i x7,.i x8,.i x9,.i x10,.i x11,.i x12,.i x13,.i x14,.i x15,.i x16,.i x17,.i x18,.i x19,.i x20,.i x21,.i x22,.l x23,.l x24,.i x25,.i x26,.i x27,.i x28]=[.b (P5 F x0 x1 x2 x3 x4 x5 x6 x7 x8 x9 x10 x11 x12 x13 x14 x15 x16 x17 x18 x19 x20 x21 x22 x23 x24 x25 x26 x27 x28),.b (R5 F x0 x1 x2 x3 x4 x5 x6 x7 x8 x9 x10 x11 x12 x13 x14 x15 x16 x17 x18 x19 x20 x21 x22 x23 x24 x25 x26 x27 x28)]:=by kernel_rfl
end Go.Proofs.YtedoffkaehcnmaaDoor
namespace Go.Proofs.YtedoffkaehcnmaaDoor
open Go Go.Sx
set_option maxRecDepth 100000
set_option maxHeartbeats 4000000
theorem zuu:KD.ok FE 103300 (.lp zpX [.i,.l,.i,.i]) :=
 ⟨zlF,zlG,zlH,zn4,(fun ds=>by kernel_rfl),(fun ν xs h=>match xs,h with | [x0,x1],_=>by kernel_rfl),
 (fun ν xs h=>match xs,h with | [x0,x1],_=>by kernel_rfl),
 (fun ν xs h=>match xs,h with | [x0,x1],_=>by kernel_rfl),
 (fun ν xs h=>match xs,h with | [x0,x1],_=>by kernel_rfl)⟩
theorem zuv:KD.ok FE 102400 (.lp zpZ [.i,.l,.b,.i,.i]) :=
 ⟨zoc,zod,zoe,zof,(fun ds=>by kernel_rfl),(fun ν xs h=>match xs,h with | [x0,x1,x2],_=>by kernel_rfl),
 (fun ν xs h=>match xs,h with | [x0,x1,x2],_=>by kernel_rfl),
 (fun ν xs h=>match xs,h with | [x0,x1,x2],_=>by kernel_rfl),
 (fun ν xs h=>match xs,h with | [x0,x1,x2],_=>by kernel_rfl)⟩
theorem zuw:KD.ok FE 101700 (.lp zp1 [.i,.i,.i,.l]) :=
 ⟨zjr,zjs,zlK,zoi,(fun ds=>by kernel_rfl),(fun ν xs h=>match xs,h with | [x0,x1],_=>by kernel_rfl),
 (fun ν xs h=>match xs,h with | [x0,x1],_=>by kernel_rfl),
 (fun ν xs h=>match xs,h with | [x0,x1],_=>by kernel_rfl),
 (fun ν xs h=>match xs,h with | [x0,x1],_=>by kernel_rfl)⟩
theorem t26:KD.ok FE 26 (.fn s26 o26):=fun ds _=>e26 ds
theorem t45:KD.ok FE 45 (.fn s45 o45):=fun ds _=>e45 ds
theorem t27:KD.ok FE 27 (.fn s27 o27):=fun ds _=>e27 ds
theorem t46:KD.ok FE 46 (.fn s46 o46):=fun ds _=>e46 ds
theorem t50:KD.ok FE 50 (.fn s50 o50):=fun ds h=>match ds,h with
 | [d0,d1],_=>by kernel_rfl
theorem t43:KD.ok FE 43 (.fn s43 o43):=fun ds h=>match ds,h with
 | [d0,d1,d2],_=>by kernel_rfl
theorem t75:KD.ok FE 75 (.fn s75 o75):=fun ds _=>e75 ds
theorem t74:KD.ok FE 74 (.fn s74 o74):=fun ds _=>e74 ds
theorem t72:KD.ok FE 72 (.fn s72 o72):=fun ds h=>match ds,h with
 | [d0,d1,d2],_=>by kernel_rfl
theorem t28:KD.ok FE 28 (.fn s28 o28):=fun ds _=>e28 ds
theorem t44:KD.ok FE 44 (.fn s44 o44):=fun ds _=>e44 ds
theorem t79:KD.ok FE 79 (.fn s79 o79):=fun ds _=>e79 ds
theorem t77:KD.ok FE 77 (.fn s77 o77):=fun ds h=>match ds,h with
 | [d0,d1,d2],_=>by kernel_rfl
theorem t47:KD.ok FE 47 (.fn s47 o47):=fun ds _=>e47 ds
theorem t41:KD.ok FE 41 (.fn s41 o41):=fun ds h=>match ds,h with
 | [d0,d1,d2],_=>by kernel_rfl
theorem t33:KD.ok FE 33 (.fn s33 o33):=fun ds h=>match ds,h with
 | [d0,d1,d2],_=>by kernel_rfl
theorem t25:KD.ok FE 25 (.hand g25h):=zsZ
theorem t24:KD.ok FE 24 (.fn s24 o24):=fun ds h=>match ds,h with
 | [d0],_=>by kernel_rfl
theorem t34:KD.ok FE 34 (.fn s34 o34):=fun ds h=>match ds,h with
 | [d0,d1,d2,d3],_=>by kernel_rfl
theorem t35:KD.ok FE 35 (.fn s35 o35):=fun ds h=>match ds,h with
 | [d0],_=>by kernel_rfl
theorem t30:KD.ok FE 30 (.fn s30 o30):=fun ds h=>match ds,h with
 | [d0,d1,d2],_=>by kernel_rfl
theorem t12:KD.ok FE 12 (.fn s12 o12):=fun ds h=>match ds,h with
 | [d0,d1,d2,d3,d4,d5,d6],_=>by kernel_rfl
theorem t37:KD.ok FE 37 (.fn s37 o37):=fun ds _=>e37 ds
theorem t14:KD.ok FE 14 (.fn s14 o14):=fun ds h=>match ds,h with
 | [d0,d1,d2,d3],_=>by kernel_rfl
theorem t48:KD.ok FE 48 (.fn s48 o48):=fun ds _=>e48 ds
theorem t39:KD.ok FE 39 (.fn s39 o39):=fun ds _=>e39 ds
theorem t49:KD.ok FE 49 (.fn s49 o49):=fun ds h=>match ds,h with
 | [d0],_=>by kernel_rfl
theorem t40:KD.ok FE 40 (.fn s40 o40):=fun ds h=>match ds,h with
 | [d0,d1,d2],_=>by kernel_rfl
theorem t29:KD.ok FE 29 (.fn s29 o29):=fun ds h=>match ds,h with
 | [d0,d1,d2,d3,d4,d5],_=>by kernel_rfl
theorem t20:KD.ok FE 20 (.fn s20 o20):=fun ds h=>match ds,h with
 | [d0],_=>by kernel_rfl
theorem t31:KD.ok FE 31 (.fn s31 o31):=fun ds _=>e31 ds
theorem t32:KD.ok FE 32 (.fn s32 o32):=fun ds _=>e32 ds
theorem t8:KD.ok FE 8 (.fn s8 o8):=fun ds _=>e8 ds
theorem t10:KD.ok FE 10 (.fn s10 o10):=fun ds h=>match ds,h with
 | [d0,d1,d2,d3,d4,d5,d6,d7,d8,d9,d10,d11,d12,d13,d14,d15,d16,d17,d18,d19,d20,d21,d22,d23,d24,d25,d26],_=>by kernel_rfl
theorem t13:KD.ok FE 13 (.fn s13 o13):=fun ds h=>match ds,h with
 | [d0,d1,d2,d3,d4,d5,d6,d7,d8,d9,d10,d11,d12,d13,d14,d15,d16,d17,d18,d19,d20,d21,d22,d23,d24,d25,d26,d27],_=>by kernel_rfl
theorem t19:KD.ok FE 19 (.fn s19 o19):=fun ds _=>e19 ds
theorem t17:KD.ok FE 17 (.hand g17h):=zs0
theorem t18:KD.ok FE 18 (.fn s18 o18):=fun ds _=>e18 ds
theorem t7:KD.ok FE 7 (.fn s7 o7):=fun ds _=>e7 ds
theorem t23:KD.ok FE 23 (.hand g23):=fun _=>rfl
theorem t38:KD.ok FE 38 (.hand g38):=fun _=>rfl
theorem t42:KD.ok FE 42 (.hand g42):=fun _=>rfl
theorem t67:KD.ok FE 67 (.hand g67):=fun _=>rfl
noncomputable def tabK:List (Nat×KD):=[(103300,.lp zpX [.i,.l,.i,.i]),(102400,.lp zpZ [.i,.l,.b,.i,.i]),(101700,.lp zp1 [.i,.i,.i,.l]),(26,.fn s26 o26),(45,.fn s45 o45),(27,.fn s27 o27),(46,.fn s46 o46),(50,.fn s50 o50),(43,.fn s43 o43),(75,.fn s75 o75),(74,.fn s74 o74),(72,.fn s72 o72),(28,.fn s28 o28),(44,.fn s44 o44),(79,.fn s79 o79),(77,.fn s77 o77),(47,.fn s47 o47),(41,.fn s41 o41),(33,.fn s33 o33),(25,.hand g25h),(24,.fn s24 o24),(34,.fn s34 o34),(35,.fn s35 o35),(30,.fn s30 o30),(12,.fn s12 o12),(37,.fn s37 o37),(14,.fn s14 o14),(48,.fn s48 o48),(39,.fn s39 o39),(49,.fn s49 o49),(40,.fn s40 o40),(29,.fn s29 o29),(20,.fn s20 o20),(31,.fn s31 o31),(32,.fn s32 o32),(8,.fn s8 o8),(10,.fn s10 o10),(13,.fn s13 o13),(19,.fn s19 o19),(17,.hand g17h),(18,.fn s18 o18),(7,.fn s7 o7),(23,.hand g23),(38,.hand g38),(42,.hand g42),(67,.hand g67)]
theorem zux:∀ f c,assoc tabK f=some c→c.ok FE f:=fun f c h=>zaK (Q:=fun f c=>KD.ok FE f c) (l:=tabK)
 (show ∀ p∈[(103300,.lp zpX [.i,.l,.i,.i]),(102400,.lp zpZ [.i,.l,.b,.i,.i]),(101700,.lp zp1 [.i,.i,.i,.l]),(26,.fn s26 o26),(45,.fn s45 o45),(27,.fn s27 o27),(46,.fn s46 o46),(50,.fn s50 o50),(43,.fn s43 o43),(75,.fn s75 o75),(74,.fn s74 o74),(72,.fn s72 o72),(28,.fn s28 o28),(44,.fn s44 o44),(79,.fn s79 o79),(77,.fn s77 o77),(47,.fn s47 o47),(41,.fn s41 o41),(33,.fn s33 o33),(25,.hand g25h),(24,.fn s24 o24),(34,.fn s34 o34),(35,.fn s35 o35),(30,.fn s30 o30),(12,.fn s12 o12),(37,.fn s37 o37),(14,.fn s14 o14),(48,.fn s48 o48),(39,.fn s39 o39),(49,.fn s49 o49),(40,.fn s40 o40),(29,.fn s29 o29),(20,.fn s20 o20),(31,.fn s31 o31),(32,.fn s32 o32),(8,.fn s8 o8),(10,.fn s10 o10),(13,.fn s13 o13),(19,.fn s19 o19),(17,.hand g17h),(18,.fn s18 o18),(7,.fn s7 o7),(23,.hand g23),(38,.hand g38),(42,.hand g42),(67,.hand g67)],KD.ok FE p.1 p.2 from
 List.forall_mem_cons.2 ⟨zuu,List.forall_mem_cons.2 ⟨zuv,List.forall_mem_cons.2 ⟨zuw,List.forall_mem_cons.2 ⟨t26,List.forall_mem_cons.2 ⟨t45,List.forall_mem_cons.2 ⟨t27,List.forall_mem_cons.2 ⟨t46,List.forall_mem_cons.2 ⟨t50,List.forall_mem_cons.2 ⟨t43,List.forall_mem_cons.2 ⟨t75,List.forall_mem_cons.2 ⟨t74,List.forall_mem_cons.2 ⟨t72,List.forall_mem_cons.2 ⟨t28,List.forall_mem_cons.2 ⟨t44,List.forall_mem_cons.2 ⟨t79,List.forall_mem_cons.2 ⟨t77,List.forall_mem_cons.2 ⟨t47,List.forall_mem_cons.2 ⟨t41,List.forall_mem_cons.2 ⟨t33,List.forall_mem_cons.2 ⟨t25,List.forall_mem_cons.2 ⟨t24,List.forall_mem_cons.2 ⟨t34,List.forall_mem_cons.2 ⟨t35,List.forall_mem_cons.2 ⟨t30,List.forall_mem_cons.2 ⟨t12,List.forall_mem_cons.2 ⟨t37,List.forall_mem_cons.2 ⟨t14,List.forall_mem_cons.2 ⟨t48,List.forall_mem_cons.2 ⟨t39,List.forall_mem_cons.2 ⟨t49,List.forall_mem_cons.2 ⟨t40,List.forall_mem_cons.2 ⟨t29,List.forall_mem_cons.2 ⟨t20,List.forall_mem_cons.2 ⟨t31,List.forall_mem_cons.2 ⟨t32,List.forall_mem_cons.2 ⟨t8,List.forall_mem_cons.2 ⟨t10,List.forall_mem_cons.2 ⟨t13,List.forall_mem_cons.2 ⟨t19,List.forall_mem_cons.2 ⟨t17,List.forall_mem_cons.2 ⟨t18,List.forall_mem_cons.2 ⟨t7,List.forall_mem_cons.2 ⟨t23,List.forall_mem_cons.2 ⟨t38,List.forall_mem_cons.2 ⟨t42,List.forall_mem_cons.2 ⟨t67,fun _ h=>(by cases h)⟩⟩⟩⟩⟩⟩⟩⟩⟩⟩⟩⟩⟩⟩⟩⟩⟩⟩⟩⟩⟩⟩⟩⟩⟩⟩⟩⟩⟩⟩⟩⟩⟩⟩⟩⟩⟩⟩⟩⟩⟩⟩⟩⟩⟩⟩) h
end Go.Proofs.YtedoffkaehcnmaaDoor
namespace Go.Proofs.YtedoffkaehcnmaaDoor
open Go Go.Sx
set_option maxRecDepth 100000
theorem zpd:FE 7 []=[.b true,.b true]:=zmT zux 40 7 [] _ (by kernel_rfl)
end Go.Proofs.YtedoffkaehcnmaaDoor
namespace Go.Proofs.YtedoffkaehcnmaaDoor
open Go Go.Sx
set_option maxRecDepth 100000
theorem f12 (img:List DV):FE 12 [.l img,.i 0,.l [],.l [],.i 0,.i 0,.i 0]=[.b (p12 img []),.i (zsJ img []),.b (zsK img []),.l (zp0 img [])]:=rfl
theorem f13 (b:List DV) (x1 x2 x3 x4 x5 x6 x7 x8 x9 x10 x11 x12 x13 x14 x15 x16 x17 x18 x19 x20 x21 x22:Int) (x23 x24:List DV) (x25 x26 t:Int):FE 13 [.l b,.i x1,.i x2,.i x3,.i x4,.i x5,.i x6,.i x7,.i x8,.i x9,.i x10,.i x11,.i x12,.i x13,.i x14,.i x15,.i x16,.i x17,.i x18,.i x19,.i x20,.i x21,.i x22,.l x23,.l x24,.i x25,.i x26,.i t] =
  [.b (p13 b x1 x21 x23 x24 x25 x26 t),.i (zsM b x1 x21 x23 x24 x25 x26 t),.i (zsN b x1 x21 x23 x24 x25 x26 t),.i (zsO b x1 x21 x23 x24 x25 x26 t),.i (zsP b x1 x21 x23 x24 x25 x26 t),.i (zsQ b x1 x21 x23 x24 x25 x26 t),.l (zsR b x1 x21 x23 x24 x25 x26 t)]:=rfl
theorem zuy (img:List DV) (x1 x2 x3 x4 x5 x6 x7 x8 x9 x10 x11 x12 x13 x14 x15 x16 x17 x18 x19 x20 x21 x22:Int) (x23 x24:List DV) (x25 x26 x27 x28:Int) (hx0:0≤x27) (hx1:x27<18446744073709551616):P5 FE img x1 x2 x3 x4 x5 x6 x7 x8 x9 x10 x11 x12 x13 x14 x15 x16 x17 x18 x19 x20 x21 x22 x23 x24 x25 x26 x27 x28=true:=by
 obtain ⟨n1,n2,n3,n4⟩:=zvq img
 unfold P5
 extract_lets -merge x29 x30 x31 x32 x34 x35 x36 x37 x38 x39 x41 x42 x43 x44 y45 x45 x47 x50 x51 x52 x53 x54 x55 x56 x57 x58 x59 x69 x70 x83 x84 x85 x86 x87 x88 x89 x90 x91 x92 x93 x94 x95 y96 x96
 have e29:x29=true:=congrArg (fun l:List DV=>(l.getD 0 default).toB) zpd
 have e35:x35=true:=(congrArg (fun l:List DV=>(l.getD 0 default).toB) (f12 img)).trans n1
 have e37:x37=decide (img.length≤1048576):=(congrArg (fun l:List DV=>(l.getD 2 default).toB) (f12 img)).trans n2
 have e36:x36=bif decide (img.length≤1048576) then 1 else 0:=(congrArg (fun l:List DV=>(l.getD 1 default).toI) (f12 img)).trans n3
 have e38:x38=zp0 img []:=congrArg (fun l:List DV=>(l.getD 3 default).toL) (f12 img)
 cases hc:decide (img.length≤1048576) with
 | false =>
  have e41:x41=false:=by show (!(!x37))=false;rw [e37,hc];rfl
  rw [e41,e29,e35]
  simp [ow]
 | true =>
  have e42:x42=true:=by show (x36==1)=true;rw [e36,hc];rfl
  rw [n4 (of_decide_eq_true hc)] at e38
  have e43:x43=true:=by show (x38.getD 0 default).toB=true;rw [e38];rfl
  have e44:x44=bus0 img:=by show (x38.getD 1 default).toL=_;rw [e38];rfl
  obtain ⟨w0,w1,w2,w3,w4,w5⟩:=zr4 x44 x1 x21 x23 x24 x25 x26 x27 (by rw [e44];exact zjB img)
  have y:y45=_:=f13 x44 x1 x2 x3 x4 x5 x6 x7 x8 x9 x10 x11 x12 x13 x14 x15 x16 x17 x18 x19 x20 x21 x22 x23 x24 x25 x26 x27
  have e45:x45=true:=(congrArg (fun l:List DV=>(dget l 0).toB) y).trans (ztv ..)
  have e47:x47=(WA x44 x1 x21 x23 x24 x25 x26 x27).2.1:=(congrArg (fun l:List DV=>(dget l 2).toI) y).trans w1
  have e50:x50=(WA x44 x1 x21 x23 x24 x25 x26 x27).2.2.2.2:=(congrArg (fun l:List DV=>(dget l 5).toI) y).trans w4
  have e96:x96=true:=(congrArg (fun l:List DV=>(dget l 0).toB) (f13 x95 x1 x2 x3 x4 x5 x6 x7 x8 x9 x10 x11 x12 x13 x14 x15 x16 x17 x18 x19 x20 x21 x22 x23 x24 x25 x26 x93)).trans (ztv ..)
  have e88:ow [(x32,true),(x41,true),(x69,true),(x83,true),(x85,true)] x88=true:=by
   rcases zjC x44 x1 x21 x23 x24 x25 x26 x27 0 hx0 hx1 (by decide) (by decide) with ⟨c,hc,_,h⟩ | ⟨h,_⟩ | ⟨n,M,v,e,f,hn,h,_⟩
   ·have:x69=false:=by show (!(x50 != 0))=false;rw [e50,h];simpa using hc
    rw [this];simp [ow]
   ·have:x83=false:=by show (!(ilt x47 0))=false;rw [e47,h];rfl
    rw [this];simp [ow]
   ·refine zbQ ?_
    show ige (IntKind.wrap .i64 (12+IntKind.wrap .i64 (9*x47))) 0=true
    rw [e47,h]
    rcases hn with ⟨rfl,_⟩ | ⟨rfl,_⟩ | ⟨rfl,_⟩<;>(show _=_;dsimp only;decide)
  simp only [List.all_cons,List.all_nil,id_eq,Bool.and_true,zbQ e29,zbQ e35,zbQ e42,zbQ e43,zbQ e45,e88,show x94=x42 from rfl,zbQ e96,Bool.and_self]
theorem zuz (img:List DV) (x1 x2 x3 x4 x5 x6 x7 x8 x9 x10 x11 x12 x13 x14 x15 x16 x17 x18 x19 x20 x21 x22:Int) (x23 x24:List DV) (x25 x26 x27 x28:Int) (hx0:0≤x27) (hx1:x27<18446744073709551616) (hy0:0≤x28) (hy1:x28<18446744073709551616):R5 FE img x1 x2 x3 x4 x5 x6 x7 x8 x9 x10 x11 x12 x13 x14 x15 x16 x17 x18 x19 x20 x21 x22 x23 x24 x25 x26 x27 x28=true:=by
 obtain ⟨n1,n2,n3,n4⟩:=zvq img
 unfold R5
 extract_lets -merge x30 x31 x32 x34 x36 x37 x38 x39 x40 x41 x44 y46 x46 x47 x48 x49 x50 x51 x52 x53 x54 x55 x56 x57 x58 x59 x60 x61 x62 x63 x64 x65 x66 x67 x68 x69 x70 x71 x72 x73 x74 x75 x76 x77 x78 x79 x80 x81 x82 x83 x84 x85 x86 x87 x89 x90 x91 x92 x93 x95 y97 x97 x98 x99 x100 x101 x110 x111 x112 x113 x114 x115 x116 x117 x118 x119 x120 x121 x122 x123 x124 x125 x133 x141 x149 x150
 have e30:x30=true:=congrArg (fun l:List DV=>(l.getD 1 default).toB) zpd
 have e32:x32=true:=by show (!(!x30))=true;rw [e30];rfl
 have e37:x37=decide (img.length≤1048576):=(congrArg (fun l:List DV=>(l.getD 2 default).toB) (f12 img)).trans n2
 have e36:x36=bif decide (img.length≤1048576) then 1 else 0:=(congrArg (fun l:List DV=>(l.getD 1 default).toI) (f12 img)).trans n3
 have e38:x38=zp0 img []:=congrArg (fun l:List DV=>(l.getD 3 default).toL) (f12 img)
 show (x32&&bif x41 then x141 else x40)=true
 rw [e32,Bool.true_and]
 cases hc:decide (img.length≤1048576) with
 | false =>
  have e41:x41=false:=by show (!(!x37))=false;rw [e37,hc];rfl
  rw [e41]
  show (x36==0)=true
  rw [e36,hc]
  rfl
 | true =>
  have e41:x41=true:=by show (!(!x37))=true;rw [e37,hc];rfl
  rw [e41,cond_true]
  rw [n4 (of_decide_eq_true hc)] at e38
  have e44:x44=bus0 img:=by show (x38.getD 1 default).toL=_;rw [e38];rfl
  have hs:zmY x44:=by rw [e44];exact zjB img
  obtain ⟨w0,w1,w2,w3,w4,w5⟩:=zr4 x44 x1 x21 x23 x24 x25 x26 x27 hs
  have y:y46=_:=f13 x44 x1 x2 x3 x4 x5 x6 x7 x8 x9 x10 x11 x12 x13 x14 x15 x16 x17 x18 x19 x20 x21 x22 x23 x24 x25 x26 x27
  have e46:x46=(WA x44 x1 x21 x23 x24 x25 x26 x27).1:=(congrArg (fun l:List DV=>(dget l 1).toI) y).trans w0
  have e47:x47=(WA x44 x1 x21 x23 x24 x25 x26 x27).2.1:=(congrArg (fun l:List DV=>(dget l 2).toI) y).trans w1
  have e48:x48=(WA x44 x1 x21 x23 x24 x25 x26 x27).2.2.1:=(congrArg (fun l:List DV=>(dget l 3).toI) y).trans w2
  have e49:x49=(WA x44 x1 x21 x23 x24 x25 x26 x27).2.2.2.1:=(congrArg (fun l:List DV=>(dget l 4).toI) y).trans w3
  have e50:x50=(WA x44 x1 x21 x23 x24 x25 x26 x27).2.2.2.2:=(congrArg (fun l:List DV=>(dget l 5).toI) y).trans w4
  have e51:x51=x44:=(congrArg (fun l:List DV=>(dget l 6).toL) y).trans w5
  show (bif x69 then (bif x83 then (x85&&x124) else x82) else x68)=true
  rcases zjC x44 x1 x21 x23 x24 x25 x26 x27 x28 hx0 hx1 hy0 hy1 with ⟨c,hc,hc2,h⟩ | ⟨h,hoff⟩ | ⟨n,M,v,e,f,hn,h,h',hl⟩
  ·have e69:x69=false:=by show (!(x50 != 0))=false;rw [e50,h];simpa using hc
   rw [e69]
   show (((x46==0)&&((x47==0)&&((x48==0)&&(x49==0))))&&ilt x50 16)=true
   rw [e46,e47,e48,e49,e50,h]
   simp [hc2]
  ·have e69:x69=true:=by show (!(x50 != 0))=true;rw [e50,h];rfl
   have e83:x83=false:=by show (!(ilt x47 0))=false;rw [e47,h];rfl
   rw [e69,e83]
   show (((x46==x27)&&((x47==-1)&&((x48==0)&&(x49==0))))&&((x25==3)||(ishr .u64 x21 60 != 8)))=true
   rw [e46,e47,e48,e49,h]
   unfold sOn at hoff
   have:((x25==3)||(ishr .u64 x21 60 != 8))=true:=by
    cases hh:((x25==3)||(ishr .u64 x21 60 != 8)) with
    | true=>rfl
    | false=>rw [hh] at hoff;cases hoff
   rw [this]
   simp
  ·have e69:x69=true:=by show (!(x50 != 0))=true;rw [e50,h];rfl
   have e83:x83=true:=by
    show (!(ilt x47 0))=true
    rw [e47,h]
    rcases hn with ⟨rfl,_⟩ | ⟨rfl,_⟩ | ⟨rfl,_⟩<;>(show _=_;dsimp only;decide)
   have e85:x85=true:=by
    show (!(igt x47 2))=true
    rw [e47,h]
    rcases hn with ⟨rfl,_⟩ | ⟨rfl,_⟩ | ⟨rfl,_⟩<;>(show _=_;dsimp only;decide)
   have e90:x90=M:=by
    show IntKind.wrap .u64 (ishl .u64 1 (IntKind.wrap .i64 (12+IntKind.wrap .i64 (9*x47)))-1)=M
    rw [e47,h]
    rcases hn with ⟨rfl,rfl⟩ | ⟨rfl,rfl⟩ | ⟨rfl,rfl⟩<;>(show _=_;dsimp only;decide)
   rw [e69,e83,e85]
   have e95:x95=x44:=by
    show [DV.l (x51.getD 0 default).toL,.l (x51.getD 1 default).toL,.l (x51.getD 2 default).toL,.l (x51.getD 3 default).toL,.i (x51.getD 4 default).toI,.l (x51.getD 5 default).toL,.b (x51.getD 6 default).toB]=_
    rw [e51,e44]
    rfl
   have e93:x93=ilor .u64 (zay .u64 x27 M) (zaf .u64 x28 M):=by
    show ilor .u64 (zay .u64 x27 x90) (zaf .u64 x28 x90)=_
    rw [e90]
   obtain ⟨u0,u1,u2,u3,u4,u5⟩:=zr4 x95 x1 x21 x23 x24 x25 x26 x93 (by rw [e95];exact hs)
   have z:y97=_:=f13 x95 x1 x2 x3 x4 x5 x6 x7 x8 x9 x10 x11 x12 x13 x14 x15 x16 x17 x18 x19 x20 x21 x22 x23 x24 x25 x26 x93
   have g97:x97=(WA x95 x1 x21 x23 x24 x25 x26 x93).1:=(congrArg (fun l:List DV=>(dget l 1).toI) z).trans u0
   have g98:x98=(WA x95 x1 x21 x23 x24 x25 x26 x93).2.1:=(congrArg (fun l:List DV=>(dget l 2).toI) z).trans u1
   have g99:x99=(WA x95 x1 x21 x23 x24 x25 x26 x93).2.2.1:=(congrArg (fun l:List DV=>(dget l 3).toI) z).trans u2
   have g100:x100=(WA x95 x1 x21 x23 x24 x25 x26 x93).2.2.2.1:=(congrArg (fun l:List DV=>(dget l 4).toI) z).trans u3
   have g101:x101=(WA x95 x1 x21 x23 x24 x25 x26 x93).2.2.2.2:=(congrArg (fun l:List DV=>(dget l 5).toI) z).trans u4
   rw [e95,e93,h'] at g97 g98 g99 g100 g101
   rw [h] at e46 e47 e48 e49
   show ((((((x101==0)&&(x98==x47))&&(x99==x48))&&(x100==x49))&&(x97==ilor .u64 (zay .u64 x46 x90) (zaf .u64 x28 x90)))&&(zaf .u64 x46 x90==zaf .u64 x27 x90))=true
   rw [g97,g98,g99,g100,g101,e46,e47,e48,e49,e90]
   simp [hl]
end Go.Proofs.YtedoffkaehcnmaaDoor
namespace Go.Sx
open Go Go.ChangeShapes Go.WideShapes Go.RowKit
inductive Sh where
 | one (t:LT)
 | agg (l:List LT)
 deriving Inhabited
def Sh.lts:Sh→List LT
 | .one t=>[t]
 | .agg l=>l
def nIn (ss:List Sh):Nat:=(ss.map fun s=>s.lts.length).sum
def LT.conc (t:LT) (d:DV):Value :=
 match t with
 | .int k=>.int k d.toI
 | .bool=>.bool d.toB
 | .vec _=>.bool false
def zc8 (g:Nat→DV):Nat→List LT→List Value
 | _,[]=>[]
 | j,t::ts=>t.conc (g j)::zc8 g (j+1) ts
def zdd (g:Nat→DV):Nat→List Sh→List Value
 | _,[]=>[]
 | j,.one t::ss=>t.conc (g j)::zdd g (j+1) ss
 | j,.agg ts::ss=>.agg (zc8 g j ts).toArray::zdd g (j+ts.length) ss
def LT.pat (j:Nat):LT→Lf
 | .int k=>.i k (.h j)
 | .bool=>.b (.h j)
 | .vec _=>.b (.t false)
def zcO:Nat→List LT→List Lf
 | _,[]=>[]
 | j,t::ts=>t.pat j::zcO (j+1) ts
def patShapes:Nat→List Sh→List V
 | _,[]=>[]
 | j,.one t::ss=>.s (.one (t.pat j))::patShapes (j+1) ss
 | j,.agg ts::ss=>.s (.agg (zcO j ts))::patShapes (j+ts.length) ss
theorem zeH:∀ (k n j:Nat),j<k→(zak n k).getD j default = .r (n+j)
 | 0,_,_,h=>by omega
 | k+1,n,0,_=>rfl
 | k+1,n,j+1,h=>by
  have:=zeH k (n+1) j (by omega)
  simp only [zak,List.getD_cons_succ,this]
  congr 1
  omega
theorem zpe {n:Nat} (g:Nat→DV) (ρ:Nat→Loc) {t:LT} {j:Nat} (h:j<n):((t.pat j).inst (zak 0 n)).conc g ρ=t.conc (g j)∧((t.pat j).inst (zak 0 n)).good g:=by
 have e:(A.h j).inst (zak 0 n) = .r j:=by
  have:=zeH n 0 j h
  simpa [A.inst] using this
 cases t with
 | int k=>exact ⟨by simp only [LT.pat,Lf.inst,e];rfl,trivial⟩
 | bool=>exact ⟨by simp only [LT.pat,Lf.inst,e];rfl,trivial⟩
 | vec ts=>exact ⟨rfl,trivial⟩
theorem zfl {n:Nat} (g:Nat→DV) (ρ:Nat→Loc):∀ (ts:List LT) (j:Nat),j+ts.length≤n→((zcO j ts).map (Lf.inst (zak 0 n))).map (Lf.conc g ρ)=zc8 g j ts∧∀ x∈(zcO j ts).map (Lf.inst (zak 0 n)),Lf.good g x
 | [],j,_=>⟨rfl,fun x hx=>by cases hx⟩
 | t::ts,j,h=>by
  simp only [List.length_cons] at h
  obtain ⟨h1,h2⟩:=zfl (n:=n) g ρ ts (j+1) (by omega)
  obtain ⟨h3,h4⟩:=zpe g ρ (t:=t) (show j<n by omega)
  refine ⟨by simp only [zcO,List.map_cons,zc8,h1,h3],fun x hx=>?_⟩
  simp only [zcO,List.map_cons] at hx
  rcases List.mem_cons.1 hx with rfl | hx
  ·exact h4
  ·exact h2 x hx
def zfm (P:Program) (rec:TypeId→Option (List LT)):Nat→List Field→Option (List LT)
 | _,[]=>some []
 | o,f::fs =>
  if Nat.beq f.offset o then
   match rec f.type with
   | none=>none
   | some l =>
    if Nat.beq l.length (P.cellsOf f.type) then
     match zfm P rec (o+l.length) fs with
     | none=>none
     | some r=>some (l++r)
    else none
  else none
def zeI (P:Program):Nat→TypeId→Option (List LT)
 | 0,_=>none
 | d+1,t =>
  match P.underlying t with
  | some .bool=>some [.bool]
  | some (.int k)=>some [.int k]
  | some (.array n e) =>
   match zeI P d e with
   | none=>none
   | some l=>if Nat.beq l.length (P.cellsOf e)&&Nat.beq (P.cellsOf t) (n*l.length) then some (List.replicate n l).flatten else none
  | some (.struct fs) =>
   match zfm P (zeI P d) 0 fs.toList with
   | none=>none
   | some l=>if Nat.beq l.length (P.cellsOf t) then some l else none
  | _=>none
def zop (P:Program) (t:TypeId):Option Sh :=
 match P.underlying t with
 | some .bool=>some (.one .bool)
 | some (.int k)=>some (.one (.int k))
 | some (.array _ _)=>(zeI P 20 t).map .agg
 | some (.struct _)=>(zeI P 20 t).map .agg
 | _=>none
def zjD:LT→Value→Prop
 | .int k,.int k' n=>k'=k∧(Lit.int k n).wf=true
 | .bool,.bool _=>True
 | _,_=>False
def zb4:List LT→List Value→Prop
 | [],[]=>True
 | t::ts,v::vs=>zjD t v∧zb4 ts vs
 | _,_=>False
theorem zb4.len:∀ {ts:List LT} {vs:List Value},zb4 ts vs→vs.length=ts.length
 | [],[],_=>rfl
 | _::_,_::_,h=>by simp [zb4.len h.2]
 | [],_::_,h=>h.elim
 | _::_,[],h=>h.elim
theorem zb4.append:∀ {a b:List LT} {c d:List Value},zb4 a c→zb4 b d→zb4 (a++b) (c++d)
 | [],_,[],_,_,h=>h
 | _::_,_,_::_,_,h,h'=>⟨h.1,zb4.append h.2 h'⟩
 | [],_,_::_,_,h,_=>h.elim
 | _::_,_,[],_,h,_=>h.elim
theorem zha {α β γ:Type} {f g:α→Option (β×List γ)} : ∀ {l:List α} {xs:List (β×List γ)},l.mapM f=some xs →
  (∀ a∈l,∀ y,f a=some y→g a=some y∧y.2=[])→l.mapM g=some xs∧xs.flatMap (·.2)=[]∧∀ a∈l,∃ y,f a=some y
 | [],xs,h,_=>by
  simp at h
  subst h
  exact ⟨by simp,rfl,fun a ha=>by cases ha⟩
 | a::l,xs,h,hc=>by
  simp only [List.mapM_cons,Option.bind_eq_bind,Option.bind_eq_some_iff,Option.pure_def,Option.some.injEq] at h
  obtain ⟨y,hy,ys,hys,rfl⟩:=h
  obtain ⟨h1,h2⟩:=hc a (by simp) y hy
  obtain ⟨h3,h4,h5⟩:=zha hys (fun b hb=>hc b (List.mem_cons_of_mem _ hb))
  refine ⟨by simp [List.mapM_cons,h1,h3],by simp only [List.flatMap_cons,h2,h4,List.nil_append],fun b hb=>?_⟩
  rcases List.mem_cons.1 hb with rfl | hb
  ·exact ⟨y,hy⟩
  ·exact h5 b hb
theorem zjE {l:List LT} {c:Nat} (hl:l.length=c):∀ {n:Nat} {cs:List Value},cs.length=n*c→(∀ i,i<n→zb4 l ((cs.drop (i*c)).take c))→zb4 (List.replicate n l).flatten cs
 | 0,cs,h,_=>by
  have:cs=[]:=List.eq_nil_of_length_eq_zero (by simpa using h)
  subst this
  trivial
 | n+1,cs,h,hp=>by
  have h0:=hp 0 (by omega)
  simp only [Nat.zero_mul,List.drop_zero] at h0
  have h1:=zjE hl (n:=n) (cs:=cs.drop c) (by rw [List.length_drop,h,Nat.succ_mul];omega) (fun i hi=>by
   have:=hp (i+1) (by omega)
   rw [List.drop_drop]
   rwa [show c+i*c=(i+1)*c from by rw [Nat.succ_mul];omega])
  have:=zb4.append h0 h1
  rw [List.take_append_drop] at this
  simpa [List.replicate_succ] using this
section
variable {H:Type} {enc:TypeId×Value→H} {P:Program}
def zvB (enc:TypeId×Value→H) (P:Program) (fuel:Nat) (t:TypeId) (lts:List LT):Prop :=
 ∀ (w:World) (base:Nat) (sp:Nat→Bool) (held:Bool) (cs:List Value) (x:DataW H) (ps:List MemPlace),DataW.trod enc P w base sp held fuel t cs=some (x,ps) →
  zb4 lts cs∧ps=[]∧∀ (w':World) (base':Nat) (sp':Nat→Bool) (held':Bool),DataW.trod enc P w' base' sp' held' fuel t cs=some (x,[])
theorem zgH {rec:TypeId→Option (List LT)} {cs:List Value} : ∀ {fs:List Field} {o:Nat} {l:List LT},zfm P rec o fs=some l→cs.length=o+l.length →
  (∀ f∈fs,∀ r,rec f.type=some r→zb4 r ((cs.drop f.offset).take (P.cellsOf f.type)))→zb4 l (cs.drop o)
 | [],o,l,h,hlen,_=>by
  simp [zfm] at h
  subst h
  rw [List.drop_of_length_le (by simpa using Nat.le_of_eq hlen)]
  trivial
 | f::fs,o,l,h,hlen,hp=>by
  simp only [zfm] at h
  split at h
  ·rename_i ho
   have ho:=Nat.eq_of_beq_eq_true ho
   split at h
   ·cases h
   ·rename_i r hr
    split at h
    ·rename_i hc
     have hc:=Nat.eq_of_beq_eq_true hc
     split at h
     ·cases h
     ·rename_i r' hr'
      cases h
      have h0:=hp f (by simp) r hr
      have h1:=zgH hr' (by simp at hlen;omega) (fun g hg=>hp g (List.mem_cons_of_mem _ hg))
      rw [ho,←hc] at h0
      have h2:=zb4.append h0 h1
      rw [←List.drop_drop,List.take_append_drop] at h2
      exact h2
    ·cases h
  ·cases h
theorem zcn:∀ (d:Nat) {t:TypeId} {lts:List LT},zeI P d t=some lts→∀ fuel,zvB enc P fuel t lts
 | 0,_,_,h,_=>by cases h
 | d+1,t,lts,h,fuel=>by
  intro w base sp held cs x ps hx
  cases fuel with
  | zero=>simp [DataW.trod] at hx
  | succ fuel =>
   simp only [zeI] at h
   split at h
   ·rename_i hu
    cases h
    obtain ⟨b,rfl,he⟩:=DataW.trod_bool hu hx
    cases he
    exact ⟨⟨trivial,trivial⟩,rfl,fun _ _ _ _=>by simp [DataW.trod,hu]⟩
   ·rename_i k hu
    cases h
    obtain ⟨n,rfl,he,hw⟩:=DataW.trod_int hu hx
    cases he
    exact ⟨⟨⟨rfl,hw⟩,trivial⟩,rfl,fun _ _ _ _=>by simp [DataW.trod,hu,hw]⟩
   ·rename_i n e hu
    split at h
    ·cases h
    ·rename_i l hl
     split at h
     ·rename_i hc
      cases h
      simp only [Bool.and_eq_true] at hc
      have hc1:=Nat.eq_of_beq_eq_true hc.1
      have hc2:=Nat.eq_of_beq_eq_true hc.2
      simp only [DataW.trod,hu] at hx
      split at hx
      ·rename_i hlen
       obtain ⟨xs,hxs,he⟩:=Option.map_eq_some_iff.1 hx
       cases he
       have ih:=zcn d hl fuel
       have hall:=fun w' base' sp' held'=>zha (g:=fun i=>DataW.trod enc P w' base' sp' held' fuel e ((cs.drop (i*P.cellsOf e)).take (P.cellsOf e))) hxs
        (fun i _ y hy=>by
         have:=ih _ _ _ _ _ y.1 y.2 hy
         exact ⟨by rw [this.2.2 w' base' sp' held',←this.2.1],this.2.1⟩)
       refine ⟨zjE hc1 (by rw [hlen,hc2,hc1]) (fun i hi=>?_),(hall w base sp held).2.1,fun w' base' sp' held'=>?_⟩
       ·obtain ⟨y,hy⟩:=(hall w base sp held).2.2 i (List.mem_range.2 hi)
        exact (ih _ _ _ _ _ y.1 y.2 hy).1
       ·obtain ⟨h1,h2,_⟩:=hall w' base' sp' held'
        simp only [DataW.trod,hu]
        rw [if_pos hlen,h1,Option.map_some,h2]
      ·cases hx
     ·cases h
   ·rename_i fs hu
    split at h
    ·cases h
    ·rename_i l hl
     split at h
     ·rename_i hc
      cases h
      have hc1:=Nat.eq_of_beq_eq_true hc
      simp only [DataW.trod,hu] at hx
      split at hx
      ·rename_i hlen
       obtain ⟨xs,hxs,he⟩:=Option.map_eq_some_iff.1 hx
       cases he
       -- each field's type has leaves
       have hfl:∀ {gs:List Field} {o:Nat} {r:List LT},zfm P (zeI P d) o gs=some r→∀ f∈gs,∃ r',zeI P d f.type=some r':=by
        intro gs
        induction gs with
        | nil=>intro o r _ f hf;cases hf
        | cons g gs ih =>
         intro o r hr f hf
         simp only [zfm] at hr
         split at hr
         ·split at hr
          ·cases hr
          ·rename_i r1 hr1
           split at hr
           ·split at hr
            ·cases hr
            ·rename_i r2 hr2
             rcases List.mem_cons.1 hf with rfl | hf
             ·exact ⟨r1,hr1⟩
             ·exact ih hr2 f hf
           ·cases hr
         ·cases hr
       have hall:=fun w' base' sp' held'=>zha (g:=fun f:Field=>DataW.trod enc P w' base' sp' held' fuel f.type ((cs.drop f.offset).take (P.cellsOf f.type))) hxs
        (fun f hf y hy=>by
         obtain ⟨r',hr'⟩:=hfl hl f hf
         have:=zcn d hr' fuel _ _ _ _ _ y.1 y.2 hy
         exact ⟨by rw [this.2.2 w' base' sp' held',←this.2.1],this.2.1⟩)
       refine ⟨?_,(hall w base sp held).2.1,fun w' base' sp' held'=>?_⟩
       ·have:=zgH (P:=P) (cs:=cs) hl (by rw [hlen,hc1];omega) (fun f hf r hr=>by
         obtain ⟨y,hy⟩:=(hall w base sp held).2.2 f hf
         exact (zcn d hr fuel _ _ _ _ _ y.1 y.2 hy).1)
        simpa using this
       ·obtain ⟨h1,h2,_⟩:=hall w' base' sp' held'
        simp only [DataW.trod,hu]
        rw [if_pos hlen,h1,Option.map_some,h2]
      ·cases hx
     ·cases h
   ·cases h
def RangeOk:List LT→List DV→Prop
 | [],[]=>True
 | .int k::ts,.i n::ds=>(Lit.int k n).wf=true∧RangeOk ts ds
 | .bool::ts,.b _::ds=>True∧RangeOk ts ds
 | _,_=>False
theorem RangeOk.len:∀ {ts:List LT} {ds:List DV},RangeOk ts ds→ds.length=ts.length
 | [],[],_=>rfl
 | .int _::_,.i _::_,h=>by simp [RangeOk.len h.2]
 | .bool::_,.b _::_,h=>by simp [RangeOk.len h.2]
 | [],_::_,h=>h.elim
 | .int _::_,[],h=>h.elim
 | .bool::_,[],h=>h.elim
 | .int _::_,.b _::_,h=>h.elim
 | .bool::_,.i _::_,h=>h.elim
 | .int _::_,.l _::_,h=>h.elim
 | .bool::_,.l _::_,h=>h.elim
 | .vec _::_,[],h=>h.elim
 | .vec _::_,_::_,h=>h.elim
theorem RangeOk.append:∀ {a b:List LT} {c d:List DV},RangeOk a c→RangeOk b d→RangeOk (a++b) (c++d)
 | [],_,[],_,_,h=>h
 | .int _::_,_,.i _::_,_,h,h'=>⟨h.1,RangeOk.append h.2 h'⟩
 | .bool::_,_,.b _::_,_,h,h'=>⟨trivial,RangeOk.append h.2 h'⟩
 | [],_,_::_,_,h,_=>h.elim
 | .int _::_,_,[],_,h,_=>h.elim
 | .bool::_,_,[],_,h,_=>h.elim
 | .int _::_,_,.b _::_,_,h,_=>h.elim
 | .bool::_,_,.i _::_,_,h,_=>h.elim
 | .int _::_,_,.l _::_,_,h,_=>h.elim
 | .bool::_,_,.l _::_,_,h,_=>h.elim
 | .vec _::_,_,[],_,h,_=>h.elim
 | .vec _::_,_,_::_,_,h,_=>h.elim
theorem RangeOk.int_at:∀ {ts:List LT} {ds:List DV} {k:IntKind} (i:Nat),RangeOk ts ds→ts[i]? = some (.int k)→(Lit.int k (dget ds i).toI).wf=true
 | .int k::ts,.i n::ds,k',0,h,e=>by
  simp at e
  subst e
  exact h.1
 | .int k::ts,.i n::ds,k',i+1,h,e=>by
  have:=RangeOk.int_at i h.2 (by simpa using e)
  simpa [dget] using this
 | .bool::ts,.b x::ds,k',0,h,e=>by simp at e
 | .bool::ts,.b x::ds,k',i+1,h,e=>by
  have:=RangeOk.int_at i h.2 (by simpa using e)
  simpa [dget] using this
 | [],_,_,_,_,e=>by simp at e
 | .int _::_,[],_,_,h,_=>h.elim
 | .bool::_,[],_,_,h,_=>h.elim
 | .int _::_,.b _::_,_,_,h,_=>h.elim
 | .bool::_,.i _::_,_,_,h,_=>h.elim
 | .int _::_,.l _::_,_,_,h,_=>h.elim
 | .bool::_,.l _::_,_,_,h,_=>h.elim
 | .vec _::_,[],_,_,h,_=>h.elim
 | .vec _::_,_::_,_,_,h,_=>h.elim
theorem zh0 (pre:List DV) (d:DV) (post:List DV):dget (pre++d::post) pre.length=d:=by
 simp [dget,List.getD_eq_getElem?_getD]
theorem zdX:∀ {ts:List LT} {vs:List Value},zb4 ts vs→∃ ds,RangeOk ts ds∧∀ pre post:List DV,zc8 (dget (pre++ds++post)) pre.length ts=vs
 | [],[],_=>⟨[],trivial,fun _ _=>rfl⟩
 | .int k::ts,.int k' n::vs,h=>by
  obtain ⟨ds,h1,h2⟩:=zdX h.2
  obtain ⟨⟨rfl,hw⟩,_⟩:=h
  refine ⟨.i n::ds,⟨hw,h1⟩,fun pre post=>?_⟩
  have:=h2 (pre++[.i n]) post
  simp only [zc8,List.append_assoc,List.cons_append,List.nil_append,List.length_append,List.length_cons,List.length_nil,Nat.zero_add] at this ⊢
  rw [this,zh0]
  rfl
 | .bool::ts,.bool b::vs,h=>by
  obtain ⟨ds,h1,h2⟩:=zdX h.2
  refine ⟨.b b::ds,⟨trivial,h1⟩,fun pre post=>?_⟩
  have:=h2 (pre++[.b b]) post
  simp only [zc8,List.append_assoc,List.cons_append,List.nil_append,List.length_append,List.length_cons,List.length_nil,Nat.zero_add] at this ⊢
  rw [this,zh0]
  rfl
 | [],_::_,h=>h.elim
 | _::_,[],h=>h.elim
 | .int _::_,.bool _::_,h=>h.1.elim
 | .bool::_,.int _ _::_,h=>h.1.elim
 | .vec _::_,_::_,h=>h.1.elim
theorem zp7 {w:World} {base b0:Nat} {sp:Nat→Bool} {held:Bool} {r:Reach} {t:TypeId} {v:Value} {d:DataW H} {ps:List MemPlace} {s:Sh} (hs:zop P t=some s)
  (hval:Value.okWide P w r b0 t v) (hd:DataW.Trod enc P w base sp held t v d ps) :
  ∃ ds:List DV,RangeOk s.lts ds∧ps=[]∧(∀ (pre post:List DV) (ss:List Sh),zdd (dget (pre++ds++post)) pre.length (s::ss)=v::zdd (dget (pre++ds++post)) (pre.length+ds.length) ss) ∧
   ∀ (w':World) (base':Nat) (sp':Nat→Bool) (held':Bool),DataW.Trod enc P w' base' sp' held' t v d []:=by
 obtain ⟨fuel,hf⟩:=hd
 unfold zop at hs
 split at hs
 ·rename_i hu
  cases hs
  obtain ⟨b,rfl⟩:=okWide_bool hu hval
  have hfl:zeI P 1 t=some [.bool]:=by simp [zeI,hu]
  obtain ⟨_,h2,h3⟩:=zcn (enc:=enc) 1 hfl fuel _ _ _ _ _ _ _ hf
  refine ⟨[.b b],⟨trivial,trivial⟩,h2,fun pre post ss=>?_,fun w' base' sp' held'=>⟨fuel,h3 w' base' sp' held'⟩⟩
  simp only [zdd,List.append_assoc,List.cons_append,List.nil_append,zh0,List.length_cons,List.length_nil]
  rfl
 ·rename_i k hu
  cases hs
  obtain ⟨n,rfl⟩:=okWide_int hu hval
  have hfl:zeI P 1 t=some [.int k]:=by simp [zeI,hu]
  obtain ⟨h1,h2,h3⟩:=zcn (enc:=enc) 1 hfl fuel _ _ _ _ _ _ _ hf
  refine ⟨[.i n],⟨h1.1.2,trivial⟩,h2,fun pre post ss=>?_,fun w' base' sp' held'=>⟨fuel,h3 w' base' sp' held'⟩⟩
  simp only [zdd,List.append_assoc,List.cons_append,List.nil_append,zh0,List.length_cons,List.length_nil]
  rfl
 ·rename_i n e hu
  obtain ⟨l,hl,rfl⟩:=Option.map_eq_some_iff.1 hs
  simp only [Value.okWide,hu] at hval
  obtain ⟨cs,rfl,_,_⟩:=hval
  obtain ⟨h1,h2,h3⟩:=zcn (enc:=enc) 20 hl fuel _ _ _ _ _ _ _ hf
  obtain ⟨ds,h4,h5⟩:=zdX h1
  refine ⟨ds,h4,h2,fun pre post ss=>?_,fun w' base' sp' held'=>⟨fuel,h3 w' base' sp' held'⟩⟩
  simp only [zdd,h5 pre post,←h4.len]
  rfl
 ·rename_i fs hu
  obtain ⟨l,hl,rfl⟩:=Option.map_eq_some_iff.1 hs
  simp only [Value.okWide,hu] at hval
  obtain ⟨cs,rfl,_,_⟩:=hval
  obtain ⟨h1,h2,h3⟩:=zcn (enc:=enc) 20 hl fuel _ _ _ _ _ _ _ hf
  obtain ⟨ds,h4,h5⟩:=zdX h1
  refine ⟨ds,h4,h2,fun pre post ss=>?_,fun w' base' sp' held'=>⟨fuel,h3 w' base' sp' held'⟩⟩
  simp only [zdd,h5 pre post,←h4.len]
  rfl
 ·cases hs
end
theorem zlQ {α β:Type} {f:α→Option β} : ∀ {l:List α} {xs:List β},l.mapM f=some xs→∀ (i:Nat) (a:α),l[i]? = some a→∃ y,xs[i]? = some y∧f a=some y
 | [],xs,_,i,a,ha=>by simp at ha
 | b::l,xs,h,i,a,ha=>by
  simp only [List.mapM_cons,Option.bind_eq_bind,Option.bind_eq_some_iff,Option.pure_def,Option.some.injEq] at h
  obtain ⟨y,hy,ys,hys,rfl⟩:=h
  cases i with
  | zero=>simp at ha;subst ha;exact ⟨y,rfl,hy⟩
  | succ i=>obtain ⟨z,h1,h2⟩:=zlQ hys i a (by simpa using ha);exact ⟨z,by simpa using h1,h2⟩
theorem zr7 {H:Type} {enc:TypeId×Value→H} {P:Program} {w:World} {base:Nat} {sp:Nat→Bool} {held:Bool} {fuel n:Nat} {t e:TypeId} {k:IntKind} {cs:List Value} {zs:List Int} {ps:List MemPlace}
  (hu:P.underlying t=some (.array n e)) (he:P.underlying e=some (.int k)) (hc:P.cellsOf e=1)
  (h:DataW.trod enc P w base sp held fuel t cs=some (.agg (zs.map fun z=>.lit (.int k z)),ps)):∀ (i:Nat) (z:Int),zs[i]? = some z→cs[i]? = some (.int k z):=by
 cases fuel with
 | zero=>simp [DataW.trod] at h
 | succ fuel =>
  simp only [DataW.trod,hu,hc,Nat.mul_one] at h
  split at h
  ·obtain ⟨xs,hxs,hx⟩:=Option.map_eq_some_iff.1 h
   simp only [Prod.mk.injEq,DataW.agg.injEq] at hx
   intro i z hz
   have hlen:xs.length=zs.length:=by simpa using congrArg List.length hx.1
   have hxl:xs.length=n:=by
    have key:∀ {l:List Nat} {xs:List (DataW H×List MemPlace)} {f:Nat→Option (DataW H×List MemPlace)},l.mapM f=some xs→xs.length=l.length:=by
     intro l
     induction l with
     | nil=>intro xs f h;simp at h;subst h;rfl
     | cons a l ih =>
      intro xs f h
      simp only [List.mapM_cons,Option.bind_eq_bind,Option.bind_eq_some_iff,Option.pure_def,Option.some.injEq] at h
      obtain ⟨y,_,ys,hys,rfl⟩:=h
      simp [ih hys]
    simpa using key hxs
   have hi:i<zs.length:=by
    rcases Nat.lt_or_ge i zs.length with h | h
    ·exact h
    ·rw [List.getElem?_eq_none h] at hz;cases hz
   obtain ⟨y,h1,h2⟩:=zlQ hxs i i (List.getElem?_range (by omega))
   obtain ⟨m,h3,h4,_⟩:=DataW.trod_int he h2
   have h5:y.1 = .lit (.int k z):=by
    have:=congrArg (fun l=>l[i]?) hx.1
    simp only [List.getElem?_map,h1,hz,Option.map_some,Option.some.injEq] at this
    exact this
   rw [h4] at h5
   have hm:m=z:=by simpa using h5
   subst hm
   have h6:=congrArg (fun l=>l[0]?) h3
   simpa using h6
  ·cases h
theorem zoq {P:Program} {w:World} {g:Nat} {name:String} {k:IntKind} {cs:Array Value} {zs:List Int} (hg:P.globalNamed name=some g) (hv:w.var? P name=some cs)
  (h:∀ (i:Nat) (z:Int),zs[i]? = some z→cs.toList[i]? = some (.int k z)):GlobIn w g (zs.map fun z=>.i k (.z z)):=by
 refine ⟨?_,fun i l hi ν ρ=>?_⟩
 ·unfold World.var? at hv
  rw [hg] at hv
  simp only [Option.bind_some] at hv
  rcases Nat.lt_or_ge g w.heap.size with h | h
  ·exact h
  ·rw [Array.getElem?_eq_none h] at hv;cases hv
 ·rw [List.getElem?_map] at hi
  obtain ⟨z,hz,rfl⟩:=Option.map_eq_some_iff.1 hi
  refine ⟨trivial,?_⟩
  rw [World.var?_cell hg hv i]
  have:=h i z hz
  simpa [Lf.conc] using this
section
variable {C:Checked} {os:Os} {f:FuncId} {fn:Func} {s:ChangeSpec} {H:Type} {enc:TypeId×Value→H} {sg:Sig} {G:List DV→List DV} {I:World→Prop}
structure LawSig (sg:Sig) (ss:List Sh):Prop where
 ins:sg.ins=patShapes 0 ss
 hin:sg.hin=[]
 nin:sg.nin=nIn ss
 out:sg.out = .s (.one (.b (.h 0)))
 hout:sg.hout=[]
 ots:sg.ots=[.b]
end
end Go.Sx
namespace Go.Sx
open Go Go.ChangeShapes Go.WideShapes Go.RowKit
inductive ShV where
 | pl (s:Sh)
 | row (ts:List LT)
 deriving Inhabited
def ShV.wd:ShV→Nat
 | .pl s=>s.lts.length
 | .row _=>1
def nInV:List ShV→Nat
 | []=>0
 | s::ss=>s.wd+nInV ss
def patV:Nat→Nat→List ShV→List V
 | _,_,[]=>[]
 | j,b,.pl (.one t)::ss=>.s (.one (t.pat j))::patV (j+1) b ss
 | j,b,.pl (.agg ts)::ss=>.s (.agg (zcO j ts))::patV (j+ts.length) b ss
 | j,b,.row _::ss=>.s (.one (.vec b))::patV (j+1) (b+1) ss
def blksV:Nat→List ShV→List (Option Blk)
 | _,[]=>[]
 | j,.pl s::ss=>blksV (j+s.lts.length) ss
 | j,.row ts::ss=>some (.v false ts (.h j))::blksV (j+1) ss
def argV (g:Nat→DV) (ρ:Nat→Loc):Nat→Nat→List ShV→List Value
 | _,_,[]=>[]
 | j,b,.pl (.one t)::ss=>t.conc (g j)::argV g ρ (j+1) b ss
 | j,b,.pl (.agg ts)::ss=>.agg (zc8 g j ts).toArray::argV g ρ (j+ts.length) b ss
 | j,b,.row _::ss=>(ρ b).slice::argV g ρ (j+1) (b+1) ss
theorem zgI {n:Nat} (g:Nat→DV) (ρ:Nat→Loc):∀ (ss:List ShV) (j b:Nat),j+nInV ss≤n→((patV j b ss).map (V.inst (zak 0 n))).map (V.conc g ρ)=argV g ρ j b ss∧∀ x∈(patV j b ss).map (V.inst (zak 0 n)),V.good g x
 | [],j,b,_=>⟨rfl,fun x hx=>by cases hx⟩
 | .pl (.one t)::ss,j,b,h=>by
  have h:j+(1+nInV ss)≤n:=h
  obtain ⟨h1,h2⟩:=zgI (n:=n) g ρ ss (j+1) b (by omega)
  obtain ⟨h3,h4⟩:=zpe g ρ (t:=t) (show j<n by omega)
  refine ⟨by simp only [patV,List.map_cons,argV,h1,V.inst,V1.inst,V.conc,V1.conc,h3],fun x hx=>?_⟩
  simp only [patV,List.map_cons] at hx
  rcases List.mem_cons.1 hx with rfl | hx
  ·exact V1.good_one.2 h4
  ·exact h2 x hx
 | .pl (.agg ts)::ss,j,b,h=>by
  have h:j+(ts.length+nInV ss)≤n:=h
  obtain ⟨h1,h2⟩:=zgI (n:=n) g ρ ss (j+ts.length) b (by omega)
  obtain ⟨h3,h4⟩:=zfl (n:=n) g ρ ts j (show j+ts.length≤n by omega)
  refine ⟨by simp only [patV,List.map_cons,argV,h1,V.inst,V1.inst,V.conc,V1.conc,h3],fun x hx=>?_⟩
  simp only [patV,List.map_cons] at hx
  rcases List.mem_cons.1 hx with rfl | hx
  ·exact V1.good_agg.2 h4
  ·exact h2 x hx
 | .row ts::ss,j,b,h=>by
  have h:j+(1+nInV ss)≤n:=h
  obtain ⟨h1,h2⟩:=zgI (n:=n) g ρ ss (j+1) (b+1) (by omega)
  refine ⟨by simp only [patV,List.map_cons,argV,h1,V.inst,V1.inst,V.conc,V1.conc,Lf.inst,Lf.conc],fun x hx=>?_⟩
  simp only [patV,List.map_cons] at hx
  rcases List.mem_cons.1 hx with rfl | hx
  ·exact V1.good_one.2 trivial
  ·exact h2 x hx
def zr8:Value→DV
 | .int _ n=>.i n
 | .bool b=>.b b
 | _=>.i 0
structure RowIn (ts:List LT) (xs:List DV):Prop where
 pos:0<ts.length
 len:∃ n,n≤maxLen∧xs.length=n*ts.length
 cell:∀ i,i<xs.length→RangeOk [ts.getD (i%ts.length) .bool] [xs.getD i default]
def zjF:List ShV→List DV→Prop
 | [],ds=>ds=[]
 | .pl s::ss,ds=>RangeOk s.lts (ds.take s.lts.length)∧zjF ss (ds.drop s.lts.length)
 | .row ts::ss,ds=>(∃ xs,ds.head? = some (.l xs)∧RowIn ts xs)∧zjF ss ds.tail
def zdY (E:Env) (W:World):List ShV→List DV→List Loc→Prop
 | [],_,_=>True
 | .pl s::ss,ds,ls=>zdY E W ss (ds.drop s.lts.length) ls
 | .row ts::ss,ds,ls=>VRel E W (ls.headD default) false ts (ds.headD default).toL∧zdY E W ss ds.tail ls.tail
def zr9 (P:Program) (t:TypeId):Option ShV :=
 match P.underlying t with
 | some (.slice e) =>
  match zeI P 20 e with
  | some l=>if Nat.beq l.length (P.cellsOf e)&&Nat.blt 0 l.length then some (.row l) else none
  | none=>none
 | _=>(zop P t).map .pl
def zcP (P:Program):List TypeId→Option (List ShV)
 | []=>some []
 | t::ts =>
  match zr9 P t,zcP P ts with
  | some s,some r=>some (s::r)
  | _,_=>none
theorem zmZ:∀ {ts:List LT} {vs:List Value},zb4 ts vs→∀ i,i<ts.length→∃ v,vs[i]? = some v∧zjD (ts.getD i .bool) v
 | t::ts,v::vs,h,0,_=>⟨v,rfl,h.1⟩
 | t::ts,v::vs,h,i+1,hi=>by
  obtain ⟨u,h1,h2⟩:=zmZ h.2 i (by simpa using hi)
  exact ⟨u,by simpa using h1,by simpa using h2⟩
 | [],_,_,i,hi=>by simp at hi
 | _::_,[],h,_,_=>h.elim
theorem zjG {E:Env} {t:LT} {v:Value} (h:zjD t v):CRel E t (zr8 v) v∧RangeOk [t] [zr8 v]:=by
 cases t with
 | int k =>
  cases v<;>simp only [zjD] at h
  obtain ⟨rfl,hw⟩:=h
  exact ⟨.int _ (.i _),⟨hw,trivial⟩⟩
 | bool =>
  cases v<;>simp only [zjD] at h
  exact ⟨.bool (.b _),trivial,trivial⟩
 | vec ts=>cases v<;>simp only [zjD] at h
theorem zs6 {w:World} {base:Nat} {a:Addr} {n:Nat} {cs:List Value} (h:w.cells? base a n=some cs):∀ i,i<n→∀ v,cs[i]? = some v→w.cell? (a.add i)=some v:=by
 unfold World.cells? at h
 split at h
 ·intro i hi v hv
  obtain ⟨y,h1,h2⟩:=zlQ h i i (List.getElem?_range hi)
  rw [h1] at hv
  cases hv
  exact h2
 ·cases h
section
variable {H:Type} {enc:TypeId×Value→H} {P:Program}
def lenW:DataW H→Nat
 | .slice elems _=>elems.length
 | _=>0
def zsa:List ShV→List DV→List (DataW H)→Prop
 | [],_,_=>True
 | .pl s::ss,xs,_::ds=>zsa ss (xs.drop s.lts.length) ds
 | .row ts::ss,xs,d::ds=>(xs.headD default).toL.length=lenW d*ts.length∧zsa ss xs.tail ds
 | _::_,_,[]=>False
theorem zsb {w:World} {base b0:Nat} {sp:Nat→Bool} {held:Bool} {r:Reach} {t e:TypeId} {v:Value} {d:DataW H} {ps:List MemPlace} {ts:List LT} (hu:P.underlying t=some (.slice e)) (hf:zeI P 20 e=some ts) (hc:ts.length=P.cellsOf e) (hpos:0<ts.length)
  (hval:Value.okWide P w r b0 t v) (hd:DataW.Trod enc P w base sp held t v d ps) (E:Env):∃ (xs:List DV) (l:Loc),RowIn ts xs∧v=l.slice∧VRel E w l false ts xs∧xs.length=lenW d*ts.length:=by
 obtain ⟨fuel,hd⟩:=hd
 obtain ⟨a,len,cap,rfl⟩:=okWide_slice hu hval
 have hcell:(Value.slice a len cap).cells.toList=[Value.slice a len cap]:=rfl
 rw [hcell] at hd
 rcases DataW.trod_slice hu hd with ⟨h1,hx⟩ | ⟨a,len',cap',elems,rest,n,_,h1,hx,_,hlc,hcm,hel,helem,_,_⟩
 ·simp only [List.cons.injEq,Value.slice.injEq,and_true] at h1
  obtain ⟨rfl,rfl,rfl⟩:=h1
  refine ⟨[],⟨0,0,true,0,0,none⟩,⟨hpos,⟨0,Nat.zero_le _,by simp⟩,fun i hi=>by simp at hi⟩,rfl,?_,?_⟩
  ·exact ⟨fun _=>⟨rfl,rfl⟩,fun e=>(by cases e),hpos,by simp,Nat.le_refl _,fun i hi=>by simp at hi,fun e=>(by cases e),fun e=>(by cases e)⟩
  ·rw [(Prod.mk.inj hx).1]
   simp [lenW]
 ·simp only [List.cons.injEq,Value.slice.injEq,and_true] at h1
  obtain ⟨rfl,rfl,rfl⟩:=h1
  have hspot:a.spot=none∧w.shape? a.block≠none:=by
   simp only [Value.okWide,hu,Cell.okWide,Cell.ok] at hval
   obtain ⟨_,_,_,h2,_,_,h3,_⟩:=hval
   exact ⟨h2,by rw [h3];simp⟩
  have ha:a=⟨a.block,a.off,none⟩:=by cases a;simp_all
  have hadd:∀ i,a.add i=⟨a.block,a.off+i,none⟩:=fun i=>by rw [ha];exact zbC _ _ _
  have hkey:∀ j,j<len*ts.length→∃ v,w.cell? ⟨a.block,a.off+j,none⟩=some v∧zjD (ts.getD (j%ts.length) .bool) v:=fun j hj=>by
   have hq:j/ts.length<len:=(Nat.div_lt_iff_lt_mul hpos).2 hj
   have hr:j%ts.length<ts.length:=Nat.mod_lt _ hpos
   have he:=helem (j/ts.length) hq
   rw [List.getElem?_eq_getElem (by rw [hel];exact hq)] at he
   obtain ⟨cs,hcs,htr⟩:=Option.bind_eq_some_iff.1 he
   have hlv:=(zcn (enc:=enc) 20 hf n w base sp held cs _ _ htr).1
   obtain ⟨v,hv1,hv2⟩:=zmZ hlv (j%ts.length) hr
   refine ⟨v,?_,hv2⟩
   have:=zs6 hcs (j%ts.length) (by rw [←hc];exact hr) v hv1
   rw [hadd,zbC,←hc] at this
   rw [←this]
   congr 2
   have:=Nat.div_add_mod j ts.length
   rw [Nat.mul_comm] at this
   omega
  have hget:∀ (i:Nat) (v:Value),i<len*ts.length→w.cell? ⟨a.block,a.off+i,none⟩=some v→((List.range (len*ts.length)).map fun i=>zr8 ((w.cell? ⟨a.block,a.off+i,none⟩).getD undef)).getD i default=zr8 v:=fun i v hi hv=>by
   rw [List.getD_eq_getElem?_getD,List.getElem?_map,List.getElem?_range hi]
   simp [hv]
  refine ⟨(List.range (len*ts.length)).map fun i=>zr8 ((w.cell? ⟨a.block,a.off+i,none⟩).getD undef),⟨a.block,a.off,false,len,cap,none⟩,⟨hpos,⟨len,Nat.le_trans hlc hcm,by simp⟩,fun i hi=>?_⟩,?_,?_,?_⟩
  ·simp only [List.length_map,List.length_range] at hi
   obtain ⟨v,h1,h2⟩:=hkey i hi
   rw [hget i v hi h1]
   exact (zjG (E:=E) h2).2
  ·unfold Loc.slice
   rw [ha]
   rfl
  ·refine ⟨fun e=>(by cases e),fun _=>?_,hpos,by simp,hlc,fun i hi=>?_,fun e=>(by cases e),fun e=>(by cases e)⟩
   ·rcases Nat.lt_or_ge a.block w.heap.size with h | h
    ·exact h
    ·exfalso
     apply hspot.2
     unfold World.shape?
     rw [Array.getElem?_eq_none h]
   ·simp only [List.length_map,List.length_range] at hi
    obtain ⟨v,h1,h2⟩:=hkey i hi
    refine ⟨v,h1,?_⟩
    rw [hget i v hi h1]
    exact (zjG h2).1
  ·rw [(Prod.mk.inj hx).1]
   simp [lenW,hel]
theorem zm0 {w:World} {base b0:Nat} {sp:Nat→Bool} {held:Bool} {r:Reach} (E:Env):∀ {ts:List TypeId} {vs:List Value} {ds:List (DataW H)} {ps:List MemPlace} {ss:List ShV},zcP P ts=some ss →
  (∀ (j:Nat) t v,ts[j]? = some t→vs[j]? = some v→Value.okWide P w r b0 t v)→DataW.TrodAll enc P w base sp held ts vs ds ps →
  ∃ (xs:List DV) (ls:List Loc),zjF ss xs∧zsa ss xs ds∧xs.length=nInV ss∧zdY E w ss xs ls∧(∀ (pre:List DV) (prel:List Loc),argV (dget (pre++xs)) (fun i=>(prel++ls).getD i default) pre.length prel.length ss=vs)
 | [],[],[],ps,ss,hs,_,hd=>by
  simp [zcP] at hs
  subst hs
  exact ⟨[],[],rfl,trivial,rfl,trivial,fun _ _=>rfl⟩
 | t::ts,v::vs,d::ds,ps,ss,hs,hval,hd=>by
  simp only [zcP] at hs
  split at hs
  ·rename_i s rr hs1 hs2
   cases hs
   obtain ⟨p,q,h1,h2,rfl⟩:=hd
   obtain ⟨ys,ls,b1,bl,b2,b3,b4⟩:=zm0 E hs2 (fun j t v ht hv=>hval (j+1) t v (by simpa using ht) (by simpa using hv)) h2
   unfold zr9 at hs1
   split at hs1
   ·rename_i e hu
    split at hs1
    ·rename_i l hl
     split at hs1
     ·rename_i hc
      cases hs1
      simp only [Bool.and_eq_true] at hc
      have hc1:=Nat.eq_of_beq_eq_true hc.1
      have hc2:0<l.length:=Nat.le_of_ble_eq_true hc.2
      obtain ⟨xs,lo,c1,rfl,c3,c4⟩:=zsb hu hl hc1 hc2 (hval 0 t v rfl rfl) h1 E
      refine ⟨.l xs::ys,lo::ls,⟨⟨xs,rfl,c1⟩,b1⟩,⟨c4,bl⟩,by simp [nInV,ShV.wd,b2];omega,⟨c3,b3⟩,fun pre prel=>?_⟩
      have:=b4 (pre++[.l xs]) (prel++[lo])
      simp only [List.append_assoc,List.cons_append,List.nil_append,List.length_append,List.length_cons,List.length_nil,Nat.zero_add] at this
      simp only [argV,this]
      congr 1
      simp [List.getD_eq_getElem?_getD]
     ·cases hs1
    ·cases hs1
   ·obtain ⟨s',hs',rfl⟩:=Option.map_eq_some_iff.1 hs1
    obtain ⟨xs,a1,_,a3,_⟩:=zp7 hs' (hval 0 t v rfl rfl) h1
    refine ⟨xs++ys,ls,⟨?_,?_⟩,by show zsa rr ((xs++ys).drop s'.lts.length) ds;rw [←a1.len,List.drop_left];exact bl,by simp [nInV,ShV.wd,b2,a1.len],?_,fun pre prel=>?_⟩
    ·rw [←a1.len,List.take_left];exact a1
    ·rw [←a1.len,List.drop_left];exact b1
    ·show zdY E w rr ((xs++ys).drop s'.lts.length) ls
     rw [←a1.len,List.drop_left];exact b3
    ·have e1:=a3 pre ys []
     have e2:=b4 (pre++xs) prel
     rw [List.append_assoc,List.length_append] at e2
     rw [List.append_assoc] at e1
     cases s' with
     | one t' =>
      have hl1:xs.length=1:=a1.len
      simp only [zdd,List.cons.injEq] at e1
      simp only [argV,e1.1]
      rw [hl1] at e2
      rw [e2]
     | agg l =>
      have hl1:xs.length=l.length:=a1.len
      simp only [zdd,List.cons.injEq] at e1
      simp only [argV,e1.1]
      rw [hl1] at e2
      rw [e2]
  ·cases hs
 | [],_::_,_,_,_,_,_,hd=>by cases hd
 | [],[],_::_,_,_,_,_,hd=>by cases hd
 | _::_,[],_,_,_,_,_,hd=>by cases hd
 | _::_,_::_,[],_,_,_,_,hd=>by cases hd
end
theorem zjH:∀ (ss:List ShV) (j i:Nat) (b:Blk),nth (blksV j ss) i=some b→b.own=false
 | [],_,i,b,h=>by cases i<;>cases h
 | .pl s::ss,j,i,b,h=>zjH ss _ i b h
 | .row ts::ss,j,0,b,h=>by cases h;rfl
 | .row ts::ss,j,i+1,b,h=>zjH ss _ i b h
theorem zlR {E:Env} {W:World} {n:Nat} (xs:List DV) (ls0:List Loc) (hn:xs.length=n):∀ (ss:List ShV) (j b:Nat),j+nInV ss≤n→zdY E W ss (xs.drop j) (ls0.drop b) →
  ∀ i bk,nth ((blksV j ss).map (Option.map (Blk.inst (zak 0 n)))) i=some bk→BlkRel E (dget xs) (fun i=>ls0.getD i default) W (ls0.getD (b+i) default) bk
 | [],j,b,_,_,i,bk,h=>by cases i<;>cases h
 | .pl s::ss,j,b,hj,hr,i,bk,h=>by
  have hj:j+(s.lts.length+nInV ss)≤n:=hj
  refine zlR xs ls0 hn ss (j+s.lts.length) b (by omega) ?_ i bk h
  have hr:zdY E W ss ((xs.drop j).drop s.lts.length) (ls0.drop b):=hr
  rwa [List.drop_drop] at hr
 | .row ts::ss,j,b,hj,hr,0,bk,h=>by
  have hj:j+(1+nInV ss)≤n:=hj
  cases h
  have hid:(A.h j).inst (zak 0 n) = .r j:=by
   have:=zeH n 0 j (by omega)
   simpa [A.inst] using this
  have h1:=hr.1
  show VRel E W (ls0.getD (b+0) default) false ts (((A.h j).inst (zak 0 n)).cells (dget xs))
  rw [hid]
  have e1:(ls0.drop b).headD default=ls0.getD (b+0) default:=by
   rw [List.headD_eq_head?_getD,List.head?_drop,List.getD_eq_getElem?_getD,Nat.add_zero]
  have e2:(xs.drop j).headD default=dget xs j:=by
   rw [List.headD_eq_head?_getD,List.head?_drop,dget,List.getD_eq_getElem?_getD]
  rw [e1,e2] at h1
  exact h1
 | .row ts::ss,j,b,hj,hr,i+1,bk,h=>by
  have hj:j+(1+nInV ss)≤n:=hj
  have h2:zdY E W ss ((xs.drop j).tail) ((ls0.drop b).tail):=hr.2
  rw [List.tail_drop,List.tail_drop] at h2
  have:=zlR xs ls0 hn ss (j+1) (b+1) (by omega) h2 i bk h
  rwa [show b+1+i=b+(i+1) from by omega] at this
section
variable {C:Checked} {os:Os} {f:FuncId} {fn:Func} {s:ChangeSpec} {H:Type} {enc:TypeId×Value→H} {sg:Sig} {G:List DV→List DV} {I:World→Prop}
structure LawSigV (sg:Sig) (ss:List ShV):Prop where
 ins:sg.ins=patV 0 0 ss
 hin:sg.hin=blksV 0 ss
 nin:sg.nin=nInV ss
 out:sg.out = .s (.one (.b (.h 0)))
 hout:sg.hout=[]
 ots:sg.ots=[.b]
structure LaidOk (P:Program) (ts:List TypeId):Prop where
 rows:laidOutB P=true
 maps:mapsRowed P=true
 full:((List.range P.types.size).all fun t=>match P.underlying t with | some (.slice e)=>decide (0<P.cellsOf e) | _=>true)=true
 lt:ts.all (fun t=>decide (t<P.types.size))=true
theorem zjR {gK : Nat} {ss : List ShV} (k : FnOK C.prog I gK f sg G) (hsh : zcP C.prog fn.params.toList = some ss) (hl : LawSigV sg ss) {tb : TypeId} (hrt : fn.resultTypes = #[tb])
    (htb : C.prog.underlying tb = some .bool) (hvars : s.vars = []) (hs : ∀ ds : List (DataW H), ds.length = fn.params.size → s.fn H ds = { results := [.lit (.bool true)], args := ds }) (hlo : LaidOk C.prog fn.params.toList)
    {X : List DV → Prop} (hG : ∀ xs, zjF ss xs → xs.length = nInV ss → X xs → (sg.need = true → (dget (G xs) 0).toB = true) ∧ (dget (G xs) (if sg.need then 1 else 0)).toB = true)
    {W : World} {base : Nat} {args : Array Value} {ds gs : List (DataW H)} {before : List MemPlace}
    (hval : ∀ (j : Nat) t v, fn.params[j]? = some t → args[j]? = some v → Value.okWide C.prog W .any base t v)
    (hW : DataW.Whole enc C.prog fn.params.toList s.vars false W args.toList ds gs before) (hX : ∀ xs, zsa ss xs ds → X xs) (hI : I W) (hK : gK ≤ W.heap.size) :
    Calls C.prog f args W fun e W' => ∃ v, e = .returned v ∧ s.post enc C.prog fn false true false false W args v W' := by
  have hW0 := hW
  obtain ⟨p, q, hA, hV, rfl, hfz, _⟩ := hW
  rw [hvars] at hV
  obtain ⟨rfl, rfl⟩ := trodVars_none hV
  have hlen : ∀ {ts : List TypeId} {vs : List Value} {ds : List (DataW H)} {ps : List MemPlace}, DataW.TrodAll enc C.prog W 0 (fun _ => true) true ts vs ds ps → ds.length = ts.length := by
    intro ts
    induction ts with
    | nil => intro vs ds ps h; cases vs <;> cases ds <;> first | rfl | cases h
    | cons t ts ih =>
      intro vs ds ps h
      cases vs with
      | nil => cases h
      | cons v vs =>
        cases ds with
        | nil => cases h
        | cons d ds =>
          obtain ⟨p, q, _, h2, _⟩ := h
          simp [ih h2]
  obtain ⟨xs, ls, h1, hlx, hx, h3, h2⟩ := zm0 (callEnv sg.hinI (fun i => default) W) hsh (fun j t v ht hv => hval j t v (by simpa using ht) (by simpa using hv)) hA
  have hg := hG xs h1 hx (hX xs hlx)
  have hhin : sg.hinI = (blksV 0 ss).map (Option.map (Blk.inst (zak 0 sg.nin))) := by unfold Sig.hinI; rw [hl.hin]
  have hown : ∀ j b, nth sg.hinI j = some b → b.own = false := fun j b hj => by
    rw [hhin, zaz] at hj
    obtain ⟨y, hy, rfl⟩ := Option.map_eq_some_iff.1 hj
    rw [Blk.inst_own]
    exact zjH ss 0 j y hy
  have hnW : ∀ (ρ : Nat → Loc) b, ¬ (callEnv sg.hinI ρ W).W b := fun ρ b ⟨j, bk, hj, ho, _⟩ => by rw [hown j bk hj] at ho; cases ho
  obtain ⟨c1, c2⟩ := zgI (n := sg.nin) (dget xs) (fun i => ls.getD i default) ss 0 0 (by rw [hl.nin]; omega)
  have hins : sg.insI = (patV 0 0 ss).map (V.inst (zak 0 sg.nin)) := by unfold Sig.insI; rw [hl.ins]
  have hflat : ∀ {E E' : Env} {ss : List ShV} {ds : List DV} {ls : List Loc}, zdY E W ss ds ls → (∀ t ∈ ss, match t with | .row ts => ts.all LT.flat = true | _ => True) → zdY E' W ss ds ls := by
    intro E E' ss
    induction ss with
    | nil => intro ds ls _ _; trivial
    | cons t ss ih =>
      intro ds ls h ht
      cases t with
      | pl s => exact ih (ds := ds.drop s.lts.length) h (fun u hu => ht u (List.mem_cons_of_mem _ hu))
      | row ts =>
        refine ⟨?_, ih h.2 (fun u hu => ht u (List.mem_cons_of_mem _ hu))⟩
        have hf : ts.all LT.flat = true := ht (.row ts) (by simp)
        have h := h.1
        exact ⟨h.nil, h.lt, h.pos, h.len, h.cap, fun i hi => let ⟨v, h1, h2⟩ := h.cell i hi; ⟨v, h1, h2.flat (ziw hf _)⟩, h.own, h.fz⟩
  have hfl : ∀ t ∈ ss, match t with | .row ts => ts.all LT.flat = true | _ => True := by
    have key : ∀ (d : Nat) (t : TypeId) (l : List LT), zeI C.prog d t = some l → l.all LT.flat = true := by
      intro d
      induction d with
      | zero => intro t l h; cases h
      | succ d ih =>
        intro t l h
        simp only [zeI] at h
        split at h
        · cases h; rfl
        · cases h; rfl
        · split at h
          · cases h
          · rename_i l' hl'
            split at h
            · cases h
              refine List.all_eq_true.2 fun x hx => ?_
              obtain ⟨y, hy, hxy⟩ := List.mem_flatten.1 hx
              rw [(List.mem_replicate.1 hy).2] at hxy
              exact List.all_eq_true.1 (ih _ _ hl') x hxy
            · cases h
        · split at h
          · cases h
          · rename_i l' hl'
            split at h
            · cases h
              have kf : ∀ (fs : List Field) (o : Nat) (l : List LT), zfm C.prog (zeI C.prog d) o fs = some l → l.all LT.flat = true := by
                intro fs
                induction fs with
                | nil => intro o l h; simp [zfm] at h; subst h; rfl
                | cons f fs ihf =>
                  intro o l h
                  simp only [zfm] at h
                  split at h
                  · split at h
                    · cases h
                    · rename_i r hr
                      split at h
                      · split at h
                        · cases h
                        · rename_i r' hr'
                          cases h
                          rw [List.all_append, ih _ _ hr, ihf _ _ hr']
                          rfl
                      · cases h
                  · cases h
              exact kf _ _ _ hl'
            · cases h
        · cases h
    have key2 : ∀ {ts : List TypeId} {ss : List ShV}, zcP C.prog ts = some ss → ∀ t ∈ ss, match t with | .row ts => ts.all LT.flat = true | _ => True := by
      intro ts
      induction ts with
      | nil => intro ss h t ht; simp [zcP] at h; subst h; cases ht
      | cons t ts ih =>
        intro ss h u hu
        simp only [zcP] at h
        split at h
        · rename_i s rr hs1 hs2
          cases h
          rcases List.mem_cons.1 hu with rfl | hu
          · unfold zr9 at hs1
            split at hs1
            · split at hs1
              · rename_i l hl
                split at hs1
                · cases hs1; exact key _ _ _ hl
                · cases hs1
              · cases hs1
            · obtain ⟨s', _, rfl⟩ := Option.map_eq_some_iff.1 hs1
              trivial
          · exact ih hs2 u hu
        · cases h
    exact key2 hsh
  have hk := k xs (fun i => ls.getD i default) W hI (by rw [hl.nin]; exact hx) hg.1 hK (fun b hb => absurd hb (hnW _ b)) (by rw [hins]; exact c2)
    ⟨fun j bk hj => by
      have h3' := hflat (E' := callEnv sg.hinI (fun i => ls.getD i default) W) h3 hfl
      have := zlR xs ls (n := sg.nin) (by rw [hl.nin]; exact hx) ss 0 0 (by rw [hl.nin]; omega) (by simpa using h3') j bk (by rw [← hhin]; exact hj)
      rwa [Nat.zero_add] at this,
     fun j j' bk bk' hj ho => by rw [hown j bk hj] at ho; cases ho⟩
  have ha : (sg.insI.map (V.conc (dget xs) fun i => ls.getD i default)).toArray = args := by
    rw [hins, c1]
    apply Array.ext'
    simpa using h2 [] []
  rw [ha] at hk
  refine hk.mono fun e W' ⟨v, ρ', he, hc⟩ => ⟨.bool true, ?_, ?_⟩
  · rw [he, hc.val]
    have : sg.outI.conc (sg.res (G xs)) ρ' = .bool (dget (G xs) (if sg.need then 1 else 0)).toB := by
      unfold Sig.outI Sig.res
      rw [hl.out, hl.ots]
      show Value.bool (dget (G xs) (0 + _)).toB = _
      rw [Nat.zero_add]
    rw [this, hg.2]
  · have hb : Below W.heap.size W W' := (hc.fr.weaken (W' := fun _ => False) fun b hb => hnW _ b hb).below
    have hsf := hs ds (by have := hlen hA; simpa using this)
    have hkids := kids_rows hlo.rows hlo.maps
    have hT : ∀ t ∈ fn.params.toList, t < C.prog.types.size := fun t ht => by simpa using List.all_eq_true.1 hlo.lt t ht
    have hre := DataW.TrodAll.respare (spare' := fun b => decide (b < W.heap.size)) hkids (slices_full_of C.prog hlo.full) hT hA (fun x hx => by simpa using hA.lt x hx)
    have hcarry : ∀ {ts : List TypeId} {vs : List Value} {ds : List (DataW H)} {ps : List MemPlace}, DataW.TrodAll enc C.prog W 0 (fun b => decide (b < W.heap.size)) true ts vs ds ps → (∀ p ∈ ps, W.sameAt W' p) → DataW.TrodAll enc C.prog W' 0 (fun b => decide (b < W.heap.size)) true ts vs ds ps := by
      intro ts
      induction ts with
      | nil => intro vs ds ps h _; cases vs <;> cases ds <;> first | exact h | cases h
      | cons t ts ih =>
        intro vs ds ps h hsame
        cases vs with
        | nil => cases h
        | cons v vs =>
        cases ds with
        | nil => cases h
        | cons d ds =>
        obtain ⟨p, q, ⟨fu, h1⟩, h2, rfl⟩ := h
        exact ⟨p, q, ⟨fu, DataW.trod_carry fu _ _ _ h1 (fun x hx => hsame x (List.mem_append_left _ hx))⟩, ih h2 (fun x hx => hsame x (List.mem_append_right _ hx)), rfl⟩
    have hre2 := hcarry hre (fun x hx => hb.same (hA.lt x hx))
    refine ⟨ds, [], p ++ [], [], p, [], ⟨p, [], hA, by rw [hvars]; exact rfl, rfl, hfz, fun h => by cases h⟩, ?_, ?_, ?_, hb.frame _, fun h => by cases h⟩
    · rw [List.append_nil, hsf, hrt]
      exact trodAll_mk1 (shut_bool htb true)
    · rw [List.append_nil, hsf]
      exact hre2
    · rw [List.append_nil, hsf, hvars]
      rfl
theorem zlS {gK:Nat} {ss:List ShV} (k:FnOK C.prog I gK f sg G) (hsh:zcP C.prog fn.params.toList=some ss) (hl:LawSigV sg ss) {tb:TypeId} (hrt:fn.resultTypes = #[tb])
  (htb:C.prog.underlying tb=some .bool) (hvars:s.vars=[]) (hs:∀ ds:List (DataW H),ds.length=fn.params.size→s.fn H ds = { results:=[.lit (.bool true)],args:=ds }) (hlo:LaidOk C.prog fn.params.toList)
  (hG:∀ xs,zjF ss xs→xs.length=nInV ss→(sg.need=true→(dget (G xs) 0).toB=true)∧(dget (G xs) (if sg.need then 1 else 0)).toB=true)
  {W:World} {base:Nat} {args:Array Value} {ds gs:List (DataW H)} {before:List MemPlace}
  (hval:∀ (j:Nat) t v,fn.params[j]? = some t→args[j]? = some v→Value.okWide C.prog W .any base t v)
  (hW:DataW.Whole enc C.prog fn.params.toList s.vars false W args.toList ds gs before) (hI:I W) (hK:gK≤W.heap.size) :
  Calls C.prog f args W fun e W'=>∃ v,e = .returned v∧s.post enc C.prog fn false true false false W args v W' :=
 zjR (X:=fun _=>True) k hsh hl hrt htb hvars hs hlo (fun xs a b _=>hG xs a b) hval hW (fun _ _=>trivial) hI hK
theorem zhL {gK:Nat} {ss:List ShV} {laid:List (String×DataW Unit)} (k:FnOK C.prog I gK f sg G) (hsh:zcP C.prog fn.params.toList=some ss) (hl:LawSigV sg ss) {tb:TypeId} (hrt:fn.resultTypes = #[tb])
  (htb:C.prog.underlying tb=some .bool) (hvars:s.vars=[]) (hs:∀ ds:List (DataW H),ds.length=fn.params.size→s.fn H ds = { results:=[.lit (.bool true)],args:=ds }) (hlo:LaidOk C.prog fn.params.toList)
  (hG:∀ xs,zjF ss xs→xs.length=nInV ss→(sg.need=true→(dget (G xs) 0).toB=true)∧(dget (G xs) (if sg.need then 1 else 0)).toB=true)
  (hI:∀ W,laidMetH C.prog laid W→I W) (hK:∀ W,I W→gK≤W.heap.size)
  (own:ownKnob C.prog.godebug=none) (started:os.Started) (noInit:C.prog.inits.idxOf? f=none) (hfn:C.prog.funcs[f]? = some fn)
  (witness:∃ (w:World) (tape:Tape) (i:Input),w.os=os∧(w.forCall tape i).Shaped C.prog∧i.vars=[]∧Input.okWide C.prog (w.forCall tape i) .any w.heap.size f i ∧
   ((s.pre enc C.prog fn [] false (w.forCall tape i).memory i.args∧laidMetH C.prog laid (w.forCall tape i).memory)∧sizedMet enc C.prog fn (OpenSpec.ofChange s) false (w.forCall tape i).memory i.args)∧({} : Assume).holds C.prog (lone (Frame.enter C.prog f i.args .normal) [] (w.forCall tape i))) :
  ReturnsInHanded {} C os f .any (fun w args=>(s.pre enc C.prog fn [] false w args∧laidMetH C.prog laid w)∧sizedMet enc C.prog fn (OpenSpec.ofChange s) false w args) (s.post enc C.prog fn false true false false) :=
 returnsInHanded_of_change_and (C:=C) (X:=fun w _=>laidMetH C.prog laid w) (fun _ _ _ hh h=>h.of_heap hh) own started noInit hfn witness
  fun W _ _ _ _ _ hval hW _ _ hL _=>zlS k hsh hl hrt htb hvars hs hlo hG hval hW (hI W hL) (hK W (hI W hL))
end
end Go.Sx
namespace Go.Proofs.YtedoffkaehcnmaaDoor
open Go Go.Sx Go.RowKit
set_option maxRecDepth 100000
theorem ownL:ownKnob Tryd.prog.godebug=none:=by kernel_rfl
theorem gTab : Tryd.prog.globalNamed "math/bits.deBruijn64tab" = some 0 := by kernel_rfl
theorem uTab:((Tryd.prog.globals[0]?).map (·.type)).bind Tryd.prog.underlying=some (.array 64 5):=by kernel_rfl
def tab0:List Int:=[0,1,56,2,57,49,28,3,61,58,42,50,38,29,17,4,62,47,59,36,45,43,51,22,53,39,33,30,24,18,12,5,63,55,48,27,60,41,37,16,46,35,44,21,52,32,23,11,54,26,40,15,34,20,31,10,25,14,19,9,13,8,7,6]
theorem zuA {W : World} (h : laidMetH Tryd.prog [("math/bits.deBruijn64tab", Rows.laid_math_bits_deBruijn64tab)] W) : WI W := by
 rw [MakeChecks.laidMetH_plain _ _ _ (by kernel_rfl)] at h
 obtain ⟨ps,⟨g0,t0,cs0,f0,p0,q0,hg0,ht0,hv0,hd0,_,_⟩,_,_⟩:=h
 obtain rfl:=Option.some.inj (gTab.symm.trans hg0)
 have hu:=uTab
 rw [ht0] at hu
 exact zoq (zs:=tab0) gTab hv0 (zr7 (zs:=tab0) (n:=64) (e:=5) (show Tryd.prog.underlying t0=some (.array 64 5) from hu) (by kernel_rfl) (by kernel_rfl) hd0)
theorem zs7 (os : Os) (args : Array Value) : laidMetH Tryd.prog [("math/bits.deBruijn64tab", Rows.laid_math_bits_deBruijn64tab)] ((World.doorLaid Tryd.prog 400 os).forCall (fun _ _ => 0) ⟨#[], args, []⟩).memory :=
 laidMetH_of_parts3 (fuel:=8) (laidMet_of_run' 8 (by kernel_rfl) (by kernel_rfl)) (by kernel_rfl) (by kernel_rfl)
end Go.Proofs.YtedoffkaehcnmaaDoor
