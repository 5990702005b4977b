/- The contracts of the functions. Written by the generator. -/
import Derived.Test.YtedoffkaehcnmaaGreatDoorF5
import Derived.Test.YtedoffkaehcnmaaGreatDoorF4
import Derived.Test.YtedoffkaehcnmaaGreatDoorF0
import Derived.Lib.TrailingZeros
import Derived.ProofKit
import Derived.LaidMore
import Derived.Stop.Joined
namespace Go.Proofs.YtedoffkaehcnmaaGreatDoor
open Go Go.Sx
set_option maxRecDepth 100000
set_option maxHeartbeats 4000000
def gK:Nat:=1
def WI (w:World):Prop:=GlobIn w 0 c0
theorem gl0:∀ w,WI w→GlobIn w 0 c0:=fun _ h=>h
theorem zak:zqZ WI gK:=fun w w' hs hb h=>⟨Nat.lt_of_lt_of_le h.1 hs,fun i l hi ν ρ=>⟨(h.2 i l hi ν ρ).1,by
 rw [←(h.2 i l hi ν ρ).2]
 have e:=hb 0 (by decide)
 simp only [World.cell?,e]⟩⟩
theorem k14:FnOK Tryz.prog WI gK 14 s14 g14:=FnOK.up hk14
theorem k21:FnOK Tryz.prog WI gK 21 s21 g21:=FnOK.up hk21
theorem k41:FnOK Tryz.prog WI gK 41 s41 g41:=FnOK.up hk41
theorem k42:FnOK Tryz.prog WI gK 42 s42 g42:=FnOK.up hk42
theorem k53:FnOK Tryz.prog WI gK 53 s53 g53:=FnOK.up hk53
theorem k59:FnOK Tryz.prog WI gK 59 s59 g59:=FnOK.up hk59
theorem k97:FnOK Tryz.prog WI gK 97 s97 g97:=FnOK.up hk97
noncomputable def FE:FEnv:=fun f=>match f with
 | 17=>g17
 | 54=>g54
 | 18=>g18
 | 55=>g55
 | 64=>g64
 | 60=>g60
 | 103=>g103
 | 102=>g102
 | 101=>g101
 | 19=>g19
 | 61=>g61
 | 106=>g106
 | 105=>g105
 | 56=>g56
 | 14=>g14
 | 41=>g41
 | 59=>g59
 | 97=>g97
 | 45=>g45
 | 104600=>zxv
 | 46=>g46
 | 101600=>zxx
 | 16=>g16
 | 101500=>zm4
 | 15=>g15
 | 47=>g47
 | 48=>g48
 | 27=>g27
 | 5=>g5
 | 39=>g39
 | 29=>g29
 | 57=>g57
 | 43=>g43
 | 58=>g58
 | 44=>g44
 | 26=>g26
 | 40=>g40
 | 28=>g28
 | 30=>g30
 | 12=>g12
 | 13=>g13
 | 7=>g7
 | 11=>g11
 | 100900=>zxA
 | 9=>g9
 | 10=>g10
 | 4=>g4
 | 22=>g22
 | 23=>g23
 | 24=>g24
 | 21=>g21
 | 42=>g42
 | 53=>g53
 | 52=>g52
 | 102500=>zxB
 | 25=>g25
 | 103600=>zxD
 | 36=>g36
 | 102000=>zxF
 | 20=>g20
 | 6=>g6
 | 34=>g34
 | 62=>g62
 | 50=>g50
 | 63=>g63
 | 104901=>zxI
 | 49=>g49
 | 51=>g51
 | 103300=>zxL
 | 103302=>zkF
 | 33=>g33
 | 37=>g37
 | 103100=>zxO
 | 31=>g31
 | 32=>g32
 | 35=>g35
 | 38=>g38
 | 8=>g8
 | 3=>g3
 | _=>fun _=>[]
theorem e17:∀ ds,g17 ds=outI FE s17 o17 ds:=zaq (l:=[]) (by kernel_rfl) (fun _ h=>(by cases h))
theorem k17:FnOK Tryz.prog WI gK 17 s17 g17 :=
 zbe (F:=FE) zak (⟨fun _ _ h=>(by cases h),(fun _ _ h=>(by cases h))⟩) Tryz.func17 ev17 (by kernel_rfl) (by kernel_rfl) (zar (by kernel_rfl)) e17
theorem e54:∀ ds,g54 ds=outI FE s54 o54 ds:=zaq (l:=[]) (by kernel_rfl) (fun _ h=>(by cases h))
theorem k54:FnOK Tryz.prog WI gK 54 s54 g54 :=
 zbe (F:=FE) zak (⟨fun _ _ h=>(by cases h),(fun _ _ h=>(by cases h))⟩) Tryz.func54 ev54 (by kernel_rfl) (by kernel_rfl) (zar (by kernel_rfl)) e54
theorem e18:∀ ds,g18 ds=outI FE s18 o18 ds:=zaq (l:=[]) (by kernel_rfl) (fun _ h=>(by cases h))
theorem k18:FnOK Tryz.prog WI gK 18 s18 g18 :=
 zbe (F:=FE) zak (⟨fun _ _ h=>(by cases h),(fun _ _ h=>(by cases h))⟩) Tryz.func18 ev18 (by kernel_rfl) (by kernel_rfl) (zar (by kernel_rfl)) e18
theorem e55:∀ ds,g55 ds=outI FE s55 o55 ds:=zaq (l:=[]) (by kernel_rfl) (fun _ h=>(by cases h))
theorem k55:FnOK Tryz.prog WI gK 55 s55 g55 :=
 zbe (F:=FE) zak (⟨fun _ _ h=>(by cases h),(fun _ _ h=>(by cases h))⟩) Tryz.func55 ev55 (by kernel_rfl) (by kernel_rfl) (zar (by kernel_rfl)) e55
theorem e64:∀ ds,g64 ds=outI FE s64 o64 ds:=zaq (l:=[]) (by kernel_rfl) (fun _ h=>(by cases h))
theorem k64:FnOK Tryz.prog WI gK 64 s64 g64 :=
 zbe (F:=FE) zak (⟨fun _ _ h=>(by cases h),(fun _ _ h=>(by cases h))⟩) Tryz.func64 ev64 (by kernel_rfl) (by kernel_rfl) (zar (by kernel_rfl)) e64
theorem e60:∀ ds,g60 ds=outI FE s60 o60 ds:=zaq (l:=[64]) (by kernel_rfl) (List.forall_mem_cons.2 ⟨by kernel_rfl,fun _ h=>(by cases h)⟩)
theorem k60:FnOK Tryz.prog WI gK 60 s60 g60 :=
 zbe (F:=FE) zak (⟨(fun f s h=>zaC (Q:=fun f s=>FnOK Tryz.prog WI gK f s (FE f)) (l:=S60.fs)
  (show ∀ p∈[(64,s64)],FnOK Tryz.prog WI gK p.1 p.2 (FE p.1) from
  zai k64 (by kernel_rfl) (fun _ h=>(by cases h))) h),(fun _ _ h=>(by cases h))⟩) Tryz.func60 ev60 (by kernel_rfl) (by kernel_rfl) (zar (by kernel_rfl)) e60
theorem e103:∀ ds,g103 ds=outI FE s103 o103 ds:=zaq (l:=[]) (by kernel_rfl) (fun _ h=>(by cases h))
theorem k103:FnOK Tryz.prog WI gK 103 s103 g103 :=
 zbe (F:=FE) zak (⟨fun _ _ h=>(by cases h),(fun _ _ h=>(by cases h))⟩) Tryz.func103 zzR (by kernel_rfl) (by kernel_rfl) (zar (by kernel_rfl)) e103
theorem e102:∀ ds,g102 ds=outI FE s102 o102 ds:=zaq (l:=[]) (by kernel_rfl) (fun _ h=>(by cases h))
theorem k102:FnOK Tryz.prog WI gK 102 s102 g102 :=
 zbe (F:=FE) zak (⟨fun _ _ h=>(by cases h),(fun _ _ h=>(by cases h))⟩) Tryz.func102 zzS (by kernel_rfl) (by kernel_rfl) (zar (by kernel_rfl)) e102
theorem e101:∀ ds,g101 ds=outI FE s101 o101 ds:=zaq (l:=[102,103]) (by kernel_rfl) (List.forall_mem_cons.2 ⟨by kernel_rfl,List.forall_mem_cons.2 ⟨by kernel_rfl,fun _ h=>(by cases h)⟩⟩)
theorem k101:FnOK Tryz.prog WI gK 101 s101 g101 :=
 zbe (F:=FE) zak (⟨(fun f s h=>zaC (Q:=fun f s=>FnOK Tryz.prog WI gK f s (FE f)) (l:=S101.fs)
  (show ∀ p∈[(102,s102),(103,s103)],FnOK Tryz.prog WI gK p.1 p.2 (FE p.1) from
  zai k102 (by kernel_rfl) (zai k103 (by kernel_rfl) (fun _ h=>(by cases h)))) h),(fun _ _ h=>(by cases h))⟩) Tryz.func101 zzT (by kernel_rfl) (by kernel_rfl) (zar (by kernel_rfl)) e101
theorem e19:∀ ds,g19 ds=outI FE s19 o19 ds:=zaq (l:=[]) (by kernel_rfl) (fun _ h=>(by cases h))
theorem k19:FnOK Tryz.prog WI gK 19 s19 g19 :=
 zbe (F:=FE) zak (⟨fun _ _ h=>(by cases h),(fun _ _ h=>(by cases h))⟩) Tryz.func19 ev19 (by kernel_rfl) (by kernel_rfl) (zar (by kernel_rfl)) e19
theorem e61:∀ ds,g61 ds=outI FE s61 o61 ds:=zaq (l:=[]) (by kernel_rfl) (fun _ h=>(by cases h))
theorem k61:FnOK Tryz.prog WI gK 61 s61 g61 :=
 zbe (F:=FE) zak (⟨fun _ _ h=>(by cases h),(fun _ _ h=>(by cases h))⟩) Tryz.func61 ev61 (by kernel_rfl) (by kernel_rfl) (zar (by kernel_rfl)) e61
theorem e106:∀ ds,g106 ds=outI FE s106 o106 ds:=zaq (l:=[]) (by kernel_rfl) (fun _ h=>(by cases h))
theorem k106:FnOK Tryz.prog WI gK 106 s106 g106 :=
 zbe (F:=FE) zak (⟨fun _ _ h=>(by cases h),(fun _ _ h=>(by cases h))⟩) Tryz.func106 zzV (by kernel_rfl) (by kernel_rfl) (zar (by kernel_rfl)) e106
theorem e105:∀ ds,g105 ds=outI FE s105 o105 ds:=zaq (l:=[106,61]) (by kernel_rfl) (List.forall_mem_cons.2 ⟨by kernel_rfl,List.forall_mem_cons.2 ⟨by kernel_rfl,fun _ h=>(by cases h)⟩⟩)
theorem k105:FnOK Tryz.prog WI gK 105 s105 g105 :=
 zbe (F:=FE) zak (⟨(fun f s h=>zaC (Q:=fun f s=>FnOK Tryz.prog WI gK f s (FE f)) (l:=S105.fs)
  (show ∀ p∈[(106,s106),(61,s61)],FnOK Tryz.prog WI gK p.1 p.2 (FE p.1) from
  zai k106 (by kernel_rfl) (zai k61 (by kernel_rfl) (fun _ h=>(by cases h)))) h),(fun _ _ h=>(by cases h))⟩) Tryz.func105 zzU (by kernel_rfl) (by kernel_rfl) (zar (by kernel_rfl)) e105
theorem e56:∀ ds,g56 ds=outI FE s56 o56 ds:=zaq (l:=[]) (by kernel_rfl) (fun _ h=>(by cases h))
theorem k56:FnOK Tryz.prog WI gK 56 s56 g56 :=
 zbe (F:=FE) zak (⟨fun _ _ h=>(by cases h),(fun _ _ h=>(by cases h))⟩) Tryz.func56 ev56 (by kernel_rfl) (by kernel_rfl) (zar (by kernel_rfl)) e56
theorem k45:FnOK Tryz.prog WI gK 45 s45 g45 :=
 zbT (F:=FE) zak (⟨fun _ _ h=>(by cases h),(fun _ _ h=>(by cases h))⟩) Tryz.func45 ev45 (by kernel_rfl) (zar (by kernel_rfl)) fun ds h hp=>match ds,h,hp with
  | [d0,d1,d2],_,_=>⟨by kernel_rfl,zaA (by kernel_rfl) (by kernel_rfl) (by kernel_rfl)⟩
theorem zy1:zas FE zr1:=zc1 (w:=zkg) (c:=zkh) (nx:=zki) (out:=zpD) [.i,.l,.i,.i] (fun ds=>by kernel_rfl) rfl (fun ν xs h=>match xs,h with | [x0,x1],_=>by kernel_rfl)
 (fun ν xs h=>match xs,h with | [x0,x1],_=>by kernel_rfl)
 (fun ν xs h=>match xs,h with | [x0,x1],_=>by kernel_rfl)
 (fun ν xs h=>match xs,h with | [x0,x1],_=>by kernel_rfl)
theorem hl46:∀ l∈o46.loops,zas FE l:=zdz (by kernel_rfl:o46.loops=[zr1])
 (  List.forall_mem_cons.2 ⟨zy1,fun _ h=>(by cases h)⟩)
theorem k46:FnOK Tryz.prog WI gK 46 s46 g46 :=
 zbT (F:=FE) zak (⟨(fun f s h=>zaC (Q:=fun f s=>FnOK Tryz.prog WI gK f s (FE f)) (l:=S46.fs)
  (show ∀ p∈[(45,s45),(59,s59)],FnOK Tryz.prog WI gK p.1 p.2 (FE p.1) from
  zai k45 (by kernel_rfl) (zai k59 (by kernel_rfl) (fun _ h=>(by cases h)))) h),(fun _ _ h=>(by cases h))⟩) Tryz.func46 ev46 (by kernel_rfl) hl46 fun ds h hp=>match ds,h,hp with
  | [d0,d1,d2],_,hp=>⟨(by kernel_rfl:zcd (zaX FE s46 o46 [d0,d1,d2]) o46.owes=(dget (g46 [d0,d1,d2]) 0).toB).trans (hp rfl),zaA (by kernel_rfl) (by kernel_rfl) (by kernel_rfl)⟩
theorem zy2:zas FE zxy:=zc1 (w:=zpF) (c:=zpG) (nx:=zpH) (out:=ztx) [.i,.l,.i,.l] (fun ds=>by kernel_rfl) rfl (fun ν xs h=>match xs,h with | [x0,x1],_=>by kernel_rfl)
 (fun ν xs h=>match xs,h with | [x0,x1],_=>by kernel_rfl)
 (fun ν xs h=>match xs,h with | [x0,x1],_=>by kernel_rfl)
 (fun ν xs h=>match xs,h with | [x0,x1],_=>by kernel_rfl)
theorem hl16:∀ l∈o16.loops,zas FE l:=zdz (by kernel_rfl:o16.loops=[zxy])
 (  List.forall_mem_cons.2 ⟨zy2,fun _ h=>(by cases h)⟩)
theorem k16:FnOK Tryz.prog WI gK 16 s16 g16 :=
 zbT (F:=FE) zak (⟨(fun f s h=>zaC (Q:=fun f s=>FnOK Tryz.prog WI gK f s (FE f)) (l:=S16.fs)
  (show ∀ p∈[(41,s41)],FnOK Tryz.prog WI gK p.1 p.2 (FE p.1) from
  zai k41 (by kernel_rfl) (fun _ h=>(by cases h))) h),(fun _ _ h=>(by cases h))⟩) Tryz.func16 ev16 (by kernel_rfl) hl16 fun ds h hp=>match ds,h,hp with
  | [d0,d1],_,hp=>⟨(by kernel_rfl:zcd (zaX FE s16 o16 [d0,d1]) o16.owes=(dget (g16 [d0,d1]) 0).toB).trans (hp rfl),zaA (by kernel_rfl) (by kernel_rfl) (by kernel_rfl)⟩
theorem zy3:zas FE zr4:=zc1 (w:=zpL) (c:=zpM) (nx:=zpN) (out:=zpO) [.i,.l,.b,.i,.i] (fun ds=>by kernel_rfl) rfl (fun ν xs h=>match xs,h with | [x0,x1,x2],_=>by kernel_rfl)
 (fun ν xs h=>match xs,h with | [x0,x1,x2],_=>by kernel_rfl)
 (fun ν xs h=>match xs,h with | [x0,x1,x2],_=>by kernel_rfl)
 (fun ν xs h=>match xs,h with | [x0,x1,x2],_=>by kernel_rfl)
theorem hl15:∀ l∈o15.loops,zas FE l:=zdz (by kernel_rfl:o15.loops=[zr4])
 (  List.forall_mem_cons.2 ⟨zy3,fun _ h=>(by cases h)⟩)
theorem k15:FnOK Tryz.prog WI gK 15 s15 g15 :=
 zbT (F:=FE) zak (⟨fun _ _ h=>(by cases h),(fun _ _ h=>(by cases h))⟩) Tryz.func15 ev15 (by kernel_rfl) hl15 fun ds h hp=>match ds,h,hp with
  | [d0],_,hp=>⟨(by kernel_rfl:zcd (zaX FE s15 o15 [d0]) o15.owes=(dget (g15 [d0]) 0).toB).trans (hp rfl),zaA (by kernel_rfl) (by kernel_rfl) (by kernel_rfl)⟩
theorem e47:∀ ds,g47 ds=outI FE s47 o47 ds:=zaq (l:=[]) (by kernel_rfl) (fun _ h=>(by cases h))
theorem k47:FnOK Tryz.prog WI gK 47 s47 g47 :=
 zbe (F:=FE) zak (⟨fun _ _ h=>(by cases h),(fun _ _ h=>(by cases h))⟩) Tryz.func47 ev47 (by kernel_rfl) (by kernel_rfl) (zar (by kernel_rfl)) e47
theorem e48:∀ ds,g48 ds=outI FE s48 o48 ds:=zaq (l:=[61,60]) (by kernel_rfl) (List.forall_mem_cons.2 ⟨by kernel_rfl,List.forall_mem_cons.2 ⟨by kernel_rfl,fun _ h=>(by cases h)⟩⟩)
theorem k48:FnOK Tryz.prog WI gK 48 s48 g48 :=
 zbe (F:=FE) zak (⟨(fun f s h=>zaC (Q:=fun f s=>FnOK Tryz.prog WI gK f s (FE f)) (l:=S48.fs)
  (show ∀ p∈[(61,s61),(60,s60)],FnOK Tryz.prog WI gK p.1 p.2 (FE p.1) from
  zai k61 (by kernel_rfl) (zai k60 (by kernel_rfl) (fun _ h=>(by cases h)))) h),(fun _ _ h=>(by cases h))⟩) Tryz.func48 ev48 (by kernel_rfl) (by kernel_rfl) (zar (by kernel_rfl)) e48
theorem k27:FnOK Tryz.prog WI gK 27 s27 g27 :=
 zbT (F:=FE) zak (⟨(fun f s h=>zaC (Q:=fun f s=>FnOK Tryz.prog WI gK f s (FE f)) (l:=S27.fs)
  (show ∀ p∈[(45,s45)],FnOK Tryz.prog WI gK p.1 p.2 (FE p.1) from
  zai k45 (by kernel_rfl) (fun _ h=>(by cases h))) h),(fun _ _ h=>(by cases h))⟩) Tryz.func27 ev27 (by kernel_rfl) (zar (by kernel_rfl)) fun ds h hp=>match ds,h,hp with
  | [d0,d1,d2],_,_=>⟨by kernel_rfl,zaA (by kernel_rfl) (by kernel_rfl) (by kernel_rfl)⟩
theorem k5:FnOK Tryz.prog WI gK 5 s5 g5 :=
 zbT (F:=FE) zak (⟨(fun f s h=>zaC (Q:=fun f s=>FnOK Tryz.prog WI gK f s (FE f)) (l:=S5.fs)
  (show ∀ p∈[(14,s14),(15,s15),(16,s16),(17,s17),(18,s18),(19,s19)],FnOK Tryz.prog WI gK p.1 p.2 (FE p.1) from
  zai k14 (by kernel_rfl) (zai k15 (by kernel_rfl) (zai k16 (by kernel_rfl) (zai k17 (by kernel_rfl) (zai k18 (by kernel_rfl) (zai k19 (by kernel_rfl) (fun _ h=>(by cases h)))))))) h),(fun _ _ h=>(by cases h))⟩) Tryz.func5 ev5 (by kernel_rfl) (zar (by kernel_rfl)) fun ds h hp=>match ds,h,hp with
  | [d0,d1,d2,d3,d4,d5,d6],_,hp=>⟨(by kernel_rfl:zcd (zaX FE s5 o5 [d0,d1,d2,d3,d4,d5,d6]) o5.owes=(dget (g5 [d0,d1,d2,d3,d4,d5,d6]) 0).toB).trans (hp rfl),zaA (by kernel_rfl) (by kernel_rfl) (by kernel_rfl)⟩
theorem e39:∀ ds,g39 ds=outI FE s39 o39 ds:=zaq (l:=[27,54,55,56,47,97,101,105]) (by kernel_rfl) (List.forall_mem_cons.2 ⟨by kernel_rfl,List.forall_mem_cons.2 ⟨by kernel_rfl,List.forall_mem_cons.2 ⟨by kernel_rfl,List.forall_mem_cons.2 ⟨by kernel_rfl,List.forall_mem_cons.2 ⟨by kernel_rfl,List.forall_mem_cons.2 ⟨by kernel_rfl,List.forall_mem_cons.2 ⟨by kernel_rfl,List.forall_mem_cons.2 ⟨by kernel_rfl,fun _ h=>(by cases h)⟩⟩⟩⟩⟩⟩⟩⟩)
theorem k39:FnOK Tryz.prog WI gK 39 s39 g39 :=
 zbe (F:=FE) zak (⟨(fun f s h=>zaC (Q:=fun f s=>FnOK Tryz.prog WI gK f s (FE f)) (l:=S39.fs)
  (show ∀ p∈[(27,s27),(54,s54),(55,s55),(56,s56),(47,s47),(97,s97),(101,s101),(105,s105)],FnOK Tryz.prog WI gK p.1 p.2 (FE p.1) from
  zai k27 (by kernel_rfl) (zai k54 (by kernel_rfl) (zai k55 (by kernel_rfl) (zai k56 (by kernel_rfl) (zai k47 (by kernel_rfl) (zai k97 (by kernel_rfl) (zai k101 (by kernel_rfl) (zai k105 (by kernel_rfl) (fun _ h=>(by cases h)))))))))) h),(fun _ _ h=>(by cases h))⟩) Tryz.func39 ev39 (by kernel_rfl) (by kernel_rfl) (zar (by kernel_rfl)) e39
theorem e29:∀ ds,g29 ds=outI FE s29 o29 ds:=zaq (l:=[27,46,47,97,101,105,48]) (by kernel_rfl) (List.forall_mem_cons.2 ⟨by kernel_rfl,List.forall_mem_cons.2 ⟨by kernel_rfl,List.forall_mem_cons.2 ⟨by kernel_rfl,List.forall_mem_cons.2 ⟨by kernel_rfl,List.forall_mem_cons.2 ⟨by kernel_rfl,List.forall_mem_cons.2 ⟨by kernel_rfl,List.forall_mem_cons.2 ⟨by kernel_rfl,fun _ h=>(by cases h)⟩⟩⟩⟩⟩⟩⟩)
theorem k29:FnOK Tryz.prog WI gK 29 s29 g29 :=
 zbe (F:=FE) zak (⟨(fun f s h=>zaC (Q:=fun f s=>FnOK Tryz.prog WI gK f s (FE f)) (l:=S29.fs)
  (show ∀ p∈[(27,s27),(46,s46),(47,s47),(97,s97),(101,s101),(105,s105),(48,s48)],FnOK Tryz.prog WI gK p.1 p.2 (FE p.1) from
  zai k27 (by kernel_rfl) (zai k46 (by kernel_rfl) (zai k47 (by kernel_rfl) (zai k97 (by kernel_rfl) (zai k101 (by kernel_rfl) (zai k105 (by kernel_rfl) (zai k48 (by kernel_rfl) (fun _ h=>(by cases h))))))))) h),(fun _ _ h=>(by cases h))⟩) Tryz.func29 ev29 (by kernel_rfl) (by kernel_rfl) (zar (by kernel_rfl)) e29
theorem k57:FnOK Tryz.prog WI gK 57 s57 g57 :=
 zbT (F:=FE) zak (⟨fun _ _ h=>(by cases h),(fun _ _ h=>(by cases h))⟩) Tryz.func57 ev57 (by kernel_rfl) (zar (by kernel_rfl)) fun ds h hp=>match ds,h,hp with
  | [d0],_,_=>⟨by kernel_rfl,zaA (by kernel_rfl) (by kernel_rfl) (by kernel_rfl)⟩
theorem e43:∀ ds,g43 ds=outI FE s43 o43 ds:=zaq (l:=[]) (by kernel_rfl) (fun _ h=>(by cases h))
theorem k43:FnOK Tryz.prog WI gK 43 s43 g43 :=
 zbe (F:=FE) zak (⟨fun _ _ h=>(by cases h),(fun _ _ h=>(by cases h))⟩) Tryz.func43 ev43 (by kernel_rfl) (by kernel_rfl) (zar (by kernel_rfl)) e43
theorem k58:FnOK Tryz.prog WI gK 58 s58 g58 :=
 zbT (F:=FE) zak (⟨fun _ _ h=>(by cases h),(fun g cs h=>by
  simp only [S58,assoc] at h
  split at h
  ·rename_i hg;obtain rfl:=Nat.eq_of_beq_eq_true hg;cases h;exact gl0
  cases h)⟩) Tryz.func58 ev58 (by kernel_rfl) (zar (by kernel_rfl)) fun ds h hp=>match ds,h,hp with
  | [d0],_,hp=>⟨(by kernel_rfl:zcd (zaX FE s58 o58 [d0]) o58.owes=(dget (g58 [d0]) 0).toB).trans (hp rfl),zaA (by kernel_rfl) (by kernel_rfl) (by kernel_rfl)⟩
theorem k44:FnOK Tryz.prog WI gK 44 s44 g44 :=
 zbT (F:=FE) zak (⟨(fun f s h=>zaC (Q:=fun f s=>FnOK Tryz.prog WI gK f s (FE f)) (l:=S44.fs)
  (show ∀ p∈[(57,s57),(58,s58)],FnOK Tryz.prog WI gK p.1 p.2 (FE p.1) from
  zai k57 (by kernel_rfl) (zai k58 (by kernel_rfl) (fun _ h=>(by cases h)))) h),(fun _ _ h=>(by cases h))⟩) Tryz.func44 ev44 (by kernel_rfl) (zar (by kernel_rfl)) fun ds h hp=>match ds,h,hp with
  | [d0,d1,d2],_,hp=>⟨(by kernel_rfl:zcd (zaX FE s44 o44 [d0,d1,d2]) o44.owes=(dget (g44 [d0,d1,d2]) 0).toB).trans (hp rfl),zaA (by kernel_rfl) (by kernel_rfl) (by kernel_rfl)⟩
theorem k26:FnOK Tryz.prog WI gK 26 s26 g26 :=
 zbT (F:=FE) zak (⟨(fun f s h=>zaC (Q:=fun f s=>FnOK Tryz.prog WI gK f s (FE f)) (l:=S26.fs)
  (show ∀ p∈[(43,s43),(44,s44)],FnOK Tryz.prog WI gK p.1 p.2 (FE p.1) from
  zai k43 (by kernel_rfl) (zai k44 (by kernel_rfl) (fun _ h=>(by cases h)))) h),(fun _ _ h=>(by cases h))⟩) Tryz.func26 ev26 (by kernel_rfl) (zar (by kernel_rfl)) fun ds h hp=>match ds,h,hp with
  | [d0,d1,d2,d3,d4,d5],_,hp=>⟨(by kernel_rfl:zcd (zaX FE s26 o26 [d0,d1,d2,d3,d4,d5]) o26.owes=(dget (g26 [d0,d1,d2,d3,d4,d5]) 0).toB).trans (hp rfl),zaA (by kernel_rfl) (by kernel_rfl) (by kernel_rfl)⟩
theorem k40:FnOK Tryz.prog WI gK 40 s40 g40 :=
 zbT (F:=FE) zak (⟨fun _ _ h=>(by cases h),(fun _ _ h=>(by cases h))⟩) Tryz.func40 ev40 (by kernel_rfl) (zar (by kernel_rfl)) fun ds h hp=>match ds,h,hp with
  | [d0],_,_=>⟨by kernel_rfl,zaA (by kernel_rfl) (by kernel_rfl) (by kernel_rfl)⟩
theorem k28:FnOK Tryz.prog WI gK 28 s28 g28 :=
 zbT (F:=FE) zak (⟨fun _ _ h=>(by cases h),(fun _ _ h=>(by cases h))⟩) Tryz.func28 ev28 (by kernel_rfl) (zar (by kernel_rfl)) fun ds h hp=>match ds,h,hp with
  | [d0],_,_=>⟨by kernel_rfl,zaA (by kernel_rfl) (by kernel_rfl) (by kernel_rfl)⟩
theorem k30:FnOK Tryz.prog WI gK 30 s30 g30 :=
 zbT (F:=FE) zak (⟨fun _ _ h=>(by cases h),(fun _ _ h=>(by cases h))⟩) Tryz.func30 ev30 (by kernel_rfl) (zar (by kernel_rfl)) fun ds h hp=>match ds,h,hp with
  | [d0],_,_=>⟨by kernel_rfl,zaA (by kernel_rfl) (by kernel_rfl) (by kernel_rfl)⟩
theorem e12:∀ ds,g12 ds=outI FE s12 o12 ds:=zaq (l:=[40]) (by kernel_rfl) (List.forall_mem_cons.2 ⟨by kernel_rfl,fun _ h=>(by cases h)⟩)
theorem k12:FnOK Tryz.prog WI gK 12 s12 g12 :=
 zbe (F:=FE) zak (⟨(fun f s h=>zaC (Q:=fun f s=>FnOK Tryz.prog WI gK f s (FE f)) (l:=S12.fs)
  (show ∀ p∈[(40,s40)],FnOK Tryz.prog WI gK p.1 p.2 (FE p.1) from
  zai k40 (by kernel_rfl) (fun _ h=>(by cases h))) h),(fun _ _ h=>(by cases h))⟩) Tryz.func12 ev12 (by kernel_rfl) (by kernel_rfl) (zar (by kernel_rfl)) e12
theorem k13:FnOK Tryz.prog WI gK 13 s13 g13 :=
 zbT (F:=FE) zak (⟨fun _ _ h=>(by cases h),(fun _ _ h=>(by cases h))⟩) Tryz.func13 ev13 (by kernel_rfl) (zar (by kernel_rfl)) fun ds h hp=>match ds,h,hp with
  | [d0,d1,d2,d3,d4,d5,d6,d7,d8,d9,d10,d11,d12,d13,d14,d15,d16,d17,d18,d19,d20,d21,d22,d23,d24,d25,d26],_,_=>⟨by kernel_rfl,zaA (by kernel_rfl) (by kernel_rfl) (by kernel_rfl)⟩
theorem e7:∀ ds,g7 ds=outI FE s7 o7 ds:=zaq (l:=[26,27,28,29,13,30]) (by kernel_rfl) (List.forall_mem_cons.2 ⟨by kernel_rfl,List.forall_mem_cons.2 ⟨by kernel_rfl,List.forall_mem_cons.2 ⟨by kernel_rfl,List.forall_mem_cons.2 ⟨by kernel_rfl,List.forall_mem_cons.2 ⟨by kernel_rfl,List.forall_mem_cons.2 ⟨by kernel_rfl,fun _ h=>(by cases h)⟩⟩⟩⟩⟩⟩)
theorem k7:FnOK Tryz.prog WI gK 7 s7 g7 :=
 zbe (F:=FE) zak (⟨(fun f s h=>zaC (Q:=fun f s=>FnOK Tryz.prog WI gK f s (FE f)) (l:=S7.fs)
  (show ∀ p∈[(26,s26),(27,s27),(28,s28),(29,s29),(13,s13),(30,s30)],FnOK Tryz.prog WI gK p.1 p.2 (FE p.1) from
  zai k26 (by kernel_rfl) (zai k27 (by kernel_rfl) (zai k28 (by kernel_rfl) (zai k29 (by kernel_rfl) (zai k13 (by kernel_rfl) (zai k30 (by kernel_rfl) (fun _ h=>(by cases h)))))))) h),(fun _ _ h=>(by cases h))⟩) Tryz.func7 ev7 (by kernel_rfl) (by kernel_rfl) (zar (by kernel_rfl)) e7
theorem e11:∀ ds,g11 ds=outI FE s11 o11 ds:=zaq (l:=[12,7,26,39,28]) (by kernel_rfl) (List.forall_mem_cons.2 ⟨by kernel_rfl,List.forall_mem_cons.2 ⟨by kernel_rfl,List.forall_mem_cons.2 ⟨by kernel_rfl,List.forall_mem_cons.2 ⟨by kernel_rfl,List.forall_mem_cons.2 ⟨by kernel_rfl,fun _ h=>(by cases h)⟩⟩⟩⟩⟩)
theorem k11:FnOK Tryz.prog WI gK 11 s11 g11 :=
 zbe (F:=FE) zak (⟨(fun f s h=>zaC (Q:=fun f s=>FnOK Tryz.prog WI gK f s (FE f)) (l:=S11.fs)
  (show ∀ p∈[(12,s12),(7,s7),(26,s26),(39,s39),(28,s28)],FnOK Tryz.prog WI gK p.1 p.2 (FE p.1) from
  zai k12 (by kernel_rfl) (zai k7 (by kernel_rfl) (zai k26 (by kernel_rfl) (zai k39 (by kernel_rfl) (zai k28 (by kernel_rfl) (fun _ h=>(by cases h))))))) h),(fun _ _ h=>(by cases h))⟩) Tryz.func11 ev11 (by kernel_rfl) (by kernel_rfl) (zar (by kernel_rfl)) e11
theorem zAh:zas FE l9_0:=zc1 (w:=zko) (c:=zkp) (nx:=zm5) (out:=zpQ) [.i,.i,.i,.l] (fun ds=>by kernel_rfl) rfl (fun ν xs h=>match xs,h with | [x0,x1],_=>by kernel_rfl)
 (fun ν xs h=>match xs,h with | [x0,x1],_=>by kernel_rfl)
 (fun ν xs h=>match xs,h with | [x0,x1],_=>by kernel_rfl)
 (fun ν xs h=>match xs,h with | [x0,x1],_=>by kernel_rfl)
theorem hl9:∀ l∈o9.loops,zas FE l:=zdz (by kernel_rfl:o9.loops=[l9_0])
 (  List.forall_mem_cons.2 ⟨zAh,fun _ h=>(by cases h)⟩)
theorem k9:FnOK Tryz.prog WI gK 9 s9 g9 :=
 zbT (F:=FE) zak (⟨fun _ _ h=>(by cases h),(fun _ _ h=>(by cases h))⟩) Tryz.func9 ev9 (by kernel_rfl) hl9 fun ds h hp=>match ds,h,hp with
  | [d0,d1,d2],_,hp=>⟨(by kernel_rfl:zcd (zaX FE s9 o9 [d0,d1,d2]) o9.owes=(dget (g9 [d0,d1,d2]) 0).toB).trans (hp rfl),zaA (by kernel_rfl) (by kernel_rfl) (by kernel_rfl)⟩
theorem e10:∀ ds,g10 ds=outI FE s10 o10 ds:=zaq (l:=[]) (by kernel_rfl) (fun _ h=>(by cases h))
theorem k10:FnOK Tryz.prog WI gK 10 s10 g10 :=
 zbe (F:=FE) zak (⟨fun _ _ h=>(by cases h),(fun _ _ h=>(by cases h))⟩) Tryz.func10 ev10 (by kernel_rfl) (by kernel_rfl) (zar (by kernel_rfl)) e10
theorem e4:∀ ds,g4 ds=outI FE s4 o4 ds:=zaq (l:=[9,5,10,7,11,12,13]) (by kernel_rfl) (List.forall_mem_cons.2 ⟨by kernel_rfl,List.forall_mem_cons.2 ⟨by kernel_rfl,List.forall_mem_cons.2 ⟨by kernel_rfl,List.forall_mem_cons.2 ⟨by kernel_rfl,List.forall_mem_cons.2 ⟨by kernel_rfl,List.forall_mem_cons.2 ⟨by kernel_rfl,List.forall_mem_cons.2 ⟨by kernel_rfl,fun _ h=>(by cases h)⟩⟩⟩⟩⟩⟩⟩)
theorem k4:FnOK Tryz.prog WI gK 4 s4 g4 :=
 zbe (F:=FE) zak (⟨(fun f s h=>zaC (Q:=fun f s=>FnOK Tryz.prog WI gK f s (FE f)) (l:=S4.fs)
  (show ∀ p∈[(9,s9),(5,s5),(10,s10),(7,s7),(11,s11),(12,s12),(13,s13)],FnOK Tryz.prog WI gK p.1 p.2 (FE p.1) from
  zai k9 (by kernel_rfl) (zai k5 (by kernel_rfl) (zai k10 (by kernel_rfl) (zai k7 (by kernel_rfl) (zai k11 (by kernel_rfl) (zai k12 (by kernel_rfl) (zai k13 (by kernel_rfl) (fun _ h=>(by cases h))))))))) h),(fun _ _ h=>(by cases h))⟩) Tryz.func4 ev4 (by kernel_rfl) (by kernel_rfl) (zar (by kernel_rfl)) e4
theorem e22:∀ ds,g22 ds=outI FE s22 o22 ds:=zaq (l:=[]) (by kernel_rfl) (fun _ h=>(by cases h))
theorem k22:FnOK Tryz.prog WI gK 22 s22 g22 :=
 zbe (F:=FE) zak (⟨fun _ _ h=>(by cases h),(fun _ _ h=>(by cases h))⟩) Tryz.func22 ev22 (by kernel_rfl) (by kernel_rfl) (zar (by kernel_rfl)) e22
theorem e23:∀ ds,g23 ds=outI FE s23 o23 ds:=zaq (l:=[]) (by kernel_rfl) (fun _ h=>(by cases h))
theorem k23:FnOK Tryz.prog WI gK 23 s23 g23 :=
 zbe (F:=FE) zak (⟨fun _ _ h=>(by cases h),(fun _ _ h=>(by cases h))⟩) Tryz.func23 ev23 (by kernel_rfl) (by kernel_rfl) (zar (by kernel_rfl)) e23
theorem e24:∀ ds,g24 ds=outI FE s24 o24 ds:=zaq (l:=[]) (by kernel_rfl) (fun _ h=>(by cases h))
theorem k24:FnOK Tryz.prog WI gK 24 s24 g24 :=
 zbe (F:=FE) zak (⟨fun _ _ h=>(by cases h),(fun _ _ h=>(by cases h))⟩) Tryz.func24 ev24 (by kernel_rfl) (by kernel_rfl) (zar (by kernel_rfl)) e24
theorem k52:FnOK Tryz.prog WI gK 52 s52 g52 :=
 zbT (F:=FE) zak (⟨fun _ _ h=>(by cases h),(fun _ _ h=>(by cases h))⟩) Tryz.func52 ev52 (by kernel_rfl) (zar (by kernel_rfl)) fun ds h hp=>match ds,h,hp with
  | [d0,d1,d2],_,_=>⟨by kernel_rfl,zaA (by kernel_rfl) (by kernel_rfl) (by kernel_rfl)⟩
theorem zy4:zas FE zxC:=zc1 (w:=zpS) (c:=zpT) (nx:=zpU) (out:=ztY) [.l,.i,.l] (fun ds=>by kernel_rfl) rfl (fun ν xs h=>match xs,h with | [x0,x1],_=>by kernel_rfl)
 (fun ν xs h=>match xs,h with | [x0,x1],_=>by kernel_rfl)
 (fun ν xs h=>match xs,h with | [x0,x1],_=>by kernel_rfl)
 (fun ν xs h=>match xs,h with | [x0,x1],_=>by kernel_rfl)
theorem hl25:∀ l∈o25.loops,zas FE l:=zdz (by kernel_rfl:o25.loops=[zxC])
 (  List.forall_mem_cons.2 ⟨zy4,fun _ h=>(by cases h)⟩)
theorem k25:FnOK Tryz.prog WI gK 25 s25 g25 :=
 zbT (F:=FE) zak (⟨(fun f s h=>zaC (Q:=fun f s=>FnOK Tryz.prog WI gK f s (FE f)) (l:=S25.fs)
  (show ∀ p∈[(42,s42)],FnOK Tryz.prog WI gK p.1 p.2 (FE p.1) from
  zai k42 (by kernel_rfl) (fun _ h=>(by cases h))) h),(fun _ _ h=>(by cases h))⟩) Tryz.func25 ev25 (by kernel_rfl) hl25 fun ds h hp=>match ds,h,hp with
  | [d0,d1],_,hp=>⟨(by kernel_rfl:zcd (zaX FE s25 o25 [d0,d1]) o25.owes=(dget (g25 [d0,d1]) 0).toB).trans (hp rfl),zaA (by kernel_rfl) (by kernel_rfl) (by kernel_rfl)⟩
theorem zy5:zas FE zxE:=zc1 (w:=zpW) (c:=zpX) (nx:=zpY) (out:=zt5) [.i,.i,.l,.i,.i] (fun ds=>by kernel_rfl) rfl (fun ν xs h=>match xs,h with | [x0,x1],_=>by kernel_rfl)
 (fun ν xs h=>match xs,h with | [x0,x1],_=>by kernel_rfl)
 (fun ν xs h=>match xs,h with | [x0,x1],_=>by kernel_rfl)
 (fun ν xs h=>match xs,h with | [x0,x1],_=>by kernel_rfl)
theorem hl36:∀ l∈o36.loops,zas FE l:=zdz (by kernel_rfl:o36.loops=[zxE])
 (  List.forall_mem_cons.2 ⟨zy5,fun _ h=>(by cases h)⟩)
theorem k36:FnOK Tryz.prog WI gK 36 s36 g36 :=
 zbT (F:=FE) zak (⟨(fun f s h=>zaC (Q:=fun f s=>FnOK Tryz.prog WI gK f s (FE f)) (l:=S36.fs)
  (show ∀ p∈[(52,s52),(53,s53)],FnOK Tryz.prog WI gK p.1 p.2 (FE p.1) from
  zai k52 (by kernel_rfl) (zai k53 (by kernel_rfl) (fun _ h=>(by cases h)))) h),(fun _ _ h=>(by cases h))⟩) Tryz.func36 ev36 (by kernel_rfl) hl36 fun ds h hp=>match ds,h,hp with
  | [d0,d1,d2],_,hp=>⟨(by kernel_rfl:zcd (zaX FE s36 o36 [d0,d1,d2]) o36.owes=(dget (g36 [d0,d1,d2]) 0).toB).trans (hp rfl),zaA (by kernel_rfl) (by kernel_rfl) (by kernel_rfl)⟩
theorem zy6:zas FE zxG:=zc1 (w:=zue) (c:=zuf) (nx:=zug) (out:=zuh) [.l,.b,.i] (fun ds=>by kernel_rfl) rfl (fun ν xs h=>match xs,h with | [x0,x1],_=>by kernel_rfl)
 (fun ν xs h=>match xs,h with | [x0,x1],_=>by kernel_rfl)
 (fun ν xs h=>match xs,h with | [x0,x1],_=>by kernel_rfl)
 (fun ν xs h=>match xs,h with | [x0,x1],_=>by kernel_rfl)
theorem hl20:∀ l∈o20.loops,zas FE l:=zdz (by kernel_rfl:o20.loops=[zxG])
 (  List.forall_mem_cons.2 ⟨zy6,fun _ h=>(by cases h)⟩)
theorem k20:FnOK Tryz.prog WI gK 20 s20 g20 :=
 zbT (F:=FE) zak (⟨fun _ _ h=>(by cases h),(fun _ _ h=>(by cases h))⟩) Tryz.func20 ev20 (by kernel_rfl) hl20 fun ds h hp=>match ds,h,hp with
  | [d0],_,hp=>⟨(by kernel_rfl:zcd (zaX FE s20 o20 [d0]) o20.owes=(dget (g20 [d0]) 0).toB).trans (hp rfl),zaA (by kernel_rfl) (by kernel_rfl) (by kernel_rfl)⟩
theorem k6:FnOK Tryz.prog WI gK 6 s6 g6 :=
 zbT (F:=FE) zak (⟨(fun f s h=>zaC (Q:=fun f s=>FnOK Tryz.prog WI gK f s (FE f)) (l:=S6.fs)
  (show ∀ p∈[(20,s20),(21,s21),(22,s22),(23,s23),(24,s24),(25,s25)],FnOK Tryz.prog WI gK p.1 p.2 (FE p.1) from
  zai k20 (by kernel_rfl) (zai k21 (by kernel_rfl) (zai k22 (by kernel_rfl) (zai k23 (by kernel_rfl) (zai k24 (by kernel_rfl) (zai k25 (by kernel_rfl) (fun _ h=>(by cases h)))))))) h),(fun _ _ h=>(by cases h))⟩) Tryz.func6 ev6 (by kernel_rfl) (zar (by kernel_rfl)) fun ds h hp=>match ds,h,hp with
  | [d0,d1,d2,d3,d4,d5,d6],_,hp=>⟨(by kernel_rfl:zcd (zaX FE s6 o6 [d0,d1,d2,d3,d4,d5,d6]) o6.owes=(dget (g6 [d0,d1,d2,d3,d4,d5,d6]) 0).toB).trans (hp rfl),zaA (by kernel_rfl) (by kernel_rfl) (by kernel_rfl)⟩
theorem k34:FnOK Tryz.prog WI gK 34 s34 g34 :=
 zbT (F:=FE) zak (⟨(fun f s h=>zaC (Q:=fun f s=>FnOK Tryz.prog WI gK f s (FE f)) (l:=S34.fs)
  (show ∀ p∈[(52,s52)],FnOK Tryz.prog WI gK p.1 p.2 (FE p.1) from
  zai k52 (by kernel_rfl) (fun _ h=>(by cases h))) h),(fun _ _ h=>(by cases h))⟩) Tryz.func34 ev34 (by kernel_rfl) (zar (by kernel_rfl)) fun ds h hp=>match ds,h,hp with
  | [d0,d1,d2],_,_=>⟨by kernel_rfl,zaA (by kernel_rfl) (by kernel_rfl) (by kernel_rfl)⟩
theorem k62:FnOK Tryz.prog WI gK 62 s62 g62 :=
 zbT (F:=FE) zak (⟨fun _ _ h=>(by cases h),(fun _ _ h=>(by cases h))⟩) Tryz.func62 ev62 (by kernel_rfl) (zar (by kernel_rfl)) fun ds h hp=>match ds,h,hp with
  | [d0],_,_=>⟨by kernel_rfl,zaA (by kernel_rfl) (by kernel_rfl) (by kernel_rfl)⟩
theorem k50:FnOK Tryz.prog WI gK 50 s50 g50 :=
 zbT (F:=FE) zak (⟨fun _ _ h=>(by cases h),(fun _ _ h=>(by cases h))⟩) Tryz.func50 ev50 (by kernel_rfl) (zar (by kernel_rfl)) fun ds h hp=>match ds,h,hp with
  | [d0,d1],_,hp=>⟨(by kernel_rfl:zcd (zaX FE s50 o50 [d0,d1]) o50.owes=(dget (g50 [d0,d1]) 0).toB).trans (hp rfl),zaA (by kernel_rfl) (by kernel_rfl) (by kernel_rfl)⟩
theorem k63:FnOK Tryz.prog WI gK 63 s63 g63 :=
 zbT (F:=FE) zak (⟨(fun f s h=>zaC (Q:=fun f s=>FnOK Tryz.prog WI gK f s (FE f)) (l:=S63.fs)
  (show ∀ p∈[(50,s50)],FnOK Tryz.prog WI gK p.1 p.2 (FE p.1) from
  zai k50 (by kernel_rfl) (fun _ h=>(by cases h))) h),(fun _ _ h=>(by cases h))⟩) Tryz.func63 ev63 (by kernel_rfl) (zar (by kernel_rfl)) fun ds h hp=>match ds,h,hp with
  | [d0],_,hp=>⟨(by kernel_rfl:zcd (zaX FE s63 o63 [d0]) o63.owes=(dget (g63 [d0]) 0).toB).trans (hp rfl),zaA (by kernel_rfl) (by kernel_rfl) (by kernel_rfl)⟩
theorem zy7:zas FE zxJ:=zc1 (w:=zkB) (c:=zkC) (nx:=zhS) (out:=zkD) [.i,.i] (fun ds=>by kernel_rfl) rfl (fun ν xs h=>match xs,h with | [x0,x1],_=>by kernel_rfl)
 (fun ν xs h=>match xs,h with | [x0,x1],_=>by kernel_rfl)
 (fun ν xs h=>match xs,h with | [x0,x1],_=>by kernel_rfl)
 (fun ν xs h=>match xs,h with | [x0,x1],_=>by kernel_rfl)
theorem hl49:∀ l∈o49.loops,zas FE l:=zdz (by kernel_rfl:o49.loops=[zxJ])
 (  List.forall_mem_cons.2 ⟨zy7,fun _ h=>(by cases h)⟩)
theorem k49:FnOK Tryz.prog WI gK 49 s49 g49 :=
 zbT (F:=FE) zak (⟨(fun f s h=>zaC (Q:=fun f s=>FnOK Tryz.prog WI gK f s (FE f)) (l:=S49.fs)
  (show ∀ p∈[(62,s62),(63,s63)],FnOK Tryz.prog WI gK p.1 p.2 (FE p.1) from
  zai k62 (by kernel_rfl) (zai k63 (by kernel_rfl) (fun _ h=>(by cases h)))) h),(fun _ _ h=>(by cases h))⟩) Tryz.func49 ev49 (by kernel_rfl) hl49 fun ds h hp=>match ds,h,hp with
  | [d0,d1,d2],_,hp=>⟨(by kernel_rfl:zcd (zaX FE s49 o49 [d0,d1,d2]) o49.owes=(dget (g49 [d0,d1,d2]) 0).toB).trans (hp rfl),zaA (by kernel_rfl) (by kernel_rfl) (by kernel_rfl)⟩
theorem k51:FnOK Tryz.prog WI gK 51 s51 g51 :=
 zbT (F:=FE) zak (⟨(fun f s h=>zaC (Q:=fun f s=>FnOK Tryz.prog WI gK f s (FE f)) (l:=S51.fs)
  (show ∀ p∈[(50,s50)],FnOK Tryz.prog WI gK p.1 p.2 (FE p.1) from
  zai k50 (by kernel_rfl) (fun _ h=>(by cases h))) h),(fun _ _ h=>(by cases h))⟩) Tryz.func51 ev51 (by kernel_rfl) (zar (by kernel_rfl)) fun ds h hp=>match ds,h,hp with
  | [d0,d1],_,hp=>⟨(by kernel_rfl:zcd (zaX FE s51 o51 [d0,d1]) o51.owes=(dget (g51 [d0,d1]) 0).toB).trans (hp rfl),zaA (by kernel_rfl) (by kernel_rfl) (by kernel_rfl)⟩
theorem zy8:zas FE zxM:=zc1 (w:=zp5) (c:=zp6) (nx:=zp7) (out:=zuA) [.i,.i,.b,.i,.i,.b,.b,.i] (fun ds=>by kernel_rfl) rfl (fun ν xs h=>match xs,h with | [x0,x1,x2],_=>by kernel_rfl)
 (fun ν xs h=>match xs,h with | [x0,x1,x2],_=>by kernel_rfl)
 (fun ν xs h=>match xs,h with | [x0,x1,x2],_=>by kernel_rfl)
 (fun ν xs h=>match xs,h with | [x0,x1,x2],_=>by kernel_rfl)
theorem zy9:zas FE zxN:=zc1 (w:=zm8) (c:=zp8) (nx:=zp9) (out:=zuI) [.l,.i,.i,.i,.l,.i,.b,.i] (fun ds=>by kernel_rfl) rfl (fun ν xs h=>match xs,h with | [x0,x1],_=>by kernel_rfl)
 (fun ν xs h=>match xs,h with | [x0,x1],_=>by kernel_rfl)
 (fun ν xs h=>match xs,h with | [x0,x1],_=>by kernel_rfl)
 (fun ν xs h=>match xs,h with | [x0,x1],_=>by kernel_rfl)
theorem hl33:∀ l∈o33.loops,zas FE l:=zdz (by kernel_rfl:o33.loops=[zxM,zxN])
 (  List.forall_mem_cons.2 ⟨zy8,List.forall_mem_cons.2 ⟨zy9,fun _ h=>(by cases h)⟩⟩)
theorem k33:FnOK Tryz.prog WI gK 33 s33 g33 :=
 zbT (F:=FE) zak (⟨(fun f s h=>zaC (Q:=fun f s=>FnOK Tryz.prog WI gK f s (FE f)) (l:=S33.fs)
  (show ∀ p∈[(49,s49),(50,s50),(51,s51)],FnOK Tryz.prog WI gK p.1 p.2 (FE p.1) from
  zai k49 (by kernel_rfl) (zai k50 (by kernel_rfl) (zai k51 (by kernel_rfl) (fun _ h=>(by cases h))))) h),(fun _ _ h=>(by cases h))⟩) Tryz.func33 ev33 (by kernel_rfl) hl33 fun ds h hp=>match ds,h,hp with
  | [d0,d1,d2,d3,d4,d5],_,hp=>⟨(by kernel_rfl:zcd (zaX FE s33 o33 [d0,d1,d2,d3,d4,d5]) o33.owes=(dget (g33 [d0,d1,d2,d3,d4,d5]) 0).toB).trans (hp rfl),zaA (by kernel_rfl) (by kernel_rfl) (by kernel_rfl)⟩
theorem k37:FnOK Tryz.prog WI gK 37 s37 g37 :=
 zbT (F:=FE) zak (⟨fun _ _ h=>(by cases h),(fun _ _ h=>(by cases h))⟩) Tryz.func37 ev37 (by kernel_rfl) (zar (by kernel_rfl)) fun ds h hp=>match ds,h,hp with
  | [d0,d1],_,hp=>⟨(by kernel_rfl:zcd (zaX FE s37 o37 [d0,d1]) o37.owes=(dget (g37 [d0,d1]) 0).toB).trans (hp rfl),zaA (by kernel_rfl) (by kernel_rfl) (by kernel_rfl)⟩
theorem zza:zas FE zxP:=zc1 (w:=zqb) (c:=zqc) (nx:=zqd) (out:=zuP) [.i,.i,.i,.i] (fun ds=>by kernel_rfl) rfl (fun ν xs h=>match xs,h with | [x0,x1],_=>by kernel_rfl)
 (fun ν xs h=>match xs,h with | [x0,x1],_=>by kernel_rfl)
 (fun ν xs h=>match xs,h with | [x0,x1],_=>by kernel_rfl)
 (fun ν xs h=>match xs,h with | [x0,x1],_=>by kernel_rfl)
theorem hl31:∀ l∈o31.loops,zas FE l:=zdz (by kernel_rfl:o31.loops=[zxP])
 (  List.forall_mem_cons.2 ⟨zza,fun _ h=>(by cases h)⟩)
theorem k31:FnOK Tryz.prog WI gK 31 s31 g31 :=
 zbT (F:=FE) zak (⟨fun _ _ h=>(by cases h),(fun _ _ h=>(by cases h))⟩) Tryz.func31 ev31 (by kernel_rfl) hl31 fun ds h hp=>match ds,h,hp with
  | [d0,d1,d2],_,hp=>⟨(by kernel_rfl:zcd (zaX FE s31 o31 [d0,d1,d2]) o31.owes=(dget (g31 [d0,d1,d2]) 0).toB).trans (hp rfl),zaA (by kernel_rfl) (by kernel_rfl) (by kernel_rfl)⟩
theorem k32:FnOK Tryz.prog WI gK 32 s32 g32 :=
 zbT (F:=FE) zak (⟨fun _ _ h=>(by cases h),(fun _ _ h=>(by cases h))⟩) Tryz.func32 ev32 (by kernel_rfl) (zar (by kernel_rfl)) fun ds h hp=>match ds,h,hp with
  | [d0],_,_=>⟨by kernel_rfl,zaA (by kernel_rfl) (by kernel_rfl) (by kernel_rfl)⟩
theorem k35:FnOK Tryz.prog WI gK 35 s35 g35 :=
 zbT (F:=FE) zak (⟨fun _ _ h=>(by cases h),(fun _ _ h=>(by cases h))⟩) Tryz.func35 ev35 (by kernel_rfl) (zar (by kernel_rfl)) fun ds h hp=>match ds,h,hp with
  | [d0],_,_=>⟨by kernel_rfl,zaA (by kernel_rfl) (by kernel_rfl) (by kernel_rfl)⟩
theorem k38:FnOK Tryz.prog WI gK 38 s38 g38 :=
 zbT (F:=FE) zak (⟨(fun f s h=>zaC (Q:=fun f s=>FnOK Tryz.prog WI gK f s (FE f)) (l:=S38.fs)
  (show ∀ p∈[(37,s37)],FnOK Tryz.prog WI gK p.1 p.2 (FE p.1) from
  zai k37 (by kernel_rfl) (fun _ h=>(by cases h))) h),(fun _ _ h=>(by cases h))⟩) Tryz.func38 ev38 (by kernel_rfl) (zar (by kernel_rfl)) fun ds h hp=>match ds,h,hp with
  | [d0,d1,d2,d3,d4,d5,d6,d7,d8,d9,d10,d11,d12,d13,d14,d15,d16,d17,d18,d19,d20,d21,d22,d23,d24,d25,d26],_,hp=>⟨(by kernel_rfl:zcd (zaX FE s38 o38 [d0,d1,d2,d3,d4,d5,d6,d7,d8,d9,d10,d11,d12,d13,d14,d15,d16,d17,d18,d19,d20,d21,d22,d23,d24,d25,d26]) o38.owes=(dget (g38 [d0,d1,d2,d3,d4,d5,d6,d7,d8,d9,d10,d11,d12,d13,d14,d15,d16,d17,d18,d19,d20,d21,d22,d23,d24,d25,d26]) 0).toB).trans (hp rfl),zaA (by kernel_rfl) (by kernel_rfl) (by kernel_rfl)⟩
theorem e8:∀ ds,g8 ds=outI FE s8 o8 ds:=zaq (l:=[31,32,33,34,35,36,37,38]) (by kernel_rfl) (List.forall_mem_cons.2 ⟨by kernel_rfl,List.forall_mem_cons.2 ⟨by kernel_rfl,List.forall_mem_cons.2 ⟨by kernel_rfl,List.forall_mem_cons.2 ⟨by kernel_rfl,List.forall_mem_cons.2 ⟨by kernel_rfl,List.forall_mem_cons.2 ⟨by kernel_rfl,List.forall_mem_cons.2 ⟨by kernel_rfl,List.forall_mem_cons.2 ⟨by kernel_rfl,fun _ h=>(by cases h)⟩⟩⟩⟩⟩⟩⟩⟩)
theorem k8:FnOK Tryz.prog WI gK 8 s8 g8 :=
 zbe (F:=FE) zak (⟨(fun f s h=>zaC (Q:=fun f s=>FnOK Tryz.prog WI gK f s (FE f)) (l:=S8.fs)
  (show ∀ p∈[(31,s31),(32,s32),(33,s33),(34,s34),(35,s35),(36,s36),(37,s37),(38,s38)],FnOK Tryz.prog WI gK p.1 p.2 (FE p.1) from
  zai k31 (by kernel_rfl) (zai k32 (by kernel_rfl) (zai k33 (by kernel_rfl) (zai k34 (by kernel_rfl) (zai k35 (by kernel_rfl) (zai k36 (by kernel_rfl) (zai k37 (by kernel_rfl) (zai k38 (by kernel_rfl) (fun _ h=>(by cases h)))))))))) h),(fun _ _ h=>(by cases h))⟩) Tryz.func8 ev8 (by kernel_rfl) (by kernel_rfl) (zar (by kernel_rfl)) e8
theorem e3:∀ ds,g3 ds=outI FE s3 o3 ds:=zaq (l:=[4,5,6,7,8]) (by kernel_rfl) (List.forall_mem_cons.2 ⟨by kernel_rfl,List.forall_mem_cons.2 ⟨by kernel_rfl,List.forall_mem_cons.2 ⟨by kernel_rfl,List.forall_mem_cons.2 ⟨by kernel_rfl,List.forall_mem_cons.2 ⟨by kernel_rfl,fun _ h=>(by cases h)⟩⟩⟩⟩⟩)
theorem k3:FnOK Tryz.prog WI gK 3 s3 g3 :=
 zbe (F:=FE) zak (⟨(fun f s h=>zaC (Q:=fun f s=>FnOK Tryz.prog WI gK f s (FE f)) (l:=S3.fs)
  (show ∀ p∈[(4,s4),(5,s5),(6,s6),(7,s7),(8,s8)],FnOK Tryz.prog WI gK p.1 p.2 (FE p.1) from
  zai k4 (by kernel_rfl) (zai k5 (by kernel_rfl) (zai k6 (by kernel_rfl) (zai k7 (by kernel_rfl) (zai k8 (by kernel_rfl) (fun _ h=>(by cases h))))))) h),(fun _ _ h=>(by cases h))⟩) Tryz.func3 ev3 (by kernel_rfl) (by kernel_rfl) (zar (by kernel_rfl)) e3
end Go.Proofs.YtedoffkaehcnmaaGreatDoor
namespace Go.Proofs.YtedoffkaehcnmaaGreatDoor
open Go Go.Sx
set_option maxRecDepth 100000
theorem zaH {n:Int} (h:0≤n) (h1:n<9223372036854775808):IntKind.wrap .i64 n=n:=by rw [IntKind.wrap_i64];omega
def zbt:List DV→Int→List DV→List DV
 | [],_,d=>d
 | b::r,k,d=>zbt r (k+1) (zb6 d k b.toI)
theorem za1 {n:Int} (h:0≤n) (h1:n<18446744073709551616):IntKind.wrap .u64 n=n:=by
 unfold IntKind.wrap
 simp [IntKind.bits,IntKind.signed]
 omega
theorem zq9 {B k:Int} (hB:B=2147483648) (h:0≤k) (h1:k<9223372036854775808):IntKind.wrap .u64 (2147483648+IntKind.wrap .u64 k)=B+k:=by
 rw [za1 (n:=k) h (by omega),za1 (by omega) (by omega),hB]
theorem zx5 {B:Int} (hB:B=2147483648) (img:List DV) (hl:img.length≤1048576) (k:Nat) (d:List DV) (hlt:k<img.length):zpF [.i img.length,.l img,.i k,.l d]=true∧zpG [.i img.length,.l img,.i k,.l d]=true ∧
  zpH [.i img.length,.l img,.i k,.l d]=[.i img.length,.l img,.i ((k+1:Nat):Int),.l (zb6 d (B+k) img[k].toI)]:=by
 have hki:(k:Int)<(img.length:Int):=by omega
 have hdiv:((img.length/1:Nat):Int)=img.length:=by rw [Nat.div_one]
 have hadr:=zq9 hB (k:=(k:Int)) (by omega) (by omega)
 refine ⟨?_,?_,?_⟩
 ·show zkj (img.length:Int) img (k:Int) d=true
  unfold zkj
  simp only [hdiv,hadr]
  have:p41 d (B+(k:Int)) (img.getD (Int.toNat k*1+0) default).toI=true:=by
   unfold p41
   simp only [in64,Bool.and_eq_true,decide_eq_true_eq]
   omega
  rw [this]
  simp [ow,hki]
 ·show zkk (img.length:Int) img (k:Int) d=true
  unfold zkk
  simp [hki]
 ·have hg:(img.getD (Int.toNat (k:Int)*1+0) default).toI=img[k].toI:=by rw [Int.toNat_natCast,Nat.mul_one,Nat.add_zero,List.getD_eq_getElem?_getD,List.getElem?_eq_getElem hlt];rfl
  have e0:zg8 img.length img k d=((k+1:Nat):Int):=by
   unfold zg8
   rw [zaH (by omega) (by omega)]
   rfl
  have e1:zg9 img.length img k d=zb6 d (B+k) img[k].toI:=by
   unfold zg9
   simp only [hadr,hg]
   rfl
  show [DV.i _,.l _,.i (zg8 img.length img k d),.l (zg9 img.length img k d)]=_
  rw [e0,e1]
  rfl
theorem zzb {B:Int} (hB:B=2147483648) (img:List DV) (hl:img.length≤1048576) (m:Nat):∀ (k:Nat) (d:List DV),k+m=img.length →
  zep img.length img k d=some [.i 0,.i img.length,.l (zbt (img.drop k) (B+k) d)]:=by
 induction m with
 | zero =>
  intro k d hk
  have hk':k=img.length:=by omega
  subst hk'
  unfold zep
  rw [List.drop_length]
  rw [zaS (by show zkj (img.length:Int) img (img.length:Int) d=true;unfold zkj;simp [ow]) (by show zkk (img.length:Int) img (img.length:Int) d=false;unfold zkk;simp)]
  rfl
 | succ m ih =>
  intro k d hk
  have hlt:k<img.length:=by omega
  obtain ⟨hw,hc,hn⟩:=zx5 hB img hl k d hlt
  unfold zep
  rw [za4 hw hc,hn]
  have h1:=ih (k+1) (zb6 d (B+k) img[k].toI) (by omega)
  unfold zep at h1
  rw [h1,List.drop_eq_getElem_cons hlt,zbt,show B+((k+1:Nat):Int)=B+k+1 from by omega]
theorem zzc (img d:List DV):p16 d img=true∧zpI img=decide (img.length≤1048576)∧(img.length≤1048576→zr3 d img=zbt img 2147483648 d):=by
 have hdiv:((img.length/1:Nat):Int)=img.length:=by rw [Nat.div_one]
 unfold p16 zpI zr3
 simp only [hdiv]
 by_cases h:img.length≤1048576
 ·have h1:¬ ((img.length:Int)>1048576):=by omega
  have hL:zep img.length img 0 d=some [.i 0,.i img.length,.l (zbt img 2147483648 d)]:=by
   obtain ⟨B,hB⟩:∃ B:Int,B=2147483648:=⟨_,rfl⟩
   have:=zzb hB img h img.length 0 d (by omega)
   rw [←hB]
   rw [show B+((0:Nat):Int)=B from by omega,List.drop_zero] at this
   exact this
  have e0:zm3 img.length img 0 d=true:=by unfold zm3;rw [hL];rfl
  have e2:zha img.length img 0 d=zbt img 2147483648 d:=by unfold zha;rw [hL];rfl
  rw [e0,e2]
  simp [ow,h,h1]
 ·have h1:((img.length:Int)>1048576):=by omega
  simp [ow,h,h1]
def layK:List DV→Nat→List DV→List DV
 | [],_,d=>d
 | b::r,n,d=>bif Nat.ble n 0 then layK r (n+1) (zb6 d n b.toI) else layK r (n+1) (zb6 d n b.toI)
theorem zva:∀ (l:List DV) (n:Nat) (d:List DV),layK l n d=zbt l n d
 | [],_,_=>rfl
 | b::r,n,d=>by
  rw [layK,zbt]
  cases Nat.ble n 0<;>exact (zva r (n+1) (zb6 d n b.toI)).trans (by rw [show ((n+1:Nat):Int)=(n:Int)+1 from by omega])
def g25h (ds:List DV):List DV :=
 [.b true,.b (Nat.ble (dget ds 1).toL.length 1048576),.l (bif Nat.ble (dget ds 1).toL.length 1048576 then layK (dget ds 1).toL 2147483648 (dget ds 0).toL else (dget ds 0).toL)]
theorem zx6 (n m:Nat):Nat.ble n m=decide (n≤m):=by
 by_cases h:n≤m
 ·rw [decide_eq_true h];exact Nat.ble_eq_true_of_le h
 ·rw [decide_eq_false h]
  cases hb:Nat.ble n m with
  | false=>rfl
  | true=>exact absurd (Nat.le_of_ble_eq_true hb) h
theorem zwg:KD.ok FE 16 (.hand g25h):=fun ds=>by
 show g16 ds=g25h ds
 unfold g16 g25h
 obtain ⟨h1,h2,h3⟩:=zzc (dget ds 1).toL (dget ds 0).toL
 rw [h1,h2,zx6]
 by_cases h:(dget ds 1).toL.length≤1048576
 ·rw [h3 h,decide_eq_true h,cond_true,zva]
  rfl
 ·have h4:zr3 (dget ds 0).toL (dget ds 1).toL=(dget ds 0).toL:=by
   unfold zr3
   have h5:decide ((((dget ds 1).toL.length/1:Nat):Int)>1048576)=true:=decide_eq_true (by rw [Nat.div_one];omega)
   simp only [h5,Bool.not_true,cond_false]
  rw [h4,decide_eq_false h,cond_false]
def putL:List DV→Nat→List DV→List DV
 | [],_,_=>[]
 | x::l,n+1,bs=>x::putL l n bs
 | _::l,0,b::bs=>b::putL l 0 bs
 | x::l,0,[]=>x::l
theorem zra:∀ (l:List DV) (n:Nat),putL l n []=l
 | [],_=>rfl
 | x::l,n+1=>by rw [putL,zra l n]
 | x::l,0=>rfl
theorem zrb:∀ (l:List DV) (n:Nat) (b:DV) (bs:List DV),n<l.length→putL (l.set n b) (n+1) bs=putL l n (b::bs)
 | [],n,b,bs,h=>by simp at h
 | x::l,0,b,bs,_=>rfl
 | x::l,n+1,b,bs,h=>by
  have:=zrb l n b bs (by simpa using h)
  show x::putL (l.set n b) (n+1) bs=x::putL l n (b::bs)
  rw [this]
def zkS (v:Int) (k:Nat):DV:=.i (IntKind.wrap .u8 (ishr .u64 v (8*(k:Int))))
theorem zwV (a:Nat) (v:Int) (ha:a<4611686018427387904):∀ (j i:Nat) (l:List DV),i+j=8→a+8≤l.length →
  zeq a v i l=some [.i 0,.i 8,.l (putL l (a+i) ((List.range' i j).map (zkS v)))]
 | 0,i,l,h,_=>by
  have hi:i=8:=by omega
  subst hi
  unfold zeq
  rw [zaS (show zko [.i a,.i v,.i (8:Nat),.l l]=true by show zkm a v (8:Nat) l=true;unfold zkm;simp [ow]) (show zkp [.i a,.i v,.i (8:Nat),.l l]=false by show zkn a v (8:Nat) l=false;unfold zkn;simp)]
  rw [List.range'_zero,List.map_nil,zra]
  rfl
 | j+1,i,l,h,hl=>by
  have e1:IntKind.wrap .i64 ((a:Int)+(i:Int))=((a+i:Nat):Int):=by rw [zaH (by omega) (by omega)];omega
  have e2:IntKind.wrap .i64 (8*(i:Int))=8*(i:Int):=zaH (by omega) (by omega)
  have hw:zkm a v i l=true:=by
   have h1:decide (8*(i:Int)≥0)=true:=decide_eq_true (by omega)
   have h2:decide (((a+i:Nat):Int)≥0)=true:=decide_eq_true (by omega)
   have h3:decide (((a+i:Nat):Int)<((l.length/1:Nat):Int))=true:=decide_eq_true (by rw [Nat.div_one];omega)
   unfold zkm
   simp only [e1,e2,h1,h2,h3]
   simp [ow]
  have hc:zkn a v i l=true:=by unfold zkn;simp;omega
  unfold zeq
  rw [za4 (show zko [.i a,.i v,.i i,.l l]=true from hw) (show zkp [.i a,.i v,.i i,.l l]=true from hc)]
  have hn:zm5 [.i a,.i v,.i i,.l l]=[.i a,.i v,.i ((i+1:Nat):Int),.l (l.set (a+i) (zkS v i))]:=by
   show [DV.i a,.i v,.i (IntKind.wrap .i64 ((i:Int)+1)),.l (l.set (Int.toNat (IntKind.wrap .i64 ((a:Int)+(i:Int)))*1+0) (.i (IntKind.wrap .u8 (ishr .u64 v (IntKind.wrap .i64 (8*(i:Int)))))))]=_
   rw [e1,e2,zaH (n:=(i:Int)+1) (by omega) (by omega),Int.toNat_natCast,Nat.mul_one,Nat.add_zero]
   rfl
  rw [hn]
  have ih:=zwV a v ha j (i+1) (l.set (a+i) (zkS v i)) (by omega) (by simpa using hl)
  unfold zeq at ih
  rw [ih,List.range'_succ,List.map_cons,show a+(i+1)=a+i+1 from rfl,zrb _ _ _ _ (by omega)]
def zvb (v:Int):List DV:=[zkS v 0,zkS v 1,zkS v 2,zkS v 3,zkS v 4,zkS v 5,zkS v 6,zkS v 7]
noncomputable def g17h (ds:List DV):List DV :=
 bif (decide (0≤(dget ds 1).toI)&&Nat.ble ((dget ds 1).toI.toNat+8) (dget ds 0).toL.length)&&Nat.blt (dget ds 1).toI.toNat 4611686018427387904 then
  [.b true,.l (putL (dget ds 0).toL (dget ds 1).toI.toNat (zvb (dget ds 2).toI))]
 else g9 ds
theorem zwh:KD.ok FE 9 (.hand g17h):=fun ds=>by
 show g9 ds=g17h ds
 unfold g17h
 cases hb:(decide (0≤(dget ds 1).toI)&&Nat.ble ((dget ds 1).toI.toNat+8) (dget ds 0).toL.length)&&Nat.blt (dget ds 1).toI.toNat 4611686018427387904 with
 | false=>rfl
 | true =>
  simp only [Bool.and_eq_true,decide_eq_true_eq] at hb
  obtain ⟨⟨h0,h1⟩,h2⟩:=hb
  have h1:=Nat.le_of_ble_eq_true h1
  have h2:(dget ds 1).toI.toNat<4611686018427387904:=Nat.le_of_ble_eq_true h2
  have hL:=zwV (dget ds 1).toI.toNat (dget ds 2).toI h2 8 0 (dget ds 0).toL (by omega) h1
  rw [show (((dget ds 1).toI.toNat:Nat):Int)=(dget ds 1).toI from by omega] at hL
  have hL:zeq (dget ds 1).toI (dget ds 2).toI 0 (dget ds 0).toL=some [.i 0,.i 8,.l (putL (dget ds 0).toL (dget ds 1).toI.toNat (zvb (dget ds 2).toI))]:=hL
  rw [cond_true]
  have e1:p9 (dget ds 0).toL (dget ds 1).toI (dget ds 2).toI=true:=by
   unfold p9 zpR
   simp only [hL]
   simp [ow]
  have e2:r9_0 (dget ds 0).toL (dget ds 1).toI (dget ds 2).toI=putL (dget ds 0).toL (dget ds 1).toI.toNat (zvb (dget ds 2).toI):=by
   unfold r9_0 zkq
   simp only [hL]
   rfl
  unfold g9
  rw [e1,e2]
end Go.Proofs.YtedoffkaehcnmaaGreatDoor
namespace Go.Sx
theorem zaB (n:Int):IntKind.wrap .u64 n=n%18446744073709551616:=by simp [IntKind.wrap,IntKind.signed,IntKind.bits]
theorem wrap_i64 (n:Int):IntKind.wrap .i64 n=if n%18446744073709551616≥9223372036854775808 then n%18446744073709551616-18446744073709551616 else n%18446744073709551616:=by
 simp [IntKind.wrap,IntKind.signed,IntKind.bits]
theorem zgn {n:Int} (h0:0≤n) (h1:n<18446744073709551616):IntKind.wrap .u64 n=n:=by rw [zaB];omega
theorem zhj {a:Nat} (ha:a<18446744073709551616):(BitVec.ofInt 64 (a:Int)).toNat=a:=by
 rw [BitVec.ofInt_natCast,BitVec.toNat_ofNat];exact Nat.mod_eq_of_lt (by omega)
theorem znd {a b:Nat} (ha:a<18446744073709551616) (hb:b<18446744073709551616):zaj .u64 (a:Int) (b:Int)=((a &&& b:Nat):Int):=by
 show IntKind.wrap .u64 ((BitVec.ofInt 64 (a:Int) &&& BitVec.ofInt 64 (b:Int)).toNat:Int)=_
 rw [BitVec.toNat_and,zhj ha,zhj hb,zaB]
 have:a &&& b≤a:=Nat.and_le_left
 omega
theorem zzd {a b:Nat} (ha:a<18446744073709551616) (hb:b<18446744073709551616):ilor .u64 (a:Int) (b:Int)=((a ||| b:Nat):Int):=by
 show IntKind.wrap .u64 ((BitVec.ofInt 64 (a:Int) ||| BitVec.ofInt 64 (b:Int)).toNat:Int)=_
 rw [BitVec.toNat_or,zhj ha,zhj hb,zaB]
 have:a ||| b<2^64:=Nat.or_lt_two_pow (by omega) (by omega)
 omega
theorem zgo {a:Int} (h0:0≤a):∃ n:Nat,a=n:=⟨a.toNat,by omega⟩
theorem za2 {k r:Nat} (hr:r<2^k) (q j:Nat):(2^k*q+r).testBit j=if j<k then r.testBit j else q.testBit (j-k):=Nat.testBit_two_pow_mul_add q hr j
theorem zoq {k r s:Nat} (hr:r<2^k) (hs:s<2^k) (q q':Nat):(2^k*q+r) &&& (2^k*q'+s)=2^k*(q &&& q')+(r &&& s):=by
 apply Nat.eq_of_testBit_eq
 intro j
 rw [Nat.testBit_and,za2 hr,za2 hs,za2 (Nat.and_lt_two_pow r hs),Nat.testBit_and,Nat.testBit_and]
 split<;>rfl
theorem zrc {k r s:Nat} (hr:r<2^k) (hs:s<2^k) (q q':Nat):(2^k*q+r) ||| (2^k*q'+s)=2^k*(q ||| q')+(r ||| s):=by
 apply Nat.eq_of_testBit_eq
 intro j
 rw [Nat.testBit_or,za2 hr,za2 hs,za2 (Nat.or_lt_two_pow hr hs),Nat.testBit_or,Nat.testBit_or]
 split<;>rfl
theorem zvc {k r s:Nat} (hr:r<2^k) (hs:s<2^k) (q q':Nat):(2^k*q+r) ^^^ (2^k*q'+s)=2^k*(q ^^^ q')+(r ^^^ s):=by
 apply Nat.eq_of_testBit_eq
 intro j
 rw [Nat.testBit_xor,za2 hr,za2 hs,za2 (Nat.xor_lt_two_pow hr hs),Nat.testBit_xor,Nat.testBit_xor]
 split<;>rfl
theorem zrd (n k:Nat):2^k*(n/2^k)+n%2^k=n:=Nat.div_add_mod n (2^k)
theorem mod_lt (n k:Nat):n%2^k<2^k:=Nat.mod_lt _ (Nat.two_pow_pos k)
theorem zvd (q:Nat):q &&& 1=q%2∧q ||| 1=q/2*2+1∧q ^^^ 1=q/2*2+(1-q%2):=by
 have h2:q%2<2^1:=by omega
 have e:q=2^1*(q/2)+q%2:=by omega
 have h1:(1:Nat)=2^1*0+1:=rfl
 refine ⟨Nat.and_one_is_mod q,?_,?_⟩
 ·conv=>lhs;rw [e,h1,zrc h2 (by decide)]
  rw [Nat.or_zero]
  rcases Nat.mod_two_eq_zero_or_one q with h | h<;>rw [h]<;>simp<;>omega
 ·conv=>lhs;rw [e,h1,zvc h2 (by decide)]
  rw [Nat.xor_zero]
  rcases Nat.mod_two_eq_zero_or_one q with h | h<;>rw [h]<;>simp<;>omega
theorem zx7 (n k:Nat):n &&& 2^k=2^k*(n/2^k%2):=by
 conv=>lhs;rw [←zrd n k,show (2:Nat)^k=2^k*1+0 from by omega,show 2^k*1+0=2^k from by omega]
 have:=zoq (mod_lt n k) (Nat.two_pow_pos k) (n/2^k) 1
 rw [Nat.mul_one,Nat.add_zero] at this
 rw [this,(zvd _).1,Nat.and_zero,Nat.add_zero]
section
variable {a m p:Int}
theorem zbF (h0:0≤a) (h1:a<18446744073709551616) (k:Nat) (hk:k≤64) (hm:m=((2^k-1:Nat):Int)) (hp:p=((2^k:Nat):Int)):zaj .u64 a m=a%p:=by
 obtain ⟨n,rfl⟩:=zgo h0
 have:2^k≤2^64:=Nat.pow_le_pow_right (by decide) hk
 rw [hm,znd (by omega) (by omega),Nat.and_two_pow_sub_one_eq_mod,hp]
 omega
theorem zwi (h0:0≤a) (h1:a<18446744073709551616) (k:Nat) (hk:k<64) (hm:m=((2^k:Nat):Int)):zaj .u64 a m=m*(a/m%2):=by
 obtain ⟨n,rfl⟩:=zgo h0
 have:2^k<2^64:=Nat.pow_lt_pow_right (by decide) hk
 rw [hm,znd (by omega) (by omega),zx7]
 simp
theorem zfR (k:Nat) (hk:k≤64) (hp:p=((2^k:Nat):Int)):ishr .u64 a (k:Int)=a/p:=by
 show Int.fdiv a (2^min (k:Int).toNat 64)=_
 have e:min (k:Int).toNat 64=k:=by simp;omega
 rw [e,hp,Int.fdiv_eq_ediv_of_nonneg _ (by exact Int.le_of_lt (Int.pow_pos (by decide)))]
 simp
end
theorem ibeq (x y:Int):(x==y)=decide (x=y):=by by_cases h:x=y<;>simp [h]
theorem ibne (x y:Int):(x != y) = !decide (x=y):=by by_cases h:x=y<;>simp [h]
end Go.Sx
namespace Go.Proofs.YtedoffkaehcnmaaGreatDoor
open Go Go.Sx
set_option maxRecDepth 100000
theorem zcR (n:Int):0≤IntKind.wrap .u64 n∧IntKind.wrap .u64 n<18446744073709551616:=by
 unfold IntKind.wrap
 simp [IntKind.bits,IntKind.signed]
 omega
theorem zam {l:List (Bool×Bool)} {x:Bool} (h:x=true):ow l x=true:=by subst h;unfold ow;simp
theorem zwj {c x:Bool} (l:List (Bool×Bool)) (h:c=true→x=true):ow ((c,true)::l) x=true:=by
 cases c with
 | false=>unfold ow;simp
 | true=>rw [h rfl];unfold ow;simp
theorem zwk {l:List Int} (P:Int→Prop) (h:∀ x∈l,P x) (h0:P 0) (i:Nat):P (l.getD i 0):=by
 rw [List.getD_eq_getElem?_getD]
 by_cases hi:i<l.length
 ·rw [List.getElem?_eq_getElem hi];exact h _ (List.getElem_mem hi)
 ·rw [List.getElem?_eq_none (by omega)];exact h0
theorem zze (x:Int):p58 x=true:=by
 unfold p58
 extract_lets -merge x1 x2 x3 x4 x5 x6 x7 x8
 have h:x6=x5/288230376151711744:=zfR 58 (by decide) rfl
 obtain ⟨a,b⟩:0≤x5∧x5<18446744073709551616:=zcR _
 have h7:x7=true:=decide_eq_true (by rw [h];omega)
 have h8:x8=true:=decide_eq_true (by rw [h];omega)
 simp only [List.all_cons,List.all_nil,id_eq,zam h7,zam h8,Bool.and_self]
def tabL:List Int:=[0,1,56,2,57,49,28,3,61,58,42,50,38,29,17,4,62,47,59,36,45,43,51,22,53,39,33,30,24,18,12,5,63,55,48,27,60,41,37,16,46,35,44,21,52,32,23,11,54,26,40,15,34,20,31,10,25,14,19,9,13,8,7,6]
theorem zzf (x:Int):0≤zhb x∧zhb x≤64:=by
 obtain ⟨i,hi⟩:∃ i,zhb x=bif !(x==0) then IntKind.wrap .i64 (tabL.getD i 0) else 64:=⟨_,rfl⟩
 rw [hi]
 have h9:0≤tabL.getD i 0∧tabL.getD i 0≤63:=zwk (l:=tabL) (fun y=>0≤y∧y≤63) (by decide) (by decide) _
 rw [zaH h9.1 (by omega)]
 cases !(x==0)
 ·exact ⟨show (0:Int)≤64 by decide,show (64:Int)≤64 by decide⟩
 ·exact ⟨h9.1,by show tabL.getD i 0≤64;omega⟩
theorem zzg (a b:List DV) (k:Int):p44 a b k=true:=by
 unfold p44
 extract_lets -merge x3 x4 x5 x6 x7 x8 x9 x10 x11 x12 x13 x14 x15 x16 x17 x18 x19 x29 x33 x34 x35 x36 x37 x38 x40 x41 x44 x45
 obtain ⟨u,v⟩:0≤x36∧x36≤64:=zzf _
 have h38:x38=true:=decide_eq_true (by show IntKind.wrap .i64 (x36+1)≥0;rw [zaH (by omega) (by omega)];omega)
 have h45:x45=true:=decide_eq_true (by show IntKind.wrap .i64 (x36+3)≥0;rw [zaH (by omega) (by omega)];omega)
 have h35:x35=true:=zze _
 have k6:x6=true→0≤k∧k<8:=fun h=>by
  have h:(!(decide (k<0)||decide (k≥8)))=true:=h
  simp at h
  omega
 have h7:x6=true→x7=true:=fun h=>decide_eq_true (k6 h).1
 have h8:x6=true→x8=true:=fun h=>decide_eq_true (k6 h).2
 have h18:∀ l,ow ((x6,true)::l) x18=true∨x16=false:=fun l=>by
  cases h16:x16 with
  | false=>exact .inr rfl
  | true =>
   refine .inl (zwj l fun h=>decide_eq_true ?_)
   have hk:k>0:=of_decide_eq_true h16
   show IntKind.wrap .i64 (k-1)≥0
   have:=k6 h
   rw [zaH (by omega) (by omega)]
   omega
 have h19:∀ l,ow ((x6,true)::l) x19=true∨x16=false:=fun l=>by
  cases h16:x16 with
  | false=>exact .inr rfl
  | true =>
   refine .inl (zwj l fun h=>decide_eq_true ?_)
   have hk:k>0:=of_decide_eq_true h16
   show IntKind.wrap .i64 (k-1)<8
   have:=k6 h
   rw [zaH (by omega) (by omega)]
   omega
 have g10:ow [(x6,true),(x15,true),(x16,true)] x18=true:=by
  rcases h18 [(x15,true),(x16,true)] with h | h
  ·exact h
  ·rw [h];unfold ow;simp
 have g11:ow [(x6,true),(x15,true),(x16,true)] x19=true:=by
  rcases h19 [(x15,true),(x16,true)] with h | h
  ·exact h
  ·rw [h];unfold ow;simp
 have g4:ow [(x6,true)] x7=true:=zwj [] h7
 have g12:ow [(x6,true)] x8=true:=zwj [] h8
 simp only [List.all_cons,List.all_nil,id_eq,show x11=x7 from rfl,show x12=x8 from rfl,g4,g12,g10,g11,zam h35,zam h38,show x41=x38 from rfl,zam h45,Bool.and_self]
theorem zve (a b:List DV) (k x n:Int):p26 a b k x n=true:=by
 unfold p26
 simp only [zzg,List.all_cons,List.all_nil,id_eq,zam,Bool.and_self]
theorem zwW (a:Int) (m:List DV):∀ (k:Nat) (x7:Int),k≤8→(zcD a m x7 ((k:Int)-1)).isSome=true
 | 0,x7,_=>by
  unfold zcD
  rw [zaS (by show zen a m x7 (((0:Nat):Int)-1)=true;unfold zen;simp [ow]) (by show zeo a m x7 (((0:Nat):Int)-1)=false;unfold zeo;simp)]
  rfl
 | k+1,x7,h=>by
  have hk:(((k+1:Nat):Int)-1)=(k:Int):=by omega
  unfold zcD
  rw [hk]
  have hw:zen a m x7 (k:Int)=true:=by
   unfold zen
   extract_lets -merge x9 x11 x12 x13
   have h13:x13=true:=by
    show in64 x12=true
    obtain ⟨u,v⟩:0≤x12∧x12<18446744073709551616:=zcR _
    simp only [in64,Bool.and_eq_true,decide_eq_true_eq]
    omega
   simp only [List.all_cons,List.all_nil,id_eq,zam h13,Bool.and_self]
  have hc:zeo a m x7 (k:Int)=true:=by
   unfold zeo
   simp
  rw [za4 (show zkg [.i a,.l m,.i x7,.i k]=true from hw) (show zkh [.i a,.l m,.i x7,.i k]=true from hc)]
  have hn:zki [.i a,.l m,.i x7,.i k]=[.i a,.l m,.i (zfd a m x7 k),.i ((k:Int)-1)]:=by
   show [DV.i a,.l m,.i (zfd a m x7 k),.i (zfe a m x7 k)]=_
   have:zfe a m x7 k=(k:Int)-1:=by
    show IntKind.wrap .i64 ((k:Int)-1)=_
    rw [IntKind.wrap_i64]
    omega
   rw [this]
  rw [hn]
  have ih:=zwW a m k (zfd a m x7 k) (by omega)
  unfold zcD at ih
  exact ih
theorem zAi (m:List DV) (a:Int):p46 m a 8=true:=by
 unfold p46
 have e:zpE a m 0 (IntKind.wrap .i64 (8-1))=true:=by
  rw [zaH (by omega) (by omega)]
  exact zwW a m 8 0 (by omega)
 simp only [e]
 simp [ow]
def zor (b:List DV):Prop:=∃ m c p u n e f,b=[.l m,.l c,.l p,.l u,.i n,.l e,.b f]
noncomputable def bus0 (img:List DV):List DV:=[.l (zbt img 2147483648 []),.l zyL,.l zyM,.l zyN,.i (-1),.l [],.b false]
theorem zkT (img:List DV):zor (bus0 img):=⟨_,_,_,_,_,_,_,rfl⟩
theorem zAj:p15 []=true∧zpP []=true:=by
 have hL:zm4 [.i 0,.l [],.b false,.i 0,.i 0]=[.b true,.i 1,.b false,.i 0,.i 0]:=by
  show [DV.b (zc2 0 [] false 0 0).isSome,.i (dget ((zc2 0 [] false 0 0).getD []) 0).toI,.b (dget ((zc2 0 [] false 0 0).getD []) 1).toB,.i (dget ((zc2 0 [] false 0 0).getD []) 2).toI,.i (dget ((zc2 0 [] false 0 0).getD []) 3).toI]=_
  unfold zc2
  rw [zaS (by show zpJ 0 [] false 0 0=true;unfold zpJ;simp [ow]) (by show zpK 0 [] false 0 0=false;unfold zpK;simp)]
  rfl
 have e:((([]:List DV).length/4:Nat):Int)=0:=rfl
 unfold p15 zpP
 simp only [e,hL]
 exact ⟨rfl,rfl⟩
theorem zzh (img:List DV):p5 img []=true∧r5_1 img []=decide (img.length≤1048576)∧r5_0 img []=(bif decide (img.length≤1048576) then 1 else 0) ∧
  (img.length≤1048576→r5_2 img []=[.b true,.l (bus0 img)]):=by
 obtain ⟨a1,a2⟩:=zAj
 obtain ⟨b1,b2,b3⟩:=zzc img []
 unfold p5 r5_0 r5_1 r5_2
 simp only [a1,a2,b1,b2,show zv8=[] from rfl,Bool.not_not]
 cases hi:decide (img.length≤1048576) with
 | false =>
  have:¬ img.length≤1048576:=of_decide_eq_false hi
  simp [ow,this]
 | true =>
  rw [b3 (of_decide_eq_true hi)]
  simp [ow,bus0]
noncomputable def N29 (x0:List DV) (x1:Int) (x2:Int) (x3:Int):List DV :=
 let x4:List DV:=(x0.getD (Int.toNat 0*1+0) default).toL
 let x5:List DV:=(x0.getD (Int.toNat 0*1+1) default).toL
 let x6:List DV:=(x0.getD (Int.toNat 0*1+2) default).toL
 let x7:List DV:=(x0.getD (Int.toNat 0*1+3) default).toL
 let x8:Int:=(x0.getD (Int.toNat 0*1+4) default).toI
 let x9:List DV:=(x0.getD (Int.toNat 0*1+5) default).toL
 let x10:Bool:=(x0.getD (Int.toNat 0*1+6) default).toB
 let x11:Bool:=ilt x1 0
 let x12:Bool:=igt x1 3
 let x13:Bool:=x11||x12
 let x14:Bool:=!x13
 let x15:List DV:=[.l x4,.l x5,.l x6,.l x7,.i x8,.l x9,.b x10]
 let z16:DV:=(g27 [.l x15,.i x2,.i x3]).getD 0 default
 let x16:Bool:=z16.toB
 let z17:DV:=(g46 [.l x4,.i x2,.i x3]).getD 0 default
 let x17:Bool:=z17.toB
 let z18:DV:=(g46 [.l x4,.i x2,.i x3]).getD 1 default
 let x18:Int:=z18.toI
 let z19:DV:=(g46 [.l x4,.i x2,.i x3]).getD 2 default
 let x19:Bool:=z19.toB
 let x20:Bool:=!x16
 let z21:DV:=(g47 [.l x5,.l x6,.l x7,.i x2]).getD 0 default
 let x21:Int:=z21.toI
 let z22:DV:=(g47 [.l x5,.l x6,.l x7,.i x2]).getD 1 default
 let x22:Int:=z22.toI
 let x23:Bool:=x21==0
 let x24:Bool:=x1==0
 let x25:Bool:=x23||x24
 let x26:Bool:=x1==3
 let x27:Bool:=x25||x26
 let x28:Bool:=!x27
 let x29:Bool:=x21 != 0
 let x30:Bool:=x21==60
 let z31:DV:=(g97 [.l x5,z22,.i x3]).getD 0 default
 let x31:Bool:=z31.toB
 let z32:DV:=(g97 [.l x5,z22,.i x3]).getD 1 default
 let x32:Int:=z32.toI
 let z33:DV:=(g97 [.l x5,z22,.i x3]).getD 2 default
 let x33:Bool:=z33.toB
 let x34:Bool:=x21==62
 let z35:DV:=(g101 [.l x6,z22,.i x3]).getD 0 default
 let x35:Bool:=z35.toB
 let z36:DV:=(g101 [.l x6,z22,.i x3]).getD 1 default
 let x36:Int:=z36.toI
 let z37:DV:=(g101 [.l x6,z22,.i x3]).getD 2 default
 let x37:Bool:=z37.toB
 let z38:DV:=(g101 [.l x6,z22,.i x3]).getD 3 default
 let x38:List DV:=z38.toL
 let z39:DV:=(g105 [.l x7,z22,.i x3]).getD 0 default
 let x39:Bool:=z39.toB
 let z40:DV:=(g105 [.l x7,z22,.i x3]).getD 1 default
 let x40:Int:=z40.toI
 let z41:DV:=(g105 [.l x7,z22,.i x3]).getD 2 default
 let x41:Bool:=z41.toB
 let z42:DV:=(g105 [.l x7,z22,.i x3]).getD 3 default
 let x42:List DV:=z42.toL
 let x43:Int:=bif x34 then x36 else x40
 let x44:Bool:=bif x34 then x37 else x41
 let x45:List DV:=bif x34 then x38 else x6
 let x46:List DV:=bif x34 then x7 else x42
 let x47:Int:=bif x30 then x32 else x43
 let x48:Bool:=bif x30 then x33 else x44
 let x49:List DV:=bif x30 then x6 else x45
 let x50:List DV:=bif x30 then x7 else x46
 let x51:List DV:=[.l x4,.l x5,.l x49,.l x50,.i x8,.l x9,.b x10]
 let z52:DV:=(g48 [.l x51]).getD 0 default
 let x52:Bool:=z52.toB
 let z53:DV:=(g48 [.l x51]).getD 1 default
 let x53:List DV:=z53.toL
 let x54:List DV:=(x53.getD (Int.toNat 0*1+0) default).toL
 let x55:List DV:=(x53.getD (Int.toNat 0*1+1) default).toL
 let x56:List DV:=(x53.getD (Int.toNat 0*1+2) default).toL
 let x57:List DV:=(x53.getD (Int.toNat 0*1+3) default).toL
 let x58:Int:=(x53.getD (Int.toNat 0*1+4) default).toI
 let x59:List DV:=(x53.getD (Int.toNat 0*1+5) default).toL
 let x60:Bool:=(x53.getD (Int.toNat 0*1+6) default).toB
 let x61:Int:=bif x28 then x47 else 0
 let x62:Bool:=x28&&x48
 let x63:List DV:=bif x28 then x54 else x4
 let x64:List DV:=bif x28 then x55 else x5
 let x65:List DV:=bif x28 then x56 else x6
 let x66:List DV:=bif x28 then x57 else x7
 let x67:Int:=bif x28 then x58 else x8
 let x68:List DV:=bif x28 then x59 else x9
 let x69:Bool:=bif x28 then x60 else x10
 let x70:Int:=bif x20 then x61 else x18
 let x71:Bool:=bif x20 then x62 else x19
 let x72:List DV:=bif x20 then x63 else x4
 let x73:List DV:=bif x20 then x64 else x5
 let x74:List DV:=bif x20 then x65 else x6
 let x75:List DV:=bif x20 then x66 else x7
 let x76:Int:=bif x20 then x67 else x8
 let x77:List DV:=bif x20 then x68 else x9
 let x78:Bool:=bif x20 then x69 else x10
 let x79:Int:=bif x14 then x70 else 0
 let x80:Bool:=x14&&x71
 let x81:List DV:=bif x14 then x72 else x4
 let x82:List DV:=bif x14 then x73 else x5
 let x83:List DV:=bif x14 then x74 else x6
 let x84:List DV:=bif x14 then x75 else x7
 let x85:Int:=bif x14 then x76 else x8
 let x86:List DV:=bif x14 then x77 else x9
 let x87:Bool:=bif x14 then x78 else x10
 let x88:List DV:=[.l x81,.l x82,.l x83,.l x84,.i x85,.l x86,.b x87]
 [.b ((ow [(x14,true),(x16,true)] x17::ow [(x14,true),(x20,true),(x28,true)] x29::ow [(x14,true),(x20,true),(x28,true),(x30,true)] x31::ow [(x14,true),(x20,true),(x28,true),(x30,false),(x34,true)] x35::ow [(x14,true),(x20,true),(x28,true),(x30,false),(x34,false)] x39::ow [(x14,true),(x20,true),(x28,true)] x52::[]).all id),.i x79,.b x80,.l x88]
theorem zx8 (x0:List DV) (x1:Int) (x2:Int) (x3:Int):g29 [.l x0,.i x1,.i x2,.i x3]=N29 x0 x1 x2 x3:=by kernel_rfl
noncomputable def rd29 (b:List DV) (k a n:Int) (i:Nat):DV:=(g29 [.l b,.i k,.i a,.i n]).getD i default
noncomputable def p29 (b:List DV) (k a n:Int):Bool:=(rd29 b k a n 0).toB
noncomputable def zos (b:List DV) (k a n:Int):Int:=(rd29 b k a n 1).toI
noncomputable def zkU (b:List DV) (k a n:Int):Bool:=(rd29 b k a n 2).toB
noncomputable def zot (b:List DV) (k a n:Int):List DV:=(rd29 b k a n 3).toL
theorem zre (b:List DV) (a:Int) (h:ziu a 8=true):g29 [.l b,.i 1,.i a,.i 8]=[.b true,.i (zr2 (b.getD (Int.toNat 0*1+0) default).toL a 8),.b true,
  .l [.l (b.getD (Int.toNat 0*1+0) default).toL,.l (b.getD (Int.toNat 0*1+1) default).toL,.l (b.getD (Int.toNat 0*1+2) default).toL,.l (b.getD (Int.toNat 0*1+3) default).toL,.i (b.getD (Int.toNat 0*1+4) default).toI,.l (b.getD (Int.toNat 0*1+5) default).toL,.b (b.getD (Int.toNat 0*1+6) default).toB]]:=by
 rw [zx8]
 unfold N29
 extract_lets -merge x4 x5 x6 x7 x8 x9 x10 x11 x12 x13 x14 x15 z16 x16 z17 x17 z18 x18 z19 x19 x20 z21 x21 z22 x22 x23 x24 x25 x26 x27 x28 x29 x30 z31 x31 z32 x32 z33 x33 x34 z35 x35 z36 x36 z37 x37 z38 x38 z39 x39 z40 x40 z41 x41 z42 x42 x43 x44 x45 x46 x47 x48 x49 x50 x51 z52 x52 z53 x53 x54 x55 x56 x57 x58 x59 x60 x61 x62 x63 x64 x65 x66 x67 x68 x69 x70 x71 x72 x73 x74 x75 x76 x77 x78 x79 x80 x81 x82 x83 x84 x85 x86 x87 x88
 have u16:x16=true:=h
 have u20:x20=false:=by show (!x16)=false;rw [u16];rfl
 have u14:x14=true:=rfl
 have u17:x17=true:=zAi ..
 have u19:x19=true:=by
  have h:zfc a 8=true:=h
  show zxw a 8=true
  unfold zxw
  rw [h]
  rfl
 show [DV.b _,.i (bif x14 then (bif x20 then x61 else x18) else 0),.b (x14&&(bif x20 then x62 else x19)),.l [.l (bif x14 then (bif x20 then x63 else x4) else x4),.l (bif x14 then (bif x20 then x64 else x5) else x5),.l (bif x14 then (bif x20 then x65 else x6) else x6),.l (bif x14 then (bif x20 then x66 else x7) else x7),.i (bif x14 then (bif x20 then x67 else x8) else x8),.l (bif x14 then (bif x20 then x68 else x9) else x9),.b (bif x14 then (bif x20 then x69 else x10) else x10)]]=_
 rw [u20,u14,u19,u16,u17]
 congr 1
noncomputable def ent (b:List DV) (a:Int):Int:=zos b 1 a 8
theorem zne (b:List DV) (a:Int) (h:ziu a 8=true):p29 b 1 a 8=true∧zkU b 1 a 8=true∧(zor b→zot b 1 a 8=b):=by
 unfold p29 zkU zot rd29
 rw [zre b a h]
 refine ⟨rfl,rfl,?_⟩
 rintro ⟨m,c,p,u,n,e,f,rfl⟩
 rfl
end Go.Proofs.YtedoffkaehcnmaaGreatDoor
namespace Go.Proofs.YtedoffkaehcnmaaGreatDoor
open Go Go.Sx
set_option maxRecDepth 100000
def acc (g:Nat→Int):Nat→Int→Int
 | 0,x=>x
 | k+1,x=>acc g k (ilor .u64 (ishl .u64 x 8) (IntKind.wrap .u64 (g k)))
noncomputable def byt (m:List DV) (a:Int) (k:Nat):Int:=ramAt m (IntKind.wrap .u64 (a+IntKind.wrap .u64 (k:Int)))
theorem zou (a:Int) (m:List DV):∀ (k:Nat) (x7:Int),k≤8→zcD a m x7 ((k:Int)-1)=some [.i 0,.i (acc (byt m a) k x7),.i (-1)]
 | 0,x7,_=>by
  unfold zcD
  rw [zaS (by show zen a m x7 (((0:Nat):Int)-1)=true;unfold zen;simp [ow]) (by show zeo a m x7 (((0:Nat):Int)-1)=false;unfold zeo;simp)]
  rfl
 | k+1,x7,h=>by
  have hk:(((k+1:Nat):Int)-1)=(k:Int):=by omega
  unfold zcD
  rw [hk]
  have hw:zen a m x7 (k:Int)=true:=by
   unfold zen
   extract_lets -merge x9 x11 x12 x13
   have h13:x13=true:=by
    show in64 x12=true
    obtain ⟨u,v⟩:0≤x12∧x12<18446744073709551616:=zcR _
    simp only [in64,Bool.and_eq_true,decide_eq_true_eq]
    omega
   simp only [List.all_cons,List.all_nil,id_eq,zam h13,Bool.and_self]
  have hc:zeo a m x7 (k:Int)=true:=by
   unfold zeo
   simp
  rw [za4 (show zkg [.i a,.l m,.i x7,.i k]=true from hw) (show zkh [.i a,.l m,.i x7,.i k]=true from hc)]
  have hn:zki [.i a,.l m,.i x7,.i k]=[.i a,.l m,.i (ilor .u64 (ishl .u64 x7 8) (IntKind.wrap .u64 (byt m a k))),.i ((k:Int)-1)]:=by
   show [DV.i a,.l m,.i (zfd a m x7 k),.i (zfe a m x7 k)]=_
   have:zfe a m x7 k=(k:Int)-1:=by
    show IntKind.wrap .i64 ((k:Int)-1)=_
    rw [IntKind.wrap_i64]
    omega
   rw [this]
   rfl
  rw [hn]
  have ih:=zou a m k (ilor .u64 (ishl .u64 x7 8) (IntKind.wrap .u64 (byt m a k))) (by omega)
  unfold zcD at ih
  exact ih
theorem zzi (m:List DV) (a:Int) (h:zfc a 8=true):zr2 m a 8=acc (byt m a) 8 0:=by
 unfold zr2
 have e:zg7 a m 0 (IntKind.wrap .i64 (8-1))=acc (byt m a) 8 0:=by
  rw [zaH (by omega) (by omega)]
  unfold zg7
  have:=zou a m 8 0 (by omega)
  rw [show ((8-1:Int))=(((8:Nat):Int)-1) from rfl,this]
  rfl
 simp only [h,e]
 rfl
theorem zzj (x:Int):ishl .u64 x 8=IntKind.u64.wrap (x*256):=by
 unfold ishl
 show IntKind.u64.wrap (x*2^8)=_
 rfl
theorem zwl {x b:Int} (h0:0≤x) (h1:x<72057594037927936) (b0:0≤b) (b1:b<256):ilor .u64 (ishl .u64 x 8) (IntKind.wrap .u64 b)=x*256+b:=by
 rw [zzj,zgn (n:=x*256) (by omega) (by omega),zgn b0 (by omega)]
 obtain ⟨n,rfl⟩:=zgo h0
 obtain ⟨c,rfl⟩:=zgo b0
 have e:((n:Int)*256)=((n*256:Nat):Int):=by omega
 rw [e,zzd (by omega) (by omega)]
 have:=zrc (k:=8) (r:=0) (s:=c) (by decide) (show c<2^8 by omega) n 0
 rw [Nat.add_zero,Nat.mul_zero,Nat.zero_add,Nat.or_zero,Nat.zero_or] at this
 rw [show n*256=2^8*n by omega,this]
 omega
theorem zx9 (v:Int) (h0:0≤v) (h1:v<18446744073709551616) {g:Nat→Int} (hg:∀ j,j<8→g j=v/((256^j:Nat):Int)%256):acc g 8 0=v:=by
 have e:∀ j,j<8→∀ x,x=v/((256^(j+1):Nat):Int)→ilor .u64 (ishl .u64 x 8) (IntKind.wrap .u64 (g j))=v/((256^j:Nat):Int):=fun j hj x hx=>by
  have hp:(0:Int)<((256^j:Nat):Int):=Int.natCast_pos.2 (Nat.pow_pos (by decide))
  have hd:v/((256^(j+1):Nat):Int)=v/((256^j:Nat):Int)/256:=by
   rw [Int.ediv_ediv_of_nonneg (Int.le_of_lt hp),Nat.pow_succ,Int.natCast_mul]
   rfl
  have hq0:0≤v/((256^j:Nat):Int):=Int.ediv_nonneg h0 (Int.le_of_lt hp)
  have hq1:v/((256^j:Nat):Int)<18446744073709551616:=Int.lt_of_le_of_lt (Int.ediv_le_self _ h0) h1
  rw [hx,hd,hg j hj]
  generalize v/((256^j:Nat):Int)=q at *
  rw [zwl (by omega) (by omega) (by omega) (by omega)]
  omega
 have all:∀ k,k≤8→acc g k (v/((256^k:Nat):Int))=v:=fun k=>by
  induction k with
  | zero=>intro _;show v/1=v;exact Int.ediv_one v
  | succ k ih =>
   intro hk
   show acc g k (ilor .u64 (ishl .u64 (v/((256^(k+1):Nat):Int)) 8) (IntKind.wrap .u64 (g k)))=v
   rw [e k (by omega) _ rfl]
   exact ih (by omega)
 have z:v/((256^8:Nat):Int)=0:=Int.ediv_eq_zero_of_lt h0 (by rw [show ((256^8:Nat):Int)=18446744073709551616 by decide];exact h1)
 have:=all 8 (by decide)
 rw [z] at this
 exact this
theorem zwX {a:Int} (h:zfc a 8=true):2147483648≤a∧a+8≤2148532224:=by
 unfold zfc at h
 simp at h
 have:IntKind.wrap .u64 (2148532224-IntKind.wrap .u64 8)=2148532216:=by decide
 rw [this] at h
 omega
end Go.Proofs.YtedoffkaehcnmaaGreatDoor
namespace Go.Proofs.YtedoffkaehcnmaaGreatDoor
open Go Go.Sx
set_option maxRecDepth 100000
theorem zov (n lo:Nat) (hn:n<18446744073709551616):∀ (k out:Nat),(out+1)*2^k≤18446744073709551616→lo+k≤64 →
  zc4 (lo:Int) (n:Int) (out:Int) (((lo+k:Nat):Int)-1)=some [.i 0,.i ((out*2^k+n/2^lo%2^k:Nat):Int),.i ((lo:Int)-1)]
 | 0,out,_,_=>by
  have hk:(((lo+0:Nat):Int)-1)=(lo:Int)-1:=by omega
  have hl:decide ((lo:Int)-1≥(lo:Int))=false:=decide_eq_false (by omega)
  unfold zc4
  rw [hk,zaS (by show zkJ lo n out ((lo:Int)-1)=true;unfold zkJ;simp only [hl];simp [ow]) (by show zkK lo n out ((lo:Int)-1)=false;unfold zkK;simp only [hl])]
  show some [DV.i 0,.i (out:Int),.i ((lo:Int)-1)]=_
  rw [Nat.pow_zero,Nat.mul_one,Nat.mod_one,Nat.add_zero]
 | k+1,out,h,h64=>by
  have hk:(((lo+(k+1):Nat):Int)-1)=((lo+k:Nat):Int):=by omega
  have hl:decide (((lo+k:Nat):Int)≥(lo:Int))=true:=decide_eq_true (by omega)
  have h0:decide (((lo+k:Nat):Int)≥0)=true:=decide_eq_true (by omega)
  have hw:zkJ (lo:Int) (n:Int) (out:Int) ((lo+k:Nat):Int)=true:=by
   unfold zkJ
   simp only [h0]
   simp [ow]
  have hc:zkK (lo:Int) (n:Int) (out:Int) ((lo+k:Nat):Int)=true:=by
   unfold zkK
   simp only [hl]
  unfold zc4
  rw [hk,za4 (show zqb [.i lo,.i n,.i out,.i ((lo+k:Nat):Int)]=true from hw) (show zqc [.i lo,.i n,.i out,.i ((lo+k:Nat):Int)]=true from hc)]
  have hp:0<2^k:=Nat.two_pow_pos k
  have h2:(2*out+1+1)*2^k≤18446744073709551616:=by
   rw [Nat.pow_succ] at h
   have e:(out+1)*(2^k*2)=(2*out+1+1)*2^k:=by rw [Nat.mul_comm (2^k) 2,←Nat.mul_assoc];congr 1;omega
   omega
  have h3:2*out+1+1≤18446744073709551616:=Nat.le_trans (Nat.le_mul_of_pos_right _ hp) h2
  have hbit:n/2^(lo+k)%2<2:=Nat.mod_lt _ (by decide)
  have hq:n/2^(lo+k)≤n:=Nat.div_le_self _ _
  have hn0:zhg (lo:Int) (n:Int) (out:Int) ((lo+k:Nat):Int)=((2*out+n/2^(lo+k)%2:Nat):Int):=by
   have hs:ishr .u64 (n:Int) ((lo+k:Nat):Int)=((n/2^(lo+k):Nat):Int):=zfR (lo+k) (by omega) rfl
   unfold zhg
   simp only [hs]
   generalize n/2^(lo+k)=q at *
   have hm:zaj .u64 (q:Int) 1=(q:Int)%2:=zbF (by omega) (by omega) 1 (by decide) rfl rfl
   rw [hm]
   rw [zaB,zaB]
   omega
  have hn1:zkL (lo:Int) (n:Int) (out:Int) ((lo+k:Nat):Int)=((lo+k:Nat):Int)-1:=by
   show IntKind.wrap .i64 (((lo+k:Nat):Int)-1)=_
   rw [IntKind.wrap_i64]
   omega
  have hnx:zqd [.i lo,.i n,.i out,.i ((lo+k:Nat):Int)]=[.i lo,.i n,.i ((2*out+n/2^(lo+k)%2:Nat):Int),.i (((lo+k:Nat):Int)-1)]:=by
   show [DV.i lo,.i n,.i (zhg (lo:Int) (n:Int) (out:Int) ((lo+k:Nat):Int)),.i (zkL (lo:Int) (n:Int) (out:Int) ((lo+k:Nat):Int))]=_
   rw [hn0,hn1]
  rw [hnx]
  have ih:=zov n lo hn k (2*out+n/2^(lo+k)%2) (Nat.le_trans (Nat.mul_le_mul_right _ (by omega)) h2) (by omega)
  unfold zc4 at ih
  rw [ih]
  congr 4
  rw [Nat.mod_pow_succ,Nat.pow_add,←Nat.div_div_eq_div_mul,Nat.pow_succ,Nat.add_mul]
  generalize n/2^lo/2^k%2=b
  generalize n/2^lo%2^k=r
  have e1:2*out*2^k=out*(2^k*2):=by rw [Nat.mul_comm 2 out,Nat.mul_assoc,Nat.mul_comm 2]
  have e2:b*2^k=2^k*b:=Nat.mul_comm _ _
  omega
theorem zcb {n p q:Int} (h0:0≤n) (h1:n<18446744073709551616) (hi lo k:Nat) (hk:hi+1=lo+k) (h64:lo+k≤64) (hp:p=((2^lo:Nat):Int)) (hq:q=((2^k:Nat):Int)) :
  p31 n (hi:Int) (lo:Int)=true∧zes n (hi:Int) (lo:Int)=n/p%q:=by
 obtain ⟨m,rfl⟩:=zgo h0
 have hle:2^k≤2^64:=Nat.pow_le_pow_right (by decide) (by omega)
 have e:=zov m lo (by omega) k 0 (by rw [Nat.zero_add,Nat.one_mul];exact hle) h64
 rw [show (((lo+k:Nat):Int)-1)=(hi:Int) by omega,Nat.zero_mul,Nat.zero_add] at e
 have e':zc4 (lo:Int) (m:Int) 0 (hi:Int)=some [.i 0,.i ((m/2^lo%2^k:Nat):Int),.i ((lo:Int)-1)]:=e
 constructor
 ·have:zqe (lo:Int) (m:Int) 0 (hi:Int)=true:=by
   show (zc4 (lo:Int) (m:Int) 0 (hi:Int)).isSome=true
   rw [e']
   rfl
  unfold p31
  simp only [this]
  simp [ow]
 ·have:zkM (lo:Int) (m:Int) 0 (hi:Int)=((m/2^lo%2^k:Nat):Int):=by
   show (dget ((zc4 (lo:Int) (m:Int) 0 (hi:Int)).getD []) 1).toI=_
   rw [e']
   rfl
  unfold zes
  simp only [this]
  rw [hp,hq]
  rfl
theorem zbG {k:Int} (h:0≤k):p37 k=true:=by unfold p37;simp [ow,h]
theorem zkV {a m:Int} (h0:0≤a) (h1:a<18446744073709551616) (k:Nat) (hk:k<64) (hm:m=((2^k:Nat):Int)):zaD a (k:Int)=decide (a/m%2=1):=by
 have hp:0<m:=by rw [hm];exact Int.natCast_pos.2 (Nat.two_pow_pos k)
 have hs:ishr .u64 a (k:Int)=a/m:=zfR k (by omega) hm
 have hq0:0≤a/m:=Int.ediv_nonneg h0 (by omega)
 have hq1:a/m<18446744073709551616:=Int.lt_of_le_of_lt (Int.ediv_le_self m h0) h1
 have h2:zaj .u64 (a/m) 1=a/m%2:=zbF hq0 hq1 1 (by decide) rfl rfl
 unfold zaD
 simp only [hs,h2]
 rw [ibeq]
end Go.Proofs.YtedoffkaehcnmaaGreatDoor
namespace Go.Proofs.YtedoffkaehcnmaaGreatDoor
open Go Go.Sx
set_option maxRecDepth 100000
theorem zvf {f:Int} (h0:0≤f) (h1:f<18446744073709551616):zm6 f 8=zfc f 8:=by
 have e:IntKind.wrap .u64 (2148532224-IntKind.wrap .u64 8)=2148532216:=by decide
 have e8:IntKind.wrap .u64 8=8:=by decide
 have k1:zfc f 8=(decide (f≥2147483648)&&decide (f≤2148532216)):=by
  unfold zfc
  simp only [e]
  rfl
 have k2:zm6 f 8=((decide (f≥2147483648)&&decide (f<2148532224))&&decide (IntKind.wrap .u64 (f+8)≤2148532224)):=by
  unfold zm6
  simp only [e8]
  rfl
 rw [k1,k2,Bool.eq_iff_iff,zaB]
 simp only [Bool.and_eq_true,decide_eq_true_eq]
 omega
def ps (g:Nat→Int):Nat→Int
 | 0=>0
 | i+1=>ps g i+g i*((256^i:Nat):Int)
theorem zvg {g:Nat→Int} (hg:∀ j,j<8→0≤g j∧g j<256):∀ i,i≤8→0≤ps g i∧ps g i<((256^i:Nat):Int)
 | 0,_=>⟨Int.le_refl 0,show (0:Int)<((256^0:Nat):Int) by decide⟩
 | i+1,h=>by
  obtain ⟨a,b⟩:=zvg hg i (by omega)
  obtain ⟨c,d⟩:=hg i (by omega)
  have hp:0<256^i:=Nat.pow_pos (by decide)
  have e:((256^(i+1):Nat):Int)=256*((256^i:Nat):Int):=by rw [Nat.pow_succ,Nat.mul_comm];rfl
  unfold ps
  rw [e]
  generalize ((256^i:Nat):Int)=p at *
  have m0:0≤g i*p:=Int.mul_nonneg c (by omega)
  have m1:g i*p≤255*p:=Int.mul_le_mul_of_nonneg_right (by omega) (by omega)
  omega
theorem zwY {g:Nat→Int} (hg:∀ j,j<8→0≤g j∧g j<256):acc g 8 0=ps g 8:=by
 obtain ⟨a,b⟩:=zvg hg 8 (by decide)
 have e:ps g 8=g 0+g 1*256+g 2*65536+g 3*16777216+g 4*4294967296+g 5*1099511627776+g 6*281474976710656+g 7*72057594037927936:=by
  simp only [ps,Nat.reducePow]
  omega
 have b':ps g 8<18446744073709551616:=b
 refine zx9 _ a b' fun j hj=>?_
 rw [e]
 have h0:=hg 0 (by decide);have h1:=hg 1 (by decide);have h2:=hg 2 (by decide);have h3:=hg 3 (by decide)
 have h4:=hg 4 (by decide);have h5:=hg 5 (by decide);have h6:=hg 6 (by decide);have h7:=hg 7 (by decide)
 match j,hj with
 | 0,_=>simp only [Nat.reducePow];omega
 | 1,_=>simp only [Nat.reducePow];omega
 | 2,_=>simp only [Nat.reducePow];omega
 | 3,_=>simp only [Nat.reducePow];omega
 | 4,_=>simp only [Nat.reducePow];omega
 | 5,_=>simp only [Nat.reducePow];omega
 | 6,_=>simp only [Nat.reducePow];omega
 | 7,_=>simp only [Nat.reducePow];omega
theorem zzk (i:Nat):(256:Nat)^i=2^(8*i):=by rw [Nat.pow_mul]
theorem zkW (m:List DV) {a:Int} (h:zfc a 8=true) (hg:∀ j,j<8→0≤byt m a j∧byt m a j<256):∀ (k i:Nat),i+k=8 →
  zcE 8 a m (ps (byt m a) i) (i:Int)=some [.i 0,.i (ps (byt m a) 8),.i 8]
 | 0,i,hi=>by
  have:i=8:=by omega
  subst this
  unfold zcE
  rw [zaS (by show zku 8 a m (ps (byt m a) 8) ((8:Nat):Int)=true;unfold zku;simp [ow]) (by show zkv 8 a m (ps (byt m a) 8) ((8:Nat):Int)=false;unfold zkv;simp)]
  rfl
 | k+1,i,hi=>by
  have hp:=zwX h
  have e8:IntKind.wrap .i64 (8*(i:Int))=((8*i:Nat):Int):=by rw [IntKind.wrap_i64];omega
  have hr:p53 m (IntKind.wrap .u64 (a+IntKind.wrap .u64 (i:Int)))=true:=by
   rw [za1 (n:=(i:Int)) (by omega) (by omega),za1 (by omega) (by omega)]
   unfold p53
   simp only [Bool.and_eq_true,decide_eq_true_eq]
   omega
  have hw:zku 8 a m (ps (byt m a) i) (i:Int)=true:=by
   have h0:decide (((8*i:Nat):Int)≥0)=true:=decide_eq_true (by omega)
   unfold zku
   simp only [hr,e8,h0]
   simp [ow]
  have hc:zkv 8 a m (ps (byt m a) i) (i:Int)=true:=by
   unfold zkv
   have:decide ((i:Int)<8)=true:=decide_eq_true (by omega)
   simp only [this]
  unfold zcE
  rw [za4 (show zpW [.i 8,.i a,.l m,.i (ps (byt m a) i),.i i]=true from hw) (show zpX [.i 8,.i a,.l m,.i (ps (byt m a) i),.i i]=true from hc)]
  have hx:zpY [.i 8,.i a,.l m,.i (ps (byt m a) i),.i i]=[.i 8,.i a,.l m,.i (ps (byt m a) (i+1)),.i ((i+1:Nat):Int)]:=by
   show [DV.i 8,.i a,.l m,.i (zkw 8 a m (ps (byt m a) i) (i:Int)),.i (zkx 8 a m (ps (byt m a) i) (i:Int))]=_
   have h1:zkx 8 a m (ps (byt m a) i) (i:Int)=((i+1:Nat):Int):=by
    show IntKind.wrap .i64 ((i:Int)+1)=_
    rw [IntKind.wrap_i64]
    omega
   have h0:zkw 8 a m (ps (byt m a) i) (i:Int)=ps (byt m a) (i+1):=by
    show IntKind.wrap .u64 (ps (byt m a) i+ishl .u64 (IntKind.wrap .u64 (byt m a i)) (IntKind.wrap .i64 (8*(i:Int))))=_
    obtain ⟨b0,b1⟩:=hg i (by omega)
    obtain ⟨c0,c1⟩:=zvg hg (i+1) (by omega)
    obtain ⟨d0,d1⟩:=zvg hg i (by omega)
    have hle:256^(i+1)≤256^8:=Nat.pow_le_pow_right (by decide) (by omega)
    have hs:ishl .u64 (byt m a i) ((8*i:Nat):Int)=IntKind.wrap .u64 (byt m a i*((256^i:Nat):Int)):=by
     unfold ishl
     rw [show min (Int.toNat ((8*i:Nat):Int)) (IntKind.bits .u64)=8*i from by simp [IntKind.bits];omega,zzk]
     norm_cast
    have hp0:0≤byt m a i*((256^i:Nat):Int):=Int.mul_nonneg b0 (by omega)
    have hps:ps (byt m a) (i+1)=ps (byt m a) i+byt m a i*((256^i:Nat):Int):=rfl
    rw [hps] at c0 c1 ⊢
    simp only [Nat.reducePow] at hle
    rw [e8,za1 (n:=byt m a i) b0 (by omega),hs,za1 (n:=byt m a i*((256^i:Nat):Int)) hp0 (by omega),za1 (by omega) (by omega)]
   rw [h0,h1]
  rw [hx]
  have ih:=zkW m h hg k (i+1) (by omega)
  unfold zcE at ih
  exact ih
theorem zow (m:List DV) {a:Int} (h0:0≤a) (h1:a<18446744073709551616) (hg:∀ A:Int,0≤ramAt m A∧ramAt m A<256):p36 m a 8=true∧(zfc a 8=true→zgl m a 8=zr2 m a 8):=by
 have hb:∀ j,j<8→0≤byt m a j∧byt m a j<256:=fun j _=>hg _
 have e:=zvf h0 h1
 constructor
 ·unfold p36
  cases h:zfc a 8 with
  | false=>simp only [e,h];simp [ow]
  | true =>
   have l:zpZ 8 a m 0 0=true:=by
    show (zcE 8 a m 0 0).isSome=true
    rw [show zcE 8 a m 0 0=_ from zkW m h hb 8 0 rfl]
    rfl
   simp only [l]
   simp [ow]
 ·intro h
  have l:zky 8 a m 0 0=ps (byt m a) 8:=by
   show (dget ((zcE 8 a m 0 0).getD []) 1).toI=_
   rw [show zcE 8 a m 0 0=_ from zkW m h hb 8 0 rfl]
   rfl
  rw [zzi m a h,zwY hb]
  unfold zgl
  simp only [e,h,l]
  rfl
theorem zvh (m:List DV) {a:Int} (h0:0≤a) (h1:a<18446744073709551616) (hg:∀ A:Int,0≤ramAt m A∧ramAt m A<256):0≤zgl m a 8∧zgl m a 8<18446744073709551616:=by
 have e:=zvf h0 h1
 cases h:zfc a 8 with
 | true =>
  rw [(zow m h0 h1 hg).2 h,zzi m a h,zwY (g:=byt m a) fun j _=>hg _]
  exact zvg (g:=byt m a) (fun j _=>hg _) 8 (by decide)
 | false =>
  have:zgl m a 8=0:=by
   unfold zgl
   simp only [e,h]
   rfl
  rw [this]
  exact ⟨by decide,by decide⟩
theorem zox:∀ (img:List DV) (k:Int) (d:List DV),(∀ b∈img,0≤b.toI∧b.toI<256)→(∀ A:Int,0≤ramAt d A∧ramAt d A<256)→∀ A:Int,0≤ramAt (zbt img k d) A∧ramAt (zbt img k d) A<256
 | [],_,_,_,hd=>hd
 | b::r,k,d,hi,hd=>by
  refine zox r (k+1) (zb6 d k b.toI) (fun x hx=>hi x (List.mem_cons_of_mem _ hx)) fun A=>?_
  rw [zdL]
  split
  ·exact hi b (List.mem_cons_self ..)
  ·exact hd A
theorem zya (img:List DV) (hl:img.length≤1048576) (m:Nat):∀ (k:Nat) (d:List DV),k+m=img.length →
  zc3 img k d=some [.i 0,.i img.length,.l (zbt (img.drop k) (2147483648+k) d)]:=by
 have hdiv:((img.length/1:Nat):Int)=img.length:=by rw [Nat.div_one]
 induction m with
 | zero =>
  intro k d hk
  have hk':k=img.length:=by omega
  subst hk'
  unfold zc3
  rw [List.drop_length]
  rw [zaS (by show zkr img (img.length:Int) d=true;unfold zkr;simp [ow]) (by show zks img (img.length:Int) d=false;unfold zks;simp)]
  rfl
 | succ m ih =>
  intro k d hk
  have hlt:k<img.length:=by omega
  have hki:(k:Int)<(img.length:Int):=by omega
  have hadr:IntKind.wrap .u64 (2147483648+IntKind.wrap .u64 (k:Int))=2147483648+(k:Int):=zq9 rfl (by omega) (by omega)
  have hw:zkr img (k:Int) d=true:=by
   unfold zkr
   simp only [hdiv,hadr]
   have:p42 d (2147483648+(k:Int)) (img.getD (Int.toNat k*1+0) default).toI=true:=by
    unfold p42
    simp only [ztl,Bool.and_eq_true,decide_eq_true_eq]
    omega
   rw [this]
   simp [ow,hki]
  have hc:zks img (k:Int) d=true:=by
   unfold zks
   simp [hki]
  have hg:(img.getD (Int.toNat (k:Int)*1+0) default).toI=img[k].toI:=by rw [Int.toNat_natCast,Nat.mul_one,Nat.add_zero,List.getD_eq_getElem?_getD,List.getElem?_eq_getElem hlt];rfl
  have hx:zpU [.l img,.i k,.l d]=[.l img,.i ((k+1:Nat):Int),.l (zb6 d (2147483648+k) img[k].toI)]:=by
   have e0:zhc img k d=((k+1:Nat):Int):=by
    unfold zhc
    rw [zaH (by omega) (by omega)]
    rfl
   have e1:zhd img k d=zb6 d (2147483648+k) img[k].toI:=by
    unfold zhd
    simp only [hadr,hg]
    rfl
   show [DV.l _,.i (zhc img k d),.l (zhd img k d)]=_
   rw [e0,e1]
   rfl
  unfold zc3
  rw [za4 (show zpS [.l img,.i k,.l d]=true from hw) (show zpT [.l img,.i k,.l d]=true from hc),hx]
  have:=ih (k+1) (zb6 d (2147483648+k) img[k].toI) (by omega)
  unfold zc3 at this
  rw [this,List.drop_eq_getElem_cons hlt]
  show _=some [DV.i 0,.i img.length,.l (zbt (img.drop (k+1)) (2147483648+k+1) (zb6 d (2147483648+k) img[k].toI))]
  rw [show (2147483648+((k+1:Nat):Int))=2147483648+(k:Int)+1 by omega]
noncomputable def ref0 (img:List DV):List DV:=[.l (zbt img 2147483648 []),.l zyO,.l zyP,.l zyQ,.i (-1),.l [],.i 0,.b false]
theorem zAk:p20 []=true∧zp3 []=true:=by
 have hL:zhQ [] false 0=some [.i 1,.b false,.i 0]:=by
  unfold zhQ
  rw [zaS (by show zp0 [] false 0=true;unfold zp0;simp [ow]) (by show zp1 [] false 0=false;unfold zp1;simp)]
  rfl
 have e:((([]:List DV).length/4:Nat):Int)=0:=rfl
 unfold p20 zp3 zp2 zkz zkA
 simp only [e,hL]
 exact ⟨rfl,rfl⟩
theorem new6 (img:List DV):p6 img []=true∧r6_1 img []=decide (img.length≤1048576)∧r6_0 img []=(bif decide (img.length≤1048576) then 1 else 0) ∧
  (img.length≤1048576→r6_2 img []=[.b true,.l (ref0 img)]):=by
 obtain ⟨a1,a2⟩:=zAk
 have hd:decide (((img.length/1:Nat):Int)>1048576) = !decide (img.length≤1048576):=by
  rw [Nat.div_one,Bool.eq_iff_iff]
  simp
  omega
 have hl:img.length≤1048576→p25 zkf img=true∧zv9 zkf img=zbt img 2147483648 []:=fun hi=>by
  have l:zc3 img 0 zkf=_:=zya img hi img.length 0 zkf (by omega)
  have e:decide (img.length≤1048576)=true:=decide_eq_true hi
  constructor
  ·have:zpV img 0 zkf=true:=by
    show (zc3 img 0 zkf).isSome=true
    rw [l]
    rfl
   unfold p25
   simp only [this]
   simp [ow]
  ·have:zkt img 0 zkf=zbt img 2147483648 []:=by
    show (dget ((zc3 img 0 zkf).getD []) 2).toL=_
    rw [l]
    rfl
   unfold zv9
   simp only [hd,e,this]
   rfl
 unfold p6 r6_0 r6_1 r6_2
 simp only [a1,a2,hd]
 cases hi:decide (img.length≤1048576) with
 | false =>
  have:¬ img.length≤1048576:=of_decide_eq_false hi
  simp [ow,this]
 | true =>
  obtain ⟨b1,b2⟩:=hl (of_decide_eq_true hi)
  simp only [b1,b2]
  simp [ow,ref0]
end Go.Proofs.YtedoffkaehcnmaaGreatDoor
namespace Go.Proofs.YtedoffkaehcnmaaGreatDoor
open Go Go.Sx
set_option maxRecDepth 100000
def R8 (x:Int):Prop:=0≤x∧x<256
def R64 (x:Int):Prop:=0≤x∧x<18446744073709551616
theorem R8.nat {x:Int} (h:R8 x):∃ n:Nat,n<256∧x=n:=⟨x.toNat,by have:=h.1;have:=h.2;omega,by have:=h.1;omega⟩
theorem R64.nat {x:Int} (h:R64 x):∃ n:Nat,n<18446744073709551616∧x=n:=⟨x.toNat,by have:=h.1;have:=h.2;omega,by have:=h.1;omega⟩
theorem ziP {P:Int→Bool} (h:∀ n:Fin 256,P (n.val:Int)=true) {x:Int} (hx:R8 x):P x=true:=by
 obtain ⟨n,hn,rfl⟩:=hx.nat
 exact h ⟨n,hn⟩
theorem zwZ {v:Int} (k:Nat) (hk:k≤64):ishr .u64 v k=v/(2^k:Int):=by
 unfold ishr
 rw [show min (Int.toNat (k:Int)) (IntKind.bits .u64)=k from by simp [IntKind.bits];omega]
 exact Int.fdiv_eq_ediv_of_nonneg _ (by exact Int.le_of_lt (Int.pow_pos (by decide)))
theorem zAl {c:Int} (h:R8 c):(zdW c==1)=(zdX c==1):=by
 have:=ziP (P:=fun c=>(zdW c==1)==(zdX c==1)) (by decide +kernel) h
 exact eq_of_beq this
theorem zw0 {v:Int} (h:R64 v):zaj .u64 v 18014398509481983=zeC v:=by
 obtain ⟨n,hn,rfl⟩:=h.nat
 have e1:(BitVec.ofInt 64 (n:Int)).toNat=n:=by
  rw [BitVec.ofInt_natCast,BitVec.toNat_ofNat];exact Nat.mod_eq_of_lt (by omega)
 have e2:(BitVec.ofInt 64 (18014398509481983:Int)).toNat=18014398509481983:=by decide +kernel
 have e3:n &&& 18014398509481983=n%18014398509481984:=by
  have:=Nat.and_two_pow_sub_one_eq_mod n 54
  simpa using this
 show IntKind.wrap .u64 ((BitVec.ofInt 64 (n:Int) &&& BitVec.ofInt 64 (18014398509481983:Int)).toNat:Int)=Int.tmod (n:Int) 18014398509481984
 rw [BitVec.toNat_and,e1,e2,e3,zaB,Int.tmod_eq_emod_of_nonneg (by omega)]
 omega
theorem zzl:p63=true:=by unfold p63 p50;rfl
theorem zwm {a b:Nat} (ha:a<18446744073709551616) (hb:b<18446744073709551616):zaj .u64 (a:Int) (b:Int)=((a &&& b:Nat):Int):=by
 have e1:(BitVec.ofInt 64 (a:Int)).toNat=a:=by
  rw [BitVec.ofInt_natCast,BitVec.toNat_ofNat];exact Nat.mod_eq_of_lt (by omega)
 have e2:(BitVec.ofInt 64 (b:Int)).toNat=b:=by
  rw [BitVec.ofInt_natCast,BitVec.toNat_ofNat];exact Nat.mod_eq_of_lt (by omega)
 show IntKind.wrap .u64 ((BitVec.ofInt 64 (a:Int) &&& BitVec.ofInt 64 (b:Int)).toNat:Int)=_
 rw [BitVec.toNat_and,e1,e2,zaB]
 have:a &&& b≤a:=Nat.and_le_left
 omega
theorem zzm:∀ k:Nat,k<64→([0,1,56,2,57,49,28,3,61,58,42,50,38,29,17,4,62,47,59,36,45,43,51,22,53,39,33,30,24,18,12,5,63,55,48,27,60,41,37,16,46,35,44,21,52,32,23,11,54,26,40,15,34,20,31,10,25,14,19,9,13,8,7,6]:List Int).getD (2^k*285870213051353865%18446744073709551616/288230376151711744) 0=(k:Int):=by decide +kernel
theorem zzn {x:Nat} (h0:x≠0) (hx:x<18446744073709551616) :
  ishr .u64 (IntKind.wrap .u64 (zaj .u64 (x:Int) (IntKind.wrap .u64 (0-(x:Int)))*285870213051353865)) 58=((2^Lib.ctz 64 x*285870213051353865%18446744073709551616/288230376151711744:Nat):Int):=by
 obtain ⟨hlow,hk⟩:=Lib.lowest_bit 64 x h0 hx
 have e1:IntKind.wrap .u64 (0-(x:Int))=((18446744073709551616-x:Nat):Int):=by rw [zaB];omega
 have e2:x &&& (18446744073709551616-x)=2^Lib.ctz 64 x:=hlow
 rw [e1,zwm hx (by omega),e2]
 have e3:IntKind.wrap .u64 (((2^Lib.ctz 64 x:Nat):Int)*285870213051353865)=((2^Lib.ctz 64 x*285870213051353865%18446744073709551616:Nat):Int):=by
  rw [zaB];omega
 rw [e3,show ishr .u64 ((2^Lib.ctz 64 x*285870213051353865%18446744073709551616:Nat):Int) 58=_ from zwZ 58 (by decide)]
 omega
def zzo:List Int:=[0,1,56,2,57,49,28,3,61,58,42,50,38,29,17,4,62,47,59,36,45,43,51,22,53,39,33,30,24,18,12,5,63,55,48,27,60,41,37,16,46,35,44,21,52,32,23,11,54,26,40,15,34,20,31,10,25,14,19,9,13,8,7,6]
def tzAt (x:Int):Int:=ishr .u64 (IntKind.wrap .u64 (zaj .u64 x (IntKind.wrap .u64 (0-x))*285870213051353865)) 58
theorem zAm {x:Nat} (h0:x≠0) (hx:x<18446744073709551616):∃ j k:Nat,j<64∧k<64∧k=Lib.ctz 64 x∧tzAt (x:Int)=(j:Int)∧zzo.getD j 0=(k:Int):=by
 obtain ⟨_,hk⟩:=Lib.lowest_bit 64 x h0 hx
 obtain ⟨hi,_⟩:=Lib.deBruijn64_at _ hk
 exact ⟨_,_,hi,hk,rfl,zzn h0 hx,zzm _ hk⟩
theorem zzp (x:Int):p58 x=(ow [(!(x==0),true)] (decide (tzAt x≥0))&&(ow [(!(x==0),true)] (decide (tzAt x<64))&&true)):=rfl
theorem zzq (x:Int):zhb x=bif !(x==0) then IntKind.wrap .i64 (zzo.getD (Int.toNat (tzAt x)) 0) else 64:=rfl
theorem zAn {x:Nat} (h0:x≠0) (hx:x<18446744073709551616):p58 (x:Int)=true∧zhb (x:Int)=(Lib.ctz 64 x:Int):=by
 obtain ⟨j,k,hj,hk,hkc,h1,h2⟩:=zAm h0 hx
 have hx0:((x:Int)==0)=false:=by simp;omega
 rw [←hkc,zzp,zzq,h1,hx0]
 have a1:decide ((j:Int)≥0)=true:=decide_eq_true (by omega)
 have a2:decide ((j:Int)<64)=true:=decide_eq_true (by omega)
 rw [a1,a2,Int.toNat_natCast,h2]
 refine ⟨rfl,?_⟩
 rw [Bool.not_false,cond_true,IntKind.wrap_i64]
 omega
theorem zoy:∀ (t j:Nat) (r:Int),0≤r→r<18014398509481984→j+t≤60→(∃ m:Int,r=2^t*(2*m)+(2^t-1)∧0≤m) →
  ∃ rest,zff (8*2^j) r=some [.i 0,.i (8*2^(j+t)),.i rest]
 | 0,j,r,h0,h1,hj,⟨m,hm,hm0⟩=>by
  refine ⟨r,?_⟩
  have hc:zp4 (8*2^j) r=false:=by
   show (Int.tmod r 2==1)=false
   rw [Int.tmod_eq_emod_of_nonneg h0]
   simp at hm ⊢
   omega
  have:=zaS (w:=zkB) (c:=zkC) (nx:=zhS) (out:=zkD) (s:=[.i (8*2^j),.i r]) rfl hc
  show zbU zkB zkC zhS zkD [.i (8*2^j),.i r]=_
  rw [this]
  rfl
 | t+1,j,r,h0,h1,hj,⟨m,hm,hm0⟩=>by
  have e1:(2:Int)^(t+1)=2*2^t:=by rw [Int.pow_succ,Int.mul_comm]
  generalize hp:(2:Int)^t=p at e1
  have hp0:0<p:=by rw [←hp];exact Int.pow_pos (by decide)
  have hc:zp4 (8*2^j) r=true:=by
   show (Int.tmod r 2==1)=true
   rw [Int.tmod_eq_emod_of_nonneg h0]
   rw [e1,Int.mul_assoc] at hm
   simp
   omega
  have hn:=za4 (w:=zkB) (c:=zkC) (nx:=zhS) (out:=zkD) (s:=[.i (8*2^j),.i r]) rfl hc
  have hr:IntKind.wrap .u64 (Int.tdiv r 2)=r/2:=by
   rw [Int.tdiv_eq_ediv_of_nonneg h0,zaB]
   omega
  have hs:IntKind.wrap .u64 (2*(8*2^j))=8*2^(j+1):=by
   rw [zaB,Int.pow_succ]
   have hb:(2:Int)^j≤2^59:=by
    have:(2:Nat)^j≤2^59:=Nat.pow_le_pow_right (by decide) (by omega)
    exact_mod_cast this
   have hb0:(0:Int)<2^j:=Int.pow_pos (by decide)
   generalize (2:Int)^j=q at hb hb0
   omega
  have he:zhS [.i (8*2^j),.i r]=[.i (8*2^(j+1)),.i (r/2)]:=by
   show [DV.i (IntKind.wrap .u64 (2*(8*2^j))),.i (IntKind.wrap .u64 (Int.tdiv r 2))]=_
   rw [hr,hs]
  rw [he] at hn
  obtain ⟨rest,ih⟩:=zoy t (j+1) (r/2) (by omega) (by omega) (by omega) ⟨m,by rw [hp];rw [e1,Int.mul_assoc] at hm;omega,hm0⟩
  refine ⟨rest,?_⟩
  rw [show j+(t+1)=j+1+t from by omega,←ih]
  exact hn
theorem zyb {a:Nat} (ha:a<18014398509481984):∃ t m:Nat,t≤54∧Lib.ctz 64 (18446744073709551615-a)=t∧a=2^t*(2*m)+(2^t-1):=by
 have hx0:18446744073709551615-a≠0:=by omega
 obtain ⟨m,hm,hk⟩:=Lib.ctzFrom_spec 64 (18446744073709551615-a) (by omega) (by omega)
 have hc:Lib.ctz 64 (18446744073709551615-a)=Lib.ctzFrom 64 (18446744073709551615-a):=by
  unfold Lib.ctz;rw [if_neg hx0]
 generalize Lib.ctzFrom 64 (18446744073709551615-a)=t at hm hk hc
 -- 2^64 = 2^t * 2 * 2^(63 - t)
 have e:(18446744073709551616:Nat)=2^t*(2*2^(63-t)):=by
  have:(2:Nat)^64=2^t*(2*2^(63-t)):=by
   rw [←Nat.pow_succ',←Nat.pow_add]
   congr 1
   omega
  simpa using this
 have hp:0<2^t:=Nat.pow_pos (by decide)
 have h1:a+1=2^t*(2*2^(63-t))-2^t*(2*m+1):=by omega
 rw [←Nat.mul_sub] at h1
 have hlt:2*m+1<2*2^(63-t):=by
  apply Nat.lt_of_not_le
  intro hle
  have:2*2^(63-t)-(2*m+1)=0:=by omega
  rw [this] at h1
  omega
 have h2:2*2^(63-t)-(2*m+1)=2*(2^(63-t)-m-1)+1:=by omega
 rw [h2,Nat.mul_add,Nat.mul_one] at h1
 refine ⟨t,2^(63-t)-m-1,?_,hc,by omega⟩
 have h3:2^t≤2^54:=by
  have:2^t≤a+1:=by omega
  simp only [Nat.reducePow]
  omega
 exact (Nat.pow_le_pow_iff_right (by decide)).1 h3
theorem zw1 {v:Int} (k:Nat) (hk:k≤64):ishl .u64 v k=IntKind.wrap .u64 (v*2^k):=by
 unfold ishl
 rw [show min (Int.toNat (k:Int)) (IntKind.bits .u64)=k from by simp [IntKind.bits];omega]
theorem zwn {a:Nat} (ha:a<18446744073709551616):zeD .u64 18446744073709551615 (a:Int)=((18446744073709551615-a:Nat):Int):=by
 have e1:(BitVec.ofInt 64 (a:Int)).toNat=a:=by
  rw [BitVec.ofInt_natCast,BitVec.toNat_ofNat];exact Nat.mod_eq_of_lt (by omega)
 have e2:BitVec.ofInt 64 (18446744073709551615:Int)=BitVec.allOnes 64:=by decide +kernel
 show IntKind.wrap .u64 ((BitVec.ofInt 64 (18446744073709551615:Int) ^^^ BitVec.ofInt 64 (a:Int)).toNat:Int)=_
 rw [e2,BitVec.allOnes_xor,BitVec.toNat_not,e1,zaB]
 omega
theorem zwo {a t m:Nat} (ha:a<18014398509481984) (ht:t≤54) (h:a=2^t*(2*m)+(2^t-1)) :
  IntKind.wrap .u64 (ishl .u64 (ishr .u64 (a:Int) ((t+1:Nat):Int)) ((t+1:Nat):Int)*4)=((8*(m*2^t):Nat):Int)∧ishl .u64 1 ((t+3:Nat):Int)=((8*2^t:Nat):Int):=by
 have hp:0<2^t:=Nat.pow_pos (by decide)
 have hp2:2^t≤2^54:=Nat.pow_le_pow_right (by decide) ht
 have e0:ishr .u64 (a:Int) ((t+1:Nat):Int)=(m:Int):=by
  rw [zwZ (t+1) (by omega)]
  have:a/2^(t+1)=m:=by
   rw [Nat.pow_succ,h]
   generalize 2^t=p at hp
   apply Nat.div_eq_of_lt_le
   ·have e:m*(p*2)=p*(2*m):=by rw [Nat.mul_comm m,Nat.mul_assoc]
    omega
   ·have e:(m+1)*(p*2)=p*(2*m)+p*2:=by rw [Nat.succ_mul,Nat.mul_comm m,Nat.mul_assoc]
    omega
  rw [←this]
  norm_cast
 have e1:m*2^t≤a:=by
  rw [h,Nat.mul_comm (2^t),Nat.mul_comm 2 m,Nat.mul_assoc,Nat.mul_comm 2,←Nat.mul_assoc]
  omega
 constructor
 ·rw [e0,zw1 (t+1) (by omega)]
  have e2:(m:Int)*2^(t+1)=((2*(m*2^t):Nat):Int):=by
   rw [Int.pow_succ]
   push_cast
   rw [←Int.mul_assoc,Int.mul_comm _ 2]
  rw [e2]
  generalize m*2^t=q at e1
  rw [zaB,zaB]
  omega
 ·rw [zw1 (t+3) (by omega)]
  have e3:(1:Int)*2^(t+3)=((8*2^t:Nat):Int):=by
   rw [Int.pow_add]
   push_cast
   omega
  rw [e3,zaB]
  generalize 2^t=p at hp2
  simp only [Nat.reducePow] at hp2
  omega
noncomputable def zvi (a:Int):Int:=IntKind.wrap .u64 (ishl .u64 (ishr .u64 a (IntKind.wrap .i64 (zhb (zeD .u64 18446744073709551615 a)+1))) (IntKind.wrap .i64 (zhb (zeD .u64 18446744073709551615 a)+1))*4)
noncomputable def zwp (a:Int):Int:=ishl .u64 1 (IntKind.wrap .i64 (zhb (zeD .u64 18446744073709551615 a)+3))
noncomputable def zwq (b1 b2 b3:Bool):Bool:=bif b1 then false else bif b2 then false else !b3
noncomputable def lo8 (q b1 b2 b3 g:Bool) (a e:Int):Int :=
 bif q then (bif zwq b1 b2 b3 then 0 else bif b1 then (bif !(decide ((bif g then IntKind.wrap .u64 (e*4) else 0)≥IntKind.wrap .u64 (a*4))) then (bif g then IntKind.wrap .u64 (e*4) else 0) else 0) else bif b2 then IntKind.wrap .u64 (a*4) else zvi a) else 0
noncomputable def hi8 (q b1 b2 b3 g:Bool) (a e:Int):Int :=
 bif q then (bif zwq b1 b2 b3 then 0 else bif b1 then (bif !(decide ((bif g then IntKind.wrap .u64 (e*4) else 0)≥IntKind.wrap .u64 (a*4))) then IntKind.wrap .u64 (IntKind.wrap .u64 (a*4)-1) else 0) else bif b2 then IntKind.wrap .u64 (IntKind.wrap .u64 (a*4)+3) else IntKind.wrap .u64 (IntKind.wrap .u64 (zvi a+zwp a)-1)) else 0
noncomputable def ok8 (q b1 b2 b3 g:Bool) (a e:Int):Bool :=
 q&&(bif zwq b1 b2 b3 then false else bif b1 then !(decide ((bif g then IntKind.wrap .u64 (e*4) else 0)≥IntKind.wrap .u64 (a*4))) else true)
noncomputable abbrev at8 (l:List DV) (n:Int):Int:=(l.getD (Int.toNat n*1+0) default).toI
noncomputable abbrev inr8 (n:Int):Bool:=!(decide (n<0)||decide (n≥8))
theorem zwr (cfg adr:List DV) (n:Int):zc9 cfg adr n=lo8 (inr8 n) (zdW (at8 cfg n)==1) (zdW (at8 cfg n)==2) (zdW (at8 cfg n)==3) (decide (n>0)) (zaj .u64 (at8 adr n) 18014398509481983) (zaj .u64 (at8 adr (IntKind.wrap .i64 (n-1))) 18014398509481983):=rfl
theorem zws (cfg adr:List DV) (n:Int):zda cfg adr n=hi8 (inr8 n) (zdW (at8 cfg n)==1) (zdW (at8 cfg n)==2) (zdW (at8 cfg n)==3) (decide (n>0)) (zaj .u64 (at8 adr n) 18014398509481983) (zaj .u64 (at8 adr (IntKind.wrap .i64 (n-1))) 18014398509481983):=rfl
theorem zwt (cfg adr:List DV) (n:Int):zdA cfg adr n=ok8 (inr8 n) (zdW (at8 cfg n)==1) (zdW (at8 cfg n)==2) (zdW (at8 cfg n)==3) (decide (n>0)) (zaj .u64 (at8 adr n) 18014398509481983) (zaj .u64 (at8 adr (IntKind.wrap .i64 (n-1))) 18014398509481983):=rfl
noncomputable def zvj (a:Int):Int:=zcz 8 a
noncomputable def zvk (a:Int):Int:=IntKind.wrap .u64 (IntKind.wrap .u64 (Int.tdiv (IntKind.wrap .u64 (4*a)) (zvj a))*zvj a)
noncomputable def l9 (b1 b2 b3 g:Bool) (a e:Int):Int:=bif b1 then (bif g then IntKind.wrap .u64 (4*e) else 0) else bif b2 then IntKind.wrap .u64 (4*a) else bif b3 then zvk a else 0
noncomputable def h9 (b1 b2 b3:Bool) (a:Int):Int:=bif b1 then IntKind.wrap .u64 (4*a) else bif b2 then IntKind.wrap .u64 (IntKind.wrap .u64 (4*a)+4) else bif b3 then IntKind.wrap .u64 (zvk a+zvj a) else 0
noncomputable def lo9 (q b1 b2 b3 g:Bool) (a e:Int):Int:=bif q then (bif !(decide (l9 b1 b2 b3 g a e≥h9 b1 b2 b3 a)) then l9 b1 b2 b3 g a e else 0) else 0
noncomputable def hi9 (q b1 b2 b3 g:Bool) (a e:Int):Int:=bif q then (bif !(decide (l9 b1 b2 b3 g a e≥h9 b1 b2 b3 a)) then IntKind.wrap .u64 (h9 b1 b2 b3 a-1) else 0) else 0
noncomputable def ok9 (q b1 b2 b3 g:Bool) (a e:Int):Bool:=q&&!(decide (l9 b1 b2 b3 g a e≥h9 b1 b2 b3 a))
noncomputable abbrev inr9 (n:Int):Bool:=!(decide (n<0)||decide (n>7))
theorem zrf (cfg adr:List DV) (n:Int):zfg cfg adr n=lo9 (inr9 n) (zdX (at8 cfg n)==1) (zdX (at8 cfg n)==2) (zdX (at8 cfg n)==3) (decide (n>0)) (zeC (at8 adr n)) (zeC (at8 adr (IntKind.wrap .i64 (n-1)))):=rfl
theorem zrg (cfg adr:List DV) (n:Int):zfh cfg adr n=hi9 (inr9 n) (zdX (at8 cfg n)==1) (zdX (at8 cfg n)==2) (zdX (at8 cfg n)==3) (decide (n>0)) (zeC (at8 adr n)) (zeC (at8 adr (IntKind.wrap .i64 (n-1)))):=rfl
theorem zrh (cfg adr:List DV) (n:Int):zer cfg adr n=ok9 (inr9 n) (zdX (at8 cfg n)==1) (zdX (at8 cfg n)==2) (zdX (at8 cfg n)==3) (decide (n>0)) (zeC (at8 adr n)) (zeC (at8 adr (IntKind.wrap .i64 (n-1)))):=rfl
theorem nap {a:Nat} (ha:a<18014398509481984):∃ p q:Nat,0<p∧q+p≤18014398509481984∧zvi (a:Int)=((8*q:Nat):Int)∧zwp (a:Int)=((8*p:Nat):Int) ∧
  zvk (a:Int)=((8*q:Nat):Int)∧zvj (a:Int)=((8*p:Nat):Int)∧zm7 8 (a:Int)=true∧p58 (zeD .u64 18446744073709551615 (a:Int))=true ∧
  0≤zhb (zeD .u64 18446744073709551615 (a:Int))∧zhb (zeD .u64 18446744073709551615 (a:Int))≤54:=by
 obtain ⟨t,m,ht,hc,h⟩:=zyb ha
 have hx:=zwn (a:=a) (by omega)
 obtain ⟨hp18,hr18⟩:=zAn (x:=18446744073709551615-a) (by omega) (by omega)
 rw [←hx] at hp18 hr18
 rw [hc] at hr18
 obtain ⟨hf,hs⟩:=zwo ha ht h
 have i1:IntKind.wrap .i64 ((t:Int)+1)=((t+1:Nat):Int):=by rw [IntKind.wrap_i64];omega
 have i3:IntKind.wrap .i64 ((t:Int)+3)=((t+3:Nat):Int):=by rw [IntKind.wrap_i64];omega
 obtain ⟨rest,hl⟩:=zoy t 0 (a:Int) (by omega) (by omega) (by omega) ⟨(m:Int),by rw [h];have:1≤2^t:=Nat.pow_pos (by decide);push_cast [Int.ofNat_sub this];rfl,by omega⟩
 rw [Nat.zero_add] at hl
 have hl':zff 8 (a:Int)=some [.i 0,.i (8*2^t),.i rest]:=by
  have:(8*2^0:Int)=8:=by decide
  rw [this] at hl
  exact hl
 have hsz:zvj (a:Int)=((8*2^t:Nat):Int):=by
  show (dget ((zff 8 (a:Int)).getD []) 1).toI=_
  rw [hl']
  show (8*2^t:Int)=_
  push_cast
  rfl
 have hpp:zm7 8 (a:Int)=true:=by
  show (zff 8 (a:Int)).isSome=true
  rw [hl'];rfl
 have hp:0<2^t:=Nat.pow_pos (by decide)
 have hp2:2^t≤2^54:=Nat.pow_le_pow_right (by decide) ht
 have hq:2^t*(2*m)=2*(m*2^t):=by rw [Nat.mul_comm (2^t),Nat.mul_assoc]
 have hf8:zvi (a:Int)=((8*(m*2^t):Nat):Int):=by
  unfold zvi
  rw [hr18,i1]
  exact hf
 have hs8:zwp (a:Int)=((8*2^t:Nat):Int):=by
  unfold zwp
  rw [hr18,i3]
  exact hs
 have hf9:zvk (a:Int)=((8*(m*2^t):Nat):Int):=by
  unfold zvk
  rw [hsz]
  have h4:IntKind.wrap .u64 (4*(a:Int))=((4*a:Nat):Int):=by rw [zaB];omega
  rw [h4]
  have hdiv:4*a/(8*2^t)=m:=by
   rw [h,hq]
   generalize 2^t=p at hp
   apply Nat.div_eq_of_lt_le
   ·have e:m*(8*p)=8*(m*p):=by rw [←Nat.mul_assoc,Nat.mul_comm m 8,Nat.mul_assoc]
    omega
   ·have e:(m+1)*(8*p)=8*(m*p)+8*p:=by rw [Nat.succ_mul,←Nat.mul_assoc,Nat.mul_comm m 8,Nat.mul_assoc]
    omega
  have h5:Int.tdiv ((4*a:Nat):Int) ((8*2^t:Nat):Int)=(m:Int):=by
   rw [Int.tdiv_eq_ediv_of_nonneg (by omega),←hdiv]
   norm_cast
  have hm:m≤a:=by
   have:m*1≤m*2^t:=Nat.mul_le_mul_left _ hp
   omega
  have h6:IntKind.wrap .u64 (m:Int)=(m:Int):=by rw [zaB];omega
  rw [h5,h6]
  have e:(m:Int)*((8*2^t:Nat):Int)=((8*(m*2^t):Nat):Int):=by
   have:m*(8*2^t)=8*(m*2^t):=by rw [←Nat.mul_assoc,Nat.mul_comm m 8,Nat.mul_assoc]
   rw [←this]
   norm_cast
  rw [e,zaB]
  generalize m*2^t=q at hq
  generalize 2^t*(2*m)=r at hq h
  omega
 refine ⟨2^t,m*2^t,hp,?_,hf8,hs8,hf9,hsz,hpp,hp18,by rw [hr18];omega,by rw [hr18];omega⟩
 generalize m*2^t=q at hq
 generalize 2^t*(2*m)=r at hq h
 generalize 2^t=p at h hp hp2
 simp only [Nat.reducePow] at hp2
 omega
theorem zAo (q b1 b2 b3 g:Bool) {a e:Nat} (ha:a<18014398509481984) (he:e<18014398509481984) :
  lo8 q b1 b2 b3 g (a:Int) (e:Int)=lo9 q b1 b2 b3 g (a:Int) (e:Int)∧hi8 q b1 b2 b3 g (a:Int) (e:Int)=hi9 q b1 b2 b3 g (a:Int) (e:Int)∧ok8 q b1 b2 b3 g (a:Int) (e:Int)=ok9 q b1 b2 b3 g (a:Int) (e:Int):=by
 obtain ⟨p,r,hp,hpr,f8,s8,f9,s9,_,_,_,_⟩:=nap ha
 have w1:IntKind.wrap .u64 ((a:Int)*4)=4*a:=by rw [zaB];omega
 have w2:IntKind.wrap .u64 (4*(a:Int))=4*a:=by rw [zaB];omega
 have w3:IntKind.wrap .u64 ((e:Int)*4)=4*e:=by rw [zaB];omega
 have w4:IntKind.wrap .u64 (4*(e:Int))=4*e:=by rw [zaB];omega
 unfold lo8 lo9 hi8 hi9 ok8 ok9 l9 h9 zwq
 rw [f8,s8,f9,s9,w1,w2,w3,w4]
 have v1:IntKind.wrap .u64 (4*(a:Int)+3)=4*a+3:=by rw [zaB];omega
 have v2:IntKind.wrap .u64 (4*(a:Int)+4)=4*a+4:=by rw [zaB];omega
 have v3:IntKind.wrap .u64 (4*(a:Int)+4-1)=4*a+3:=by rw [zaB];omega
 have v4:IntKind.wrap .u64 (((8*r:Nat):Int)+((8*p:Nat):Int))=8*r+8*p:=by rw [zaB];omega
 rw [v1,v2,v4]
 cases q
 ·exact ⟨rfl,rfl,rfl⟩
 ·cases b1
  ·cases b2
   ·cases b3
    ·exact ⟨rfl,rfl,rfl⟩
    ·have d:decide (((8*r:Nat):Int)≥8*(r:Int)+8*(p:Int))=false:=decide_eq_false (by omega)
     simp only [cond_true,cond_false,Bool.not_true,d,Bool.not_false,Bool.true_and]
     exact ⟨trivial,trivial,trivial⟩
   ·have d:decide (4*(a:Int)≥4*a+4)=false:=decide_eq_false (by omega)
    simp only [cond_true,cond_false,d,Bool.not_false,Bool.true_and,v3]
    exact ⟨trivial,trivial,trivial⟩
  ·simp only [cond_true,cond_false,Bool.true_and]
   exact ⟨trivial,trivial,trivial⟩
theorem zzr {c:Int} (h:R8 c):(zdW c==2)=(zdX c==2):=by
 have:=ziP (P:=fun c=>(zdW c==2)==(zdX c==2)) (by decide +kernel) h
 exact eq_of_beq this
theorem zzs {c:Int} (h:R8 c):(zdW c==3)=(zdX c==3):=by
 have:=ziP (P:=fun c=>(zdW c==3)==(zdX c==3)) (by decide +kernel) h
 exact eq_of_beq this
theorem zqj {v:Int} (h:R64 v):∃ a:Nat,a<18014398509481984∧zeC v=a:=by
 have:zeC v=v%18014398509481984:=by
  show Int.tmod v 18014398509481984=_
  rw [Int.tmod_eq_emod_of_nonneg h.1]
 exact ⟨(zeC v).toNat,by rw [this];omega,by rw [this];omega⟩
theorem zwu {q b1 b2 b3 g:Bool} {a e:Int} (h:ok9 q b1 b2 b3 g a e=true):lo9 q b1 b2 b3 g a e≤hi9 q b1 b2 b3 g a e:=by
 have hw:∀ n:Int,0≤IntKind.wrap .u64 n∧IntKind.wrap .u64 n<18446744073709551616:=fun n=>by rw [zaB];omega
 unfold ok9 at h
 rw [Bool.and_eq_true] at h
 obtain ⟨hq,hd⟩:=h
 have hd':l9 b1 b2 b3 g a e<h9 b1 b2 b3 a:=by
  have:=hd
  simp at this
  omega
 unfold lo9 hi9
 rw [hd,hq]
 simp only [cond_true]
 have hl:0≤l9 b1 b2 b3 g a e:=by
  unfold l9
  cases b1
  ·cases b2
   ·cases b3
    ·exact Int.le_refl 0
    ·exact (hw _).1
   ·exact (hw _).1
  ·cases g
   ·exact Int.le_refl 0
   ·exact (hw _).1
 have hh:h9 b1 b2 b3 a<18446744073709551616:=by
  unfold h9
  cases b1
  ·cases b2
   ·cases b3
    ·show (0:Int)<_
     decide
    ·exact (hw _).2
   ·exact (hw _).2
  ·exact (hw _).2
 rw [zaB]
 omega
theorem zwv {cfg adr:List DV} (hcfg:∀ n,R8 (at8 cfg n)) (hadr:∀ n,R64 (at8 adr n)) (n:Int):zc9 cfg adr n=zfg cfg adr n∧zda cfg adr n=zfh cfg adr n∧zdA cfg adr n=zer cfg adr n:=by
 have hc:=hcfg n
 have ha:=hadr n
 have he:=hadr (IntKind.wrap .i64 (n-1))
 have hq:inr8 n=inr9 n:=by
  have:decide (n≥8)=decide (n>7):=by simp;omega
  show (!(decide (n<0)||decide (n≥8)))=_
  rw [this]
 rw [zwr,zws,zwt,zrf,zrg,zrh,hq,zAl hc,zzr hc,zzs hc,zw0 ha,zw0 he]
 obtain ⟨a,ha1,ha2⟩:=zqj ha
 obtain ⟨e,he1,he2⟩:=zqj he
 rw [ha2,he2]
 exact zAo _ _ _ _ _ ha1 he1
theorem zzt {cfg adr:List DV} (hadr:∀ n,R64 (at8 adr n)) {n:Int} (hn:0≤n∧n<8):p49 cfg adr n=true:=by
 obtain ⟨a,ha1,ha2⟩:=zqj (hadr n)
 obtain ⟨p,r,hp,hpr,f8,s8,f9,s9,hl,h18,hr0,hr1⟩:=nap ha1
 have hs9:(zcz 8 (a:Int) != 0)=true:=by
  have:zcz 8 (a:Int)=((8*p:Nat):Int):=s9
  rw [this];simp;omega
 have a1:decide (n≥0)=true:=decide_eq_true hn.1
 have a2:decide (n<8)=true:=decide_eq_true hn.2
 have e:IntKind.wrap .i64 (n-1)=n-1:=by rw [IntKind.wrap_i64];omega
 have a4:decide (IntKind.wrap .i64 (n-1)<8)=true:=by rw [e];exact decide_eq_true (by omega)
 have a3:decide (IntKind.wrap .i64 (n-1)≥0)=decide (n>0):=by rw [e];simp;omega
 unfold p49
 simp only [List.all_cons,List.all_nil,id,ha2,a1,a2,a3,a4,zzl,hl,hs9,zam,Bool.true_and,Bool.and_true]
 cases decide (n>0)<;>simp [ow]
theorem zww {cfg adr:List DV} {n:Int} (h:zer cfg adr n=true):zfg cfg adr n≤zfh cfg adr n:=by
 rw [zrf,zrg]
 rw [zrh] at h
 exact zwu h
end Go.Proofs.YtedoffkaehcnmaaGreatDoor
namespace Go.Proofs.YtedoffkaehcnmaaGreatDoor
open Go Go.Sx
set_option maxRecDepth 100000
def decF (H Y:Int→Bool) (e:Bool):Nat→Int→Bool
 | 0,_=>e
 | k+1,n=>bif H n then Y n else decF H Y e k (n+1)
theorem zvl (h0 h1 h2 h3 h4 h5 h6 h7 y0 y1 y2 y3 y4 y5 y6 y7 e:Bool) :
  (bif (!h0&&(!h1&&(!h2&&(!h3&&(!h4&&(!h5&&(!h6&&!h7))))))) then e else (bif !h0 then (bif !h1 then (bif !h2 then (bif !h3 then (bif !h4 then (bif !h5 then (bif !h6 then y7 else y6) else y5) else y4) else y3) else y2) else y1) else y0)) =
  bif h0 then y0 else bif h1 then y1 else bif h2 then y2 else bif h3 then y3 else bif h4 then y4 else bif h5 then y5 else bif h6 then y6 else bif h7 then y7 else e:=by
 cases h0<;>try rfl
 all_goals (cases h1<;>try rfl)
 all_goals (cases h2<;>try rfl)
 all_goals (cases h3<;>try rfl)
 all_goals (cases h4<;>try rfl)
 all_goals (cases h5<;>try rfl)
 all_goals (cases h6<;>try rfl)
 all_goals (cases h7<;>try rfl)
noncomputable def hitE (cfg adr:List DV) (a last n:Int):Bool:=!((!zdA cfg adr n||decide (last<zc9 cfg adr n))||decide (a>zda cfg adr n))
noncomputable def sayE (cfg adr:List DV) (m need a last n:Int):Bool :=
 !(decide (a<zc9 cfg adr n)||decide (last>zda cfg adr n))&&((m==3&&zaj .u8 (at8 cfg n) 128==0)||zaj .u8 (at8 cfg n) need==need)
noncomputable def zcc (a sz:Int):Int:=IntKind.wrap .u64 (IntKind.wrap .u64 (a+IntKind.wrap .u64 sz)-1)
theorem zzu (cfg adr:List DV) (m k a sz:Int):zol cfg adr m k a sz=((bif sz==1 then sz==1 else bif sz==2 then sz==2 else bif sz==4 then sz==4 else sz==8)&&(!(zhP k==0||decide (zcc a sz<a)) &&
  (bif (!hitE cfg adr a (zcc a sz) 0&&(!hitE cfg adr a (zcc a sz) 1&&(!hitE cfg adr a (zcc a sz) 2&&(!hitE cfg adr a (zcc a sz) 3&&(!hitE cfg adr a (zcc a sz) 4&&(!hitE cfg adr a (zcc a sz) 5&&(!hitE cfg adr a (zcc a sz) 6&&!hitE cfg adr a (zcc a sz) 7))))))) then m==3 else
   (bif !hitE cfg adr a (zcc a sz) 0 then (bif !hitE cfg adr a (zcc a sz) 1 then (bif !hitE cfg adr a (zcc a sz) 2 then (bif !hitE cfg adr a (zcc a sz) 3 then (bif !hitE cfg adr a (zcc a sz) 4 then (bif !hitE cfg adr a (zcc a sz) 5 then (bif !hitE cfg adr a (zcc a sz) 6 then sayE cfg adr m (zhP k) a (zcc a sz) 7 else sayE cfg adr m (zhP k) a (zcc a sz) 6) else sayE cfg adr m (zhP k) a (zcc a sz) 5) else sayE cfg adr m (zhP k) a (zcc a sz) 4) else sayE cfg adr m (zhP k) a (zcc a sz) 3) else sayE cfg adr m (zhP k) a (zcc a sz) 2) else sayE cfg adr m (zhP k) a (zcc a sz) 1) else sayE cfg adr m (zhP k) a (zcc a sz) 0)))):=rfl
theorem zzv {a:Int} (h0:0≤a) (h1:a≤18446744073709551608):zcc a 8=a+7:=by
 unfold zcc
 rw [show IntKind.wrap .u64 8=8 by decide,zaB,zaB]
 omega
theorem zyc {a:Int} (h0:0≤a) (h1:a<18446744073709551616) (h:¬ a≤18446744073709551608):zcc a 8<a:=by
 unfold zcc
 rw [show IntKind.wrap .u64 8=8 by decide,zaB,zaB]
 omega
noncomputable def hitR (cfg adr:List DV) (a n:Int):Bool:=zdA cfg adr n&&(decide (zc9 cfg adr n≤a+7)&&decide (a≤zda cfg adr n))
noncomputable def sayR (cfg adr:List DV) (a n:Int):Bool:=(decide (zc9 cfg adr n≤a)&&decide (a+7≤zda cfg adr n))&&zhR (at8 cfg n) 0
theorem zzw {c:Int} (h:R8 c):(zaj .u8 c 1==1)=zhR c 0:=by
 have:=ziP (P:=fun c=>(zaj .u8 c 1==1)==zhR c 0) (by decide +kernel) h
 exact eq_of_beq this
theorem zzx (cfg adr:List DV) (a n:Int):hitE cfg adr a (a+7) n=hitR cfg adr a n:=by
 unfold hitE hitR
 generalize zdA cfg adr n=u
 cases u with
 | false=>rfl
 | true =>
  rw [Bool.eq_iff_iff]
  simp only [Bool.not_true,Bool.false_or,Bool.true_and,Bool.not_eq_true',Bool.or_eq_false_iff,Bool.and_eq_true,decide_eq_true_eq,decide_eq_false_iff_not]
  omega
theorem zzy {cfg adr:List DV} {a n:Int} (hc:R8 (at8 cfg n)):sayE cfg adr 1 (zhP 1) a (a+7) n=sayR cfg adr a n:=by
 unfold sayE sayR
 rw [show zhP 1=1 from rfl,zzw hc,show ((1:Int)==3)=false from rfl]
 generalize zhR (at8 cfg n) 0=u
 rw [Bool.eq_iff_iff]
 cases u<;>simp
theorem zr7 {cfg adr:List DV} (hcfg:∀ n,R8 (at8 cfg n)) {a:Int} (h0:0≤a) (h1:a<18446744073709551616) :
  zol cfg adr 1 1 a 8=(decide (a≤18446744073709551608)&&decF (hitR cfg adr a) (sayR cfg adr a) false 8 0):=by
 rw [zzu,zvl]
 by_cases h:a≤18446744073709551608
 ·have hl:=zzv h0 h
  have e:decide (a+7<a)=false:=decide_eq_false (by omega)
  rw [hl,e,decide_eq_true h]
  simp only [zzx,zzy (hcfg _)]
  rfl
 ·have e:decide (zcc a 8<a)=true:=decide_eq_true (zyc h0 h1 h)
  rw [e,decide_eq_false h]
  simp
noncomputable def zdu (lo hi:Int) (ok:Bool) (a j:Int):Bool:=(ok&&decide (IntKind.wrap .u64 (a+IntKind.wrap .u64 j)≥lo))&&decide (IntKind.wrap .u64 (a+IntKind.wrap .u64 j)≤hi)
def anyF (f:Int→Bool):Nat→Int→Bool→Bool
 | 0,_,s=>s
 | k+1,i,s=>anyF f k (i+1) (s||f i)
def allF (f:Int→Bool):Nat→Int→Bool→Bool
 | 0,_,s=>s
 | k+1,i,s=>allF f k (i+1) (s&&f i)
theorem zzz (lo hi a:Int) (ok:Bool):∀ (k:Nat) (i:Int) (s al:Bool),0≤i→i+k=8→zca 8 lo ok a hi s al i=some [.i 0,.b (anyF (zdu lo hi ok a) k i s),.b (allF (zdu lo hi ok a) k i al),.i 8]
 | 0,i,s,al,_,h=>by
  have:i=8:=by omega
  subst this
  unfold zca
  rw [zaS (by show zus 8 lo ok a hi s al 8=true;rfl) (by show zkE 8 lo ok a hi s al 8=false;unfold zkE;simp)]
  rfl
 | k+1,i,s,al,h0,h=>by
  have hc:zkE 8 lo ok a hi s al i=true:=by
   unfold zkE
   have:decide (i<8)=true:=decide_eq_true (by omega)
   simp only [this]
  unfold zca
  rw [za4 (show zp5 [.i 8,.i lo,.b ok,.i a,.i hi,.b s,.b al,.i i]=true from rfl) (show zp6 [.i 8,.i lo,.b ok,.i a,.i hi,.b s,.b al,.i i]=true from hc)]
  have hx:zp7 [.i 8,.i lo,.b ok,.i a,.i hi,.b s,.b al,.i i]=[.i 8,.i lo,.b ok,.i a,.i hi,.b (s||zdu lo hi ok a i),.b (al&&zdu lo hi ok a i),.i (i+1)]:=by
   show [DV.i 8,.i lo,.b ok,.i a,.i hi,.b (s||zdu lo hi ok a i),.b (al&&zdu lo hi ok a i),.i (IntKind.wrap .i64 (i+1))]=_
   rw [zaH (by omega) (by omega)]
  rw [hx]
  have ih:=zzz lo hi a ok k (i+1) (s||zdu lo hi ok a i) (al&&zdu lo hi ok a i) (by omega) (by omega)
  unfold zca at ih
  exact ih
theorem zzA {lo hi a:Int} {ok:Bool} (h0:0≤a) (h:a≤18446744073709551608) (hl:ok=true→lo≤hi) :
  anyF (zdu lo hi ok a) 8 0 false=(ok&&(decide (lo≤a+7)&&decide (a≤hi)))∧(ok=true→allF (zdu lo hi ok a) 8 0 true=(decide (lo≤a)&&decide (a+7≤hi))):=by
 have w:∀ j:Int,0≤j→j<8→IntKind.wrap .u64 (a+IntKind.wrap .u64 j)=a+j:=fun j a0 a1=>by rw [za1 (n:=j) a0 (by omega),za1 (by omega) (by omega)]
 have b:∀ j:Int,0≤j→j<8→zdu lo hi ok a j=(ok&&(decide (lo≤a+j)&&decide (a+j≤hi))):=fun j a0 a1=>by
  unfold zdu
  rw [w j a0 a1,Bool.and_assoc]
 have b0:=b 0 (by decide) (by decide);have b1:=b (0+1) (by decide) (by decide);have b2:=b (0+1+1) (by decide) (by decide);have b3:=b (0+1+1+1) (by decide) (by decide)
 have b4:=b (0+1+1+1+1) (by decide) (by decide);have b5:=b (0+1+1+1+1+1) (by decide) (by decide);have b6:=b (0+1+1+1+1+1+1) (by decide) (by decide);have b7:=b (0+1+1+1+1+1+1+1) (by decide) (by decide)
 unfold anyF anyF anyF anyF anyF anyF anyF anyF anyF allF allF allF allF allF allF allF allF allF
 rw [b0,b1,b2,b3,b4,b5,b6,b7]
 cases ok with
 | false=>exact ⟨by simp,fun h=>by cases h⟩
 | true =>
  have:=hl rfl
  constructor
  ·rw [Bool.eq_iff_iff]
   simp only [Bool.true_and,Bool.false_or,Bool.or_eq_true,Bool.and_eq_true,decide_eq_true_eq]
   omega
  ·intro _
   rw [Bool.eq_iff_iff]
   simp only [Bool.true_and,Bool.and_eq_true,decide_eq_true_eq]
   omega
theorem zzB:p51=true:=by unfold p51 p50;rfl
theorem zAp:p50 7=true:=by unfold p50;rfl
theorem zzC {cfg adr:List DV} (hcfg:∀ n,R8 (at8 cfg n)) (hadr:∀ n,R64 (at8 adr n)) {a:Int} (h0:0≤a) (h:a≤18446744073709551608):∀ (k:Nat) (i:Int),0≤i→i+k=8 →
  ∃ z r j,zcF adr 8 a 1 cfg 1 false i=some [.i z,.b r,.i j]∧(bif !(z==0) then false else r)=decF (hitR cfg adr a) (sayR cfg adr a) false k i
 | 0,i,_,hi=>by
  have:i=8:=by omega
  subst this
  refine ⟨1,false,8,?_,rfl⟩
  unfold zcF
  rw [zaS (by show zkG adr 8 a 1 cfg 1 false 8=true;unfold zkG;simp [ow]) (by show zgm adr 8 a 1 cfg 1 false 8=false;unfold zgm;simp)]
  rfl
 | k+1,i,hi0,hi=>by
  obtain ⟨e0,e1,e2⟩:=zwv hcfg hadr i
  have hin:=zzz (zfg cfg adr i) (zfh cfg adr i) a (zer cfg adr i) 8 0 false true (by decide) rfl
  obtain ⟨q1,q2⟩:=zzA (lo:=zfg cfg adr i) (hi:=zfh cfg adr i) (ok:=zer cfg adr i) h0 h zww
  have hy:zkF [.i 8,.i (zfg cfg adr i),.b (zer cfg adr i),.i a,.i (zfh cfg adr i),.b false,.b true,.i 0]=[.b true,.i 0,.b (hitR cfg adr a i),.b (allF (zdu (zfg cfg adr i) (zfh cfg adr i) (zer cfg adr i) a) 8 0 true),.i 8]:=by
   show [DV.b (zca 8 (zfg cfg adr i) (zer cfg adr i) a (zfh cfg adr i) false true 0).isSome,.i (dget ((zca 8 (zfg cfg adr i) (zer cfg adr i) a (zfh cfg adr i) false true 0).getD []) 0).toI,.b (dget ((zca 8 (zfg cfg adr i) (zer cfg adr i) a (zfh cfg adr i) false true 0).getD []) 1).toB,.b (dget ((zca 8 (zfg cfg adr i) (zer cfg adr i) a (zfh cfg adr i) false true 0).getD []) 2).toB,.i (dget ((zca 8 (zfg cfg adr i) (zer cfg adr i) a (zfh cfg adr i) false true 0).getD []) 3).toI]=_
   rw [hin,q1]
   unfold hitR
   rw [e0,e1,e2]
   rfl
  have hi8:decide (i<8)=true:=decide_eq_true (by omega)
  have hge:decide (i≥0)=true:=decide_eq_true hi0
  have hp:=zzt hadr (cfg:=cfg) ⟨hi0,by omega⟩
  have hw:zkG adr 8 a 1 cfg 1 false i=true:=by
   unfold zkG
   simp only [hy,hi8,hge,hp,zAp,zzB]
   simp [ow,dget]
  have hcc:zgm adr 8 a 1 cfg 1 false i = !hitR cfg adr a i:=by
   unfold zgm
   simp only [hy,hi8]
   show (true&&!(!(!(hitR cfg adr a i))))=_
   rw [Bool.not_not,Bool.true_and]
  cases hh:hitR cfg adr a i with
  | true =>
   refine ⟨0,sayR cfg adr a i,i,?_,?_⟩
   ·unfold zcF
    rw [zaS (show zm8 [.l adr,.i 8,.i a,.i 1,.l cfg,.i 1,.b false,.i i]=true from hw) (by show zgm adr 8 a 1 cfg 1 false i=false;rw [hcc,hh];rfl)]
    show some [DV.i (zhe adr 8 a 1 cfg 1 false i),.b (zhf adr 8 a 1 cfg 1 false i),.i i]=_
    have t0:zhe adr 8 a 1 cfg 1 false i=0:=by unfold zhe;simp only [hi8];rfl
    have t1:zhf adr 8 a 1 cfg 1 false i=sayR cfg adr a i:=by
     unfold zhf
     simp only [hy,hi8]
     have hok:zer cfg adr i=true:=by
      unfold hitR at hh
      rw [e2] at hh
      cases hk:zer cfg adr i with
      | true=>rfl
      | false=>rw [hk] at hh;simp at hh
     show (allF (zdu (zfg cfg adr i) (zfh cfg adr i) (zer cfg adr i) a) 8 0 true&&(false||zhR (at8 cfg i) 0))=_
     rw [q2 hok,Bool.false_or]
     unfold sayR
     rw [e0,e1]
    rw [t0,t1]
   ·unfold decF
    rw [hh]
    rfl
  | false =>
   obtain ⟨z,r,j,ih1,ih2⟩:=zzC hcfg hadr h0 h k (i+1) (by omega) (by omega)
   refine ⟨z,r,j,?_,?_⟩
   ·unfold zcF
    rw [za4 (show zm8 [.l adr,.i 8,.i a,.i 1,.l cfg,.i 1,.b false,.i i]=true from hw) (show zp8 [.l adr,.i 8,.i a,.i 1,.l cfg,.i 1,.b false,.i i]=true from by show zgm adr 8 a 1 cfg 1 false i=true;rw [hcc,hh];rfl)]
    have hx:zp9 [.l adr,.i 8,.i a,.i 1,.l cfg,.i 1,.b false,.i i]=[.l adr,.i 8,.i a,.i 1,.l cfg,.i 1,.b false,.i (i+1)]:=by
     show [DV.l adr,.i 8,.i a,.i 1,.l cfg,.i 1,.b false,.i (IntKind.wrap .i64 (i+1))]=_
     rw [zaH (by omega) (by omega)]
    rw [hx]
    unfold zcF at ih1
    exact ih1
   ·rw [ih2]
    show _=bif hitR cfg adr a i then sayR cfg adr a i else decF (hitR cfg adr a) (sayR cfg adr a) false k (i+1)
    rw [hh]
    rfl
theorem ziQ {cfg adr:List DV} (hcfg:∀ n,R8 (at8 cfg n)) (hadr:∀ n,R64 (at8 adr n)) {a:Int} (h0:0≤a) (h1:a<18446744073709551616):p33 cfg adr 1 1 a 8=true∧zom cfg adr 1 1 a 8=zol cfg adr 1 1 a 8:=by
 rw [zr7 hcfg h0 h1]
 have e:IntKind.wrap .u64 (18446744073709551615-IntKind.wrap .u64 (IntKind.wrap .i64 (8-1)))=18446744073709551608:=by decide
 by_cases h:a≤18446744073709551608
 ·have hd:decide (a>18446744073709551608)=false:=decide_eq_false (by omega)
  obtain ⟨z,r,j,l,q⟩:=zzC hcfg hadr h0 h 8 0 (by decide) rfl
  constructor
  ·have:zqa adr 8 a 1 cfg 1 false 0=true:=by
    show (zcF adr 8 a 1 cfg 1 false 0).isSome=true
    rw [l]
    rfl
   unfold p33
   simp only [this]
   simp [ow]
  ·have z0:zkH adr 8 a 1 cfg 1 false 0=z:=by
    show (dget ((zcF adr 8 a 1 cfg 1 false 0).getD []) 0).toI=z
    rw [l]
    rfl
   have r0:zkI adr 8 a 1 cfg 1 false 0=r:=by
    show (dget ((zcF adr 8 a 1 cfg 1 false 0).getD []) 1).toB=r
    rw [l]
    rfl
   unfold zom
   simp only [e,hd,z0,r0]
   show (true&&(bif !(z==0) then false else r))=_
   rw [q,decide_eq_true h]
 ·have hd:decide (a>18446744073709551608)=true:=decide_eq_true (by omega)
  constructor
  ·unfold p33
   simp only [e,hd]
   simp [ow]
  ·unfold zom
   simp only [e,hd,decide_eq_false h]
   simp
end Go.Proofs.YtedoffkaehcnmaaGreatDoor
namespace Go.Proofs.YtedoffkaehcnmaaGreatDoor
open Go Go.Sx
set_option maxRecDepth 100000
noncomputable def tree {α:Type} (x33 x39 x52 x67 x75 x81 x74 x118 x133 x141 x147 x140 x193 x208 x215 x221:Bool) (no sg f2 p2 v2 f1 p1 v1 f0 p0 v0:α):α :=
 bif !x33 then no else bif !x39 then sg else
 bif !x52 then f2 else bif !x67 then p2 else bif x75 then (bif x81 then v2 else p2) else bif !x74 then p2 else
 bif !x118 then f1 else bif !x133 then p1 else bif x141 then (bif x147 then v1 else p1) else bif !x140 then p1 else
 bif !x193 then f0 else bif !x208 then p0 else bif x215 then (bif x221 then v0 else p0) else p0
noncomputable def pt (t at_ k:Int):Int:=IntKind.wrap .u64 (ishl .u64 t 12+IntKind.wrap .u64 (zaj .u64 (ishr .u64 at_ k) 511*8))
noncomputable def sOn (x25 x21:Int):Bool:=!((x25==3)||(ishr .u64 x21 60 != 8))
noncomputable def sSg (x27:Int):Bool:=!(ishr .i64 (IntKind.wrap .i64 (ishl .u64 x27 25)) 25 != IntKind.wrap .i64 x27)
noncomputable def ckF (x23 x24:List DV) (a:Int):Bool:=!((!zol x23 x24 1 1 a 8)||(!ziu a 8))
noncomputable def okR (v:Bool) (e:Int):Bool:=!((((!v)||(zaj .u64 e 1==0))||(zaj .u64 e 6==4))||(ishr .u64 e 54 != 0))
noncomputable def tbF (e:Int):Int:=zaj .u64 (ishr .u64 e 10) 17592186044415
noncomputable def lfF (e:Int):Bool:=!(zaj .u64 e 10==0)
noncomputable def nbF (e:Int):Bool:=!(zaj .u64 e 208 != 0)
noncomputable def alF (al:Int→Bool) (m e:Int):Bool:=!((!al e)||(zaj .u64 (tbF e) m != 0))
noncomputable def vaF (e o:Int):Int:=IntKind.wrap .u64 (ishl .u64 (tbF e) 12+o)
end Go.Proofs.YtedoffkaehcnmaaGreatDoor
namespace Go.Proofs.YtedoffkaehcnmaaGreatDoor
open Go Go.Sx
set_option maxRecDepth 100000
theorem zvm {α:Type} (x33 x39 x67 x75 x81 x74 x118 x133 x141 x147 x140 x193 x208 x215 x221 y67 y75 y81 y74 y118 y133 y141 y147 y140 y193 y208 y215 y221:Bool) (no sg f2 p2 v2 f1 p1 v1 f0 p0 v0 wp2 wv2 wf1 wp1 wv1 wf0 wp0 wv0:α):tree x33 x39 false x67 x75 x81 x74 x118 x133 x141 x147 x140 x193 x208 x215 x221 no sg f2 p2 v2 f1 p1 v1 f0 p0 v0=tree x33 x39 false y67 y75 y81 y74 y118 y133 y141 y147 y140 y193 y208 y215 y221 no sg f2 wp2 wv2 wf1 wp1 wv1 wf0 wp0 wv0:=by
 all_goals (cases x33<;>try rfl)
 all_goals (cases x39<;>try rfl)
theorem zvn {α:Type} (x33 x39 x52 x67 x75 x81 x74 x133 x141 x147 x140 x193 x208 x215 x221 y133 y141 y147 y140 y193 y208 y215 y221:Bool) (no sg f2 p2 v2 f1 p1 v1 f0 p0 v0 wp1 wv1 wf0 wp0 wv0:α):tree x33 x39 x52 x67 x75 x81 x74 false x133 x141 x147 x140 x193 x208 x215 x221 no sg f2 p2 v2 f1 p1 v1 f0 p0 v0=tree x33 x39 x52 x67 x75 x81 x74 false y133 y141 y147 y140 y193 y208 y215 y221 no sg f2 p2 v2 f1 wp1 wv1 wf0 wp0 wv0:=by
 all_goals (cases x33<;>try rfl)
 all_goals (cases x39<;>try rfl)
 all_goals (cases x52<;>try rfl)
 all_goals (cases x67<;>try rfl)
 all_goals (cases x75<;>try rfl)
 all_goals (cases x81<;>try rfl)
 all_goals (cases x74<;>try rfl)
theorem zvo {α:Type} (x33 x39 x52 x67 x75 x81 x74 x118 x133 x141 x147 x140 x208 x215 x221 y208 y215 y221:Bool) (no sg f2 p2 v2 f1 p1 v1 f0 p0 v0 wp0 wv0:α):tree x33 x39 x52 x67 x75 x81 x74 x118 x133 x141 x147 x140 false x208 x215 x221 no sg f2 p2 v2 f1 p1 v1 f0 p0 v0=tree x33 x39 x52 x67 x75 x81 x74 x118 x133 x141 x147 x140 false y208 y215 y221 no sg f2 p2 v2 f1 p1 v1 f0 wp0 wv0:=by
 all_goals (cases x33<;>try rfl)
 all_goals (cases x39<;>try rfl)
 all_goals (cases x52<;>try rfl)
 all_goals (cases x67<;>try rfl)
 all_goals (cases x75<;>try rfl)
 all_goals (cases x81<;>try rfl)
 all_goals (cases x74<;>try rfl)
 all_goals (cases x118<;>try rfl)
 all_goals (cases x133<;>try rfl)
 all_goals (cases x141<;>try rfl)
 all_goals (cases x147<;>try rfl)
 all_goals (cases x140<;>try rfl)
abbrev WT:Type:=Int×Int×Int×Int×Int
noncomputable def ptq (t q:Int):Int:=IntKind.wrap .u64 (ishl .u64 t 12+IntKind.wrap .u64 (zaj .u64 q 511*8))
noncomputable def WR (ck:Int→Bool) (en:Int→Int) (al:Int→Bool) (pg fl:Int) (on sg:Bool) (t at_ q2 q1 q0 o2 o1 o0:Int):WT :=
 let a2:=ptq t q2
 let e2:=en a2
 let a1:=ptq (tbF e2) q1
 let e1:=en a1
 let a0:=ptq (tbF e1) q0
 let e0:=en a0
 tree on sg (ck a2) (okR true e2) (lfF e2) (alF al 262143 e2) (nbF e2) (ck a1) (okR true e1) (lfF e1) (alF al 511 e1) (nbF e1) (ck a0) (okR true e0) (lfF e0) (alF al 0 e0) (at_,-1,0,0,0) (0,0,0,0,pg) (0,0,0,0,fl) (0,0,0,0,pg) (vaF e2 o2,2,e2,a2,0) (0,0,0,0,fl) (0,0,0,0,pg) (vaF e1 o1,1,e1,a1,0) (0,0,0,0,fl) (0,0,0,0,pg) (vaF e0 o0,0,e0,a0,0)
noncomputable def WA (x0:List DV) (x1 x21:Int) (x23 x24:List DV) (x25 x26 x27:Int):WT:=WR (ckF x23 x24) (ent x0) (zce x1 x25 x26) (ziv x26) (zkl x26) (sOn x25 x21) (sSg x27) (zaj .u64 x21 17592186044415) x27
 (ishr .u64 x27 30) (ishr .u64 x27 21) (ishr .u64 x27 12) (zaj .u64 x27 1073741823) (zaj .u64 x27 2097151) (zaj .u64 x27 4095)
theorem ziR {x23 x24:List DV} {a:Int} (h:ckF x23 x24 a=true):ziu a 8=true:=by
 unfold ckF at h
 cases h2:ziu a 8 with
 | true=>rfl
 | false=>rw [h2] at h;simp at h
theorem zvp (x0:List DV) (x1 x21:Int) (x23 x24:List DV) (x25 x26 x27:Int) (hs:zor x0) (b1 b2 b3:List DV) (a2 a1 a0 e2 e1 e0:Int) (hb1:b1=zot x0 1 a2 8) (hb2:b2=zot b1 1 a1 8) (hb3:b3=zot b2 1 a0 8) (h2:a2=pt (zaj .u64 x21 17592186044415) x27 30) (g2:e2=zos x0 1 a2 8) (h1:a1=pt (tbF e2) x27 21) (g1:e1=zos b1 1 a1 8) (h0:a0=pt (tbF e1) x27 12) (g0:e0=zos b2 1 a0 8) :
  tree (sOn x25 x21) (sSg x27) (ckF x23 x24 a2) (okR (zkU x0 1 a2 8) e2) (lfF e2) (alF (zce x1 x25 x26) 262143 e2) (nbF e2) (ckF x23 x24 a1) (okR (zkU b1 1 a1 8) e1) (lfF e1) (alF (zce x1 x25 x26) 511 e1) (nbF e1) (ckF x23 x24 a0) (okR (zkU b2 1 a0 8) e0) (lfF e0) (alF (zce x1 x25 x26) 0 e0) (x27,-1,0,0,0) (0,0,0,0,ziv x26) (0,0,0,0,zkl x26) (0,0,0,0,ziv x26) (vaF e2 (zaj .u64 x27 1073741823),2,e2,a2,0) (0,0,0,0,zkl x26) (0,0,0,0,ziv x26) (vaF e1 (zaj .u64 x27 2097151),1,e1,a1,0) (0,0,0,0,zkl x26) (0,0,0,0,ziv x26) (vaF e0 (zaj .u64 x27 4095),0,e0,a0,0)=WA x0 x1 x21 x23 x24 x25 x26 x27∧tree (sOn x25 x21) (sSg x27) (ckF x23 x24 a2) (okR (zkU x0 1 a2 8) e2) (lfF e2) (alF (zce x1 x25 x26) 262143 e2) (nbF e2) (ckF x23 x24 a1) (okR (zkU b1 1 a1 8) e1) (lfF e1) (alF (zce x1 x25 x26) 511 e1) (nbF e1) (ckF x23 x24 a0) (okR (zkU b2 1 a0 8) e0) (lfF e0) (alF (zce x1 x25 x26) 0 e0) x0 x0 x0 b1 b1 b1 b2 b2 b2 b3 b3=x0:=by
 unfold WA WR
 extract_lets -merge c2 d2 c1 d1 c0 d0
 have k2:a2=c2:=h2
 have l2:e2=d2:=by rw [g2,k2];rfl
 have k1:a1=c1:=by rw [h1,l2];rfl
 clear_value c2 d2 c1
 subst k2 l2 k1
 cases q2:ckF x23 x24 a2 with
 | false =>
  refine ⟨zvm ..,?_⟩
  cases sOn x25 x21<;>cases sSg x27<;>rfl
 | true =>
  obtain ⟨_,r2,s2⟩:=zne x0 a2 (ziR q2)
  have hb1:b1=x0:=hb1.trans (s2 hs)
  subst hb1
  have l1:e1=d1:=g1
  have k0:a0=c0:=by rw [h0,l1];rfl
  clear_value d1 c0
  subst l1 k0
  rw [r2]
  cases q1:ckF x23 x24 a1 with
  | false =>
   refine ⟨zvn ..,?_⟩
   generalize sOn x25 x21=u1
   generalize sSg x27=u2
   generalize okR true e2=u3
   generalize lfF e2=u4
   generalize alF (zce x1 x25 x26) 262143 e2=u5
   generalize nbF e2=u6
   cases u1<;>cases u2<;>cases u3<;>cases u4<;>cases u5<;>cases u6<;>rfl
  | true =>
   obtain ⟨_,r1,s1⟩:=zne b1 a1 (ziR q1)
   have hb2:b2=b1:=hb2.trans (s1 hs)
   subst hb2
   have l0:e0=d0:=g0
   clear_value d0
   subst l0
   rw [r1]
   cases q0:ckF x23 x24 a0 with
   | false =>
    refine ⟨zvo ..,?_⟩
    generalize sOn x25 x21=u1
    generalize sSg x27=u2
    generalize okR true e2=u3
    generalize lfF e2=u4
    generalize alF (zce x1 x25 x26) 262143 e2=u5
    generalize nbF e2=u6
    generalize okR true e1=u7
    generalize lfF e1=u8
    generalize alF (zce x1 x25 x26) 511 e1=u9
    generalize nbF e1=u10
    cases u1<;>try rfl
    all_goals (cases u2<;>try rfl)
    all_goals (cases u3<;>try rfl)
    all_goals (cases u4<;>try rfl)
    all_goals (cases u5<;>try rfl)
    all_goals (cases u6<;>try rfl)
    all_goals (cases u7<;>try rfl)
    all_goals (cases u8<;>try rfl)
    all_goals (cases u9<;>try rfl)
    all_goals (cases u10<;>try rfl)
   | true =>
    obtain ⟨_,r0,s0⟩:=zne b2 a0 (ziR q0)
    have hb3:b3=b2:=hb3.trans (s0 hs)
    subst hb3
    rw [r0]
    refine ⟨rfl,?_⟩
    generalize sOn x25 x21=u1
    generalize sSg x27=u2
    generalize okR true e2=u3
    generalize lfF e2=u4
    generalize alF (zce x1 x25 x26) 262143 e2=u5
    generalize nbF e2=u6
    generalize okR true e1=u7
    generalize lfF e1=u8
    generalize alF (zce x1 x25 x26) 511 e1=u9
    generalize nbF e1=u10
    generalize okR true e0=u11
    generalize lfF e0=u12
    generalize alF (zce x1 x25 x26) 0 e0=u13
    cases u1<;>try rfl
    all_goals (cases u2<;>try rfl)
    all_goals (cases u3<;>try rfl)
    all_goals (cases u4<;>try rfl)
    all_goals (cases u5<;>try rfl)
    all_goals (cases u6<;>try rfl)
    all_goals (cases u7<;>try rfl)
    all_goals (cases u8<;>try rfl)
    all_goals (cases u9<;>try rfl)
    all_goals (cases u10<;>try rfl)
    all_goals (cases u11<;>try rfl)
    all_goals (cases u12<;>try rfl)
    all_goals (cases u13<;>try rfl)
theorem zqk {c x:Bool} (l:List (Bool×Bool)) (h:c=true→x=true):ow (l++[(c,true)]) x=true:=by
 cases c with
 | true=>rw [h rfl];unfold ow;simp
 | false=>unfold ow;simp
noncomputable def T7 (x33 x39 x52 x67 x75 x81 x74 x118 x133 x141 x147 x140 x193 x208 x215 x221:Bool) (x27 x84 x150 x224 x54 x120 x195 x44 x110 x185 pg fl:Int):WT :=
 let x85:=!x81
 let x86:=!x74
 let x87:=bif x75 then x85 else x86
 let x88:=bif x67 then x87 else true
 let x89:=x52&&x88
 let x90:=bif x39 then x89 else true
 let x91:=x33&&x90
 let x102:=!x75
 let x103:=x52&&x102
 let x104:=x33&&x103
 let x105:=bif x91 then false else x104
 let x151:=!x147
 let x152:=!x140
 let x153:=bif x141 then x151 else x152
 let x154:=bif x133 then x153 else true
 let x155:=x118&&x154
 let x156:=x105&&x155
 let x177:=!x141
 let x178:=x118&&x177
 let x179:=x105&&x178
 let x180:=bif x156 then false else x179
 let x225:=!x221
 let x226:=bif x215 then x225 else true
 let x227:=bif x208 then x226 else true
 let x228:=x193&&x227
 let x229:=x180&&x228
 let x248:=bif x193 then x224 else 0
 let x249:=bif x193 then x195 else 0
 let x250:=bif x193 then x185 else 0
 let x251:=bif x193 then 0 else fl
 let x256:=bif x118 then x150 else 0
 let x257:Int:=bif x118 then 1 else 0
 let x258:=bif x118 then x120 else 0
 let x259:=bif x118 then x110 else 0
 let x260:=bif x118 then 0 else fl
 let x266:=bif x52 then x84 else 0
 let x267:Int:=bif x52 then 2 else 0
 let x268:=bif x52 then x54 else 0
 let x269:=bif x52 then x44 else 0
 let x270:=bif x52 then 0 else fl
 let x276:=bif x33 then x266 else x27
 let x277:=bif x33 then x267 else (-1)
 let x278:=bif x33 then x268 else 0
 let x279:=bif x33 then x269 else 0
 let x280:=bif x33 then x270 else 0
 let x286:=bif x91 then 0 else x276
 let x287:=bif x91 then 0 else x277
 let x288:=bif x91 then 0 else x278
 let x289:=bif x91 then 0 else x279
 let x290:=bif x91 then pg else x280
 let x296:=bif x105 then x256 else x286
 let x297:=bif x105 then x257 else x287
 let x298:=bif x105 then x258 else x288
 let x299:=bif x105 then x259 else x289
 let x300:=bif x105 then x260 else x290
 let x306:=bif x156 then 0 else x296
 let x307:=bif x156 then 0 else x297
 let x308:=bif x156 then 0 else x298
 let x309:=bif x156 then 0 else x299
 let x310:=bif x156 then pg else x300
 let x316:=bif x180 then x248 else x306
 let x317:=bif x180 then 0 else x307
 let x318:=bif x180 then x249 else x308
 let x319:=bif x180 then x250 else x309
 let x320:=bif x180 then x251 else x310
 let x326:=bif x229 then 0 else x316
 let x327:=bif x229 then 0 else x317
 let x328:=bif x229 then 0 else x318
 let x329:=bif x229 then 0 else x319
 let x330:=bif x229 then pg else x320
 (x326,x327,x328,x329,x330)
theorem tw7 (x33 x39 x52 x67 x75 x81 x74 x118 x133 x141 x147 x140 x193 x208 x215 x221:Bool) (x27 x84 x150 x224 x54 x120 x195 x44 x110 x185 pg fl:Int):T7 x33 x39 x52 x67 x75 x81 x74 x118 x133 x141 x147 x140 x193 x208 x215 x221 x27 x84 x150 x224 x54 x120 x195 x44 x110 x185 pg fl=tree x33 x39 x52 x67 x75 x81 x74 x118 x133 x141 x147 x140 x193 x208 x215 x221 (x27,-1,0,0,0) (0,0,0,0,pg) (0,0,0,0,fl) (0,0,0,0,pg) (x84,2,x54,x44,0) (0,0,0,0,fl) (0,0,0,0,pg) (x150,1,x120,x110,0) (0,0,0,0,fl) (0,0,0,0,pg) (x224,0,x195,x185,0):=by
 all_goals (cases x33<;>try rfl)
 all_goals (cases x39<;>try rfl)
 all_goals (cases x52<;>try rfl)
 all_goals (cases x67<;>try rfl)
 all_goals (cases x75<;>try rfl)
 all_goals (cases x81<;>try rfl)
 all_goals (cases x74<;>try rfl)
 all_goals (cases x118<;>try rfl)
 all_goals (cases x133<;>try rfl)
 all_goals (cases x141<;>try rfl)
 all_goals (cases x147<;>try rfl)
 all_goals (cases x140<;>try rfl)
 all_goals (cases x193<;>try rfl)
 all_goals (cases x208<;>try rfl)
 all_goals (cases x215<;>try rfl)
 all_goals (cases x221<;>try rfl)
noncomputable def T7s (x33 x39 x52 x67 x75 x81 x74 x118 x133 x141 x147 x140 x193 x208 x215 x221:Bool) (x0 x56 x122 x197:List DV):List DV :=
 let x85:=!x81
 let x86:=!x74
 let x87:=bif x75 then x85 else x86
 let x88:=bif x67 then x87 else true
 let x89:=x52&&x88
 let x90:=bif x39 then x89 else true
 let x91:=x33&&x90
 let x100:=bif x39 then x56 else x0
 let x102:=!x75
 let x103:=x52&&x102
 let x104:=x33&&x103
 let x105:=bif x91 then false else x104
 let x151:=!x147
 let x152:=!x140
 let x153:=bif x141 then x151 else x152
 let x154:=bif x133 then x153 else true
 let x155:=x118&&x154
 let x156:=x105&&x155
 let x177:=!x141
 let x178:=x118&&x177
 let x179:=x105&&x178
 let x180:=bif x156 then false else x179
 let x225:=!x221
 let x226:=bif x215 then x225 else true
 let x227:=bif x208 then x226 else true
 let x228:=x193&&x227
 let x229:=x180&&x228
 let x252:=bif x193 then x197 else x122
 let x261:=bif x118 then x122 else x56
 let x271:=bif x52 then x56 else x0
 let x281:=bif x33 then x271 else x0
 let x291:=bif x91 then x100 else x281
 let x301:=bif x105 then x261 else x291
 let x311:=bif x156 then x122 else x301
 let x321:=bif x180 then x252 else x311
 let x331:=bif x229 then x197 else x321
 x331
theorem tw7s (x33 x39 x52 x67 x75 x81 x74 x118 x133 x141 x147 x140 x193 x208 x215 x221:Bool) (x0 x56 x122 x197:List DV):T7s x33 x39 x52 x67 x75 x81 x74 x118 x133 x141 x147 x140 x193 x208 x215 x221 x0 x56 x122 x197=tree x33 x39 x52 x67 x75 x81 x74 x118 x133 x141 x147 x140 x193 x208 x215 x221 x0 x0 x0 x56 x56 x56 x122 x122 x122 x197 x197:=by
 all_goals (cases x33<;>try rfl)
 all_goals (cases x39<;>try rfl)
 all_goals (cases x52<;>try rfl)
 all_goals (cases x67<;>try rfl)
 all_goals (cases x75<;>try rfl)
 all_goals (cases x81<;>try rfl)
 all_goals (cases x74<;>try rfl)
 all_goals (cases x118<;>try rfl)
 all_goals (cases x133<;>try rfl)
 all_goals (cases x141<;>try rfl)
 all_goals (cases x147<;>try rfl)
 all_goals (cases x140<;>try rfl)
 all_goals (cases x193<;>try rfl)
 all_goals (cases x208<;>try rfl)
 all_goals (cases x215<;>try rfl)
 all_goals (cases x221<;>try rfl)
noncomputable def N7 (x0:List DV) (x1:Int) (x21:Int) (x23:List DV) (x24:List DV) (x25:Int) (x26:Int) (x27:Int):List DV :=
 let x28:=zaj .u64 x21 17592186044415
 let x29:=x25==3
 let x30:=ishr .u64 x21 60
 let x31:=x30 != 8
 let x32:=x29||x31
 let x33:=!x32
 let x34:=ishl .u64 x27 25
 let x35:=IntKind.wrap .i64 x34
 let x36:=ishr .i64 x35 25
 let x37:=IntKind.wrap .i64 x27
 let x38:=x36 != x37
 let x39:=!x38
 let x40:=ishl .u64 x28 12
 let x41:=ishr .u64 x27 30
 let x42:=zaj .u64 x41 511
 let x43:=IntKind.wrap .u64 (x42*8)
 let x44:=IntKind.wrap .u64 (x40+x43)
 let x45:=p26 x23 x24 1 x44 8
 let x46:=zol x23 x24 1 1 x44 8
 let x47:=!x46
 let x48:=ziu x44 8
 let x49:=!x48
 let x50:=x47||x49
 let x51:=zkl x26
 let x52:=!x50
 let x53:=p29 x0 1 x44 8
 let x54:=zos x0 1 x44 8
 let x55:=zkU x0 1 x44 8
 let x56:=zot x0 1 x44 8
 let x57:=!x55
 let x58:=zaj .u64 x54 1
 let x59:=x58==0
 let x60:=x57||x59
 let x61:=zaj .u64 x54 6
 let x62:=x61==4
 let x63:=x60||x62
 let x64:=ishr .u64 x54 54
 let x65:=x64 != 0
 let x66:=x63||x65
 let x67:=!x66
 let x68:=ishr .u64 x54 10
 let x69:=zaj .u64 x68 17592186044415
 let x70:=zaj .u64 x54 10
 let x71:=x70==0
 let x72:=zaj .u64 x54 208
 let x73:=x72 != 0
 let x74:=!x73
 let x75:=!x71
 let x76:=zce x1 x25 x26 x54
 let x77:=!x76
 let x78:=zaj .u64 x69 262143
 let x79:=x78 != 0
 let x80:=x77||x79
 let x81:=!x80
 let x82:=ishl .u64 x69 12
 let x83:=zaj .u64 x27 1073741823
 let x84:=IntKind.wrap .u64 (x82+x83)
 let x85:=!x81
 let x86:=!x74
 let x87:=bif x75 then x85 else x86
 let x88:=bif x67 then x87 else true
 let x89:=x52&&x88
 let x90:=bif x39 then x89 else true
 let x91:=x33&&x90
 let x100:=bif x39 then x56 else x0
 let x101:=ziv x26
 let x102:=!x75
 let x103:=x52&&x102
 let x104:=x33&&x103
 let x105:=bif x91 then false else x104
 let x106:=ishl .u64 x69 12
 let x107:=ishr .u64 x27 21
 let x108:=zaj .u64 x107 511
 let x109:=IntKind.wrap .u64 (x108*8)
 let x110:=IntKind.wrap .u64 (x106+x109)
 let x111:=p26 x23 x24 1 x110 8
 let x112:=zol x23 x24 1 1 x110 8
 let x113:=!x112
 let x114:=ziu x110 8
 let x115:=!x114
 let x116:=x113||x115
 let x117:=zkl x26
 let x118:=!x116
 let x119:=p29 x56 1 x110 8
 let x120:=zos x56 1 x110 8
 let x121:=zkU x56 1 x110 8
 let x122:=zot x56 1 x110 8
 let x123:=!x121
 let x124:=zaj .u64 x120 1
 let x125:=x124==0
 let x126:=x123||x125
 let x127:=zaj .u64 x120 6
 let x128:=x127==4
 let x129:=x126||x128
 let x130:=ishr .u64 x120 54
 let x131:=x130 != 0
 let x132:=x129||x131
 let x133:=!x132
 let x134:=ishr .u64 x120 10
 let x135:=zaj .u64 x134 17592186044415
 let x136:=zaj .u64 x120 10
 let x137:=x136==0
 let x138:=zaj .u64 x120 208
 let x139:=x138 != 0
 let x140:=!x139
 let x141:=!x137
 let x142:=zce x1 x25 x26 x120
 let x143:=!x142
 let x144:=zaj .u64 x135 511
 let x145:=x144 != 0
 let x146:=x143||x145
 let x147:=!x146
 let x148:=ishl .u64 x135 12
 let x149:=zaj .u64 x27 2097151
 let x150:=IntKind.wrap .u64 (x148+x149)
 let x151:=!x147
 let x152:=!x140
 let x153:=bif x141 then x151 else x152
 let x154:=bif x133 then x153 else true
 let x155:=x118&&x154
 let x156:=x105&&x155
 let x176:=ziv x26
 let x177:=!x141
 let x178:=x118&&x177
 let x179:=x105&&x178
 let x180:=bif x156 then false else x179
 let x181:=ishl .u64 x135 12
 let x182:=ishr .u64 x27 12
 let x183:=zaj .u64 x182 511
 let x184:=IntKind.wrap .u64 (x183*8)
 let x185:=IntKind.wrap .u64 (x181+x184)
 let x186:=p26 x23 x24 1 x185 8
 let x187:=zol x23 x24 1 1 x185 8
 let x188:=!x187
 let x189:=ziu x185 8
 let x190:=!x189
 let x191:=x188||x190
 let x192:=zkl x26
 let x193:=!x191
 let x194:=p29 x122 1 x185 8
 let x195:=zos x122 1 x185 8
 let x196:=zkU x122 1 x185 8
 let x197:=zot x122 1 x185 8
 let x198:=!x196
 let x199:=zaj .u64 x195 1
 let x200:=x199==0
 let x201:=x198||x200
 let x202:=zaj .u64 x195 6
 let x203:=x202==4
 let x204:=x201||x203
 let x205:=ishr .u64 x195 54
 let x206:=x205 != 0
 let x207:=x204||x206
 let x208:=!x207
 let x209:=ishr .u64 x195 10
 let x210:=zaj .u64 x209 17592186044415
 let x211:=zaj .u64 x195 10
 let x212:=x211==0
 let x215:=!x212
 let x216:=zce x1 x25 x26 x195
 let x217:=!x216
 let x218:=zaj .u64 x210 0
 let x219:=x218 != 0
 let x220:=x217||x219
 let x221:=!x220
 let x222:=ishl .u64 x210 12
 let x223:=zaj .u64 x27 4095
 let x224:=IntKind.wrap .u64 (x222+x223)
 let x225:=!x221
 let x226:=bif x215 then x225 else true
 let x227:=bif x208 then x226 else true
 let x228:=x193&&x227
 let x229:=x180&&x228
 let x247:=ziv x26
 let x248:=bif x193 then x224 else 0
 let x249:=bif x193 then x195 else 0
 let x250:=bif x193 then x185 else 0
 let x251:=bif x193 then 0 else x192
 let x252:=bif x193 then x197 else x122
 let x256:=bif x118 then x150 else 0
 let x257:Int:=bif x118 then 1 else 0
 let x258:=bif x118 then x120 else 0
 let x259:=bif x118 then x110 else 0
 let x260:=bif x118 then 0 else x117
 let x261:=bif x118 then x122 else x56
 let x266:=bif x52 then x84 else 0
 let x267:Int:=bif x52 then 2 else 0
 let x268:=bif x52 then x54 else 0
 let x269:=bif x52 then x44 else 0
 let x270:=bif x52 then 0 else x51
 let x271:=bif x52 then x56 else x0
 let x276:=bif x33 then x266 else x27
 let x277:=bif x33 then x267 else (-1)
 let x278:=bif x33 then x268 else 0
 let x279:=bif x33 then x269 else 0
 let x280:=bif x33 then x270 else 0
 let x281:=bif x33 then x271 else x0
 let x286:=bif x91 then 0 else x276
 let x287:=bif x91 then 0 else x277
 let x288:=bif x91 then 0 else x278
 let x289:=bif x91 then 0 else x279
 let x290:=bif x91 then x101 else x280
 let x291:=bif x91 then x100 else x281
 let x296:=bif x105 then x256 else x286
 let x297:=bif x105 then x257 else x287
 let x298:=bif x105 then x258 else x288
 let x299:=bif x105 then x259 else x289
 let x300:=bif x105 then x260 else x290
 let x301:=bif x105 then x261 else x291
 let x306:=bif x156 then 0 else x296
 let x307:=bif x156 then 0 else x297
 let x308:=bif x156 then 0 else x298
 let x309:=bif x156 then 0 else x299
 let x310:=bif x156 then x176 else x300
 let x311:=bif x156 then x122 else x301
 let x316:=bif x180 then x248 else x306
 let x317:=bif x180 then 0 else x307
 let x318:=bif x180 then x249 else x308
 let x319:=bif x180 then x250 else x309
 let x320:=bif x180 then x251 else x310
 let x321:=bif x180 then x252 else x311
 let x326:=bif x229 then 0 else x316
 let x327:=bif x229 then 0 else x317
 let x328:=bif x229 then 0 else x318
 let x329:=bif x229 then 0 else x319
 let x330:=bif x229 then x247 else x320
 let x331:=bif x229 then x197 else x321
 [.b ((ow [(x33,true),(x39,true)] x45::ow [(x33,true),(x39,true),(x52,true)] x53::ow [(x105,true)] x111::ow [(x105,true),(x118,true)] x119::ow [(x180,true)] x186::ow [(x180,true),(x193,true)] x194::[]).all id),.i x326,.i x327,.i x328,.i x329,.i x330,.l x331]
theorem zzD (x0:List DV) (x1:Int) (x2:Int) (x3:Int) (x4:Int) (x5:Int) (x6:Int) (x7:Int) (x8:Int) (x9:Int) (x10:Int) (x11:Int) (x12:Int) (x13:Int) (x14:Int) (x15:Int) (x16:Int) (x17:Int) (x18:Int) (x19:Int) (x20:Int) (x21:Int) (x22:Int) (x23:List DV) (x24:List DV) (x25:Int) (x26:Int) (x27:Int):g7 [.l x0,.i x1,.i x2,.i x3,.i x4,.i x5,.i x6,.i x7,.i x8,.i x9,.i x10,.i x11,.i x12,.i x13,.i x14,.i x15,.i x16,.i x17,.i x18,.i x19,.i x20,.i x21,.i x22,.l x23,.l x24,.i x25,.i x26,.i x27]=N7 x0 x1 x21 x23 x24 x25 x26 x27:=by kernel_rfl
theorem zAq (x0:List DV) (x1 x21:Int) (x23 x24:List DV) (x25 x26 x27:Int) (hs:zor x0):N7 x0 x1 x21 x23 x24 x25 x26 x27=[.b true,.i (WA x0 x1 x21 x23 x24 x25 x26 x27).1,.i (WA x0 x1 x21 x23 x24 x25 x26 x27).2.1,.i (WA x0 x1 x21 x23 x24 x25 x26 x27).2.2.1,.i (WA x0 x1 x21 x23 x24 x25 x26 x27).2.2.2.1,.i (WA x0 x1 x21 x23 x24 x25 x26 x27).2.2.2.2,.l x0]:=by
 unfold N7
 extract_lets -merge x28 x29 x30 x31 x32 x33 x34 x35 x36 x37 x38 x39 x40 x41 x42 x43 x44 x45 x46 x47 x48 x49 x50 x51 x52 x53 x54 x55 x56 x57 x58 x59 x60 x61 x62 x63 x64 x65 x66 x67 x68 x69 x70 x71 x72 x73 x74 x75 x76 x77 x78 x79 x80 x81 x82 x83 x84 x85 x86 x87 x88 x89 x90 x91 x100 x101 x102 x103 x104 x105 x106 x107 x108 x109 x110 x111 x112 x113 x114 x115 x116 x117 x118 x119 x120 x121 x122 x123 x124 x125 x126 x127 x128 x129 x130 x131 x132 x133 x134 x135 x136 x137 x138 x139 x140 x141 x142 x143 x144 x145 x146 x147 x148 x149 x150 x151 x152 x153 x154 x155 x156 x176 x177 x178 x179 x180 x181 x182 x183 x184 x185 x186 x187 x188 x189 x190 x191 x192 x193 x194 x195 x196 x197 x198 x199 x200 x201 x202 x203 x204 x205 x206 x207 x208 x209 x210 x211 x212 x215 x216 x217 x218 x219 x220 x221 x222 x223 x224 x225 x226 x227 x228 x229 x247 x248 x249 x250 x251 x252 x256 x257 x258 x259 x260 x261 x266 x267 x268 x269 x270 x271 x276 x277 x278 x279 x280 x281 x286 x287 x288 x289 x290 x291 x296 x297 x298 x299 x300 x301 x306 x307 x308 x309 x310 x311 x316 x317 x318 x319 x320 x321 x326 x327 x328 x329 x330 x331
 obtain ⟨t,s⟩:=zvp x0 x1 x21 x23 x24 x25 x26 x27 hs x56 x122 x197 x44 x110 x185 x54 x120 x195 rfl rfl rfl rfl rfl rfl rfl rfl rfl
 have hT:(x326,x327,x328,x329,x330)=WA x0 x1 x21 x23 x24 x25 x26 x27:=(show (x326,x327,x328,x329,x330)=T7 x33 x39 x52 x67 x75 x81 x74 x118 x133 x141 x147 x140 x193 x208 x215 x221 x27 x84 x150 x224 x54 x120 x195 x44 x110 x185 (ziv x26) (zkl x26) from rfl).trans ((tw7 ..).trans t)
 have hS:x331=x0:=(show x331=T7s x33 x39 x52 x67 x75 x81 x74 x118 x133 x141 x147 x140 x193 x208 x215 x221 x0 x56 x122 x197 from rfl).trans ((tw7s ..).trans s)
 rw [←hT,hS]
 have k:∀ (u:Bool) (b:List DV) (a:Int),(!(u||(!ziu a 8)))=true→p29 b 1 a 8=true:=fun u b a h=>by
  cases h2:ziu a 8 with
  | true=>exact (zne b a h2).1
  | false=>rw [h2] at h;simp at h
 have u45:x45=true:=zve ..
 have u111:x111=true:=zve ..
 have u186:x186=true:=zve ..
 have u53:ow [(x33,true),(x39,true),(x52,true)] x53=true:=zqk [(x33,true),(x39,true)] (k _ _ _)
 have u119:ow [(x105,true),(x118,true)] x119=true:=zqk [(x105,true)] (k _ _ _)
 have u194:ow [(x180,true),(x193,true)] x194=true:=zqk [(x180,true)] (k _ _ _)
 simp only [List.all_cons,List.all_nil,id_eq,zam u45,zam u111,zam u186,u53,u119,u194,Bool.and_self]
end Go.Proofs.YtedoffkaehcnmaaGreatDoor
namespace Go.Proofs.YtedoffkaehcnmaaGreatDoor
open Go Go.Sx
set_option maxRecDepth 100000
theorem zhk {a m:Int} (h0:0≤a) (h1:a<18446744073709551616) (k:Nat) (hk:k<64) (hm:m=((2^k:Nat):Int)):(zaj .u64 a m != 0)=zaD a (k:Int):=by
 have hp:0<m:=by rw [hm];exact Int.natCast_pos.2 (Nat.two_pow_pos k)
 have hs:ishr .u64 a (k:Int)=a/m:=zfR k (by omega) hm
 have hq0:0≤a/m:=Int.ediv_nonneg h0 (by omega)
 have hq1:a/m<18446744073709551616:=Int.lt_of_le_of_lt (Int.ediv_le_self m h0) h1
 have h2:zaj .u64 (a/m) 1=a/m%2:=zbF hq0 hq1 1 (by decide) rfl rfl
 unfold zaD
 simp only [hs,h2]
 rw [zwi h0 h1 k hk hm]
 rcases Int.emod_two_eq (a/m) with h | h
 ·rw [h];simp
 ·rw [h,Int.mul_one]
  have:m≠0:=by omega
  simp [this]
theorem zzE {a m:Int} (h0:0≤a) (h1:a<18446744073709551616) (k:Nat) (hk:k<64) (hm:m=((2^k:Nat):Int)):(zaj .u64 a m==0) = !zaD a (k:Int):=by
 rw [←zhk h0 h1 k hk hm]
 cases h:zaj .u64 a m==0
 ·simp [bne,h]
 ·simp [bne,h]
theorem zr8 (x0 x24 x25 x26:Int) (h0:0≤x0) (h1:x0<18446744073709551616) (h2:0≤x26) (h3:x26<18446744073709551616):p38=true∧zce x0 x24 x25 x26=zld x0 x24 x25 x26:=by
 constructor
 ·unfold p38
  simp [ow,zbG]
 ·have b1:(zaj .u64 x26 2 != 0)=zaD x26 1:=zhk h2 h3 1 (by decide) rfl
  have b2:(zaj .u64 x26 4 != 0)=zaD x26 2:=zhk h2 h3 2 (by decide) rfl
  have b3:(zaj .u64 x26 8 != 0)=zaD x26 3:=zhk h2 h3 3 (by decide) rfl
  have b4:(zaj .u64 x26 16 != 0)=zaD x26 4:=zhk h2 h3 4 (by decide) rfl
  have b4n:(zaj .u64 x26 16==0) = !zaD x26 4:=zzE h2 h3 4 (by decide) rfl
  have b6:(zaj .u64 x26 64 != 0)=zaD x26 6:=zhk h2 h3 6 (by decide) rfl
  have b7:(zaj .u64 x26 128 != 0)=zaD x26 7:=zhk h2 h3 7 (by decide) rfl
  have c18:(zaj .u64 x0 262144 != 0)=zaD x0 18:=zhk h0 h1 18 (by decide) rfl
  have c19:(zaj .u64 x0 524288 != 0)=zaD x0 19:=zhk h0 h1 19 (by decide) rfl
  unfold zce zld
  simp only [b1,b2,b3,b4,b4n,b6,b7,c18,c19]
  generalize zaD x26 1=r
  generalize zaD x26 2=w
  generalize zaD x26 3=x
  generalize zaD x26 4=u
  generalize zaD x26 6=a
  generalize zaD x26 7=d
  generalize zaD x0 18=sm
  generalize zaD x0 19=mx
  by_cases k0:x25=0
  ·subst k0
   generalize (x24==1)=s
   simp
   cases x<;>cases u<;>cases a<;>cases s<;>rfl
  ·by_cases k2:x25=2
   ·subst k2
    generalize (x24==1)=s
    simp
    cases w<;>cases d<;>cases u<;>cases a<;>cases s<;>cases sm<;>rfl
   ·by_cases k3:x25=3
    ·subst k3
     generalize (x24==1)=s
     simp
     cases r<;>cases w<;>cases d<;>cases u<;>cases a<;>cases s<;>cases sm<;>rfl
    ·generalize (x24==1)=s
     have q0:(x25==0)=false:=by simpa using k0
     have q2:(x25==2)=false:=by simpa using k2
     have q3:(x25==3)=false:=by simpa using k3
     simp only [bne,q0,q2,q3,cond_false]
     cases r<;>cases x<;>cases mx<;>cases u<;>cases a<;>cases s<;>cases sm<;>cases d<;>rfl
theorem zvq (x:Int):ishl .u64 x 12=IntKind.u64.wrap (x*4096):=by
 unfold ishl
 show IntKind.u64.wrap (x*2^12)=_
 rfl
theorem zyd (x:Int):ishl .u64 x 25=IntKind.u64.wrap (x*33554432):=by
 unfold ishl
 show IntKind.u64.wrap (x*2^25)=_
 rfl
theorem zAr (e:Int):0≤tbF e∧tbF e<17592186044416:=by
 show 0≤IntKind.wrap .u64 ((BitVec.ofInt 64 (ishr .u64 e 10) &&& BitVec.ofInt 64 17592186044415).toNat:Int)∧IntKind.wrap .u64 ((BitVec.ofInt 64 (ishr .u64 e 10) &&& BitVec.ofInt 64 17592186044415).toNat:Int)<_
 rw [BitVec.toNat_and,zaB]
 have:(BitVec.ofInt 64 (ishr .u64 e 10)).toNat &&& (BitVec.ofInt 64 17592186044415).toNat≤17592186044415:=Nat.and_le_right
 omega
theorem zAs {x:Int} (h0:0≤x) (h1:x<18446744073709551616):sSg x=(decide (x/274877906944=0)||decide (x/274877906944=67108863)):=by
 unfold sSg
 rw [zyd]
 have e:ishr .i64 (IntKind.wrap .i64 (IntKind.u64.wrap (x*33554432))) 25=IntKind.wrap .i64 (IntKind.u64.wrap (x*33554432))/33554432:=by
  show Int.fdiv _ (2^25)=_
  exact Int.fdiv_eq_ediv_of_nonneg _ (by decide)
 rw [e]
 have hb:(!(IntKind.wrap .i64 (IntKind.u64.wrap (x*33554432))/33554432 != IntKind.wrap .i64 x))=decide (IntKind.wrap .i64 (IntKind.u64.wrap (x*33554432))/33554432=IntKind.wrap .i64 x):=by
  simp [bne,ibeq]
 rw [hb,zaB,wrap_i64,wrap_i64,←Bool.decide_or]
 apply decide_eq_decide.2
 have hm:x%18446744073709551616=x:=Int.emod_eq_of_lt h0 h1
 rw [hm,Int.emod_emod_of_dvd _ (Int.dvd_refl _)]
 have hx:x*33554432%18446744073709551616=x%549755813888*33554432:=by omega
 rw [hx]
 split<;>split<;>omega
theorem sh30 (x:Int):ishr .u64 x 30=x/1073741824:=zfR 30 (by decide) rfl
theorem sh21 (x:Int):ishr .u64 x 21=x/2097152:=zfR 21 (by decide) rfl
theorem sh12 (x:Int):ishr .u64 x 12=x/4096:=zfR 12 (by decide) rfl
theorem ziS {e c:Int} (h0:0≤e) (h1:e<18446744073709551616) (c0:0≤c) (c1:c<1024):zaj .u64 e c=zaj .u64 (e%1024) c:=by
 obtain ⟨n,rfl⟩:=zgo h0
 obtain ⟨d,rfl⟩:=zgo c0
 rw [show ((n:Int)%1024)=((n%1024:Nat):Int) from rfl,znd (by omega) (by omega),znd (by omega) (by omega)]
 have:=zoq (k:=10) (r:=n%2^10) (s:=d) (mod_lt n 10) (by omega) (n/2^10) 0
 rw [zrd,Nat.mul_zero,Nat.zero_add,Nat.and_zero,Nat.mul_zero,Nat.zero_add] at this
 rw [this]
theorem zye {e:Int} (_h:0≤e):∃ r:Fin 1024,e%1024=((r.val:Nat):Int):=⟨⟨(e%1024).toNat,by omega⟩,by show _=(((e%1024).toNat:Nat):Int);omega⟩
theorem zzF (x:Int):zaj .u64 x 0=0:=by
 show IntKind.wrap .u64 ((BitVec.ofInt 64 x &&& BitVec.ofInt 64 0).toNat:Int)=0
 rw [show BitVec.ofInt 64 0=0#64 from rfl,BitVec.and_zero]
 rfl
end Go.Proofs.YtedoffkaehcnmaaGreatDoor
namespace Go.Proofs.YtedoffkaehcnmaaGreatDoor
open Go Go.Sx
set_option maxRecDepth 100000
noncomputable def N8 (x0:List DV) (x1:Int) (x21:Int) (x23:List DV) (x24:List DV) (x25:Int) (x26:Int) (x27:Int):List DV :=
 let x28:List DV:=(x0.getD (Int.toNat 0*1+0) default).toL
 let x36:=x25==3
 let x37:=p31 x21 63 60
 let x38:=zes x21 63 60
 let x39:=x38 != 8
 let x40:=x36||x39
 let x41:=!x40
 let x42:=p31 x27 63 38
 let x43:=zes x27 63 38
 let x44:=x43 != 0
 let x45:=x43 != 67108863
 let x46:=x44&&x45
 let x47:=zdB x26
 let x48:=!x46
 let x49:=p31 x21 43 0
 let x50:=zes x21 43 0
 let x51:=IntKind.wrap .u64 (4096*x50)
 let x52:=p31 x27 38 30
 let x53:=zes x27 38 30
 let x54:=IntKind.wrap .u64 (8*x53)
 let x55:=IntKind.wrap .u64 (x51+x54)
 let x56:=p33 x23 x24 1 1 x55 8
 let x57:=zom x23 x24 1 1 x55 8
 let x59:=zr5 x55 8
 let x60:=!x57
 let x61:=!x59
 let x62:=x60||x61
 let x63:=ziw x26
 let x64:=!x62
 let x65:=p36 x28 x55 8
 let x66:=zgl x28 x55 8
 let x68:=p37 0
 let x69:=zaD x66 0
 let x70:=p37 1
 let x71:=zaD x66 1
 let x72:=p37 2
 let x73:=zaD x66 2
 let x74:=p37 3
 let x75:=zaD x66 3
 let x76:=!x69
 let x77:=!x71
 let x78:=x73&&x77
 let x79:=x76||x78
 let x80:=p31 x66 63 54
 let x81:=zes x66 63 54
 let x82:=x81 != 0
 let x83:=x79||x82
 let x84:=zdB x26
 let x85:=!x83
 let x86:=p31 x66 53 10
 let x87:=zes x66 53 10
 let x88:=x71||x75
 let x89:=p38
 let x90:=zld x1 x25 x26 x66
 let x91:=!x90
 let x92:=IntKind.wrap .u64 (4096*x87)
 let x93:=Int.tmod x92 1073741824
 let x94:=x93 != 0
 let x95:=x91||x94
 let x96:=zdB x26
 let x97:=!x95
 let x98:=IntKind.wrap .u64 (4096*x87)
 let x99:=Int.tmod x27 1073741824
 let x100:=IntKind.wrap .u64 (x98+x99)
 let x101:=!x88
 let x102:=p37 4
 let x103:=zaD x66 4
 let x104:=p37 6
 let x105:=zaD x66 6
 let x106:=p37 7
 let x107:=zaD x66 7
 let x108:=x103||x105
 let x109:=x108||x107
 let x110:=zdB x26
 let x111:=!x109
 let x112:=x101&&x111
 let x113:=x85&&x112
 let x114:=x64&&x113
 let x115:=IntKind.wrap .u64 (4096*x87)
 let x116:=p31 x27 29 21
 let x117:=zes x27 29 21
 let x118:=IntKind.wrap .u64 (8*x117)
 let x119:=IntKind.wrap .u64 (x115+x118)
 let x120:=p33 x23 x24 1 1 x119 8
 let x121:=zom x23 x24 1 1 x119 8
 let x123:=zr5 x119 8
 let x124:=!x121
 let x125:=!x123
 let x126:=x124||x125
 let x127:=ziw x26
 let x128:=!x126
 let x129:=p36 x28 x119 8
 let x130:=zgl x28 x119 8
 let x132:=p37 0
 let x133:=zaD x130 0
 let x134:=p37 1
 let x135:=zaD x130 1
 let x136:=p37 2
 let x137:=zaD x130 2
 let x138:=p37 3
 let x139:=zaD x130 3
 let x140:=!x133
 let x141:=!x135
 let x142:=x137&&x141
 let x143:=x140||x142
 let x144:=p31 x130 63 54
 let x145:=zes x130 63 54
 let x146:=x145 != 0
 let x147:=x143||x146
 let x148:=zdB x26
 let x149:=!x147
 let x150:=p31 x130 53 10
 let x151:=zes x130 53 10
 let x152:=x135||x139
 let x153:=p38
 let x154:=zld x1 x25 x26 x130
 let x155:=!x154
 let x156:=IntKind.wrap .u64 (4096*x151)
 let x157:=Int.tmod x156 2097152
 let x158:=x157 != 0
 let x159:=x155||x158
 let x160:=zdB x26
 let x161:=!x159
 let x162:=IntKind.wrap .u64 (4096*x151)
 let x163:=Int.tmod x27 2097152
 let x164:=IntKind.wrap .u64 (x162+x163)
 let x165:=!x152
 let x166:=p37 4
 let x167:=zaD x130 4
 let x168:=p37 6
 let x169:=zaD x130 6
 let x170:=p37 7
 let x171:=zaD x130 7
 let x172:=x167||x169
 let x173:=x172||x171
 let x174:=zdB x26
 let x175:=!x173
 let x176:=x165&&x175
 let x177:=x149&&x176
 let x178:=x128&&x177
 let x179:=IntKind.wrap .u64 (4096*x151)
 let x180:=p31 x27 20 12
 let x181:=zes x27 20 12
 let x182:=IntKind.wrap .u64 (8*x181)
 let x183:=IntKind.wrap .u64 (x179+x182)
 let x184:=p33 x23 x24 1 1 x183 8
 let x185:=zom x23 x24 1 1 x183 8
 let x187:=zr5 x183 8
 let x188:=!x185
 let x189:=!x187
 let x190:=x188||x189
 let x191:=ziw x26
 let x192:=!x190
 let x193:=p36 x28 x183 8
 let x194:=zgl x28 x183 8
 let x196:=p37 0
 let x197:=zaD x194 0
 let x198:=p37 1
 let x199:=zaD x194 1
 let x200:=p37 2
 let x201:=zaD x194 2
 let x202:=p37 3
 let x203:=zaD x194 3
 let x204:=!x197
 let x205:=!x199
 let x206:=x201&&x205
 let x207:=x204||x206
 let x208:=p31 x194 63 54
 let x209:=zes x194 63 54
 let x210:=x209 != 0
 let x211:=x207||x210
 let x212:=zdB x26
 let x213:=!x211
 let x214:=p31 x194 53 10
 let x215:=zes x194 53 10
 let x216:=x199||x203
 let x217:=p38
 let x218:=zld x1 x25 x26 x194
 let x219:=!x218
 let x220:=IntKind.wrap .u64 (4096*x215)
 let x221:=Int.tmod x220 4096
 let x222:=x221 != 0
 let x223:=x219||x222
 let x224:=zdB x26
 let x225:=!x223
 let x226:=IntKind.wrap .u64 (4096*x215)
 let x227:=Int.tmod x27 4096
 let x228:=IntKind.wrap .u64 (x226+x227)
 let x229:=!x216
 let x230:=p37 4
 let x231:=zaD x194 4
 let x232:=p37 6
 let x233:=zaD x194 6
 let x234:=p37 7
 let x235:=zaD x194 7
 let x236:=x231||x233
 let x237:=x236||x235
 let x238:=zdB x26
 let x239:=!x237
 let x240:=x229&&x239
 let x241:=x213&&x240
 let x242:=x192&&x241
 let x243:=x178&&x242
 let x244:=x114&&x243
 let x245:=zdB x26
 let x246:=bif x225 then x228 else 0
 let x247:=bif x225 then x194 else 0
 let x248:=bif x225 then x183 else 0
 let x249:=bif x225 then 0 else x224
 let x253:=bif x229 then 0 else x246
 let x254:=bif x229 then 0 else x247
 let x255:=bif x229 then 0 else x248
 let x256:=bif x229 then x238 else x249
 let x260:=bif x213 then x253 else 0
 let x261:=bif x213 then x254 else 0
 let x262:=bif x213 then x255 else 0
 let x263:=bif x213 then x256 else x212
 let x267:=bif x192 then x260 else 0
 let x268:=bif x192 then x261 else 0
 let x269:=bif x192 then x262 else 0
 let x270:=bif x192 then x263 else x191
 let x274:=bif x161 then x164 else 0
 let x275:=bif x161 then 1 else 0
 let x276:=bif x161 then x130 else 0
 let x277:=bif x161 then x119 else 0
 let x278:=bif x161 then 0 else x160
 let x283:=bif x165 then 0 else x274
 let x284:=bif x165 then 0 else x275
 let x285:=bif x165 then 0 else x276
 let x286:=bif x165 then 0 else x277
 let x287:=bif x165 then x174 else x278
 let x292:=bif x149 then x283 else 0
 let x293:=bif x149 then x284 else 0
 let x294:=bif x149 then x285 else 0
 let x295:=bif x149 then x286 else 0
 let x296:=bif x149 then x287 else x148
 let x301:=bif x128 then x292 else 0
 let x302:=bif x128 then x293 else 0
 let x303:=bif x128 then x294 else 0
 let x304:=bif x128 then x295 else 0
 let x305:=bif x128 then x296 else x127
 let x310:=bif x178 then x267 else x301
 let x311:=bif x178 then 0 else x302
 let x312:=bif x178 then x268 else x303
 let x313:=bif x178 then x269 else x304
 let x314:=bif x178 then x270 else x305
 let x319:=bif x97 then x100 else 0
 let x320:=bif x97 then 2 else 0
 let x321:=bif x97 then x66 else 0
 let x322:=bif x97 then x55 else 0
 let x323:=bif x97 then 0 else x96
 let x328:=bif x101 then 0 else x319
 let x329:=bif x101 then 0 else x320
 let x330:=bif x101 then 0 else x321
 let x331:=bif x101 then 0 else x322
 let x332:=bif x101 then x110 else x323
 let x337:=bif x85 then x328 else 0
 let x338:=bif x85 then x329 else 0
 let x339:=bif x85 then x330 else 0
 let x340:=bif x85 then x331 else 0
 let x341:=bif x85 then x332 else x84
 let x346:=bif x64 then x337 else 0
 let x347:=bif x64 then x338 else 0
 let x348:=bif x64 then x339 else 0
 let x349:=bif x64 then x340 else 0
 let x350:=bif x64 then x341 else x63
 let x355:=bif x114 then x310 else x346
 let x356:=bif x114 then x311 else x347
 let x357:=bif x114 then x312 else x348
 let x358:=bif x114 then x313 else x349
 let x359:=bif x114 then x314 else x350
 let x364:=bif x244 then 0 else x355
 let x365:=bif x244 then 0 else x356
 let x366:=bif x244 then 0 else x357
 let x367:=bif x244 then 0 else x358
 let x368:=bif x244 then x245 else x359
 let x373:=bif x48 then x364 else 0
 let x374:=bif x48 then x365 else 0
 let x375:=bif x48 then x366 else 0
 let x376:=bif x48 then x367 else 0
 let x377:=bif x48 then x368 else x47
 let x382:=bif x41 then x373 else x27
 let x383:=bif x41 then x374 else (-1)
 let x384:=bif x41 then x375 else 0
 let x385:=bif x41 then x376 else 0
 let x386:=bif x41 then x377 else 0
 [.b ((ow [(x36,false)] x37::ow [(x41,true)] x42::ow [(x41,true),(x48,true)] x49::ow [(x41,true),(x48,true)] x52::ow [(x41,true),(x48,true)] x56::ow [(x41,true),(x48,true),(x64,true)] x65::ow [(x41,true),(x48,true),(x64,true)] x68::ow [(x41,true),(x48,true),(x64,true)] x70::ow [(x41,true),(x48,true),(x64,true)] x72::ow [(x41,true),(x48,true),(x64,true)] x74::ow [(x41,true),(x48,true),(x64,true),(x79,false)] x80::ow [(x41,true),(x48,true),(x64,true),(x85,true)] x86::ow [(x41,true),(x48,true),(x64,true),(x85,true),(x88,true)] x89::ow [(x41,true),(x48,true),(x64,true),(x85,true),(x101,true)] x102::ow [(x41,true),(x48,true),(x64,true),(x85,true),(x101,true)] x104::ow [(x41,true),(x48,true),(x64,true),(x85,true),(x101,true)] x106::ow [(x41,true),(x48,true),(x114,true)] x116::ow [(x41,true),(x48,true),(x114,true)] x120::ow [(x41,true),(x48,true),(x114,true),(x128,true)] x129::ow [(x41,true),(x48,true),(x114,true),(x128,true)] x132::ow [(x41,true),(x48,true),(x114,true),(x128,true)] x134::ow [(x41,true),(x48,true),(x114,true),(x128,true)] x136::ow [(x41,true),(x48,true),(x114,true),(x128,true)] x138::ow [(x41,true),(x48,true),(x114,true),(x128,true),(x143,false)] x144::ow [(x41,true),(x48,true),(x114,true),(x128,true),(x149,true)] x150::ow [(x41,true),(x48,true),(x114,true),(x128,true),(x149,true),(x152,true)] x153::ow [(x41,true),(x48,true),(x114,true),(x128,true),(x149,true),(x165,true)] x166::ow [(x41,true),(x48,true),(x114,true),(x128,true),(x149,true),(x165,true)] x168::ow [(x41,true),(x48,true),(x114,true),(x128,true),(x149,true),(x165,true)] x170::ow [(x41,true),(x48,true),(x114,true),(x178,true)] x180::ow [(x41,true),(x48,true),(x114,true),(x178,true)] x184::ow [(x41,true),(x48,true),(x114,true),(x178,true),(x192,true)] x193::ow [(x41,true),(x48,true),(x114,true),(x178,true),(x192,true)] x196::ow [(x41,true),(x48,true),(x114,true),(x178,true),(x192,true)] x198::ow [(x41,true),(x48,true),(x114,true),(x178,true),(x192,true)] x200::ow [(x41,true),(x48,true),(x114,true),(x178,true),(x192,true)] x202::ow [(x41,true),(x48,true),(x114,true),(x178,true),(x192,true),(x207,false)] x208::ow [(x41,true),(x48,true),(x114,true),(x178,true),(x192,true),(x213,true)] x214::ow [(x41,true),(x48,true),(x114,true),(x178,true),(x192,true),(x213,true),(x216,true)] x217::ow [(x41,true),(x48,true),(x114,true),(x178,true),(x192,true),(x213,true),(x229,true)] x230::ow [(x41,true),(x48,true),(x114,true),(x178,true),(x192,true),(x213,true),(x229,true)] x232::ow [(x41,true),(x48,true),(x114,true),(x178,true),(x192,true),(x213,true),(x229,true)] x234::[]).all id),.i x382,.i x383,.i x384,.i x385,.i x386]
theorem zzG (x0:List DV) (x1:Int) (x2:Int) (x3:Int) (x4:Int) (x5:Int) (x6:Int) (x7:Int) (x8:Int) (x9:Int) (x10:Int) (x11:Int) (x12:Int) (x13:Int) (x14:Int) (x15:Int) (x16:Int) (x17:Int) (x18:Int) (x19:Int) (x20:Int) (x21:Int) (x22:Int) (x23:List DV) (x24:List DV) (x25:Int) (x26:Int) (x27:Int):g8 [.l x0,.i x1,.i x2,.i x3,.i x4,.i x5,.i x6,.i x7,.i x8,.i x9,.i x10,.i x11,.i x12,.i x13,.i x14,.i x15,.i x16,.i x17,.i x18,.i x19,.i x20,.i x21,.i x22,.l x23,.l x24,.i x25,.i x26,.i x27]=N8 x0 x1 x21 x23 x24 x25 x26 x27:=by kernel_rfl
noncomputable def T8 (x41 x48 x64 x85 x88 x97 x111 x128 x149 x152 x161 x175 x192 x213 x216 x225 x239:Bool) (x27 x100 x164 x228 x66 x130 x194 x55 x119 x183 pg fl:Int):WT :=
 let x101:=!x88
 let x112:=x101&&x111
 let x113:=x85&&x112
 let x114:=x64&&x113
 let x165:=!x152
 let x176:=x165&&x175
 let x177:=x149&&x176
 let x178:=x128&&x177
 let x229:=!x216
 let x240:=x229&&x239
 let x241:=x213&&x240
 let x242:=x192&&x241
 let x243:=x178&&x242
 let x244:=x114&&x243
 let x246:=bif x225 then x228 else 0
 let x247:=bif x225 then x194 else 0
 let x248:=bif x225 then x183 else 0
 let x249:=bif x225 then 0 else pg
 let x253:=bif x229 then 0 else x246
 let x254:=bif x229 then 0 else x247
 let x255:=bif x229 then 0 else x248
 let x256:=bif x229 then pg else x249
 let x260:=bif x213 then x253 else 0
 let x261:=bif x213 then x254 else 0
 let x262:=bif x213 then x255 else 0
 let x263:=bif x213 then x256 else pg
 let x267:=bif x192 then x260 else 0
 let x268:=bif x192 then x261 else 0
 let x269:=bif x192 then x262 else 0
 let x270:=bif x192 then x263 else fl
 let x274:=bif x161 then x164 else 0
 let x275:Int:=bif x161 then 1 else 0
 let x276:=bif x161 then x130 else 0
 let x277:=bif x161 then x119 else 0
 let x278:=bif x161 then 0 else pg
 let x283:=bif x165 then 0 else x274
 let x284:=bif x165 then 0 else x275
 let x285:=bif x165 then 0 else x276
 let x286:=bif x165 then 0 else x277
 let x287:=bif x165 then pg else x278
 let x292:=bif x149 then x283 else 0
 let x293:=bif x149 then x284 else 0
 let x294:=bif x149 then x285 else 0
 let x295:=bif x149 then x286 else 0
 let x296:=bif x149 then x287 else pg
 let x301:=bif x128 then x292 else 0
 let x302:=bif x128 then x293 else 0
 let x303:=bif x128 then x294 else 0
 let x304:=bif x128 then x295 else 0
 let x305:=bif x128 then x296 else fl
 let x310:=bif x178 then x267 else x301
 let x311:=bif x178 then 0 else x302
 let x312:=bif x178 then x268 else x303
 let x313:=bif x178 then x269 else x304
 let x314:=bif x178 then x270 else x305
 let x319:=bif x97 then x100 else 0
 let x320:Int:=bif x97 then 2 else 0
 let x321:=bif x97 then x66 else 0
 let x322:=bif x97 then x55 else 0
 let x323:=bif x97 then 0 else pg
 let x328:=bif x101 then 0 else x319
 let x329:=bif x101 then 0 else x320
 let x330:=bif x101 then 0 else x321
 let x331:=bif x101 then 0 else x322
 let x332:=bif x101 then pg else x323
 let x337:=bif x85 then x328 else 0
 let x338:=bif x85 then x329 else 0
 let x339:=bif x85 then x330 else 0
 let x340:=bif x85 then x331 else 0
 let x341:=bif x85 then x332 else pg
 let x346:=bif x64 then x337 else 0
 let x347:=bif x64 then x338 else 0
 let x348:=bif x64 then x339 else 0
 let x349:=bif x64 then x340 else 0
 let x350:=bif x64 then x341 else fl
 let x355:=bif x114 then x310 else x346
 let x356:=bif x114 then x311 else x347
 let x357:=bif x114 then x312 else x348
 let x358:=bif x114 then x313 else x349
 let x359:=bif x114 then x314 else x350
 let x364:=bif x244 then 0 else x355
 let x365:=bif x244 then 0 else x356
 let x366:=bif x244 then 0 else x357
 let x367:=bif x244 then 0 else x358
 let x368:=bif x244 then pg else x359
 let x373:=bif x48 then x364 else 0
 let x374:=bif x48 then x365 else 0
 let x375:=bif x48 then x366 else 0
 let x376:=bif x48 then x367 else 0
 let x377:=bif x48 then x368 else pg
 let x382:=bif x41 then x373 else x27
 let x383:=bif x41 then x374 else (-1)
 let x384:=bif x41 then x375 else 0
 let x385:=bif x41 then x376 else 0
 let x386:=bif x41 then x377 else 0
 (x382,x383,x384,x385,x386)
theorem t8 (x41 x48 x64 x85 x88 x97 x111 x128 x149 x152 x161 x175 x192 x213 x216 x225 x239:Bool) (x27 x100 x164 x228 x66 x130 x194 x55 x119 x183 pg fl:Int):T8 x41 x48 x64 x85 x88 x97 x111 x128 x149 x152 x161 x175 x192 x213 x216 x225 x239 x27 x100 x164 x228 x66 x130 x194 x55 x119 x183 pg fl=tree x41 x48 x64 x85 x88 x97 x111 x128 x149 x152 x161 x175 x192 x213 x216 x225 (x27,-1,0,0,0) (0,0,0,0,pg) (0,0,0,0,fl) (0,0,0,0,pg) (x100,2,x66,x55,0) (0,0,0,0,fl) (0,0,0,0,pg) (x164,1,x130,x119,0) (0,0,0,0,fl) (0,0,0,0,pg) (x228,0,x194,x183,0):=by
 all_goals (cases x41<;>try rfl)
 all_goals (cases x48<;>try rfl)
 all_goals (cases x64<;>try rfl)
 all_goals (cases x85<;>try rfl)
 all_goals (cases x88<;>try rfl)
 all_goals (cases x97<;>try rfl)
 all_goals (cases x111<;>try rfl)
 all_goals (cases x128<;>try rfl)
 all_goals (cases x149<;>try rfl)
 all_goals (cases x152<;>try rfl)
 all_goals (cases x161<;>try rfl)
 all_goals (cases x175<;>try rfl)
 all_goals (cases x192<;>try rfl)
 all_goals (cases x213<;>try rfl)
 all_goals (cases x216<;>try rfl)
 all_goals (cases x225<;>try rfl)
 all_goals (cases x239<;>try rfl)
end Go.Proofs.YtedoffkaehcnmaaGreatDoor
namespace Go.Proofs.YtedoffkaehcnmaaGreatDoor
open Go Go.Sx
set_option maxRecDepth 100000
theorem zAt:∀ r:Fin 1024,(zaj .u64 ((r.val:Nat):Int) 1==0) = !decide (((r.val:Nat):Int)/1%2=1)∧(zaj .u64 ((r.val:Nat):Int) 6==4)=(decide (((r.val:Nat):Int)/4%2=1)&&!decide (((r.val:Nat):Int)/2%2=1)) ∧
  (!(zaj .u64 ((r.val:Nat):Int) 10==0))=(decide (((r.val:Nat):Int)/2%2=1)||decide (((r.val:Nat):Int)/8%2=1)) ∧
  (!(zaj .u64 ((r.val:Nat):Int) 208 != 0)) = !((decide (((r.val:Nat):Int)/16%2=1)||decide (((r.val:Nat):Int)/64%2=1))||decide (((r.val:Nat):Int)/128%2=1)):=by decide +kernel
theorem zkX {e:Int} (h0:0≤e) (h1:e<18446744073709551616):(zaj .u64 e 1==0) = !zaD e 0∧(zaj .u64 e 6==4)=(zaD e 2&&!zaD e 1)∧lfF e=(zaD e 1||zaD e 3)∧nbF e = !((zaD e 4||zaD e 6)||zaD e 7):=by
 obtain ⟨r,hr⟩:=zye h0
 have l:=zAt r
 rw [←hr] at l
 rw [show e%1024/1%2=e/1%2 by omega,show e%1024/4%2=e/4%2 by omega,show e%1024/2%2=e/2%2 by omega,show e%1024/8%2=e/8%2 by omega,show e%1024/16%2=e/16%2 by omega,show e%1024/64%2=e/64%2 by omega,show e%1024/128%2=e/128%2 by omega,
  ←ziS h0 h1 (by decide) (by decide),←ziS h0 h1 (by decide) (by decide),←ziS h0 h1 (by decide) (by decide),←ziS h0 h1 (by decide) (by decide)] at l
 have b0:zaD e 0=decide (e/1%2=1):=zkV h0 h1 0 (by decide) rfl
 have b1:zaD e 1=decide (e/2%2=1):=zkV h0 h1 1 (by decide) rfl
 have b2:zaD e 2=decide (e/4%2=1):=zkV h0 h1 2 (by decide) rfl
 have b3:zaD e 3=decide (e/8%2=1):=zkV h0 h1 3 (by decide) rfl
 have b4:zaD e 4=decide (e/16%2=1):=zkV h0 h1 4 (by decide) rfl
 have b6:zaD e 6=decide (e/64%2=1):=zkV h0 h1 6 (by decide) rfl
 have b7:zaD e 7=decide (e/128%2=1):=zkV h0 h1 7 (by decide) rfl
 unfold lfF nbF
 rw [b0,b1,b2,b3,b4,b6,b7]
 exact l
theorem zvr {e:Int} (h0:0≤e) (h1:e<18446744073709551616):(!((!zaD e 0||(zaD e 2&&!zaD e 1))||(zes e 63 54 != 0)))=okR true e:=by
 obtain ⟨a,b,_,_⟩:=zkX h0 h1
 have p:zes e 63 54=e/18014398509481984%1024:=(zcb h0 h1 63 54 10 rfl (by decide) rfl rfl).2
 have s:ishr .u64 e 54=e/18014398509481984:=zfR 54 (by decide) rfl
 unfold okR
 rw [a,b,p,s,show e/18014398509481984%1024=e/18014398509481984 by omega]
 simp [Bool.or_assoc]
theorem zvs {e:Int} (h0:0≤e) (h1:e<18446744073709551616):zes e 53 10=tbF e:=by
 have p:zes e 53 10=e/1024%17592186044416:=(zcb h0 h1 53 10 44 rfl (by decide) rfl rfl).2
 have s:ishr .u64 e 10=e/1024:=zfR 10 (by decide) rfl
 have m:zaj .u64 (e/1024) 17592186044415=e/1024%17592186044416:=zbF (by omega) (by omega) 44 (by decide) rfl rfl
 unfold tbF
 rw [p,s,m]
theorem zwx {t m p:Int} (t0:0≤t) (t1:t<17592186044416) (h:m=262143∧p=1073741824∨m=511∧p=2097152∨m=0∧p=4096):(Int.tmod (IntKind.wrap .u64 (4096*t)) p != 0)=(zaj .u64 t m != 0):=by
 have w:IntKind.wrap .u64 (4096*t)=4096*t:=zgn (by omega) (by omega)
 rw [w,ibne,ibne]
 congr 1
 rw [Int.tmod_eq_emod_of_nonneg (by omega)]
 rcases h with ⟨rfl,rfl⟩ | ⟨rfl,rfl⟩ | ⟨rfl,rfl⟩
 ·rw [show zaj .u64 t 262143=t%262144 from zbF t0 (by omega) 18 (by decide) rfl rfl]
  apply decide_eq_decide.2
  omega
 ·rw [show zaj .u64 t 511=t%512 from zbF t0 (by omega) 9 (by decide) rfl rfl]
  apply decide_eq_decide.2
  omega
 ·rw [zzF]
  apply decide_eq_decide.2
  omega
theorem zvt {x1 x25 x26 e m p:Int} (a0:0≤x1) (a1:x1<18446744073709551616) (h0:0≤e) (h1:e<18446744073709551616) (h:m=262143∧p=1073741824∨m=511∧p=2097152∨m=0∧p=4096) :
  (!(!zld x1 x25 x26 e||(Int.tmod (IntKind.wrap .u64 (4096*tbF e)) p != 0)))=alF (zce x1 x25 x26) m e:=by
 obtain ⟨t0,t1⟩:=zAr e
 unfold alF
 rw [zwx t0 t1 h,(zr8 x1 x25 x26 e a0 a1 h0 h1).2]
theorem zvu {e x m p:Int} (h0:0≤x) (h1:x<18446744073709551616) (h:p=1073741824∧m=1073741823∨p=2097152∧m=2097151∨p=4096∧m=4095):IntKind.wrap .u64 (IntKind.wrap .u64 (4096*tbF e)+Int.tmod x p)=vaF e (zaj .u64 x m):=by
 unfold vaF
 rw [zvq,Int.mul_comm 4096,Int.tmod_eq_emod_of_nonneg h0]
 rcases h with ⟨rfl,rfl⟩ | ⟨rfl,rfl⟩ | ⟨rfl,rfl⟩
 ·rw [show zaj .u64 x 1073741823=x%1073741824 from zbF h0 h1 30 (by decide) rfl rfl]
 ·rw [show zaj .u64 x 2097151=x%2097152 from zbF h0 h1 21 (by decide) rfl rfl]
 ·rw [show zaj .u64 x 4095=x%4096 from zbF h0 h1 12 (by decide) rfl rfl]
theorem zvv {t q:Int} (h0:0≤q) (h1:q<18446744073709551616):IntKind.wrap .u64 (IntKind.wrap .u64 (4096*t)+IntKind.wrap .u64 (8*(q%512)))=ptq t q:=by
 unfold ptq
 rw [zvq,Int.mul_comm 4096,show zaj .u64 q 511=q%512 from zbF h0 h1 9 (by decide) rfl rfl,Int.mul_comm 8]
theorem zvw {cfg adr:List DV} (hcfg:∀ n,R8 (at8 cfg n)) (hadr:∀ n,R64 (at8 adr n)) {a:Int} (h0:0≤a) (h1:a<18446744073709551616):(!(!zom cfg adr 1 1 a 8||!zr5 a 8))=ckF cfg adr a:=by
 unfold ckF
 rw [(ziQ hcfg hadr h0 h1).2,show zr5 a 8=zm6 a 8 from rfl,zvf h0 h1]
 rfl
theorem zvx:p38=true:=by
 unfold p38
 simp [ow,zbG]
theorem zwy {ck:Int→Bool} {en en':Int→Int} {al:Int→Bool} {pg fl:Int} {on sg:Bool} {t a q2 q1 q0 o2 o1 o0:Int} (h:∀ x,ck x=true→en' x=en x) :
  WR ck en' al pg fl on sg t a q2 q1 q0 o2 o1 o0=WR ck en al pg fl on sg t a q2 q1 q0 o2 o1 o0:=by
 unfold WR
 extract_lets -merge a2 e2 a1 e1 a0 e0 c2 d2 b1 d1 b0 d0
 cases k2:ck a2 with
 | false=>exact zvm ..
 | true =>
  have g2:e2=d2:=h _ k2
  have f1:a1=b1:=by show ptq (tbF e2) q1=ptq (tbF d2) q1;rw [g2]
  clear_value d2
  subst g2
  have g1':e1=en' b1:=by show en' a1=_;rw [f1]
  clear_value a1
  subst f1
  cases k1:ck b1 with
  | false=>exact zvn ..
  | true =>
   have g1:e1=d1:=h _ k1
   have f0:a0=b0:=by show ptq (tbF e1) q0=ptq (tbF d1) q0;rw [g1]
   clear_value d1
   subst g1
   clear_value a0
   subst f0
   cases k0:ck b0 with
   | false=>exact zvo ..
   | true =>
    have g0:e0=d0:=h _ k0
    clear_value d0
    subst g0
    rfl
theorem zwz (b:List DV) (hm:∀ A:Int,0≤ramAt (b.getD (Int.toNat 0*1+0) default).toL A∧ramAt (b.getD (Int.toNat 0*1+0) default).toL A<256) (x1 x21:Int) (x23 x24:List DV) (x25 x26 x27:Int) (h10:0≤x1) (h11:x1<18446744073709551616) (h210:0≤x21) (h211:x21<18446744073709551616)
  (hcfg:∀ n,R8 (at8 x23 n)) (hadr:∀ n,R64 (at8 x24 n)) (h0:0≤x27) (h1:x27<18446744073709551616) :
  ∃ W:WT,W=WR (ckF x23 x24) (fun a=>zgl (b.getD (Int.toNat 0*1+0) default).toL a 8) (zce x1 x25 x26) (zdB x26) (ziw x26) (sOn x25 x21) (sSg x27) (zaj .u64 x21 17592186044415) x27 (ishr .u64 x27 30) (ishr .u64 x27 21) (ishr .u64 x27 12) (zaj .u64 x27 1073741823) (zaj .u64 x27 2097151) (zaj .u64 x27 4095) ∧
   N8 b x1 x21 x23 x24 x25 x26 x27=[.b true,.i W.1,.i W.2.1,.i W.2.2.1,.i W.2.2.2.1,.i W.2.2.2.2]:=by
 unfold N8
 extract_lets -merge x28 x36 x37 x38 x39 x40 x41 x42 x43 x44 x45 x46 x47 x48 x49 x50 x51 x52 x53 x54 x55 x56 x57 x59 x60 x61 x62 x63 x64 x65 x66 x68 x69 x70 x71 x72 x73 x74 x75 x76 x77 x78 x79 x80 x81 x82 x83 x84 x85 x86 x87 x88 x89 x90 x91 x92 x93 x94 x95 x96 x97 x98 x99 x100 x101 x102 x103 x104 x105 x106 x107 x108 x109 x110 x111 x112 x113 x114 x115 x116 x117 x118 x119 x120 x121 x123 x124 x125 x126 x127 x128 x129 x130 x132 x133 x134 x135 x136 x137 x138 x139 x140 x141 x142 x143 x144 x145 x146 x147 x148 x149 x150 x151 x152 x153 x154 x155 x156 x157 x158 x159 x160 x161 x162 x163 x164 x165 x166 x167 x168 x169 x170 x171 x172 x173 x174 x175 x176 x177 x178 x179 x180 x181 x182 x183 x184 x185 x187 x188 x189 x190 x191 x192 x193 x194 x196 x197 x198 x199 x200 x201 x202 x203 x204 x205 x206 x207 x208 x209 x210 x211 x212 x213 x214 x215 x216 x217 x218 x219 x220 x221 x222 x223 x224 x225 x226 x227 x228 x229 x230 x231 x232 x233 x234 x235 x236 x237 x238 x239 x240 x241 x242 x243 x244 x245 x246 x247 x248 x249 x253 x254 x255 x256 x260 x261 x262 x263 x267 x268 x269 x270 x274 x275 x276 x277 x278 x283 x284 x285 x286 x287 x292 x293 x294 x295 x296 x301 x302 x303 x304 x305 x310 x311 x312 x313 x314 x319 x320 x321 x322 x323 x328 x329 x330 x331 x332 x337 x338 x339 x340 x341 x346 x347 x348 x349 x350 x355 x356 x357 x358 x359 x364 x365 x366 x367 x368 x373 x374 x375 x376 x377 x382 x383 x384 x385 x386
 obtain ⟨u37,v38⟩:=zcb h210 h211 63 60 4 rfl (by decide) (p:=1152921504606846976) (q:=16) rfl rfl
 obtain ⟨u42,v43⟩:=zcb h0 h1 63 38 26 rfl (by decide) (p:=274877906944) (q:=67108864) rfl rfl
 obtain ⟨u49,v50⟩:=zcb h210 h211 43 0 44 rfl (by decide) (p:=1) (q:=17592186044416) rfl rfl
 have u37:x37=true:=u37
 have u42:x42=true:=u42
 have u49:x49=true:=u49
 have v38:x38=x21/1152921504606846976%16:=v38
 have v43:x43=x27/274877906944%67108864:=v43
 have v50:x50=x21/1%17592186044416:=v50
 have e41:x41=sOn x25 x21:=by
  show (!((x25==3)||(x38 != 8)))=_
  unfold sOn
  rw [v38,show ishr .u64 x21 60=x21/1152921504606846976 from zfR 60 (by decide) rfl,show x21/1152921504606846976%16=x21/1152921504606846976 by omega]
 have e48:x48=sSg x27:=by
  show (!((x43 != 0)&&(x43 != 67108863)))=_
  rw [zAs h0 h1,v43,show x27/274877906944%67108864=x27/274877906944 by omega,ibne,ibne,Bool.not_and,Bool.not_not,Bool.not_not]
 have e50:x50=zaj .u64 x21 17592186044415:=by
  rw [v50,show zaj .u64 x21 17592186044415=x21%17592186044416 from zbF h210 h211 44 (by decide) rfl rfl,Int.ediv_one]
 obtain ⟨u52,v53⟩:=zcb h0 h1 38 30 9 rfl (by decide) (p:=1073741824) (q:=512) rfl rfl
 have u52:x52=true:=u52
 have v53:x53=x27/1073741824%512:=v53
 have e55:x55=ptq (zaj .u64 x21 17592186044415) (ishr .u64 x27 30):=by
  show IntKind.wrap .u64 (IntKind.wrap .u64 (4096*x50)+IntKind.wrap .u64 (8*x53))=_
  rw [v53,sh30,e50]
  exact zvv (by omega) (by omega)
 obtain ⟨i55,j55⟩:0≤x55∧x55<18446744073709551616:=zcR _
 have u56:x56=true:=(ziQ hcfg hadr i55 j55).1
 have e64:x64=ckF x23 x24 x55:=zvw hcfg hadr i55 j55
 have u65:x65=true:=(zow _ i55 j55 hm).1
 obtain ⟨i66,j66⟩:0≤x66∧x66<18446744073709551616:=zvh _ i55 j55 hm
 have e85:x85=okR true x66:=zvr i66 j66
 have u80:x80=true:=(zcb i66 j66 63 54 10 rfl (by decide) rfl rfl).1
 have u86:x86=true:=(zcb i66 j66 53 10 44 rfl (by decide) rfl rfl).1
 have e87:x87=tbF x66:=zvs i66 j66
 have e88:x88=lfF x66:=(zkX i66 j66).2.2.1.symm
 have e111:x111=nbF x66:=(zkX i66 j66).2.2.2.symm
 have e97:x97=alF (zce x1 x25 x26) 262143 x66:=by
  show (!(!zld x1 x25 x26 x66||(Int.tmod (IntKind.wrap .u64 (4096*x87)) 1073741824 != 0)))=_
  rw [e87]
  exact zvt h10 h11 i66 j66 (.inl ⟨rfl,rfl⟩)
 have e100:x100=vaF x66 (zaj .u64 x27 1073741823):=by
  show IntKind.wrap .u64 (IntKind.wrap .u64 (4096*x87)+Int.tmod x27 1073741824)=_
  rw [e87]
  exact zvu h0 h1 (.inl ⟨rfl,rfl⟩)
 have u68:x68=true:=zbG (by decide)
 have u70:x70=true:=zbG (by decide)
 have u72:x72=true:=zbG (by decide)
 have u74:x74=true:=zbG (by decide)
 have u102:x102=true:=zbG (by decide)
 have u104:x104=true:=zbG (by decide)
 have u106:x106=true:=zbG (by decide)
 have u89:x89=true:=zvx
 obtain ⟨u116,v117⟩:=zcb h0 h1 29 21 9 rfl (by decide) (p:=2097152) (q:=512) rfl rfl
 have u116:x116=true:=u116
 have v117:x117=x27/2097152%512:=v117
 have e119:x119=ptq (tbF x66) (ishr .u64 x27 21):=by
  show IntKind.wrap .u64 (IntKind.wrap .u64 (4096*x87)+IntKind.wrap .u64 (8*x117))=_
  rw [v117,sh21,e87]
  exact zvv (by omega) (by omega)
 obtain ⟨i119,j119⟩:0≤x119∧x119<18446744073709551616:=zcR _
 have u120:x120=true:=(ziQ hcfg hadr i119 j119).1
 have e128:x128=ckF x23 x24 x119:=zvw hcfg hadr i119 j119
 have u129:x129=true:=(zow _ i119 j119 hm).1
 obtain ⟨i130,j130⟩:0≤x130∧x130<18446744073709551616:=zvh _ i119 j119 hm
 have e149:x149=okR true x130:=zvr i130 j130
 have u144:x144=true:=(zcb i130 j130 63 54 10 rfl (by decide) rfl rfl).1
 have u150:x150=true:=(zcb i130 j130 53 10 44 rfl (by decide) rfl rfl).1
 have e151:x151=tbF x130:=zvs i130 j130
 have e152:x152=lfF x130:=(zkX i130 j130).2.2.1.symm
 have e175:x175=nbF x130:=(zkX i130 j130).2.2.2.symm
 have e161:x161=alF (zce x1 x25 x26) 511 x130:=by
  show (!(!zld x1 x25 x26 x130||(Int.tmod (IntKind.wrap .u64 (4096*x151)) 2097152 != 0)))=_
  rw [e151]
  exact zvt h10 h11 i130 j130 (.inr (.inl ⟨rfl,rfl⟩))
 have e164:x164=vaF x130 (zaj .u64 x27 2097151):=by
  show IntKind.wrap .u64 (IntKind.wrap .u64 (4096*x151)+Int.tmod x27 2097152)=_
  rw [e151]
  exact zvu h0 h1 (.inr (.inl ⟨rfl,rfl⟩))
 have u132:x132=true:=zbG (by decide)
 have u134:x134=true:=zbG (by decide)
 have u136:x136=true:=zbG (by decide)
 have u138:x138=true:=zbG (by decide)
 have u166:x166=true:=zbG (by decide)
 have u168:x168=true:=zbG (by decide)
 have u170:x170=true:=zbG (by decide)
 have u153:x153=true:=zvx
 obtain ⟨u180,v181⟩:=zcb h0 h1 20 12 9 rfl (by decide) (p:=4096) (q:=512) rfl rfl
 have u180:x180=true:=u180
 have v181:x181=x27/4096%512:=v181
 have e183:x183=ptq (tbF x130) (ishr .u64 x27 12):=by
  show IntKind.wrap .u64 (IntKind.wrap .u64 (4096*x151)+IntKind.wrap .u64 (8*x181))=_
  rw [v181,sh12,e151]
  exact zvv (by omega) (by omega)
 obtain ⟨i183,j183⟩:0≤x183∧x183<18446744073709551616:=zcR _
 have u184:x184=true:=(ziQ hcfg hadr i183 j183).1
 have e192:x192=ckF x23 x24 x183:=zvw hcfg hadr i183 j183
 have u193:x193=true:=(zow _ i183 j183 hm).1
 obtain ⟨i194,j194⟩:0≤x194∧x194<18446744073709551616:=zvh _ i183 j183 hm
 have e213:x213=okR true x194:=zvr i194 j194
 have u208:x208=true:=(zcb i194 j194 63 54 10 rfl (by decide) rfl rfl).1
 have u214:x214=true:=(zcb i194 j194 53 10 44 rfl (by decide) rfl rfl).1
 have e215:x215=tbF x194:=zvs i194 j194
 have e216:x216=lfF x194:=(zkX i194 j194).2.2.1.symm
 have e239:x239=nbF x194:=(zkX i194 j194).2.2.2.symm
 have e225:x225=alF (zce x1 x25 x26) 0 x194:=by
  show (!(!zld x1 x25 x26 x194||(Int.tmod (IntKind.wrap .u64 (4096*x215)) 4096 != 0)))=_
  rw [e215]
  exact zvt h10 h11 i194 j194 (.inr (.inr ⟨rfl,rfl⟩))
 have e228:x228=vaF x194 (zaj .u64 x27 4095):=by
  show IntKind.wrap .u64 (IntKind.wrap .u64 (4096*x215)+Int.tmod x27 4096)=_
  rw [e215]
  exact zvu h0 h1 (.inr (.inr ⟨rfl,rfl⟩))
 have u196:x196=true:=zbG (by decide)
 have u198:x198=true:=zbG (by decide)
 have u200:x200=true:=zbG (by decide)
 have u202:x202=true:=zbG (by decide)
 have u230:x230=true:=zbG (by decide)
 have u232:x232=true:=zbG (by decide)
 have u234:x234=true:=zbG (by decide)
 have u217:x217=true:=zvx
 have hT:(x382,x383,x384,x385,x386)=T8 x41 x48 x64 x85 x88 x97 x111 x128 x149 x152 x161 x175 x192 x213 x216 x225 x239 x27 x100 x164 x228 x66 x130 x194 x55 x119 x183 (zdB x26) (ziw x26):=rfl
 rw [t8,e41,e48,e64,e85,e88,e97,e111,e128,e149,e152,e161,e175,e192,e213,e216,e225,e100,e164,e228] at hT
 have key:∀ a2 e2 a1 e1 a0 e0:Int,a2=ptq (zaj .u64 x21 17592186044415) (ishr .u64 x27 30)→e2=zgl x28 a2 8→a1=ptq (tbF e2) (ishr .u64 x27 21)→e1=zgl x28 a1 8→a0=ptq (tbF e1) (ishr .u64 x27 12)→e0=zgl x28 a0 8 →
   tree (sOn x25 x21) (sSg x27) (ckF x23 x24 a2) (okR true e2) (lfF e2) (alF (zce x1 x25 x26) 262143 e2) (nbF e2) (ckF x23 x24 a1) (okR true e1) (lfF e1) (alF (zce x1 x25 x26) 511 e1) (nbF e1) (ckF x23 x24 a0) (okR true e0) (lfF e0) (alF (zce x1 x25 x26) 0 e0) (x27,-1,0,0,0) (0,0,0,0,zdB x26) (0,0,0,0,ziw x26) (0,0,0,0,zdB x26) (vaF e2 (zaj .u64 x27 1073741823),2,e2,a2,0) (0,0,0,0,ziw x26) (0,0,0,0,zdB x26) (vaF e1 (zaj .u64 x27 2097151),1,e1,a1,0) (0,0,0,0,ziw x26) (0,0,0,0,zdB x26) (vaF e0 (zaj .u64 x27 4095),0,e0,a0,0) =
   WR (ckF x23 x24) (fun a=>zgl x28 a 8) (zce x1 x25 x26) (zdB x26) (ziw x26) (sOn x25 x21) (sSg x27) (zaj .u64 x21 17592186044415) x27 (ishr .u64 x27 30) (ishr .u64 x27 21) (ishr .u64 x27 12) (zaj .u64 x27 1073741823) (zaj .u64 x27 2097151) (zaj .u64 x27 4095):=by
  intro a2 e2 a1 e1 a0 e0 k1 k2 k3 k4 k5 k6
  subst k1 k2 k3 k4 k5 k6
  rfl
 refine ⟨_,hT.trans (key x55 x66 x119 x130 x183 x194 e55 rfl e119 rfl e183 rfl),?_⟩
 simp only [List.all_cons,List.all_nil,id_eq,zam u37,zam u42,zam u49,zam u52,zam u56,zam u65,zam u80,zam u86,zam u89,zam u68,zam u70,zam u72,zam u74,zam u102,zam u104,zam u106,zam u116,zam u120,zam u129,zam u144,zam u150,zam u153,zam u132,zam u134,zam u136,zam u138,zam u166,zam u168,zam u170,zam u180,zam u184,zam u193,zam u208,zam u214,zam u217,zam u196,zam u198,zam u200,zam u202,zam u230,zam u232,zam u234,Bool.and_self]
end Go.Proofs.YtedoffkaehcnmaaGreatDoor
namespace Go.Sx
variable {P:Program} {I:World→Prop}
def Lf.plainG:Lf→Bool
 | .p _ _ | .gp _ _ | .alt _ _=>false
 | _=>true
def V.plainG:V→Bool
 | .s v=>v.cells.all Lf.plainG
 | .t l=>l.all fun v=>v.cells.all Lf.plainG
theorem Lf.plainG_good {ν:Nat→DV} {l:Lf} (h:l.plainG=true):l.good ν:=by
 cases l<;>first | trivial | cases h
theorem V.plainG_good {ν:Nat→DV} {v:V} (h:v.plainG=true):v.good ν:=by
 cases v with
 | s v=>exact fun l hl=>Lf.plainG_good (List.all_eq_true.1 h l hl)
 | t l=>exact fun v hv x hx=>Lf.plainG_good (List.all_eq_true.1 (List.all_eq_true.1 h v hv) x hx)
theorem allG {ν:Nat→DV} {l:List V} (h:l.all V.plainG=true):∀ v∈l,V.good ν v:=fun v hv=>V.plainG_good (List.all_eq_true.1 h v hv)
theorem zzH {sg:Sig} {v:List DV} (hn:sg.need=true) (h:v=[.b true,.b true]):(sg.need=true→(dget v 0).toB=true)∧(dget v (if sg.need then 1 else 0)).toB=true:=by
 subst h
 rw [hn]
 exact ⟨fun _=>rfl,rfl⟩
end Go.Sx
namespace Go.Sx
variable {P:Program} {I:World→Prop}
theorem FnOK.flatH {K:Nat} {f:FuncId} {sg sg':Sig} {G:List DV→List DV} (h:FnOK P I K f sg G) (pack:List DV→List DV) (tys:List Ty) {p:A→Bool} (hc:∀ {ν1 ν2:Nat→DV} (a:A),p a=true→a.den ν1=a.den ν2)
  (e1:sg'.hin=sg.hin) (i1:sg.hinI=sg.hin.map (Option.map (Blk.inst (zap 0 tys.length)))) (i2:sg'.hinI=sg.hinI) (ht:sg.hin.all (zao (Blk.tyOk p tys))=true)
  (eo:sg'.out=sg.out) (eh:sg'.hout=sg.hout) (et:sg'.ots=sg.ots) (en:sg'.need=sg.need)
  (hp:∀ ds:List DV,ds.length=sg'.nin→(pack ds).length=sg.nin∧(∀ v∈sg.insI,V.good (dget (pack ds)) v)∧(∀ ρ:Nat→Loc,sg'.insI.map (V.conc (dget ds) ρ)=sg.insI.map (V.conc (dget (pack ds)) ρ)) ∧
   ∀ (i:Nat) (t:Ty),tys[i]? = some t→t.eqAt (dget ds (0+i)) (dget (pack ds) (0+i))) :
  FnOK P I K f sg' (fun ds=>G (pack ds)):=by
 intro ds ρ w h1 h2 h3 h4 h5 _ h7
 obtain ⟨p1,p2,p3,p4⟩:=hp ds h2
 have o1:sg'.outI=sg.outI:=by unfold Sig.outI;rw [eo,et]
 have o2:sg'.houtI=sg.houtI:=by unfold Sig.houtI;rw [eh,et]
 rw [p3 ρ]
 rw [i2] at h5 h7
 have hr:HRel (callEnv sg.hinI ρ w) (dget (pack ds)) ρ sg.hinI w:=by
  rw [i1] at h7 ⊢
  exact HRel.inst hc (PEq.of_ids tys 0 p4) ht h7
 refine (h (pack ds) ρ w h1 p1 (by rw [←en];exact h3) h4 h5 p2 hr).mono fun e w' ⟨v,ρ',he,hc⟩=>⟨v,ρ',he,?_⟩
 have er:sg'.res (G (pack ds))=sg.res (G (pack ds)):=by unfold Sig.res;rw [en]
 obtain ⟨c1,c2,c3,c4,c5,c6⟩:=hc
 exact ⟨by rw [o1,er];exact c1,by rw [o1,er];exact c2,by rw [i2,o2,er];exact c3,by rw [i2,o2];exact c4,by rw [i2];exact c5,fun j hj hl=>c6 j (by rw [←e1];exact hj) (by rw [←eh];exact hl)⟩
end Go.Sx
namespace Go.Proofs.YtedoffkaehcnmaaGreatDoor
open Go Go.Sx
set_option maxRecDepth 100000
noncomputable def P3 (F:FEnv) (x0:List DV) (x1:Int) (x2:Int) (x3:Int) (x4:Int) (x5:Int) (x6:Int) (x7:Int) (x8:Int) (x9:Int) (x10:Int) (x11:Int) (x12:Int) (x13:Int) (x14:Int) (x15:Int) (x16:Int) (x17:Int) (x18:Int) (x19:Int) (x20:Int) (x21:Int) (x22:Int) (x23:List DV) (x24:List DV) (x25:Int) (x26:Int) (x27:Int):Bool :=
 let x28:Bool:=((F 4 []).getD 0 default).toB
 let x29:Bool:=((F 4 []).getD 1 default).toB
 let x30:=!x29
 let x31:=!x30
 let x33:List DV:=[]
 let x34:Bool:=((F 5 [.l x0,.i 0,.l [],.l x33,.i 0,.i 0,.i 0]).getD 0 default).toB
 let x35:Int:=((F 5 [.l x0,.i 0,.l [],.l x33,.i 0,.i 0,.i 0]).getD 1 default).toI
 let x36:Bool:=((F 5 [.l x0,.i 0,.l [],.l x33,.i 0,.i 0,.i 0]).getD 2 default).toB
 let x37:List DV:=((F 5 [.l x0,.i 0,.l [],.l x33,.i 0,.i 0,.i 0]).getD 3 default).toL
 let x39:List DV:=[]
 let x40:Bool:=((F 6 [.l x0,.i 0,.l [],.l x39,.i 0,.i 0,.i 0]).getD 0 default).toB
 let x41:Int:=((F 6 [.l x0,.i 0,.l [],.l x39,.i 0,.i 0,.i 0]).getD 1 default).toI
 let x42:Bool:=((F 6 [.l x0,.i 0,.l [],.l x39,.i 0,.i 0,.i 0]).getD 2 default).toB
 let x43:List DV:=((F 6 [.l x0,.i 0,.l [],.l x39,.i 0,.i 0,.i 0]).getD 3 default).toL
 let x44:=x36 != x42
 let x45:=!x36
 let x46:=x44||x45
 let x48:=!x46
 let x51:=x35==1
 let x52:Bool:=(x37.getD (Int.toNat 0*1+0) default).toB
 let x53:List DV:=(x37.getD (Int.toNat 0*1+1) default).toL
 let y54:List DV:=F 7 [.l x53,.i x1,.i x2,.i x3,.i x4,.i x5,.i x6,.i x7,.i x8,.i x9,.i x10,.i x11,.i x12,.i x13,.i x14,.i x15,.i x16,.i x17,.i x18,.i x19,.i x20,.i x21,.i x22,.l x23,.l x24,.i x25,.i x26,.i x27]
 let x54:Bool:=(dget y54 0).toB
 let x68:=x41==1
 let x69:Bool:=(x43.getD (Int.toNat 0*1+0) default).toB
 let x70:List DV:=(x43.getD (Int.toNat 0*1+1) default).toL
 let y71:List DV:=F 8 [.l x70,.i x1,.i x2,.i x3,.i x4,.i x5,.i x6,.i x7,.i x8,.i x9,.i x10,.i x11,.i x12,.i x13,.i x14,.i x15,.i x16,.i x17,.i x18,.i x19,.i x20,.i x21,.i x22,.l x23,.l x24,.i x25,.i x26,.i x27]
 let x71:Bool:=(dget y71 0).toB
 [ow [] x28,ow [(x31,true)] x34,ow [(x31,true)] x40,ow [(x31,true),(x48,true)] x51,ow [(x31,true),(x48,true)] x52,ow [(x31,true),(x48,true)] x54,ow [(x31,true),(x48,true)] x68,ow [(x31,true),(x48,true)] x69,ow [(x31,true),(x48,true)] x71].all id
noncomputable def R3 (F:FEnv) (x0:List DV) (x1:Int) (x2:Int) (x3:Int) (x4:Int) (x5:Int) (x6:Int) (x7:Int) (x8:Int) (x9:Int) (x10:Int) (x11:Int) (x12:Int) (x13:Int) (x14:Int) (x15:Int) (x16:Int) (x17:Int) (x18:Int) (x19:Int) (x20:Int) (x21:Int) (x22:Int) (x23:List DV) (x24:List DV) (x25:Int) (x26:Int) (x27:Int):Bool :=
 let x29:Bool:=((F 4 []).getD 1 default).toB
 let x30:=!x29
 let x31:=!x30
 let x33:List DV:=[]
 let x36:Bool:=((F 5 [.l x0,.i 0,.l [],.l x33,.i 0,.i 0,.i 0]).getD 2 default).toB
 let x37:List DV:=((F 5 [.l x0,.i 0,.l [],.l x33,.i 0,.i 0,.i 0]).getD 3 default).toL
 let x39:List DV:=[]
 let x42:Bool:=((F 6 [.l x0,.i 0,.l [],.l x39,.i 0,.i 0,.i 0]).getD 2 default).toB
 let x43:List DV:=((F 6 [.l x0,.i 0,.l [],.l x39,.i 0,.i 0,.i 0]).getD 3 default).toL
 let x44:=x36 != x42
 let x45:=!x36
 let x46:=x44||x45
 let x47:=x36==x42
 let x48:=!x46
 let x53:List DV:=(x37.getD (Int.toNat 0*1+1) default).toL
 let y55:List DV:=F 7 [.l x53,.i x1,.i x2,.i x3,.i x4,.i x5,.i x6,.i x7,.i x8,.i x9,.i x10,.i x11,.i x12,.i x13,.i x14,.i x15,.i x16,.i x17,.i x18,.i x19,.i x20,.i x21,.i x22,.l x23,.l x24,.i x25,.i x26,.i x27]
 let x55:Int:=(dget y55 1).toI
 let x56:Int:=(dget y55 2).toI
 let x57:Int:=(dget y55 3).toI
 let x58:Int:=(dget y55 4).toI
 let x59:Int:=(dget y55 5).toI
 let x70:List DV:=(x43.getD (Int.toNat 0*1+1) default).toL
 let y72:List DV:=F 8 [.l x70,.i x1,.i x2,.i x3,.i x4,.i x5,.i x6,.i x7,.i x8,.i x9,.i x10,.i x11,.i x12,.i x13,.i x14,.i x15,.i x16,.i x17,.i x18,.i x19,.i x20,.i x21,.i x22,.l x23,.l x24,.i x25,.i x26,.i x27]
 let x72:Int:=(dget y72 1).toI
 let x73:Int:=(dget y72 2).toI
 let x74:Int:=(dget y72 3).toI
 let x75:Int:=(dget y72 4).toI
 let x76:Int:=(dget y72 5).toI
 let x77:=x55==x72
 let x78:=x56==x73
 let x79:=x57==x74
 let x80:=x58==x75
 let x81:=x79&&x80
 let x82:=x78&&x81
 let x83:=x77&&x82
 let x84:=x59==x76
 let x85:=x83&&x84
 let x102:=bif x48 then x85 else x47
 let x103:=x31&&x102
 x103
theorem zzI (F:FEnv) (x0:List DV) (x1:Int) (x2:Int) (x3:Int) (x4:Int) (x5:Int) (x6:Int) (x7:Int) (x8:Int) (x9:Int) (x10:Int) (x11:Int) (x12:Int) (x13:Int) (x14:Int) (x15:Int) (x16:Int) (x17:Int) (x18:Int) (x19:Int) (x20:Int) (x21:Int) (x22:Int) (x23:List DV) (x24:List DV) (x25:Int) (x26:Int) (x27:Int):outI F s3 o3 [.l x0,.i x1,.i x2,.i x3,.i x4,.i x5,.i x6,.i x7,.i x8,.i x9,.i x10,.i x11,.i x12,.i x13,.i x14,.i x15,.i x16,.i x17,.i x18,.i x19,.i x20,.i x21,.i x22,.l x23,.l x24,.i x25,.i x26,.i x27]=[.b (P3 F x0 x1 x2 x3 x4 x5 x6 x7 x8 x9 x10 x11 x12 x13 x14 x15 x16 x17 x18 x19 x20 x21 x22 x23 x24 x25 x26 x27),.b (R3 F x0 x1 x2 x3 x4 x5 x6 x7 x8 x9 x10 x11 x12 x13 x14 x15 x16 x17 x18 x19 x20 x21 x22 x23 x24 x25 x26 x27)]:=by kernel_rfl
end Go.Proofs.YtedoffkaehcnmaaGreatDoor
namespace Go.Proofs.YtedoffkaehcnmaaGreatDoor
open Go Go.Sx
set_option maxRecDepth 100000
set_option maxHeartbeats 4000000
theorem zyf:KD.ok FE 104600 (.lp zr1 [.i,.l,.i,.i]) :=
 ⟨zkg,zkh,zki,zpD,(fun ds=>by kernel_rfl),(fun ν xs h=>match xs,h with | [x0,x1],_=>by kernel_rfl),
 (fun ν xs h=>match xs,h with | [x0,x1],_=>by kernel_rfl),
 (fun ν xs h=>match xs,h with | [x0,x1],_=>by kernel_rfl),
 (fun ν xs h=>match xs,h with | [x0,x1],_=>by kernel_rfl)⟩
theorem zyg:KD.ok FE 101500 (.lp zr4 [.i,.l,.b,.i,.i]) :=
 ⟨zpL,zpM,zpN,zpO,(fun ds=>by kernel_rfl),(fun ν xs h=>match xs,h with | [x0,x1,x2],_=>by kernel_rfl),
 (fun ν xs h=>match xs,h with | [x0,x1,x2],_=>by kernel_rfl),
 (fun ν xs h=>match xs,h with | [x0,x1,x2],_=>by kernel_rfl),
 (fun ν xs h=>match xs,h with | [x0,x1,x2],_=>by kernel_rfl)⟩
theorem zyh:KD.ok FE 100900 (.lp l9_0 [.i,.i,.i,.l]) :=
 ⟨zko,zkp,zm5,zpQ,(fun ds=>by kernel_rfl),(fun ν xs h=>match xs,h with | [x0,x1],_=>by kernel_rfl),
 (fun ν xs h=>match xs,h with | [x0,x1],_=>by kernel_rfl),
 (fun ν xs h=>match xs,h with | [x0,x1],_=>by kernel_rfl),
 (fun ν xs h=>match xs,h with | [x0,x1],_=>by kernel_rfl)⟩
theorem t17:KD.ok FE 17 (.fn s17 o17):=fun ds _=>e17 ds
theorem t54:KD.ok FE 54 (.fn s54 o54):=fun ds _=>e54 ds
theorem t18:KD.ok FE 18 (.fn s18 o18):=fun ds _=>e18 ds
theorem t55:KD.ok FE 55 (.fn s55 o55):=fun ds _=>e55 ds
theorem t64:KD.ok FE 64 (.fn s64 o64):=fun ds _=>e64 ds
theorem t60:KD.ok FE 60 (.fn s60 o60):=fun ds _=>e60 ds
theorem t103:KD.ok FE 103 (.fn s103 o103):=fun ds _=>e103 ds
theorem t102:KD.ok FE 102 (.fn s102 o102):=fun ds _=>e102 ds
theorem t101:KD.ok FE 101 (.fn s101 o101):=fun ds _=>e101 ds
theorem t19:KD.ok FE 19 (.fn s19 o19):=fun ds _=>e19 ds
theorem t61:KD.ok FE 61 (.fn s61 o61):=fun ds _=>e61 ds
theorem t106:KD.ok FE 106 (.fn s106 o106):=fun ds _=>e106 ds
theorem t105:KD.ok FE 105 (.fn s105 o105):=fun ds _=>e105 ds
theorem t56:KD.ok FE 56 (.fn s56 o56):=fun ds _=>e56 ds
theorem t45:KD.ok FE 45 (.fn s45 o45):=fun ds h=>match ds,h with
 | [d0,d1,d2],_=>by kernel_rfl
theorem t46:KD.ok FE 46 (.fn s46 o46):=fun ds h=>match ds,h with
 | [d0,d1,d2],_=>by kernel_rfl
theorem t16:KD.ok FE 16 (.hand g25h):=zwg
theorem t15:KD.ok FE 15 (.fn s15 o15):=fun ds h=>match ds,h with
 | [d0],_=>by kernel_rfl
theorem t47:KD.ok FE 47 (.fn s47 o47):=fun ds _=>e47 ds
theorem t48:KD.ok FE 48 (.fn s48 o48):=fun ds _=>e48 ds
theorem t27:KD.ok FE 27 (.fn s27 o27):=fun ds h=>match ds,h with
 | [d0,d1,d2],_=>by kernel_rfl
theorem t5:KD.ok FE 5 (.fn s5 o5):=fun ds h=>match ds,h with
 | [d0,d1,d2,d3,d4,d5,d6],_=>by kernel_rfl
theorem t39:KD.ok FE 39 (.fn s39 o39):=fun ds _=>e39 ds
theorem t29:KD.ok FE 29 (.fn s29 o29):=fun ds _=>e29 ds
theorem t57:KD.ok FE 57 (.fn s57 o57):=fun ds h=>match ds,h with
 | [d0],_=>by kernel_rfl
theorem t43:KD.ok FE 43 (.fn s43 o43):=fun ds _=>e43 ds
theorem t58:KD.ok FE 58 (.fn s58 o58):=fun ds h=>match ds,h with
 | [d0],_=>by kernel_rfl
theorem t44:KD.ok FE 44 (.fn s44 o44):=fun ds h=>match ds,h with
 | [d0,d1,d2],_=>by kernel_rfl
theorem t26:KD.ok FE 26 (.fn s26 o26):=fun ds h=>match ds,h with
 | [d0,d1,d2,d3,d4,d5],_=>by kernel_rfl
theorem t40:KD.ok FE 40 (.fn s40 o40):=fun ds h=>match ds,h with
 | [d0],_=>by kernel_rfl
theorem t28:KD.ok FE 28 (.fn s28 o28):=fun ds h=>match ds,h with
 | [d0],_=>by kernel_rfl
theorem t30:KD.ok FE 30 (.fn s30 o30):=fun ds h=>match ds,h with
 | [d0],_=>by kernel_rfl
theorem t12:KD.ok FE 12 (.fn s12 o12):=fun ds _=>e12 ds
theorem t13:KD.ok FE 13 (.fn s13 o13):=fun ds h=>match ds,h with
 | [d0,d1,d2,d3,d4,d5,d6,d7,d8,d9,d10,d11,d12,d13,d14,d15,d16,d17,d18,d19,d20,d21,d22,d23,d24,d25,d26],_=>by kernel_rfl
theorem t7:KD.ok FE 7 (.fn s7 o7):=fun ds _=>e7 ds
theorem t11:KD.ok FE 11 (.fn s11 o11):=fun ds _=>e11 ds
theorem t9:KD.ok FE 9 (.hand g17h):=zwh
theorem t10:KD.ok FE 10 (.fn s10 o10):=fun ds _=>e10 ds
theorem t4:KD.ok FE 4 (.fn s4 o4):=fun ds _=>e4 ds
theorem t14:KD.ok FE 14 (.hand g14):=fun _=>rfl
theorem t41:KD.ok FE 41 (.hand g41):=fun _=>rfl
theorem t59:KD.ok FE 59 (.hand g59):=fun _=>rfl
theorem t97:KD.ok FE 97 (.hand g97):=fun _=>rfl
noncomputable def tabK:List (Nat×KD):=[(104600,.lp zr1 [.i,.l,.i,.i]),(101500,.lp zr4 [.i,.l,.b,.i,.i]),(100900,.lp l9_0 [.i,.i,.i,.l]),(17,.fn s17 o17),(54,.fn s54 o54),(18,.fn s18 o18),(55,.fn s55 o55),(64,.fn s64 o64),(60,.fn s60 o60),(103,.fn s103 o103),(102,.fn s102 o102),(101,.fn s101 o101),(19,.fn s19 o19),(61,.fn s61 o61),(106,.fn s106 o106),(105,.fn s105 o105),(56,.fn s56 o56),(45,.fn s45 o45),(46,.fn s46 o46),(16,.hand g25h),(15,.fn s15 o15),(47,.fn s47 o47),(48,.fn s48 o48),(27,.fn s27 o27),(5,.fn s5 o5),(39,.fn s39 o39),(29,.fn s29 o29),(57,.fn s57 o57),(43,.fn s43 o43),(58,.fn s58 o58),(44,.fn s44 o44),(26,.fn s26 o26),(40,.fn s40 o40),(28,.fn s28 o28),(30,.fn s30 o30),(12,.fn s12 o12),(13,.fn s13 o13),(7,.fn s7 o7),(11,.fn s11 o11),(9,.hand g17h),(10,.fn s10 o10),(4,.fn s4 o4),(14,.hand g14),(41,.hand g41),(59,.hand g59),(97,.hand g97)]
theorem zyi:∀ f c,assoc tabK f=some c→c.ok FE f:=fun f c h=>zaC (Q:=fun f c=>KD.ok FE f c) (l:=tabK)
 (show ∀ p∈[(104600,.lp zr1 [.i,.l,.i,.i]),(101500,.lp zr4 [.i,.l,.b,.i,.i]),(100900,.lp l9_0 [.i,.i,.i,.l]),(17,.fn s17 o17),(54,.fn s54 o54),(18,.fn s18 o18),(55,.fn s55 o55),(64,.fn s64 o64),(60,.fn s60 o60),(103,.fn s103 o103),(102,.fn s102 o102),(101,.fn s101 o101),(19,.fn s19 o19),(61,.fn s61 o61),(106,.fn s106 o106),(105,.fn s105 o105),(56,.fn s56 o56),(45,.fn s45 o45),(46,.fn s46 o46),(16,.hand g25h),(15,.fn s15 o15),(47,.fn s47 o47),(48,.fn s48 o48),(27,.fn s27 o27),(5,.fn s5 o5),(39,.fn s39 o39),(29,.fn s29 o29),(57,.fn s57 o57),(43,.fn s43 o43),(58,.fn s58 o58),(44,.fn s44 o44),(26,.fn s26 o26),(40,.fn s40 o40),(28,.fn s28 o28),(30,.fn s30 o30),(12,.fn s12 o12),(13,.fn s13 o13),(7,.fn s7 o7),(11,.fn s11 o11),(9,.hand g17h),(10,.fn s10 o10),(4,.fn s4 o4),(14,.hand g14),(41,.hand g41),(59,.hand g59),(97,.hand g97)],KD.ok FE p.1 p.2 from
 List.forall_mem_cons.2 ⟨zyf,List.forall_mem_cons.2 ⟨zyg,List.forall_mem_cons.2 ⟨zyh,List.forall_mem_cons.2 ⟨t17,List.forall_mem_cons.2 ⟨t54,List.forall_mem_cons.2 ⟨t18,List.forall_mem_cons.2 ⟨t55,List.forall_mem_cons.2 ⟨t64,List.forall_mem_cons.2 ⟨t60,List.forall_mem_cons.2 ⟨t103,List.forall_mem_cons.2 ⟨t102,List.forall_mem_cons.2 ⟨t101,List.forall_mem_cons.2 ⟨t19,List.forall_mem_cons.2 ⟨t61,List.forall_mem_cons.2 ⟨t106,List.forall_mem_cons.2 ⟨t105,List.forall_mem_cons.2 ⟨t56,List.forall_mem_cons.2 ⟨t45,List.forall_mem_cons.2 ⟨t46,List.forall_mem_cons.2 ⟨t16,List.forall_mem_cons.2 ⟨t15,List.forall_mem_cons.2 ⟨t47,List.forall_mem_cons.2 ⟨t48,List.forall_mem_cons.2 ⟨t27,List.forall_mem_cons.2 ⟨t5,List.forall_mem_cons.2 ⟨t39,List.forall_mem_cons.2 ⟨t29,List.forall_mem_cons.2 ⟨t57,List.forall_mem_cons.2 ⟨t43,List.forall_mem_cons.2 ⟨t58,List.forall_mem_cons.2 ⟨t44,List.forall_mem_cons.2 ⟨t26,List.forall_mem_cons.2 ⟨t40,List.forall_mem_cons.2 ⟨t28,List.forall_mem_cons.2 ⟨t30,List.forall_mem_cons.2 ⟨t12,List.forall_mem_cons.2 ⟨t13,List.forall_mem_cons.2 ⟨t7,List.forall_mem_cons.2 ⟨t11,List.forall_mem_cons.2 ⟨t9,List.forall_mem_cons.2 ⟨t10,List.forall_mem_cons.2 ⟨t4,List.forall_mem_cons.2 ⟨t14,List.forall_mem_cons.2 ⟨t41,List.forall_mem_cons.2 ⟨t59,List.forall_mem_cons.2 ⟨t97,fun _ h=>(by cases h)⟩⟩⟩⟩⟩⟩⟩⟩⟩⟩⟩⟩⟩⟩⟩⟩⟩⟩⟩⟩⟩⟩⟩⟩⟩⟩⟩⟩⟩⟩⟩⟩⟩⟩⟩⟩⟩⟩⟩⟩⟩⟩⟩⟩⟩⟩) h
end Go.Proofs.YtedoffkaehcnmaaGreatDoor
namespace Go.Proofs.YtedoffkaehcnmaaGreatDoor
open Go Go.Sx
set_option maxRecDepth 100000
theorem zri:FE 4 []=[.b true,.b true]:=zok zyi 40 4 [] _ (by kernel_rfl)
end Go.Proofs.YtedoffkaehcnmaaGreatDoor
namespace Go.Proofs.YtedoffkaehcnmaaGreatDoor
open Go Go.Sx
set_option maxRecDepth 100000
theorem zvy (k:Int):zdB k=ziv k:=by
 unfold zdB ziv
 generalize (k==0)=a
 generalize (k==2)=b
 generalize (k==3)=c
 cases a<;>cases b<;>cases c<;>rfl
theorem zr9 (k:Int):ziw k=zkl k:=by
 unfold ziw zkl
 generalize (k==0)=a
 generalize (k==2)=b
 generalize (k==3)=c
 cases a<;>cases b<;>cases c<;>rfl
theorem zyj (img:List DV) (a:Int) (h:ziu a 8=true):ent (bus0 img) a=zr2 (zbt img 2147483648 []) a 8:=by
 unfold ent zos rd29
 rw [zre _ a h]
 rfl
theorem both (img:List DV) (hi:∀ b∈img,0≤b.toI∧b.toI<256) (x1 x21:Int) (x23 x24:List DV) (x25 x26 x27:Int) (h10:0≤x1) (h11:x1<18446744073709551616) (h210:0≤x21) (h211:x21<18446744073709551616)
  (hcfg:∀ n,R8 (at8 x23 n)) (hadr:∀ n,R64 (at8 x24 n)) (h0:0≤x27) (h1:x27<18446744073709551616) :
  N8 (ref0 img) x1 x21 x23 x24 x25 x26 x27=[.b true,.i (WA (bus0 img) x1 x21 x23 x24 x25 x26 x27).1,.i (WA (bus0 img) x1 x21 x23 x24 x25 x26 x27).2.1,.i (WA (bus0 img) x1 x21 x23 x24 x25 x26 x27).2.2.1,.i (WA (bus0 img) x1 x21 x23 x24 x25 x26 x27).2.2.2.1,.i (WA (bus0 img) x1 x21 x23 x24 x25 x26 x27).2.2.2.2]:=by
 have hm:∀ A:Int,0≤ramAt (zbt img 2147483648 []) A∧ramAt (zbt img 2147483648 []) A<256:=zox img _ [] hi fun _=>⟨by show (0:Int)≤0;decide,by show (0:Int)<256;decide⟩
 obtain ⟨W,hW,hN⟩:=zwz (ref0 img) hm x1 x21 x23 x24 x25 x26 x27 h10 h11 h210 h211 hcfg hadr h0 h1
 have hE:W=WA (bus0 img) x1 x21 x23 x24 x25 x26 x27:=by
  rw [hW,zvy,zr9]
  refine zwy fun a ha=>?_
  have hp:=ziR ha
  have hq:zfc a 8=true:=hp
  have:=zwX hq
  rw [zyj img a hp]
  exact (zow _ (by omega) (by omega) hm).2 hq
 rw [hN,hE]
theorem fs5 (img:List DV):FE 5 [.l img,.i 0,.l [],.l [],.i 0,.i 0,.i 0]=[.b (p5 img []),.i (r5_0 img []),.b (r5_1 img []),.l (r5_2 img [])]:=rfl
theorem fs6 (img:List DV):FE 6 [.l img,.i 0,.l [],.l [],.i 0,.i 0,.i 0]=[.b (p6 img []),.i (r6_0 img []),.b (r6_1 img []),.l (r6_2 img [])]:=rfl
theorem fw (b:List DV) (hs:zor b) (x1 x2 x3 x4 x5 x6 x7 x8 x9 x10 x11 x12 x13 x14 x15 x16 x17 x18 x19 x20 x21 x22:Int) (x23 x24:List DV) (x25 x26 t:Int):(dget (FE 7 [.l b,.i x1,.i x2,.i x3,.i x4,.i x5,.i x6,.i x7,.i x8,.i x9,.i x10,.i x11,.i x12,.i x13,.i x14,.i x15,.i x16,.i x17,.i x18,.i x19,.i x20,.i x21,.i x22,.l x23,.l x24,.i x25,.i x26,.i t]) 0).toB=true∧(dget (FE 7 [.l b,.i x1,.i x2,.i x3,.i x4,.i x5,.i x6,.i x7,.i x8,.i x9,.i x10,.i x11,.i x12,.i x13,.i x14,.i x15,.i x16,.i x17,.i x18,.i x19,.i x20,.i x21,.i x22,.l x23,.l x24,.i x25,.i x26,.i t]) 1).toI=(WA b x1 x21 x23 x24 x25 x26 t).1∧(dget (FE 7 [.l b,.i x1,.i x2,.i x3,.i x4,.i x5,.i x6,.i x7,.i x8,.i x9,.i x10,.i x11,.i x12,.i x13,.i x14,.i x15,.i x16,.i x17,.i x18,.i x19,.i x20,.i x21,.i x22,.l x23,.l x24,.i x25,.i x26,.i t]) 2).toI=(WA b x1 x21 x23 x24 x25 x26 t).2.1∧(dget (FE 7 [.l b,.i x1,.i x2,.i x3,.i x4,.i x5,.i x6,.i x7,.i x8,.i x9,.i x10,.i x11,.i x12,.i x13,.i x14,.i x15,.i x16,.i x17,.i x18,.i x19,.i x20,.i x21,.i x22,.l x23,.l x24,.i x25,.i x26,.i t]) 3).toI=(WA b x1 x21 x23 x24 x25 x26 t).2.2.1∧(dget (FE 7 [.l b,.i x1,.i x2,.i x3,.i x4,.i x5,.i x6,.i x7,.i x8,.i x9,.i x10,.i x11,.i x12,.i x13,.i x14,.i x15,.i x16,.i x17,.i x18,.i x19,.i x20,.i x21,.i x22,.l x23,.l x24,.i x25,.i x26,.i t]) 4).toI=(WA b x1 x21 x23 x24 x25 x26 t).2.2.2.1∧(dget (FE 7 [.l b,.i x1,.i x2,.i x3,.i x4,.i x5,.i x6,.i x7,.i x8,.i x9,.i x10,.i x11,.i x12,.i x13,.i x14,.i x15,.i x16,.i x17,.i x18,.i x19,.i x20,.i x21,.i x22,.l x23,.l x24,.i x25,.i x26,.i t]) 5).toI=(WA b x1 x21 x23 x24 x25 x26 t).2.2.2.2:=by
 have e:FE 7 [.l b,.i x1,.i x2,.i x3,.i x4,.i x5,.i x6,.i x7,.i x8,.i x9,.i x10,.i x11,.i x12,.i x13,.i x14,.i x15,.i x16,.i x17,.i x18,.i x19,.i x20,.i x21,.i x22,.l x23,.l x24,.i x25,.i x26,.i t]=_:=(zzD ..).trans (zAq b x1 x21 x23 x24 x25 x26 t hs)
 rw [e]
 exact ⟨rfl,rfl,rfl,rfl,rfl,rfl⟩
theorem f8 (b:List DV) (x1 x2 x3 x4 x5 x6 x7 x8 x9 x10 x11 x12 x13 x14 x15 x16 x17 x18 x19 x20 x21 x22:Int) (x23 x24:List DV) (x25 x26 t:Int):FE 8 [.l b,.i x1,.i x2,.i x3,.i x4,.i x5,.i x6,.i x7,.i x8,.i x9,.i x10,.i x11,.i x12,.i x13,.i x14,.i x15,.i x16,.i x17,.i x18,.i x19,.i x20,.i x21,.i x22,.l x23,.l x24,.i x25,.i x26,.i t]=N8 b x1 x21 x23 x24 x25 x26 t:=zzG ..
theorem zyk (img:List DV) (x1 x2 x3 x4 x5 x6 x7 x8 x9 x10 x11 x12 x13 x14 x15 x16 x17 x18 x19 x20 x21 x22:Int) (x23 x24:List DV) (x25 x26 x27:Int) (hi:∀ b∈img,0≤b.toI∧b.toI<256) (h10:0≤x1) (h11:x1<18446744073709551616) (h210:0≤x21) (h211:x21<18446744073709551616) (hcfg:∀ n,R8 (at8 x23 n)) (hadr:∀ n,R64 (at8 x24 n)) (h0:0≤x27) (h1:x27<18446744073709551616):P3 FE img x1 x2 x3 x4 x5 x6 x7 x8 x9 x10 x11 x12 x13 x14 x15 x16 x17 x18 x19 x20 x21 x22 x23 x24 x25 x26 x27=true:=by
 obtain ⟨n1,n2,n3,n4⟩:=zzh img
 obtain ⟨m1,m2,m3,m4⟩:=new6 img
 unfold P3
 extract_lets -merge x28 x29 x30 x31 x33 x34 x35 x36 x37 x39 x40 x41 x42 x43 x44 x45 x46 x48 x51 x52 x53 y54 x54 x68 x69 x70 y71 x71
 have u28:x28=true:=congrArg (fun l:List DV=>(l.getD 0 default).toB) zri
 have u34:x34=true:=(congrArg (fun l:List DV=>(l.getD 0 default).toB) (fs5 img)).trans n1
 have u40:x40=true:=(congrArg (fun l:List DV=>(l.getD 0 default).toB) (fs6 img)).trans m1
 have e35:x35=bif decide (img.length≤1048576) then 1 else 0:=(congrArg (fun l:List DV=>(l.getD 1 default).toI) (fs5 img)).trans n3
 have e41:x41=bif decide (img.length≤1048576) then 1 else 0:=(congrArg (fun l:List DV=>(l.getD 1 default).toI) (fs6 img)).trans m3
 have e36:x36=decide (img.length≤1048576):=(congrArg (fun l:List DV=>(l.getD 2 default).toB) (fs5 img)).trans n2
 have e42:x42=decide (img.length≤1048576):=(congrArg (fun l:List DV=>(l.getD 2 default).toB) (fs6 img)).trans m2
 have e37:x37=r5_2 img []:=congrArg (fun l:List DV=>(l.getD 3 default).toL) (fs5 img)
 have e43:x43=r6_2 img []:=congrArg (fun l:List DV=>(l.getD 3 default).toL) (fs6 img)
 cases hc:decide (img.length≤1048576) with
 | false =>
  have e48:x48=false:=by show (!((x36 != x42)||!x36))=false;rw [e36,e42,hc];rfl
  rw [e48,u28,u34,u40]
  simp [ow]
 | true =>
  rw [n4 (of_decide_eq_true hc)] at e37
  rw [m4 (of_decide_eq_true hc)] at e43
  have u51:x51=true:=by show (x35==1)=true;rw [e35,hc];rfl
  have u68:x68=true:=by show (x41==1)=true;rw [e41,hc];rfl
  have u52:x52=true:=by show (x37.getD 0 default).toB=true;rw [e37];rfl
  have u69:x69=true:=by show (x43.getD 0 default).toB=true;rw [e43];rfl
  have e53:x53=bus0 img:=by show (x37.getD 1 default).toL=_;rw [e37];rfl
  have e70:x70=ref0 img:=by show (x43.getD 1 default).toL=_;rw [e43];rfl
  have u54:x54=true:=(fw x53 (by rw [e53];exact zkT img) x1 x2 x3 x4 x5 x6 x7 x8 x9 x10 x11 x12 x13 x14 x15 x16 x17 x18 x19 x20 x21 x22 x23 x24 x25 x26 x27).1
  have y:y71=_:=f8 x70 x1 x2 x3 x4 x5 x6 x7 x8 x9 x10 x11 x12 x13 x14 x15 x16 x17 x18 x19 x20 x21 x22 x23 x24 x25 x26 x27
  rw [e70,both img hi x1 x21 x23 x24 x25 x26 x27 h10 h11 h210 h211 hcfg hadr h0 h1] at y
  have u71:x71=true:=congrArg (fun l:List DV=>(dget l 0).toB) y
  simp only [List.all_cons,List.all_nil,id_eq,zam u28,zam u34,zam u40,zam u51,zam u52,zam u54,zam u68,zam u69,zam u71,Bool.and_self]
theorem zyl (img:List DV) (x1 x2 x3 x4 x5 x6 x7 x8 x9 x10 x11 x12 x13 x14 x15 x16 x17 x18 x19 x20 x21 x22:Int) (x23 x24:List DV) (x25 x26 x27:Int) (hi:∀ b∈img,0≤b.toI∧b.toI<256) (h10:0≤x1) (h11:x1<18446744073709551616) (h210:0≤x21) (h211:x21<18446744073709551616) (hcfg:∀ n,R8 (at8 x23 n)) (hadr:∀ n,R64 (at8 x24 n)) (h0:0≤x27) (h1:x27<18446744073709551616):R3 FE img x1 x2 x3 x4 x5 x6 x7 x8 x9 x10 x11 x12 x13 x14 x15 x16 x17 x18 x19 x20 x21 x22 x23 x24 x25 x26 x27=true:=by
 obtain ⟨n1,n2,n3,n4⟩:=zzh img
 obtain ⟨m1,m2,m3,m4⟩:=new6 img
 unfold R3
 extract_lets -merge x29 x30 x31 x33 x36 x37 x39 x42 x43 x44 x45 x46 x47 x48 x53 y55 x55 x56 x57 x58 x59 x70 y72 x72 x73 x74 x75 x76 x77 x78 x79 x80 x81 x82 x83 x84 x85 x102 x103
 have e29:x29=true:=congrArg (fun l:List DV=>(l.getD 1 default).toB) zri
 have e31:x31=true:=by show (!(!x29))=true;rw [e29];rfl
 have e36:x36=decide (img.length≤1048576):=(congrArg (fun l:List DV=>(l.getD 2 default).toB) (fs5 img)).trans n2
 have e42:x42=decide (img.length≤1048576):=(congrArg (fun l:List DV=>(l.getD 2 default).toB) (fs6 img)).trans m2
 have e37:x37=r5_2 img []:=congrArg (fun l:List DV=>(l.getD 3 default).toL) (fs5 img)
 have e43:x43=r6_2 img []:=congrArg (fun l:List DV=>(l.getD 3 default).toL) (fs6 img)
 show (x31&&bif x48 then (((x55==x72)&&((x56==x73)&&((x57==x74)&&(x58==x75))))&&(x59==x76)) else (x36==x42))=true
 rw [e31,Bool.true_and]
 cases hc:decide (img.length≤1048576) with
 | false =>
  have e48:x48=false:=by show (!((x36 != x42)||!x36))=false;rw [e36,e42,hc];rfl
  rw [e48,e36,e42,hc]
  rfl
 | true =>
  have e48:x48=true:=by show (!((x36 != x42)||!x36))=true;rw [e36,e42,hc];rfl
  rw [e48,cond_true]
  rw [n4 (of_decide_eq_true hc)] at e37
  rw [m4 (of_decide_eq_true hc)] at e43
  have e53:x53=bus0 img:=by show (x37.getD 1 default).toL=_;rw [e37];rfl
  have e70:x70=ref0 img:=by show (x43.getD 1 default).toL=_;rw [e43];rfl
  obtain ⟨_,w0,w1,w2,w3,w4⟩:=fw x53 (by rw [e53];exact zkT img) x1 x2 x3 x4 x5 x6 x7 x8 x9 x10 x11 x12 x13 x14 x15 x16 x17 x18 x19 x20 x21 x22 x23 x24 x25 x26 x27
  have e55:x55=_:=w0
  have e56:x56=_:=w1
  have e57:x57=_:=w2
  have e58:x58=_:=w3
  have e59:x59=_:=w4
  have y:y72=_:=f8 x70 x1 x2 x3 x4 x5 x6 x7 x8 x9 x10 x11 x12 x13 x14 x15 x16 x17 x18 x19 x20 x21 x22 x23 x24 x25 x26 x27
  rw [e70,both img hi x1 x21 x23 x24 x25 x26 x27 h10 h11 h210 h211 hcfg hadr h0 h1] at y
  have e72:x72=_:=congrArg (fun l:List DV=>(dget l 1).toI) y
  have e73:x73=_:=congrArg (fun l:List DV=>(dget l 2).toI) y
  have e74:x74=_:=congrArg (fun l:List DV=>(dget l 3).toI) y
  have e75:x75=_:=congrArg (fun l:List DV=>(dget l 4).toI) y
  have e76:x76=_:=congrArg (fun l:List DV=>(dget l 5).toI) y
  rw [e53] at e55 e56 e57 e58 e59
  rw [e55,e56,e57,e58,e59,e72,e73,e74,e75,e76]
  simp [dget]
end Go.Proofs.YtedoffkaehcnmaaGreatDoor
namespace Go.Sx
open Go Go.ChangeShapes Go.WideShapes Go.RowKit
inductive Sh where
 | one (t:LT)
 | agg (l:List LT)
 deriving Inhabited
def Sh.lts:Sh→List LT
 | .one t=>[t]
 | .agg l=>l
def nIn (ss:List Sh):Nat:=(ss.map fun s=>s.lts.length).sum
def LT.conc (t:LT) (d:DV):Value :=
 match t with
 | .int k=>.int k d.toI
 | .bool=>.bool d.toB
 | .vec _=>.bool false
def zdv (g:Nat→DV):Nat→List LT→List Value
 | _,[]=>[]
 | j,t::ts=>t.conc (g j)::zdv g (j+1) ts
def zdC (g:Nat→DV):Nat→List Sh→List Value
 | _,[]=>[]
 | j,.one t::ss=>t.conc (g j)::zdC g (j+1) ss
 | j,.agg ts::ss=>.agg (zdv g j ts).toArray::zdC g (j+ts.length) ss
def LT.pat (j:Nat):LT→Lf
 | .int k=>.i k (.h j)
 | .bool=>.b (.h j)
 | .vec _=>.b (.t false)
def zc5:Nat→List LT→List Lf
 | _,[]=>[]
 | j,t::ts=>t.pat j::zc5 (j+1) ts
def patShapes:Nat→List Sh→List V
 | _,[]=>[]
 | j,.one t::ss=>.s (.one (t.pat j))::patShapes (j+1) ss
 | j,.agg ts::ss=>.s (.agg (zc5 j ts))::patShapes (j+ts.length) ss
theorem zfi:∀ (k n j:Nat),j<k→(zap n k).getD j default = .r (n+j)
 | 0,_,_,h=>by omega
 | k+1,n,0,_=>rfl
 | k+1,n,j+1,h=>by
  have:=zfi k (n+1) j (by omega)
  simp only [zap,List.getD_cons_succ,this]
  congr 1
  omega
theorem zrj {n:Nat} (g:Nat→DV) (ρ:Nat→Loc) {t:LT} {j:Nat} (h:j<n):((t.pat j).inst (zap 0 n)).conc g ρ=t.conc (g j)∧((t.pat j).inst (zap 0 n)).good g:=by
 have e:(A.h j).inst (zap 0 n) = .r j:=by
  have:=zfi n 0 j h
  simpa [A.inst] using this
 cases t with
 | int k=>exact ⟨by simp only [LT.pat,Lf.inst,e];rfl,trivial⟩
 | bool=>exact ⟨by simp only [LT.pat,Lf.inst,e];rfl,trivial⟩
 | vec ts=>exact ⟨rfl,trivial⟩
theorem zfS {n:Nat} (g:Nat→DV) (ρ:Nat→Loc):∀ (ts:List LT) (j:Nat),j+ts.length≤n→((zc5 j ts).map (Lf.inst (zap 0 n))).map (Lf.conc g ρ)=zdv g j ts∧∀ x∈(zc5 j ts).map (Lf.inst (zap 0 n)),Lf.good g x
 | [],j,_=>⟨rfl,fun x hx=>by cases hx⟩
 | t::ts,j,h=>by
  simp only [List.length_cons] at h
  obtain ⟨h1,h2⟩:=zfS (n:=n) g ρ ts (j+1) (by omega)
  obtain ⟨h3,h4⟩:=zrj g ρ (t:=t) (show j<n by omega)
  refine ⟨by simp only [zc5,List.map_cons,zdv,h1,h3],fun x hx=>?_⟩
  simp only [zc5,List.map_cons] at hx
  rcases List.mem_cons.1 hx with rfl | hx
  ·exact h4
  ·exact h2 x hx
def zfT (P:Program) (rec:TypeId→Option (List LT)):Nat→List Field→Option (List LT)
 | _,[]=>some []
 | o,f::fs =>
  if Nat.beq f.offset o then
   match rec f.type with
   | none=>none
   | some l =>
    if Nat.beq l.length (P.cellsOf f.type) then
     match zfT P rec (o+l.length) fs with
     | none=>none
     | some r=>some (l++r)
    else none
  else none
def zfj (P:Program):Nat→TypeId→Option (List LT)
 | 0,_=>none
 | d+1,t =>
  match P.underlying t with
  | some .bool=>some [.bool]
  | some (.int k)=>some [.int k]
  | some (.array n e) =>
   match zfj P d e with
   | none=>none
   | some l=>if Nat.beq l.length (P.cellsOf e)&&Nat.beq (P.cellsOf t) (n*l.length) then some (List.replicate n l).flatten else none
  | some (.struct fs) =>
   match zfT P (zfj P d) 0 fs.toList with
   | none=>none
   | some l=>if Nat.beq l.length (P.cellsOf t) then some l else none
  | _=>none
def zql (P:Program) (t:TypeId):Option Sh :=
 match P.underlying t with
 | some .bool=>some (.one .bool)
 | some (.int k)=>some (.one (.int k))
 | some (.array _ _)=>(zfj P 20 t).map .agg
 | some (.struct _)=>(zfj P 20 t).map .agg
 | _=>none
def zkY:LT→Value→Prop
 | .int k,.int k' n=>k'=k∧(Lit.int k n).wf=true
 | .bool,.bool _=>True
 | _,_=>False
def zcg:List LT→List Value→Prop
 | [],[]=>True
 | t::ts,v::vs=>zkY t v∧zcg ts vs
 | _,_=>False
theorem zcg.len:∀ {ts:List LT} {vs:List Value},zcg ts vs→vs.length=ts.length
 | [],[],_=>rfl
 | _::_,_::_,h=>by simp [zcg.len h.2]
 | [],_::_,h=>h.elim
 | _::_,[],h=>h.elim
theorem zcg.append:∀ {a b:List LT} {c d:List Value},zcg a c→zcg b d→zcg (a++b) (c++d)
 | [],_,[],_,_,h=>h
 | _::_,_,_::_,_,h,h'=>⟨h.1,zcg.append h.2 h'⟩
 | [],_,_::_,_,h,_=>h.elim
 | _::_,_,[],_,h,_=>h.elim
theorem zhT {α β γ:Type} {f g:α→Option (β×List γ)} : ∀ {l:List α} {xs:List (β×List γ)},l.mapM f=some xs →
  (∀ a∈l,∀ y,f a=some y→g a=some y∧y.2=[])→l.mapM g=some xs∧xs.flatMap (·.2)=[]∧∀ a∈l,∃ y,f a=some y
 | [],xs,h,_=>by
  simp at h
  subst h
  exact ⟨by simp,rfl,fun a ha=>by cases ha⟩
 | a::l,xs,h,hc=>by
  simp only [List.mapM_cons,Option.bind_eq_bind,Option.bind_eq_some_iff,Option.pure_def,Option.some.injEq] at h
  obtain ⟨y,hy,ys,hys,rfl⟩:=h
  obtain ⟨h1,h2⟩:=hc a (by simp) y hy
  obtain ⟨h3,h4,h5⟩:=zhT hys (fun b hb=>hc b (List.mem_cons_of_mem _ hb))
  refine ⟨by simp [List.mapM_cons,h1,h3],by simp only [List.flatMap_cons,h2,h4,List.nil_append],fun b hb=>?_⟩
  rcases List.mem_cons.1 hb with rfl | hb
  ·exact ⟨y,hy⟩
  ·exact h5 b hb
theorem zkZ {l:List LT} {c:Nat} (hl:l.length=c):∀ {n:Nat} {cs:List Value},cs.length=n*c→(∀ i,i<n→zcg l ((cs.drop (i*c)).take c))→zcg (List.replicate n l).flatten cs
 | 0,cs,h,_=>by
  have:cs=[]:=List.eq_nil_of_length_eq_zero (by simpa using h)
  subst this
  trivial
 | n+1,cs,h,hp=>by
  have h0:=hp 0 (by omega)
  simp only [Nat.zero_mul,List.drop_zero] at h0
  have h1:=zkZ hl (n:=n) (cs:=cs.drop c) (by rw [List.length_drop,h,Nat.succ_mul];omega) (fun i hi=>by
   have:=hp (i+1) (by omega)
   rw [List.drop_drop]
   rwa [show c+i*c=(i+1)*c from by rw [Nat.succ_mul];omega])
  have:=zcg.append h0 h1
  rw [List.take_append_drop] at this
  simpa [List.replicate_succ] using this
section
variable {H:Type} {enc:TypeId×Value→H} {P:Program}
def zzJ (enc:TypeId×Value→H) (P:Program) (fuel:Nat) (t:TypeId) (lts:List LT):Prop :=
 ∀ (w:World) (base:Nat) (sp:Nat→Bool) (held:Bool) (cs:List Value) (x:DataW H) (ps:List MemPlace),DataW.trod enc P w base sp held fuel t cs=some (x,ps) →
  zcg lts cs∧ps=[]∧∀ (w':World) (base':Nat) (sp':Nat→Bool) (held':Bool),DataW.trod enc P w' base' sp' held' fuel t cs=some (x,[])
theorem zhl {rec:TypeId→Option (List LT)} {cs:List Value} : ∀ {fs:List Field} {o:Nat} {l:List LT},zfT P rec o fs=some l→cs.length=o+l.length →
  (∀ f∈fs,∀ r,rec f.type=some r→zcg r ((cs.drop f.offset).take (P.cellsOf f.type)))→zcg l (cs.drop o)
 | [],o,l,h,hlen,_=>by
  simp [zfT] at h
  subst h
  rw [List.drop_of_length_le (by simpa using Nat.le_of_eq hlen)]
  trivial
 | f::fs,o,l,h,hlen,hp=>by
  simp only [zfT] at h
  split at h
  ·rename_i ho
   have ho:=Nat.eq_of_beq_eq_true ho
   split at h
   ·cases h
   ·rename_i r hr
    split at h
    ·rename_i hc
     have hc:=Nat.eq_of_beq_eq_true hc
     split at h
     ·cases h
     ·rename_i r' hr'
      cases h
      have h0:=hp f (by simp) r hr
      have h1:=zhl hr' (by simp at hlen;omega) (fun g hg=>hp g (List.mem_cons_of_mem _ hg))
      rw [ho,←hc] at h0
      have h2:=zcg.append h0 h1
      rw [←List.drop_drop,List.take_append_drop] at h2
      exact h2
    ·cases h
  ·cases h
theorem zcA:∀ (d:Nat) {t:TypeId} {lts:List LT},zfj P d t=some lts→∀ fuel,zzJ enc P fuel t lts
 | 0,_,_,h,_=>by cases h
 | d+1,t,lts,h,fuel=>by
  intro w base sp held cs x ps hx
  cases fuel with
  | zero=>simp [DataW.trod] at hx
  | succ fuel =>
   simp only [zfj] at h
   split at h
   ·rename_i hu
    cases h
    obtain ⟨b,rfl,he⟩:=DataW.trod_bool hu hx
    cases he
    exact ⟨⟨trivial,trivial⟩,rfl,fun _ _ _ _=>by simp [DataW.trod,hu]⟩
   ·rename_i k hu
    cases h
    obtain ⟨n,rfl,he,hw⟩:=DataW.trod_int hu hx
    cases he
    exact ⟨⟨⟨rfl,hw⟩,trivial⟩,rfl,fun _ _ _ _=>by simp [DataW.trod,hu,hw]⟩
   ·rename_i n e hu
    split at h
    ·cases h
    ·rename_i l hl
     split at h
     ·rename_i hc
      cases h
      simp only [Bool.and_eq_true] at hc
      have hc1:=Nat.eq_of_beq_eq_true hc.1
      have hc2:=Nat.eq_of_beq_eq_true hc.2
      simp only [DataW.trod,hu] at hx
      split at hx
      ·rename_i hlen
       obtain ⟨xs,hxs,he⟩:=Option.map_eq_some_iff.1 hx
       cases he
       have ih:=zcA d hl fuel
       have hall:=fun w' base' sp' held'=>zhT (g:=fun i=>DataW.trod enc P w' base' sp' held' fuel e ((cs.drop (i*P.cellsOf e)).take (P.cellsOf e))) hxs
        (fun i _ y hy=>by
         have:=ih _ _ _ _ _ y.1 y.2 hy
         exact ⟨by rw [this.2.2 w' base' sp' held',←this.2.1],this.2.1⟩)
       refine ⟨zkZ hc1 (by rw [hlen,hc2,hc1]) (fun i hi=>?_),(hall w base sp held).2.1,fun w' base' sp' held'=>?_⟩
       ·obtain ⟨y,hy⟩:=(hall w base sp held).2.2 i (List.mem_range.2 hi)
        exact (ih _ _ _ _ _ y.1 y.2 hy).1
       ·obtain ⟨h1,h2,_⟩:=hall w' base' sp' held'
        simp only [DataW.trod,hu]
        rw [if_pos hlen,h1,Option.map_some,h2]
      ·cases hx
     ·cases h
   ·rename_i fs hu
    split at h
    ·cases h
    ·rename_i l hl
     split at h
     ·rename_i hc
      cases h
      have hc1:=Nat.eq_of_beq_eq_true hc
      simp only [DataW.trod,hu] at hx
      split at hx
      ·rename_i hlen
       obtain ⟨xs,hxs,he⟩:=Option.map_eq_some_iff.1 hx
       cases he
       -- each field's type has leaves
       have hfl:∀ {gs:List Field} {o:Nat} {r:List LT},zfT P (zfj P d) o gs=some r→∀ f∈gs,∃ r',zfj P d f.type=some r':=by
        intro gs
        induction gs with
        | nil=>intro o r _ f hf;cases hf
        | cons g gs ih =>
         intro o r hr f hf
         simp only [zfT] at hr
         split at hr
         ·split at hr
          ·cases hr
          ·rename_i r1 hr1
           split at hr
           ·split at hr
            ·cases hr
            ·rename_i r2 hr2
             rcases List.mem_cons.1 hf with rfl | hf
             ·exact ⟨r1,hr1⟩
             ·exact ih hr2 f hf
           ·cases hr
         ·cases hr
       have hall:=fun w' base' sp' held'=>zhT (g:=fun f:Field=>DataW.trod enc P w' base' sp' held' fuel f.type ((cs.drop f.offset).take (P.cellsOf f.type))) hxs
        (fun f hf y hy=>by
         obtain ⟨r',hr'⟩:=hfl hl f hf
         have:=zcA d hr' fuel _ _ _ _ _ y.1 y.2 hy
         exact ⟨by rw [this.2.2 w' base' sp' held',←this.2.1],this.2.1⟩)
       refine ⟨?_,(hall w base sp held).2.1,fun w' base' sp' held'=>?_⟩
       ·have:=zhl (P:=P) (cs:=cs) hl (by rw [hlen,hc1];omega) (fun f hf r hr=>by
         obtain ⟨y,hy⟩:=(hall w base sp held).2.2 f hf
         exact (zcA d hr fuel _ _ _ _ _ y.1 y.2 hy).1)
        simpa using this
       ·obtain ⟨h1,h2,_⟩:=hall w' base' sp' held'
        simp only [DataW.trod,hu]
        rw [if_pos hlen,h1,Option.map_some,h2]
      ·cases hx
     ·cases h
   ·cases h
def RangeOk:List LT→List DV→Prop
 | [],[]=>True
 | .int k::ts,.i n::ds=>(Lit.int k n).wf=true∧RangeOk ts ds
 | .bool::ts,.b _::ds=>True∧RangeOk ts ds
 | _,_=>False
theorem RangeOk.len:∀ {ts:List LT} {ds:List DV},RangeOk ts ds→ds.length=ts.length
 | [],[],_=>rfl
 | .int _::_,.i _::_,h=>by simp [RangeOk.len h.2]
 | .bool::_,.b _::_,h=>by simp [RangeOk.len h.2]
 | [],_::_,h=>h.elim
 | .int _::_,[],h=>h.elim
 | .bool::_,[],h=>h.elim
 | .int _::_,.b _::_,h=>h.elim
 | .bool::_,.i _::_,h=>h.elim
 | .int _::_,.l _::_,h=>h.elim
 | .bool::_,.l _::_,h=>h.elim
 | .vec _::_,[],h=>h.elim
 | .vec _::_,_::_,h=>h.elim
theorem RangeOk.append:∀ {a b:List LT} {c d:List DV},RangeOk a c→RangeOk b d→RangeOk (a++b) (c++d)
 | [],_,[],_,_,h=>h
 | .int _::_,_,.i _::_,_,h,h'=>⟨h.1,RangeOk.append h.2 h'⟩
 | .bool::_,_,.b _::_,_,h,h'=>⟨trivial,RangeOk.append h.2 h'⟩
 | [],_,_::_,_,h,_=>h.elim
 | .int _::_,_,[],_,h,_=>h.elim
 | .bool::_,_,[],_,h,_=>h.elim
 | .int _::_,_,.b _::_,_,h,_=>h.elim
 | .bool::_,_,.i _::_,_,h,_=>h.elim
 | .int _::_,_,.l _::_,_,h,_=>h.elim
 | .bool::_,_,.l _::_,_,h,_=>h.elim
 | .vec _::_,_,[],_,h,_=>h.elim
 | .vec _::_,_,_::_,_,h,_=>h.elim
theorem RangeOk.int_at:∀ {ts:List LT} {ds:List DV} {k:IntKind} (i:Nat),RangeOk ts ds→ts[i]? = some (.int k)→(Lit.int k (dget ds i).toI).wf=true
 | .int k::ts,.i n::ds,k',0,h,e=>by
  simp at e
  subst e
  exact h.1
 | .int k::ts,.i n::ds,k',i+1,h,e=>by
  have:=RangeOk.int_at i h.2 (by simpa using e)
  simpa [dget] using this
 | .bool::ts,.b x::ds,k',0,h,e=>by simp at e
 | .bool::ts,.b x::ds,k',i+1,h,e=>by
  have:=RangeOk.int_at i h.2 (by simpa using e)
  simpa [dget] using this
 | [],_,_,_,_,e=>by simp at e
 | .int _::_,[],_,_,h,_=>h.elim
 | .bool::_,[],_,_,h,_=>h.elim
 | .int _::_,.b _::_,_,_,h,_=>h.elim
 | .bool::_,.i _::_,_,_,h,_=>h.elim
 | .int _::_,.l _::_,_,_,h,_=>h.elim
 | .bool::_,.l _::_,_,_,h,_=>h.elim
 | .vec _::_,[],_,_,h,_=>h.elim
 | .vec _::_,_::_,_,_,h,_=>h.elim
theorem ziT (pre:List DV) (d:DV) (post:List DV):dget (pre++d::post) pre.length=d:=by
 simp [dget,List.getD_eq_getElem?_getD]
theorem zeu:∀ {ts:List LT} {vs:List Value},zcg ts vs→∃ ds,RangeOk ts ds∧∀ pre post:List DV,zdv (dget (pre++ds++post)) pre.length ts=vs
 | [],[],_=>⟨[],trivial,fun _ _=>rfl⟩
 | .int k::ts,.int k' n::vs,h=>by
  obtain ⟨ds,h1,h2⟩:=zeu h.2
  obtain ⟨⟨rfl,hw⟩,_⟩:=h
  refine ⟨.i n::ds,⟨hw,h1⟩,fun pre post=>?_⟩
  have:=h2 (pre++[.i n]) post
  simp only [zdv,List.append_assoc,List.cons_append,List.nil_append,List.length_append,List.length_cons,List.length_nil,Nat.zero_add] at this ⊢
  rw [this,ziT]
  rfl
 | .bool::ts,.bool b::vs,h=>by
  obtain ⟨ds,h1,h2⟩:=zeu h.2
  refine ⟨.b b::ds,⟨trivial,h1⟩,fun pre post=>?_⟩
  have:=h2 (pre++[.b b]) post
  simp only [zdv,List.append_assoc,List.cons_append,List.nil_append,List.length_append,List.length_cons,List.length_nil,Nat.zero_add] at this ⊢
  rw [this,ziT]
  rfl
 | [],_::_,h=>h.elim
 | _::_,[],h=>h.elim
 | .int _::_,.bool _::_,h=>h.1.elim
 | .bool::_,.int _ _::_,h=>h.1.elim
 | .vec _::_,_::_,h=>h.1.elim
theorem zsa {w:World} {base b0:Nat} {sp:Nat→Bool} {held:Bool} {r:Reach} {t:TypeId} {v:Value} {d:DataW H} {ps:List MemPlace} {s:Sh} (hs:zql P t=some s)
  (hval:Value.okWide P w r b0 t v) (hd:DataW.Trod enc P w base sp held t v d ps) :
  ∃ ds:List DV,RangeOk s.lts ds∧ps=[]∧(∀ (pre post:List DV) (ss:List Sh),zdC (dget (pre++ds++post)) pre.length (s::ss)=v::zdC (dget (pre++ds++post)) (pre.length+ds.length) ss) ∧
   ∀ (w':World) (base':Nat) (sp':Nat→Bool) (held':Bool),DataW.Trod enc P w' base' sp' held' t v d []:=by
 obtain ⟨fuel,hf⟩:=hd
 unfold zql at hs
 split at hs
 ·rename_i hu
  cases hs
  obtain ⟨b,rfl⟩:=okWide_bool hu hval
  have hfl:zfj P 1 t=some [.bool]:=by simp [zfj,hu]
  obtain ⟨_,h2,h3⟩:=zcA (enc:=enc) 1 hfl fuel _ _ _ _ _ _ _ hf
  refine ⟨[.b b],⟨trivial,trivial⟩,h2,fun pre post ss=>?_,fun w' base' sp' held'=>⟨fuel,h3 w' base' sp' held'⟩⟩
  simp only [zdC,List.append_assoc,List.cons_append,List.nil_append,ziT,List.length_cons,List.length_nil]
  rfl
 ·rename_i k hu
  cases hs
  obtain ⟨n,rfl⟩:=okWide_int hu hval
  have hfl:zfj P 1 t=some [.int k]:=by simp [zfj,hu]
  obtain ⟨h1,h2,h3⟩:=zcA (enc:=enc) 1 hfl fuel _ _ _ _ _ _ _ hf
  refine ⟨[.i n],⟨h1.1.2,trivial⟩,h2,fun pre post ss=>?_,fun w' base' sp' held'=>⟨fuel,h3 w' base' sp' held'⟩⟩
  simp only [zdC,List.append_assoc,List.cons_append,List.nil_append,ziT,List.length_cons,List.length_nil]
  rfl
 ·rename_i n e hu
  obtain ⟨l,hl,rfl⟩:=Option.map_eq_some_iff.1 hs
  simp only [Value.okWide,hu] at hval
  obtain ⟨cs,rfl,_,_⟩:=hval
  obtain ⟨h1,h2,h3⟩:=zcA (enc:=enc) 20 hl fuel _ _ _ _ _ _ _ hf
  obtain ⟨ds,h4,h5⟩:=zeu h1
  refine ⟨ds,h4,h2,fun pre post ss=>?_,fun w' base' sp' held'=>⟨fuel,h3 w' base' sp' held'⟩⟩
  simp only [zdC,h5 pre post,←h4.len]
  rfl
 ·rename_i fs hu
  obtain ⟨l,hl,rfl⟩:=Option.map_eq_some_iff.1 hs
  simp only [Value.okWide,hu] at hval
  obtain ⟨cs,rfl,_,_⟩:=hval
  obtain ⟨h1,h2,h3⟩:=zcA (enc:=enc) 20 hl fuel _ _ _ _ _ _ _ hf
  obtain ⟨ds,h4,h5⟩:=zeu h1
  refine ⟨ds,h4,h2,fun pre post ss=>?_,fun w' base' sp' held'=>⟨fuel,h3 w' base' sp' held'⟩⟩
  simp only [zdC,h5 pre post,←h4.len]
  rfl
 ·cases hs
end
theorem znf {α β:Type} {f:α→Option β} : ∀ {l:List α} {xs:List β},l.mapM f=some xs→∀ (i:Nat) (a:α),l[i]? = some a→∃ y,xs[i]? = some y∧f a=some y
 | [],xs,_,i,a,ha=>by simp at ha
 | b::l,xs,h,i,a,ha=>by
  simp only [List.mapM_cons,Option.bind_eq_bind,Option.bind_eq_some_iff,Option.pure_def,Option.some.injEq] at h
  obtain ⟨y,hy,ys,hys,rfl⟩:=h
  cases i with
  | zero=>simp at ha;subst ha;exact ⟨y,rfl,hy⟩
  | succ i=>obtain ⟨z,h1,h2⟩:=znf hys i a (by simpa using ha);exact ⟨z,by simpa using h1,h2⟩
theorem zvz {H:Type} {enc:TypeId×Value→H} {P:Program} {w:World} {base:Nat} {sp:Nat→Bool} {held:Bool} {fuel n:Nat} {t e:TypeId} {k:IntKind} {cs:List Value} {zs:List Int} {ps:List MemPlace}
  (hu:P.underlying t=some (.array n e)) (he:P.underlying e=some (.int k)) (hc:P.cellsOf e=1)
  (h:DataW.trod enc P w base sp held fuel t cs=some (.agg (zs.map fun z=>.lit (.int k z)),ps)):∀ (i:Nat) (z:Int),zs[i]? = some z→cs[i]? = some (.int k z):=by
 cases fuel with
 | zero=>simp [DataW.trod] at h
 | succ fuel =>
  simp only [DataW.trod,hu,hc,Nat.mul_one] at h
  split at h
  ·obtain ⟨xs,hxs,hx⟩:=Option.map_eq_some_iff.1 h
   simp only [Prod.mk.injEq,DataW.agg.injEq] at hx
   intro i z hz
   have hlen:xs.length=zs.length:=by simpa using congrArg List.length hx.1
   have hxl:xs.length=n:=by
    have key:∀ {l:List Nat} {xs:List (DataW H×List MemPlace)} {f:Nat→Option (DataW H×List MemPlace)},l.mapM f=some xs→xs.length=l.length:=by
     intro l
     induction l with
     | nil=>intro xs f h;simp at h;subst h;rfl
     | cons a l ih =>
      intro xs f h
      simp only [List.mapM_cons,Option.bind_eq_bind,Option.bind_eq_some_iff,Option.pure_def,Option.some.injEq] at h
      obtain ⟨y,_,ys,hys,rfl⟩:=h
      simp [ih hys]
    simpa using key hxs
   have hi:i<zs.length:=by
    rcases Nat.lt_or_ge i zs.length with h | h
    ·exact h
    ·rw [List.getElem?_eq_none h] at hz;cases hz
   obtain ⟨y,h1,h2⟩:=znf hxs i i (List.getElem?_range (by omega))
   obtain ⟨m,h3,h4,_⟩:=DataW.trod_int he h2
   have h5:y.1 = .lit (.int k z):=by
    have:=congrArg (fun l=>l[i]?) hx.1
    simp only [List.getElem?_map,h1,hz,Option.map_some,Option.some.injEq] at this
    exact this
   rw [h4] at h5
   have hm:m=z:=by simpa using h5
   subst hm
   have h6:=congrArg (fun l=>l[0]?) h3
   simpa using h6
  ·cases h
theorem zqm {P:Program} {w:World} {g:Nat} {name:String} {k:IntKind} {cs:Array Value} {zs:List Int} (hg:P.globalNamed name=some g) (hv:w.var? P name=some cs)
  (h:∀ (i:Nat) (z:Int),zs[i]? = some z→cs.toList[i]? = some (.int k z)):GlobIn w g (zs.map fun z=>.i k (.z z)):=by
 refine ⟨?_,fun i l hi ν ρ=>?_⟩
 ·unfold World.var? at hv
  rw [hg] at hv
  simp only [Option.bind_some] at hv
  rcases Nat.lt_or_ge g w.heap.size with h | h
  ·exact h
  ·rw [Array.getElem?_eq_none h] at hv;cases hv
 ·rw [List.getElem?_map] at hi
  obtain ⟨z,hz,rfl⟩:=Option.map_eq_some_iff.1 hi
  refine ⟨trivial,?_⟩
  rw [World.var?_cell hg hv i]
  have:=h i z hz
  simpa [Lf.conc] using this
section
variable {C:Checked} {os:Os} {f:FuncId} {fn:Func} {s:ChangeSpec} {H:Type} {enc:TypeId×Value→H} {sg:Sig} {G:List DV→List DV} {I:World→Prop}
structure LawSig (sg:Sig) (ss:List Sh):Prop where
 ins:sg.ins=patShapes 0 ss
 hin:sg.hin=[]
 nin:sg.nin=nIn ss
 out:sg.out = .s (.one (.b (.h 0)))
 hout:sg.hout=[]
 ots:sg.ots=[.b]
end
end Go.Sx
