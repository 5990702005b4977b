/- The timer's registers: parts, Read, Write. -/
import Derived.Test.YtedoffkaehcnmaaDoorC5
import Derived.Test.YtedoffkaehcnmaaDoorC4
import Derived.Test.YtedoffkaehcnmaaDoorC0
import Derived.Test.YtedoffkaehcnmaaDoorC3
import Derived.ProofKit
import Derived.LaidMore
import Derived.Stop.Joined
namespace Go.Proofs.YtedoffkaehcnmaaDoor
open Go Go.Sx Go.RowKit
open Go.ChangeMaps (setBlock)
set_option maxRecDepth 100000
structure Parts (p o:Nat) (w0 w:World):Prop where
 size:w.heap.size=w0.heap.size+1
 below:Below w0.heap.size w0 w
 ents:∃ es clock,w.heap[w0.heap.size]? = some (.map es clock)∧(es.toList.map fun e=>(e.key,e.val)).Perm ((List.range 7).map fun g=>(clKey g,clPv p o g))
theorem r70 {ops:Array Oper} (hops:Tryd.f70.body.bind (zdh 1)=some (.region 1 ops true)) (p o:Nat) {a:Act} {w:World} {Q:Exit→Act→World→Prop} (ht:a.tmps.size=40) (hd:a.defers=[]) (hp:a.tmps[0]? = some (.pointer (some ⟨p,o,none⟩)))
  (hQ:∀ a' w',a'.defers=[]→a'.tmps[2]? = some (.map (some w.heap.size))→Parts p o w w'→Q .normal a' w'):(Code.region 1 ops true).wp Tryd.prog Q a w:=by
 have e:zjV=ops:=by unfold zjV;rw [hops]
 subst e
 refine wp_region_any (by kernel_rfl) ?_
 refine zsF (PInv p o w.drew) (fun l a w h=>by rw [zk0];exact h.size) (fun l a w i h hi=>h.step hi) (fun l a' w' h hr=>?_) _ _ _ _ ?_ ?_
 ·have hall:=zbV (by rw [zk0];exact h.size) (by have:=zpB zwk;simpa using this) hr
  rw [zk0] at hall
  obtain ⟨k1,k2,es,clock,k3,k4⟩:=h.world.then_ (hall 0 (by decide))
  refine hQ a' w' h.defers (h.val 44 (by decide) (hall 44 (by decide)) 2 rfl) ⟨k1,⟨k2.os,k2.tape,k2.output,k2.size,k2.block⟩,es,clock,k3,?_⟩
  have:clEnts p o l=(List.range 7).map fun g=>(clKey g,clPv p o g):=by
   unfold clEnts
   congr 1
   exact List.filter_eq_self.2 fun g hg=>hall _ (by have:=List.mem_range.1 hg;omega)
  rw [this] at k4
  exact k4
 ·rw [zk0,Array.toList_replicate];decide
 ·rw [zk0]
  refine ⟨by rw [Array.size_replicate],hd,ht,hp,fun j _ hl=>?_,⟨fun _=>⟨rfl,fun g hg=>?_⟩,fun hl=>?_⟩⟩
  ·rw [Array.getD_eq_getD_getElem?,Array.getElem?_replicate] at hl;split at hl<;>cases hl
  ·rw [Array.getD_eq_getD_getElem?,Array.getElem?_replicate];split<;>rfl
  ·rw [Array.getD_eq_getD_getElem?,Array.getElem?_replicate] at hl;split at hl<;>cases hl
theorem w70 (p o:Nat) (w:World):Calls Tryd.prog 70 #[.pointer (some ⟨p,o,none⟩)] w fun e w'=>e = .returned (.map (some w.heap.size))∧Parts p o w w':=by
 go_enter Tryd.func70,Tryd.ntmps70
 go_wp2
 refine r70 (by kernel_rfl) p o rfl rfl rfl fun a' w' h1 h2 h3=>?_
 simp only [Exit.then]
 go_wp2
 refine bodyPost_ret (results_tmp rfl _ _ _) h1 ?_
 exact ⟨by rw [Array.getD_eq_getD_getElem?,h2];rfl,h3⟩
theorem zvm (w:World):(zeroValue 128).run Tryd.prog w = .ok (.agg #[.pointer none,.int .i64 0,.int .i64 0]) w:=by kernel_rfl
theorem w67n (p o:Nat) (k n:Int) (w:World)
  (hl:∀ w1,Parts p o w w1→(Instr.lookup 130 (.map (some w.heap.size)) (.agg #[.int .u64 k,.int .i64 n]) true).run Tryd.prog w1 = .ok (.tuple #[.agg #[.pointer none,.int .i64 0,.int .i64 0],.bool false]) w1) :
  Calls Tryd.prog 67 #[.pointer (some ⟨p,o,none⟩),.int .u64 k,.int .i64 n] w fun e w'=>e = .returned (.tuple #[.int .u64 0,.bool false])∧Below w.heap.size w w':=by
 go_enter Tryd.func67,Tryd.ntmps67
 go_wp2_with (first
  | (go_at_call 70;refine (w70 _ _ _).mono ?_;intro e w1 he1;obtain ⟨he,hw1⟩:=he1;subst he;have hl1:=hl w1 hw1)
  | go_in)
 go_ret2
 exact ⟨rfl,hw1.below.alloc (by rw [hw1.size];omega) _⟩
theorem w69n (p o:Nat) (k n v:Int) (w:World)
  (hl:∀ w1,Parts p o w w1→(Instr.lookup 130 (.map (some w.heap.size)) (.agg #[.int .u64 k,.int .i64 n]) true).run Tryd.prog w1 = .ok (.tuple #[.agg #[.pointer none,.int .i64 0,.int .i64 0],.bool false]) w1) :
  Calls Tryd.prog 69 #[.pointer (some ⟨p,o,none⟩),.int .u64 k,.int .i64 n,.int .u64 v] w fun e w'=>e = .returned (.bool false)∧Below w.heap.size w w':=by
 go_enter Tryd.func69,Tryd.ntmps69
 go_wp2_with (first
  | (go_at_call 70;refine (w70 _ _ _).mono ?_;intro e w1 he1;obtain ⟨he,hw1⟩:=he1;subst he;have hl1:=hl w1 hw1)
  | go_in)
 go_ret
 exact ⟨rfl,hw1.below.alloc (by rw [hw1.size];omega) _⟩
theorem zaz {n:Nat} {w x:World} (h:Below n w x):Below n w x.drew:=⟨h.os,h.tape,h.output,h.size,h.block⟩
theorem znk (x:Int):ishr .u64 x 0=x:=by unfold ishr;simp
theorem zsM (x:Int):ishr .u64 x 32=x/4294967296:=by
 unfold ishr
 rw [show (2:Int)^min (Int.toNat 32) IntKind.u64.bits=4294967296 from by decide,Int.fdiv_eq_ediv_of_nonneg _ (by decide)]
theorem zpL:zdg 1=1:=by decide
theorem zcw:zdg 32=4294967295:=by decide
theorem zgW:zdg 64=18446744073709551615:=by decide
theorem znl (x:Int):ishl .u64 x 0=IntKind.u64.wrap x:=by unfold ishl;simp
theorem zsN (x:Int):ishl .u64 x 32=IntKind.u64.wrap (x*4294967296):=by
 unfold ishl
 rw [show (2:Int)^min (Int.toNat 32) IntKind.u64.bits=4294967296 from by decide]
theorem zsO:ishl .u64 1 0=1:=by decide
theorem zk1:ishl .u64 4294967295 0=4294967295:=by decide
theorem zk2:ishl .u64 18446744073709551615 0=18446744073709551615:=by decide
theorem zjY:ishl .u64 4294967295 32=18446744069414584320:=by decide
theorem zw3 (p o:Nat) (k n x:Int) (w:World) (hx:w.cell? ⟨p,o,none⟩=some (.int .u64 x))
  (hl:∀ w1,Parts p o w w1→(Instr.lookup 130 (.map (some w.heap.size)) (.agg #[.int .u64 k,.int .i64 n]) true).run Tryd.prog w1 = .ok (.tuple #[.agg #[.pointer (some ⟨p,o,none⟩),.int .i64 0,.int .i64 1],.bool true]) w1) :
  Calls Tryd.prog 67 #[.pointer (some ⟨p,o,none⟩),.int .u64 k,.int .i64 n] w fun e w'=>e = .returned (.tuple #[.int .u64 (zaf .u64 (ishr .u64 x 0) (zdg 1)),.bool true])∧Below w.heap.size w w':=by
 go_enter Tryd.func67,Tryd.ntmps67
 go_wp2_with (first
  | (go_at_call 70;refine (w70 _ _ _).mono ?_;intro e w1 he1;obtain ⟨he,hw1⟩:=he1;subst he;have hl1:=hl w1 hw1)
  | go_in)
 have hp:p<w.heap.size:=zav hx
 have hx2:(w1.alloc (.cells #[.pointer (some ⟨p,o,none⟩),.int .i64 0,.int .i64 1] 128)).cell? ⟨p,o,none⟩=some (.int .u64 x):=by
  rw [World.cell?_alloc_lt _ _ _ (by rw [hw1.size];exact Nat.lt_succ_of_lt hp),World.cell?_of_block (w:=w) (hw1.below.block p hp)];exact hx
 clear hl hl1
 go_region
 simp only [Exit.then]
 go_wp2
 go_ret2
 exact ⟨congrArg (fun z=>Ending.returned (.tuple #[.int .u64 z,.bool true])) (by rw [znk,zpL];rfl),zaz (hw1.below.alloc (by rw [hw1.size];omega) _)⟩
theorem zw4 (p o:Nat) (k n v x:Int) (w:World) (hx:w.cell? ⟨p,o,none⟩=some (.int .u64 x)) (hf:w.frozen? ⟨p,o,none⟩=false)
  (hl:∀ w1,Parts p o w w1→(Instr.lookup 130 (.map (some w.heap.size)) (.agg #[.int .u64 k,.int .i64 n]) true).run Tryd.prog w1 = .ok (.tuple #[.agg #[.pointer (some ⟨p,o,none⟩),.int .i64 0,.int .i64 1],.bool true]) w1) :
  Calls Tryd.prog 69 #[.pointer (some ⟨p,o,none⟩),.int .u64 k,.int .i64 n,.int .u64 v] w fun e w'=>e = .returned (.bool true)∧∃ w1,Below w.heap.size w w1∧w'=w1.setCell ⟨p,o,none⟩ (.int .u64 (zfj x 0 1 v)):=by
 go_enter Tryd.func69,Tryd.ntmps69
 go_wp2_with (first
  | (go_at_call 70;refine (w70 _ _ _).mono ?_;intro e w1 he1;obtain ⟨he,hw1⟩:=he1;subst he;have hl1:=hl w1 hw1)
  | go_in)
 have hp:p<w.heap.size:=zav hx
 have hx2:(w1.alloc (.cells #[.pointer (some ⟨p,o,none⟩),.int .i64 0,.int .i64 1] 128)).cell? ⟨p,o,none⟩=some (.int .u64 x):=by
  rw [World.cell?_alloc_lt _ _ _ (by rw [hw1.size];exact Nat.lt_succ_of_lt hp),World.cell?_of_block (w:=w) (hw1.below.block p hp)];exact hx
 have hf2:(w1.alloc (.cells #[.pointer (some ⟨p,o,none⟩),.int .i64 0,.int .i64 1] 128)).frozen? ⟨p,o,none⟩=false:=by
  rw [World.frozen?_of_block (w:=w1) ((MapKept.heap_alloc _ _).2 p (by rw [hw1.size];omega)),World.frozen?_of_block (w:=w) (hw1.below.block p hp)];exact hf
 clear hl hl1
 go_region
 go_wp2
 go_region
 simp only [Exit.then]
 go_wp2
 go_ret
 exact ⟨rfl,(w1.alloc (.cells #[.pointer (some ⟨p,o,none⟩),.int .i64 0,.int .i64 1] 128)).drew.drew,zaz (zaz (hw1.below.alloc (by rw [hw1.size];omega) _)),congrArg (fun z=>((w1.alloc (.cells #[.pointer (some ⟨p,o,none⟩),.int .i64 0,.int .i64 1] 128)).setCell ⟨p,o,none⟩ (.int .u64 z)).drew.drew) (by unfold zfj;rw [zpL,zsO,znl];rfl)⟩
theorem zw5 (p o:Nat) (k n x:Int) (w:World) (hx:w.cell? ⟨p,o+2,none⟩=some (.int .u64 x))
  (hl:∀ w1,Parts p o w w1→(Instr.lookup 130 (.map (some w.heap.size)) (.agg #[.int .u64 k,.int .i64 n]) true).run Tryd.prog w1 = .ok (.tuple #[.agg #[.pointer (some ⟨p,o+2,none⟩),.int .i64 0,.int .i64 64],.bool true]) w1) :
  Calls Tryd.prog 67 #[.pointer (some ⟨p,o,none⟩),.int .u64 k,.int .i64 n] w fun e w'=>e = .returned (.tuple #[.int .u64 (zaf .u64 (ishr .u64 x 0) (zdg 64)),.bool true])∧Below w.heap.size w w':=by
 go_enter Tryd.func67,Tryd.ntmps67
 go_wp2_with (first
  | (go_at_call 70;refine (w70 _ _ _).mono ?_;intro e w1 he1;obtain ⟨he,hw1⟩:=he1;subst he;have hl1:=hl w1 hw1)
  | go_in)
 have hp:p<w.heap.size:=zav hx
 have hx2:(w1.alloc (.cells #[.pointer (some ⟨p,o+2,none⟩),.int .i64 0,.int .i64 64] 128)).cell? ⟨p,o+2,none⟩=some (.int .u64 x):=by
  rw [World.cell?_alloc_lt _ _ _ (by rw [hw1.size];exact Nat.lt_succ_of_lt hp),World.cell?_of_block (w:=w) (hw1.below.block p hp)];exact hx
 clear hl hl1
 go_region
 simp only [Exit.then]
 go_wp2
 go_ret2
 exact ⟨congrArg (fun z=>Ending.returned (.tuple #[.int .u64 z,.bool true])) (by rw [znk,zgW];rfl),zaz (hw1.below.alloc (by rw [hw1.size];omega) _)⟩
theorem zw6 (p o:Nat) (k n v x:Int) (w:World) (hx:w.cell? ⟨p,o+2,none⟩=some (.int .u64 x)) (hf:w.frozen? ⟨p,o+2,none⟩=false)
  (hl:∀ w1,Parts p o w w1→(Instr.lookup 130 (.map (some w.heap.size)) (.agg #[.int .u64 k,.int .i64 n]) true).run Tryd.prog w1 = .ok (.tuple #[.agg #[.pointer (some ⟨p,o+2,none⟩),.int .i64 0,.int .i64 64],.bool true]) w1) :
  Calls Tryd.prog 69 #[.pointer (some ⟨p,o,none⟩),.int .u64 k,.int .i64 n,.int .u64 v] w fun e w'=>e = .returned (.bool true)∧∃ w1,Below w.heap.size w w1∧w'=w1.setCell ⟨p,o+2,none⟩ (.int .u64 (zfj x 0 64 v)):=by
 go_enter Tryd.func69,Tryd.ntmps69
 go_wp2_with (first
  | (go_at_call 70;refine (w70 _ _ _).mono ?_;intro e w1 he1;obtain ⟨he,hw1⟩:=he1;subst he;have hl1:=hl w1 hw1)
  | go_in)
 have hp:p<w.heap.size:=zav hx
 have hx2:(w1.alloc (.cells #[.pointer (some ⟨p,o+2,none⟩),.int .i64 0,.int .i64 64] 128)).cell? ⟨p,o+2,none⟩=some (.int .u64 x):=by
  rw [World.cell?_alloc_lt _ _ _ (by rw [hw1.size];exact Nat.lt_succ_of_lt hp),World.cell?_of_block (w:=w) (hw1.below.block p hp)];exact hx
 have hf2:(w1.alloc (.cells #[.pointer (some ⟨p,o+2,none⟩),.int .i64 0,.int .i64 64] 128)).frozen? ⟨p,o+2,none⟩=false:=by
  rw [World.frozen?_of_block (w:=w1) ((MapKept.heap_alloc _ _).2 p (by rw [hw1.size];omega)),World.frozen?_of_block (w:=w) (hw1.below.block p hp)];exact hf
 clear hl hl1
 go_region
 go_wp2
 go_region
 simp only [Exit.then]
 go_wp2
 go_ret
 exact ⟨rfl,(w1.alloc (.cells #[.pointer (some ⟨p,o+2,none⟩),.int .i64 0,.int .i64 64] 128)).drew.drew,zaz (zaz (hw1.below.alloc (by rw [hw1.size];omega) _)),congrArg (fun z=>((w1.alloc (.cells #[.pointer (some ⟨p,o+2,none⟩),.int .i64 0,.int .i64 64] 128)).setCell ⟨p,o+2,none⟩ (.int .u64 z)).drew.drew) (by unfold zfj;rw [zgW,zk2,znl];rfl)⟩
theorem zw7 (p o:Nat) (k n x:Int) (w:World) (hx:w.cell? ⟨p,o+2,none⟩=some (.int .u64 x))
  (hl:∀ w1,Parts p o w w1→(Instr.lookup 130 (.map (some w.heap.size)) (.agg #[.int .u64 k,.int .i64 n]) true).run Tryd.prog w1 = .ok (.tuple #[.agg #[.pointer (some ⟨p,o+2,none⟩),.int .i64 0,.int .i64 32],.bool true]) w1) :
  Calls Tryd.prog 67 #[.pointer (some ⟨p,o,none⟩),.int .u64 k,.int .i64 n] w fun e w'=>e = .returned (.tuple #[.int .u64 (zaf .u64 (ishr .u64 x 0) (zdg 32)),.bool true])∧Below w.heap.size w w':=by
 go_enter Tryd.func67,Tryd.ntmps67
 go_wp2_with (first
  | (go_at_call 70;refine (w70 _ _ _).mono ?_;intro e w1 he1;obtain ⟨he,hw1⟩:=he1;subst he;have hl1:=hl w1 hw1)
  | go_in)
 have hp:p<w.heap.size:=zav hx
 have hx2:(w1.alloc (.cells #[.pointer (some ⟨p,o+2,none⟩),.int .i64 0,.int .i64 32] 128)).cell? ⟨p,o+2,none⟩=some (.int .u64 x):=by
  rw [World.cell?_alloc_lt _ _ _ (by rw [hw1.size];exact Nat.lt_succ_of_lt hp),World.cell?_of_block (w:=w) (hw1.below.block p hp)];exact hx
 clear hl hl1
 go_region
 simp only [Exit.then]
 go_wp2
 go_ret2
 exact ⟨congrArg (fun z=>Ending.returned (.tuple #[.int .u64 z,.bool true])) (by rw [znk,zcw];rfl),zaz (hw1.below.alloc (by rw [hw1.size];omega) _)⟩
theorem zw8 (p o:Nat) (k n v x:Int) (w:World) (hx:w.cell? ⟨p,o+2,none⟩=some (.int .u64 x)) (hf:w.frozen? ⟨p,o+2,none⟩=false)
  (hl:∀ w1,Parts p o w w1→(Instr.lookup 130 (.map (some w.heap.size)) (.agg #[.int .u64 k,.int .i64 n]) true).run Tryd.prog w1 = .ok (.tuple #[.agg #[.pointer (some ⟨p,o+2,none⟩),.int .i64 0,.int .i64 32],.bool true]) w1) :
  Calls Tryd.prog 69 #[.pointer (some ⟨p,o,none⟩),.int .u64 k,.int .i64 n,.int .u64 v] w fun e w'=>e = .returned (.bool true)∧∃ w1,Below w.heap.size w w1∧w'=w1.setCell ⟨p,o+2,none⟩ (.int .u64 (zfj x 0 32 v)):=by
 go_enter Tryd.func69,Tryd.ntmps69
 go_wp2_with (first
  | (go_at_call 70;refine (w70 _ _ _).mono ?_;intro e w1 he1;obtain ⟨he,hw1⟩:=he1;subst he;have hl1:=hl w1 hw1)
  | go_in)
 have hp:p<w.heap.size:=zav hx
 have hx2:(w1.alloc (.cells #[.pointer (some ⟨p,o+2,none⟩),.int .i64 0,.int .i64 32] 128)).cell? ⟨p,o+2,none⟩=some (.int .u64 x):=by
  rw [World.cell?_alloc_lt _ _ _ (by rw [hw1.size];exact Nat.lt_succ_of_lt hp),World.cell?_of_block (w:=w) (hw1.below.block p hp)];exact hx
 have hf2:(w1.alloc (.cells #[.pointer (some ⟨p,o+2,none⟩),.int .i64 0,.int .i64 32] 128)).frozen? ⟨p,o+2,none⟩=false:=by
  rw [World.frozen?_of_block (w:=w1) ((MapKept.heap_alloc _ _).2 p (by rw [hw1.size];omega)),World.frozen?_of_block (w:=w) (hw1.below.block p hp)];exact hf
 clear hl hl1
 go_region
 go_wp2
 go_region
 simp only [Exit.then]
 go_wp2
 go_ret
 exact ⟨rfl,(w1.alloc (.cells #[.pointer (some ⟨p,o+2,none⟩),.int .i64 0,.int .i64 32] 128)).drew.drew,zaz (zaz (hw1.below.alloc (by rw [hw1.size];omega) _)),congrArg (fun z=>((w1.alloc (.cells #[.pointer (some ⟨p,o+2,none⟩),.int .i64 0,.int .i64 32] 128)).setCell ⟨p,o+2,none⟩ (.int .u64 z)).drew.drew) (by unfold zfj;rw [zcw,zk1,znl];rfl)⟩
theorem zw9 (p o:Nat) (k n x:Int) (w:World) (hx:w.cell? ⟨p,o+2,none⟩=some (.int .u64 x))
  (hl:∀ w1,Parts p o w w1→(Instr.lookup 130 (.map (some w.heap.size)) (.agg #[.int .u64 k,.int .i64 n]) true).run Tryd.prog w1 = .ok (.tuple #[.agg #[.pointer (some ⟨p,o+2,none⟩),.int .i64 32,.int .i64 32],.bool true]) w1) :
  Calls Tryd.prog 67 #[.pointer (some ⟨p,o,none⟩),.int .u64 k,.int .i64 n] w fun e w'=>e = .returned (.tuple #[.int .u64 (zaf .u64 (ishr .u64 x 32) (zdg 32)),.bool true])∧Below w.heap.size w w':=by
 go_enter Tryd.func67,Tryd.ntmps67
 go_wp2_with (first
  | (go_at_call 70;refine (w70 _ _ _).mono ?_;intro e w1 he1;obtain ⟨he,hw1⟩:=he1;subst he;have hl1:=hl w1 hw1)
  | go_in)
 have hp:p<w.heap.size:=zav hx
 have hx2:(w1.alloc (.cells #[.pointer (some ⟨p,o+2,none⟩),.int .i64 32,.int .i64 32] 128)).cell? ⟨p,o+2,none⟩=some (.int .u64 x):=by
  rw [World.cell?_alloc_lt _ _ _ (by rw [hw1.size];exact Nat.lt_succ_of_lt hp),World.cell?_of_block (w:=w) (hw1.below.block p hp)];exact hx
 clear hl hl1
 go_region
 simp only [Exit.then]
 go_wp2
 go_ret2
 exact ⟨congrArg (fun z=>Ending.returned (.tuple #[.int .u64 z,.bool true])) (by rw [zsM,zcw];rfl),zaz (hw1.below.alloc (by rw [hw1.size];omega) _)⟩
theorem zxa (p o:Nat) (k n v x:Int) (w:World) (hx:w.cell? ⟨p,o+2,none⟩=some (.int .u64 x)) (hf:w.frozen? ⟨p,o+2,none⟩=false)
  (hl:∀ w1,Parts p o w w1→(Instr.lookup 130 (.map (some w.heap.size)) (.agg #[.int .u64 k,.int .i64 n]) true).run Tryd.prog w1 = .ok (.tuple #[.agg #[.pointer (some ⟨p,o+2,none⟩),.int .i64 32,.int .i64 32],.bool true]) w1) :
  Calls Tryd.prog 69 #[.pointer (some ⟨p,o,none⟩),.int .u64 k,.int .i64 n,.int .u64 v] w fun e w'=>e = .returned (.bool true)∧∃ w1,Below w.heap.size w w1∧w'=w1.setCell ⟨p,o+2,none⟩ (.int .u64 (zfj x 32 32 v)):=by
 go_enter Tryd.func69,Tryd.ntmps69
 go_wp2_with (first
  | (go_at_call 70;refine (w70 _ _ _).mono ?_;intro e w1 he1;obtain ⟨he,hw1⟩:=he1;subst he;have hl1:=hl w1 hw1)
  | go_in)
 have hp:p<w.heap.size:=zav hx
 have hx2:(w1.alloc (.cells #[.pointer (some ⟨p,o+2,none⟩),.int .i64 32,.int .i64 32] 128)).cell? ⟨p,o+2,none⟩=some (.int .u64 x):=by
  rw [World.cell?_alloc_lt _ _ _ (by rw [hw1.size];exact Nat.lt_succ_of_lt hp),World.cell?_of_block (w:=w) (hw1.below.block p hp)];exact hx
 have hf2:(w1.alloc (.cells #[.pointer (some ⟨p,o+2,none⟩),.int .i64 32,.int .i64 32] 128)).frozen? ⟨p,o+2,none⟩=false:=by
  rw [World.frozen?_of_block (w:=w1) ((MapKept.heap_alloc _ _).2 p (by rw [hw1.size];omega)),World.frozen?_of_block (w:=w) (hw1.below.block p hp)];exact hf
 clear hl hl1
 go_region
 go_wp2
 go_region
 simp only [Exit.then]
 go_wp2
 go_ret
 exact ⟨rfl,(w1.alloc (.cells #[.pointer (some ⟨p,o+2,none⟩),.int .i64 32,.int .i64 32] 128)).drew.drew,zaz (zaz (hw1.below.alloc (by rw [hw1.size];omega) _)),congrArg (fun z=>((w1.alloc (.cells #[.pointer (some ⟨p,o+2,none⟩),.int .i64 32,.int .i64 32] 128)).setCell ⟨p,o+2,none⟩ (.int .u64 z)).drew.drew) (by unfold zfj;rw [zcw,zjY,zsN];rfl)⟩
theorem zxb (p o:Nat) (k n x:Int) (w:World) (hx:w.cell? ⟨p,o+1,none⟩=some (.int .u64 x))
  (hl:∀ w1,Parts p o w w1→(Instr.lookup 130 (.map (some w.heap.size)) (.agg #[.int .u64 k,.int .i64 n]) true).run Tryd.prog w1 = .ok (.tuple #[.agg #[.pointer (some ⟨p,o+1,none⟩),.int .i64 0,.int .i64 64],.bool true]) w1) :
  Calls Tryd.prog 67 #[.pointer (some ⟨p,o,none⟩),.int .u64 k,.int .i64 n] w fun e w'=>e = .returned (.tuple #[.int .u64 (zaf .u64 (ishr .u64 x 0) (zdg 64)),.bool true])∧Below w.heap.size w w':=by
 go_enter Tryd.func67,Tryd.ntmps67
 go_wp2_with (first
  | (go_at_call 70;refine (w70 _ _ _).mono ?_;intro e w1 he1;obtain ⟨he,hw1⟩:=he1;subst he;have hl1:=hl w1 hw1)
  | go_in)
 have hp:p<w.heap.size:=zav hx
 have hx2:(w1.alloc (.cells #[.pointer (some ⟨p,o+1,none⟩),.int .i64 0,.int .i64 64] 128)).cell? ⟨p,o+1,none⟩=some (.int .u64 x):=by
  rw [World.cell?_alloc_lt _ _ _ (by rw [hw1.size];exact Nat.lt_succ_of_lt hp),World.cell?_of_block (w:=w) (hw1.below.block p hp)];exact hx
 clear hl hl1
 go_region
 simp only [Exit.then]
 go_wp2
 go_ret2
 exact ⟨congrArg (fun z=>Ending.returned (.tuple #[.int .u64 z,.bool true])) (by rw [znk,zgW];rfl),zaz (hw1.below.alloc (by rw [hw1.size];omega) _)⟩
theorem zxc (p o:Nat) (k n v x:Int) (w:World) (hx:w.cell? ⟨p,o+1,none⟩=some (.int .u64 x)) (hf:w.frozen? ⟨p,o+1,none⟩=false)
  (hl:∀ w1,Parts p o w w1→(Instr.lookup 130 (.map (some w.heap.size)) (.agg #[.int .u64 k,.int .i64 n]) true).run Tryd.prog w1 = .ok (.tuple #[.agg #[.pointer (some ⟨p,o+1,none⟩),.int .i64 0,.int .i64 64],.bool true]) w1) :
  Calls Tryd.prog 69 #[.pointer (some ⟨p,o,none⟩),.int .u64 k,.int .i64 n,.int .u64 v] w fun e w'=>e = .returned (.bool true)∧∃ w1,Below w.heap.size w w1∧w'=w1.setCell ⟨p,o+1,none⟩ (.int .u64 (zfj x 0 64 v)):=by
 go_enter Tryd.func69,Tryd.ntmps69
 go_wp2_with (first
  | (go_at_call 70;refine (w70 _ _ _).mono ?_;intro e w1 he1;obtain ⟨he,hw1⟩:=he1;subst he;have hl1:=hl w1 hw1)
  | go_in)
 have hp:p<w.heap.size:=zav hx
 have hx2:(w1.alloc (.cells #[.pointer (some ⟨p,o+1,none⟩),.int .i64 0,.int .i64 64] 128)).cell? ⟨p,o+1,none⟩=some (.int .u64 x):=by
  rw [World.cell?_alloc_lt _ _ _ (by rw [hw1.size];exact Nat.lt_succ_of_lt hp),World.cell?_of_block (w:=w) (hw1.below.block p hp)];exact hx
 have hf2:(w1.alloc (.cells #[.pointer (some ⟨p,o+1,none⟩),.int .i64 0,.int .i64 64] 128)).frozen? ⟨p,o+1,none⟩=false:=by
  rw [World.frozen?_of_block (w:=w1) ((MapKept.heap_alloc _ _).2 p (by rw [hw1.size];omega)),World.frozen?_of_block (w:=w) (hw1.below.block p hp)];exact hf
 clear hl hl1
 go_region
 go_wp2
 go_region
 simp only [Exit.then]
 go_wp2
 go_ret
 exact ⟨rfl,(w1.alloc (.cells #[.pointer (some ⟨p,o+1,none⟩),.int .i64 0,.int .i64 64] 128)).drew.drew,zaz (zaz (hw1.below.alloc (by rw [hw1.size];omega) _)),congrArg (fun z=>((w1.alloc (.cells #[.pointer (some ⟨p,o+1,none⟩),.int .i64 0,.int .i64 64] 128)).setCell ⟨p,o+1,none⟩ (.int .u64 z)).drew.drew) (by unfold zfj;rw [zgW,zk2,znl];rfl)⟩
theorem zxd (p o:Nat) (k n x:Int) (w:World) (hx:w.cell? ⟨p,o+1,none⟩=some (.int .u64 x))
  (hl:∀ w1,Parts p o w w1→(Instr.lookup 130 (.map (some w.heap.size)) (.agg #[.int .u64 k,.int .i64 n]) true).run Tryd.prog w1 = .ok (.tuple #[.agg #[.pointer (some ⟨p,o+1,none⟩),.int .i64 0,.int .i64 32],.bool true]) w1) :
  Calls Tryd.prog 67 #[.pointer (some ⟨p,o,none⟩),.int .u64 k,.int .i64 n] w fun e w'=>e = .returned (.tuple #[.int .u64 (zaf .u64 (ishr .u64 x 0) (zdg 32)),.bool true])∧Below w.heap.size w w':=by
 go_enter Tryd.func67,Tryd.ntmps67
 go_wp2_with (first
  | (go_at_call 70;refine (w70 _ _ _).mono ?_;intro e w1 he1;obtain ⟨he,hw1⟩:=he1;subst he;have hl1:=hl w1 hw1)
  | go_in)
 have hp:p<w.heap.size:=zav hx
 have hx2:(w1.alloc (.cells #[.pointer (some ⟨p,o+1,none⟩),.int .i64 0,.int .i64 32] 128)).cell? ⟨p,o+1,none⟩=some (.int .u64 x):=by
  rw [World.cell?_alloc_lt _ _ _ (by rw [hw1.size];exact Nat.lt_succ_of_lt hp),World.cell?_of_block (w:=w) (hw1.below.block p hp)];exact hx
 clear hl hl1
 go_region
 simp only [Exit.then]
 go_wp2
 go_ret2
 exact ⟨congrArg (fun z=>Ending.returned (.tuple #[.int .u64 z,.bool true])) (by rw [znk,zcw];rfl),zaz (hw1.below.alloc (by rw [hw1.size];omega) _)⟩
theorem zxe (p o:Nat) (k n v x:Int) (w:World) (hx:w.cell? ⟨p,o+1,none⟩=some (.int .u64 x)) (hf:w.frozen? ⟨p,o+1,none⟩=false)
  (hl:∀ w1,Parts p o w w1→(Instr.lookup 130 (.map (some w.heap.size)) (.agg #[.int .u64 k,.int .i64 n]) true).run Tryd.prog w1 = .ok (.tuple #[.agg #[.pointer (some ⟨p,o+1,none⟩),.int .i64 0,.int .i64 32],.bool true]) w1) :
  Calls Tryd.prog 69 #[.pointer (some ⟨p,o,none⟩),.int .u64 k,.int .i64 n,.int .u64 v] w fun e w'=>e = .returned (.bool true)∧∃ w1,Below w.heap.size w w1∧w'=w1.setCell ⟨p,o+1,none⟩ (.int .u64 (zfj x 0 32 v)):=by
 go_enter Tryd.func69,Tryd.ntmps69
 go_wp2_with (first
  | (go_at_call 70;refine (w70 _ _ _).mono ?_;intro e w1 he1;obtain ⟨he,hw1⟩:=he1;subst he;have hl1:=hl w1 hw1)
  | go_in)
 have hp:p<w.heap.size:=zav hx
 have hx2:(w1.alloc (.cells #[.pointer (some ⟨p,o+1,none⟩),.int .i64 0,.int .i64 32] 128)).cell? ⟨p,o+1,none⟩=some (.int .u64 x):=by
  rw [World.cell?_alloc_lt _ _ _ (by rw [hw1.size];exact Nat.lt_succ_of_lt hp),World.cell?_of_block (w:=w) (hw1.below.block p hp)];exact hx
 have hf2:(w1.alloc (.cells #[.pointer (some ⟨p,o+1,none⟩),.int .i64 0,.int .i64 32] 128)).frozen? ⟨p,o+1,none⟩=false:=by
  rw [World.frozen?_of_block (w:=w1) ((MapKept.heap_alloc _ _).2 p (by rw [hw1.size];omega)),World.frozen?_of_block (w:=w) (hw1.below.block p hp)];exact hf
 clear hl hl1
 go_region
 go_wp2
 go_region
 simp only [Exit.then]
 go_wp2
 go_ret
 exact ⟨rfl,(w1.alloc (.cells #[.pointer (some ⟨p,o+1,none⟩),.int .i64 0,.int .i64 32] 128)).drew.drew,zaz (zaz (hw1.below.alloc (by rw [hw1.size];omega) _)),congrArg (fun z=>((w1.alloc (.cells #[.pointer (some ⟨p,o+1,none⟩),.int .i64 0,.int .i64 32] 128)).setCell ⟨p,o+1,none⟩ (.int .u64 z)).drew.drew) (by unfold zfj;rw [zcw,zk1,znl];rfl)⟩
theorem zxf (p o:Nat) (k n x:Int) (w:World) (hx:w.cell? ⟨p,o+1,none⟩=some (.int .u64 x))
  (hl:∀ w1,Parts p o w w1→(Instr.lookup 130 (.map (some w.heap.size)) (.agg #[.int .u64 k,.int .i64 n]) true).run Tryd.prog w1 = .ok (.tuple #[.agg #[.pointer (some ⟨p,o+1,none⟩),.int .i64 32,.int .i64 32],.bool true]) w1) :
  Calls Tryd.prog 67 #[.pointer (some ⟨p,o,none⟩),.int .u64 k,.int .i64 n] w fun e w'=>e = .returned (.tuple #[.int .u64 (zaf .u64 (ishr .u64 x 32) (zdg 32)),.bool true])∧Below w.heap.size w w':=by
 go_enter Tryd.func67,Tryd.ntmps67
 go_wp2_with (first
  | (go_at_call 70;refine (w70 _ _ _).mono ?_;intro e w1 he1;obtain ⟨he,hw1⟩:=he1;subst he;have hl1:=hl w1 hw1)
  | go_in)
 have hp:p<w.heap.size:=zav hx
 have hx2:(w1.alloc (.cells #[.pointer (some ⟨p,o+1,none⟩),.int .i64 32,.int .i64 32] 128)).cell? ⟨p,o+1,none⟩=some (.int .u64 x):=by
  rw [World.cell?_alloc_lt _ _ _ (by rw [hw1.size];exact Nat.lt_succ_of_lt hp),World.cell?_of_block (w:=w) (hw1.below.block p hp)];exact hx
 clear hl hl1
 go_region
 simp only [Exit.then]
 go_wp2
 go_ret2
 exact ⟨congrArg (fun z=>Ending.returned (.tuple #[.int .u64 z,.bool true])) (by rw [zsM,zcw];rfl),zaz (hw1.below.alloc (by rw [hw1.size];omega) _)⟩
theorem zxg (p o:Nat) (k n v x:Int) (w:World) (hx:w.cell? ⟨p,o+1,none⟩=some (.int .u64 x)) (hf:w.frozen? ⟨p,o+1,none⟩=false)
  (hl:∀ w1,Parts p o w w1→(Instr.lookup 130 (.map (some w.heap.size)) (.agg #[.int .u64 k,.int .i64 n]) true).run Tryd.prog w1 = .ok (.tuple #[.agg #[.pointer (some ⟨p,o+1,none⟩),.int .i64 32,.int .i64 32],.bool true]) w1) :
  Calls Tryd.prog 69 #[.pointer (some ⟨p,o,none⟩),.int .u64 k,.int .i64 n,.int .u64 v] w fun e w'=>e = .returned (.bool true)∧∃ w1,Below w.heap.size w w1∧w'=w1.setCell ⟨p,o+1,none⟩ (.int .u64 (zfj x 32 32 v)):=by
 go_enter Tryd.func69,Tryd.ntmps69
 go_wp2_with (first
  | (go_at_call 70;refine (w70 _ _ _).mono ?_;intro e w1 he1;obtain ⟨he,hw1⟩:=he1;subst he;have hl1:=hl w1 hw1)
  | go_in)
 have hp:p<w.heap.size:=zav hx
 have hx2:(w1.alloc (.cells #[.pointer (some ⟨p,o+1,none⟩),.int .i64 32,.int .i64 32] 128)).cell? ⟨p,o+1,none⟩=some (.int .u64 x):=by
  rw [World.cell?_alloc_lt _ _ _ (by rw [hw1.size];exact Nat.lt_succ_of_lt hp),World.cell?_of_block (w:=w) (hw1.below.block p hp)];exact hx
 have hf2:(w1.alloc (.cells #[.pointer (some ⟨p,o+1,none⟩),.int .i64 32,.int .i64 32] 128)).frozen? ⟨p,o+1,none⟩=false:=by
  rw [World.frozen?_of_block (w:=w1) ((MapKept.heap_alloc _ _).2 p (by rw [hw1.size];omega)),World.frozen?_of_block (w:=w) (hw1.below.block p hp)];exact hf
 clear hl hl1
 go_region
 go_wp2
 go_region
 simp only [Exit.then]
 go_wp2
 go_ret
 exact ⟨rfl,(w1.alloc (.cells #[.pointer (some ⟨p,o+1,none⟩),.int .i64 32,.int .i64 32] 128)).drew.drew,zaz (zaz (hw1.below.alloc (by rw [hw1.size];omega) _)),congrArg (fun z=>((w1.alloc (.cells #[.pointer (some ⟨p,o+1,none⟩),.int .i64 32,.int .i64 32] 128)).setCell ⟨p,o+1,none⟩ (.int .u64 z)).drew.drew) (by unfold zfj;rw [zcw,zjY,zsN];rfl)⟩
end Go.Proofs.YtedoffkaehcnmaaDoor
namespace Go.Sx
open Go Go.RowKit
theorem Fr.set {W:Nat→Prop} {w w1:World} {a:Addr} {x:Value} (h:Fr W w w1) (ha:a.block<w.heap.size→W a.block):Fr W w (w1.setCell a x) :=
 ⟨h.os,h.tape,h.output,by simpa [World.setCell] using h.size,fun k hk hnk=>by
  rw [Below.heap_setCell _ _ _ _ (fun e=>by subst e;exact hnk (ha hk))]
  exact h.block k hk hnk⟩
section
variable {w:World} {p o:Nat} {d:List DV} {sb so c:Nat} {pg:Nat→Option (Nat×Nat×Nat)}
end
end Go.Sx
namespace Go.Proofs.YtedoffkaehcnmaaDoor
open Go Go.Sx Go.RowKit
set_option maxRecDepth 100000
structure ClAt (own:Bool) (w:World) (r:Sx.Loc) (d:List DV):Prop where
 nil:r.nil=false
 len:d.length=3
 cell:∀ j,j<3→w.cell? ⟨r.blk,r.off+j,none⟩=some (.int .u64 (d.getD j default).toI)
 fz:own=true→∀ i,w.frozen? ⟨r.blk,i,none⟩=false
theorem zuk:zfi 2 zh9.ids=true:=by decide
theorem zsP:objK 2=zrs (zcZ 2) zh9.ids (by have:=zuk;simp only [zfi,Bool.and_eq_true] at this;exact this.1.1):=zcE (k:=0) rfl zuk
theorem zwm {own:Bool} {w:World} {r:Sx.Loc} {d:List DV} (h:zbi own 2 w r d):ClAt own w r d:=by
 obtain ⟨hn,h⟩:=(zbi.plain (by rfl)).1 h
 rw [zsP] at h
 obtain ⟨ρ,hd⟩:=h
 have hb:=hd.h.blk 0
 cases own with
 | true =>
  have hb:CBlk _ ρ w (ρ 0) true [some (.i .u64 (.r 0)),some (.i .u64 (.r 1)),some (.i .u64 (.r 2))]:=hb _ rfl
  refine ⟨hn,hd.len,fun j hj=>?_,fun _ i=>by have:=hb.fz rfl i;rwa [hd.blk] at this⟩
  rw [←hd.blk,←hd.off]
  match j,hj with
  | 0,_=>exact (hb.cell 0 _ rfl).2
  | 1,_=>exact (hb.cell 1 _ rfl).2
  | 2,_=>exact (hb.cell 2 _ rfl).2
 | false =>
  have hb:CBlk _ ρ w (ρ 0) false [some (.i .u64 (.r 0)),some (.i .u64 (.r 1)),some (.i .u64 (.r 2))]:=hb _ rfl
  refine ⟨hn,hd.len,fun j hj=>?_,fun e=>by cases e⟩
  rw [←hd.blk,←hd.off]
  match j,hj with
  | 0,_=>exact (hb.cell 0 _ rfl).2
  | 1,_=>exact (hb.cell 1 _ rfl).2
  | 2,_=>exact (hb.cell 2 _ rfl).2
theorem zpM {w:World} {r:Sx.Loc} {d:List DV} (h:ClAt true w r d):zbi true 2 w r d:=by
 refine (zbi.plain (by rfl)).2 ⟨h.nil,?_⟩
 rw [zsP]
 have hc:CBlk (fun i=>d.getD i default) (fun _=>r) w r true [some (.i .u64 (.r 0)),some (.i .u64 (.r 1)),some (.i .u64 (.r 2))]:=by
  refine ⟨h.nil,zav (h.cell 0 (by decide)),fun i l hi=>?_,fun _ i hi=>⟨?_,h.fz rfl _⟩,fun _=>h.fz rfl⟩
  ·match i,hi with
   | 0,hi=>cases hi;exact ⟨trivial,h.cell 0 (by decide)⟩
   | 1,hi=>cases hi;exact ⟨trivial,h.cell 1 (by decide)⟩
   | 2,hi=>cases hi;exact ⟨trivial,h.cell 2 (by decide)⟩
   | i+3,hi=>cases i<;>cases hi
  ·have hi:i<3:=hi
   rw [h.cell i hi];rfl
 refine ⟨fun _=>r,h.len,rfl,rfl,⟨fun j bk hj=>?_,fun j j' bk bk' hj _ hj' hne=>?_⟩⟩
 ·match j,hj with
  | 0,hj=>cases hj;exact hc
  | j+1,hj=>cases j<;>cases hj
 ·match j,j',hj,hj' with
  | 0,0,_,_=>exact absurd rfl hne
  | 0,j+1,_,hj=>cases j<;>cases hj
  | j+1,_,hj,_=>cases j<;>cases hj
theorem ztL {w:World} {r:Sx.Loc} {d:List DV} (h:ClAt true w r d) {b:Nat} : (objK (kb 2)).rfoot w r.blk r.off b→b=r.blk:=by
 rw [show kb 2=2 from rfl,zsP]
 rintro ⟨d1,ρ,hd,j,bk,hj,_,hx⟩
 match j,hj with
 | 0,hj=>cases hj;have:b=(ρ 0).blk:=hx;rw [this,hd.blk]
 | j+1,hj=>cases j<;>cases hj
theorem zsQ {w:World} {r:Sx.Loc} {d:List DV} (h:zbi true 2 w r d):(objK (kb 2)).foot w r.blk r.off r.blk:=by
 obtain ⟨hn,h⟩:=(zbi.plain (by rfl)).1 h
 rw [zsP] at h
 obtain ⟨ρ,hd⟩:=h
 rw [show kb 2=2 from rfl,zsP]
 exact ⟨_,ρ,hd,0,_,rfl,rfl,(hd.h.blk 0 _ rfl).nil,hd.blk.symm⟩
theorem zoZ {k n:Int} (h:zaY k n<7):(.agg #[.int .u64 k,.int .i64 n]:Value)=clKey (zaY k n):=by
 unfold zaY at h ⊢
 repeat' split at h
 all_goals (first | (rename_i h1;obtain ⟨rfl,rfl⟩:=h1;simp [clKey,clAt,clSz]) | omega)
theorem zk3 {k n:Int} {g:Nat} (hg:g<7) (h:(.agg #[.int .u64 k,.int .i64 n]:Value)=clKey g):zaY k n=g:=by
 have h1:k=clAt g∧n=clSz g:=by simpa [clKey] using h
 obtain ⟨rfl,rfl⟩:=h1
 have key:∀ g<7,zaY (clAt g) (clSz g)=g:=by decide
 exact key g hg
theorem zsR {p o:Nat} {w w1:World} (h:Parts p o w w1) {k n:Int} (hk:(Lit.int .u64 k).wf=true) (hn:(Lit.int .i64 n).wf=true) :
  (zaY k n<7→(Instr.lookup 130 (.map (some w.heap.size)) (.agg #[.int .u64 k,.int .i64 n]) true).run Tryd.prog w1 = .ok (.tuple #[clPv p o (zaY k n),.bool true]) w1) ∧
  (¬ zaY k n<7→(Instr.lookup 130 (.map (some w.heap.size)) (.agg #[.int .u64 k,.int .i64 n]) true).run Tryd.prog w1 = .ok (.tuple #[.agg #[.pointer none,.int .i64 0,.int .i64 0],.bool false]) w1):=by
 obtain ⟨es,clock,h1,h2⟩:=h.ents
 obtain ⟨l,hkl⟩:=zbZ hk hn
 have mem:∀ x∈es.toList,∃ g,g<7∧x.key=clKey g∧x.val=clPv p o g:=fun x hx=>by
  obtain ⟨g,hg,e⟩:=List.mem_map.1 (h2.mem_iff.1 (List.mem_map.2 ⟨x,hx,rfl⟩))
  exact ⟨g,List.mem_range.1 hg,(congrArg Prod.fst e).symm,(congrArg Prod.snd e).symm⟩
 have hl:=zl9 (P:=Tryd.prog) (w:=w1) true zpK Tryd.underlying130 (zvm w1) h1 (fun x hx=>by obtain ⟨g,hg,e,_⟩:=mem x hx;rw [e];exact zoY hg) hkl
 refine ⟨fun hw=>?_,fun hw=>?_⟩
 ·rcases hl with ⟨_,hno⟩ | ⟨e0,he0,hk0,hrun⟩
  ·have:(clKey (zaY k n),clPv p o (zaY k n))∈es.toList.map fun e=>(e.key,e.val):=h2.mem_iff.2 (List.mem_map.2 ⟨_,List.mem_range.2 hw,rfl⟩)
   obtain ⟨x,hx,e⟩:=List.mem_map.1 this
   exact absurd ((congrArg Prod.fst e).trans (zoZ hw).symm) (hno x hx)
  ·obtain ⟨g,hg,e1,e2⟩:=mem e0 he0
   have:=zk3 hg (hk0.symm.trans e1)
   rw [this,←e2]
   exact hrun
 ·rcases hl with ⟨hrun,_⟩ | ⟨e0,he0,hk0,hrun⟩
  ·exact hrun
  ·obtain ⟨g,hg,e1,e2⟩:=mem e0 he0
   have:=zk3 hg (hk0.symm.trans e1)
   omega
theorem wf64 {n:Int} (h:in64 n=true):(Lit.int .u64 n).wf=true:=by
 have:=zoX h
 simp [Lit.wf,IntKind.min,IntKind.max,IntKind.bits,IntKind.signed];omega
theorem zwn {n:Int} (h:ztB n=true):(Lit.int .i64 n).wf=true:=by
 have : -9223372036854775808≤n∧n<9223372036854775808:=by simpa [ztB] using h
 simp [Lit.wf,IntKind.min,IntKind.max,IntKind.bits,IntKind.signed];omega
theorem zpN {sg:Sig} {ds:List DV} {ρ:Nat→Sx.Loc} {w w':World} {v:Value} (h:v=sg.outI.conc (sg.res ds) ρ) (hg:sg.outI.good (sg.res ds)) (ho:sg.hout=[]) (hb:Below w.heap.size w w'):CallOut sg ds ρ w v ρ w':=by
 refine ⟨h,hg,⟨fun j bk hj=>?_,fun j j' bk bk' hj=>?_⟩,fun j bk hj=>?_,Fr.of_below hb,fun j _ hl=>?_⟩
 all_goals (simp only [Sig.houtI,ho,List.map_nil] at *)
 ·cases j<;>cases hj
 ·cases j<;>cases hj
 ·cases j<;>cases hj
theorem w67 (p o g:Nat) (hg:g<7) (k n x:Int) (w:World) (hx:w.cell? ⟨p,o+(zbo g).1,none⟩=some (.int .u64 x))
  (hl:∀ w1,Parts p o w w1→(Instr.lookup 130 (.map (some w.heap.size)) (.agg #[.int .u64 k,.int .i64 n]) true).run Tryd.prog w1 = .ok (.tuple #[clPv p o g,.bool true]) w1) :
  Calls Tryd.prog 67 #[.pointer (some ⟨p,o,none⟩),.int .u64 k,.int .i64 n] w fun e w'=>e = .returned (.tuple #[.int .u64 (zaf .u64 (ishr .u64 x (zbo g).2.1) (zdg (zbo g).2.2)),.bool true])∧Below w.heap.size w w':=by
 match g,hg with
 | 0,_=>exact zw3 p o k n x w hx hl
 | 1,_=>exact zw5 p o k n x w hx hl
 | 2,_=>exact zw7 p o k n x w hx hl
 | 3,_=>exact zw9 p o k n x w hx hl
 | 4,_=>exact zxb p o k n x w hx hl
 | 5,_=>exact zxd p o k n x w hx hl
 | 6,_=>exact zxf p o k n x w hx hl
theorem w69 (p o g:Nat) (hg:g<7) (k n v x:Int) (w:World) (hx:w.cell? ⟨p,o+(zbo g).1,none⟩=some (.int .u64 x)) (hf:w.frozen? ⟨p,o+(zbo g).1,none⟩=false)
  (hl:∀ w1,Parts p o w w1→(Instr.lookup 130 (.map (some w.heap.size)) (.agg #[.int .u64 k,.int .i64 n]) true).run Tryd.prog w1 = .ok (.tuple #[clPv p o g,.bool true]) w1) :
  Calls Tryd.prog 69 #[.pointer (some ⟨p,o,none⟩),.int .u64 k,.int .i64 n,.int .u64 v] w fun e w'=>e = .returned (.bool true)∧∃ w1,Below w.heap.size w w1∧w'=w1.setCell ⟨p,o+(zbo g).1,none⟩ (.int .u64 (zfj x (zbo g).2.1 (zbo g).2.2 v)):=by
 match g,hg with
 | 0,_=>exact zw4 p o k n v x w hx hf hl
 | 1,_=>exact zw6 p o k n v x w hx hf hl
 | 2,_=>exact zw8 p o k n v x w hx hf hl
 | 3,_=>exact zxa p o k n v x w hx hf hl
 | 4,_=>exact zxc p o k n v x w hx hf hl
 | 5,_=>exact zxe p o k n v x w hx hf hl
 | 6,_=>exact zxg p o k n v x w hx hf hl
theorem znm (g:Nat):(zbo g).1<3:=by unfold zbo;split<;>decide
theorem hk67 {I:World→Prop} : FnOK Tryd.prog I 0 67 s67 g67:=by
 intro ds ρ w _ hlen hneed _ _ _ hrel
 have h:=zwm (hrel.blk 0 _ rfl)
 have hp:p67 (dget ds 0).toL (dget ds 1).toI (dget ds 2).toI=true:=hneed rfl
 unfold p67 at hp
 rw [Bool.and_eq_true] at hp
 have hL:=fun w1 (h1:Parts (ρ 0).blk (ρ 0).off w w1)=>zsR h1 (wf64 hp.1) (zwn hp.2)
 show Calls Tryd.prog 67 #[.pointer (some ⟨(ρ 0).blk,(ρ 0).off,none⟩),.int .u64 (dget ds 1).toI,.int .i64 (dget ds 2).toI] w _
 by_cases hw:zaY (dget ds 1).toI (dget ds 2).toI<7
 ·refine (w67 _ _ _ hw _ _ _ w (h.cell _ (znm _)) fun w1 h1=>(hL w1 h1).1 hw).mono fun e w' ⟨he,hb⟩=>?_
  subst he
  refine ⟨_,ρ,rfl,zpN ?_ (fun v hv=>?_) rfl hb⟩
  ·show Value.tuple #[.int .u64 _,.bool true]=Value.tuple #[.int .u64 (zqB (dget ds 0).toL (dget ds 1).toI (dget ds 2).toI),.bool (zqA (dget ds 0).toL (dget ds 1).toI (dget ds 2).toI)]
   unfold zqB zqA
   rw [if_pos hw,decide_eq_true hw]
   rfl
  ·rcases List.mem_cons.1 hv with rfl | hv
   ·exact V1.good_one.2 trivial
   ·rcases List.mem_cons.1 hv with rfl | hv
    ·exact V1.good_one.2 trivial
    ·cases hv
 ·refine (w67n _ _ _ _ w fun w1 h1=>(hL w1 h1).2 hw).mono fun e w' ⟨he,hb⟩=>?_
  subst he
  refine ⟨_,ρ,rfl,zpN ?_ (fun v hv=>?_) rfl hb⟩
  ·show Value.tuple #[.int .u64 _,.bool false]=Value.tuple #[.int .u64 (zqB (dget ds 0).toL (dget ds 1).toI (dget ds 2).toI),.bool (zqA (dget ds 0).toL (dget ds 1).toI (dget ds 2).toI)]
   unfold zqB zqA
   rw [if_neg hw,decide_eq_false hw]
  ·rcases List.mem_cons.1 hv with rfl | hv
   ·exact V1.good_one.2 trivial
   ·rcases List.mem_cons.1 hv with rfl | hv
    ·exact V1.good_one.2 trivial
    ·cases hv
theorem hk69 {I:World→Prop} : FnOK Tryd.prog I 0 69 s69 g69:=by
 intro ds ρ w _ hlen hneed _ _ _ hrel
 have h0:zbi true 2 w (ρ 0) (dget ds 0).toL:=hrel.blk 0 _ rfl
 have h:=zwm h0
 have hp:p69 (dget ds 0).toL (dget ds 1).toI (dget ds 2).toI (dget ds 3).toI=true:=hneed rfl
 unfold p69 at hp
 rw [Bool.and_eq_true] at hp
 have hL:=fun w1 (h1:Parts (ρ 0).blk (ρ 0).off w w1)=>zsR h1 (wf64 hp.1) (zwn hp.2)
 have hblt:(ρ 0).blk<w.heap.size:=zav (h.cell 0 (by decide))
 have fin:∀ (w':World) (b:Bool),ClAt true w' (ρ 0) (zoA (dget ds 0).toL (dget ds 1).toI (dget ds 2).toI (dget ds 3).toI)→b=zrR (dget ds 0).toL (dget ds 1).toI (dget ds 2).toI (dget ds 3).toI →
   Fr (fun x=>x=(ρ 0).blk) w w'→∃ v ρ',Ending.returned (.bool b) = .returned v∧CallOut s69 (g69 ds) ρ w v ρ' w':=by
  intro w' b hc hb hfr
  refine ⟨_,ρ,rfl,zsE (k:=2) (by subst hb;rfl) (V.good_s.2 (V1.good_one.2 trivial)) rfl (by decide) rfl (by decide) (zpM hc) (fun x hx=>.inr ?_) (fun x hx=>?_) h.nil (hfr.weaken fun x hx=>by rw [hx];exact zsQ h0)⟩
  ·rw [ztL hc hx];exact zsQ h0
  ·have hR:=((zbi.plain (by rfl)).1 (zpM hc)).2
   exact (objK 2).sub hR hx
 show Calls Tryd.prog 69 #[.pointer (some ⟨(ρ 0).blk,(ρ 0).off,none⟩),.int .u64 (dget ds 1).toI,.int .i64 (dget ds 2).toI,.int .u64 (dget ds 3).toI] w _
 have keep:∀ {w1:World},Below w.heap.size w w1→(∀ j,j<3→w1.cell? ⟨(ρ 0).blk,(ρ 0).off+j,none⟩=some (.int .u64 ((dget ds 0).toL.getD j default).toI))∧∀ i,w1.frozen? ⟨(ρ 0).blk,i,none⟩=false:=fun {w1} hb =>
  ⟨fun j hj=>by rw [World.cell?_of_block (w:=w) (hb.block _ hblt)];exact h.cell j hj,fun i=>by rw [World.frozen?_of_block (w:=w) (hb.block _ hblt)];exact h.fz rfl i⟩
 by_cases hw:zaY (dget ds 1).toI (dget ds 2).toI<7
 ·refine (w69 _ _ _ hw _ _ _ _ w (h.cell _ (znm _)) (h.fz rfl _) fun w1 h1=>(hL w1 h1).1 hw).mono fun e w' ⟨he,w1,hb,hw'⟩=>?_
  subst he;subst hw'
  obtain ⟨kc,kf⟩:=keep hb
  refine fin _ _ ⟨h.nil,?_,fun j hj=>?_,fun _ i=>by rw [World.frozen?_setCell];exact kf i⟩ ?_ ((Fr.of_below hb).set fun _=>rfl)
  ·unfold zoA;rw [if_pos hw];simp
  ·unfold zoA
   rw [if_pos hw]
   by_cases hj2:(zbo (zaY (dget ds 1).toI (dget ds 2).toI)).1=j
   ·rw [hj2,World.cell?_setCell_same _ _ _ (kc j hj)]
    have hset:∀ (l:List DV) (x:DV),j<l.length→(l.set j x).getD j default=x:=fun l x hl=>by rw [List.getD_eq_getElem?_getD,List.getElem?_set_self hl];rfl
    rw [hset _ _ (by rw [List.length_map,List.length_range];exact hj)]
   ·rw [World.cell?_setCell_other _ _ _ _ (fun e=>hj2 (by have:=congrArg Addr.off e;simp only at this;omega)),kc j hj,List.getD_eq_getElem?_getD (l:=List.set _ _ _),List.getElem?_set_ne hj2,List.getElem?_map,List.getElem?_range hj]
    rfl
  ·unfold zrR;rw [decide_eq_true hw]
 ·refine (w69n _ _ _ _ _ w fun w1 h1=>(hL w1 h1).2 hw).mono fun e w' ⟨he,hb⟩=>?_
  subst he
  obtain ⟨kc,kf⟩:=keep hb
  refine fin _ _ ⟨h.nil,?_,fun j hj=>?_,fun _=>kf⟩ ?_ ((Fr.of_below hb))
  ·unfold zoA;rw [if_neg hw];simp
  ·unfold zoA
   rw [if_neg hw,kc j hj,List.getD_eq_getElem?_getD (l:=List.map _ _),List.getElem?_map,List.getElem?_range hj]
   rfl
  ·unfold zrR;rw [decide_eq_false hw]
end Go.Proofs.YtedoffkaehcnmaaDoor
namespace Go.Proofs.YtedoffkaehcnmaaDoor
open Go Go.Sx
set_option maxRecDepth 100000
set_option maxHeartbeats 4000000
def gK:Nat:=1
def WI (w:World):Prop:=GlobIn w 0 c0
theorem gl0:∀ w,WI w→GlobIn w 0 c0:=fun _ h=>h
theorem zan:zpD WI gK:=fun w w' hs hb h=>⟨Nat.lt_of_lt_of_le h.1 hs,fun i l hi ν ρ=>⟨(h.2 i l hi ν ρ).1,by
 rw [←(h.2 i l hi ν ρ).2]
 have e:=hb 0 (by decide)
 simp only [World.cell?,e]⟩⟩
theorem k23:FnOK Tryd.prog WI gK 23 s23 g23:=FnOK.up hk23
theorem k38:FnOK Tryd.prog WI gK 38 s38 g38:=FnOK.up hk38
theorem k42:FnOK Tryd.prog WI gK 42 s42 g42:=FnOK.up hk42
theorem k67:FnOK Tryd.prog WI gK 67 s67 g67:=FnOK.up hk67
theorem k69:FnOK Tryd.prog WI gK 69 s69 g69:=FnOK.up hk69
noncomputable def FE:FEnv:=fun f=>match f with
 | 26=>g26
 | 45=>g45
 | 27=>g27
 | 46=>g46
 | 50=>g50
 | 43=>g43
 | 75=>g75
 | 74=>g74
 | 72=>g72
 | 73=>g73
 | 28=>g28
 | 44=>g44
 | 79=>g79
 | 77=>g77
 | 78=>g78
 | 47=>g47
 | 23=>g23
 | 38=>g38
 | 42=>g42
 | 67=>g67
 | 69=>g69
 | 41=>g41
 | 103300=>zuU
 | 33=>g33
 | 103600=>zuV
 | 36=>g36
 | 102500=>zuX
 | 25=>g25
 | 102400=>zl6
 | 24=>g24
 | 34=>g34
 | 35=>g35
 | 30=>g30
 | 12=>g12
 | 37=>g37
 | 14=>g14
 | 15=>g15
 | 48=>g48
 | 39=>g39
 | 49=>g49
 | 40=>g40
 | 29=>g29
 | 20=>g20
 | 31=>g31
 | 32=>g32
 | 8=>g8
 | 10=>g10
 | 13=>g13
 | 19=>g19
 | 16=>g16
 | 101700=>zu8
 | 17=>g17
 | 18=>g18
 | 7=>g7
 | 6=>g6
 | _=>fun _=>[]
theorem e26:∀ ds,g26 ds=outI FE s26 o26 ds:=zaH (l:=[]) (by kernel_rfl) (fun _ h=>(by cases h))
theorem k26:FnOK Tryd.prog WI gK 26 s26 g26 :=
 zcv (F:=FE) zan (⟨fun _ _ h=>(by cases h),(fun _ _ h=>(by cases h))⟩) Tryd.func26 ev26 (by kernel_rfl) (by kernel_rfl) (zax (by kernel_rfl)) e26
theorem e45:∀ ds,g45 ds=outI FE s45 o45 ds:=zaH (l:=[]) (by kernel_rfl) (fun _ h=>(by cases h))
theorem k45:FnOK Tryd.prog WI gK 45 s45 g45 :=
 zcv (F:=FE) zan (⟨fun _ _ h=>(by cases h),(fun _ _ h=>(by cases h))⟩) Tryd.func45 ev45 (by kernel_rfl) (by kernel_rfl) (zax (by kernel_rfl)) e45
theorem e27:∀ ds,g27 ds=outI FE s27 o27 ds:=zaH (l:=[]) (by kernel_rfl) (fun _ h=>(by cases h))
theorem k27:FnOK Tryd.prog WI gK 27 s27 g27 :=
 zcv (F:=FE) zan (⟨fun _ _ h=>(by cases h),(fun _ _ h=>(by cases h))⟩) Tryd.func27 ev27 (by kernel_rfl) (by kernel_rfl) (zax (by kernel_rfl)) e27
theorem e46:∀ ds,g46 ds=outI FE s46 o46 ds:=zaH (l:=[]) (by kernel_rfl) (fun _ h=>(by cases h))
theorem k46:FnOK Tryd.prog WI gK 46 s46 g46 :=
 zcv (F:=FE) zan (⟨fun _ _ h=>(by cases h),(fun _ _ h=>(by cases h))⟩) Tryd.func46 ev46 (by kernel_rfl) (by kernel_rfl) (zax (by kernel_rfl)) e46
theorem k50:FnOK Tryd.prog WI gK 50 s50 g50 :=
 zb6 (F:=FE) zan (⟨fun _ _ h=>(by cases h),(fun _ _ h=>(by cases h))⟩) Tryd.func50 ev50 (by kernel_rfl) (zax (by kernel_rfl)) fun ds h hp=>match ds,h,hp with
  | [d0,d1],_,hp=>⟨(by kernel_rfl:zcf (zaV FE s50 o50 [d0,d1]) o50.owes=(dget (g50 [d0,d1]) 0).toB).trans (hp rfl),zay (by kernel_rfl) (by kernel_rfl) (by kernel_rfl)⟩
theorem k43:FnOK Tryd.prog WI gK 43 s43 g43 :=
 zb6 (F:=FE) zan (⟨(fun f s h=>zaD (Q:=fun f s=>FnOK Tryd.prog WI gK f s (FE f)) (l:=S43.fs)
  (show ∀ p∈[(50,s50)],FnOK Tryd.prog WI gK p.1 p.2 (FE p.1) from
  zak k50 (by kernel_rfl) (fun _ h=>(by cases h))) h),(fun _ _ h=>(by cases h))⟩) Tryd.func43 ev43 (by kernel_rfl) (zax (by kernel_rfl)) fun ds h hp=>match ds,h,hp with
  | [d0,d1,d2],_,hp=>⟨(by kernel_rfl:zcf (zaV FE s43 o43 [d0,d1,d2]) o43.owes=(dget (g43 [d0,d1,d2]) 0).toB).trans (hp rfl),zay (by kernel_rfl) (by kernel_rfl) (by kernel_rfl)⟩
theorem e75:∀ ds,g75 ds=outI FE s75 o75 ds:=zaH (l:=[]) (by kernel_rfl) (fun _ h=>(by cases h))
theorem k75:FnOK Tryd.prog WI gK 75 s75 g75 :=
 zcv (F:=FE) zan (⟨fun _ _ h=>(by cases h),(fun _ _ h=>(by cases h))⟩) Tryd.func75 ev75 (by kernel_rfl) (by kernel_rfl) (zax (by kernel_rfl)) e75
theorem e74:∀ ds,g74 ds=outI FE s74 o74 ds:=zaH (l:=[]) (by kernel_rfl) (fun _ h=>(by cases h))
theorem k74:FnOK Tryd.prog WI gK 74 s74 g74 :=
 zcv (F:=FE) zan (⟨fun _ _ h=>(by cases h),(fun _ _ h=>(by cases h))⟩) Tryd.func74 ev74 (by kernel_rfl) (by kernel_rfl) (zax (by kernel_rfl)) e74
theorem k72:FnOK Tryd.prog WI gK 72 s72 g72 :=
 zb6 (F:=FE) zan (⟨(fun f s h=>zaD (Q:=fun f s=>FnOK Tryd.prog WI gK f s (FE f)) (l:=S72.fs)
  (show ∀ p∈[(74,s74),(75,s75)],FnOK Tryd.prog WI gK p.1 p.2 (FE p.1) from
  zak k74 (by kernel_rfl) (zak k75 (by kernel_rfl) (fun _ h=>(by cases h)))) h),(fun _ _ h=>(by cases h))⟩) Tryd.func72 ev72 (by kernel_rfl) (zax (by kernel_rfl)) fun ds h hp=>match ds,h,hp with
  | [d0,d1,d2],_,hp=>⟨(by kernel_rfl:zcf (zaV FE s72 o72 [d0,d1,d2]) o72.owes=(dget (g72 [d0,d1,d2]) 0).toB).trans (hp rfl),zay (by kernel_rfl) (by kernel_rfl) (by kernel_rfl)⟩
theorem k73:FnOK Tryd.prog WI gK 73 s73 g73 :=
 zb6 (F:=FE) zan (⟨(fun f s h=>zaD (Q:=fun f s=>FnOK Tryd.prog WI gK f s (FE f)) (l:=S73.fs)
  (show ∀ p∈[(74,s74),(50,s50)],FnOK Tryd.prog WI gK p.1 p.2 (FE p.1) from
  zak k74 (by kernel_rfl) (zak k50 (by kernel_rfl) (fun _ h=>(by cases h)))) h),(fun _ _ h=>(by cases h))⟩) Tryd.func73 ev73 (by kernel_rfl) (zax (by kernel_rfl)) fun ds h hp=>match ds,h,hp with
  | [d0,d1,d2,d3],_,hp=>⟨(by kernel_rfl:zcf (zaV FE s73 o73 [d0,d1,d2,d3]) o73.owes=(dget (g73 [d0,d1,d2,d3]) 0).toB).trans (hp rfl),zay (by kernel_rfl) (by kernel_rfl) (by kernel_rfl)⟩
theorem e28:∀ ds,g28 ds=outI FE s28 o28 ds:=zaH (l:=[]) (by kernel_rfl) (fun _ h=>(by cases h))
theorem k28:FnOK Tryd.prog WI gK 28 s28 g28 :=
 zcv (F:=FE) zan (⟨fun _ _ h=>(by cases h),(fun _ _ h=>(by cases h))⟩) Tryd.func28 ev28 (by kernel_rfl) (by kernel_rfl) (zax (by kernel_rfl)) e28
theorem e44:∀ ds,g44 ds=outI FE s44 o44 ds:=zaH (l:=[]) (by kernel_rfl) (fun _ h=>(by cases h))
theorem k44:FnOK Tryd.prog WI gK 44 s44 g44 :=
 zcv (F:=FE) zan (⟨fun _ _ h=>(by cases h),(fun _ _ h=>(by cases h))⟩) Tryd.func44 ev44 (by kernel_rfl) (by kernel_rfl) (zax (by kernel_rfl)) e44
theorem e79:∀ ds,g79 ds=outI FE s79 o79 ds:=zaH (l:=[]) (by kernel_rfl) (fun _ h=>(by cases h))
theorem k79:FnOK Tryd.prog WI gK 79 s79 g79 :=
 zcv (F:=FE) zan (⟨fun _ _ h=>(by cases h),(fun _ _ h=>(by cases h))⟩) Tryd.func79 ev79 (by kernel_rfl) (by kernel_rfl) (zax (by kernel_rfl)) e79
theorem k77:FnOK Tryd.prog WI gK 77 s77 g77 :=
 zb6 (F:=FE) zan (⟨(fun f s h=>zaD (Q:=fun f s=>FnOK Tryd.prog WI gK f s (FE f)) (l:=S77.fs)
  (show ∀ p∈[(79,s79),(44,s44)],FnOK Tryd.prog WI gK p.1 p.2 (FE p.1) from
  zak k79 (by kernel_rfl) (zak k44 (by kernel_rfl) (fun _ h=>(by cases h)))) h),(fun _ _ h=>(by cases h))⟩) Tryd.func77 ev77 (by kernel_rfl) (zax (by kernel_rfl)) fun ds h hp=>match ds,h,hp with
  | [d0,d1,d2],_,hp=>⟨(by kernel_rfl:zcf (zaV FE s77 o77 [d0,d1,d2]) o77.owes=(dget (g77 [d0,d1,d2]) 0).toB).trans (hp rfl),zay (by kernel_rfl) (by kernel_rfl) (by kernel_rfl)⟩
theorem k78:FnOK Tryd.prog WI gK 78 s78 g78 :=
 zb6 (F:=FE) zan (⟨fun _ _ h=>(by cases h),(fun _ _ h=>(by cases h))⟩) Tryd.func78 ev78 (by kernel_rfl) (zax (by kernel_rfl)) fun ds h hp=>match ds,h,hp with
  | [d0,d1,d2,d3],_,hp=>⟨(by kernel_rfl:zcf (zaV FE s78 o78 [d0,d1,d2,d3]) o78.owes=(dget (g78 [d0,d1,d2,d3]) 0).toB).trans (hp rfl),zay (by kernel_rfl) (by kernel_rfl) (by kernel_rfl)⟩
theorem e47:∀ ds,g47 ds=outI FE s47 o47 ds:=zaH (l:=[]) (by kernel_rfl) (fun _ h=>(by cases h))
theorem k47:FnOK Tryd.prog WI gK 47 s47 g47 :=
 zcv (F:=FE) zan (⟨fun _ _ h=>(by cases h),(fun _ _ h=>(by cases h))⟩) Tryd.func47 ev47 (by kernel_rfl) (by kernel_rfl) (zax (by kernel_rfl)) e47
theorem k41:FnOK Tryd.prog WI gK 41 s41 g41 :=
 zb6 (F:=FE) zan (⟨fun _ _ h=>(by cases h),(fun _ _ h=>(by cases h))⟩) Tryd.func41 ev41 (by kernel_rfl) (zax (by kernel_rfl)) fun ds h hp=>match ds,h,hp with
  | [d0,d1,d2],_,_=>⟨by kernel_rfl,zay (by kernel_rfl) (by kernel_rfl) (by kernel_rfl)⟩
theorem zwo:zaB FE zqC:=zjC (w:=zjE) (c:=zjF) (nx:=zjG) (out:=zoC) [.i,.l,.i,.i] (fun ds=>by kernel_rfl) rfl (fun ν xs h=>match xs,h with | [x0,x1],_=>by kernel_rfl)
 (fun ν xs h=>match xs,h with | [x0,x1],_=>by kernel_rfl)
 (fun ν xs h=>match xs,h with | [x0,x1],_=>by kernel_rfl)
 (fun ν xs h=>match xs,h with | [x0,x1],_=>by kernel_rfl)
theorem hl33:∀ l∈o33.loops,zaB FE l:=zjD (by kernel_rfl:o33.loops=[zqC])
 (  List.forall_mem_cons.2 ⟨zwo,fun _ h=>(by cases h)⟩)
theorem k33:FnOK Tryd.prog WI gK 33 s33 g33 :=
 zb6 (F:=FE) zan (⟨(fun f s h=>zaD (Q:=fun f s=>FnOK Tryd.prog WI gK f s (FE f)) (l:=S33.fs)
  (show ∀ p∈[(41,s41),(42,s42)],FnOK Tryd.prog WI gK p.1 p.2 (FE p.1) from
  zak k41 (by kernel_rfl) (zak k42 (by kernel_rfl) (fun _ h=>(by cases h)))) h),(fun _ _ h=>(by cases h))⟩) Tryd.func33 ev33 (by kernel_rfl) hl33 fun ds h hp=>match ds,h,hp with
  | [d0,d1,d2],_,hp=>⟨(by kernel_rfl:zcf (zaV FE s33 o33 [d0,d1,d2]) o33.owes=(dget (g33 [d0,d1,d2]) 0).toB).trans (hp rfl),zay (by kernel_rfl) (by kernel_rfl) (by kernel_rfl)⟩
theorem zwp:zaB FE zuW:=zjC (w:=zoE) (c:=zoF) (nx:=zoG) (out:=zr3) [.i,.i,.i,.i,.l] (fun ds=>by kernel_rfl) rfl (fun ν xs h=>match xs,h with | [x0,x1],_=>by kernel_rfl)
 (fun ν xs h=>match xs,h with | [x0,x1],_=>by kernel_rfl)
 (fun ν xs h=>match xs,h with | [x0,x1],_=>by kernel_rfl)
 (fun ν xs h=>match xs,h with | [x0,x1],_=>by kernel_rfl)
theorem hl36:∀ l∈o36.loops,zaB FE l:=zjD (by kernel_rfl:o36.loops=[zuW])
 (  List.forall_mem_cons.2 ⟨zwp,fun _ h=>(by cases h)⟩)
theorem k36:FnOK Tryd.prog WI gK 36 s36 g36 :=
 zb6 (F:=FE) zan (⟨(fun f s h=>zaD (Q:=fun f s=>FnOK Tryd.prog WI gK f s (FE f)) (l:=S36.fs)
  (show ∀ p∈[(41,s41),(38,s38)],FnOK Tryd.prog WI gK p.1 p.2 (FE p.1) from
  zak k41 (by kernel_rfl) (zak k38 (by kernel_rfl) (fun _ h=>(by cases h)))) h),(fun _ _ h=>(by cases h))⟩) Tryd.func36 ev36 (by kernel_rfl) hl36 fun ds h hp=>match ds,h,hp with
  | [d0,d1,d2,d3],_,hp=>⟨(by kernel_rfl:zcf (zaV FE s36 o36 [d0,d1,d2,d3]) o36.owes=(dget (g36 [d0,d1,d2,d3]) 0).toB).trans (hp rfl),zay (by kernel_rfl) (by kernel_rfl) (by kernel_rfl)⟩
theorem zwq:zaB FE zuY:=zjC (w:=zoI) (c:=zoJ) (nx:=zoK) (out:=zsa) [.i,.l,.i,.l] (fun ds=>by kernel_rfl) rfl (fun ν xs h=>match xs,h with | [x0,x1],_=>by kernel_rfl)
 (fun ν xs h=>match xs,h with | [x0,x1],_=>by kernel_rfl)
 (fun ν xs h=>match xs,h with | [x0,x1],_=>by kernel_rfl)
 (fun ν xs h=>match xs,h with | [x0,x1],_=>by kernel_rfl)
theorem hl25:∀ l∈o25.loops,zaB FE l:=zjD (by kernel_rfl:o25.loops=[zuY])
 (  List.forall_mem_cons.2 ⟨zwq,fun _ h=>(by cases h)⟩)
theorem k25:FnOK Tryd.prog WI gK 25 s25 g25 :=
 zb6 (F:=FE) zan (⟨(fun f s h=>zaD (Q:=fun f s=>FnOK Tryd.prog WI gK f s (FE f)) (l:=S25.fs)
  (show ∀ p∈[(38,s38)],FnOK Tryd.prog WI gK p.1 p.2 (FE p.1) from
  zak k38 (by kernel_rfl) (fun _ h=>(by cases h))) h),(fun _ _ h=>(by cases h))⟩) Tryd.func25 ev25 (by kernel_rfl) hl25 fun ds h hp=>match ds,h,hp with
  | [d0,d1],_,hp=>⟨(by kernel_rfl:zcf (zaV FE s25 o25 [d0,d1]) o25.owes=(dget (g25 [d0,d1]) 0).toB).trans (hp rfl),zay (by kernel_rfl) (by kernel_rfl) (by kernel_rfl)⟩
theorem zwr:zaB FE zqF:=zjC (w:=zoO) (c:=zoP) (nx:=zoQ) (out:=zoR) [.i,.l,.b,.i,.i] (fun ds=>by kernel_rfl) rfl (fun ν xs h=>match xs,h with | [x0,x1,x2],_=>by kernel_rfl)
 (fun ν xs h=>match xs,h with | [x0,x1,x2],_=>by kernel_rfl)
 (fun ν xs h=>match xs,h with | [x0,x1,x2],_=>by kernel_rfl)
 (fun ν xs h=>match xs,h with | [x0,x1,x2],_=>by kernel_rfl)
theorem hl24:∀ l∈o24.loops,zaB FE l:=zjD (by kernel_rfl:o24.loops=[zqF])
 (  List.forall_mem_cons.2 ⟨zwr,fun _ h=>(by cases h)⟩)
theorem k24:FnOK Tryd.prog WI gK 24 s24 g24 :=
 zb6 (F:=FE) zan (⟨fun _ _ h=>(by cases h),(fun _ _ h=>(by cases h))⟩) Tryd.func24 ev24 (by kernel_rfl) hl24 fun ds h hp=>match ds,h,hp with
  | [d0],_,hp=>⟨(by kernel_rfl:zcf (zaV FE s24 o24 [d0]) o24.owes=(dget (g24 [d0]) 0).toB).trans (hp rfl),zay (by kernel_rfl) (by kernel_rfl) (by kernel_rfl)⟩
theorem k34:FnOK Tryd.prog WI gK 34 s34 g34 :=
 zb6 (F:=FE) zan (⟨fun _ _ h=>(by cases h),(fun _ _ h=>(by cases h))⟩) Tryd.func34 ev34 (by kernel_rfl) (zax (by kernel_rfl)) fun ds h hp=>match ds,h,hp with
  | [d0,d1,d2,d3],_,_=>⟨by kernel_rfl,zay (by kernel_rfl) (by kernel_rfl) (by kernel_rfl)⟩
theorem k35:FnOK Tryd.prog WI gK 35 s35 g35 :=
 zb6 (F:=FE) zan (⟨(fun f s h=>zaD (Q:=fun f s=>FnOK Tryd.prog WI gK f s (FE f)) (l:=S35.fs)
  (show ∀ p∈[(44,s44),(43,s43)],FnOK Tryd.prog WI gK p.1 p.2 (FE p.1) from
  zak k44 (by kernel_rfl) (zak k43 (by kernel_rfl) (fun _ h=>(by cases h)))) h),(fun _ _ h=>(by cases h))⟩) Tryd.func35 ev35 (by kernel_rfl) (zax (by kernel_rfl)) fun ds h hp=>match ds,h,hp with
  | [d0],_,hp=>⟨(by kernel_rfl:zcf (zaV FE s35 o35 [d0]) o35.owes=(dget (g35 [d0]) 0).toB).trans (hp rfl),zay (by kernel_rfl) (by kernel_rfl) (by kernel_rfl)⟩
theorem k30:FnOK Tryd.prog WI gK 30 s30 g30 :=
 zb6 (F:=FE) zan (⟨(fun f s h=>zaD (Q:=fun f s=>FnOK Tryd.prog WI gK f s (FE f)) (l:=S30.fs)
  (show ∀ p∈[(41,s41)],FnOK Tryd.prog WI gK p.1 p.2 (FE p.1) from
  zak k41 (by kernel_rfl) (fun _ h=>(by cases h))) h),(fun _ _ h=>(by cases h))⟩) Tryd.func30 ev30 (by kernel_rfl) (zax (by kernel_rfl)) fun ds h hp=>match ds,h,hp with
  | [d0,d1,d2],_,_=>⟨by kernel_rfl,zay (by kernel_rfl) (by kernel_rfl) (by kernel_rfl)⟩
theorem k12:FnOK Tryd.prog WI gK 12 s12 g12 :=
 zb6 (F:=FE) zan (⟨(fun f s h=>zaD (Q:=fun f s=>FnOK Tryd.prog WI gK f s (FE f)) (l:=S12.fs)
  (show ∀ p∈[(23,s23),(24,s24),(25,s25),(26,s26),(27,s27),(28,s28)],FnOK Tryd.prog WI gK p.1 p.2 (FE p.1) from
  zak k23 (by kernel_rfl) (zak k24 (by kernel_rfl) (zak k25 (by kernel_rfl) (zak k26 (by kernel_rfl) (zak k27 (by kernel_rfl) (zak k28 (by kernel_rfl) (fun _ h=>(by cases h)))))))) h),(fun _ _ h=>(by cases h))⟩) Tryd.func12 ev12 (by kernel_rfl) (zax (by kernel_rfl)) fun ds h hp=>match ds,h,hp with
  | [d0,d1,d2,d3,d4,d5,d6],_,hp=>⟨(by kernel_rfl:zcf (zaV FE s12 o12 [d0,d1,d2,d3,d4,d5,d6]) o12.owes=(dget (g12 [d0,d1,d2,d3,d4,d5,d6]) 0).toB).trans (hp rfl),zay (by kernel_rfl) (by kernel_rfl) (by kernel_rfl)⟩
theorem e37:∀ ds,g37 ds=outI FE s37 o37 ds:=zaH (l:=[30,45,46,47,34,67,72,77]) (by kernel_rfl) (List.forall_mem_cons.2 ⟨by kernel_rfl,List.forall_mem_cons.2 ⟨by kernel_rfl,List.forall_mem_cons.2 ⟨by kernel_rfl,List.forall_mem_cons.2 ⟨by kernel_rfl,List.forall_mem_cons.2 ⟨by kernel_rfl,List.forall_mem_cons.2 ⟨by kernel_rfl,List.forall_mem_cons.2 ⟨by kernel_rfl,List.forall_mem_cons.2 ⟨by kernel_rfl,fun _ h=>(by cases h)⟩⟩⟩⟩⟩⟩⟩⟩)
theorem k37:FnOK Tryd.prog WI gK 37 s37 g37 :=
 zcv (F:=FE) zan (⟨(fun f s h=>zaD (Q:=fun f s=>FnOK Tryd.prog WI gK f s (FE f)) (l:=S37.fs)
  (show ∀ p∈[(30,s30),(45,s45),(46,s46),(47,s47),(34,s34),(67,s67),(72,s72),(77,s77)],FnOK Tryd.prog WI gK p.1 p.2 (FE p.1) from
  zak k30 (by kernel_rfl) (zak k45 (by kernel_rfl) (zak k46 (by kernel_rfl) (zak k47 (by kernel_rfl) (zak k34 (by kernel_rfl) (zak k67 (by kernel_rfl) (zak k72 (by kernel_rfl) (zak k77 (by kernel_rfl) (fun _ h=>(by cases h)))))))))) h),(fun _ _ h=>(by cases h))⟩) Tryd.func37 ev37 (by kernel_rfl) (by kernel_rfl) (zax (by kernel_rfl)) e37
theorem k14:FnOK Tryd.prog WI gK 14 s14 g14 :=
 zb6 (F:=FE) zan (⟨(fun f s h=>zaD (Q:=fun f s=>FnOK Tryd.prog WI gK f s (FE f)) (l:=S14.fs)
  (show ∀ p∈[(30,s30),(33,s33),(34,s34),(67,s67),(72,s72),(77,s77),(35,s35)],FnOK Tryd.prog WI gK p.1 p.2 (FE p.1) from
  zak k30 (by kernel_rfl) (zak k33 (by kernel_rfl) (zak k34 (by kernel_rfl) (zak k67 (by kernel_rfl) (zak k72 (by kernel_rfl) (zak k77 (by kernel_rfl) (zak k35 (by kernel_rfl) (fun _ h=>(by cases h))))))))) h),(fun _ _ h=>(by cases h))⟩) Tryd.func14 ev14 (by kernel_rfl) (zax (by kernel_rfl)) fun ds h hp=>match ds,h,hp with
  | [d0,d1,d2,d3],_,hp=>⟨(by kernel_rfl:zcf (zaV FE s14 o14 [d0,d1,d2,d3]) o14.owes=(dget (g14 [d0,d1,d2,d3]) 0).toB).trans (hp rfl),zay (by kernel_rfl) (by kernel_rfl) (by kernel_rfl)⟩
theorem k15:FnOK Tryd.prog WI gK 15 s15 g15 :=
 zb6 (F:=FE) zan (⟨(fun f s h=>zaD (Q:=fun f s=>FnOK Tryd.prog WI gK f s (FE f)) (l:=S15.fs)
  (show ∀ p∈[(30,s30),(36,s36),(34,s34),(69,s69),(73,s73),(78,s78),(35,s35)],FnOK Tryd.prog WI gK p.1 p.2 (FE p.1) from
  zak k30 (by kernel_rfl) (zak k36 (by kernel_rfl) (zak k34 (by kernel_rfl) (zak k69 (by kernel_rfl) (zak k73 (by kernel_rfl) (zak k78 (by kernel_rfl) (zak k35 (by kernel_rfl) (fun _ h=>(by cases h))))))))) h),(fun _ _ h=>(by cases h))⟩) Tryd.func15 ev15 (by kernel_rfl) (zax (by kernel_rfl)) fun ds h hp=>match ds,h,hp with
  | [d0,d1,d2,d3],_,hp=>⟨(by kernel_rfl:zcf (zaV FE s15 o15 [d0,d1,d2,d3]) o15.owes=(dget (g15 [d0,d1,d2,d3]) 0).toB).trans (hp rfl),zay (by kernel_rfl) (by kernel_rfl) (by kernel_rfl)⟩
theorem k48:FnOK Tryd.prog WI gK 48 s48 g48 :=
 zb6 (F:=FE) zan (⟨fun _ _ h=>(by cases h),(fun _ _ h=>(by cases h))⟩) Tryd.func48 ev48 (by kernel_rfl) (zax (by kernel_rfl)) fun ds h hp=>match ds,h,hp with
  | [d0],_,_=>⟨by kernel_rfl,zay (by kernel_rfl) (by kernel_rfl) (by kernel_rfl)⟩
theorem e39:∀ ds,g39 ds=outI FE s39 o39 ds:=zaH (l:=[]) (by kernel_rfl) (fun _ h=>(by cases h))
theorem k39:FnOK Tryd.prog WI gK 39 s39 g39 :=
 zcv (F:=FE) zan (⟨fun _ _ h=>(by cases h),(fun _ _ h=>(by cases h))⟩) Tryd.func39 ev39 (by kernel_rfl) (by kernel_rfl) (zax (by kernel_rfl)) e39
theorem k49:FnOK Tryd.prog WI gK 49 s49 g49 :=
 zb6 (F:=FE) zan (⟨fun _ _ h=>(by cases h),(fun g cs h=>by
  simp only [S49,assoc] at h
  split at h
  ·rename_i hg;obtain rfl:=Nat.eq_of_beq_eq_true hg;cases h;exact gl0
  cases h)⟩) Tryd.func49 ev49 (by kernel_rfl) (zax (by kernel_rfl)) fun ds h hp=>match ds,h,hp with
  | [d0],_,hp=>⟨(by kernel_rfl:zcf (zaV FE s49 o49 [d0]) o49.owes=(dget (g49 [d0]) 0).toB).trans (hp rfl),zay (by kernel_rfl) (by kernel_rfl) (by kernel_rfl)⟩
theorem k40:FnOK Tryd.prog WI gK 40 s40 g40 :=
 zb6 (F:=FE) zan (⟨(fun f s h=>zaD (Q:=fun f s=>FnOK Tryd.prog WI gK f s (FE f)) (l:=S40.fs)
  (show ∀ p∈[(48,s48),(49,s49)],FnOK Tryd.prog WI gK p.1 p.2 (FE p.1) from
  zak k48 (by kernel_rfl) (zak k49 (by kernel_rfl) (fun _ h=>(by cases h)))) h),(fun _ _ h=>(by cases h))⟩) Tryd.func40 ev40 (by kernel_rfl) (zax (by kernel_rfl)) fun ds h hp=>match ds,h,hp with
  | [d0,d1,d2],_,hp=>⟨(by kernel_rfl:zcf (zaV FE s40 o40 [d0,d1,d2]) o40.owes=(dget (g40 [d0,d1,d2]) 0).toB).trans (hp rfl),zay (by kernel_rfl) (by kernel_rfl) (by kernel_rfl)⟩
theorem k29:FnOK Tryd.prog WI gK 29 s29 g29 :=
 zb6 (F:=FE) zan (⟨(fun f s h=>zaD (Q:=fun f s=>FnOK Tryd.prog WI gK f s (FE f)) (l:=S29.fs)
  (show ∀ p∈[(39,s39),(40,s40)],FnOK Tryd.prog WI gK p.1 p.2 (FE p.1) from
  zak k39 (by kernel_rfl) (zak k40 (by kernel_rfl) (fun _ h=>(by cases h)))) h),(fun _ _ h=>(by cases h))⟩) Tryd.func29 ev29 (by kernel_rfl) (zax (by kernel_rfl)) fun ds h hp=>match ds,h,hp with
  | [d0,d1,d2,d3,d4,d5],_,hp=>⟨(by kernel_rfl:zcf (zaV FE s29 o29 [d0,d1,d2,d3,d4,d5]) o29.owes=(dget (g29 [d0,d1,d2,d3,d4,d5]) 0).toB).trans (hp rfl),zay (by kernel_rfl) (by kernel_rfl) (by kernel_rfl)⟩
theorem k20:FnOK Tryd.prog WI gK 20 s20 g20 :=
 zb6 (F:=FE) zan (⟨fun _ _ h=>(by cases h),(fun _ _ h=>(by cases h))⟩) Tryd.func20 ev20 (by kernel_rfl) (zax (by kernel_rfl)) fun ds h hp=>match ds,h,hp with
  | [d0],_,_=>⟨by kernel_rfl,zay (by kernel_rfl) (by kernel_rfl) (by kernel_rfl)⟩
theorem k31:FnOK Tryd.prog WI gK 31 s31 g31 :=
 zb6 (F:=FE) zan (⟨fun _ _ h=>(by cases h),(fun _ _ h=>(by cases h))⟩) Tryd.func31 ev31 (by kernel_rfl) (zax (by kernel_rfl)) fun ds h hp=>match ds,h,hp with
  | [d0],_,_=>⟨by kernel_rfl,zay (by kernel_rfl) (by kernel_rfl) (by kernel_rfl)⟩
theorem k32:FnOK Tryd.prog WI gK 32 s32 g32 :=
 zb6 (F:=FE) zan (⟨fun _ _ h=>(by cases h),(fun _ _ h=>(by cases h))⟩) Tryd.func32 ev32 (by kernel_rfl) (zax (by kernel_rfl)) fun ds h hp=>match ds,h,hp with
  | [d0],_,_=>⟨by kernel_rfl,zay (by kernel_rfl) (by kernel_rfl) (by kernel_rfl)⟩
theorem e8:∀ ds,g8 ds=outI FE s8 o8 ds:=zaH (l:=[20]) (by kernel_rfl) (List.forall_mem_cons.2 ⟨by kernel_rfl,fun _ h=>(by cases h)⟩)
theorem k8:FnOK Tryd.prog WI gK 8 s8 g8 :=
 zcv (F:=FE) zan (⟨(fun f s h=>zaD (Q:=fun f s=>FnOK Tryd.prog WI gK f s (FE f)) (l:=S8.fs)
  (show ∀ p∈[(20,s20)],FnOK Tryd.prog WI gK p.1 p.2 (FE p.1) from
  zak k20 (by kernel_rfl) (fun _ h=>(by cases h))) h),(fun _ _ h=>(by cases h))⟩) Tryd.func8 ev8 (by kernel_rfl) (by kernel_rfl) (zax (by kernel_rfl)) e8
theorem k10:FnOK Tryd.prog WI gK 10 s10 g10 :=
 zb6 (F:=FE) zan (⟨fun _ _ h=>(by cases h),(fun _ _ h=>(by cases h))⟩) Tryd.func10 ev10 (by kernel_rfl) (zax (by kernel_rfl)) fun ds h hp=>match ds,h,hp with
  | [d0,d1,d2,d3,d4,d5,d6,d7,d8,d9,d10,d11,d12,d13,d14,d15,d16,d17,d18,d19,d20,d21,d22,d23,d24,d25,d26],_,_=>⟨by kernel_rfl,zay (by kernel_rfl) (by kernel_rfl) (by kernel_rfl)⟩
theorem k13:FnOK Tryd.prog WI gK 13 s13 g13 :=
 zb6 (F:=FE) zan (⟨(fun f s h=>zaD (Q:=fun f s=>FnOK Tryd.prog WI gK f s (FE f)) (l:=S13.fs)
  (show ∀ p∈[(29,s29),(30,s30),(31,s31),(14,s14),(10,s10),(32,s32)],FnOK Tryd.prog WI gK p.1 p.2 (FE p.1) from
  zak k29 (by kernel_rfl) (zak k30 (by kernel_rfl) (zak k31 (by kernel_rfl) (zak k14 (by kernel_rfl) (zak k10 (by kernel_rfl) (zak k32 (by kernel_rfl) (fun _ h=>(by cases h)))))))) h),(fun _ _ h=>(by cases h))⟩) Tryd.func13 ev13 (by kernel_rfl) (zax (by kernel_rfl)) fun ds h hp=>match ds,h,hp with
  | [d0,d1,d2,d3,d4,d5,d6,d7,d8,d9,d10,d11,d12,d13,d14,d15,d16,d17,d18,d19,d20,d21,d22,d23,d24,d25,d26,d27],_,hp=>⟨(by kernel_rfl:zcf (zaV FE s13 o13 [d0,d1,d2,d3,d4,d5,d6,d7,d8,d9,d10,d11,d12,d13,d14,d15,d16,d17,d18,d19,d20,d21,d22,d23,d24,d25,d26,d27]) o13.owes=(dget (g13 [d0,d1,d2,d3,d4,d5,d6,d7,d8,d9,d10,d11,d12,d13,d14,d15,d16,d17,d18,d19,d20,d21,d22,d23,d24,d25,d26,d27]) 0).toB).trans (hp rfl),zay (by kernel_rfl) (by kernel_rfl) (by kernel_rfl)⟩
theorem e19:∀ ds,g19 ds=outI FE s19 o19 ds:=zaH (l:=[8,13,29,37,31]) (by kernel_rfl) (List.forall_mem_cons.2 ⟨by kernel_rfl,List.forall_mem_cons.2 ⟨by kernel_rfl,List.forall_mem_cons.2 ⟨by kernel_rfl,List.forall_mem_cons.2 ⟨by kernel_rfl,List.forall_mem_cons.2 ⟨by kernel_rfl,fun _ h=>(by cases h)⟩⟩⟩⟩⟩)
theorem k19:FnOK Tryd.prog WI gK 19 s19 g19 :=
 zcv (F:=FE) zan (⟨(fun f s h=>zaD (Q:=fun f s=>FnOK Tryd.prog WI gK f s (FE f)) (l:=S19.fs)
  (show ∀ p∈[(8,s8),(13,s13),(29,s29),(37,s37),(31,s31)],FnOK Tryd.prog WI gK p.1 p.2 (FE p.1) from
  zak k8 (by kernel_rfl) (zak k13 (by kernel_rfl) (zak k29 (by kernel_rfl) (zak k37 (by kernel_rfl) (zak k31 (by kernel_rfl) (fun _ h=>(by cases h))))))) h),(fun _ _ h=>(by cases h))⟩) Tryd.func19 ev19 (by kernel_rfl) (by kernel_rfl) (zax (by kernel_rfl)) e19
theorem k16:FnOK Tryd.prog WI gK 16 s16 g16 :=
 zb6 (F:=FE) zan (⟨fun _ _ h=>(by cases h),(fun _ _ h=>(by cases h))⟩) Tryd.func16 ev16 (by kernel_rfl) (zax (by kernel_rfl)) fun ds h hp=>match ds,h,hp with
  | [d0],_,_=>⟨by kernel_rfl,zay (by kernel_rfl) (by kernel_rfl) (by kernel_rfl)⟩
theorem zws:zaB FE zqH:=zjC (w:=zjQ) (c:=zjR) (nx:=zl8) (out:=zoU) [.i,.i,.i,.l] (fun ds=>by kernel_rfl) rfl (fun ν xs h=>match xs,h with | [x0,x1],_=>by kernel_rfl)
 (fun ν xs h=>match xs,h with | [x0,x1],_=>by kernel_rfl)
 (fun ν xs h=>match xs,h with | [x0,x1],_=>by kernel_rfl)
 (fun ν xs h=>match xs,h with | [x0,x1],_=>by kernel_rfl)
theorem hl17:∀ l∈o17.loops,zaB FE l:=zjD (by kernel_rfl:o17.loops=[zqH])
 (  List.forall_mem_cons.2 ⟨zws,fun _ h=>(by cases h)⟩)
theorem k17:FnOK Tryd.prog WI gK 17 s17 g17 :=
 zb6 (F:=FE) zan (⟨fun _ _ h=>(by cases h),(fun _ _ h=>(by cases h))⟩) Tryd.func17 ev17 (by kernel_rfl) hl17 fun ds h hp=>match ds,h,hp with
  | [d0,d1,d2],_,hp=>⟨(by kernel_rfl:zcf (zaV FE s17 o17 [d0,d1,d2]) o17.owes=(dget (g17 [d0,d1,d2]) 0).toB).trans (hp rfl),zay (by kernel_rfl) (by kernel_rfl) (by kernel_rfl)⟩
theorem e18:∀ ds,g18 ds=outI FE s18 o18 ds:=zaH (l:=[]) (by kernel_rfl) (fun _ h=>(by cases h))
theorem k18:FnOK Tryd.prog WI gK 18 s18 g18 :=
 zcv (F:=FE) zan (⟨fun _ _ h=>(by cases h),(fun _ _ h=>(by cases h))⟩) Tryd.func18 ev18 (by kernel_rfl) (by kernel_rfl) (zax (by kernel_rfl)) e18
theorem e7:∀ ds,g7 ds=outI FE s7 o7 ds:=zaH (l:=[17,12,18,13,19,8,10]) (by kernel_rfl) (List.forall_mem_cons.2 ⟨by kernel_rfl,List.forall_mem_cons.2 ⟨by kernel_rfl,List.forall_mem_cons.2 ⟨by kernel_rfl,List.forall_mem_cons.2 ⟨by kernel_rfl,List.forall_mem_cons.2 ⟨by kernel_rfl,List.forall_mem_cons.2 ⟨by kernel_rfl,List.forall_mem_cons.2 ⟨by kernel_rfl,fun _ h=>(by cases h)⟩⟩⟩⟩⟩⟩⟩)
theorem k7:FnOK Tryd.prog WI gK 7 s7 g7 :=
 zcv (F:=FE) zan (⟨(fun f s h=>zaD (Q:=fun f s=>FnOK Tryd.prog WI gK f s (FE f)) (l:=S7.fs)
  (show ∀ p∈[(17,s17),(12,s12),(18,s18),(13,s13),(19,s19),(8,s8),(10,s10)],FnOK Tryd.prog WI gK p.1 p.2 (FE p.1) from
  zak k17 (by kernel_rfl) (zak k12 (by kernel_rfl) (zak k18 (by kernel_rfl) (zak k13 (by kernel_rfl) (zak k19 (by kernel_rfl) (zak k8 (by kernel_rfl) (zak k10 (by kernel_rfl) (fun _ h=>(by cases h))))))))) h),(fun _ _ h=>(by cases h))⟩) Tryd.func7 ev7 (by kernel_rfl) (by kernel_rfl) (zax (by kernel_rfl)) e7
theorem e6:∀ ds,g6 ds=outI FE s6 o6 ds:=zaH (l:=[7,12,13,14,10,15,16]) (by kernel_rfl) (List.forall_mem_cons.2 ⟨by kernel_rfl,List.forall_mem_cons.2 ⟨by kernel_rfl,List.forall_mem_cons.2 ⟨by kernel_rfl,List.forall_mem_cons.2 ⟨by kernel_rfl,List.forall_mem_cons.2 ⟨by kernel_rfl,List.forall_mem_cons.2 ⟨by kernel_rfl,List.forall_mem_cons.2 ⟨by kernel_rfl,fun _ h=>(by cases h)⟩⟩⟩⟩⟩⟩⟩)
theorem k6:FnOK Tryd.prog WI gK 6 s6 g6 :=
 zcv (F:=FE) zan (⟨(fun f s h=>zaD (Q:=fun f s=>FnOK Tryd.prog WI gK f s (FE f)) (l:=S6.fs)
  (show ∀ p∈[(7,s7),(12,s12),(13,s13),(14,s14),(10,s10),(15,s15),(16,s16)],FnOK Tryd.prog WI gK p.1 p.2 (FE p.1) from
  zak k7 (by kernel_rfl) (zak k12 (by kernel_rfl) (zak k13 (by kernel_rfl) (zak k14 (by kernel_rfl) (zak k10 (by kernel_rfl) (zak k15 (by kernel_rfl) (zak k16 (by kernel_rfl) (fun _ h=>(by cases h))))))))) h),(fun _ _ h=>(by cases h))⟩) Tryd.func6 ev6 (by kernel_rfl) (by kernel_rfl) (zax (by kernel_rfl)) e6
end Go.Proofs.YtedoffkaehcnmaaDoor
namespace Go.Proofs.YtedoffkaehcnmaaDoor
open Go Go.Sx
set_option maxRecDepth 100000
theorem zaI {n:Int} (h:0≤n) (h1:n<9223372036854775808):IntKind.wrap .i64 n=n:=by rw [IntKind.wrap_i64];omega
def zd9:List DV→Int→List DV→List DV
 | [],_,d=>d
 | b::r,k,d=>zd9 r (k+1) (zc5 d k b.toI)
theorem zbK {n:Int} (h:0≤n) (h1:n<18446744073709551616):IntKind.wrap .u64 n=n:=by
 unfold IntKind.wrap
 simp [IntKind.bits,IntKind.signed]
 omega
theorem ztM {B k:Int} (hB:B=2147483648) (h:0≤k) (h1:k<9223372036854775808):IntKind.wrap .u64 (2147483648+IntKind.wrap .u64 k)=B+k:=by
 rw [zbK (n:=k) h (by omega),zbK (by omega) (by omega),hB]
theorem zvn {B:Int} (hB:B=2147483648) (img:List DV) (hl:img.length≤1048576) (k:Nat) (d:List DV) (hlt:k<img.length):zoI [.i img.length,.l img,.i k,.l d]=true∧zoJ [.i img.length,.l img,.i k,.l d]=true ∧
  zoK [.i img.length,.l img,.i k,.l d]=[.i img.length,.l img,.i ((k+1:Nat):Int),.l (zc5 d (B+k) img[k].toI)]:=by
 have hki:(k:Int)<(img.length:Int):=by omega
 have hdiv:((img.length/1:Nat):Int)=img.length:=by rw [Nat.div_one]
 have hadr:=ztM hB (k:=(k:Int)) (by omega) (by omega)
 refine ⟨?_,?_,?_⟩
 ·show zjM (img.length:Int) img (k:Int) d=true
  unfold zjM
  simp only [hdiv,hadr]
  have:p38 d (B+(k:Int)) (img.getD (Int.toNat k*1+0) default).toI=true:=by
   unfold p38
   simp only [in64,Bool.and_eq_true,decide_eq_true_eq]
   omega
  rw [this]
  simp [ow,hki]
 ·show zjN (img.length:Int) img (k:Int) d=true
  unfold zjN
  simp [hki]
 ·have hg:(img.getD (Int.toNat (k:Int)*1+0) default).toI=img[k].toI:=by rw [Int.toNat_natCast,Nat.mul_one,Nat.add_zero,List.getD_eq_getElem?_getD,List.getElem?_eq_getElem hlt];rfl
  have e0:zgS img.length img k d=((k+1:Nat):Int):=by
   unfold zgS
   rw [zaI (by omega) (by omega)]
   rfl
  have e1:zgT img.length img k d=zc5 d (B+k) img[k].toI:=by
   unfold zgT
   simp only [hadr,hg]
   rfl
  show [DV.i _,.l _,.i (zgS img.length img k d),.l (zgT img.length img k d)]=_
  rw [e0,e1]
  rfl
theorem zwt {B:Int} (hB:B=2147483648) (img:List DV) (hl:img.length≤1048576) (m:Nat):∀ (k:Nat) (d:List DV),k+m=img.length →
  zd6 img.length img k d=some [.i 0,.i img.length,.l (zd9 (img.drop k) (B+k) d)]:=by
 induction m with
 | zero =>
  intro k d hk
  have hk':k=img.length:=by omega
  subst hk'
  unfold zd6
  rw [List.drop_length]
  rw [zbY (by show zjM (img.length:Int) img (img.length:Int) d=true;unfold zjM;simp [ow]) (by show zjN (img.length:Int) img (img.length:Int) d=false;unfold zjN;simp)]
  rfl
 | succ m ih =>
  intro k d hk
  have hlt:k<img.length:=by omega
  obtain ⟨hw,hc,hn⟩:=zvn hB img hl k d hlt
  unfold zd6
  rw [zbX hw hc,hn]
  have h1:=ih (k+1) (zc5 d (B+k) img[k].toI) (by omega)
  unfold zd6 at h1
  rw [h1,List.drop_eq_getElem_cons hlt,zd9,show B+((k+1:Nat):Int)=B+k+1 from by omega]
theorem zwu (img d:List DV):p25 d img=true∧zoL img=decide (img.length≤1048576)∧(img.length≤1048576→zqE d img=zd9 img 2147483648 d):=by
 have hdiv:((img.length/1:Nat):Int)=img.length:=by rw [Nat.div_one]
 unfold p25 zoL zqE
 simp only [hdiv]
 by_cases h:img.length≤1048576
 ·have h1:¬ ((img.length:Int)>1048576):=by omega
  have hL:zd6 img.length img 0 d=some [.i 0,.i img.length,.l (zd9 img 2147483648 d)]:=by
   obtain ⟨B,hB⟩:∃ B:Int,B=2147483648:=⟨_,rfl⟩
   have:=zwt hB img h img.length 0 d (by omega)
   rw [←hB]
   rw [show B+((0:Nat):Int)=B from by omega,List.drop_zero] at this
   exact this
  have e0:zl5 img.length img 0 d=true:=by unfold zl5;rw [hL];rfl
  have e2:zgU img.length img 0 d=zd9 img 2147483648 d:=by unfold zgU;rw [hL];rfl
  rw [e0,e2]
  simp [ow,h,h1]
 ·have h1:((img.length:Int)>1048576):=by omega
  simp [ow,h,h1]
def layK:List DV→Nat→List DV→List DV
 | [],_,d=>d
 | b::r,n,d=>bif Nat.ble n 0 then layK r (n+1) (zc5 d n b.toI) else layK r (n+1) (zc5 d n b.toI)
theorem zsS:∀ (l:List DV) (n:Nat) (d:List DV),layK l n d=zd9 l n d
 | [],_,_=>rfl
 | b::r,n,d=>by
  rw [layK,zd9]
  cases Nat.ble n 0<;>exact (zsS r (n+1) (zc5 d n b.toI)).trans (by rw [show ((n+1:Nat):Int)=(n:Int)+1 from by omega])
def g25h (ds:List DV):List DV :=
 [.b true,.b (Nat.ble (dget ds 1).toL.length 1048576),.l (bif Nat.ble (dget ds 1).toL.length 1048576 then layK (dget ds 1).toL 2147483648 (dget ds 0).toL else (dget ds 0).toL)]
theorem zvo (n m:Nat):Nat.ble n m=decide (n≤m):=by
 by_cases h:n≤m
 ·rw [decide_eq_true h];exact Nat.ble_eq_true_of_le h
 ·rw [decide_eq_false h]
  cases hb:Nat.ble n m with
  | false=>rfl
  | true=>exact absurd (Nat.le_of_ble_eq_true hb) h
theorem ztN:KD.ok FE 25 (.hand g25h):=fun ds=>by
 show g25 ds=g25h ds
 unfold g25 g25h
 obtain ⟨h1,h2,h3⟩:=zwu (dget ds 1).toL (dget ds 0).toL
 rw [h1,h2,zvo]
 by_cases h:(dget ds 1).toL.length≤1048576
 ·rw [h3 h,decide_eq_true h,cond_true,zsS]
  rfl
 ·have h4:zqE (dget ds 0).toL (dget ds 1).toL=(dget ds 0).toL:=by
   unfold zqE
   have h5:decide ((((dget ds 1).toL.length/1:Nat):Int)>1048576)=true:=decide_eq_true (by rw [Nat.div_one];omega)
   simp only [h5,Bool.not_true,cond_false]
  rw [h4,decide_eq_false h,cond_false]
def putL:List DV→Nat→List DV→List DV
 | [],_,_=>[]
 | x::l,n+1,bs=>x::putL l n bs
 | _::l,0,b::bs=>b::putL l 0 bs
 | x::l,0,[]=>x::l
theorem zpO:∀ (l:List DV) (n:Nat),putL l n []=l
 | [],_=>rfl
 | x::l,n+1=>by rw [putL,zpO l n]
 | x::l,0=>rfl
theorem zpP:∀ (l:List DV) (n:Nat) (b:DV) (bs:List DV),n<l.length→putL (l.set n b) (n+1) bs=putL l n (b::bs)
 | [],n,b,bs,h=>by simp at h
 | x::l,0,b,bs,_=>rfl
 | x::l,n+1,b,bs,h=>by
  have:=zpP l n b bs (by simpa using h)
  show x::putL (l.set n b) (n+1) bs=x::putL l n (b::bs)
  rw [this]
def zjZ (v:Int) (k:Nat):DV:=.i (IntKind.wrap .u8 (ishr .u64 v (8*(k:Int))))
theorem zul (a:Nat) (v:Int) (ha:a<4611686018427387904):∀ (j i:Nat) (l:List DV),i+j=8→a+8≤l.length →
  zd7 a v i l=some [.i 0,.i 8,.l (putL l (a+i) ((List.range' i j).map (zjZ v)))]
 | 0,i,l,h,_=>by
  have hi:i=8:=by omega
  subst hi
  unfold zd7
  rw [zbY (show zjQ [.i a,.i v,.i (8:Nat),.l l]=true by show zjO a v (8:Nat) l=true;unfold zjO;simp [ow]) (show zjR [.i a,.i v,.i (8:Nat),.l l]=false by show zjP a v (8:Nat) l=false;unfold zjP;simp)]
  rw [List.range'_zero,List.map_nil,zpO]
  rfl
 | j+1,i,l,h,hl=>by
  have e1:IntKind.wrap .i64 ((a:Int)+(i:Int))=((a+i:Nat):Int):=by rw [zaI (by omega) (by omega)];omega
  have e2:IntKind.wrap .i64 (8*(i:Int))=8*(i:Int):=zaI (by omega) (by omega)
  have hw:zjO a v i l=true:=by
   have h1:decide (8*(i:Int)≥0)=true:=decide_eq_true (by omega)
   have h2:decide (((a+i:Nat):Int)≥0)=true:=decide_eq_true (by omega)
   have h3:decide (((a+i:Nat):Int)<((l.length/1:Nat):Int))=true:=decide_eq_true (by rw [Nat.div_one];omega)
   unfold zjO
   simp only [e1,e2,h1,h2,h3]
   simp [ow]
  have hc:zjP a v i l=true:=by unfold zjP;simp;omega
  unfold zd7
  rw [zbX (show zjQ [.i a,.i v,.i i,.l l]=true from hw) (show zjR [.i a,.i v,.i i,.l l]=true from hc)]
  have hn:zl8 [.i a,.i v,.i i,.l l]=[.i a,.i v,.i ((i+1:Nat):Int),.l (l.set (a+i) (zjZ v i))]:=by
   show [DV.i a,.i v,.i (IntKind.wrap .i64 ((i:Int)+1)),.l (l.set (Int.toNat (IntKind.wrap .i64 ((a:Int)+(i:Int)))*1+0) (.i (IntKind.wrap .u8 (ishr .u64 v (IntKind.wrap .i64 (8*(i:Int)))))))]=_
   rw [e1,e2,zaI (n:=(i:Int)+1) (by omega) (by omega),Int.toNat_natCast,Nat.mul_one,Nat.add_zero]
   rfl
  rw [hn]
  have ih:=zul a v ha j (i+1) (l.set (a+i) (zjZ v i)) (by omega) (by simpa using hl)
  unfold zd7 at ih
  rw [ih,List.range'_succ,List.map_cons,show a+(i+1)=a+i+1 from rfl,zpP _ _ _ _ (by omega)]
def zsT (v:Int):List DV:=[zjZ v 0,zjZ v 1,zjZ v 2,zjZ v 3,zjZ v 4,zjZ v 5,zjZ v 6,zjZ v 7]
noncomputable def g17h (ds:List DV):List DV :=
 bif (decide (0≤(dget ds 1).toI)&&Nat.ble ((dget ds 1).toI.toNat+8) (dget ds 0).toL.length)&&Nat.blt (dget ds 1).toI.toNat 4611686018427387904 then
  [.b true,.l (putL (dget ds 0).toL (dget ds 1).toI.toNat (zsT (dget ds 2).toI))]
 else g17 ds
theorem ztO:KD.ok FE 17 (.hand g17h):=fun ds=>by
 show g17 ds=g17h ds
 unfold g17h
 cases hb:(decide (0≤(dget ds 1).toI)&&Nat.ble ((dget ds 1).toI.toNat+8) (dget ds 0).toL.length)&&Nat.blt (dget ds 1).toI.toNat 4611686018427387904 with
 | false=>rfl
 | true =>
  simp only [Bool.and_eq_true,decide_eq_true_eq] at hb
  obtain ⟨⟨h0,h1⟩,h2⟩:=hb
  have h1:=Nat.le_of_ble_eq_true h1
  have h2:(dget ds 1).toI.toNat<4611686018427387904:=Nat.le_of_ble_eq_true h2
  have hL:=zul (dget ds 1).toI.toNat (dget ds 2).toI h2 8 0 (dget ds 0).toL (by omega) h1
  rw [show (((dget ds 1).toI.toNat:Nat):Int)=(dget ds 1).toI from by omega] at hL
  have hL:zd7 (dget ds 1).toI (dget ds 2).toI 0 (dget ds 0).toL=some [.i 0,.i 8,.l (putL (dget ds 0).toL (dget ds 1).toI.toNat (zsT (dget ds 2).toI))]:=hL
  rw [cond_true]
  have e1:p17 (dget ds 0).toL (dget ds 1).toI (dget ds 2).toI=true:=by
   unfold p17 zoV
   simp only [hL]
   simp [ow]
  have e2:zu9 (dget ds 0).toL (dget ds 1).toI (dget ds 2).toI=putL (dget ds 0).toL (dget ds 1).toI.toNat (zsT (dget ds 2).toI):=by
   unfold zu9 zjS
   simp only [hL]
   rfl
  unfold g17
  rw [e1,e2]
end Go.Proofs.YtedoffkaehcnmaaDoor
namespace Go.Sx
theorem zdi (n:Int):IntKind.wrap .u64 n=n%18446744073709551616:=by simp [IntKind.wrap,IntKind.signed,IntKind.bits]
theorem zvp (n:Int):IntKind.wrap .u8 n=n%256:=by simp [IntKind.wrap,IntKind.signed,IntKind.bits]
theorem wrap_i64 (n:Int):IntKind.wrap .i64 n=if n%18446744073709551616≥9223372036854775808 then n%18446744073709551616-18446744073709551616 else n%18446744073709551616:=by
 simp [IntKind.wrap,IntKind.signed,IntKind.bits]
theorem zch {n:Int} (h0:0≤n) (h1:n<18446744073709551616):IntKind.wrap .u64 n=n:=by rw [zdi];omega
theorem zdJ {a:Nat} (ha:a<18446744073709551616):(BitVec.ofInt 64 (a:Int)).toNat=a:=by
 rw [BitVec.ofInt_natCast,BitVec.toNat_ofNat];exact Nat.mod_eq_of_lt (by omega)
theorem zo0 {a b:Nat} (ha:a<18446744073709551616) (hb:b<18446744073709551616):zaf .u64 (a:Int) (b:Int)=((a &&& b:Nat):Int):=by
 show IntKind.wrap .u64 ((BitVec.ofInt 64 (a:Int) &&& BitVec.ofInt 64 (b:Int)).toNat:Int)=_
 rw [BitVec.toNat_and,zdJ ha,zdJ hb,zdi]
 have:a &&& b≤a:=Nat.and_le_left
 omega
theorem zum {a b:Nat} (ha:a<18446744073709551616) (hb:b<18446744073709551616):ilor .u64 (a:Int) (b:Int)=((a ||| b:Nat):Int):=by
 show IntKind.wrap .u64 ((BitVec.ofInt 64 (a:Int) ||| BitVec.ofInt 64 (b:Int)).toNat:Int)=_
 rw [BitVec.toNat_or,zdJ ha,zdJ hb,zdi]
 have:a ||| b<2^64:=Nat.or_lt_two_pow (by omega) (by omega)
 omega
theorem zqJ {a b:Nat} (ha:a<18446744073709551616) (hb:b<18446744073709551616):zar .u64 (a:Int) (b:Int)=((a &&& (18446744073709551615-b):Nat):Int):=by
 show IntKind.wrap .u64 ((BitVec.ofInt 64 (a:Int) &&& ~~~ BitVec.ofInt 64 (b:Int)).toNat:Int)=_
 rw [BitVec.toNat_and,zdJ ha,BitVec.toNat_not,zdJ hb,zdi]
 have e:2^64-1-b=18446744073709551615-b:=by omega
 rw [e]
 have:a &&& (18446744073709551615-b)≤a:=Nat.and_le_left
 omega
theorem zf7 {a:Int} (h0:0≤a):∃ n:Nat,a=n:=⟨a.toNat,by omega⟩
theorem zaZ {k r:Nat} (hr:r<2^k) (q j:Nat):(2^k*q+r).testBit j=if j<k then r.testBit j else q.testBit (j-k):=Nat.testBit_two_pow_mul_add q hr j
theorem znn {k r s:Nat} (hr:r<2^k) (hs:s<2^k) (q q':Nat):(2^k*q+r) &&& (2^k*q'+s)=2^k*(q &&& q')+(r &&& s):=by
 apply Nat.eq_of_testBit_eq
 intro j
 rw [Nat.testBit_and,zaZ hr,zaZ hs,zaZ (Nat.and_lt_two_pow r hs),Nat.testBit_and,Nat.testBit_and]
 split<;>rfl
theorem zmc {k r s:Nat} (hr:r<2^k) (hs:s<2^k) (q q':Nat):(2^k*q+r) ||| (2^k*q'+s)=2^k*(q ||| q')+(r ||| s):=by
 apply Nat.eq_of_testBit_eq
 intro j
 rw [Nat.testBit_or,zaZ hr,zaZ hs,zaZ (Nat.or_lt_two_pow hr hs),Nat.testBit_or,Nat.testBit_or]
 split<;>rfl
theorem zno {k r s:Nat} (hr:r<2^k) (hs:s<2^k) (q q':Nat):(2^k*q+r) ^^^ (2^k*q'+s)=2^k*(q ^^^ q')+(r ^^^ s):=by
 apply Nat.eq_of_testBit_eq
 intro j
 rw [Nat.testBit_xor,zaZ hr,zaZ hs,zaZ (Nat.xor_lt_two_pow hr hs),Nat.testBit_xor,Nat.testBit_xor]
 split<;>rfl
theorem zgX (n k:Nat):2^k*(n/2^k)+n%2^k=n:=Nat.div_add_mod n (2^k)
theorem mod_lt (n k:Nat):n%2^k<2^k:=Nat.mod_lt _ (Nat.two_pow_pos k)
theorem znp (q:Nat):q &&& 1=q%2∧q ||| 1=q/2*2+1∧q ^^^ 1=q/2*2+(1-q%2):=by
 have h2:q%2<2^1:=by omega
 have e:q=2^1*(q/2)+q%2:=by omega
 have h1:(1:Nat)=2^1*0+1:=rfl
 refine ⟨Nat.and_one_is_mod q,?_,?_⟩
 ·conv=>lhs;rw [e,h1,zmc h2 (by decide)]
  rw [Nat.or_zero]
  rcases Nat.mod_two_eq_zero_or_one q with h | h<;>rw [h]<;>simp<;>omega
 ·conv=>lhs;rw [e,h1,zno h2 (by decide)]
  rw [Nat.xor_zero]
  rcases Nat.mod_two_eq_zero_or_one q with h | h<;>rw [h]<;>simp<;>omega
theorem zvq (n k:Nat):n &&& 2^k=2^k*(n/2^k%2):=by
 conv=>lhs;rw [←zgX n k,show (2:Nat)^k=2^k*1+0 from by omega,show 2^k*1+0=2^k from by omega]
 have:=znn (mod_lt n k) (Nat.two_pow_pos k) (n/2^k) 1
 rw [Nat.mul_one,Nat.add_zero] at this
 rw [this,(znp _).1,Nat.and_zero,Nat.add_zero]
theorem zsU (n k:Nat):n ^^^ 2^k=if n/2^k%2=1 then n-2^k else n+2^k:=by
 have:=zno (mod_lt n k) (Nat.two_pow_pos k) (n/2^k) 1
 rw [Nat.mul_one,Nat.add_zero,zgX,(znp _).2.2,Nat.xor_zero] at this
 rw [this]
 have h:=zgX n k
 generalize n/2^k=q at *
 generalize n%2^k=r at *
 rcases Nat.mod_two_eq_zero_or_one q with hq | hq
 ·rw [hq,show q/2*2+(1-0)=q+1 from by omega,Nat.mul_add];simp;omega
 ·rw [hq,show q/2*2+(1-1)=q-1 from by omega]
  simp
  have:q=(q-1)+1:=by omega
  rw [this,Nat.mul_add] at h
  omega
theorem zqK (n k w:Nat) (hn:n<2^w) (hk:k<w):n &&& (2^w-1-2^k)=n-2^k*(n/2^k%2):=by
 have hlt:2^k<2^w:=Nat.pow_lt_pow_right (by decide) hk
 have h1:2^w-1-2^k=(2^w-1) ^^^ 2^k:=by
  rw [zsU]
  have:(2^w-1)/2^k%2=1:=by
   have:=Nat.testBit_two_pow_sub_one w k
   rw [Nat.testBit_eq_decide_div_mod_eq] at this
   simpa [hk] using this
  rw [if_pos this]
 have h2:n &&& ((2^w-1) ^^^ 2^k)=n ^^^ (n &&& 2^k):=by
  apply Nat.eq_of_testBit_eq
  intro j
  rw [Nat.testBit_and,Nat.testBit_xor,Nat.testBit_xor,Nat.testBit_and,Nat.testBit_two_pow_sub_one]
  by_cases hj:j<w
  ·simp [hj];cases n.testBit j<;>cases (2^k).testBit j<;>rfl
  ·have:n.testBit j=false:=Nat.testBit_lt_two_pow (Nat.lt_of_lt_of_le hn (Nat.pow_le_pow_right (by decide) (by omega)))
   simp [this]
 rw [h1,h2,zvq]
 rcases Nat.mod_two_eq_zero_or_one (n/2^k) with h | h
 ·rw [h];simp
 ·rw [h,Nat.mul_one,zsU,if_pos h]
section
variable {a m p:Int}
theorem zcx (h0:0≤a) (h1:a<18446744073709551616) (k:Nat) (hk:k≤64) (hm:m=((2^k-1:Nat):Int)) (hp:p=((2^k:Nat):Int)):zaf .u64 a m=a%p:=by
 obtain ⟨n,rfl⟩:=zf7 h0
 have:2^k≤2^64:=Nat.pow_le_pow_right (by decide) hk
 rw [hm,zo0 (by omega) (by omega),Nat.and_two_pow_sub_one_eq_mod,hp]
 omega
theorem zj0 (h0:0≤a) (h1:a<18446744073709551616) (k:Nat) (hk:k<64) (hm:m=((2^k:Nat):Int)):zar .u64 a m=a-m*(a/m%2):=by
 obtain ⟨n,rfl⟩:=zf7 h0
 have:2^k<2^64:=Nat.pow_lt_pow_right (by decide) hk
 rw [hm,zqJ (by omega) (by omega),show 18446744073709551615-2^k=2^64-1-2^k from by omega,zqK n k 64 (by omega) hk]
 have:2^k*(n/2^k%2)≤n:=by
  have h:=zgX n k
  have:2^k*(n/2^k%2)≤2^k*(n/2^k):=Nat.mul_le_mul_left _ (Nat.mod_le _ _)
  omega
 have e:((2^k*(n/2^k%2):Nat):Int)=((2^k:Nat):Int)*((n:Int)/((2^k:Nat):Int)%2):=by simp
 rw [←e]
 omega
theorem zej (k:Nat) (hk:k≤64) (hp:p=((2^k:Nat):Int)):ishr .u64 a (k:Int)=a/p:=by
 show Int.fdiv a (2^min (k:Int).toNat 64)=_
 have e:min (k:Int).toNat 64=k:=by simp;omega
 rw [e,hp,Int.fdiv_eq_ediv_of_nonneg _ (by exact Int.le_of_lt (Int.pow_pos (by decide)))]
 simp
end
end Go.Sx
namespace Go.Proofs.YtedoffkaehcnmaaDoor
open Go Go.Sx
set_option maxRecDepth 100000
theorem zci (n:Int):0≤IntKind.wrap .u64 n∧IntKind.wrap .u64 n<18446744073709551616:=by
 unfold IntKind.wrap
 simp [IntKind.bits,IntKind.signed]
 omega
theorem za0 {l:List (Bool×Bool)} {x:Bool} (h:x=true):ow l x=true:=by subst h;unfold ow;simp
theorem ztP {c x:Bool} (l:List (Bool×Bool)) (h:c=true→x=true):ow ((c,true)::l) x=true:=by
 cases c with
 | false=>unfold ow;simp
 | true=>rw [h rfl];unfold ow;simp
theorem ztQ {l:List Int} (P:Int→Prop) (h:∀ x∈l,P x) (h0:P 0) (i:Nat):P (l.getD i 0):=by
 rw [List.getD_eq_getElem?_getD]
 by_cases hi:i<l.length
 ·rw [List.getElem?_eq_getElem hi];exact h _ (List.getElem_mem hi)
 ·rw [List.getElem?_eq_none (by omega)];exact h0
theorem zwv (x:Int):p49 x=true:=by
 unfold p49
 extract_lets -merge x1 x2 x3 x4 x5 x6 x7 x8
 have h:x6=x5/288230376151711744:=zej 58 (by decide) rfl
 obtain ⟨a,b⟩:0≤x5∧x5<18446744073709551616:=zci _
 have h7:x7=true:=decide_eq_true (by rw [h];omega)
 have h8:x8=true:=decide_eq_true (by rw [h];omega)
 simp only [List.all_cons,List.all_nil,id_eq,za0 h7,za0 h8,Bool.and_self]
def tabL:List Int:=[0,1,56,2,57,49,28,3,61,58,42,50,38,29,17,4,62,47,59,36,45,43,51,22,53,39,33,30,24,18,12,5,63,55,48,27,60,41,37,16,46,35,44,21,52,32,23,11,54,26,40,15,34,20,31,10,25,14,19,9,13,8,7,6]
theorem zww (x:Int):0≤zoT x∧zoT x≤64:=by
 obtain ⟨i,hi⟩:∃ i,zoT x=bif !(x==0) then IntKind.wrap .i64 (tabL.getD i 0) else 64:=⟨_,rfl⟩
 rw [hi]
 have h9:0≤tabL.getD i 0∧tabL.getD i 0≤63:=ztQ (l:=tabL) (fun y=>0≤y∧y≤63) (by decide) (by decide) _
 rw [zaI h9.1 (by omega)]
 cases !(x==0)
 ·exact ⟨show (0:Int)≤64 by decide,show (64:Int)≤64 by decide⟩
 ·exact ⟨h9.1,by show tabL.getD i 0≤64;omega⟩
theorem zwx (a b:List DV) (k:Int):p40 a b k=true:=by
 unfold p40
 extract_lets -merge x3 x4 x5 x6 x7 x8 x9 x10 x11 x12 x13 x14 x15 x16 x17 x18 x19 x29 x33 x34 x35 x36 x37 x38 x40 x41 x44 x45
 obtain ⟨u,v⟩:0≤x36∧x36≤64:=zww _
 have h38:x38=true:=decide_eq_true (by show IntKind.wrap .i64 (x36+1)≥0;rw [zaI (by omega) (by omega)];omega)
 have h45:x45=true:=decide_eq_true (by show IntKind.wrap .i64 (x36+3)≥0;rw [zaI (by omega) (by omega)];omega)
 have h35:x35=true:=zwv _
 have k6:x6=true→0≤k∧k<8:=fun h=>by
  have h:(!(decide (k<0)||decide (k≥8)))=true:=h
  simp at h
  omega
 have h7:x6=true→x7=true:=fun h=>decide_eq_true (k6 h).1
 have h8:x6=true→x8=true:=fun h=>decide_eq_true (k6 h).2
 have h18:∀ l,ow ((x6,true)::l) x18=true∨x16=false:=fun l=>by
  cases h16:x16 with
  | false=>exact .inr rfl
  | true =>
   refine .inl (ztP l fun h=>decide_eq_true ?_)
   have hk:k>0:=of_decide_eq_true h16
   show IntKind.wrap .i64 (k-1)≥0
   have:=k6 h
   rw [zaI (by omega) (by omega)]
   omega
 have h19:∀ l,ow ((x6,true)::l) x19=true∨x16=false:=fun l=>by
  cases h16:x16 with
  | false=>exact .inr rfl
  | true =>
   refine .inl (ztP l fun h=>decide_eq_true ?_)
   have hk:k>0:=of_decide_eq_true h16
   show IntKind.wrap .i64 (k-1)<8
   have:=k6 h
   rw [zaI (by omega) (by omega)]
   omega
 have g18:ow [(x6,true),(x15,true),(x16,true)] x18=true:=by
  rcases h18 [(x15,true),(x16,true)] with h | h
  ·exact h
  ·rw [h];unfold ow;simp
 have g19:ow [(x6,true),(x15,true),(x16,true)] x19=true:=by
  rcases h19 [(x15,true),(x16,true)] with h | h
  ·exact h
  ·rw [h];unfold ow;simp
 have g7:ow [(x6,true)] x7=true:=ztP [] h7
 have g8:ow [(x6,true)] x8=true:=ztP [] h8
 simp only [List.all_cons,List.all_nil,id_eq,show x11=x7 from rfl,show x12=x8 from rfl,g7,g8,g18,g19,za0 h35,za0 h38,show x41=x38 from rfl,za0 h45,Bool.and_self]
theorem zwy (a b:List DV) (k x n:Int):p29 a b k x n=true:=by
 unfold p29
 simp only [zwx,List.all_cons,List.all_nil,id_eq,za0,Bool.and_self]
theorem zun (a:Int) (m:List DV):∀ (k:Nat) (x7:Int),k≤8→(zcC a m x7 ((k:Int)-1)).isSome=true
 | 0,x7,_=>by
  unfold zcC
  rw [zbY (by show zd4 a m x7 (((0:Nat):Int)-1)=true;unfold zd4;simp [ow]) (by show zd5 a m x7 (((0:Nat):Int)-1)=false;unfold zd5;simp)]
  rfl
 | k+1,x7,h=>by
  have hk:(((k+1:Nat):Int)-1)=(k:Int):=by omega
  unfold zcC
  rw [hk]
  have hw:zd4 a m x7 (k:Int)=true:=by
   unfold zd4
   extract_lets -merge x9 x11 x12 x13
   have h13:x13=true:=by
    show in64 x12=true
    obtain ⟨u,v⟩:0≤x12∧x12<18446744073709551616:=zci _
    simp only [in64,Bool.and_eq_true,decide_eq_true_eq]
    omega
   simp only [List.all_cons,List.all_nil,id_eq,za0 h13,Bool.and_self]
  have hc:zd5 a m x7 (k:Int)=true:=by
   unfold zd5
   simp
  rw [zbX (show zjE [.i a,.l m,.i x7,.i k]=true from hw) (show zjF [.i a,.l m,.i x7,.i k]=true from hc)]
  have hn:zjG [.i a,.l m,.i x7,.i k]=[.i a,.l m,.i (zeU a m x7 k),.i ((k:Int)-1)]:=by
   show [DV.i a,.l m,.i (zeU a m x7 k),.i (zeV a m x7 k)]=_
   have:zeV a m x7 k=(k:Int)-1:=by
    show IntKind.wrap .i64 ((k:Int)-1)=_
    rw [IntKind.wrap_i64]
    omega
   rw [this]
  rw [hn]
  have ih:=zun a m k (zeU a m x7 k) (by omega)
  unfold zcC at ih
  exact ih
theorem zxh (m:List DV) (a:Int):p33 m a 8=true:=by
 unfold p33
 have e:zoD a m 0 (IntKind.wrap .i64 (8-1))=true:=by
  rw [zaI (by omega) (by omega)]
  exact zun a m 8 0 (by omega)
 simp only [e]
 simp [ow]
def zbM (b:List DV):Prop:=∃ m c p u n e f,b=[.l m,.l c,.l p,.l u,.i n,.l e,.b f]
noncomputable def bus0 (img:List DV):List DV:=[.l (zd9 img 2147483648 []),.l zvZ,.l zv0,.l zv7,.i (-1),.l [],.b false]
theorem zj1 (img:List DV):zbM (bus0 img):=⟨_,_,_,_,_,_,_,rfl⟩
theorem zxi:p24 []=true∧zoS []=true:=by
 have hL:zl6 [.i 0,.l [],.b false,.i 0,.i 0]=[.b true,.i 1,.b false,.i 0,.i 0]:=by
  show [DV.b (zcU 0 [] false 0 0).isSome,.i (dget ((zcU 0 [] false 0 0).getD []) 0).toI,.b (dget ((zcU 0 [] false 0 0).getD []) 1).toB,.i (dget ((zcU 0 [] false 0 0).getD []) 2).toI,.i (dget ((zcU 0 [] false 0 0).getD []) 3).toI]=_
  unfold zcU
  rw [zbY (by show zoM 0 [] false 0 0=true;unfold zoM;simp [ow]) (by show zoN 0 [] false 0 0=false;unfold zoN;simp)]
  rfl
 have e:((([]:List DV).length/4:Nat):Int)=0:=rfl
 unfold p24 zoS
 simp only [e,hL]
 exact ⟨rfl,rfl⟩
theorem zwz (img:List DV):p12 img []=true∧ztF img []=decide (img.length≤1048576)∧ztE img []=(bif decide (img.length≤1048576) then 1 else 0) ∧
  (img.length≤1048576→zqG img []=[.b true,.l (bus0 img)]):=by
 obtain ⟨a1,a2⟩:=zxi
 obtain ⟨b1,b2,b3⟩:=zwu img []
 unfold p12 ztE ztF zqG
 simp only [a1,a2,b1,b2,show ztC=[] from rfl,Bool.not_not]
 cases hi:decide (img.length≤1048576) with
 | false =>
  have:¬ img.length≤1048576:=of_decide_eq_false hi
  simp [ow,this]
 | true =>
  rw [b3 (of_decide_eq_true hi)]
  simp [ow,bus0]
noncomputable def ent (b:List DV) (a:Int):Int:=zbb b 1 a 8
theorem zj2 (b:List DV) (a:Int) (h:zbh a 8=true):p14 b 1 a 8=true∧za5 b 1 a 8=true∧(zbM b→zbs b 1 a 8=b):=by
 refine ⟨?_,?_,?_⟩
 ·unfold p14
  simp only [h,zxh,Bool.not_true]
  simp [ow]
 ·unfold za5
  simp only [h,Bool.not_true]
  have:ztD a 8=true:=by
   have h:zeT a 8=true:=h
   unfold ztD
   rw [h]
   rfl
  rw [this]
  rfl
 ·rintro ⟨m,c,p,u,n,e,f,rfl⟩
  unfold zbs
  simp only [h,Bool.not_true,cond_false]
  rfl
end Go.Proofs.YtedoffkaehcnmaaDoor
namespace Go.Proofs.YtedoffkaehcnmaaDoor
open Go Go.Sx
set_option maxRecDepth 100000
noncomputable def zwA (x33 x39 x52 x67 x75 x81 x74 x118 x133 x141 x147 x140 x193 x208 x215 x221:Bool) (x27:Int) (x84:Int) (x150:Int) (x224:Int):Int :=
 let x85:=!x81
 let x86:=!x74
 let x87:=bif x75 then x85 else x86
 let x88:=bif x67 then x87 else true
 let x89:=x52&&x88
 let x90:=bif x39 then x89 else true
 let x91:=x33&&x90
 let x102:=!x75
 let x103:=x52&&x102
 let x104:=x33&&x103
 let x105:=bif x91 then false else x104
 let x151:=!x147
 let x152:=!x140
 let x153:=bif x141 then x151 else x152
 let x154:=bif x133 then x153 else true
 let x155:=x118&&x154
 let x156:=x105&&x155
 let x177:=!x141
 let x178:=x118&&x177
 let x179:=x105&&x178
 let x180:=bif x156 then false else x179
 let x225:=!x221
 let x226:=bif x215 then x225 else true
 let x227:=bif x208 then x226 else true
 let x228:=x193&&x227
 let x229:=x180&&x228
 let x248:=bif x193 then x224 else 0
 let x256:=bif x118 then x150 else 0
 let x266:=bif x52 then x84 else 0
 let x276:=bif x33 then x266 else x27
 let x286:=bif x91 then 0 else x276
 let x296:=bif x105 then x256 else x286
 let x306:=bif x156 then 0 else x296
 let x316:=bif x180 then x248 else x306
 let x326:=bif x229 then 0 else x316
 x326
noncomputable def zwB (x33 x39 x52 x67 x75 x81 x74 x118 x133 x141 x147 x140 x193 x208 x215 x221:Bool):Int :=
 let x85:=!x81
 let x86:=!x74
 let x87:=bif x75 then x85 else x86
 let x88:=bif x67 then x87 else true
 let x89:=x52&&x88
 let x90:=bif x39 then x89 else true
 let x91:=x33&&x90
 let x102:=!x75
 let x103:=x52&&x102
 let x104:=x33&&x103
 let x105:=bif x91 then false else x104
 let x151:=!x147
 let x152:=!x140
 let x153:=bif x141 then x151 else x152
 let x154:=bif x133 then x153 else true
 let x155:=x118&&x154
 let x156:=x105&&x155
 let x177:=!x141
 let x178:=x118&&x177
 let x179:=x105&&x178
 let x180:=bif x156 then false else x179
 let x225:=!x221
 let x226:=bif x215 then x225 else true
 let x227:=bif x208 then x226 else true
 let x228:=x193&&x227
 let x229:=x180&&x228
 let x257:=bif x118 then 1 else 0
 let x267:=bif x52 then 2 else 0
 let x277:=bif x33 then x267 else (-1)
 let x287:=bif x91 then 0 else x277
 let x297:=bif x105 then x257 else x287
 let x307:=bif x156 then 0 else x297
 let x317:=bif x180 then 0 else x307
 let x327:=bif x229 then 0 else x317
 x327
noncomputable def zwC (x33 x39 x52 x67 x75 x81 x74 x118 x133 x141 x147 x140 x193 x208 x215 x221:Bool) (x54:Int) (x120:Int) (x195:Int):Int :=
 let x85:=!x81
 let x86:=!x74
 let x87:=bif x75 then x85 else x86
 let x88:=bif x67 then x87 else true
 let x89:=x52&&x88
 let x90:=bif x39 then x89 else true
 let x91:=x33&&x90
 let x102:=!x75
 let x103:=x52&&x102
 let x104:=x33&&x103
 let x105:=bif x91 then false else x104
 let x151:=!x147
 let x152:=!x140
 let x153:=bif x141 then x151 else x152
 let x154:=bif x133 then x153 else true
 let x155:=x118&&x154
 let x156:=x105&&x155
 let x177:=!x141
 let x178:=x118&&x177
 let x179:=x105&&x178
 let x180:=bif x156 then false else x179
 let x225:=!x221
 let x226:=bif x215 then x225 else true
 let x227:=bif x208 then x226 else true
 let x228:=x193&&x227
 let x229:=x180&&x228
 let x249:=bif x193 then x195 else 0
 let x258:=bif x118 then x120 else 0
 let x268:=bif x52 then x54 else 0
 let x278:=bif x33 then x268 else 0
 let x288:=bif x91 then 0 else x278
 let x298:=bif x105 then x258 else x288
 let x308:=bif x156 then 0 else x298
 let x318:=bif x180 then x249 else x308
 let x328:=bif x229 then 0 else x318
 x328
noncomputable def zwD (x33 x39 x52 x67 x75 x81 x74 x118 x133 x141 x147 x140 x193 x208 x215 x221:Bool) (x44:Int) (x110:Int) (x185:Int):Int :=
 let x85:=!x81
 let x86:=!x74
 let x87:=bif x75 then x85 else x86
 let x88:=bif x67 then x87 else true
 let x89:=x52&&x88
 let x90:=bif x39 then x89 else true
 let x91:=x33&&x90
 let x102:=!x75
 let x103:=x52&&x102
 let x104:=x33&&x103
 let x105:=bif x91 then false else x104
 let x151:=!x147
 let x152:=!x140
 let x153:=bif x141 then x151 else x152
 let x154:=bif x133 then x153 else true
 let x155:=x118&&x154
 let x156:=x105&&x155
 let x177:=!x141
 let x178:=x118&&x177
 let x179:=x105&&x178
 let x180:=bif x156 then false else x179
 let x225:=!x221
 let x226:=bif x215 then x225 else true
 let x227:=bif x208 then x226 else true
 let x228:=x193&&x227
 let x229:=x180&&x228
 let x250:=bif x193 then x185 else 0
 let x259:=bif x118 then x110 else 0
 let x269:=bif x52 then x44 else 0
 let x279:=bif x33 then x269 else 0
 let x289:=bif x91 then 0 else x279
 let x299:=bif x105 then x259 else x289
 let x309:=bif x156 then 0 else x299
 let x319:=bif x180 then x250 else x309
 let x329:=bif x229 then 0 else x319
 x329
noncomputable def zwE (x33 x39 x52 x67 x75 x81 x74 x118 x133 x141 x147 x140 x193 x208 x215 x221:Bool) (x51:Int) (x101:Int) (x117:Int) (x176:Int) (x192:Int) (x247:Int):Int :=
 let x85:=!x81
 let x86:=!x74
 let x87:=bif x75 then x85 else x86
 let x88:=bif x67 then x87 else true
 let x89:=x52&&x88
 let x90:=bif x39 then x89 else true
 let x91:=x33&&x90
 let x102:=!x75
 let x103:=x52&&x102
 let x104:=x33&&x103
 let x105:=bif x91 then false else x104
 let x151:=!x147
 let x152:=!x140
 let x153:=bif x141 then x151 else x152
 let x154:=bif x133 then x153 else true
 let x155:=x118&&x154
 let x156:=x105&&x155
 let x177:=!x141
 let x178:=x118&&x177
 let x179:=x105&&x178
 let x180:=bif x156 then false else x179
 let x225:=!x221
 let x226:=bif x215 then x225 else true
 let x227:=bif x208 then x226 else true
 let x228:=x193&&x227
 let x229:=x180&&x228
 let x251:=bif x193 then 0 else x192
 let x260:=bif x118 then 0 else x117
 let x270:=bif x52 then 0 else x51
 let x280:=bif x33 then x270 else 0
 let x290:=bif x91 then x101 else x280
 let x300:=bif x105 then x260 else x290
 let x310:=bif x156 then x176 else x300
 let x320:=bif x180 then x251 else x310
 let x330:=bif x229 then x247 else x320
 x330
noncomputable def zwF (x33 x39 x52 x67 x75 x81 x74 x118 x133 x141 x147 x140 x193 x208 x215 x221:Bool) (x0:List DV) (x56:List DV) (x122:List DV) (x197:List DV):List DV :=
 let x85:=!x81
 let x86:=!x74
 let x87:=bif x75 then x85 else x86
 let x88:=bif x67 then x87 else true
 let x89:=x52&&x88
 let x90:=bif x39 then x89 else true
 let x91:=x33&&x90
 let x100:=bif x39 then x56 else x0
 let x102:=!x75
 let x103:=x52&&x102
 let x104:=x33&&x103
 let x105:=bif x91 then false else x104
 let x151:=!x147
 let x152:=!x140
 let x153:=bif x141 then x151 else x152
 let x154:=bif x133 then x153 else true
 let x155:=x118&&x154
 let x156:=x105&&x155
 let x177:=!x141
 let x178:=x118&&x177
 let x179:=x105&&x178
 let x180:=bif x156 then false else x179
 let x225:=!x221
 let x226:=bif x215 then x225 else true
 let x227:=bif x208 then x226 else true
 let x228:=x193&&x227
 let x229:=x180&&x228
 let x252:=bif x193 then x197 else x122
 let x261:=bif x118 then x122 else x56
 let x271:=bif x52 then x56 else x0
 let x281:=bif x33 then x271 else x0
 let x291:=bif x91 then x100 else x281
 let x301:=bif x105 then x261 else x291
 let x311:=bif x156 then x122 else x301
 let x321:=bif x180 then x252 else x311
 let x331:=bif x229 then x197 else x321
 x331
noncomputable def tree {α:Type} (x33 x39 x52 x67 x75 x81 x74 x118 x133 x141 x147 x140 x193 x208 x215 x221:Bool) (no sg f2 p2 v2 f1 p1 v1 f0 p0 v0:α):α :=
 bif !x33 then no else bif !x39 then sg else
 bif !x52 then f2 else bif !x67 then p2 else bif x75 then (bif x81 then v2 else p2) else bif !x74 then p2 else
 bif !x118 then f1 else bif !x133 then p1 else bif x141 then (bif x147 then v1 else p1) else bif !x140 then p1 else
 bif !x193 then f0 else bif !x208 then p0 else bif x215 then (bif x221 then v0 else p0) else p0
noncomputable def pt (t at_ k:Int):Int:=IntKind.wrap .u64 (ishl .u64 t 12+IntKind.wrap .u64 (zaf .u64 (ishr .u64 at_ k) 511*8))
noncomputable def sOn (x25 x21:Int):Bool:=!((x25==3)||(ishr .u64 x21 60 != 8))
noncomputable def sSg (x27:Int):Bool:=!(ishr .i64 (IntKind.wrap .i64 (ishl .u64 x27 25)) 25 != IntKind.wrap .i64 x27)
noncomputable def ckF (x23 x24:List DV) (a:Int):Bool:=!((!zcV x23 x24 1 1 a 8)||(!zbh a 8))
noncomputable def okR (v:Bool) (e:Int):Bool:=!((((!v)||(zaf .u64 e 1==0))||(zaf .u64 e 6==4))||(ishr .u64 e 54 != 0))
noncomputable def tbF (e:Int):Int:=zaf .u64 (ishr .u64 e 10) 17592186044415
noncomputable def lfF (e:Int):Bool:=!(zaf .u64 e 10==0)
noncomputable def nbF (e:Int):Bool:=!(zaf .u64 e 208 != 0)
noncomputable def alF (al:Int→Bool) (m e:Int):Bool:=!((!al e)||(zaf .u64 (tbF e) m != 0))
noncomputable def vaF (e o:Int):Int:=IntKind.wrap .u64 (ishl .u64 (tbF e) 12+o)
theorem zxj (x0:List DV) (x1 x21:Int) (x23 x24:List DV) (x25 x26 x27:Int) (b1 b2 b3:List DV) (a2 a1 a0 e2 e1 e0:Int) (hb1:b1=zbs x0 1 a2 8) (hb2:b2=zbs b1 1 a1 8) (hb3:b3=zbs b2 1 a0 8) (h2:a2=pt (zaf .u64 x21 17592186044415) x27 30) (g2:e2=zbb x0 1 a2 8) (h1:a1=pt (tbF e2) x27 21) (g1:e1=zbb b1 1 a1 8) (h0:a0=pt (tbF e1) x27 12) (g0:e0=zbb b2 1 a0 8) :
  zu1 x0 x1 x21 x23 x24 x25 x26 x27=zwA (sOn x25 x21) (sSg x27) (ckF x23 x24 a2) (okR (za5 x0 1 a2 8) e2) (lfF e2) (alF (zaC x1 x25 x26) 262143 e2) (nbF e2) (ckF x23 x24 a1) (okR (za5 b1 1 a1 8) e1) (lfF e1) (alF (zaC x1 x25 x26) 511 e1) (nbF e1) (ckF x23 x24 a0) (okR (za5 b2 1 a0 8) e0) (lfF e0) (alF (zaC x1 x25 x26) 0 e0) x27 (vaF e2 (zaf .u64 x27 1073741823)) (vaF e1 (zaf .u64 x27 2097151)) (vaF e0 (zaf .u64 x27 4095)):=by
 subst hb1 h2 g2 h1 hb2 g1 h0 hb3 g0
 rfl
theorem zxk (x0:List DV) (x1 x21:Int) (x23 x24:List DV) (x25 x26 x27:Int) (b1 b2 b3:List DV) (a2 a1 a0 e2 e1 e0:Int) (hb1:b1=zbs x0 1 a2 8) (hb2:b2=zbs b1 1 a1 8) (hb3:b3=zbs b2 1 a0 8) (h2:a2=pt (zaf .u64 x21 17592186044415) x27 30) (g2:e2=zbb x0 1 a2 8) (h1:a1=pt (tbF e2) x27 21) (g1:e1=zbb b1 1 a1 8) (h0:a0=pt (tbF e1) x27 12) (g0:e0=zbb b2 1 a0 8) :
  zu2 x0 x1 x21 x23 x24 x25 x26 x27=zwB (sOn x25 x21) (sSg x27) (ckF x23 x24 a2) (okR (za5 x0 1 a2 8) e2) (lfF e2) (alF (zaC x1 x25 x26) 262143 e2) (nbF e2) (ckF x23 x24 a1) (okR (za5 b1 1 a1 8) e1) (lfF e1) (alF (zaC x1 x25 x26) 511 e1) (nbF e1) (ckF x23 x24 a0) (okR (za5 b2 1 a0 8) e0) (lfF e0) (alF (zaC x1 x25 x26) 0 e0):=by
 subst hb1 h2 g2 h1 hb2 g1 h0 hb3 g0
 rfl
theorem zxl (x0:List DV) (x1 x21:Int) (x23 x24:List DV) (x25 x26 x27:Int) (b1 b2 b3:List DV) (a2 a1 a0 e2 e1 e0:Int) (hb1:b1=zbs x0 1 a2 8) (hb2:b2=zbs b1 1 a1 8) (hb3:b3=zbs b2 1 a0 8) (h2:a2=pt (zaf .u64 x21 17592186044415) x27 30) (g2:e2=zbb x0 1 a2 8) (h1:a1=pt (tbF e2) x27 21) (g1:e1=zbb b1 1 a1 8) (h0:a0=pt (tbF e1) x27 12) (g0:e0=zbb b2 1 a0 8) :
  zu3 x0 x1 x21 x23 x24 x25 x26 x27=zwC (sOn x25 x21) (sSg x27) (ckF x23 x24 a2) (okR (za5 x0 1 a2 8) e2) (lfF e2) (alF (zaC x1 x25 x26) 262143 e2) (nbF e2) (ckF x23 x24 a1) (okR (za5 b1 1 a1 8) e1) (lfF e1) (alF (zaC x1 x25 x26) 511 e1) (nbF e1) (ckF x23 x24 a0) (okR (za5 b2 1 a0 8) e0) (lfF e0) (alF (zaC x1 x25 x26) 0 e0) e2 e1 e0:=by
 subst hb1 h2 g2 h1 hb2 g1 h0 hb3 g0
 rfl
theorem zxm (x0:List DV) (x1 x21:Int) (x23 x24:List DV) (x25 x26 x27:Int) (b1 b2 b3:List DV) (a2 a1 a0 e2 e1 e0:Int) (hb1:b1=zbs x0 1 a2 8) (hb2:b2=zbs b1 1 a1 8) (hb3:b3=zbs b2 1 a0 8) (h2:a2=pt (zaf .u64 x21 17592186044415) x27 30) (g2:e2=zbb x0 1 a2 8) (h1:a1=pt (tbF e2) x27 21) (g1:e1=zbb b1 1 a1 8) (h0:a0=pt (tbF e1) x27 12) (g0:e0=zbb b2 1 a0 8) :
  zu4 x0 x1 x21 x23 x24 x25 x26 x27=zwD (sOn x25 x21) (sSg x27) (ckF x23 x24 a2) (okR (za5 x0 1 a2 8) e2) (lfF e2) (alF (zaC x1 x25 x26) 262143 e2) (nbF e2) (ckF x23 x24 a1) (okR (za5 b1 1 a1 8) e1) (lfF e1) (alF (zaC x1 x25 x26) 511 e1) (nbF e1) (ckF x23 x24 a0) (okR (za5 b2 1 a0 8) e0) (lfF e0) (alF (zaC x1 x25 x26) 0 e0) a2 a1 a0:=by
 subst hb1 h2 g2 h1 hb2 g1 h0 hb3 g0
 rfl
theorem zxn (x0:List DV) (x1 x21:Int) (x23 x24:List DV) (x25 x26 x27:Int) (b1 b2 b3:List DV) (a2 a1 a0 e2 e1 e0:Int) (hb1:b1=zbs x0 1 a2 8) (hb2:b2=zbs b1 1 a1 8) (hb3:b3=zbs b2 1 a0 8) (h2:a2=pt (zaf .u64 x21 17592186044415) x27 30) (g2:e2=zbb x0 1 a2 8) (h1:a1=pt (tbF e2) x27 21) (g1:e1=zbb b1 1 a1 8) (h0:a0=pt (tbF e1) x27 12) (g0:e0=zbb b2 1 a0 8) :
  zu5 x0 x1 x21 x23 x24 x25 x26 x27=zwE (sOn x25 x21) (sSg x27) (ckF x23 x24 a2) (okR (za5 x0 1 a2 8) e2) (lfF e2) (alF (zaC x1 x25 x26) 262143 e2) (nbF e2) (ckF x23 x24 a1) (okR (za5 b1 1 a1 8) e1) (lfF e1) (alF (zaC x1 x25 x26) 511 e1) (nbF e1) (ckF x23 x24 a0) (okR (za5 b2 1 a0 8) e0) (lfF e0) (alF (zaC x1 x25 x26) 0 e0) (zf6 x26) (zcg x26) (zf6 x26) (zcg x26) (zf6 x26) (zcg x26):=by
 subst hb1 h2 g2 h1 hb2 g1 h0 hb3 g0
 rfl
theorem zxo (x0:List DV) (x1 x21:Int) (x23 x24:List DV) (x25 x26 x27:Int) (b1 b2 b3:List DV) (a2 a1 a0 e2 e1 e0:Int) (hb1:b1=zbs x0 1 a2 8) (hb2:b2=zbs b1 1 a1 8) (hb3:b3=zbs b2 1 a0 8) (h2:a2=pt (zaf .u64 x21 17592186044415) x27 30) (g2:e2=zbb x0 1 a2 8) (h1:a1=pt (tbF e2) x27 21) (g1:e1=zbb b1 1 a1 8) (h0:a0=pt (tbF e1) x27 12) (g0:e0=zbb b2 1 a0 8) :
  zu6 x0 x1 x21 x23 x24 x25 x26 x27=zwF (sOn x25 x21) (sSg x27) (ckF x23 x24 a2) (okR (za5 x0 1 a2 8) e2) (lfF e2) (alF (zaC x1 x25 x26) 262143 e2) (nbF e2) (ckF x23 x24 a1) (okR (za5 b1 1 a1 8) e1) (lfF e1) (alF (zaC x1 x25 x26) 511 e1) (nbF e1) (ckF x23 x24 a0) (okR (za5 b2 1 a0 8) e0) (lfF e0) (alF (zaC x1 x25 x26) 0 e0) x0 b1 b2 b3:=by
 subst hb1 h2 g2 h1 hb2 g1 h0 hb3 g0
 rfl
theorem zxp (x33 x39 x52 x67 x75 x81 x74 x118 x133 x141 x147 x140 x193 x208 x215 x221:Bool) (x27 v2 v1 v0 e2 e1 e0 a2 a1 a0 fl pg:Int):zwA x33 x39 x52 x67 x75 x81 x74 x118 x133 x141 x147 x140 x193 x208 x215 x221 x27 v2 v1 v0 =
  (tree x33 x39 x52 x67 x75 x81 x74 x118 x133 x141 x147 x140 x193 x208 x215 x221 (x27,-1,0,0,0) (0,0,0,0,pg) (0,0,0,0,fl) (0,0,0,0,pg) (v2,2,e2,a2,0) (0,0,0,0,fl) (0,0,0,0,pg) (v1,1,e1,a1,0) (0,0,0,0,fl) (0,0,0,0,pg) (v0,0,e0,a0,0)).1:=by
 all_goals (cases x33<;>try rfl)
 all_goals (cases x39<;>try rfl)
 all_goals (cases x52<;>try rfl)
 all_goals (cases x67<;>try rfl)
 all_goals (cases x75<;>try rfl)
 all_goals (cases x81<;>try rfl)
 all_goals (cases x74<;>try rfl)
 all_goals (cases x118<;>try rfl)
 all_goals (cases x133<;>try rfl)
 all_goals (cases x141<;>try rfl)
 all_goals (cases x147<;>try rfl)
 all_goals (cases x140<;>try rfl)
 all_goals (cases x193<;>try rfl)
 all_goals (cases x208<;>try rfl)
 all_goals (cases x215<;>try rfl)
 all_goals (cases x221<;>try rfl)
theorem zxq (x33 x39 x52 x67 x75 x81 x74 x118 x133 x141 x147 x140 x193 x208 x215 x221:Bool) (x27 v2 v1 v0 e2 e1 e0 a2 a1 a0 fl pg:Int):zwB x33 x39 x52 x67 x75 x81 x74 x118 x133 x141 x147 x140 x193 x208 x215 x221  =
  (tree x33 x39 x52 x67 x75 x81 x74 x118 x133 x141 x147 x140 x193 x208 x215 x221 (x27,-1,0,0,0) (0,0,0,0,pg) (0,0,0,0,fl) (0,0,0,0,pg) (v2,2,e2,a2,0) (0,0,0,0,fl) (0,0,0,0,pg) (v1,1,e1,a1,0) (0,0,0,0,fl) (0,0,0,0,pg) (v0,0,e0,a0,0)).2.1:=by
 all_goals (cases x33<;>try rfl)
 all_goals (cases x39<;>try rfl)
 all_goals (cases x52<;>try rfl)
 all_goals (cases x67<;>try rfl)
 all_goals (cases x75<;>try rfl)
 all_goals (cases x81<;>try rfl)
 all_goals (cases x74<;>try rfl)
 all_goals (cases x118<;>try rfl)
 all_goals (cases x133<;>try rfl)
 all_goals (cases x141<;>try rfl)
 all_goals (cases x147<;>try rfl)
 all_goals (cases x140<;>try rfl)
 all_goals (cases x193<;>try rfl)
 all_goals (cases x208<;>try rfl)
 all_goals (cases x215<;>try rfl)
 all_goals (cases x221<;>try rfl)
theorem zxr (x33 x39 x52 x67 x75 x81 x74 x118 x133 x141 x147 x140 x193 x208 x215 x221:Bool) (x27 v2 v1 v0 e2 e1 e0 a2 a1 a0 fl pg:Int):zwC x33 x39 x52 x67 x75 x81 x74 x118 x133 x141 x147 x140 x193 x208 x215 x221 e2 e1 e0 =
  (tree x33 x39 x52 x67 x75 x81 x74 x118 x133 x141 x147 x140 x193 x208 x215 x221 (x27,-1,0,0,0) (0,0,0,0,pg) (0,0,0,0,fl) (0,0,0,0,pg) (v2,2,e2,a2,0) (0,0,0,0,fl) (0,0,0,0,pg) (v1,1,e1,a1,0) (0,0,0,0,fl) (0,0,0,0,pg) (v0,0,e0,a0,0)).2.2.1:=by
 all_goals (cases x33<;>try rfl)
 all_goals (cases x39<;>try rfl)
 all_goals (cases x52<;>try rfl)
 all_goals (cases x67<;>try rfl)
 all_goals (cases x75<;>try rfl)
 all_goals (cases x81<;>try rfl)
 all_goals (cases x74<;>try rfl)
 all_goals (cases x118<;>try rfl)
 all_goals (cases x133<;>try rfl)
 all_goals (cases x141<;>try rfl)
 all_goals (cases x147<;>try rfl)
 all_goals (cases x140<;>try rfl)
 all_goals (cases x193<;>try rfl)
 all_goals (cases x208<;>try rfl)
 all_goals (cases x215<;>try rfl)
 all_goals (cases x221<;>try rfl)
theorem zxs (x33 x39 x52 x67 x75 x81 x74 x118 x133 x141 x147 x140 x193 x208 x215 x221:Bool) (x27 v2 v1 v0 e2 e1 e0 a2 a1 a0 fl pg:Int):zwD x33 x39 x52 x67 x75 x81 x74 x118 x133 x141 x147 x140 x193 x208 x215 x221 a2 a1 a0 =
  (tree x33 x39 x52 x67 x75 x81 x74 x118 x133 x141 x147 x140 x193 x208 x215 x221 (x27,-1,0,0,0) (0,0,0,0,pg) (0,0,0,0,fl) (0,0,0,0,pg) (v2,2,e2,a2,0) (0,0,0,0,fl) (0,0,0,0,pg) (v1,1,e1,a1,0) (0,0,0,0,fl) (0,0,0,0,pg) (v0,0,e0,a0,0)).2.2.2.1:=by
 all_goals (cases x33<;>try rfl)
 all_goals (cases x39<;>try rfl)
 all_goals (cases x52<;>try rfl)
 all_goals (cases x67<;>try rfl)
 all_goals (cases x75<;>try rfl)
 all_goals (cases x81<;>try rfl)
 all_goals (cases x74<;>try rfl)
 all_goals (cases x118<;>try rfl)
 all_goals (cases x133<;>try rfl)
 all_goals (cases x141<;>try rfl)
 all_goals (cases x147<;>try rfl)
 all_goals (cases x140<;>try rfl)
 all_goals (cases x193<;>try rfl)
 all_goals (cases x208<;>try rfl)
 all_goals (cases x215<;>try rfl)
 all_goals (cases x221<;>try rfl)
theorem zxt (x33 x39 x52 x67 x75 x81 x74 x118 x133 x141 x147 x140 x193 x208 x215 x221:Bool) (x27 v2 v1 v0 e2 e1 e0 a2 a1 a0 fl pg:Int):zwE x33 x39 x52 x67 x75 x81 x74 x118 x133 x141 x147 x140 x193 x208 x215 x221 fl pg fl pg fl pg =
  (tree x33 x39 x52 x67 x75 x81 x74 x118 x133 x141 x147 x140 x193 x208 x215 x221 (x27,-1,0,0,0) (0,0,0,0,pg) (0,0,0,0,fl) (0,0,0,0,pg) (v2,2,e2,a2,0) (0,0,0,0,fl) (0,0,0,0,pg) (v1,1,e1,a1,0) (0,0,0,0,fl) (0,0,0,0,pg) (v0,0,e0,a0,0)).2.2.2.2:=by
 all_goals (cases x33<;>try rfl)
 all_goals (cases x39<;>try rfl)
 all_goals (cases x52<;>try rfl)
 all_goals (cases x67<;>try rfl)
 all_goals (cases x75<;>try rfl)
 all_goals (cases x81<;>try rfl)
 all_goals (cases x74<;>try rfl)
 all_goals (cases x118<;>try rfl)
 all_goals (cases x133<;>try rfl)
 all_goals (cases x141<;>try rfl)
 all_goals (cases x147<;>try rfl)
 all_goals (cases x140<;>try rfl)
 all_goals (cases x193<;>try rfl)
 all_goals (cases x208<;>try rfl)
 all_goals (cases x215<;>try rfl)
 all_goals (cases x221<;>try rfl)
theorem zxu (x33 x39 x52 x67 x75 x81 x74 x118 x133 x141 x147 x140 x193 x208 x215 x221:Bool) (x0 b1 b2 b3:List DV):zwF x33 x39 x52 x67 x75 x81 x74 x118 x133 x141 x147 x140 x193 x208 x215 x221 x0 b1 b2 b3=tree x33 x39 x52 x67 x75 x81 x74 x118 x133 x141 x147 x140 x193 x208 x215 x221 x0 x0 x0 b1 b1 b1 b2 b2 b2 b3 b3:=by
 all_goals (cases x33<;>try rfl)
 all_goals (cases x39<;>try rfl)
 all_goals (cases x52<;>try rfl)
 all_goals (cases x67<;>try rfl)
 all_goals (cases x75<;>try rfl)
 all_goals (cases x81<;>try rfl)
 all_goals (cases x74<;>try rfl)
 all_goals (cases x118<;>try rfl)
 all_goals (cases x133<;>try rfl)
 all_goals (cases x141<;>try rfl)
 all_goals (cases x147<;>try rfl)
 all_goals (cases x140<;>try rfl)
 all_goals (cases x193<;>try rfl)
 all_goals (cases x208<;>try rfl)
 all_goals (cases x215<;>try rfl)
 all_goals (cases x221<;>try rfl)
end Go.Proofs.YtedoffkaehcnmaaDoor
namespace Go.Proofs.YtedoffkaehcnmaaDoor
open Go Go.Sx
set_option maxRecDepth 100000
theorem zvr {α:Type} (x33 x39 x67 x75 x81 x74 x118 x133 x141 x147 x140 x193 x208 x215 x221 y67 y75 y81 y74 y118 y133 y141 y147 y140 y193 y208 y215 y221:Bool) (no sg f2 p2 v2 f1 p1 v1 f0 p0 v0 wp2 wv2 wf1 wp1 wv1 wf0 wp0 wv0:α):tree x33 x39 false x67 x75 x81 x74 x118 x133 x141 x147 x140 x193 x208 x215 x221 no sg f2 p2 v2 f1 p1 v1 f0 p0 v0=tree x33 x39 false y67 y75 y81 y74 y118 y133 y141 y147 y140 y193 y208 y215 y221 no sg f2 wp2 wv2 wf1 wp1 wv1 wf0 wp0 wv0:=by
 all_goals (cases x33<;>try rfl)
 all_goals (cases x39<;>try rfl)
theorem zvs {α:Type} (x33 x39 x52 x67 x75 x81 x74 x133 x141 x147 x140 x193 x208 x215 x221 y133 y141 y147 y140 y193 y208 y215 y221:Bool) (no sg f2 p2 v2 f1 p1 v1 f0 p0 v0 wp1 wv1 wf0 wp0 wv0:α):tree x33 x39 x52 x67 x75 x81 x74 false x133 x141 x147 x140 x193 x208 x215 x221 no sg f2 p2 v2 f1 p1 v1 f0 p0 v0=tree x33 x39 x52 x67 x75 x81 x74 false y133 y141 y147 y140 y193 y208 y215 y221 no sg f2 p2 v2 f1 wp1 wv1 wf0 wp0 wv0:=by
 all_goals (cases x33<;>try rfl)
 all_goals (cases x39<;>try rfl)
 all_goals (cases x52<;>try rfl)
 all_goals (cases x67<;>try rfl)
 all_goals (cases x75<;>try rfl)
 all_goals (cases x81<;>try rfl)
 all_goals (cases x74<;>try rfl)
theorem zvt {α:Type} (x33 x39 x52 x67 x75 x81 x74 x118 x133 x141 x147 x140 x208 x215 x221 y208 y215 y221:Bool) (no sg f2 p2 v2 f1 p1 v1 f0 p0 v0 wp0 wv0:α):tree x33 x39 x52 x67 x75 x81 x74 x118 x133 x141 x147 x140 false x208 x215 x221 no sg f2 p2 v2 f1 p1 v1 f0 p0 v0=tree x33 x39 x52 x67 x75 x81 x74 x118 x133 x141 x147 x140 false y208 y215 y221 no sg f2 p2 v2 f1 p1 v1 f0 wp0 wv0:=by
 all_goals (cases x33<;>try rfl)
 all_goals (cases x39<;>try rfl)
 all_goals (cases x52<;>try rfl)
 all_goals (cases x67<;>try rfl)
 all_goals (cases x75<;>try rfl)
 all_goals (cases x81<;>try rfl)
 all_goals (cases x74<;>try rfl)
 all_goals (cases x118<;>try rfl)
 all_goals (cases x133<;>try rfl)
 all_goals (cases x141<;>try rfl)
 all_goals (cases x147<;>try rfl)
 all_goals (cases x140<;>try rfl)
abbrev WT:Type:=Int×Int×Int×Int×Int
noncomputable def ptq (t q:Int):Int:=IntKind.wrap .u64 (ishl .u64 t 12+IntKind.wrap .u64 (zaf .u64 q 511*8))
noncomputable def WR (ck:Int→Bool) (en:Int→Int) (al:Int→Bool) (pg fl:Int) (on sg:Bool) (t at_ q2 q1 q0 o2 o1 o0:Int):WT :=
 let a2:=ptq t q2
 let e2:=en a2
 let a1:=ptq (tbF e2) q1
 let e1:=en a1
 let a0:=ptq (tbF e1) q0
 let e0:=en a0
 tree on sg (ck a2) (okR true e2) (lfF e2) (alF al 262143 e2) (nbF e2) (ck a1) (okR true e1) (lfF e1) (alF al 511 e1) (nbF e1) (ck a0) (okR true e0) (lfF e0) (alF al 0 e0) (at_,-1,0,0,0) (0,0,0,0,pg) (0,0,0,0,fl) (0,0,0,0,pg) (vaF e2 o2,2,e2,a2,0) (0,0,0,0,fl) (0,0,0,0,pg) (vaF e1 o1,1,e1,a1,0) (0,0,0,0,fl) (0,0,0,0,pg) (vaF e0 o0,0,e0,a0,0)
noncomputable def WA (x0:List DV) (x1 x21:Int) (x23 x24:List DV) (x25 x26 x27:Int):WT:=WR (ckF x23 x24) (ent x0) (zaC x1 x25 x26) (zcg x26) (zf6 x26) (sOn x25 x21) (sSg x27) (zaf .u64 x21 17592186044415) x27
 (ishr .u64 x27 30) (ishr .u64 x27 21) (ishr .u64 x27 12) (zaf .u64 x27 1073741823) (zaf .u64 x27 2097151) (zaf .u64 x27 4095)
theorem zgY {x23 x24:List DV} {a:Int} (h:ckF x23 x24 a=true):zbh a 8=true:=by
 unfold ckF at h
 cases h2:zbh a 8 with
 | true=>rfl
 | false=>rw [h2] at h;simp at h
theorem zsV (x0:List DV) (x1 x21:Int) (x23 x24:List DV) (x25 x26 x27:Int) (hs:zbM x0) (b1 b2 b3:List DV) (a2 a1 a0 e2 e1 e0:Int) (hb1:b1=zbs x0 1 a2 8) (hb2:b2=zbs b1 1 a1 8) (hb3:b3=zbs b2 1 a0 8) (h2:a2=pt (zaf .u64 x21 17592186044415) x27 30) (g2:e2=zbb x0 1 a2 8) (h1:a1=pt (tbF e2) x27 21) (g1:e1=zbb b1 1 a1 8) (h0:a0=pt (tbF e1) x27 12) (g0:e0=zbb b2 1 a0 8) :
  tree (sOn x25 x21) (sSg x27) (ckF x23 x24 a2) (okR (za5 x0 1 a2 8) e2) (lfF e2) (alF (zaC x1 x25 x26) 262143 e2) (nbF e2) (ckF x23 x24 a1) (okR (za5 b1 1 a1 8) e1) (lfF e1) (alF (zaC x1 x25 x26) 511 e1) (nbF e1) (ckF x23 x24 a0) (okR (za5 b2 1 a0 8) e0) (lfF e0) (alF (zaC x1 x25 x26) 0 e0) (x27,-1,0,0,0) (0,0,0,0,zcg x26) (0,0,0,0,zf6 x26) (0,0,0,0,zcg x26) (vaF e2 (zaf .u64 x27 1073741823),2,e2,a2,0) (0,0,0,0,zf6 x26) (0,0,0,0,zcg x26) (vaF e1 (zaf .u64 x27 2097151),1,e1,a1,0) (0,0,0,0,zf6 x26) (0,0,0,0,zcg x26) (vaF e0 (zaf .u64 x27 4095),0,e0,a0,0)=WA x0 x1 x21 x23 x24 x25 x26 x27∧tree (sOn x25 x21) (sSg x27) (ckF x23 x24 a2) (okR (za5 x0 1 a2 8) e2) (lfF e2) (alF (zaC x1 x25 x26) 262143 e2) (nbF e2) (ckF x23 x24 a1) (okR (za5 b1 1 a1 8) e1) (lfF e1) (alF (zaC x1 x25 x26) 511 e1) (nbF e1) (ckF x23 x24 a0) (okR (za5 b2 1 a0 8) e0) (lfF e0) (alF (zaC x1 x25 x26) 0 e0) x0 x0 x0 b1 b1 b1 b2 b2 b2 b3 b3=x0:=by
 unfold WA WR
 extract_lets -merge c2 d2 c1 d1 c0 d0
 have k2:a2=c2:=h2
 have l2:e2=d2:=by rw [g2,k2];rfl
 have k1:a1=c1:=by rw [h1,l2];rfl
 clear_value c2 d2 c1
 subst k2 l2 k1
 cases q2:ckF x23 x24 a2 with
 | false =>
  refine ⟨zvr ..,?_⟩
  cases sOn x25 x21<;>cases sSg x27<;>rfl
 | true =>
  obtain ⟨_,r2,s2⟩:=zj2 x0 a2 (zgY q2)
  have hb1:b1=x0:=hb1.trans (s2 hs)
  subst hb1
  have l1:e1=d1:=g1
  have k0:a0=c0:=by rw [h0,l1];rfl
  clear_value d1 c0
  subst l1 k0
  rw [r2]
  cases q1:ckF x23 x24 a1 with
  | false =>
   refine ⟨zvs ..,?_⟩
   generalize sOn x25 x21=u1
   generalize sSg x27=u2
   generalize okR true e2=u3
   generalize lfF e2=u4
   generalize alF (zaC x1 x25 x26) 262143 e2=u5
   generalize nbF e2=u6
   cases u1<;>cases u2<;>cases u3<;>cases u4<;>cases u5<;>cases u6<;>rfl
  | true =>
   obtain ⟨_,r1,s1⟩:=zj2 b1 a1 (zgY q1)
   have hb2:b2=b1:=hb2.trans (s1 hs)
   subst hb2
   have l0:e0=d0:=g0
   clear_value d0
   subst l0
   rw [r1]
   cases q0:ckF x23 x24 a0 with
   | false =>
    refine ⟨zvt ..,?_⟩
    generalize sOn x25 x21=u1
    generalize sSg x27=u2
    generalize okR true e2=u3
    generalize lfF e2=u4
    generalize alF (zaC x1 x25 x26) 262143 e2=u5
    generalize nbF e2=u6
    generalize okR true e1=u7
    generalize lfF e1=u8
    generalize alF (zaC x1 x25 x26) 511 e1=u9
    generalize nbF e1=u10
    cases u1<;>try rfl
    all_goals (cases u2<;>try rfl)
    all_goals (cases u3<;>try rfl)
    all_goals (cases u4<;>try rfl)
    all_goals (cases u5<;>try rfl)
    all_goals (cases u6<;>try rfl)
    all_goals (cases u7<;>try rfl)
    all_goals (cases u8<;>try rfl)
    all_goals (cases u9<;>try rfl)
    all_goals (cases u10<;>try rfl)
   | true =>
    obtain ⟨_,r0,s0⟩:=zj2 b2 a0 (zgY q0)
    have hb3:b3=b2:=hb3.trans (s0 hs)
    subst hb3
    rw [r0]
    refine ⟨rfl,?_⟩
    generalize sOn x25 x21=u1
    generalize sSg x27=u2
    generalize okR true e2=u3
    generalize lfF e2=u4
    generalize alF (zaC x1 x25 x26) 262143 e2=u5
    generalize nbF e2=u6
    generalize okR true e1=u7
    generalize lfF e1=u8
    generalize alF (zaC x1 x25 x26) 511 e1=u9
    generalize nbF e1=u10
    generalize okR true e0=u11
    generalize lfF e0=u12
    generalize alF (zaC x1 x25 x26) 0 e0=u13
    cases u1<;>try rfl
    all_goals (cases u2<;>try rfl)
    all_goals (cases u3<;>try rfl)
    all_goals (cases u4<;>try rfl)
    all_goals (cases u5<;>try rfl)
    all_goals (cases u6<;>try rfl)
    all_goals (cases u7<;>try rfl)
    all_goals (cases u8<;>try rfl)
    all_goals (cases u9<;>try rfl)
    all_goals (cases u10<;>try rfl)
    all_goals (cases u11<;>try rfl)
    all_goals (cases u12<;>try rfl)
    all_goals (cases u13<;>try rfl)
theorem zwG (x0:List DV) (x1 x21:Int) (x23 x24:List DV) (x25 x26 x27:Int) (hs:zbM x0):zu1 x0 x1 x21 x23 x24 x25 x26 x27=(WA x0 x1 x21 x23 x24 x25 x26 x27).1∧zu2 x0 x1 x21 x23 x24 x25 x26 x27=(WA x0 x1 x21 x23 x24 x25 x26 x27).2.1∧zu3 x0 x1 x21 x23 x24 x25 x26 x27=(WA x0 x1 x21 x23 x24 x25 x26 x27).2.2.1∧zu4 x0 x1 x21 x23 x24 x25 x26 x27=(WA x0 x1 x21 x23 x24 x25 x26 x27).2.2.2.1∧zu5 x0 x1 x21 x23 x24 x25 x26 x27=(WA x0 x1 x21 x23 x24 x25 x26 x27).2.2.2.2∧zu6 x0 x1 x21 x23 x24 x25 x26 x27=x0:=by
 obtain ⟨t,s⟩:=zsV x0 x1 x21 x23 x24 x25 x26 x27 hs _ _ _ _ _ _ _ _ _ rfl rfl rfl rfl rfl rfl rfl rfl rfl
 refine ⟨?_,?_,?_,?_,?_,?_⟩
 ·exact (zxj x0 x1 x21 x23 x24 x25 x26 x27 _ _ _ _ _ _ _ _ _ rfl rfl rfl rfl rfl rfl rfl rfl rfl).trans ((zxp .. ).trans (congrArg (fun z:WT=>z.1) t))
 ·exact (zxk x0 x1 x21 x23 x24 x25 x26 x27 _ _ _ _ _ _ _ _ _ rfl rfl rfl rfl rfl rfl rfl rfl rfl).trans ((zxq .. ).trans (congrArg (fun z:WT=>z.2.1) t))
 ·exact (zxl x0 x1 x21 x23 x24 x25 x26 x27 _ _ _ _ _ _ _ _ _ rfl rfl rfl rfl rfl rfl rfl rfl rfl).trans ((zxr .. ).trans (congrArg (fun z:WT=>z.2.2.1) t))
 ·exact (zxm x0 x1 x21 x23 x24 x25 x26 x27 _ _ _ _ _ _ _ _ _ rfl rfl rfl rfl rfl rfl rfl rfl rfl).trans ((zxs .. ).trans (congrArg (fun z:WT=>z.2.2.2.1) t))
 ·exact (zxn x0 x1 x21 x23 x24 x25 x26 x27 _ _ _ _ _ _ _ _ _ rfl rfl rfl rfl rfl rfl rfl rfl rfl).trans ((zxt .. ).trans (congrArg (fun z:WT=>z.2.2.2.2) t))
 ·exact (zxo x0 x1 x21 x23 x24 x25 x26 x27 _ _ _ _ _ _ _ _ _ rfl rfl rfl rfl rfl rfl rfl rfl rfl).trans ((zxu .. ).trans s)
theorem zsW {c x:Bool} (l:List (Bool×Bool)) (h:c=true→x=true):ow (l++[(c,true)]) x=true:=by
 cases c with
 | true=>rw [h rfl];unfold ow;simp
 | false=>unfold ow;simp
theorem zwH (x0:List DV) (x1 x21:Int) (x23 x24:List DV) (x25 x26 x27:Int):p13 x0 x1 x21 x23 x24 x25 x26 x27=true:=by
 unfold p13
 simp only [zwy]
 have k:∀ (u:Bool) (b:List DV) (a:Int),(!(u||(!zbh a 8)))=true→p14 b 1 a 8=true:=fun u b a h=>by
  cases h2:zbh a 8 with
  | true=>exact (zj2 b a h2).1
  | false=>rw [h2] at h;simp at h
 have o1:∀ (x y c z:Bool),(c=true→z=true)→ow [(x,true),(y,true),(c,true)] z=true:=fun x y c z h=>zsW [(x,true),(y,true)] h
 have o2:∀ (x c z:Bool),(c=true→z=true)→ow [(x,true),(c,true)] z=true:=fun x c z h=>zsW [(x,true)] h
 simp only [List.all_cons,List.all_nil,id_eq,Bool.and_true,za0,o1 _ _ _ _ (k _ _ _),o2 _ _ _ (k _ _ _),Bool.and_self]
end Go.Proofs.YtedoffkaehcnmaaDoor
namespace Go.Proofs.YtedoffkaehcnmaaDoor
open Go Go.Sx
set_option maxRecDepth 100000
theorem zk4 {α:Type} {x33 x39 x52 x67 x75 x81 x74 x118 x133 x141 x147 x140 x193 x208 x215 x221:Bool} {no sg f2 p2 v2 f1 p1 v1 f0 p0 v0 r:α}
  (h:tree x33 x39 x52 x67 x75 x81 x74 x118 x133 x141 x147 x140 x193 x208 x215 x221 no sg f2 p2 v2 f1 p1 v1 f0 p0 v0=r) :
  (x33=false∧r=no)∨(x33=true∧(r=sg∨r=f2∨r=p2∨r=f1∨r=p1∨r=f0∨r=p0)) ∨
  ((x33=true∧x39=true∧x52=true∧x67=true∧x75=true∧x81=true)∧r=v2) ∨
  ((x33=true∧x39=true∧x52=true∧x67=true∧x75=false∧x74=true)∧(x118=true∧x133=true∧x141=true∧x147=true)∧r=v1) ∨
  ((x33=true∧x39=true∧x52=true∧x67=true∧x75=false∧x74=true)∧(x118=true∧x133=true∧x141=false∧x140=true)∧(x193=true∧x208=true∧x215=true∧x221=true)∧r=v0):=by
 subst h
 cases x33
 ·exact .inl ⟨rfl,rfl⟩
 refine .inr ?_
 cases x39
 ·exact .inl ⟨rfl,.inl rfl⟩
 cases x52
 ·exact .inl ⟨rfl,.inr (.inl rfl)⟩
 cases x67
 ·exact .inl ⟨rfl,.inr (.inr (.inl rfl))⟩
 cases x75
 ·cases x74
  ·exact .inl ⟨rfl,.inr (.inr (.inl rfl))⟩
  cases x118
  ·exact .inl ⟨rfl,.inr (.inr (.inr (.inl rfl)))⟩
  cases x133
  ·exact .inl ⟨rfl,.inr (.inr (.inr (.inr (.inl rfl))))⟩
  cases x141
  ·cases x140
   ·exact .inl ⟨rfl,.inr (.inr (.inr (.inr (.inl rfl))))⟩
   cases x193
   ·exact .inl ⟨rfl,.inr (.inr (.inr (.inr (.inr (.inl rfl)))))⟩
   cases x208
   ·exact .inl ⟨rfl,.inr (.inr (.inr (.inr (.inr (.inr rfl)))))⟩
   cases x215
   ·exact .inl ⟨rfl,.inr (.inr (.inr (.inr (.inr (.inr rfl)))))⟩
   cases x221
   ·exact .inl ⟨rfl,.inr (.inr (.inr (.inr (.inr (.inr rfl)))))⟩
   ·exact .inr (.inr (.inr ⟨⟨rfl,rfl,rfl,rfl,rfl,rfl⟩,⟨rfl,rfl,rfl,rfl⟩,⟨rfl,rfl,rfl,rfl⟩,rfl⟩))
  ·cases x147
   ·exact .inl ⟨rfl,.inr (.inr (.inr (.inr (.inl rfl))))⟩
   ·exact .inr (.inr (.inl ⟨⟨rfl,rfl,rfl,rfl,rfl,rfl⟩,⟨rfl,rfl,rfl,rfl⟩,rfl⟩))
 ·cases x81
  ·exact .inl ⟨rfl,.inr (.inr (.inl rfl))⟩
  ·exact .inr (.inl ⟨⟨rfl,rfl,rfl,rfl,rfl,rfl⟩,rfl⟩)
theorem zo1 {al:Int→Bool} {m e:Int} (h:alF al m e=true):al e=true∧zaf .u64 (tbF e) m=0:=by
 unfold alF at h
 cases h1:al e with
 | false=>rw [h1] at h;simp at h
 | true =>
  rw [h1] at h
  refine ⟨rfl,?_⟩
  simpa using h
theorem ztR (ck:Int→Bool) (en:Int→Int) (al:Int→Bool) (pg fl:Int) (on sg:Bool) (t a q2 q1 q0 o2 o1 o0:Int) :
  (on=false∧WR ck en al pg fl on sg t a q2 q1 q0 o2 o1 o0=(a,-1,0,0,0)) ∨
  (∃ c,(c=pg∨c=fl)∧WR ck en al pg fl on sg t a q2 q1 q0 o2 o1 o0=(0,0,0,0,c)) ∨
  (∃ e f,zaf .u64 (tbF e) 262143=0∧WR ck en al pg fl on sg t a q2 q1 q0 o2 o1 o0=(vaF e o2,2,e,f,0) ∧
   ∀ b r1 r0 w2 w1 w0,WR ck en al pg fl on sg t b q2 r1 r0 w2 w1 w0=(vaF e w2,2,e,f,0)) ∨
  (∃ e f,zaf .u64 (tbF e) 511=0∧WR ck en al pg fl on sg t a q2 q1 q0 o2 o1 o0=(vaF e o1,1,e,f,0) ∧
   ∀ b r0 w2 w1 w0,WR ck en al pg fl on sg t b q2 q1 r0 w2 w1 w0=(vaF e w1,1,e,f,0)) ∨
  (∃ e f,WR ck en al pg fl on sg t a q2 q1 q0 o2 o1 o0=(vaF e o0,0,e,f,0) ∧
   ∀ b w2 w1 w0,WR ck en al pg fl on sg t b q2 q1 q0 w2 w1 w0=(vaF e w0,0,e,f,0)):=by
 rcases zk4 (r:=WR ck en al pg fl on sg t a q2 q1 q0 o2 o1 o0) rfl with h | h | h | h | h
 ·exact .inl h
 ·refine .inr (.inl ?_)
  rcases h.2 with h | h | h | h | h | h | h
  ·exact ⟨_,.inl rfl,h⟩
  ·exact ⟨_,.inr rfl,h⟩
  ·exact ⟨_,.inl rfl,h⟩
  ·exact ⟨_,.inr rfl,h⟩
  ·exact ⟨_,.inl rfl,h⟩
  ·exact ⟨_,.inr rfl,h⟩
  ·exact ⟨_,.inl rfl,h⟩
 ·obtain ⟨⟨a1,a2,a3,a4,a5,a6⟩,h⟩:=h
  refine .inr (.inr (.inl ⟨_,_,(zo1 a6).2,h,fun b r1 r0 w2 w1 w0=>?_⟩))
  unfold WR
  extract_lets -merge c2 d2 c1 d1 c0 d0
  rw [a1,a2,show ck c2=true from a3,show okR true d2=true from a4,show lfF d2=true from a5,show alF al 262143 d2=true from a6]
  rfl
 ·obtain ⟨⟨a1,a2,a3,a4,a5,a6⟩,⟨b1,b2,b3,b4⟩,h⟩:=h
  refine .inr (.inr (.inr (.inl ⟨_,_,(zo1 b4).2,h,fun b r0 w2 w1 w0=>?_⟩)))
  unfold WR
  extract_lets -merge c2 d2 c1 d1 c0 d0
  rw [a1,a2,show ck c2=true from a3,show okR true d2=true from a4,show lfF d2=false from a5,show nbF d2=true from a6,
   show ck c1=true from b1,show okR true d1=true from b2,show lfF d1=true from b3,show alF al 511 d1=true from b4]
  rfl
 ·obtain ⟨⟨a1,a2,a3,a4,a5,a6⟩,⟨b1,b2,b3,b4⟩,⟨e1,e2,e3,e4⟩,h⟩:=h
  refine .inr (.inr (.inr (.inr ⟨_,_,h,fun b w2 w1 w0=>?_⟩)))
  unfold WR
  extract_lets -merge c2 d2 c1 d1 c0 d0
  rw [a1,a2,show ck c2=true from a3,show okR true d2=true from a4,show lfF d2=false from a5,show nbF d2=true from a6,
   show ck c1=true from b1,show okR true d1=true from b2,show lfF d1=false from b3,show nbF d1=true from b4,
   show ck c0=true from e1,show okR true d0=true from e2,show lfF d0=true from e3,show alF al 0 d0=true from e4]
  rfl
theorem zwI (k:Int):zf6 k=bif (bif k==0 then false else !(bif k==2 then k==2 else k==3)) then 5 else bif k==0 then 1 else 7:=by kernel_rfl
theorem zwJ (k:Int):zcg k=bif (bif k==0 then false else !(bif k==2 then k==2 else k==3)) then 13 else bif k==0 then 12 else 15:=by kernel_rfl
theorem zvu (k:Int):(zcg k≠0∧zcg k<16)∧(zf6 k≠0∧zf6 k<16):=by
 rw [zwI,zwJ]
 generalize (k==0)=a
 generalize (k==2)=b
 generalize (k==3)=c
 cases a<;>cases b<;>cases c<;>decide
theorem zo2 (x:Int):ishl .u64 x 12=IntKind.u64.wrap (x*4096):=by
 unfold ishl
 show IntKind.u64.wrap (x*2^12)=_
 rfl
theorem zwK (e:Int):0≤tbF e∧tbF e<17592186044416:=by
 show 0≤IntKind.wrap .u64 ((BitVec.ofInt 64 (ishr .u64 e 10) &&& BitVec.ofInt 64 17592186044415).toNat:Int)∧IntKind.wrap .u64 ((BitVec.ofInt 64 (ishr .u64 e 10) &&& BitVec.ofInt 64 17592186044415).toNat:Int)<_
 rw [BitVec.toNat_and,zdi]
 have:(BitVec.ofInt 64 (ishr .u64 e 10)).toNat &&& (BitVec.ofInt 64 17592186044415).toNat≤17592186044415:=Nat.and_le_right
 omega
theorem zwL {e o:Int} (h0:0≤o) (h1:o<1073741824):vaF e o=tbF e*4096+o:=by
 obtain ⟨a,b⟩:=zwK e
 unfold vaF
 rw [zo2,zch (n:=tbF e*4096) (by omega) (by omega),zch (by omega) (by omega)]
theorem znq {h s p:Int} (k:Nat) (q:Nat) (hh:h=((2^k*q:Nat):Int)) (h1:h<18446744073709551616) (s0:0≤s) (s1:s<p) (hp:p=((2^k:Nat):Int)) (hk:k≤64):ilor .u64 h s=h+s:=by
 obtain ⟨n,rfl⟩:=zf7 s0
 have hn:n<2^k:=by omega
 have:2^k≤2^64:=Nat.pow_le_pow_right (by decide) hk
 rw [hh,zum (by omega) (by omega)]
 have e:=zmc (k:=k) (r:=0) (s:=n) (Nat.two_pow_pos k) hn q 0
 rw [Nat.add_zero,Nat.mul_zero,Nat.zero_add,Nat.or_zero,Nat.zero_or] at e
 rw [e]
 omega
end Go.Proofs.YtedoffkaehcnmaaDoor
namespace Go.Proofs.YtedoffkaehcnmaaDoor
open Go Go.Sx
set_option maxRecDepth 100000
def acc (g:Nat→Int):Nat→Int→Int
 | 0,x=>x
 | k+1,x=>acc g k (ilor .u64 (ishl .u64 x 8) (IntKind.wrap .u64 (g k)))
noncomputable def byt (m:List DV) (a:Int) (k:Nat):Int:=ramAt m (IntKind.wrap .u64 (a+IntKind.wrap .u64 (k:Int)))
theorem znr (a:Int) (m:List DV):∀ (k:Nat) (x7:Int),k≤8→zcC a m x7 ((k:Int)-1)=some [.i 0,.i (acc (byt m a) k x7),.i (-1)]
 | 0,x7,_=>by
  unfold zcC
  rw [zbY (by show zd4 a m x7 (((0:Nat):Int)-1)=true;unfold zd4;simp [ow]) (by show zd5 a m x7 (((0:Nat):Int)-1)=false;unfold zd5;simp)]
  rfl
 | k+1,x7,h=>by
  have hk:(((k+1:Nat):Int)-1)=(k:Int):=by omega
  unfold zcC
  rw [hk]
  have hw:zd4 a m x7 (k:Int)=true:=by
   unfold zd4
   extract_lets -merge x9 x11 x12 x13
   have h13:x13=true:=by
    show in64 x12=true
    obtain ⟨u,v⟩:0≤x12∧x12<18446744073709551616:=zci _
    simp only [in64,Bool.and_eq_true,decide_eq_true_eq]
    omega
   simp only [List.all_cons,List.all_nil,id_eq,za0 h13,Bool.and_self]
  have hc:zd5 a m x7 (k:Int)=true:=by
   unfold zd5
   simp
  rw [zbX (show zjE [.i a,.l m,.i x7,.i k]=true from hw) (show zjF [.i a,.l m,.i x7,.i k]=true from hc)]
  have hn:zjG [.i a,.l m,.i x7,.i k]=[.i a,.l m,.i (ilor .u64 (ishl .u64 x7 8) (IntKind.wrap .u64 (byt m a k))),.i ((k:Int)-1)]:=by
   show [DV.i a,.l m,.i (zeU a m x7 k),.i (zeV a m x7 k)]=_
   have:zeV a m x7 k=(k:Int)-1:=by
    show IntKind.wrap .i64 ((k:Int)-1)=_
    rw [IntKind.wrap_i64]
    omega
   rw [this]
   rfl
  rw [hn]
  have ih:=znr a m k (ilor .u64 (ishl .u64 x7 8) (IntKind.wrap .u64 (byt m a k))) (by omega)
  unfold zcC at ih
  exact ih
theorem ztS (m:List DV) (a:Int) (h:zeT a 8=true):zjH m a 8=acc (byt m a) 8 0:=by
 unfold zjH
 have e:zgR a m 0 (IntKind.wrap .i64 (8-1))=acc (byt m a) 8 0:=by
  rw [zaI (by omega) (by omega)]
  unfold zgR
  have:=znr a m 8 0 (by omega)
  rw [show ((8-1:Int))=(((8:Nat):Int)-1) from rfl,this]
  rfl
 simp only [h,e]
 rfl
theorem zpQ {g h:Nat→Int} : ∀ (k:Nat) (x:Int),(∀ j,j<k→g j=h j)→acc g k x=acc h k x
 | 0,_,_=>rfl
 | k+1,x,e=>by
  unfold acc
  rw [e k (by omega)]
  exact zpQ k _ fun j hj=>e j (by omega)
theorem zwM (x:Int):ishl .u64 x 8=IntKind.u64.wrap (x*256):=by
 unfold ishl
 show IntKind.u64.wrap (x*2^8)=_
 rfl
theorem ztT {x b:Int} (h0:0≤x) (h1:x<72057594037927936) (b0:0≤b) (b1:b<256):ilor .u64 (ishl .u64 x 8) (IntKind.wrap .u64 b)=x*256+b:=by
 rw [zwM,zch (n:=x*256) (by omega) (by omega),zch b0 (by omega)]
 obtain ⟨n,rfl⟩:=zf7 h0
 obtain ⟨c,rfl⟩:=zf7 b0
 have e:((n:Int)*256)=((n*256:Nat):Int):=by omega
 rw [e,zum (by omega) (by omega)]
 have:=zmc (k:=8) (r:=0) (s:=c) (by decide) (show c<2^8 by omega) n 0
 rw [Nat.add_zero,Nat.mul_zero,Nat.zero_add,Nat.or_zero,Nat.zero_or] at this
 rw [show n*256=2^8*n by omega,this]
 omega
theorem zvv (v:Int) (h0:0≤v) (h1:v<18446744073709551616) {g:Nat→Int} (hg:∀ j,j<8→g j=v/((256^j:Nat):Int)%256):acc g 8 0=v:=by
 have e:∀ j,j<8→∀ x,x=v/((256^(j+1):Nat):Int)→ilor .u64 (ishl .u64 x 8) (IntKind.wrap .u64 (g j))=v/((256^j:Nat):Int):=fun j hj x hx=>by
  have hp:(0:Int)<((256^j:Nat):Int):=Int.natCast_pos.2 (Nat.pow_pos (by decide))
  have hd:v/((256^(j+1):Nat):Int)=v/((256^j:Nat):Int)/256:=by
   rw [Int.ediv_ediv_of_nonneg (Int.le_of_lt hp),Nat.pow_succ,Int.natCast_mul]
   rfl
  have hq0:0≤v/((256^j:Nat):Int):=Int.ediv_nonneg h0 (Int.le_of_lt hp)
  have hq1:v/((256^j:Nat):Int)<18446744073709551616:=Int.lt_of_le_of_lt (Int.ediv_le_self _ h0) h1
  rw [hx,hd,hg j hj]
  generalize v/((256^j:Nat):Int)=q at *
  rw [ztT (by omega) (by omega) (by omega) (by omega)]
  omega
 have all:∀ k,k≤8→acc g k (v/((256^k:Nat):Int))=v:=fun k=>by
  induction k with
  | zero=>intro _;show v/1=v;exact Int.ediv_one v
  | succ k ih =>
   intro hk
   show acc g k (ilor .u64 (ishl .u64 (v/((256^(k+1):Nat):Int)) 8) (IntKind.wrap .u64 (g k)))=v
   rw [e k (by omega) _ rfl]
   exact ih (by omega)
 have z:v/((256^8:Nat):Int)=0:=Int.ediv_eq_zero_of_lt h0 (by rw [show ((256^8:Nat):Int)=18446744073709551616 by decide];exact h1)
 have:=all 8 (by decide)
 rw [z] at this
 exact this
theorem zsX (n:Int):in64 (IntKind.wrap .u64 n)=true:=by
 obtain ⟨h1,h2⟩:=zci n
 simp only [in64,Bool.and_eq_true,decide_eq_true_eq]
 omega
noncomputable def zk5 (v j:Int):Int:=IntKind.wrap .u8 (ishr .u64 v (8*j))
theorem zpR (n:Nat) (a v:Int) (hn:n≤8) (ha:0≤a) (ha2:a<9223372036854775808):∀ (j i:Nat) (m:List DV),i+j=n →
  ∃ m',zdp n a v i m=some [.i 0,.i n,.l m']∧∀ A:Int,ramAt m' A=if a+i≤A∧A<a+n then zk5 v (A-a) else ramAt m A
 | 0,i,m,h=>by
  have hi:i=n:=by omega
  subst hi
  refine ⟨m,?_,fun A=>by rw [if_neg (by omega)]⟩
  unfold zdp
  rw [zbY (by show zjI (i:Int) a v (i:Int) m=true;unfold zjI;simp [ow]) (by show zjJ (i:Int) a v (i:Int) m=false;unfold zjJ;simp)]
  rfl
 | j+1,i,m,h=>by
  have hlt:(i:Int)<(n:Int):=by omega
  have e:IntKind.wrap .i64 (8*(i:Int))=8*(i:Int):=zaI (by omega) (by omega)
  have hw:zjI (n:Int) a v (i:Int) m=true:=by
   unfold zjI
   have e2:decide (8*(i:Int)≥0)=true:=decide_eq_true (by omega)
   simp only [p38,zsX,e,e2]
   simp [ow]
  have hc:zjJ (n:Int) a v (i:Int) m=true:=by
   unfold zjJ
   simp [hlt]
  unfold zdp
  rw [zbX (show zoE [.i n,.i a,.i v,.i i,.l m]=true from hw) (show zoF [.i n,.i a,.i v,.i i,.l m]=true from hc)]
  have hx:zoG [.i n,.i a,.i v,.i i,.l m]=[.i n,.i a,.i v,.i ((i+1:Nat):Int),.l (zc5 m (a+i) (zk5 v i))]:=by
   show [DV.i n,.i a,.i v,.i (zjK n a v i m),.l (zc5 m (IntKind.wrap .u64 (a+IntKind.wrap .u64 i)) (IntKind.wrap .u8 (ishr .u64 v (IntKind.wrap .i64 (8*(i:Int))))))]=_
   have e3:zjK n a v i m=((i+1:Nat):Int):=by
    show IntKind.wrap .i64 ((i:Int)+1)=_
    rw [zaI (by omega) (by omega)]
    rfl
   rw [e3,e,zbK (n:=(i:Int)) (by omega) (by omega),zbK (n:=a+(i:Int)) (by omega) (by omega)]
   rfl
  rw [hx]
  obtain ⟨m',h1,h2⟩:=zpR n a v hn ha ha2 j (i+1) (zc5 m (a+i) (zk5 v i)) (by omega)
  unfold zdp at h1
  refine ⟨m',h1,fun A=>?_⟩
  rw [h2,zgq]
  by_cases hA:a+i=A
  ·subst hA
   rw [if_neg (by omega),if_pos rfl,if_pos (by omega),show a+(i:Int)-a=i from by omega]
  ·rw [if_neg hA]
   by_cases hB:a+((i+1:Nat):Int)≤A∧A<a+n
   ·rw [if_pos hB,if_pos (by omega)]
   ·rw [if_neg hB,if_neg (by omega)]
theorem zsY (v:Int) (j:Nat) (hj:j<8):zk5 v (j:Int)=v/((256^j:Nat):Int)%256:=by
 unfold zk5
 have e:(8:Int)*(j:Int)=((8*j:Nat):Int):=by omega
 rw [e,zej (8*j) (by omega) rfl,zvp,Nat.pow_mul]
theorem zuo {a:Int} (h:zeT a 8=true):2147483648≤a∧a+8≤2148532224:=by
 unfold zeT at h
 simp at h
 have:IntKind.wrap .u64 (2148532224-IntKind.wrap .u64 8)=2148532216:=by decide
 rw [this] at h
 omega
def ztU (m m':List DV) (a v:Int):Prop:=∀ A:Int,ramAt m' A=if a≤A∧A<a+8 then zk5 v (A-a) else ramAt m A
theorem zsZ (m:List DV) {a:Int} (h:zeT a 8=true) {j:Nat} (hj:j<8):byt m a j=ramAt m (a+j):=by
 have:=zuo h
 unfold byt
 rw [zbK (n:=(j:Int)) (by omega) (by omega),zbK (by omega) (by omega)]
theorem zwN {m m':List DV} {a v:Int} (hp:ztU m m' a v) (h:zeT a 8=true) (h0:0≤v) (h1:v<18446744073709551616):zjH m' a 8=v:=by
 rw [ztS m' a h]
 refine zvv v h0 h1 fun j hj=>?_
 rw [zsZ m' h hj,hp,if_pos (by omega),show a+(j:Int)-a=(j:Int) by omega]
 exact zsY v j hj
theorem zvw {m m':List DV} {a v b:Int} (hp:ztU m m' a v) (h:zeT b 8=true) (hb:b+8≤a∨a+8≤b):zjH m' b 8=zjH m b 8:=by
 rw [ztS m' b h,ztS m b h]
 refine zpQ 8 0 fun j hj=>?_
 rw [zsZ m' h hj,zsZ m h hj,hp,if_neg (by omega)]
end Go.Proofs.YtedoffkaehcnmaaDoor
namespace Go.Proofs.YtedoffkaehcnmaaDoor
open Go Go.Sx
set_option maxRecDepth 100000
theorem zvx (x y:Int):0≤ilor .u64 x y∧ilor .u64 x y<18446744073709551616:=zci _
theorem zup (g:Nat→Int):∀ (k:Nat) (x:Int),0≤x∧x<18446744073709551616→0≤acc g k x∧acc g k x<18446744073709551616
 | 0,_,h=>h
 | k+1,_,_=>zup g k _ (zvx _ _)
theorem zxv (m:List DV) {a:Int} (h:zeT a 8=true):0≤zjH m a 8∧zjH m a 8<18446744073709551616:=by
 rw [ztS m a h]
 exact zup _ 8 0 ⟨by decide,by decide⟩
noncomputable def fin1 (al:Int→Bool) (pg m o n f e:Int):WT :=
 bif !okR true e then (0,0,0,0,pg) else bif alF al m e then (vaF e o,n,e,f,0) else (0,0,0,0,pg)
theorem zvy {ck:Int→Bool} {en:Int→Int} {al:Int→Bool} {pg fl:Int} {on sg:Bool} {t a q2 q1 q0 o2 o1 o0 v n e f:Int} (hp:pg≠0) (hf:fl≠0) (hn:0≤n)
  (h:WR ck en al pg fl on sg t a q2 q1 q0 o2 o1 o0=(v,n,e,f,0)) :
  ∃ m o,(n=2∧m=262143∧o=o2∨n=1∧m=511∧o=o1∨n=0∧m=0∧o=o0)∧ck f=true∧e=en f∧okR true e=true∧lfF e=true∧alF al m e=true∧v=vaF e o∧(∃ u w,f=ptq u w) ∧
   ∀ en':Int→Int,(∀ x,ck x=true→(∃ u w,x=ptq u w)→x≠f→en' x=en x)→lfF (en' f)=true→WR ck en' al pg fl on sg t a q2 q1 q0 o2 o1 o0=fin1 al pg m o n f (en' f):=by
 rcases zk4 h with k | k | k | k | k
 ·have:=congrArg (fun z:WT=>z.2.1) k.2
  simp at this
  omega
 ·rcases k.2 with k | k | k | k | k | k | k <;>
  ·have:=congrArg (fun z:WT=>z.2.2.2.2) k
   simp at this
   first | exact absurd this.symm hp | exact absurd this.symm hf
 ·obtain ⟨⟨a1,a2,a3,a4,a5,a6⟩,k⟩:=k
  simp only [Prod.mk.injEq] at k
  obtain ⟨k1,k2,k3,k4,_⟩:=k
  subst k1 k2 k3 k4
  refine ⟨262143,o2,.inl ⟨rfl,rfl,rfl⟩,a3,rfl,a4,a5,a6,rfl,⟨_,_,rfl⟩,fun en' _ hl=>?_⟩
  unfold WR fin1
  extract_lets -merge c2 d2 c1 d1 c0 d0
  rw [a1,a2,show ck c2=true from a3,show lfF d2=true from hl]
  show _=bif !okR true d2 then _ else bif alF al 262143 d2 then (vaF d2 o2,2,d2,c2,0) else _
  generalize okR true d2=b1
  generalize alF al 262143 d2=b2
  cases b1<;>cases b2<;>rfl
 ·obtain ⟨⟨a1,a2,a3,a4,a5,a6⟩,⟨b1,b2,b3,b4⟩,k⟩:=k
  simp only [Prod.mk.injEq] at k
  obtain ⟨k1,k2,k3,k4,_⟩:=k
  subst k1 k2 k3 k4
  refine ⟨511,o1,.inr (.inl ⟨rfl,rfl,rfl⟩),b1,rfl,b2,b3,b4,rfl,⟨_,_,rfl⟩,fun en' he hl=>?_⟩
  have hd:en' (ptq t q2)=en (ptq t q2):=he _ a3 ⟨_,_,rfl⟩ fun hh=>by rw [←hh,a5] at b3;cases b3
  unfold WR fin1
  extract_lets -merge c2 d2 c1 d1 c0 d0
  have hd2:d2=en (ptq t q2):=hd
  clear_value d2
  subst hd2
  rw [a1,a2,show ck c2=true from a3,a4,a5,a6,show ck c1=true from b1,show lfF d1=true from hl]
  show _=bif !okR true d1 then _ else bif alF al 511 d1 then (vaF d1 o1,1,d1,c1,0) else _
  generalize okR true d1=b1
  generalize alF al 511 d1=b2
  cases b1<;>cases b2<;>rfl
 ·obtain ⟨⟨a1,a2,a3,a4,a5,a6⟩,⟨b1,b2,b3,b4⟩,⟨g1,g2,g3,g4⟩,k⟩:=k
  simp only [Prod.mk.injEq] at k
  obtain ⟨k1,k2,k3,k4,_⟩:=k
  subst k1 k2 k3 k4
  refine ⟨0,o0,.inr (.inr ⟨rfl,rfl,rfl⟩),g1,rfl,g2,g3,g4,rfl,⟨_,_,rfl⟩,fun en' he hl=>?_⟩
  have hd:en' (ptq t q2)=en (ptq t q2):=he _ a3 ⟨_,_,rfl⟩ fun hh=>by rw [←hh,a5] at g3;cases g3
  have hb:en' (ptq (tbF (en (ptq t q2))) q1)=en (ptq (tbF (en (ptq t q2))) q1):=he _ b1 ⟨_,_,rfl⟩ fun hh=>by rw [←hh,b3] at g3;cases g3
  unfold WR fin1
  extract_lets -merge c2 d2 c1 d1 c0 d0
  have hd2:d2=en (ptq t q2):=hd
  clear_value d2
  subst hd2
  have hd1:d1=en (ptq (tbF (en (ptq t q2))) q1):=hb
  clear_value d1
  subst hd1
  rw [a1,a2,show ck c2=true from a3,a4,a5,a6,show ck c1=true from b1,b2,b3,b4,show ck c0=true from g1,show lfF d0=true from hl]
  show _=bif !okR true d0 then _ else bif alF al 0 d0 then (vaF d0 o0,0,d0,c0,0) else _
  generalize okR true d0=b1
  generalize alF al 0 d0=b2
  cases b1<;>cases b2<;>rfl
end Go.Proofs.YtedoffkaehcnmaaDoor
namespace Go.Proofs.YtedoffkaehcnmaaDoor
open Go Go.Sx
set_option maxRecDepth 100000
theorem zdj {e c:Int} (h0:0≤e) (h1:e<18446744073709551616) (c0:0≤c) (c1:c<1024):zaf .u64 e c=zaf .u64 (e%1024) c:=by
 obtain ⟨n,rfl⟩:=zf7 h0
 obtain ⟨d,rfl⟩:=zf7 c0
 rw [show ((n:Int)%1024)=((n%1024:Nat):Int) from rfl,zo0 (by omega) (by omega),zo0 (by omega) (by omega)]
 have:=znn (k:=10) (r:=n%2^10) (s:=d) (mod_lt n 10) (by omega) (n/2^10) 0
 rw [zgX,Nat.mul_zero,Nat.zero_add,Nat.and_zero,Nat.mul_zero,Nat.zero_add] at this
 rw [this]
theorem clr1:∀ r:Fin 1024,zaf .u64 (((r.val:Nat):Int)-((r.val:Nat):Int)%2) 1=0∧zaf .u64 (((r.val:Nat):Int)-((r.val:Nat):Int)%2) 10=zaf .u64 ((r.val:Nat):Int) 10:=by decide +kernel
theorem zxw:∀ r:Fin 1024,zaf .u64 (((r.val:Nat):Int)-64*(((r.val:Nat):Int)/64%2)) 64=0∧zaf .u64 (((r.val:Nat):Int)-64*(((r.val:Nat):Int)/64%2)) 10=zaf .u64 ((r.val:Nat):Int) 10:=by decide +kernel
theorem zs0 {e:Int} (_h:0≤e):∃ r:Fin 1024,e%1024=((r.val:Nat):Int):=⟨⟨(e%1024).toNat,by omega⟩,by show _=(((e%1024).toNat:Nat):Int);omega⟩
theorem ent1 {e:Int} (h0:0≤e) (h1:e<18446744073709551616):okR true (zar .u64 e 1)=false∧lfF (zar .u64 e 1)=lfF e:=by
 have hn:zar .u64 e 1=e-1*(e/1%2):=zj0 h0 h1 0 (by decide) rfl
 obtain ⟨r,hr⟩:=zs0 h0
 obtain ⟨c1,c2⟩:=clr1 r
 have hm:(e-1*(e/1%2))%1024=((r.val:Nat):Int)-((r.val:Nat):Int)%2:=by rw [←hr];omega
 unfold okR lfF
 rw [hn,zdj (c:=1) (by omega) (by omega) (by decide) (by decide),hm,c1,zdj (c:=10) (by omega) (by omega) (by decide) (by decide),hm,c2,←hr,←zdj h0 h1 (by decide) (by decide)]
 exact ⟨by simp,rfl⟩
theorem zxx {x0 x24 x25 e:Int} (h:zaf .u64 e 64=0):zaC x0 x24 x25 e=false:=by
 unfold zaC
 simp only [h]
 simp
theorem zxy {x0 x24 x25 e:Int} (h0:0≤e) (h1:e<18446744073709551616):zaC x0 x24 x25 (zar .u64 e 64)=false∧lfF (zar .u64 e 64)=lfF e:=by
 have hn:zar .u64 e 64=e-64*(e/64%2):=zj0 h0 h1 6 (by decide) rfl
 obtain ⟨r,hr⟩:=zs0 h0
 obtain ⟨c1,c2⟩:=zxw r
 have hm:(e-64*(e/64%2))%1024=((r.val:Nat):Int)-64*(((r.val:Nat):Int)/64%2):=by rw [←hr];omega
 refine ⟨zxx ?_,?_⟩
 ·rw [hn,zdj (c:=64) (by omega) (by omega) (by decide) (by decide),hm,c1]
 ·unfold lfF
  rw [hn,zdj (c:=10) (by omega) (by omega) (by decide) (by decide),hm,c2,←hr,←zdj h0 h1 (by decide) (by decide)]
theorem zvz {x0 x24 x25 e e':Int} (h:∀ c,0≤c→c<1024→zaf .u64 e' c=zaf .u64 e c):zaC x0 x24 x25 e'=zaC x0 x24 x25 e:=by
 unfold zaC
 simp only [h 2 (by decide) (by decide),h 4 (by decide) (by decide),h 8 (by decide) (by decide),h 16 (by decide) (by decide),h 64 (by decide) (by decide),h 128 (by decide) (by decide)]
theorem zwO {e:Int} : tbF e=e/1024%17592186044416∨¬ (0≤e∧e<18446744073709551616):=by
 by_cases h:0≤e∧e<18446744073709551616
 ·refine .inl ?_
  have hs:ishr .u64 e 10=e/1024:=zej 10 (by decide) rfl
  unfold tbF
  rw [hs]
  exact zcx (by omega) (by omega) 44 (by decide) rfl rfl
 ·exact .inr h
theorem ent3 {x0 x24 x25 e y:Int} (h0:0≤e) (h1:e<18446744073709551616) (y0:0≤y) (y1:y<18446744073709551616) (ok:okR true e=true) :
  ∃ z,ilor .u64 (ishl .u64 (zaf .u64 y 17592186044415) 10) (zaf .u64 e 1023)=z∧0≤z∧z<18014398509481984∧okR true z=true∧lfF z=lfF e∧zaC x0 x24 x25 z=zaC x0 x24 x25 e:=by
 have hy:zaf .u64 y 17592186044415=y%17592186044416:=zcx y0 y1 44 (by decide) rfl rfl
 have he:zaf .u64 e 1023=e%1024:=zcx h0 h1 10 (by decide) rfl rfl
 have hs:ishl .u64 (y%17592186044416) 10=IntKind.u64.wrap (y%17592186044416*1024):=by
  unfold ishl
  show IntKind.u64.wrap (y%17592186044416*2^10)=_
  rfl
 have hw:IntKind.u64.wrap (y%17592186044416*1024)=y%17592186044416*1024:=zch (by omega) (by omega)
 have ho:ilor .u64 (y%17592186044416*1024) (e%1024)=y%17592186044416*1024+e%1024:=znq 10 (y%17592186044416).toNat (by rw [show (((2:Nat)^10*(y%17592186044416).toNat:Nat):Int)=1024*(((y%17592186044416).toNat:Nat):Int) from Int.natCast_mul _ _];omega) (by omega) (by omega) (by omega) rfl (by decide)
 rw [hy,he,hs,hw,ho]
 have hl:∀ c,0≤c→c<1024→zaf .u64 (y%17592186044416*1024+e%1024) c=zaf .u64 e c:=fun c c0 c1=>by
  rw [zdj (by omega) (by omega) c0 c1,zdj h0 h1 c0 c1]
  congr 1
  omega
 refine ⟨_,rfl,by omega,by omega,?_,?_,zvz hl⟩
 ·have h54:ishr .u64 (y%17592186044416*1024+e%1024) 54=(y%17592186044416*1024+e%1024)/18014398509481984:=zej 54 (by decide) rfl
  unfold okR at ok ⊢
  rw [hl 1 (by decide) (by decide),hl 6 (by decide) (by decide),h54,show (y%17592186044416*1024+e%1024)/18014398509481984=0 by omega]
  generalize (zaf .u64 e 1==0)=a at ok ⊢
  generalize (zaf .u64 e 6==4)=b at ok ⊢
  cases a<;>cases b<;>simp_all
 ·unfold lfF
  rw [hl 10 (by decide) (by decide)]
theorem zwP (x:Int):zaf .u64 x 0=0:=by
 show IntKind.wrap .u64 ((BitVec.ofInt 64 x &&& BitVec.ofInt 64 0).toNat:Int)=0
 rw [show BitVec.ofInt 64 0=0#64 from rfl,BitVec.and_zero]
 rfl
theorem zvA {e o n m:Int} (h:n=2∧m=262143∧(0≤o∧o<1073741824)∨n=1∧m=511∧(0≤o∧o<2097152)∨n=0∧m=0∧(0≤o∧o<4096)) (ha:zaf .u64 (tbF e) m=0) :
  ishr .u64 (ishr .u64 (vaF e o) 12) (IntKind.wrap .i64 (9*n))=ishr .u64 (tbF e) (IntKind.wrap .i64 (9*n)):=by
 obtain ⟨t0,t1⟩:=zwK e
 have hv:vaF e o=tbF e*4096+o:=zwL (by omega) (by omega)
 rw [hv,show ishr .u64 (tbF e*4096+o) 12=(tbF e*4096+o)/4096 from zej 12 (by decide) rfl]
 rcases h with ⟨rfl,rfl,q⟩ | ⟨rfl,rfl,q⟩ | ⟨rfl,rfl,q⟩
 ·have hm:zaf .u64 (tbF e) 262143=tbF e%262144:=zcx t0 (by omega) 18 (by decide) rfl rfl
  rw [show IntKind.wrap .i64 (9*2)=((18:Nat):Int) by decide,zej 18 (by decide) rfl,zej 18 (by decide) rfl]
  rw [hm] at ha
  show _/262144=_/262144
  omega
 ·have hm:zaf .u64 (tbF e) 511=tbF e%512:=zcx t0 (by omega) 9 (by decide) rfl rfl
  rw [show IntKind.wrap .i64 (9*1)=((9:Nat):Int) by decide,zej 9 (by decide) rfl,zej 9 (by decide) rfl]
  rw [hm] at ha
  show _/512=_/512
  omega
 ·rw [show IntKind.wrap .i64 (9*0)=((0:Nat):Int) by decide,zej 0 (by decide) rfl,zej 0 (by decide) rfl]
  show _/1=_/1
  omega
end Go.Proofs.YtedoffkaehcnmaaDoor
namespace Go.Proofs.YtedoffkaehcnmaaDoor
open Go Go.Sx
set_option maxRecDepth 100000
theorem zwQ (m:List DV) (a v:Int) (h:zeT a 8=true):p36 m a 8 v=true∧ztU m (zqD m a 8 v) a v:=by
 have hp:=zuo h
 obtain ⟨m',e1,e2⟩:=zpR 8 a v (by omega) (by omega) (by omega) 8 0 m (by omega)
 have e1':zdp 8 a v 0 m=some [.i 0,.i 8,.l m']:=e1
 constructor
 ·unfold p36
  have e:zoH 8 a v 0 m=true:=by
   show (zdp 8 a v 0 m).isSome=true
   rw [e1']
   rfl
  simp only [h,e]
  simp [ow]
 ·have e:zqD m a 8 v=m':=by
   unfold zqD
   simp only [h,Bool.not_true,Bool.not_false,cond_true]
   unfold zjL
   rw [e1']
   rfl
  intro A
  rw [e,e2]
  rw [show a+((0:Nat):Int)=a from by omega]
  rfl
def zs1 (b:List DV) (m:List DV):List DV:=[.l m]++b.drop 1
theorem zvB (b:List DV) (hs:zbM b) (a v:Int) (h:zbh a 8=true):p15 b a 8 v=true∧∃ m m',b=zs1 b m∧zl7 b a 8 v=zs1 b m'∧ztU m m' a v:=by
 obtain ⟨m,c,p,u,n,e,f,rfl⟩:=hs
 obtain ⟨q1,q2⟩:=zwQ m a v h
 constructor
 ·unfold p15
  have e:p36 ((([DV.l m,.l c,.l p,.l u,.i n,.l e,.b f]:List DV).getD (Int.toNat 0*(1:Nat)+(0:Nat)) default).toL) a 8 v=true:=q1
  simp only [h,e,Bool.not_true]
  simp [ow]
 ·refine ⟨m,zqD m a 8 v,rfl,?_,q2⟩
  unfold zl7
  simp only [h,Bool.not_true,cond_false]
  rfl
end Go.Proofs.YtedoffkaehcnmaaDoor
namespace Go.Proofs.YtedoffkaehcnmaaDoor
open Go Go.Sx
set_option maxRecDepth 100000
def zfA (b b':List DV) (f w:Int):Prop:=zbM b'∧ent b' f=w∧∀ x,zbh x 8=true→(∃ u q,x=ptq u q)→x≠f→ent b' x=ent b x
theorem zfA.trans {b b1 b2:List DV} {f w w':Int} (h:zfA b b1 f w) (h':zfA b1 b2 f w'):zfA b b2 f w' :=
 ⟨h'.1,h'.2.1,fun x a c d=>(h'.2.2 x a c d).trans (h.2.2 x a c d)⟩
theorem zpS (b m:List DV) (hs:zbM b) (x:Int) (h:zbh x 8=true):ent (zs1 b m) x=zjH m x 8:=by
 obtain ⟨m0,c,p,u,n,e,f,rfl⟩:=hs
 unfold ent zbb
 simp only [h,Bool.not_true,cond_false]
 rfl
theorem zwR (u q:Int):ptq u q%8=0:=by
 unfold ptq
 rw [zo2,zdi,zdi,zdi]
 omega
theorem zns {b:List DV} (hs:zbM b) (m:List DV):zbM (zs1 b m):=by
 obtain ⟨m0,c,p,u,n,e,f,rfl⟩:=hs
 exact ⟨m,c,p,u,n,e,f,rfl⟩
theorem zea {b:List DV} (hs:zbM b) {f w:Int} (h:zbh f 8=true) (hf:∃ u q,f=ptq u q) (w0:0≤w) (w1:w<18446744073709551616):p15 b f 8 w=true∧zfA b (zl7 b f 8 w) f w:=by
 obtain ⟨q,m,m',e1,e2,e3⟩:=zvB b hs f w h
 refine ⟨q,?_,?_,?_⟩
 ·rw [e2];exact zns hs m'
 ·rw [e2,zpS b m' hs f h];exact zwN e3 h w0 w1
 ·intro x hx hp hn
  have hb:ent b x=zjH m x 8:=by
   have:=zpS b m hs x hx
   rw [←e1] at this
   exact this
  rw [e2,zpS b m' hs x hx,hb]
  obtain ⟨u1,q1,rfl⟩:=hp
  obtain ⟨u2,q2,rfl⟩:=hf
  have:=zwR u1 q1
  have:=zwR u2 q2
  exact zvw e3 hx (by omega)
theorem zwS {b:List DV} (hs:zbM b) {f:Int} (h:zbh f 8=true):0≤ent b f∧ent b f<18446744073709551616:=by
 obtain ⟨m,c,p,u,n,e,g,rfl⟩:=hs
 have:=zpS [.l m,.l c,.l p,.l u,.i n,.l e,.b g] m ⟨_,_,_,_,_,_,_,rfl⟩ f h
 have e1:zs1 [.l m,.l c,.l p,.l u,.i n,.l e,.b g] m=[.l m,.l c,.l p,.l u,.i n,.l e,.b g]:=rfl
 rw [e1] at this
 rw [this]
 exact zxv m h
theorem znt (b:List DV) (hs:zbM b) (x1 x21:Int) (x23 x24:List DV) (x25 x26 x:Int) (hx0:0≤x) (hx1:x<18446744073709551616) :
  (∃ c,c≠0∧WA b x1 x21 x23 x24 x25 x26 x=(0,0,0,0,c))∨WA b x1 x21 x23 x24 x25 x26 x=(x,-1,0,0,0) ∨
  ∃ n e f v,WA b x1 x21 x23 x24 x25 x26 x=(v,n,e,f,0)∧(n=2∨n=1∨n=0)∧zbh f 8=true∧(∃ u q,f=ptq u q)∧ent b f=e∧0≤e∧e<18446744073709551616∧zaC x1 x25 x26 e=true ∧
   ishr .u64 (ishr .u64 v 12) (IntKind.wrap .i64 (9*n))=ishr .u64 (zaf .u64 (ishr .u64 e 10) 17592186044415) (IntKind.wrap .i64 (9*n)) ∧
   (∀ b',zfA b b' f (zar .u64 e 1)→WA b' x1 x21 x23 x24 x25 x26 x=(0,0,0,0,zcg x26)) ∧
   (∀ b',zfA b b' f (zar .u64 e 64)→WA b' x1 x21 x23 x24 x25 x26 x=(0,0,0,0,zcg x26)) ∧
   (∀ b',zfA b b' f e→WA b' x1 x21 x23 x24 x25 x26 x=(v,n,e,f,0)) ∧
   (n=0→∀ y,0≤y→y<18446744073709551616→∃ z,ilor .u64 (ishl .u64 (zaf .u64 y 17592186044415) 10) (zaf .u64 e 1023)=z∧0≤z∧z<18446744073709551616 ∧
    ∀ b',zfA b b' f z→WA b' x1 x21 x23 x24 x25 x26 x=(ilor .u64 (ishl .u64 (ishr .u64 z 10) 12) (zaf .u64 x 4095),0,z,f,0)):=by
 obtain ⟨⟨p1,_⟩,⟨p2,_⟩⟩:=zvu x26
 rcases ztR (ckF x23 x24) (ent b) (zaC x1 x25 x26) (zcg x26) (zf6 x26) (sOn x25 x21) (sSg x) (zaf .u64 x21 17592186044415) x
  (ishr .u64 x 30) (ishr .u64 x 21) (ishr .u64 x 12) (zaf .u64 x 1073741823) (zaf .u64 x 2097151) (zaf .u64 x 4095) with h | h | h
 ·exact .inr (.inl h.2)
 ·obtain ⟨c,hc,h⟩:=h
  refine .inl ⟨c,?_,h⟩
  rcases hc with hc | hc
  ·rw [hc];exact p1
  ·rw [hc];exact p2
 ·refine .inr (.inr ?_)
  have hl:∃ n e f v,WA b x1 x21 x23 x24 x25 x26 x=(v,n,e,f,0)∧0≤n:=by
   rcases h with ⟨e,f,_,h,_⟩ | ⟨e,f,_,h,_⟩ | ⟨e,f,h,_⟩
   ·exact ⟨_,_,_,_,h,by decide⟩
   ·exact ⟨_,_,_,_,h,by decide⟩
   ·exact ⟨_,_,_,_,h,by decide⟩
  clear h
  obtain ⟨n,e,f,v,hw,hn⟩:=hl
  obtain ⟨m,o,hmo,hck,he,hok,hlf,hal,hv,hpt,hall⟩:=zvy p1 p2 hn hw
  have hf:=zgY hck
  obtain ⟨e0,e1⟩:=zwS hs hf
  rw [←he] at e0 e1
  obtain ⟨ha,hm⟩:=zo1 hal
  have hx30:zaf .u64 x 1073741823=x%1073741824:=zcx hx0 hx1 30 (by decide) rfl rfl
  have hx21:zaf .u64 x 2097151=x%2097152:=zcx hx0 hx1 21 (by decide) rfl rfl
  have hx12:zaf .u64 x 4095=x%4096:=zcx hx0 hx1 12 (by decide) rfl rfl
  have key:∀ b' w,zfA b b' f w→lfF w=true→WA b' x1 x21 x23 x24 x25 x26 x=fin1 (zaC x1 x25 x26) (zcg x26) m o n f w:=fun b' w hb hl=>by
   have:=hall (ent b') (fun x' c p d=>hb.2.2 x' (zgY c) p d) (by rw [hb.2.1];exact hl)
   rw [hb.2.1] at this
   exact this
  refine ⟨n,e,f,v,hw,?_,hf,hpt,he.symm,e0,e1,ha,?_,?_,?_,?_,?_⟩
  ·rcases hmo with q | q | q
   ·exact .inl q.1
   ·exact .inr (.inl q.1)
   ·exact .inr (.inr q.1)
  ·rw [hv]
   refine zvA (m:=m) ?_ hm
   rcases hmo with ⟨q1,q2,q3⟩ | ⟨q1,q2,q3⟩ | ⟨q1,q2,q3⟩
   ·exact .inl ⟨q1,q2,by rw [q3,hx30];omega⟩
   ·exact .inr (.inl ⟨q1,q2,by rw [q3,hx21];omega⟩)
   ·exact .inr (.inr ⟨q1,q2,by rw [q3,hx12];omega⟩)
  ·intro b' hb
   obtain ⟨k1,k2⟩:=ent1 e0 e1
   rw [key b' _ hb (k2.trans hlf)]
   unfold fin1
   rw [k1]
   rfl
  ·intro b' hb
   obtain ⟨k1,k2⟩:=zxy (x0:=x1) (x24:=x25) (x25:=x26) e0 e1
   rw [key b' _ hb (k2.trans hlf)]
   unfold fin1 alF
   rw [k1]
   simp
  ·intro b' hb
   rw [key b' _ hb hlf]
   unfold fin1
   rw [hok,hal,hv]
   rfl
  ·intro hn0 y y0 y1
   obtain ⟨z,hz,z0,z1,zk,zl,za⟩:=ent3 (x0:=x1) (x24:=x25) (x25:=x26) e0 e1 y0 y1 hok
   refine ⟨z,hz,z0,by omega,fun b' hb=>?_⟩
   rw [key b' _ hb (zl.trans hlf)]
   rcases hmo with ⟨q1,_,_⟩ | ⟨q1,_,_⟩ | ⟨_,q2,q3⟩
   ·omega
   ·omega
   ·have hal2:alF (zaC x1 x25 x26) m z=true:=by
     unfold alF
     rw [za,ha,q2,zwP]
     rfl
    unfold fin1
    rw [zk,hal2,hn0,q3,hx12]
    have hs:ishr .u64 z 10=z/1024:=zej 10 (by decide) rfl
    have ht:tbF z=z/1024:=by
     rcases zwO (e:=z) with k | k
     ·rw [k];omega
     ·omega
    have hsh:ishl .u64 (z/1024) 12=z/1024*4096:=by rw [zo2,zch (by omega) (by omega)]
    have ho:ilor .u64 (z/1024*4096) (x%4096)=z/1024*4096+x%4096:=znq 12 (z/1024).toNat (by rw [show (((2:Nat)^12*(z/1024).toNat:Nat):Int)=4096*(((z/1024).toNat:Nat):Int) from Int.natCast_mul _ _];omega) (by omega) (by omega) (by omega) rfl (by decide)
    rw [hs,hsh,ho,zwL (by omega) (by omega),ht]
    rfl
end Go.Proofs.YtedoffkaehcnmaaDoor
namespace Go.Sx
variable {P:Program} {I:World→Prop}
def Lf.plainG:Lf→Bool
 | .p _ _ | .gp _ _ | .alt _ _=>false
 | _=>true
def V.plainG:V→Bool
 | .s v=>v.cells.all Lf.plainG
 | .t l=>l.all fun v=>v.cells.all Lf.plainG
theorem Lf.plainG_good {ν:Nat→DV} {l:Lf} (h:l.plainG=true):l.good ν:=by
 cases l<;>first | trivial | cases h
theorem V.plainG_good {ν:Nat→DV} {v:V} (h:v.plainG=true):v.good ν:=by
 cases v with
 | s v=>exact fun l hl=>Lf.plainG_good (List.all_eq_true.1 h l hl)
 | t l=>exact fun v hv x hx=>Lf.plainG_good (List.all_eq_true.1 (List.all_eq_true.1 h v hv) x hx)
theorem allG {ν:Nat→DV} {l:List V} (h:l.all V.plainG=true):∀ v∈l,V.good ν v:=fun v hv=>V.plainG_good (List.all_eq_true.1 h v hv)
theorem zwT {sg:Sig} {v:List DV} (hn:sg.need=true) (h:v=[.b true,.b true]):(sg.need=true→(dget v 0).toB=true)∧(dget v (if sg.need then 1 else 0)).toB=true:=by
 subst h
 rw [hn]
 exact ⟨fun _=>rfl,rfl⟩
end Go.Sx
namespace Go.Sx
variable {P:Program} {I:World→Prop}
theorem FnOK.flatH {K:Nat} {f:FuncId} {sg sg':Sig} {G:List DV→List DV} (h:FnOK P I K f sg G) (pack:List DV→List DV) (tys:List Ty) {p:A→Bool} (hc:∀ {ν1 ν2:Nat→DV} (a:A),p a=true→a.den ν1=a.den ν2)
  (e1:sg'.hin=sg.hin) (i1:sg.hinI=sg.hin.map (Option.map (Blk.inst (zal 0 tys.length)))) (i2:sg'.hinI=sg.hinI) (ht:sg.hin.all (zao (Blk.tyOk p tys))=true)
  (eo:sg'.out=sg.out) (eh:sg'.hout=sg.hout) (et:sg'.ots=sg.ots) (en:sg'.need=sg.need)
  (hp:∀ ds:List DV,ds.length=sg'.nin→(pack ds).length=sg.nin∧(∀ v∈sg.insI,V.good (dget (pack ds)) v)∧(∀ ρ:Nat→Loc,sg'.insI.map (V.conc (dget ds) ρ)=sg.insI.map (V.conc (dget (pack ds)) ρ)) ∧
   ∀ (i:Nat) (t:Ty),tys[i]? = some t→t.eqAt (dget ds (0+i)) (dget (pack ds) (0+i))) :
  FnOK P I K f sg' (fun ds=>G (pack ds)):=by
 intro ds ρ w h1 h2 h3 h4 h5 _ h7
 obtain ⟨p1,p2,p3,p4⟩:=hp ds h2
 have o1:sg'.outI=sg.outI:=by unfold Sig.outI;rw [eo,et]
 have o2:sg'.houtI=sg.houtI:=by unfold Sig.houtI;rw [eh,et]
 rw [p3 ρ]
 rw [i2] at h5 h7
 have hr:HRel (callEnv sg.hinI ρ w) (dget (pack ds)) ρ sg.hinI w:=by
  rw [i1] at h7 ⊢
  exact HRel.inst hc (PEq.of_ids tys 0 p4) ht h7
 refine (h (pack ds) ρ w h1 p1 (by rw [←en];exact h3) h4 h5 p2 hr).mono fun e w' ⟨v,ρ',he,hc⟩=>⟨v,ρ',he,?_⟩
 have er:sg'.res (G (pack ds))=sg.res (G (pack ds)):=by unfold Sig.res;rw [en]
 obtain ⟨c1,c2,c3,c4,c5,c6⟩:=hc
 exact ⟨by rw [o1,er];exact c1,by rw [o1,er];exact c2,by rw [i2,o2,er];exact c3,by rw [i2,o2];exact c4,by rw [i2];exact c5,fun j hj hl=>c6 j (by rw [←e1];exact hj) (by rw [←eh];exact hl)⟩
end Go.Sx
namespace Go.Proofs.YtedoffkaehcnmaaDoor
open Go Go.Sx
set_option maxRecDepth 100000
noncomputable def P6 (F:FEnv) (x0:List DV) (x1:Int) (x2:Int) (x3:Int) (x4:Int) (x5:Int) (x6:Int) (x7:Int) (x8:Int) (x9:Int) (x10:Int) (x11:Int) (x12:Int) (x13:Int) (x14:Int) (x15:Int) (x16:Int) (x17:Int) (x18:Int) (x19:Int) (x20:Int) (x21:Int) (x22:Int) (x23:List DV) (x24:List DV) (x25:Int) (x26:Int) (x27:Int) (x28:Int):Bool :=
 let x29:Bool:=((F 7 []).getD 0 default).toB
 let x30:Bool:=((F 7 []).getD 1 default).toB
 let x31:=!x30
 let x32:=!x31
 let x34:List DV:=[]
 let x35:Bool:=((F 12 [.l x0,.i 0,.l [],.l x34,.i 0,.i 0,.i 0]).getD 0 default).toB
 let x36:Int:=((F 12 [.l x0,.i 0,.l [],.l x34,.i 0,.i 0,.i 0]).getD 1 default).toI
 let x37:Bool:=((F 12 [.l x0,.i 0,.l [],.l x34,.i 0,.i 0,.i 0]).getD 2 default).toB
 let x38:List DV:=((F 12 [.l x0,.i 0,.l [],.l x34,.i 0,.i 0,.i 0]).getD 3 default).toL
 let x39:=!x37
 let x41:=!x39
 let x42:=x36==1
 let x43:Bool:=(x38.getD (Int.toNat 0*1+0) default).toB
 let x44:List DV:=(x38.getD (Int.toNat 0*1+1) default).toL
 let y45:List DV:=F 13 [.l x44,.i x1,.i x2,.i x3,.i x4,.i x5,.i x6,.i x7,.i x8,.i x9,.i x10,.i x11,.i x12,.i x13,.i x14,.i x15,.i x16,.i x17,.i x18,.i x19,.i x20,.i x21,.i x22,.l x23,.l x24,.i x25,.i x26,.i x27]
 let x45:Bool:=(dget y45 0).toB
 let x46:Int:=(dget y45 1).toI
 let x47:Int:=(dget y45 2).toI
 let x48:Int:=(dget y45 3).toI
 let z49:DV:=(dget y45 4)
 let x49:Int:=z49.toI
 let x50:Int:=(dget y45 5).toI
 let x51:List DV:=(dget y45 6).toL
 let x52:List DV:=(x51.getD (Int.toNat 0*1+0) default).toL
 let x53:List DV:=(x51.getD (Int.toNat 0*1+1) default).toL
 let x54:List DV:=(x51.getD (Int.toNat 0*1+2) default).toL
 let x55:List DV:=(x51.getD (Int.toNat 0*1+3) default).toL
 let x56:Int:=(x51.getD (Int.toNat 0*1+4) default).toI
 let x57:List DV:=(x51.getD (Int.toNat 0*1+5) default).toL
 let x58:Bool:=(x51.getD (Int.toNat 0*1+6) default).toB
 let x59:=x50 != 0
 let x60:=ilt x47 0
 let x61:=x59||x60
 let x71:=!x61
 let x72:=x36==1
 let x73:List DV:=[.l x52,.l x53,.l x54,.l x55,.i x56,.l x57,.b x58]
 let x74:Bool:=((F 14 [.l x73,.i 1,z49,.i 8]).getD 0 default).toB
 let z75:DV:=((F 14 [.l x73,.i 1,z49,.i 8]).getD 1 default)
 let x75:Int:=z75.toI
 let x76:Bool:=((F 14 [.l x73,.i 1,z49,.i 8]).getD 2 default).toB
 let x77:List DV:=((F 14 [.l x73,.i 1,z49,.i 8]).getD 3 default).toL
 let x78:List DV:=(x77.getD (Int.toNat 0*1+0) default).toL
 let x79:List DV:=(x77.getD (Int.toNat 0*1+1) default).toL
 let x80:List DV:=(x77.getD (Int.toNat 0*1+2) default).toL
 let x81:List DV:=(x77.getD (Int.toNat 0*1+3) default).toL
 let x82:Int:=(x77.getD (Int.toNat 0*1+4) default).toI
 let x83:List DV:=(x77.getD (Int.toNat 0*1+5) default).toL
 let x84:Bool:=(x77.getD (Int.toNat 0*1+6) default).toB
 let x85:=!x76
 let x86:=x75 != x48
 let x87:=x85||x86
 let x88:Bool:=((F 10 [.i x1,.i x2,.i x3,.i x4,.i x5,.i x6,.i x7,.i x8,.i x9,.i x10,.i x11,.i x12,.i x13,.i x14,.i x15,.i x16,.i x17,.i x18,.i x19,.i x20,.i x21,.i x22,.l x23,.l x24,.i x25,.i x26,z75]).getD 0 default).toB
 let x89:=!x88
 let x90:=x87||x89
 let x91:=ishr .u64 x46 12
 let x92:=IntKind.wrap .i64 (9*x47)
 let x93:=ige x92 0
 let x94:=ishr .u64 x91 x92
 let x95:=ishr .u64 x75 10
 let x96:=zaf .u64 x95 17592186044415
 let x97:=IntKind.wrap .i64 (9*x47)
 let x98:=ige x97 0
 let x99:=ishr .u64 x96 x97
 let x100:=x94 != x99
 let x101:=x90||x100
 let x102:=!x101
 let x103:=zar .u64 x75 1
 let x104:=x36==1
 let x105:List DV:=[.l x78,.l x79,.l x80,.l x81,.i x82,.l x83,.b x84]
 let x106:Bool:=((F 15 [.l x105,z49,.i 8,.i x103]).getD 0 default).toB
 let x108:List DV:=((F 15 [.l x105,z49,.i 8,.i x103]).getD 2 default).toL
 let x109:List DV:=(x108.getD (Int.toNat 0*1+0) default).toL
 let x110:List DV:=(x108.getD (Int.toNat 0*1+1) default).toL
 let x111:List DV:=(x108.getD (Int.toNat 0*1+2) default).toL
 let x112:List DV:=(x108.getD (Int.toNat 0*1+3) default).toL
 let x113:Int:=(x108.getD (Int.toNat 0*1+4) default).toI
 let x114:List DV:=(x108.getD (Int.toNat 0*1+5) default).toL
 let x115:Bool:=(x108.getD (Int.toNat 0*1+6) default).toB
 let x116:=x36==1
 let x117:List DV:=[.l x109,.l x110,.l x111,.l x112,.i x113,.l x114,.b x115]
 let y118:List DV:=F 13 [.l x117,.i x1,.i x2,.i x3,.i x4,.i x5,.i x6,.i x7,.i x8,.i x9,.i x10,.i x11,.i x12,.i x13,.i x14,.i x15,.i x16,.i x17,.i x18,.i x19,.i x20,.i x21,.i x22,.l x23,.l x24,.i x25,.i x26,.i x27]
 let x118:Bool:=(dget y118 0).toB
 let x123:Int:=(dget y118 5).toI
 let x124:List DV:=(dget y118 6).toL
 let x125:List DV:=(x124.getD (Int.toNat 0*1+0) default).toL
 let x126:List DV:=(x124.getD (Int.toNat 0*1+1) default).toL
 let x127:List DV:=(x124.getD (Int.toNat 0*1+2) default).toL
 let x128:List DV:=(x124.getD (Int.toNat 0*1+3) default).toL
 let x129:Int:=(x124.getD (Int.toNat 0*1+4) default).toI
 let x130:List DV:=(x124.getD (Int.toNat 0*1+5) default).toL
 let x131:Bool:=(x124.getD (Int.toNat 0*1+6) default).toB
 let x132:=zar .u64 x75 64
 let x133:=x36==1
 let x134:List DV:=[.l x125,.l x126,.l x127,.l x128,.i x129,.l x130,.b x131]
 let x135:Bool:=((F 15 [.l x134,z49,.i 8,.i x132]).getD 0 default).toB
 let x137:List DV:=((F 15 [.l x134,z49,.i 8,.i x132]).getD 2 default).toL
 let x138:List DV:=(x137.getD (Int.toNat 0*1+0) default).toL
 let x139:List DV:=(x137.getD (Int.toNat 0*1+1) default).toL
 let x140:List DV:=(x137.getD (Int.toNat 0*1+2) default).toL
 let x141:List DV:=(x137.getD (Int.toNat 0*1+3) default).toL
 let x142:Int:=(x137.getD (Int.toNat 0*1+4) default).toI
 let x143:List DV:=(x137.getD (Int.toNat 0*1+5) default).toL
 let x144:Bool:=(x137.getD (Int.toNat 0*1+6) default).toB
 let x145:=x36==1
 let x146:List DV:=[.l x138,.l x139,.l x140,.l x141,.i x142,.l x143,.b x144]
 let y147:List DV:=F 13 [.l x146,.i x1,.i x2,.i x3,.i x4,.i x5,.i x6,.i x7,.i x8,.i x9,.i x10,.i x11,.i x12,.i x13,.i x14,.i x15,.i x16,.i x17,.i x18,.i x19,.i x20,.i x21,.i x22,.l x23,.l x24,.i x25,.i x26,.i x27]
 let x147:Bool:=(dget y147 0).toB
 let x152:Int:=(dget y147 5).toI
 let x153:List DV:=(dget y147 6).toL
 let x154:List DV:=(x153.getD (Int.toNat 0*1+0) default).toL
 let x155:List DV:=(x153.getD (Int.toNat 0*1+1) default).toL
 let x156:List DV:=(x153.getD (Int.toNat 0*1+2) default).toL
 let x157:List DV:=(x153.getD (Int.toNat 0*1+3) default).toL
 let x158:Int:=(x153.getD (Int.toNat 0*1+4) default).toI
 let x159:List DV:=(x153.getD (Int.toNat 0*1+5) default).toL
 let x160:Bool:=(x153.getD (Int.toNat 0*1+6) default).toB
 let x161:=x36==1
 let x162:List DV:=[.l x154,.l x155,.l x156,.l x157,.i x158,.l x159,.b x160]
 let x163:Bool:=((F 15 [.l x162,z49,.i 8,z75]).getD 0 default).toB
 let x165:List DV:=((F 15 [.l x162,z49,.i 8,z75]).getD 2 default).toL
 let x166:List DV:=(x165.getD (Int.toNat 0*1+0) default).toL
 let x167:List DV:=(x165.getD (Int.toNat 0*1+1) default).toL
 let x168:List DV:=(x165.getD (Int.toNat 0*1+2) default).toL
 let x169:List DV:=(x165.getD (Int.toNat 0*1+3) default).toL
 let x170:Int:=(x165.getD (Int.toNat 0*1+4) default).toI
 let x171:List DV:=(x165.getD (Int.toNat 0*1+5) default).toL
 let x172:Bool:=(x165.getD (Int.toNat 0*1+6) default).toB
 let x173:=x36==1
 let x174:List DV:=[.l x166,.l x167,.l x168,.l x169,.i x170,.l x171,.b x172]
 let y175:List DV:=F 13 [.l x174,.i x1,.i x2,.i x3,.i x4,.i x5,.i x6,.i x7,.i x8,.i x9,.i x10,.i x11,.i x12,.i x13,.i x14,.i x15,.i x16,.i x17,.i x18,.i x19,.i x20,.i x21,.i x22,.l x23,.l x24,.i x25,.i x26,.i x27]
 let x175:Bool:=(dget y175 0).toB
 let x176:Int:=(dget y175 1).toI
 let x177:Int:=(dget y175 2).toI
 let x178:Int:=(dget y175 3).toI
 let x179:Int:=(dget y175 4).toI
 let x180:Int:=(dget y175 5).toI
 let x181:List DV:=(dget y175 6).toL
 let x182:List DV:=(x181.getD (Int.toNat 0*1+0) default).toL
 let x183:List DV:=(x181.getD (Int.toNat 0*1+1) default).toL
 let x184:List DV:=(x181.getD (Int.toNat 0*1+2) default).toL
 let x185:List DV:=(x181.getD (Int.toNat 0*1+3) default).toL
 let x186:Int:=(x181.getD (Int.toNat 0*1+4) default).toI
 let x187:List DV:=(x181.getD (Int.toNat 0*1+5) default).toL
 let x188:Bool:=(x181.getD (Int.toNat 0*1+6) default).toB
 let x189:Int:=((F 16 [.i x26]).getD 0 default).toI
 let x190:=x123 != x189
 let x191:Int:=((F 16 [.i x26]).getD 0 default).toI
 let x192:=x152 != x191
 let x193:=x190||x192
 let x194:=x180 != 0
 let x195:=x193||x194
 let x196:=x176==x46
 let x197:=x177==x47
 let x198:=x178==x48
 let x199:=x179==x49
 let x200:=x198&&x199
 let x201:=x197&&x200
 let x202:=x196&&x201
 let x203:=!x202
 let x204:=x195||x203
 let x205:=!x204
 let x206:=x47==0
 let x207:=zaf .u64 x28 17592186044415
 let x208:=ishl .u64 x207 10
 let x209:=zaf .u64 x75 1023
 let x210:=ilor .u64 x208 x209
 let x211:=x36==1
 let x212:List DV:=[.l x182,.l x183,.l x184,.l x185,.i x186,.l x187,.b x188]
 let x213:Bool:=((F 15 [.l x212,z49,.i 8,.i x210]).getD 0 default).toB
 let x215:List DV:=((F 15 [.l x212,z49,.i 8,.i x210]).getD 2 default).toL
 let x216:List DV:=(x215.getD (Int.toNat 0*1+0) default).toL
 let x217:List DV:=(x215.getD (Int.toNat 0*1+1) default).toL
 let x218:List DV:=(x215.getD (Int.toNat 0*1+2) default).toL
 let x219:List DV:=(x215.getD (Int.toNat 0*1+3) default).toL
 let x220:Int:=(x215.getD (Int.toNat 0*1+4) default).toI
 let x221:List DV:=(x215.getD (Int.toNat 0*1+5) default).toL
 let x222:Bool:=(x215.getD (Int.toNat 0*1+6) default).toB
 let x223:=x36==1
 let x224:List DV:=[.l x216,.l x217,.l x218,.l x219,.i x220,.l x221,.b x222]
 let y225:List DV:=F 13 [.l x224,.i x1,.i x2,.i x3,.i x4,.i x5,.i x6,.i x7,.i x8,.i x9,.i x10,.i x11,.i x12,.i x13,.i x14,.i x15,.i x16,.i x17,.i x18,.i x19,.i x20,.i x21,.i x22,.l x23,.l x24,.i x25,.i x26,.i x27]
 let x225:Bool:=(dget y225 0).toB
 [ow [] x29,ow [(x32,true)] x35,ow [(x32,true),(x41,true)] x42,ow [(x32,true),(x41,true)] x43,ow [(x32,true),(x41,true)] x45,ow [(x32,true),(x41,true),(x71,true)] x72,ow [(x32,true),(x41,true),(x71,true)] x74,ow [(x32,true),(x41,true),(x71,true),(x90,false)] x93,ow [(x32,true),(x41,true),(x71,true),(x90,false)] x98,ow [(x32,true),(x41,true),(x71,true),(x102,true)] x104,ow [(x32,true),(x41,true),(x71,true),(x102,true)] x106,ow [(x32,true),(x41,true),(x71,true),(x102,true)] x116,ow [(x32,true),(x41,true),(x71,true),(x102,true)] x118,ow [(x32,true),(x41,true),(x71,true),(x102,true)] x133,ow [(x32,true),(x41,true),(x71,true),(x102,true)] x135,ow [(x32,true),(x41,true),(x71,true),(x102,true)] x145,ow [(x32,true),(x41,true),(x71,true),(x102,true)] x147,ow [(x32,true),(x41,true),(x71,true),(x102,true)] x161,ow [(x32,true),(x41,true),(x71,true),(x102,true)] x163,ow [(x32,true),(x41,true),(x71,true),(x102,true)] x173,ow [(x32,true),(x41,true),(x71,true),(x102,true)] x175,ow [(x32,true),(x41,true),(x71,true),(x102,true),(x205,true),(x206,true)] x211,ow [(x32,true),(x41,true),(x71,true),(x102,true),(x205,true),(x206,true)] x213,ow [(x32,true),(x41,true),(x71,true),(x102,true),(x205,true),(x206,true)] x223,ow [(x32,true),(x41,true),(x71,true),(x102,true),(x205,true),(x206,true)] x225].all id
noncomputable def R6 (F:FEnv) (x0:List DV) (x1:Int) (x2:Int) (x3:Int) (x4:Int) (x5:Int) (x6:Int) (x7:Int) (x8:Int) (x9:Int) (x10:Int) (x11:Int) (x12:Int) (x13:Int) (x14:Int) (x15:Int) (x16:Int) (x17:Int) (x18:Int) (x19:Int) (x20:Int) (x21:Int) (x22:Int) (x23:List DV) (x24:List DV) (x25:Int) (x26:Int) (x27:Int) (x28:Int):Bool :=
 let x30:Bool:=((F 7 []).getD 1 default).toB
 let x31:=!x30
 let x32:=!x31
 let x34:List DV:=[]
 let x36:Int:=((F 12 [.l x0,.i 0,.l [],.l x34,.i 0,.i 0,.i 0]).getD 1 default).toI
 let x37:Bool:=((F 12 [.l x0,.i 0,.l [],.l x34,.i 0,.i 0,.i 0]).getD 2 default).toB
 let x38:List DV:=((F 12 [.l x0,.i 0,.l [],.l x34,.i 0,.i 0,.i 0]).getD 3 default).toL
 let x39:=!x37
 let x40:=x36==0
 let x41:=!x39
 let x44:List DV:=(x38.getD (Int.toNat 0*1+1) default).toL
 let y46:List DV:=F 13 [.l x44,.i x1,.i x2,.i x3,.i x4,.i x5,.i x6,.i x7,.i x8,.i x9,.i x10,.i x11,.i x12,.i x13,.i x14,.i x15,.i x16,.i x17,.i x18,.i x19,.i x20,.i x21,.i x22,.l x23,.l x24,.i x25,.i x26,.i x27]
 let x46:Int:=(dget y46 1).toI
 let x47:Int:=(dget y46 2).toI
 let x48:Int:=(dget y46 3).toI
 let z49:DV:=(dget y46 4)
 let x49:Int:=z49.toI
 let x50:Int:=(dget y46 5).toI
 let x51:List DV:=(dget y46 6).toL
 let x52:List DV:=(x51.getD (Int.toNat 0*1+0) default).toL
 let x53:List DV:=(x51.getD (Int.toNat 0*1+1) default).toL
 let x54:List DV:=(x51.getD (Int.toNat 0*1+2) default).toL
 let x55:List DV:=(x51.getD (Int.toNat 0*1+3) default).toL
 let x56:Int:=(x51.getD (Int.toNat 0*1+4) default).toI
 let x57:List DV:=(x51.getD (Int.toNat 0*1+5) default).toL
 let x58:Bool:=(x51.getD (Int.toNat 0*1+6) default).toB
 let x59:=x50 != 0
 let x60:=ilt x47 0
 let x61:=x59||x60
 let x62:=x50==0
 let x63:=x46==0
 let x64:=x47==0
 let x65:=x48==0
 let x66:=x49==0
 let x67:=x65&&x66
 let x68:=x64&&x67
 let x69:=x63&&x68
 let x70:=x62||x69
 let x71:=!x61
 let x73:List DV:=[.l x52,.l x53,.l x54,.l x55,.i x56,.l x57,.b x58]
 let z75:DV:=((F 14 [.l x73,.i 1,z49,.i 8]).getD 1 default)
 let x75:Int:=z75.toI
 let x76:Bool:=((F 14 [.l x73,.i 1,z49,.i 8]).getD 2 default).toB
 let x77:List DV:=((F 14 [.l x73,.i 1,z49,.i 8]).getD 3 default).toL
 let x78:List DV:=(x77.getD (Int.toNat 0*1+0) default).toL
 let x79:List DV:=(x77.getD (Int.toNat 0*1+1) default).toL
 let x80:List DV:=(x77.getD (Int.toNat 0*1+2) default).toL
 let x81:List DV:=(x77.getD (Int.toNat 0*1+3) default).toL
 let x82:Int:=(x77.getD (Int.toNat 0*1+4) default).toI
 let x83:List DV:=(x77.getD (Int.toNat 0*1+5) default).toL
 let x84:Bool:=(x77.getD (Int.toNat 0*1+6) default).toB
 let x85:=!x76
 let x86:=x75 != x48
 let x87:=x85||x86
 let x88:Bool:=((F 10 [.i x1,.i x2,.i x3,.i x4,.i x5,.i x6,.i x7,.i x8,.i x9,.i x10,.i x11,.i x12,.i x13,.i x14,.i x15,.i x16,.i x17,.i x18,.i x19,.i x20,.i x21,.i x22,.l x23,.l x24,.i x25,.i x26,z75]).getD 0 default).toB
 let x89:=!x88
 let x90:=x87||x89
 let x91:=ishr .u64 x46 12
 let x92:=IntKind.wrap .i64 (9*x47)
 let x94:=ishr .u64 x91 x92
 let x95:=ishr .u64 x75 10
 let x96:=zaf .u64 x95 17592186044415
 let x97:=IntKind.wrap .i64 (9*x47)
 let x99:=ishr .u64 x96 x97
 let x100:=x94 != x99
 let x101:=x90||x100
 let x102:=!x101
 let x103:=zar .u64 x75 1
 let x105:List DV:=[.l x78,.l x79,.l x80,.l x81,.i x82,.l x83,.b x84]
 let x108:List DV:=((F 15 [.l x105,z49,.i 8,.i x103]).getD 2 default).toL
 let x109:List DV:=(x108.getD (Int.toNat 0*1+0) default).toL
 let x110:List DV:=(x108.getD (Int.toNat 0*1+1) default).toL
 let x111:List DV:=(x108.getD (Int.toNat 0*1+2) default).toL
 let x112:List DV:=(x108.getD (Int.toNat 0*1+3) default).toL
 let x113:Int:=(x108.getD (Int.toNat 0*1+4) default).toI
 let x114:List DV:=(x108.getD (Int.toNat 0*1+5) default).toL
 let x115:Bool:=(x108.getD (Int.toNat 0*1+6) default).toB
 let x117:List DV:=[.l x109,.l x110,.l x111,.l x112,.i x113,.l x114,.b x115]
 let y123:List DV:=F 13 [.l x117,.i x1,.i x2,.i x3,.i x4,.i x5,.i x6,.i x7,.i x8,.i x9,.i x10,.i x11,.i x12,.i x13,.i x14,.i x15,.i x16,.i x17,.i x18,.i x19,.i x20,.i x21,.i x22,.l x23,.l x24,.i x25,.i x26,.i x27]
 let x123:Int:=(dget y123 5).toI
 let x124:List DV:=(dget y123 6).toL
 let x125:List DV:=(x124.getD (Int.toNat 0*1+0) default).toL
 let x126:List DV:=(x124.getD (Int.toNat 0*1+1) default).toL
 let x127:List DV:=(x124.getD (Int.toNat 0*1+2) default).toL
 let x128:List DV:=(x124.getD (Int.toNat 0*1+3) default).toL
 let x129:Int:=(x124.getD (Int.toNat 0*1+4) default).toI
 let x130:List DV:=(x124.getD (Int.toNat 0*1+5) default).toL
 let x131:Bool:=(x124.getD (Int.toNat 0*1+6) default).toB
 let x132:=zar .u64 x75 64
 let x134:List DV:=[.l x125,.l x126,.l x127,.l x128,.i x129,.l x130,.b x131]
 let x137:List DV:=((F 15 [.l x134,z49,.i 8,.i x132]).getD 2 default).toL
 let x138:List DV:=(x137.getD (Int.toNat 0*1+0) default).toL
 let x139:List DV:=(x137.getD (Int.toNat 0*1+1) default).toL
 let x140:List DV:=(x137.getD (Int.toNat 0*1+2) default).toL
 let x141:List DV:=(x137.getD (Int.toNat 0*1+3) default).toL
 let x142:Int:=(x137.getD (Int.toNat 0*1+4) default).toI
 let x143:List DV:=(x137.getD (Int.toNat 0*1+5) default).toL
 let x144:Bool:=(x137.getD (Int.toNat 0*1+6) default).toB
 let x146:List DV:=[.l x138,.l x139,.l x140,.l x141,.i x142,.l x143,.b x144]
 let y152:List DV:=F 13 [.l x146,.i x1,.i x2,.i x3,.i x4,.i x5,.i x6,.i x7,.i x8,.i x9,.i x10,.i x11,.i x12,.i x13,.i x14,.i x15,.i x16,.i x17,.i x18,.i x19,.i x20,.i x21,.i x22,.l x23,.l x24,.i x25,.i x26,.i x27]
 let x152:Int:=(dget y152 5).toI
 let x153:List DV:=(dget y152 6).toL
 let x154:List DV:=(x153.getD (Int.toNat 0*1+0) default).toL
 let x155:List DV:=(x153.getD (Int.toNat 0*1+1) default).toL
 let x156:List DV:=(x153.getD (Int.toNat 0*1+2) default).toL
 let x157:List DV:=(x153.getD (Int.toNat 0*1+3) default).toL
 let x158:Int:=(x153.getD (Int.toNat 0*1+4) default).toI
 let x159:List DV:=(x153.getD (Int.toNat 0*1+5) default).toL
 let x160:Bool:=(x153.getD (Int.toNat 0*1+6) default).toB
 let x162:List DV:=[.l x154,.l x155,.l x156,.l x157,.i x158,.l x159,.b x160]
 let x165:List DV:=((F 15 [.l x162,z49,.i 8,z75]).getD 2 default).toL
 let x166:List DV:=(x165.getD (Int.toNat 0*1+0) default).toL
 let x167:List DV:=(x165.getD (Int.toNat 0*1+1) default).toL
 let x168:List DV:=(x165.getD (Int.toNat 0*1+2) default).toL
 let x169:List DV:=(x165.getD (Int.toNat 0*1+3) default).toL
 let x170:Int:=(x165.getD (Int.toNat 0*1+4) default).toI
 let x171:List DV:=(x165.getD (Int.toNat 0*1+5) default).toL
 let x172:Bool:=(x165.getD (Int.toNat 0*1+6) default).toB
 let x174:List DV:=[.l x166,.l x167,.l x168,.l x169,.i x170,.l x171,.b x172]
 let y176:List DV:=F 13 [.l x174,.i x1,.i x2,.i x3,.i x4,.i x5,.i x6,.i x7,.i x8,.i x9,.i x10,.i x11,.i x12,.i x13,.i x14,.i x15,.i x16,.i x17,.i x18,.i x19,.i x20,.i x21,.i x22,.l x23,.l x24,.i x25,.i x26,.i x27]
 let x176:Int:=(dget y176 1).toI
 let x177:Int:=(dget y176 2).toI
 let x178:Int:=(dget y176 3).toI
 let x179:Int:=(dget y176 4).toI
 let x180:Int:=(dget y176 5).toI
 let x181:List DV:=(dget y176 6).toL
 let x182:List DV:=(x181.getD (Int.toNat 0*1+0) default).toL
 let x183:List DV:=(x181.getD (Int.toNat 0*1+1) default).toL
 let x184:List DV:=(x181.getD (Int.toNat 0*1+2) default).toL
 let x185:List DV:=(x181.getD (Int.toNat 0*1+3) default).toL
 let x186:Int:=(x181.getD (Int.toNat 0*1+4) default).toI
 let x187:List DV:=(x181.getD (Int.toNat 0*1+5) default).toL
 let x188:Bool:=(x181.getD (Int.toNat 0*1+6) default).toB
 let x189:Int:=((F 16 [.i x26]).getD 0 default).toI
 let x190:=x123 != x189
 let x191:Int:=((F 16 [.i x26]).getD 0 default).toI
 let x192:=x152 != x191
 let x193:=x190||x192
 let x194:=x180 != 0
 let x195:=x193||x194
 let x196:=x176==x46
 let x197:=x177==x47
 let x198:=x178==x48
 let x199:=x179==x49
 let x200:=x198&&x199
 let x201:=x197&&x200
 let x202:=x196&&x201
 let x203:=!x202
 let x204:=x195||x203
 let x205:=!x204
 let x206:=x47==0
 let x207:=zaf .u64 x28 17592186044415
 let x208:=ishl .u64 x207 10
 let x209:=zaf .u64 x75 1023
 let x210:=ilor .u64 x208 x209
 let x212:List DV:=[.l x182,.l x183,.l x184,.l x185,.i x186,.l x187,.b x188]
 let x215:List DV:=((F 15 [.l x212,z49,.i 8,.i x210]).getD 2 default).toL
 let x216:List DV:=(x215.getD (Int.toNat 0*1+0) default).toL
 let x217:List DV:=(x215.getD (Int.toNat 0*1+1) default).toL
 let x218:List DV:=(x215.getD (Int.toNat 0*1+2) default).toL
 let x219:List DV:=(x215.getD (Int.toNat 0*1+3) default).toL
 let x220:Int:=(x215.getD (Int.toNat 0*1+4) default).toI
 let x221:List DV:=(x215.getD (Int.toNat 0*1+5) default).toL
 let x222:Bool:=(x215.getD (Int.toNat 0*1+6) default).toB
 let x224:List DV:=[.l x216,.l x217,.l x218,.l x219,.i x220,.l x221,.b x222]
 let y226:List DV:=F 13 [.l x224,.i x1,.i x2,.i x3,.i x4,.i x5,.i x6,.i x7,.i x8,.i x9,.i x10,.i x11,.i x12,.i x13,.i x14,.i x15,.i x16,.i x17,.i x18,.i x19,.i x20,.i x21,.i x22,.l x23,.l x24,.i x25,.i x26,.i x27]
 let x226:Int:=(dget y226 1).toI
 let x228:Int:=(dget y226 3).toI
 let x230:Int:=(dget y226 5).toI
 let x239:=x230==0
 let x240:=ishr .u64 x210 10
 let x241:=ishl .u64 x240 12
 let x242:=zaf .u64 x27 4095
 let x243:=ilor .u64 x241 x242
 let x244:=x226==x243
 let x245:=x239&&x244
 let x246:=x228==x210
 let x247:=x245&&x246
 let x248:=!x206
 let x249:=x248||x247
 let x257:=x205&&x249
 let x265:=x102&&x257
 let x273:=bif x71 then x265 else x70
 let x281:=bif x41 then x273 else x40
 let x282:=x32&&x281
 x282
theorem zwU (F:FEnv) (x0:List DV) (x1:Int) (x2:Int) (x3:Int) (x4:Int) (x5:Int) (x6:Int) (x7:Int) (x8:Int) (x9:Int) (x10:Int) (x11:Int) (x12:Int) (x13:Int) (x14:Int) (x15:Int) (x16:Int) (x17:Int) (x18:Int) (x19:Int) (x20:Int) (x21:Int) (x22:Int) (x23:List DV) (x24:List DV) (x25:Int) (x26:Int) (x27:Int) (x28:Int):outI F s6 o6 [.l x0,.i x1,.i x2,.i x3,.i x4,.i x5,.i x6,.i x7,.i x8,.i x9,.i x10,.i x11,.i x12,.i x13,.i x14,.i x15,.i x16,.i x17,.i x18,.i x19,.i x20,.i x21,.i x22,.l x23,.l x24,.i x25,.i x26,.i x27,.i x28]=[.b (P6 F x0 x1 x2 x3 x4 x5 x6 x7 x8 x9 x10 x11 x12 x13 x14 x15 x16 x17 x18 x19 x20 x21 x22 x23 x24 x25 x26 x27 x28),.b (R6 F x0 x1 x2 x3 x4 x5 x6 x7 x8 x9 x10 x11 x12 x13 x14 x15 x16 x17 x18 x19 x20 x21 x22 x23 x24 x25 x26 x27 x28)]:=by kernel_rfl
end Go.Proofs.YtedoffkaehcnmaaDoor
namespace Go.Proofs.YtedoffkaehcnmaaDoor
open Go Go.Sx
set_option maxRecDepth 100000
set_option maxHeartbeats 4000000
theorem zvC:KD.ok FE 103300 (.lp zqC [.i,.l,.i,.i]) :=
 ⟨zjE,zjF,zjG,zoC,(fun ds=>by kernel_rfl),(fun ν xs h=>match xs,h with | [x0,x1],_=>by kernel_rfl),
 (fun ν xs h=>match xs,h with | [x0,x1],_=>by kernel_rfl),
 (fun ν xs h=>match xs,h with | [x0,x1],_=>by kernel_rfl),
 (fun ν xs h=>match xs,h with | [x0,x1],_=>by kernel_rfl)⟩
theorem zvD:KD.ok FE 102400 (.lp zqF [.i,.l,.b,.i,.i]) :=
 ⟨zoO,zoP,zoQ,zoR,(fun ds=>by kernel_rfl),(fun ν xs h=>match xs,h with | [x0,x1,x2],_=>by kernel_rfl),
 (fun ν xs h=>match xs,h with | [x0,x1,x2],_=>by kernel_rfl),
 (fun ν xs h=>match xs,h with | [x0,x1,x2],_=>by kernel_rfl),
 (fun ν xs h=>match xs,h with | [x0,x1,x2],_=>by kernel_rfl)⟩
theorem zvE:KD.ok FE 101700 (.lp zqH [.i,.i,.i,.l]) :=
 ⟨zjQ,zjR,zl8,zoU,(fun ds=>by kernel_rfl),(fun ν xs h=>match xs,h with | [x0,x1],_=>by kernel_rfl),
 (fun ν xs h=>match xs,h with | [x0,x1],_=>by kernel_rfl),
 (fun ν xs h=>match xs,h with | [x0,x1],_=>by kernel_rfl),
 (fun ν xs h=>match xs,h with | [x0,x1],_=>by kernel_rfl)⟩
theorem t26:KD.ok FE 26 (.fn s26 o26):=fun ds _=>e26 ds
theorem t45:KD.ok FE 45 (.fn s45 o45):=fun ds _=>e45 ds
theorem t27:KD.ok FE 27 (.fn s27 o27):=fun ds _=>e27 ds
theorem t46:KD.ok FE 46 (.fn s46 o46):=fun ds _=>e46 ds
theorem t50:KD.ok FE 50 (.fn s50 o50):=fun ds h=>match ds,h with
 | [d0,d1],_=>by kernel_rfl
theorem t43:KD.ok FE 43 (.fn s43 o43):=fun ds h=>match ds,h with
 | [d0,d1,d2],_=>by kernel_rfl
theorem t75:KD.ok FE 75 (.fn s75 o75):=fun ds _=>e75 ds
theorem t74:KD.ok FE 74 (.fn s74 o74):=fun ds _=>e74 ds
theorem t72:KD.ok FE 72 (.fn s72 o72):=fun ds h=>match ds,h with
 | [d0,d1,d2],_=>by kernel_rfl
theorem t28:KD.ok FE 28 (.fn s28 o28):=fun ds _=>e28 ds
theorem t44:KD.ok FE 44 (.fn s44 o44):=fun ds _=>e44 ds
theorem t79:KD.ok FE 79 (.fn s79 o79):=fun ds _=>e79 ds
theorem t77:KD.ok FE 77 (.fn s77 o77):=fun ds h=>match ds,h with
 | [d0,d1,d2],_=>by kernel_rfl
theorem t47:KD.ok FE 47 (.fn s47 o47):=fun ds _=>e47 ds
theorem t41:KD.ok FE 41 (.fn s41 o41):=fun ds h=>match ds,h with
 | [d0,d1,d2],_=>by kernel_rfl
theorem t33:KD.ok FE 33 (.fn s33 o33):=fun ds h=>match ds,h with
 | [d0,d1,d2],_=>by kernel_rfl
theorem t25:KD.ok FE 25 (.hand g25h):=ztN
theorem t24:KD.ok FE 24 (.fn s24 o24):=fun ds h=>match ds,h with
 | [d0],_=>by kernel_rfl
theorem t34:KD.ok FE 34 (.fn s34 o34):=fun ds h=>match ds,h with
 | [d0,d1,d2,d3],_=>by kernel_rfl
theorem t35:KD.ok FE 35 (.fn s35 o35):=fun ds h=>match ds,h with
 | [d0],_=>by kernel_rfl
theorem t30:KD.ok FE 30 (.fn s30 o30):=fun ds h=>match ds,h with
 | [d0,d1,d2],_=>by kernel_rfl
theorem t12:KD.ok FE 12 (.fn s12 o12):=fun ds h=>match ds,h with
 | [d0,d1,d2,d3,d4,d5,d6],_=>by kernel_rfl
theorem t37:KD.ok FE 37 (.fn s37 o37):=fun ds _=>e37 ds
theorem t14:KD.ok FE 14 (.fn s14 o14):=fun ds h=>match ds,h with
 | [d0,d1,d2,d3],_=>by kernel_rfl
theorem t48:KD.ok FE 48 (.fn s48 o48):=fun ds h=>match ds,h with
 | [d0],_=>by kernel_rfl
theorem t39:KD.ok FE 39 (.fn s39 o39):=fun ds _=>e39 ds
theorem t49:KD.ok FE 49 (.fn s49 o49):=fun ds h=>match ds,h with
 | [d0],_=>by kernel_rfl
theorem t40:KD.ok FE 40 (.fn s40 o40):=fun ds h=>match ds,h with
 | [d0,d1,d2],_=>by kernel_rfl
theorem t29:KD.ok FE 29 (.fn s29 o29):=fun ds h=>match ds,h with
 | [d0,d1,d2,d3,d4,d5],_=>by kernel_rfl
theorem t20:KD.ok FE 20 (.fn s20 o20):=fun ds h=>match ds,h with
 | [d0],_=>by kernel_rfl
theorem t31:KD.ok FE 31 (.fn s31 o31):=fun ds h=>match ds,h with
 | [d0],_=>by kernel_rfl
theorem t32:KD.ok FE 32 (.fn s32 o32):=fun ds h=>match ds,h with
 | [d0],_=>by kernel_rfl
theorem t8:KD.ok FE 8 (.fn s8 o8):=fun ds _=>e8 ds
theorem t10:KD.ok FE 10 (.fn s10 o10):=fun ds h=>match ds,h with
 | [d0,d1,d2,d3,d4,d5,d6,d7,d8,d9,d10,d11,d12,d13,d14,d15,d16,d17,d18,d19,d20,d21,d22,d23,d24,d25,d26],_=>by kernel_rfl
theorem t13:KD.ok FE 13 (.fn s13 o13):=fun ds h=>match ds,h with
 | [d0,d1,d2,d3,d4,d5,d6,d7,d8,d9,d10,d11,d12,d13,d14,d15,d16,d17,d18,d19,d20,d21,d22,d23,d24,d25,d26,d27],_=>by kernel_rfl
theorem t19:KD.ok FE 19 (.fn s19 o19):=fun ds _=>e19 ds
theorem t17:KD.ok FE 17 (.hand g17h):=ztO
theorem t18:KD.ok FE 18 (.fn s18 o18):=fun ds _=>e18 ds
theorem t7:KD.ok FE 7 (.fn s7 o7):=fun ds _=>e7 ds
theorem t23:KD.ok FE 23 (.hand g23):=fun _=>rfl
theorem t38:KD.ok FE 38 (.hand g38):=fun _=>rfl
theorem t42:KD.ok FE 42 (.hand g42):=fun _=>rfl
theorem t67:KD.ok FE 67 (.hand g67):=fun _=>rfl
noncomputable def tabK:List (Nat×KD):=[(103300,.lp zqC [.i,.l,.i,.i]),(102400,.lp zqF [.i,.l,.b,.i,.i]),(101700,.lp zqH [.i,.i,.i,.l]),(26,.fn s26 o26),(45,.fn s45 o45),(27,.fn s27 o27),(46,.fn s46 o46),(50,.fn s50 o50),(43,.fn s43 o43),(75,.fn s75 o75),(74,.fn s74 o74),(72,.fn s72 o72),(28,.fn s28 o28),(44,.fn s44 o44),(79,.fn s79 o79),(77,.fn s77 o77),(47,.fn s47 o47),(41,.fn s41 o41),(33,.fn s33 o33),(25,.hand g25h),(24,.fn s24 o24),(34,.fn s34 o34),(35,.fn s35 o35),(30,.fn s30 o30),(12,.fn s12 o12),(37,.fn s37 o37),(14,.fn s14 o14),(48,.fn s48 o48),(39,.fn s39 o39),(49,.fn s49 o49),(40,.fn s40 o40),(29,.fn s29 o29),(20,.fn s20 o20),(31,.fn s31 o31),(32,.fn s32 o32),(8,.fn s8 o8),(10,.fn s10 o10),(13,.fn s13 o13),(19,.fn s19 o19),(17,.hand g17h),(18,.fn s18 o18),(7,.fn s7 o7),(23,.hand g23),(38,.hand g38),(42,.hand g42),(67,.hand g67)]
theorem zvF:∀ f c,assoc tabK f=some c→c.ok FE f:=fun f c h=>zaD (Q:=fun f c=>KD.ok FE f c) (l:=tabK)
 (show ∀ p∈[(103300,.lp zqC [.i,.l,.i,.i]),(102400,.lp zqF [.i,.l,.b,.i,.i]),(101700,.lp zqH [.i,.i,.i,.l]),(26,.fn s26 o26),(45,.fn s45 o45),(27,.fn s27 o27),(46,.fn s46 o46),(50,.fn s50 o50),(43,.fn s43 o43),(75,.fn s75 o75),(74,.fn s74 o74),(72,.fn s72 o72),(28,.fn s28 o28),(44,.fn s44 o44),(79,.fn s79 o79),(77,.fn s77 o77),(47,.fn s47 o47),(41,.fn s41 o41),(33,.fn s33 o33),(25,.hand g25h),(24,.fn s24 o24),(34,.fn s34 o34),(35,.fn s35 o35),(30,.fn s30 o30),(12,.fn s12 o12),(37,.fn s37 o37),(14,.fn s14 o14),(48,.fn s48 o48),(39,.fn s39 o39),(49,.fn s49 o49),(40,.fn s40 o40),(29,.fn s29 o29),(20,.fn s20 o20),(31,.fn s31 o31),(32,.fn s32 o32),(8,.fn s8 o8),(10,.fn s10 o10),(13,.fn s13 o13),(19,.fn s19 o19),(17,.hand g17h),(18,.fn s18 o18),(7,.fn s7 o7),(23,.hand g23),(38,.hand g38),(42,.hand g42),(67,.hand g67)],KD.ok FE p.1 p.2 from
 List.forall_mem_cons.2 ⟨zvC,List.forall_mem_cons.2 ⟨zvD,List.forall_mem_cons.2 ⟨zvE,List.forall_mem_cons.2 ⟨t26,List.forall_mem_cons.2 ⟨t45,List.forall_mem_cons.2 ⟨t27,List.forall_mem_cons.2 ⟨t46,List.forall_mem_cons.2 ⟨t50,List.forall_mem_cons.2 ⟨t43,List.forall_mem_cons.2 ⟨t75,List.forall_mem_cons.2 ⟨t74,List.forall_mem_cons.2 ⟨t72,List.forall_mem_cons.2 ⟨t28,List.forall_mem_cons.2 ⟨t44,List.forall_mem_cons.2 ⟨t79,List.forall_mem_cons.2 ⟨t77,List.forall_mem_cons.2 ⟨t47,List.forall_mem_cons.2 ⟨t41,List.forall_mem_cons.2 ⟨t33,List.forall_mem_cons.2 ⟨t25,List.forall_mem_cons.2 ⟨t24,List.forall_mem_cons.2 ⟨t34,List.forall_mem_cons.2 ⟨t35,List.forall_mem_cons.2 ⟨t30,List.forall_mem_cons.2 ⟨t12,List.forall_mem_cons.2 ⟨t37,List.forall_mem_cons.2 ⟨t14,List.forall_mem_cons.2 ⟨t48,List.forall_mem_cons.2 ⟨t39,List.forall_mem_cons.2 ⟨t49,List.forall_mem_cons.2 ⟨t40,List.forall_mem_cons.2 ⟨t29,List.forall_mem_cons.2 ⟨t20,List.forall_mem_cons.2 ⟨t31,List.forall_mem_cons.2 ⟨t32,List.forall_mem_cons.2 ⟨t8,List.forall_mem_cons.2 ⟨t10,List.forall_mem_cons.2 ⟨t13,List.forall_mem_cons.2 ⟨t19,List.forall_mem_cons.2 ⟨t17,List.forall_mem_cons.2 ⟨t18,List.forall_mem_cons.2 ⟨t7,List.forall_mem_cons.2 ⟨t23,List.forall_mem_cons.2 ⟨t38,List.forall_mem_cons.2 ⟨t42,List.forall_mem_cons.2 ⟨t67,fun _ h=>(by cases h)⟩⟩⟩⟩⟩⟩⟩⟩⟩⟩⟩⟩⟩⟩⟩⟩⟩⟩⟩⟩⟩⟩⟩⟩⟩⟩⟩⟩⟩⟩⟩⟩⟩⟩⟩⟩⟩⟩⟩⟩⟩⟩⟩⟩⟩⟩) h
end Go.Proofs.YtedoffkaehcnmaaDoor
namespace Go.Proofs.YtedoffkaehcnmaaDoor
open Go Go.Sx
set_option maxRecDepth 100000
theorem zpT:FE 7 []=[.b true,.b true]:=zng zvF 40 7 [] _ (by kernel_rfl)
end Go.Proofs.YtedoffkaehcnmaaDoor
namespace Go.Proofs.YtedoffkaehcnmaaDoor
open Go Go.Sx
set_option maxRecDepth 100000
theorem fs12 (img:List DV):FE 12 [.l img,.i 0,.l [],.l [],.i 0,.i 0,.i 0]=[.b (p12 img []),.i (ztE img []),.b (ztF img []),.l (zqG img [])]:=rfl
theorem fw (b:List DV) (hs:zbM b) (x1 x2 x3 x4 x5 x6 x7 x8 x9 x10 x11 x12 x13 x14 x15 x16 x17 x18 x19 x20 x21 x22:Int) (x23 x24:List DV) (x25 x26 t:Int):(dget (FE 13 [.l b,.i x1,.i x2,.i x3,.i x4,.i x5,.i x6,.i x7,.i x8,.i x9,.i x10,.i x11,.i x12,.i x13,.i x14,.i x15,.i x16,.i x17,.i x18,.i x19,.i x20,.i x21,.i x22,.l x23,.l x24,.i x25,.i x26,.i t]) 0).toB=true∧(dget (FE 13 [.l b,.i x1,.i x2,.i x3,.i x4,.i x5,.i x6,.i x7,.i x8,.i x9,.i x10,.i x11,.i x12,.i x13,.i x14,.i x15,.i x16,.i x17,.i x18,.i x19,.i x20,.i x21,.i x22,.l x23,.l x24,.i x25,.i x26,.i t]) 1).toI=(WA b x1 x21 x23 x24 x25 x26 t).1∧(dget (FE 13 [.l b,.i x1,.i x2,.i x3,.i x4,.i x5,.i x6,.i x7,.i x8,.i x9,.i x10,.i x11,.i x12,.i x13,.i x14,.i x15,.i x16,.i x17,.i x18,.i x19,.i x20,.i x21,.i x22,.l x23,.l x24,.i x25,.i x26,.i t]) 2).toI=(WA b x1 x21 x23 x24 x25 x26 t).2.1∧(dget (FE 13 [.l b,.i x1,.i x2,.i x3,.i x4,.i x5,.i x6,.i x7,.i x8,.i x9,.i x10,.i x11,.i x12,.i x13,.i x14,.i x15,.i x16,.i x17,.i x18,.i x19,.i x20,.i x21,.i x22,.l x23,.l x24,.i x25,.i x26,.i t]) 3).toI=(WA b x1 x21 x23 x24 x25 x26 t).2.2.1∧(dget (FE 13 [.l b,.i x1,.i x2,.i x3,.i x4,.i x5,.i x6,.i x7,.i x8,.i x9,.i x10,.i x11,.i x12,.i x13,.i x14,.i x15,.i x16,.i x17,.i x18,.i x19,.i x20,.i x21,.i x22,.l x23,.l x24,.i x25,.i x26,.i t]) 4).toI=(WA b x1 x21 x23 x24 x25 x26 t).2.2.2.1∧(dget (FE 13 [.l b,.i x1,.i x2,.i x3,.i x4,.i x5,.i x6,.i x7,.i x8,.i x9,.i x10,.i x11,.i x12,.i x13,.i x14,.i x15,.i x16,.i x17,.i x18,.i x19,.i x20,.i x21,.i x22,.l x23,.l x24,.i x25,.i x26,.i t]) 5).toI=(WA b x1 x21 x23 x24 x25 x26 t).2.2.2.2∧(dget (FE 13 [.l b,.i x1,.i x2,.i x3,.i x4,.i x5,.i x6,.i x7,.i x8,.i x9,.i x10,.i x11,.i x12,.i x13,.i x14,.i x15,.i x16,.i x17,.i x18,.i x19,.i x20,.i x21,.i x22,.l x23,.l x24,.i x25,.i x26,.i t]) 6).toL=b:=by
 obtain ⟨w0,w1,w2,w3,w4,w5⟩:=zwG b x1 x21 x23 x24 x25 x26 t hs
 exact ⟨zwH ..,w0,w1,w2,w3,w4,w5⟩
theorem zb8 {b:List DV} (hs:zbM b):[DV.l (b.getD (Int.toNat 0*1+0) default).toL,.l (b.getD (Int.toNat 0*1+1) default).toL,.l (b.getD (Int.toNat 0*1+2) default).toL,.l (b.getD (Int.toNat 0*1+3) default).toL,.i (b.getD (Int.toNat 0*1+4) default).toI,.l (b.getD (Int.toNat 0*1+5) default).toL,.b (b.getD (Int.toNat 0*1+6) default).toB]=b:=by
 obtain ⟨m,c,p,u,n,e,f,rfl⟩:=hs
 rfl
theorem fs14 (b:List DV) (hs:zbM b) (f:DV) (h:zbh f.toI 8=true):((FE 14 [.l b,.i 1,f,.i 8]).getD 0 default).toB=true∧((FE 14 [.l b,.i 1,f,.i 8]).getD 1 default).toI=ent b f.toI∧((FE 14 [.l b,.i 1,f,.i 8]).getD 2 default).toB=true∧((FE 14 [.l b,.i 1,f,.i 8]).getD 3 default).toL=b:=by
 obtain ⟨q1,q2,q3⟩:=zj2 b f.toI h
 exact ⟨q1,rfl,q2,q3 hs⟩
theorem ztV (b:List DV) (f w:DV):((FE 15 [.l b,f,.i 8,w]).getD 0 default).toB=p15 b f.toI 8 w.toI:=rfl
theorem fs15 (b:List DV) (f w:DV):((FE 15 [.l b,f,.i 8,w]).getD 2 default).toL=zl7 b f.toI 8 w.toI:=rfl
theorem fs10 (x1 x2 x3 x4 x5 x6 x7 x8 x9 x10 x11 x12 x13 x14 x15 x16 x17 x18 x19 x20 x21 x22:Int) (x23 x24:List DV) (x25 x26:Int) (t:DV):((FE 10 [.i x1,.i x2,.i x3,.i x4,.i x5,.i x6,.i x7,.i x8,.i x9,.i x10,.i x11,.i x12,.i x13,.i x14,.i x15,.i x16,.i x17,.i x18,.i x19,.i x20,.i x21,.i x22,.l x23,.l x24,.i x25,.i x26,t]).getD 0 default).toB=zaC x1 x25 x26 t.toI:=rfl
theorem fs16 (k:Int):((FE 16 [.i k]).getD 0 default).toI=zcg k:=by
 show zu7 k=zcg k
 unfold zu7 zcg
 generalize (k==0)=a
 generalize (k==2)=b
 generalize (k==3)=c
 cases a<;>cases b<;>cases c<;>rfl
theorem chain (b:List DV) (hs:zbM b) (x1 x21:Int) (x23 x24:List DV) (x25 x26 x:Int) (hx0:0≤x) (hx1:x<18446744073709551616) :
  (∃ c,c≠0∧WA b x1 x21 x23 x24 x25 x26 x=(0,0,0,0,c))∨WA b x1 x21 x23 x24 x25 x26 x=(x,-1,0,0,0) ∨
  ∃ n e f v b1 b2 b3,WA b x1 x21 x23 x24 x25 x26 x=(v,n,e,f,0)∧(n=2∨n=1∨n=0)∧zbh f 8=true∧ent b f=e∧zaC x1 x25 x26 e=true ∧
   ishr .u64 (ishr .u64 v 12) (IntKind.wrap .i64 (9*n))=ishr .u64 (zaf .u64 (ishr .u64 e 10) 17592186044415) (IntKind.wrap .i64 (9*n)) ∧
   (zl7 b f 8 (zar .u64 e 1)=b1∧p15 b f 8 (zar .u64 e 1)=true∧zbM b1∧WA b1 x1 x21 x23 x24 x25 x26 x=(0,0,0,0,zcg x26)) ∧
   (zl7 b1 f 8 (zar .u64 e 64)=b2∧p15 b1 f 8 (zar .u64 e 64)=true∧zbM b2∧WA b2 x1 x21 x23 x24 x25 x26 x=(0,0,0,0,zcg x26)) ∧
   (zl7 b2 f 8 e=b3∧p15 b2 f 8 e=true∧zbM b3∧WA b3 x1 x21 x23 x24 x25 x26 x=(v,n,e,f,0)) ∧
   (n=0→∀ y,0≤y→y<18446744073709551616→∃ z b4,ilor .u64 (ishl .u64 (zaf .u64 y 17592186044415) 10) (zaf .u64 e 1023)=z ∧
    zl7 b3 f 8 z=b4∧p15 b3 f 8 z=true∧zbM b4∧WA b4 x1 x21 x23 x24 x25 x26 x=(ilor .u64 (ishl .u64 (ishr .u64 z 10) 12) (zaf .u64 x 4095),0,z,f,0)):=by
 rcases znt b hs x1 x21 x23 x24 x25 x26 x hx0 hx1 with h | h | ⟨n,e,f,v,hw,hn,hf,hp,he,e0,e1,ha,had,h1,h2,h3,h4⟩
 ·exact .inl h
 ·exact .inr (.inl h)
 ·obtain ⟨u0,u1⟩:0≤zar .u64 e 1∧zar .u64 e 1<18446744073709551616:=zci _
  obtain ⟨v0,v1⟩:0≤zar .u64 e 64∧zar .u64 e 64<18446744073709551616:=zci _
  obtain ⟨q1,a1⟩:=zea hs hf hp u0 u1
  obtain ⟨q2,a2⟩:=zea a1.1 hf hp v0 v1
  obtain ⟨q3,a3⟩:=zea a2.1 hf hp e0 e1
  have a2':=a1.trans a2
  have a3':=a2'.trans a3
  refine .inr (.inr ⟨n,e,f,v,_,_,_,hw,hn,hf,he,ha,had,⟨rfl,q1,a1.1,h1 _ a1⟩,⟨rfl,q2,a2.1,h2 _ a2'⟩,⟨rfl,q3,a3.1,h3 _ a3'⟩,fun hn0 y y0 y1=>?_⟩)
  obtain ⟨z,hz,z0,z1,hall⟩:=h4 hn0 y y0 y1
  obtain ⟨q4,a4⟩:=zea a3.1 hf hp z0 z1
  exact ⟨z,_,hz,rfl,q4,a4.1,hall _ (a3'.trans a4)⟩
theorem ztW (img:List DV) (x1 x2 x3 x4 x5 x6 x7 x8 x9 x10 x11 x12 x13 x14 x15 x16 x17 x18 x19 x20 x21 x22:Int) (x23 x24:List DV) (x25 x26 x27 x28:Int) (hx0:0≤x27) (hx1:x27<18446744073709551616) (hy0:0≤x28) (hy1:x28<18446744073709551616):P6 FE img x1 x2 x3 x4 x5 x6 x7 x8 x9 x10 x11 x12 x13 x14 x15 x16 x17 x18 x19 x20 x21 x22 x23 x24 x25 x26 x27 x28=true:=by
 obtain ⟨n1,n2,n3,n4⟩:=zwz img
 unfold P6
 extract_lets -merge x29 x30 x31 x32 x34 x35 x36 x37 x38 x39 x41 x42 x43 x44 y45 x45 x46 x47 x48 z49 x49 x50 x51 x52 x53 x54 x55 x56 x57 x58 x59 x60 x61 x71 x72 x73 x74 z75 x75 x76 x77 x78 x79 x80 x81 x82 x83 x84 x85 x86 x87 x88 x89 x90 x91 x92 x93 x94 x95 x96 x97 x98 x99 x100 x101 x102 x103 x104 x105 x106 x108 x109 x110 x111 x112 x113 x114 x115 x116 x117 y118 x118 x123 x124 x125 x126 x127 x128 x129 x130 x131 x132 x133 x134 x135 x137 x138 x139 x140 x141 x142 x143 x144 x145 x146 y147 x147 x152 x153 x154 x155 x156 x157 x158 x159 x160 x161 x162 x163 x165 x166 x167 x168 x169 x170 x171 x172 x173 x174 y175 x175 x176 x177 x178 x179 x180 x181 x182 x183 x184 x185 x186 x187 x188 x189 x190 x191 x192 x193 x194 x195 x196 x197 x198 x199 x200 x201 x202 x203 x204 x205 x206 x207 x208 x209 x210 x211 x212 x213 x215 x216 x217 x218 x219 x220 x221 x222 x223 x224 y225 x225
 have e29:x29=true:=congrArg (fun l:List DV=>(l.getD 0 default).toB) zpT
 have e35:x35=true:=(congrArg (fun l:List DV=>(l.getD 0 default).toB) (fs12 img)).trans n1
 have e37:x37=decide (img.length≤1048576):=(congrArg (fun l:List DV=>(l.getD 2 default).toB) (fs12 img)).trans n2
 have e36:x36=bif decide (img.length≤1048576) then 1 else 0:=(congrArg (fun l:List DV=>(l.getD 1 default).toI) (fs12 img)).trans n3
 have e38:x38=zqG img []:=congrArg (fun l:List DV=>(l.getD 3 default).toL) (fs12 img)
 cases hc:decide (img.length≤1048576) with
 | false =>
  have e41:x41=false:=by show (!(!x37))=false;rw [e37,hc];rfl
  rw [e41,e29,e35]
  simp [ow]
 | true =>
  have e42:x42=true:=by show (x36==1)=true;rw [e36,hc];rfl
  rw [n4 (of_decide_eq_true hc)] at e38
  have e43:x43=true:=by show (x38.getD 0 default).toB=true;rw [e38];rfl
  have e44:x44=bus0 img:=by show (x38.getD 1 default).toL=_;rw [e38];rfl
  have hs:zbM x44:=by rw [e44];exact zj1 img
  obtain ⟨w,w0,w1,w2,w3,w4,w5⟩:=fw x44 hs x1 x2 x3 x4 x5 x6 x7 x8 x9 x10 x11 x12 x13 x14 x15 x16 x17 x18 x19 x20 x21 x22 x23 x24 x25 x26 x27
  have e45:x45=true:=w
  have e47:x47=_:=w1
  have e49:x49=_:=w3
  have e50:x50=_:=w4
  have e51:x51=x44:=w5
  have k1:∀ l,ow l x29=true:=fun l=>za0 e29
  have k2:∀ l,ow l x35=true:=fun l=>za0 e35
  have k3:∀ l,ow l x42=true:=fun l=>za0 e42
  have k4:∀ l,ow l x43=true:=fun l=>za0 e43
  have k5:∀ l,ow l x45=true:=fun l=>za0 e45
  rcases chain x44 hs x1 x21 x23 x24 x25 x26 x27 hx0 hx1 with ⟨c,hc2,h⟩ | h | ⟨n,e,f,v,b1,b2,b3,h,hn,hf,he,ha,had,⟨c1,c2,c3,c4⟩,⟨d1,d2,d3,d4⟩,⟨g1,g2,g3,g4⟩,hz⟩
  ·have e71:x71=false:=by show (!((x50 != 0)||ilt x47 0))=false;rw [e50,h];simp [hc2]
   simp only [List.all_cons,List.all_nil,id_eq,Bool.and_true,k1,k2,k3,k4,k5,Bool.true_and]
   rw [e71]
   simp [ow]
  ·have e71:x71=false:=by show (!((x50 != 0)||ilt x47 0))=false;rw [e50,e47,h];rfl
   simp only [List.all_cons,List.all_nil,id_eq,Bool.and_true,k1,k2,k3,k4,k5,Bool.true_and]
   rw [e71]
   simp [ow]
  ·rw [h] at e47 e49 e50
   have e49:x49=f:=e49
   have e47:x47=n:=e47
   have e73:x73=x44:=(zb8 (b:=x51) (by rw [e51];exact hs)).trans e51
   have s73:=fs14 x44 hs z49 (by rw [show z49.toI=f from e49];exact hf)
   rw [←e73] at s73
   obtain ⟨t1,t2,t3,t4⟩:=s73
   have e74:x74=true:=t1
   have e75:x75=e:=t2.trans (by rw [e73,show z49.toI=f from e49];exact he)
   have e77:x77=x44:=(show x77=x73 from t4).trans e73
   have e105:x105=x44:=(zb8 (b:=x77) (by rw [e77];exact hs)).trans e77
   have e106:x106=true:=(ztV x105 z49 (.i x103)).trans (by rw [e105,show z49.toI=f from e49,show (DV.i x103).toI=zar .u64 e 1 from by show zar .u64 x75 1=_;rw [e75]];exact c2)
   have e108:x108=b1:=(fs15 x105 z49 (.i x103)).trans (by rw [e105,show z49.toI=f from e49,show (DV.i x103).toI=zar .u64 e 1 from by show zar .u64 x75 1=_;rw [e75]];exact c1)
   have e117:x117=b1:=(zb8 (b:=x108) (by rw [e108];exact c3)).trans e108
   have s117:=fw b1 c3 x1 x2 x3 x4 x5 x6 x7 x8 x9 x10 x11 x12 x13 x14 x15 x16 x17 x18 x19 x20 x21 x22 x23 x24 x25 x26 x27
   rw [←e117] at s117
   obtain ⟨m,m0,m1,m2,m3,m4,m5⟩:=s117
   have e118:x118=true:=m
   have e124:x124=b1:=(show x124=x117 from m5).trans e117
   have e134:x134=b1:=(zb8 (b:=x124) (by rw [e124];exact c3)).trans e124
   have e132:x132=zar .u64 e 64:=by show zar .u64 x75 64=_;rw [e75]
   have e135:x135=true:=(ztV x134 z49 (.i x132)).trans (by rw [e134,show z49.toI=f from e49,show (DV.i x132).toI=_ from e132];exact d2)
   have e137:x137=b2:=(fs15 x134 z49 (.i x132)).trans (by rw [e134,show z49.toI=f from e49,show (DV.i x132).toI=_ from e132];exact d1)
   have e146:x146=b2:=(zb8 (b:=x137) (by rw [e137];exact d3)).trans e137
   have s146:=fw b2 d3 x1 x2 x3 x4 x5 x6 x7 x8 x9 x10 x11 x12 x13 x14 x15 x16 x17 x18 x19 x20 x21 x22 x23 x24 x25 x26 x27
   rw [←e146] at s146
   obtain ⟨o,o0,o1,o2,o3,o4,o5⟩:=s146
   have e147:x147=true:=o
   have e153:x153=b2:=(show x153=x146 from o5).trans e146
   have e162:x162=b2:=(zb8 (b:=x153) (by rw [e153];exact d3)).trans e153
   have e163:x163=true:=(ztV x162 z49 z75).trans (by rw [e162,show z49.toI=f from e49,show z75.toI=e from e75];exact g2)
   have e165:x165=b3:=(fs15 x162 z49 z75).trans (by rw [e162,show z49.toI=f from e49,show z75.toI=e from e75];exact g1)
   have e174:x174=b3:=(zb8 (b:=x165) (by rw [e165];exact g3)).trans e165
   have s174:=fw b3 g3 x1 x2 x3 x4 x5 x6 x7 x8 x9 x10 x11 x12 x13 x14 x15 x16 x17 x18 x19 x20 x21 x22 x23 x24 x25 x26 x27
   rw [←e174] at s174
   obtain ⟨q,q0,q1,q2,q3,q4,q5⟩:=s174
   have e175:x175=true:=q
   have e181:x181=b3:=(show x181=x174 from q5).trans e174
   have e212:x212=b3:=(zb8 (b:=x181) (by rw [e181];exact g3)).trans e181
   have e93:x93=true:=by
    show ige (IntKind.wrap .i64 (9*x47)) 0=true
    rw [e47]
    rcases hn with rfl | rfl | rfl<;>decide
   have j1:∀ l,ow l x74=true:=fun l=>za0 e74
   have j2:∀ l,ow l x93=true:=fun l=>za0 e93
   have j3:∀ l,ow l x106=true:=fun l=>za0 e106
   have j4:∀ l,ow l x118=true:=fun l=>za0 e118
   have j5:∀ l,ow l x135=true:=fun l=>za0 e135
   have j6:∀ l,ow l x147=true:=fun l=>za0 e147
   have j7:∀ l,ow l x163=true:=fun l=>za0 e163
   have j8:∀ l,ow l x175=true:=fun l=>za0 e175
   have hlast:(∀ a b c d e,ow [(a,true),(b,true),(c,true),(d,true),(e,true),(x206,true)] x213=true)∧(∀ a b c d e,ow [(a,true),(b,true),(c,true),(d,true),(e,true),(x206,true)] x225=true):=by
    cases hn0:x206 with
    | false=>exact ⟨fun a b c d e=>by simp [ow],fun a b c d e=>by simp [ow]⟩
    | true =>
     have hn1:n=0:=by
      have:(x47==0)=true:=hn0
      rw [e47] at this
      simpa using this
     obtain ⟨z,b4,z1,z2,z3,z4,z5⟩:=hz hn1 x28 hy0 hy1
     have e210:x210=z:=by
      show ilor .u64 (ishl .u64 (zaf .u64 x28 17592186044415) 10) (zaf .u64 x75 1023)=z
      rw [e75]
      exact z1
     have e213:x213=true:=(ztV x212 z49 (.i x210)).trans (by rw [e212,show z49.toI=f from e49,show (DV.i x210).toI=_ from e210];exact z3)
     have e215:x215=b4:=(fs15 x212 z49 (.i x210)).trans (by rw [e212,show z49.toI=f from e49,show (DV.i x210).toI=_ from e210];exact z2)
     have e224:x224=b4:=(zb8 (b:=x215) (by rw [e215];exact z4)).trans e215
     have s224:=fw b4 z4 x1 x2 x3 x4 x5 x6 x7 x8 x9 x10 x11 x12 x13 x14 x15 x16 x17 x18 x19 x20 x21 x22 x23 x24 x25 x26 x27
     rw [←e224] at s224
     have e225:x225=true:=s224.1
     exact ⟨fun a b c d e=>za0 e213,fun a b c d e=>za0 e225⟩
   simp only [List.all_cons,List.all_nil,id_eq,Bool.and_true,k1,k2,k3,k4,k5,j1,j2,j3,j4,j5,j6,j7,j8,hlast.1,hlast.2,show x72=x42 from rfl,show x98=x93 from rfl,show x104=x42 from rfl,show x116=x42 from rfl,show x133=x42 from rfl,show x145=x42 from rfl,show x161=x42 from rfl,show x173=x42 from rfl,show x211=x42 from rfl,show x223=x42 from rfl,Bool.and_self]
theorem ztX (img:List DV) (x1 x2 x3 x4 x5 x6 x7 x8 x9 x10 x11 x12 x13 x14 x15 x16 x17 x18 x19 x20 x21 x22:Int) (x23 x24:List DV) (x25 x26 x27 x28:Int) (hx0:0≤x27) (hx1:x27<18446744073709551616) (hy0:0≤x28) (hy1:x28<18446744073709551616):R6 FE img x1 x2 x3 x4 x5 x6 x7 x8 x9 x10 x11 x12 x13 x14 x15 x16 x17 x18 x19 x20 x21 x22 x23 x24 x25 x26 x27 x28=true:=by
 obtain ⟨n1,n2,n3,n4⟩:=zwz img
 unfold R6
 extract_lets -merge x30 x31 x32 x34 x36 x37 x38 x39 x40 x41 x44 y46 x46 x47 x48 z49 x49 x50 x51 x52 x53 x54 x55 x56 x57 x58 x59 x60 x61 x62 x63 x64 x65 x66 x67 x68 x69 x70 x71 x73 z75 x75 x76 x77 x78 x79 x80 x81 x82 x83 x84 x85 x86 x87 x88 x89 x90 x91 x92 x94 x95 x96 x97 x99 x100 x101 x102 x103 x105 x108 x109 x110 x111 x112 x113 x114 x115 x117 y123 x123 x124 x125 x126 x127 x128 x129 x130 x131 x132 x134 x137 x138 x139 x140 x141 x142 x143 x144 x146 y152 x152 x153 x154 x155 x156 x157 x158 x159 x160 x162 x165 x166 x167 x168 x169 x170 x171 x172 x174 y176 x176 x177 x178 x179 x180 x181 x182 x183 x184 x185 x186 x187 x188 x189 x190 x191 x192 x193 x194 x195 x196 x197 x198 x199 x200 x201 x202 x203 x204 x205 x206 x207 x208 x209 x210 x212 x215 x216 x217 x218 x219 x220 x221 x222 x224 y226 x226 x228 x230 x239 x240 x241 x242 x243 x244 x245 x246 x247 x248 x249 x257 x265 x273 x281 x282
 have e30:x30=true:=congrArg (fun l:List DV=>(l.getD 1 default).toB) zpT
 have e32:x32=true:=by show (!(!x30))=true;rw [e30];rfl
 have e37:x37=decide (img.length≤1048576):=(congrArg (fun l:List DV=>(l.getD 2 default).toB) (fs12 img)).trans n2
 have e36:x36=bif decide (img.length≤1048576) then 1 else 0:=(congrArg (fun l:List DV=>(l.getD 1 default).toI) (fs12 img)).trans n3
 have e38:x38=zqG img []:=congrArg (fun l:List DV=>(l.getD 3 default).toL) (fs12 img)
 show (x32&&bif x41 then (bif x71 then (x102&&x257) else x70) else x40)=true
 rw [e32,Bool.true_and]
 cases hc:decide (img.length≤1048576) with
 | false =>
  have e41:x41=false:=by show (!(!x37))=false;rw [e37,hc];rfl
  rw [e41]
  show (x36==0)=true
  rw [e36,hc]
  rfl
 | true =>
  have e41:x41=true:=by show (!(!x37))=true;rw [e37,hc];rfl
  rw [e41,cond_true]
  rw [n4 (of_decide_eq_true hc)] at e38
  have e44:x44=bus0 img:=by show (x38.getD 1 default).toL=_;rw [e38];rfl
  have hs:zbM x44:=by rw [e44];exact zj1 img
  obtain ⟨w,w0,w1,w2,w3,w4,w5⟩:=fw x44 hs x1 x2 x3 x4 x5 x6 x7 x8 x9 x10 x11 x12 x13 x14 x15 x16 x17 x18 x19 x20 x21 x22 x23 x24 x25 x26 x27
  have e46:x46=_:=w0
  have e47:x47=_:=w1
  have e48:x48=_:=w2
  have e49:x49=_:=w3
  have e50:x50=_:=w4
  have e51:x51=x44:=w5
  rcases chain x44 hs x1 x21 x23 x24 x25 x26 x27 hx0 hx1 with ⟨c,hc2,h⟩ | h | ⟨n,e,f,v,b1,b2,b3,h,hn,hf,he,ha,had,⟨c1,c2,c3,c4⟩,⟨d1,d2,d3,d4⟩,⟨g1,g2,g3,g4⟩,hz⟩
  ·have e71:x71=false:=by show (!((x50 != 0)||ilt x47 0))=false;rw [e50,h];simp [hc2]
   rw [e71]
   show ((x50==0)||((x46==0)&&((x47==0)&&((x48==0)&&(x49==0)))))=true
   rw [e46,e47,e48,e49,h]
   simp
  ·have e71:x71=false:=by show (!((x50 != 0)||ilt x47 0))=false;rw [e50,e47,h];rfl
   rw [e71]
   show ((x50==0)||_)=true
   rw [e50,h]
   rfl
  ·rw [h] at e46 e47 e48 e49 e50
   have e46:x46=v:=e46
   have e47:x47=n:=e47
   have e48:x48=e:=e48
   have e49:x49=f:=e49
   have e71:x71=true:=by
    show (!((x50 != 0)||ilt x47 0))=true
    rw [e50,e47]
    rcases hn with rfl | rfl | rfl<;>rfl
   have e73:x73=x44:=(zb8 (b:=x51) (by rw [e51];exact hs)).trans e51
   have s73:=fs14 x44 hs z49 (by rw [show z49.toI=f from e49];exact hf)
   rw [←e73] at s73
   obtain ⟨t1,t2,t3,t4⟩:=s73
   have e75:x75=e:=t2.trans (by rw [e73,show z49.toI=f from e49];exact he)
   have e76:x76=true:=t3
   have e77:x77=x44:=(show x77=x73 from t4).trans e73
   have e88:x88=true:=(fs10 x1 x2 x3 x4 x5 x6 x7 x8 x9 x10 x11 x12 x13 x14 x15 x16 x17 x18 x19 x20 x21 x22 x23 x24 x25 x26 z75).trans (by rw [show z75.toI=e from e75];exact ha)
   have e102:x102=true:=by
    show (!((((!x76)||(x75 != x48))||(!x88))||(ishr .u64 (ishr .u64 x46 12) (IntKind.wrap .i64 (9*x47)) != ishr .u64 (zaf .u64 (ishr .u64 x75 10) 17592186044415) (IntKind.wrap .i64 (9*x47)))))=true
    rw [e76,e75,e48,e88,e46,e47,had]
    simp
   have e105:x105=x44:=(zb8 (b:=x77) (by rw [e77];exact hs)).trans e77
   have e108:x108=b1:=(fs15 x105 z49 (.i x103)).trans (by rw [e105,show z49.toI=f from e49,show (DV.i x103).toI=zar .u64 e 1 from by show zar .u64 x75 1=_;rw [e75]];exact c1)
   have e117:x117=b1:=(zb8 (b:=x108) (by rw [e108];exact c3)).trans e108
   have s117:=fw b1 c3 x1 x2 x3 x4 x5 x6 x7 x8 x9 x10 x11 x12 x13 x14 x15 x16 x17 x18 x19 x20 x21 x22 x23 x24 x25 x26 x27
   rw [c4,←e117] at s117
   obtain ⟨m,m0,m1,m2,m3,m4,m5⟩:=s117
   have e123:x123=zcg x26:=m4
   have e124:x124=b1:=(show x124=x117 from m5).trans e117
   have e134:x134=b1:=(zb8 (b:=x124) (by rw [e124];exact c3)).trans e124
   have e132:x132=zar .u64 e 64:=by show zar .u64 x75 64=_;rw [e75]
   have e137:x137=b2:=(fs15 x134 z49 (.i x132)).trans (by rw [e134,show z49.toI=f from e49,show (DV.i x132).toI=_ from e132];exact d1)
   have e146:x146=b2:=(zb8 (b:=x137) (by rw [e137];exact d3)).trans e137
   have s146:=fw b2 d3 x1 x2 x3 x4 x5 x6 x7 x8 x9 x10 x11 x12 x13 x14 x15 x16 x17 x18 x19 x20 x21 x22 x23 x24 x25 x26 x27
   rw [d4,←e146] at s146
   obtain ⟨o,o0,o1,o2,o3,o4,o5⟩:=s146
   have e152:x152=zcg x26:=o4
   have e153:x153=b2:=(show x153=x146 from o5).trans e146
   have e162:x162=b2:=(zb8 (b:=x153) (by rw [e153];exact d3)).trans e153
   have e165:x165=b3:=(fs15 x162 z49 z75).trans (by rw [e162,show z49.toI=f from e49,show z75.toI=e from e75];exact g1)
   have e174:x174=b3:=(zb8 (b:=x165) (by rw [e165];exact g3)).trans e165
   have s174:=fw b3 g3 x1 x2 x3 x4 x5 x6 x7 x8 x9 x10 x11 x12 x13 x14 x15 x16 x17 x18 x19 x20 x21 x22 x23 x24 x25 x26 x27
   rw [g4,←e174] at s174
   obtain ⟨q,q0,q1,q2,q3,q4,q5⟩:=s174
   have e176:x176=v:=q0
   have e177:x177=n:=q1
   have e178:x178=e:=q2
   have e179:x179=f:=q3
   have e180:x180=0:=q4
   have e181:x181=b3:=(show x181=x174 from q5).trans e174
   have e189:x189=zcg x26:=fs16 x26
   have e205:x205=true:=by
    show (!((((x123 != x189)||(x152 != x189))||(x180 != 0))||(!((x176==x46)&&((x177==x47)&&((x178==x48)&&(x179==x49)))))))=true
    rw [e123,e152,e189,e180,e176,e177,e178,e179,e46,e47,e48,e49]
    simp
   rw [e71,cond_true,e102,Bool.true_and]
   show (x205&&((!x206)||x247))=true
   rw [e205,Bool.true_and]
   cases hn0:x206 with
   | false=>rfl
   | true =>
    have hn1:n=0:=by
     have:(x47==0)=true:=hn0
     rw [e47] at this
     simpa using this
    obtain ⟨z,b4,z1,z2,z3,z4,z5⟩:=hz hn1 x28 hy0 hy1
    have e210:x210=z:=by
     show ilor .u64 (ishl .u64 (zaf .u64 x28 17592186044415) 10) (zaf .u64 x75 1023)=z
     rw [e75]
     exact z1
    have e212:x212=b3:=(zb8 (b:=x181) (by rw [e181];exact g3)).trans e181
    have e215:x215=b4:=(fs15 x212 z49 (.i x210)).trans (by rw [e212,show z49.toI=f from e49,show (DV.i x210).toI=_ from e210];exact z2)
    have e224:x224=b4:=(zb8 (b:=x215) (by rw [e215];exact z4)).trans e215
    have s224:=fw b4 z4 x1 x2 x3 x4 x5 x6 x7 x8 x9 x10 x11 x12 x13 x14 x15 x16 x17 x18 x19 x20 x21 x22 x23 x24 x25 x26 x27
    rw [z5,←e224] at s224
    obtain ⟨r,r0,r1,r2,r3,r4,r5⟩:=s224
    have e226:x226=ilor .u64 (ishl .u64 (ishr .u64 z 10) 12) (zaf .u64 x27 4095):=r0
    have e228:x228=z:=r2
    have e230:x230=0:=r4
    show (!true||(((x230==0)&&(x226==ilor .u64 (ishl .u64 (ishr .u64 x210 10) 12) (zaf .u64 x27 4095)))&&(x228==x210)))=true
    rw [e230,e226,e228,e210]
    simp
end Go.Proofs.YtedoffkaehcnmaaDoor
namespace Go.Sx
open Go Go.ChangeShapes Go.WideShapes Go.RowKit
inductive Sh where
 | one (t:LT)
 | agg (l:List LT)
 deriving Inhabited
def Sh.lts:Sh→List LT
 | .one t=>[t]
 | .agg l=>l
def nIn (ss:List Sh):Nat:=(ss.map fun s=>s.lts.length).sum
def LT.conc (t:LT) (d:DV):Value :=
 match t with
 | .int k=>.int k d.toI
 | .bool=>.bool d.toB
 | .vec _=>.bool false
def zdk (g:Nat→DV):Nat→List LT→List Value
 | _,[]=>[]
 | j,t::ts=>t.conc (g j)::zdk g (j+1) ts
def zdq (g:Nat→DV):Nat→List Sh→List Value
 | _,[]=>[]
 | j,.one t::ss=>t.conc (g j)::zdq g (j+1) ss
 | j,.agg ts::ss=>.agg (zdk g j ts).toArray::zdq g (j+ts.length) ss
def LT.pat (j:Nat):LT→Lf
 | .int k=>.i k (.h j)
 | .bool=>.b (.h j)
 | .vec _=>.b (.t false)
def zcW:Nat→List LT→List Lf
 | _,[]=>[]
 | j,t::ts=>t.pat j::zcW (j+1) ts
def patShapes:Nat→List Sh→List V
 | _,[]=>[]
 | j,.one t::ss=>.s (.one (t.pat j))::patShapes (j+1) ss
 | j,.agg ts::ss=>.s (.agg (zcW j ts))::patShapes (j+ts.length) ss
theorem zeW:∀ (k n j:Nat),j<k→(zal n k).getD j default = .r (n+j)
 | 0,_,_,h=>by omega
 | k+1,n,0,_=>rfl
 | k+1,n,j+1,h=>by
  have:=zeW k (n+1) j (by omega)
  simp only [zal,List.getD_cons_succ,this]
  congr 1
  omega
theorem zpU {n:Nat} (g:Nat→DV) (ρ:Nat→Loc) {t:LT} {j:Nat} (h:j<n):((t.pat j).inst (zal 0 n)).conc g ρ=t.conc (g j)∧((t.pat j).inst (zal 0 n)).good g:=by
 have e:(A.h j).inst (zal 0 n) = .r j:=by
  have:=zeW n 0 j h
  simpa [A.inst] using this
 cases t with
 | int k=>exact ⟨by simp only [LT.pat,Lf.inst,e];rfl,trivial⟩
 | bool=>exact ⟨by simp only [LT.pat,Lf.inst,e];rfl,trivial⟩
 | vec ts=>exact ⟨rfl,trivial⟩
theorem zfB {n:Nat} (g:Nat→DV) (ρ:Nat→Loc):∀ (ts:List LT) (j:Nat),j+ts.length≤n→((zcW j ts).map (Lf.inst (zal 0 n))).map (Lf.conc g ρ)=zdk g j ts∧∀ x∈(zcW j ts).map (Lf.inst (zal 0 n)),Lf.good g x
 | [],j,_=>⟨rfl,fun x hx=>by cases hx⟩
 | t::ts,j,h=>by
  simp only [List.length_cons] at h
  obtain ⟨h1,h2⟩:=zfB (n:=n) g ρ ts (j+1) (by omega)
  obtain ⟨h3,h4⟩:=zpU g ρ (t:=t) (show j<n by omega)
  refine ⟨by simp only [zcW,List.map_cons,zdk,h1,h3],fun x hx=>?_⟩
  simp only [zcW,List.map_cons] at hx
  rcases List.mem_cons.1 hx with rfl | hx
  ·exact h4
  ·exact h2 x hx
def zfC (P:Program) (rec:TypeId→Option (List LT)):Nat→List Field→Option (List LT)
 | _,[]=>some []
 | o,f::fs =>
  if Nat.beq f.offset o then
   match rec f.type with
   | none=>none
   | some l =>
    if Nat.beq l.length (P.cellsOf f.type) then
     match zfC P rec (o+l.length) fs with
     | none=>none
     | some r=>some (l++r)
    else none
  else none
def zeX (P:Program):Nat→TypeId→Option (List LT)
 | 0,_=>none
 | d+1,t =>
  match P.underlying t with
  | some .bool=>some [.bool]
  | some (.int k)=>some [.int k]
  | some (.array n e) =>
   match zeX P d e with
   | none=>none
   | some l=>if Nat.beq l.length (P.cellsOf e)&&Nat.beq (P.cellsOf t) (n*l.length) then some (List.replicate n l).flatten else none
  | some (.struct fs) =>
   match zfC P (zeX P d) 0 fs.toList with
   | none=>none
   | some l=>if Nat.beq l.length (P.cellsOf t) then some l else none
  | _=>none
def zo3 (P:Program) (t:TypeId):Option Sh :=
 match P.underlying t with
 | some .bool=>some (.one .bool)
 | some (.int k)=>some (.one (.int k))
 | some (.array _ _)=>(zeX P 20 t).map .agg
 | some (.struct _)=>(zeX P 20 t).map .agg
 | _=>none
def zj3:LT→Value→Prop
 | .int k,.int k' n=>k'=k∧(Lit.int k n).wf=true
 | .bool,.bool _=>True
 | _,_=>False
def zb9:List LT→List Value→Prop
 | [],[]=>True
 | t::ts,v::vs=>zj3 t v∧zb9 ts vs
 | _,_=>False
theorem zb9.len:∀ {ts:List LT} {vs:List Value},zb9 ts vs→vs.length=ts.length
 | [],[],_=>rfl
 | _::_,_::_,h=>by simp [zb9.len h.2]
 | [],_::_,h=>h.elim
 | _::_,[],h=>h.elim
theorem zb9.append:∀ {a b:List LT} {c d:List Value},zb9 a c→zb9 b d→zb9 (a++b) (c++d)
 | [],_,[],_,_,h=>h
 | _::_,_,_::_,_,h,h'=>⟨h.1,zb9.append h.2 h'⟩
 | [],_,_::_,_,h,_=>h.elim
 | _::_,_,[],_,h,_=>h.elim
theorem zhs {α β γ:Type} {f g:α→Option (β×List γ)} : ∀ {l:List α} {xs:List (β×List γ)},l.mapM f=some xs →
  (∀ a∈l,∀ y,f a=some y→g a=some y∧y.2=[])→l.mapM g=some xs∧xs.flatMap (·.2)=[]∧∀ a∈l,∃ y,f a=some y
 | [],xs,h,_=>by
  simp at h
  subst h
  exact ⟨by simp,rfl,fun a ha=>by cases ha⟩
 | a::l,xs,h,hc=>by
  simp only [List.mapM_cons,Option.bind_eq_bind,Option.bind_eq_some_iff,Option.pure_def,Option.some.injEq] at h
  obtain ⟨y,hy,ys,hys,rfl⟩:=h
  obtain ⟨h1,h2⟩:=hc a (by simp) y hy
  obtain ⟨h3,h4,h5⟩:=zhs hys (fun b hb=>hc b (List.mem_cons_of_mem _ hb))
  refine ⟨by simp [List.mapM_cons,h1,h3],by simp only [List.flatMap_cons,h2,h4,List.nil_append],fun b hb=>?_⟩
  rcases List.mem_cons.1 hb with rfl | hb
  ·exact ⟨y,hy⟩
  ·exact h5 b hb
theorem zj4 {l:List LT} {c:Nat} (hl:l.length=c):∀ {n:Nat} {cs:List Value},cs.length=n*c→(∀ i,i<n→zb9 l ((cs.drop (i*c)).take c))→zb9 (List.replicate n l).flatten cs
 | 0,cs,h,_=>by
  have:cs=[]:=List.eq_nil_of_length_eq_zero (by simpa using h)
  subst this
  trivial
 | n+1,cs,h,hp=>by
  have h0:=hp 0 (by omega)
  simp only [Nat.zero_mul,List.drop_zero] at h0
  have h1:=zj4 hl (n:=n) (cs:=cs.drop c) (by rw [List.length_drop,h,Nat.succ_mul];omega) (fun i hi=>by
   have:=hp (i+1) (by omega)
   rw [List.drop_drop]
   rwa [show c+i*c=(i+1)*c from by rw [Nat.succ_mul];omega])
  have:=zb9.append h0 h1
  rw [List.take_append_drop] at this
  simpa [List.replicate_succ] using this
section
variable {H:Type} {enc:TypeId×Value→H} {P:Program}
def zwV (enc:TypeId×Value→H) (P:Program) (fuel:Nat) (t:TypeId) (lts:List LT):Prop :=
 ∀ (w:World) (base:Nat) (sp:Nat→Bool) (held:Bool) (cs:List Value) (x:DataW H) (ps:List MemPlace),DataW.trod enc P w base sp held fuel t cs=some (x,ps) →
  zb9 lts cs∧ps=[]∧∀ (w':World) (base':Nat) (sp':Nat→Bool) (held':Bool),DataW.trod enc P w' base' sp' held' fuel t cs=some (x,[])
theorem zgZ {rec:TypeId→Option (List LT)} {cs:List Value} : ∀ {fs:List Field} {o:Nat} {l:List LT},zfC P rec o fs=some l→cs.length=o+l.length →
  (∀ f∈fs,∀ r,rec f.type=some r→zb9 r ((cs.drop f.offset).take (P.cellsOf f.type)))→zb9 l (cs.drop o)
 | [],o,l,h,hlen,_=>by
  simp [zfC] at h
  subst h
  rw [List.drop_of_length_le (by simpa using Nat.le_of_eq hlen)]
  trivial
 | f::fs,o,l,h,hlen,hp=>by
  simp only [zfC] at h
  split at h
  ·rename_i ho
   have ho:=Nat.eq_of_beq_eq_true ho
   split at h
   ·cases h
   ·rename_i r hr
    split at h
    ·rename_i hc
     have hc:=Nat.eq_of_beq_eq_true hc
     split at h
     ·cases h
     ·rename_i r' hr'
      cases h
      have h0:=hp f (by simp) r hr
      have h1:=zgZ hr' (by simp at hlen;omega) (fun g hg=>hp g (List.mem_cons_of_mem _ hg))
      rw [ho,←hc] at h0
      have h2:=zb9.append h0 h1
      rw [←List.drop_drop,List.take_append_drop] at h2
      exact h2
    ·cases h
  ·cases h
theorem zcy:∀ (d:Nat) {t:TypeId} {lts:List LT},zeX P d t=some lts→∀ fuel,zwV enc P fuel t lts
 | 0,_,_,h,_=>by cases h
 | d+1,t,lts,h,fuel=>by
  intro w base sp held cs x ps hx
  cases fuel with
  | zero=>simp [DataW.trod] at hx
  | succ fuel =>
   simp only [zeX] at h
   split at h
   ·rename_i hu
    cases h
    obtain ⟨b,rfl,he⟩:=DataW.trod_bool hu hx
    cases he
    exact ⟨⟨trivial,trivial⟩,rfl,fun _ _ _ _=>by simp [DataW.trod,hu]⟩
   ·rename_i k hu
    cases h
    obtain ⟨n,rfl,he,hw⟩:=DataW.trod_int hu hx
    cases he
    exact ⟨⟨⟨rfl,hw⟩,trivial⟩,rfl,fun _ _ _ _=>by simp [DataW.trod,hu,hw]⟩
   ·rename_i n e hu
    split at h
    ·cases h
    ·rename_i l hl
     split at h
     ·rename_i hc
      cases h
      simp only [Bool.and_eq_true] at hc
      have hc1:=Nat.eq_of_beq_eq_true hc.1
      have hc2:=Nat.eq_of_beq_eq_true hc.2
      simp only [DataW.trod,hu] at hx
      split at hx
      ·rename_i hlen
       obtain ⟨xs,hxs,he⟩:=Option.map_eq_some_iff.1 hx
       cases he
       have ih:=zcy d hl fuel
       have hall:=fun w' base' sp' held'=>zhs (g:=fun i=>DataW.trod enc P w' base' sp' held' fuel e ((cs.drop (i*P.cellsOf e)).take (P.cellsOf e))) hxs
        (fun i _ y hy=>by
         have:=ih _ _ _ _ _ y.1 y.2 hy
         exact ⟨by rw [this.2.2 w' base' sp' held',←this.2.1],this.2.1⟩)
       refine ⟨zj4 hc1 (by rw [hlen,hc2,hc1]) (fun i hi=>?_),(hall w base sp held).2.1,fun w' base' sp' held'=>?_⟩
       ·obtain ⟨y,hy⟩:=(hall w base sp held).2.2 i (List.mem_range.2 hi)
        exact (ih _ _ _ _ _ y.1 y.2 hy).1
       ·obtain ⟨h1,h2,_⟩:=hall w' base' sp' held'
        simp only [DataW.trod,hu]
        rw [if_pos hlen,h1,Option.map_some,h2]
      ·cases hx
     ·cases h
   ·rename_i fs hu
    split at h
    ·cases h
    ·rename_i l hl
     split at h
     ·rename_i hc
      cases h
      have hc1:=Nat.eq_of_beq_eq_true hc
      simp only [DataW.trod,hu] at hx
      split at hx
      ·rename_i hlen
       obtain ⟨xs,hxs,he⟩:=Option.map_eq_some_iff.1 hx
       cases he
       -- each field's type has leaves
       have hfl:∀ {gs:List Field} {o:Nat} {r:List LT},zfC P (zeX P d) o gs=some r→∀ f∈gs,∃ r',zeX P d f.type=some r':=by
        intro gs
        induction gs with
        | nil=>intro o r _ f hf;cases hf
        | cons g gs ih =>
         intro o r hr f hf
         simp only [zfC] at hr
         split at hr
         ·split at hr
          ·cases hr
          ·rename_i r1 hr1
           split at hr
           ·split at hr
            ·cases hr
            ·rename_i r2 hr2
             rcases List.mem_cons.1 hf with rfl | hf
             ·exact ⟨r1,hr1⟩
             ·exact ih hr2 f hf
           ·cases hr
         ·cases hr
       have hall:=fun w' base' sp' held'=>zhs (g:=fun f:Field=>DataW.trod enc P w' base' sp' held' fuel f.type ((cs.drop f.offset).take (P.cellsOf f.type))) hxs
        (fun f hf y hy=>by
         obtain ⟨r',hr'⟩:=hfl hl f hf
         have:=zcy d hr' fuel _ _ _ _ _ y.1 y.2 hy
         exact ⟨by rw [this.2.2 w' base' sp' held',←this.2.1],this.2.1⟩)
       refine ⟨?_,(hall w base sp held).2.1,fun w' base' sp' held'=>?_⟩
       ·have:=zgZ (P:=P) (cs:=cs) hl (by rw [hlen,hc1];omega) (fun f hf r hr=>by
         obtain ⟨y,hy⟩:=(hall w base sp held).2.2 f hf
         exact (zcy d hr fuel _ _ _ _ _ y.1 y.2 hy).1)
        simpa using this
       ·obtain ⟨h1,h2,_⟩:=hall w' base' sp' held'
        simp only [DataW.trod,hu]
        rw [if_pos hlen,h1,Option.map_some,h2]
      ·cases hx
     ·cases h
   ·cases h
def RangeOk:List LT→List DV→Prop
 | [],[]=>True
 | .int k::ts,.i n::ds=>(Lit.int k n).wf=true∧RangeOk ts ds
 | .bool::ts,.b _::ds=>True∧RangeOk ts ds
 | _,_=>False
theorem RangeOk.len:∀ {ts:List LT} {ds:List DV},RangeOk ts ds→ds.length=ts.length
 | [],[],_=>rfl
 | .int _::_,.i _::_,h=>by simp [RangeOk.len h.2]
 | .bool::_,.b _::_,h=>by simp [RangeOk.len h.2]
 | [],_::_,h=>h.elim
 | .int _::_,[],h=>h.elim
 | .bool::_,[],h=>h.elim
 | .int _::_,.b _::_,h=>h.elim
 | .bool::_,.i _::_,h=>h.elim
 | .int _::_,.l _::_,h=>h.elim
 | .bool::_,.l _::_,h=>h.elim
 | .vec _::_,[],h=>h.elim
 | .vec _::_,_::_,h=>h.elim
theorem RangeOk.append:∀ {a b:List LT} {c d:List DV},RangeOk a c→RangeOk b d→RangeOk (a++b) (c++d)
 | [],_,[],_,_,h=>h
 | .int _::_,_,.i _::_,_,h,h'=>⟨h.1,RangeOk.append h.2 h'⟩
 | .bool::_,_,.b _::_,_,h,h'=>⟨trivial,RangeOk.append h.2 h'⟩
 | [],_,_::_,_,h,_=>h.elim
 | .int _::_,_,[],_,h,_=>h.elim
 | .bool::_,_,[],_,h,_=>h.elim
 | .int _::_,_,.b _::_,_,h,_=>h.elim
 | .bool::_,_,.i _::_,_,h,_=>h.elim
 | .int _::_,_,.l _::_,_,h,_=>h.elim
 | .bool::_,_,.l _::_,_,h,_=>h.elim
 | .vec _::_,_,[],_,h,_=>h.elim
 | .vec _::_,_,_::_,_,h,_=>h.elim
theorem RangeOk.int_at:∀ {ts:List LT} {ds:List DV} {k:IntKind} (i:Nat),RangeOk ts ds→ts[i]? = some (.int k)→(Lit.int k (dget ds i).toI).wf=true
 | .int k::ts,.i n::ds,k',0,h,e=>by
  simp at e
  subst e
  exact h.1
 | .int k::ts,.i n::ds,k',i+1,h,e=>by
  have:=RangeOk.int_at i h.2 (by simpa using e)
  simpa [dget] using this
 | .bool::ts,.b x::ds,k',0,h,e=>by simp at e
 | .bool::ts,.b x::ds,k',i+1,h,e=>by
  have:=RangeOk.int_at i h.2 (by simpa using e)
  simpa [dget] using this
 | [],_,_,_,_,e=>by simp at e
 | .int _::_,[],_,_,h,_=>h.elim
 | .bool::_,[],_,_,h,_=>h.elim
 | .int _::_,.b _::_,_,_,h,_=>h.elim
 | .bool::_,.i _::_,_,_,h,_=>h.elim
 | .int _::_,.l _::_,_,_,h,_=>h.elim
 | .bool::_,.l _::_,_,_,h,_=>h.elim
 | .vec _::_,[],_,_,h,_=>h.elim
 | .vec _::_,_::_,_,_,h,_=>h.elim
theorem zij (pre:List DV) (d:DV) (post:List DV):dget (pre++d::post) pre.length=d:=by
 simp [dget,List.getD_eq_getElem?_getD]
theorem zeb:∀ {ts:List LT} {vs:List Value},zb9 ts vs→∃ ds,RangeOk ts ds∧∀ pre post:List DV,zdk (dget (pre++ds++post)) pre.length ts=vs
 | [],[],_=>⟨[],trivial,fun _ _=>rfl⟩
 | .int k::ts,.int k' n::vs,h=>by
  obtain ⟨ds,h1,h2⟩:=zeb h.2
  obtain ⟨⟨rfl,hw⟩,_⟩:=h
  refine ⟨.i n::ds,⟨hw,h1⟩,fun pre post=>?_⟩
  have:=h2 (pre++[.i n]) post
  simp only [zdk,List.append_assoc,List.cons_append,List.nil_append,List.length_append,List.length_cons,List.length_nil,Nat.zero_add] at this ⊢
  rw [this,zij]
  rfl
 | .bool::ts,.bool b::vs,h=>by
  obtain ⟨ds,h1,h2⟩:=zeb h.2
  refine ⟨.b b::ds,⟨trivial,h1⟩,fun pre post=>?_⟩
  have:=h2 (pre++[.b b]) post
  simp only [zdk,List.append_assoc,List.cons_append,List.nil_append,List.length_append,List.length_cons,List.length_nil,Nat.zero_add] at this ⊢
  rw [this,zij]
  rfl
 | [],_::_,h=>h.elim
 | _::_,[],h=>h.elim
 | .int _::_,.bool _::_,h=>h.1.elim
 | .bool::_,.int _ _::_,h=>h.1.elim
 | .vec _::_,_::_,h=>h.1.elim
theorem zqL {w:World} {base b0:Nat} {sp:Nat→Bool} {held:Bool} {r:Reach} {t:TypeId} {v:Value} {d:DataW H} {ps:List MemPlace} {s:Sh} (hs:zo3 P t=some s)
  (hval:Value.okWide P w r b0 t v) (hd:DataW.Trod enc P w base sp held t v d ps) :
  ∃ ds:List DV,RangeOk s.lts ds∧ps=[]∧(∀ (pre post:List DV) (ss:List Sh),zdq (dget (pre++ds++post)) pre.length (s::ss)=v::zdq (dget (pre++ds++post)) (pre.length+ds.length) ss) ∧
   ∀ (w':World) (base':Nat) (sp':Nat→Bool) (held':Bool),DataW.Trod enc P w' base' sp' held' t v d []:=by
 obtain ⟨fuel,hf⟩:=hd
 unfold zo3 at hs
 split at hs
 ·rename_i hu
  cases hs
  obtain ⟨b,rfl⟩:=okWide_bool hu hval
  have hfl:zeX P 1 t=some [.bool]:=by simp [zeX,hu]
  obtain ⟨_,h2,h3⟩:=zcy (enc:=enc) 1 hfl fuel _ _ _ _ _ _ _ hf
  refine ⟨[.b b],⟨trivial,trivial⟩,h2,fun pre post ss=>?_,fun w' base' sp' held'=>⟨fuel,h3 w' base' sp' held'⟩⟩
  simp only [zdq,List.append_assoc,List.cons_append,List.nil_append,zij,List.length_cons,List.length_nil]
  rfl
 ·rename_i k hu
  cases hs
  obtain ⟨n,rfl⟩:=okWide_int hu hval
  have hfl:zeX P 1 t=some [.int k]:=by simp [zeX,hu]
  obtain ⟨h1,h2,h3⟩:=zcy (enc:=enc) 1 hfl fuel _ _ _ _ _ _ _ hf
  refine ⟨[.i n],⟨h1.1.2,trivial⟩,h2,fun pre post ss=>?_,fun w' base' sp' held'=>⟨fuel,h3 w' base' sp' held'⟩⟩
  simp only [zdq,List.append_assoc,List.cons_append,List.nil_append,zij,List.length_cons,List.length_nil]
  rfl
 ·rename_i n e hu
  obtain ⟨l,hl,rfl⟩:=Option.map_eq_some_iff.1 hs
  simp only [Value.okWide,hu] at hval
  obtain ⟨cs,rfl,_,_⟩:=hval
  obtain ⟨h1,h2,h3⟩:=zcy (enc:=enc) 20 hl fuel _ _ _ _ _ _ _ hf
  obtain ⟨ds,h4,h5⟩:=zeb h1
  refine ⟨ds,h4,h2,fun pre post ss=>?_,fun w' base' sp' held'=>⟨fuel,h3 w' base' sp' held'⟩⟩
  simp only [zdq,h5 pre post,←h4.len]
  rfl
 ·rename_i fs hu
  obtain ⟨l,hl,rfl⟩:=Option.map_eq_some_iff.1 hs
  simp only [Value.okWide,hu] at hval
  obtain ⟨cs,rfl,_,_⟩:=hval
  obtain ⟨h1,h2,h3⟩:=zcy (enc:=enc) 20 hl fuel _ _ _ _ _ _ _ hf
  obtain ⟨ds,h4,h5⟩:=zeb h1
  refine ⟨ds,h4,h2,fun pre post ss=>?_,fun w' base' sp' held'=>⟨fuel,h3 w' base' sp' held'⟩⟩
  simp only [zdq,h5 pre post,←h4.len]
  rfl
 ·cases hs
end
theorem zmd {α β:Type} {f:α→Option β} : ∀ {l:List α} {xs:List β},l.mapM f=some xs→∀ (i:Nat) (a:α),l[i]? = some a→∃ y,xs[i]? = some y∧f a=some y
 | [],xs,_,i,a,ha=>by simp at ha
 | b::l,xs,h,i,a,ha=>by
  simp only [List.mapM_cons,Option.bind_eq_bind,Option.bind_eq_some_iff,Option.pure_def,Option.some.injEq] at h
  obtain ⟨y,hy,ys,hys,rfl⟩:=h
  cases i with
  | zero=>simp at ha;subst ha;exact ⟨y,rfl,hy⟩
  | succ i=>obtain ⟨z,h1,h2⟩:=zmd hys i a (by simpa using ha);exact ⟨z,by simpa using h1,h2⟩
theorem zs2 {H:Type} {enc:TypeId×Value→H} {P:Program} {w:World} {base:Nat} {sp:Nat→Bool} {held:Bool} {fuel n:Nat} {t e:TypeId} {k:IntKind} {cs:List Value} {zs:List Int} {ps:List MemPlace}
  (hu:P.underlying t=some (.array n e)) (he:P.underlying e=some (.int k)) (hc:P.cellsOf e=1)
  (h:DataW.trod enc P w base sp held fuel t cs=some (.agg (zs.map fun z=>.lit (.int k z)),ps)):∀ (i:Nat) (z:Int),zs[i]? = some z→cs[i]? = some (.int k z):=by
 cases fuel with
 | zero=>simp [DataW.trod] at h
 | succ fuel =>
  simp only [DataW.trod,hu,hc,Nat.mul_one] at h
  split at h
  ·obtain ⟨xs,hxs,hx⟩:=Option.map_eq_some_iff.1 h
   simp only [Prod.mk.injEq,DataW.agg.injEq] at hx
   intro i z hz
   have hlen:xs.length=zs.length:=by simpa using congrArg List.length hx.1
   have hxl:xs.length=n:=by
    have key:∀ {l:List Nat} {xs:List (DataW H×List MemPlace)} {f:Nat→Option (DataW H×List MemPlace)},l.mapM f=some xs→xs.length=l.length:=by
     intro l
     induction l with
     | nil=>intro xs f h;simp at h;subst h;rfl
     | cons a l ih =>
      intro xs f h
      simp only [List.mapM_cons,Option.bind_eq_bind,Option.bind_eq_some_iff,Option.pure_def,Option.some.injEq] at h
      obtain ⟨y,_,ys,hys,rfl⟩:=h
      simp [ih hys]
    simpa using key hxs
   have hi:i<zs.length:=by
    rcases Nat.lt_or_ge i zs.length with h | h
    ·exact h
    ·rw [List.getElem?_eq_none h] at hz;cases hz
   obtain ⟨y,h1,h2⟩:=zmd hxs i i (List.getElem?_range (by omega))
   obtain ⟨m,h3,h4,_⟩:=DataW.trod_int he h2
   have h5:y.1 = .lit (.int k z):=by
    have:=congrArg (fun l=>l[i]?) hx.1
    simp only [List.getElem?_map,h1,hz,Option.map_some,Option.some.injEq] at this
    exact this
   rw [h4] at h5
   have hm:m=z:=by simpa using h5
   subst hm
   have h6:=congrArg (fun l=>l[0]?) h3
   simpa using h6
  ·cases h
theorem zo4 {P:Program} {w:World} {g:Nat} {name:String} {k:IntKind} {cs:Array Value} {zs:List Int} (hg:P.globalNamed name=some g) (hv:w.var? P name=some cs)
  (h:∀ (i:Nat) (z:Int),zs[i]? = some z→cs.toList[i]? = some (.int k z)):GlobIn w g (zs.map fun z=>.i k (.z z)):=by
 refine ⟨?_,fun i l hi ν ρ=>?_⟩
 ·unfold World.var? at hv
  rw [hg] at hv
  simp only [Option.bind_some] at hv
  rcases Nat.lt_or_ge g w.heap.size with h | h
  ·exact h
  ·rw [Array.getElem?_eq_none h] at hv;cases hv
 ·rw [List.getElem?_map] at hi
  obtain ⟨z,hz,rfl⟩:=Option.map_eq_some_iff.1 hi
  refine ⟨trivial,?_⟩
  rw [World.var?_cell hg hv i]
  have:=h i z hz
  simpa [Lf.conc] using this
section
variable {C:Checked} {os:Os} {f:FuncId} {fn:Func} {s:ChangeSpec} {H:Type} {enc:TypeId×Value→H} {sg:Sig} {G:List DV→List DV} {I:World→Prop}
structure LawSig (sg:Sig) (ss:List Sh):Prop where
 ins:sg.ins=patShapes 0 ss
 hin:sg.hin=[]
 nin:sg.nin=nIn ss
 out:sg.out = .s (.one (.b (.h 0)))
 hout:sg.hout=[]
 ots:sg.ots=[.b]
end
end Go.Sx
