/- The timer's registers: parts, Read, Write. -/
import Derived.Test.YtiabiimoalkmjaaC5
import Derived.Maps.RangeWalk
import Derived.Deep.MidRow
import Derived.BigRegion
import Derived.Deep.AppendSrc
import Derived.Deep.RegionLaw
import Derived.Test.YtiabiimoalkmjaaC3
import Derived.ProofKit
import Derived.LaidMore
import Derived.Stop.Joined
import Derived.SizedLaws
import Derived.ReadAgain
namespace Go.Proofs.Ytiabiimoalkmjaa
open Go Go.Sx Go.RowKit
open Go.ChangeMaps (setBlock)
set_option maxRecDepth 100000
structure Parts (p o : Nat) (w0 w : World) : Prop where
 size : w.heap.size = w0.heap.size + 1
 below : Below w0.heap.size w0 w
 ents : ∃ es clock, w.heap[w0.heap.size]? = some (.map es clock) ∧ (es.toList.map fun e => (e.key, e.val)).Perm ((List.range 7).map fun g => (clKey g, clPv p o g))
theorem r113 {ops : Array Oper} (hops : Try.f113.body.bind (zch 1) = some (.region 1 ops true)) (p o : Nat) {a : Act} {w : World} {Q : Exit → Act → World → Prop} (ht : a.tmps.size = 40) (hd : a.defers = []) (hp : a.tmps[0]? = some (.pointer (some ⟨p, o, none⟩)))
  (hQ : ∀ a' w', a'.defers = [] → a'.tmps[2]? = some (.map (some w.heap.size)) → Parts p o w w' → Q .normal a' w') : (Code.region 1 ops true).wp Try.prog Q a w := by
 have e : zj8 = ops := by unfold zj8; rw [hops]
 subst e
 refine wp_region_any (by kernel_rfl) ?_
 refine zsP (PInv p o w.drew) (fun l a w h => by rw [zk8]; exact h.size) (fun l a w i h hi => h.step hi) (fun l a' w' h hr => ?_) _ _ _ _ ?_ ?_
 ·have hall := zbS (by rw [zk8]; exact h.size) (by have := zpH zv2; simpa using this) hr
  rw [zk8] at hall
  obtain ⟨k1, k2, es, clock, k3, k4⟩ := h.world.then_ (hall 0 (by decide))
  refine hQ a' w' h.defers (h.val 44 (by decide) (hall 44 (by decide)) 2 rfl) ⟨k1, ⟨k2.os, k2.tape, k2.output, k2.size, k2.block⟩, es, clock, k3, ?_⟩
  have : clEnts p o l = (List.range 7).map fun g => (clKey g, clPv p o g) := by
   unfold clEnts
   congr 1
   exact List.filter_eq_self.2 fun g hg => hall _ (by have := List.mem_range.1 hg; omega)
  rw [this] at k4
  exact k4
 ·rw [zk8, Array.toList_replicate]; decide
 ·rw [zk8]
  refine ⟨by rw [Array.size_replicate], hd, ht, hp, fun j _ hl => ?_, ⟨fun _ => ⟨rfl, fun g hg => ?_⟩, fun hl => ?_⟩⟩
  ·rw [Array.getD_eq_getD_getElem?, Array.getElem?_replicate] at hl; split at hl <;> cases hl
  ·rw [Array.getD_eq_getD_getElem?, Array.getElem?_replicate]; split <;> rfl
  ·rw [Array.getD_eq_getD_getElem?, Array.getElem?_replicate] at hl; split at hl <;> cases hl
theorem w113 (p o : Nat) (w : World) : Calls Try.prog 113 #[.pointer (some ⟨p, o, none⟩)] w fun e w' => e = .returned (.map (some w.heap.size)) ∧ Parts p o w w' := by
 go_enter Try.func113, Try.ntmps113
 go_wp2
 refine r113 (by kernel_rfl) p o rfl rfl rfl fun a' w' h1 h2 h3 => ?_
 simp only [Exit.then]
 go_wp2
 refine bodyPost_ret (results_tmp rfl _ _ _) h1 ?_
 exact ⟨by rw [Array.getD_eq_getD_getElem?, h2]; rfl, h3⟩
theorem zve (w : World) : (zeroValue 144).run Try.prog w = .ok (.agg #[.pointer none, .int .i64 0, .int .i64 0]) w := by kernel_rfl
theorem zwW (p o : Nat) (k n : Int) (w : World)
  (hl : ∀ w1, Parts p o w w1 → (Instr.lookup 146 (.map (some w.heap.size)) (.agg #[.int .u64 k, .int .i64 n]) true).run Try.prog w1 = .ok (.tuple #[.agg #[.pointer none, .int .i64 0, .int .i64 0], .bool false]) w1) :
  Calls Try.prog 111 #[.pointer (some ⟨p, o, none⟩), .int .u64 k, .int .i64 n] w fun e w' => e = .returned (.tuple #[.int .u64 0, .bool false]) ∧ Below w.heap.size w w' := by
 go_enter Try.func111, Try.ntmps111
 go_wp2_with (first
  | (go_at_call 113; refine (w113 _ _ _).mono ?_; intro e w1 he1; obtain ⟨he, hw1⟩ := he1; subst he; have hl1 := hl w1 hw1)
  | go_in)
 go_ret2
 exact ⟨rfl, hw1.below.alloc (by rw [hw1.size]; omega) _⟩
theorem zwX (p o : Nat) (k n v : Int) (w : World)
  (hl : ∀ w1, Parts p o w w1 → (Instr.lookup 146 (.map (some w.heap.size)) (.agg #[.int .u64 k, .int .i64 n]) true).run Try.prog w1 = .ok (.tuple #[.agg #[.pointer none, .int .i64 0, .int .i64 0], .bool false]) w1) :
  Calls Try.prog 112 #[.pointer (some ⟨p, o, none⟩), .int .u64 k, .int .i64 n, .int .u64 v] w fun e w' => e = .returned (.bool false) ∧ Below w.heap.size w w' := by
 go_enter Try.func112, Try.ntmps112
 go_wp2_with (first
  | (go_at_call 113; refine (w113 _ _ _).mono ?_; intro e w1 he1; obtain ⟨he, hw1⟩ := he1; subst he; have hl1 := hl w1 hw1)
  | go_in)
 go_ret
 exact ⟨rfl, hw1.below.alloc (by rw [hw1.size]; omega) _⟩
theorem zax {n : Nat} {w x : World} (h : Below n w x) : Below n w x.drew := ⟨h.os, h.tape, h.output, h.size, h.block⟩
theorem znD (x : Int) : ishr .u64 x 0 = x := by unfold ishr; simp
theorem zsW (x : Int) : ishr .u64 x 32 = x / 4294967296 := by
 unfold ishr
 rw [show (2 : Int) ^ min (Int.toNat 32) IntKind.u64.bits = 4294967296 from by decide, Int.fdiv_eq_ediv_of_nonneg _ (by decide)]
theorem zpT : zc7 1 = 1 := by decide
theorem zcq : zc7 32 = 4294967295 := by decide
theorem zg1 : zc7 64 = 18446744073709551615 := by decide
theorem znE (x : Int) : ishl .u64 x 0 = IntKind.u64.wrap x := by unfold ishl; simp
theorem zsX (x : Int) : ishl .u64 x 32 = IntKind.u64.wrap (x * 4294967296) := by
 unfold ishl
 rw [show (2 : Int) ^ min (Int.toNat 32) IntKind.u64.bits = 4294967296 from by decide]
theorem zsY : ishl .u64 1 0 = 1 := by decide
theorem zk9 : ishl .u64 4294967295 0 = 4294967295 := by decide
theorem zla : ishl .u64 18446744073709551615 0 = 18446744073709551615 := by decide
theorem zkb : ishl .u64 4294967295 32 = 18446744069414584320 := by decide
theorem zv4 (p o : Nat) (k n x : Int) (w : World) (hx : w.cell? ⟨p, o, none⟩ = some (.int .u64 x))
  (hl : ∀ w1, Parts p o w w1 → (Instr.lookup 146 (.map (some w.heap.size)) (.agg #[.int .u64 k, .int .i64 n]) true).run Try.prog w1 = .ok (.tuple #[.agg #[.pointer (some ⟨p, o, none⟩), .int .i64 0, .int .i64 1], .bool true]) w1) :
  Calls Try.prog 111 #[.pointer (some ⟨p, o, none⟩), .int .u64 k, .int .i64 n] w fun e w' => e = .returned (.tuple #[.int .u64 (zb5 .u64 (ishr .u64 x 0) (zc7 1)), .bool true]) ∧ Below w.heap.size w w' := by
 go_enter Try.func111, Try.ntmps111
 go_wp2_with (first
  | (go_at_call 113; refine (w113 _ _ _).mono ?_; intro e w1 he1; obtain ⟨he, hw1⟩ := he1; subst he; have hl1 := hl w1 hw1)
  | go_in)
 have hp : p < w.heap.size := zav hx
 have hx2 : (w1.alloc (.cells #[.pointer (some ⟨p, o, none⟩), .int .i64 0, .int .i64 1] 144)).cell? ⟨p, o, none⟩ = some (.int .u64 x) := by
  rw [World.cell?_alloc_lt _ _ _ (by rw [hw1.size]; exact Nat.lt_succ_of_lt hp), World.cell?_of_block (w := w) (hw1.below.block p hp)]; exact hx
 clear hl hl1
 go_region
 simp only [Exit.then]
 go_wp2
 go_ret2
 exact ⟨congrArg (fun z => Ending.returned (.tuple #[.int .u64 z, .bool true])) (by rw [znD, zpT]; rfl), zax (hw1.below.alloc (by rw [hw1.size]; omega) _)⟩
theorem zv5 (p o : Nat) (k n v x : Int) (w : World) (hx : w.cell? ⟨p, o, none⟩ = some (.int .u64 x)) (hf : w.frozen? ⟨p, o, none⟩ = false)
  (hl : ∀ w1, Parts p o w w1 → (Instr.lookup 146 (.map (some w.heap.size)) (.agg #[.int .u64 k, .int .i64 n]) true).run Try.prog w1 = .ok (.tuple #[.agg #[.pointer (some ⟨p, o, none⟩), .int .i64 0, .int .i64 1], .bool true]) w1) :
  Calls Try.prog 112 #[.pointer (some ⟨p, o, none⟩), .int .u64 k, .int .i64 n, .int .u64 v] w fun e w' => e = .returned (.bool true) ∧ ∃ w1, Below w.heap.size w w1 ∧ w' = w1.setCell ⟨p, o, none⟩ (.int .u64 (zfo x 0 1 v)) := by
 go_enter Try.func112, Try.ntmps112
 go_wp2_with (first
  | (go_at_call 113; refine (w113 _ _ _).mono ?_; intro e w1 he1; obtain ⟨he, hw1⟩ := he1; subst he; have hl1 := hl w1 hw1)
  | go_in)
 have hp : p < w.heap.size := zav hx
 have hx2 : (w1.alloc (.cells #[.pointer (some ⟨p, o, none⟩), .int .i64 0, .int .i64 1] 144)).cell? ⟨p, o, none⟩ = some (.int .u64 x) := by
  rw [World.cell?_alloc_lt _ _ _ (by rw [hw1.size]; exact Nat.lt_succ_of_lt hp), World.cell?_of_block (w := w) (hw1.below.block p hp)]; exact hx
 have hf2 : (w1.alloc (.cells #[.pointer (some ⟨p, o, none⟩), .int .i64 0, .int .i64 1] 144)).frozen? ⟨p, o, none⟩ = false := by
  rw [World.frozen?_of_block (w := w1) ((MapKept.heap_alloc _ _).2 p (by rw [hw1.size]; omega)), World.frozen?_of_block (w := w) (hw1.below.block p hp)]; exact hf
 clear hl hl1
 go_region
 go_wp2
 go_region
 simp only [Exit.then]
 go_wp2
 go_ret
 exact ⟨rfl, (w1.alloc (.cells #[.pointer (some ⟨p, o, none⟩), .int .i64 0, .int .i64 1] 144)).drew.drew, zax (zax (hw1.below.alloc (by rw [hw1.size]; omega) _)), congrArg (fun z => ((w1.alloc (.cells #[.pointer (some ⟨p, o, none⟩), .int .i64 0, .int .i64 1] 144)).setCell ⟨p, o, none⟩ (.int .u64 z)).drew.drew) (by unfold zfo; rw [zpT, zsY, znE]; rfl)⟩
theorem zv6 (p o : Nat) (k n x : Int) (w : World) (hx : w.cell? ⟨p, o + 2, none⟩ = some (.int .u64 x))
  (hl : ∀ w1, Parts p o w w1 → (Instr.lookup 146 (.map (some w.heap.size)) (.agg #[.int .u64 k, .int .i64 n]) true).run Try.prog w1 = .ok (.tuple #[.agg #[.pointer (some ⟨p, o + 2, none⟩), .int .i64 0, .int .i64 64], .bool true]) w1) :
  Calls Try.prog 111 #[.pointer (some ⟨p, o, none⟩), .int .u64 k, .int .i64 n] w fun e w' => e = .returned (.tuple #[.int .u64 (zb5 .u64 (ishr .u64 x 0) (zc7 64)), .bool true]) ∧ Below w.heap.size w w' := by
 go_enter Try.func111, Try.ntmps111
 go_wp2_with (first
  | (go_at_call 113; refine (w113 _ _ _).mono ?_; intro e w1 he1; obtain ⟨he, hw1⟩ := he1; subst he; have hl1 := hl w1 hw1)
  | go_in)
 have hp : p < w.heap.size := zav hx
 have hx2 : (w1.alloc (.cells #[.pointer (some ⟨p, o + 2, none⟩), .int .i64 0, .int .i64 64] 144)).cell? ⟨p, o + 2, none⟩ = some (.int .u64 x) := by
  rw [World.cell?_alloc_lt _ _ _ (by rw [hw1.size]; exact Nat.lt_succ_of_lt hp), World.cell?_of_block (w := w) (hw1.below.block p hp)]; exact hx
 clear hl hl1
 go_region
 simp only [Exit.then]
 go_wp2
 go_ret2
 exact ⟨congrArg (fun z => Ending.returned (.tuple #[.int .u64 z, .bool true])) (by rw [znD, zg1]; rfl), zax (hw1.below.alloc (by rw [hw1.size]; omega) _)⟩
theorem zv7 (p o : Nat) (k n v x : Int) (w : World) (hx : w.cell? ⟨p, o + 2, none⟩ = some (.int .u64 x)) (hf : w.frozen? ⟨p, o + 2, none⟩ = false)
  (hl : ∀ w1, Parts p o w w1 → (Instr.lookup 146 (.map (some w.heap.size)) (.agg #[.int .u64 k, .int .i64 n]) true).run Try.prog w1 = .ok (.tuple #[.agg #[.pointer (some ⟨p, o + 2, none⟩), .int .i64 0, .int .i64 64], .bool true]) w1) :
  Calls Try.prog 112 #[.pointer (some ⟨p, o, none⟩), .int .u64 k, .int .i64 n, .int .u64 v] w fun e w' => e = .returned (.bool true) ∧ ∃ w1, Below w.heap.size w w1 ∧ w' = w1.setCell ⟨p, o + 2, none⟩ (.int .u64 (zfo x 0 64 v)) := by
 go_enter Try.func112, Try.ntmps112
 go_wp2_with (first
  | (go_at_call 113; refine (w113 _ _ _).mono ?_; intro e w1 he1; obtain ⟨he, hw1⟩ := he1; subst he; have hl1 := hl w1 hw1)
  | go_in)
 have hp : p < w.heap.size := zav hx
 have hx2 : (w1.alloc (.cells #[.pointer (some ⟨p, o + 2, none⟩), .int .i64 0, .int .i64 64] 144)).cell? ⟨p, o + 2, none⟩ = some (.int .u64 x) := by
  rw [World.cell?_alloc_lt _ _ _ (by rw [hw1.size]; exact Nat.lt_succ_of_lt hp), World.cell?_of_block (w := w) (hw1.below.block p hp)]; exact hx
 have hf2 : (w1.alloc (.cells #[.pointer (some ⟨p, o + 2, none⟩), .int .i64 0, .int .i64 64] 144)).frozen? ⟨p, o + 2, none⟩ = false := by
  rw [World.frozen?_of_block (w := w1) ((MapKept.heap_alloc _ _).2 p (by rw [hw1.size]; omega)), World.frozen?_of_block (w := w) (hw1.below.block p hp)]; exact hf
 clear hl hl1
 go_region
 go_wp2
 go_region
 simp only [Exit.then]
 go_wp2
 go_ret
 exact ⟨rfl, (w1.alloc (.cells #[.pointer (some ⟨p, o + 2, none⟩), .int .i64 0, .int .i64 64] 144)).drew.drew, zax (zax (hw1.below.alloc (by rw [hw1.size]; omega) _)), congrArg (fun z => ((w1.alloc (.cells #[.pointer (some ⟨p, o + 2, none⟩), .int .i64 0, .int .i64 64] 144)).setCell ⟨p, o + 2, none⟩ (.int .u64 z)).drew.drew) (by unfold zfo; rw [zg1, zla, znE]; rfl)⟩
theorem zv8 (p o : Nat) (k n x : Int) (w : World) (hx : w.cell? ⟨p, o + 2, none⟩ = some (.int .u64 x))
  (hl : ∀ w1, Parts p o w w1 → (Instr.lookup 146 (.map (some w.heap.size)) (.agg #[.int .u64 k, .int .i64 n]) true).run Try.prog w1 = .ok (.tuple #[.agg #[.pointer (some ⟨p, o + 2, none⟩), .int .i64 0, .int .i64 32], .bool true]) w1) :
  Calls Try.prog 111 #[.pointer (some ⟨p, o, none⟩), .int .u64 k, .int .i64 n] w fun e w' => e = .returned (.tuple #[.int .u64 (zb5 .u64 (ishr .u64 x 0) (zc7 32)), .bool true]) ∧ Below w.heap.size w w' := by
 go_enter Try.func111, Try.ntmps111
 go_wp2_with (first
  | (go_at_call 113; refine (w113 _ _ _).mono ?_; intro e w1 he1; obtain ⟨he, hw1⟩ := he1; subst he; have hl1 := hl w1 hw1)
  | go_in)
 have hp : p < w.heap.size := zav hx
 have hx2 : (w1.alloc (.cells #[.pointer (some ⟨p, o + 2, none⟩), .int .i64 0, .int .i64 32] 144)).cell? ⟨p, o + 2, none⟩ = some (.int .u64 x) := by
  rw [World.cell?_alloc_lt _ _ _ (by rw [hw1.size]; exact Nat.lt_succ_of_lt hp), World.cell?_of_block (w := w) (hw1.below.block p hp)]; exact hx
 clear hl hl1
 go_region
 simp only [Exit.then]
 go_wp2
 go_ret2
 exact ⟨congrArg (fun z => Ending.returned (.tuple #[.int .u64 z, .bool true])) (by rw [znD, zcq]; rfl), zax (hw1.below.alloc (by rw [hw1.size]; omega) _)⟩
theorem zv9 (p o : Nat) (k n v x : Int) (w : World) (hx : w.cell? ⟨p, o + 2, none⟩ = some (.int .u64 x)) (hf : w.frozen? ⟨p, o + 2, none⟩ = false)
  (hl : ∀ w1, Parts p o w w1 → (Instr.lookup 146 (.map (some w.heap.size)) (.agg #[.int .u64 k, .int .i64 n]) true).run Try.prog w1 = .ok (.tuple #[.agg #[.pointer (some ⟨p, o + 2, none⟩), .int .i64 0, .int .i64 32], .bool true]) w1) :
  Calls Try.prog 112 #[.pointer (some ⟨p, o, none⟩), .int .u64 k, .int .i64 n, .int .u64 v] w fun e w' => e = .returned (.bool true) ∧ ∃ w1, Below w.heap.size w w1 ∧ w' = w1.setCell ⟨p, o + 2, none⟩ (.int .u64 (zfo x 0 32 v)) := by
 go_enter Try.func112, Try.ntmps112
 go_wp2_with (first
  | (go_at_call 113; refine (w113 _ _ _).mono ?_; intro e w1 he1; obtain ⟨he, hw1⟩ := he1; subst he; have hl1 := hl w1 hw1)
  | go_in)
 have hp : p < w.heap.size := zav hx
 have hx2 : (w1.alloc (.cells #[.pointer (some ⟨p, o + 2, none⟩), .int .i64 0, .int .i64 32] 144)).cell? ⟨p, o + 2, none⟩ = some (.int .u64 x) := by
  rw [World.cell?_alloc_lt _ _ _ (by rw [hw1.size]; exact Nat.lt_succ_of_lt hp), World.cell?_of_block (w := w) (hw1.below.block p hp)]; exact hx
 have hf2 : (w1.alloc (.cells #[.pointer (some ⟨p, o + 2, none⟩), .int .i64 0, .int .i64 32] 144)).frozen? ⟨p, o + 2, none⟩ = false := by
  rw [World.frozen?_of_block (w := w1) ((MapKept.heap_alloc _ _).2 p (by rw [hw1.size]; omega)), World.frozen?_of_block (w := w) (hw1.below.block p hp)]; exact hf
 clear hl hl1
 go_region
 go_wp2
 go_region
 simp only [Exit.then]
 go_wp2
 go_ret
 exact ⟨rfl, (w1.alloc (.cells #[.pointer (some ⟨p, o + 2, none⟩), .int .i64 0, .int .i64 32] 144)).drew.drew, zax (zax (hw1.below.alloc (by rw [hw1.size]; omega) _)), congrArg (fun z => ((w1.alloc (.cells #[.pointer (some ⟨p, o + 2, none⟩), .int .i64 0, .int .i64 32] 144)).setCell ⟨p, o + 2, none⟩ (.int .u64 z)).drew.drew) (by unfold zfo; rw [zcq, zk9, znE]; rfl)⟩
theorem zwa (p o : Nat) (k n x : Int) (w : World) (hx : w.cell? ⟨p, o + 2, none⟩ = some (.int .u64 x))
  (hl : ∀ w1, Parts p o w w1 → (Instr.lookup 146 (.map (some w.heap.size)) (.agg #[.int .u64 k, .int .i64 n]) true).run Try.prog w1 = .ok (.tuple #[.agg #[.pointer (some ⟨p, o + 2, none⟩), .int .i64 32, .int .i64 32], .bool true]) w1) :
  Calls Try.prog 111 #[.pointer (some ⟨p, o, none⟩), .int .u64 k, .int .i64 n] w fun e w' => e = .returned (.tuple #[.int .u64 (zb5 .u64 (ishr .u64 x 32) (zc7 32)), .bool true]) ∧ Below w.heap.size w w' := by
 go_enter Try.func111, Try.ntmps111
 go_wp2_with (first
  | (go_at_call 113; refine (w113 _ _ _).mono ?_; intro e w1 he1; obtain ⟨he, hw1⟩ := he1; subst he; have hl1 := hl w1 hw1)
  | go_in)
 have hp : p < w.heap.size := zav hx
 have hx2 : (w1.alloc (.cells #[.pointer (some ⟨p, o + 2, none⟩), .int .i64 32, .int .i64 32] 144)).cell? ⟨p, o + 2, none⟩ = some (.int .u64 x) := by
  rw [World.cell?_alloc_lt _ _ _ (by rw [hw1.size]; exact Nat.lt_succ_of_lt hp), World.cell?_of_block (w := w) (hw1.below.block p hp)]; exact hx
 clear hl hl1
 go_region
 simp only [Exit.then]
 go_wp2
 go_ret2
 exact ⟨congrArg (fun z => Ending.returned (.tuple #[.int .u64 z, .bool true])) (by rw [zsW, zcq]; rfl), zax (hw1.below.alloc (by rw [hw1.size]; omega) _)⟩
theorem zwb (p o : Nat) (k n v x : Int) (w : World) (hx : w.cell? ⟨p, o + 2, none⟩ = some (.int .u64 x)) (hf : w.frozen? ⟨p, o + 2, none⟩ = false)
  (hl : ∀ w1, Parts p o w w1 → (Instr.lookup 146 (.map (some w.heap.size)) (.agg #[.int .u64 k, .int .i64 n]) true).run Try.prog w1 = .ok (.tuple #[.agg #[.pointer (some ⟨p, o + 2, none⟩), .int .i64 32, .int .i64 32], .bool true]) w1) :
  Calls Try.prog 112 #[.pointer (some ⟨p, o, none⟩), .int .u64 k, .int .i64 n, .int .u64 v] w fun e w' => e = .returned (.bool true) ∧ ∃ w1, Below w.heap.size w w1 ∧ w' = w1.setCell ⟨p, o + 2, none⟩ (.int .u64 (zfo x 32 32 v)) := by
 go_enter Try.func112, Try.ntmps112
 go_wp2_with (first
  | (go_at_call 113; refine (w113 _ _ _).mono ?_; intro e w1 he1; obtain ⟨he, hw1⟩ := he1; subst he; have hl1 := hl w1 hw1)
  | go_in)
 have hp : p < w.heap.size := zav hx
 have hx2 : (w1.alloc (.cells #[.pointer (some ⟨p, o + 2, none⟩), .int .i64 32, .int .i64 32] 144)).cell? ⟨p, o + 2, none⟩ = some (.int .u64 x) := by
  rw [World.cell?_alloc_lt _ _ _ (by rw [hw1.size]; exact Nat.lt_succ_of_lt hp), World.cell?_of_block (w := w) (hw1.below.block p hp)]; exact hx
 have hf2 : (w1.alloc (.cells #[.pointer (some ⟨p, o + 2, none⟩), .int .i64 32, .int .i64 32] 144)).frozen? ⟨p, o + 2, none⟩ = false := by
  rw [World.frozen?_of_block (w := w1) ((MapKept.heap_alloc _ _).2 p (by rw [hw1.size]; omega)), World.frozen?_of_block (w := w) (hw1.below.block p hp)]; exact hf
 clear hl hl1
 go_region
 go_wp2
 go_region
 simp only [Exit.then]
 go_wp2
 go_ret
 exact ⟨rfl, (w1.alloc (.cells #[.pointer (some ⟨p, o + 2, none⟩), .int .i64 32, .int .i64 32] 144)).drew.drew, zax (zax (hw1.below.alloc (by rw [hw1.size]; omega) _)), congrArg (fun z => ((w1.alloc (.cells #[.pointer (some ⟨p, o + 2, none⟩), .int .i64 32, .int .i64 32] 144)).setCell ⟨p, o + 2, none⟩ (.int .u64 z)).drew.drew) (by unfold zfo; rw [zcq, zkb, zsX]; rfl)⟩
theorem zwc (p o : Nat) (k n x : Int) (w : World) (hx : w.cell? ⟨p, o + 1, none⟩ = some (.int .u64 x))
  (hl : ∀ w1, Parts p o w w1 → (Instr.lookup 146 (.map (some w.heap.size)) (.agg #[.int .u64 k, .int .i64 n]) true).run Try.prog w1 = .ok (.tuple #[.agg #[.pointer (some ⟨p, o + 1, none⟩), .int .i64 0, .int .i64 64], .bool true]) w1) :
  Calls Try.prog 111 #[.pointer (some ⟨p, o, none⟩), .int .u64 k, .int .i64 n] w fun e w' => e = .returned (.tuple #[.int .u64 (zb5 .u64 (ishr .u64 x 0) (zc7 64)), .bool true]) ∧ Below w.heap.size w w' := by
 go_enter Try.func111, Try.ntmps111
 go_wp2_with (first
  | (go_at_call 113; refine (w113 _ _ _).mono ?_; intro e w1 he1; obtain ⟨he, hw1⟩ := he1; subst he; have hl1 := hl w1 hw1)
  | go_in)
 have hp : p < w.heap.size := zav hx
 have hx2 : (w1.alloc (.cells #[.pointer (some ⟨p, o + 1, none⟩), .int .i64 0, .int .i64 64] 144)).cell? ⟨p, o + 1, none⟩ = some (.int .u64 x) := by
  rw [World.cell?_alloc_lt _ _ _ (by rw [hw1.size]; exact Nat.lt_succ_of_lt hp), World.cell?_of_block (w := w) (hw1.below.block p hp)]; exact hx
 clear hl hl1
 go_region
 simp only [Exit.then]
 go_wp2
 go_ret2
 exact ⟨congrArg (fun z => Ending.returned (.tuple #[.int .u64 z, .bool true])) (by rw [znD, zg1]; rfl), zax (hw1.below.alloc (by rw [hw1.size]; omega) _)⟩
theorem zwd (p o : Nat) (k n v x : Int) (w : World) (hx : w.cell? ⟨p, o + 1, none⟩ = some (.int .u64 x)) (hf : w.frozen? ⟨p, o + 1, none⟩ = false)
  (hl : ∀ w1, Parts p o w w1 → (Instr.lookup 146 (.map (some w.heap.size)) (.agg #[.int .u64 k, .int .i64 n]) true).run Try.prog w1 = .ok (.tuple #[.agg #[.pointer (some ⟨p, o + 1, none⟩), .int .i64 0, .int .i64 64], .bool true]) w1) :
  Calls Try.prog 112 #[.pointer (some ⟨p, o, none⟩), .int .u64 k, .int .i64 n, .int .u64 v] w fun e w' => e = .returned (.bool true) ∧ ∃ w1, Below w.heap.size w w1 ∧ w' = w1.setCell ⟨p, o + 1, none⟩ (.int .u64 (zfo x 0 64 v)) := by
 go_enter Try.func112, Try.ntmps112
 go_wp2_with (first
  | (go_at_call 113; refine (w113 _ _ _).mono ?_; intro e w1 he1; obtain ⟨he, hw1⟩ := he1; subst he; have hl1 := hl w1 hw1)
  | go_in)
 have hp : p < w.heap.size := zav hx
 have hx2 : (w1.alloc (.cells #[.pointer (some ⟨p, o + 1, none⟩), .int .i64 0, .int .i64 64] 144)).cell? ⟨p, o + 1, none⟩ = some (.int .u64 x) := by
  rw [World.cell?_alloc_lt _ _ _ (by rw [hw1.size]; exact Nat.lt_succ_of_lt hp), World.cell?_of_block (w := w) (hw1.below.block p hp)]; exact hx
 have hf2 : (w1.alloc (.cells #[.pointer (some ⟨p, o + 1, none⟩), .int .i64 0, .int .i64 64] 144)).frozen? ⟨p, o + 1, none⟩ = false := by
  rw [World.frozen?_of_block (w := w1) ((MapKept.heap_alloc _ _).2 p (by rw [hw1.size]; omega)), World.frozen?_of_block (w := w) (hw1.below.block p hp)]; exact hf
 clear hl hl1
 go_region
 go_wp2
 go_region
 simp only [Exit.then]
 go_wp2
 go_ret
 exact ⟨rfl, (w1.alloc (.cells #[.pointer (some ⟨p, o + 1, none⟩), .int .i64 0, .int .i64 64] 144)).drew.drew, zax (zax (hw1.below.alloc (by rw [hw1.size]; omega) _)), congrArg (fun z => ((w1.alloc (.cells #[.pointer (some ⟨p, o + 1, none⟩), .int .i64 0, .int .i64 64] 144)).setCell ⟨p, o + 1, none⟩ (.int .u64 z)).drew.drew) (by unfold zfo; rw [zg1, zla, znE]; rfl)⟩
theorem zwe (p o : Nat) (k n x : Int) (w : World) (hx : w.cell? ⟨p, o + 1, none⟩ = some (.int .u64 x))
  (hl : ∀ w1, Parts p o w w1 → (Instr.lookup 146 (.map (some w.heap.size)) (.agg #[.int .u64 k, .int .i64 n]) true).run Try.prog w1 = .ok (.tuple #[.agg #[.pointer (some ⟨p, o + 1, none⟩), .int .i64 0, .int .i64 32], .bool true]) w1) :
  Calls Try.prog 111 #[.pointer (some ⟨p, o, none⟩), .int .u64 k, .int .i64 n] w fun e w' => e = .returned (.tuple #[.int .u64 (zb5 .u64 (ishr .u64 x 0) (zc7 32)), .bool true]) ∧ Below w.heap.size w w' := by
 go_enter Try.func111, Try.ntmps111
 go_wp2_with (first
  | (go_at_call 113; refine (w113 _ _ _).mono ?_; intro e w1 he1; obtain ⟨he, hw1⟩ := he1; subst he; have hl1 := hl w1 hw1)
  | go_in)
 have hp : p < w.heap.size := zav hx
 have hx2 : (w1.alloc (.cells #[.pointer (some ⟨p, o + 1, none⟩), .int .i64 0, .int .i64 32] 144)).cell? ⟨p, o + 1, none⟩ = some (.int .u64 x) := by
  rw [World.cell?_alloc_lt _ _ _ (by rw [hw1.size]; exact Nat.lt_succ_of_lt hp), World.cell?_of_block (w := w) (hw1.below.block p hp)]; exact hx
 clear hl hl1
 go_region
 simp only [Exit.then]
 go_wp2
 go_ret2
 exact ⟨congrArg (fun z => Ending.returned (.tuple #[.int .u64 z, .bool true])) (by rw [znD, zcq]; rfl), zax (hw1.below.alloc (by rw [hw1.size]; omega) _)⟩
theorem zwf (p o : Nat) (k n v x : Int) (w : World) (hx : w.cell? ⟨p, o + 1, none⟩ = some (.int .u64 x)) (hf : w.frozen? ⟨p, o + 1, none⟩ = false)
  (hl : ∀ w1, Parts p o w w1 → (Instr.lookup 146 (.map (some w.heap.size)) (.agg #[.int .u64 k, .int .i64 n]) true).run Try.prog w1 = .ok (.tuple #[.agg #[.pointer (some ⟨p, o + 1, none⟩), .int .i64 0, .int .i64 32], .bool true]) w1) :
  Calls Try.prog 112 #[.pointer (some ⟨p, o, none⟩), .int .u64 k, .int .i64 n, .int .u64 v] w fun e w' => e = .returned (.bool true) ∧ ∃ w1, Below w.heap.size w w1 ∧ w' = w1.setCell ⟨p, o + 1, none⟩ (.int .u64 (zfo x 0 32 v)) := by
 go_enter Try.func112, Try.ntmps112
 go_wp2_with (first
  | (go_at_call 113; refine (w113 _ _ _).mono ?_; intro e w1 he1; obtain ⟨he, hw1⟩ := he1; subst he; have hl1 := hl w1 hw1)
  | go_in)
 have hp : p < w.heap.size := zav hx
 have hx2 : (w1.alloc (.cells #[.pointer (some ⟨p, o + 1, none⟩), .int .i64 0, .int .i64 32] 144)).cell? ⟨p, o + 1, none⟩ = some (.int .u64 x) := by
  rw [World.cell?_alloc_lt _ _ _ (by rw [hw1.size]; exact Nat.lt_succ_of_lt hp), World.cell?_of_block (w := w) (hw1.below.block p hp)]; exact hx
 have hf2 : (w1.alloc (.cells #[.pointer (some ⟨p, o + 1, none⟩), .int .i64 0, .int .i64 32] 144)).frozen? ⟨p, o + 1, none⟩ = false := by
  rw [World.frozen?_of_block (w := w1) ((MapKept.heap_alloc _ _).2 p (by rw [hw1.size]; omega)), World.frozen?_of_block (w := w) (hw1.below.block p hp)]; exact hf
 clear hl hl1
 go_region
 go_wp2
 go_region
 simp only [Exit.then]
 go_wp2
 go_ret
 exact ⟨rfl, (w1.alloc (.cells #[.pointer (some ⟨p, o + 1, none⟩), .int .i64 0, .int .i64 32] 144)).drew.drew, zax (zax (hw1.below.alloc (by rw [hw1.size]; omega) _)), congrArg (fun z => ((w1.alloc (.cells #[.pointer (some ⟨p, o + 1, none⟩), .int .i64 0, .int .i64 32] 144)).setCell ⟨p, o + 1, none⟩ (.int .u64 z)).drew.drew) (by unfold zfo; rw [zcq, zk9, znE]; rfl)⟩
theorem zwg (p o : Nat) (k n x : Int) (w : World) (hx : w.cell? ⟨p, o + 1, none⟩ = some (.int .u64 x))
  (hl : ∀ w1, Parts p o w w1 → (Instr.lookup 146 (.map (some w.heap.size)) (.agg #[.int .u64 k, .int .i64 n]) true).run Try.prog w1 = .ok (.tuple #[.agg #[.pointer (some ⟨p, o + 1, none⟩), .int .i64 32, .int .i64 32], .bool true]) w1) :
  Calls Try.prog 111 #[.pointer (some ⟨p, o, none⟩), .int .u64 k, .int .i64 n] w fun e w' => e = .returned (.tuple #[.int .u64 (zb5 .u64 (ishr .u64 x 32) (zc7 32)), .bool true]) ∧ Below w.heap.size w w' := by
 go_enter Try.func111, Try.ntmps111
 go_wp2_with (first
  | (go_at_call 113; refine (w113 _ _ _).mono ?_; intro e w1 he1; obtain ⟨he, hw1⟩ := he1; subst he; have hl1 := hl w1 hw1)
  | go_in)
 have hp : p < w.heap.size := zav hx
 have hx2 : (w1.alloc (.cells #[.pointer (some ⟨p, o + 1, none⟩), .int .i64 32, .int .i64 32] 144)).cell? ⟨p, o + 1, none⟩ = some (.int .u64 x) := by
  rw [World.cell?_alloc_lt _ _ _ (by rw [hw1.size]; exact Nat.lt_succ_of_lt hp), World.cell?_of_block (w := w) (hw1.below.block p hp)]; exact hx
 clear hl hl1
 go_region
 simp only [Exit.then]
 go_wp2
 go_ret2
 exact ⟨congrArg (fun z => Ending.returned (.tuple #[.int .u64 z, .bool true])) (by rw [zsW, zcq]; rfl), zax (hw1.below.alloc (by rw [hw1.size]; omega) _)⟩
theorem zwh (p o : Nat) (k n v x : Int) (w : World) (hx : w.cell? ⟨p, o + 1, none⟩ = some (.int .u64 x)) (hf : w.frozen? ⟨p, o + 1, none⟩ = false)
  (hl : ∀ w1, Parts p o w w1 → (Instr.lookup 146 (.map (some w.heap.size)) (.agg #[.int .u64 k, .int .i64 n]) true).run Try.prog w1 = .ok (.tuple #[.agg #[.pointer (some ⟨p, o + 1, none⟩), .int .i64 32, .int .i64 32], .bool true]) w1) :
  Calls Try.prog 112 #[.pointer (some ⟨p, o, none⟩), .int .u64 k, .int .i64 n, .int .u64 v] w fun e w' => e = .returned (.bool true) ∧ ∃ w1, Below w.heap.size w w1 ∧ w' = w1.setCell ⟨p, o + 1, none⟩ (.int .u64 (zfo x 32 32 v)) := by
 go_enter Try.func112, Try.ntmps112
 go_wp2_with (first
  | (go_at_call 113; refine (w113 _ _ _).mono ?_; intro e w1 he1; obtain ⟨he, hw1⟩ := he1; subst he; have hl1 := hl w1 hw1)
  | go_in)
 have hp : p < w.heap.size := zav hx
 have hx2 : (w1.alloc (.cells #[.pointer (some ⟨p, o + 1, none⟩), .int .i64 32, .int .i64 32] 144)).cell? ⟨p, o + 1, none⟩ = some (.int .u64 x) := by
  rw [World.cell?_alloc_lt _ _ _ (by rw [hw1.size]; exact Nat.lt_succ_of_lt hp), World.cell?_of_block (w := w) (hw1.below.block p hp)]; exact hx
 have hf2 : (w1.alloc (.cells #[.pointer (some ⟨p, o + 1, none⟩), .int .i64 32, .int .i64 32] 144)).frozen? ⟨p, o + 1, none⟩ = false := by
  rw [World.frozen?_of_block (w := w1) ((MapKept.heap_alloc _ _).2 p (by rw [hw1.size]; omega)), World.frozen?_of_block (w := w) (hw1.below.block p hp)]; exact hf
 clear hl hl1
 go_region
 go_wp2
 go_region
 simp only [Exit.then]
 go_wp2
 go_ret
 exact ⟨rfl, (w1.alloc (.cells #[.pointer (some ⟨p, o + 1, none⟩), .int .i64 32, .int .i64 32] 144)).drew.drew, zax (zax (hw1.below.alloc (by rw [hw1.size]; omega) _)), congrArg (fun z => ((w1.alloc (.cells #[.pointer (some ⟨p, o + 1, none⟩), .int .i64 32, .int .i64 32] 144)).setCell ⟨p, o + 1, none⟩ (.int .u64 z)).drew.drew) (by unfold zfo; rw [zcq, zkb, zsX]; rfl)⟩
end Go.Proofs.Ytiabiimoalkmjaa
namespace Go.Sx
open Go Go.RowKit
theorem Fr.set {W : Nat → Prop} {w w1 : World} {a : Addr} {x : Value} (h : Fr W w w1) (ha : a.block < w.heap.size → W a.block) : Fr W w (w1.setCell a x) :=
 ⟨h.os, h.tape, h.output, by simpa [World.setCell] using h.size, fun k hk hnk => by
  rw [Below.heap_setCell _ _ _ _ (fun e => by subst e; exact hnk (ha hk))]
  exact h.block k hk hnk⟩
section
variable {w : World} {p o : Nat} {d : List DV} {sb so c : Nat} {pg : Nat → Option (Nat × Nat × Nat)}
end
end Go.Sx
namespace Go.Proofs.Ytiabiimoalkmjaa
open Go Go.Sx Go.RowKit
set_option maxRecDepth 100000
structure ClAt (own : Bool) (w : World) (r : Sx.Loc) (d : List DV) : Prop where
 nil : r.nil = false
 len : d.length = 3
 cell : ∀ j, j < 3 → w.cell? ⟨r.blk, r.off + j, none⟩ = some (.int .u64 (d.getD j default).toI)
 fz : own = true → ∀ i, w.frozen? ⟨r.blk, i, none⟩ = false
theorem zui : zfm 2 zih.ids = true := by decide
theorem zsZ : objK 2 = zrA (zcR 2) zih.ids (by have := zui; simp only [zfm, Bool.and_eq_true] at this; exact this.1.1) := zcw (k := 0) rfl zui
theorem zwi {own : Bool} {w : World} {r : Sx.Loc} {d : List DV} (h : zbe own 2 w r d) : ClAt own w r d := by
 obtain ⟨hn, h⟩ := (zbe.plain (by rfl)).1 h
 rw [zsZ] at h
 obtain ⟨ρ, hd⟩ := h
 have hb := hd.h.blk 0
 cases own with
 | true =>
  have hb : CBlk _ ρ w (ρ 0) true [some (.i .u64 (.r 0)), some (.i .u64 (.r 1)), some (.i .u64 (.r 2))] := hb _ rfl
  refine ⟨hn, hd.len, fun j hj => ?_, fun _ i => by have := hb.fz rfl i; rwa [hd.blk] at this⟩
  rw [← hd.blk, ← hd.off]
  match j, hj with
  | 0, _ => exact (hb.cell 0 _ rfl).2
  | 1, _ => exact (hb.cell 1 _ rfl).2
  | 2, _ => exact (hb.cell 2 _ rfl).2
 | false =>
  have hb : CBlk _ ρ w (ρ 0) false [some (.i .u64 (.r 0)), some (.i .u64 (.r 1)), some (.i .u64 (.r 2))] := hb _ rfl
  refine ⟨hn, hd.len, fun j hj => ?_, fun e => by cases e⟩
  rw [← hd.blk, ← hd.off]
  match j, hj with
  | 0, _ => exact (hb.cell 0 _ rfl).2
  | 1, _ => exact (hb.cell 1 _ rfl).2
  | 2, _ => exact (hb.cell 2 _ rfl).2
theorem zpU {w : World} {r : Sx.Loc} {d : List DV} (h : ClAt true w r d) : zbe true 2 w r d := by
 refine (zbe.plain (by rfl)).2 ⟨h.nil, ?_⟩
 rw [zsZ]
 have hc : CBlk (fun i => d.getD i default) (fun _ => r) w r true [some (.i .u64 (.r 0)), some (.i .u64 (.r 1)), some (.i .u64 (.r 2))] := by
  refine ⟨h.nil, zav (h.cell 0 (by decide)), fun i l hi => ?_, fun _ i hi => ⟨?_, h.fz rfl _⟩, fun _ => h.fz rfl⟩
  ·match i, hi with
   | 0, hi => cases hi; exact ⟨trivial, h.cell 0 (by decide)⟩
   | 1, hi => cases hi; exact ⟨trivial, h.cell 1 (by decide)⟩
   | 2, hi => cases hi; exact ⟨trivial, h.cell 2 (by decide)⟩
   | i + 3, hi => cases i <;> cases hi
  ·have hi : i < 3 := hi
   rw [h.cell i hi]; rfl
 refine ⟨fun _ => r, h.len, rfl, rfl, ⟨fun j bk hj => ?_, fun j j' bk bk' hj _ hj' hne => ?_⟩⟩
 ·match j, hj with
  | 0, hj => cases hj; exact hc
  | j + 1, hj => cases j <;> cases hj
 ·match j, j', hj, hj' with
  | 0, 0, _, _ => exact absurd rfl hne
  | 0, j + 1, _, hj => cases j <;> cases hj
  | j + 1, _, hj, _ => cases j <;> cases hj
theorem ztT {w : World} {r : Sx.Loc} {d : List DV} (h : ClAt true w r d) {b : Nat} : (objK (kb 2)).rfoot w r.blk r.off b → b = r.blk := by
 rw [show kb 2 = 2 from rfl, zsZ]
 rintro ⟨d1, ρ, hd, j, bk, hj, _, hx⟩
 match j, hj with
 | 0, hj => cases hj; have : b = (ρ 0).blk := hx; rw [this, hd.blk]
 | j + 1, hj => cases j <;> cases hj
theorem zs0 {w : World} {r : Sx.Loc} {d : List DV} (h : zbe true 2 w r d) : (objK (kb 2)).foot w r.blk r.off r.blk := by
 obtain ⟨hn, h⟩ := (zbe.plain (by rfl)).1 h
 rw [zsZ] at h
 obtain ⟨ρ, hd⟩ := h
 rw [show kb 2 = 2 from rfl, zsZ]
 exact ⟨_, ρ, hd, 0, _, rfl, rfl, (hd.h.blk 0 _ rfl).nil, hd.blk.symm⟩
theorem zo5 {k n : Int} (h : zaV k n < 7) : (.agg #[.int .u64 k, .int .i64 n] : Value) = clKey (zaV k n) := by
 unfold zaV at h ⊢
 repeat' split at h
 all_goals (first | (rename_i h1; obtain ⟨rfl, rfl⟩ := h1; simp [clKey, clAt, clSz]) | omega)
theorem zlb {k n : Int} {g : Nat} (hg : g < 7) (h : (.agg #[.int .u64 k, .int .i64 n] : Value) = clKey g) : zaV k n = g := by
 have h1 : k = clAt g ∧ n = clSz g := by simpa [clKey] using h
 obtain ⟨rfl, rfl⟩ := h1
 have key : ∀ g < 7, zaV (clAt g) (clSz g) = g := by decide
 exact key g hg
theorem zs1 {p o : Nat} {w w1 : World} (h : Parts p o w w1) {k n : Int} (hk : (Lit.int .u64 k).wf = true) (hn : (Lit.int .i64 n).wf = true) :
  (zaV k n < 7 → (Instr.lookup 146 (.map (some w.heap.size)) (.agg #[.int .u64 k, .int .i64 n]) true).run Try.prog w1 = .ok (.tuple #[clPv p o (zaV k n), .bool true]) w1) ∧
  (¬ zaV k n < 7 → (Instr.lookup 146 (.map (some w.heap.size)) (.agg #[.int .u64 k, .int .i64 n]) true).run Try.prog w1 = .ok (.tuple #[.agg #[.pointer none, .int .i64 0, .int .i64 0], .bool false]) w1) := by
 obtain ⟨es, clock, h1, h2⟩ := h.ents
 obtain ⟨l, hkl⟩ := zbV hk hn
 have mem : ∀ x ∈ es.toList, ∃ g, g < 7 ∧ x.key = clKey g ∧ x.val = clPv p o g := fun x hx => by
  obtain ⟨g, hg, e⟩ := List.mem_map.1 (h2.mem_iff.1 (List.mem_map.2 ⟨x, hx, rfl⟩))
  exact ⟨g, List.mem_range.1 hg, (congrArg Prod.fst e).symm, (congrArg Prod.snd e).symm⟩
 have hl := zmp (P := Try.prog) (w := w1) true zpS Try.underlying146 (zve w1) h1 (fun x hx => by obtain ⟨g, hg, e, _⟩ := mem x hx; rw [e]; exact zo4 hg) hkl
 refine ⟨fun hw => ?_, fun hw => ?_⟩
 ·rcases hl with ⟨_, hno⟩ | ⟨e0, he0, hk0, hrun⟩
  ·have : (clKey (zaV k n), clPv p o (zaV k n)) ∈ es.toList.map fun e => (e.key, e.val) := h2.mem_iff.2 (List.mem_map.2 ⟨_, List.mem_range.2 hw, rfl⟩)
   obtain ⟨x, hx, e⟩ := List.mem_map.1 this
   exact absurd ((congrArg Prod.fst e).trans (zo5 hw).symm) (hno x hx)
  ·obtain ⟨g, hg, e1, e2⟩ := mem e0 he0
   have := zlb hg (hk0.symm.trans e1)
   rw [this, ← e2]
   exact hrun
 ·rcases hl with ⟨hrun, _⟩ | ⟨e0, he0, hk0, hrun⟩
  ·exact hrun
  ·obtain ⟨g, hg, e1, e2⟩ := mem e0 he0
   have := zlb hg (hk0.symm.trans e1)
   omega
theorem wf64 {n : Int} (h : in64 n = true) : (Lit.int .u64 n).wf = true := by
 have := zo3 h
 simp [Lit.wf, IntKind.min, IntKind.max, IntKind.bits, IntKind.signed]; omega
theorem zwj {n : Int} (h : zhy n = true) : (Lit.int .i64 n).wf = true := by
 have : -9223372036854775808 ≤ n ∧ n < 9223372036854775808 := by simpa [zhy] using h
 simp [Lit.wf, IntKind.min, IntKind.max, IntKind.bits, IntKind.signed]; omega
theorem zpV {sg : Sig} {ds : List DV} {ρ : Nat → Sx.Loc} {w w' : World} {v : Value} (h : v = sg.outI.conc (sg.res ds) ρ) (hg : sg.outI.good (sg.res ds)) (ho : sg.hout = []) (hb : Below w.heap.size w w') : CallOut sg ds ρ w v ρ w' := by
 refine ⟨h, hg, ⟨fun j bk hj => ?_, fun j j' bk bk' hj => ?_⟩, fun j bk hj => ?_, Fr.of_below hb, fun j _ hl => ?_⟩
 all_goals (simp only [Sig.houtI, ho, List.map_nil] at *)
 ·cases j <;> cases hj
 ·cases j <;> cases hj
 ·cases j <;> cases hj
theorem w111 (p o g : Nat) (hg : g < 7) (k n x : Int) (w : World) (hx : w.cell? ⟨p, o + (zbl g).1, none⟩ = some (.int .u64 x))
  (hl : ∀ w1, Parts p o w w1 → (Instr.lookup 146 (.map (some w.heap.size)) (.agg #[.int .u64 k, .int .i64 n]) true).run Try.prog w1 = .ok (.tuple #[clPv p o g, .bool true]) w1) :
  Calls Try.prog 111 #[.pointer (some ⟨p, o, none⟩), .int .u64 k, .int .i64 n] w fun e w' => e = .returned (.tuple #[.int .u64 (zb5 .u64 (ishr .u64 x (zbl g).2.1) (zc7 (zbl g).2.2)), .bool true]) ∧ Below w.heap.size w w' := by
 match g, hg with
 | 0, _ => exact zv4 p o k n x w hx hl
 | 1, _ => exact zv6 p o k n x w hx hl
 | 2, _ => exact zv8 p o k n x w hx hl
 | 3, _ => exact zwa p o k n x w hx hl
 | 4, _ => exact zwc p o k n x w hx hl
 | 5, _ => exact zwe p o k n x w hx hl
 | 6, _ => exact zwg p o k n x w hx hl
theorem w112 (p o g : Nat) (hg : g < 7) (k n v x : Int) (w : World) (hx : w.cell? ⟨p, o + (zbl g).1, none⟩ = some (.int .u64 x)) (hf : w.frozen? ⟨p, o + (zbl g).1, none⟩ = false)
  (hl : ∀ w1, Parts p o w w1 → (Instr.lookup 146 (.map (some w.heap.size)) (.agg #[.int .u64 k, .int .i64 n]) true).run Try.prog w1 = .ok (.tuple #[clPv p o g, .bool true]) w1) :
  Calls Try.prog 112 #[.pointer (some ⟨p, o, none⟩), .int .u64 k, .int .i64 n, .int .u64 v] w fun e w' => e = .returned (.bool true) ∧ ∃ w1, Below w.heap.size w w1 ∧ w' = w1.setCell ⟨p, o + (zbl g).1, none⟩ (.int .u64 (zfo x (zbl g).2.1 (zbl g).2.2 v)) := by
 match g, hg with
 | 0, _ => exact zv5 p o k n v x w hx hf hl
 | 1, _ => exact zv7 p o k n v x w hx hf hl
 | 2, _ => exact zv9 p o k n v x w hx hf hl
 | 3, _ => exact zwb p o k n v x w hx hf hl
 | 4, _ => exact zwd p o k n v x w hx hf hl
 | 5, _ => exact zwf p o k n v x w hx hf hl
 | 6, _ => exact zwh p o k n v x w hx hf hl
theorem znF (g : Nat) : (zbl g).1 < 3 := by unfold zbl; split <;> decide
theorem k111 {I : World → Prop} : FnOK Try.prog I 0 111 s111 g111 := by
 intro ds ρ w _ hlen hneed _ _ _ hrel
 have h := zwi (hrel.blk 0 _ rfl)
 have hp : p111 (dget ds 0).toL (dget ds 1).toI (dget ds 2).toI = true := hneed rfl
 unfold p111 at hp
 rw [Bool.and_eq_true] at hp
 have hL := fun w1 (h1 : Parts (ρ 0).blk (ρ 0).off w w1) => zs1 h1 (wf64 hp.1) (zwj hp.2)
 show Calls Try.prog 111 #[.pointer (some ⟨(ρ 0).blk, (ρ 0).off, none⟩), .int .u64 (dget ds 1).toI, .int .i64 (dget ds 2).toI] w _
 by_cases hw : zaV (dget ds 1).toI (dget ds 2).toI < 7
 ·refine (w111 _ _ _ hw _ _ _ w (h.cell _ (znF _)) fun w1 h1 => (hL w1 h1).1 hw).mono fun e w' ⟨he, hb⟩ => ?_
  subst he
  refine ⟨_, ρ, rfl, zpV ?_ (fun v hv => ?_) rfl hb⟩
  ·show Value.tuple #[.int .u64 _, .bool true] = Value.tuple #[.int .u64 (zeO (dget ds 0).toL (dget ds 1).toI (dget ds 2).toI), .bool (zfB (dget ds 0).toL (dget ds 1).toI (dget ds 2).toI)]
   unfold zeO zfB
   rw [if_pos hw, decide_eq_true hw]
   rfl
  ·rcases List.mem_cons.1 hv with rfl | hv
   ·exact V1.good_one.2 trivial
   ·rcases List.mem_cons.1 hv with rfl | hv
    ·exact V1.good_one.2 trivial
    ·cases hv
 ·refine (zwW _ _ _ _ w fun w1 h1 => (hL w1 h1).2 hw).mono fun e w' ⟨he, hb⟩ => ?_
  subst he
  refine ⟨_, ρ, rfl, zpV ?_ (fun v hv => ?_) rfl hb⟩
  ·show Value.tuple #[.int .u64 _, .bool false] = Value.tuple #[.int .u64 (zeO (dget ds 0).toL (dget ds 1).toI (dget ds 2).toI), .bool (zfB (dget ds 0).toL (dget ds 1).toI (dget ds 2).toI)]
   unfold zeO zfB
   rw [if_neg hw, decide_eq_false hw]
  ·rcases List.mem_cons.1 hv with rfl | hv
   ·exact V1.good_one.2 trivial
   ·rcases List.mem_cons.1 hv with rfl | hv
    ·exact V1.good_one.2 trivial
    ·cases hv
theorem k112 {I : World → Prop} : FnOK Try.prog I 0 112 s112 g112 := by
 intro ds ρ w _ hlen hneed _ _ _ hrel
 have h0 : zbe true 2 w (ρ 0) (dget ds 0).toL := hrel.blk 0 _ rfl
 have h := zwi h0
 have hp : p112 (dget ds 0).toL (dget ds 1).toI (dget ds 2).toI (dget ds 3).toI = true := hneed rfl
 unfold p112 at hp
 rw [Bool.and_eq_true] at hp
 have hL := fun w1 (h1 : Parts (ρ 0).blk (ρ 0).off w w1) => zs1 h1 (wf64 hp.1) (zwj hp.2)
 have hblt : (ρ 0).blk < w.heap.size := zav (h.cell 0 (by decide))
 have fin : ∀ (w' : World) (b : Bool), ClAt true w' (ρ 0) (zgQ (dget ds 0).toL (dget ds 1).toI (dget ds 2).toI (dget ds 3).toI) → b = znx (dget ds 0).toL (dget ds 1).toI (dget ds 2).toI (dget ds 3).toI →
   Fr (fun x => x = (ρ 0).blk) w w' → ∃ v ρ', Ending.returned (.bool b) = .returned v ∧ CallOut s112 (g112 ds) ρ w v ρ' w' := by
  intro w' b hc hb hfr
  refine ⟨_, ρ, rfl, zsN (k := 2) (by subst hb; rfl) (V.good_s.2 (V1.good_one.2 trivial)) rfl (by decide) rfl (by decide) (zpU hc) (fun x hx => .inr ?_) (fun x hx => ?_) h.nil (hfr.weaken fun x hx => by rw [hx]; exact zs0 h0)⟩
  ·rw [ztT hc hx]; exact zs0 h0
  ·have hR := ((zbe.plain (by rfl)).1 (zpU hc)).2
   exact (objK 2).sub hR hx
 show Calls Try.prog 112 #[.pointer (some ⟨(ρ 0).blk, (ρ 0).off, none⟩), .int .u64 (dget ds 1).toI, .int .i64 (dget ds 2).toI, .int .u64 (dget ds 3).toI] w _
 have keep : ∀ {w1 : World}, Below w.heap.size w w1 → (∀ j, j < 3 → w1.cell? ⟨(ρ 0).blk, (ρ 0).off + j, none⟩ = some (.int .u64 ((dget ds 0).toL.getD j default).toI)) ∧ ∀ i, w1.frozen? ⟨(ρ 0).blk, i, none⟩ = false := fun {w1} hb =>
  ⟨fun j hj => by rw [World.cell?_of_block (w := w) (hb.block _ hblt)]; exact h.cell j hj, fun i => by rw [World.frozen?_of_block (w := w) (hb.block _ hblt)]; exact h.fz rfl i⟩
 by_cases hw : zaV (dget ds 1).toI (dget ds 2).toI < 7
 ·refine (w112 _ _ _ hw _ _ _ _ w (h.cell _ (znF _)) (h.fz rfl _) fun w1 h1 => (hL w1 h1).1 hw).mono fun e w' ⟨he, w1, hb, hw'⟩ => ?_
  subst he; subst hw'
  obtain ⟨kc, kf⟩ := keep hb
  refine fin _ _ ⟨h.nil, ?_, fun j hj => ?_, fun _ i => by rw [World.frozen?_setCell]; exact kf i⟩ ?_ ((Fr.of_below hb).set fun _ => rfl)
  ·unfold zgQ; rw [if_pos hw]; simp
  ·unfold zgQ
   rw [if_pos hw]
   by_cases hj2 : (zbl (zaV (dget ds 1).toI (dget ds 2).toI)).1 = j
   ·rw [hj2, World.cell?_setCell_same _ _ _ (kc j hj)]
    have hset : ∀ (l : List DV) (x : DV), j < l.length → (l.set j x).getD j default = x := fun l x hl => by rw [List.getD_eq_getElem?_getD, List.getElem?_set_self hl]; rfl
    rw [hset _ _ (by rw [List.length_map, List.length_range]; exact hj)]
   ·rw [World.cell?_setCell_other _ _ _ _ (fun e => hj2 (by have := congrArg Addr.off e; simp only at this; omega)), kc j hj, List.getD_eq_getElem?_getD (l := List.set _ _ _), List.getElem?_set_ne hj2, List.getElem?_map, List.getElem?_range hj]
    rfl
  ·unfold znx; rw [decide_eq_true hw]
 ·refine (zwX _ _ _ _ _ w fun w1 h1 => (hL w1 h1).2 hw).mono fun e w' ⟨he, hb⟩ => ?_
  subst he
  obtain ⟨kc, kf⟩ := keep hb
  refine fin _ _ ⟨h.nil, ?_, fun j hj => ?_, fun _ => kf⟩ ?_ ((Fr.of_below hb))
  ·unfold zgQ; rw [if_neg hw]; simp
  ·unfold zgQ
   rw [if_neg hw, kc j hj, List.getD_eq_getElem?_getD (l := List.map _ _), List.getElem?_map, List.getElem?_range hj]
   rfl
  ·unfold znx; rw [decide_eq_false hw]
end Go.Proofs.Ytiabiimoalkmjaa
namespace Go.Proofs.Ytiabiimoalkmjaa
open Go Go.Sx Go.RowKit
open Go.ChangeMaps (setBlock)
set_option maxRecDepth 100000
structure Stepped (w wr : World) (r : Nat) (o : Obj) : Prop where
 size : wr.heap.size = w.heap.size
 at_ : wr.heap[r]? = some o
 other : ∀ b, b ≠ r → wr.heap[b]? = w.heap[b]?
 os : wr.os = w.os
 tape : wr.tape = w.tape
 output : wr.output = w.output
theorem zkc {P : Program} (w : World) {ops : Array Oper} {rest : List Oper} {o : Oper} {a : Act} {Q : Exit → Act → World → Prop} (hg : o.guard = none) (it : Operand) (hop : o.op = Op.next it false) (r bm since c0 : Nat) (seen : Array Nat) (es : Array MapEntry) (clock : Nat)
  (hit : a.eval it = .pointer (some ⟨r, 0, none⟩)) (hr : w.heap[r]? = some (.mapIter (some bm) since seen c0)) (hb : w.heap[bm]? = some (.map es clock)) (hold : ∀ x ∈ es.toList, x.born < since) (hsc : since ≤ c0) (hn : (es.toList.map (·.born)).Nodup)
  (hDone : (leftOf es seen).size = 0 → wpList P ops Q rest (a.put o.dst (.tuple #[.bool false])) w)
  (hMore : ∀ e wr, e ∈ (leftOf es seen).toList → Stepped w wr r (.mapIter (some bm) since (seen.push e.born) clock) → (Instr.entry (.pointer (some ⟨r, 0, none⟩))).run P wr = .ok (.tuple #[e.key, e.val]) wr →
   wpList P ops Q rest (a.put o.dst (.tuple #[.bool true, e.key, e.val])) wr) :
  wpList P ops Q (o :: rest) a w := by
 refine wpList_plain hg fun K' hK' => ?_
 unfold Oper.wp
 have hne : r ≠ bm := fun e => by subst e; rw [hr] at hb; cases hb
 rcases run_next_at (P := P) w o.type r bm since c0 seen es clock hr hb hold hsc with ⟨h0, hrun⟩ | ⟨e, he, w1, hw1, hrun⟩
 ·simp [execOp, hop, hit, hrun, Result.andThen]
  exact hK' _ _ (hDone h0)
 ·simp [execOp, hop, hit, hrun, Result.andThen]
  have hr1 : w1.heap[r]? = some (.mapIter (some bm) since seen c0) := by rcases hw1 with rfl | rfl <;> exact hr
  have hb1 : w1.heap[bm]? = some (.map es clock) := by rcases hw1 with rfl | rfl <;> exact hb
  obtain ⟨s1, s2⟩ := zbG (o' := .mapIter (some bm) since (seen.push e.born) clock) hr1
  refine hK' _ _ (hMore e _ he ⟨by show (w1.heap.setIfInBounds _ _).size = _; rw [Array.size_setIfInBounds]; rcases hw1 with rfl | rfl <;> rfl, s1, fun b hb' => by rw [s2 b hb']; rcases hw1 with rfl | rfl <;> rfl, by rcases hw1 with rfl | rfl <;> rfl, by rcases hw1 with rfl | rfl <;> rfl, by rcases hw1 with rfl | rfl <;> rfl⟩ (run_entry_at _ r bm since seen es clock e s1 ?_ (mem_left he).1 hn))
  rw [s2 _ hne.symm]
  exact hb1
structure CopyA (w : World) (d : List DV) (bm : Nat) (es : Array MapEntry) (clock : Nat) (wr : World) (seen : Array Nat) (es' : Array MapEntry) (clock' : Nat) : Prop where
 iter : wr.heap[w.heap.size + 2]? = some (.mapIter (some bm) clock seen clock)
 below : Below w.heap.size w wr
 size : w.heap.size + 3 ≤ wr.heap.size
 map : wr.heap[w.heap.size]? = some (.map es' clock')
 top : wr.heap[w.heap.size + 1]? = some (.cells #[.map (some w.heap.size)] 89)
 st : MapKept.Stamped es' clock'
 page : ∀ e' ∈ es'.toList, ∃ (n : Int) (b : Nat), 0 ≤ n ∧ n < 18446744073709551616 ∧ e'.key = pageKey n ∧ e'.val = .pointer (some ⟨b, 0, none⟩) ∧ w.heap.size ≤ b ∧ PageAt true wr b 0 (fun i => ramAt d (n * 4096 + i))
 apart : es'.toList.Pairwise (fun e e' => e.key ≠ e'.key ∧ e.val ≠ e'.val)
 from_ : ∀ e' ∈ es'.toList, ∃ e ∈ es.toList, e.key = e'.key ∧ seen.contains e.born = true
 to : ∀ e ∈ es.toList, seen.contains e.born = true → ∃ e' ∈ es'.toList, e'.key = e.key
def zf8 (d : List DV) (n : Int) : List Value := (List.range 4096).map fun (i : Nat) => .int .u8 (ramAt d (n * 4096 + (i : Int)))
theorem zdy (d : List DV) (n : Int) : (zf8 d n).length = 4096 := by unfold zf8; rw [List.length_map, List.length_range]
theorem zpW (d : List DV) (n : Int) (i : Nat) : (zf8 d n)[i]? = if i < 4096 then some (.int .u8 (ramAt d (n * 4096 + i))) else none := by
 unfold zf8
 rw [List.getElem?_map]
 by_cases h : i < 4096
 ·rw [List.getElem?_range h, if_pos h]; rfl
 ·rw [List.getElem?_eq_none (by rw [List.length_range]; omega), if_neg h]; rfl
theorem zs2 (d : List DV) (n : Int) : (zf8 d n).toArray.all (·.oneCell') = true := by
 rw [Array.all_eq_true_iff_forall_mem]
 intro v hv
 unfold zf8 at hv
 rw [List.mem_toArray, List.mem_map] at hv
 obtain ⟨i, _, rfl⟩ := hv
 rfl
theorem zs3 {own : Bool} {w W : World} {d : List DV} {n : Int} {b : Nat} (h : PageAt own w b 0 (fun i => ramAt d (n * 4096 + i))) (hb : W.heap[b]? = w.heap[b]?) : W.rangeAt b 0 (zf8 d n) := by
 intro j v hv
 rw [zpW] at hv
 split at hv
 ·rename_i hj
  cases hv
  rw [World.cell?_of_block (w := w) hb]
  exact h.cell j hj
 ·cases hv
theorem zs4 : (Try.prog.info? 119).map (·.size) = some 4096 := by kernel_rfl
attribute [irreducible] zf8
structure Paged (w W : World) (d : List DV) (n : Int) : Prop where
 size : W.heap.size = w.heap.size + 2
 old : Below w.heap.size w W
 key : W.cell? ⟨w.heap.size, 0, none⟩ = some (.int .u64 n)
 page : PageAt true W (w.heap.size + 1) 0 (fun i => ramAt d (n * 4096 + i))
theorem znG (w : World) (n : Int) : ((w.alloc (.cells #[.int .u64 n] 117)).alloc (.cells Try.zeroCells119 119)).there (w.heap.size + 1) 0 4096 ∧ ∀ i, ((w.alloc (.cells #[.int .u64 n] 117)).alloc (.cells Try.zeroCells119 119)).frozen? ⟨w.heap.size + 1, i, none⟩ = false := by
 have h1 := (MapKept.heap_alloc (w.alloc (.cells #[.int .u64 n] 117)) (.cells Try.zeroCells119 119)).1
 rw [World.size_alloc] at h1
 have hz := zpQ
 generalize Try.zeroCells119 = zs at *
 generalize ((w.alloc (.cells #[.int .u64 n] 117)).alloc (.cells zs 119)) = V at *
 refine ⟨fun j hj => ?_, fun i => by unfold World.frozen?; rw [h1]; simp⟩
 have hz := hz j hj
 rw [Nat.zero_add]
 constructor
 ·unfold World.cell?; rw [h1]; simp [hz]
 ·unfold World.frozen?; rw [h1]; simp
theorem zwY (w : World) (d : List DV) (n : Int) : Paged w (((w.alloc (.cells #[.int .u64 n] 117)).alloc (.cells Try.zeroCells119 119)).setCells (w.heap.size + 1) 0 (zf8 d n)) d n := by
 obtain ⟨ht, hfz⟩ := znG w n
 have hb : Below w.heap.size w ((w.alloc (.cells #[.int .u64 n] 117)).alloc (.cells Try.zeroCells119 119)) := ((Below.refl _ _).alloc (Nat.le_refl _) _).alloc (by simp) _
 have hs : ((w.alloc (.cells #[.int .u64 n] 117)).alloc (.cells Try.zeroCells119 119)).heap.size = w.heap.size + 2 := by rw [World.size_alloc, World.size_alloc]
 have hk : ((w.alloc (.cells #[.int .u64 n] 117)).alloc (.cells Try.zeroCells119 119)).cell? ⟨w.heap.size, 0, none⟩ = some (.int .u64 n) := by
  rw [World.cell?_alloc_lt _ _ _ (by simp)]
  exact World.cell?_alloc_new _ _ _ _
 generalize ((w.alloc (.cells #[.int .u64 n] 117)).alloc (.cells Try.zeroCells119 119)) = V at *
 refine ⟨by rw [zaX]; exact hs, ⟨?_, ?_, ?_, ?_, fun b hb' => ?_⟩, ?_, ⟨fun i hi => ?_, fun _ i => ?_⟩⟩
 ·rw [(zaO _ _ _ _).1]; exact hb.os
 ·rw [(zaO _ _ _ _).2.1]; exact hb.tape
 ·rw [(zaO _ _ _ _).2.2]; exact hb.output
 ·rw [zaX]; exact hb.size
 ·rw [zba _ _ _ _ _ (by omega)]; exact hb.block b hb'
 ·rw [World.cell?_setCells_out _ _ _ _ _ (fun e => by simp at e)]; exact hk
 ·have h1 := World.cell?_setCells_in (w.heap.size + 1) (zf8 d n) 0 V (fun j hj => (ht j (by rw [zdy] at hj; exact hj)).1) i (by rw [zdy]; exact hi)
  rw [h1]
  have := zpW d n i
  rw [if_pos hi, List.getElem?_eq_getElem (by rw [zdy]; exact hi)] at this
  exact this
 ·rw [World.frozen?_setCells]
  exact hfz i
theorem CopyA.round {w : World} {d : List DV} {bm : Nat} {es : Array MapEntry} {clock : Nat} {wr w3 W : World} {seen : Array Nat} {es' : Array MapEntry} {clock' p o : Nat} (h : RamA false w p o d bm es clock) (hrel : CopyA w d bm es clock wr seen es' clock')
  {e : MapEntry} (he : e ∈ (leftOf es seen).toList) {n : Int} (r0 : 0 ≤ n) (r1 : n < 18446744073709551616) (r2 : e.key = pageKey n) (hw3 : Stepped wr w3 (w.heap.size + 2) (.mapIter (some bm) clock (seen.push e.born) clock)) (hP : Paged w3 W d n)
  (hno : ∀ x ∈ es'.toList, x.key ≠ pageKey n) :
  CopyA w d bm es clock (setBlock W.drew w.heap.size (.map (es'.push ⟨pageKey n, .pointer (some ⟨w3.heap.size + 1, 0, none⟩), clock'⟩) (clock' + 1))) (seen.push e.born)
   (es'.push ⟨pageKey n, .pointer (some ⟨w3.heap.size + 1, 0, none⟩), clock'⟩) (clock' + 1) := by
 have hw3s : w.heap.size + 3 ≤ w3.heap.size := by rw [hw3.size]; exact hrel.size
 have hWs := hP.size
 have hmap : W.drew.heap[w.heap.size]? = some (.map es' clock') := by
  show W.heap[w.heap.size]? = _
  rw [hP.old.block _ (by omega), hw3.other _ (by omega)]; exact hrel.map
 obtain ⟨s1, s2⟩ := zbG (o' := .map (es'.push ⟨pageKey n, .pointer (some ⟨w3.heap.size + 1, 0, none⟩), clock'⟩) (clock' + 1)) hmap
 have hsz : (setBlock W.drew w.heap.size (.map (es'.push ⟨pageKey n, .pointer (some ⟨w3.heap.size + 1, 0, none⟩), clock'⟩) (clock' + 1))).heap.size = W.heap.size := by
  show (W.heap.setIfInBounds _ _).size = _
  rw [Array.size_setIfInBounds]
 have keep : ∀ b, b ≠ w.heap.size → b < w3.heap.size → (setBlock W.drew w.heap.size (.map (es'.push ⟨pageKey n, .pointer (some ⟨w3.heap.size + 1, 0, none⟩), clock'⟩) (clock' + 1))).heap[b]? = w3.heap[b]? := fun b hb hl => by
  rw [s2 b hb]; exact hP.old.block b hl
 have hcont : ∀ x : Nat, (seen.push e.born).contains x = true ↔ seen.contains x = true ∨ x = e.born := fun x => by
  rw [Array.contains_iff_mem, Array.contains_iff_mem, Array.mem_push]
 refine ⟨?_, ⟨?_, ?_, ?_, ?_, fun b hb => ?_⟩, by rw [hsz, hP.size]; omega, s1, ?_, MapKept.stamped_push hrel.st hno, fun x hx => ?_, ?_, fun x hx => ?_, fun x hx hs => ?_⟩
 ·rw [keep _ (by omega) (by omega)]; exact hw3.at_
 ·show W.os = _; rw [hP.old.os, hw3.os]; exact hrel.below.os
 ·show W.tape = _; rw [hP.old.tape, hw3.tape]; exact hrel.below.tape
 ·show W.output = _; rw [hP.old.output, hw3.output]; exact hrel.below.output
 ·rw [hsz, hP.size]; omega
 ·rw [keep b (by omega) (by omega), hw3.other b (by omega)]; exact hrel.below.block b hb
 ·rw [keep _ (by omega) (by omega), hw3.other _ (by omega)]; exact hrel.top
 ·rw [Array.toList_push, List.mem_append, List.mem_singleton] at hx
  rcases hx with hx | rfl
  ·obtain ⟨n1, b1, q0, q1, q2, q3, q4, q5⟩ := hrel.page x hx
   have hb1 : b1 ≠ w.heap.size := fun e => by have := q5.cell 0 (by decide); rw [e] at this; simp [World.cell?, hrel.map] at this
   have hb2 : b1 ≠ w.heap.size + 2 := fun e => by have := q5.cell 0 (by decide); rw [e] at this; simp [World.cell?, hrel.iter] at this
   exact ⟨n1, b1, q0, q1, q2, q3, q4, q5.congr (by rw [keep b1 hb1 (by rw [hw3.size]; exact q5.lt), hw3.other b1 hb2])⟩
  ·exact ⟨n, w3.heap.size + 1, r0, r1, rfl, rfl, by omega, hP.page.congr (by rw [s2 _ (by omega)]; rfl)⟩
 ·rw [Array.toList_push, List.pairwise_append]
  refine ⟨hrel.apart, List.pairwise_singleton _ _, fun a ha b hb => ?_⟩
  rw [List.mem_singleton] at hb
  subst hb
  obtain ⟨n1, b1, q0, q1, q2, q3, q4, q5⟩ := hrel.page a ha
  refine ⟨hno a ha, fun e => ?_⟩
  have := q5.lt
  rw [q3] at e
  cases e
  rw [← hw3.size] at this
  omega
 ·rw [Array.toList_push, List.mem_append, List.mem_singleton] at hx
  rcases hx with hx | rfl
  ·obtain ⟨e1, h1, h2, h3⟩ := hrel.from_ x hx
   exact ⟨e1, h1, h2, (hcont _).2 (.inl h3)⟩
  ·exact ⟨e, (mem_left he).1, r2, (hcont _).2 (.inr rfl)⟩
 ·rcases (hcont _).1 hs with h1 | h1
  ·obtain ⟨e1, h2, h3⟩ := hrel.to x hx h1
   exact ⟨e1, by rw [Array.toList_push]; exact List.mem_append_left _ h2, h3⟩
  ·refine ⟨⟨pageKey n, .pointer (some ⟨w3.heap.size + 1, 0, none⟩), clock'⟩, by rw [Array.toList_push]; simp, ?_⟩
   have hx1 : x = e := by
    have hnd := h.st.2.1
    obtain ⟨i, hi, ei⟩ := List.getElem_of_mem hx
    obtain ⟨j, hj, ej⟩ := List.getElem_of_mem (mem_left he).1
    have : i = j := (List.getElem_inj (h₀ := by simpa using hi) (h₁ := by simpa using hj) hnd).1 (by simp [ei, ej, h1])
    subst this
    rw [← ei, ← ej]
   rw [hx1, r2]
theorem CopyA.fin {w : World} {d : List DV} {bm : Nat} {es : Array MapEntry} {clock : Nat} {wr : World} {seen : Array Nat} {es' : Array MapEntry} {clock' p o : Nat} (h : RamA false w p o d bm es clock) (hrel : CopyA w d bm es clock wr seen es' clock')
  (hz : (leftOf es seen).size = 0) : RamA true wr (w.heap.size + 1) 0 d w.heap.size es' clock' ∧ ∀ b, zfn wr (w.heap.size + 1) 0 b → w.heap.size ≤ b := by
 have hR : RamA true wr (w.heap.size + 1) 0 d w.heap.size es' clock' := by
  refine ⟨by simp [World.cell?, hrel.top], hrel.map, hrel.st, fun x hx => ?_, hrel.apart, fun n h0 h1 hall i hi => ?_⟩
  ·obtain ⟨n1, b1, q0, q1, q2, q3, q4, q5⟩ := hrel.page x hx
   exact ⟨n1, b1, q0, q1, q2, q3, q5⟩
  ·refine h.rest n h0 h1 (fun e he hk => ?_) i hi
   obtain ⟨e', h2, h3⟩ := hrel.to e he (all_seen es seen hz e he)
   exact hall e' h2 (by rw [h3, hk])
 refine ⟨hR, fun b hb => ?_⟩
 rcases (hR.foot b).1 hb with rfl | rfl | ⟨e, he, hv⟩
 ·omega
 ·exact Nat.le_refl _
 ·obtain ⟨n1, b1, q0, q1, q2, q3, q4, q5⟩ := hrel.page e he
  rw [q3] at hv
  cases hv
  exact q4
theorem CopyA.start {w w1 : World} {d : List DV} {bm : Nat} {es : Array MapEntry} {clock : Nat} (hw1 : NewA w w1) : CopyA w d bm es clock (w1.alloc (.mapIter (some bm) clock #[] clock)) #[] #[] 0 := by
 have hs := hw1.size
 have ha := (MapKept.heap_alloc w1 (.mapIter (some bm) clock #[] clock))
 refine ⟨?_, hw1.below.alloc (by omega) _, by rw [World.size_alloc]; omega, ?_, ?_, ⟨fun x hx => (by simp at hx), (by simp), (by simp)⟩, fun e he => (by simp at he), (by simp), fun e he => (by simp at he), fun e he hs => (by simp at hs)⟩
 ·rw [← hs]; exact ha.1
 ·rw [ha.2 _ (by omega)]; exact hw1.map
 ·rw [ha.2 _ (by omega)]; exact hw1.top
theorem r6 {Q : Exit → Act → World → Prop} (W W2 : World) (N k : Nat) (n : Int) (t0 t1 t2 t5 t7 t8 t9 t10 t11 t12 t13 t14 t15 t16 t17 t18 t19 t20 u21 u22 u23 u24 u25 u26 : Value) {code : Code} (hcode : Try.f51.body.bind (zch 6) = some code)
 (htop : W.cell? ⟨N + 1, 0, none⟩ = some (.map (some N))) (hkc : W.cell? ⟨k, 0, none⟩ = some (.int .u64 n))
 (hrun : (Instr.mapUpdate 87 (.map (some N)) (.agg #[.int .u64 n]) (.pointer (some ⟨k + 1, 0, none⟩))).run Try.prog W.drew = .ok () W2)
 (hQ : Q .normal ⟨#[t0, t1, t2, .pointer (some ⟨N + 1, 0, none⟩), .pointer (some ⟨k, 0, none⟩), t5, .pointer (some ⟨k + 1, 0, none⟩), t7, t8, t9, t10, t11, t12, t13, t14, t15, t16, t17, t18, t19, t20, .pointer (some ⟨N + 1, 0, none⟩), .pointer (some ⟨N + 1, 0, none⟩), .pointer (some ⟨N + 1, 0, none⟩), .map (some N), .agg #[.int .u64 n], u26], []⟩ W2) :
 Code.wp Try.prog code Q ⟨#[t0, t1, t2, .pointer (some ⟨N + 1, 0, none⟩), .pointer (some ⟨k, 0, none⟩), t5, .pointer (some ⟨k + 1, 0, none⟩), t7, t8, t9, t10, t11, t12, t13, t14, t15, t16, t17, t18, t19, t20, u21, u22, u23, u24, u25, u26], []⟩ W := by
 simp [Try.f51, zch, Option.orElse] at hcode
 subst hcode
 go_region
 exact hQ
theorem w51 (p o bm clock : Nat) (es : Array MapEntry) (d : List DV) (w : World) (h : RamA false w p o d bm es clock) :
    Calls Try.prog 51 #[.pointer (some ⟨p, o, none⟩)] w fun e w' => e = .returned (.pointer (some ⟨w.heap.size + 1, 0, none⟩)) ∧ Below w.heap.size w w' ∧ ∃ es' clock', RamA true w' (w.heap.size + 1) 0 d w.heap.size es' clock' ∧ ∀ b, zfn w' (w.heap.size + 1) 0 b → w.heap.size ≤ b := by
  have hpl : p < w.heap.size := zav h.cell
  have hbl : bm < w.heap.size := h.lt ((h.foot bm).2 (.inr (.inl rfl)))
  go_enter Try.func51, Try.ntmps51
  go_wp2_with (first
    | (go_at_call 28; refine (w28' _).mono ?_; intro e w1 he1; obtain ⟨he, hw1⟩ := he1; subst he
       have hbm : w1.heap[bm]? = some (.map es clock) := (by rw [hw1.below.block bm hbl]; exact h.obj)
       have hr := run_range_map (P := Try.prog) w1 87 117 118 bm es clock Try.underlying87 hbm; rw [hw1.size] at hr
       have c1 : w1.cell? ⟨p, o, none⟩ = some (.map (some bm)) := (by rw [World.cell?_of_block (w := w) (hw1.below.block p hpl)]; exact h.cell))
    | go_in)
  clear hr
  go_loopw [4] (fun _ wr => ∃ seen es' clock', CopyA w d bm es clock wr seen es' clock') (fun _ wr => wr.rangeLeft bm (w.heap.size + 2))
  case atStart => exact ⟨#[], #[], 0, .start hw1⟩
  case round =>
    obtain ⟨seen, es', clock', hrel⟩ := hrel
    go_wp2_with (first
      | (at_next; refine zkc _ rfl _ rfl (w.heap.size + 2) bm clock clock seen es clock (by rfl) hrel.iter (by rw [hrel.below.block bm hbl]; exact h.obj) h.st.1 (Nat.le_refl _) h.st.2.1 ?_ ?_)
      | go_in)
    · intro hz
      go_wp2
      go_ret
      exact ⟨rfl, hrel.below, es', clock', hrel.fin h (by rw [hz]; rfl)⟩
    · intro e w3 he hw3 hen
      obtain ⟨n, b, r0, r1, r2, r3, r4⟩ := h.page e (mem_left (by simpa using he)).1
      rw [r2, r3] at hen ⊢
      have hbr : b ≠ w.heap.size + 2 ∧ b < w.heap.size := ⟨fun e => by have := r4.lt; omega, r4.lt⟩
      have hpg : ∀ W : World, W.heap[b]? = w3.heap[b]? → W.rangeAt b 0 (zf8 d n) := fun W hW => zs3 r4 (by rw [hW, hw3.other b hbr.1, hrel.below.block b hbr.2])
      go_wp2_with (first
        | (refine wpList_load_mid rfl 119 _ rfl b 0 (by rfl) (zf8 d n) _ ?_ Try.underlying119 rfl (by rw [zdy]; exact zs4) ?_)
        | (refine wpList_store_mid rfl 119 _ _ rfl _ 0 (zf8 d n).toArray (by rfl) (by rfl) ?_ (by rw [List.size_toArray, zdy]; exact zs4) (zs2 d n) ?_)
        | go_in)
      · exact hpg _ ((MapKept.heap_alloc _ _).2 b (by rw [hw3.size]; exact Nat.lt_of_lt_of_le hbr.2 hrel.below.size))
      · exact fun j hj => (znG w3 n).1 j (Nat.lt_of_lt_of_le hj (Nat.le_of_eq (by rw [List.size_toArray, zdy])))
      · have hP := zwY w3 d n
        simp only [Act.put]
        generalize (((w3.alloc (.cells #[.int .u64 n] 117)).alloc (.cells Try.zeroCells119 119)).setCells (w3.heap.size + 1) 0 (zf8 d n)) = W at *
        have hw3s : w.heap.size + 3 ≤ w3.heap.size := by rw [hw3.size]; exact hrel.size
        have htop : W.cell? ⟨w.heap.size + 1, 0, none⟩ = some (.map (some w.heap.size)) := by
          have h1 : W.heap[w.heap.size + 1]? = some (.cells #[.map (some w.heap.size)] 89) := by rw [hP.old.block _ (by omega), hw3.other _ (by omega)]; exact hrel.top
          simp [World.cell?, h1]
        have hmap : W.heap[w.heap.size]? = some (.map es' clock') := by rw [hP.old.block _ (by omega), hw3.other _ (by omega)]; exact hrel.map
        have hkc := hP.key
        have hks : ∀ x ∈ es'.toList, ∃ l, keyOf Try.prog 117 x.key = some l := fun x hx => by
          obtain ⟨n', b', q1, q2, q3, _⟩ := hrel.page x hx
          rw [q3]
          exact zeY q1 q2
        obtain ⟨l, hkl⟩ := zeY r0 r1
        have hno : ∀ x ∈ es'.toList, x.key ≠ pageKey n := fun x hx hk => by
          obtain ⟨e', he', hke, hs⟩ := hrel.from_ x hx
          have h2 := (mem_left (by simpa using he)).2
          rcases zsK h.apart he' (mem_left (by simpa using he)).1 with h3 | h3
          · rw [h3, h2] at hs; cases hs
          · exact h3.1 (by rw [hke, hk, r2])
        have hrun := zo2 (P := Try.prog) (w := W.drew) (val := .pointer (some ⟨w3.heap.size + 1, 0, none⟩)) zmo Try.underlying87 hmap hks hkl hno
        clear hpg
        generalize (zf8 d n).toArray = pl
        refine r6 W _ w.heap.size w3.heap.size n _ _ _ _ _ _ _ _ _ _ _ _ _ _ _ _ _ _ _ _ _ _ _ _ (by kernel_rfl) htop hkc hrun ?_
        go_roundw
        case rel => exact ⟨_, _, _, _, _, _, _, _, _, _, _, _, _, _, _, _, ⟨_, _, _, hrel.round h (by simpa using he) r0 r1 r2 hw3 hP hno⟩, rfl⟩
        case measure =>
          have hR := hrel.round h (by simpa using he) r0 r1 r2 hw3 hP hno
          have hbn : bm ≠ w.heap.size := by omega
          have e1 : (setBlock W.drew w.heap.size (.map (es'.push ⟨pageKey n, .pointer (some ⟨w3.heap.size + 1, 0, none⟩), clock'⟩) (clock' + 1))).heap[bm]? = some (.map es clock) := by rw [hR.below.block bm hbl]; exact h.obj
          have e2 : wr.heap[bm]? = some (.map es clock) := by rw [hrel.below.block bm hbl]; exact h.obj
          simp only [World.rangeLeft, e1, e2, hR.iter, hrel.iter]
          exact left_shrinks es seen e (by simpa using he)
theorem k51 {I : World → Prop} : FnOK Try.prog I 0 51 s51 g51 := by
 intro ds ρ w _ hlen hneed _ _ _ hrel
 obtain ⟨hn, mb, es, clock, h⟩ := objA (hrel.blk 0 _ rfl)
 show Calls Try.prog 51 #[.pointer (some ⟨(ρ 0).blk, (ρ 0).off, none⟩)] w _
 refine (w51 _ _ _ _ es _ w h).mono fun e w' ⟨he, hb, es', clock', hR, hf⟩ => ?_
 subst he
 have hk0 : objK (kb 0) = zmJ := by rw [show kb 0 = 0 from rfl, objK]
 exact ⟨_, fun j => if j = 1 then ⟨w.heap.size + 1, 0, false, 0, 0, none⟩ else ρ j, rfl, zsO (k := 0) (j := 1) rfl (V.good_s.2 (V1.good_one.2 trivial)) rfl (by decide) (zo1 rfl hR) (fun b hb' => by
  rw [hk0] at hb'
  exact hf b hb') (fun b hb' => by rw [hk0] at hb' ⊢; exact hb') rfl (fun j hj hl => by
   match j, hl with
   | 0, _ => rfl
   | 1, _ => cases hj
   | j + 2, hl => exact absurd hl (by simp [s51])) hb⟩
end Go.Proofs.Ytiabiimoalkmjaa
namespace Go.Proofs.Ytiabiimoalkmjaa
open Go Go.Sx Go.RowKit
set_option maxRecDepth 100000
def pgs0 : Array Value := madeCells #[.slice none 0 0] 256
structure NewB (w w' : World) : Prop where
 size : w'.heap.size = w.heap.size + 2
 row : w'.heap[w.heap.size]? = some (.cells pgs0 22)
 top : w'.heap[w.heap.size + 1]? = some (.cells #[.slice (some ⟨w.heap.size, 0, none⟩) 256 256] 104)
 below : Below w.heap.size w w'
end Go.Proofs.Ytiabiimoalkmjaa
namespace Go.Proofs.Ytiabiimoalkmjaa
open Go Go.Sx Go.RowKit
set_option maxRecDepth 100000
structure CopyB (w : World) (d : List DV) (k : Nat) (wr : World) (pg : Nat → Option (Nat × Nat × Nat)) : Prop where
 le : k ≤ 256
 below : Below w.heap.size w wr
 size : w.heap.size + 2 ≤ wr.heap.size
 top : wr.cell? ⟨w.heap.size + 1, 0, none⟩ = some (.slice (some ⟨w.heap.size, 0, none⟩) 256 256)
 fz : ∀ i, wr.frozen? ⟨w.heap.size, i, none⟩ = false
 rest : ∀ j, k ≤ j → j < 256 → wr.cell? ⟨w.heap.size, j, none⟩ = some (.slice none 0 0)
 gone : ∀ j, j < k → pg j = none → (∃ s c', wr.cell? ⟨w.heap.size, j, none⟩ = some (.slice s 0 c')) ∧ ∀ i : Nat, i < 4096 → ramAt d (2147483648 + j * 4096 + i) = 0
 there : ∀ j b f c', j < k → pg j = some (b, f, c') → wr.cell? ⟨w.heap.size, j, none⟩ = some (.slice (some ⟨b, f, none⟩) 4096 c') ∧ w.heap.size + 2 ≤ b ∧ PageAt true wr b f (fun i => ramAt d (2147483648 + j * 4096 + i))
 apart : ∀ j j' b f c1 b' f' c2, j < k → j' < k → j ≠ j' → pg j = some (b, f, c1) → pg j' = some (b', f', c2) → b ≠ b'
end Go.Proofs.Ytiabiimoalkmjaa
namespace Go.Proofs.Ytiabiimoalkmjaa
open Go Go.Sx
set_option maxRecDepth 100000
set_option maxHeartbeats 4000000
def WI (_ : World) : Prop := True
def gK : Nat := 0
theorem zap : zpJ WI gK := fun _ _ _ _ h => h
noncomputable def FE : FEnv := fun f => match f with
 | 31 => g31
 | 52 => g52
 | 61 => g61
 | 71 => g71
 | 72 => g72
 | 32 => g32
 | 53 => g53
 | 88 => g88
 | 60 => g60
 | 92 => g92
 | 73 => g73
 | 116 => g116
 | 114 => g114
 | 115 => g115
 | 33 => g33
 | 77 => g77
 | 119 => g119
 | 117 => g117
 | 59 => g59
 | 118 => g118
 | 74 => g74
 | 54 => g54
 | 28 => g28
 | 75 => g75
 | 83 => g83
 | 51 => g51
 | 111 => g111
 | 112 => g112
 | 65 => g65
 | 104800 => zu0
 | 48 => g48
 | 103900 => zu1
 | 39 => g39
 | 103000 => zu2
 | 30 => g30
 | 102900 => zmk
 | 29 => g29
 | 40 => g40
 | 41 => g41
 | 20 => g20
 | 14 => g14
 | 8 => g8
 | 101600 => zf7
 | 16 => g16
 | 24 => g24
 | 25 => g25
 | 26 => g26
 | 27 => g27
 | 18 => g18
 | 12 => g12
 | 10 => g10
 | 7 => g7
 | 100600 => zj6
 | 6 => g6
 | _ => fun _ => []
theorem k31 : FnOK Try.prog WI gK 31 s31 g31 :=
 zbj (F := FE) zap (⟨fun _ _ h => (by cases h), (fun _ _ h => (by cases h))⟩) Try.func31 ev31 (by kernel_rfl) (zaz (by kernel_rfl)) fun ds h hp => match ds, h, hp with
  | [], _, _ => ⟨by kernel_rfl, zao (by kernel_rfl) (by kernel_rfl) (by kernel_rfl)⟩
theorem k52 : FnOK Try.prog WI gK 52 s52 g52 :=
 zbj (F := FE) zap (⟨fun _ _ h => (by cases h), (fun _ _ h => (by cases h))⟩) Try.func52 ev52 (by kernel_rfl) (zaz (by kernel_rfl)) fun ds h hp => match ds, h, hp with
  | [d0], _, _ => ⟨by kernel_rfl, zao (by kernel_rfl) (by kernel_rfl) (by kernel_rfl)⟩
theorem k61 : FnOK Try.prog WI gK 61 s61 g61 :=
 zbj (F := FE) zap (⟨fun _ _ h => (by cases h), (fun _ _ h => (by cases h))⟩) Try.func61 ev61 (by kernel_rfl) (zaz (by kernel_rfl)) fun ds h hp => match ds, h, hp with
  | [d0], _, _ => ⟨by kernel_rfl, zao (by kernel_rfl) (by kernel_rfl) (by kernel_rfl)⟩
theorem k71 : FnOK Try.prog WI gK 71 s71 g71 :=
 zbj (F := FE) zap (⟨fun _ _ h => (by cases h), (fun _ _ h => (by cases h))⟩) Try.func71 ev71 (by kernel_rfl) (zaz (by kernel_rfl)) fun ds h hp => match ds, h, hp with
  | [d0], _, _ => ⟨by kernel_rfl, zao (by kernel_rfl) (by kernel_rfl) (by kernel_rfl)⟩
theorem k72 : FnOK Try.prog WI gK 72 s72 g72 :=
 zbj (F := FE) zap (⟨fun _ _ h => (by cases h), (fun _ _ h => (by cases h))⟩) Try.func72 ev72 (by kernel_rfl) (zaz (by kernel_rfl)) fun ds h hp => match ds, h, hp with
  | [d0], _, _ => ⟨by kernel_rfl, zao (by kernel_rfl) (by kernel_rfl) (by kernel_rfl)⟩
theorem k32 : FnOK Try.prog WI gK 32 s32 g32 :=
 zbj (F := FE) zap (⟨fun _ _ h => (by cases h), (fun _ _ h => (by cases h))⟩) Try.func32 ev32 (by kernel_rfl) (zaz (by kernel_rfl)) fun ds h hp => match ds, h, hp with
  | [], _, _ => ⟨by kernel_rfl, zao (by kernel_rfl) (by kernel_rfl) (by kernel_rfl)⟩
theorem k53 : FnOK Try.prog WI gK 53 s53 g53 :=
 zbj (F := FE) zap (⟨fun _ _ h => (by cases h), (fun _ _ h => (by cases h))⟩) Try.func53 ev53 (by kernel_rfl) (zaz (by kernel_rfl)) fun ds h hp => match ds, h, hp with
  | [d0], _, _ => ⟨by kernel_rfl, zao (by kernel_rfl) (by kernel_rfl) (by kernel_rfl)⟩
theorem k88 : FnOK Try.prog WI gK 88 s88 g88 :=
 zbj (F := FE) zap (⟨fun _ _ h => (by cases h), (fun _ _ h => (by cases h))⟩) Try.func88 ev88 (by kernel_rfl) (zaz (by kernel_rfl)) fun ds h hp => match ds, h, hp with
  | [d0, d1], _, hp => ⟨(by kernel_rfl : zbF (zaJ FE s88 o88 [d0, d1]) o88.owes = (dget (g88 [d0, d1]) 0).toB).trans (hp rfl), zao (by kernel_rfl) (by kernel_rfl) (by kernel_rfl)⟩
theorem k60 : FnOK Try.prog WI gK 60 s60 g60 :=
 zbj (F := FE) zap (⟨(fun f s h => zaB (Q := fun f s => FnOK Try.prog WI gK f s (FE f)) (l := S60.fs)
  (show ∀ p ∈ [(88, s88)], FnOK Try.prog WI gK p.1 p.2 (FE p.1) from
  zai k88 (by kernel_rfl) (fun _ h => (by cases h))) h), (fun _ _ h => (by cases h))⟩) Try.func60 ev60 (by kernel_rfl) (zaz (by kernel_rfl)) fun ds h hp => match ds, h, hp with
  | [d0, d1, d2], _, hp => ⟨(by kernel_rfl : zbF (zaJ FE s60 o60 [d0, d1, d2]) o60.owes = (dget (g60 [d0, d1, d2]) 0).toB).trans (hp rfl), zao (by kernel_rfl) (by kernel_rfl) (by kernel_rfl)⟩
theorem k92 : FnOK Try.prog WI gK 92 s92 g92 :=
 zbj (F := FE) zap (⟨fun _ _ h => (by cases h), (fun _ _ h => (by cases h))⟩) Try.func92 ev92 (by kernel_rfl) (zaz (by kernel_rfl)) fun ds h hp => match ds, h, hp with
  | [d0, d1], _, hp => ⟨(by kernel_rfl : zbF (zaJ FE s92 o92 [d0, d1]) o92.owes = (dget (g92 [d0, d1]) 0).toB).trans (hp rfl), zao (by kernel_rfl) (by kernel_rfl) (by kernel_rfl)⟩
theorem k73 : FnOK Try.prog WI gK 73 s73 g73 :=
 zbj (F := FE) zap (⟨(fun f s h => zaB (Q := fun f s => FnOK Try.prog WI gK f s (FE f)) (l := S73.fs)
  (show ∀ p ∈ [(92, s92)], FnOK Try.prog WI gK p.1 p.2 (FE p.1) from
  zai k92 (by kernel_rfl) (fun _ h => (by cases h))) h), (fun _ _ h => (by cases h))⟩) Try.func73 ev73 (by kernel_rfl) (zaz (by kernel_rfl)) fun ds h hp => match ds, h, hp with
  | [d0], _, hp => ⟨(by kernel_rfl : zbF (zaJ FE s73 o73 [d0]) o73.owes = (dget (g73 [d0]) 0).toB).trans (hp rfl), zao (by kernel_rfl) (by kernel_rfl) (by kernel_rfl)⟩
theorem k116 : FnOK Try.prog WI gK 116 s116 g116 :=
 zbj (F := FE) zap (⟨fun _ _ h => (by cases h), (fun _ _ h => (by cases h))⟩) Try.func116 zwT (by kernel_rfl) (zaz (by kernel_rfl)) fun ds h hp => match ds, h, hp with
  | [d0, d1], _, _ => ⟨by kernel_rfl, zao (by kernel_rfl) (by kernel_rfl) (by kernel_rfl)⟩
theorem k114 : FnOK Try.prog WI gK 114 s114 g114 :=
 zbj (F := FE) zap (⟨(fun f s h => zaB (Q := fun f s => FnOK Try.prog WI gK f s (FE f)) (l := S114.fs)
  (show ∀ p ∈ [(116, s116), (92, s92)], FnOK Try.prog WI gK p.1 p.2 (FE p.1) from
  zai k116 (by kernel_rfl) (zai k92 (by kernel_rfl) (fun _ h => (by cases h)))) h), (fun _ _ h => (by cases h))⟩) Try.func114 zwR (by kernel_rfl) (zaz (by kernel_rfl)) fun ds h hp => match ds, h, hp with
  | [d0, d1, d2], _, hp => ⟨(by kernel_rfl : zbF (zaJ FE s114 o114 [d0, d1, d2]) o114.owes = (dget (g114 [d0, d1, d2]) 0).toB).trans (hp rfl), zao (by kernel_rfl) (by kernel_rfl) (by kernel_rfl)⟩
theorem k115 : FnOK Try.prog WI gK 115 s115 g115 :=
 zbj (F := FE) zap (⟨(fun f s h => zaB (Q := fun f s => FnOK Try.prog WI gK f s (FE f)) (l := S115.fs)
  (show ∀ p ∈ [(116, s116), (88, s88)], FnOK Try.prog WI gK p.1 p.2 (FE p.1) from
  zai k116 (by kernel_rfl) (zai k88 (by kernel_rfl) (fun _ h => (by cases h)))) h), (fun _ _ h => (by cases h))⟩) Try.func115 zwV (by kernel_rfl) (zaz (by kernel_rfl)) fun ds h hp => match ds, h, hp with
  | [d0, d1, d2, d3], _, hp => ⟨(by kernel_rfl : zbF (zaJ FE s115 o115 [d0, d1, d2, d3]) o115.owes = (dget (g115 [d0, d1, d2, d3]) 0).toB).trans (hp rfl), zao (by kernel_rfl) (by kernel_rfl) (by kernel_rfl)⟩
theorem k33 : FnOK Try.prog WI gK 33 s33 g33 :=
 zbj (F := FE) zap (⟨fun _ _ h => (by cases h), (fun _ _ h => (by cases h))⟩) Try.func33 ev33 (by kernel_rfl) (zaz (by kernel_rfl)) fun ds h hp => match ds, h, hp with
  | [], _, _ => ⟨by kernel_rfl, zao (by kernel_rfl) (by kernel_rfl) (by kernel_rfl)⟩
theorem k77 : FnOK Try.prog WI gK 77 s77 g77 :=
 zbj (F := FE) zap (⟨fun _ _ h => (by cases h), (fun _ _ h => (by cases h))⟩) Try.func77 ev77 (by kernel_rfl) (zaz (by kernel_rfl)) fun ds h hp => match ds, h, hp with
  | [d0], _, _ => ⟨by kernel_rfl, zao (by kernel_rfl) (by kernel_rfl) (by kernel_rfl)⟩
theorem k119 : FnOK Try.prog WI gK 119 s119 g119 :=
 zbj (F := FE) zap (⟨fun _ _ h => (by cases h), (fun _ _ h => (by cases h))⟩) Try.func119 zwU (by kernel_rfl) (zaz (by kernel_rfl)) fun ds h hp => match ds, h, hp with
  | [d0, d1], _, hp => ⟨(by kernel_rfl : zbF (zaJ FE s119 o119 [d0, d1]) o119.owes = (dget (g119 [d0, d1]) 0).toB).trans (hp rfl), zao (by kernel_rfl) (by kernel_rfl) (by kernel_rfl)⟩
theorem k117 : FnOK Try.prog WI gK 117 s117 g117 :=
 zbj (F := FE) zap (⟨(fun f s h => zaB (Q := fun f s => FnOK Try.prog WI gK f s (FE f)) (l := S117.fs)
  (show ∀ p ∈ [(119, s119), (77, s77)], FnOK Try.prog WI gK p.1 p.2 (FE p.1) from
  zai k119 (by kernel_rfl) (zai k77 (by kernel_rfl) (fun _ h => (by cases h)))) h), (fun _ _ h => (by cases h))⟩) Try.func117 zwS (by kernel_rfl) (zaz (by kernel_rfl)) fun ds h hp => match ds, h, hp with
  | [d0, d1, d2], _, hp => ⟨(by kernel_rfl : zbF (zaJ FE s117 o117 [d0, d1, d2]) o117.owes = (dget (g117 [d0, d1, d2]) 0).toB).trans (hp rfl), zao (by kernel_rfl) (by kernel_rfl) (by kernel_rfl)⟩
theorem k59 : FnOK Try.prog WI gK 59 s59 g59 :=
 zbj (F := FE) zap (⟨fun _ _ h => (by cases h), (fun _ _ h => (by cases h))⟩) Try.func59 ev59 (by kernel_rfl) (zaz (by kernel_rfl)) fun ds h hp => match ds, h, hp with
  | [d0, d1], _, hp => ⟨(by kernel_rfl : zbF (zaJ FE s59 o59 [d0, d1]) o59.owes = (dget (g59 [d0, d1]) 0).toB).trans (hp rfl), zao (by kernel_rfl) (by kernel_rfl) (by kernel_rfl)⟩
theorem k118 : FnOK Try.prog WI gK 118 s118 g118 :=
 zbj (F := FE) zap (⟨fun _ _ h => (by cases h), (fun _ _ h => (by cases h))⟩) Try.func118 zwQ (by kernel_rfl) (zaz (by kernel_rfl)) fun ds h hp => match ds, h, hp with
  | [d0, d1, d2, d3], _, hp => ⟨(by kernel_rfl : zbF (zaJ FE s118 o118 [d0, d1, d2, d3]) o118.owes = (dget (g118 [d0, d1, d2, d3]) 0).toB).trans (hp rfl), zao (by kernel_rfl) (by kernel_rfl) (by kernel_rfl)⟩
theorem k74 : FnOK Try.prog WI gK 74 s74 g74 :=
 zbj (F := FE) zap (⟨fun _ _ h => (by cases h), (fun _ _ h => (by cases h))⟩) Try.func74 ev74 (by kernel_rfl) (zaz (by kernel_rfl)) fun ds h hp => match ds, h, hp with
  | [d0], _, hp => ⟨(by kernel_rfl : zbF (zaJ FE s74 o74 [d0]) o74.owes = (dget (g74 [d0]) 0).toB).trans (hp rfl), zao (by kernel_rfl) (by kernel_rfl) (by kernel_rfl)⟩
theorem k54 : FnOK Try.prog WI gK 54 s54 g54 :=
 zbj (F := FE) zap (⟨fun _ _ h => (by cases h), (fun _ _ h => (by cases h))⟩) Try.func54 ev54 (by kernel_rfl) (zaz (by kernel_rfl)) fun ds h hp => match ds, h, hp with
  | [d0], _, hp => ⟨(by kernel_rfl : zbF (zaJ FE s54 o54 [d0]) o54.owes = (dget (g54 [d0]) 0).toB).trans (hp rfl), zao (by kernel_rfl) (by kernel_rfl) (by kernel_rfl)⟩
theorem k65 : FnOK Try.prog WI gK 65 s65 g65 :=
 zbj (F := FE) zap (⟨fun _ _ h => (by cases h), (fun _ _ h => (by cases h))⟩) Try.func65 ev65 (by kernel_rfl) (zaz (by kernel_rfl)) fun ds h hp => match ds, h, hp with
  | [d0, d1, d2], _, _ => ⟨by kernel_rfl, zao (by kernel_rfl) (by kernel_rfl) (by kernel_rfl)⟩
theorem zwk : zay FE zqL := zhw (w := zhz) (c := zhA) (nx := zjN) (out := zoO) [.i, .l, .i, .i] (fun ds => by kernel_rfl) rfl (fun ν xs h => match xs, h with | [x0, x1], _ => by kernel_rfl)
 (fun ν xs h => match xs, h with | [x0, x1], _ => by kernel_rfl)
 (fun ν xs h => match xs, h with | [x0, x1], _ => by kernel_rfl)
 (fun ν xs h => match xs, h with | [x0, x1], _ => by kernel_rfl)
theorem hl48 : ∀ l ∈ o48.loops, zay FE l := zhx (by kernel_rfl : o48.loops = [zqL])
 (  List.forall_mem_cons.2 ⟨zwk, fun _ h => (by cases h)⟩)
theorem k48 : FnOK Try.prog WI gK 48 s48 g48 :=
 zbj (F := FE) zap (⟨(fun f s h => zaB (Q := fun f s => FnOK Try.prog WI gK f s (FE f)) (l := S48.fs)
  (show ∀ p ∈ [(65, s65), (83, s83)], FnOK Try.prog WI gK p.1 p.2 (FE p.1) from
  zai k65 (by kernel_rfl) (zai k83 (by kernel_rfl) (fun _ h => (by cases h)))) h), (fun _ _ h => (by cases h))⟩) Try.func48 ev48 (by kernel_rfl) hl48 fun ds h hp => match ds, h, hp with
  | [d0, d1, d2], _, hp => ⟨(by kernel_rfl : zbF (zaJ FE s48 o48 [d0, d1, d2]) o48.owes = (dget (g48 [d0, d1, d2]) 0).toB).trans (hp rfl), zao (by kernel_rfl) (by kernel_rfl) (by kernel_rfl)⟩
theorem zwl : zay FE zqM := zhw (w := zjP) (c := zjQ) (nx := zjR) (out := zoR) [.i, .i, .i, .i, .l] (fun ds => by kernel_rfl) rfl (fun ν xs h => match xs, h with | [x0, x1], _ => by kernel_rfl)
 (fun ν xs h => match xs, h with | [x0, x1], _ => by kernel_rfl)
 (fun ν xs h => match xs, h with | [x0, x1], _ => by kernel_rfl)
 (fun ν xs h => match xs, h with | [x0, x1], _ => by kernel_rfl)
theorem hl39 : ∀ l ∈ o39.loops, zay FE l := zhx (by kernel_rfl : o39.loops = [zqM])
 (  List.forall_mem_cons.2 ⟨zwl, fun _ h => (by cases h)⟩)
theorem k39 : FnOK Try.prog WI gK 39 s39 g39 :=
 zbj (F := FE) zap (⟨(fun f s h => zaB (Q := fun f s => FnOK Try.prog WI gK f s (FE f)) (l := S39.fs)
  (show ∀ p ∈ [(65, s65), (75, s75)], FnOK Try.prog WI gK p.1 p.2 (FE p.1) from
  zai k65 (by kernel_rfl) (zai k75 (by kernel_rfl) (fun _ h => (by cases h)))) h), (fun _ _ h => (by cases h))⟩) Try.func39 ev39 (by kernel_rfl) hl39 fun ds h hp => match ds, h, hp with
  | [d0, d1, d2, d3], _, hp => ⟨(by kernel_rfl : zbF (zaJ FE s39 o39 [d0, d1, d2, d3]) o39.owes = (dget (g39 [d0, d1, d2, d3]) 0).toB).trans (hp rfl), zao (by kernel_rfl) (by kernel_rfl) (by kernel_rfl)⟩
theorem zwm : zay FE zqP := zhw (w := zmd) (c := zme) (nx := zmf) (out := zoT) [.i, .l, .i, .l] (fun ds => by kernel_rfl) rfl (fun ν xs h => match xs, h with | [x0, x1], _ => by kernel_rfl)
 (fun ν xs h => match xs, h with | [x0, x1], _ => by kernel_rfl)
 (fun ν xs h => match xs, h with | [x0, x1], _ => by kernel_rfl)
 (fun ν xs h => match xs, h with | [x0, x1], _ => by kernel_rfl)
theorem hl30 : ∀ l ∈ o30.loops, zay FE l := zhx (by kernel_rfl : o30.loops = [zqP])
 (  List.forall_mem_cons.2 ⟨zwm, fun _ h => (by cases h)⟩)
theorem k30 : FnOK Try.prog WI gK 30 s30 g30 :=
 zbj (F := FE) zap (⟨(fun f s h => zaB (Q := fun f s => FnOK Try.prog WI gK f s (FE f)) (l := S30.fs)
  (show ∀ p ∈ [(75, s75)], FnOK Try.prog WI gK p.1 p.2 (FE p.1) from
  zai k75 (by kernel_rfl) (fun _ h => (by cases h))) h), (fun _ _ h => (by cases h))⟩) Try.func30 ev30 (by kernel_rfl) hl30 fun ds h hp => match ds, h, hp with
  | [d0, d1], _, hp => ⟨(by kernel_rfl : zbF (zaJ FE s30 o30 [d0, d1]) o30.owes = (dget (g30 [d0, d1]) 0).toB).trans (hp rfl), zao (by kernel_rfl) (by kernel_rfl) (by kernel_rfl)⟩
theorem zwn : zay FE zqQ := zhw (w := zmh) (c := zmi) (nx := zmj) (out := zoV) [.i, .l, .b, .i, .i] (fun ds => by kernel_rfl) rfl (fun ν xs h => match xs, h with | [x0, x1, x2], _ => by kernel_rfl)
 (fun ν xs h => match xs, h with | [x0, x1, x2], _ => by kernel_rfl)
 (fun ν xs h => match xs, h with | [x0, x1, x2], _ => by kernel_rfl)
 (fun ν xs h => match xs, h with | [x0, x1, x2], _ => by kernel_rfl)
theorem hl29 : ∀ l ∈ o29.loops, zay FE l := zhx (by kernel_rfl : o29.loops = [zqQ])
 (  List.forall_mem_cons.2 ⟨zwn, fun _ h => (by cases h)⟩)
theorem k29 : FnOK Try.prog WI gK 29 s29 g29 :=
 zbj (F := FE) zap (⟨fun _ _ h => (by cases h), (fun _ _ h => (by cases h))⟩) Try.func29 ev29 (by kernel_rfl) hl29 fun ds h hp => match ds, h, hp with
  | [d0], _, hp => ⟨(by kernel_rfl : zbF (zaJ FE s29 o29 [d0]) o29.owes = (dget (g29 [d0]) 0).toB).trans (hp rfl), zao (by kernel_rfl) (by kernel_rfl) (by kernel_rfl)⟩
theorem k40 : FnOK Try.prog WI gK 40 s40 g40 :=
 zbj (F := FE) zap (⟨fun _ _ h => (by cases h), (fun _ _ h => (by cases h))⟩) Try.func40 ev40 (by kernel_rfl) (zaz (by kernel_rfl)) fun ds h hp => match ds, h, hp with
  | [d0, d1, d2, d3], _, _ => ⟨by kernel_rfl, zao (by kernel_rfl) (by kernel_rfl) (by kernel_rfl)⟩
theorem k41 : FnOK Try.prog WI gK 41 s41 g41 :=
 zbj (F := FE) zap (⟨(fun f s h => zaB (Q := fun f s => FnOK Try.prog WI gK f s (FE f)) (l := S41.fs)
  (show ∀ p ∈ [(77, s77), (60, s60)], FnOK Try.prog WI gK p.1 p.2 (FE p.1) from
  zai k77 (by kernel_rfl) (zai k60 (by kernel_rfl) (fun _ h => (by cases h)))) h), (fun _ _ h => (by cases h))⟩) Try.func41 ev41 (by kernel_rfl) (zaz (by kernel_rfl)) fun ds h hp => match ds, h, hp with
  | [d0], _, hp => ⟨(by kernel_rfl : zbF (zaJ FE s41 o41 [d0]) o41.owes = (dget (g41 [d0]) 0).toB).trans (hp rfl), zao (by kernel_rfl) (by kernel_rfl) (by kernel_rfl)⟩
theorem k20 : FnOK Try.prog WI gK 20 s20 g20 :=
 zbj (F := FE) zap (⟨(fun f s h => zaB (Q := fun f s => FnOK Try.prog WI gK f s (FE f)) (l := S20.fs)
  (show ∀ p ∈ [(65, s65)], FnOK Try.prog WI gK p.1 p.2 (FE p.1) from
  zai k65 (by kernel_rfl) (fun _ h => (by cases h))) h), (fun _ _ h => (by cases h))⟩) Try.func20 ev20 (by kernel_rfl) (zaz (by kernel_rfl)) fun ds h hp => match ds, h, hp with
  | [d0, d1, d2], _, _ => ⟨by kernel_rfl, zao (by kernel_rfl) (by kernel_rfl) (by kernel_rfl)⟩
theorem k14 : FnOK Try.prog WI gK 14 s14 g14 :=
 zbj (F := FE) zap (⟨(fun f s h => zaB (Q := fun f s => FnOK Try.prog WI gK f s (FE f)) (l := S14.fs)
  (show ∀ p ∈ [(51, s51), (52, s52), (53, s53), (54, s54)], FnOK Try.prog WI gK p.1 p.2 (FE p.1) from
  zai k51 (by kernel_rfl) (zai k52 (by kernel_rfl) (zai k53 (by kernel_rfl) (zai k54 (by kernel_rfl) (fun _ h => (by cases h)))))) h), (fun _ _ h => (by cases h))⟩) Try.func14 ev14 (by kernel_rfl) (zaz (by kernel_rfl)) fun ds h hp => match ds, h, hp with
  | [d0], _, hp => ⟨(by kernel_rfl : zbF (zaJ FE s14 o14 [d0]) o14.owes = (dget (g14 [d0]) 0).toB).trans (hp rfl), zao (by kernel_rfl) (by kernel_rfl) (by kernel_rfl)⟩
theorem k8 : FnOK Try.prog WI gK 8 s8 g8 :=
 zbj (F := FE) zap (⟨(fun f s h => zaB (Q := fun f s => FnOK Try.prog WI gK f s (FE f)) (l := S8.fs)
  (show ∀ p ∈ [(28, s28), (29, s29), (30, s30), (31, s31), (32, s32), (33, s33)], FnOK Try.prog WI gK p.1 p.2 (FE p.1) from
  zai k28 (by kernel_rfl) (zai k29 (by kernel_rfl) (zai k30 (by kernel_rfl) (zai k31 (by kernel_rfl) (zai k32 (by kernel_rfl) (zai k33 (by kernel_rfl) (fun _ h => (by cases h)))))))) h), (fun _ _ h => (by cases h))⟩) Try.func8 ev8 (by kernel_rfl) (zaz (by kernel_rfl)) fun ds h hp => match ds, h, hp with
  | [d0, d1, d2, d3, d4, d5, d6], _, hp => ⟨(by kernel_rfl : zbF (zaJ FE s8 o8 [d0, d1, d2, d3, d4, d5, d6]) o8.owes = (dget (g8 [d0, d1, d2, d3, d4, d5, d6]) 0).toB).trans (hp rfl), zao (by kernel_rfl) (by kernel_rfl) (by kernel_rfl)⟩
theorem zwo : zay FE zqR := zhw (w := zdX) (c := zdY) (nx := zhB) (out := zml) [.l, .l, .l, .l, .l, .i, .l, .b, .l, .l, .l, .l] (fun ds => by kernel_rfl) rfl (fun ν xs h => match xs, h with | [x0, x1, x2, x3, x4, x5, x6, x7, x8, x9, x10], _ => by kernel_rfl)
 (fun ν xs h => match xs, h with | [x0, x1, x2, x3, x4, x5, x6, x7, x8, x9, x10], _ => by kernel_rfl)
 (fun ν xs h => match xs, h with | [x0, x1, x2, x3, x4, x5, x6, x7, x8, x9, x10], _ => by kernel_rfl)
 (fun ν xs h => match xs, h with | [x0, x1, x2, x3, x4, x5, x6, x7, x8, x9, x10], _ => by kernel_rfl)
theorem hl16 : ∀ l ∈ o16.loops, zay FE l := zhx (by kernel_rfl : o16.loops = [zqR])
 (  List.forall_mem_cons.2 ⟨zwo, fun _ h => (by cases h)⟩)
theorem k16 : FnOK Try.prog WI gK 16 s16 g16 :=
 zbj (F := FE) zap (⟨(fun f s h => zaB (Q := fun f s => FnOK Try.prog WI gK f s (FE f)) (l := S16.fs)
  (show ∀ p ∈ [(61, s61), (59, s59), (60, s60), (41, s41)], FnOK Try.prog WI gK p.1 p.2 (FE p.1) from
  zai k61 (by kernel_rfl) (zai k59 (by kernel_rfl) (zai k60 (by kernel_rfl) (zai k41 (by kernel_rfl) (fun _ h => (by cases h)))))) h), (fun _ _ h => (by cases h))⟩) Try.func16 ev16 (by kernel_rfl) hl16 fun ds h hp => match ds, h, hp with
  | [d0], _, hp => ⟨(by kernel_rfl : zbF (zaJ FE s16 o16 [d0]) o16.owes = (dget (g16 [d0]) 0).toB).trans (hp rfl), zao (by kernel_rfl) (by kernel_rfl) (by kernel_rfl)⟩
theorem k24 : FnOK Try.prog WI gK 24 s24 g24 :=
 zbj (F := FE) zap (⟨(fun f s h => zaB (Q := fun f s => FnOK Try.prog WI gK f s (FE f)) (l := S24.fs)
  (show ∀ p ∈ [(71, s71)], FnOK Try.prog WI gK p.1 p.2 (FE p.1) from
  zai k71 (by kernel_rfl) (fun _ h => (by cases h))) h), (fun _ _ h => (by cases h))⟩) Try.func24 ev24 (by kernel_rfl) (zaz (by kernel_rfl)) fun ds h hp => match ds, h, hp with
  | [d0], _, _ => ⟨by kernel_rfl, zao (by kernel_rfl) (by kernel_rfl) (by kernel_rfl)⟩
theorem k25 : FnOK Try.prog WI gK 25 s25 g25 :=
 zbj (F := FE) zap (⟨fun _ _ h => (by cases h), (fun _ _ h => (by cases h))⟩) Try.func25 ev25 (by kernel_rfl) (zaz (by kernel_rfl)) fun ds h hp => match ds, h, hp with
  | [d0], _, _ => ⟨by kernel_rfl, zao (by kernel_rfl) (by kernel_rfl) (by kernel_rfl)⟩
theorem k26 : FnOK Try.prog WI gK 26 s26 g26 :=
 zbj (F := FE) zap (⟨(fun f s h => zaB (Q := fun f s => FnOK Try.prog WI gK f s (FE f)) (l := S26.fs)
  (show ∀ p ∈ [(72, s72), (73, s73)], FnOK Try.prog WI gK p.1 p.2 (FE p.1) from
  zai k72 (by kernel_rfl) (zai k73 (by kernel_rfl) (fun _ h => (by cases h)))) h), (fun _ _ h => (by cases h))⟩) Try.func26 ev26 (by kernel_rfl) (zaz (by kernel_rfl)) fun ds h hp => match ds, h, hp with
  | [d0], _, hp => ⟨(by kernel_rfl : zbF (zaJ FE s26 o26 [d0]) o26.owes = (dget (g26 [d0]) 0).toB).trans (hp rfl), zao (by kernel_rfl) (by kernel_rfl) (by kernel_rfl)⟩
theorem k27 : FnOK Try.prog WI gK 27 s27 g27 :=
 zbj (F := FE) zap (⟨(fun f s h => zaB (Q := fun f s => FnOK Try.prog WI gK f s (FE f)) (l := S27.fs)
  (show ∀ p ∈ [(74, s74)], FnOK Try.prog WI gK p.1 p.2 (FE p.1) from
  zai k74 (by kernel_rfl) (fun _ h => (by cases h))) h), (fun _ _ h => (by cases h))⟩) Try.func27 ev27 (by kernel_rfl) (zaz (by kernel_rfl)) fun ds h hp => match ds, h, hp with
  | [d0], _, hp => ⟨(by kernel_rfl : zbF (zaJ FE s27 o27 [d0]) o27.owes = (dget (g27 [d0]) 0).toB).trans (hp rfl), zao (by kernel_rfl) (by kernel_rfl) (by kernel_rfl)⟩
theorem k18 : FnOK Try.prog WI gK 18 s18 g18 :=
 zbj (F := FE) zap (⟨(fun f s h => zaB (Q := fun f s => FnOK Try.prog WI gK f s (FE f)) (l := S18.fs)
  (show ∀ p ∈ [(20, s20), (52, s52), (53, s53), (54, s54), (40, s40), (111, s111), (114, s114), (117, s117)], FnOK Try.prog WI gK p.1 p.2 (FE p.1) from
  zai k20 (by kernel_rfl) (zai k52 (by kernel_rfl) (zai k53 (by kernel_rfl) (zai k54 (by kernel_rfl) (zai k40 (by kernel_rfl) (zai k111 (by kernel_rfl) (zai k114 (by kernel_rfl) (zai k117 (by kernel_rfl) (fun _ h => (by cases h)))))))))) h), (fun _ _ h => (by cases h))⟩) Try.func18 ev18 (by kernel_rfl) (zaz (by kernel_rfl)) fun ds h hp => match ds, h, hp with
  | [d0, d1, d2, d3], _, hp => ⟨(by kernel_rfl : zbF (zaJ FE s18 o18 [d0, d1, d2, d3]) o18.owes = (dget (g18 [d0, d1, d2, d3]) 0).toB).trans (hp rfl), zao (by kernel_rfl) (by kernel_rfl) (by kernel_rfl)⟩
theorem k12 : FnOK Try.prog WI gK 12 s12 g12 :=
 zbj (F := FE) zap (⟨(fun f s h => zaB (Q := fun f s => FnOK Try.prog WI gK f s (FE f)) (l := S12.fs)
  (show ∀ p ∈ [(20, s20), (48, s48), (40, s40), (111, s111), (114, s114), (117, s117), (41, s41)], FnOK Try.prog WI gK p.1 p.2 (FE p.1) from
  zai k20 (by kernel_rfl) (zai k48 (by kernel_rfl) (zai k40 (by kernel_rfl) (zai k111 (by kernel_rfl) (zai k114 (by kernel_rfl) (zai k117 (by kernel_rfl) (zai k41 (by kernel_rfl) (fun _ h => (by cases h))))))))) h), (fun _ _ h => (by cases h))⟩) Try.func12 ev12 (by kernel_rfl) (zaz (by kernel_rfl)) fun ds h hp => match ds, h, hp with
  | [d0, d1, d2, d3], _, hp => ⟨(by kernel_rfl : zbF (zaJ FE s12 o12 [d0, d1, d2, d3]) o12.owes = (dget (g12 [d0, d1, d2, d3]) 0).toB).trans (hp rfl), zao (by kernel_rfl) (by kernel_rfl) (by kernel_rfl)⟩
theorem k10 : FnOK Try.prog WI gK 10 s10 g10 :=
 zbj (F := FE) zap (⟨(fun f s h => zaB (Q := fun f s => FnOK Try.prog WI gK f s (FE f)) (l := S10.fs)
  (show ∀ p ∈ [(20, s20), (39, s39), (40, s40), (112, s112), (115, s115), (118, s118), (41, s41)], FnOK Try.prog WI gK p.1 p.2 (FE p.1) from
  zai k20 (by kernel_rfl) (zai k39 (by kernel_rfl) (zai k40 (by kernel_rfl) (zai k112 (by kernel_rfl) (zai k115 (by kernel_rfl) (zai k118 (by kernel_rfl) (zai k41 (by kernel_rfl) (fun _ h => (by cases h))))))))) h), (fun _ _ h => (by cases h))⟩) Try.func10 ev10 (by kernel_rfl) (zaz (by kernel_rfl)) fun ds h hp => match ds, h, hp with
  | [d0, d1, d2, d3], _, hp => ⟨(by kernel_rfl : zbF (zaJ FE s10 o10 [d0, d1, d2, d3]) o10.owes = (dget (g10 [d0, d1, d2, d3]) 0).toB).trans (hp rfl), zao (by kernel_rfl) (by kernel_rfl) (by kernel_rfl)⟩
theorem e7 : ∀ ds, g7 ds = outI FE s7 o7 ds := zqJ (l := [8, 25, 16, 12, 10, 14, 24, 27, 18, 20, 26]) (by kernel_rfl) (List.forall_mem_cons.2 ⟨by kernel_rfl, List.forall_mem_cons.2 ⟨by kernel_rfl, List.forall_mem_cons.2 ⟨by kernel_rfl, List.forall_mem_cons.2 ⟨by kernel_rfl, List.forall_mem_cons.2 ⟨by kernel_rfl, List.forall_mem_cons.2 ⟨by kernel_rfl, List.forall_mem_cons.2 ⟨by kernel_rfl, List.forall_mem_cons.2 ⟨by kernel_rfl, List.forall_mem_cons.2 ⟨by kernel_rfl, List.forall_mem_cons.2 ⟨by kernel_rfl, List.forall_mem_cons.2 ⟨by kernel_rfl, fun _ h => (by cases h)⟩⟩⟩⟩⟩⟩⟩⟩⟩⟩⟩)
theorem k7 : FnOK Try.prog WI gK 7 s7 g7 :=
 zvR (F := FE) zap (⟨(fun f s h => zaB (Q := fun f s => FnOK Try.prog WI gK f s (FE f)) (l := S7.fs)
  (show ∀ p ∈ [(8, s8), (25, s25), (16, s16), (12, s12), (10, s10), (14, s14), (24, s24), (27, s27), (18, s18), (20, s20), (26, s26)], FnOK Try.prog WI gK p.1 p.2 (FE p.1) from
  zai k8 (by kernel_rfl) (zai k25 (by kernel_rfl) (zai k16 (by kernel_rfl) (zai k12 (by kernel_rfl) (zai k10 (by kernel_rfl) (zai k14 (by kernel_rfl) (zai k24 (by kernel_rfl) (zai k27 (by kernel_rfl) (zai k18 (by kernel_rfl) (zai k20 (by kernel_rfl) (zai k26 (by kernel_rfl) (fun _ h => (by cases h))))))))))))) h), (fun _ _ h => (by cases h))⟩) Try.func7 ev7 (by kernel_rfl) (by kernel_rfl) (zaz (by kernel_rfl)) e7
theorem zwZ : zay FE l6_0 := zhw (w := zmm) (c := zmn) (nx := zoZ) (out := zo0) [.l, .b, .i, .i, .i, .l, .l] (fun ds => by kernel_rfl) rfl (fun ν xs h => match xs, h with | [x0, x1, x2, x3, x4, x5], _ => by kernel_rfl)
 (fun ν xs h => match xs, h with | [x0, x1, x2, x3, x4, x5], _ => by kernel_rfl)
 (fun ν xs h => match xs, h with | [x0, x1, x2, x3, x4, x5], _ => by kernel_rfl)
 (fun ν xs h => match xs, h with | [x0, x1, x2, x3, x4, x5], _ => by kernel_rfl)
theorem hl6 : ∀ l ∈ o6.loops, zay FE l := zhx (by kernel_rfl : o6.loops = [l6_0])
 (  List.forall_mem_cons.2 ⟨zwZ, fun _ h => (by cases h)⟩)
theorem k6 : FnOK Try.prog WI gK 6 s6 g6 :=
 zbj (F := FE) zap (⟨(fun f s h => zaB (Q := fun f s => FnOK Try.prog WI gK f s (FE f)) (l := S6.fs)
  (show ∀ p ∈ [(7, s7), (8, s8), (10, s10), (12, s12), (16, s16), (24, s24), (25, s25), (26, s26), (27, s27)], FnOK Try.prog WI gK p.1 p.2 (FE p.1) from
  zai k7 (by kernel_rfl) (zai k8 (by kernel_rfl) (zai k10 (by kernel_rfl) (zai k12 (by kernel_rfl) (zai k16 (by kernel_rfl) (zai k24 (by kernel_rfl) (zai k25 (by kernel_rfl) (zai k26 (by kernel_rfl) (zai k27 (by kernel_rfl) (fun _ h => (by cases h))))))))))) h), (fun _ _ h => (by cases h))⟩) Try.func6 ev6 (by kernel_rfl) hl6 fun ds h hp => match ds, h, hp with
  | [d0, d1, d2], _, hp => ⟨(by kernel_rfl : zbF (zaJ FE s6 o6 [d0, d1, d2]) o6.owes = (dget (g6 [d0, d1, d2]) 0).toB).trans (hp rfl), zao (by kernel_rfl) (by kernel_rfl) (by kernel_rfl)⟩
end Go.Proofs.Ytiabiimoalkmjaa
namespace Go.Proofs.Ytiabiimoalkmjaa
open Go Go.Sx
set_option maxRecDepth 100000
set_option maxHeartbeats 4000000
theorem zvf : KD.ok FE 104800 (.lp zqL [.i, .l, .i, .i]) :=
 ⟨zhz, zhA, zjN, zoO, (fun ds => by kernel_rfl), (fun ν xs h => match xs, h with | [x0, x1], _ => by kernel_rfl),
 (fun ν xs h => match xs, h with | [x0, x1], _ => by kernel_rfl),
 (fun ν xs h => match xs, h with | [x0, x1], _ => by kernel_rfl),
 (fun ν xs h => match xs, h with | [x0, x1], _ => by kernel_rfl)⟩
theorem zvg : KD.ok FE 103900 (.lp zqM [.i, .i, .i, .i, .l]) :=
 ⟨zjP, zjQ, zjR, zoR, (fun ds => by kernel_rfl), (fun ν xs h => match xs, h with | [x0, x1], _ => by kernel_rfl),
 (fun ν xs h => match xs, h with | [x0, x1], _ => by kernel_rfl),
 (fun ν xs h => match xs, h with | [x0, x1], _ => by kernel_rfl),
 (fun ν xs h => match xs, h with | [x0, x1], _ => by kernel_rfl)⟩
theorem zvh : KD.ok FE 103000 (.lp zqP [.i, .l, .i, .l]) :=
 ⟨zmd, zme, zmf, zoT, (fun ds => by kernel_rfl), (fun ν xs h => match xs, h with | [x0, x1], _ => by kernel_rfl),
 (fun ν xs h => match xs, h with | [x0, x1], _ => by kernel_rfl),
 (fun ν xs h => match xs, h with | [x0, x1], _ => by kernel_rfl),
 (fun ν xs h => match xs, h with | [x0, x1], _ => by kernel_rfl)⟩
theorem zvi : KD.ok FE 102900 (.lp zqQ [.i, .l, .b, .i, .i]) :=
 ⟨zmh, zmi, zmj, zoV, (fun ds => by kernel_rfl), (fun ν xs h => match xs, h with | [x0, x1, x2], _ => by kernel_rfl),
 (fun ν xs h => match xs, h with | [x0, x1, x2], _ => by kernel_rfl),
 (fun ν xs h => match xs, h with | [x0, x1, x2], _ => by kernel_rfl),
 (fun ν xs h => match xs, h with | [x0, x1, x2], _ => by kernel_rfl)⟩
theorem zvj : KD.ok FE 101600 (.lp zqR [.l, .l, .l, .l, .l, .i, .l, .b, .l, .l, .l, .l]) :=
 ⟨zdX, zdY, zhB, zml, (fun ds => by kernel_rfl), (fun ν xs h => match xs, h with | [x0, x1, x2, x3, x4, x5, x6, x7, x8, x9, x10], _ => by kernel_rfl),
 (fun ν xs h => match xs, h with | [x0, x1, x2, x3, x4, x5, x6, x7, x8, x9, x10], _ => by kernel_rfl),
 (fun ν xs h => match xs, h with | [x0, x1, x2, x3, x4, x5, x6, x7, x8, x9, x10], _ => by kernel_rfl),
 (fun ν xs h => match xs, h with | [x0, x1, x2, x3, x4, x5, x6, x7, x8, x9, x10], _ => by kernel_rfl)⟩
theorem t31 : KD.ok FE 31 (.fn s31 o31) := fun ds h => match ds, h with
 | [], _ => by kernel_rfl
theorem t52 : KD.ok FE 52 (.fn s52 o52) := fun ds h => match ds, h with
 | [d0], _ => by kernel_rfl
theorem t61 : KD.ok FE 61 (.fn s61 o61) := fun ds h => match ds, h with
 | [d0], _ => by kernel_rfl
theorem t71 : KD.ok FE 71 (.fn s71 o71) := fun ds h => match ds, h with
 | [d0], _ => by kernel_rfl
theorem t72 : KD.ok FE 72 (.fn s72 o72) := fun ds h => match ds, h with
 | [d0], _ => by kernel_rfl
theorem t32 : KD.ok FE 32 (.fn s32 o32) := fun ds h => match ds, h with
 | [], _ => by kernel_rfl
theorem t53 : KD.ok FE 53 (.fn s53 o53) := fun ds h => match ds, h with
 | [d0], _ => by kernel_rfl
theorem t88 : KD.ok FE 88 (.fn s88 o88) := fun ds h => match ds, h with
 | [d0, d1], _ => by kernel_rfl
theorem t60 : KD.ok FE 60 (.fn s60 o60) := fun ds h => match ds, h with
 | [d0, d1, d2], _ => by kernel_rfl
theorem t92 : KD.ok FE 92 (.fn s92 o92) := fun ds h => match ds, h with
 | [d0, d1], _ => by kernel_rfl
theorem t73 : KD.ok FE 73 (.fn s73 o73) := fun ds h => match ds, h with
 | [d0], _ => by kernel_rfl
theorem t116 : KD.ok FE 116 (.fn s116 o116) := fun ds h => match ds, h with
 | [d0, d1], _ => by kernel_rfl
theorem t114 : KD.ok FE 114 (.fn s114 o114) := fun ds h => match ds, h with
 | [d0, d1, d2], _ => by kernel_rfl
theorem t115 : KD.ok FE 115 (.fn s115 o115) := fun ds h => match ds, h with
 | [d0, d1, d2, d3], _ => by kernel_rfl
theorem t33 : KD.ok FE 33 (.fn s33 o33) := fun ds h => match ds, h with
 | [], _ => by kernel_rfl
theorem t77 : KD.ok FE 77 (.fn s77 o77) := fun ds h => match ds, h with
 | [d0], _ => by kernel_rfl
theorem t119 : KD.ok FE 119 (.fn s119 o119) := fun ds h => match ds, h with
 | [d0, d1], _ => by kernel_rfl
theorem t117 : KD.ok FE 117 (.fn s117 o117) := fun ds h => match ds, h with
 | [d0, d1, d2], _ => by kernel_rfl
theorem t59 : KD.ok FE 59 (.fn s59 o59) := fun ds h => match ds, h with
 | [d0, d1], _ => by kernel_rfl
theorem t118 : KD.ok FE 118 (.fn s118 o118) := fun ds h => match ds, h with
 | [d0, d1, d2, d3], _ => by kernel_rfl
theorem t74 : KD.ok FE 74 (.fn s74 o74) := fun ds h => match ds, h with
 | [d0], _ => by kernel_rfl
theorem t54 : KD.ok FE 54 (.fn s54 o54) := fun ds h => match ds, h with
 | [d0], _ => by kernel_rfl
theorem t65 : KD.ok FE 65 (.fn s65 o65) := fun ds h => match ds, h with
 | [d0, d1, d2], _ => by kernel_rfl
theorem t48 : KD.ok FE 48 (.fn s48 o48) := fun ds h => match ds, h with
 | [d0, d1, d2], _ => by kernel_rfl
theorem t39 : KD.ok FE 39 (.fn s39 o39) := fun ds h => match ds, h with
 | [d0, d1, d2, d3], _ => by kernel_rfl
theorem t30 : KD.ok FE 30 (.fn s30 o30) := fun ds h => match ds, h with
 | [d0, d1], _ => by kernel_rfl
theorem t29 : KD.ok FE 29 (.fn s29 o29) := fun ds h => match ds, h with
 | [d0], _ => by kernel_rfl
theorem t40 : KD.ok FE 40 (.fn s40 o40) := fun ds h => match ds, h with
 | [d0, d1, d2, d3], _ => by kernel_rfl
theorem t41 : KD.ok FE 41 (.fn s41 o41) := fun ds h => match ds, h with
 | [d0], _ => by kernel_rfl
theorem t20 : KD.ok FE 20 (.fn s20 o20) := fun ds h => match ds, h with
 | [d0, d1, d2], _ => by kernel_rfl
theorem t14 : KD.ok FE 14 (.fn s14 o14) := fun ds h => match ds, h with
 | [d0], _ => by kernel_rfl
theorem t8 : KD.ok FE 8 (.fn s8 o8) := fun ds h => match ds, h with
 | [d0, d1, d2, d3, d4, d5, d6], _ => by kernel_rfl
theorem t16 : KD.ok FE 16 (.fn s16 o16) := fun ds h => match ds, h with
 | [d0], _ => by kernel_rfl
theorem t24 : KD.ok FE 24 (.fn s24 o24) := fun ds h => match ds, h with
 | [d0], _ => by kernel_rfl
theorem t25 : KD.ok FE 25 (.fn s25 o25) := fun ds h => match ds, h with
 | [d0], _ => by kernel_rfl
theorem t26 : KD.ok FE 26 (.fn s26 o26) := fun ds h => match ds, h with
 | [d0], _ => by kernel_rfl
theorem t27 : KD.ok FE 27 (.fn s27 o27) := fun ds h => match ds, h with
 | [d0], _ => by kernel_rfl
theorem t18 : KD.ok FE 18 (.fn s18 o18) := fun ds h => match ds, h with
 | [d0, d1, d2, d3], _ => by kernel_rfl
theorem t12 : KD.ok FE 12 (.fn s12 o12) := fun ds h => match ds, h with
 | [d0, d1, d2, d3], _ => by kernel_rfl
theorem t10 : KD.ok FE 10 (.fn s10 o10) := fun ds h => match ds, h with
 | [d0, d1, d2, d3], _ => by kernel_rfl
theorem t7 : KD.ok FE 7 (.fn s7 o7) := fun ds _ => e7 ds
theorem t28 : KD.ok FE 28 (.hand g28) := fun _ => rfl
theorem t75 : KD.ok FE 75 (.hand g75) := fun _ => rfl
theorem t83 : KD.ok FE 83 (.hand g83) := fun _ => rfl
theorem t51 : KD.ok FE 51 (.hand g51) := fun _ => rfl
theorem t111 : KD.ok FE 111 (.hand g111) := fun _ => rfl
theorem t112 : KD.ok FE 112 (.hand g112) := fun _ => rfl
noncomputable def tabK : List (Nat × KD) := [(104800, .lp zqL [.i, .l, .i, .i]), (103900, .lp zqM [.i, .i, .i, .i, .l]), (103000, .lp zqP [.i, .l, .i, .l]), (102900, .lp zqQ [.i, .l, .b, .i, .i]), (101600, .lp zqR [.l, .l, .l, .l, .l, .i, .l, .b, .l, .l, .l, .l]), (31, .fn s31 o31), (52, .fn s52 o52), (61, .fn s61 o61), (71, .fn s71 o71), (72, .fn s72 o72), (32, .fn s32 o32), (53, .fn s53 o53), (88, .fn s88 o88), (60, .fn s60 o60), (92, .fn s92 o92), (73, .fn s73 o73), (116, .fn s116 o116), (114, .fn s114 o114), (115, .fn s115 o115), (33, .fn s33 o33), (77, .fn s77 o77), (119, .fn s119 o119), (117, .fn s117 o117), (59, .fn s59 o59), (118, .fn s118 o118), (74, .fn s74 o74), (54, .fn s54 o54), (65, .fn s65 o65), (48, .fn s48 o48), (39, .fn s39 o39), (30, .fn s30 o30), (29, .fn s29 o29), (40, .fn s40 o40), (41, .fn s41 o41), (20, .fn s20 o20), (14, .fn s14 o14), (8, .fn s8 o8), (16, .fn s16 o16), (24, .fn s24 o24), (25, .fn s25 o25), (26, .fn s26 o26), (27, .fn s27 o27), (18, .fn s18 o18), (12, .fn s12 o12), (10, .fn s10 o10), (7, .fn s7 o7), (28, .hand g28), (75, .hand g75), (83, .hand g83), (51, .hand g51), (111, .hand g111), (112, .hand g112)]
theorem zvk : ∀ f c, assoc tabK f = some c → c.ok FE f := fun f c h => zaB (Q := fun f c => KD.ok FE f c) (l := tabK)
 (show ∀ p ∈ [(104800, .lp zqL [.i, .l, .i, .i]), (103900, .lp zqM [.i, .i, .i, .i, .l]), (103000, .lp zqP [.i, .l, .i, .l]), (102900, .lp zqQ [.i, .l, .b, .i, .i]), (101600, .lp zqR [.l, .l, .l, .l, .l, .i, .l, .b, .l, .l, .l, .l]), (31, .fn s31 o31), (52, .fn s52 o52), (61, .fn s61 o61), (71, .fn s71 o71), (72, .fn s72 o72), (32, .fn s32 o32), (53, .fn s53 o53), (88, .fn s88 o88), (60, .fn s60 o60), (92, .fn s92 o92), (73, .fn s73 o73), (116, .fn s116 o116), (114, .fn s114 o114), (115, .fn s115 o115), (33, .fn s33 o33), (77, .fn s77 o77), (119, .fn s119 o119), (117, .fn s117 o117), (59, .fn s59 o59), (118, .fn s118 o118), (74, .fn s74 o74), (54, .fn s54 o54), (65, .fn s65 o65), (48, .fn s48 o48), (39, .fn s39 o39), (30, .fn s30 o30), (29, .fn s29 o29), (40, .fn s40 o40), (41, .fn s41 o41), (20, .fn s20 o20), (14, .fn s14 o14), (8, .fn s8 o8), (16, .fn s16 o16), (24, .fn s24 o24), (25, .fn s25 o25), (26, .fn s26 o26), (27, .fn s27 o27), (18, .fn s18 o18), (12, .fn s12 o12), (10, .fn s10 o10), (7, .fn s7 o7), (28, .hand g28), (75, .hand g75), (83, .hand g83), (51, .hand g51), (111, .hand g111), (112, .hand g112)], KD.ok FE p.1 p.2 from
 List.forall_mem_cons.2 ⟨zvf, List.forall_mem_cons.2 ⟨zvg, List.forall_mem_cons.2 ⟨zvh, List.forall_mem_cons.2 ⟨zvi, List.forall_mem_cons.2 ⟨zvj, List.forall_mem_cons.2 ⟨t31, List.forall_mem_cons.2 ⟨t52, List.forall_mem_cons.2 ⟨t61, List.forall_mem_cons.2 ⟨t71, List.forall_mem_cons.2 ⟨t72, List.forall_mem_cons.2 ⟨t32, List.forall_mem_cons.2 ⟨t53, List.forall_mem_cons.2 ⟨t88, List.forall_mem_cons.2 ⟨t60, List.forall_mem_cons.2 ⟨t92, List.forall_mem_cons.2 ⟨t73, List.forall_mem_cons.2 ⟨t116, List.forall_mem_cons.2 ⟨t114, List.forall_mem_cons.2 ⟨t115, List.forall_mem_cons.2 ⟨t33, List.forall_mem_cons.2 ⟨t77, List.forall_mem_cons.2 ⟨t119, List.forall_mem_cons.2 ⟨t117, List.forall_mem_cons.2 ⟨t59, List.forall_mem_cons.2 ⟨t118, List.forall_mem_cons.2 ⟨t74, List.forall_mem_cons.2 ⟨t54, List.forall_mem_cons.2 ⟨t65, List.forall_mem_cons.2 ⟨t48, List.forall_mem_cons.2 ⟨t39, List.forall_mem_cons.2 ⟨t30, List.forall_mem_cons.2 ⟨t29, List.forall_mem_cons.2 ⟨t40, List.forall_mem_cons.2 ⟨t41, List.forall_mem_cons.2 ⟨t20, List.forall_mem_cons.2 ⟨t14, List.forall_mem_cons.2 ⟨t8, List.forall_mem_cons.2 ⟨t16, List.forall_mem_cons.2 ⟨t24, List.forall_mem_cons.2 ⟨t25, List.forall_mem_cons.2 ⟨t26, List.forall_mem_cons.2 ⟨t27, List.forall_mem_cons.2 ⟨t18, List.forall_mem_cons.2 ⟨t12, List.forall_mem_cons.2 ⟨t10, List.forall_mem_cons.2 ⟨t7, List.forall_mem_cons.2 ⟨t28, List.forall_mem_cons.2 ⟨t75, List.forall_mem_cons.2 ⟨t83, List.forall_mem_cons.2 ⟨t51, List.forall_mem_cons.2 ⟨t111, List.forall_mem_cons.2 ⟨t112, fun _ h => (by cases h)⟩⟩⟩⟩⟩⟩⟩⟩⟩⟩⟩⟩⟩⟩⟩⟩⟩⟩⟩⟩⟩⟩⟩⟩⟩⟩⟩⟩⟩⟩⟩⟩⟩⟩⟩⟩⟩⟩⟩⟩⟩⟩⟩⟩⟩⟩⟩⟩⟩⟩⟩⟩) h
end Go.Proofs.Ytiabiimoalkmjaa
namespace Go.Proofs.Ytiabiimoalkmjaa
open Go Go.Sx
set_option maxRecDepth 100000
theorem zpX : FE 7 [] = [.b true, .b true] := znw zvk 40 7 [] _ (by kernel_rfl)
theorem zw0 : p7 = true := by
 have h : g7 [] = [.b true, .b true] := zpX
 unfold p7
 rw [h]
 rfl
theorem zw1 : r7_0 = true := by
 have h : g7 [] = [.b true, .b true] := zpX
 unfold r7_0
 rw [h]
 rfl
end Go.Proofs.Ytiabiimoalkmjaa
namespace Go.Proofs.Ytiabiimoalkmjaa
open Go Go.Sx
set_option maxRecDepth 100000
structure Ev where
 c : Int
 k : Int
 n : Int
 v : Int
def Ev.enc (e : Ev) : List DV := [.i e.c, .i e.k, .i e.n, .i e.v]
def encE (l : List Ev) : List DV := (l.map Ev.enc).flatten
def Ev.may (e : Ev) : Bool := (e.k == 1 && e.n == 0 && decide (e.v ≤ 255)) || (e.k == 2 && decide (1 ≤ e.n) && decide (e.n ≤ 8) && decide (e.v ≤ 1))
def zd2 (last : Int) : List Ev → Bool
 | [] => true
 | e :: r => decide (last ≤ e.c) && e.may && zd2 e.c r
def zg2 (l : List Ev) : Bool := decide (l.length ≤ 1024) && zd2 0 l
theorem zpY (l : List Ev) : (encE l).length = 4 * l.length := by
 induction l with
 | nil => rfl
 | cons e l ih => simp only [encE, List.map_cons, List.flatten_cons, List.length_append, List.length_cons] at ih ⊢; rw [ih]; show 4 + _ = _; omega
theorem zfj (l : List Ev) : (((encE l).length / 4 : Nat) : Int) = (l.length : Int) := by rw [zpY]; congr 1; omega
theorem znH (e : Ev) (l : List Ev) : encE (e :: l) = .i e.c :: .i e.k :: .i e.n :: .i e.v :: encE l := rfl
theorem zvl (l : List Ev) (i : Nat) (h : i < l.length) (j : Nat) (hj : j < 4) : (encE l).getD (i * 4 + j) default = l[i].enc.getD j default := by
 induction l generalizing i with
 | nil => cases h
 | cons e l ih =>
  rw [znH]
  cases i with
  | zero => match j, hj with
   | 0, _ => rfl
   | 1, _ => rfl
   | 2, _ => rfl
   | 3, _ => rfl
  | succ i =>
   rw [show (i + 1) * 4 + j = (i * 4 + j) + 1 + 1 + 1 + 1 from by omega]
   simp only [List.getD_cons_succ, List.getElem_cons_succ]
   exact ih i (by simpa using h)
theorem zpZ (l : List Ev) (i : Nat) (h : i < l.length) : ((encE l).getD (Int.toNat (i : Int) * 4 + 0) default).toI = l[i].c ∧ ((encE l).getD (Int.toNat (i : Int) * 4 + 1) default).toI = l[i].k ∧
  ((encE l).getD (Int.toNat (i : Int) * 4 + 2) default).toI = l[i].n ∧ ((encE l).getD (Int.toNat (i : Int) * 4 + 3) default).toI = l[i].v := by
 rw [Int.toNat_natCast]
 refine ⟨?_, ?_, ?_, ?_⟩ <;> rw [zvl l i h _ (by decide)] <;> rfl
theorem zaU {n : Int} (h : 0 ≤ n) (h1 : n < 9223372036854775808) : IntKind.wrap .i64 n = n := by rw [IntKind.wrap_i64]; omega
theorem zuj (l : List Ev) (hl : l.length ≤ 1024) : ∀ (m k : Nat) (last : Int), k + m = l.length → ∃ r2 r3 : Int, zde l.length (encE l) false last k =
  some [.i (if zd2 last (l.drop k) then 1 else 0), .b false, .i r2, .i r3]
 | 0, k, last, hk => by
  have hk' : k = l.length := by omega
  subst hk'
  refine ⟨last, l.length, ?_⟩
  unfold zde
  rw [List.drop_length]
  have hlt : decide ((l.length : Int) < (l.length : Int)) = false := by simp
  rw [za6 (by show zjV (l.length : Int) (encE l) false last (l.length : Int) = true; unfold zjV; simp [ow]) (by show zjW (l.length : Int) (encE l) false last (l.length : Int) = false; unfold zjW; simp)]
  show some [DV.i (zeR _ _ _ _ _), .b (zeS _ _ _ _ _), .i (zeT _ _ _ _ _), .i (zeU _ _ _ _ _)] = _
  unfold zeR zeS zeT zeU
  simp [zd2]
 | m + 1, k, last, hk => by
  have hlt : k < l.length := by omega
  have hki : (k : Int) < (l.length : Int) := by omega
  obtain ⟨q0, q1, q2, q3⟩ := zpZ l k hlt
  have hw : zmh [.i l.length, .l (encE l), .b false, .i last, .i k] = true := by
   show zjV (l.length : Int) (encE l) false last (k : Int) = true
   unfold zjV
   simp only [zfj]
   simp [ow, hki]
  have hd : l.drop k = l[k] :: l.drop (k + 1) := List.drop_eq_getElem_cons hlt
  have hcv : zmi [.i l.length, .l (encE l), .b false, .i last, .i k] = (decide (last ≤ l[k].c) && l[k].may) := by
   show zjW (l.length : Int) (encE l) false last (k : Int) = _
   unfold zjW
   simp only [q0, q1, q2, q3, hki, decide_true, Bool.true_and]
   unfold Ev.may ile ige ilt
   by_cases h1 : last ≤ l[k].c
   ·have h2 : ¬ l[k].c < last := by omega
    simp [h1, h2]
   ·have h2 : l[k].c < last := by omega
    simp [h1, h2]
  unfold zde
  cases hc : decide (last ≤ l[k].c) && l[k].may with
  | true =>
   rw [hc] at hcv
   rw [zbk hw hcv]
   have hn : zmj [.i l.length, .l (encE l), .b false, .i last, .i k] = [.i l.length, .l (encE l), .b false, .i l[k].c, .i ((k + 1 : Nat) : Int)] := by
    show [DV.i _, .l _, .b (zjX _ _ _ _ _), .i (zjY _ _ _ _ _), .i (zjZ _ _ _ _ _)] = _
    unfold zjX zjY zjZ
    have e1 : (dget [DV.i l.length, .l (encE l), .b false, .i last, .i k] 4).toI = (k : Int) := rfl
    have e2 : (dget [DV.i l.length, .l (encE l), .b false, .i last, .i k] 1).toL = encE l := rfl
    simp only [e1, e2, q0]
    rw [zaU (by omega) (by omega)]
    rfl
   rw [hn]
   obtain ⟨r2, r3, ih⟩ := zuj l hl m (k + 1) l[k].c (by omega)
   refine ⟨r2, r3, ih.trans ?_⟩
   rw [hd]
   simp only [zd2, hc, Bool.true_and]
  | false =>
   rw [hc] at hcv
   rw [za6 hw hcv]
   refine ⟨last, k, ?_⟩
   show some [DV.i (zeR _ _ _ _ _), .b (zeS _ _ _ _ _), .i (zeT _ _ _ _ _), .i (zeU _ _ _ _ _)] = _
   unfold zeR zeS zeT zeU
   have e1 : (dget [DV.i l.length, .l (encE l), .b false, .i last, .i k] 4).toI = (k : Int) := rfl
   have e0 : (dget [DV.i l.length, .l (encE l), .b false, .i last, .i k] 0).toI = (l.length : Int) := rfl
   rw [hd]
   simp only [zd2, hc, Bool.false_and, e1, e0, hki, decide_true]
   rfl
theorem zw2 (l : List Ev) : p29 (encE l) = true ∧ zoX (encE l) = zg2 l := by
 unfold p29 zoX zg2
 simp only [zfj]
 by_cases h : l.length ≤ 1024
 ·have h1 : ¬ ((l.length : Int) > 1024) := by omega
  obtain ⟨r2, r3, hL⟩ := zuj l h l.length 0 0 (by omega)
  have hL : zde l.length (encE l) false 0 0 = some [.i (if zd2 0 l then 1 else 0), .b false, .i r2, .i r3] := hL
  have hg : zmk [.i l.length, .l (encE l), .b false, .i 0, .i 0] = [.b true, .i (if zd2 0 l then 1 else 0), .b false, .i r2, .i r3] := by
   show [DV.b (zoW _ _ _ _ _), .i (zj0 _ _ _ _ _), .b (zj1 _ _ _ _ _), .i (zj2 _ _ _ _ _), .i (zj3 _ _ _ _ _)] = _
   have e : zde (dget [DV.i l.length, .l (encE l), .b false, .i 0, .i 0] 0).toI (dget [DV.i l.length, .l (encE l), .b false, .i 0, .i 0] 1).toL (dget [DV.i l.length, .l (encE l), .b false, .i 0, .i 0] 2).toB (dget [DV.i l.length, .l (encE l), .b false, .i 0, .i 0] 3).toI (dget [DV.i l.length, .l (encE l), .b false, .i 0, .i 0] 4).toI = _ := hL
   unfold zoW zj0 zj1 zj2 zj3
   rw [e]
   rfl
  rw [hg]
  cases hm : zd2 0 l <;> simp [ow, h, h1, dget, DV.toI]
 ·have h1 : ((l.length : Int) > 1024) := by omega
  simp [ow, h, h1]
end Go.Proofs.Ytiabiimoalkmjaa
namespace Go.Proofs.Ytiabiimoalkmjaa
open Go Go.Sx
set_option maxRecDepth 100000
def zcO : List DV → Int → List DV → List DV
 | [], _, d => d
 | b :: r, k, d => zcO r (k + 1) (zea d k b.toI)
theorem zaC {n : Int} (h : 0 ≤ n) (h1 : n < 18446744073709551616) : IntKind.wrap .u64 n = n := by
 unfold IntKind.wrap
 simp [IntKind.bits, IntKind.signed]
 omega
theorem ztU {B k : Int} (hB : B = 2147483648) (h : 0 ≤ k) (h1 : k < 9223372036854775808) : IntKind.wrap .u64 (2147483648 + IntKind.wrap .u64 k) = B + k := by
 rw [zaC (n := k) h (by omega), zaC (by omega) (by omega), hB]
theorem zvm {B : Int} (hB : B = 2147483648) (img : List DV) (hl : img.length ≤ 1048576) (k : Nat) (d : List DV) (hlt : k < img.length) : zmd [.i img.length, .l img, .i k, .l d] = true ∧ zme [.i img.length, .l img, .i k, .l d] = true ∧
  zmf [.i img.length, .l img, .i k, .l d] = [.i img.length, .l img, .i ((k + 1 : Nat) : Int), .l (zea d (B + k) img[k].toI)] := by
 have hki : (k : Int) < (img.length : Int) := by omega
 have hdiv : ((img.length / 1 : Nat) : Int) = img.length := by rw [Nat.div_one]
 have hadr := ztU hB (k := (k : Int)) (by omega) (by omega)
 refine ⟨?_, ?_, ?_⟩
 ·show zjT (img.length : Int) img (k : Int) d = true
  unfold zjT
  simp only [hdiv, hadr]
  have : p75 d (B + (k : Int)) (img.getD (Int.toNat k * 1 + 0) default).toI = true := by
   unfold p75
   simp only [in64, Bool.and_eq_true, decide_eq_true_eq]
   omega
  rw [this]
  simp [ow, hki]
 ·show zjU (img.length : Int) img (k : Int) d = true
  unfold zjU
  simp [hki]
 ·have hg : (img.getD (Int.toNat (k : Int) * 1 + 0) default).toI = img[k].toI := by rw [Int.toNat_natCast, Nat.mul_one, Nat.add_zero, List.getD_eq_getElem?_getD, List.getElem?_eq_getElem hlt]; rfl
  have e0 : zgT img.length img k d = ((k + 1 : Nat) : Int) := by
   unfold zgT
   rw [zaU (by omega) (by omega)]
   rfl
  have e1 : zgU img.length img k d = zea d (B + k) img[k].toI := by
   unfold zgU
   simp only [hadr, hg]
   rfl
  show [DV.i _, .l _, .i (zgT img.length img k d), .l (zgU img.length img k d)] = _
  rw [e0, e1]
  rfl
theorem zwp {B : Int} (hB : B = 2147483648) (img : List DV) (hl : img.length ≤ 1048576) (m : Nat) : ∀ (k : Nat) (d : List DV), k + m = img.length →
  zdW img.length img k d = some [.i 0, .i img.length, .l (zcO (img.drop k) (B + k) d)] := by
 induction m with
 | zero =>
  intro k d hk
  have hk' : k = img.length := by omega
  subst hk'
  unfold zdW
  rw [List.drop_length]
  rw [za6 (by show zjT (img.length : Int) img (img.length : Int) d = true; unfold zjT; simp [ow]) (by show zjU (img.length : Int) img (img.length : Int) d = false; unfold zjU; simp)]
  rfl
 | succ m ih =>
  intro k d hk
  have hlt : k < img.length := by omega
  obtain ⟨hw, hc, hn⟩ := zvm hB img hl k d hlt
  unfold zdW
  rw [zbk hw hc, hn]
  have h1 := ih (k + 1) (zea d (B + k) img[k].toI) (by omega)
  unfold zdW at h1
  rw [h1, List.drop_eq_getElem_cons hlt, zcO, show B + ((k + 1 : Nat) : Int) = B + k + 1 from by omega]
theorem zw3 (img d : List DV) : p30 d img = true ∧ zoU img = decide (img.length ≤ 1048576) ∧ (img.length ≤ 1048576 → ztO d img = zcO img 2147483648 d) := by
 have hdiv : ((img.length / 1 : Nat) : Int) = img.length := by rw [Nat.div_one]
 unfold p30 zoU ztO
 simp only [hdiv]
 by_cases h : img.length ≤ 1048576
 ·have h1 : ¬ ((img.length : Int) > 1048576) := by omega
  have hL : zdW img.length img 0 d = some [.i 0, .i img.length, .l (zcO img 2147483648 d)] := by
   obtain ⟨B, hB⟩ : ∃ B : Int, B = 2147483648 := ⟨_, rfl⟩
   have := zwp hB img h img.length 0 d (by omega)
   rw [← hB]
   rw [show B + ((0 : Nat) : Int) = B from by omega, List.drop_zero] at this
   exact this
  have e0 : zmg img.length img 0 d = true := by unfold zmg; rw [hL]; rfl
  have e2 : zgV img.length img 0 d = zcO img 2147483648 d := by unfold zgV; rw [hL]; rfl
  rw [e0, e2]
  simp [ow, h, h1]
 ·have h1 : ((img.length : Int) > 1048576) := by omega
  simp [ow, h, h1]
noncomputable def bus0 (img ev : List DV) : List DV := [.l (zcO img 2147483648 []), .l zuS, .l ztN, .l zuW, .i (-1), .l ev, .b false]
theorem new8 (img : List DV) (l : List Ev) : p8 img (encE l) = true ∧ r8_1 img (encE l) = (zg2 l && decide (img.length ≤ 1048576)) ∧ r8_0 img (encE l) = (if (zg2 l && decide (img.length ≤ 1048576)) = true then 1 else 0) ∧
  ((zg2 l && decide (img.length ≤ 1048576)) = true → r8_2 img (encE l) = [.b true, .l (bus0 img (encE l))]) := by
 obtain ⟨a1, a2⟩ := zw2 l
 obtain ⟨b1, b2, b3⟩ := zw3 img []
 have hlen : (zg2 l = true) → decide ((((([] : List DV) ++ encE l).length / 4 : Nat) : Int) ≤ 2132386187201) = true := fun h => by
  rw [List.nil_append, zfj]
  unfold zg2 at h
  simp only [Bool.and_eq_true, decide_eq_true_eq] at h ⊢
  omega
 unfold p8 r8_0 r8_1 r8_2
 simp only [a1, a2, b1, b2, show ztL = [] from rfl, Bool.not_not]
 cases hm : zg2 l with
 | false => simp [ow]
 | true =>
  rw [hlen hm]
  cases hi : decide (img.length ≤ 1048576) with
  | false => simp [ow]
  | true =>
   rw [b3 (of_decide_eq_true hi)]
   simp [ow, bus0]
end Go.Proofs.Ytiabiimoalkmjaa
namespace Go.Proofs.Ytiabiimoalkmjaa
open Go Go.Sx
set_option maxRecDepth 100000
structure BS where
 m : List DV
 c0 : Int
 c1 : Int
 c2 : Int
 pc : List DV
 p1 : Int
 p2 : Int
 q : List DV
 s : List DV
 w : Bool
 lo : Bool
 sc : Int
 cyc : Int
 ev : List Ev
 f : Bool
abbrev BS.C (b : BS) : List DV := [.i b.c0, .i b.c1, .i b.c2]
abbrev BS.P (b : BS) : List DV := [.l b.pc, .i b.p1, .i b.p2]
abbrev BS.U (b : BS) : List DV := [.l b.q, .l b.s, .b b.w, .b b.lo, .i b.sc]
abbrev BS.enc (b : BS) : List DV := [.l b.m, .l b.C, .l b.P, .l b.U, .i b.cyc, .l (encE b.ev), .b b.f]
theorem bif9 {c d : Bool} {k x : Int} (hk : 0 ≤ k ∧ k < 9) (hx : 0 ≤ x ∧ x < 9) : 0 ≤ (bif c then (bif d then k else x) else x) ∧ (bif c then (bif d then k else x) else x) < 9 := by
 cases c <;> cases d <;> first | exact hk | exact hx
theorem zal {l : List (Bool × Bool)} {x : Bool} (h : x = true) : ow l x = true := by subst h; unfold ow; simp
theorem zs5 (x0 : List DV) (x1 : Int) (h : 0 ≤ x1 ∧ x1 < 2) : p92 x0 x1 = true ∧ 0 ≤ zjJ x0 x1 ∧ zjJ x0 x1 < 9 := by
 have d0 : decide (x1 ≥ 0) = true := decide_eq_true h.1
 have d1 : decide (x1 < 2) = true := decide_eq_true h.2
 refine ⟨?_, ?_⟩
 ·unfold p92
  extract_lets -merge x2 x5 x6 x7 x8 x9 x10 x11 x12 x13 x14 x15 x16 x17 x18 x19 x20 x21 x22 x23 x24 x25 x26 x27 x28 x29 x30 x31 x32 x33 x34 x35 x36 x37 x38 x39 x40 x41 x42 x43 x44 x45 x46 x47 x48 x49 x50 x51 x52 x53 x54 x55 x56 x57 x58 x59 x60 x61 x62 x63 x64 x65 x66 x67 x68 x69 x70 x71 x72 x73 x74 x75 x76 x77 x78 x79 x80 x81 x82 x83 x84 x85 x86 x87 x88 x89 x90 x91 x92 x93 x94 x95 x96 x97 x98 x99 x100 x101 x102 x103 x104 x105 x106 x107 x108 x109 x110 x111 x112 x113 x114 x115 x117 x118
  have h17 : 0 ≤ x17 ∧ x17 < 9 := bif9 (by decide) (by decide)
  have h32 : 0 ≤ x32 ∧ x32 < 9 := bif9 (by decide) h17
  have h47 : 0 ≤ x47 ∧ x47 < 9 := bif9 (by decide) h32
  have h62 : 0 ≤ x62 ∧ x62 < 9 := bif9 (by decide) h47
  have h77 : 0 ≤ x77 ∧ x77 < 9 := bif9 (by decide) h62
  have h92 : 0 ≤ x92 ∧ x92 < 9 := bif9 (by decide) h77
  have h107 : 0 ≤ x107 ∧ x107 < 9 := bif9 (by decide) h92
  have a0 : x7 = true := d0
  have a1 : x8 = true := d1
  have b1 : x27 = true := decide_eq_true h17.1
  have b2 : x28 = true := decide_eq_true h17.2
  have b3 : x42 = true := decide_eq_true h32.1
  have b4 : x43 = true := decide_eq_true h32.2
  have b5 : x57 = true := decide_eq_true h47.1
  have b6 : x58 = true := decide_eq_true h47.2
  have b7 : x72 = true := decide_eq_true h62.1
  have b8 : x73 = true := decide_eq_true h62.2
  have b9 : x87 = true := decide_eq_true h77.1
  have b10 : x88 = true := decide_eq_true h77.2
  have b11 : x102 = true := decide_eq_true h92.1
  have b12 : x103 = true := decide_eq_true h92.2
  have b13 : x117 = true := decide_eq_true h107.1
  have b14 : x118 = true := decide_eq_true h107.2
  simp only [List.all_cons, List.all_nil, id_eq, zal a0, zal a1, zal b1, zal b2, zal b3, zal b4, zal b5, zal b6, zal b7, zal b8, zal b9, zal b10, zal b11, zal b12, zal b13, zal b14, Bool.and_self, Bool.and_true,
   show x20 = x7 from rfl, show x21 = x8 from rfl, show x35 = x7 from rfl, show x36 = x8 from rfl, show x50 = x7 from rfl, show x51 = x8 from rfl, show x65 = x7 from rfl, show x66 = x8 from rfl, show x80 = x7 from rfl, show x81 = x8 from rfl, show x95 = x7 from rfl, show x96 = x8 from rfl, show x110 = x7 from rfl, show x111 = x8 from rfl]
 ·unfold zjJ
  exact bif9 (by decide) (bif9 (by decide) (bif9 (by decide) (bif9 (by decide) (bif9 (by decide) (bif9 (by decide) (bif9 (by decide) (bif9 (by decide) (by decide))))))))
theorem zs6 (x0 x1 : Int) (h : 0 ≤ x0) : (zbU x0 x1 = 1 → 0 ≤ zeP x0 x1 ∧ zeP x0 x1 < 9) ∧ (zbU x0 x1 ≠ 1 → 0 ≤ zeP x0 x1 ∧ zeP x0 x1 < 2) := by
 have h8 : (decide (x0 ≤ 32) && (Int.tmod x0 4 == 0)) = true → 0 ≤ IntKind.wrap .i64 (IntKind.wrap .u64 (Int.tdiv x0 4)) ∧ IntKind.wrap .i64 (IntKind.wrap .u64 (Int.tdiv x0 4)) < 9 := fun hh => by
  rw [Bool.and_eq_true] at hh
  have hle : x0 ≤ 32 := of_decide_eq_true hh.1
  have hd : Int.tdiv x0 4 = x0 / 4 := Int.tdiv_eq_ediv_of_nonneg h
  rw [hd, zaC (by omega) (by omega), zaU (by omega) (by omega)]
  omega
 unfold zbU zeP
 simp only []
 generalize IntKind.wrap .i64 (IntKind.wrap .u64 (Int.tdiv x0 4)) = z at *
 generalize (decide (x0 ≤ 32) && (Int.tmod x0 4 == 0)) = B at *
 generalize (x1 != 4) = A
 generalize (x0 == 4096) = D
 generalize (x0 == 8192) = E1
 generalize (x0 == 2097152) = E2
 generalize (x0 == 2097156) = E3
 generalize (x0 == 8320) = E4
 generalize (x0 == 2101248) = E5
 generalize (x0 == 2101252) = E6
 cases B
 ·clear h8
  cases A <;> cases D <;> simp only [Bool.not_true, Bool.not_false, cond_true, cond_false, Bool.false_or, Bool.true_or, Bool.or_true, Bool.or_false, Bool.true_and]
  all_goals first
   | exact ⟨fun hh => absurd hh (by decide), fun _ => by decide⟩
   | skip
  all_goals (cases E1 <;> cases E2 <;> cases E3 <;> cases E4 <;> cases E5 <;> cases E6 <;> decide)
 ·have h9 := h8 rfl
  cases A
  ·simp only [cond_true, Bool.false_or, cond_false]
   exact ⟨fun _ => h9, fun hh => absurd rfl hh⟩
  ·simp only [cond_true, Bool.true_or, cond_false]
   clear h8 h9
   cases E1 <;> cases E2 <;> cases E3 <;> cases E4 <;> cases E5 <;> cases E6 <;> decide
end Go.Proofs.Ytiabiimoalkmjaa
namespace Go.Proofs.Ytiabiimoalkmjaa
open Go Go.Sx
set_option maxRecDepth 100000
theorem zlc (n : Int) : 0 ≤ IntKind.wrap .u64 n ∧ IntKind.wrap .u64 n < 18446744073709551616 := by
 unfold IntKind.wrap
 simp [IntKind.bits, IntKind.signed]
 omega
theorem zeZ (n : Int) : in64 (IntKind.wrap .u64 n) = true := by
 obtain ⟨h1, h2⟩ := zlc n
 unfold in64
 rw [decide_eq_true h1, decide_eq_true h2]
 rfl
theorem zuk {k : Int} (h : 0 ≤ k) (h1 : k < 9) : p88 k = true := by
 unfold p88
 simp [ow, h, h1]
theorem zul (k : Int) : p60 k = true := by
 unfold p60
 by_cases h : 1 ≤ k ∧ k ≤ 8
 ·have h1 : ¬ k < 1 := by omega
  have h2 : ¬ k > 8 := by omega
  have h3 : k ≥ 0 := by omega
  have h4 : k < 9 := by omega
  simp [ow, h1, h2, h3, h4, zuk (k := k) (by omega) (by omega)]
 ·have h1 : (decide (k < 1) || decide (k > 8)) = true := by
   simp only [Bool.or_eq_true, decide_eq_true_eq]; omega
  simp only [h1]
  simp [ow]
theorem zs7 : p41 = true := by unfold p41; simp [zul, ow]
theorem zwq (b : List DV) (x y k : Int) (v : Bool) : ∃ b', zqK [.l b, .i x, .i y] k v = [.l b', .i x, .i y] := by
 unfold zqK
 cases hk : decide (k < 1) || decide (k > 8)
 ·simp only [hk, Bool.not_false, cond_true]
  exact ⟨_, rfl⟩
 ·simp only [hk, Bool.not_true, cond_false]
  exact ⟨_, rfl⟩
theorem zvn (b : List DV) (x y a n : Int) (h : 0 ≤ a) : p114 [.l b, .i x, .i y] a n = true := by
 obtain ⟨g1, g2⟩ := zs6 a n h
 unfold p114
 extract_lets -merge x3 x4 x5 x6 x7 x8 x9 x10 x11 x14 x41 x42 x43 x46 x47 x51 x52 x56 x57 x61 x62 x66 x67 x71 x72 x76 x77 x81 x82 x86 x87 x88 x91 x92 x93 x94 x95 x96 x97 x98 x99
 by_cases h1 : zbU a n = 1
 ·obtain ⟨u1, u2⟩ := g1 h1
  have a8 : x8 = false := by show (zbU a n == 0) = false; rw [h1]; rfl
  have a9 : x9 = true := by show (zbU a n == 1) = true; rw [h1]; rfl
  have b1 : x10 = true := decide_eq_true u1
  have b2 : x11 = true := decide_eq_true u2
  simp [ow, a8, a9, b1, b2]
 ·obtain ⟨u1, u2⟩ := g2 h1
  have b1 : x42 = true := decide_eq_true u1
  have b2 : x43 = true := decide_eq_true u2
  obtain ⟨q1, q2, q3⟩ := zs5 x92 x7 ⟨u1, u2⟩
  have b3 : x96 = true := decide_eq_true q2
  have b4 : x97 = true := decide_eq_true q3
  have a9 : x9 = false := by show (zbU a n == 1) = false; simpa using h1
  have b5 : x93 = true := q1
  simp only [List.all_cons, List.all_nil, id_eq, Bool.and_true, show x46 = x42 from rfl, show x47 = x43 from rfl, show x51 = x42 from rfl, show x52 = x43 from rfl, show x56 = x42 from rfl, show x57 = x43 from rfl, show x61 = x42 from rfl, show x62 = x43 from rfl, show x66 = x42 from rfl, show x67 = x43 from rfl, show x71 = x42 from rfl, show x72 = x43 from rfl, show x76 = x42 from rfl, show x77 = x43 from rfl, show x81 = x42 from rfl, show x82 = x43 from rfl, show x87 = x42 from rfl, show x88 = x43 from rfl, show x98 = x96 from rfl, show x99 = x97 from rfl,
   zal b1, zal b2, zal b3, zal b4, zal b5, Bool.and_self]
  simp [ow, a9]
theorem zvo (b : List DV) (x y a n v : Int) (h : 0 ≤ a) : p115 [.l b, .i x, .i y] a n v = true := by
 obtain ⟨g1, g2⟩ := zs6 a n h
 unfold p115
 extract_lets -merge x4 x7 x8 x9 x10 x11 x14 x15 x17 x21 x22 x27 x28 x33 x34 x39 x40 x45 x46 x51 x52 x57 x58 x63 x64 x66 x69 x70 x75 x76 x77 x78 x79 x80 x81 x82 x83 x84 x85 x86 x87 x88 x89 x90 x91 x92 x93 x95 x97
 have c1 : x79 = true → 0 ≤ x76 ∧ x76 < 9 := fun hh => by
  have : (decide (x76 ≥ 1) && decide (x76 ≤ 8)) = true := hh
  simp only [Bool.and_eq_true, decide_eq_true_eq] at this
  omega
 have c2 : x83 = true → x79 = true := fun hh => by
  have : (x79 && x82) = true := hh
  rw [Bool.and_eq_true] at this; exact this.1
 have c3 : x91 = true → x83 = true := fun hh => by
  have : (x83 && x90) = true := hh
  rw [Bool.and_eq_true] at this; exact this.1
 have d1 : x79 = true → x80 = true := fun hh => decide_eq_true (c1 hh).1
 have d2 : x79 = true → x81 = true := fun hh => decide_eq_true (c1 hh).2
 have d3 : x79 = true → x97 = true := fun hh => by
  obtain ⟨u1, u2⟩ := c1 hh
  show p88 (IntKind.wrap .i64 x76) = true
  rw [zaU u1 (by omega)]
  exact zuk u1 u2
 have key : ∀ (l : List (Bool × Bool)) (z : Bool), (x79 = true → z = true) → ∀ (y : Bool), (y = true → x79 = true) → ow ((x9, false) :: (x10, false) :: (x17, false) :: (x66, false) :: (x75, true) :: (y, true) :: l) z = true := fun l z hz y hy => by
  cases hyv : y with
  | false => simp [ow]
  | true => exact zal (hz (hy hyv))
 by_cases h1 : zbU a n = 1
 ·obtain ⟨u1, u2⟩ := g1 h1
  have a9 : x9 = false := by show (zbU a n == 0) = false; rw [h1]; rfl
  have a10 : x10 = true := by show (zbU a n == 1) = true; rw [h1]; rfl
  have b1 : x14 = true := decide_eq_true u1
  have b2 : x15 = true := decide_eq_true u2
  simp [ow, a9, a10, b1, b2]
 ·obtain ⟨u1, u2⟩ := g2 h1
  have b1 : x21 = true := decide_eq_true u1
  have b2 : x22 = true := decide_eq_true u2
  have a10 : x10 = false := by show (zbU a n == 1) = false; simpa using h1
  simp only [List.all_cons, List.all_nil, id_eq, Bool.and_true, show x27 = x21 from rfl, show x28 = x22 from rfl, show x33 = x21 from rfl, show x34 = x22 from rfl, show x39 = x21 from rfl, show x40 = x22 from rfl, show x45 = x21 from rfl, show x46 = x22 from rfl, show x51 = x21 from rfl, show x52 = x22 from rfl, show x57 = x21 from rfl, show x58 = x22 from rfl, show x63 = x21 from rfl, show x64 = x22 from rfl, show x69 = x21 from rfl, show x70 = x22 from rfl, show x84 = x80 from rfl, show x85 = x81 from rfl, show x86 = x21 from rfl, show x87 = x22 from rfl, show x92 = x80 from rfl, show x93 = x81 from rfl,
   zal b1, zal b2, key [] x80 d1 x79 id, key [] x81 d2 x79 id, key [] x80 d1 x83 c2, key [] x81 d2 x83 c2, key [] x80 d1 x91 (fun h => c2 (c3 h)), key [] x81 d2 x91 (fun h => c2 (c3 h)), key [] x97 d3 x91 (fun h => c2 (c3 h)), Bool.and_self]
  simp [ow, a10]
theorem zwr (b : List DV) (x y a n : Int) : ∃ b', zr0 [.l b, .i x, .i y] a n = [.l b', .i x, .i y] := ⟨_, rfl⟩
theorem zws (b : List DV) (x y a n v : Int) : ∃ b' x' y', zr1 [.l b, .i x, .i y] a n v = [.l b', .i x', .i y'] := ⟨_, _, _, rfl⟩
theorem zvp (p : List DV) (a n : Int) (h : zny a n = false) : zjK p a n = 0 := by
 have h0 : (!(zbU a n == 0)) = false := h
 unfold zjK
 simp only [h0, cond_false]
theorem zo6 (c : Bool) (n : Int) (h : 0 ≤ n) : p119 c n = true := by
 unfold p119
 simp [ow, h]
theorem zvq (q s : List DV) (w lo : Bool) (sc a n : Int) : p117 [.l q, .l s, .b w, .b lo, .i sc] a n = true := by
 unfold p117
 extract_lets -merge x3 x5 x6 x8 x9 x10 x11 x12 x13 x14 x15 x16 x17 x19 x20 x23 x24 x26 x30 x31 x32 x33 x36
 have b1 : x24 = true := zo6 _ _ (by decide)
 have b2 : x33 = true := zo6 _ _ (by decide)
 have b3 : x36 = true := zo6 _ _ (by decide)
 have key : ∀ z : Bool, (x15 = true → z = true) → ow [(x11, true), (x12, true), (x15, true)] z = true := fun z hz => by
  cases h : x15 with
  | false => simp [ow]
  | true => exact zal (hz h)
 have hpos : x15 = true → (0 : Int) < x13 := fun h => by
  have h2 : (!(x13 == 0)) = true := h
  have h3 : 0 ≤ x13 := Int.natCast_nonneg _
  have h4 : x13 ≠ 0 := by simpa using h2
  omega
 have d1 : x15 = true → x17 = true := fun h => decide_eq_true (hpos h)
 have d2 : x15 = true → x20 = true := fun h => decide_eq_true (show (1 : Int) ≤ x13 by have := hpos h; omega)
 simp only [List.all_cons, List.all_nil, id_eq, Bool.and_true, zal b1, zal b2, zal b3, key _ d1, key _ d2, Bool.and_self]
theorem zvr (q s : List DV) (w lo : Bool) (sc a n v : Int) (h : s.length < 35184372088832) : p118 [.l q, .l s, .b w, .b lo, .i sc] a n v = true := by
 unfold p118
 extract_lets -merge x5 x9 x10 x11 x12 x13 x14 x15 x16 x17 x18
 have b1 : x18 = true := decide_eq_true (show (((s ++ [DV.i (IntKind.wrap .u8 v)]).length / 1 : Nat) : Int) ≤ 35184372088832 by
  rw [Nat.div_one, List.length_append]
  simp only [List.length_cons, List.length_nil]
  omega)
 simp only [List.all_cons, List.all_nil, id_eq, zal b1, Bool.and_self]
theorem zwt (q s : List DV) (w lo : Bool) (sc v : Int) : p59 [.l q, .l s, .b w, .b lo, .i sc] v = true := by
 unfold p59
 extract_lets -merge x2 x7 x8 x9 x10 x11 x12 x13
 cases h : x9 with
 | false => simp [ow]
 | true =>
  have h2 : (!decide (x7 ≥ 16)) = true := h
  have h3 : ¬ x7 ≥ 16 := by simpa using h2
  have h4 : ((q.length / 1 : Nat) : Int) < 16 := by show x7 < 16; omega
  rw [Nat.div_one] at h4
  have b1 : x13 = true := decide_eq_true (show (((q ++ [DV.i v]).length / 1 : Nat) : Int) ≤ 35184372088832 by
   rw [Nat.div_one, List.length_append]
   simp only [List.length_cons, List.length_nil]
   omega)
  simp only [List.all_cons, List.all_nil, id_eq, zal b1, Bool.and_self]
theorem zw4 (q s : List DV) (w lo : Bool) (sc v : Int) : ∃ q' lo', zuX [.l q, .l s, .b w, .b lo, .i sc] v = [.l q', .l s, .b w, .b lo', .i sc] := ⟨_, _, rfl⟩
theorem zwu (q s : List DV) (w lo : Bool) (sc a n : Int) : ∃ q' lo', zr3 [.l q, .l s, .b w, .b lo, .i sc] a n = [.l q', .l s, .b w, .b lo', .i sc] := ⟨_, _, rfl⟩
theorem zwv (q s : List DV) (w lo : Bool) (sc a n v : Int) : ∃ s' w' sc', zr4 [.l q, .l s, .b w, .b lo, .i sc] a n v = [.l q, .l s', .b w', .b lo, .i sc'] ∧ s'.length ≤ s.length + 1 := by
 refine ⟨bif !(n != 1 || decide (a > 7)) then (bif a == 0 then s ++ [.i (IntKind.wrap .u8 v)] else s) else s, _, _, rfl, ?_⟩
 cases hc : (!(n != 1 || decide (a > 7)))
 ·rw [cond_false]; exact Nat.le_succ _
 ·rw [cond_true]
  cases ha : (a == 0)
  ·rw [cond_false]; exact Nat.le_succ _
  ·rw [cond_true]; exact Nat.le_of_eq (by rw [List.length_append]; rfl)
theorem zvs (u : List DV) (a n : Int) (h : znz a n = false) : zjL u a n = 0 := by
 have h0 : (!(n != 1 || decide (a > 7))) = false := h
 unfold zjL
 simp only [h0, cond_false]
theorem zvt (c : List DV) {a n : Int} (h : in64 a = true) (h1 : zhy n = true) : p111 c a n = true := by unfold p111; rw [h, h1]; rfl
theorem zvu (c : List DV) {a n v : Int} (h : in64 a = true) (h1 : zhy n = true) : p112 c a n v = true := by unfold p112; rw [h, h1]; rfl
theorem zvv (c : List DV) (a n : Int) (h : zfB c a n = false) : zeO c a n = 0 := by
 unfold zfB at h
 unfold zeO
 rw [if_neg (of_decide_eq_false h)]
theorem zww (c0 c1 c2 a n v : Int) : ∃ d0 d1 d2, zgQ [.i c0, .i c1, .i c2] a n v = [.i d0, .i d1, .i d2] := by
 unfold zgQ
 have e : (List.range 3).map (fun j => ([DV.i c0, .i c1, .i c2] : List DV).getD j default) = [.i c0, .i c1, .i c2] := rfl
 rw [e]
 split
 ·generalize (zbl (zaV a n)).1 = k
  match k with
  | 0 => exact ⟨_, _, _, rfl⟩
  | 1 => exact ⟨_, _, _, rfl⟩
  | 2 => exact ⟨_, _, _, rfl⟩
  | k + 3 => exact ⟨c0, c1, c2, by simp [List.set]⟩
 ·exact ⟨_, _, _, rfl⟩
end Go.Proofs.Ytiabiimoalkmjaa
namespace Go.Proofs.Ytiabiimoalkmjaa
open Go Go.Sx
set_option maxRecDepth 100000
theorem zms (b : BS) : ∃ pc', znB b.enc = ({ b with pc := pc' } : BS).enc := by
 obtain ⟨pc', h⟩ := zwq b.pc b.p1 b.p2 1 (b.f || zr2 b.U)
 refine ⟨pc', ?_⟩
 show [DV.l b.m, .l b.C, .l (zqK b.P 1 (b.f || zr2 b.U)), .l b.U, .i b.cyc, .l (encE b.ev), .b b.f] = _
 rw [h]
theorem zs8 (a : Int) : in64 (zbW a) = true := by
 unfold zbW
 simp only []
 generalize (decide (a ≥ 33554432) && decide (a < 33619968)) = x
 generalize (decide (a ≥ 201326592) && decide (a < 205520896)) = y
 generalize (decide (a ≥ 268435456) && decide (a < 268435464)) = z
 cases x <;> cases y <;> cases z <;> first | exact zeZ _ | rfl
theorem zum (a : Int) : 0 ≤ zbW a := by
 have h := zs8 a
 unfold in64 at h
 rw [Bool.and_eq_true] at h
 exact of_decide_eq_true h.1
theorem zun (a : Int) (m : List DV) : ∀ (k : Nat) (x7 : Int), k ≤ 8 → (zdd a m x7 ((k : Int) - 1)).isSome = true
 | 0, x7, _ => by
  unfold zdd
  rw [za6 (by show zf6 a m x7 (((0 : Nat) : Int) - 1) = true; unfold zf6; simp [ow]) (by show zdT a m x7 (((0 : Nat) : Int) - 1) = false; unfold zdT; simp)]
  rfl
 | k + 1, x7, h => by
  have hk : (((k + 1 : Nat) : Int) - 1) = (k : Int) := by omega
  unfold zdd
  rw [hk]
  have hw : zf6 a m x7 (k : Int) = true := by
   unfold zf6
   simp only [p83, zeZ]
   simp [ow]
  have hc : zdT a m x7 (k : Int) = true := by
   unfold zdT
   simp
  rw [zbk (show zhz [.i a, .l m, .i x7, .i k] = true from hw) (show zhA [.i a, .l m, .i x7, .i k] = true from hc)]
  have hn : zjN [.i a, .l m, .i x7, .i k] = [.i a, .l m, .i (zgR a m x7 k), .i ((k : Int) - 1)] := by
   show [DV.i a, .l m, .i (zgR a m x7 k), .i (zjM a m x7 k)] = _
   have : zjM a m x7 k = (k : Int) - 1 := by
    show IntKind.wrap .i64 ((k : Int) - 1) = _
    rw [IntKind.wrap_i64]
    omega
   rw [this]
  rw [hn]
  have ih := zun a m k (zgR a m x7 k) (by omega)
  unfold zdd at ih
  exact ih
theorem zmt {a n : Int} (h : zbM a n = true) : (n = 1 ∨ n = 2 ∨ n = 4 ∨ n = 8) ∧ 2147483648 ≤ a ∧ a + n ≤ 2148532224 := by
 unfold zbM at h
 simp only [] at h
 by_cases h1 : n = 1
 ·subst h1
  simp at h
  have : IntKind.wrap .u64 (2148532224 - IntKind.wrap .u64 1) = 2148532223 := by decide
  rw [this] at h
  omega
 by_cases h2 : n = 2
 ·subst h2
  simp at h
  have : IntKind.wrap .u64 (2148532224 - IntKind.wrap .u64 2) = 2148532222 := by decide
  rw [this] at h
  omega
 by_cases h4 : n = 4
 ·subst h4
  simp at h
  have : IntKind.wrap .u64 (2148532224 - IntKind.wrap .u64 4) = 2148532220 := by decide
  rw [this] at h
  omega
 by_cases h8 : n = 8
 ·subst h8
  simp at h
  have : IntKind.wrap .u64 (2148532224 - IntKind.wrap .u64 8) = 2148532216 := by decide
  rw [this] at h
  omega
 simp [h1, h2, h4, h8] at h
theorem zwx (m : List DV) (a n : Int) : p48 m a n = true := by
 unfold p48
 simp only [Bool.not_not]
 cases h : zbM a n with
 | false => simp [ow]
 | true =>
  obtain ⟨hn, _⟩ := zmt h
  have e : zoP a m 0 (IntKind.wrap .i64 (n - 1)) = true := by
   rw [zaU (by omega) (by omega)]
   have := zun a m n.toNat 0 (by omega)
   rw [show ((n.toNat : Int) - 1) = n - 1 from by omega] at this
   exact this
  rw [e]
  simp [ow]
theorem zs9 (a n : Int) : zoQ a n = zbM a n := by
 unfold zoQ
 simp
theorem zuo (n : Nat) (a v : Int) (hn : n ≤ 8) : ∀ (j i : Nat) (m : List DV), i + j = n → (zcc n a v i m).isSome = true
 | 0, i, m, h => by
  have hi : i = n := by omega
  subst hi
  unfold zcc
  rw [za6 (by show zdU (i : Int) a v (i : Int) m = true; unfold zdU; simp [ow]) (by show zdV (i : Int) a v (i : Int) m = false; unfold zdV; simp)]
  rfl
 | j + 1, i, m, h => by
  have hlt : (i : Int) < (n : Int) := by omega
  have hw : zdU (n : Int) a v (i : Int) m = true := by
   unfold zdU
   have e : IntKind.wrap .i64 (8 * (i : Int)) = 8 * (i : Int) := zaU (by omega) (by omega)
   have e2 : decide (8 * (i : Int) ≥ 0) = true := decide_eq_true (by omega)
   simp only [p75, zeZ, e, e2]
   simp [ow]
  have hc : zdV (n : Int) a v (i : Int) m = true := by
   unfold zdV
   simp [hlt]
  unfold zcc
  rw [zbk (show zjP [.i n, .i a, .i v, .i i, .l m] = true from hw) (show zjQ [.i n, .i a, .i v, .i i, .l m] = true from hc)]
  have hx : zjR [.i n, .i a, .i v, .i i, .l m] = [.i n, .i a, .i v, .i ((i + 1 : Nat) : Int), .l (zgS n a v i m)] := by
   show [DV.i n, .i a, .i v, .i (zeQ n a v i m), .l (zgS n a v i m)] = _
   have : zeQ n a v i m = ((i + 1 : Nat) : Int) := by
    show IntKind.wrap .i64 ((i : Int) + 1) = _
    rw [zaU (by omega) (by omega)]
    rfl
   rw [this]
  rw [hx]
  have ih := zuo n a v hn j (i + 1) (zgS n a v i m) (by omega)
  unfold zcc at ih
  exact ih
theorem zwy (m : List DV) (a n v : Int) : p39 m a n v = true := by
 unfold p39
 simp only [Bool.not_not]
 cases h : zbM a n with
 | false => simp [ow]
 | true =>
  obtain ⟨hn, _⟩ := zmt h
  have e : zoS n a v 0 m = true := by
   have := zuo n.toNat a v (by omega) n.toNat 0 m (by omega)
   rw [show ((n.toNat : Nat) : Int) = n from by omega] at this
   exact this
  rw [e]
  simp [ow]
theorem zup (a n : Int) : zqN a n = zbM a n := by
 unfold zqN
 simp
noncomputable def zo7 (c : List DV) (a n : Int) : Bool := bif zbv a == 61 then zfB c (zbW a) n else bif zbv a == 63 then zny (zbW a) n else znz (zbW a) n
theorem zuq (b : BS) (k a n : Int) (hn : zhy n = true) : p12 b.enc k a n = true ∧
  zd0 b.enc k a n = ((!(decide (k < 0) || decide (k > 3))) && (bif !zbM a n then (!((zbv a == 0 || k == 0) || k == 3)) && zo7 b.C a n else zbM a n)) ∧
  (zd0 b.enc k a n = false → zdZ b.enc k a n = 0) ∧
  (zbM a n = true → zdZ b.enc k a n = (bif !(decide (k < 0) || decide (k > 3)) then znA b.m a n else 0) ∧ zcM b.enc k a n = b.enc) ∧
  ∃ pc' q' lo', zcM b.enc k a n = ({ b with pc := pc', q := q', lo := lo' } : BS).enc := by
 obtain ⟨P', hP⟩ := zwr b.pc b.p1 b.p2 (zbW a) n
 obtain ⟨q', lo', hU⟩ := zwu b.q b.s b.w b.lo b.sc (zbW a) n
 refine ⟨?_, ?_, ?_, ?_, ?_⟩
 ·unfold p12
  extract_lets -merge x4 x5 x6 x7 x11 x12 x13 x14 x16 x17 x20 x21 x22 x23 x24 x25 x26 x27 x28 x29 x30 x31 x34 x35 x39 x52
  have b1 : x17 = true := zwx _ _ _
  have b2 : x31 = true := zvt _ (zs8 a) hn
  have b3 : x35 = true := zvn b.pc b.p1 b.p2 _ _ (zum a)
  have b4 : x39 = true := zvq _ _ _ _ _ _ _
  have b5 : x52 = true := zs7
  have b6 : ow [(x14, true), (x20, true), (x28, true)] x29 = true := by
   cases h28 : x28 with
   | false => simp [ow]
   | true =>
    have h2 : (!((x23 || x24) || x26)) = true := h28
    have h3 : x23 = false := by
     cases h23 : x23 with
     | false => rfl
     | true => rw [h23] at h2; simp at h2
    exact zal (show (!x23) = true by rw [h3]; rfl)
  simp only [List.all_cons, List.all_nil, id_eq, Bool.and_true, zal b1, zal b2, zal b3, zal b4, zal b5, b6, Bool.and_self]
 ·rw [← zs9 a n]
  show ((!(decide (k < 0) || decide (k > 3))) && (bif !zeV a n then (!((zbv a == 0 || k == 0) || k == 3)) && zo7 b.C a n else zoQ a n)) = _
  rw [show zeV a n = zoQ a n from (zs9 a n).symm]
 ·intro h
  have h0 : ((!(decide (k < 0) || decide (k > 3))) && (bif !zbM a n then (!((zbv a == 0 || k == 0) || k == 3)) && zo7 b.C a n else zoQ a n)) = false := h
  show (bif !(decide (k < 0) || decide (k > 3)) then (bif !zbM a n then (bif !((zbv a == 0 || k == 0) || k == 3) then (bif zbv a == 61 then zeO b.C (zbW a) n else bif zbv a == 63 then zjK b.P (zbW a) n else zjL b.U (zbW a) n) else 0) else znA b.m a n) else 0) = 0
  generalize (!(decide (k < 0) || decide (k > 3))) = u at *
  generalize (!((zbv a == 0 || k == 0) || k == 3)) = v at *
  cases u
  ·rfl
  ·cases hr : zbM a n with
   | true => rw [hr] at h0; rw [zs9, hr] at h0; cases h0
   | false =>
    rw [hr] at h0
    cases v
    ·rfl
    ·have h1 : zo7 b.C a n = false := h0
     unfold zo7 at h1
     show (bif zbv a == 61 then zeO b.C (zbW a) n else bif zbv a == 63 then zjK b.P (zbW a) n else zjL b.U (zbW a) n) = 0
     cases h61 : zbv a == 61 with
     | true => rw [h61] at h1; exact zvv _ _ _ h1
     | false =>
      rw [h61] at h1
      cases h63 : zbv a == 63 with
      | true => rw [h63] at h1; exact zvp _ _ _ h1
      | false => rw [h63] at h1; exact zvs _ _ _ h1
 ·intro hr
  constructor
  ·show (bif !(decide (k < 0) || decide (k > 3)) then (bif !zbM a n then (bif !((zbv a == 0 || k == 0) || k == 3) then (bif zbv a == 61 then zeO b.C (zbW a) n else bif zbv a == 63 then zjK b.P (zbW a) n else zjL b.U (zbW a) n) else 0) else znA b.m a n) else 0) = _
   rw [hr]
   rfl
  ·unfold zcM
   have hr2 : zeV a n = true := hr
   simp only [hr2, Bool.not_true, cond_false]
   cases (!(decide (k < 0) || decide (k > 3))) <;> rfl
 ·unfold zcM
  extract_lets -merge x4 x5 x6 x7 x8 x9 x10 x11 x12 x13 x14 x16 x20 x21 x22 x23 x24 x25 x26 x27 x28 x30 x34 x38 x42 x45 x46 x49 x50 x51 x53 x54 x55 x56 x57 x58 x59 x60 x63 x64 x65 x66 x67 x68 x69 x72 x73 x74 x75 x76 x77 x78 x81 x82 x83 x84 x85 x86 x87 x88
  cases h14 : x14 with
  | false => exact ⟨b.pc, b.q, b.lo, by show [DV.l (bif x14 then x72 else x4), .l (bif x14 then x73 else x5), .l (bif x14 then x74 else x6), .l (bif x14 then x75 else x7), .i (bif x14 then x76 else x8), .l (bif x14 then x77 else x9), .b (bif x14 then x78 else x10)] = _; rw [h14]; rfl⟩
  | true =>
   cases h20 : x20 with
   | false => exact ⟨b.pc, b.q, b.lo, by show [DV.l (bif x14 then (bif x20 then x63 else x4) else x4), .l (bif x14 then (bif x20 then x64 else x5) else x5), .l (bif x14 then (bif x20 then x65 else x6) else x6), .l (bif x14 then (bif x20 then x66 else x7) else x7), .i (bif x14 then (bif x20 then x67 else x8) else x8), .l (bif x14 then (bif x20 then x68 else x9) else x9), .b (bif x14 then (bif x20 then x69 else x10) else x10)] = _; rw [h14, h20]; rfl⟩
   | true =>
    cases h28 : x28 with
    | false => exact ⟨b.pc, b.q, b.lo, by show [DV.l (bif x14 then (bif x20 then (bif x28 then x54 else x4) else x4) else x4), .l (bif x14 then (bif x20 then (bif x28 then x55 else x5) else x5) else x5), .l (bif x14 then (bif x20 then (bif x28 then x56 else x6) else x6) else x6), .l (bif x14 then (bif x20 then (bif x28 then x57 else x7) else x7) else x7), .i (bif x14 then (bif x20 then (bif x28 then x58 else x8) else x8) else x8), .l (bif x14 then (bif x20 then (bif x28 then x59 else x9) else x9) else x9), .b (bif x14 then (bif x20 then (bif x28 then x60 else x10) else x10) else x10)] = _; rw [h14, h20, h28]; rfl⟩
    | true =>
     have e51 : ∃ b1 : BS, x51 = b1.enc ∧ ∃ pc' q' lo', b1 = { b with pc := pc', q := q', lo := lo' } := by
      have hP' : x38 = [.l P', .i b.p1, .i b.p2] := hP
      have hU' : x42 = [.l q', .l b.s, .b b.w, .b lo', .i b.sc] := hU
      cases h30 : x30 with
      | true => exact ⟨b, by show [DV.l x4, .l x5, .l (bif x30 then x6 else x45), .l (bif x30 then x7 else x46), .i x8, .l x9, .b x10] = _; rw [h30]; rfl, b.pc, b.q, b.lo, rfl⟩
      | false =>
       cases h34 : x34 with
       | true => exact ⟨{ b with pc := P' }, by show [DV.l x4, .l x5, .l (bif x30 then x6 else bif x34 then x38 else x6), .l (bif x30 then x7 else bif x34 then x7 else x42), .i x8, .l x9, .b x10] = _; rw [h30, h34, hP']; rfl, P', b.q, b.lo, rfl⟩
       | false => exact ⟨{ b with q := q', lo := lo' }, by show [DV.l x4, .l x5, .l (bif x30 then x6 else bif x34 then x38 else x6), .l (bif x30 then x7 else bif x34 then x7 else x42), .i x8, .l x9, .b x10] = _; rw [h30, h34, hU']; rfl, b.pc, q', lo', rfl⟩
     obtain ⟨b1, e1, pc1, q1, lo1, rfl⟩ := e51
     obtain ⟨pc2, e2⟩ := zms { b with pc := pc1, q := q1, lo := lo1 }
     have e53 : x53 = ({ b with pc := pc2, q := q1, lo := lo1 } : BS).enc := by show znB x51 = _; rw [e1]; exact e2
     refine ⟨pc2, q1, lo1, ?_⟩
     show [DV.l (bif x14 then (bif x20 then (bif x28 then x54 else x4) else x4) else x4), .l (bif x14 then (bif x20 then (bif x28 then x55 else x5) else x5) else x5), .l (bif x14 then (bif x20 then (bif x28 then x56 else x6) else x6) else x6), .l (bif x14 then (bif x20 then (bif x28 then x57 else x7) else x7) else x7), .i (bif x14 then (bif x20 then (bif x28 then x58 else x8) else x8) else x8), .l (bif x14 then (bif x20 then (bif x28 then x59 else x9) else x9) else x9), .b (bif x14 then (bif x20 then (bif x28 then x60 else x10) else x10) else x10)] = _
     rw [h14, h20, h28]
     show [DV.l (x53.getD 0 default).toL, .l (x53.getD 1 default).toL, .l (x53.getD 2 default).toL, .l (x53.getD 3 default).toL, .i (x53.getD 4 default).toI, .l (x53.getD 5 default).toL, .b (x53.getD 6 default).toB] = _
     rw [e53]
     rfl
end Go.Proofs.Ytiabiimoalkmjaa
namespace Go.Proofs.Ytiabiimoalkmjaa
open Go Go.Sx
set_option maxRecDepth 100000
theorem zvw (b : BS) (a n v : Int) (hn : zhy n = true) (hs : b.s.length < 35184372088832) : p10 b.enc a n v = true ∧
  zeW b.enc a n v = (bif !zbM a n then (!(zbv a == 0)) && zo7 b.C a n else zbM a n) ∧
  ∃ b' : BS, zcN b.enc a n v = b'.enc ∧ b'.m = (bif zbM a n then zqO b.m a n v else b.m) ∧ (zbv a ≠ 61 → b'.c0 = b.c0 ∧ b'.c1 = b.c1 ∧ b'.c2 = b.c2) ∧ b'.cyc = b.cyc ∧ b'.ev = b.ev ∧ b'.s.length ≤ b.s.length + 1 := by
 obtain ⟨d0, d1, d2, hC⟩ := zww b.c0 b.c1 b.c2 (zbW a) n v
 obtain ⟨P', p1', p2', hP⟩ := zws b.pc b.p1 b.p2 (zbW a) n v
 obtain ⟨s', w', sc', hU, hsl⟩ := zwv b.q b.s b.w b.lo b.sc (zbW a) n v
 refine ⟨?_, ?_, ?_⟩
 ·unfold p10
  extract_lets -merge x4 x5 x6 x7 x12 x13 x16 x17 x18 x19 x20 x21 x22 x23 x26 x27 x30 x41
  have b1 : x13 = true := zwy _ _ _ _
  have b2 : x23 = true := zvu _ (zs8 a) hn
  have b3 : x27 = true := zvo b.pc b.p1 b.p2 _ _ _ (zum a)
  have b4 : x30 = true := zvr _ _ _ _ _ _ _ _ hs
  have b5 : x41 = true := zs7
  have b6 : ow [(x16, true), (x20, true)] x21 = true := by
   have : x21 = x20 := rfl
   rw [this]
   cases x20
   ·simp [ow]
   ·exact zal rfl
  simp only [List.all_cons, List.all_nil, id_eq, Bool.and_true, zal b1, zal b2, zal b3, zal b4, zal b5, b6, Bool.and_self]
 ·rw [← zup a n]
  show (bif !zeV a n then (!(zbv a == 0)) && zo7 b.C a n else zqN a n) = _
  rw [show zeV a n = zqN a n from (zup a n).symm]
 ·unfold zcN
  extract_lets -merge x4 x5 x6 x7 x8 x9 x10 x12 x15 x16 x17 x18 x19 x20 x22 x24 x26 x29 x32 x34 x35 x37 x38 x39 x40 x42 x43 x44 x45 x46 x47 x48 x49 x51 x52 x53 x54 x55 x56 x57 x59 x60 x61 x62 x63 x64 x65 x66
  cases h16 : x16 with
  | false =>
   have hr : zbM a n = true := by
    have h2 : (!zbM a n) = false := h16
    simpa using h2
   refine ⟨{ b with m := x15 }, ?_, ?_, fun _ => ⟨rfl, rfl, rfl⟩, rfl, rfl, Nat.le_succ _⟩
   ·show [DV.l (bif x16 then x51 else x15), .l (bif x16 then x52 else x5), .l (bif x16 then x53 else x6), .l (bif x16 then x54 else x7), .i (bif x16 then x55 else x8), .l (bif x16 then x56 else x9), .b (bif x16 then x57 else x10)] = _
    rw [h16]
    rfl
   ·rw [hr]
    rfl
  | true =>
   have hr : zbM a n = false := by
    have h2 : (!zbM a n) = true := h16
    simpa using h2
   cases h20 : x20 with
   | false =>
    refine ⟨b, ?_, ?_, fun _ => ⟨rfl, rfl, rfl⟩, rfl, rfl, Nat.le_succ _⟩
    ·show [DV.l (bif x16 then (bif x20 then x43 else x4) else x15), .l (bif x16 then (bif x20 then x44 else x5) else x5), .l (bif x16 then (bif x20 then x45 else x6) else x6), .l (bif x16 then (bif x20 then x46 else x7) else x7), .i (bif x16 then (bif x20 then x47 else x8) else x8), .l (bif x16 then (bif x20 then x48 else x9) else x9), .b (bif x16 then (bif x20 then x49 else x10) else x10)] = _
     rw [h16, h20]
     rfl
    ·rw [hr]
     rfl
   | true =>
    have e40 : ∃ b1 : BS, x40 = b1.enc ∧ b1.m = b.m ∧ (zbv a ≠ 61 → b1.c0 = b.c0 ∧ b1.c1 = b.c1 ∧ b1.c2 = b.c2) ∧ b1.cyc = b.cyc ∧ b1.ev = b.ev ∧ b1.s.length ≤ b.s.length + 1 := by
     have hC' : x24 = [.i d0, .i d1, .i d2] := hC
     have hP' : x29 = [.l P', .i p1', .i p2'] := hP
     have hU' : x32 = [.l b.q, .l s', .b w', .b b.lo, .i sc'] := hU
     cases h22 : x22 with
     | true =>
      refine ⟨{ b with c0 := d0, c1 := d1, c2 := d2 }, ?_, rfl, fun h => absurd (show zbv a = 61 by simpa using (show (zbv a == 61) = true from h22)) h, rfl, rfl, Nat.le_succ _⟩
      show [DV.l x4, .l (bif x22 then x24 else x5), .l (bif x22 then x6 else x34), .l (bif x22 then x7 else x35), .i x8, .l x9, .b x10] = _
      rw [h22, hC']
      rfl
     | false =>
      cases h26 : x26 with
      | true =>
       refine ⟨{ b with pc := P', p1 := p1', p2 := p2' }, ?_, rfl, fun _ => ⟨rfl, rfl, rfl⟩, rfl, rfl, Nat.le_succ _⟩
       show [DV.l x4, .l (bif x22 then x24 else x5), .l (bif x22 then x6 else bif x26 then x29 else x6), .l (bif x22 then x7 else bif x26 then x7 else x32), .i x8, .l x9, .b x10] = _
       rw [h22, h26, hP']
       rfl
      | false =>
       refine ⟨{ b with s := s', w := w', sc := sc' }, ?_, rfl, fun _ => ⟨rfl, rfl, rfl⟩, rfl, rfl, hsl⟩
       show [DV.l x4, .l (bif x22 then x24 else x5), .l (bif x22 then x6 else bif x26 then x29 else x6), .l (bif x22 then x7 else bif x26 then x7 else x32), .i x8, .l x9, .b x10] = _
       rw [h22, h26, hU']
       rfl
    obtain ⟨b1, e1, g1, g2, g3, g4, g5⟩ := e40
    obtain ⟨pc2, e2⟩ := zms b1
    have e42 : x42 = ({ b1 with pc := pc2 } : BS).enc := by show znB x40 = _; rw [e1]; exact e2
    refine ⟨{ b1 with pc := pc2 }, ?_, by rw [hr]; exact g1, g2, g3, g4, g5⟩
    show [DV.l (bif x16 then (bif x20 then x43 else x4) else x15), .l (bif x16 then (bif x20 then x44 else x5) else x5), .l (bif x16 then (bif x20 then x45 else x6) else x6), .l (bif x16 then (bif x20 then x46 else x7) else x7), .i (bif x16 then (bif x20 then x47 else x8) else x8), .l (bif x16 then (bif x20 then x48 else x9) else x9), .b (bif x16 then (bif x20 then x49 else x10) else x10)] = _
    rw [h16, h20]
    show [DV.l (x42.getD 0 default).toL, .l (x42.getD 1 default).toL, .l (x42.getD 2 default).toL, .l (x42.getD 3 default).toL, .i (x42.getD 4 default).toI, .l (x42.getD 5 default).toL, .b (x42.getD 6 default).toB] = _
    rw [e42]
    rfl
abbrev zh9 (z : List DV) (b : BS) : List DV := [.l z, .l b.m, .l b.C, .l b.P, .l b.U, .i b.cyc, .l (encE b.ev), .b b.f, .l z, .l z, .l z, .l z]
theorem znI (z : List DV) : ∀ (l : List Ev) (b : BS), b.ev = l → ∃ b' : BS, zcb zdX zdY zhB zml (zh9 z b) = some [.i 0, .l b'.m, .l b'.C, .l b'.P, .l b'.U, .i b'.cyc, .l (encE b'.ev), .b b'.f, .l z, .l z, .l z, .l z] ∧
  b'.m = b.m ∧ b'.c0 = b.c0 ∧ b'.c1 = b.c1 ∧ b'.c2 = b.c2 ∧ b'.s = b.s ∧ b'.cyc = b.cyc
 | [], b, hb => by
  refine ⟨b, ?_, rfl, rfl, rfl, rfl, rfl, rfl⟩
  have he : encE b.ev = [] := by rw [hb]; rfl
  have hw : zdX (zh9 z b) = true := by
   show zdX [.l z, .l b.m, .l b.C, .l b.P, .l b.U, .i b.cyc, .l (encE b.ev), .b b.f, .l z, .l z, .l z, .l z] = true
   rw [he]
   unfold zdX
   extract_lets -merge x9 x10 x11 x12 x13 x14 x15 x20 x21 x22 x23 x24 x25 x26 x27 x28 x30 x31 x32 x33 x34 x36 x37 x38 x40 x43 x52
   have b1 : x21 = false := decide_eq_false (show ¬ ((0 / 4 : Nat) : Int) > 0 by simp)
   have b2 : x26 = false := by show (x21 && x25) = false; rw [b1]; rfl
   simp [ow, b1, b2]
  have hc : zdY (zh9 z b) = false := by
   show zdY [.l z, .l b.m, .l b.C, .l b.P, .l b.U, .i b.cyc, .l (encE b.ev), .b b.f, .l z, .l z, .l z, .l z] = false
   rw [he]
   unfold zdY
   extract_lets -merge x13 x14 x20 x21 x24 x25 x26
   have b1 : x21 = false := decide_eq_false (show ¬ ((0 / 4 : Nat) : Int) > 0 by simp)
   show (x21 && x25) = false
   rw [b1]
   rfl
  rw [za6 hw hc]
  rfl
 | e :: l, b, hb => by
  have he : encE b.ev = .i e.c :: .i e.k :: .i e.n :: .i e.v :: encE l := by rw [hb, znH]
  have hlen : (((encE b.ev).length / 4 : Nat) : Int) = (l.length : Int) + 1 := by rw [zfj, hb]; simp
  have hw : zdX (zh9 z b) = true := by
   unfold zdX
   extract_lets -merge x9 x10 x11 x12 x13 x14 x15 x20 x21 x22 x23 x24 x25 x26 x27 x28 x30 x31 x32 x33 x34 x36 x37 x38 x40 x43 x52
   have hl : x20 = (l.length : Int) + 1 := hlen
   have b1 : x23 = true := decide_eq_true (show 0 < x20 by omega)
   have b2 : x34 = true := decide_eq_true (show 1 ≤ x20 by omega)
   have b3 : x38 = true := zwt _ _ _ _ _ _
   have b4 : x43 = true := zul _
   have b5 : x52 = true := zs7
   simp only [List.all_cons, List.all_nil, id_eq, Bool.and_true, zal b1, show x28 = x23 from rfl, zal b2, zal b3, zal b4, zal b5, Bool.and_self]
  have hcv : zdY (zh9 z b) = (e.c == b.cyc) := by
   unfold zdY
   extract_lets -merge x13 x14 x20 x21 x24 x25 x26
   have hl : x20 = (l.length : Int) + 1 := hlen
   have b1 : x21 = true := decide_eq_true (show x20 > 0 by omega)
   have b2 : x24 = e.c := by show ((encE b.ev).getD 0 default).toI = e.c; rw [he]; rfl
   show (x21 && (x24 == x13)) = _
   rw [b1, b2]
   rfl
  cases hc : (e.c == b.cyc) with
  | false =>
   rw [hc] at hcv
   exact ⟨b, by rw [za6 hw hcv]; rfl, rfl, rfl, rfl, rfl, rfl, rfl⟩
  | true =>
   rw [hc] at hcv
   have hn : ∃ b1 : BS, zhB (zh9 z b) = zh9 z b1 ∧ b1.ev = l ∧ b1.m = b.m ∧ b1.c0 = b.c0 ∧ b1.c1 = b.c1 ∧ b1.c2 = b.c2 ∧ b1.s = b.s ∧ b1.cyc = b.cyc := by
    unfold zhB
    extract_lets -merge x0 x9 x10 x11 x12 x13 x14 x15 x30 x31 x32 x35 x36 x37 x39 x40 x41 x42 x45 x46 x47 x48 x49 x50 x51 x53 x54 x55 x56 x57 x58 x59 x60
    obtain ⟨P', hP⟩ := zwq b.pc b.p1 b.p2 x31 x42
    obtain ⟨q', lo', hU⟩ := zw4 b.q b.s b.w b.lo b.sc x37
    have hP' : x45 = [.l P', .i b.p1, .i b.p2] := hP
    have hU' : x39 = [.l q', .l b.s, .b b.w, .b lo', .i b.sc] := hU
    have h35 : x35 = encE l := by show (encE b.ev).drop 4 = _; rw [he]; rfl
    have e51 : ∃ b1 : BS, x51 = b1.enc ∧ b1.ev = l ∧ b1.m = b.m ∧ b1.c0 = b.c0 ∧ b1.c1 = b.c1 ∧ b1.c2 = b.c2 ∧ b1.s = b.s ∧ b1.cyc = b.cyc := by
     cases h36 : x36 with
     | true =>
      refine ⟨{ b with q := q', lo := lo', ev := l }, ?_, rfl, rfl, rfl, rfl, rfl, rfl, rfl⟩
      show [DV.l x9, .l x10, .l (bif x36 then x11 else x47), .l (bif x36 then x39 else x12), .i x13, .l x35, .b (bif x36 then x15 else x46)] = _
      rw [h36, hU', h35]
      rfl
     | false =>
      cases h40 : x40 with
      | true =>
       refine ⟨{ b with ev := l, f := x41 }, ?_, rfl, rfl, rfl, rfl, rfl, rfl, rfl⟩
       show [DV.l x9, .l x10, .l (bif x36 then x11 else bif x40 then x11 else x45), .l (bif x36 then x39 else x12), .i x13, .l x35, .b (bif x36 then x15 else bif x40 then x41 else x15)] = _
       rw [h36, h40, h35]
       rfl
      | false =>
       refine ⟨{ b with pc := P', ev := l }, ?_, rfl, rfl, rfl, rfl, rfl, rfl, rfl⟩
       show [DV.l x9, .l x10, .l (bif x36 then x11 else bif x40 then x11 else x45), .l (bif x36 then x39 else x12), .i x13, .l x35, .b (bif x36 then x15 else bif x40 then x41 else x15)] = _
       rw [h36, h40, h35, hP']
       rfl
    obtain ⟨b1, e1, g0, g1, g2, g3, g4, g5, g6⟩ := e51
    obtain ⟨pc2, e2⟩ := zms b1
    have e53 : x53 = ({ b1 with pc := pc2 } : BS).enc := by show znB x51 = _; rw [e1]; exact e2
    refine ⟨{ b1 with pc := pc2 }, ?_, g0, g1, g2, g3, g4, g5, g6⟩
    show [DV.l x0, .l (x53.getD 0 default).toL, .l (x53.getD 1 default).toL, .l (x53.getD 2 default).toL, .l (x53.getD 3 default).toL, .i (x53.getD 4 default).toI, .l (x53.getD 5 default).toL, .b (x53.getD 6 default).toB, .l x0, .l x0, .l x0, .l x0] = _
    rw [e53]
    rfl
   obtain ⟨b1, e1, g0, g1, g2, g3, g4, g5, g6⟩ := hn
   rw [zbk hw hcv, e1]
   obtain ⟨b2, e2, k1, k2, k3, k4, k5, k6⟩ := znI z l b1 g0
   exact ⟨b2, e2, k1.trans g1, k2.trans g2, k3.trans g3, k4.trans g4, k5.trans g5, k6.trans g6⟩
theorem zwz (b : BS) : p16 b.enc = true ∧ ∃ b' : BS, zhC b.enc = b'.enc ∧ b'.m = b.m ∧ b'.c1 = IntKind.wrap .u64 (b.c1 + 1) ∧ b'.s = b.s ∧ b'.cyc = IntKind.wrap .i64 (b.cyc + 1) := by
 obtain ⟨b1, e1, g1, g2, g3, g4, g5, g6⟩ := znI b.enc b.ev { b with cyc := IntKind.wrap .i64 (b.cyc + 1) } rfl
 have hg : zf7 [.l b.enc, .l b.m, .l b.C, .l b.P, .l b.U, .i (IntKind.wrap .i64 (b.cyc + 1)), .l (encE b.ev), .b b.f, .l b.enc, .l b.enc, .l b.enc, .l b.enc] =
   .b true :: [.i 0, .l b1.m, .l b1.C, .l b1.P, .l b1.U, .i b1.cyc, .l (encE b1.ev), .b b1.f, .l b.enc, .l b.enc, .l b.enc, .l b.enc] := by
  unfold zf7
  have e : nrms [.l, .l, .l, .l, .l, .i, .l, .b, .l, .l, .l, .l] [DV.l b.enc, .l b.m, .l b.C, .l b.P, .l b.U, .i (IntKind.wrap .i64 (b.cyc + 1)), .l (encE b.ev), .b b.f, .l b.enc, .l b.enc, .l b.enc, .l b.enc] = zh9 b.enc { b with cyc := IntKind.wrap .i64 (b.cyc + 1) } := rfl
  rw [e, e1]
  rfl
 constructor
 ·show ([ow [] (dget (zf7 [.l b.enc, .l b.m, .l b.C, .l b.P, .l b.U, .i (IntKind.wrap .i64 (b.cyc + 1)), .l (encE b.ev), .b b.f, .l b.enc, .l b.enc, .l b.enc, .l b.enc]) 0).toB].all id) = true
  rw [hg]
  rfl
 ·refine ⟨{ b1 with c1 := IntKind.wrap .u64 (b1.c1 + 1) }, ?_, g1, by rw [← g3], g5, g6⟩
  show (fun y11 : List DV => [DV.l (dget y11 2).toL, .l (zuT (dget y11 3).toL), .l (dget y11 4).toL, .l (dget y11 5).toL, .i (dget y11 6).toI, .l (dget y11 7).toL, .b (dget y11 8).toB])
   (zf7 [.l b.enc, .l b.m, .l b.C, .l b.P, .l b.U, .i (IntKind.wrap .i64 (b.cyc + 1)), .l (encE b.ev), .b b.f, .l b.enc, .l b.enc, .l b.enc, .l b.enc]) = _
  rw [hg]
  rfl
end Go.Proofs.Ytiabiimoalkmjaa
namespace Go.Proofs.Ytiabiimoalkmjaa
open Go Go.Sx
set_option maxRecDepth 100000
noncomputable def bs0 (img : List DV) (l : List Ev) : BS := ⟨zcO img 2147483648 [], 0, 0, 18446744073709551615, (ztN.getD 0 default).toL, 0, 0, [], [], false, false, 0, -1, l, false⟩
theorem ztV (img : List DV) (l : List Ev) : bus0 img (encE l) = (bs0 img l).enc := rfl
end Go.Proofs.Ytiabiimoalkmjaa
namespace Go.Proofs.Ytiabiimoalkmjaa
open Go Go.Sx
set_option maxRecDepth 100000
noncomputable def zp0 (v j : Int) : Int := IntKind.wrap .u8 (ishr .u64 v (8 * j))
theorem znJ (n : Int) : 0 ≤ IntKind.wrap .u8 n ∧ IntKind.wrap .u8 n < 256 := by
 unfold IntKind.wrap
 simp [IntKind.bits, IntKind.signed]
 omega
theorem zp1 (n : Nat) (a v : Int) (hn : n ≤ 8) (ha : 0 ≤ a) (ha2 : a < 9223372036854775808) : ∀ (j i : Nat) (m : List DV), i + j = n →
  ∃ m', zcc n a v i m = some [.i 0, .i n, .l m'] ∧ ∀ A : Int, ramAt m' A = if a + i ≤ A ∧ A < a + n then zp0 v (A - a) else ramAt m A
 | 0, i, m, h => by
  have hi : i = n := by omega
  subst hi
  refine ⟨m, ?_, fun A => by rw [if_neg (by omega)]⟩
  unfold zcc
  rw [za6 (by show zdU (i : Int) a v (i : Int) m = true; unfold zdU; simp [ow]) (by show zdV (i : Int) a v (i : Int) m = false; unfold zdV; simp)]
  rfl
 | j + 1, i, m, h => by
  have hlt : (i : Int) < (n : Int) := by omega
  have e : IntKind.wrap .i64 (8 * (i : Int)) = 8 * (i : Int) := zaU (by omega) (by omega)
  have hw : zdU (n : Int) a v (i : Int) m = true := by
   unfold zdU
   have e2 : decide (8 * (i : Int) ≥ 0) = true := decide_eq_true (by omega)
   simp only [p75, zeZ, e, e2]
   simp [ow]
  have hc : zdV (n : Int) a v (i : Int) m = true := by
   unfold zdV
   simp [hlt]
  unfold zcc
  rw [zbk (show zjP [.i n, .i a, .i v, .i i, .l m] = true from hw) (show zjQ [.i n, .i a, .i v, .i i, .l m] = true from hc)]
  have hx : zjR [.i n, .i a, .i v, .i i, .l m] = [.i n, .i a, .i v, .i ((i + 1 : Nat) : Int), .l (zea m (a + i) (zp0 v i))] := by
   show [DV.i n, .i a, .i v, .i (zeQ n a v i m), .l (zea m (IntKind.wrap .u64 (a + IntKind.wrap .u64 i)) (IntKind.wrap .u8 (ishr .u64 v (IntKind.wrap .i64 (8 * (i : Int))))))] = _
   have e3 : zeQ n a v i m = ((i + 1 : Nat) : Int) := by
    show IntKind.wrap .i64 ((i : Int) + 1) = _
    rw [zaU (by omega) (by omega)]
    rfl
   rw [e3, e, zaC (n := (i : Int)) (by omega) (by omega), zaC (n := a + (i : Int)) (by omega) (by omega)]
   rfl
  rw [hx]
  obtain ⟨m', h1, h2⟩ := zp1 n a v hn ha ha2 j (i + 1) (zea m (a + i) (zp0 v i)) (by omega)
  unfold zcc at h1
  refine ⟨m', h1, fun A => ?_⟩
  rw [h2, zev]
  by_cases hA : a + i = A
  ·subst hA
   rw [if_neg (by omega), if_pos rfl, if_pos (by omega), show a + (i : Int) - a = i from by omega]
  ·rw [if_neg hA]
   by_cases hB : a + ((i + 1 : Nat) : Int) ≤ A ∧ A < a + n
   ·rw [if_pos hB, if_pos (by omega)]
   ·rw [if_neg hB, if_neg (by omega)]
theorem zwA (m : List DV) (a n v A : Int) (h : zbM a n = true) : ramAt (zqO m a n v) A = if a ≤ A ∧ A < a + n then zp0 v (A - a) else ramAt m A := by
 obtain ⟨hn, h1, h2⟩ := zmt h
 obtain ⟨m', e1, e2⟩ := zp1 n.toNat a v (by omega) (by omega) (by omega) n.toNat 0 m (by omega)
 rw [show ((n.toNat : Nat) : Int) = n from by omega] at e1 e2
 have e : zqO m a n v = m' := by
  unfold zqO
  simp only [h, Bool.not_true, Bool.not_false, cond_true]
  have e1' : zcc n a v 0 m = some [.i 0, .i n, .l m'] := e1
  unfold zjS
  rw [e1']
  rfl
 rw [e, e2]
 rw [show a + ((0 : Nat) : Int) = a from by omega]
theorem zta : ∀ x : Fin 256, ilor .u64 (ishl .u64 0 8) (IntKind.wrap .u64 ((x.val : Nat) : Int)) = ((x.val : Nat) : Int) := by decide +kernel
theorem zwB (m : List DV) (A : Int) (hA : A = 2147483651) (h0 : 0 ≤ ramAt m A) (h1 : ramAt m A < 256) : znA m A 1 = ramAt m A := by
 have hr : zbM A 1 = true := by rw [hA]; decide
 have hz : IntKind.wrap .i64 (1 - 1) = 0 := by decide
 unfold znA
 simp only [hr, hz, Bool.not_true, Bool.not_false, cond_true]
 have hadr : IntKind.wrap .u64 (A + IntKind.wrap .u64 0) = A := by rw [zaC (n := 0) (by decide) (by decide), zaC (by omega) (by omega)]; omega
 have hw : ∀ k x7 : Int, zf6 A m x7 k = true := fun k x7 => by
  unfold zf6
  simp only [p83, zeZ]
  simp [ow]
 have e : zdd A m 0 0 = some [.i 0, .i (ilor .u64 (ishl .u64 0 8) (IntKind.wrap .u64 (ramAt m A))), .i (-1)] := by
  unfold zdd
  rw [zbk (show zhz [.i A, .l m, .i 0, .i 0] = true from hw 0 0) (show zhA [.i A, .l m, .i 0, .i 0] = true by show zdT A m 0 0 = true; unfold zdT; simp)]
  have hn : zjN [.i A, .l m, .i 0, .i 0] = [.i A, .l m, .i (ilor .u64 (ishl .u64 0 8) (IntKind.wrap .u64 (ramAt m A))), .i (-1)] := by
   show [DV.i A, .l m, .i (ilor .u64 (ishl .u64 0 8) (IntKind.wrap .u64 (ramAt m (IntKind.wrap .u64 (A + IntKind.wrap .u64 0))))), .i (IntKind.wrap .i64 (0 - 1))] = _
   rw [hadr, show IntKind.wrap .i64 (0 - 1) = -1 from by decide]
  rw [hn]
  rw [za6 (show zhz [.i A, .l m, .i (ilor .u64 (ishl .u64 0 8) (IntKind.wrap .u64 (ramAt m A))), .i (-1)] = true from hw _ _) (show zhA [.i A, .l m, .i (ilor .u64 (ishl .u64 0 8) (IntKind.wrap .u64 (ramAt m A))), .i (-1)] = false by show zdT A m _ (-1) = false; unfold zdT; simp)]
  rfl
 unfold zjO
 rw [e]
 show ilor .u64 (ishl .u64 0 8) (IntKind.wrap .u64 (ramAt m A)) = ramAt m A
 have := zta ⟨(ramAt m A).toNat, by omega⟩
 simp only [] at this
 rwa [show (((ramAt m A).toNat : Nat) : Int) = ramAt m A from by omega] at this
structure Inv (i : Nat) (n want : Int) (b : BS) : Prop where
 n0 : 0 ≤ n
 n1 : n ≤ i
 time : b.c1 = n
 cyc : b.cyc = n - 1
 sent : b.s.length ≤ i
 ram : ramAt b.m 2147483651 = want
 w0 : 0 ≤ want
 w1 : want < 256
noncomputable def devB (e : Ev) : Bool := ilt e.c 3 && (((ishr .u64 e.k 24 == 128) || (ishr .u64 e.k 24 == 16)) || (ishr .u64 e.k 24 == 12))
noncomputable def hitB (b : List DV) (e : Ev) : Bool := ((zeW b e.k e.n e.v && ile e.k 2147483651) && ige e.k 2147483640) && decide (IntKind.wrap .u64 (2147483651 - e.k) < IntKind.wrap .u64 e.n)
theorem zvx {e : Ev} (h : devB e = true) : 201326592 ≤ e.k := by
 unfold devB at h
 simp only [Bool.and_eq_true, Bool.or_eq_true, beq_iff_eq] at h
 have hd : ishr .u64 e.k 24 = e.k / 16777216 := by
  unfold ishr
  show e.k.fdiv (2 ^ 24) = _
  rw [Int.fdiv_eq_ediv_of_nonneg _ (by decide)]
  rfl
 rw [hd] at h
 omega
theorem zvy {a : Int} (h : 201326592 ≤ a) : zbv a ≠ 61 := by
 unfold zbv
 have h1 : decide (a < 33619968) = false := decide_eq_false (by omega)
 simp only [h1, Bool.and_false, cond_false]
 generalize (decide (a ≥ 201326592) && decide (a < 205520896)) = y
 generalize (decide (a ≥ 268435456) && decide (a < 268435464)) = z
 cases y <;> cases z <;> decide
theorem zvz {a : Int} (h : 2147483640 ≤ a) : zbv a = 0 := by
 unfold zbv
 have h1 : decide (a < 33619968) = false := decide_eq_false (by omega)
 have h2 : decide (a < 205520896) = false := decide_eq_false (by omega)
 have h3 : decide (a < 268435464) = false := decide_eq_false (by omega)
 simp only [h1, h2, h3, Bool.and_false, cond_false]
 rfl
theorem zw5 {i : Nat} {n want : Int} {b : BS} (hI : Inv i n want b) (hi : i < 17592186044416) (e : Ev) (hn : zhy e.n = true) (hk : 0 ≤ e.k ∧ e.k < 18446744073709551616) :
  ∃ (bm : BS) (n' want' : Int), (bif devB e then zcM (zcN b.enc e.k e.n e.v) 1 e.k e.n else zhC b.enc) = bm.enc ∧ (bif devB e then n else IntKind.wrap .u64 (n + 1)) = n' ∧
   (bif devB e then (bif hitB b.enc e then IntKind.wrap .u8 (ishr .u64 e.v (IntKind.wrap .u64 (8 * IntKind.wrap .u64 (2147483651 - e.k)))) else want) else want) = want' ∧ Inv (i + 1) n' want' bm ∧
   p10 b.enc e.k e.n e.v = true ∧ p12 (zcN b.enc e.k e.n e.v) 1 e.k e.n = true ∧ p16 b.enc = true := by
 obtain ⟨w1, w2, b1, e1, g1, g2, g3, g4, g5⟩ := zvw b e.k e.n e.v hn (Nat.lt_of_le_of_lt hI.sent (by omega))
 obtain ⟨q1, _, _, _, pc', q', lo', q5⟩ := zuq b1 1 e.k e.n hn
 obtain ⟨t1, b2, t2, k1, k2, k3, k4⟩ := zwz b
 rw [e1]
 cases hd : devB e with
 | true =>
  have hat := zvx hd
  obtain ⟨c0, c1, c2⟩ := g2 (zvy hat)
  refine ⟨_, _, _, q5, rfl, rfl, ?_, w1, q1, t1⟩
  have hm : ramAt b1.m 2147483651 = (bif hitB b.enc e then IntKind.wrap .u8 (ishr .u64 e.v (IntKind.wrap .u64 (8 * IntKind.wrap .u64 (2147483651 - e.k)))) else want) := by
   rw [g1]
   cases hr : zbM e.k e.n with
   | false =>
    have hh : hitB b.enc e = false := by
     unfold hitB
     rw [w2, hr]
     by_cases hge : 2147483640 ≤ e.k
     ·rw [zvz hge]; simp
     ·have : ige e.k 2147483640 = false := decide_eq_false (by omega)
      rw [this]; simp
    rw [hh]
    exact hI.ram
   | true =>
    obtain ⟨hs, h1, h2⟩ := zmt hr
    rw [cond_true, zwA _ _ _ _ _ hr]
    have hw : IntKind.wrap .u64 e.n = e.n := zaC (by omega) (by omega)
    by_cases hA : e.k ≤ 2147483651
    ·have hsub : IntKind.wrap .u64 (2147483651 - e.k) = 2147483651 - e.k := zaC (by omega) (by omega)
     have h8 : IntKind.wrap .u64 (8 * (2147483651 - e.k)) = 8 * (2147483651 - e.k) := zaC (by omega) (by omega)
     have hh : hitB b.enc e = decide (2147483651 - e.k < e.n) := by
      unfold hitB
      rw [w2, hr, hsub, hw]
      have x1 : ile e.k 2147483651 = true := decide_eq_true hA
      have x2 : ige e.k 2147483640 = true := decide_eq_true (by omega)
      rw [x1, x2]
      simp
     rw [hh, hsub, h8]
     by_cases hB : 2147483651 - e.k < e.n
     ·rw [if_pos (by omega), decide_eq_true hB]
      rfl
     ·rw [if_neg (by omega), decide_eq_false hB]
      exact hI.ram
    ·have hh : hitB b.enc e = false := by
      unfold hitB
      have x1 : ile e.k 2147483651 = false := decide_eq_false hA
      rw [x1]
      simp
     rw [if_neg (by omega), hh]
     exact hI.ram
  refine ⟨hI.n0, ?_, ?_, ?_, ?_, ?_, ?_, ?_⟩
  ·show n ≤ _
   have := hI.n1
   omega
  ·exact c1.trans hI.time
  ·exact g3.trans hI.cyc
  ·show b1.s.length ≤ i + 1
   have := hI.sent
   omega
  ·exact hm
  ·show 0 ≤ (bif hitB b.enc e then _ else want)
   cases hitB b.enc e
   ·exact hI.w0
   ·exact (znJ _).1
  ·show (bif hitB b.enc e then _ else want) < 256
   cases hitB b.enc e
   ·exact hI.w1
   ·exact (znJ _).2
 | false =>
  have h0 := hI.n0
  have h1 := hI.n1
  have hw : IntKind.wrap .u64 (n + 1) = n + 1 := zaC (by omega) (by omega)
  refine ⟨b2, n + 1, want, t2, hw, rfl, ⟨by omega, by omega, ?_, ?_, ?_, ?_, hI.w0, hI.w1⟩, w1, q1, t1⟩
  ·rw [k2, hI.time, hw]
  ·rw [k4, hI.cyc, IntKind.wrap_i64]
   omega
  ·rw [k3]
   have := hI.sent
   omega
  ·rw [k1]
   exact hI.ram
theorem zld : ∀ l : List DV, zd7 l l = true
 | [] => rfl
 | x :: l => by simp [zd7, zld l]
theorem ztb (b : BS) : p26 b.enc = true := by
 show ([ow [] (p73 b.P)].all id) = true
 have h : p73 b.P = true := by
  obtain ⟨a1, a2, a3⟩ := zs5 b.P 0 (by decide)
  obtain ⟨b1, b2, b3⟩ := zs5 b.P 1 (by decide)
  unfold p73
  extract_lets -merge x1 x2 x3 x4 x5 x6 x7 x8 x12 x13 x14 x15 x16
  have c1 : x5 = true := a1
  have c2 : x7 = true := decide_eq_true a2
  have c3 : x8 = true := decide_eq_true a3
  have c4 : x13 = true := b1
  have c5 : x15 = true := decide_eq_true b2
  have c6 : x16 = true := decide_eq_true b3
  simp only [List.all_cons, List.all_nil, id_eq, Bool.and_true, zal c1, zal c2, zal c3, zal c4, zal c5, zal c6, Bool.and_self]
 rw [h]
 rfl
theorem ztc (b : BS) (h : b.s.length ≤ 35184372088832) : p27 b.enc = true := by
 show ([ow [] (p74 b.U)].all id) = true
 have h : p74 b.U = true := by
  show ([ow [] (decide ((((([] : List DV) ++ b.s).length / 1 : Nat) : Int) ≤ 35184372088832))].all id) = true
  rw [List.nil_append, Nat.div_one, decide_eq_true (by omega)]
  rfl
 rw [h]
 rfl
theorem zwC {i : Nat} {n want : Int} {b : BS} (hI : Inv i n want b) (hi : i < 17592186044416) (l : List Ev) (hl : i < l.length) (hn : zhy l[i].n = true) (hk : 0 ≤ l[i].k ∧ l[i].k < 18446744073709551616) :
  ∃ (b' : BS) (n' want' : Int), Inv (i + 1) n' want' b' ∧ zmm [.l (encE l), .b false, .i n, .i want, .i i, .l b.enc, .l b.enc] = true ∧ zmn [.l (encE l), .b false, .i n, .i want, .i i, .l b.enc, .l b.enc] = true ∧
   zoZ [.l (encE l), .b false, .i n, .i want, .i i, .l b.enc, .l b.enc] = [.l (encE l), .b false, .i n', .i want', .i ((i + 1 : Nat) : Int), .l b'.enc, .l b'.enc] := by
 obtain ⟨bm, n', want', m1, m2, m3, hI', m4, m5, m6⟩ := zw5 hI hi l[i] hn hk
 obtain ⟨q0, q1, q2, q3⟩ := zpZ l i hl
 have hlt : decide ((i : Int) < (l.length : Int)) = true := decide_eq_true (by omega)
 have hlen := zfj l
 have hr : zbM 2147483651 1 = true := by decide
 obtain ⟨f1, f2, _, f4, _⟩ := zuq bm 1 2147483651 1 (by decide)
 obtain ⟨f5, f6⟩ := f4 hr
 have hram : 0 ≤ ramAt bm.m 2147483651 ∧ ramAt bm.m 2147483651 < 256 := by rw [hI'.ram]; exact ⟨hI'.w0, hI'.w1⟩
 have f7 : zdZ bm.enc 1 2147483651 1 = want' := by
  rw [f5]
  show znA bm.m 2147483651 1 = want'
  rw [zwB _ _ rfl hram.1 hram.2]
  exact hI'.ram
 have f8 : zd0 bm.enc 1 2147483651 1 = true := by rw [f2, hr]; rfl
 have f9 : IntKind.wrap .u64 want' = want' := by have := hI'.w0; have := hI'.w1; exact zaC (by omega) (by omega)
 have f10 : zsp bm.enc = n' := hI'.time
 have f11 : zsq bm.enc = IntKind.wrap .i64 (IntKind.wrap .i64 n' - 1) := by
  have h0 := hI'.n0
  have h1 := hI'.n1
  rw [zaU (n := n') h0 (by omega), IntKind.wrap_i64]
  show bm.cyc = _
  rw [hI'.cyc]
  omega
 refine ⟨bm, n', want', hI', ?_, ?_, ?_⟩
 ·show zj4 (encE l) false n want i b.enc b.enc = true
  unfold zj4
  extract_lets -merge x44 x45 x46 x47 x48 x49 x50 x51 x52 x53 x54 x55 x56 x57 x58 x59 x60 x61 x62 x63 x64 x65 x66 x67 x68 x69 x70 x71 x72 x73 x74 x75 x76 x77 x78 x79 x80 x81 x82 x83 x84 x85 x86 x87 x88 x89 x90 x91 x92 x93 x94 x95 x96 x97 x98 x99 x100 x101 x102 x103 x104 x105 x106 x107 x108 x109 x110 x111 x112 x113 x114 x115 x116 x117 x118 x119 x120 x121 x122 x123 x124 x125 x126 x127 x128 x129 x134
  have h49 : x49 = l[i].c := q0
  have h50 : x50 = l[i].k := q1
  have h51 : x51 = l[i].n := q2
  have h52 : x52 = l[i].v := q3
  have h62 : x62 = devB l[i] := by show (ilt x49 3 && (((ishr .u64 x50 24 == 128) || (ishr .u64 x50 24 == 16)) || (ishr .u64 x50 24 == 12))) = _; rw [h49, h50]; rfl
  have h65 : x65 = zcN b.enc l[i].k l[i].n l[i].v := by show zcN b.enc x50 x51 x52 = _; rw [h50, h51, h52]
  have h105 : x105 = bm.enc := by show (bif x62 then zcM x65 1 x50 x51 else zhC b.enc) = _; rw [h62, h65, h50, h51]; exact m1
  have h106 : x106 = bm.enc := h105
  have h110 : x110 = bm.enc := by show zcM x105 1 2147483651 1 = _; rw [h105]; exact f6
  have b46 : x46 = true := decide_eq_true (Int.natCast_nonneg i)
  have b48 : x48 = true := by show decide ((i : Int) < (((encE l).length / 4 : Nat) : Int)) = true; rw [hlen]; exact hlt
  have b63 : x63 = true := by show p10 b.enc x50 x51 x52 = true; rw [h50, h51, h52]; exact m4
  have b69 : x69 = true := by show p12 x65 1 x50 x51 = true; rw [h65, h50, h51]; exact m5
  have b93 : x93 = true := decide_eq_true (zlc _).1
  have b96 : x96 = true := m6
  have b107 : x107 = true := by show p12 x105 1 2147483651 1 = true; rw [h105]; exact f1
  have b123 : x123 = true := by show p26 x110 = true; rw [h110]; exact ztb bm
  have b125 : x125 = true := by show p26 x106 = true; rw [h106]; exact ztb bm
  have hs : bm.s.length ≤ 35184372088832 := Nat.le_trans hI'.sent (by omega)
  have b129 : x129 = true := by show p27 x110 = true; rw [h110]; exact ztc bm hs
  have b134 : x134 = true := by show p27 x106 = true; rw [h106]; exact ztc bm hs
  simp only [List.all_cons, List.all_nil, id_eq, Bool.and_true, zal b46, zal b48, zal b63, show x66 = x63 from rfl, zal b69, show x73 = x69 from rfl, zal b93, zal b96, show x98 = x96 from rfl, zal b107, zal b123, zal b125, zal b129, zal b134, Bool.and_self]
 ·show zj5 (encE l) false n want i b.enc b.enc = true
  unfold zj5
  extract_lets -merge x44 x45 x49 x50 x51 x52 x53 x54 x55 x56 x57 x58 x59 x60 x61 x62 x64 x65 x67 x68 x70 x71 x72 x74 x75 x76 x77 x78 x79 x80 x81 x82 x83 x84 x85 x86 x87 x88 x89 x90 x91 x92 x94 x95 x97 x99 x100 x101 x102 x103 x104 x105 x106 x108 x109 x110 x111 x112 x113 x114 x115 x116 x117 x118 x119 x120 x121 x122 x124 x126 x127 x128 x130 x131 x132 x133 x135 x136 x137 x138 x139 x140 x141 x142 x143 x145
  have h49 : x49 = l[i].c := q0
  have h50 : x50 = l[i].k := q1
  have h51 : x51 = l[i].n := q2
  have h52 : x52 = l[i].v := q3
  have h62 : x62 = devB l[i] := by show (ilt x49 3 && (((ishr .u64 x50 24 == 128) || (ishr .u64 x50 24 == 16)) || (ishr .u64 x50 24 == 12))) = _; rw [h49, h50]; rfl
  have h65 : x65 = zcN b.enc l[i].k l[i].n l[i].v := by show zcN b.enc x50 x51 x52 = _; rw [h50, h51, h52]
  have h105 : x105 = bm.enc := by show (bif x62 then zcM x65 1 x50 x51 else zhC b.enc) = _; rw [h62, h65, h50, h51]; exact m1
  have h106 : x106 = bm.enc := h105
  have h110 : x110 = bm.enc := by show zcM x105 1 2147483651 1 = _; rw [h105]; exact f6
  have h103 : x103 = n' := by show (bif x62 then n else IntKind.wrap .u64 (n + 1)) = _; rw [h62]; exact m2
  have h104 : x104 = want' := by
   show (bif x62 then (bif ((zeW b.enc x50 x51 x52 && ile x50 2147483651) && ige x50 2147483640) && decide (IntKind.wrap .u64 (2147483651 - x50) < IntKind.wrap .u64 x51) then IntKind.wrap .u8 (ishr .u64 x52 (IntKind.wrap .u64 (8 * IntKind.wrap .u64 (2147483651 - x50)))) else want) else want) = _
   rw [h62, h50, h51, h52]
   exact m3
  have b82 : x82 = true := by
   show (!(((x64 != x67) || (x70 != x74)) || (x71 != x75))) = true
   rw [show x67 = x64 from rfl, show x74 = x70 from rfl, show x75 = x71 from rfl]
   simp
  have b101 : x101 = true := by show (bif x62 then x82 else true) = true; rw [b82]; cases x62 <;> rfl
  have b111 : x111 = false := by show (!zd0 x105 1 2147483651 1) = false; rw [h105, f8]; rfl
  have b113 : x113 = false := by show (zdZ x105 1 2147483651 1 != IntKind.wrap .u64 x104) = false; rw [h105, f7, h104, f9]; simp
  have b116 : x116 = false := by show (zsp x110 != x103) = false; rw [h110, h103, f10]; simp
  have b121 : x121 = false := by show (zsq x110 != IntKind.wrap .i64 (IntKind.wrap .i64 x103 - 1)) = false; rw [h110, h103, f11]; simp
  have b127 : x127 = false := by show (zoY x110 != zoY x106) = false; rw [h110, h106]; simp
  have b128 : x128 = false := by show ((((x111 || x113) || x116) || x121) || x127) = false; rw [b111, b113, b116, b121, b127]; rfl
  have b139 : x139 = true := by
   show zd7 (bif !x128 then zsr x110 else []) (bif !x128 then zsr x106 else []) = true
   rw [h110, h106]
   exact zld _
  have b45 : x45 = true := by show decide ((i : Int) < (((encE l).length / 4 : Nat) : Int)) = true; rw [hlen]; exact hlt
  show (x45 && (x101 && !(x128 || !x139))) = true
  rw [b45, b101, b128, b139]
  rfl
 ·show [DV.l (encE l), .b false, .i (zgW (encE l) false n want i b.enc b.enc), .i (zgX (encE l) false n want i b.enc b.enc), .i (IntKind.wrap .i64 ((i : Int) + 1)), .l (zgY (encE l) false n want i b.enc b.enc), .l (zeX (encE l) false n want i b.enc b.enc)] = _
  have hi1 : IntKind.wrap .i64 ((i : Int) + 1) = ((i + 1 : Nat) : Int) := by rw [zaU (by omega) (by omega)]; rfl
  have e1 : zgW (encE l) false n want i b.enc b.enc = n' := by
   unfold zgW
   simp only [q0, q1]
   exact m2
  have e2 : zgX (encE l) false n want i b.enc b.enc = want' := by
   unfold zgX
   simp only [q0, q1, q2, q3]
   exact m3
  have e5 : zeX (encE l) false n want i b.enc b.enc = bm.enc := by
   unfold zeX
   simp only [q0, q1, q2, q3]
   exact m1
  have e4 : zgY (encE l) false n want i b.enc b.enc = bm.enc := by
   have : zgY (encE l) false n want i b.enc b.enc = zcM (zeX (encE l) false n want i b.enc b.enc) 1 2147483651 1 := rfl
   rw [this, e5]
   exact f6
  rw [hi1, e1, e2, e4, e5]
end Go.Proofs.Ytiabiimoalkmjaa
namespace Go.Proofs.Ytiabiimoalkmjaa
open Go Go.Sx
set_option maxRecDepth 100000
theorem zle (l : List Ev) (hl : l.length ≤ 17592186044416) (hw : ∀ e ∈ l, zhy e.n = true ∧ 0 ≤ e.k ∧ e.k < 18446744073709551616) : ∀ (j i : Nat) (n want : Int) (b : BS), i + j = l.length → Inv i n want b →
  ∃ r : List DV, zb2 (encE l) false n want i b.enc b.enc = some (.i 1 :: r)
 | 0, i, n, want, b, hj, hI => by
  have hi : i = l.length := by omega
  subst hi
  have hd : decide ((l.length : Int) < (((encE l).length / 4 : Nat) : Int)) = false := by rw [zfj]; simp
  unfold zb2
  rw [za6 (show zmm [.l (encE l), .b false, .i n, .i want, .i l.length, .l b.enc, .l b.enc] = true by show zj4 (encE l) false n want l.length b.enc b.enc = true; unfold zj4; simp only [hd]; simp [ow]) (show zmn [.l (encE l), .b false, .i n, .i want, .i l.length, .l b.enc, .l b.enc] = false by show zj5 (encE l) false n want l.length b.enc b.enc = false; unfold zj5; simp only [hd, Bool.false_and])]
  have e : zgZ (encE l) false n want l.length b.enc b.enc = 1 := by unfold zgZ; simp only [hd, cond_false]
  show ∃ r : List DV, some (DV.i (zgZ (encE l) false n want l.length b.enc b.enc) :: (zo0 [.l (encE l), .b false, .i n, .i want, .i l.length, .l b.enc, .l b.enc]).tail) = some (.i 1 :: r)
  rw [e]
  exact ⟨_, rfl⟩
 | j + 1, i, n, want, b, hj, hI => by
  have hlt : i < l.length := by omega
  obtain ⟨h1, h2⟩ := hw l[i] (List.getElem_mem hlt)
  obtain ⟨b', n', want', hI', w1, w2, w3⟩ := zwC hI (by omega) l hlt h1 h2
  obtain ⟨r, ih⟩ := zle l hl hw j (i + 1) n' want' b' (by omega) hI'
  refine ⟨r, ?_⟩
  unfold zb2 at ih ⊢
  rw [zbk w1 w2, w3]
  exact ih
theorem zur : ∀ (img : List DV) (k : Int) (d : List DV) (A : Int), ramAt (zcO img k d) A = if k ≤ A ∧ A < k + img.length then (img.getD (A - k).toNat default).toI else ramAt d A
 | [], k, d, A => by
  rw [if_neg (by simp only [List.length_nil]; omega)]
  rfl
 | b :: r, k, d, A => by
  rw [zcO, zur r (k + 1) (zea d k b.toI) A, zev]
  by_cases h0 : k = A
  ·subst h0
   rw [if_neg (by omega), if_pos rfl, if_pos (by simp; omega), show (k - k).toNat = 0 from by omega]
   rfl
  ·rw [if_neg h0]
   by_cases h1 : k + 1 ≤ A ∧ A < k + 1 + r.length
   ·rw [if_pos h1, if_pos (by simp; omega), show (A - k).toNat = (A - (k + 1)).toNat + 1 from by omega, List.getD_cons_succ]
   ·rw [if_neg h1, if_neg (by simp; omega)]
theorem inv0 (img : List DV) (l : List Ev) (hb : ∀ i, i < img.length → 0 ≤ (img.getD i default).toI ∧ (img.getD i default).toI < 256) :
  Inv 0 0 (bif decide (((img.length / 1 : Nat) : Int) > 3) then (img.getD (Int.toNat 3 * 1 + 0) default).toI else 0) (bs0 img l) := by
 have hram : ramAt (bs0 img l).m 2147483651 = (bif decide (((img.length / 1 : Nat) : Int) > 3) then (img.getD (Int.toNat 3 * 1 + 0) default).toI else 0) := by
  show ramAt (zcO img 2147483648 []) 2147483651 = _
  rw [zur, Nat.div_one]
  by_cases h : (img.length : Int) > 3
  ·rw [if_pos (by omega), decide_eq_true h, cond_true]
   rfl
  ·rw [if_neg (by omega), decide_eq_false h, cond_false]
   rfl
 have hin : 0 ≤ (bif decide (((img.length / 1 : Nat) : Int) > 3) then (img.getD (Int.toNat 3 * 1 + 0) default).toI else 0) ∧ (bif decide (((img.length / 1 : Nat) : Int) > 3) then (img.getD (Int.toNat 3 * 1 + 0) default).toI else 0) < 256 := by
  rw [Nat.div_one]
  by_cases h : (img.length : Int) > 3
  ·rw [decide_eq_true h, cond_true]
   exact hb 3 (by omega)
  ·rw [decide_eq_false h, cond_false]
   decide
 exact ⟨by decide, by decide, rfl, rfl, Nat.le_refl _, hram, hin.1, hin.2⟩
theorem ztd (img : List DV) (l s : List Ev) (hb : ∀ i, i < img.length → 0 ≤ (img.getD i default).toI ∧ (img.getD i default).toI < 256) (hs : s.length ≤ 17592186044416)
  (hw : ∀ e ∈ s, zhy e.n = true ∧ 0 ≤ e.k ∧ e.k < 18446744073709551616) : p6 img (encE l) (encE s) = true ∧ r6_0 img (encE l) (encE s) = true := by
 obtain ⟨n1, n2, n3, n4⟩ := new8 img l
 unfold p6 r6_0
 simp only [zw0, zw1, n1, n2, n3]
 cases hm : zg2 l && decide (img.length ≤ 1048576) with
 | false => simp [ow]
 | true =>
  rw [n4 hm, ztV]
  have h0 := inv0 img l hb
  generalize hwant : (bif decide (((img.length / 1 : Nat) : Int) > 3) then (img.getD (Int.toNat 3 * 1 + 0) default).toI else 0) = want at *
  generalize bs0 img l = b0 at *
  obtain ⟨r, e1⟩ := zle s hs hw s.length 0 0 want b0 (by omega) h0
  have e1 : zb2 (encE s) false 0 want 0 b0.enc b0.enc = some (.i 1 :: r) := e1
  have hl : (([.b true, .l b0.enc] : List DV).getD (Int.toNat 0 * (1 : Nat) + (1 : Nat)) default).toL = b0.enc := rfl
  have ht : (([.b true, .l b0.enc] : List DV).getD (Int.toNat 0 * (1 : Nat) + (0 : Nat)) default).toB = true := rfl
  have k0 : (dget (zj6 [.l (encE s), .b false, .i 0, .i want, .i 0, .l b0.enc, .l b0.enc]) 0).toB = true := by
   show (zb2 (encE s) false 0 want 0 b0.enc b0.enc).isSome = true
   rw [e1]
   rfl
  have k1 : (dget (zj6 [.l (encE s), .b false, .i 0, .i want, .i 0, .l b0.enc, .l b0.enc]) 1).toI = 1 := by
   show (dget ((zb2 (encE s) false 0 want 0 b0.enc b0.enc).getD []) 0).toI = 1
   rw [e1]
   rfl
  simp only [hl, ht, if_true, hwant, k0, k1]
  constructor
  ·by_cases h3 : ((img.length / 1 : Nat) : Int) > 3
   ·have h3' : (3 : Int) < ((img.length / 1 : Nat) : Int) := h3
    simp [ow, h3, h3']
   ·simp [ow, h3]
  ·simp
end Go.Proofs.Ytiabiimoalkmjaa
namespace Go.Sx
open Go Go.ChangeShapes Go.WideShapes Go.RowKit
inductive Sh where
 | one (t : LT)
 | agg (l : List LT)
 deriving Inhabited
def Sh.lts : Sh → List LT
 | .one t => [t]
 | .agg l => l
def nIn (ss : List Sh) : Nat := (ss.map fun s => s.lts.length).sum
def LT.conc (t : LT) (d : DV) : Value :=
 match t with
 | .int k => .int k d.toI
 | .bool => .bool d.toB
 | .vec _ => .bool false
def zc8 (g : Nat → DV) : Nat → List LT → List Value
 | _, [] => []
 | j, t :: ts => t.conc (g j) :: zc8 g (j + 1) ts
def zdf (g : Nat → DV) : Nat → List Sh → List Value
 | _, [] => []
 | j, .one t :: ss => t.conc (g j) :: zdf g (j + 1) ss
 | j, .agg ts :: ss => .agg (zc8 g j ts).toArray :: zdf g (j + ts.length) ss
def LT.pat (j : Nat) : LT → Lf
 | .int k => .i k (.h j)
 | .bool => .b (.h j)
 | .vec _ => .b (.t false)
def zcP : Nat → List LT → List Lf
 | _, [] => []
 | j, t :: ts => t.pat j :: zcP (j + 1) ts
def patShapes : Nat → List Sh → List V
 | _, [] => []
 | j, .one t :: ss => .s (.one (t.pat j)) :: patShapes (j + 1) ss
 | j, .agg ts :: ss => .s (.agg (zcP j ts)) :: patShapes (j + ts.length) ss
theorem ze0 : ∀ (k n j : Nat), j < k → (zak n k).getD j default = .r (n + j)
 | 0, _, _, h => by omega
 | k + 1, n, 0, _ => rfl
 | k + 1, n, j + 1, h => by
  have := ze0 k (n + 1) j (by omega)
  simp only [zak, List.getD_cons_succ, this]
  congr 1
  omega
theorem zp2 {n : Nat} (g : Nat → DV) (ρ : Nat → Loc) {t : LT} {j : Nat} (h : j < n) : ((t.pat j).inst (zak 0 n)).conc g ρ = t.conc (g j) ∧ ((t.pat j).inst (zak 0 n)).good g := by
 have e : (A.h j).inst (zak 0 n) = .r j := by
  have := ze0 n 0 j h
  simpa [A.inst] using this
 cases t with
 | int k => exact ⟨by simp only [LT.pat, Lf.inst, e]; rfl, trivial⟩
 | bool => exact ⟨by simp only [LT.pat, Lf.inst, e]; rfl, trivial⟩
 | vec ts => exact ⟨rfl, trivial⟩
theorem zfD {n : Nat} (g : Nat → DV) (ρ : Nat → Loc) : ∀ (ts : List LT) (j : Nat), j + ts.length ≤ n → ((zcP j ts).map (Lf.inst (zak 0 n))).map (Lf.conc g ρ) = zc8 g j ts ∧ ∀ x ∈ (zcP j ts).map (Lf.inst (zak 0 n)), Lf.good g x
 | [], j, _ => ⟨rfl, fun x hx => by cases hx⟩
 | t :: ts, j, h => by
  simp only [List.length_cons] at h
  obtain ⟨h1, h2⟩ := zfD (n := n) g ρ ts (j + 1) (by omega)
  obtain ⟨h3, h4⟩ := zp2 g ρ (t := t) (show j < n by omega)
  refine ⟨by simp only [zcP, List.map_cons, zc8, h1, h3], fun x hx => ?_⟩
  simp only [zcP, List.map_cons] at hx
  rcases List.mem_cons.1 hx with rfl | hx
  ·exact h4
  ·exact h2 x hx
def zfE (P : Program) (rec : TypeId → Option (List LT)) : Nat → List Field → Option (List LT)
 | _, [] => some []
 | o, f :: fs =>
  if Nat.beq f.offset o then
   match rec f.type with
   | none => none
   | some l =>
    if Nat.beq l.length (P.cellsOf f.type) then
     match zfE P rec (o + l.length) fs with
     | none => none
     | some r => some (l ++ r)
    else none
  else none
def ze1 (P : Program) : Nat → TypeId → Option (List LT)
 | 0, _ => none
 | d + 1, t =>
  match P.underlying t with
  | some .bool => some [.bool]
  | some (.int k) => some [.int k]
  | some (.array n e) =>
   match ze1 P d e with
   | none => none
   | some l => if Nat.beq l.length (P.cellsOf e) && Nat.beq (P.cellsOf t) (n * l.length) then some (List.replicate n l).flatten else none
  | some (.struct fs) =>
   match zfE P (ze1 P d) 0 fs.toList with
   | none => none
   | some l => if Nat.beq l.length (P.cellsOf t) then some l else none
  | _ => none
def zo8 (P : Program) (t : TypeId) : Option Sh :=
 match P.underlying t with
 | some .bool => some (.one .bool)
 | some (.int k) => some (.one (.int k))
 | some (.array _ _) => (ze1 P 20 t).map .agg
 | some (.struct _) => (ze1 P 20 t).map .agg
 | _ => none
def zkd : LT → Value → Prop
 | .int k, .int k' n => k' = k ∧ (Lit.int k n).wf = true
 | .bool, .bool _ => True
 | _, _ => False
def zb4 : List LT → List Value → Prop
 | [], [] => True
 | t :: ts, v :: vs => zkd t v ∧ zb4 ts vs
 | _, _ => False
theorem zb4.len : ∀ {ts : List LT} {vs : List Value}, zb4 ts vs → vs.length = ts.length
 | [], [], _ => rfl
 | _ :: _, _ :: _, h => by simp [zb4.len h.2]
 | [], _ :: _, h => h.elim
 | _ :: _, [], h => h.elim
theorem zb4.append : ∀ {a b : List LT} {c d : List Value}, zb4 a c → zb4 b d → zb4 (a ++ b) (c ++ d)
 | [], _, [], _, _, h => h
 | _ :: _, _, _ :: _, _, h, h' => ⟨h.1, zb4.append h.2 h'⟩
 | [], _, _ :: _, _, h, _ => h.elim
 | _ :: _, _, [], _, h, _ => h.elim
theorem zhD {α β γ : Type} {f g : α → Option (β × List γ)} : ∀ {l : List α} {xs : List (β × List γ)}, l.mapM f = some xs →
  (∀ a ∈ l, ∀ y, f a = some y → g a = some y ∧ y.2 = []) → l.mapM g = some xs ∧ xs.flatMap (·.2) = [] ∧ ∀ a ∈ l, ∃ y, f a = some y
 | [], xs, h, _ => by
  simp at h
  subst h
  exact ⟨by simp, rfl, fun a ha => by cases ha⟩
 | a :: l, xs, h, hc => by
  simp only [List.mapM_cons, Option.bind_eq_bind, Option.bind_eq_some_iff, Option.pure_def, Option.some.injEq] at h
  obtain ⟨y, hy, ys, hys, rfl⟩ := h
  obtain ⟨h1, h2⟩ := hc a (by simp) y hy
  obtain ⟨h3, h4, h5⟩ := zhD hys (fun b hb => hc b (List.mem_cons_of_mem _ hb))
  refine ⟨by simp [List.mapM_cons, h1, h3], by simp only [List.flatMap_cons, h2, h4, List.nil_append], fun b hb => ?_⟩
  rcases List.mem_cons.1 hb with rfl | hb
  ·exact ⟨y, hy⟩
  ·exact h5 b hb
theorem zke {l : List LT} {c : Nat} (hl : l.length = c) : ∀ {n : Nat} {cs : List Value}, cs.length = n * c → (∀ i, i < n → zb4 l ((cs.drop (i * c)).take c)) → zb4 (List.replicate n l).flatten cs
 | 0, cs, h, _ => by
  have : cs = [] := List.eq_nil_of_length_eq_zero (by simpa using h)
  subst this
  trivial
 | n + 1, cs, h, hp => by
  have h0 := hp 0 (by omega)
  simp only [Nat.zero_mul, List.drop_zero] at h0
  have h1 := zke hl (n := n) (cs := cs.drop c) (by rw [List.length_drop, h, Nat.succ_mul]; omega) (fun i hi => by
   have := hp (i + 1) (by omega)
   rw [List.drop_drop]
   rwa [show c + i * c = (i + 1) * c from by rw [Nat.succ_mul]; omega])
  have := zb4.append h0 h1
  rw [List.take_append_drop] at this
  simpa [List.replicate_succ] using this
section
variable {H : Type} {enc : TypeId × Value → H} {P : Program}
def zwD (enc : TypeId × Value → H) (P : Program) (fuel : Nat) (t : TypeId) (lts : List LT) : Prop :=
 ∀ (w : World) (base : Nat) (sp : Nat → Bool) (held : Bool) (cs : List Value) (x : DataW H) (ps : List MemPlace), DataW.trod enc P w base sp held fuel t cs = some (x, ps) →
  zb4 lts cs ∧ ps = [] ∧ ∀ (w' : World) (base' : Nat) (sp' : Nat → Bool) (held' : Bool), DataW.trod enc P w' base' sp' held' fuel t cs = some (x, [])
theorem zg3 {rec : TypeId → Option (List LT)} {cs : List Value} : ∀ {fs : List Field} {o : Nat} {l : List LT}, zfE P rec o fs = some l → cs.length = o + l.length →
  (∀ f ∈ fs, ∀ r, rec f.type = some r → zb4 r ((cs.drop f.offset).take (P.cellsOf f.type))) → zb4 l (cs.drop o)
 | [], o, l, h, hlen, _ => by
  simp [zfE] at h
  subst h
  rw [List.drop_of_length_le (by simpa using Nat.le_of_eq hlen)]
  trivial
 | f :: fs, o, l, h, hlen, hp => by
  simp only [zfE] at h
  split at h
  ·rename_i ho
   have ho := Nat.eq_of_beq_eq_true ho
   split at h
   ·cases h
   ·rename_i r hr
    split at h
    ·rename_i hc
     have hc := Nat.eq_of_beq_eq_true hc
     split at h
     ·cases h
     ·rename_i r' hr'
      cases h
      have h0 := hp f (by simp) r hr
      have h1 := zg3 hr' (by simp at hlen; omega) (fun g hg => hp g (List.mem_cons_of_mem _ hg))
      rw [ho, ← hc] at h0
      have h2 := zb4.append h0 h1
      rw [← List.drop_drop, List.take_append_drop] at h2
      exact h2
    ·cases h
  ·cases h
theorem zcr : ∀ (d : Nat) {t : TypeId} {lts : List LT}, ze1 P d t = some lts → ∀ fuel, zwD enc P fuel t lts
 | 0, _, _, h, _ => by cases h
 | d + 1, t, lts, h, fuel => by
  intro w base sp held cs x ps hx
  cases fuel with
  | zero => simp [DataW.trod] at hx
  | succ fuel =>
   simp only [ze1] at h
   split at h
   ·rename_i hu
    cases h
    obtain ⟨b, rfl, he⟩ := DataW.trod_bool hu hx
    cases he
    exact ⟨⟨trivial, trivial⟩, rfl, fun _ _ _ _ => by simp [DataW.trod, hu]⟩
   ·rename_i k hu
    cases h
    obtain ⟨n, rfl, he, hw⟩ := DataW.trod_int hu hx
    cases he
    exact ⟨⟨⟨rfl, hw⟩, trivial⟩, rfl, fun _ _ _ _ => by simp [DataW.trod, hu, hw]⟩
   ·rename_i n e hu
    split at h
    ·cases h
    ·rename_i l hl
     split at h
     ·rename_i hc
      cases h
      simp only [Bool.and_eq_true] at hc
      have hc1 := Nat.eq_of_beq_eq_true hc.1
      have hc2 := Nat.eq_of_beq_eq_true hc.2
      simp only [DataW.trod, hu] at hx
      split at hx
      ·rename_i hlen
       obtain ⟨xs, hxs, he⟩ := Option.map_eq_some_iff.1 hx
       cases he
       have ih := zcr d hl fuel
       have hall := fun w' base' sp' held' => zhD (g := fun i => DataW.trod enc P w' base' sp' held' fuel e ((cs.drop (i * P.cellsOf e)).take (P.cellsOf e))) hxs
        (fun i _ y hy => by
         have := ih _ _ _ _ _ y.1 y.2 hy
         exact ⟨by rw [this.2.2 w' base' sp' held', ← this.2.1], this.2.1⟩)
       refine ⟨zke hc1 (by rw [hlen, hc2, hc1]) (fun i hi => ?_), (hall w base sp held).2.1, fun w' base' sp' held' => ?_⟩
       ·obtain ⟨y, hy⟩ := (hall w base sp held).2.2 i (List.mem_range.2 hi)
        exact (ih _ _ _ _ _ y.1 y.2 hy).1
       ·obtain ⟨h1, h2, _⟩ := hall w' base' sp' held'
        simp only [DataW.trod, hu]
        rw [if_pos hlen, h1, Option.map_some, h2]
      ·cases hx
     ·cases h
   ·rename_i fs hu
    split at h
    ·cases h
    ·rename_i l hl
     split at h
     ·rename_i hc
      cases h
      have hc1 := Nat.eq_of_beq_eq_true hc
      simp only [DataW.trod, hu] at hx
      split at hx
      ·rename_i hlen
       obtain ⟨xs, hxs, he⟩ := Option.map_eq_some_iff.1 hx
       cases he
       -- each field's type has leaves
       have hfl : ∀ {gs : List Field} {o : Nat} {r : List LT}, zfE P (ze1 P d) o gs = some r → ∀ f ∈ gs, ∃ r', ze1 P d f.type = some r' := by
        intro gs
        induction gs with
        | nil => intro o r _ f hf; cases hf
        | cons g gs ih =>
         intro o r hr f hf
         simp only [zfE] at hr
         split at hr
         ·split at hr
          ·cases hr
          ·rename_i r1 hr1
           split at hr
           ·split at hr
            ·cases hr
            ·rename_i r2 hr2
             rcases List.mem_cons.1 hf with rfl | hf
             ·exact ⟨r1, hr1⟩
             ·exact ih hr2 f hf
           ·cases hr
         ·cases hr
       have hall := fun w' base' sp' held' => zhD (g := fun f : Field => DataW.trod enc P w' base' sp' held' fuel f.type ((cs.drop f.offset).take (P.cellsOf f.type))) hxs
        (fun f hf y hy => by
         obtain ⟨r', hr'⟩ := hfl hl f hf
         have := zcr d hr' fuel _ _ _ _ _ y.1 y.2 hy
         exact ⟨by rw [this.2.2 w' base' sp' held', ← this.2.1], this.2.1⟩)
       refine ⟨?_, (hall w base sp held).2.1, fun w' base' sp' held' => ?_⟩
       ·have := zg3 (P := P) (cs := cs) hl (by rw [hlen, hc1]; omega) (fun f hf r hr => by
         obtain ⟨y, hy⟩ := (hall w base sp held).2.2 f hf
         exact (zcr d hr fuel _ _ _ _ _ y.1 y.2 hy).1)
        simpa using this
       ·obtain ⟨h1, h2, _⟩ := hall w' base' sp' held'
        simp only [DataW.trod, hu]
        rw [if_pos hlen, h1, Option.map_some, h2]
      ·cases hx
     ·cases h
   ·cases h
def RangeOk : List LT → List DV → Prop
 | [], [] => True
 | .int k :: ts, .i n :: ds => (Lit.int k n).wf = true ∧ RangeOk ts ds
 | .bool :: ts, .b _ :: ds => True ∧ RangeOk ts ds
 | _, _ => False
theorem RangeOk.len : ∀ {ts : List LT} {ds : List DV}, RangeOk ts ds → ds.length = ts.length
 | [], [], _ => rfl
 | .int _ :: _, .i _ :: _, h => by simp [RangeOk.len h.2]
 | .bool :: _, .b _ :: _, h => by simp [RangeOk.len h.2]
 | [], _ :: _, h => h.elim
 | .int _ :: _, [], h => h.elim
 | .bool :: _, [], h => h.elim
 | .int _ :: _, .b _ :: _, h => h.elim
 | .bool :: _, .i _ :: _, h => h.elim
 | .int _ :: _, .l _ :: _, h => h.elim
 | .bool :: _, .l _ :: _, h => h.elim
 | .vec _ :: _, [], h => h.elim
 | .vec _ :: _, _ :: _, h => h.elim
theorem RangeOk.append : ∀ {a b : List LT} {c d : List DV}, RangeOk a c → RangeOk b d → RangeOk (a ++ b) (c ++ d)
 | [], _, [], _, _, h => h
 | .int _ :: _, _, .i _ :: _, _, h, h' => ⟨h.1, RangeOk.append h.2 h'⟩
 | .bool :: _, _, .b _ :: _, _, h, h' => ⟨trivial, RangeOk.append h.2 h'⟩
 | [], _, _ :: _, _, h, _ => h.elim
 | .int _ :: _, _, [], _, h, _ => h.elim
 | .bool :: _, _, [], _, h, _ => h.elim
 | .int _ :: _, _, .b _ :: _, _, h, _ => h.elim
 | .bool :: _, _, .i _ :: _, _, h, _ => h.elim
 | .int _ :: _, _, .l _ :: _, _, h, _ => h.elim
 | .bool :: _, _, .l _ :: _, _, h, _ => h.elim
 | .vec _ :: _, _, [], _, h, _ => h.elim
 | .vec _ :: _, _, _ :: _, _, h, _ => h.elim
theorem zis (pre : List DV) (d : DV) (post : List DV) : dget (pre ++ d :: post) pre.length = d := by
 simp [dget, List.getD_eq_getElem?_getD]
theorem zd3 : ∀ {ts : List LT} {vs : List Value}, zb4 ts vs → ∃ ds, RangeOk ts ds ∧ ∀ pre post : List DV, zc8 (dget (pre ++ ds ++ post)) pre.length ts = vs
 | [], [], _ => ⟨[], trivial, fun _ _ => rfl⟩
 | .int k :: ts, .int k' n :: vs, h => by
  obtain ⟨ds, h1, h2⟩ := zd3 h.2
  obtain ⟨⟨rfl, hw⟩, _⟩ := h
  refine ⟨.i n :: ds, ⟨hw, h1⟩, fun pre post => ?_⟩
  have := h2 (pre ++ [.i n]) post
  simp only [zc8, List.append_assoc, List.cons_append, List.nil_append, List.length_append, List.length_cons, List.length_nil, Nat.zero_add] at this ⊢
  rw [this, zis]
  rfl
 | .bool :: ts, .bool b :: vs, h => by
  obtain ⟨ds, h1, h2⟩ := zd3 h.2
  refine ⟨.b b :: ds, ⟨trivial, h1⟩, fun pre post => ?_⟩
  have := h2 (pre ++ [.b b]) post
  simp only [zc8, List.append_assoc, List.cons_append, List.nil_append, List.length_append, List.length_cons, List.length_nil, Nat.zero_add] at this ⊢
  rw [this, zis]
  rfl
 | [], _ :: _, h => h.elim
 | _ :: _, [], h => h.elim
 | .int _ :: _, .bool _ :: _, h => h.1.elim
 | .bool :: _, .int _ _ :: _, h => h.1.elim
 | .vec _ :: _, _ :: _, h => h.1.elim
theorem zqT {w : World} {base b0 : Nat} {sp : Nat → Bool} {held : Bool} {r : Reach} {t : TypeId} {v : Value} {d : DataW H} {ps : List MemPlace} {s : Sh} (hs : zo8 P t = some s)
  (hval : Value.okWide P w r b0 t v) (hd : DataW.Trod enc P w base sp held t v d ps) :
  ∃ ds : List DV, RangeOk s.lts ds ∧ ps = [] ∧ (∀ (pre post : List DV) (ss : List Sh), zdf (dget (pre ++ ds ++ post)) pre.length (s :: ss) = v :: zdf (dget (pre ++ ds ++ post)) (pre.length + ds.length) ss) ∧
   ∀ (w' : World) (base' : Nat) (sp' : Nat → Bool) (held' : Bool), DataW.Trod enc P w' base' sp' held' t v d [] := by
 obtain ⟨fuel, hf⟩ := hd
 unfold zo8 at hs
 split at hs
 ·rename_i hu
  cases hs
  obtain ⟨b, rfl⟩ := okWide_bool hu hval
  have hfl : ze1 P 1 t = some [.bool] := by simp [ze1, hu]
  obtain ⟨_, h2, h3⟩ := zcr (enc := enc) 1 hfl fuel _ _ _ _ _ _ _ hf
  refine ⟨[.b b], ⟨trivial, trivial⟩, h2, fun pre post ss => ?_, fun w' base' sp' held' => ⟨fuel, h3 w' base' sp' held'⟩⟩
  simp only [zdf, List.append_assoc, List.cons_append, List.nil_append, zis, List.length_cons, List.length_nil]
  rfl
 ·rename_i k hu
  cases hs
  obtain ⟨n, rfl⟩ := okWide_int hu hval
  have hfl : ze1 P 1 t = some [.int k] := by simp [ze1, hu]
  obtain ⟨h1, h2, h3⟩ := zcr (enc := enc) 1 hfl fuel _ _ _ _ _ _ _ hf
  refine ⟨[.i n], ⟨h1.1.2, trivial⟩, h2, fun pre post ss => ?_, fun w' base' sp' held' => ⟨fuel, h3 w' base' sp' held'⟩⟩
  simp only [zdf, List.append_assoc, List.cons_append, List.nil_append, zis, List.length_cons, List.length_nil]
  rfl
 ·rename_i n e hu
  obtain ⟨l, hl, rfl⟩ := Option.map_eq_some_iff.1 hs
  simp only [Value.okWide, hu] at hval
  obtain ⟨cs, rfl, _, _⟩ := hval
  obtain ⟨h1, h2, h3⟩ := zcr (enc := enc) 20 hl fuel _ _ _ _ _ _ _ hf
  obtain ⟨ds, h4, h5⟩ := zd3 h1
  refine ⟨ds, h4, h2, fun pre post ss => ?_, fun w' base' sp' held' => ⟨fuel, h3 w' base' sp' held'⟩⟩
  simp only [zdf, h5 pre post, ← h4.len]
  rfl
 ·rename_i fs hu
  obtain ⟨l, hl, rfl⟩ := Option.map_eq_some_iff.1 hs
  simp only [Value.okWide, hu] at hval
  obtain ⟨cs, rfl, _, _⟩ := hval
  obtain ⟨h1, h2, h3⟩ := zcr (enc := enc) 20 hl fuel _ _ _ _ _ _ _ hf
  obtain ⟨ds, h4, h5⟩ := zd3 h1
  refine ⟨ds, h4, h2, fun pre post ss => ?_, fun w' base' sp' held' => ⟨fuel, h3 w' base' sp' held'⟩⟩
  simp only [zdf, h5 pre post, ← h4.len]
  rfl
 ·cases hs
end
theorem zp3 {α β : Type} {f : α → Option β} : ∀ {l : List α} {xs : List β}, l.mapM f = some xs → ∀ (i : Nat) (a : α), l[i]? = some a → ∃ y, xs[i]? = some y ∧ f a = some y
 | [], xs, _, i, a, ha => by simp at ha
 | b :: l, xs, h, i, a, ha => by
  simp only [List.mapM_cons, Option.bind_eq_bind, Option.bind_eq_some_iff, Option.pure_def, Option.some.injEq] at h
  obtain ⟨y, hy, ys, hys, rfl⟩ := h
  cases i with
  | zero => simp at ha; subst ha; exact ⟨y, rfl, hy⟩
  | succ i => obtain ⟨z, h1, h2⟩ := zp3 hys i a (by simpa using ha); exact ⟨z, by simpa using h1, h2⟩
section
variable {C : Checked} {os : Os} {f : FuncId} {fn : Func} {s : ChangeSpec} {H : Type} {enc : TypeId × Value → H} {sg : Sig} {G : List DV → List DV} {I : World → Prop}
structure LawSig (sg : Sig) (ss : List Sh) : Prop where
 ins : sg.ins = patShapes 0 ss
 hin : sg.hin = []
 nin : sg.nin = nIn ss
 out : sg.out = .s (.one (.b (.h 0)))
 hout : sg.hout = []
 ots : sg.ots = [.b]
end
end Go.Sx
namespace Go.Sx
open Go Go.ChangeShapes Go.WideShapes Go.RowKit
inductive ShV where
 | pl (s : Sh)
 | row (ts : List LT)
 deriving Inhabited
def ShV.wd : ShV → Nat
 | .pl s => s.lts.length
 | .row _ => 1
def nInV : List ShV → Nat
 | [] => 0
 | s :: ss => s.wd + nInV ss
def patV : Nat → Nat → List ShV → List V
 | _, _, [] => []
 | j, b, .pl (.one t) :: ss => .s (.one (t.pat j)) :: patV (j + 1) b ss
 | j, b, .pl (.agg ts) :: ss => .s (.agg (zcP j ts)) :: patV (j + ts.length) b ss
 | j, b, .row _ :: ss => .s (.one (.vec b)) :: patV (j + 1) (b + 1) ss
def blksV : Nat → List ShV → List (Option Blk)
 | _, [] => []
 | j, .pl s :: ss => blksV (j + s.lts.length) ss
 | j, .row ts :: ss => some (.v false ts (.h j)) :: blksV (j + 1) ss
def argV (g : Nat → DV) (ρ : Nat → Loc) : Nat → Nat → List ShV → List Value
 | _, _, [] => []
 | j, b, .pl (.one t) :: ss => t.conc (g j) :: argV g ρ (j + 1) b ss
 | j, b, .pl (.agg ts) :: ss => .agg (zc8 g j ts).toArray :: argV g ρ (j + ts.length) b ss
 | j, b, .row _ :: ss => (ρ b).slice :: argV g ρ (j + 1) (b + 1) ss
theorem zg4 {n : Nat} (g : Nat → DV) (ρ : Nat → Loc) : ∀ (ss : List ShV) (j b : Nat), j + nInV ss ≤ n → ((patV j b ss).map (V.inst (zak 0 n))).map (V.conc g ρ) = argV g ρ j b ss ∧ ∀ x ∈ (patV j b ss).map (V.inst (zak 0 n)), V.good g x
 | [], j, b, _ => ⟨rfl, fun x hx => by cases hx⟩
 | .pl (.one t) :: ss, j, b, h => by
  have h : j + (1 + nInV ss) ≤ n := h
  obtain ⟨h1, h2⟩ := zg4 (n := n) g ρ ss (j + 1) b (by omega)
  obtain ⟨h3, h4⟩ := zp2 g ρ (t := t) (show j < n by omega)
  refine ⟨by simp only [patV, List.map_cons, argV, h1, V.inst, V1.inst, V.conc, V1.conc, h3], fun x hx => ?_⟩
  simp only [patV, List.map_cons] at hx
  rcases List.mem_cons.1 hx with rfl | hx
  ·exact V1.good_one.2 h4
  ·exact h2 x hx
 | .pl (.agg ts) :: ss, j, b, h => by
  have h : j + (ts.length + nInV ss) ≤ n := h
  obtain ⟨h1, h2⟩ := zg4 (n := n) g ρ ss (j + ts.length) b (by omega)
  obtain ⟨h3, h4⟩ := zfD (n := n) g ρ ts j (show j + ts.length ≤ n by omega)
  refine ⟨by simp only [patV, List.map_cons, argV, h1, V.inst, V1.inst, V.conc, V1.conc, h3], fun x hx => ?_⟩
  simp only [patV, List.map_cons] at hx
  rcases List.mem_cons.1 hx with rfl | hx
  ·exact V1.good_agg.2 h4
  ·exact h2 x hx
 | .row ts :: ss, j, b, h => by
  have h : j + (1 + nInV ss) ≤ n := h
  obtain ⟨h1, h2⟩ := zg4 (n := n) g ρ ss (j + 1) (b + 1) (by omega)
  refine ⟨by simp only [patV, List.map_cons, argV, h1, V.inst, V1.inst, V.conc, V1.conc, Lf.inst, Lf.conc], fun x hx => ?_⟩
  simp only [patV, List.map_cons] at hx
  rcases List.mem_cons.1 hx with rfl | hx
  ·exact V1.good_one.2 trivial
  ·exact h2 x hx
def zte : Value → DV
 | .int _ n => .i n
 | .bool b => .b b
 | _ => .i 0
structure RowIn (ts : List LT) (xs : List DV) : Prop where
 pos : 0 < ts.length
 len : ∃ n, n ≤ maxLen ∧ xs.length = n * ts.length
 cell : ∀ i, i < xs.length → RangeOk [ts.getD (i % ts.length) .bool] [xs.getD i default]
def zlf : List ShV → List DV → Prop
 | [], ds => ds = []
 | .pl s :: ss, ds => RangeOk s.lts (ds.take s.lts.length) ∧ zlf ss (ds.drop s.lts.length)
 | .row ts :: ss, ds => (∃ xs, ds.head? = some (.l xs) ∧ RowIn ts xs) ∧ zlf ss ds.tail
def zd4 (E : Env) (W : World) : List ShV → List DV → List Loc → Prop
 | [], _, _ => True
 | .pl s :: ss, ds, ls => zd4 E W ss (ds.drop s.lts.length) ls
 | .row ts :: ss, ds, ls => VRel E W (ls.headD default) false ts (ds.headD default).toL ∧ zd4 E W ss ds.tail ls.tail
def ztf (P : Program) (t : TypeId) : Option ShV :=
 match P.underlying t with
 | some (.slice e) =>
  match ze1 P 20 e with
  | some l => if Nat.beq l.length (P.cellsOf e) && Nat.blt 0 l.length then some (.row l) else none
  | none => none
 | _ => (zo8 P t).map .pl
def zdg (P : Program) : List TypeId → Option (List ShV)
 | [] => some []
 | t :: ts =>
  match ztf P t, zdg P ts with
  | some s, some r => some (s :: r)
  | _, _ => none
theorem znK : ∀ {ts : List LT} {vs : List Value}, zb4 ts vs → ∀ i, i < ts.length → ∃ v, vs[i]? = some v ∧ zkd (ts.getD i .bool) v
 | t :: ts, v :: vs, h, 0, _ => ⟨v, rfl, h.1⟩
 | t :: ts, v :: vs, h, i + 1, hi => by
  obtain ⟨u, h1, h2⟩ := znK h.2 i (by simpa using hi)
  exact ⟨u, by simpa using h1, by simpa using h2⟩
 | [], _, _, i, hi => by simp at hi
 | _ :: _, [], h, _, _ => h.elim
theorem zkf {E : Env} {t : LT} {v : Value} (h : zkd t v) : CRel E t (zte v) v ∧ RangeOk [t] [zte v] := by
 cases t with
 | int k =>
  cases v <;> simp only [zkd] at h
  obtain ⟨rfl, hw⟩ := h
  exact ⟨.int _ (.i _), ⟨hw, trivial⟩⟩
 | bool =>
  cases v <;> simp only [zkd] at h
  exact ⟨.bool (.b _), trivial, trivial⟩
 | vec ts => cases v <;> simp only [zkd] at h
theorem ztW {w : World} {base : Nat} {a : Addr} {n : Nat} {cs : List Value} (h : w.cells? base a n = some cs) : ∀ i, i < n → ∀ v, cs[i]? = some v → w.cell? (a.add i) = some v := by
 unfold World.cells? at h
 split at h
 ·intro i hi v hv
  obtain ⟨y, h1, h2⟩ := zp3 h i i (List.getElem?_range hi)
  rw [h1] at hv
  cases hv
  exact h2
 ·cases h
section
variable {H : Type} {enc : TypeId × Value → H} {P : Program}
def lenW : DataW H → Nat
 | .slice elems _ => elems.length
 | _ => 0
def zo9 : List ShV → List DV → List (DataW H) → Prop
 | [], _, _ => True
 | .pl s :: ss, xs, _ :: ds => zo9 ss (xs.drop s.lts.length) ds
 | .row ts :: ss, xs, d :: ds => (xs.headD default).toL.length = lenW d * ts.length ∧ zo9 ss xs.tail ds
 | _ :: _, _, [] => False
theorem ztg {w : World} {base b0 : Nat} {sp : Nat → Bool} {held : Bool} {r : Reach} {t e : TypeId} {v : Value} {d : DataW H} {ps : List MemPlace} {ts : List LT} (hu : P.underlying t = some (.slice e)) (hf : ze1 P 20 e = some ts) (hc : ts.length = P.cellsOf e) (hpos : 0 < ts.length)
  (hval : Value.okWide P w r b0 t v) (hd : DataW.Trod enc P w base sp held t v d ps) (E : Env) : ∃ (xs : List DV) (l : Loc), RowIn ts xs ∧ v = l.slice ∧ VRel E w l false ts xs ∧ xs.length = lenW d * ts.length := by
 obtain ⟨fuel, hd⟩ := hd
 obtain ⟨a, len, cap, rfl⟩ := okWide_slice hu hval
 have hcell : (Value.slice a len cap).cells.toList = [Value.slice a len cap] := rfl
 rw [hcell] at hd
 rcases DataW.trod_slice hu hd with ⟨h1, hx⟩ | ⟨a, len', cap', elems, rest, n, _, h1, hx, _, hlc, hcm, hel, helem, _, _⟩
 ·simp only [List.cons.injEq, Value.slice.injEq, and_true] at h1
  obtain ⟨rfl, rfl, rfl⟩ := h1
  refine ⟨[], ⟨0, 0, true, 0, 0, none⟩, ⟨hpos, ⟨0, Nat.zero_le _, by simp⟩, fun i hi => by simp at hi⟩, rfl, ?_, ?_⟩
  ·exact ⟨fun _ => ⟨rfl, rfl⟩, fun e => (by cases e), hpos, by simp, Nat.le_refl _, fun i hi => by simp at hi, fun e => (by cases e), fun e => (by cases e)⟩
  ·rw [(Prod.mk.inj hx).1]
   simp [lenW]
 ·simp only [List.cons.injEq, Value.slice.injEq, and_true] at h1
  obtain ⟨rfl, rfl, rfl⟩ := h1
  have hspot : a.spot = none ∧ w.shape? a.block ≠ none := by
   simp only [Value.okWide, hu, Cell.okWide, Cell.ok] at hval
   obtain ⟨_, _, _, h2, _, _, h3, _⟩ := hval
   exact ⟨h2, by rw [h3]; simp⟩
  have ha : a = ⟨a.block, a.off, none⟩ := by cases a; simp_all
  have hadd : ∀ i, a.add i = ⟨a.block, a.off + i, none⟩ := fun i => by rw [ha]; exact zbC _ _ _
  have hkey : ∀ j, j < len * ts.length → ∃ v, w.cell? ⟨a.block, a.off + j, none⟩ = some v ∧ zkd (ts.getD (j % ts.length) .bool) v := fun j hj => by
   have hq : j / ts.length < len := (Nat.div_lt_iff_lt_mul hpos).2 hj
   have hr : j % ts.length < ts.length := Nat.mod_lt _ hpos
   have he := helem (j / ts.length) hq
   rw [List.getElem?_eq_getElem (by rw [hel]; exact hq)] at he
   obtain ⟨cs, hcs, htr⟩ := Option.bind_eq_some_iff.1 he
   have hlv := (zcr (enc := enc) 20 hf n w base sp held cs _ _ htr).1
   obtain ⟨v, hv1, hv2⟩ := znK hlv (j % ts.length) hr
   refine ⟨v, ?_, hv2⟩
   have := ztW hcs (j % ts.length) (by rw [← hc]; exact hr) v hv1
   rw [hadd, zbC, ← hc] at this
   rw [← this]
   congr 2
   have := Nat.div_add_mod j ts.length
   rw [Nat.mul_comm] at this
   omega
  have hget : ∀ (i : Nat) (v : Value), i < len * ts.length → w.cell? ⟨a.block, a.off + i, none⟩ = some v → ((List.range (len * ts.length)).map fun i => zte ((w.cell? ⟨a.block, a.off + i, none⟩).getD undef)).getD i default = zte v := fun i v hi hv => by
   rw [List.getD_eq_getElem?_getD, List.getElem?_map, List.getElem?_range hi]
   simp [hv]
  refine ⟨(List.range (len * ts.length)).map fun i => zte ((w.cell? ⟨a.block, a.off + i, none⟩).getD undef), ⟨a.block, a.off, false, len, cap, none⟩, ⟨hpos, ⟨len, Nat.le_trans hlc hcm, by simp⟩, fun i hi => ?_⟩, ?_, ?_, ?_⟩
  ·simp only [List.length_map, List.length_range] at hi
   obtain ⟨v, h1, h2⟩ := hkey i hi
   rw [hget i v hi h1]
   exact (zkf (E := E) h2).2
  ·unfold Loc.slice
   rw [ha]
   rfl
  ·refine ⟨fun e => (by cases e), fun _ => ?_, hpos, by simp, hlc, fun i hi => ?_, fun e => (by cases e), fun e => (by cases e)⟩
   ·rcases Nat.lt_or_ge a.block w.heap.size with h | h
    ·exact h
    ·exfalso
     apply hspot.2
     unfold World.shape?
     rw [Array.getElem?_eq_none h]
   ·simp only [List.length_map, List.length_range] at hi
    obtain ⟨v, h1, h2⟩ := hkey i hi
    refine ⟨v, h1, ?_⟩
    rw [hget i v hi h1]
    exact (zkf h2).1
  ·rw [(Prod.mk.inj hx).1]
   simp [lenW, hel]
theorem znL {w : World} {base b0 : Nat} {sp : Nat → Bool} {held : Bool} {r : Reach} (E : Env) : ∀ {ts : List TypeId} {vs : List Value} {ds : List (DataW H)} {ps : List MemPlace} {ss : List ShV}, zdg P ts = some ss →
  (∀ (j : Nat) t v, ts[j]? = some t → vs[j]? = some v → Value.okWide P w r b0 t v) → DataW.TrodAll enc P w base sp held ts vs ds ps →
  ∃ (xs : List DV) (ls : List Loc), zlf ss xs ∧ zo9 ss xs ds ∧ xs.length = nInV ss ∧ zd4 E w ss xs ls ∧ (∀ (pre : List DV) (prel : List Loc), argV (dget (pre ++ xs)) (fun i => (prel ++ ls).getD i default) pre.length prel.length ss = vs)
 | [], [], [], ps, ss, hs, _, hd => by
  simp [zdg] at hs
  subst hs
  exact ⟨[], [], rfl, trivial, rfl, trivial, fun _ _ => rfl⟩
 | t :: ts, v :: vs, d :: ds, ps, ss, hs, hval, hd => by
  simp only [zdg] at hs
  split at hs
  ·rename_i s rr hs1 hs2
   cases hs
   obtain ⟨p, q, h1, h2, rfl⟩ := hd
   obtain ⟨ys, ls, b1, bl, b2, b3, b4⟩ := znL E hs2 (fun j t v ht hv => hval (j + 1) t v (by simpa using ht) (by simpa using hv)) h2
   unfold ztf at hs1
   split at hs1
   ·rename_i e hu
    split at hs1
    ·rename_i l hl
     split at hs1
     ·rename_i hc
      cases hs1
      simp only [Bool.and_eq_true] at hc
      have hc1 := Nat.eq_of_beq_eq_true hc.1
      have hc2 : 0 < l.length := Nat.le_of_ble_eq_true hc.2
      obtain ⟨xs, lo, c1, rfl, c3, c4⟩ := ztg hu hl hc1 hc2 (hval 0 t v rfl rfl) h1 E
      refine ⟨.l xs :: ys, lo :: ls, ⟨⟨xs, rfl, c1⟩, b1⟩, ⟨c4, bl⟩, by simp [nInV, ShV.wd, b2]; omega, ⟨c3, b3⟩, fun pre prel => ?_⟩
      have := b4 (pre ++ [.l xs]) (prel ++ [lo])
      simp only [List.append_assoc, List.cons_append, List.nil_append, List.length_append, List.length_cons, List.length_nil, Nat.zero_add] at this
      simp only [argV, this]
      congr 1
      simp [List.getD_eq_getElem?_getD]
     ·cases hs1
    ·cases hs1
   ·obtain ⟨s', hs', rfl⟩ := Option.map_eq_some_iff.1 hs1
    obtain ⟨xs, a1, _, a3, _⟩ := zqT hs' (hval 0 t v rfl rfl) h1
    refine ⟨xs ++ ys, ls, ⟨?_, ?_⟩, by show zo9 rr ((xs ++ ys).drop s'.lts.length) ds; rw [← a1.len, List.drop_left]; exact bl, by simp [nInV, ShV.wd, b2, a1.len], ?_, fun pre prel => ?_⟩
    ·rw [← a1.len, List.take_left]; exact a1
    ·rw [← a1.len, List.drop_left]; exact b1
    ·show zd4 E w rr ((xs ++ ys).drop s'.lts.length) ls
     rw [← a1.len, List.drop_left]; exact b3
    ·have e1 := a3 pre ys []
     have e2 := b4 (pre ++ xs) prel
     rw [List.append_assoc, List.length_append] at e2
     rw [List.append_assoc] at e1
     cases s' with
     | one t' =>
      have hl1 : xs.length = 1 := a1.len
      simp only [zdf, List.cons.injEq] at e1
      simp only [argV, e1.1]
      rw [hl1] at e2
      rw [e2]
     | agg l =>
      have hl1 : xs.length = l.length := a1.len
      simp only [zdf, List.cons.injEq] at e1
      simp only [argV, e1.1]
      rw [hl1] at e2
      rw [e2]
  ·cases hs
 | [], _ :: _, _, _, _, _, _, hd => by cases hd
 | [], [], _ :: _, _, _, _, _, hd => by cases hd
 | _ :: _, [], _, _, _, _, _, hd => by cases hd
 | _ :: _, _ :: _, [], _, _, _, _, hd => by cases hd
end
theorem zkg : ∀ (ss : List ShV) (j i : Nat) (b : Blk), nth (blksV j ss) i = some b → b.own = false
 | [], _, i, b, h => by cases i <;> cases h
 | .pl s :: ss, j, i, b, h => zkg ss _ i b h
 | .row ts :: ss, j, 0, b, h => by cases h; rfl
 | .row ts :: ss, j, i + 1, b, h => zkg ss _ i b h
theorem zmu {E : Env} {W : World} {n : Nat} (xs : List DV) (ls0 : List Loc) (hn : xs.length = n) : ∀ (ss : List ShV) (j b : Nat), j + nInV ss ≤ n → zd4 E W ss (xs.drop j) (ls0.drop b) →
  ∀ i bk, nth ((blksV j ss).map (Option.map (Blk.inst (zak 0 n)))) i = some bk → BlkRel E (dget xs) (fun i => ls0.getD i default) W (ls0.getD (b + i) default) bk
 | [], j, b, _, _, i, bk, h => by cases i <;> cases h
 | .pl s :: ss, j, b, hj, hr, i, bk, h => by
  have hj : j + (s.lts.length + nInV ss) ≤ n := hj
  refine zmu xs ls0 hn ss (j + s.lts.length) b (by omega) ?_ i bk h
  have hr : zd4 E W ss ((xs.drop j).drop s.lts.length) (ls0.drop b) := hr
  rwa [List.drop_drop] at hr
 | .row ts :: ss, j, b, hj, hr, 0, bk, h => by
  have hj : j + (1 + nInV ss) ≤ n := hj
  cases h
  have hid : (A.h j).inst (zak 0 n) = .r j := by
   have := ze0 n 0 j (by omega)
   simpa [A.inst] using this
  have h1 := hr.1
  show VRel E W (ls0.getD (b + 0) default) false ts (((A.h j).inst (zak 0 n)).cells (dget xs))
  rw [hid]
  have e1 : (ls0.drop b).headD default = ls0.getD (b + 0) default := by
   rw [List.headD_eq_head?_getD, List.head?_drop, List.getD_eq_getElem?_getD, Nat.add_zero]
  have e2 : (xs.drop j).headD default = dget xs j := by
   rw [List.headD_eq_head?_getD, List.head?_drop, dget, List.getD_eq_getElem?_getD]
  rw [e1, e2] at h1
  exact h1
 | .row ts :: ss, j, b, hj, hr, i + 1, bk, h => by
  have hj : j + (1 + nInV ss) ≤ n := hj
  have h2 : zd4 E W ss ((xs.drop j).tail) ((ls0.drop b).tail) := hr.2
  rw [List.tail_drop, List.tail_drop] at h2
  have := zmu xs ls0 hn ss (j + 1) (b + 1) (by omega) h2 i bk h
  rwa [show b + 1 + i = b + (i + 1) from by omega] at this
section
variable {C : Checked} {os : Os} {f : FuncId} {fn : Func} {s : ChangeSpec} {H : Type} {enc : TypeId × Value → H} {sg : Sig} {G : List DV → List DV} {I : World → Prop}
structure LawSigV (sg : Sig) (ss : List ShV) : Prop where
 ins : sg.ins = patV 0 0 ss
 hin : sg.hin = blksV 0 ss
 nin : sg.nin = nInV ss
 out : sg.out = .s (.one (.b (.h 0)))
 hout : sg.hout = []
 ots : sg.ots = [.b]
structure LaidOk (P : Program) (ts : List TypeId) : Prop where
 rows : laidOutB P = true
 maps : mapsRowed P = true
 full : ((List.range P.types.size).all fun t => match P.underlying t with | some (.slice e) => decide (0 < P.cellsOf e) | _ => true) = true
 lt : ts.all (fun t => decide (t < P.types.size)) = true
theorem zkp {gK : Nat} {ss : List ShV} (k : FnOK C.prog I gK f sg G) (hsh : zdg C.prog fn.params.toList = some ss) (hl : LawSigV sg ss) {tb : TypeId} (hrt : fn.resultTypes = #[tb])
    (htb : C.prog.underlying tb = some .bool) (hvars : s.vars = []) (hs : ∀ ds : List (DataW H), ds.length = fn.params.size → s.fn H ds = { results := [.lit (.bool true)], args := ds }) (hlo : LaidOk C.prog fn.params.toList)
    {X : List DV → Prop} (hG : ∀ xs, zlf ss xs → xs.length = nInV ss → X xs → (sg.need = true → (dget (G xs) 0).toB = true) ∧ (dget (G xs) (if sg.need then 1 else 0)).toB = true)
    {W : World} {base : Nat} {args : Array Value} {ds gs : List (DataW H)} {before : List MemPlace}
    (hval : ∀ (j : Nat) t v, fn.params[j]? = some t → args[j]? = some v → Value.okWide C.prog W .any base t v)
    (hW : DataW.Whole enc C.prog fn.params.toList s.vars false W args.toList ds gs before) (hX : ∀ xs, zo9 ss xs ds → X xs) (hI : I W) (hK : gK ≤ W.heap.size) :
    Calls C.prog f args W fun e W' => ∃ v, e = .returned v ∧ s.post enc C.prog fn false true false false W args v W' := by
  have hW0 := hW
  obtain ⟨p, q, hA, hV, rfl, hfz, _⟩ := hW
  rw [hvars] at hV
  obtain ⟨rfl, rfl⟩ := trodVars_none hV
  have hlen : ∀ {ts : List TypeId} {vs : List Value} {ds : List (DataW H)} {ps : List MemPlace}, DataW.TrodAll enc C.prog W 0 (fun _ => true) true ts vs ds ps → ds.length = ts.length := by
    intro ts
    induction ts with
    | nil => intro vs ds ps h; cases vs <;> cases ds <;> first | rfl | cases h
    | cons t ts ih =>
      intro vs ds ps h
      cases vs with
      | nil => cases h
      | cons v vs =>
        cases ds with
        | nil => cases h
        | cons d ds =>
          obtain ⟨p, q, _, h2, _⟩ := h
          simp [ih h2]
  obtain ⟨xs, ls, h1, hlx, hx, h3, h2⟩ := znL (callEnv sg.hinI (fun i => default) W) hsh (fun j t v ht hv => hval j t v (by simpa using ht) (by simpa using hv)) hA
  have hg := hG xs h1 hx (hX xs hlx)
  have hhin : sg.hinI = (blksV 0 ss).map (Option.map (Blk.inst (zak 0 sg.nin))) := by unfold Sig.hinI; rw [hl.hin]
  have hown : ∀ j b, nth sg.hinI j = some b → b.own = false := fun j b hj => by
    rw [hhin, zaD] at hj
    obtain ⟨y, hy, rfl⟩ := Option.map_eq_some_iff.1 hj
    rw [Blk.inst_own]
    exact zkg ss 0 j y hy
  have hnW : ∀ (ρ : Nat → Loc) b, ¬ (callEnv sg.hinI ρ W).W b := fun ρ b ⟨j, bk, hj, ho, _⟩ => by rw [hown j bk hj] at ho; cases ho
  obtain ⟨c1, c2⟩ := zg4 (n := sg.nin) (dget xs) (fun i => ls.getD i default) ss 0 0 (by rw [hl.nin]; omega)
  have hins : sg.insI = (patV 0 0 ss).map (V.inst (zak 0 sg.nin)) := by unfold Sig.insI; rw [hl.ins]
  have hflat : ∀ {E E' : Env} {ss : List ShV} {ds : List DV} {ls : List Loc}, zd4 E W ss ds ls → (∀ t ∈ ss, match t with | .row ts => ts.all LT.flat = true | _ => True) → zd4 E' W ss ds ls := by
    intro E E' ss
    induction ss with
    | nil => intro ds ls _ _; trivial
    | cons t ss ih =>
      intro ds ls h ht
      cases t with
      | pl s => exact ih (ds := ds.drop s.lts.length) h (fun u hu => ht u (List.mem_cons_of_mem _ hu))
      | row ts =>
        refine ⟨?_, ih h.2 (fun u hu => ht u (List.mem_cons_of_mem _ hu))⟩
        have hf : ts.all LT.flat = true := ht (.row ts) (by simp)
        have h := h.1
        exact ⟨h.nil, h.lt, h.pos, h.len, h.cap, fun i hi => let ⟨v, h1, h2⟩ := h.cell i hi; ⟨v, h1, h2.flat (ziV hf _)⟩, h.own, h.fz⟩
  have hfl : ∀ t ∈ ss, match t with | .row ts => ts.all LT.flat = true | _ => True := by
    have key : ∀ (d : Nat) (t : TypeId) (l : List LT), ze1 C.prog d t = some l → l.all LT.flat = true := by
      intro d
      induction d with
      | zero => intro t l h; cases h
      | succ d ih =>
        intro t l h
        simp only [ze1] at h
        split at h
        · cases h; rfl
        · cases h; rfl
        · split at h
          · cases h
          · rename_i l' hl'
            split at h
            · cases h
              refine List.all_eq_true.2 fun x hx => ?_
              obtain ⟨y, hy, hxy⟩ := List.mem_flatten.1 hx
              rw [(List.mem_replicate.1 hy).2] at hxy
              exact List.all_eq_true.1 (ih _ _ hl') x hxy
            · cases h
        · split at h
          · cases h
          · rename_i l' hl'
            split at h
            · cases h
              have kf : ∀ (fs : List Field) (o : Nat) (l : List LT), zfE C.prog (ze1 C.prog d) o fs = some l → l.all LT.flat = true := by
                intro fs
                induction fs with
                | nil => intro o l h; simp [zfE] at h; subst h; rfl
                | cons f fs ihf =>
                  intro o l h
                  simp only [zfE] at h
                  split at h
                  · split at h
                    · cases h
                    · rename_i r hr
                      split at h
                      · split at h
                        · cases h
                        · rename_i r' hr'
                          cases h
                          rw [List.all_append, ih _ _ hr, ihf _ _ hr']
                          rfl
                      · cases h
                  · cases h
              exact kf _ _ _ hl'
            · cases h
        · cases h
    have key2 : ∀ {ts : List TypeId} {ss : List ShV}, zdg C.prog ts = some ss → ∀ t ∈ ss, match t with | .row ts => ts.all LT.flat = true | _ => True := by
      intro ts
      induction ts with
      | nil => intro ss h t ht; simp [zdg] at h; subst h; cases ht
      | cons t ts ih =>
        intro ss h u hu
        simp only [zdg] at h
        split at h
        · rename_i s rr hs1 hs2
          cases h
          rcases List.mem_cons.1 hu with rfl | hu
          · unfold ztf at hs1
            split at hs1
            · split at hs1
              · rename_i l hl
                split at hs1
                · cases hs1; exact key _ _ _ hl
                · cases hs1
              · cases hs1
            · obtain ⟨s', _, rfl⟩ := Option.map_eq_some_iff.1 hs1
              trivial
          · exact ih hs2 u hu
        · cases h
    exact key2 hsh
  have hk := k xs (fun i => ls.getD i default) W hI (by rw [hl.nin]; exact hx) hg.1 hK (fun b hb => absurd hb (hnW _ b)) (by rw [hins]; exact c2)
    ⟨fun j bk hj => by
      have h3' := hflat (E' := callEnv sg.hinI (fun i => ls.getD i default) W) h3 hfl
      have := zmu xs ls (n := sg.nin) (by rw [hl.nin]; exact hx) ss 0 0 (by rw [hl.nin]; omega) (by simpa using h3') j bk (by rw [← hhin]; exact hj)
      rwa [Nat.zero_add] at this,
     fun j j' bk bk' hj ho => by rw [hown j bk hj] at ho; cases ho⟩
  have ha : (sg.insI.map (V.conc (dget xs) fun i => ls.getD i default)).toArray = args := by
    rw [hins, c1]
    apply Array.ext'
    simpa using h2 [] []
  rw [ha] at hk
  refine hk.mono fun e W' ⟨v, ρ', he, hc⟩ => ⟨.bool true, ?_, ?_⟩
  · rw [he, hc.val]
    have : sg.outI.conc (sg.res (G xs)) ρ' = .bool (dget (G xs) (if sg.need then 1 else 0)).toB := by
      unfold Sig.outI Sig.res
      rw [hl.out, hl.ots]
      show Value.bool (dget (G xs) (0 + _)).toB = _
      rw [Nat.zero_add]
    rw [this, hg.2]
  · have hb : Below W.heap.size W W' := (hc.fr.weaken (W' := fun _ => False) fun b hb => hnW _ b hb).below
    have hsf := hs ds (by have := hlen hA; simpa using this)
    have hkids := kids_rows hlo.rows hlo.maps
    have hT : ∀ t ∈ fn.params.toList, t < C.prog.types.size := fun t ht => by simpa using List.all_eq_true.1 hlo.lt t ht
    have hre := DataW.TrodAll.respare (spare' := fun b => decide (b < W.heap.size)) hkids (slices_full_of C.prog hlo.full) hT hA (fun x hx => by simpa using hA.lt x hx)
    have hcarry : ∀ {ts : List TypeId} {vs : List Value} {ds : List (DataW H)} {ps : List MemPlace}, DataW.TrodAll enc C.prog W 0 (fun b => decide (b < W.heap.size)) true ts vs ds ps → (∀ p ∈ ps, W.sameAt W' p) → DataW.TrodAll enc C.prog W' 0 (fun b => decide (b < W.heap.size)) true ts vs ds ps := by
      intro ts
      induction ts with
      | nil => intro vs ds ps h _; cases vs <;> cases ds <;> first | exact h | cases h
      | cons t ts ih =>
        intro vs ds ps h hsame
        cases vs with
        | nil => cases h
        | cons v vs =>
        cases ds with
        | nil => cases h
        | cons d ds =>
        obtain ⟨p, q, ⟨fu, h1⟩, h2, rfl⟩ := h
        exact ⟨p, q, ⟨fu, DataW.trod_carry fu _ _ _ h1 (fun x hx => hsame x (List.mem_append_left _ hx))⟩, ih h2 (fun x hx => hsame x (List.mem_append_right _ hx)), rfl⟩
    have hre2 := hcarry hre (fun x hx => hb.same (hA.lt x hx))
    refine ⟨ds, [], p ++ [], [], p, [], ⟨p, [], hA, by rw [hvars]; exact rfl, rfl, hfz, fun h => by cases h⟩, ?_, ?_, ?_, hb.frame _, fun h => by cases h⟩
    · rw [List.append_nil, hsf, hrt]
      exact trodAll_mk1 (shut_bool htb true)
    · rw [List.append_nil, hsf]
      exact hre2
    · rw [List.append_nil, hsf, hvars]
      rfl
theorem znM {gK : Nat} {ss : List ShV} (k : FnOK C.prog I gK f sg G) (hsh : zdg C.prog fn.params.toList = some ss) (hl : LawSigV sg ss) {tb : TypeId} (hrt : fn.resultTypes = #[tb])
  (htb : C.prog.underlying tb = some .bool) (hvars : s.vars = []) (hs : ∀ ds : List (DataW H), ds.length = fn.params.size → s.fn H ds = { results := [.lit (.bool true)], args := ds }) (hlo : LaidOk C.prog fn.params.toList)
  {X : List DV → Prop} (hG : ∀ xs, zlf ss xs → xs.length = nInV ss → X xs → (sg.need = true → (dget (G xs) 0).toB = true) ∧ (dget (G xs) (if sg.need then 1 else 0)).toB = true)
  (hX : ∀ (xs : List DV) (ds : List (DataW H)), zo9 ss xs ds → (DataW.weightsEach C.prog fn.params.toList ds).all (· ≤ reachBytes) = true → X xs) (hI : ∀ W, I W) (hK : gK = 0)
  (own : ownKnob C.prog.godebug = none) (started : os.Started) (noInit : C.prog.inits.idxOf? f = none) (hfn : C.prog.funcs[f]? = some fn)
  (witness : ∃ (w : World) (tape : Tape) (i : Input), w.os = os ∧ (w.forCall tape i).Shaped C.prog ∧ i.vars = [] ∧ Input.okWide C.prog (w.forCall tape i) .any w.heap.size f i ∧
   s.pre6 enc C.prog fn [] false (w.forCall tape i).memory i.args ∧ ({} : Assume).holds C.prog (lone (Frame.enter C.prog f i.args .normal) [] (w.forCall tape i))) :
  ReturnsInHanded {} C os f .any (s.pre6 enc C.prog fn [] false) (s.post enc C.prog fn false true false false) :=
 returnsInHanded_of_change_sized (C := C) own started noInit hfn witness
  fun W _ _ ds gs _ hval hW _ hz _ => zkp k hsh hl hrt htb hvars hs hlo hG hval hW (fun xs h => hX xs ds h (by
   obtain ⟨_, _, _, hV, _⟩ := hW
   rw [hvars] at hV
   obtain ⟨rfl, _⟩ := trodVars_none hV
   have e : s.plain.varTypes C.prog = [] := by simp [ChangeSpec.plain, DataSpec.varTypes, hvars]
   rw [e, List.append_nil, List.append_nil] at hz
   exact hz)) (hI W) (by rw [hK]; exact Nat.zero_le _)
end
end Go.Sx
