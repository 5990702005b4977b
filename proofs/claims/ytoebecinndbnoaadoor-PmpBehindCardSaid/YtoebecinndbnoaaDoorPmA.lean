/- The functions of the Pmp statements, as lists of plain steps, each tied to the program's own text by the kernel. Written by the generator. -/
import Derived.Test.YtoebecinndbnoaaDoorSxLoopG
import Derived.Test.YtoebecinndbnoaaDoorProg
import Derived.KernelRfl
namespace Go.Proofs.YtoebecinndbnoaaDoor
open Go Go.Sx
set_option maxRecDepth 100000
def c0 : List Lf := [.i .u8 (.z 0), .i .u8 (.z 1), .i .u8 (.z 56), .i .u8 (.z 2), .i .u8 (.z 57), .i .u8 (.z 49), .i .u8 (.z 28), .i .u8 (.z 3), .i .u8 (.z 61), .i .u8 (.z 58), .i .u8 (.z 42), .i .u8 (.z 50), .i .u8 (.z 38), .i .u8 (.z 29), .i .u8 (.z 17), .i .u8 (.z 4), .i .u8 (.z 62), .i .u8 (.z 47), .i .u8 (.z 59), .i .u8 (.z 36), .i .u8 (.z 45), .i .u8 (.z 43), .i .u8 (.z 51), .i .u8 (.z 22), .i .u8 (.z 53), .i .u8 (.z 39), .i .u8 (.z 33), .i .u8 (.z 30), .i .u8 (.z 24), .i .u8 (.z 18), .i .u8 (.z 12), .i .u8 (.z 5), .i .u8 (.z 63), .i .u8 (.z 55), .i .u8 (.z 48), .i .u8 (.z 27), .i .u8 (.z 60), .i .u8 (.z 41), .i .u8 (.z 37), .i .u8 (.z 16), .i .u8 (.z 46), .i .u8 (.z 35), .i .u8 (.z 44), .i .u8 (.z 21), .i .u8 (.z 52), .i .u8 (.z 32), .i .u8 (.z 23), .i .u8 (.z 11), .i .u8 (.z 54), .i .u8 (.z 26), .i .u8 (.z 40), .i .u8 (.z 15), .i .u8 (.z 34), .i .u8 (.z 20), .i .u8 (.z 31), .i .u8 (.z 10), .i .u8 (.z 25), .i .u8 (.z 14), .i .u8 (.z 19), .i .u8 (.z 9), .i .u8 (.z 13), .i .u8 (.z 8), .i .u8 (.z 7), .i .u8 (.z 6)]
/-! tandem/pmp.way -/
def s17 : Sig := ⟨[.one (.int .u8)], [.one (.int .i64)], false⟩
def o17 : Out := ⟨[(1, .shr .u8 (.r 0) (.z 3)), (2, .land .u8 (.r 1) (.z 3)), (3, .conv .i64 (.r 2))],
  [],
  [],
  [.r 3]⟩
noncomputable def r17_0 (x0 : Int) : Int :=
  let x1 := ishr .u8 x0 3
  let x2 := iland .u8 x1 3
  let x3 := IntKind.wrap .i64 x2
  x3
noncomputable def g17 (ds : List DV) : List DV := [.i (r17_0 (dget ds 0).toI)]
def S17 : Sigs := ⟨[], [], []⟩
theorem ev17 : evFn Tryd.prog S17 2000 Tryd.f17 s17 = some o17 := by kernel_rfl

/-! math/bits.TrailingZeros64 -/
def s18 : Sig := ⟨[.one (.int .u64)], [.one (.int .i64)], true⟩
def o18 : Out := ⟨[(1, .eql (.r 0) (.z 0)), (2, .not (.r 1)), (3, .sub .u64 (.z 0) (.r 0)), (4, .land .u64 (.r 0) (.r 3)), (5, .mul .u64 (.r 4) (.z 285870213051353865)), (6, .shr .u64 (.r 5) (.z 58)), (7, .geq (.r 6) (.z 0)), (8, .lss (.r 6) (.z 64)), (9, .seli [.z 0, .z 1, .z 56, .z 2, .z 57, .z 49, .z 28, .z 3, .z 61, .z 58, .z 42, .z 50, .z 38, .z 29, .z 17, .z 4, .z 62, .z 47, .z 59, .z 36, .z 45, .z 43, .z 51, .z 22, .z 53, .z 39, .z 33, .z 30, .z 24, .z 18, .z 12, .z 5, .z 63, .z 55, .z 48, .z 27, .z 60, .z 41, .z 37, .z 16, .z 46, .z 35, .z 44, .z 21, .z 52, .z 32, .z 23, .z 11, .z 54, .z 26, .z 40, .z 15, .z 34, .z 20, .z 31, .z 10, .z 25, .z 14, .z 19, .z 9, .z 13, .z 8, .z 7, .z 6] (.r 6)), (10, .conv .i64 (.r 9)), (11, .itei (.r 2) (.r 10) (.z 64))],
  [⟨[(.r 2, true)], .r 7⟩, ⟨[(.r 2, true)], .r 8⟩],
  [],
  [.r 11]⟩
noncomputable def p18 (x0 : Int) : Bool :=
  let x1 := x0 == 0
  let x2 := !x1
  let x3 := IntKind.wrap .u64 (0 - x0)
  let x4 := iland .u64 x0 x3
  let x5 := IntKind.wrap .u64 (x4 * 285870213051353865)
  let x6 := ishr .u64 x5 58
  let x7 := decide (x6 ≥ 0)
  let x8 := decide (x6 < 64)
  [ow [(x2, true)] x7, ow [(x2, true)] x8].all id
noncomputable def r18_0 (x0 : Int) : Int :=
  let x1 := x0 == 0
  let x2 := !x1
  let x3 := IntKind.wrap .u64 (0 - x0)
  let x4 := iland .u64 x0 x3
  let x5 := IntKind.wrap .u64 (x4 * 285870213051353865)
  let x6 := ishr .u64 x5 58
  let x9 := [0, 1, 56, 2, 57, 49, 28, 3, 61, 58, 42, 50, 38, 29, 17, 4, 62, 47, 59, 36, 45, 43, 51, 22, 53, 39, 33, 30, 24, 18, 12, 5, 63, 55, 48, 27, 60, 41, 37, 16, 46, 35, 44, 21, 52, 32, 23, 11, 54, 26, 40, 15, 34, 20, 31, 10, 25, 14, 19, 9, 13, 8, 7, 6].getD (Int.toNat x6) 0
  let x10 := IntKind.wrap .i64 x9
  let x11 := bif x2 then x10 else 64
  x11
noncomputable def g18 (ds : List DV) : List DV := [.b (p18 (dget ds 0).toI), .i (r18_0 (dget ds 0).toI)]
def S18 : Sigs := ⟨[], [(0, c0)], []⟩
theorem ev18 : evFn Tryd.prog S18 2000 Tryd.f18 s18 = some o18 := by kernel_rfl

/-! tandem/pmp.Range -/
def s8 : Sig := ⟨[.agg [.int .u8, .int .u8, .int .u8, .int .u8, .int .u8, .int .u8, .int .u8, .int .u8], .agg [.int .u64, .int .u64, .int .u64, .int .u64, .int .u64, .int .u64, .int .u64, .int .u64], .one (.int .i64)], [.one (.int .u64), .one (.int .u64), .one (.bool)], true⟩
def o8 : Out := ⟨[(17, .lss (.r 16) (.z 0)), (18, .geq (.r 16) (.z 8)), (19, .or (.r 17) (.r 18)), (20, .not (.r 19)), (21, .geq (.r 16) (.z 0)), (22, .lss (.r 16) (.z 8)), (23, .seli [.r 8, .r 9, .r 10, .r 11, .r 12, .r 13, .r 14, .r 15] (.r 16)), (24, .land .u64 (.r 23) (.z 18014398509481983)), (25, .geq (.r 16) (.z 0)), (26, .lss (.r 16) (.z 8)), (27, .seli [.r 0, .r 1, .r 2, .r 3, .r 4, .r 5, .r 6, .r 7] (.r 16)), (28, .call 17 [.r 27] 0), (29, .eql (.r 28) (.z 1)), (30, .gtr (.r 16) (.z 0)), (31, .sub .i64 (.r 16) (.z 1)), (32, .geq (.r 31) (.z 0)), (33, .lss (.r 31) (.z 8)), (34, .seli [.r 8, .r 9, .r 10, .r 11, .r 12, .r 13, .r 14, .r 15] (.r 31)), (35, .land .u64 (.r 34) (.z 18014398509481983)), (36, .mul .u64 (.r 35) (.z 4)), (37, .itei (.r 30) (.r 36) (.z 0)), (38, .mul .u64 (.r 24) (.z 4)), (39, .geq (.r 37) (.r 38)), (40, .not (.r 39)), (41, .mul .u64 (.r 24) (.z 4)), (42, .sub .u64 (.r 41) (.z 1)), (43, .eql (.r 28) (.z 2)), (44, .mul .u64 (.r 24) (.z 4)), (45, .mul .u64 (.r 24) (.z 4)), (46, .add .u64 (.r 45) (.z 3)), (47, .eql (.r 28) (.z 3)), (48, .lxor .u64 (.z 18446744073709551615) (.r 24)), (49, .call 18 [.r 48] 0), (50, .call 18 [.r 48] 1), (51, .add .i64 (.r 50) (.z 1)), (52, .geq (.r 51) (.z 0)), (53, .shr .u64 (.r 24) (.r 51)), (54, .add .i64 (.r 50) (.z 1)), (55, .geq (.r 54) (.z 0)), (56, .shl .u64 (.r 53) (.r 54)), (57, .mul .u64 (.r 56) (.z 4)), (58, .add .i64 (.r 50) (.z 3)), (59, .geq (.r 58) (.z 0)), (60, .shl .u64 (.z 1) (.r 58)), (61, .add .u64 (.r 57) (.r 60)), (62, .sub .u64 (.r 61) (.z 1)), (63, .not (.r 47)), (64, .iteb (.r 43) (.t false) (.r 63)), (65, .iteb (.r 29) (.t false) (.r 64)), (66, .itei (.r 40) (.r 37) (.z 0)), (67, .itei (.r 40) (.r 42) (.z 0)), (68, .itei (.r 43) (.r 44) (.r 57)), (69, .itei (.r 43) (.r 46) (.r 62)), (70, .itei (.r 29) (.r 66) (.r 68)), (71, .itei (.r 29) (.r 67) (.r 69)), (72, .iteb (.r 29) (.r 40) (.t true)), (73, .itei (.r 65) (.z 0) (.r 70)), (74, .itei (.r 65) (.z 0) (.r 71)), (75, .iteb (.r 65) (.t false) (.r 72)), (76, .itei (.r 20) (.r 73) (.z 0)), (77, .itei (.r 20) (.r 74) (.z 0)), (78, .and (.r 20) (.r 75))],
  [⟨[(.r 20, true)], .r 21⟩, ⟨[(.r 20, true)], .r 22⟩, ⟨[(.r 20, true)], .r 25⟩, ⟨[(.r 20, true)], .r 26⟩, ⟨[(.r 20, true), (.r 29, true), (.r 30, true)], .r 32⟩, ⟨[(.r 20, true), (.r 29, true), (.r 30, true)], .r 33⟩, ⟨[(.r 20, true), (.r 29, false), (.r 43, false), (.r 47, true)], .r 49⟩, ⟨[(.r 20, true), (.r 29, false), (.r 43, false), (.r 47, true)], .r 52⟩, ⟨[(.r 20, true), (.r 29, false), (.r 43, false), (.r 47, true)], .r 55⟩, ⟨[(.r 20, true), (.r 29, false), (.r 43, false), (.r 47, true)], .r 59⟩],
  [],
  [.r 76, .r 77, .r 78]⟩
noncomputable def p8 (x0 : Int) (x1 : Int) (x2 : Int) (x3 : Int) (x4 : Int) (x5 : Int) (x6 : Int) (x7 : Int) (x8 : Int) (x9 : Int) (x10 : Int) (x11 : Int) (x12 : Int) (x13 : Int) (x14 : Int) (x15 : Int) (x16 : Int) : Bool :=
  let x17 := decide (x16 < 0)
  let x18 := decide (x16 ≥ 8)
  let x19 := x17 || x18
  let x20 := !x19
  let x21 := decide (x16 ≥ 0)
  let x22 := decide (x16 < 8)
  let x23 := [x8, x9, x10, x11, x12, x13, x14, x15].getD (Int.toNat x16) 0
  let x24 := iland .u64 x23 18014398509481983
  let x25 := decide (x16 ≥ 0)
  let x26 := decide (x16 < 8)
  let x27 := [x0, x1, x2, x3, x4, x5, x6, x7].getD (Int.toNat x16) 0
  let x28 := r17_0 x27
  let x29 := x28 == 1
  let x30 := decide (x16 > 0)
  let x31 := IntKind.wrap .i64 (x16 - 1)
  let x32 := decide (x31 ≥ 0)
  let x33 := decide (x31 < 8)
  let x43 := x28 == 2
  let x47 := x28 == 3
  let x48 := ilxor .u64 18446744073709551615 x24
  let x49 := p18 x48
  let x50 := r18_0 x48
  let x51 := IntKind.wrap .i64 (x50 + 1)
  let x52 := decide (x51 ≥ 0)
  let x54 := IntKind.wrap .i64 (x50 + 1)
  let x55 := decide (x54 ≥ 0)
  let x58 := IntKind.wrap .i64 (x50 + 3)
  let x59 := decide (x58 ≥ 0)
  [ow [(x20, true)] x21, ow [(x20, true)] x22, ow [(x20, true)] x25, ow [(x20, true)] x26, ow [(x20, true), (x29, true), (x30, true)] x32, ow [(x20, true), (x29, true), (x30, true)] x33, ow [(x20, true), (x29, false), (x43, false), (x47, true)] x49, ow [(x20, true), (x29, false), (x43, false), (x47, true)] x52, ow [(x20, true), (x29, false), (x43, false), (x47, true)] x55, ow [(x20, true), (x29, false), (x43, false), (x47, true)] x59].all id
noncomputable def r8_0 (x0 : Int) (x1 : Int) (x2 : Int) (x3 : Int) (x4 : Int) (x5 : Int) (x6 : Int) (x7 : Int) (x8 : Int) (x9 : Int) (x10 : Int) (x11 : Int) (x12 : Int) (x13 : Int) (x14 : Int) (x15 : Int) (x16 : Int) : Int :=
  let x17 := decide (x16 < 0)
  let x18 := decide (x16 ≥ 8)
  let x19 := x17 || x18
  let x20 := !x19
  let x23 := [x8, x9, x10, x11, x12, x13, x14, x15].getD (Int.toNat x16) 0
  let x24 := iland .u64 x23 18014398509481983
  let x27 := [x0, x1, x2, x3, x4, x5, x6, x7].getD (Int.toNat x16) 0
  let x28 := r17_0 x27
  let x29 := x28 == 1
  let x30 := decide (x16 > 0)
  let x31 := IntKind.wrap .i64 (x16 - 1)
  let x34 := [x8, x9, x10, x11, x12, x13, x14, x15].getD (Int.toNat x31) 0
  let x35 := iland .u64 x34 18014398509481983
  let x36 := IntKind.wrap .u64 (x35 * 4)
  let x37 := bif x30 then x36 else 0
  let x38 := IntKind.wrap .u64 (x24 * 4)
  let x39 := decide (x37 ≥ x38)
  let x40 := !x39
  let x43 := x28 == 2
  let x44 := IntKind.wrap .u64 (x24 * 4)
  let x47 := x28 == 3
  let x48 := ilxor .u64 18446744073709551615 x24
  let x50 := r18_0 x48
  let x51 := IntKind.wrap .i64 (x50 + 1)
  let x53 := ishr .u64 x24 x51
  let x54 := IntKind.wrap .i64 (x50 + 1)
  let x56 := ishl .u64 x53 x54
  let x57 := IntKind.wrap .u64 (x56 * 4)
  let x63 := !x47
  let x64 := bif x43 then false else x63
  let x65 := bif x29 then false else x64
  let x66 := bif x40 then x37 else 0
  let x68 := bif x43 then x44 else x57
  let x70 := bif x29 then x66 else x68
  let x73 := bif x65 then 0 else x70
  let x76 := bif x20 then x73 else 0
  x76
noncomputable def r8_1 (x0 : Int) (x1 : Int) (x2 : Int) (x3 : Int) (x4 : Int) (x5 : Int) (x6 : Int) (x7 : Int) (x8 : Int) (x9 : Int) (x10 : Int) (x11 : Int) (x12 : Int) (x13 : Int) (x14 : Int) (x15 : Int) (x16 : Int) : Int :=
  let x17 := decide (x16 < 0)
  let x18 := decide (x16 ≥ 8)
  let x19 := x17 || x18
  let x20 := !x19
  let x23 := [x8, x9, x10, x11, x12, x13, x14, x15].getD (Int.toNat x16) 0
  let x24 := iland .u64 x23 18014398509481983
  let x27 := [x0, x1, x2, x3, x4, x5, x6, x7].getD (Int.toNat x16) 0
  let x28 := r17_0 x27
  let x29 := x28 == 1
  let x30 := decide (x16 > 0)
  let x31 := IntKind.wrap .i64 (x16 - 1)
  let x34 := [x8, x9, x10, x11, x12, x13, x14, x15].getD (Int.toNat x31) 0
  let x35 := iland .u64 x34 18014398509481983
  let x36 := IntKind.wrap .u64 (x35 * 4)
  let x37 := bif x30 then x36 else 0
  let x38 := IntKind.wrap .u64 (x24 * 4)
  let x39 := decide (x37 ≥ x38)
  let x40 := !x39
  let x41 := IntKind.wrap .u64 (x24 * 4)
  let x42 := IntKind.wrap .u64 (x41 - 1)
  let x43 := x28 == 2
  let x45 := IntKind.wrap .u64 (x24 * 4)
  let x46 := IntKind.wrap .u64 (x45 + 3)
  let x47 := x28 == 3
  let x48 := ilxor .u64 18446744073709551615 x24
  let x50 := r18_0 x48
  let x51 := IntKind.wrap .i64 (x50 + 1)
  let x53 := ishr .u64 x24 x51
  let x54 := IntKind.wrap .i64 (x50 + 1)
  let x56 := ishl .u64 x53 x54
  let x57 := IntKind.wrap .u64 (x56 * 4)
  let x58 := IntKind.wrap .i64 (x50 + 3)
  let x60 := ishl .u64 1 x58
  let x61 := IntKind.wrap .u64 (x57 + x60)
  let x62 := IntKind.wrap .u64 (x61 - 1)
  let x63 := !x47
  let x64 := bif x43 then false else x63
  let x65 := bif x29 then false else x64
  let x67 := bif x40 then x42 else 0
  let x69 := bif x43 then x46 else x62
  let x71 := bif x29 then x67 else x69
  let x74 := bif x65 then 0 else x71
  let x77 := bif x20 then x74 else 0
  x77
noncomputable def r8_2 (x0 : Int) (x1 : Int) (x2 : Int) (x3 : Int) (x4 : Int) (x5 : Int) (x6 : Int) (x7 : Int) (x8 : Int) (x9 : Int) (x10 : Int) (x11 : Int) (x12 : Int) (x13 : Int) (x14 : Int) (x15 : Int) (x16 : Int) : Bool :=
  let x17 := decide (x16 < 0)
  let x18 := decide (x16 ≥ 8)
  let x19 := x17 || x18
  let x20 := !x19
  let x23 := [x8, x9, x10, x11, x12, x13, x14, x15].getD (Int.toNat x16) 0
  let x24 := iland .u64 x23 18014398509481983
  let x27 := [x0, x1, x2, x3, x4, x5, x6, x7].getD (Int.toNat x16) 0
  let x28 := r17_0 x27
  let x29 := x28 == 1
  let x30 := decide (x16 > 0)
  let x31 := IntKind.wrap .i64 (x16 - 1)
  let x34 := [x8, x9, x10, x11, x12, x13, x14, x15].getD (Int.toNat x31) 0
  let x35 := iland .u64 x34 18014398509481983
  let x36 := IntKind.wrap .u64 (x35 * 4)
  let x37 := bif x30 then x36 else 0
  let x38 := IntKind.wrap .u64 (x24 * 4)
  let x39 := decide (x37 ≥ x38)
  let x40 := !x39
  let x43 := x28 == 2
  let x47 := x28 == 3
  let x63 := !x47
  let x64 := bif x43 then false else x63
  let x65 := bif x29 then false else x64
  let x72 := bif x29 then x40 else true
  let x75 := bif x65 then false else x72
  let x78 := x20 && x75
  x78
noncomputable def g8 (ds : List DV) : List DV := [.b (p8 (dget ds 0).toI (dget ds 1).toI (dget ds 2).toI (dget ds 3).toI (dget ds 4).toI (dget ds 5).toI (dget ds 6).toI (dget ds 7).toI (dget ds 8).toI (dget ds 9).toI (dget ds 10).toI (dget ds 11).toI (dget ds 12).toI (dget ds 13).toI (dget ds 14).toI (dget ds 15).toI (dget ds 16).toI), .i (r8_0 (dget ds 0).toI (dget ds 1).toI (dget ds 2).toI (dget ds 3).toI (dget ds 4).toI (dget ds 5).toI (dget ds 6).toI (dget ds 7).toI (dget ds 8).toI (dget ds 9).toI (dget ds 10).toI (dget ds 11).toI (dget ds 12).toI (dget ds 13).toI (dget ds 14).toI (dget ds 15).toI (dget ds 16).toI), .i (r8_1 (dget ds 0).toI (dget ds 1).toI (dget ds 2).toI (dget ds 3).toI (dget ds 4).toI (dget ds 5).toI (dget ds 6).toI (dget ds 7).toI (dget ds 8).toI (dget ds 9).toI (dget ds 10).toI (dget ds 11).toI (dget ds 12).toI (dget ds 13).toI (dget ds 14).toI (dget ds 15).toI (dget ds 16).toI), .b (r8_2 (dget ds 0).toI (dget ds 1).toI (dget ds 2).toI (dget ds 3).toI (dget ds 4).toI (dget ds 5).toI (dget ds 6).toI (dget ds 7).toI (dget ds 8).toI (dget ds 9).toI (dget ds 10).toI (dget ds 11).toI (dget ds 12).toI (dget ds 13).toI (dget ds 14).toI (dget ds 15).toI (dget ds 16).toI)]
def S8 : Sigs := ⟨[(17, s17), (18, s18)], [], []⟩
theorem ev8 : evFn Tryd.prog S8 2000 Tryd.f8 s8 = some o8 := by kernel_rfl

/-! tandem/pmp.needs -/
def s21 : Sig := ⟨[.one (.int .i64)], [.one (.int .u8)], false⟩
def o21 : Out := ⟨[(1, .eql (.r 0) (.z 0)), (2, .eql (.r 0) (.z 1)), (3, .eql (.r 0) (.z 2)), (4, .eql (.r 0) (.z 3)), (5, .not (.r 4)), (6, .iteb (.r 3) (.t false) (.r 5)), (7, .iteb (.r 2) (.t false) (.r 6)), (8, .iteb (.r 1) (.t false) (.r 7)), (9, .itei (.r 3) (.z 2) (.z 3)), (10, .itei (.r 2) (.z 1) (.r 9)), (11, .itei (.r 1) (.z 4) (.r 10)), (12, .itei (.r 8) (.z 0) (.r 11))],
  [],
  [],
  [.r 12]⟩
noncomputable def r21_0 (x0 : Int) : Int :=
  let x1 := x0 == 0
  let x2 := x0 == 1
  let x3 := x0 == 2
  let x4 := x0 == 3
  let x5 := !x4
  let x6 := bif x3 then false else x5
  let x7 := bif x2 then false else x6
  let x8 := bif x1 then false else x7
  let x9 := bif x3 then 2 else 3
  let x10 := bif x2 then 1 else x9
  let x11 := bif x1 then 4 else x10
  let x12 := bif x8 then 0 else x11
  x12
noncomputable def g21 (ds : List DV) : List DV := [.i (r21_0 (dget ds 0).toI)]
def S21 : Sigs := ⟨[], [], []⟩
theorem ev21 : evFn Tryd.prog S21 2000 Tryd.f21 s21 = some o21 := by kernel_rfl

/-! tandem/pmp.Check -/
def s11 : Sig := ⟨[.agg [.int .u8, .int .u8, .int .u8, .int .u8, .int .u8, .int .u8, .int .u8, .int .u8], .agg [.int .u64, .int .u64, .int .u64, .int .u64, .int .u64, .int .u64, .int .u64, .int .u64], .one (.int .i64), .one (.int .i64), .one (.int .u64), .one (.int .i64)], [.one (.bool)], true⟩
def o11 : Out := ⟨[(20, .call 21 [.r 17] 0), (21, .eql (.r 19) (.z 1)), (22, .eql (.r 19) (.z 2)), (23, .eql (.r 19) (.z 4)), (24, .eql (.r 19) (.z 8)), (25, .iteb (.r 23) (.r 23) (.r 24)), (26, .iteb (.r 22) (.r 22) (.r 25)), (27, .iteb (.r 21) (.r 21) (.r 26)), (28, .conv .u64 (.r 19)), (29, .add .u64 (.r 18) (.r 28)), (30, .sub .u64 (.r 29) (.z 1)), (31, .eql (.r 20) (.z 0)), (32, .lss (.r 30) (.r 18)), (33, .or (.r 31) (.r 32)), (34, .not (.r 33)), (35, .call 8 [.r 0, .r 1, .r 2, .r 3, .r 4, .r 5, .r 6, .r 7, .r 8, .r 9, .r 10, .r 11, .r 12, .r 13, .r 14, .r 15, .z 0] 0), (36, .call 8 [.r 0, .r 1, .r 2, .r 3, .r 4, .r 5, .r 6, .r 7, .r 8, .r 9, .r 10, .r 11, .r 12, .r 13, .r 14, .r 15, .z 0] 1), (37, .call 8 [.r 0, .r 1, .r 2, .r 3, .r 4, .r 5, .r 6, .r 7, .r 8, .r 9, .r 10, .r 11, .r 12, .r 13, .r 14, .r 15, .z 0] 2), (38, .call 8 [.r 0, .r 1, .r 2, .r 3, .r 4, .r 5, .r 6, .r 7, .r 8, .r 9, .r 10, .r 11, .r 12, .r 13, .r 14, .r 15, .z 0] 3), (39, .not (.r 38)), (40, .lss (.r 30) (.r 36)), (41, .or (.r 39) (.r 40)), (42, .gtr (.r 18) (.r 37)), (43, .or (.r 41) (.r 42)), (44, .not (.r 43)), (45, .lss (.r 18) (.r 36)), (46, .gtr (.r 30) (.r 37)), (47, .or (.r 45) (.r 46)), (48, .not (.r 47)), (49, .eql (.r 16) (.z 3)), (50, .land .u8 (.r 0) (.z 128)), (51, .eql (.r 50) (.z 0)), (52, .and (.r 49) (.r 51)), (53, .land .u8 (.r 0) (.r 20)), (54, .eql (.r 53) (.r 20)), (55, .or (.r 52) (.r 54)), (56, .not (.r 44)), (57, .call 8 [.r 0, .r 1, .r 2, .r 3, .r 4, .r 5, .r 6, .r 7, .r 8, .r 9, .r 10, .r 11, .r 12, .r 13, .r 14, .r 15, .z 1] 0), (58, .call 8 [.r 0, .r 1, .r 2, .r 3, .r 4, .r 5, .r 6, .r 7, .r 8, .r 9, .r 10, .r 11, .r 12, .r 13, .r 14, .r 15, .z 1] 1), (59, .call 8 [.r 0, .r 1, .r 2, .r 3, .r 4, .r 5, .r 6, .r 7, .r 8, .r 9, .r 10, .r 11, .r 12, .r 13, .r 14, .r 15, .z 1] 2), (60, .call 8 [.r 0, .r 1, .r 2, .r 3, .r 4, .r 5, .r 6, .r 7, .r 8, .r 9, .r 10, .r 11, .r 12, .r 13, .r 14, .r 15, .z 1] 3), (61, .not (.r 60)), (62, .lss (.r 30) (.r 58)), (63, .or (.r 61) (.r 62)), (64, .gtr (.r 18) (.r 59)), (65, .or (.r 63) (.r 64)), (66, .not (.r 65)), (67, .lss (.r 18) (.r 58)), (68, .gtr (.r 30) (.r 59)), (69, .or (.r 67) (.r 68)), (70, .not (.r 69)), (71, .eql (.r 16) (.z 3)), (72, .land .u8 (.r 1) (.z 128)), (73, .eql (.r 72) (.z 0)), (74, .and (.r 71) (.r 73)), (75, .land .u8 (.r 1) (.r 20)), (76, .eql (.r 75) (.r 20)), (77, .or (.r 74) (.r 76)), (78, .not (.r 66)), (79, .call 8 [.r 0, .r 1, .r 2, .r 3, .r 4, .r 5, .r 6, .r 7, .r 8, .r 9, .r 10, .r 11, .r 12, .r 13, .r 14, .r 15, .z 2] 0), (80, .call 8 [.r 0, .r 1, .r 2, .r 3, .r 4, .r 5, .r 6, .r 7, .r 8, .r 9, .r 10, .r 11, .r 12, .r 13, .r 14, .r 15, .z 2] 1), (81, .call 8 [.r 0, .r 1, .r 2, .r 3, .r 4, .r 5, .r 6, .r 7, .r 8, .r 9, .r 10, .r 11, .r 12, .r 13, .r 14, .r 15, .z 2] 2), (82, .call 8 [.r 0, .r 1, .r 2, .r 3, .r 4, .r 5, .r 6, .r 7, .r 8, .r 9, .r 10, .r 11, .r 12, .r 13, .r 14, .r 15, .z 2] 3), (83, .not (.r 82)), (84, .lss (.r 30) (.r 80)), (85, .or (.r 83) (.r 84)), (86, .gtr (.r 18) (.r 81)), (87, .or (.r 85) (.r 86)), (88, .not (.r 87)), (89, .lss (.r 18) (.r 80)), (90, .gtr (.r 30) (.r 81)), (91, .or (.r 89) (.r 90)), (92, .not (.r 91)), (93, .eql (.r 16) (.z 3)), (94, .land .u8 (.r 2) (.z 128)), (95, .eql (.r 94) (.z 0)), (96, .and (.r 93) (.r 95)), (97, .land .u8 (.r 2) (.r 20)), (98, .eql (.r 97) (.r 20)), (99, .or (.r 96) (.r 98)), (100, .not (.r 88)), (101, .call 8 [.r 0, .r 1, .r 2, .r 3, .r 4, .r 5, .r 6, .r 7, .r 8, .r 9, .r 10, .r 11, .r 12, .r 13, .r 14, .r 15, .z 3] 0), (102, .call 8 [.r 0, .r 1, .r 2, .r 3, .r 4, .r 5, .r 6, .r 7, .r 8, .r 9, .r 10, .r 11, .r 12, .r 13, .r 14, .r 15, .z 3] 1), (103, .call 8 [.r 0, .r 1, .r 2, .r 3, .r 4, .r 5, .r 6, .r 7, .r 8, .r 9, .r 10, .r 11, .r 12, .r 13, .r 14, .r 15, .z 3] 2), (104, .call 8 [.r 0, .r 1, .r 2, .r 3, .r 4, .r 5, .r 6, .r 7, .r 8, .r 9, .r 10, .r 11, .r 12, .r 13, .r 14, .r 15, .z 3] 3), (105, .not (.r 104)), (106, .lss (.r 30) (.r 102)), (107, .or (.r 105) (.r 106)), (108, .gtr (.r 18) (.r 103)), (109, .or (.r 107) (.r 108)), (110, .not (.r 109)), (111, .lss (.r 18) (.r 102)), (112, .gtr (.r 30) (.r 103)), (113, .or (.r 111) (.r 112)), (114, .not (.r 113)), (115, .eql (.r 16) (.z 3)), (116, .land .u8 (.r 3) (.z 128)), (117, .eql (.r 116) (.z 0)), (118, .and (.r 115) (.r 117)), (119, .land .u8 (.r 3) (.r 20)), (120, .eql (.r 119) (.r 20)), (121, .or (.r 118) (.r 120)), (122, .not (.r 110)), (123, .call 8 [.r 0, .r 1, .r 2, .r 3, .r 4, .r 5, .r 6, .r 7, .r 8, .r 9, .r 10, .r 11, .r 12, .r 13, .r 14, .r 15, .z 4] 0), (124, .call 8 [.r 0, .r 1, .r 2, .r 3, .r 4, .r 5, .r 6, .r 7, .r 8, .r 9, .r 10, .r 11, .r 12, .r 13, .r 14, .r 15, .z 4] 1), (125, .call 8 [.r 0, .r 1, .r 2, .r 3, .r 4, .r 5, .r 6, .r 7, .r 8, .r 9, .r 10, .r 11, .r 12, .r 13, .r 14, .r 15, .z 4] 2), (126, .call 8 [.r 0, .r 1, .r 2, .r 3, .r 4, .r 5, .r 6, .r 7, .r 8, .r 9, .r 10, .r 11, .r 12, .r 13, .r 14, .r 15, .z 4] 3), (127, .not (.r 126)), (128, .lss (.r 30) (.r 124)), (129, .or (.r 127) (.r 128)), (130, .gtr (.r 18) (.r 125)), (131, .or (.r 129) (.r 130)), (132, .not (.r 131)), (133, .lss (.r 18) (.r 124)), (134, .gtr (.r 30) (.r 125)), (135, .or (.r 133) (.r 134)), (136, .not (.r 135)), (137, .eql (.r 16) (.z 3)), (138, .land .u8 (.r 4) (.z 128)), (139, .eql (.r 138) (.z 0)), (140, .and (.r 137) (.r 139)), (141, .land .u8 (.r 4) (.r 20)), (142, .eql (.r 141) (.r 20)), (143, .or (.r 140) (.r 142)), (144, .not (.r 132)), (145, .call 8 [.r 0, .r 1, .r 2, .r 3, .r 4, .r 5, .r 6, .r 7, .r 8, .r 9, .r 10, .r 11, .r 12, .r 13, .r 14, .r 15, .z 5] 0), (146, .call 8 [.r 0, .r 1, .r 2, .r 3, .r 4, .r 5, .r 6, .r 7, .r 8, .r 9, .r 10, .r 11, .r 12, .r 13, .r 14, .r 15, .z 5] 1), (147, .call 8 [.r 0, .r 1, .r 2, .r 3, .r 4, .r 5, .r 6, .r 7, .r 8, .r 9, .r 10, .r 11, .r 12, .r 13, .r 14, .r 15, .z 5] 2), (148, .call 8 [.r 0, .r 1, .r 2, .r 3, .r 4, .r 5, .r 6, .r 7, .r 8, .r 9, .r 10, .r 11, .r 12, .r 13, .r 14, .r 15, .z 5] 3), (149, .not (.r 148)), (150, .lss (.r 30) (.r 146)), (151, .or (.r 149) (.r 150)), (152, .gtr (.r 18) (.r 147)), (153, .or (.r 151) (.r 152)), (154, .not (.r 153)), (155, .lss (.r 18) (.r 146)), (156, .gtr (.r 30) (.r 147)), (157, .or (.r 155) (.r 156)), (158, .not (.r 157)), (159, .eql (.r 16) (.z 3)), (160, .land .u8 (.r 5) (.z 128)), (161, .eql (.r 160) (.z 0)), (162, .and (.r 159) (.r 161)), (163, .land .u8 (.r 5) (.r 20)), (164, .eql (.r 163) (.r 20)), (165, .or (.r 162) (.r 164)), (166, .not (.r 154)), (167, .call 8 [.r 0, .r 1, .r 2, .r 3, .r 4, .r 5, .r 6, .r 7, .r 8, .r 9, .r 10, .r 11, .r 12, .r 13, .r 14, .r 15, .z 6] 0), (168, .call 8 [.r 0, .r 1, .r 2, .r 3, .r 4, .r 5, .r 6, .r 7, .r 8, .r 9, .r 10, .r 11, .r 12, .r 13, .r 14, .r 15, .z 6] 1), (169, .call 8 [.r 0, .r 1, .r 2, .r 3, .r 4, .r 5, .r 6, .r 7, .r 8, .r 9, .r 10, .r 11, .r 12, .r 13, .r 14, .r 15, .z 6] 2), (170, .call 8 [.r 0, .r 1, .r 2, .r 3, .r 4, .r 5, .r 6, .r 7, .r 8, .r 9, .r 10, .r 11, .r 12, .r 13, .r 14, .r 15, .z 6] 3), (171, .not (.r 170)), (172, .lss (.r 30) (.r 168)), (173, .or (.r 171) (.r 172)), (174, .gtr (.r 18) (.r 169)), (175, .or (.r 173) (.r 174)), (176, .not (.r 175)), (177, .lss (.r 18) (.r 168)), (178, .gtr (.r 30) (.r 169)), (179, .or (.r 177) (.r 178)), (180, .not (.r 179)), (181, .eql (.r 16) (.z 3)), (182, .land .u8 (.r 6) (.z 128)), (183, .eql (.r 182) (.z 0)), (184, .and (.r 181) (.r 183)), (185, .land .u8 (.r 6) (.r 20)), (186, .eql (.r 185) (.r 20)), (187, .or (.r 184) (.r 186)), (188, .not (.r 176)), (189, .call 8 [.r 0, .r 1, .r 2, .r 3, .r 4, .r 5, .r 6, .r 7, .r 8, .r 9, .r 10, .r 11, .r 12, .r 13, .r 14, .r 15, .z 7] 0), (190, .call 8 [.r 0, .r 1, .r 2, .r 3, .r 4, .r 5, .r 6, .r 7, .r 8, .r 9, .r 10, .r 11, .r 12, .r 13, .r 14, .r 15, .z 7] 1), (191, .call 8 [.r 0, .r 1, .r 2, .r 3, .r 4, .r 5, .r 6, .r 7, .r 8, .r 9, .r 10, .r 11, .r 12, .r 13, .r 14, .r 15, .z 7] 2), (192, .call 8 [.r 0, .r 1, .r 2, .r 3, .r 4, .r 5, .r 6, .r 7, .r 8, .r 9, .r 10, .r 11, .r 12, .r 13, .r 14, .r 15, .z 7] 3), (193, .not (.r 192)), (194, .lss (.r 30) (.r 190)), (195, .or (.r 193) (.r 194)), (196, .gtr (.r 18) (.r 191)), (197, .or (.r 195) (.r 196)), (198, .not (.r 197)), (199, .lss (.r 18) (.r 190)), (200, .gtr (.r 30) (.r 191)), (201, .or (.r 199) (.r 200)), (202, .not (.r 201)), (203, .eql (.r 16) (.z 3)), (204, .land .u8 (.r 7) (.z 128)), (205, .eql (.r 204) (.z 0)), (206, .and (.r 203) (.r 205)), (207, .land .u8 (.r 7) (.r 20)), (208, .eql (.r 207) (.r 20)), (209, .or (.r 206) (.r 208)), (210, .not (.r 198)), (211, .and (.r 188) (.r 210)), (212, .and (.r 166) (.r 211)), (213, .and (.r 144) (.r 212)), (214, .and (.r 122) (.r 213)), (215, .and (.r 100) (.r 214)), (216, .and (.r 78) (.r 215)), (217, .and (.r 56) (.r 216)), (218, .eql (.r 16) (.z 3)), (219, .and (.r 202) (.r 209)), (220, .and (.r 180) (.r 187)), (221, .iteb (.r 188) (.r 219) (.r 220)), (222, .and (.r 158) (.r 165)), (223, .iteb (.r 166) (.r 221) (.r 222)), (224, .and (.r 136) (.r 143)), (225, .iteb (.r 144) (.r 223) (.r 224)), (226, .and (.r 114) (.r 121)), (227, .iteb (.r 122) (.r 225) (.r 226)), (228, .and (.r 92) (.r 99)), (229, .iteb (.r 100) (.r 227) (.r 228)), (230, .and (.r 70) (.r 77)), (231, .iteb (.r 78) (.r 229) (.r 230)), (232, .and (.r 48) (.r 55)), (233, .iteb (.r 56) (.r 231) (.r 232)), (234, .iteb (.r 217) (.r 218) (.r 233)), (235, .and (.r 34) (.r 234)), (236, .and (.r 27) (.r 235))],
  [⟨[(.r 27, true), (.r 34, true)], .r 35⟩, ⟨[(.r 27, true), (.r 34, true), (.r 56, true)], .r 57⟩, ⟨[(.r 27, true), (.r 34, true), (.r 56, true), (.r 78, true)], .r 79⟩, ⟨[(.r 27, true), (.r 34, true), (.r 56, true), (.r 78, true), (.r 100, true)], .r 101⟩, ⟨[(.r 27, true), (.r 34, true), (.r 56, true), (.r 78, true), (.r 100, true), (.r 122, true)], .r 123⟩, ⟨[(.r 27, true), (.r 34, true), (.r 56, true), (.r 78, true), (.r 100, true), (.r 122, true), (.r 144, true)], .r 145⟩, ⟨[(.r 27, true), (.r 34, true), (.r 56, true), (.r 78, true), (.r 100, true), (.r 122, true), (.r 144, true), (.r 166, true)], .r 167⟩, ⟨[(.r 27, true), (.r 34, true), (.r 56, true), (.r 78, true), (.r 100, true), (.r 122, true), (.r 144, true), (.r 166, true), (.r 188, true)], .r 189⟩],
  [],
  [.r 236]⟩
noncomputable def p11 (x0 : Int) (x1 : Int) (x2 : Int) (x3 : Int) (x4 : Int) (x5 : Int) (x6 : Int) (x7 : Int) (x8 : Int) (x9 : Int) (x10 : Int) (x11 : Int) (x12 : Int) (x13 : Int) (x14 : Int) (x15 : Int) (_x16 : Int) (x17 : Int) (x18 : Int) (x19 : Int) : Bool :=
  let x20 := r21_0 x17
  let x21 := x19 == 1
  let x22 := x19 == 2
  let x23 := x19 == 4
  let x24 := x19 == 8
  let x25 := bif x23 then x23 else x24
  let x26 := bif x22 then x22 else x25
  let x27 := bif x21 then x21 else x26
  let x28 := IntKind.wrap .u64 x19
  let x29 := IntKind.wrap .u64 (x18 + x28)
  let x30 := IntKind.wrap .u64 (x29 - 1)
  let x31 := x20 == 0
  let x32 := decide (x30 < x18)
  let x33 := x31 || x32
  let x34 := !x33
  let x35 := p8 x0 x1 x2 x3 x4 x5 x6 x7 x8 x9 x10 x11 x12 x13 x14 x15 0
  let x36 := r8_0 x0 x1 x2 x3 x4 x5 x6 x7 x8 x9 x10 x11 x12 x13 x14 x15 0
  let x37 := r8_1 x0 x1 x2 x3 x4 x5 x6 x7 x8 x9 x10 x11 x12 x13 x14 x15 0
  let x38 := r8_2 x0 x1 x2 x3 x4 x5 x6 x7 x8 x9 x10 x11 x12 x13 x14 x15 0
  let x39 := !x38
  let x40 := decide (x30 < x36)
  let x41 := x39 || x40
  let x42 := decide (x18 > x37)
  let x43 := x41 || x42
  let x44 := !x43
  let x56 := !x44
  let x57 := p8 x0 x1 x2 x3 x4 x5 x6 x7 x8 x9 x10 x11 x12 x13 x14 x15 1
  let x58 := r8_0 x0 x1 x2 x3 x4 x5 x6 x7 x8 x9 x10 x11 x12 x13 x14 x15 1
  let x59 := r8_1 x0 x1 x2 x3 x4 x5 x6 x7 x8 x9 x10 x11 x12 x13 x14 x15 1
  let x60 := r8_2 x0 x1 x2 x3 x4 x5 x6 x7 x8 x9 x10 x11 x12 x13 x14 x15 1
  let x61 := !x60
  let x62 := decide (x30 < x58)
  let x63 := x61 || x62
  let x64 := decide (x18 > x59)
  let x65 := x63 || x64
  let x66 := !x65
  let x78 := !x66
  let x79 := p8 x0 x1 x2 x3 x4 x5 x6 x7 x8 x9 x10 x11 x12 x13 x14 x15 2
  let x80 := r8_0 x0 x1 x2 x3 x4 x5 x6 x7 x8 x9 x10 x11 x12 x13 x14 x15 2
  let x81 := r8_1 x0 x1 x2 x3 x4 x5 x6 x7 x8 x9 x10 x11 x12 x13 x14 x15 2
  let x82 := r8_2 x0 x1 x2 x3 x4 x5 x6 x7 x8 x9 x10 x11 x12 x13 x14 x15 2
  let x83 := !x82
  let x84 := decide (x30 < x80)
  let x85 := x83 || x84
  let x86 := decide (x18 > x81)
  let x87 := x85 || x86
  let x88 := !x87
  let x100 := !x88
  let x101 := p8 x0 x1 x2 x3 x4 x5 x6 x7 x8 x9 x10 x11 x12 x13 x14 x15 3
  let x102 := r8_0 x0 x1 x2 x3 x4 x5 x6 x7 x8 x9 x10 x11 x12 x13 x14 x15 3
  let x103 := r8_1 x0 x1 x2 x3 x4 x5 x6 x7 x8 x9 x10 x11 x12 x13 x14 x15 3
  let x104 := r8_2 x0 x1 x2 x3 x4 x5 x6 x7 x8 x9 x10 x11 x12 x13 x14 x15 3
  let x105 := !x104
  let x106 := decide (x30 < x102)
  let x107 := x105 || x106
  let x108 := decide (x18 > x103)
  let x109 := x107 || x108
  let x110 := !x109
  let x122 := !x110
  let x123 := p8 x0 x1 x2 x3 x4 x5 x6 x7 x8 x9 x10 x11 x12 x13 x14 x15 4
  let x124 := r8_0 x0 x1 x2 x3 x4 x5 x6 x7 x8 x9 x10 x11 x12 x13 x14 x15 4
  let x125 := r8_1 x0 x1 x2 x3 x4 x5 x6 x7 x8 x9 x10 x11 x12 x13 x14 x15 4
  let x126 := r8_2 x0 x1 x2 x3 x4 x5 x6 x7 x8 x9 x10 x11 x12 x13 x14 x15 4
  let x127 := !x126
  let x128 := decide (x30 < x124)
  let x129 := x127 || x128
  let x130 := decide (x18 > x125)
  let x131 := x129 || x130
  let x132 := !x131
  let x144 := !x132
  let x145 := p8 x0 x1 x2 x3 x4 x5 x6 x7 x8 x9 x10 x11 x12 x13 x14 x15 5
  let x146 := r8_0 x0 x1 x2 x3 x4 x5 x6 x7 x8 x9 x10 x11 x12 x13 x14 x15 5
  let x147 := r8_1 x0 x1 x2 x3 x4 x5 x6 x7 x8 x9 x10 x11 x12 x13 x14 x15 5
  let x148 := r8_2 x0 x1 x2 x3 x4 x5 x6 x7 x8 x9 x10 x11 x12 x13 x14 x15 5
  let x149 := !x148
  let x150 := decide (x30 < x146)
  let x151 := x149 || x150
  let x152 := decide (x18 > x147)
  let x153 := x151 || x152
  let x154 := !x153
  let x166 := !x154
  let x167 := p8 x0 x1 x2 x3 x4 x5 x6 x7 x8 x9 x10 x11 x12 x13 x14 x15 6
  let x168 := r8_0 x0 x1 x2 x3 x4 x5 x6 x7 x8 x9 x10 x11 x12 x13 x14 x15 6
  let x169 := r8_1 x0 x1 x2 x3 x4 x5 x6 x7 x8 x9 x10 x11 x12 x13 x14 x15 6
  let x170 := r8_2 x0 x1 x2 x3 x4 x5 x6 x7 x8 x9 x10 x11 x12 x13 x14 x15 6
  let x171 := !x170
  let x172 := decide (x30 < x168)
  let x173 := x171 || x172
  let x174 := decide (x18 > x169)
  let x175 := x173 || x174
  let x176 := !x175
  let x188 := !x176
  let x189 := p8 x0 x1 x2 x3 x4 x5 x6 x7 x8 x9 x10 x11 x12 x13 x14 x15 7
  [ow [(x27, true), (x34, true)] x35, ow [(x27, true), (x34, true), (x56, true)] x57, ow [(x27, true), (x34, true), (x56, true), (x78, true)] x79, ow [(x27, true), (x34, true), (x56, true), (x78, true), (x100, true)] x101, ow [(x27, true), (x34, true), (x56, true), (x78, true), (x100, true), (x122, true)] x123, ow [(x27, true), (x34, true), (x56, true), (x78, true), (x100, true), (x122, true), (x144, true)] x145, ow [(x27, true), (x34, true), (x56, true), (x78, true), (x100, true), (x122, true), (x144, true), (x166, true)] x167, ow [(x27, true), (x34, true), (x56, true), (x78, true), (x100, true), (x122, true), (x144, true), (x166, true), (x188, true)] x189].all id
noncomputable def r11_0 (x0 : Int) (x1 : Int) (x2 : Int) (x3 : Int) (x4 : Int) (x5 : Int) (x6 : Int) (x7 : Int) (x8 : Int) (x9 : Int) (x10 : Int) (x11 : Int) (x12 : Int) (x13 : Int) (x14 : Int) (x15 : Int) (x16 : Int) (x17 : Int) (x18 : Int) (x19 : Int) : Bool :=
  let x20 := r21_0 x17
  let x21 := x19 == 1
  let x22 := x19 == 2
  let x23 := x19 == 4
  let x24 := x19 == 8
  let x25 := bif x23 then x23 else x24
  let x26 := bif x22 then x22 else x25
  let x27 := bif x21 then x21 else x26
  let x28 := IntKind.wrap .u64 x19
  let x29 := IntKind.wrap .u64 (x18 + x28)
  let x30 := IntKind.wrap .u64 (x29 - 1)
  let x31 := x20 == 0
  let x32 := decide (x30 < x18)
  let x33 := x31 || x32
  let x34 := !x33
  let x36 := r8_0 x0 x1 x2 x3 x4 x5 x6 x7 x8 x9 x10 x11 x12 x13 x14 x15 0
  let x37 := r8_1 x0 x1 x2 x3 x4 x5 x6 x7 x8 x9 x10 x11 x12 x13 x14 x15 0
  let x38 := r8_2 x0 x1 x2 x3 x4 x5 x6 x7 x8 x9 x10 x11 x12 x13 x14 x15 0
  let x39 := !x38
  let x40 := decide (x30 < x36)
  let x41 := x39 || x40
  let x42 := decide (x18 > x37)
  let x43 := x41 || x42
  let x44 := !x43
  let x45 := decide (x18 < x36)
  let x46 := decide (x30 > x37)
  let x47 := x45 || x46
  let x48 := !x47
  let x49 := x16 == 3
  let x50 := iland .u8 x0 128
  let x51 := x50 == 0
  let x52 := x49 && x51
  let x53 := iland .u8 x0 x20
  let x54 := x53 == x20
  let x55 := x52 || x54
  let x56 := !x44
  let x58 := r8_0 x0 x1 x2 x3 x4 x5 x6 x7 x8 x9 x10 x11 x12 x13 x14 x15 1
  let x59 := r8_1 x0 x1 x2 x3 x4 x5 x6 x7 x8 x9 x10 x11 x12 x13 x14 x15 1
  let x60 := r8_2 x0 x1 x2 x3 x4 x5 x6 x7 x8 x9 x10 x11 x12 x13 x14 x15 1
  let x61 := !x60
  let x62 := decide (x30 < x58)
  let x63 := x61 || x62
  let x64 := decide (x18 > x59)
  let x65 := x63 || x64
  let x66 := !x65
  let x67 := decide (x18 < x58)
  let x68 := decide (x30 > x59)
  let x69 := x67 || x68
  let x70 := !x69
  let x71 := x16 == 3
  let x72 := iland .u8 x1 128
  let x73 := x72 == 0
  let x74 := x71 && x73
  let x75 := iland .u8 x1 x20
  let x76 := x75 == x20
  let x77 := x74 || x76
  let x78 := !x66
  let x80 := r8_0 x0 x1 x2 x3 x4 x5 x6 x7 x8 x9 x10 x11 x12 x13 x14 x15 2
  let x81 := r8_1 x0 x1 x2 x3 x4 x5 x6 x7 x8 x9 x10 x11 x12 x13 x14 x15 2
  let x82 := r8_2 x0 x1 x2 x3 x4 x5 x6 x7 x8 x9 x10 x11 x12 x13 x14 x15 2
  let x83 := !x82
  let x84 := decide (x30 < x80)
  let x85 := x83 || x84
  let x86 := decide (x18 > x81)
  let x87 := x85 || x86
  let x88 := !x87
  let x89 := decide (x18 < x80)
  let x90 := decide (x30 > x81)
  let x91 := x89 || x90
  let x92 := !x91
  let x93 := x16 == 3
  let x94 := iland .u8 x2 128
  let x95 := x94 == 0
  let x96 := x93 && x95
  let x97 := iland .u8 x2 x20
  let x98 := x97 == x20
  let x99 := x96 || x98
  let x100 := !x88
  let x102 := r8_0 x0 x1 x2 x3 x4 x5 x6 x7 x8 x9 x10 x11 x12 x13 x14 x15 3
  let x103 := r8_1 x0 x1 x2 x3 x4 x5 x6 x7 x8 x9 x10 x11 x12 x13 x14 x15 3
  let x104 := r8_2 x0 x1 x2 x3 x4 x5 x6 x7 x8 x9 x10 x11 x12 x13 x14 x15 3
  let x105 := !x104
  let x106 := decide (x30 < x102)
  let x107 := x105 || x106
  let x108 := decide (x18 > x103)
  let x109 := x107 || x108
  let x110 := !x109
  let x111 := decide (x18 < x102)
  let x112 := decide (x30 > x103)
  let x113 := x111 || x112
  let x114 := !x113
  let x115 := x16 == 3
  let x116 := iland .u8 x3 128
  let x117 := x116 == 0
  let x118 := x115 && x117
  let x119 := iland .u8 x3 x20
  let x120 := x119 == x20
  let x121 := x118 || x120
  let x122 := !x110
  let x124 := r8_0 x0 x1 x2 x3 x4 x5 x6 x7 x8 x9 x10 x11 x12 x13 x14 x15 4
  let x125 := r8_1 x0 x1 x2 x3 x4 x5 x6 x7 x8 x9 x10 x11 x12 x13 x14 x15 4
  let x126 := r8_2 x0 x1 x2 x3 x4 x5 x6 x7 x8 x9 x10 x11 x12 x13 x14 x15 4
  let x127 := !x126
  let x128 := decide (x30 < x124)
  let x129 := x127 || x128
  let x130 := decide (x18 > x125)
  let x131 := x129 || x130
  let x132 := !x131
  let x133 := decide (x18 < x124)
  let x134 := decide (x30 > x125)
  let x135 := x133 || x134
  let x136 := !x135
  let x137 := x16 == 3
  let x138 := iland .u8 x4 128
  let x139 := x138 == 0
  let x140 := x137 && x139
  let x141 := iland .u8 x4 x20
  let x142 := x141 == x20
  let x143 := x140 || x142
  let x144 := !x132
  let x146 := r8_0 x0 x1 x2 x3 x4 x5 x6 x7 x8 x9 x10 x11 x12 x13 x14 x15 5
  let x147 := r8_1 x0 x1 x2 x3 x4 x5 x6 x7 x8 x9 x10 x11 x12 x13 x14 x15 5
  let x148 := r8_2 x0 x1 x2 x3 x4 x5 x6 x7 x8 x9 x10 x11 x12 x13 x14 x15 5
  let x149 := !x148
  let x150 := decide (x30 < x146)
  let x151 := x149 || x150
  let x152 := decide (x18 > x147)
  let x153 := x151 || x152
  let x154 := !x153
  let x155 := decide (x18 < x146)
  let x156 := decide (x30 > x147)
  let x157 := x155 || x156
  let x158 := !x157
  let x159 := x16 == 3
  let x160 := iland .u8 x5 128
  let x161 := x160 == 0
  let x162 := x159 && x161
  let x163 := iland .u8 x5 x20
  let x164 := x163 == x20
  let x165 := x162 || x164
  let x166 := !x154
  let x168 := r8_0 x0 x1 x2 x3 x4 x5 x6 x7 x8 x9 x10 x11 x12 x13 x14 x15 6
  let x169 := r8_1 x0 x1 x2 x3 x4 x5 x6 x7 x8 x9 x10 x11 x12 x13 x14 x15 6
  let x170 := r8_2 x0 x1 x2 x3 x4 x5 x6 x7 x8 x9 x10 x11 x12 x13 x14 x15 6
  let x171 := !x170
  let x172 := decide (x30 < x168)
  let x173 := x171 || x172
  let x174 := decide (x18 > x169)
  let x175 := x173 || x174
  let x176 := !x175
  let x177 := decide (x18 < x168)
  let x178 := decide (x30 > x169)
  let x179 := x177 || x178
  let x180 := !x179
  let x181 := x16 == 3
  let x182 := iland .u8 x6 128
  let x183 := x182 == 0
  let x184 := x181 && x183
  let x185 := iland .u8 x6 x20
  let x186 := x185 == x20
  let x187 := x184 || x186
  let x188 := !x176
  let x190 := r8_0 x0 x1 x2 x3 x4 x5 x6 x7 x8 x9 x10 x11 x12 x13 x14 x15 7
  let x191 := r8_1 x0 x1 x2 x3 x4 x5 x6 x7 x8 x9 x10 x11 x12 x13 x14 x15 7
  let x192 := r8_2 x0 x1 x2 x3 x4 x5 x6 x7 x8 x9 x10 x11 x12 x13 x14 x15 7
  let x193 := !x192
  let x194 := decide (x30 < x190)
  let x195 := x193 || x194
  let x196 := decide (x18 > x191)
  let x197 := x195 || x196
  let x198 := !x197
  let x199 := decide (x18 < x190)
  let x200 := decide (x30 > x191)
  let x201 := x199 || x200
  let x202 := !x201
  let x203 := x16 == 3
  let x204 := iland .u8 x7 128
  let x205 := x204 == 0
  let x206 := x203 && x205
  let x207 := iland .u8 x7 x20
  let x208 := x207 == x20
  let x209 := x206 || x208
  let x210 := !x198
  let x211 := x188 && x210
  let x212 := x166 && x211
  let x213 := x144 && x212
  let x214 := x122 && x213
  let x215 := x100 && x214
  let x216 := x78 && x215
  let x217 := x56 && x216
  let x218 := x16 == 3
  let x219 := x202 && x209
  let x220 := x180 && x187
  let x221 := bif x188 then x219 else x220
  let x222 := x158 && x165
  let x223 := bif x166 then x221 else x222
  let x224 := x136 && x143
  let x225 := bif x144 then x223 else x224
  let x226 := x114 && x121
  let x227 := bif x122 then x225 else x226
  let x228 := x92 && x99
  let x229 := bif x100 then x227 else x228
  let x230 := x70 && x77
  let x231 := bif x78 then x229 else x230
  let x232 := x48 && x55
  let x233 := bif x56 then x231 else x232
  let x234 := bif x217 then x218 else x233
  let x235 := x34 && x234
  let x236 := x27 && x235
  x236
noncomputable def g11 (ds : List DV) : List DV := [.b (p11 (dget ds 0).toI (dget ds 1).toI (dget ds 2).toI (dget ds 3).toI (dget ds 4).toI (dget ds 5).toI (dget ds 6).toI (dget ds 7).toI (dget ds 8).toI (dget ds 9).toI (dget ds 10).toI (dget ds 11).toI (dget ds 12).toI (dget ds 13).toI (dget ds 14).toI (dget ds 15).toI (dget ds 16).toI (dget ds 17).toI (dget ds 18).toI (dget ds 19).toI), .b (r11_0 (dget ds 0).toI (dget ds 1).toI (dget ds 2).toI (dget ds 3).toI (dget ds 4).toI (dget ds 5).toI (dget ds 6).toI (dget ds 7).toI (dget ds 8).toI (dget ds 9).toI (dget ds 10).toI (dget ds 11).toI (dget ds 12).toI (dget ds 13).toI (dget ds 14).toI (dget ds 15).toI (dget ds 16).toI (dget ds 17).toI (dget ds 18).toI (dget ds 19).toI)]
def S11 : Sigs := ⟨[(21, s21), (8, s8)], [], []⟩
theorem ev11 : evFn Tryd.prog S11 2000 Tryd.f11 s11 = some o11 := by kernel_rfl

/-! tandem/pmp.Config -/
def s13 : Sig := ⟨[.agg [.int .u8, .int .u8, .int .u8, .int .u8, .int .u8, .int .u8, .int .u8, .int .u8], .one (.int .u64)], [.agg [.int .u8, .int .u8, .int .u8, .int .u8, .int .u8, .int .u8, .int .u8, .int .u8]], false⟩
def o13 : Out := ⟨[(9, .shr .u64 (.r 8) (.z 0)), (10, .conv .u8 (.r 9)), (11, .land .u8 (.r 0) (.z 128)), (12, .eql (.r 11) (.z 0)), (13, .land .u8 (.r 10) (.z 3)), (14, .neq (.r 13) (.z 2)), (15, .and (.r 12) (.r 14)), (16, .landNot .u8 (.r 10) (.z 96)), (17, .itei (.r 15) (.r 16) (.r 0)), (18, .shr .u64 (.r 8) (.z 8)), (19, .conv .u8 (.r 18)), (20, .land .u8 (.r 1) (.z 128)), (21, .eql (.r 20) (.z 0)), (22, .land .u8 (.r 19) (.z 3)), (23, .neq (.r 22) (.z 2)), (24, .and (.r 21) (.r 23)), (25, .landNot .u8 (.r 19) (.z 96)), (26, .itei (.r 24) (.r 25) (.r 1)), (27, .shr .u64 (.r 8) (.z 16)), (28, .conv .u8 (.r 27)), (29, .land .u8 (.r 2) (.z 128)), (30, .eql (.r 29) (.z 0)), (31, .land .u8 (.r 28) (.z 3)), (32, .neq (.r 31) (.z 2)), (33, .and (.r 30) (.r 32)), (34, .landNot .u8 (.r 28) (.z 96)), (35, .itei (.r 33) (.r 34) (.r 2)), (36, .shr .u64 (.r 8) (.z 24)), (37, .conv .u8 (.r 36)), (38, .land .u8 (.r 3) (.z 128)), (39, .eql (.r 38) (.z 0)), (40, .land .u8 (.r 37) (.z 3)), (41, .neq (.r 40) (.z 2)), (42, .and (.r 39) (.r 41)), (43, .landNot .u8 (.r 37) (.z 96)), (44, .itei (.r 42) (.r 43) (.r 3)), (45, .shr .u64 (.r 8) (.z 32)), (46, .conv .u8 (.r 45)), (47, .land .u8 (.r 4) (.z 128)), (48, .eql (.r 47) (.z 0)), (49, .land .u8 (.r 46) (.z 3)), (50, .neq (.r 49) (.z 2)), (51, .and (.r 48) (.r 50)), (52, .landNot .u8 (.r 46) (.z 96)), (53, .itei (.r 51) (.r 52) (.r 4)), (54, .shr .u64 (.r 8) (.z 40)), (55, .conv .u8 (.r 54)), (56, .land .u8 (.r 5) (.z 128)), (57, .eql (.r 56) (.z 0)), (58, .land .u8 (.r 55) (.z 3)), (59, .neq (.r 58) (.z 2)), (60, .and (.r 57) (.r 59)), (61, .landNot .u8 (.r 55) (.z 96)), (62, .itei (.r 60) (.r 61) (.r 5)), (63, .shr .u64 (.r 8) (.z 48)), (64, .conv .u8 (.r 63)), (65, .land .u8 (.r 6) (.z 128)), (66, .eql (.r 65) (.z 0)), (67, .land .u8 (.r 64) (.z 3)), (68, .neq (.r 67) (.z 2)), (69, .and (.r 66) (.r 68)), (70, .landNot .u8 (.r 64) (.z 96)), (71, .itei (.r 69) (.r 70) (.r 6)), (72, .shr .u64 (.r 8) (.z 56)), (73, .conv .u8 (.r 72)), (74, .land .u8 (.r 7) (.z 128)), (75, .eql (.r 74) (.z 0)), (76, .land .u8 (.r 73) (.z 3)), (77, .neq (.r 76) (.z 2)), (78, .and (.r 75) (.r 77)), (79, .landNot .u8 (.r 73) (.z 96)), (80, .itei (.r 78) (.r 79) (.r 7))],
  [],
  [],
  [.r 17, .r 26, .r 35, .r 44, .r 53, .r 62, .r 71, .r 80]⟩
noncomputable def r13_0 (x0 : Int) (_x1 : Int) (_x2 : Int) (_x3 : Int) (_x4 : Int) (_x5 : Int) (_x6 : Int) (_x7 : Int) (x8 : Int) : Int :=
  let x9 := ishr .u64 x8 0
  let x10 := IntKind.wrap .u8 x9
  let x11 := iland .u8 x0 128
  let x12 := x11 == 0
  let x13 := iland .u8 x10 3
  let x14 := x13 != 2
  let x15 := x12 && x14
  let x16 := ilandNot .u8 x10 96
  let x17 := bif x15 then x16 else x0
  x17
noncomputable def r13_1 (_x0 : Int) (x1 : Int) (_x2 : Int) (_x3 : Int) (_x4 : Int) (_x5 : Int) (_x6 : Int) (_x7 : Int) (x8 : Int) : Int :=
  let x18 := ishr .u64 x8 8
  let x19 := IntKind.wrap .u8 x18
  let x20 := iland .u8 x1 128
  let x21 := x20 == 0
  let x22 := iland .u8 x19 3
  let x23 := x22 != 2
  let x24 := x21 && x23
  let x25 := ilandNot .u8 x19 96
  let x26 := bif x24 then x25 else x1
  x26
noncomputable def r13_2 (_x0 : Int) (_x1 : Int) (x2 : Int) (_x3 : Int) (_x4 : Int) (_x5 : Int) (_x6 : Int) (_x7 : Int) (x8 : Int) : Int :=
  let x27 := ishr .u64 x8 16
  let x28 := IntKind.wrap .u8 x27
  let x29 := iland .u8 x2 128
  let x30 := x29 == 0
  let x31 := iland .u8 x28 3
  let x32 := x31 != 2
  let x33 := x30 && x32
  let x34 := ilandNot .u8 x28 96
  let x35 := bif x33 then x34 else x2
  x35
noncomputable def r13_3 (_x0 : Int) (_x1 : Int) (_x2 : Int) (x3 : Int) (_x4 : Int) (_x5 : Int) (_x6 : Int) (_x7 : Int) (x8 : Int) : Int :=
  let x36 := ishr .u64 x8 24
  let x37 := IntKind.wrap .u8 x36
  let x38 := iland .u8 x3 128
  let x39 := x38 == 0
  let x40 := iland .u8 x37 3
  let x41 := x40 != 2
  let x42 := x39 && x41
  let x43 := ilandNot .u8 x37 96
  let x44 := bif x42 then x43 else x3
  x44
noncomputable def r13_4 (_x0 : Int) (_x1 : Int) (_x2 : Int) (_x3 : Int) (x4 : Int) (_x5 : Int) (_x6 : Int) (_x7 : Int) (x8 : Int) : Int :=
  let x45 := ishr .u64 x8 32
  let x46 := IntKind.wrap .u8 x45
  let x47 := iland .u8 x4 128
  let x48 := x47 == 0
  let x49 := iland .u8 x46 3
  let x50 := x49 != 2
  let x51 := x48 && x50
  let x52 := ilandNot .u8 x46 96
  let x53 := bif x51 then x52 else x4
  x53
noncomputable def r13_5 (_x0 : Int) (_x1 : Int) (_x2 : Int) (_x3 : Int) (_x4 : Int) (x5 : Int) (_x6 : Int) (_x7 : Int) (x8 : Int) : Int :=
  let x54 := ishr .u64 x8 40
  let x55 := IntKind.wrap .u8 x54
  let x56 := iland .u8 x5 128
  let x57 := x56 == 0
  let x58 := iland .u8 x55 3
  let x59 := x58 != 2
  let x60 := x57 && x59
  let x61 := ilandNot .u8 x55 96
  let x62 := bif x60 then x61 else x5
  x62
noncomputable def r13_6 (_x0 : Int) (_x1 : Int) (_x2 : Int) (_x3 : Int) (_x4 : Int) (_x5 : Int) (x6 : Int) (_x7 : Int) (x8 : Int) : Int :=
  let x63 := ishr .u64 x8 48
  let x64 := IntKind.wrap .u8 x63
  let x65 := iland .u8 x6 128
  let x66 := x65 == 0
  let x67 := iland .u8 x64 3
  let x68 := x67 != 2
  let x69 := x66 && x68
  let x70 := ilandNot .u8 x64 96
  let x71 := bif x69 then x70 else x6
  x71
noncomputable def r13_7 (_x0 : Int) (_x1 : Int) (_x2 : Int) (_x3 : Int) (_x4 : Int) (_x5 : Int) (_x6 : Int) (x7 : Int) (x8 : Int) : Int :=
  let x72 := ishr .u64 x8 56
  let x73 := IntKind.wrap .u8 x72
  let x74 := iland .u8 x7 128
  let x75 := x74 == 0
  let x76 := iland .u8 x73 3
  let x77 := x76 != 2
  let x78 := x75 && x77
  let x79 := ilandNot .u8 x73 96
  let x80 := bif x78 then x79 else x7
  x80
noncomputable def g13 (ds : List DV) : List DV := [.i (r13_0 (dget ds 0).toI (dget ds 1).toI (dget ds 2).toI (dget ds 3).toI (dget ds 4).toI (dget ds 5).toI (dget ds 6).toI (dget ds 7).toI (dget ds 8).toI), .i (r13_1 (dget ds 0).toI (dget ds 1).toI (dget ds 2).toI (dget ds 3).toI (dget ds 4).toI (dget ds 5).toI (dget ds 6).toI (dget ds 7).toI (dget ds 8).toI), .i (r13_2 (dget ds 0).toI (dget ds 1).toI (dget ds 2).toI (dget ds 3).toI (dget ds 4).toI (dget ds 5).toI (dget ds 6).toI (dget ds 7).toI (dget ds 8).toI), .i (r13_3 (dget ds 0).toI (dget ds 1).toI (dget ds 2).toI (dget ds 3).toI (dget ds 4).toI (dget ds 5).toI (dget ds 6).toI (dget ds 7).toI (dget ds 8).toI), .i (r13_4 (dget ds 0).toI (dget ds 1).toI (dget ds 2).toI (dget ds 3).toI (dget ds 4).toI (dget ds 5).toI (dget ds 6).toI (dget ds 7).toI (dget ds 8).toI), .i (r13_5 (dget ds 0).toI (dget ds 1).toI (dget ds 2).toI (dget ds 3).toI (dget ds 4).toI (dget ds 5).toI (dget ds 6).toI (dget ds 7).toI (dget ds 8).toI), .i (r13_6 (dget ds 0).toI (dget ds 1).toI (dget ds 2).toI (dget ds 3).toI (dget ds 4).toI (dget ds 5).toI (dget ds 6).toI (dget ds 7).toI (dget ds 8).toI), .i (r13_7 (dget ds 0).toI (dget ds 1).toI (dget ds 2).toI (dget ds 3).toI (dget ds 4).toI (dget ds 5).toI (dget ds 6).toI (dget ds 7).toI (dget ds 8).toI)]
def S13 : Sigs := ⟨[], [], []⟩
theorem ev13 : evFn Tryd.prog S13 2000 Tryd.f13 s13 = some o13 := by kernel_rfl

/-! tandem/pmp.Address -/
def s15 : Sig := ⟨[.agg [.int .u8, .int .u8, .int .u8, .int .u8, .int .u8, .int .u8, .int .u8, .int .u8], .agg [.int .u64, .int .u64, .int .u64, .int .u64, .int .u64, .int .u64, .int .u64, .int .u64], .one (.int .i64), .one (.int .u64)], [.agg [.int .u64, .int .u64, .int .u64, .int .u64, .int .u64, .int .u64, .int .u64, .int .u64]], true⟩
def o15 : Out := ⟨[(18, .lss (.r 16) (.z 0)), (19, .geq (.r 16) (.z 8)), (20, .or (.r 18) (.r 19)), (21, .geq (.r 16) (.z 0)), (22, .lss (.r 16) (.z 8)), (23, .seli [.r 0, .r 1, .r 2, .r 3, .r 4, .r 5, .r 6, .r 7] (.r 16)), (24, .land .u8 (.r 23) (.z 128)), (25, .neq (.r 24) (.z 0)), (26, .or (.r 20) (.r 25)), (27, .not (.r 26)), (28, .add .i64 (.r 16) (.z 1)), (29, .lss (.r 28) (.z 8)), (30, .add .i64 (.r 16) (.z 1)), (31, .geq (.r 30) (.z 0)), (32, .lss (.r 30) (.z 8)), (33, .seli [.r 0, .r 1, .r 2, .r 3, .r 4, .r 5, .r 6, .r 7] (.r 30)), (34, .land .u8 (.r 33) (.z 128)), (35, .neq (.r 34) (.z 0)), (36, .and (.r 29) (.r 35)), (37, .add .i64 (.r 16) (.z 1)), (38, .geq (.r 37) (.z 0)), (39, .lss (.r 37) (.z 8)), (40, .seli [.r 0, .r 1, .r 2, .r 3, .r 4, .r 5, .r 6, .r 7] (.r 37)), (41, .call 17 [.r 40] 0), (42, .eql (.r 41) (.z 1)), (43, .and (.r 36) (.r 42)), (44, .not (.r 43)), (45, .land .u64 (.r 17) (.z 18014398509481983)), (46, .geq (.r 16) (.z 0)), (47, .lss (.r 16) (.z 8)), (48, .eql (.r 16) (.z 0)), (49, .itei (.r 48) (.r 45) (.r 8)), (50, .eql (.r 16) (.z 1)), (51, .itei (.r 50) (.r 45) (.r 9)), (52, .eql (.r 16) (.z 2)), (53, .itei (.r 52) (.r 45) (.r 10)), (54, .eql (.r 16) (.z 3)), (55, .itei (.r 54) (.r 45) (.r 11)), (56, .eql (.r 16) (.z 4)), (57, .itei (.r 56) (.r 45) (.r 12)), (58, .eql (.r 16) (.z 5)), (59, .itei (.r 58) (.r 45) (.r 13)), (60, .eql (.r 16) (.z 6)), (61, .itei (.r 60) (.r 45) (.r 14)), (62, .eql (.r 16) (.z 7)), (63, .itei (.r 62) (.r 45) (.r 15)), (64, .itei (.r 44) (.r 49) (.r 8)), (65, .itei (.r 44) (.r 51) (.r 9)), (66, .itei (.r 44) (.r 53) (.r 10)), (67, .itei (.r 44) (.r 55) (.r 11)), (68, .itei (.r 44) (.r 57) (.r 12)), (69, .itei (.r 44) (.r 59) (.r 13)), (70, .itei (.r 44) (.r 61) (.r 14)), (71, .itei (.r 44) (.r 63) (.r 15)), (72, .itei (.r 27) (.r 64) (.r 8)), (73, .itei (.r 27) (.r 65) (.r 9)), (74, .itei (.r 27) (.r 66) (.r 10)), (75, .itei (.r 27) (.r 67) (.r 11)), (76, .itei (.r 27) (.r 68) (.r 12)), (77, .itei (.r 27) (.r 69) (.r 13)), (78, .itei (.r 27) (.r 70) (.r 14)), (79, .itei (.r 27) (.r 71) (.r 15))],
  [⟨[(.r 20, false)], .r 21⟩, ⟨[(.r 20, false)], .r 22⟩, ⟨[(.r 27, true), (.r 29, true)], .r 31⟩, ⟨[(.r 27, true), (.r 29, true)], .r 32⟩, ⟨[(.r 27, true), (.r 36, true)], .r 38⟩, ⟨[(.r 27, true), (.r 36, true)], .r 39⟩, ⟨[(.r 27, true), (.r 44, true)], .r 46⟩, ⟨[(.r 27, true), (.r 44, true)], .r 47⟩],
  [],
  [.r 72, .r 73, .r 74, .r 75, .r 76, .r 77, .r 78, .r 79]⟩
noncomputable def p15 (x0 : Int) (x1 : Int) (x2 : Int) (x3 : Int) (x4 : Int) (x5 : Int) (x6 : Int) (x7 : Int) (_x8 : Int) (_x9 : Int) (_x10 : Int) (_x11 : Int) (_x12 : Int) (_x13 : Int) (_x14 : Int) (_x15 : Int) (x16 : Int) (_x17 : Int) : Bool :=
  let x18 := decide (x16 < 0)
  let x19 := decide (x16 ≥ 8)
  let x20 := x18 || x19
  let x21 := decide (x16 ≥ 0)
  let x22 := decide (x16 < 8)
  let x23 := [x0, x1, x2, x3, x4, x5, x6, x7].getD (Int.toNat x16) 0
  let x24 := iland .u8 x23 128
  let x25 := x24 != 0
  let x26 := x20 || x25
  let x27 := !x26
  let x28 := IntKind.wrap .i64 (x16 + 1)
  let x29 := decide (x28 < 8)
  let x30 := IntKind.wrap .i64 (x16 + 1)
  let x31 := decide (x30 ≥ 0)
  let x32 := decide (x30 < 8)
  let x33 := [x0, x1, x2, x3, x4, x5, x6, x7].getD (Int.toNat x30) 0
  let x34 := iland .u8 x33 128
  let x35 := x34 != 0
  let x36 := x29 && x35
  let x37 := IntKind.wrap .i64 (x16 + 1)
  let x38 := decide (x37 ≥ 0)
  let x39 := decide (x37 < 8)
  let x40 := [x0, x1, x2, x3, x4, x5, x6, x7].getD (Int.toNat x37) 0
  let x41 := r17_0 x40
  let x42 := x41 == 1
  let x43 := x36 && x42
  let x44 := !x43
  let x46 := decide (x16 ≥ 0)
  let x47 := decide (x16 < 8)
  [ow [(x20, false)] x21, ow [(x20, false)] x22, ow [(x27, true), (x29, true)] x31, ow [(x27, true), (x29, true)] x32, ow [(x27, true), (x36, true)] x38, ow [(x27, true), (x36, true)] x39, ow [(x27, true), (x44, true)] x46, ow [(x27, true), (x44, true)] x47].all id
noncomputable def r15_0 (x0 : Int) (x1 : Int) (x2 : Int) (x3 : Int) (x4 : Int) (x5 : Int) (x6 : Int) (x7 : Int) (x8 : Int) (_x9 : Int) (_x10 : Int) (_x11 : Int) (_x12 : Int) (_x13 : Int) (_x14 : Int) (_x15 : Int) (x16 : Int) (x17 : Int) : Int :=
  let x18 := decide (x16 < 0)
  let x19 := decide (x16 ≥ 8)
  let x20 := x18 || x19
  let x23 := [x0, x1, x2, x3, x4, x5, x6, x7].getD (Int.toNat x16) 0
  let x24 := iland .u8 x23 128
  let x25 := x24 != 0
  let x26 := x20 || x25
  let x27 := !x26
  let x28 := IntKind.wrap .i64 (x16 + 1)
  let x29 := decide (x28 < 8)
  let x30 := IntKind.wrap .i64 (x16 + 1)
  let x33 := [x0, x1, x2, x3, x4, x5, x6, x7].getD (Int.toNat x30) 0
  let x34 := iland .u8 x33 128
  let x35 := x34 != 0
  let x36 := x29 && x35
  let x37 := IntKind.wrap .i64 (x16 + 1)
  let x40 := [x0, x1, x2, x3, x4, x5, x6, x7].getD (Int.toNat x37) 0
  let x41 := r17_0 x40
  let x42 := x41 == 1
  let x43 := x36 && x42
  let x44 := !x43
  let x45 := iland .u64 x17 18014398509481983
  let x48 := x16 == 0
  let x49 := bif x48 then x45 else x8
  let x64 := bif x44 then x49 else x8
  let x72 := bif x27 then x64 else x8
  x72
noncomputable def r15_1 (x0 : Int) (x1 : Int) (x2 : Int) (x3 : Int) (x4 : Int) (x5 : Int) (x6 : Int) (x7 : Int) (_x8 : Int) (x9 : Int) (_x10 : Int) (_x11 : Int) (_x12 : Int) (_x13 : Int) (_x14 : Int) (_x15 : Int) (x16 : Int) (x17 : Int) : Int :=
  let x18 := decide (x16 < 0)
  let x19 := decide (x16 ≥ 8)
  let x20 := x18 || x19
  let x23 := [x0, x1, x2, x3, x4, x5, x6, x7].getD (Int.toNat x16) 0
  let x24 := iland .u8 x23 128
  let x25 := x24 != 0
  let x26 := x20 || x25
  let x27 := !x26
  let x28 := IntKind.wrap .i64 (x16 + 1)
  let x29 := decide (x28 < 8)
  let x30 := IntKind.wrap .i64 (x16 + 1)
  let x33 := [x0, x1, x2, x3, x4, x5, x6, x7].getD (Int.toNat x30) 0
  let x34 := iland .u8 x33 128
  let x35 := x34 != 0
  let x36 := x29 && x35
  let x37 := IntKind.wrap .i64 (x16 + 1)
  let x40 := [x0, x1, x2, x3, x4, x5, x6, x7].getD (Int.toNat x37) 0
  let x41 := r17_0 x40
  let x42 := x41 == 1
  let x43 := x36 && x42
  let x44 := !x43
  let x45 := iland .u64 x17 18014398509481983
  let x50 := x16 == 1
  let x51 := bif x50 then x45 else x9
  let x65 := bif x44 then x51 else x9
  let x73 := bif x27 then x65 else x9
  x73
noncomputable def r15_2 (x0 : Int) (x1 : Int) (x2 : Int) (x3 : Int) (x4 : Int) (x5 : Int) (x6 : Int) (x7 : Int) (_x8 : Int) (_x9 : Int) (x10 : Int) (_x11 : Int) (_x12 : Int) (_x13 : Int) (_x14 : Int) (_x15 : Int) (x16 : Int) (x17 : Int) : Int :=
  let x18 := decide (x16 < 0)
  let x19 := decide (x16 ≥ 8)
  let x20 := x18 || x19
  let x23 := [x0, x1, x2, x3, x4, x5, x6, x7].getD (Int.toNat x16) 0
  let x24 := iland .u8 x23 128
  let x25 := x24 != 0
  let x26 := x20 || x25
  let x27 := !x26
  let x28 := IntKind.wrap .i64 (x16 + 1)
  let x29 := decide (x28 < 8)
  let x30 := IntKind.wrap .i64 (x16 + 1)
  let x33 := [x0, x1, x2, x3, x4, x5, x6, x7].getD (Int.toNat x30) 0
  let x34 := iland .u8 x33 128
  let x35 := x34 != 0
  let x36 := x29 && x35
  let x37 := IntKind.wrap .i64 (x16 + 1)
  let x40 := [x0, x1, x2, x3, x4, x5, x6, x7].getD (Int.toNat x37) 0
  let x41 := r17_0 x40
  let x42 := x41 == 1
  let x43 := x36 && x42
  let x44 := !x43
  let x45 := iland .u64 x17 18014398509481983
  let x52 := x16 == 2
  let x53 := bif x52 then x45 else x10
  let x66 := bif x44 then x53 else x10
  let x74 := bif x27 then x66 else x10
  x74
noncomputable def r15_3 (x0 : Int) (x1 : Int) (x2 : Int) (x3 : Int) (x4 : Int) (x5 : Int) (x6 : Int) (x7 : Int) (_x8 : Int) (_x9 : Int) (_x10 : Int) (x11 : Int) (_x12 : Int) (_x13 : Int) (_x14 : Int) (_x15 : Int) (x16 : Int) (x17 : Int) : Int :=
  let x18 := decide (x16 < 0)
  let x19 := decide (x16 ≥ 8)
  let x20 := x18 || x19
  let x23 := [x0, x1, x2, x3, x4, x5, x6, x7].getD (Int.toNat x16) 0
  let x24 := iland .u8 x23 128
  let x25 := x24 != 0
  let x26 := x20 || x25
  let x27 := !x26
  let x28 := IntKind.wrap .i64 (x16 + 1)
  let x29 := decide (x28 < 8)
  let x30 := IntKind.wrap .i64 (x16 + 1)
  let x33 := [x0, x1, x2, x3, x4, x5, x6, x7].getD (Int.toNat x30) 0
  let x34 := iland .u8 x33 128
  let x35 := x34 != 0
  let x36 := x29 && x35
  let x37 := IntKind.wrap .i64 (x16 + 1)
  let x40 := [x0, x1, x2, x3, x4, x5, x6, x7].getD (Int.toNat x37) 0
  let x41 := r17_0 x40
  let x42 := x41 == 1
  let x43 := x36 && x42
  let x44 := !x43
  let x45 := iland .u64 x17 18014398509481983
  let x54 := x16 == 3
  let x55 := bif x54 then x45 else x11
  let x67 := bif x44 then x55 else x11
  let x75 := bif x27 then x67 else x11
  x75
noncomputable def r15_4 (x0 : Int) (x1 : Int) (x2 : Int) (x3 : Int) (x4 : Int) (x5 : Int) (x6 : Int) (x7 : Int) (_x8 : Int) (_x9 : Int) (_x10 : Int) (_x11 : Int) (x12 : Int) (_x13 : Int) (_x14 : Int) (_x15 : Int) (x16 : Int) (x17 : Int) : Int :=
  let x18 := decide (x16 < 0)
  let x19 := decide (x16 ≥ 8)
  let x20 := x18 || x19
  let x23 := [x0, x1, x2, x3, x4, x5, x6, x7].getD (Int.toNat x16) 0
  let x24 := iland .u8 x23 128
  let x25 := x24 != 0
  let x26 := x20 || x25
  let x27 := !x26
  let x28 := IntKind.wrap .i64 (x16 + 1)
  let x29 := decide (x28 < 8)
  let x30 := IntKind.wrap .i64 (x16 + 1)
  let x33 := [x0, x1, x2, x3, x4, x5, x6, x7].getD (Int.toNat x30) 0
  let x34 := iland .u8 x33 128
  let x35 := x34 != 0
  let x36 := x29 && x35
  let x37 := IntKind.wrap .i64 (x16 + 1)
  let x40 := [x0, x1, x2, x3, x4, x5, x6, x7].getD (Int.toNat x37) 0
  let x41 := r17_0 x40
  let x42 := x41 == 1
  let x43 := x36 && x42
  let x44 := !x43
  let x45 := iland .u64 x17 18014398509481983
  let x56 := x16 == 4
  let x57 := bif x56 then x45 else x12
  let x68 := bif x44 then x57 else x12
  let x76 := bif x27 then x68 else x12
  x76
noncomputable def r15_5 (x0 : Int) (x1 : Int) (x2 : Int) (x3 : Int) (x4 : Int) (x5 : Int) (x6 : Int) (x7 : Int) (_x8 : Int) (_x9 : Int) (_x10 : Int) (_x11 : Int) (_x12 : Int) (x13 : Int) (_x14 : Int) (_x15 : Int) (x16 : Int) (x17 : Int) : Int :=
  let x18 := decide (x16 < 0)
  let x19 := decide (x16 ≥ 8)
  let x20 := x18 || x19
  let x23 := [x0, x1, x2, x3, x4, x5, x6, x7].getD (Int.toNat x16) 0
  let x24 := iland .u8 x23 128
  let x25 := x24 != 0
  let x26 := x20 || x25
  let x27 := !x26
  let x28 := IntKind.wrap .i64 (x16 + 1)
  let x29 := decide (x28 < 8)
  let x30 := IntKind.wrap .i64 (x16 + 1)
  let x33 := [x0, x1, x2, x3, x4, x5, x6, x7].getD (Int.toNat x30) 0
  let x34 := iland .u8 x33 128
  let x35 := x34 != 0
  let x36 := x29 && x35
  let x37 := IntKind.wrap .i64 (x16 + 1)
  let x40 := [x0, x1, x2, x3, x4, x5, x6, x7].getD (Int.toNat x37) 0
  let x41 := r17_0 x40
  let x42 := x41 == 1
  let x43 := x36 && x42
  let x44 := !x43
  let x45 := iland .u64 x17 18014398509481983
  let x58 := x16 == 5
  let x59 := bif x58 then x45 else x13
  let x69 := bif x44 then x59 else x13
  let x77 := bif x27 then x69 else x13
  x77
noncomputable def r15_6 (x0 : Int) (x1 : Int) (x2 : Int) (x3 : Int) (x4 : Int) (x5 : Int) (x6 : Int) (x7 : Int) (_x8 : Int) (_x9 : Int) (_x10 : Int) (_x11 : Int) (_x12 : Int) (_x13 : Int) (x14 : Int) (_x15 : Int) (x16 : Int) (x17 : Int) : Int :=
  let x18 := decide (x16 < 0)
  let x19 := decide (x16 ≥ 8)
  let x20 := x18 || x19
  let x23 := [x0, x1, x2, x3, x4, x5, x6, x7].getD (Int.toNat x16) 0
  let x24 := iland .u8 x23 128
  let x25 := x24 != 0
  let x26 := x20 || x25
  let x27 := !x26
  let x28 := IntKind.wrap .i64 (x16 + 1)
  let x29 := decide (x28 < 8)
  let x30 := IntKind.wrap .i64 (x16 + 1)
  let x33 := [x0, x1, x2, x3, x4, x5, x6, x7].getD (Int.toNat x30) 0
  let x34 := iland .u8 x33 128
  let x35 := x34 != 0
  let x36 := x29 && x35
  let x37 := IntKind.wrap .i64 (x16 + 1)
  let x40 := [x0, x1, x2, x3, x4, x5, x6, x7].getD (Int.toNat x37) 0
  let x41 := r17_0 x40
  let x42 := x41 == 1
  let x43 := x36 && x42
  let x44 := !x43
  let x45 := iland .u64 x17 18014398509481983
  let x60 := x16 == 6
  let x61 := bif x60 then x45 else x14
  let x70 := bif x44 then x61 else x14
  let x78 := bif x27 then x70 else x14
  x78
noncomputable def r15_7 (x0 : Int) (x1 : Int) (x2 : Int) (x3 : Int) (x4 : Int) (x5 : Int) (x6 : Int) (x7 : Int) (_x8 : Int) (_x9 : Int) (_x10 : Int) (_x11 : Int) (_x12 : Int) (_x13 : Int) (_x14 : Int) (x15 : Int) (x16 : Int) (x17 : Int) : Int :=
  let x18 := decide (x16 < 0)
  let x19 := decide (x16 ≥ 8)
  let x20 := x18 || x19
  let x23 := [x0, x1, x2, x3, x4, x5, x6, x7].getD (Int.toNat x16) 0
  let x24 := iland .u8 x23 128
  let x25 := x24 != 0
  let x26 := x20 || x25
  let x27 := !x26
  let x28 := IntKind.wrap .i64 (x16 + 1)
  let x29 := decide (x28 < 8)
  let x30 := IntKind.wrap .i64 (x16 + 1)
  let x33 := [x0, x1, x2, x3, x4, x5, x6, x7].getD (Int.toNat x30) 0
  let x34 := iland .u8 x33 128
  let x35 := x34 != 0
  let x36 := x29 && x35
  let x37 := IntKind.wrap .i64 (x16 + 1)
  let x40 := [x0, x1, x2, x3, x4, x5, x6, x7].getD (Int.toNat x37) 0
  let x41 := r17_0 x40
  let x42 := x41 == 1
  let x43 := x36 && x42
  let x44 := !x43
  let x45 := iland .u64 x17 18014398509481983
  let x62 := x16 == 7
  let x63 := bif x62 then x45 else x15
  let x71 := bif x44 then x63 else x15
  let x79 := bif x27 then x71 else x15
  x79
noncomputable def g15 (ds : List DV) : List DV := [.b (p15 (dget ds 0).toI (dget ds 1).toI (dget ds 2).toI (dget ds 3).toI (dget ds 4).toI (dget ds 5).toI (dget ds 6).toI (dget ds 7).toI (dget ds 8).toI (dget ds 9).toI (dget ds 10).toI (dget ds 11).toI (dget ds 12).toI (dget ds 13).toI (dget ds 14).toI (dget ds 15).toI (dget ds 16).toI (dget ds 17).toI), .i (r15_0 (dget ds 0).toI (dget ds 1).toI (dget ds 2).toI (dget ds 3).toI (dget ds 4).toI (dget ds 5).toI (dget ds 6).toI (dget ds 7).toI (dget ds 8).toI (dget ds 9).toI (dget ds 10).toI (dget ds 11).toI (dget ds 12).toI (dget ds 13).toI (dget ds 14).toI (dget ds 15).toI (dget ds 16).toI (dget ds 17).toI), .i (r15_1 (dget ds 0).toI (dget ds 1).toI (dget ds 2).toI (dget ds 3).toI (dget ds 4).toI (dget ds 5).toI (dget ds 6).toI (dget ds 7).toI (dget ds 8).toI (dget ds 9).toI (dget ds 10).toI (dget ds 11).toI (dget ds 12).toI (dget ds 13).toI (dget ds 14).toI (dget ds 15).toI (dget ds 16).toI (dget ds 17).toI), .i (r15_2 (dget ds 0).toI (dget ds 1).toI (dget ds 2).toI (dget ds 3).toI (dget ds 4).toI (dget ds 5).toI (dget ds 6).toI (dget ds 7).toI (dget ds 8).toI (dget ds 9).toI (dget ds 10).toI (dget ds 11).toI (dget ds 12).toI (dget ds 13).toI (dget ds 14).toI (dget ds 15).toI (dget ds 16).toI (dget ds 17).toI), .i (r15_3 (dget ds 0).toI (dget ds 1).toI (dget ds 2).toI (dget ds 3).toI (dget ds 4).toI (dget ds 5).toI (dget ds 6).toI (dget ds 7).toI (dget ds 8).toI (dget ds 9).toI (dget ds 10).toI (dget ds 11).toI (dget ds 12).toI (dget ds 13).toI (dget ds 14).toI (dget ds 15).toI (dget ds 16).toI (dget ds 17).toI), .i (r15_4 (dget ds 0).toI (dget ds 1).toI (dget ds 2).toI (dget ds 3).toI (dget ds 4).toI (dget ds 5).toI (dget ds 6).toI (dget ds 7).toI (dget ds 8).toI (dget ds 9).toI (dget ds 10).toI (dget ds 11).toI (dget ds 12).toI (dget ds 13).toI (dget ds 14).toI (dget ds 15).toI (dget ds 16).toI (dget ds 17).toI), .i (r15_5 (dget ds 0).toI (dget ds 1).toI (dget ds 2).toI (dget ds 3).toI (dget ds 4).toI (dget ds 5).toI (dget ds 6).toI (dget ds 7).toI (dget ds 8).toI (dget ds 9).toI (dget ds 10).toI (dget ds 11).toI (dget ds 12).toI (dget ds 13).toI (dget ds 14).toI (dget ds 15).toI (dget ds 16).toI (dget ds 17).toI), .i (r15_6 (dget ds 0).toI (dget ds 1).toI (dget ds 2).toI (dget ds 3).toI (dget ds 4).toI (dget ds 5).toI (dget ds 6).toI (dget ds 7).toI (dget ds 8).toI (dget ds 9).toI (dget ds 10).toI (dget ds 11).toI (dget ds 12).toI (dget ds 13).toI (dget ds 14).toI (dget ds 15).toI (dget ds 16).toI (dget ds 17).toI), .i (r15_7 (dget ds 0).toI (dget ds 1).toI (dget ds 2).toI (dget ds 3).toI (dget ds 4).toI (dget ds 5).toI (dget ds 6).toI (dget ds 7).toI (dget ds 8).toI (dget ds 9).toI (dget ds 10).toI (dget ds 11).toI (dget ds 12).toI (dget ds 13).toI (dget ds 14).toI (dget ds 15).toI (dget ds 16).toI (dget ds 17).toI)]
def S15 : Sigs := ⟨[(17, s17)], [], []⟩
theorem ev15 : evFn Tryd.prog S15 2000 Tryd.f15 s15 = some o15 := by kernel_rfl

/-! tandem/tandemlaw11.fixed -/
def s10 : Sig := ⟨[], [.one (.bool)], true⟩
def o10 : Out := ⟨[(0, .call 8 [.z 25, .z 0, .z 0, .z 0, .z 0, .z 0, .z 0, .z 0, .z 536870912, .z 0, .z 0, .z 0, .z 0, .z 0, .z 0, .z 0, .z 0] 0), (1, .call 8 [.z 25, .z 0, .z 0, .z 0, .z 0, .z 0, .z 0, .z 0, .z 536870912, .z 0, .z 0, .z 0, .z 0, .z 0, .z 0, .z 0, .z 0] 1), (2, .call 8 [.z 25, .z 0, .z 0, .z 0, .z 0, .z 0, .z 0, .z 0, .z 536870912, .z 0, .z 0, .z 0, .z 0, .z 0, .z 0, .z 0, .z 0] 2), (3, .call 8 [.z 25, .z 0, .z 0, .z 0, .z 0, .z 0, .z 0, .z 0, .z 536870912, .z 0, .z 0, .z 0, .z 0, .z 0, .z 0, .z 0, .z 0] 3), (4, .call 13 [.z 0, .z 128, .z 0, .z 0, .z 0, .z 0, .z 0, .z 0, .z 2047] 0), (5, .call 13 [.z 0, .z 128, .z 0, .z 0, .z 0, .z 0, .z 0, .z 0, .z 2047] 1), (6, .call 13 [.z 0, .z 128, .z 0, .z 0, .z 0, .z 0, .z 0, .z 0, .z 2047] 2), (7, .call 13 [.z 0, .z 128, .z 0, .z 0, .z 0, .z 0, .z 0, .z 0, .z 2047] 3), (8, .call 13 [.z 0, .z 128, .z 0, .z 0, .z 0, .z 0, .z 0, .z 0, .z 2047] 4), (9, .call 13 [.z 0, .z 128, .z 0, .z 0, .z 0, .z 0, .z 0, .z 0, .z 2047] 5), (10, .call 13 [.z 0, .z 128, .z 0, .z 0, .z 0, .z 0, .z 0, .z 0, .z 2047] 6), (11, .call 13 [.z 0, .z 128, .z 0, .z 0, .z 0, .z 0, .z 0, .z 0, .z 2047] 7), (12, .call 15 [.z 25, .z 0, .z 0, .z 0, .z 0, .z 0, .z 0, .z 0, .z 536870912, .z 0, .z 0, .z 0, .z 0, .z 0, .z 0, .z 0, .z 2, .z 18446744073709551615] 0), (13, .call 15 [.z 25, .z 0, .z 0, .z 0, .z 0, .z 0, .z 0, .z 0, .z 536870912, .z 0, .z 0, .z 0, .z 0, .z 0, .z 0, .z 0, .z 2, .z 18446744073709551615] 1), (14, .call 15 [.z 25, .z 0, .z 0, .z 0, .z 0, .z 0, .z 0, .z 0, .z 536870912, .z 0, .z 0, .z 0, .z 0, .z 0, .z 0, .z 0, .z 2, .z 18446744073709551615] 2), (15, .call 15 [.z 25, .z 0, .z 0, .z 0, .z 0, .z 0, .z 0, .z 0, .z 536870912, .z 0, .z 0, .z 0, .z 0, .z 0, .z 0, .z 0, .z 2, .z 18446744073709551615] 3), (16, .call 15 [.z 25, .z 0, .z 0, .z 0, .z 0, .z 0, .z 0, .z 0, .z 536870912, .z 0, .z 0, .z 0, .z 0, .z 0, .z 0, .z 0, .z 2, .z 18446744073709551615] 4), (17, .call 15 [.z 25, .z 0, .z 0, .z 0, .z 0, .z 0, .z 0, .z 0, .z 536870912, .z 0, .z 0, .z 0, .z 0, .z 0, .z 0, .z 0, .z 2, .z 18446744073709551615] 5), (18, .call 15 [.z 25, .z 0, .z 0, .z 0, .z 0, .z 0, .z 0, .z 0, .z 536870912, .z 0, .z 0, .z 0, .z 0, .z 0, .z 0, .z 0, .z 2, .z 18446744073709551615] 6), (19, .call 15 [.z 25, .z 0, .z 0, .z 0, .z 0, .z 0, .z 0, .z 0, .z 536870912, .z 0, .z 0, .z 0, .z 0, .z 0, .z 0, .z 0, .z 2, .z 18446744073709551615] 7), (20, .call 15 [.z 25, .z 0, .z 0, .z 0, .z 0, .z 0, .z 0, .z 0, .z 536870912, .z 0, .z 0, .z 0, .z 0, .z 0, .z 0, .z 0, .z 2, .z 18446744073709551615] 8), (21, .eql (.r 1) (.z 2147483648)), (22, .and (.r 3) (.r 21)), (23, .eql (.r 2) (.z 2147483655)), (24, .and (.r 22) (.r 23)), (25, .call 11 [.z 25, .z 0, .z 0, .z 0, .z 0, .z 0, .z 0, .z 0, .z 536870912, .z 0, .z 0, .z 0, .z 0, .z 0, .z 0, .z 0, .z 1, .z 1, .z 2147483648, .z 8] 0), (26, .call 11 [.z 25, .z 0, .z 0, .z 0, .z 0, .z 0, .z 0, .z 0, .z 536870912, .z 0, .z 0, .z 0, .z 0, .z 0, .z 0, .z 0, .z 1, .z 1, .z 2147483648, .z 8] 1), (27, .and (.r 24) (.r 26)), (28, .call 11 [.z 25, .z 0, .z 0, .z 0, .z 0, .z 0, .z 0, .z 0, .z 536870912, .z 0, .z 0, .z 0, .z 0, .z 0, .z 0, .z 0, .z 1, .z 2, .z 2147483648, .z 8] 0), (29, .call 11 [.z 25, .z 0, .z 0, .z 0, .z 0, .z 0, .z 0, .z 0, .z 536870912, .z 0, .z 0, .z 0, .z 0, .z 0, .z 0, .z 0, .z 1, .z 2, .z 2147483648, .z 8] 1), (30, .not (.r 29)), (31, .and (.r 27) (.r 30)), (32, .eql (.r 4) (.z 159)), (33, .and (.r 31) (.r 32)), (34, .eql (.r 5) (.z 128)), (35, .and (.r 33) (.r 34)), (36, .eql (.r 15) (.z 18014398509481983)), (37, .and (.r 35) (.r 36)), (38, .eql (.r 13) (.z 536870912)), (39, .and (.r 37) (.r 38))],
  [⟨[], .r 0⟩, ⟨[], .r 12⟩, ⟨[(.r 24, true)], .r 25⟩, ⟨[(.r 27, true)], .r 28⟩],
  [],
  [.r 39]⟩
noncomputable def p10  : Bool :=
  let x0 := p8 25 0 0 0 0 0 0 0 536870912 0 0 0 0 0 0 0 0
  let x1 := r8_0 25 0 0 0 0 0 0 0 536870912 0 0 0 0 0 0 0 0
  let x2 := r8_1 25 0 0 0 0 0 0 0 536870912 0 0 0 0 0 0 0 0
  let x3 := r8_2 25 0 0 0 0 0 0 0 536870912 0 0 0 0 0 0 0 0
  let x12 := p15 25 0 0 0 0 0 0 0 536870912 0 0 0 0 0 0 0 2 18446744073709551615
  let x21 := x1 == 2147483648
  let x22 := x3 && x21
  let x23 := x2 == 2147483655
  let x24 := x22 && x23
  let x25 := p11 25 0 0 0 0 0 0 0 536870912 0 0 0 0 0 0 0 1 1 2147483648 8
  let x26 := r11_0 25 0 0 0 0 0 0 0 536870912 0 0 0 0 0 0 0 1 1 2147483648 8
  let x27 := x24 && x26
  let x28 := p11 25 0 0 0 0 0 0 0 536870912 0 0 0 0 0 0 0 1 2 2147483648 8
  [ow [] x0, ow [] x12, ow [(x24, true)] x25, ow [(x27, true)] x28].all id
noncomputable def r10_0  : Bool :=
  let x1 := r8_0 25 0 0 0 0 0 0 0 536870912 0 0 0 0 0 0 0 0
  let x2 := r8_1 25 0 0 0 0 0 0 0 536870912 0 0 0 0 0 0 0 0
  let x3 := r8_2 25 0 0 0 0 0 0 0 536870912 0 0 0 0 0 0 0 0
  let x4 := r13_0 0 128 0 0 0 0 0 0 2047
  let x5 := r13_1 0 128 0 0 0 0 0 0 2047
  let x13 := r15_0 25 0 0 0 0 0 0 0 536870912 0 0 0 0 0 0 0 2 18446744073709551615
  let x15 := r15_2 25 0 0 0 0 0 0 0 536870912 0 0 0 0 0 0 0 2 18446744073709551615
  let x21 := x1 == 2147483648
  let x22 := x3 && x21
  let x23 := x2 == 2147483655
  let x24 := x22 && x23
  let x26 := r11_0 25 0 0 0 0 0 0 0 536870912 0 0 0 0 0 0 0 1 1 2147483648 8
  let x27 := x24 && x26
  let x29 := r11_0 25 0 0 0 0 0 0 0 536870912 0 0 0 0 0 0 0 1 2 2147483648 8
  let x30 := !x29
  let x31 := x27 && x30
  let x32 := x4 == 159
  let x33 := x31 && x32
  let x34 := x5 == 128
  let x35 := x33 && x34
  let x36 := x15 == 18014398509481983
  let x37 := x35 && x36
  let x38 := x13 == 536870912
  let x39 := x37 && x38
  x39
noncomputable def g10 (_ds : List DV) : List DV := [.b (p10 ), .b (r10_0 )]
def S10 : Sigs := ⟨[(8, s8), (13, s13), (15, s15), (11, s11)], [], []⟩
theorem ev10 : evFn Tryd.prog S10 2000 Tryd.f10 s10 = some o10 := by kernel_rfl

/-! tandem/tandemref11.address -/
def s19 : Sig := ⟨[.one (.int .u64)], [.one (.int .u64)], false⟩
def o19 : Out := ⟨[(1, .rem .u64 (.r 0) (.z 18014398509481984))],
  [],
  [],
  [.r 1]⟩
noncomputable def r19_0 (x0 : Int) : Int :=
  let x1 := Int.tmod x0 18014398509481984
  x1
noncomputable def g19 (ds : List DV) : List DV := [.i (r19_0 (dget ds 0).toI)]
def S19 : Sigs := ⟨[], [], []⟩
theorem ev19 : evFn Tryd.prog S19 2000 Tryd.f19 s19 = some o19 := by kernel_rfl

/-! tandem/tandemref11.bit -/
def s22 : Sig := ⟨[.one (.int .u8), .one (.int .i64)], [.one (.bool)], true⟩
def o22 : Out := ⟨[(2, .geq (.r 1) (.z 0)), (3, .shr .u8 (.r 0) (.r 1)), (4, .land .u8 (.r 3) (.z 1)), (5, .eql (.r 4) (.z 1))],
  [⟨[], .r 2⟩],
  [],
  [.r 5]⟩
noncomputable def p22 (_x0 : Int) (x1 : Int) : Bool :=
  let x2 := decide (x1 ≥ 0)
  [ow [] x2].all id
noncomputable def r22_0 (x0 : Int) (x1 : Int) : Bool :=
  let x3 := ishr .u8 x0 x1
  let x4 := iland .u8 x3 1
  let x5 := x4 == 1
  x5
noncomputable def g22 (ds : List DV) : List DV := [.b (p22 (dget ds 0).toI (dget ds 1).toI), .b (r22_0 (dget ds 0).toI (dget ds 1).toI)]
def S22 : Sigs := ⟨[], [], []⟩
theorem ev22 : evFn Tryd.prog S22 2000 Tryd.f22 s22 = some o22 := by kernel_rfl

/-! tandem/tandemref11.way -/
def s20 : Sig := ⟨[.one (.int .u8)], [.one (.int .i64)], true⟩
def o20 : Out := ⟨[(1, .call 22 [.r 0, .z 3] 0), (2, .call 22 [.r 0, .z 3] 1), (3, .itei (.r 2) (.z 1) (.z 0)), (4, .call 22 [.r 0, .z 4] 0), (5, .call 22 [.r 0, .z 4] 1), (6, .add .i64 (.r 3) (.z 2)), (7, .itei (.r 5) (.r 6) (.r 3))],
  [⟨[], .r 1⟩, ⟨[], .r 4⟩],
  [],
  [.r 7]⟩
noncomputable def p20 (x0 : Int) : Bool :=
  let x1 := p22 x0 3
  let x4 := p22 x0 4
  [ow [] x1, ow [] x4].all id
noncomputable def r20_0 (x0 : Int) : Int :=
  let x2 := r22_0 x0 3
  let x3 := bif x2 then 1 else 0
  let x5 := r22_0 x0 4
  let x6 := IntKind.wrap .i64 (x3 + 2)
  let x7 := bif x5 then x6 else x3
  x7
noncomputable def g20 (ds : List DV) : List DV := [.b (p20 (dget ds 0).toI), .i (r20_0 (dget ds 0).toI)]
def S20 : Sigs := ⟨[(22, s22)], [], []⟩
theorem ev20 : evFn Tryd.prog S20 2000 Tryd.f20 s20 = some o20 := by kernel_rfl

/-! tandem/tandemref11.Address -/
def s16 : Sig := ⟨[.agg [.int .u8, .int .u8, .int .u8, .int .u8, .int .u8, .int .u8, .int .u8, .int .u8], .agg [.int .u64, .int .u64, .int .u64, .int .u64, .int .u64, .int .u64, .int .u64, .int .u64], .one (.int .i64), .one (.int .u64)], [.agg [.int .u64, .int .u64, .int .u64, .int .u64, .int .u64, .int .u64, .int .u64, .int .u64]], true⟩
def o16 : Out := ⟨[(18, .lss (.r 16) (.z 0)), (19, .gtr (.r 16) (.z 7)), (20, .or (.r 18) (.r 19)), (21, .not (.r 20)), (22, .geq (.r 16) (.z 0)), (23, .lss (.r 16) (.z 8)), (24, .seli [.r 0, .r 1, .r 2, .r 3, .r 4, .r 5, .r 6, .r 7] (.r 16)), (25, .call 22 [.r 24, .z 7] 0), (26, .call 22 [.r 24, .z 7] 1), (27, .lss (.r 16) (.z 7)), (28, .add .i64 (.r 16) (.z 1)), (29, .geq (.r 28) (.z 0)), (30, .lss (.r 28) (.z 8)), (31, .seli [.r 0, .r 1, .r 2, .r 3, .r 4, .r 5, .r 6, .r 7] (.r 28)), (32, .call 22 [.r 31, .z 7] 0), (33, .call 22 [.r 31, .z 7] 1), (34, .add .i64 (.r 16) (.z 1)), (35, .geq (.r 34) (.z 0)), (36, .lss (.r 34) (.z 8)), (37, .seli [.r 0, .r 1, .r 2, .r 3, .r 4, .r 5, .r 6, .r 7] (.r 34)), (38, .call 20 [.r 37] 0), (39, .call 20 [.r 37] 1), (40, .eql (.r 39) (.z 1)), (41, .and (.r 33) (.r 40)), (42, .or (.r 26) (.r 41)), (43, .iteb (.r 27) (.r 42) (.r 26)), (44, .not (.r 43)), (45, .call 19 [.r 17] 0), (46, .geq (.r 16) (.z 0)), (47, .lss (.r 16) (.z 8)), (48, .eql (.r 16) (.z 0)), (49, .itei (.r 48) (.r 45) (.r 8)), (50, .eql (.r 16) (.z 1)), (51, .itei (.r 50) (.r 45) (.r 9)), (52, .eql (.r 16) (.z 2)), (53, .itei (.r 52) (.r 45) (.r 10)), (54, .eql (.r 16) (.z 3)), (55, .itei (.r 54) (.r 45) (.r 11)), (56, .eql (.r 16) (.z 4)), (57, .itei (.r 56) (.r 45) (.r 12)), (58, .eql (.r 16) (.z 5)), (59, .itei (.r 58) (.r 45) (.r 13)), (60, .eql (.r 16) (.z 6)), (61, .itei (.r 60) (.r 45) (.r 14)), (62, .eql (.r 16) (.z 7)), (63, .itei (.r 62) (.r 45) (.r 15)), (64, .itei (.r 44) (.r 49) (.r 8)), (65, .itei (.r 44) (.r 51) (.r 9)), (66, .itei (.r 44) (.r 53) (.r 10)), (67, .itei (.r 44) (.r 55) (.r 11)), (68, .itei (.r 44) (.r 57) (.r 12)), (69, .itei (.r 44) (.r 59) (.r 13)), (70, .itei (.r 44) (.r 61) (.r 14)), (71, .itei (.r 44) (.r 63) (.r 15)), (72, .itei (.r 21) (.r 64) (.r 8)), (73, .itei (.r 21) (.r 65) (.r 9)), (74, .itei (.r 21) (.r 66) (.r 10)), (75, .itei (.r 21) (.r 67) (.r 11)), (76, .itei (.r 21) (.r 68) (.r 12)), (77, .itei (.r 21) (.r 69) (.r 13)), (78, .itei (.r 21) (.r 70) (.r 14)), (79, .itei (.r 21) (.r 71) (.r 15))],
  [⟨[(.r 21, true)], .r 22⟩, ⟨[(.r 21, true)], .r 23⟩, ⟨[(.r 21, true)], .r 25⟩, ⟨[(.r 21, true), (.r 27, true)], .r 29⟩, ⟨[(.r 21, true), (.r 27, true)], .r 30⟩, ⟨[(.r 21, true), (.r 27, true)], .r 32⟩, ⟨[(.r 21, true), (.r 27, true), (.r 33, true), (.r 26, false)], .r 35⟩, ⟨[(.r 21, true), (.r 27, true), (.r 33, true), (.r 26, false)], .r 36⟩, ⟨[(.r 21, true), (.r 27, true), (.r 33, true), (.r 26, false)], .r 38⟩, ⟨[(.r 21, true), (.r 44, true)], .r 46⟩, ⟨[(.r 21, true), (.r 44, true)], .r 47⟩],
  [],
  [.r 72, .r 73, .r 74, .r 75, .r 76, .r 77, .r 78, .r 79]⟩
noncomputable def p16 (x0 : Int) (x1 : Int) (x2 : Int) (x3 : Int) (x4 : Int) (x5 : Int) (x6 : Int) (x7 : Int) (_x8 : Int) (_x9 : Int) (_x10 : Int) (_x11 : Int) (_x12 : Int) (_x13 : Int) (_x14 : Int) (_x15 : Int) (x16 : Int) (_x17 : Int) : Bool :=
  let x18 := decide (x16 < 0)
  let x19 := decide (x16 > 7)
  let x20 := x18 || x19
  let x21 := !x20
  let x22 := decide (x16 ≥ 0)
  let x23 := decide (x16 < 8)
  let x24 := [x0, x1, x2, x3, x4, x5, x6, x7].getD (Int.toNat x16) 0
  let x25 := p22 x24 7
  let x26 := r22_0 x24 7
  let x27 := decide (x16 < 7)
  let x28 := IntKind.wrap .i64 (x16 + 1)
  let x29 := decide (x28 ≥ 0)
  let x30 := decide (x28 < 8)
  let x31 := [x0, x1, x2, x3, x4, x5, x6, x7].getD (Int.toNat x28) 0
  let x32 := p22 x31 7
  let x33 := r22_0 x31 7
  let x34 := IntKind.wrap .i64 (x16 + 1)
  let x35 := decide (x34 ≥ 0)
  let x36 := decide (x34 < 8)
  let x37 := [x0, x1, x2, x3, x4, x5, x6, x7].getD (Int.toNat x34) 0
  let x38 := p20 x37
  let x39 := r20_0 x37
  let x40 := x39 == 1
  let x41 := x33 && x40
  let x42 := x26 || x41
  let x43 := bif x27 then x42 else x26
  let x44 := !x43
  let x46 := decide (x16 ≥ 0)
  let x47 := decide (x16 < 8)
  [ow [(x21, true)] x22, ow [(x21, true)] x23, ow [(x21, true)] x25, ow [(x21, true), (x27, true)] x29, ow [(x21, true), (x27, true)] x30, ow [(x21, true), (x27, true)] x32, ow [(x21, true), (x27, true), (x33, true), (x26, false)] x35, ow [(x21, true), (x27, true), (x33, true), (x26, false)] x36, ow [(x21, true), (x27, true), (x33, true), (x26, false)] x38, ow [(x21, true), (x44, true)] x46, ow [(x21, true), (x44, true)] x47].all id
noncomputable def r16_0 (x0 : Int) (x1 : Int) (x2 : Int) (x3 : Int) (x4 : Int) (x5 : Int) (x6 : Int) (x7 : Int) (x8 : Int) (_x9 : Int) (_x10 : Int) (_x11 : Int) (_x12 : Int) (_x13 : Int) (_x14 : Int) (_x15 : Int) (x16 : Int) (x17 : Int) : Int :=
  let x18 := decide (x16 < 0)
  let x19 := decide (x16 > 7)
  let x20 := x18 || x19
  let x21 := !x20
  let x24 := [x0, x1, x2, x3, x4, x5, x6, x7].getD (Int.toNat x16) 0
  let x26 := r22_0 x24 7
  let x27 := decide (x16 < 7)
  let x28 := IntKind.wrap .i64 (x16 + 1)
  let x31 := [x0, x1, x2, x3, x4, x5, x6, x7].getD (Int.toNat x28) 0
  let x33 := r22_0 x31 7
  let x34 := IntKind.wrap .i64 (x16 + 1)
  let x37 := [x0, x1, x2, x3, x4, x5, x6, x7].getD (Int.toNat x34) 0
  let x39 := r20_0 x37
  let x40 := x39 == 1
  let x41 := x33 && x40
  let x42 := x26 || x41
  let x43 := bif x27 then x42 else x26
  let x44 := !x43
  let x45 := r19_0 x17
  let x48 := x16 == 0
  let x49 := bif x48 then x45 else x8
  let x64 := bif x44 then x49 else x8
  let x72 := bif x21 then x64 else x8
  x72
noncomputable def r16_1 (x0 : Int) (x1 : Int) (x2 : Int) (x3 : Int) (x4 : Int) (x5 : Int) (x6 : Int) (x7 : Int) (_x8 : Int) (x9 : Int) (_x10 : Int) (_x11 : Int) (_x12 : Int) (_x13 : Int) (_x14 : Int) (_x15 : Int) (x16 : Int) (x17 : Int) : Int :=
  let x18 := decide (x16 < 0)
  let x19 := decide (x16 > 7)
  let x20 := x18 || x19
  let x21 := !x20
  let x24 := [x0, x1, x2, x3, x4, x5, x6, x7].getD (Int.toNat x16) 0
  let x26 := r22_0 x24 7
  let x27 := decide (x16 < 7)
  let x28 := IntKind.wrap .i64 (x16 + 1)
  let x31 := [x0, x1, x2, x3, x4, x5, x6, x7].getD (Int.toNat x28) 0
  let x33 := r22_0 x31 7
  let x34 := IntKind.wrap .i64 (x16 + 1)
  let x37 := [x0, x1, x2, x3, x4, x5, x6, x7].getD (Int.toNat x34) 0
  let x39 := r20_0 x37
  let x40 := x39 == 1
  let x41 := x33 && x40
  let x42 := x26 || x41
  let x43 := bif x27 then x42 else x26
  let x44 := !x43
  let x45 := r19_0 x17
  let x50 := x16 == 1
  let x51 := bif x50 then x45 else x9
  let x65 := bif x44 then x51 else x9
  let x73 := bif x21 then x65 else x9
  x73
noncomputable def r16_2 (x0 : Int) (x1 : Int) (x2 : Int) (x3 : Int) (x4 : Int) (x5 : Int) (x6 : Int) (x7 : Int) (_x8 : Int) (_x9 : Int) (x10 : Int) (_x11 : Int) (_x12 : Int) (_x13 : Int) (_x14 : Int) (_x15 : Int) (x16 : Int) (x17 : Int) : Int :=
  let x18 := decide (x16 < 0)
  let x19 := decide (x16 > 7)
  let x20 := x18 || x19
  let x21 := !x20
  let x24 := [x0, x1, x2, x3, x4, x5, x6, x7].getD (Int.toNat x16) 0
  let x26 := r22_0 x24 7
  let x27 := decide (x16 < 7)
  let x28 := IntKind.wrap .i64 (x16 + 1)
  let x31 := [x0, x1, x2, x3, x4, x5, x6, x7].getD (Int.toNat x28) 0
  let x33 := r22_0 x31 7
  let x34 := IntKind.wrap .i64 (x16 + 1)
  let x37 := [x0, x1, x2, x3, x4, x5, x6, x7].getD (Int.toNat x34) 0
  let x39 := r20_0 x37
  let x40 := x39 == 1
  let x41 := x33 && x40
  let x42 := x26 || x41
  let x43 := bif x27 then x42 else x26
  let x44 := !x43
  let x45 := r19_0 x17
  let x52 := x16 == 2
  let x53 := bif x52 then x45 else x10
  let x66 := bif x44 then x53 else x10
  let x74 := bif x21 then x66 else x10
  x74
noncomputable def r16_3 (x0 : Int) (x1 : Int) (x2 : Int) (x3 : Int) (x4 : Int) (x5 : Int) (x6 : Int) (x7 : Int) (_x8 : Int) (_x9 : Int) (_x10 : Int) (x11 : Int) (_x12 : Int) (_x13 : Int) (_x14 : Int) (_x15 : Int) (x16 : Int) (x17 : Int) : Int :=
  let x18 := decide (x16 < 0)
  let x19 := decide (x16 > 7)
  let x20 := x18 || x19
  let x21 := !x20
  let x24 := [x0, x1, x2, x3, x4, x5, x6, x7].getD (Int.toNat x16) 0
  let x26 := r22_0 x24 7
  let x27 := decide (x16 < 7)
  let x28 := IntKind.wrap .i64 (x16 + 1)
  let x31 := [x0, x1, x2, x3, x4, x5, x6, x7].getD (Int.toNat x28) 0
  let x33 := r22_0 x31 7
  let x34 := IntKind.wrap .i64 (x16 + 1)
  let x37 := [x0, x1, x2, x3, x4, x5, x6, x7].getD (Int.toNat x34) 0
  let x39 := r20_0 x37
  let x40 := x39 == 1
  let x41 := x33 && x40
  let x42 := x26 || x41
  let x43 := bif x27 then x42 else x26
  let x44 := !x43
  let x45 := r19_0 x17
  let x54 := x16 == 3
  let x55 := bif x54 then x45 else x11
  let x67 := bif x44 then x55 else x11
  let x75 := bif x21 then x67 else x11
  x75
noncomputable def r16_4 (x0 : Int) (x1 : Int) (x2 : Int) (x3 : Int) (x4 : Int) (x5 : Int) (x6 : Int) (x7 : Int) (_x8 : Int) (_x9 : Int) (_x10 : Int) (_x11 : Int) (x12 : Int) (_x13 : Int) (_x14 : Int) (_x15 : Int) (x16 : Int) (x17 : Int) : Int :=
  let x18 := decide (x16 < 0)
  let x19 := decide (x16 > 7)
  let x20 := x18 || x19
  let x21 := !x20
  let x24 := [x0, x1, x2, x3, x4, x5, x6, x7].getD (Int.toNat x16) 0
  let x26 := r22_0 x24 7
  let x27 := decide (x16 < 7)
  let x28 := IntKind.wrap .i64 (x16 + 1)
  let x31 := [x0, x1, x2, x3, x4, x5, x6, x7].getD (Int.toNat x28) 0
  let x33 := r22_0 x31 7
  let x34 := IntKind.wrap .i64 (x16 + 1)
  let x37 := [x0, x1, x2, x3, x4, x5, x6, x7].getD (Int.toNat x34) 0
  let x39 := r20_0 x37
  let x40 := x39 == 1
  let x41 := x33 && x40
  let x42 := x26 || x41
  let x43 := bif x27 then x42 else x26
  let x44 := !x43
  let x45 := r19_0 x17
  let x56 := x16 == 4
  let x57 := bif x56 then x45 else x12
  let x68 := bif x44 then x57 else x12
  let x76 := bif x21 then x68 else x12
  x76
noncomputable def r16_5 (x0 : Int) (x1 : Int) (x2 : Int) (x3 : Int) (x4 : Int) (x5 : Int) (x6 : Int) (x7 : Int) (_x8 : Int) (_x9 : Int) (_x10 : Int) (_x11 : Int) (_x12 : Int) (x13 : Int) (_x14 : Int) (_x15 : Int) (x16 : Int) (x17 : Int) : Int :=
  let x18 := decide (x16 < 0)
  let x19 := decide (x16 > 7)
  let x20 := x18 || x19
  let x21 := !x20
  let x24 := [x0, x1, x2, x3, x4, x5, x6, x7].getD (Int.toNat x16) 0
  let x26 := r22_0 x24 7
  let x27 := decide (x16 < 7)
  let x28 := IntKind.wrap .i64 (x16 + 1)
  let x31 := [x0, x1, x2, x3, x4, x5, x6, x7].getD (Int.toNat x28) 0
  let x33 := r22_0 x31 7
  let x34 := IntKind.wrap .i64 (x16 + 1)
  let x37 := [x0, x1, x2, x3, x4, x5, x6, x7].getD (Int.toNat x34) 0
  let x39 := r20_0 x37
  let x40 := x39 == 1
  let x41 := x33 && x40
  let x42 := x26 || x41
  let x43 := bif x27 then x42 else x26
  let x44 := !x43
  let x45 := r19_0 x17
  let x58 := x16 == 5
  let x59 := bif x58 then x45 else x13
  let x69 := bif x44 then x59 else x13
  let x77 := bif x21 then x69 else x13
  x77
noncomputable def r16_6 (x0 : Int) (x1 : Int) (x2 : Int) (x3 : Int) (x4 : Int) (x5 : Int) (x6 : Int) (x7 : Int) (_x8 : Int) (_x9 : Int) (_x10 : Int) (_x11 : Int) (_x12 : Int) (_x13 : Int) (x14 : Int) (_x15 : Int) (x16 : Int) (x17 : Int) : Int :=
  let x18 := decide (x16 < 0)
  let x19 := decide (x16 > 7)
  let x20 := x18 || x19
  let x21 := !x20
  let x24 := [x0, x1, x2, x3, x4, x5, x6, x7].getD (Int.toNat x16) 0
  let x26 := r22_0 x24 7
  let x27 := decide (x16 < 7)
  let x28 := IntKind.wrap .i64 (x16 + 1)
  let x31 := [x0, x1, x2, x3, x4, x5, x6, x7].getD (Int.toNat x28) 0
  let x33 := r22_0 x31 7
  let x34 := IntKind.wrap .i64 (x16 + 1)
  let x37 := [x0, x1, x2, x3, x4, x5, x6, x7].getD (Int.toNat x34) 0
  let x39 := r20_0 x37
  let x40 := x39 == 1
  let x41 := x33 && x40
  let x42 := x26 || x41
  let x43 := bif x27 then x42 else x26
  let x44 := !x43
  let x45 := r19_0 x17
  let x60 := x16 == 6
  let x61 := bif x60 then x45 else x14
  let x70 := bif x44 then x61 else x14
  let x78 := bif x21 then x70 else x14
  x78
noncomputable def r16_7 (x0 : Int) (x1 : Int) (x2 : Int) (x3 : Int) (x4 : Int) (x5 : Int) (x6 : Int) (x7 : Int) (_x8 : Int) (_x9 : Int) (_x10 : Int) (_x11 : Int) (_x12 : Int) (_x13 : Int) (_x14 : Int) (x15 : Int) (x16 : Int) (x17 : Int) : Int :=
  let x18 := decide (x16 < 0)
  let x19 := decide (x16 > 7)
  let x20 := x18 || x19
  let x21 := !x20
  let x24 := [x0, x1, x2, x3, x4, x5, x6, x7].getD (Int.toNat x16) 0
  let x26 := r22_0 x24 7
  let x27 := decide (x16 < 7)
  let x28 := IntKind.wrap .i64 (x16 + 1)
  let x31 := [x0, x1, x2, x3, x4, x5, x6, x7].getD (Int.toNat x28) 0
  let x33 := r22_0 x31 7
  let x34 := IntKind.wrap .i64 (x16 + 1)
  let x37 := [x0, x1, x2, x3, x4, x5, x6, x7].getD (Int.toNat x34) 0
  let x39 := r20_0 x37
  let x40 := x39 == 1
  let x41 := x33 && x40
  let x42 := x26 || x41
  let x43 := bif x27 then x42 else x26
  let x44 := !x43
  let x45 := r19_0 x17
  let x62 := x16 == 7
  let x63 := bif x62 then x45 else x15
  let x71 := bif x44 then x63 else x15
  let x79 := bif x21 then x71 else x15
  x79
noncomputable def g16 (ds : List DV) : List DV := [.b (p16 (dget ds 0).toI (dget ds 1).toI (dget ds 2).toI (dget ds 3).toI (dget ds 4).toI (dget ds 5).toI (dget ds 6).toI (dget ds 7).toI (dget ds 8).toI (dget ds 9).toI (dget ds 10).toI (dget ds 11).toI (dget ds 12).toI (dget ds 13).toI (dget ds 14).toI (dget ds 15).toI (dget ds 16).toI (dget ds 17).toI), .i (r16_0 (dget ds 0).toI (dget ds 1).toI (dget ds 2).toI (dget ds 3).toI (dget ds 4).toI (dget ds 5).toI (dget ds 6).toI (dget ds 7).toI (dget ds 8).toI (dget ds 9).toI (dget ds 10).toI (dget ds 11).toI (dget ds 12).toI (dget ds 13).toI (dget ds 14).toI (dget ds 15).toI (dget ds 16).toI (dget ds 17).toI), .i (r16_1 (dget ds 0).toI (dget ds 1).toI (dget ds 2).toI (dget ds 3).toI (dget ds 4).toI (dget ds 5).toI (dget ds 6).toI (dget ds 7).toI (dget ds 8).toI (dget ds 9).toI (dget ds 10).toI (dget ds 11).toI (dget ds 12).toI (dget ds 13).toI (dget ds 14).toI (dget ds 15).toI (dget ds 16).toI (dget ds 17).toI), .i (r16_2 (dget ds 0).toI (dget ds 1).toI (dget ds 2).toI (dget ds 3).toI (dget ds 4).toI (dget ds 5).toI (dget ds 6).toI (dget ds 7).toI (dget ds 8).toI (dget ds 9).toI (dget ds 10).toI (dget ds 11).toI (dget ds 12).toI (dget ds 13).toI (dget ds 14).toI (dget ds 15).toI (dget ds 16).toI (dget ds 17).toI), .i (r16_3 (dget ds 0).toI (dget ds 1).toI (dget ds 2).toI (dget ds 3).toI (dget ds 4).toI (dget ds 5).toI (dget ds 6).toI (dget ds 7).toI (dget ds 8).toI (dget ds 9).toI (dget ds 10).toI (dget ds 11).toI (dget ds 12).toI (dget ds 13).toI (dget ds 14).toI (dget ds 15).toI (dget ds 16).toI (dget ds 17).toI), .i (r16_4 (dget ds 0).toI (dget ds 1).toI (dget ds 2).toI (dget ds 3).toI (dget ds 4).toI (dget ds 5).toI (dget ds 6).toI (dget ds 7).toI (dget ds 8).toI (dget ds 9).toI (dget ds 10).toI (dget ds 11).toI (dget ds 12).toI (dget ds 13).toI (dget ds 14).toI (dget ds 15).toI (dget ds 16).toI (dget ds 17).toI), .i (r16_5 (dget ds 0).toI (dget ds 1).toI (dget ds 2).toI (dget ds 3).toI (dget ds 4).toI (dget ds 5).toI (dget ds 6).toI (dget ds 7).toI (dget ds 8).toI (dget ds 9).toI (dget ds 10).toI (dget ds 11).toI (dget ds 12).toI (dget ds 13).toI (dget ds 14).toI (dget ds 15).toI (dget ds 16).toI (dget ds 17).toI), .i (r16_6 (dget ds 0).toI (dget ds 1).toI (dget ds 2).toI (dget ds 3).toI (dget ds 4).toI (dget ds 5).toI (dget ds 6).toI (dget ds 7).toI (dget ds 8).toI (dget ds 9).toI (dget ds 10).toI (dget ds 11).toI (dget ds 12).toI (dget ds 13).toI (dget ds 14).toI (dget ds 15).toI (dget ds 16).toI (dget ds 17).toI), .i (r16_7 (dget ds 0).toI (dget ds 1).toI (dget ds 2).toI (dget ds 3).toI (dget ds 4).toI (dget ds 5).toI (dget ds 6).toI (dget ds 7).toI (dget ds 8).toI (dget ds 9).toI (dget ds 10).toI (dget ds 11).toI (dget ds 12).toI (dget ds 13).toI (dget ds 14).toI (dget ds 15).toI (dget ds 16).toI (dget ds 17).toI)]
def S16 : Sigs := ⟨[(22, s22), (20, s20), (19, s19)], [], []⟩
theorem ev16 : evFn Tryd.prog S16 2000 Tryd.f16 s16 = some o16 := by kernel_rfl

/-! tandem/tandemref11.Config -/
def s14 : Sig := ⟨[.agg [.int .u8, .int .u8, .int .u8, .int .u8, .int .u8, .int .u8, .int .u8, .int .u8], .one (.int .u64)], [.agg [.int .u8, .int .u8, .int .u8, .int .u8, .int .u8, .int .u8, .int .u8, .int .u8]], true⟩
def o14 : Out := ⟨[(9, .conv .u8 (.r 8)), (10, .quo .u64 (.r 8) (.z 256)), (11, .call 22 [.r 0, .z 7] 0), (12, .call 22 [.r 0, .z 7] 1), (13, .call 22 [.r 9, .z 1] 0), (14, .call 22 [.r 9, .z 1] 1), (15, .call 22 [.r 9, .z 0] 0), (16, .call 22 [.r 9, .z 0] 1), (17, .not (.r 16)), (18, .and (.r 14) (.r 17)), (19, .not (.r 12)), (20, .not (.r 18)), (21, .and (.r 19) (.r 20)), (22, .land .u8 (.r 9) (.z 159)), (23, .itei (.r 21) (.r 22) (.r 0)), (24, .conv .u8 (.r 10)), (25, .quo .u64 (.r 10) (.z 256)), (26, .call 22 [.r 1, .z 7] 0), (27, .call 22 [.r 1, .z 7] 1), (28, .call 22 [.r 24, .z 1] 0), (29, .call 22 [.r 24, .z 1] 1), (30, .call 22 [.r 24, .z 0] 0), (31, .call 22 [.r 24, .z 0] 1), (32, .not (.r 31)), (33, .and (.r 29) (.r 32)), (34, .not (.r 27)), (35, .not (.r 33)), (36, .and (.r 34) (.r 35)), (37, .land .u8 (.r 24) (.z 159)), (38, .itei (.r 36) (.r 37) (.r 1)), (39, .conv .u8 (.r 25)), (40, .quo .u64 (.r 25) (.z 256)), (41, .call 22 [.r 2, .z 7] 0), (42, .call 22 [.r 2, .z 7] 1), (43, .call 22 [.r 39, .z 1] 0), (44, .call 22 [.r 39, .z 1] 1), (45, .call 22 [.r 39, .z 0] 0), (46, .call 22 [.r 39, .z 0] 1), (47, .not (.r 46)), (48, .and (.r 44) (.r 47)), (49, .not (.r 42)), (50, .not (.r 48)), (51, .and (.r 49) (.r 50)), (52, .land .u8 (.r 39) (.z 159)), (53, .itei (.r 51) (.r 52) (.r 2)), (54, .conv .u8 (.r 40)), (55, .quo .u64 (.r 40) (.z 256)), (56, .call 22 [.r 3, .z 7] 0), (57, .call 22 [.r 3, .z 7] 1), (58, .call 22 [.r 54, .z 1] 0), (59, .call 22 [.r 54, .z 1] 1), (60, .call 22 [.r 54, .z 0] 0), (61, .call 22 [.r 54, .z 0] 1), (62, .not (.r 61)), (63, .and (.r 59) (.r 62)), (64, .not (.r 57)), (65, .not (.r 63)), (66, .and (.r 64) (.r 65)), (67, .land .u8 (.r 54) (.z 159)), (68, .itei (.r 66) (.r 67) (.r 3)), (69, .conv .u8 (.r 55)), (70, .quo .u64 (.r 55) (.z 256)), (71, .call 22 [.r 4, .z 7] 0), (72, .call 22 [.r 4, .z 7] 1), (73, .call 22 [.r 69, .z 1] 0), (74, .call 22 [.r 69, .z 1] 1), (75, .call 22 [.r 69, .z 0] 0), (76, .call 22 [.r 69, .z 0] 1), (77, .not (.r 76)), (78, .and (.r 74) (.r 77)), (79, .not (.r 72)), (80, .not (.r 78)), (81, .and (.r 79) (.r 80)), (82, .land .u8 (.r 69) (.z 159)), (83, .itei (.r 81) (.r 82) (.r 4)), (84, .conv .u8 (.r 70)), (85, .quo .u64 (.r 70) (.z 256)), (86, .call 22 [.r 5, .z 7] 0), (87, .call 22 [.r 5, .z 7] 1), (88, .call 22 [.r 84, .z 1] 0), (89, .call 22 [.r 84, .z 1] 1), (90, .call 22 [.r 84, .z 0] 0), (91, .call 22 [.r 84, .z 0] 1), (92, .not (.r 91)), (93, .and (.r 89) (.r 92)), (94, .not (.r 87)), (95, .not (.r 93)), (96, .and (.r 94) (.r 95)), (97, .land .u8 (.r 84) (.z 159)), (98, .itei (.r 96) (.r 97) (.r 5)), (99, .conv .u8 (.r 85)), (100, .quo .u64 (.r 85) (.z 256)), (101, .call 22 [.r 6, .z 7] 0), (102, .call 22 [.r 6, .z 7] 1), (103, .call 22 [.r 99, .z 1] 0), (104, .call 22 [.r 99, .z 1] 1), (105, .call 22 [.r 99, .z 0] 0), (106, .call 22 [.r 99, .z 0] 1), (107, .not (.r 106)), (108, .and (.r 104) (.r 107)), (109, .not (.r 102)), (110, .not (.r 108)), (111, .and (.r 109) (.r 110)), (112, .land .u8 (.r 99) (.z 159)), (113, .itei (.r 111) (.r 112) (.r 6)), (114, .conv .u8 (.r 100)), (115, .quo .u64 (.r 100) (.z 256)), (116, .call 22 [.r 7, .z 7] 0), (117, .call 22 [.r 7, .z 7] 1), (118, .call 22 [.r 114, .z 1] 0), (119, .call 22 [.r 114, .z 1] 1), (120, .call 22 [.r 114, .z 0] 0), (121, .call 22 [.r 114, .z 0] 1), (122, .not (.r 121)), (123, .and (.r 119) (.r 122)), (124, .not (.r 117)), (125, .not (.r 123)), (126, .and (.r 124) (.r 125)), (127, .land .u8 (.r 114) (.z 159)), (128, .itei (.r 126) (.r 127) (.r 7))],
  [⟨[], .r 11⟩, ⟨[], .r 13⟩, ⟨[(.r 14, true)], .r 15⟩, ⟨[], .r 26⟩, ⟨[], .r 28⟩, ⟨[(.r 29, true)], .r 30⟩, ⟨[], .r 41⟩, ⟨[], .r 43⟩, ⟨[(.r 44, true)], .r 45⟩, ⟨[], .r 56⟩, ⟨[], .r 58⟩, ⟨[(.r 59, true)], .r 60⟩, ⟨[], .r 71⟩, ⟨[], .r 73⟩, ⟨[(.r 74, true)], .r 75⟩, ⟨[], .r 86⟩, ⟨[], .r 88⟩, ⟨[(.r 89, true)], .r 90⟩, ⟨[], .r 101⟩, ⟨[], .r 103⟩, ⟨[(.r 104, true)], .r 105⟩, ⟨[], .r 116⟩, ⟨[], .r 118⟩, ⟨[(.r 119, true)], .r 120⟩],
  [],
  [.r 23, .r 38, .r 53, .r 68, .r 83, .r 98, .r 113, .r 128]⟩
noncomputable def p14 (x0 : Int) (x1 : Int) (x2 : Int) (x3 : Int) (x4 : Int) (x5 : Int) (x6 : Int) (x7 : Int) (x8 : Int) : Bool :=
  let x9 := IntKind.wrap .u8 x8
  let x10 := IntKind.wrap .u64 (Int.tdiv x8 256)
  let x11 := p22 x0 7
  let x13 := p22 x9 1
  let x14 := r22_0 x9 1
  let x15 := p22 x9 0
  let x24 := IntKind.wrap .u8 x10
  let x25 := IntKind.wrap .u64 (Int.tdiv x10 256)
  let x26 := p22 x1 7
  let x28 := p22 x24 1
  let x29 := r22_0 x24 1
  let x30 := p22 x24 0
  let x39 := IntKind.wrap .u8 x25
  let x40 := IntKind.wrap .u64 (Int.tdiv x25 256)
  let x41 := p22 x2 7
  let x43 := p22 x39 1
  let x44 := r22_0 x39 1
  let x45 := p22 x39 0
  let x54 := IntKind.wrap .u8 x40
  let x55 := IntKind.wrap .u64 (Int.tdiv x40 256)
  let x56 := p22 x3 7
  let x58 := p22 x54 1
  let x59 := r22_0 x54 1
  let x60 := p22 x54 0
  let x69 := IntKind.wrap .u8 x55
  let x70 := IntKind.wrap .u64 (Int.tdiv x55 256)
  let x71 := p22 x4 7
  let x73 := p22 x69 1
  let x74 := r22_0 x69 1
  let x75 := p22 x69 0
  let x84 := IntKind.wrap .u8 x70
  let x85 := IntKind.wrap .u64 (Int.tdiv x70 256)
  let x86 := p22 x5 7
  let x88 := p22 x84 1
  let x89 := r22_0 x84 1
  let x90 := p22 x84 0
  let x99 := IntKind.wrap .u8 x85
  let x100 := IntKind.wrap .u64 (Int.tdiv x85 256)
  let x101 := p22 x6 7
  let x103 := p22 x99 1
  let x104 := r22_0 x99 1
  let x105 := p22 x99 0
  let x114 := IntKind.wrap .u8 x100
  let x116 := p22 x7 7
  let x118 := p22 x114 1
  let x119 := r22_0 x114 1
  let x120 := p22 x114 0
  [ow [] x11, ow [] x13, ow [(x14, true)] x15, ow [] x26, ow [] x28, ow [(x29, true)] x30, ow [] x41, ow [] x43, ow [(x44, true)] x45, ow [] x56, ow [] x58, ow [(x59, true)] x60, ow [] x71, ow [] x73, ow [(x74, true)] x75, ow [] x86, ow [] x88, ow [(x89, true)] x90, ow [] x101, ow [] x103, ow [(x104, true)] x105, ow [] x116, ow [] x118, ow [(x119, true)] x120].all id
noncomputable def r14_0 (x0 : Int) (_x1 : Int) (_x2 : Int) (_x3 : Int) (_x4 : Int) (_x5 : Int) (_x6 : Int) (_x7 : Int) (x8 : Int) : Int :=
  let x9 := IntKind.wrap .u8 x8
  let x12 := r22_0 x0 7
  let x14 := r22_0 x9 1
  let x16 := r22_0 x9 0
  let x17 := !x16
  let x18 := x14 && x17
  let x19 := !x12
  let x20 := !x18
  let x21 := x19 && x20
  let x22 := iland .u8 x9 159
  let x23 := bif x21 then x22 else x0
  x23
noncomputable def r14_1 (_x0 : Int) (x1 : Int) (_x2 : Int) (_x3 : Int) (_x4 : Int) (_x5 : Int) (_x6 : Int) (_x7 : Int) (x8 : Int) : Int :=
  let x10 := IntKind.wrap .u64 (Int.tdiv x8 256)
  let x24 := IntKind.wrap .u8 x10
  let x27 := r22_0 x1 7
  let x29 := r22_0 x24 1
  let x31 := r22_0 x24 0
  let x32 := !x31
  let x33 := x29 && x32
  let x34 := !x27
  let x35 := !x33
  let x36 := x34 && x35
  let x37 := iland .u8 x24 159
  let x38 := bif x36 then x37 else x1
  x38
noncomputable def r14_2 (_x0 : Int) (_x1 : Int) (x2 : Int) (_x3 : Int) (_x4 : Int) (_x5 : Int) (_x6 : Int) (_x7 : Int) (x8 : Int) : Int :=
  let x10 := IntKind.wrap .u64 (Int.tdiv x8 256)
  let x25 := IntKind.wrap .u64 (Int.tdiv x10 256)
  let x39 := IntKind.wrap .u8 x25
  let x42 := r22_0 x2 7
  let x44 := r22_0 x39 1
  let x46 := r22_0 x39 0
  let x47 := !x46
  let x48 := x44 && x47
  let x49 := !x42
  let x50 := !x48
  let x51 := x49 && x50
  let x52 := iland .u8 x39 159
  let x53 := bif x51 then x52 else x2
  x53
noncomputable def r14_3 (_x0 : Int) (_x1 : Int) (_x2 : Int) (x3 : Int) (_x4 : Int) (_x5 : Int) (_x6 : Int) (_x7 : Int) (x8 : Int) : Int :=
  let x10 := IntKind.wrap .u64 (Int.tdiv x8 256)
  let x25 := IntKind.wrap .u64 (Int.tdiv x10 256)
  let x40 := IntKind.wrap .u64 (Int.tdiv x25 256)
  let x54 := IntKind.wrap .u8 x40
  let x57 := r22_0 x3 7
  let x59 := r22_0 x54 1
  let x61 := r22_0 x54 0
  let x62 := !x61
  let x63 := x59 && x62
  let x64 := !x57
  let x65 := !x63
  let x66 := x64 && x65
  let x67 := iland .u8 x54 159
  let x68 := bif x66 then x67 else x3
  x68
noncomputable def r14_4 (_x0 : Int) (_x1 : Int) (_x2 : Int) (_x3 : Int) (x4 : Int) (_x5 : Int) (_x6 : Int) (_x7 : Int) (x8 : Int) : Int :=
  let x10 := IntKind.wrap .u64 (Int.tdiv x8 256)
  let x25 := IntKind.wrap .u64 (Int.tdiv x10 256)
  let x40 := IntKind.wrap .u64 (Int.tdiv x25 256)
  let x55 := IntKind.wrap .u64 (Int.tdiv x40 256)
  let x69 := IntKind.wrap .u8 x55
  let x72 := r22_0 x4 7
  let x74 := r22_0 x69 1
  let x76 := r22_0 x69 0
  let x77 := !x76
  let x78 := x74 && x77
  let x79 := !x72
  let x80 := !x78
  let x81 := x79 && x80
  let x82 := iland .u8 x69 159
  let x83 := bif x81 then x82 else x4
  x83
noncomputable def r14_5 (_x0 : Int) (_x1 : Int) (_x2 : Int) (_x3 : Int) (_x4 : Int) (x5 : Int) (_x6 : Int) (_x7 : Int) (x8 : Int) : Int :=
  let x10 := IntKind.wrap .u64 (Int.tdiv x8 256)
  let x25 := IntKind.wrap .u64 (Int.tdiv x10 256)
  let x40 := IntKind.wrap .u64 (Int.tdiv x25 256)
  let x55 := IntKind.wrap .u64 (Int.tdiv x40 256)
  let x70 := IntKind.wrap .u64 (Int.tdiv x55 256)
  let x84 := IntKind.wrap .u8 x70
  let x87 := r22_0 x5 7
  let x89 := r22_0 x84 1
  let x91 := r22_0 x84 0
  let x92 := !x91
  let x93 := x89 && x92
  let x94 := !x87
  let x95 := !x93
  let x96 := x94 && x95
  let x97 := iland .u8 x84 159
  let x98 := bif x96 then x97 else x5
  x98
noncomputable def r14_6 (_x0 : Int) (_x1 : Int) (_x2 : Int) (_x3 : Int) (_x4 : Int) (_x5 : Int) (x6 : Int) (_x7 : Int) (x8 : Int) : Int :=
  let x10 := IntKind.wrap .u64 (Int.tdiv x8 256)
  let x25 := IntKind.wrap .u64 (Int.tdiv x10 256)
  let x40 := IntKind.wrap .u64 (Int.tdiv x25 256)
  let x55 := IntKind.wrap .u64 (Int.tdiv x40 256)
  let x70 := IntKind.wrap .u64 (Int.tdiv x55 256)
  let x85 := IntKind.wrap .u64 (Int.tdiv x70 256)
  let x99 := IntKind.wrap .u8 x85
  let x102 := r22_0 x6 7
  let x104 := r22_0 x99 1
  let x106 := r22_0 x99 0
  let x107 := !x106
  let x108 := x104 && x107
  let x109 := !x102
  let x110 := !x108
  let x111 := x109 && x110
  let x112 := iland .u8 x99 159
  let x113 := bif x111 then x112 else x6
  x113
noncomputable def r14_7 (_x0 : Int) (_x1 : Int) (_x2 : Int) (_x3 : Int) (_x4 : Int) (_x5 : Int) (_x6 : Int) (x7 : Int) (x8 : Int) : Int :=
  let x10 := IntKind.wrap .u64 (Int.tdiv x8 256)
  let x25 := IntKind.wrap .u64 (Int.tdiv x10 256)
  let x40 := IntKind.wrap .u64 (Int.tdiv x25 256)
  let x55 := IntKind.wrap .u64 (Int.tdiv x40 256)
  let x70 := IntKind.wrap .u64 (Int.tdiv x55 256)
  let x85 := IntKind.wrap .u64 (Int.tdiv x70 256)
  let x100 := IntKind.wrap .u64 (Int.tdiv x85 256)
  let x114 := IntKind.wrap .u8 x100
  let x117 := r22_0 x7 7
  let x119 := r22_0 x114 1
  let x121 := r22_0 x114 0
  let x122 := !x121
  let x123 := x119 && x122
  let x124 := !x117
  let x125 := !x123
  let x126 := x124 && x125
  let x127 := iland .u8 x114 159
  let x128 := bif x126 then x127 else x7
  x128
noncomputable def g14 (ds : List DV) : List DV := [.b (p14 (dget ds 0).toI (dget ds 1).toI (dget ds 2).toI (dget ds 3).toI (dget ds 4).toI (dget ds 5).toI (dget ds 6).toI (dget ds 7).toI (dget ds 8).toI), .i (r14_0 (dget ds 0).toI (dget ds 1).toI (dget ds 2).toI (dget ds 3).toI (dget ds 4).toI (dget ds 5).toI (dget ds 6).toI (dget ds 7).toI (dget ds 8).toI), .i (r14_1 (dget ds 0).toI (dget ds 1).toI (dget ds 2).toI (dget ds 3).toI (dget ds 4).toI (dget ds 5).toI (dget ds 6).toI (dget ds 7).toI (dget ds 8).toI), .i (r14_2 (dget ds 0).toI (dget ds 1).toI (dget ds 2).toI (dget ds 3).toI (dget ds 4).toI (dget ds 5).toI (dget ds 6).toI (dget ds 7).toI (dget ds 8).toI), .i (r14_3 (dget ds 0).toI (dget ds 1).toI (dget ds 2).toI (dget ds 3).toI (dget ds 4).toI (dget ds 5).toI (dget ds 6).toI (dget ds 7).toI (dget ds 8).toI), .i (r14_4 (dget ds 0).toI (dget ds 1).toI (dget ds 2).toI (dget ds 3).toI (dget ds 4).toI (dget ds 5).toI (dget ds 6).toI (dget ds 7).toI (dget ds 8).toI), .i (r14_5 (dget ds 0).toI (dget ds 1).toI (dget ds 2).toI (dget ds 3).toI (dget ds 4).toI (dget ds 5).toI (dget ds 6).toI (dget ds 7).toI (dget ds 8).toI), .i (r14_6 (dget ds 0).toI (dget ds 1).toI (dget ds 2).toI (dget ds 3).toI (dget ds 4).toI (dget ds 5).toI (dget ds 6).toI (dget ds 7).toI (dget ds 8).toI), .i (r14_7 (dget ds 0).toI (dget ds 1).toI (dget ds 2).toI (dget ds 3).toI (dget ds 4).toI (dget ds 5).toI (dget ds 6).toI (dget ds 7).toI (dget ds 8).toI)]
def S14 : Sigs := ⟨[(22, s22)], [], []⟩
theorem ev14 : evFn Tryd.prog S14 2000 Tryd.f14 s14 = some o14 := by kernel_rfl

/-! tandem/tandemref11.allows -/
def s23 : Sig := ⟨[.one (.int .u8), .one (.int .i64)], [.one (.bool)], true⟩
def o23 : Out := ⟨[(2, .call 22 [.r 0, .z 0] 0), (3, .call 22 [.r 0, .z 0] 1), (4, .call 22 [.r 0, .z 1] 0), (5, .call 22 [.r 0, .z 1] 1), (6, .call 22 [.r 0, .z 2] 0), (7, .call 22 [.r 0, .z 2] 1), (8, .eql (.r 1) (.z 0)), (9, .eql (.r 1) (.z 1)), (10, .eql (.r 1) (.z 2)), (11, .not (.r 10)), (12, .iteb (.r 9) (.t false) (.r 11)), (13, .iteb (.r 8) (.t false) (.r 12)), (14, .and (.r 3) (.r 5)), (15, .iteb (.r 9) (.r 3) (.r 5)), (16, .iteb (.r 8) (.r 7) (.r 15)), (17, .iteb (.r 13) (.r 14) (.r 16))],
  [⟨[], .r 2⟩, ⟨[], .r 4⟩, ⟨[], .r 6⟩],
  [],
  [.r 17]⟩
noncomputable def p23 (x0 : Int) (_x1 : Int) : Bool :=
  let x2 := p22 x0 0
  let x4 := p22 x0 1
  let x6 := p22 x0 2
  [ow [] x2, ow [] x4, ow [] x6].all id
noncomputable def r23_0 (x0 : Int) (x1 : Int) : Bool :=
  let x3 := r22_0 x0 0
  let x5 := r22_0 x0 1
  let x7 := r22_0 x0 2
  let x8 := x1 == 0
  let x9 := x1 == 1
  let x10 := x1 == 2
  let x11 := !x10
  let x12 := bif x9 then false else x11
  let x13 := bif x8 then false else x12
  let x14 := x3 && x5
  let x15 := bif x9 then x3 else x5
  let x16 := bif x8 then x7 else x15
  let x17 := bif x13 then x14 else x16
  x17
noncomputable def g23 (ds : List DV) : List DV := [.b (p23 (dget ds 0).toI (dget ds 1).toI), .b (r23_0 (dget ds 0).toI (dget ds 1).toI)]
def S23 : Sigs := ⟨[(22, s22)], [], []⟩
theorem ev23 : evFn Tryd.prog S23 2000 Tryd.f23 s23 = some o23 := by kernel_rfl

/-! tandem/tandemref11.Range -/
-- the loop 100901: asks for [], goes round with [44, 45]
noncomputable def w100901 (_x44 : Int) (_x45 : Int) : Bool :=
  [].all id
noncomputable def c100901 (_x44 : Int) (x45 : Int) : Bool :=
  let x46 := Int.tmod x45 2
  let x47 := x46 == 1
  x47
noncomputable def n100901_0 (x44 : Int) (_x45 : Int) : Int :=
  let x49 := IntKind.wrap .u64 (2 * x44)
  x49
noncomputable def n100901_1 (_x44 : Int) (x45 : Int) : Int :=
  let x48 := IntKind.wrap .u64 (Int.tdiv x45 2)
  x48
noncomputable def t100901_0 (_x44 : Int) (_x45 : Int) : Int :=
  0
noncomputable def t100901_1 (x44 : Int) (_x45 : Int) : Int :=
  x44
noncomputable def t100901_2 (_x44 : Int) (x45 : Int) : Int :=
  x45
noncomputable def W100901 (ds : List DV) : Bool := w100901 (dget ds 0).toI (dget ds 1).toI
noncomputable def C100901 (ds : List DV) : Bool := c100901 (dget ds 0).toI (dget ds 1).toI
noncomputable def N100901 (ds : List DV) : List DV := [.i (n100901_0 (dget ds 0).toI (dget ds 1).toI), .i (n100901_1 (dget ds 0).toI (dget ds 1).toI)]
noncomputable def T100901 (ds : List DV) : List DV := [.i (t100901_0 (dget ds 0).toI (dget ds 1).toI), .i (t100901_1 (dget ds 0).toI (dget ds 1).toI), .i (t100901_2 (dget ds 0).toI (dget ds 1).toI)]
noncomputable def L100901 (x0 : Int) (x1 : Int) : Option (List DV) := loopG W100901 C100901 N100901 T100901 [.i x0, .i x1]
noncomputable def p100901 (x0 : Int) (x1 : Int) : Bool := (L100901 x0 x1).isSome
noncomputable def r100901_0 (x0 : Int) (x1 : Int) : Int := (dget ((L100901 x0 x1).getD []) 0).toI
noncomputable def r100901_1 (x0 : Int) (x1 : Int) : Int := (dget ((L100901 x0 x1).getD []) 1).toI
noncomputable def r100901_2 (x0 : Int) (x1 : Int) : Int := (dget ((L100901 x0 x1).getD []) 2).toI
noncomputable def g100901 (ds : List DV) : List DV := [.b (p100901 (dget ds 0).toI (dget ds 1).toI), .i (r100901_0 (dget ds 0).toI (dget ds 1).toI), .i (r100901_1 (dget ds 0).toI (dget ds 1).toI), .i (r100901_2 (dget ds 0).toI (dget ds 1).toI)]
def l9_0 : LR := ⟨100901, 44, 2, [], [(46, .rem .u64 (.r 45) (.z 2)), (47, .eql (.r 46) (.z 1)), (48, .quo .u64 (.r 45) (.z 2)), (49, .mul .u64 (.z 2) (.r 44))], [], .r 47, [.r 49, .r 48], [.z 0, .r 44, .r 45], [true, true]⟩
def s9 : Sig := ⟨[.agg [.int .u8, .int .u8, .int .u8, .int .u8, .int .u8, .int .u8, .int .u8, .int .u8], .agg [.int .u64, .int .u64, .int .u64, .int .u64, .int .u64, .int .u64, .int .u64, .int .u64], .one (.int .i64)], [.one (.int .u64), .one (.int .u64), .one (.bool)], true⟩
def o9 : Out := ⟨[(17, .lss (.r 16) (.z 0)), (18, .gtr (.r 16) (.z 7)), (19, .or (.r 17) (.r 18)), (20, .not (.r 19)), (21, .geq (.r 16) (.z 0)), (22, .lss (.r 16) (.z 8)), (23, .seli [.r 8, .r 9, .r 10, .r 11, .r 12, .r 13, .r 14, .r 15] (.r 16)), (24, .call 19 [.r 23] 0), (25, .geq (.r 16) (.z 0)), (26, .lss (.r 16) (.z 8)), (27, .seli [.r 0, .r 1, .r 2, .r 3, .r 4, .r 5, .r 6, .r 7] (.r 16)), (28, .call 20 [.r 27] 0), (29, .call 20 [.r 27] 1), (30, .eql (.r 29) (.z 1)), (31, .gtr (.r 16) (.z 0)), (32, .sub .i64 (.r 16) (.z 1)), (33, .geq (.r 32) (.z 0)), (34, .lss (.r 32) (.z 8)), (35, .seli [.r 8, .r 9, .r 10, .r 11, .r 12, .r 13, .r 14, .r 15] (.r 32)), (36, .call 19 [.r 35] 0), (37, .mul .u64 (.z 4) (.r 36)), (38, .itei (.r 31) (.r 37) (.z 0)), (39, .mul .u64 (.z 4) (.r 24)), (40, .eql (.r 29) (.z 2)), (41, .mul .u64 (.z 4) (.r 24)), (42, .add .u64 (.r 41) (.z 4)), (43, .eql (.r 29) (.z 3)), (44, .call 100901 [.z 8, .r 24] 0), (45, .call 100901 [.z 8, .r 24] 1), (46, .call 100901 [.z 8, .r 24] 2), (47, .call 100901 [.z 8, .r 24] 3), (48, .mul .u64 (.z 4) (.r 24)), (49, .neq (.r 46) (.z 0)), (50, .quo .u64 (.r 48) (.r 46)), (51, .mul .u64 (.r 50) (.r 46)), (52, .add .u64 (.r 51) (.r 46)), (53, .itei (.r 43) (.r 51) (.z 0)), (54, .itei (.r 43) (.r 52) (.z 0)), (55, .itei (.r 40) (.r 41) (.r 53)), (56, .itei (.r 40) (.r 42) (.r 54)), (57, .itei (.r 30) (.r 38) (.r 55)), (58, .itei (.r 30) (.r 39) (.r 56)), (59, .geq (.r 57) (.r 58)), (60, .not (.r 59)), (61, .sub .u64 (.r 58) (.z 1)), (62, .itei (.r 60) (.r 57) (.z 0)), (63, .itei (.r 60) (.r 61) (.z 0)), (64, .itei (.r 20) (.r 62) (.z 0)), (65, .itei (.r 20) (.r 63) (.z 0)), (66, .and (.r 20) (.r 60))],
  [⟨[(.r 20, true)], .r 21⟩, ⟨[(.r 20, true)], .r 22⟩, ⟨[(.r 20, true)], .r 25⟩, ⟨[(.r 20, true)], .r 26⟩, ⟨[(.r 20, true)], .r 28⟩, ⟨[(.r 20, true), (.r 30, true), (.r 31, true)], .r 33⟩, ⟨[(.r 20, true), (.r 30, true), (.r 31, true)], .r 34⟩, ⟨[(.r 20, true), (.r 30, false), (.r 40, false), (.r 43, true)], .r 44⟩, ⟨[(.r 20, true), (.r 30, false), (.r 40, false), (.r 43, true)], .r 49⟩],
  [l9_0],
  [.r 64, .r 65, .r 66]⟩
noncomputable def p9 (x0 : Int) (x1 : Int) (x2 : Int) (x3 : Int) (x4 : Int) (x5 : Int) (x6 : Int) (x7 : Int) (x8 : Int) (x9 : Int) (x10 : Int) (x11 : Int) (x12 : Int) (x13 : Int) (x14 : Int) (x15 : Int) (x16 : Int) : Bool :=
  let x17 := decide (x16 < 0)
  let x18 := decide (x16 > 7)
  let x19 := x17 || x18
  let x20 := !x19
  let x21 := decide (x16 ≥ 0)
  let x22 := decide (x16 < 8)
  let x23 := [x8, x9, x10, x11, x12, x13, x14, x15].getD (Int.toNat x16) 0
  let x24 := r19_0 x23
  let x25 := decide (x16 ≥ 0)
  let x26 := decide (x16 < 8)
  let x27 := [x0, x1, x2, x3, x4, x5, x6, x7].getD (Int.toNat x16) 0
  let x28 := p20 x27
  let x29 := r20_0 x27
  let x30 := x29 == 1
  let x31 := decide (x16 > 0)
  let x32 := IntKind.wrap .i64 (x16 - 1)
  let x33 := decide (x32 ≥ 0)
  let x34 := decide (x32 < 8)
  let x40 := x29 == 2
  let x43 := x29 == 3
  let x44 := p100901 8 x24
  let x46 := r100901_1 8 x24
  let x49 := x46 != 0
  [ow [(x20, true)] x21, ow [(x20, true)] x22, ow [(x20, true)] x25, ow [(x20, true)] x26, ow [(x20, true)] x28, ow [(x20, true), (x30, true), (x31, true)] x33, ow [(x20, true), (x30, true), (x31, true)] x34, ow [(x20, true), (x30, false), (x40, false), (x43, true)] x44, ow [(x20, true), (x30, false), (x40, false), (x43, true)] x49].all id
noncomputable def r9_0 (x0 : Int) (x1 : Int) (x2 : Int) (x3 : Int) (x4 : Int) (x5 : Int) (x6 : Int) (x7 : Int) (x8 : Int) (x9 : Int) (x10 : Int) (x11 : Int) (x12 : Int) (x13 : Int) (x14 : Int) (x15 : Int) (x16 : Int) : Int :=
  let x17 := decide (x16 < 0)
  let x18 := decide (x16 > 7)
  let x19 := x17 || x18
  let x20 := !x19
  let x23 := [x8, x9, x10, x11, x12, x13, x14, x15].getD (Int.toNat x16) 0
  let x24 := r19_0 x23
  let x27 := [x0, x1, x2, x3, x4, x5, x6, x7].getD (Int.toNat x16) 0
  let x29 := r20_0 x27
  let x30 := x29 == 1
  let x31 := decide (x16 > 0)
  let x32 := IntKind.wrap .i64 (x16 - 1)
  let x35 := [x8, x9, x10, x11, x12, x13, x14, x15].getD (Int.toNat x32) 0
  let x36 := r19_0 x35
  let x37 := IntKind.wrap .u64 (4 * x36)
  let x38 := bif x31 then x37 else 0
  let x39 := IntKind.wrap .u64 (4 * x24)
  let x40 := x29 == 2
  let x41 := IntKind.wrap .u64 (4 * x24)
  let x42 := IntKind.wrap .u64 (x41 + 4)
  let x43 := x29 == 3
  let x46 := r100901_1 8 x24
  let x48 := IntKind.wrap .u64 (4 * x24)
  let x50 := IntKind.wrap .u64 (Int.tdiv x48 x46)
  let x51 := IntKind.wrap .u64 (x50 * x46)
  let x52 := IntKind.wrap .u64 (x51 + x46)
  let x53 := bif x43 then x51 else 0
  let x54 := bif x43 then x52 else 0
  let x55 := bif x40 then x41 else x53
  let x56 := bif x40 then x42 else x54
  let x57 := bif x30 then x38 else x55
  let x58 := bif x30 then x39 else x56
  let x59 := decide (x57 ≥ x58)
  let x60 := !x59
  let x62 := bif x60 then x57 else 0
  let x64 := bif x20 then x62 else 0
  x64
noncomputable def r9_1 (x0 : Int) (x1 : Int) (x2 : Int) (x3 : Int) (x4 : Int) (x5 : Int) (x6 : Int) (x7 : Int) (x8 : Int) (x9 : Int) (x10 : Int) (x11 : Int) (x12 : Int) (x13 : Int) (x14 : Int) (x15 : Int) (x16 : Int) : Int :=
  let x17 := decide (x16 < 0)
  let x18 := decide (x16 > 7)
  let x19 := x17 || x18
  let x20 := !x19
  let x23 := [x8, x9, x10, x11, x12, x13, x14, x15].getD (Int.toNat x16) 0
  let x24 := r19_0 x23
  let x27 := [x0, x1, x2, x3, x4, x5, x6, x7].getD (Int.toNat x16) 0
  let x29 := r20_0 x27
  let x30 := x29 == 1
  let x31 := decide (x16 > 0)
  let x32 := IntKind.wrap .i64 (x16 - 1)
  let x35 := [x8, x9, x10, x11, x12, x13, x14, x15].getD (Int.toNat x32) 0
  let x36 := r19_0 x35
  let x37 := IntKind.wrap .u64 (4 * x36)
  let x38 := bif x31 then x37 else 0
  let x39 := IntKind.wrap .u64 (4 * x24)
  let x40 := x29 == 2
  let x41 := IntKind.wrap .u64 (4 * x24)
  let x42 := IntKind.wrap .u64 (x41 + 4)
  let x43 := x29 == 3
  let x46 := r100901_1 8 x24
  let x48 := IntKind.wrap .u64 (4 * x24)
  let x50 := IntKind.wrap .u64 (Int.tdiv x48 x46)
  let x51 := IntKind.wrap .u64 (x50 * x46)
  let x52 := IntKind.wrap .u64 (x51 + x46)
  let x53 := bif x43 then x51 else 0
  let x54 := bif x43 then x52 else 0
  let x55 := bif x40 then x41 else x53
  let x56 := bif x40 then x42 else x54
  let x57 := bif x30 then x38 else x55
  let x58 := bif x30 then x39 else x56
  let x59 := decide (x57 ≥ x58)
  let x60 := !x59
  let x61 := IntKind.wrap .u64 (x58 - 1)
  let x63 := bif x60 then x61 else 0
  let x65 := bif x20 then x63 else 0
  x65
noncomputable def r9_2 (x0 : Int) (x1 : Int) (x2 : Int) (x3 : Int) (x4 : Int) (x5 : Int) (x6 : Int) (x7 : Int) (x8 : Int) (x9 : Int) (x10 : Int) (x11 : Int) (x12 : Int) (x13 : Int) (x14 : Int) (x15 : Int) (x16 : Int) : Bool :=
  let x17 := decide (x16 < 0)
  let x18 := decide (x16 > 7)
  let x19 := x17 || x18
  let x20 := !x19
  let x23 := [x8, x9, x10, x11, x12, x13, x14, x15].getD (Int.toNat x16) 0
  let x24 := r19_0 x23
  let x27 := [x0, x1, x2, x3, x4, x5, x6, x7].getD (Int.toNat x16) 0
  let x29 := r20_0 x27
  let x30 := x29 == 1
  let x31 := decide (x16 > 0)
  let x32 := IntKind.wrap .i64 (x16 - 1)
  let x35 := [x8, x9, x10, x11, x12, x13, x14, x15].getD (Int.toNat x32) 0
  let x36 := r19_0 x35
  let x37 := IntKind.wrap .u64 (4 * x36)
  let x38 := bif x31 then x37 else 0
  let x39 := IntKind.wrap .u64 (4 * x24)
  let x40 := x29 == 2
  let x41 := IntKind.wrap .u64 (4 * x24)
  let x42 := IntKind.wrap .u64 (x41 + 4)
  let x43 := x29 == 3
  let x46 := r100901_1 8 x24
  let x48 := IntKind.wrap .u64 (4 * x24)
  let x50 := IntKind.wrap .u64 (Int.tdiv x48 x46)
  let x51 := IntKind.wrap .u64 (x50 * x46)
  let x52 := IntKind.wrap .u64 (x51 + x46)
  let x53 := bif x43 then x51 else 0
  let x54 := bif x43 then x52 else 0
  let x55 := bif x40 then x41 else x53
  let x56 := bif x40 then x42 else x54
  let x57 := bif x30 then x38 else x55
  let x58 := bif x30 then x39 else x56
  let x59 := decide (x57 ≥ x58)
  let x60 := !x59
  let x66 := x20 && x60
  x66
noncomputable def g9 (ds : List DV) : List DV := [.b (p9 (dget ds 0).toI (dget ds 1).toI (dget ds 2).toI (dget ds 3).toI (dget ds 4).toI (dget ds 5).toI (dget ds 6).toI (dget ds 7).toI (dget ds 8).toI (dget ds 9).toI (dget ds 10).toI (dget ds 11).toI (dget ds 12).toI (dget ds 13).toI (dget ds 14).toI (dget ds 15).toI (dget ds 16).toI), .i (r9_0 (dget ds 0).toI (dget ds 1).toI (dget ds 2).toI (dget ds 3).toI (dget ds 4).toI (dget ds 5).toI (dget ds 6).toI (dget ds 7).toI (dget ds 8).toI (dget ds 9).toI (dget ds 10).toI (dget ds 11).toI (dget ds 12).toI (dget ds 13).toI (dget ds 14).toI (dget ds 15).toI (dget ds 16).toI), .i (r9_1 (dget ds 0).toI (dget ds 1).toI (dget ds 2).toI (dget ds 3).toI (dget ds 4).toI (dget ds 5).toI (dget ds 6).toI (dget ds 7).toI (dget ds 8).toI (dget ds 9).toI (dget ds 10).toI (dget ds 11).toI (dget ds 12).toI (dget ds 13).toI (dget ds 14).toI (dget ds 15).toI (dget ds 16).toI), .b (r9_2 (dget ds 0).toI (dget ds 1).toI (dget ds 2).toI (dget ds 3).toI (dget ds 4).toI (dget ds 5).toI (dget ds 6).toI (dget ds 7).toI (dget ds 8).toI (dget ds 9).toI (dget ds 10).toI (dget ds 11).toI (dget ds 12).toI (dget ds 13).toI (dget ds 14).toI (dget ds 15).toI (dget ds 16).toI)]
def S9 : Sigs := ⟨[(19, s19), (20, s20)], [], [(1, 100901)]⟩
theorem ev9 : evFn Tryd.prog S9 2000 Tryd.f9 s9 = some o9 := by kernel_rfl

/-! tandem/tandemref11.Check -/
-- the loop 101202: asks for [19, 185, 187, 18, 186], goes round with [188, 189, 190]
noncomputable def w101202 (_x19 : Int) (_x185 : Int) (_x187 : Bool) (_x18 : Int) (_x186 : Int) (_x188 : Bool) (_x189 : Bool) (_x190 : Int) : Bool :=
  [].all id
noncomputable def c101202 (x19 : Int) (_x185 : Int) (_x187 : Bool) (_x18 : Int) (_x186 : Int) (_x188 : Bool) (_x189 : Bool) (x190 : Int) : Bool :=
  let x191 := decide (x190 < x19)
  x191
noncomputable def n101202_0 (_x19 : Int) (x185 : Int) (x187 : Bool) (x18 : Int) (x186 : Int) (x188 : Bool) (_x189 : Bool) (x190 : Int) : Bool :=
  let x192 := IntKind.wrap .u64 x190
  let x193 := IntKind.wrap .u64 (x18 + x192)
  let x194 := decide (x193 ≥ x185)
  let x195 := x187 && x194
  let x196 := IntKind.wrap .u64 x190
  let x197 := IntKind.wrap .u64 (x18 + x196)
  let x198 := decide (x197 ≤ x186)
  let x199 := x195 && x198
  let x200 := x188 || x199
  x200
noncomputable def n101202_1 (_x19 : Int) (x185 : Int) (x187 : Bool) (x18 : Int) (x186 : Int) (_x188 : Bool) (x189 : Bool) (x190 : Int) : Bool :=
  let x192 := IntKind.wrap .u64 x190
  let x193 := IntKind.wrap .u64 (x18 + x192)
  let x194 := decide (x193 ≥ x185)
  let x195 := x187 && x194
  let x196 := IntKind.wrap .u64 x190
  let x197 := IntKind.wrap .u64 (x18 + x196)
  let x198 := decide (x197 ≤ x186)
  let x199 := x195 && x198
  let x201 := x189 && x199
  x201
noncomputable def n101202_2 (_x19 : Int) (_x185 : Int) (_x187 : Bool) (_x18 : Int) (_x186 : Int) (_x188 : Bool) (_x189 : Bool) (x190 : Int) : Int :=
  let x202 := IntKind.wrap .i64 (x190 + 1)
  x202
noncomputable def t101202_0 (_x19 : Int) (_x185 : Int) (_x187 : Bool) (_x18 : Int) (_x186 : Int) (_x188 : Bool) (_x189 : Bool) (_x190 : Int) : Int :=
  0
noncomputable def t101202_1 (_x19 : Int) (_x185 : Int) (_x187 : Bool) (_x18 : Int) (_x186 : Int) (x188 : Bool) (_x189 : Bool) (_x190 : Int) : Bool :=
  x188
noncomputable def t101202_2 (_x19 : Int) (_x185 : Int) (_x187 : Bool) (_x18 : Int) (_x186 : Int) (_x188 : Bool) (x189 : Bool) (_x190 : Int) : Bool :=
  x189
noncomputable def t101202_3 (_x19 : Int) (_x185 : Int) (_x187 : Bool) (_x18 : Int) (_x186 : Int) (_x188 : Bool) (_x189 : Bool) (x190 : Int) : Int :=
  x190
noncomputable def W101202 (ds : List DV) : Bool := w101202 (dget ds 0).toI (dget ds 1).toI (dget ds 2).toB (dget ds 3).toI (dget ds 4).toI (dget ds 5).toB (dget ds 6).toB (dget ds 7).toI
noncomputable def C101202 (ds : List DV) : Bool := c101202 (dget ds 0).toI (dget ds 1).toI (dget ds 2).toB (dget ds 3).toI (dget ds 4).toI (dget ds 5).toB (dget ds 6).toB (dget ds 7).toI
noncomputable def N101202 (ds : List DV) : List DV := [.i (dget ds 0).toI, .i (dget ds 1).toI, .b (dget ds 2).toB, .i (dget ds 3).toI, .i (dget ds 4).toI, .b (n101202_0 (dget ds 0).toI (dget ds 1).toI (dget ds 2).toB (dget ds 3).toI (dget ds 4).toI (dget ds 5).toB (dget ds 6).toB (dget ds 7).toI), .b (n101202_1 (dget ds 0).toI (dget ds 1).toI (dget ds 2).toB (dget ds 3).toI (dget ds 4).toI (dget ds 5).toB (dget ds 6).toB (dget ds 7).toI), .i (n101202_2 (dget ds 0).toI (dget ds 1).toI (dget ds 2).toB (dget ds 3).toI (dget ds 4).toI (dget ds 5).toB (dget ds 6).toB (dget ds 7).toI)]
noncomputable def T101202 (ds : List DV) : List DV := [.i (t101202_0 (dget ds 0).toI (dget ds 1).toI (dget ds 2).toB (dget ds 3).toI (dget ds 4).toI (dget ds 5).toB (dget ds 6).toB (dget ds 7).toI), .b (t101202_1 (dget ds 0).toI (dget ds 1).toI (dget ds 2).toB (dget ds 3).toI (dget ds 4).toI (dget ds 5).toB (dget ds 6).toB (dget ds 7).toI), .b (t101202_2 (dget ds 0).toI (dget ds 1).toI (dget ds 2).toB (dget ds 3).toI (dget ds 4).toI (dget ds 5).toB (dget ds 6).toB (dget ds 7).toI), .i (t101202_3 (dget ds 0).toI (dget ds 1).toI (dget ds 2).toB (dget ds 3).toI (dget ds 4).toI (dget ds 5).toB (dget ds 6).toB (dget ds 7).toI)]
noncomputable def L101202 (x0 : Int) (x1 : Int) (x2 : Bool) (x3 : Int) (x4 : Int) (x5 : Bool) (x6 : Bool) (x7 : Int) : Option (List DV) := loopG W101202 C101202 N101202 T101202 [.i x0, .i x1, .b x2, .i x3, .i x4, .b x5, .b x6, .i x7]
noncomputable def p101202 (x0 : Int) (x1 : Int) (x2 : Bool) (x3 : Int) (x4 : Int) (x5 : Bool) (x6 : Bool) (x7 : Int) : Bool := (L101202 x0 x1 x2 x3 x4 x5 x6 x7).isSome
noncomputable def r101202_0 (x0 : Int) (x1 : Int) (x2 : Bool) (x3 : Int) (x4 : Int) (x5 : Bool) (x6 : Bool) (x7 : Int) : Int := (dget ((L101202 x0 x1 x2 x3 x4 x5 x6 x7).getD []) 0).toI
noncomputable def r101202_1 (x0 : Int) (x1 : Int) (x2 : Bool) (x3 : Int) (x4 : Int) (x5 : Bool) (x6 : Bool) (x7 : Int) : Bool := (dget ((L101202 x0 x1 x2 x3 x4 x5 x6 x7).getD []) 1).toB
noncomputable def r101202_2 (x0 : Int) (x1 : Int) (x2 : Bool) (x3 : Int) (x4 : Int) (x5 : Bool) (x6 : Bool) (x7 : Int) : Bool := (dget ((L101202 x0 x1 x2 x3 x4 x5 x6 x7).getD []) 2).toB
noncomputable def r101202_3 (x0 : Int) (x1 : Int) (x2 : Bool) (x3 : Int) (x4 : Int) (x5 : Bool) (x6 : Bool) (x7 : Int) : Int := (dget ((L101202 x0 x1 x2 x3 x4 x5 x6 x7).getD []) 3).toI
noncomputable def g101202 (ds : List DV) : List DV := [.b (p101202 (dget ds 0).toI (dget ds 1).toI (dget ds 2).toB (dget ds 3).toI (dget ds 4).toI (dget ds 5).toB (dget ds 6).toB (dget ds 7).toI), .i (r101202_0 (dget ds 0).toI (dget ds 1).toI (dget ds 2).toB (dget ds 3).toI (dget ds 4).toI (dget ds 5).toB (dget ds 6).toB (dget ds 7).toI), .b (r101202_1 (dget ds 0).toI (dget ds 1).toI (dget ds 2).toB (dget ds 3).toI (dget ds 4).toI (dget ds 5).toB (dget ds 6).toB (dget ds 7).toI), .b (r101202_2 (dget ds 0).toI (dget ds 1).toI (dget ds 2).toB (dget ds 3).toI (dget ds 4).toI (dget ds 5).toB (dget ds 6).toB (dget ds 7).toI), .i (r101202_3 (dget ds 0).toI (dget ds 1).toI (dget ds 2).toB (dget ds 3).toI (dget ds 4).toI (dget ds 5).toB (dget ds 6).toB (dget ds 7).toI)]
def l12_0 : LR := ⟨101202, 41, 3, [19, 38, 40, 18, 39], [(44, .lss (.r 43) (.r 19)), (45, .conv .u64 (.r 43)), (46, .add .u64 (.r 18) (.r 45)), (47, .geq (.r 46) (.r 38)), (48, .and (.r 40) (.r 47)), (49, .conv .u64 (.r 43)), (50, .add .u64 (.r 18) (.r 49)), (51, .leq (.r 50) (.r 39)), (52, .and (.r 48) (.r 51)), (53, .or (.r 41) (.r 52)), (54, .and (.r 42) (.r 52)), (55, .add .i64 (.r 43) (.z 1))], [], .r 44, [.r 53, .r 54, .r 55], [.z 0, .r 41, .r 42, .r 43], [false, false, true]⟩
def l12_1 : LR := ⟨101202, 62, 3, [19, 59, 61, 18, 60], [(65, .lss (.r 64) (.r 19)), (66, .conv .u64 (.r 64)), (67, .add .u64 (.r 18) (.r 66)), (68, .geq (.r 67) (.r 59)), (69, .and (.r 61) (.r 68)), (70, .conv .u64 (.r 64)), (71, .add .u64 (.r 18) (.r 70)), (72, .leq (.r 71) (.r 60)), (73, .and (.r 69) (.r 72)), (74, .or (.r 62) (.r 73)), (75, .and (.r 63) (.r 73)), (76, .add .i64 (.r 64) (.z 1))], [], .r 65, [.r 74, .r 75, .r 76], [.z 0, .r 62, .r 63, .r 64], [false, false, true]⟩
def l12_2 : LR := ⟨101202, 83, 3, [19, 80, 82, 18, 81], [(86, .lss (.r 85) (.r 19)), (87, .conv .u64 (.r 85)), (88, .add .u64 (.r 18) (.r 87)), (89, .geq (.r 88) (.r 80)), (90, .and (.r 82) (.r 89)), (91, .conv .u64 (.r 85)), (92, .add .u64 (.r 18) (.r 91)), (93, .leq (.r 92) (.r 81)), (94, .and (.r 90) (.r 93)), (95, .or (.r 83) (.r 94)), (96, .and (.r 84) (.r 94)), (97, .add .i64 (.r 85) (.z 1))], [], .r 86, [.r 95, .r 96, .r 97], [.z 0, .r 83, .r 84, .r 85], [false, false, true]⟩
def l12_3 : LR := ⟨101202, 104, 3, [19, 101, 103, 18, 102], [(107, .lss (.r 106) (.r 19)), (108, .conv .u64 (.r 106)), (109, .add .u64 (.r 18) (.r 108)), (110, .geq (.r 109) (.r 101)), (111, .and (.r 103) (.r 110)), (112, .conv .u64 (.r 106)), (113, .add .u64 (.r 18) (.r 112)), (114, .leq (.r 113) (.r 102)), (115, .and (.r 111) (.r 114)), (116, .or (.r 104) (.r 115)), (117, .and (.r 105) (.r 115)), (118, .add .i64 (.r 106) (.z 1))], [], .r 107, [.r 116, .r 117, .r 118], [.z 0, .r 104, .r 105, .r 106], [false, false, true]⟩
def l12_4 : LR := ⟨101202, 125, 3, [19, 122, 124, 18, 123], [(128, .lss (.r 127) (.r 19)), (129, .conv .u64 (.r 127)), (130, .add .u64 (.r 18) (.r 129)), (131, .geq (.r 130) (.r 122)), (132, .and (.r 124) (.r 131)), (133, .conv .u64 (.r 127)), (134, .add .u64 (.r 18) (.r 133)), (135, .leq (.r 134) (.r 123)), (136, .and (.r 132) (.r 135)), (137, .or (.r 125) (.r 136)), (138, .and (.r 126) (.r 136)), (139, .add .i64 (.r 127) (.z 1))], [], .r 128, [.r 137, .r 138, .r 139], [.z 0, .r 125, .r 126, .r 127], [false, false, true]⟩
def l12_5 : LR := ⟨101202, 146, 3, [19, 143, 145, 18, 144], [(149, .lss (.r 148) (.r 19)), (150, .conv .u64 (.r 148)), (151, .add .u64 (.r 18) (.r 150)), (152, .geq (.r 151) (.r 143)), (153, .and (.r 145) (.r 152)), (154, .conv .u64 (.r 148)), (155, .add .u64 (.r 18) (.r 154)), (156, .leq (.r 155) (.r 144)), (157, .and (.r 153) (.r 156)), (158, .or (.r 146) (.r 157)), (159, .and (.r 147) (.r 157)), (160, .add .i64 (.r 148) (.z 1))], [], .r 149, [.r 158, .r 159, .r 160], [.z 0, .r 146, .r 147, .r 148], [false, false, true]⟩
def l12_6 : LR := ⟨101202, 167, 3, [19, 164, 166, 18, 165], [(170, .lss (.r 169) (.r 19)), (171, .conv .u64 (.r 169)), (172, .add .u64 (.r 18) (.r 171)), (173, .geq (.r 172) (.r 164)), (174, .and (.r 166) (.r 173)), (175, .conv .u64 (.r 169)), (176, .add .u64 (.r 18) (.r 175)), (177, .leq (.r 176) (.r 165)), (178, .and (.r 174) (.r 177)), (179, .or (.r 167) (.r 178)), (180, .and (.r 168) (.r 178)), (181, .add .i64 (.r 169) (.z 1))], [], .r 170, [.r 179, .r 180, .r 181], [.z 0, .r 167, .r 168, .r 169], [false, false, true]⟩
def l12_7 : LR := ⟨101202, 188, 3, [19, 185, 187, 18, 186], [(191, .lss (.r 190) (.r 19)), (192, .conv .u64 (.r 190)), (193, .add .u64 (.r 18) (.r 192)), (194, .geq (.r 193) (.r 185)), (195, .and (.r 187) (.r 194)), (196, .conv .u64 (.r 190)), (197, .add .u64 (.r 18) (.r 196)), (198, .leq (.r 197) (.r 186)), (199, .and (.r 195) (.r 198)), (200, .or (.r 188) (.r 199)), (201, .and (.r 189) (.r 199)), (202, .add .i64 (.r 190) (.z 1))], [], .r 191, [.r 200, .r 201, .r 202], [.z 0, .r 188, .r 189, .r 190], [false, false, true]⟩
def s12 : Sig := ⟨[.agg [.int .u8, .int .u8, .int .u8, .int .u8, .int .u8, .int .u8, .int .u8, .int .u8], .agg [.int .u64, .int .u64, .int .u64, .int .u64, .int .u64, .int .u64, .int .u64, .int .u64], .one (.int .i64), .one (.int .i64), .one (.int .u64), .one (.int .i64)], [.one (.bool)], true⟩
def o12 : Out := ⟨[(20, .lss (.r 17) (.z 0)), (21, .gtr (.r 17) (.z 3)), (22, .or (.r 20) (.r 21)), (23, .neq (.r 19) (.z 1)), (24, .neq (.r 19) (.z 2)), (25, .and (.r 23) (.r 24)), (26, .neq (.r 19) (.z 4)), (27, .and (.r 25) (.r 26)), (28, .neq (.r 19) (.z 8)), (29, .and (.r 27) (.r 28)), (30, .or (.r 22) (.r 29)), (31, .sub .i64 (.r 19) (.z 1)), (32, .conv .u64 (.r 31)), (33, .sub .u64 (.z 18446744073709551615) (.r 32)), (34, .gtr (.r 18) (.r 33)), (35, .or (.r 30) (.r 34)), (36, .not (.r 35)), (37, .call 9 [.r 0, .r 1, .r 2, .r 3, .r 4, .r 5, .r 6, .r 7, .r 8, .r 9, .r 10, .r 11, .r 12, .r 13, .r 14, .r 15, .z 0] 0), (38, .call 9 [.r 0, .r 1, .r 2, .r 3, .r 4, .r 5, .r 6, .r 7, .r 8, .r 9, .r 10, .r 11, .r 12, .r 13, .r 14, .r 15, .z 0] 1), (39, .call 9 [.r 0, .r 1, .r 2, .r 3, .r 4, .r 5, .r 6, .r 7, .r 8, .r 9, .r 10, .r 11, .r 12, .r 13, .r 14, .r 15, .z 0] 2), (40, .call 9 [.r 0, .r 1, .r 2, .r 3, .r 4, .r 5, .r 6, .r 7, .r 8, .r 9, .r 10, .r 11, .r 12, .r 13, .r 14, .r 15, .z 0] 3), (41, .call 101202 [.r 19, .r 38, .r 40, .r 18, .r 39, .t false, .t true, .z 0] 0), (42, .call 101202 [.r 19, .r 38, .r 40, .r 18, .r 39, .t false, .t true, .z 0] 1), (43, .call 101202 [.r 19, .r 38, .r 40, .r 18, .r 39, .t false, .t true, .z 0] 2), (44, .call 101202 [.r 19, .r 38, .r 40, .r 18, .r 39, .t false, .t true, .z 0] 3), (45, .call 101202 [.r 19, .r 38, .r 40, .r 18, .r 39, .t false, .t true, .z 0] 4), (46, .not (.r 43)), (47, .not (.r 46)), (48, .call 22 [.r 0, .z 7] 0), (49, .call 22 [.r 0, .z 7] 1), (50, .eql (.r 16) (.z 3)), (51, .not (.r 49)), (52, .and (.r 50) (.r 51)), (53, .call 23 [.r 0, .r 17] 0), (54, .call 23 [.r 0, .r 17] 1), (55, .or (.r 52) (.r 54)), (56, .and (.r 44) (.r 55)), (57, .not (.r 47)), (58, .call 9 [.r 0, .r 1, .r 2, .r 3, .r 4, .r 5, .r 6, .r 7, .r 8, .r 9, .r 10, .r 11, .r 12, .r 13, .r 14, .r 15, .z 1] 0), (59, .call 9 [.r 0, .r 1, .r 2, .r 3, .r 4, .r 5, .r 6, .r 7, .r 8, .r 9, .r 10, .r 11, .r 12, .r 13, .r 14, .r 15, .z 1] 1), (60, .call 9 [.r 0, .r 1, .r 2, .r 3, .r 4, .r 5, .r 6, .r 7, .r 8, .r 9, .r 10, .r 11, .r 12, .r 13, .r 14, .r 15, .z 1] 2), (61, .call 9 [.r 0, .r 1, .r 2, .r 3, .r 4, .r 5, .r 6, .r 7, .r 8, .r 9, .r 10, .r 11, .r 12, .r 13, .r 14, .r 15, .z 1] 3), (62, .call 101202 [.r 19, .r 59, .r 61, .r 18, .r 60, .t false, .t true, .z 0] 0), (63, .call 101202 [.r 19, .r 59, .r 61, .r 18, .r 60, .t false, .t true, .z 0] 1), (64, .call 101202 [.r 19, .r 59, .r 61, .r 18, .r 60, .t false, .t true, .z 0] 2), (65, .call 101202 [.r 19, .r 59, .r 61, .r 18, .r 60, .t false, .t true, .z 0] 3), (66, .call 101202 [.r 19, .r 59, .r 61, .r 18, .r 60, .t false, .t true, .z 0] 4), (67, .not (.r 64)), (68, .not (.r 67)), (69, .call 22 [.r 1, .z 7] 0), (70, .call 22 [.r 1, .z 7] 1), (71, .eql (.r 16) (.z 3)), (72, .not (.r 70)), (73, .and (.r 71) (.r 72)), (74, .call 23 [.r 1, .r 17] 0), (75, .call 23 [.r 1, .r 17] 1), (76, .or (.r 73) (.r 75)), (77, .and (.r 65) (.r 76)), (78, .not (.r 68)), (79, .call 9 [.r 0, .r 1, .r 2, .r 3, .r 4, .r 5, .r 6, .r 7, .r 8, .r 9, .r 10, .r 11, .r 12, .r 13, .r 14, .r 15, .z 2] 0), (80, .call 9 [.r 0, .r 1, .r 2, .r 3, .r 4, .r 5, .r 6, .r 7, .r 8, .r 9, .r 10, .r 11, .r 12, .r 13, .r 14, .r 15, .z 2] 1), (81, .call 9 [.r 0, .r 1, .r 2, .r 3, .r 4, .r 5, .r 6, .r 7, .r 8, .r 9, .r 10, .r 11, .r 12, .r 13, .r 14, .r 15, .z 2] 2), (82, .call 9 [.r 0, .r 1, .r 2, .r 3, .r 4, .r 5, .r 6, .r 7, .r 8, .r 9, .r 10, .r 11, .r 12, .r 13, .r 14, .r 15, .z 2] 3), (83, .call 101202 [.r 19, .r 80, .r 82, .r 18, .r 81, .t false, .t true, .z 0] 0), (84, .call 101202 [.r 19, .r 80, .r 82, .r 18, .r 81, .t false, .t true, .z 0] 1), (85, .call 101202 [.r 19, .r 80, .r 82, .r 18, .r 81, .t false, .t true, .z 0] 2), (86, .call 101202 [.r 19, .r 80, .r 82, .r 18, .r 81, .t false, .t true, .z 0] 3), (87, .call 101202 [.r 19, .r 80, .r 82, .r 18, .r 81, .t false, .t true, .z 0] 4), (88, .not (.r 85)), (89, .not (.r 88)), (90, .call 22 [.r 2, .z 7] 0), (91, .call 22 [.r 2, .z 7] 1), (92, .eql (.r 16) (.z 3)), (93, .not (.r 91)), (94, .and (.r 92) (.r 93)), (95, .call 23 [.r 2, .r 17] 0), (96, .call 23 [.r 2, .r 17] 1), (97, .or (.r 94) (.r 96)), (98, .and (.r 86) (.r 97)), (99, .not (.r 89)), (100, .call 9 [.r 0, .r 1, .r 2, .r 3, .r 4, .r 5, .r 6, .r 7, .r 8, .r 9, .r 10, .r 11, .r 12, .r 13, .r 14, .r 15, .z 3] 0), (101, .call 9 [.r 0, .r 1, .r 2, .r 3, .r 4, .r 5, .r 6, .r 7, .r 8, .r 9, .r 10, .r 11, .r 12, .r 13, .r 14, .r 15, .z 3] 1), (102, .call 9 [.r 0, .r 1, .r 2, .r 3, .r 4, .r 5, .r 6, .r 7, .r 8, .r 9, .r 10, .r 11, .r 12, .r 13, .r 14, .r 15, .z 3] 2), (103, .call 9 [.r 0, .r 1, .r 2, .r 3, .r 4, .r 5, .r 6, .r 7, .r 8, .r 9, .r 10, .r 11, .r 12, .r 13, .r 14, .r 15, .z 3] 3), (104, .call 101202 [.r 19, .r 101, .r 103, .r 18, .r 102, .t false, .t true, .z 0] 0), (105, .call 101202 [.r 19, .r 101, .r 103, .r 18, .r 102, .t false, .t true, .z 0] 1), (106, .call 101202 [.r 19, .r 101, .r 103, .r 18, .r 102, .t false, .t true, .z 0] 2), (107, .call 101202 [.r 19, .r 101, .r 103, .r 18, .r 102, .t false, .t true, .z 0] 3), (108, .call 101202 [.r 19, .r 101, .r 103, .r 18, .r 102, .t false, .t true, .z 0] 4), (109, .not (.r 106)), (110, .not (.r 109)), (111, .call 22 [.r 3, .z 7] 0), (112, .call 22 [.r 3, .z 7] 1), (113, .eql (.r 16) (.z 3)), (114, .not (.r 112)), (115, .and (.r 113) (.r 114)), (116, .call 23 [.r 3, .r 17] 0), (117, .call 23 [.r 3, .r 17] 1), (118, .or (.r 115) (.r 117)), (119, .and (.r 107) (.r 118)), (120, .not (.r 110)), (121, .call 9 [.r 0, .r 1, .r 2, .r 3, .r 4, .r 5, .r 6, .r 7, .r 8, .r 9, .r 10, .r 11, .r 12, .r 13, .r 14, .r 15, .z 4] 0), (122, .call 9 [.r 0, .r 1, .r 2, .r 3, .r 4, .r 5, .r 6, .r 7, .r 8, .r 9, .r 10, .r 11, .r 12, .r 13, .r 14, .r 15, .z 4] 1), (123, .call 9 [.r 0, .r 1, .r 2, .r 3, .r 4, .r 5, .r 6, .r 7, .r 8, .r 9, .r 10, .r 11, .r 12, .r 13, .r 14, .r 15, .z 4] 2), (124, .call 9 [.r 0, .r 1, .r 2, .r 3, .r 4, .r 5, .r 6, .r 7, .r 8, .r 9, .r 10, .r 11, .r 12, .r 13, .r 14, .r 15, .z 4] 3), (125, .call 101202 [.r 19, .r 122, .r 124, .r 18, .r 123, .t false, .t true, .z 0] 0), (126, .call 101202 [.r 19, .r 122, .r 124, .r 18, .r 123, .t false, .t true, .z 0] 1), (127, .call 101202 [.r 19, .r 122, .r 124, .r 18, .r 123, .t false, .t true, .z 0] 2), (128, .call 101202 [.r 19, .r 122, .r 124, .r 18, .r 123, .t false, .t true, .z 0] 3), (129, .call 101202 [.r 19, .r 122, .r 124, .r 18, .r 123, .t false, .t true, .z 0] 4), (130, .not (.r 127)), (131, .not (.r 130)), (132, .call 22 [.r 4, .z 7] 0), (133, .call 22 [.r 4, .z 7] 1), (134, .eql (.r 16) (.z 3)), (135, .not (.r 133)), (136, .and (.r 134) (.r 135)), (137, .call 23 [.r 4, .r 17] 0), (138, .call 23 [.r 4, .r 17] 1), (139, .or (.r 136) (.r 138)), (140, .and (.r 128) (.r 139)), (141, .not (.r 131)), (142, .call 9 [.r 0, .r 1, .r 2, .r 3, .r 4, .r 5, .r 6, .r 7, .r 8, .r 9, .r 10, .r 11, .r 12, .r 13, .r 14, .r 15, .z 5] 0), (143, .call 9 [.r 0, .r 1, .r 2, .r 3, .r 4, .r 5, .r 6, .r 7, .r 8, .r 9, .r 10, .r 11, .r 12, .r 13, .r 14, .r 15, .z 5] 1), (144, .call 9 [.r 0, .r 1, .r 2, .r 3, .r 4, .r 5, .r 6, .r 7, .r 8, .r 9, .r 10, .r 11, .r 12, .r 13, .r 14, .r 15, .z 5] 2), (145, .call 9 [.r 0, .r 1, .r 2, .r 3, .r 4, .r 5, .r 6, .r 7, .r 8, .r 9, .r 10, .r 11, .r 12, .r 13, .r 14, .r 15, .z 5] 3), (146, .call 101202 [.r 19, .r 143, .r 145, .r 18, .r 144, .t false, .t true, .z 0] 0), (147, .call 101202 [.r 19, .r 143, .r 145, .r 18, .r 144, .t false, .t true, .z 0] 1), (148, .call 101202 [.r 19, .r 143, .r 145, .r 18, .r 144, .t false, .t true, .z 0] 2), (149, .call 101202 [.r 19, .r 143, .r 145, .r 18, .r 144, .t false, .t true, .z 0] 3), (150, .call 101202 [.r 19, .r 143, .r 145, .r 18, .r 144, .t false, .t true, .z 0] 4), (151, .not (.r 148)), (152, .not (.r 151)), (153, .call 22 [.r 5, .z 7] 0), (154, .call 22 [.r 5, .z 7] 1), (155, .eql (.r 16) (.z 3)), (156, .not (.r 154)), (157, .and (.r 155) (.r 156)), (158, .call 23 [.r 5, .r 17] 0), (159, .call 23 [.r 5, .r 17] 1), (160, .or (.r 157) (.r 159)), (161, .and (.r 149) (.r 160)), (162, .not (.r 152)), (163, .call 9 [.r 0, .r 1, .r 2, .r 3, .r 4, .r 5, .r 6, .r 7, .r 8, .r 9, .r 10, .r 11, .r 12, .r 13, .r 14, .r 15, .z 6] 0), (164, .call 9 [.r 0, .r 1, .r 2, .r 3, .r 4, .r 5, .r 6, .r 7, .r 8, .r 9, .r 10, .r 11, .r 12, .r 13, .r 14, .r 15, .z 6] 1), (165, .call 9 [.r 0, .r 1, .r 2, .r 3, .r 4, .r 5, .r 6, .r 7, .r 8, .r 9, .r 10, .r 11, .r 12, .r 13, .r 14, .r 15, .z 6] 2), (166, .call 9 [.r 0, .r 1, .r 2, .r 3, .r 4, .r 5, .r 6, .r 7, .r 8, .r 9, .r 10, .r 11, .r 12, .r 13, .r 14, .r 15, .z 6] 3), (167, .call 101202 [.r 19, .r 164, .r 166, .r 18, .r 165, .t false, .t true, .z 0] 0), (168, .call 101202 [.r 19, .r 164, .r 166, .r 18, .r 165, .t false, .t true, .z 0] 1), (169, .call 101202 [.r 19, .r 164, .r 166, .r 18, .r 165, .t false, .t true, .z 0] 2), (170, .call 101202 [.r 19, .r 164, .r 166, .r 18, .r 165, .t false, .t true, .z 0] 3), (171, .call 101202 [.r 19, .r 164, .r 166, .r 18, .r 165, .t false, .t true, .z 0] 4), (172, .not (.r 169)), (173, .not (.r 172)), (174, .call 22 [.r 6, .z 7] 0), (175, .call 22 [.r 6, .z 7] 1), (176, .eql (.r 16) (.z 3)), (177, .not (.r 175)), (178, .and (.r 176) (.r 177)), (179, .call 23 [.r 6, .r 17] 0), (180, .call 23 [.r 6, .r 17] 1), (181, .or (.r 178) (.r 180)), (182, .and (.r 170) (.r 181)), (183, .not (.r 173)), (184, .call 9 [.r 0, .r 1, .r 2, .r 3, .r 4, .r 5, .r 6, .r 7, .r 8, .r 9, .r 10, .r 11, .r 12, .r 13, .r 14, .r 15, .z 7] 0), (185, .call 9 [.r 0, .r 1, .r 2, .r 3, .r 4, .r 5, .r 6, .r 7, .r 8, .r 9, .r 10, .r 11, .r 12, .r 13, .r 14, .r 15, .z 7] 1), (186, .call 9 [.r 0, .r 1, .r 2, .r 3, .r 4, .r 5, .r 6, .r 7, .r 8, .r 9, .r 10, .r 11, .r 12, .r 13, .r 14, .r 15, .z 7] 2), (187, .call 9 [.r 0, .r 1, .r 2, .r 3, .r 4, .r 5, .r 6, .r 7, .r 8, .r 9, .r 10, .r 11, .r 12, .r 13, .r 14, .r 15, .z 7] 3), (188, .call 101202 [.r 19, .r 185, .r 187, .r 18, .r 186, .t false, .t true, .z 0] 0), (189, .call 101202 [.r 19, .r 185, .r 187, .r 18, .r 186, .t false, .t true, .z 0] 1), (190, .call 101202 [.r 19, .r 185, .r 187, .r 18, .r 186, .t false, .t true, .z 0] 2), (191, .call 101202 [.r 19, .r 185, .r 187, .r 18, .r 186, .t false, .t true, .z 0] 3), (192, .call 101202 [.r 19, .r 185, .r 187, .r 18, .r 186, .t false, .t true, .z 0] 4), (193, .not (.r 190)), (194, .not (.r 193)), (195, .call 22 [.r 7, .z 7] 0), (196, .call 22 [.r 7, .z 7] 1), (197, .eql (.r 16) (.z 3)), (198, .not (.r 196)), (199, .and (.r 197) (.r 198)), (200, .call 23 [.r 7, .r 17] 0), (201, .call 23 [.r 7, .r 17] 1), (202, .or (.r 199) (.r 201)), (203, .and (.r 191) (.r 202)), (204, .not (.r 194)), (205, .and (.r 183) (.r 204)), (206, .and (.r 162) (.r 205)), (207, .and (.r 141) (.r 206)), (208, .and (.r 120) (.r 207)), (209, .and (.r 99) (.r 208)), (210, .and (.r 78) (.r 209)), (211, .and (.r 57) (.r 210)), (212, .eql (.r 16) (.z 3)), (213, .iteb (.r 183) (.r 203) (.r 182)), (214, .iteb (.r 162) (.r 213) (.r 161)), (215, .iteb (.r 141) (.r 214) (.r 140)), (216, .iteb (.r 120) (.r 215) (.r 119)), (217, .iteb (.r 99) (.r 216) (.r 98)), (218, .iteb (.r 78) (.r 217) (.r 77)), (219, .iteb (.r 57) (.r 218) (.r 56)), (220, .iteb (.r 211) (.r 212) (.r 219)), (221, .and (.r 36) (.r 220))],
  [⟨[(.r 36, true)], .r 37⟩, ⟨[(.r 36, true)], .r 41⟩, ⟨[(.r 36, true), (.r 47, true)], .r 48⟩, ⟨[(.r 36, true), (.r 47, true), (.r 52, false), (.r 44, true)], .r 53⟩, ⟨[(.r 36, true), (.r 57, true)], .r 58⟩, ⟨[(.r 36, true), (.r 57, true)], .r 62⟩, ⟨[(.r 36, true), (.r 57, true), (.r 68, true)], .r 69⟩, ⟨[(.r 36, true), (.r 57, true), (.r 68, true), (.r 73, false), (.r 65, true)], .r 74⟩, ⟨[(.r 36, true), (.r 57, true), (.r 78, true)], .r 79⟩, ⟨[(.r 36, true), (.r 57, true), (.r 78, true)], .r 83⟩, ⟨[(.r 36, true), (.r 57, true), (.r 78, true), (.r 89, true)], .r 90⟩, ⟨[(.r 36, true), (.r 57, true), (.r 78, true), (.r 89, true), (.r 94, false), (.r 86, true)], .r 95⟩, ⟨[(.r 36, true), (.r 57, true), (.r 78, true), (.r 99, true)], .r 100⟩, ⟨[(.r 36, true), (.r 57, true), (.r 78, true), (.r 99, true)], .r 104⟩, ⟨[(.r 36, true), (.r 57, true), (.r 78, true), (.r 99, true), (.r 110, true)], .r 111⟩, ⟨[(.r 36, true), (.r 57, true), (.r 78, true), (.r 99, true), (.r 110, true), (.r 115, false), (.r 107, true)], .r 116⟩, ⟨[(.r 36, true), (.r 57, true), (.r 78, true), (.r 99, true), (.r 120, true)], .r 121⟩, ⟨[(.r 36, true), (.r 57, true), (.r 78, true), (.r 99, true), (.r 120, true)], .r 125⟩, ⟨[(.r 36, true), (.r 57, true), (.r 78, true), (.r 99, true), (.r 120, true), (.r 131, true)], .r 132⟩, ⟨[(.r 36, true), (.r 57, true), (.r 78, true), (.r 99, true), (.r 120, true), (.r 131, true), (.r 136, false), (.r 128, true)], .r 137⟩, ⟨[(.r 36, true), (.r 57, true), (.r 78, true), (.r 99, true), (.r 120, true), (.r 141, true)], .r 142⟩, ⟨[(.r 36, true), (.r 57, true), (.r 78, true), (.r 99, true), (.r 120, true), (.r 141, true)], .r 146⟩, ⟨[(.r 36, true), (.r 57, true), (.r 78, true), (.r 99, true), (.r 120, true), (.r 141, true), (.r 152, true)], .r 153⟩, ⟨[(.r 36, true), (.r 57, true), (.r 78, true), (.r 99, true), (.r 120, true), (.r 141, true), (.r 152, true), (.r 157, false), (.r 149, true)], .r 158⟩, ⟨[(.r 36, true), (.r 57, true), (.r 78, true), (.r 99, true), (.r 120, true), (.r 141, true), (.r 162, true)], .r 163⟩, ⟨[(.r 36, true), (.r 57, true), (.r 78, true), (.r 99, true), (.r 120, true), (.r 141, true), (.r 162, true)], .r 167⟩, ⟨[(.r 36, true), (.r 57, true), (.r 78, true), (.r 99, true), (.r 120, true), (.r 141, true), (.r 162, true), (.r 173, true)], .r 174⟩, ⟨[(.r 36, true), (.r 57, true), (.r 78, true), (.r 99, true), (.r 120, true), (.r 141, true), (.r 162, true), (.r 173, true), (.r 178, false), (.r 170, true)], .r 179⟩, ⟨[(.r 36, true), (.r 57, true), (.r 78, true), (.r 99, true), (.r 120, true), (.r 141, true), (.r 162, true), (.r 183, true)], .r 184⟩, ⟨[(.r 36, true), (.r 57, true), (.r 78, true), (.r 99, true), (.r 120, true), (.r 141, true), (.r 162, true), (.r 183, true)], .r 188⟩, ⟨[(.r 36, true), (.r 57, true), (.r 78, true), (.r 99, true), (.r 120, true), (.r 141, true), (.r 162, true), (.r 183, true), (.r 194, true)], .r 195⟩, ⟨[(.r 36, true), (.r 57, true), (.r 78, true), (.r 99, true), (.r 120, true), (.r 141, true), (.r 162, true), (.r 183, true), (.r 194, true), (.r 199, false), (.r 191, true)], .r 200⟩],
  [l12_0, l12_1, l12_2, l12_3, l12_4, l12_5, l12_6, l12_7],
  [.r 221]⟩
noncomputable def p12 (x0 : Int) (x1 : Int) (x2 : Int) (x3 : Int) (x4 : Int) (x5 : Int) (x6 : Int) (x7 : Int) (x8 : Int) (x9 : Int) (x10 : Int) (x11 : Int) (x12 : Int) (x13 : Int) (x14 : Int) (x15 : Int) (x16 : Int) (x17 : Int) (x18 : Int) (x19 : Int) : Bool :=
  let x20 := decide (x17 < 0)
  let x21 := decide (x17 > 3)
  let x22 := x20 || x21
  let x23 := x19 != 1
  let x24 := x19 != 2
  let x25 := x23 && x24
  let x26 := x19 != 4
  let x27 := x25 && x26
  let x28 := x19 != 8
  let x29 := x27 && x28
  let x30 := x22 || x29
  let x31 := IntKind.wrap .i64 (x19 - 1)
  let x32 := IntKind.wrap .u64 x31
  let x33 := IntKind.wrap .u64 (18446744073709551615 - x32)
  let x34 := decide (x18 > x33)
  let x35 := x30 || x34
  let x36 := !x35
  let x37 := p9 x0 x1 x2 x3 x4 x5 x6 x7 x8 x9 x10 x11 x12 x13 x14 x15 0
  let x38 := r9_0 x0 x1 x2 x3 x4 x5 x6 x7 x8 x9 x10 x11 x12 x13 x14 x15 0
  let x39 := r9_1 x0 x1 x2 x3 x4 x5 x6 x7 x8 x9 x10 x11 x12 x13 x14 x15 0
  let x40 := r9_2 x0 x1 x2 x3 x4 x5 x6 x7 x8 x9 x10 x11 x12 x13 x14 x15 0
  let x41 := p101202 x19 x38 x40 x18 x39 false true 0
  let x43 := r101202_1 x19 x38 x40 x18 x39 false true 0
  let x44 := r101202_2 x19 x38 x40 x18 x39 false true 0
  let x46 := !x43
  let x47 := !x46
  let x48 := p22 x0 7
  let x49 := r22_0 x0 7
  let x50 := x16 == 3
  let x51 := !x49
  let x52 := x50 && x51
  let x53 := p23 x0 x17
  let x57 := !x47
  let x58 := p9 x0 x1 x2 x3 x4 x5 x6 x7 x8 x9 x10 x11 x12 x13 x14 x15 1
  let x59 := r9_0 x0 x1 x2 x3 x4 x5 x6 x7 x8 x9 x10 x11 x12 x13 x14 x15 1
  let x60 := r9_1 x0 x1 x2 x3 x4 x5 x6 x7 x8 x9 x10 x11 x12 x13 x14 x15 1
  let x61 := r9_2 x0 x1 x2 x3 x4 x5 x6 x7 x8 x9 x10 x11 x12 x13 x14 x15 1
  let x62 := p101202 x19 x59 x61 x18 x60 false true 0
  let x64 := r101202_1 x19 x59 x61 x18 x60 false true 0
  let x65 := r101202_2 x19 x59 x61 x18 x60 false true 0
  let x67 := !x64
  let x68 := !x67
  let x69 := p22 x1 7
  let x70 := r22_0 x1 7
  let x71 := x16 == 3
  let x72 := !x70
  let x73 := x71 && x72
  let x74 := p23 x1 x17
  let x78 := !x68
  let x79 := p9 x0 x1 x2 x3 x4 x5 x6 x7 x8 x9 x10 x11 x12 x13 x14 x15 2
  let x80 := r9_0 x0 x1 x2 x3 x4 x5 x6 x7 x8 x9 x10 x11 x12 x13 x14 x15 2
  let x81 := r9_1 x0 x1 x2 x3 x4 x5 x6 x7 x8 x9 x10 x11 x12 x13 x14 x15 2
  let x82 := r9_2 x0 x1 x2 x3 x4 x5 x6 x7 x8 x9 x10 x11 x12 x13 x14 x15 2
  let x83 := p101202 x19 x80 x82 x18 x81 false true 0
  let x85 := r101202_1 x19 x80 x82 x18 x81 false true 0
  let x86 := r101202_2 x19 x80 x82 x18 x81 false true 0
  let x88 := !x85
  let x89 := !x88
  let x90 := p22 x2 7
  let x91 := r22_0 x2 7
  let x92 := x16 == 3
  let x93 := !x91
  let x94 := x92 && x93
  let x95 := p23 x2 x17
  let x99 := !x89
  let x100 := p9 x0 x1 x2 x3 x4 x5 x6 x7 x8 x9 x10 x11 x12 x13 x14 x15 3
  let x101 := r9_0 x0 x1 x2 x3 x4 x5 x6 x7 x8 x9 x10 x11 x12 x13 x14 x15 3
  let x102 := r9_1 x0 x1 x2 x3 x4 x5 x6 x7 x8 x9 x10 x11 x12 x13 x14 x15 3
  let x103 := r9_2 x0 x1 x2 x3 x4 x5 x6 x7 x8 x9 x10 x11 x12 x13 x14 x15 3
  let x104 := p101202 x19 x101 x103 x18 x102 false true 0
  let x106 := r101202_1 x19 x101 x103 x18 x102 false true 0
  let x107 := r101202_2 x19 x101 x103 x18 x102 false true 0
  let x109 := !x106
  let x110 := !x109
  let x111 := p22 x3 7
  let x112 := r22_0 x3 7
  let x113 := x16 == 3
  let x114 := !x112
  let x115 := x113 && x114
  let x116 := p23 x3 x17
  let x120 := !x110
  let x121 := p9 x0 x1 x2 x3 x4 x5 x6 x7 x8 x9 x10 x11 x12 x13 x14 x15 4
  let x122 := r9_0 x0 x1 x2 x3 x4 x5 x6 x7 x8 x9 x10 x11 x12 x13 x14 x15 4
  let x123 := r9_1 x0 x1 x2 x3 x4 x5 x6 x7 x8 x9 x10 x11 x12 x13 x14 x15 4
  let x124 := r9_2 x0 x1 x2 x3 x4 x5 x6 x7 x8 x9 x10 x11 x12 x13 x14 x15 4
  let x125 := p101202 x19 x122 x124 x18 x123 false true 0
  let x127 := r101202_1 x19 x122 x124 x18 x123 false true 0
  let x128 := r101202_2 x19 x122 x124 x18 x123 false true 0
  let x130 := !x127
  let x131 := !x130
  let x132 := p22 x4 7
  let x133 := r22_0 x4 7
  let x134 := x16 == 3
  let x135 := !x133
  let x136 := x134 && x135
  let x137 := p23 x4 x17
  let x141 := !x131
  let x142 := p9 x0 x1 x2 x3 x4 x5 x6 x7 x8 x9 x10 x11 x12 x13 x14 x15 5
  let x143 := r9_0 x0 x1 x2 x3 x4 x5 x6 x7 x8 x9 x10 x11 x12 x13 x14 x15 5
  let x144 := r9_1 x0 x1 x2 x3 x4 x5 x6 x7 x8 x9 x10 x11 x12 x13 x14 x15 5
  let x145 := r9_2 x0 x1 x2 x3 x4 x5 x6 x7 x8 x9 x10 x11 x12 x13 x14 x15 5
  let x146 := p101202 x19 x143 x145 x18 x144 false true 0
  let x148 := r101202_1 x19 x143 x145 x18 x144 false true 0
  let x149 := r101202_2 x19 x143 x145 x18 x144 false true 0
  let x151 := !x148
  let x152 := !x151
  let x153 := p22 x5 7
  let x154 := r22_0 x5 7
  let x155 := x16 == 3
  let x156 := !x154
  let x157 := x155 && x156
  let x158 := p23 x5 x17
  let x162 := !x152
  let x163 := p9 x0 x1 x2 x3 x4 x5 x6 x7 x8 x9 x10 x11 x12 x13 x14 x15 6
  let x164 := r9_0 x0 x1 x2 x3 x4 x5 x6 x7 x8 x9 x10 x11 x12 x13 x14 x15 6
  let x165 := r9_1 x0 x1 x2 x3 x4 x5 x6 x7 x8 x9 x10 x11 x12 x13 x14 x15 6
  let x166 := r9_2 x0 x1 x2 x3 x4 x5 x6 x7 x8 x9 x10 x11 x12 x13 x14 x15 6
  let x167 := p101202 x19 x164 x166 x18 x165 false true 0
  let x169 := r101202_1 x19 x164 x166 x18 x165 false true 0
  let x170 := r101202_2 x19 x164 x166 x18 x165 false true 0
  let x172 := !x169
  let x173 := !x172
  let x174 := p22 x6 7
  let x175 := r22_0 x6 7
  let x176 := x16 == 3
  let x177 := !x175
  let x178 := x176 && x177
  let x179 := p23 x6 x17
  let x183 := !x173
  let x184 := p9 x0 x1 x2 x3 x4 x5 x6 x7 x8 x9 x10 x11 x12 x13 x14 x15 7
  let x185 := r9_0 x0 x1 x2 x3 x4 x5 x6 x7 x8 x9 x10 x11 x12 x13 x14 x15 7
  let x186 := r9_1 x0 x1 x2 x3 x4 x5 x6 x7 x8 x9 x10 x11 x12 x13 x14 x15 7
  let x187 := r9_2 x0 x1 x2 x3 x4 x5 x6 x7 x8 x9 x10 x11 x12 x13 x14 x15 7
  let x188 := p101202 x19 x185 x187 x18 x186 false true 0
  let x190 := r101202_1 x19 x185 x187 x18 x186 false true 0
  let x191 := r101202_2 x19 x185 x187 x18 x186 false true 0
  let x193 := !x190
  let x194 := !x193
  let x195 := p22 x7 7
  let x196 := r22_0 x7 7
  let x197 := x16 == 3
  let x198 := !x196
  let x199 := x197 && x198
  let x200 := p23 x7 x17
  [ow [(x36, true)] x37, ow [(x36, true)] x41, ow [(x36, true), (x47, true)] x48, ow [(x36, true), (x47, true), (x52, false), (x44, true)] x53, ow [(x36, true), (x57, true)] x58, ow [(x36, true), (x57, true)] x62, ow [(x36, true), (x57, true), (x68, true)] x69, ow [(x36, true), (x57, true), (x68, true), (x73, false), (x65, true)] x74, ow [(x36, true), (x57, true), (x78, true)] x79, ow [(x36, true), (x57, true), (x78, true)] x83, ow [(x36, true), (x57, true), (x78, true), (x89, true)] x90, ow [(x36, true), (x57, true), (x78, true), (x89, true), (x94, false), (x86, true)] x95, ow [(x36, true), (x57, true), (x78, true), (x99, true)] x100, ow [(x36, true), (x57, true), (x78, true), (x99, true)] x104, ow [(x36, true), (x57, true), (x78, true), (x99, true), (x110, true)] x111, ow [(x36, true), (x57, true), (x78, true), (x99, true), (x110, true), (x115, false), (x107, true)] x116, ow [(x36, true), (x57, true), (x78, true), (x99, true), (x120, true)] x121, ow [(x36, true), (x57, true), (x78, true), (x99, true), (x120, true)] x125, ow [(x36, true), (x57, true), (x78, true), (x99, true), (x120, true), (x131, true)] x132, ow [(x36, true), (x57, true), (x78, true), (x99, true), (x120, true), (x131, true), (x136, false), (x128, true)] x137, ow [(x36, true), (x57, true), (x78, true), (x99, true), (x120, true), (x141, true)] x142, ow [(x36, true), (x57, true), (x78, true), (x99, true), (x120, true), (x141, true)] x146, ow [(x36, true), (x57, true), (x78, true), (x99, true), (x120, true), (x141, true), (x152, true)] x153, ow [(x36, true), (x57, true), (x78, true), (x99, true), (x120, true), (x141, true), (x152, true), (x157, false), (x149, true)] x158, ow [(x36, true), (x57, true), (x78, true), (x99, true), (x120, true), (x141, true), (x162, true)] x163, ow [(x36, true), (x57, true), (x78, true), (x99, true), (x120, true), (x141, true), (x162, true)] x167, ow [(x36, true), (x57, true), (x78, true), (x99, true), (x120, true), (x141, true), (x162, true), (x173, true)] x174, ow [(x36, true), (x57, true), (x78, true), (x99, true), (x120, true), (x141, true), (x162, true), (x173, true), (x178, false), (x170, true)] x179, ow [(x36, true), (x57, true), (x78, true), (x99, true), (x120, true), (x141, true), (x162, true), (x183, true)] x184, ow [(x36, true), (x57, true), (x78, true), (x99, true), (x120, true), (x141, true), (x162, true), (x183, true)] x188, ow [(x36, true), (x57, true), (x78, true), (x99, true), (x120, true), (x141, true), (x162, true), (x183, true), (x194, true)] x195, ow [(x36, true), (x57, true), (x78, true), (x99, true), (x120, true), (x141, true), (x162, true), (x183, true), (x194, true), (x199, false), (x191, true)] x200].all id
noncomputable def r12_0 (x0 : Int) (x1 : Int) (x2 : Int) (x3 : Int) (x4 : Int) (x5 : Int) (x6 : Int) (x7 : Int) (x8 : Int) (x9 : Int) (x10 : Int) (x11 : Int) (x12 : Int) (x13 : Int) (x14 : Int) (x15 : Int) (x16 : Int) (x17 : Int) (x18 : Int) (x19 : Int) : Bool :=
  let x20 := decide (x17 < 0)
  let x21 := decide (x17 > 3)
  let x22 := x20 || x21
  let x23 := x19 != 1
  let x24 := x19 != 2
  let x25 := x23 && x24
  let x26 := x19 != 4
  let x27 := x25 && x26
  let x28 := x19 != 8
  let x29 := x27 && x28
  let x30 := x22 || x29
  let x31 := IntKind.wrap .i64 (x19 - 1)
  let x32 := IntKind.wrap .u64 x31
  let x33 := IntKind.wrap .u64 (18446744073709551615 - x32)
  let x34 := decide (x18 > x33)
  let x35 := x30 || x34
  let x36 := !x35
  let x38 := r9_0 x0 x1 x2 x3 x4 x5 x6 x7 x8 x9 x10 x11 x12 x13 x14 x15 0
  let x39 := r9_1 x0 x1 x2 x3 x4 x5 x6 x7 x8 x9 x10 x11 x12 x13 x14 x15 0
  let x40 := r9_2 x0 x1 x2 x3 x4 x5 x6 x7 x8 x9 x10 x11 x12 x13 x14 x15 0
  let x43 := r101202_1 x19 x38 x40 x18 x39 false true 0
  let x44 := r101202_2 x19 x38 x40 x18 x39 false true 0
  let x46 := !x43
  let x47 := !x46
  let x49 := r22_0 x0 7
  let x50 := x16 == 3
  let x51 := !x49
  let x52 := x50 && x51
  let x54 := r23_0 x0 x17
  let x55 := x52 || x54
  let x56 := x44 && x55
  let x57 := !x47
  let x59 := r9_0 x0 x1 x2 x3 x4 x5 x6 x7 x8 x9 x10 x11 x12 x13 x14 x15 1
  let x60 := r9_1 x0 x1 x2 x3 x4 x5 x6 x7 x8 x9 x10 x11 x12 x13 x14 x15 1
  let x61 := r9_2 x0 x1 x2 x3 x4 x5 x6 x7 x8 x9 x10 x11 x12 x13 x14 x15 1
  let x64 := r101202_1 x19 x59 x61 x18 x60 false true 0
  let x65 := r101202_2 x19 x59 x61 x18 x60 false true 0
  let x67 := !x64
  let x68 := !x67
  let x70 := r22_0 x1 7
  let x71 := x16 == 3
  let x72 := !x70
  let x73 := x71 && x72
  let x75 := r23_0 x1 x17
  let x76 := x73 || x75
  let x77 := x65 && x76
  let x78 := !x68
  let x80 := r9_0 x0 x1 x2 x3 x4 x5 x6 x7 x8 x9 x10 x11 x12 x13 x14 x15 2
  let x81 := r9_1 x0 x1 x2 x3 x4 x5 x6 x7 x8 x9 x10 x11 x12 x13 x14 x15 2
  let x82 := r9_2 x0 x1 x2 x3 x4 x5 x6 x7 x8 x9 x10 x11 x12 x13 x14 x15 2
  let x85 := r101202_1 x19 x80 x82 x18 x81 false true 0
  let x86 := r101202_2 x19 x80 x82 x18 x81 false true 0
  let x88 := !x85
  let x89 := !x88
  let x91 := r22_0 x2 7
  let x92 := x16 == 3
  let x93 := !x91
  let x94 := x92 && x93
  let x96 := r23_0 x2 x17
  let x97 := x94 || x96
  let x98 := x86 && x97
  let x99 := !x89
  let x101 := r9_0 x0 x1 x2 x3 x4 x5 x6 x7 x8 x9 x10 x11 x12 x13 x14 x15 3
  let x102 := r9_1 x0 x1 x2 x3 x4 x5 x6 x7 x8 x9 x10 x11 x12 x13 x14 x15 3
  let x103 := r9_2 x0 x1 x2 x3 x4 x5 x6 x7 x8 x9 x10 x11 x12 x13 x14 x15 3
  let x106 := r101202_1 x19 x101 x103 x18 x102 false true 0
  let x107 := r101202_2 x19 x101 x103 x18 x102 false true 0
  let x109 := !x106
  let x110 := !x109
  let x112 := r22_0 x3 7
  let x113 := x16 == 3
  let x114 := !x112
  let x115 := x113 && x114
  let x117 := r23_0 x3 x17
  let x118 := x115 || x117
  let x119 := x107 && x118
  let x120 := !x110
  let x122 := r9_0 x0 x1 x2 x3 x4 x5 x6 x7 x8 x9 x10 x11 x12 x13 x14 x15 4
  let x123 := r9_1 x0 x1 x2 x3 x4 x5 x6 x7 x8 x9 x10 x11 x12 x13 x14 x15 4
  let x124 := r9_2 x0 x1 x2 x3 x4 x5 x6 x7 x8 x9 x10 x11 x12 x13 x14 x15 4
  let x127 := r101202_1 x19 x122 x124 x18 x123 false true 0
  let x128 := r101202_2 x19 x122 x124 x18 x123 false true 0
  let x130 := !x127
  let x131 := !x130
  let x133 := r22_0 x4 7
  let x134 := x16 == 3
  let x135 := !x133
  let x136 := x134 && x135
  let x138 := r23_0 x4 x17
  let x139 := x136 || x138
  let x140 := x128 && x139
  let x141 := !x131
  let x143 := r9_0 x0 x1 x2 x3 x4 x5 x6 x7 x8 x9 x10 x11 x12 x13 x14 x15 5
  let x144 := r9_1 x0 x1 x2 x3 x4 x5 x6 x7 x8 x9 x10 x11 x12 x13 x14 x15 5
  let x145 := r9_2 x0 x1 x2 x3 x4 x5 x6 x7 x8 x9 x10 x11 x12 x13 x14 x15 5
  let x148 := r101202_1 x19 x143 x145 x18 x144 false true 0
  let x149 := r101202_2 x19 x143 x145 x18 x144 false true 0
  let x151 := !x148
  let x152 := !x151
  let x154 := r22_0 x5 7
  let x155 := x16 == 3
  let x156 := !x154
  let x157 := x155 && x156
  let x159 := r23_0 x5 x17
  let x160 := x157 || x159
  let x161 := x149 && x160
  let x162 := !x152
  let x164 := r9_0 x0 x1 x2 x3 x4 x5 x6 x7 x8 x9 x10 x11 x12 x13 x14 x15 6
  let x165 := r9_1 x0 x1 x2 x3 x4 x5 x6 x7 x8 x9 x10 x11 x12 x13 x14 x15 6
  let x166 := r9_2 x0 x1 x2 x3 x4 x5 x6 x7 x8 x9 x10 x11 x12 x13 x14 x15 6
  let x169 := r101202_1 x19 x164 x166 x18 x165 false true 0
  let x170 := r101202_2 x19 x164 x166 x18 x165 false true 0
  let x172 := !x169
  let x173 := !x172
  let x175 := r22_0 x6 7
  let x176 := x16 == 3
  let x177 := !x175
  let x178 := x176 && x177
  let x180 := r23_0 x6 x17
  let x181 := x178 || x180
  let x182 := x170 && x181
  let x183 := !x173
  let x185 := r9_0 x0 x1 x2 x3 x4 x5 x6 x7 x8 x9 x10 x11 x12 x13 x14 x15 7
  let x186 := r9_1 x0 x1 x2 x3 x4 x5 x6 x7 x8 x9 x10 x11 x12 x13 x14 x15 7
  let x187 := r9_2 x0 x1 x2 x3 x4 x5 x6 x7 x8 x9 x10 x11 x12 x13 x14 x15 7
  let x190 := r101202_1 x19 x185 x187 x18 x186 false true 0
  let x191 := r101202_2 x19 x185 x187 x18 x186 false true 0
  let x193 := !x190
  let x194 := !x193
  let x196 := r22_0 x7 7
  let x197 := x16 == 3
  let x198 := !x196
  let x199 := x197 && x198
  let x201 := r23_0 x7 x17
  let x202 := x199 || x201
  let x203 := x191 && x202
  let x204 := !x194
  let x205 := x183 && x204
  let x206 := x162 && x205
  let x207 := x141 && x206
  let x208 := x120 && x207
  let x209 := x99 && x208
  let x210 := x78 && x209
  let x211 := x57 && x210
  let x212 := x16 == 3
  let x213 := bif x183 then x203 else x182
  let x214 := bif x162 then x213 else x161
  let x215 := bif x141 then x214 else x140
  let x216 := bif x120 then x215 else x119
  let x217 := bif x99 then x216 else x98
  let x218 := bif x78 then x217 else x77
  let x219 := bif x57 then x218 else x56
  let x220 := bif x211 then x212 else x219
  let x221 := x36 && x220
  x221
noncomputable def g12 (ds : List DV) : List DV := [.b (p12 (dget ds 0).toI (dget ds 1).toI (dget ds 2).toI (dget ds 3).toI (dget ds 4).toI (dget ds 5).toI (dget ds 6).toI (dget ds 7).toI (dget ds 8).toI (dget ds 9).toI (dget ds 10).toI (dget ds 11).toI (dget ds 12).toI (dget ds 13).toI (dget ds 14).toI (dget ds 15).toI (dget ds 16).toI (dget ds 17).toI (dget ds 18).toI (dget ds 19).toI), .b (r12_0 (dget ds 0).toI (dget ds 1).toI (dget ds 2).toI (dget ds 3).toI (dget ds 4).toI (dget ds 5).toI (dget ds 6).toI (dget ds 7).toI (dget ds 8).toI (dget ds 9).toI (dget ds 10).toI (dget ds 11).toI (dget ds 12).toI (dget ds 13).toI (dget ds 14).toI (dget ds 15).toI (dget ds 16).toI (dget ds 17).toI (dget ds 18).toI (dget ds 19).toI)]
def S12 : Sigs := ⟨[(9, s9), (22, s22), (23, s23)], [], [(2, 101202)]⟩
theorem ev12 : evFn Tryd.prog S12 2000 Tryd.f12 s12 = some o12 := by kernel_rfl

/-! tandem/tandemlaw11.PmpRanges -/
def s3 : Sig := ⟨[.agg [.int .u8, .int .u8, .int .u8, .int .u8, .int .u8, .int .u8, .int .u8, .int .u8], .agg [.int .u64, .int .u64, .int .u64, .int .u64, .int .u64, .int .u64, .int .u64, .int .u64], .one (.int .i64)], [.one (.bool)], true⟩
def o3 : Out := ⟨[(17, .call 8 [.r 0, .r 1, .r 2, .r 3, .r 4, .r 5, .r 6, .r 7, .r 8, .r 9, .r 10, .r 11, .r 12, .r 13, .r 14, .r 15, .r 16] 0), (18, .call 8 [.r 0, .r 1, .r 2, .r 3, .r 4, .r 5, .r 6, .r 7, .r 8, .r 9, .r 10, .r 11, .r 12, .r 13, .r 14, .r 15, .r 16] 1), (19, .call 8 [.r 0, .r 1, .r 2, .r 3, .r 4, .r 5, .r 6, .r 7, .r 8, .r 9, .r 10, .r 11, .r 12, .r 13, .r 14, .r 15, .r 16] 2), (20, .call 8 [.r 0, .r 1, .r 2, .r 3, .r 4, .r 5, .r 6, .r 7, .r 8, .r 9, .r 10, .r 11, .r 12, .r 13, .r 14, .r 15, .r 16] 3), (21, .call 9 [.r 0, .r 1, .r 2, .r 3, .r 4, .r 5, .r 6, .r 7, .r 8, .r 9, .r 10, .r 11, .r 12, .r 13, .r 14, .r 15, .r 16] 0), (22, .call 9 [.r 0, .r 1, .r 2, .r 3, .r 4, .r 5, .r 6, .r 7, .r 8, .r 9, .r 10, .r 11, .r 12, .r 13, .r 14, .r 15, .r 16] 1), (23, .call 9 [.r 0, .r 1, .r 2, .r 3, .r 4, .r 5, .r 6, .r 7, .r 8, .r 9, .r 10, .r 11, .r 12, .r 13, .r 14, .r 15, .r 16] 2), (24, .call 9 [.r 0, .r 1, .r 2, .r 3, .r 4, .r 5, .r 6, .r 7, .r 8, .r 9, .r 10, .r 11, .r 12, .r 13, .r 14, .r 15, .r 16] 3), (25, .call 10 [] 0), (26, .call 10 [] 1), (27, .eql (.r 18) (.r 22)), (28, .and (.r 26) (.r 27)), (29, .eql (.r 19) (.r 23)), (30, .and (.r 28) (.r 29)), (31, .beq (.r 20) (.r 24)), (32, .and (.r 30) (.r 31))],
  [⟨[], .r 17⟩, ⟨[], .r 21⟩, ⟨[], .r 25⟩],
  [],
  [.r 32]⟩
noncomputable def p3 (x0 : Int) (x1 : Int) (x2 : Int) (x3 : Int) (x4 : Int) (x5 : Int) (x6 : Int) (x7 : Int) (x8 : Int) (x9 : Int) (x10 : Int) (x11 : Int) (x12 : Int) (x13 : Int) (x14 : Int) (x15 : Int) (x16 : Int) : Bool :=
  let x17 := p8 x0 x1 x2 x3 x4 x5 x6 x7 x8 x9 x10 x11 x12 x13 x14 x15 x16
  let x21 := p9 x0 x1 x2 x3 x4 x5 x6 x7 x8 x9 x10 x11 x12 x13 x14 x15 x16
  let x25 := p10 
  [ow [] x17, ow [] x21, ow [] x25].all id
noncomputable def r3_0 (x0 : Int) (x1 : Int) (x2 : Int) (x3 : Int) (x4 : Int) (x5 : Int) (x6 : Int) (x7 : Int) (x8 : Int) (x9 : Int) (x10 : Int) (x11 : Int) (x12 : Int) (x13 : Int) (x14 : Int) (x15 : Int) (x16 : Int) : Bool :=
  let x18 := r8_0 x0 x1 x2 x3 x4 x5 x6 x7 x8 x9 x10 x11 x12 x13 x14 x15 x16
  let x19 := r8_1 x0 x1 x2 x3 x4 x5 x6 x7 x8 x9 x10 x11 x12 x13 x14 x15 x16
  let x20 := r8_2 x0 x1 x2 x3 x4 x5 x6 x7 x8 x9 x10 x11 x12 x13 x14 x15 x16
  let x22 := r9_0 x0 x1 x2 x3 x4 x5 x6 x7 x8 x9 x10 x11 x12 x13 x14 x15 x16
  let x23 := r9_1 x0 x1 x2 x3 x4 x5 x6 x7 x8 x9 x10 x11 x12 x13 x14 x15 x16
  let x24 := r9_2 x0 x1 x2 x3 x4 x5 x6 x7 x8 x9 x10 x11 x12 x13 x14 x15 x16
  let x26 := r10_0 
  let x27 := x18 == x22
  let x28 := x26 && x27
  let x29 := x19 == x23
  let x30 := x28 && x29
  let x31 := x20 == x24
  let x32 := x30 && x31
  x32
noncomputable def g3 (ds : List DV) : List DV := [.b (p3 (dget ds 0).toI (dget ds 1).toI (dget ds 2).toI (dget ds 3).toI (dget ds 4).toI (dget ds 5).toI (dget ds 6).toI (dget ds 7).toI (dget ds 8).toI (dget ds 9).toI (dget ds 10).toI (dget ds 11).toI (dget ds 12).toI (dget ds 13).toI (dget ds 14).toI (dget ds 15).toI (dget ds 16).toI), .b (r3_0 (dget ds 0).toI (dget ds 1).toI (dget ds 2).toI (dget ds 3).toI (dget ds 4).toI (dget ds 5).toI (dget ds 6).toI (dget ds 7).toI (dget ds 8).toI (dget ds 9).toI (dget ds 10).toI (dget ds 11).toI (dget ds 12).toI (dget ds 13).toI (dget ds 14).toI (dget ds 15).toI (dget ds 16).toI)]
def S3 : Sigs := ⟨[(8, s8), (9, s9), (10, s10)], [], []⟩
theorem ev3 : evFn Tryd.prog S3 2000 Tryd.f3 s3 = some o3 := by kernel_rfl

/-! tandem/tandemlaw11.PmpChecks -/
def s4 : Sig := ⟨[.agg [.int .u8, .int .u8, .int .u8, .int .u8, .int .u8, .int .u8, .int .u8, .int .u8], .agg [.int .u64, .int .u64, .int .u64, .int .u64, .int .u64, .int .u64, .int .u64, .int .u64], .one (.int .i64), .one (.int .i64), .one (.int .u64), .one (.int .i64)], [.one (.bool)], true⟩
def o4 : Out := ⟨[(20, .call 10 [] 0), (21, .call 10 [] 1), (22, .call 11 [.r 0, .r 1, .r 2, .r 3, .r 4, .r 5, .r 6, .r 7, .r 8, .r 9, .r 10, .r 11, .r 12, .r 13, .r 14, .r 15, .r 16, .r 17, .r 18, .r 19] 0), (23, .call 11 [.r 0, .r 1, .r 2, .r 3, .r 4, .r 5, .r 6, .r 7, .r 8, .r 9, .r 10, .r 11, .r 12, .r 13, .r 14, .r 15, .r 16, .r 17, .r 18, .r 19] 1), (24, .call 12 [.r 0, .r 1, .r 2, .r 3, .r 4, .r 5, .r 6, .r 7, .r 8, .r 9, .r 10, .r 11, .r 12, .r 13, .r 14, .r 15, .r 16, .r 17, .r 18, .r 19] 0), (25, .call 12 [.r 0, .r 1, .r 2, .r 3, .r 4, .r 5, .r 6, .r 7, .r 8, .r 9, .r 10, .r 11, .r 12, .r 13, .r 14, .r 15, .r 16, .r 17, .r 18, .r 19] 1), (26, .beq (.r 23) (.r 25)), (27, .and (.r 21) (.r 26))],
  [⟨[], .r 20⟩, ⟨[(.r 21, true)], .r 22⟩, ⟨[(.r 21, true)], .r 24⟩],
  [],
  [.r 27]⟩
noncomputable def p4 (x0 : Int) (x1 : Int) (x2 : Int) (x3 : Int) (x4 : Int) (x5 : Int) (x6 : Int) (x7 : Int) (x8 : Int) (x9 : Int) (x10 : Int) (x11 : Int) (x12 : Int) (x13 : Int) (x14 : Int) (x15 : Int) (x16 : Int) (x17 : Int) (x18 : Int) (x19 : Int) : Bool :=
  let x20 := p10 
  let x21 := r10_0 
  let x22 := p11 x0 x1 x2 x3 x4 x5 x6 x7 x8 x9 x10 x11 x12 x13 x14 x15 x16 x17 x18 x19
  let x24 := p12 x0 x1 x2 x3 x4 x5 x6 x7 x8 x9 x10 x11 x12 x13 x14 x15 x16 x17 x18 x19
  [ow [] x20, ow [(x21, true)] x22, ow [(x21, true)] x24].all id
noncomputable def r4_0 (x0 : Int) (x1 : Int) (x2 : Int) (x3 : Int) (x4 : Int) (x5 : Int) (x6 : Int) (x7 : Int) (x8 : Int) (x9 : Int) (x10 : Int) (x11 : Int) (x12 : Int) (x13 : Int) (x14 : Int) (x15 : Int) (x16 : Int) (x17 : Int) (x18 : Int) (x19 : Int) : Bool :=
  let x21 := r10_0 
  let x23 := r11_0 x0 x1 x2 x3 x4 x5 x6 x7 x8 x9 x10 x11 x12 x13 x14 x15 x16 x17 x18 x19
  let x25 := r12_0 x0 x1 x2 x3 x4 x5 x6 x7 x8 x9 x10 x11 x12 x13 x14 x15 x16 x17 x18 x19
  let x26 := x23 == x25
  let x27 := x21 && x26
  x27
noncomputable def g4 (ds : List DV) : List DV := [.b (p4 (dget ds 0).toI (dget ds 1).toI (dget ds 2).toI (dget ds 3).toI (dget ds 4).toI (dget ds 5).toI (dget ds 6).toI (dget ds 7).toI (dget ds 8).toI (dget ds 9).toI (dget ds 10).toI (dget ds 11).toI (dget ds 12).toI (dget ds 13).toI (dget ds 14).toI (dget ds 15).toI (dget ds 16).toI (dget ds 17).toI (dget ds 18).toI (dget ds 19).toI), .b (r4_0 (dget ds 0).toI (dget ds 1).toI (dget ds 2).toI (dget ds 3).toI (dget ds 4).toI (dget ds 5).toI (dget ds 6).toI (dget ds 7).toI (dget ds 8).toI (dget ds 9).toI (dget ds 10).toI (dget ds 11).toI (dget ds 12).toI (dget ds 13).toI (dget ds 14).toI (dget ds 15).toI (dget ds 16).toI (dget ds 17).toI (dget ds 18).toI (dget ds 19).toI)]
def S4 : Sigs := ⟨[(10, s10), (11, s11), (12, s12)], [], []⟩
theorem ev4 : evFn Tryd.prog S4 2000 Tryd.f4 s4 = some o4 := by kernel_rfl

/-! tandem/tandemlaw11.PmpWrites -/
def s5 : Sig := ⟨[.agg [.int .u8, .int .u8, .int .u8, .int .u8, .int .u8, .int .u8, .int .u8, .int .u8], .agg [.int .u64, .int .u64, .int .u64, .int .u64, .int .u64, .int .u64, .int .u64, .int .u64], .one (.int .i64), .one (.int .u64)], [.one (.bool)], true⟩
def o5 : Out := ⟨[(18, .call 10 [] 0), (19, .call 10 [] 1), (20, .call 13 [.r 0, .r 1, .r 2, .r 3, .r 4, .r 5, .r 6, .r 7, .r 17] 0), (21, .call 13 [.r 0, .r 1, .r 2, .r 3, .r 4, .r 5, .r 6, .r 7, .r 17] 1), (22, .call 13 [.r 0, .r 1, .r 2, .r 3, .r 4, .r 5, .r 6, .r 7, .r 17] 2), (23, .call 13 [.r 0, .r 1, .r 2, .r 3, .r 4, .r 5, .r 6, .r 7, .r 17] 3), (24, .call 13 [.r 0, .r 1, .r 2, .r 3, .r 4, .r 5, .r 6, .r 7, .r 17] 4), (25, .call 13 [.r 0, .r 1, .r 2, .r 3, .r 4, .r 5, .r 6, .r 7, .r 17] 5), (26, .call 13 [.r 0, .r 1, .r 2, .r 3, .r 4, .r 5, .r 6, .r 7, .r 17] 6), (27, .call 13 [.r 0, .r 1, .r 2, .r 3, .r 4, .r 5, .r 6, .r 7, .r 17] 7), (28, .call 14 [.r 0, .r 1, .r 2, .r 3, .r 4, .r 5, .r 6, .r 7, .r 17] 0), (29, .call 14 [.r 0, .r 1, .r 2, .r 3, .r 4, .r 5, .r 6, .r 7, .r 17] 1), (30, .call 14 [.r 0, .r 1, .r 2, .r 3, .r 4, .r 5, .r 6, .r 7, .r 17] 2), (31, .call 14 [.r 0, .r 1, .r 2, .r 3, .r 4, .r 5, .r 6, .r 7, .r 17] 3), (32, .call 14 [.r 0, .r 1, .r 2, .r 3, .r 4, .r 5, .r 6, .r 7, .r 17] 4), (33, .call 14 [.r 0, .r 1, .r 2, .r 3, .r 4, .r 5, .r 6, .r 7, .r 17] 5), (34, .call 14 [.r 0, .r 1, .r 2, .r 3, .r 4, .r 5, .r 6, .r 7, .r 17] 6), (35, .call 14 [.r 0, .r 1, .r 2, .r 3, .r 4, .r 5, .r 6, .r 7, .r 17] 7), (36, .call 14 [.r 0, .r 1, .r 2, .r 3, .r 4, .r 5, .r 6, .r 7, .r 17] 8), (37, .eql (.r 20) (.r 29)), (38, .eql (.r 21) (.r 30)), (39, .eql (.r 22) (.r 31)), (40, .eql (.r 23) (.r 32)), (41, .eql (.r 24) (.r 33)), (42, .eql (.r 25) (.r 34)), (43, .eql (.r 26) (.r 35)), (44, .eql (.r 27) (.r 36)), (45, .and (.r 43) (.r 44)), (46, .and (.r 42) (.r 45)), (47, .and (.r 41) (.r 46)), (48, .and (.r 40) (.r 47)), (49, .and (.r 39) (.r 48)), (50, .and (.r 38) (.r 49)), (51, .and (.r 37) (.r 50)), (52, .and (.r 19) (.r 51)), (53, .call 15 [.r 0, .r 1, .r 2, .r 3, .r 4, .r 5, .r 6, .r 7, .r 8, .r 9, .r 10, .r 11, .r 12, .r 13, .r 14, .r 15, .r 16, .r 17] 0), (54, .call 15 [.r 0, .r 1, .r 2, .r 3, .r 4, .r 5, .r 6, .r 7, .r 8, .r 9, .r 10, .r 11, .r 12, .r 13, .r 14, .r 15, .r 16, .r 17] 1), (55, .call 15 [.r 0, .r 1, .r 2, .r 3, .r 4, .r 5, .r 6, .r 7, .r 8, .r 9, .r 10, .r 11, .r 12, .r 13, .r 14, .r 15, .r 16, .r 17] 2), (56, .call 15 [.r 0, .r 1, .r 2, .r 3, .r 4, .r 5, .r 6, .r 7, .r 8, .r 9, .r 10, .r 11, .r 12, .r 13, .r 14, .r 15, .r 16, .r 17] 3), (57, .call 15 [.r 0, .r 1, .r 2, .r 3, .r 4, .r 5, .r 6, .r 7, .r 8, .r 9, .r 10, .r 11, .r 12, .r 13, .r 14, .r 15, .r 16, .r 17] 4), (58, .call 15 [.r 0, .r 1, .r 2, .r 3, .r 4, .r 5, .r 6, .r 7, .r 8, .r 9, .r 10, .r 11, .r 12, .r 13, .r 14, .r 15, .r 16, .r 17] 5), (59, .call 15 [.r 0, .r 1, .r 2, .r 3, .r 4, .r 5, .r 6, .r 7, .r 8, .r 9, .r 10, .r 11, .r 12, .r 13, .r 14, .r 15, .r 16, .r 17] 6), (60, .call 15 [.r 0, .r 1, .r 2, .r 3, .r 4, .r 5, .r 6, .r 7, .r 8, .r 9, .r 10, .r 11, .r 12, .r 13, .r 14, .r 15, .r 16, .r 17] 7), (61, .call 15 [.r 0, .r 1, .r 2, .r 3, .r 4, .r 5, .r 6, .r 7, .r 8, .r 9, .r 10, .r 11, .r 12, .r 13, .r 14, .r 15, .r 16, .r 17] 8), (62, .call 16 [.r 0, .r 1, .r 2, .r 3, .r 4, .r 5, .r 6, .r 7, .r 8, .r 9, .r 10, .r 11, .r 12, .r 13, .r 14, .r 15, .r 16, .r 17] 0), (63, .call 16 [.r 0, .r 1, .r 2, .r 3, .r 4, .r 5, .r 6, .r 7, .r 8, .r 9, .r 10, .r 11, .r 12, .r 13, .r 14, .r 15, .r 16, .r 17] 1), (64, .call 16 [.r 0, .r 1, .r 2, .r 3, .r 4, .r 5, .r 6, .r 7, .r 8, .r 9, .r 10, .r 11, .r 12, .r 13, .r 14, .r 15, .r 16, .r 17] 2), (65, .call 16 [.r 0, .r 1, .r 2, .r 3, .r 4, .r 5, .r 6, .r 7, .r 8, .r 9, .r 10, .r 11, .r 12, .r 13, .r 14, .r 15, .r 16, .r 17] 3), (66, .call 16 [.r 0, .r 1, .r 2, .r 3, .r 4, .r 5, .r 6, .r 7, .r 8, .r 9, .r 10, .r 11, .r 12, .r 13, .r 14, .r 15, .r 16, .r 17] 4), (67, .call 16 [.r 0, .r 1, .r 2, .r 3, .r 4, .r 5, .r 6, .r 7, .r 8, .r 9, .r 10, .r 11, .r 12, .r 13, .r 14, .r 15, .r 16, .r 17] 5), (68, .call 16 [.r 0, .r 1, .r 2, .r 3, .r 4, .r 5, .r 6, .r 7, .r 8, .r 9, .r 10, .r 11, .r 12, .r 13, .r 14, .r 15, .r 16, .r 17] 6), (69, .call 16 [.r 0, .r 1, .r 2, .r 3, .r 4, .r 5, .r 6, .r 7, .r 8, .r 9, .r 10, .r 11, .r 12, .r 13, .r 14, .r 15, .r 16, .r 17] 7), (70, .call 16 [.r 0, .r 1, .r 2, .r 3, .r 4, .r 5, .r 6, .r 7, .r 8, .r 9, .r 10, .r 11, .r 12, .r 13, .r 14, .r 15, .r 16, .r 17] 8), (71, .eql (.r 54) (.r 63)), (72, .eql (.r 55) (.r 64)), (73, .eql (.r 56) (.r 65)), (74, .eql (.r 57) (.r 66)), (75, .eql (.r 58) (.r 67)), (76, .eql (.r 59) (.r 68)), (77, .eql (.r 60) (.r 69)), (78, .eql (.r 61) (.r 70)), (79, .and (.r 77) (.r 78)), (80, .and (.r 76) (.r 79)), (81, .and (.r 75) (.r 80)), (82, .and (.r 74) (.r 81)), (83, .and (.r 73) (.r 82)), (84, .and (.r 72) (.r 83)), (85, .and (.r 71) (.r 84)), (86, .and (.r 52) (.r 85))],
  [⟨[], .r 18⟩, ⟨[(.r 19, true)], .r 28⟩, ⟨[(.r 52, true)], .r 53⟩, ⟨[(.r 52, true)], .r 62⟩],
  [],
  [.r 86]⟩
noncomputable def p5 (x0 : Int) (x1 : Int) (x2 : Int) (x3 : Int) (x4 : Int) (x5 : Int) (x6 : Int) (x7 : Int) (x8 : Int) (x9 : Int) (x10 : Int) (x11 : Int) (x12 : Int) (x13 : Int) (x14 : Int) (x15 : Int) (x16 : Int) (x17 : Int) : Bool :=
  let x18 := p10 
  let x19 := r10_0 
  let x20 := r13_0 x0 x1 x2 x3 x4 x5 x6 x7 x17
  let x21 := r13_1 x0 x1 x2 x3 x4 x5 x6 x7 x17
  let x22 := r13_2 x0 x1 x2 x3 x4 x5 x6 x7 x17
  let x23 := r13_3 x0 x1 x2 x3 x4 x5 x6 x7 x17
  let x24 := r13_4 x0 x1 x2 x3 x4 x5 x6 x7 x17
  let x25 := r13_5 x0 x1 x2 x3 x4 x5 x6 x7 x17
  let x26 := r13_6 x0 x1 x2 x3 x4 x5 x6 x7 x17
  let x27 := r13_7 x0 x1 x2 x3 x4 x5 x6 x7 x17
  let x28 := p14 x0 x1 x2 x3 x4 x5 x6 x7 x17
  let x29 := r14_0 x0 x1 x2 x3 x4 x5 x6 x7 x17
  let x30 := r14_1 x0 x1 x2 x3 x4 x5 x6 x7 x17
  let x31 := r14_2 x0 x1 x2 x3 x4 x5 x6 x7 x17
  let x32 := r14_3 x0 x1 x2 x3 x4 x5 x6 x7 x17
  let x33 := r14_4 x0 x1 x2 x3 x4 x5 x6 x7 x17
  let x34 := r14_5 x0 x1 x2 x3 x4 x5 x6 x7 x17
  let x35 := r14_6 x0 x1 x2 x3 x4 x5 x6 x7 x17
  let x36 := r14_7 x0 x1 x2 x3 x4 x5 x6 x7 x17
  let x37 := x20 == x29
  let x38 := x21 == x30
  let x39 := x22 == x31
  let x40 := x23 == x32
  let x41 := x24 == x33
  let x42 := x25 == x34
  let x43 := x26 == x35
  let x44 := x27 == x36
  let x45 := x43 && x44
  let x46 := x42 && x45
  let x47 := x41 && x46
  let x48 := x40 && x47
  let x49 := x39 && x48
  let x50 := x38 && x49
  let x51 := x37 && x50
  let x52 := x19 && x51
  let x53 := p15 x0 x1 x2 x3 x4 x5 x6 x7 x8 x9 x10 x11 x12 x13 x14 x15 x16 x17
  let x62 := p16 x0 x1 x2 x3 x4 x5 x6 x7 x8 x9 x10 x11 x12 x13 x14 x15 x16 x17
  [ow [] x18, ow [(x19, true)] x28, ow [(x52, true)] x53, ow [(x52, true)] x62].all id
noncomputable def r5_0 (x0 : Int) (x1 : Int) (x2 : Int) (x3 : Int) (x4 : Int) (x5 : Int) (x6 : Int) (x7 : Int) (x8 : Int) (x9 : Int) (x10 : Int) (x11 : Int) (x12 : Int) (x13 : Int) (x14 : Int) (x15 : Int) (x16 : Int) (x17 : Int) : Bool :=
  let x19 := r10_0 
  let x20 := r13_0 x0 x1 x2 x3 x4 x5 x6 x7 x17
  let x21 := r13_1 x0 x1 x2 x3 x4 x5 x6 x7 x17
  let x22 := r13_2 x0 x1 x2 x3 x4 x5 x6 x7 x17
  let x23 := r13_3 x0 x1 x2 x3 x4 x5 x6 x7 x17
  let x24 := r13_4 x0 x1 x2 x3 x4 x5 x6 x7 x17
  let x25 := r13_5 x0 x1 x2 x3 x4 x5 x6 x7 x17
  let x26 := r13_6 x0 x1 x2 x3 x4 x5 x6 x7 x17
  let x27 := r13_7 x0 x1 x2 x3 x4 x5 x6 x7 x17
  let x29 := r14_0 x0 x1 x2 x3 x4 x5 x6 x7 x17
  let x30 := r14_1 x0 x1 x2 x3 x4 x5 x6 x7 x17
  let x31 := r14_2 x0 x1 x2 x3 x4 x5 x6 x7 x17
  let x32 := r14_3 x0 x1 x2 x3 x4 x5 x6 x7 x17
  let x33 := r14_4 x0 x1 x2 x3 x4 x5 x6 x7 x17
  let x34 := r14_5 x0 x1 x2 x3 x4 x5 x6 x7 x17
  let x35 := r14_6 x0 x1 x2 x3 x4 x5 x6 x7 x17
  let x36 := r14_7 x0 x1 x2 x3 x4 x5 x6 x7 x17
  let x37 := x20 == x29
  let x38 := x21 == x30
  let x39 := x22 == x31
  let x40 := x23 == x32
  let x41 := x24 == x33
  let x42 := x25 == x34
  let x43 := x26 == x35
  let x44 := x27 == x36
  let x45 := x43 && x44
  let x46 := x42 && x45
  let x47 := x41 && x46
  let x48 := x40 && x47
  let x49 := x39 && x48
  let x50 := x38 && x49
  let x51 := x37 && x50
  let x52 := x19 && x51
  let x54 := r15_0 x0 x1 x2 x3 x4 x5 x6 x7 x8 x9 x10 x11 x12 x13 x14 x15 x16 x17
  let x55 := r15_1 x0 x1 x2 x3 x4 x5 x6 x7 x8 x9 x10 x11 x12 x13 x14 x15 x16 x17
  let x56 := r15_2 x0 x1 x2 x3 x4 x5 x6 x7 x8 x9 x10 x11 x12 x13 x14 x15 x16 x17
  let x57 := r15_3 x0 x1 x2 x3 x4 x5 x6 x7 x8 x9 x10 x11 x12 x13 x14 x15 x16 x17
  let x58 := r15_4 x0 x1 x2 x3 x4 x5 x6 x7 x8 x9 x10 x11 x12 x13 x14 x15 x16 x17
  let x59 := r15_5 x0 x1 x2 x3 x4 x5 x6 x7 x8 x9 x10 x11 x12 x13 x14 x15 x16 x17
  let x60 := r15_6 x0 x1 x2 x3 x4 x5 x6 x7 x8 x9 x10 x11 x12 x13 x14 x15 x16 x17
  let x61 := r15_7 x0 x1 x2 x3 x4 x5 x6 x7 x8 x9 x10 x11 x12 x13 x14 x15 x16 x17
  let x63 := r16_0 x0 x1 x2 x3 x4 x5 x6 x7 x8 x9 x10 x11 x12 x13 x14 x15 x16 x17
  let x64 := r16_1 x0 x1 x2 x3 x4 x5 x6 x7 x8 x9 x10 x11 x12 x13 x14 x15 x16 x17
  let x65 := r16_2 x0 x1 x2 x3 x4 x5 x6 x7 x8 x9 x10 x11 x12 x13 x14 x15 x16 x17
  let x66 := r16_3 x0 x1 x2 x3 x4 x5 x6 x7 x8 x9 x10 x11 x12 x13 x14 x15 x16 x17
  let x67 := r16_4 x0 x1 x2 x3 x4 x5 x6 x7 x8 x9 x10 x11 x12 x13 x14 x15 x16 x17
  let x68 := r16_5 x0 x1 x2 x3 x4 x5 x6 x7 x8 x9 x10 x11 x12 x13 x14 x15 x16 x17
  let x69 := r16_6 x0 x1 x2 x3 x4 x5 x6 x7 x8 x9 x10 x11 x12 x13 x14 x15 x16 x17
  let x70 := r16_7 x0 x1 x2 x3 x4 x5 x6 x7 x8 x9 x10 x11 x12 x13 x14 x15 x16 x17
  let x71 := x54 == x63
  let x72 := x55 == x64
  let x73 := x56 == x65
  let x74 := x57 == x66
  let x75 := x58 == x67
  let x76 := x59 == x68
  let x77 := x60 == x69
  let x78 := x61 == x70
  let x79 := x77 && x78
  let x80 := x76 && x79
  let x81 := x75 && x80
  let x82 := x74 && x81
  let x83 := x73 && x82
  let x84 := x72 && x83
  let x85 := x71 && x84
  let x86 := x52 && x85
  x86
noncomputable def g5 (ds : List DV) : List DV := [.b (p5 (dget ds 0).toI (dget ds 1).toI (dget ds 2).toI (dget ds 3).toI (dget ds 4).toI (dget ds 5).toI (dget ds 6).toI (dget ds 7).toI (dget ds 8).toI (dget ds 9).toI (dget ds 10).toI (dget ds 11).toI (dget ds 12).toI (dget ds 13).toI (dget ds 14).toI (dget ds 15).toI (dget ds 16).toI (dget ds 17).toI), .b (r5_0 (dget ds 0).toI (dget ds 1).toI (dget ds 2).toI (dget ds 3).toI (dget ds 4).toI (dget ds 5).toI (dget ds 6).toI (dget ds 7).toI (dget ds 8).toI (dget ds 9).toI (dget ds 10).toI (dget ds 11).toI (dget ds 12).toI (dget ds 13).toI (dget ds 14).toI (dget ds 15).toI (dget ds 16).toI (dget ds 17).toI)]
def S5 : Sigs := ⟨[(10, s10), (13, s13), (14, s14), (15, s15), (16, s16)], [], []⟩
theorem ev5 : evFn Tryd.prog S5 2000 Tryd.f5 s5 = some o5 := by kernel_rfl

/-! tandem/tandemlaw11.PmpBehind -/
def s6 : Sig := ⟨[.agg [.int .u8, .int .u8, .int .u8, .int .u8, .int .u8, .int .u8, .int .u8, .int .u8], .agg [.int .u64, .int .u64, .int .u64, .int .u64, .int .u64, .int .u64, .int .u64, .int .u64], .agg [.int .u8, .int .u8, .int .u8, .int .u8, .int .u8, .int .u8, .int .u8, .int .u8], .agg [.int .u64, .int .u64, .int .u64, .int .u64, .int .u64, .int .u64, .int .u64, .int .u64], .one (.int .i64), .one (.int .i64), .one (.int .u64), .one (.int .i64)], [.one (.bool)], true⟩
def o6 : Out := ⟨[(36, .call 10 [] 0), (37, .call 10 [] 1), (38, .not (.r 37)), (39, .not (.r 38)), (40, .lss (.r 35) (.z 1)), (41, .gtr (.r 35) (.z 8)), (42, .or (.r 40) (.r 41)), (43, .gtr (.r 34) (.z 9223372036854775808)), (44, .or (.r 42) (.r 43)), (45, .lss (.r 33) (.z 0)), (46, .or (.r 44) (.r 45)), (47, .gtr (.r 33) (.z 3)), (48, .or (.r 46) (.r 47)), (49, .not (.r 48)), (50, .conv .u64 (.r 35)), (51, .add .u64 (.r 34) (.r 50)), (52, .sub .u64 (.r 51) (.z 1)), (53, .call 8 [.r 0, .r 1, .r 2, .r 3, .r 4, .r 5, .r 6, .r 7, .r 8, .r 9, .r 10, .r 11, .r 12, .r 13, .r 14, .r 15, .z 0] 0), (54, .call 8 [.r 0, .r 1, .r 2, .r 3, .r 4, .r 5, .r 6, .r 7, .r 8, .r 9, .r 10, .r 11, .r 12, .r 13, .r 14, .r 15, .z 0] 1), (55, .call 8 [.r 0, .r 1, .r 2, .r 3, .r 4, .r 5, .r 6, .r 7, .r 8, .r 9, .r 10, .r 11, .r 12, .r 13, .r 14, .r 15, .z 0] 2), (56, .call 8 [.r 0, .r 1, .r 2, .r 3, .r 4, .r 5, .r 6, .r 7, .r 8, .r 9, .r 10, .r 11, .r 12, .r 13, .r 14, .r 15, .z 0] 3), (57, .not (.r 56)), (58, .lss (.r 52) (.r 54)), (59, .or (.r 57) (.r 58)), (60, .gtr (.r 34) (.r 55)), (61, .or (.r 59) (.r 60)), (62, .not (.r 61)), (63, .lss (.r 34) (.r 54)), (64, .gtr (.r 52) (.r 55)), (65, .or (.r 63) (.r 64)), (66, .geq (.r 34) (.r 54)), (67, .leq (.r 52) (.r 55)), (68, .and (.r 66) (.r 67)), (69, .not (.r 65)), (70, .and (.r 68) (.r 69)), (71, .call 11 [.r 0, .r 17, .r 18, .r 19, .r 20, .r 21, .r 22, .r 23, .r 8, .r 25, .r 26, .r 27, .r 28, .r 29, .r 30, .r 31, .r 32, .r 33, .r 34, .r 35] 0), (72, .call 11 [.r 0, .r 17, .r 18, .r 19, .r 20, .r 21, .r 22, .r 23, .r 8, .r 25, .r 26, .r 27, .r 28, .r 29, .r 30, .r 31, .r 32, .r 33, .r 34, .r 35] 1), (73, .call 11 [.r 0, .r 1, .r 2, .r 3, .r 4, .r 5, .r 6, .r 7, .r 8, .r 9, .r 10, .r 11, .r 12, .r 13, .r 14, .r 15, .r 32, .r 33, .r 34, .r 35] 0), (74, .call 11 [.r 0, .r 1, .r 2, .r 3, .r 4, .r 5, .r 6, .r 7, .r 8, .r 9, .r 10, .r 11, .r 12, .r 13, .r 14, .r 15, .r 32, .r 33, .r 34, .r 35] 1), (75, .bne (.r 72) (.r 74)), (76, .not (.r 75)), (77, .land .u8 (.r 0) (.z 128)), (78, .eql (.r 77) (.z 0)), (79, .neq (.r 35) (.z 3)), (80, .and (.r 78) (.r 79)), (81, .lss (.r 35) (.z 5)), (82, .and (.r 80) (.r 81)), (83, .call 11 [.r 0, .r 1, .r 2, .r 3, .r 4, .r 5, .r 6, .r 7, .r 8, .r 9, .r 10, .r 11, .r 12, .r 13, .r 14, .r 15, .z 3, .r 33, .r 34, .r 35] 0), (84, .call 11 [.r 0, .r 1, .r 2, .r 3, .r 4, .r 5, .r 6, .r 7, .r 8, .r 9, .r 10, .r 11, .r 12, .r 13, .r 14, .r 15, .z 3, .r 33, .r 34, .r 35] 1), (85, .not (.r 84)), (86, .and (.r 82) (.r 85)), (87, .not (.r 86)), (88, .and (.r 76) (.r 87)), (89, .iteb (.r 70) (.r 88) (.t true)), (90, .not (.r 62)), (91, .call 8 [.r 0, .r 1, .r 2, .r 3, .r 4, .r 5, .r 6, .r 7, .r 8, .r 9, .r 10, .r 11, .r 12, .r 13, .r 14, .r 15, .z 1] 0), (92, .call 8 [.r 0, .r 1, .r 2, .r 3, .r 4, .r 5, .r 6, .r 7, .r 8, .r 9, .r 10, .r 11, .r 12, .r 13, .r 14, .r 15, .z 1] 1), (93, .call 8 [.r 0, .r 1, .r 2, .r 3, .r 4, .r 5, .r 6, .r 7, .r 8, .r 9, .r 10, .r 11, .r 12, .r 13, .r 14, .r 15, .z 1] 2), (94, .call 8 [.r 0, .r 1, .r 2, .r 3, .r 4, .r 5, .r 6, .r 7, .r 8, .r 9, .r 10, .r 11, .r 12, .r 13, .r 14, .r 15, .z 1] 3), (95, .not (.r 94)), (96, .lss (.r 52) (.r 92)), (97, .or (.r 95) (.r 96)), (98, .gtr (.r 34) (.r 93)), (99, .or (.r 97) (.r 98)), (100, .not (.r 99)), (101, .lss (.r 34) (.r 92)), (102, .gtr (.r 52) (.r 93)), (103, .or (.r 101) (.r 102)), (104, .geq (.r 34) (.r 92)), (105, .leq (.r 52) (.r 93)), (106, .and (.r 104) (.r 105)), (107, .not (.r 103)), (108, .and (.r 106) (.r 107)), (109, .call 11 [.r 0, .r 1, .r 18, .r 19, .r 20, .r 21, .r 22, .r 23, .r 8, .r 9, .r 26, .r 27, .r 28, .r 29, .r 30, .r 31, .r 32, .r 33, .r 34, .r 35] 0), (110, .call 11 [.r 0, .r 1, .r 18, .r 19, .r 20, .r 21, .r 22, .r 23, .r 8, .r 9, .r 26, .r 27, .r 28, .r 29, .r 30, .r 31, .r 32, .r 33, .r 34, .r 35] 1), (111, .call 11 [.r 0, .r 1, .r 2, .r 3, .r 4, .r 5, .r 6, .r 7, .r 8, .r 9, .r 10, .r 11, .r 12, .r 13, .r 14, .r 15, .r 32, .r 33, .r 34, .r 35] 0), (112, .call 11 [.r 0, .r 1, .r 2, .r 3, .r 4, .r 5, .r 6, .r 7, .r 8, .r 9, .r 10, .r 11, .r 12, .r 13, .r 14, .r 15, .r 32, .r 33, .r 34, .r 35] 1), (113, .bne (.r 110) (.r 112)), (114, .not (.r 113)), (115, .land .u8 (.r 1) (.z 128)), (116, .eql (.r 115) (.z 0)), (117, .neq (.r 35) (.z 3)), (118, .and (.r 116) (.r 117)), (119, .lss (.r 35) (.z 5)), (120, .and (.r 118) (.r 119)), (121, .call 11 [.r 0, .r 1, .r 2, .r 3, .r 4, .r 5, .r 6, .r 7, .r 8, .r 9, .r 10, .r 11, .r 12, .r 13, .r 14, .r 15, .z 3, .r 33, .r 34, .r 35] 0), (122, .call 11 [.r 0, .r 1, .r 2, .r 3, .r 4, .r 5, .r 6, .r 7, .r 8, .r 9, .r 10, .r 11, .r 12, .r 13, .r 14, .r 15, .z 3, .r 33, .r 34, .r 35] 1), (123, .not (.r 122)), (124, .and (.r 120) (.r 123)), (125, .not (.r 124)), (126, .and (.r 114) (.r 125)), (127, .iteb (.r 108) (.r 126) (.t true)), (128, .not (.r 100)), (129, .call 8 [.r 0, .r 1, .r 2, .r 3, .r 4, .r 5, .r 6, .r 7, .r 8, .r 9, .r 10, .r 11, .r 12, .r 13, .r 14, .r 15, .z 2] 0), (130, .call 8 [.r 0, .r 1, .r 2, .r 3, .r 4, .r 5, .r 6, .r 7, .r 8, .r 9, .r 10, .r 11, .r 12, .r 13, .r 14, .r 15, .z 2] 1), (131, .call 8 [.r 0, .r 1, .r 2, .r 3, .r 4, .r 5, .r 6, .r 7, .r 8, .r 9, .r 10, .r 11, .r 12, .r 13, .r 14, .r 15, .z 2] 2), (132, .call 8 [.r 0, .r 1, .r 2, .r 3, .r 4, .r 5, .r 6, .r 7, .r 8, .r 9, .r 10, .r 11, .r 12, .r 13, .r 14, .r 15, .z 2] 3), (133, .not (.r 132)), (134, .lss (.r 52) (.r 130)), (135, .or (.r 133) (.r 134)), (136, .gtr (.r 34) (.r 131)), (137, .or (.r 135) (.r 136)), (138, .not (.r 137)), (139, .lss (.r 34) (.r 130)), (140, .gtr (.r 52) (.r 131)), (141, .or (.r 139) (.r 140)), (142, .geq (.r 34) (.r 130)), (143, .leq (.r 52) (.r 131)), (144, .and (.r 142) (.r 143)), (145, .not (.r 141)), (146, .and (.r 144) (.r 145)), (147, .call 11 [.r 0, .r 1, .r 2, .r 19, .r 20, .r 21, .r 22, .r 23, .r 8, .r 9, .r 10, .r 27, .r 28, .r 29, .r 30, .r 31, .r 32, .r 33, .r 34, .r 35] 0), (148, .call 11 [.r 0, .r 1, .r 2, .r 19, .r 20, .r 21, .r 22, .r 23, .r 8, .r 9, .r 10, .r 27, .r 28, .r 29, .r 30, .r 31, .r 32, .r 33, .r 34, .r 35] 1), (149, .call 11 [.r 0, .r 1, .r 2, .r 3, .r 4, .r 5, .r 6, .r 7, .r 8, .r 9, .r 10, .r 11, .r 12, .r 13, .r 14, .r 15, .r 32, .r 33, .r 34, .r 35] 0), (150, .call 11 [.r 0, .r 1, .r 2, .r 3, .r 4, .r 5, .r 6, .r 7, .r 8, .r 9, .r 10, .r 11, .r 12, .r 13, .r 14, .r 15, .r 32, .r 33, .r 34, .r 35] 1), (151, .bne (.r 148) (.r 150)), (152, .not (.r 151)), (153, .land .u8 (.r 2) (.z 128)), (154, .eql (.r 153) (.z 0)), (155, .neq (.r 35) (.z 3)), (156, .and (.r 154) (.r 155)), (157, .lss (.r 35) (.z 5)), (158, .and (.r 156) (.r 157)), (159, .call 11 [.r 0, .r 1, .r 2, .r 3, .r 4, .r 5, .r 6, .r 7, .r 8, .r 9, .r 10, .r 11, .r 12, .r 13, .r 14, .r 15, .z 3, .r 33, .r 34, .r 35] 0), (160, .call 11 [.r 0, .r 1, .r 2, .r 3, .r 4, .r 5, .r 6, .r 7, .r 8, .r 9, .r 10, .r 11, .r 12, .r 13, .r 14, .r 15, .z 3, .r 33, .r 34, .r 35] 1), (161, .not (.r 160)), (162, .and (.r 158) (.r 161)), (163, .not (.r 162)), (164, .and (.r 152) (.r 163)), (165, .iteb (.r 146) (.r 164) (.t true)), (166, .not (.r 138)), (167, .call 8 [.r 0, .r 1, .r 2, .r 3, .r 4, .r 5, .r 6, .r 7, .r 8, .r 9, .r 10, .r 11, .r 12, .r 13, .r 14, .r 15, .z 3] 0), (168, .call 8 [.r 0, .r 1, .r 2, .r 3, .r 4, .r 5, .r 6, .r 7, .r 8, .r 9, .r 10, .r 11, .r 12, .r 13, .r 14, .r 15, .z 3] 1), (169, .call 8 [.r 0, .r 1, .r 2, .r 3, .r 4, .r 5, .r 6, .r 7, .r 8, .r 9, .r 10, .r 11, .r 12, .r 13, .r 14, .r 15, .z 3] 2), (170, .call 8 [.r 0, .r 1, .r 2, .r 3, .r 4, .r 5, .r 6, .r 7, .r 8, .r 9, .r 10, .r 11, .r 12, .r 13, .r 14, .r 15, .z 3] 3), (171, .not (.r 170)), (172, .lss (.r 52) (.r 168)), (173, .or (.r 171) (.r 172)), (174, .gtr (.r 34) (.r 169)), (175, .or (.r 173) (.r 174)), (176, .not (.r 175)), (177, .lss (.r 34) (.r 168)), (178, .gtr (.r 52) (.r 169)), (179, .or (.r 177) (.r 178)), (180, .geq (.r 34) (.r 168)), (181, .leq (.r 52) (.r 169)), (182, .and (.r 180) (.r 181)), (183, .not (.r 179)), (184, .and (.r 182) (.r 183)), (185, .call 11 [.r 0, .r 1, .r 2, .r 3, .r 20, .r 21, .r 22, .r 23, .r 8, .r 9, .r 10, .r 11, .r 28, .r 29, .r 30, .r 31, .r 32, .r 33, .r 34, .r 35] 0), (186, .call 11 [.r 0, .r 1, .r 2, .r 3, .r 20, .r 21, .r 22, .r 23, .r 8, .r 9, .r 10, .r 11, .r 28, .r 29, .r 30, .r 31, .r 32, .r 33, .r 34, .r 35] 1), (187, .call 11 [.r 0, .r 1, .r 2, .r 3, .r 4, .r 5, .r 6, .r 7, .r 8, .r 9, .r 10, .r 11, .r 12, .r 13, .r 14, .r 15, .r 32, .r 33, .r 34, .r 35] 0), (188, .call 11 [.r 0, .r 1, .r 2, .r 3, .r 4, .r 5, .r 6, .r 7, .r 8, .r 9, .r 10, .r 11, .r 12, .r 13, .r 14, .r 15, .r 32, .r 33, .r 34, .r 35] 1), (189, .bne (.r 186) (.r 188)), (190, .not (.r 189)), (191, .land .u8 (.r 3) (.z 128)), (192, .eql (.r 191) (.z 0)), (193, .neq (.r 35) (.z 3)), (194, .and (.r 192) (.r 193)), (195, .lss (.r 35) (.z 5)), (196, .and (.r 194) (.r 195)), (197, .call 11 [.r 0, .r 1, .r 2, .r 3, .r 4, .r 5, .r 6, .r 7, .r 8, .r 9, .r 10, .r 11, .r 12, .r 13, .r 14, .r 15, .z 3, .r 33, .r 34, .r 35] 0), (198, .call 11 [.r 0, .r 1, .r 2, .r 3, .r 4, .r 5, .r 6, .r 7, .r 8, .r 9, .r 10, .r 11, .r 12, .r 13, .r 14, .r 15, .z 3, .r 33, .r 34, .r 35] 1), (199, .not (.r 198)), (200, .and (.r 196) (.r 199)), (201, .not (.r 200)), (202, .and (.r 190) (.r 201)), (203, .iteb (.r 184) (.r 202) (.t true)), (204, .not (.r 176)), (205, .call 8 [.r 0, .r 1, .r 2, .r 3, .r 4, .r 5, .r 6, .r 7, .r 8, .r 9, .r 10, .r 11, .r 12, .r 13, .r 14, .r 15, .z 4] 0), (206, .call 8 [.r 0, .r 1, .r 2, .r 3, .r 4, .r 5, .r 6, .r 7, .r 8, .r 9, .r 10, .r 11, .r 12, .r 13, .r 14, .r 15, .z 4] 1), (207, .call 8 [.r 0, .r 1, .r 2, .r 3, .r 4, .r 5, .r 6, .r 7, .r 8, .r 9, .r 10, .r 11, .r 12, .r 13, .r 14, .r 15, .z 4] 2), (208, .call 8 [.r 0, .r 1, .r 2, .r 3, .r 4, .r 5, .r 6, .r 7, .r 8, .r 9, .r 10, .r 11, .r 12, .r 13, .r 14, .r 15, .z 4] 3), (209, .not (.r 208)), (210, .lss (.r 52) (.r 206)), (211, .or (.r 209) (.r 210)), (212, .gtr (.r 34) (.r 207)), (213, .or (.r 211) (.r 212)), (214, .not (.r 213)), (215, .lss (.r 34) (.r 206)), (216, .gtr (.r 52) (.r 207)), (217, .or (.r 215) (.r 216)), (218, .geq (.r 34) (.r 206)), (219, .leq (.r 52) (.r 207)), (220, .and (.r 218) (.r 219)), (221, .not (.r 217)), (222, .and (.r 220) (.r 221)), (223, .call 11 [.r 0, .r 1, .r 2, .r 3, .r 4, .r 21, .r 22, .r 23, .r 8, .r 9, .r 10, .r 11, .r 12, .r 29, .r 30, .r 31, .r 32, .r 33, .r 34, .r 35] 0), (224, .call 11 [.r 0, .r 1, .r 2, .r 3, .r 4, .r 21, .r 22, .r 23, .r 8, .r 9, .r 10, .r 11, .r 12, .r 29, .r 30, .r 31, .r 32, .r 33, .r 34, .r 35] 1), (225, .call 11 [.r 0, .r 1, .r 2, .r 3, .r 4, .r 5, .r 6, .r 7, .r 8, .r 9, .r 10, .r 11, .r 12, .r 13, .r 14, .r 15, .r 32, .r 33, .r 34, .r 35] 0), (226, .call 11 [.r 0, .r 1, .r 2, .r 3, .r 4, .r 5, .r 6, .r 7, .r 8, .r 9, .r 10, .r 11, .r 12, .r 13, .r 14, .r 15, .r 32, .r 33, .r 34, .r 35] 1), (227, .bne (.r 224) (.r 226)), (228, .not (.r 227)), (229, .land .u8 (.r 4) (.z 128)), (230, .eql (.r 229) (.z 0)), (231, .neq (.r 35) (.z 3)), (232, .and (.r 230) (.r 231)), (233, .lss (.r 35) (.z 5)), (234, .and (.r 232) (.r 233)), (235, .call 11 [.r 0, .r 1, .r 2, .r 3, .r 4, .r 5, .r 6, .r 7, .r 8, .r 9, .r 10, .r 11, .r 12, .r 13, .r 14, .r 15, .z 3, .r 33, .r 34, .r 35] 0), (236, .call 11 [.r 0, .r 1, .r 2, .r 3, .r 4, .r 5, .r 6, .r 7, .r 8, .r 9, .r 10, .r 11, .r 12, .r 13, .r 14, .r 15, .z 3, .r 33, .r 34, .r 35] 1), (237, .not (.r 236)), (238, .and (.r 234) (.r 237)), (239, .not (.r 238)), (240, .and (.r 228) (.r 239)), (241, .iteb (.r 222) (.r 240) (.t true)), (242, .not (.r 214)), (243, .call 8 [.r 0, .r 1, .r 2, .r 3, .r 4, .r 5, .r 6, .r 7, .r 8, .r 9, .r 10, .r 11, .r 12, .r 13, .r 14, .r 15, .z 5] 0), (244, .call 8 [.r 0, .r 1, .r 2, .r 3, .r 4, .r 5, .r 6, .r 7, .r 8, .r 9, .r 10, .r 11, .r 12, .r 13, .r 14, .r 15, .z 5] 1), (245, .call 8 [.r 0, .r 1, .r 2, .r 3, .r 4, .r 5, .r 6, .r 7, .r 8, .r 9, .r 10, .r 11, .r 12, .r 13, .r 14, .r 15, .z 5] 2), (246, .call 8 [.r 0, .r 1, .r 2, .r 3, .r 4, .r 5, .r 6, .r 7, .r 8, .r 9, .r 10, .r 11, .r 12, .r 13, .r 14, .r 15, .z 5] 3), (247, .not (.r 246)), (248, .lss (.r 52) (.r 244)), (249, .or (.r 247) (.r 248)), (250, .gtr (.r 34) (.r 245)), (251, .or (.r 249) (.r 250)), (252, .not (.r 251)), (253, .lss (.r 34) (.r 244)), (254, .gtr (.r 52) (.r 245)), (255, .or (.r 253) (.r 254)), (256, .geq (.r 34) (.r 244)), (257, .leq (.r 52) (.r 245)), (258, .and (.r 256) (.r 257)), (259, .not (.r 255)), (260, .and (.r 258) (.r 259)), (261, .call 11 [.r 0, .r 1, .r 2, .r 3, .r 4, .r 5, .r 22, .r 23, .r 8, .r 9, .r 10, .r 11, .r 12, .r 13, .r 30, .r 31, .r 32, .r 33, .r 34, .r 35] 0), (262, .call 11 [.r 0, .r 1, .r 2, .r 3, .r 4, .r 5, .r 22, .r 23, .r 8, .r 9, .r 10, .r 11, .r 12, .r 13, .r 30, .r 31, .r 32, .r 33, .r 34, .r 35] 1), (263, .call 11 [.r 0, .r 1, .r 2, .r 3, .r 4, .r 5, .r 6, .r 7, .r 8, .r 9, .r 10, .r 11, .r 12, .r 13, .r 14, .r 15, .r 32, .r 33, .r 34, .r 35] 0), (264, .call 11 [.r 0, .r 1, .r 2, .r 3, .r 4, .r 5, .r 6, .r 7, .r 8, .r 9, .r 10, .r 11, .r 12, .r 13, .r 14, .r 15, .r 32, .r 33, .r 34, .r 35] 1), (265, .bne (.r 262) (.r 264)), (266, .not (.r 265)), (267, .land .u8 (.r 5) (.z 128)), (268, .eql (.r 267) (.z 0)), (269, .neq (.r 35) (.z 3)), (270, .and (.r 268) (.r 269)), (271, .lss (.r 35) (.z 5)), (272, .and (.r 270) (.r 271)), (273, .call 11 [.r 0, .r 1, .r 2, .r 3, .r 4, .r 5, .r 6, .r 7, .r 8, .r 9, .r 10, .r 11, .r 12, .r 13, .r 14, .r 15, .z 3, .r 33, .r 34, .r 35] 0), (274, .call 11 [.r 0, .r 1, .r 2, .r 3, .r 4, .r 5, .r 6, .r 7, .r 8, .r 9, .r 10, .r 11, .r 12, .r 13, .r 14, .r 15, .z 3, .r 33, .r 34, .r 35] 1), (275, .not (.r 274)), (276, .and (.r 272) (.r 275)), (277, .not (.r 276)), (278, .and (.r 266) (.r 277)), (279, .iteb (.r 260) (.r 278) (.t true)), (280, .not (.r 252)), (281, .call 8 [.r 0, .r 1, .r 2, .r 3, .r 4, .r 5, .r 6, .r 7, .r 8, .r 9, .r 10, .r 11, .r 12, .r 13, .r 14, .r 15, .z 6] 0), (282, .call 8 [.r 0, .r 1, .r 2, .r 3, .r 4, .r 5, .r 6, .r 7, .r 8, .r 9, .r 10, .r 11, .r 12, .r 13, .r 14, .r 15, .z 6] 1), (283, .call 8 [.r 0, .r 1, .r 2, .r 3, .r 4, .r 5, .r 6, .r 7, .r 8, .r 9, .r 10, .r 11, .r 12, .r 13, .r 14, .r 15, .z 6] 2), (284, .call 8 [.r 0, .r 1, .r 2, .r 3, .r 4, .r 5, .r 6, .r 7, .r 8, .r 9, .r 10, .r 11, .r 12, .r 13, .r 14, .r 15, .z 6] 3), (285, .not (.r 284)), (286, .lss (.r 52) (.r 282)), (287, .or (.r 285) (.r 286)), (288, .gtr (.r 34) (.r 283)), (289, .or (.r 287) (.r 288)), (290, .not (.r 289)), (291, .lss (.r 34) (.r 282)), (292, .gtr (.r 52) (.r 283)), (293, .or (.r 291) (.r 292)), (294, .geq (.r 34) (.r 282)), (295, .leq (.r 52) (.r 283)), (296, .and (.r 294) (.r 295)), (297, .not (.r 293)), (298, .and (.r 296) (.r 297)), (299, .call 11 [.r 0, .r 1, .r 2, .r 3, .r 4, .r 5, .r 6, .r 23, .r 8, .r 9, .r 10, .r 11, .r 12, .r 13, .r 14, .r 31, .r 32, .r 33, .r 34, .r 35] 0), (300, .call 11 [.r 0, .r 1, .r 2, .r 3, .r 4, .r 5, .r 6, .r 23, .r 8, .r 9, .r 10, .r 11, .r 12, .r 13, .r 14, .r 31, .r 32, .r 33, .r 34, .r 35] 1), (301, .call 11 [.r 0, .r 1, .r 2, .r 3, .r 4, .r 5, .r 6, .r 7, .r 8, .r 9, .r 10, .r 11, .r 12, .r 13, .r 14, .r 15, .r 32, .r 33, .r 34, .r 35] 0), (302, .call 11 [.r 0, .r 1, .r 2, .r 3, .r 4, .r 5, .r 6, .r 7, .r 8, .r 9, .r 10, .r 11, .r 12, .r 13, .r 14, .r 15, .r 32, .r 33, .r 34, .r 35] 1), (303, .bne (.r 300) (.r 302)), (304, .not (.r 303)), (305, .land .u8 (.r 6) (.z 128)), (306, .eql (.r 305) (.z 0)), (307, .neq (.r 35) (.z 3)), (308, .and (.r 306) (.r 307)), (309, .lss (.r 35) (.z 5)), (310, .and (.r 308) (.r 309)), (311, .call 11 [.r 0, .r 1, .r 2, .r 3, .r 4, .r 5, .r 6, .r 7, .r 8, .r 9, .r 10, .r 11, .r 12, .r 13, .r 14, .r 15, .z 3, .r 33, .r 34, .r 35] 0), (312, .call 11 [.r 0, .r 1, .r 2, .r 3, .r 4, .r 5, .r 6, .r 7, .r 8, .r 9, .r 10, .r 11, .r 12, .r 13, .r 14, .r 15, .z 3, .r 33, .r 34, .r 35] 1), (313, .not (.r 312)), (314, .and (.r 310) (.r 313)), (315, .not (.r 314)), (316, .and (.r 304) (.r 315)), (317, .iteb (.r 298) (.r 316) (.t true)), (318, .not (.r 290)), (319, .call 8 [.r 0, .r 1, .r 2, .r 3, .r 4, .r 5, .r 6, .r 7, .r 8, .r 9, .r 10, .r 11, .r 12, .r 13, .r 14, .r 15, .z 7] 0), (320, .call 8 [.r 0, .r 1, .r 2, .r 3, .r 4, .r 5, .r 6, .r 7, .r 8, .r 9, .r 10, .r 11, .r 12, .r 13, .r 14, .r 15, .z 7] 1), (321, .call 8 [.r 0, .r 1, .r 2, .r 3, .r 4, .r 5, .r 6, .r 7, .r 8, .r 9, .r 10, .r 11, .r 12, .r 13, .r 14, .r 15, .z 7] 2), (322, .call 8 [.r 0, .r 1, .r 2, .r 3, .r 4, .r 5, .r 6, .r 7, .r 8, .r 9, .r 10, .r 11, .r 12, .r 13, .r 14, .r 15, .z 7] 3), (323, .not (.r 322)), (324, .lss (.r 52) (.r 320)), (325, .or (.r 323) (.r 324)), (326, .gtr (.r 34) (.r 321)), (327, .or (.r 325) (.r 326)), (328, .not (.r 327)), (329, .lss (.r 34) (.r 320)), (330, .gtr (.r 52) (.r 321)), (331, .or (.r 329) (.r 330)), (332, .geq (.r 34) (.r 320)), (333, .leq (.r 52) (.r 321)), (334, .and (.r 332) (.r 333)), (335, .not (.r 331)), (336, .and (.r 334) (.r 335)), (337, .call 11 [.r 0, .r 1, .r 2, .r 3, .r 4, .r 5, .r 6, .r 7, .r 8, .r 9, .r 10, .r 11, .r 12, .r 13, .r 14, .r 15, .r 32, .r 33, .r 34, .r 35] 0), (338, .call 11 [.r 0, .r 1, .r 2, .r 3, .r 4, .r 5, .r 6, .r 7, .r 8, .r 9, .r 10, .r 11, .r 12, .r 13, .r 14, .r 15, .r 32, .r 33, .r 34, .r 35] 1), (339, .call 11 [.r 0, .r 1, .r 2, .r 3, .r 4, .r 5, .r 6, .r 7, .r 8, .r 9, .r 10, .r 11, .r 12, .r 13, .r 14, .r 15, .r 32, .r 33, .r 34, .r 35] 0), (340, .call 11 [.r 0, .r 1, .r 2, .r 3, .r 4, .r 5, .r 6, .r 7, .r 8, .r 9, .r 10, .r 11, .r 12, .r 13, .r 14, .r 15, .r 32, .r 33, .r 34, .r 35] 1), (341, .bne (.r 338) (.r 340)), (342, .not (.r 341)), (343, .land .u8 (.r 7) (.z 128)), (344, .eql (.r 343) (.z 0)), (345, .neq (.r 35) (.z 3)), (346, .and (.r 344) (.r 345)), (347, .lss (.r 35) (.z 5)), (348, .and (.r 346) (.r 347)), (349, .call 11 [.r 0, .r 1, .r 2, .r 3, .r 4, .r 5, .r 6, .r 7, .r 8, .r 9, .r 10, .r 11, .r 12, .r 13, .r 14, .r 15, .z 3, .r 33, .r 34, .r 35] 0), (350, .call 11 [.r 0, .r 1, .r 2, .r 3, .r 4, .r 5, .r 6, .r 7, .r 8, .r 9, .r 10, .r 11, .r 12, .r 13, .r 14, .r 15, .z 3, .r 33, .r 34, .r 35] 1), (351, .not (.r 350)), (352, .and (.r 348) (.r 351)), (353, .not (.r 352)), (354, .and (.r 342) (.r 353)), (355, .iteb (.r 336) (.r 354) (.t true)), (356, .not (.r 328)), (357, .or (.r 356) (.r 355)), (358, .iteb (.r 318) (.r 357) (.r 317)), (359, .iteb (.r 280) (.r 358) (.r 279)), (360, .iteb (.r 242) (.r 359) (.r 241)), (361, .iteb (.r 204) (.r 360) (.r 203)), (362, .iteb (.r 166) (.r 361) (.r 165)), (363, .iteb (.r 128) (.r 362) (.r 127)), (364, .iteb (.r 90) (.r 363) (.r 89)), (365, .iteb (.r 356) (.t false) (.r 331)), (366, .itei (.r 356) (.z 8) (.z 7)), (367, .itei (.r 356) (.z 8) (.z 7)), (368, .not (.r 356)), (369, .itei (.r 356) (.z 7) (.z 6)), (370, .itei (.r 356) (.z 8) (.z 7)), (371, .iteb (.r 318) (.r 365) (.r 293)), (372, .itei (.r 318) (.r 366) (.z 6)), (373, .itei (.r 318) (.r 320) (.r 282)), (374, .itei (.r 318) (.r 321) (.r 283)), (375, .iteb (.r 318) (.r 322) (.r 284)), (376, .itei (.r 318) (.r 367) (.z 6)), (377, .iteb (.r 318) (.r 368) (.t true)), (378, .itei (.r 318) (.r 369) (.z 5)), (379, .itei (.r 318) (.r 370) (.z 6)), (380, .itei (.r 318) (.r 320) (.r 282)), (381, .itei (.r 318) (.r 321) (.r 283)), (382, .iteb (.r 318) (.r 322) (.r 284)), (383, .itei (.r 318) (.z 7) (.z 6)), (384, .itei (.r 318) (.r 320) (.r 282)), (385, .itei (.r 318) (.r 321) (.r 283)), (386, .iteb (.r 318) (.r 322) (.r 284)), (387, .itei (.r 318) (.r 320) (.r 282)), (388, .itei (.r 318) (.r 321) (.r 283)), (389, .iteb (.r 318) (.r 322) (.r 284)), (390, .iteb (.r 318) (.r 322) (.r 284)), (391, .iteb (.r 318) (.r 323) (.r 285)), (392, .iteb (.r 318) (.r 323) (.r 285)), (393, .iteb (.r 318) (.r 325) (.r 287)), (394, .iteb (.r 318) (.r 325) (.r 287)), (395, .iteb (.r 318) (.r 327) (.r 289)), (396, .iteb (.r 280) (.r 371) (.r 255)), (397, .itei (.r 280) (.r 372) (.z 5)), (398, .itei (.r 280) (.r 373) (.r 244)), (399, .itei (.r 280) (.r 374) (.r 245)), (400, .iteb (.r 280) (.r 375) (.r 246)), (401, .itei (.r 280) (.r 376) (.z 5)), (402, .iteb (.r 280) (.r 377) (.t true)), (403, .itei (.r 280) (.r 378) (.z 4)), (404, .itei (.r 280) (.r 379) (.z 5)), (405, .itei (.r 280) (.r 380) (.r 244)), (406, .itei (.r 280) (.r 381) (.r 245)), (407, .iteb (.r 280) (.r 382) (.r 246)), (408, .itei (.r 280) (.r 383) (.z 5)), (409, .itei (.r 280) (.r 384) (.r 244)), (410, .itei (.r 280) (.r 385) (.r 245)), (411, .iteb (.r 280) (.r 386) (.r 246)), (412, .itei (.r 280) (.r 387) (.r 244)), (413, .itei (.r 280) (.r 388) (.r 245)), (414, .iteb (.r 280) (.r 389) (.r 246)), (415, .iteb (.r 280) (.r 390) (.r 246)), (416, .iteb (.r 280) (.r 391) (.r 247)), (417, .iteb (.r 280) (.r 392) (.r 247)), (418, .iteb (.r 280) (.r 393) (.r 249)), (419, .iteb (.r 280) (.r 394) (.r 249)), (420, .iteb (.r 280) (.r 395) (.r 251)), (421, .iteb (.r 242) (.r 396) (.r 217)), (422, .itei (.r 242) (.r 397) (.z 4)), (423, .itei (.r 242) (.r 398) (.r 206)), (424, .itei (.r 242) (.r 399) (.r 207)), (425, .iteb (.r 242) (.r 400) (.r 208)), (426, .itei (.r 242) (.r 401) (.z 4)), (427, .iteb (.r 242) (.r 402) (.t true)), (428, .itei (.r 242) (.r 403) (.z 3)), (429, .itei (.r 242) (.r 404) (.z 4)), (430, .itei (.r 242) (.r 405) (.r 206)), (431, .itei (.r 242) (.r 406) (.r 207)), (432, .iteb (.r 242) (.r 407) (.r 208)), (433, .itei (.r 242) (.r 408) (.z 4)), (434, .itei (.r 242) (.r 409) (.r 206)), (435, .itei (.r 242) (.r 410) (.r 207)), (436, .iteb (.r 242) (.r 411) (.r 208)), (437, .itei (.r 242) (.r 412) (.r 206)), (438, .itei (.r 242) (.r 413) (.r 207)), (439, .iteb (.r 242) (.r 414) (.r 208)), (440, .iteb (.r 242) (.r 415) (.r 208)), (441, .iteb (.r 242) (.r 416) (.r 209)), (442, .iteb (.r 242) (.r 417) (.r 209)), (443, .iteb (.r 242) (.r 418) (.r 211)), (444, .iteb (.r 242) (.r 419) (.r 211)), (445, .iteb (.r 242) (.r 420) (.r 213)), (446, .iteb (.r 204) (.r 421) (.r 179)), (447, .itei (.r 204) (.r 422) (.z 3)), (448, .itei (.r 204) (.r 423) (.r 168)), (449, .itei (.r 204) (.r 424) (.r 169)), (450, .iteb (.r 204) (.r 425) (.r 170)), (451, .itei (.r 204) (.r 426) (.z 3)), (452, .iteb (.r 204) (.r 427) (.t true)), (453, .itei (.r 204) (.r 428) (.z 2)), (454, .itei (.r 204) (.r 429) (.z 3)), (455, .itei (.r 204) (.r 430) (.r 168)), (456, .itei (.r 204) (.r 431) (.r 169)), (457, .iteb (.r 204) (.r 432) (.r 170)), (458, .itei (.r 204) (.r 433) (.z 3)), (459, .itei (.r 204) (.r 434) (.r 168)), (460, .itei (.r 204) (.r 435) (.r 169)), (461, .iteb (.r 204) (.r 436) (.r 170)), (462, .itei (.r 204) (.r 437) (.r 168)), (463, .itei (.r 204) (.r 438) (.r 169)), (464, .iteb (.r 204) (.r 439) (.r 170)), (465, .iteb (.r 204) (.r 440) (.r 170)), (466, .iteb (.r 204) (.r 441) (.r 171)), (467, .iteb (.r 204) (.r 442) (.r 171)), (468, .iteb (.r 204) (.r 443) (.r 173)), (469, .iteb (.r 204) (.r 444) (.r 173)), (470, .iteb (.r 204) (.r 445) (.r 175)), (471, .iteb (.r 166) (.r 446) (.r 141)), (472, .itei (.r 166) (.r 447) (.z 2)), (473, .itei (.r 166) (.r 448) (.r 130)), (474, .itei (.r 166) (.r 449) (.r 131)), (475, .iteb (.r 166) (.r 450) (.r 132)), (476, .itei (.r 166) (.r 451) (.z 2)), (477, .iteb (.r 166) (.r 452) (.t true)), (478, .itei (.r 166) (.r 453) (.z 1)), (479, .itei (.r 166) (.r 454) (.z 2)), (480, .itei (.r 166) (.r 455) (.r 130)), (481, .itei (.r 166) (.r 456) (.r 131)), (482, .iteb (.r 166) (.r 457) (.r 132)), (483, .itei (.r 166) (.r 458) (.z 2)), (484, .itei (.r 166) (.r 459) (.r 130)), (485, .itei (.r 166) (.r 460) (.r 131)), (486, .iteb (.r 166) (.r 461) (.r 132)), (487, .itei (.r 166) (.r 462) (.r 130)), (488, .itei (.r 166) (.r 463) (.r 131)), (489, .iteb (.r 166) (.r 464) (.r 132)), (490, .iteb (.r 166) (.r 465) (.r 132)), (491, .iteb (.r 166) (.r 466) (.r 133)), (492, .iteb (.r 166) (.r 467) (.r 133)), (493, .iteb (.r 166) (.r 468) (.r 135)), (494, .iteb (.r 166) (.r 469) (.r 135)), (495, .iteb (.r 166) (.r 470) (.r 137)), (496, .iteb (.r 128) (.r 471) (.r 103)), (497, .itei (.r 128) (.r 472) (.z 1)), (498, .itei (.r 128) (.r 473) (.r 92)), (499, .itei (.r 128) (.r 474) (.r 93)), (500, .iteb (.r 128) (.r 475) (.r 94)), (501, .itei (.r 128) (.r 476) (.z 1)), (502, .iteb (.r 128) (.r 477) (.t true)), (503, .itei (.r 128) (.r 478) (.z 0)), (504, .itei (.r 128) (.r 479) (.z 1)), (505, .itei (.r 128) (.r 480) (.r 92)), (506, .itei (.r 128) (.r 481) (.r 93)), (507, .iteb (.r 128) (.r 482) (.r 94)), (508, .itei (.r 128) (.r 483) (.z 1)), (509, .itei (.r 128) (.r 484) (.r 92)), (510, .itei (.r 128) (.r 485) (.r 93)), (511, .iteb (.r 128) (.r 486) (.r 94)), (512, .itei (.r 128) (.r 487) (.r 92)), (513, .itei (.r 128) (.r 488) (.r 93)), (514, .iteb (.r 128) (.r 489) (.r 94)), (515, .iteb (.r 128) (.r 490) (.r 94)), (516, .iteb (.r 128) (.r 491) (.r 95)), (517, .iteb (.r 128) (.r 492) (.r 95)), (518, .iteb (.r 128) (.r 493) (.r 97)), (519, .iteb (.r 128) (.r 494) (.r 97)), (520, .iteb (.r 128) (.r 495) (.r 99)), (521, .iteb (.r 90) (.r 496) (.r 65)), (522, .itei (.r 90) (.r 497) (.z 0)), (523, .itei (.r 90) (.r 498) (.r 54)), (524, .itei (.r 90) (.r 499) (.r 55)), (525, .iteb (.r 90) (.r 500) (.r 56)), (526, .itei (.r 90) (.r 501) (.z 0)), (527, .iteb (.r 90) (.r 502) (.t true)), (528, .itei (.r 90) (.r 505) (.r 54)), (529, .itei (.r 90) (.r 506) (.r 55)), (530, .iteb (.r 90) (.r 507) (.r 56)), (531, .itei (.r 90) (.r 508) (.z 0)), (532, .itei (.r 90) (.r 509) (.r 54)), (533, .itei (.r 90) (.r 510) (.r 55)), (534, .iteb (.r 90) (.r 511) (.r 56)), (535, .itei (.r 90) (.r 512) (.r 54)), (536, .itei (.r 90) (.r 513) (.r 55)), (537, .iteb (.r 90) (.r 514) (.r 56)), (538, .iteb (.r 90) (.r 515) (.r 56)), (539, .iteb (.r 90) (.r 516) (.r 57)), (540, .iteb (.r 90) (.r 517) (.r 57)), (541, .iteb (.r 90) (.r 518) (.r 59)), (542, .iteb (.r 90) (.r 519) (.r 59)), (543, .iteb (.r 90) (.r 520) (.r 61)), (544, .iteb (.r 49) (.r 364) (.t true)), (545, .and (.r 39) (.r 544))],
  [⟨[], .r 36⟩, ⟨[(.r 39, true), (.r 49, true)], .r 53⟩, ⟨[(.r 39, true), (.r 49, true), (.r 62, true), (.r 70, true)], .r 71⟩, ⟨[(.r 39, true), (.r 49, true), (.r 62, true), (.r 70, true)], .r 73⟩, ⟨[(.r 39, true), (.r 49, true), (.r 62, true), (.r 70, true), (.r 76, true), (.r 82, true)], .r 83⟩, ⟨[(.r 39, true), (.r 49, true), (.r 90, true)], .r 91⟩, ⟨[(.r 39, true), (.r 49, true), (.r 90, true), (.r 100, true), (.r 108, true)], .r 109⟩, ⟨[(.r 39, true), (.r 49, true), (.r 90, true), (.r 100, true), (.r 108, true)], .r 111⟩, ⟨[(.r 39, true), (.r 49, true), (.r 90, true), (.r 100, true), (.r 108, true), (.r 114, true), (.r 120, true)], .r 121⟩, ⟨[(.r 39, true), (.r 49, true), (.r 90, true), (.r 128, true)], .r 129⟩, ⟨[(.r 39, true), (.r 49, true), (.r 90, true), (.r 128, true), (.r 138, true), (.r 146, true)], .r 147⟩, ⟨[(.r 39, true), (.r 49, true), (.r 90, true), (.r 128, true), (.r 138, true), (.r 146, true)], .r 149⟩, ⟨[(.r 39, true), (.r 49, true), (.r 90, true), (.r 128, true), (.r 138, true), (.r 146, true), (.r 152, true), (.r 158, true)], .r 159⟩, ⟨[(.r 39, true), (.r 49, true), (.r 90, true), (.r 128, true), (.r 166, true)], .r 167⟩, ⟨[(.r 39, true), (.r 49, true), (.r 90, true), (.r 128, true), (.r 166, true), (.r 176, true), (.r 184, true)], .r 185⟩, ⟨[(.r 39, true), (.r 49, true), (.r 90, true), (.r 128, true), (.r 166, true), (.r 176, true), (.r 184, true)], .r 187⟩, ⟨[(.r 39, true), (.r 49, true), (.r 90, true), (.r 128, true), (.r 166, true), (.r 176, true), (.r 184, true), (.r 190, true), (.r 196, true)], .r 197⟩, ⟨[(.r 39, true), (.r 49, true), (.r 90, true), (.r 128, true), (.r 166, true), (.r 204, true)], .r 205⟩, ⟨[(.r 39, true), (.r 49, true), (.r 90, true), (.r 128, true), (.r 166, true), (.r 204, true), (.r 214, true), (.r 222, true)], .r 223⟩, ⟨[(.r 39, true), (.r 49, true), (.r 90, true), (.r 128, true), (.r 166, true), (.r 204, true), (.r 214, true), (.r 222, true)], .r 225⟩, ⟨[(.r 39, true), (.r 49, true), (.r 90, true), (.r 128, true), (.r 166, true), (.r 204, true), (.r 214, true), (.r 222, true), (.r 228, true), (.r 234, true)], .r 235⟩, ⟨[(.r 39, true), (.r 49, true), (.r 90, true), (.r 128, true), (.r 166, true), (.r 204, true), (.r 242, true)], .r 243⟩, ⟨[(.r 39, true), (.r 49, true), (.r 90, true), (.r 128, true), (.r 166, true), (.r 204, true), (.r 242, true), (.r 252, true), (.r 260, true)], .r 261⟩, ⟨[(.r 39, true), (.r 49, true), (.r 90, true), (.r 128, true), (.r 166, true), (.r 204, true), (.r 242, true), (.r 252, true), (.r 260, true)], .r 263⟩, ⟨[(.r 39, true), (.r 49, true), (.r 90, true), (.r 128, true), (.r 166, true), (.r 204, true), (.r 242, true), (.r 252, true), (.r 260, true), (.r 266, true), (.r 272, true)], .r 273⟩, ⟨[(.r 39, true), (.r 49, true), (.r 90, true), (.r 128, true), (.r 166, true), (.r 204, true), (.r 242, true), (.r 280, true)], .r 281⟩, ⟨[(.r 39, true), (.r 49, true), (.r 90, true), (.r 128, true), (.r 166, true), (.r 204, true), (.r 242, true), (.r 280, true), (.r 290, true), (.r 298, true)], .r 299⟩, ⟨[(.r 39, true), (.r 49, true), (.r 90, true), (.r 128, true), (.r 166, true), (.r 204, true), (.r 242, true), (.r 280, true), (.r 290, true), (.r 298, true)], .r 301⟩, ⟨[(.r 39, true), (.r 49, true), (.r 90, true), (.r 128, true), (.r 166, true), (.r 204, true), (.r 242, true), (.r 280, true), (.r 290, true), (.r 298, true), (.r 304, true), (.r 310, true)], .r 311⟩, ⟨[(.r 39, true), (.r 49, true), (.r 90, true), (.r 128, true), (.r 166, true), (.r 204, true), (.r 242, true), (.r 280, true), (.r 318, true)], .r 319⟩, ⟨[(.r 39, true), (.r 49, true), (.r 90, true), (.r 128, true), (.r 166, true), (.r 204, true), (.r 242, true), (.r 280, true), (.r 318, true), (.r 328, true), (.r 336, true)], .r 337⟩, ⟨[(.r 39, true), (.r 49, true), (.r 90, true), (.r 128, true), (.r 166, true), (.r 204, true), (.r 242, true), (.r 280, true), (.r 318, true), (.r 328, true), (.r 336, true)], .r 339⟩, ⟨[(.r 39, true), (.r 49, true), (.r 90, true), (.r 128, true), (.r 166, true), (.r 204, true), (.r 242, true), (.r 280, true), (.r 318, true), (.r 328, true), (.r 336, true), (.r 342, true), (.r 348, true)], .r 349⟩],
  [],
  [.r 545]⟩
noncomputable def p6 (x0 : Int) (x1 : Int) (x2 : Int) (x3 : Int) (x4 : Int) (x5 : Int) (x6 : Int) (x7 : Int) (x8 : Int) (x9 : Int) (x10 : Int) (x11 : Int) (x12 : Int) (x13 : Int) (x14 : Int) (x15 : Int) (_x16 : Int) (x17 : Int) (x18 : Int) (x19 : Int) (x20 : Int) (x21 : Int) (x22 : Int) (x23 : Int) (_x24 : Int) (x25 : Int) (x26 : Int) (x27 : Int) (x28 : Int) (x29 : Int) (x30 : Int) (x31 : Int) (x32 : Int) (x33 : Int) (x34 : Int) (x35 : Int) : Bool :=
  let x36 := p10 
  let x37 := r10_0 
  let x38 := !x37
  let x39 := !x38
  let x40 := decide (x35 < 1)
  let x41 := decide (x35 > 8)
  let x42 := x40 || x41
  let x43 := decide (x34 > 9223372036854775808)
  let x44 := x42 || x43
  let x45 := decide (x33 < 0)
  let x46 := x44 || x45
  let x47 := decide (x33 > 3)
  let x48 := x46 || x47
  let x49 := !x48
  let x50 := IntKind.wrap .u64 x35
  let x51 := IntKind.wrap .u64 (x34 + x50)
  let x52 := IntKind.wrap .u64 (x51 - 1)
  let x53 := p8 x0 x1 x2 x3 x4 x5 x6 x7 x8 x9 x10 x11 x12 x13 x14 x15 0
  let x54 := r8_0 x0 x1 x2 x3 x4 x5 x6 x7 x8 x9 x10 x11 x12 x13 x14 x15 0
  let x55 := r8_1 x0 x1 x2 x3 x4 x5 x6 x7 x8 x9 x10 x11 x12 x13 x14 x15 0
  let x56 := r8_2 x0 x1 x2 x3 x4 x5 x6 x7 x8 x9 x10 x11 x12 x13 x14 x15 0
  let x57 := !x56
  let x58 := decide (x52 < x54)
  let x59 := x57 || x58
  let x60 := decide (x34 > x55)
  let x61 := x59 || x60
  let x62 := !x61
  let x63 := decide (x34 < x54)
  let x64 := decide (x52 > x55)
  let x65 := x63 || x64
  let x66 := decide (x34 ≥ x54)
  let x67 := decide (x52 ≤ x55)
  let x68 := x66 && x67
  let x69 := !x65
  let x70 := x68 && x69
  let x71 := p11 x0 x17 x18 x19 x20 x21 x22 x23 x8 x25 x26 x27 x28 x29 x30 x31 x32 x33 x34 x35
  let x72 := r11_0 x0 x17 x18 x19 x20 x21 x22 x23 x8 x25 x26 x27 x28 x29 x30 x31 x32 x33 x34 x35
  let x73 := p11 x0 x1 x2 x3 x4 x5 x6 x7 x8 x9 x10 x11 x12 x13 x14 x15 x32 x33 x34 x35
  let x74 := r11_0 x0 x1 x2 x3 x4 x5 x6 x7 x8 x9 x10 x11 x12 x13 x14 x15 x32 x33 x34 x35
  let x75 := x72 != x74
  let x76 := !x75
  let x77 := iland .u8 x0 128
  let x78 := x77 == 0
  let x79 := x35 != 3
  let x80 := x78 && x79
  let x81 := decide (x35 < 5)
  let x82 := x80 && x81
  let x83 := p11 x0 x1 x2 x3 x4 x5 x6 x7 x8 x9 x10 x11 x12 x13 x14 x15 3 x33 x34 x35
  let x90 := !x62
  let x91 := p8 x0 x1 x2 x3 x4 x5 x6 x7 x8 x9 x10 x11 x12 x13 x14 x15 1
  let x92 := r8_0 x0 x1 x2 x3 x4 x5 x6 x7 x8 x9 x10 x11 x12 x13 x14 x15 1
  let x93 := r8_1 x0 x1 x2 x3 x4 x5 x6 x7 x8 x9 x10 x11 x12 x13 x14 x15 1
  let x94 := r8_2 x0 x1 x2 x3 x4 x5 x6 x7 x8 x9 x10 x11 x12 x13 x14 x15 1
  let x95 := !x94
  let x96 := decide (x52 < x92)
  let x97 := x95 || x96
  let x98 := decide (x34 > x93)
  let x99 := x97 || x98
  let x100 := !x99
  let x101 := decide (x34 < x92)
  let x102 := decide (x52 > x93)
  let x103 := x101 || x102
  let x104 := decide (x34 ≥ x92)
  let x105 := decide (x52 ≤ x93)
  let x106 := x104 && x105
  let x107 := !x103
  let x108 := x106 && x107
  let x109 := p11 x0 x1 x18 x19 x20 x21 x22 x23 x8 x9 x26 x27 x28 x29 x30 x31 x32 x33 x34 x35
  let x110 := r11_0 x0 x1 x18 x19 x20 x21 x22 x23 x8 x9 x26 x27 x28 x29 x30 x31 x32 x33 x34 x35
  let x111 := p11 x0 x1 x2 x3 x4 x5 x6 x7 x8 x9 x10 x11 x12 x13 x14 x15 x32 x33 x34 x35
  let x112 := r11_0 x0 x1 x2 x3 x4 x5 x6 x7 x8 x9 x10 x11 x12 x13 x14 x15 x32 x33 x34 x35
  let x113 := x110 != x112
  let x114 := !x113
  let x115 := iland .u8 x1 128
  let x116 := x115 == 0
  let x117 := x35 != 3
  let x118 := x116 && x117
  let x119 := decide (x35 < 5)
  let x120 := x118 && x119
  let x121 := p11 x0 x1 x2 x3 x4 x5 x6 x7 x8 x9 x10 x11 x12 x13 x14 x15 3 x33 x34 x35
  let x128 := !x100
  let x129 := p8 x0 x1 x2 x3 x4 x5 x6 x7 x8 x9 x10 x11 x12 x13 x14 x15 2
  let x130 := r8_0 x0 x1 x2 x3 x4 x5 x6 x7 x8 x9 x10 x11 x12 x13 x14 x15 2
  let x131 := r8_1 x0 x1 x2 x3 x4 x5 x6 x7 x8 x9 x10 x11 x12 x13 x14 x15 2
  let x132 := r8_2 x0 x1 x2 x3 x4 x5 x6 x7 x8 x9 x10 x11 x12 x13 x14 x15 2
  let x133 := !x132
  let x134 := decide (x52 < x130)
  let x135 := x133 || x134
  let x136 := decide (x34 > x131)
  let x137 := x135 || x136
  let x138 := !x137
  let x139 := decide (x34 < x130)
  let x140 := decide (x52 > x131)
  let x141 := x139 || x140
  let x142 := decide (x34 ≥ x130)
  let x143 := decide (x52 ≤ x131)
  let x144 := x142 && x143
  let x145 := !x141
  let x146 := x144 && x145
  let x147 := p11 x0 x1 x2 x19 x20 x21 x22 x23 x8 x9 x10 x27 x28 x29 x30 x31 x32 x33 x34 x35
  let x148 := r11_0 x0 x1 x2 x19 x20 x21 x22 x23 x8 x9 x10 x27 x28 x29 x30 x31 x32 x33 x34 x35
  let x149 := p11 x0 x1 x2 x3 x4 x5 x6 x7 x8 x9 x10 x11 x12 x13 x14 x15 x32 x33 x34 x35
  let x150 := r11_0 x0 x1 x2 x3 x4 x5 x6 x7 x8 x9 x10 x11 x12 x13 x14 x15 x32 x33 x34 x35
  let x151 := x148 != x150
  let x152 := !x151
  let x153 := iland .u8 x2 128
  let x154 := x153 == 0
  let x155 := x35 != 3
  let x156 := x154 && x155
  let x157 := decide (x35 < 5)
  let x158 := x156 && x157
  let x159 := p11 x0 x1 x2 x3 x4 x5 x6 x7 x8 x9 x10 x11 x12 x13 x14 x15 3 x33 x34 x35
  let x166 := !x138
  let x167 := p8 x0 x1 x2 x3 x4 x5 x6 x7 x8 x9 x10 x11 x12 x13 x14 x15 3
  let x168 := r8_0 x0 x1 x2 x3 x4 x5 x6 x7 x8 x9 x10 x11 x12 x13 x14 x15 3
  let x169 := r8_1 x0 x1 x2 x3 x4 x5 x6 x7 x8 x9 x10 x11 x12 x13 x14 x15 3
  let x170 := r8_2 x0 x1 x2 x3 x4 x5 x6 x7 x8 x9 x10 x11 x12 x13 x14 x15 3
  let x171 := !x170
  let x172 := decide (x52 < x168)
  let x173 := x171 || x172
  let x174 := decide (x34 > x169)
  let x175 := x173 || x174
  let x176 := !x175
  let x177 := decide (x34 < x168)
  let x178 := decide (x52 > x169)
  let x179 := x177 || x178
  let x180 := decide (x34 ≥ x168)
  let x181 := decide (x52 ≤ x169)
  let x182 := x180 && x181
  let x183 := !x179
  let x184 := x182 && x183
  let x185 := p11 x0 x1 x2 x3 x20 x21 x22 x23 x8 x9 x10 x11 x28 x29 x30 x31 x32 x33 x34 x35
  let x186 := r11_0 x0 x1 x2 x3 x20 x21 x22 x23 x8 x9 x10 x11 x28 x29 x30 x31 x32 x33 x34 x35
  let x187 := p11 x0 x1 x2 x3 x4 x5 x6 x7 x8 x9 x10 x11 x12 x13 x14 x15 x32 x33 x34 x35
  let x188 := r11_0 x0 x1 x2 x3 x4 x5 x6 x7 x8 x9 x10 x11 x12 x13 x14 x15 x32 x33 x34 x35
  let x189 := x186 != x188
  let x190 := !x189
  let x191 := iland .u8 x3 128
  let x192 := x191 == 0
  let x193 := x35 != 3
  let x194 := x192 && x193
  let x195 := decide (x35 < 5)
  let x196 := x194 && x195
  let x197 := p11 x0 x1 x2 x3 x4 x5 x6 x7 x8 x9 x10 x11 x12 x13 x14 x15 3 x33 x34 x35
  let x204 := !x176
  let x205 := p8 x0 x1 x2 x3 x4 x5 x6 x7 x8 x9 x10 x11 x12 x13 x14 x15 4
  let x206 := r8_0 x0 x1 x2 x3 x4 x5 x6 x7 x8 x9 x10 x11 x12 x13 x14 x15 4
  let x207 := r8_1 x0 x1 x2 x3 x4 x5 x6 x7 x8 x9 x10 x11 x12 x13 x14 x15 4
  let x208 := r8_2 x0 x1 x2 x3 x4 x5 x6 x7 x8 x9 x10 x11 x12 x13 x14 x15 4
  let x209 := !x208
  let x210 := decide (x52 < x206)
  let x211 := x209 || x210
  let x212 := decide (x34 > x207)
  let x213 := x211 || x212
  let x214 := !x213
  let x215 := decide (x34 < x206)
  let x216 := decide (x52 > x207)
  let x217 := x215 || x216
  let x218 := decide (x34 ≥ x206)
  let x219 := decide (x52 ≤ x207)
  let x220 := x218 && x219
  let x221 := !x217
  let x222 := x220 && x221
  let x223 := p11 x0 x1 x2 x3 x4 x21 x22 x23 x8 x9 x10 x11 x12 x29 x30 x31 x32 x33 x34 x35
  let x224 := r11_0 x0 x1 x2 x3 x4 x21 x22 x23 x8 x9 x10 x11 x12 x29 x30 x31 x32 x33 x34 x35
  let x225 := p11 x0 x1 x2 x3 x4 x5 x6 x7 x8 x9 x10 x11 x12 x13 x14 x15 x32 x33 x34 x35
  let x226 := r11_0 x0 x1 x2 x3 x4 x5 x6 x7 x8 x9 x10 x11 x12 x13 x14 x15 x32 x33 x34 x35
  let x227 := x224 != x226
  let x228 := !x227
  let x229 := iland .u8 x4 128
  let x230 := x229 == 0
  let x231 := x35 != 3
  let x232 := x230 && x231
  let x233 := decide (x35 < 5)
  let x234 := x232 && x233
  let x235 := p11 x0 x1 x2 x3 x4 x5 x6 x7 x8 x9 x10 x11 x12 x13 x14 x15 3 x33 x34 x35
  let x242 := !x214
  let x243 := p8 x0 x1 x2 x3 x4 x5 x6 x7 x8 x9 x10 x11 x12 x13 x14 x15 5
  let x244 := r8_0 x0 x1 x2 x3 x4 x5 x6 x7 x8 x9 x10 x11 x12 x13 x14 x15 5
  let x245 := r8_1 x0 x1 x2 x3 x4 x5 x6 x7 x8 x9 x10 x11 x12 x13 x14 x15 5
  let x246 := r8_2 x0 x1 x2 x3 x4 x5 x6 x7 x8 x9 x10 x11 x12 x13 x14 x15 5
  let x247 := !x246
  let x248 := decide (x52 < x244)
  let x249 := x247 || x248
  let x250 := decide (x34 > x245)
  let x251 := x249 || x250
  let x252 := !x251
  let x253 := decide (x34 < x244)
  let x254 := decide (x52 > x245)
  let x255 := x253 || x254
  let x256 := decide (x34 ≥ x244)
  let x257 := decide (x52 ≤ x245)
  let x258 := x256 && x257
  let x259 := !x255
  let x260 := x258 && x259
  let x261 := p11 x0 x1 x2 x3 x4 x5 x22 x23 x8 x9 x10 x11 x12 x13 x30 x31 x32 x33 x34 x35
  let x262 := r11_0 x0 x1 x2 x3 x4 x5 x22 x23 x8 x9 x10 x11 x12 x13 x30 x31 x32 x33 x34 x35
  let x263 := p11 x0 x1 x2 x3 x4 x5 x6 x7 x8 x9 x10 x11 x12 x13 x14 x15 x32 x33 x34 x35
  let x264 := r11_0 x0 x1 x2 x3 x4 x5 x6 x7 x8 x9 x10 x11 x12 x13 x14 x15 x32 x33 x34 x35
  let x265 := x262 != x264
  let x266 := !x265
  let x267 := iland .u8 x5 128
  let x268 := x267 == 0
  let x269 := x35 != 3
  let x270 := x268 && x269
  let x271 := decide (x35 < 5)
  let x272 := x270 && x271
  let x273 := p11 x0 x1 x2 x3 x4 x5 x6 x7 x8 x9 x10 x11 x12 x13 x14 x15 3 x33 x34 x35
  let x280 := !x252
  let x281 := p8 x0 x1 x2 x3 x4 x5 x6 x7 x8 x9 x10 x11 x12 x13 x14 x15 6
  let x282 := r8_0 x0 x1 x2 x3 x4 x5 x6 x7 x8 x9 x10 x11 x12 x13 x14 x15 6
  let x283 := r8_1 x0 x1 x2 x3 x4 x5 x6 x7 x8 x9 x10 x11 x12 x13 x14 x15 6
  let x284 := r8_2 x0 x1 x2 x3 x4 x5 x6 x7 x8 x9 x10 x11 x12 x13 x14 x15 6
  let x285 := !x284
  let x286 := decide (x52 < x282)
  let x287 := x285 || x286
  let x288 := decide (x34 > x283)
  let x289 := x287 || x288
  let x290 := !x289
  let x291 := decide (x34 < x282)
  let x292 := decide (x52 > x283)
  let x293 := x291 || x292
  let x294 := decide (x34 ≥ x282)
  let x295 := decide (x52 ≤ x283)
  let x296 := x294 && x295
  let x297 := !x293
  let x298 := x296 && x297
  let x299 := p11 x0 x1 x2 x3 x4 x5 x6 x23 x8 x9 x10 x11 x12 x13 x14 x31 x32 x33 x34 x35
  let x300 := r11_0 x0 x1 x2 x3 x4 x5 x6 x23 x8 x9 x10 x11 x12 x13 x14 x31 x32 x33 x34 x35
  let x301 := p11 x0 x1 x2 x3 x4 x5 x6 x7 x8 x9 x10 x11 x12 x13 x14 x15 x32 x33 x34 x35
  let x302 := r11_0 x0 x1 x2 x3 x4 x5 x6 x7 x8 x9 x10 x11 x12 x13 x14 x15 x32 x33 x34 x35
  let x303 := x300 != x302
  let x304 := !x303
  let x305 := iland .u8 x6 128
  let x306 := x305 == 0
  let x307 := x35 != 3
  let x308 := x306 && x307
  let x309 := decide (x35 < 5)
  let x310 := x308 && x309
  let x311 := p11 x0 x1 x2 x3 x4 x5 x6 x7 x8 x9 x10 x11 x12 x13 x14 x15 3 x33 x34 x35
  let x318 := !x290
  let x319 := p8 x0 x1 x2 x3 x4 x5 x6 x7 x8 x9 x10 x11 x12 x13 x14 x15 7
  let x320 := r8_0 x0 x1 x2 x3 x4 x5 x6 x7 x8 x9 x10 x11 x12 x13 x14 x15 7
  let x321 := r8_1 x0 x1 x2 x3 x4 x5 x6 x7 x8 x9 x10 x11 x12 x13 x14 x15 7
  let x322 := r8_2 x0 x1 x2 x3 x4 x5 x6 x7 x8 x9 x10 x11 x12 x13 x14 x15 7
  let x323 := !x322
  let x324 := decide (x52 < x320)
  let x325 := x323 || x324
  let x326 := decide (x34 > x321)
  let x327 := x325 || x326
  let x328 := !x327
  let x329 := decide (x34 < x320)
  let x330 := decide (x52 > x321)
  let x331 := x329 || x330
  let x332 := decide (x34 ≥ x320)
  let x333 := decide (x52 ≤ x321)
  let x334 := x332 && x333
  let x335 := !x331
  let x336 := x334 && x335
  let x337 := p11 x0 x1 x2 x3 x4 x5 x6 x7 x8 x9 x10 x11 x12 x13 x14 x15 x32 x33 x34 x35
  let x338 := r11_0 x0 x1 x2 x3 x4 x5 x6 x7 x8 x9 x10 x11 x12 x13 x14 x15 x32 x33 x34 x35
  let x339 := p11 x0 x1 x2 x3 x4 x5 x6 x7 x8 x9 x10 x11 x12 x13 x14 x15 x32 x33 x34 x35
  let x340 := r11_0 x0 x1 x2 x3 x4 x5 x6 x7 x8 x9 x10 x11 x12 x13 x14 x15 x32 x33 x34 x35
  let x341 := x338 != x340
  let x342 := !x341
  let x343 := iland .u8 x7 128
  let x344 := x343 == 0
  let x345 := x35 != 3
  let x346 := x344 && x345
  let x347 := decide (x35 < 5)
  let x348 := x346 && x347
  let x349 := p11 x0 x1 x2 x3 x4 x5 x6 x7 x8 x9 x10 x11 x12 x13 x14 x15 3 x33 x34 x35
  [ow [] x36, ow [(x39, true), (x49, true)] x53, ow [(x39, true), (x49, true), (x62, true), (x70, true)] x71, ow [(x39, true), (x49, true), (x62, true), (x70, true)] x73, ow [(x39, true), (x49, true), (x62, true), (x70, true), (x76, true), (x82, true)] x83, ow [(x39, true), (x49, true), (x90, true)] x91, ow [(x39, true), (x49, true), (x90, true), (x100, true), (x108, true)] x109, ow [(x39, true), (x49, true), (x90, true), (x100, true), (x108, true)] x111, ow [(x39, true), (x49, true), (x90, true), (x100, true), (x108, true), (x114, true), (x120, true)] x121, ow [(x39, true), (x49, true), (x90, true), (x128, true)] x129, ow [(x39, true), (x49, true), (x90, true), (x128, true), (x138, true), (x146, true)] x147, ow [(x39, true), (x49, true), (x90, true), (x128, true), (x138, true), (x146, true)] x149, ow [(x39, true), (x49, true), (x90, true), (x128, true), (x138, true), (x146, true), (x152, true), (x158, true)] x159, ow [(x39, true), (x49, true), (x90, true), (x128, true), (x166, true)] x167, ow [(x39, true), (x49, true), (x90, true), (x128, true), (x166, true), (x176, true), (x184, true)] x185, ow [(x39, true), (x49, true), (x90, true), (x128, true), (x166, true), (x176, true), (x184, true)] x187, ow [(x39, true), (x49, true), (x90, true), (x128, true), (x166, true), (x176, true), (x184, true), (x190, true), (x196, true)] x197, ow [(x39, true), (x49, true), (x90, true), (x128, true), (x166, true), (x204, true)] x205, ow [(x39, true), (x49, true), (x90, true), (x128, true), (x166, true), (x204, true), (x214, true), (x222, true)] x223, ow [(x39, true), (x49, true), (x90, true), (x128, true), (x166, true), (x204, true), (x214, true), (x222, true)] x225, ow [(x39, true), (x49, true), (x90, true), (x128, true), (x166, true), (x204, true), (x214, true), (x222, true), (x228, true), (x234, true)] x235, ow [(x39, true), (x49, true), (x90, true), (x128, true), (x166, true), (x204, true), (x242, true)] x243, ow [(x39, true), (x49, true), (x90, true), (x128, true), (x166, true), (x204, true), (x242, true), (x252, true), (x260, true)] x261, ow [(x39, true), (x49, true), (x90, true), (x128, true), (x166, true), (x204, true), (x242, true), (x252, true), (x260, true)] x263, ow [(x39, true), (x49, true), (x90, true), (x128, true), (x166, true), (x204, true), (x242, true), (x252, true), (x260, true), (x266, true), (x272, true)] x273, ow [(x39, true), (x49, true), (x90, true), (x128, true), (x166, true), (x204, true), (x242, true), (x280, true)] x281, ow [(x39, true), (x49, true), (x90, true), (x128, true), (x166, true), (x204, true), (x242, true), (x280, true), (x290, true), (x298, true)] x299, ow [(x39, true), (x49, true), (x90, true), (x128, true), (x166, true), (x204, true), (x242, true), (x280, true), (x290, true), (x298, true)] x301, ow [(x39, true), (x49, true), (x90, true), (x128, true), (x166, true), (x204, true), (x242, true), (x280, true), (x290, true), (x298, true), (x304, true), (x310, true)] x311, ow [(x39, true), (x49, true), (x90, true), (x128, true), (x166, true), (x204, true), (x242, true), (x280, true), (x318, true)] x319, ow [(x39, true), (x49, true), (x90, true), (x128, true), (x166, true), (x204, true), (x242, true), (x280, true), (x318, true), (x328, true), (x336, true)] x337, ow [(x39, true), (x49, true), (x90, true), (x128, true), (x166, true), (x204, true), (x242, true), (x280, true), (x318, true), (x328, true), (x336, true)] x339, ow [(x39, true), (x49, true), (x90, true), (x128, true), (x166, true), (x204, true), (x242, true), (x280, true), (x318, true), (x328, true), (x336, true), (x342, true), (x348, true)] x349].all id
noncomputable def r6_0 (x0 : Int) (x1 : Int) (x2 : Int) (x3 : Int) (x4 : Int) (x5 : Int) (x6 : Int) (x7 : Int) (x8 : Int) (x9 : Int) (x10 : Int) (x11 : Int) (x12 : Int) (x13 : Int) (x14 : Int) (x15 : Int) (_x16 : Int) (x17 : Int) (x18 : Int) (x19 : Int) (x20 : Int) (x21 : Int) (x22 : Int) (x23 : Int) (_x24 : Int) (x25 : Int) (x26 : Int) (x27 : Int) (x28 : Int) (x29 : Int) (x30 : Int) (x31 : Int) (x32 : Int) (x33 : Int) (x34 : Int) (x35 : Int) : Bool :=
  let x37 := r10_0 
  let x38 := !x37
  let x39 := !x38
  let x40 := decide (x35 < 1)
  let x41 := decide (x35 > 8)
  let x42 := x40 || x41
  let x43 := decide (x34 > 9223372036854775808)
  let x44 := x42 || x43
  let x45 := decide (x33 < 0)
  let x46 := x44 || x45
  let x47 := decide (x33 > 3)
  let x48 := x46 || x47
  let x49 := !x48
  let x50 := IntKind.wrap .u64 x35
  let x51 := IntKind.wrap .u64 (x34 + x50)
  let x52 := IntKind.wrap .u64 (x51 - 1)
  let x54 := r8_0 x0 x1 x2 x3 x4 x5 x6 x7 x8 x9 x10 x11 x12 x13 x14 x15 0
  let x55 := r8_1 x0 x1 x2 x3 x4 x5 x6 x7 x8 x9 x10 x11 x12 x13 x14 x15 0
  let x56 := r8_2 x0 x1 x2 x3 x4 x5 x6 x7 x8 x9 x10 x11 x12 x13 x14 x15 0
  let x57 := !x56
  let x58 := decide (x52 < x54)
  let x59 := x57 || x58
  let x60 := decide (x34 > x55)
  let x61 := x59 || x60
  let x62 := !x61
  let x63 := decide (x34 < x54)
  let x64 := decide (x52 > x55)
  let x65 := x63 || x64
  let x66 := decide (x34 ≥ x54)
  let x67 := decide (x52 ≤ x55)
  let x68 := x66 && x67
  let x69 := !x65
  let x70 := x68 && x69
  let x72 := r11_0 x0 x17 x18 x19 x20 x21 x22 x23 x8 x25 x26 x27 x28 x29 x30 x31 x32 x33 x34 x35
  let x74 := r11_0 x0 x1 x2 x3 x4 x5 x6 x7 x8 x9 x10 x11 x12 x13 x14 x15 x32 x33 x34 x35
  let x75 := x72 != x74
  let x76 := !x75
  let x77 := iland .u8 x0 128
  let x78 := x77 == 0
  let x79 := x35 != 3
  let x80 := x78 && x79
  let x81 := decide (x35 < 5)
  let x82 := x80 && x81
  let x84 := r11_0 x0 x1 x2 x3 x4 x5 x6 x7 x8 x9 x10 x11 x12 x13 x14 x15 3 x33 x34 x35
  let x85 := !x84
  let x86 := x82 && x85
  let x87 := !x86
  let x88 := x76 && x87
  let x89 := bif x70 then x88 else true
  let x90 := !x62
  let x92 := r8_0 x0 x1 x2 x3 x4 x5 x6 x7 x8 x9 x10 x11 x12 x13 x14 x15 1
  let x93 := r8_1 x0 x1 x2 x3 x4 x5 x6 x7 x8 x9 x10 x11 x12 x13 x14 x15 1
  let x94 := r8_2 x0 x1 x2 x3 x4 x5 x6 x7 x8 x9 x10 x11 x12 x13 x14 x15 1
  let x95 := !x94
  let x96 := decide (x52 < x92)
  let x97 := x95 || x96
  let x98 := decide (x34 > x93)
  let x99 := x97 || x98
  let x100 := !x99
  let x101 := decide (x34 < x92)
  let x102 := decide (x52 > x93)
  let x103 := x101 || x102
  let x104 := decide (x34 ≥ x92)
  let x105 := decide (x52 ≤ x93)
  let x106 := x104 && x105
  let x107 := !x103
  let x108 := x106 && x107
  let x110 := r11_0 x0 x1 x18 x19 x20 x21 x22 x23 x8 x9 x26 x27 x28 x29 x30 x31 x32 x33 x34 x35
  let x112 := r11_0 x0 x1 x2 x3 x4 x5 x6 x7 x8 x9 x10 x11 x12 x13 x14 x15 x32 x33 x34 x35
  let x113 := x110 != x112
  let x114 := !x113
  let x115 := iland .u8 x1 128
  let x116 := x115 == 0
  let x117 := x35 != 3
  let x118 := x116 && x117
  let x119 := decide (x35 < 5)
  let x120 := x118 && x119
  let x122 := r11_0 x0 x1 x2 x3 x4 x5 x6 x7 x8 x9 x10 x11 x12 x13 x14 x15 3 x33 x34 x35
  let x123 := !x122
  let x124 := x120 && x123
  let x125 := !x124
  let x126 := x114 && x125
  let x127 := bif x108 then x126 else true
  let x128 := !x100
  let x130 := r8_0 x0 x1 x2 x3 x4 x5 x6 x7 x8 x9 x10 x11 x12 x13 x14 x15 2
  let x131 := r8_1 x0 x1 x2 x3 x4 x5 x6 x7 x8 x9 x10 x11 x12 x13 x14 x15 2
  let x132 := r8_2 x0 x1 x2 x3 x4 x5 x6 x7 x8 x9 x10 x11 x12 x13 x14 x15 2
  let x133 := !x132
  let x134 := decide (x52 < x130)
  let x135 := x133 || x134
  let x136 := decide (x34 > x131)
  let x137 := x135 || x136
  let x138 := !x137
  let x139 := decide (x34 < x130)
  let x140 := decide (x52 > x131)
  let x141 := x139 || x140
  let x142 := decide (x34 ≥ x130)
  let x143 := decide (x52 ≤ x131)
  let x144 := x142 && x143
  let x145 := !x141
  let x146 := x144 && x145
  let x148 := r11_0 x0 x1 x2 x19 x20 x21 x22 x23 x8 x9 x10 x27 x28 x29 x30 x31 x32 x33 x34 x35
  let x150 := r11_0 x0 x1 x2 x3 x4 x5 x6 x7 x8 x9 x10 x11 x12 x13 x14 x15 x32 x33 x34 x35
  let x151 := x148 != x150
  let x152 := !x151
  let x153 := iland .u8 x2 128
  let x154 := x153 == 0
  let x155 := x35 != 3
  let x156 := x154 && x155
  let x157 := decide (x35 < 5)
  let x158 := x156 && x157
  let x160 := r11_0 x0 x1 x2 x3 x4 x5 x6 x7 x8 x9 x10 x11 x12 x13 x14 x15 3 x33 x34 x35
  let x161 := !x160
  let x162 := x158 && x161
  let x163 := !x162
  let x164 := x152 && x163
  let x165 := bif x146 then x164 else true
  let x166 := !x138
  let x168 := r8_0 x0 x1 x2 x3 x4 x5 x6 x7 x8 x9 x10 x11 x12 x13 x14 x15 3
  let x169 := r8_1 x0 x1 x2 x3 x4 x5 x6 x7 x8 x9 x10 x11 x12 x13 x14 x15 3
  let x170 := r8_2 x0 x1 x2 x3 x4 x5 x6 x7 x8 x9 x10 x11 x12 x13 x14 x15 3
  let x171 := !x170
  let x172 := decide (x52 < x168)
  let x173 := x171 || x172
  let x174 := decide (x34 > x169)
  let x175 := x173 || x174
  let x176 := !x175
  let x177 := decide (x34 < x168)
  let x178 := decide (x52 > x169)
  let x179 := x177 || x178
  let x180 := decide (x34 ≥ x168)
  let x181 := decide (x52 ≤ x169)
  let x182 := x180 && x181
  let x183 := !x179
  let x184 := x182 && x183
  let x186 := r11_0 x0 x1 x2 x3 x20 x21 x22 x23 x8 x9 x10 x11 x28 x29 x30 x31 x32 x33 x34 x35
  let x188 := r11_0 x0 x1 x2 x3 x4 x5 x6 x7 x8 x9 x10 x11 x12 x13 x14 x15 x32 x33 x34 x35
  let x189 := x186 != x188
  let x190 := !x189
  let x191 := iland .u8 x3 128
  let x192 := x191 == 0
  let x193 := x35 != 3
  let x194 := x192 && x193
  let x195 := decide (x35 < 5)
  let x196 := x194 && x195
  let x198 := r11_0 x0 x1 x2 x3 x4 x5 x6 x7 x8 x9 x10 x11 x12 x13 x14 x15 3 x33 x34 x35
  let x199 := !x198
  let x200 := x196 && x199
  let x201 := !x200
  let x202 := x190 && x201
  let x203 := bif x184 then x202 else true
  let x204 := !x176
  let x206 := r8_0 x0 x1 x2 x3 x4 x5 x6 x7 x8 x9 x10 x11 x12 x13 x14 x15 4
  let x207 := r8_1 x0 x1 x2 x3 x4 x5 x6 x7 x8 x9 x10 x11 x12 x13 x14 x15 4
  let x208 := r8_2 x0 x1 x2 x3 x4 x5 x6 x7 x8 x9 x10 x11 x12 x13 x14 x15 4
  let x209 := !x208
  let x210 := decide (x52 < x206)
  let x211 := x209 || x210
  let x212 := decide (x34 > x207)
  let x213 := x211 || x212
  let x214 := !x213
  let x215 := decide (x34 < x206)
  let x216 := decide (x52 > x207)
  let x217 := x215 || x216
  let x218 := decide (x34 ≥ x206)
  let x219 := decide (x52 ≤ x207)
  let x220 := x218 && x219
  let x221 := !x217
  let x222 := x220 && x221
  let x224 := r11_0 x0 x1 x2 x3 x4 x21 x22 x23 x8 x9 x10 x11 x12 x29 x30 x31 x32 x33 x34 x35
  let x226 := r11_0 x0 x1 x2 x3 x4 x5 x6 x7 x8 x9 x10 x11 x12 x13 x14 x15 x32 x33 x34 x35
  let x227 := x224 != x226
  let x228 := !x227
  let x229 := iland .u8 x4 128
  let x230 := x229 == 0
  let x231 := x35 != 3
  let x232 := x230 && x231
  let x233 := decide (x35 < 5)
  let x234 := x232 && x233
  let x236 := r11_0 x0 x1 x2 x3 x4 x5 x6 x7 x8 x9 x10 x11 x12 x13 x14 x15 3 x33 x34 x35
  let x237 := !x236
  let x238 := x234 && x237
  let x239 := !x238
  let x240 := x228 && x239
  let x241 := bif x222 then x240 else true
  let x242 := !x214
  let x244 := r8_0 x0 x1 x2 x3 x4 x5 x6 x7 x8 x9 x10 x11 x12 x13 x14 x15 5
  let x245 := r8_1 x0 x1 x2 x3 x4 x5 x6 x7 x8 x9 x10 x11 x12 x13 x14 x15 5
  let x246 := r8_2 x0 x1 x2 x3 x4 x5 x6 x7 x8 x9 x10 x11 x12 x13 x14 x15 5
  let x247 := !x246
  let x248 := decide (x52 < x244)
  let x249 := x247 || x248
  let x250 := decide (x34 > x245)
  let x251 := x249 || x250
  let x252 := !x251
  let x253 := decide (x34 < x244)
  let x254 := decide (x52 > x245)
  let x255 := x253 || x254
  let x256 := decide (x34 ≥ x244)
  let x257 := decide (x52 ≤ x245)
  let x258 := x256 && x257
  let x259 := !x255
  let x260 := x258 && x259
  let x262 := r11_0 x0 x1 x2 x3 x4 x5 x22 x23 x8 x9 x10 x11 x12 x13 x30 x31 x32 x33 x34 x35
  let x264 := r11_0 x0 x1 x2 x3 x4 x5 x6 x7 x8 x9 x10 x11 x12 x13 x14 x15 x32 x33 x34 x35
  let x265 := x262 != x264
  let x266 := !x265
  let x267 := iland .u8 x5 128
  let x268 := x267 == 0
  let x269 := x35 != 3
  let x270 := x268 && x269
  let x271 := decide (x35 < 5)
  let x272 := x270 && x271
  let x274 := r11_0 x0 x1 x2 x3 x4 x5 x6 x7 x8 x9 x10 x11 x12 x13 x14 x15 3 x33 x34 x35
  let x275 := !x274
  let x276 := x272 && x275
  let x277 := !x276
  let x278 := x266 && x277
  let x279 := bif x260 then x278 else true
  let x280 := !x252
  let x282 := r8_0 x0 x1 x2 x3 x4 x5 x6 x7 x8 x9 x10 x11 x12 x13 x14 x15 6
  let x283 := r8_1 x0 x1 x2 x3 x4 x5 x6 x7 x8 x9 x10 x11 x12 x13 x14 x15 6
  let x284 := r8_2 x0 x1 x2 x3 x4 x5 x6 x7 x8 x9 x10 x11 x12 x13 x14 x15 6
  let x285 := !x284
  let x286 := decide (x52 < x282)
  let x287 := x285 || x286
  let x288 := decide (x34 > x283)
  let x289 := x287 || x288
  let x290 := !x289
  let x291 := decide (x34 < x282)
  let x292 := decide (x52 > x283)
  let x293 := x291 || x292
  let x294 := decide (x34 ≥ x282)
  let x295 := decide (x52 ≤ x283)
  let x296 := x294 && x295
  let x297 := !x293
  let x298 := x296 && x297
  let x300 := r11_0 x0 x1 x2 x3 x4 x5 x6 x23 x8 x9 x10 x11 x12 x13 x14 x31 x32 x33 x34 x35
  let x302 := r11_0 x0 x1 x2 x3 x4 x5 x6 x7 x8 x9 x10 x11 x12 x13 x14 x15 x32 x33 x34 x35
  let x303 := x300 != x302
  let x304 := !x303
  let x305 := iland .u8 x6 128
  let x306 := x305 == 0
  let x307 := x35 != 3
  let x308 := x306 && x307
  let x309 := decide (x35 < 5)
  let x310 := x308 && x309
  let x312 := r11_0 x0 x1 x2 x3 x4 x5 x6 x7 x8 x9 x10 x11 x12 x13 x14 x15 3 x33 x34 x35
  let x313 := !x312
  let x314 := x310 && x313
  let x315 := !x314
  let x316 := x304 && x315
  let x317 := bif x298 then x316 else true
  let x318 := !x290
  let x320 := r8_0 x0 x1 x2 x3 x4 x5 x6 x7 x8 x9 x10 x11 x12 x13 x14 x15 7
  let x321 := r8_1 x0 x1 x2 x3 x4 x5 x6 x7 x8 x9 x10 x11 x12 x13 x14 x15 7
  let x322 := r8_2 x0 x1 x2 x3 x4 x5 x6 x7 x8 x9 x10 x11 x12 x13 x14 x15 7
  let x323 := !x322
  let x324 := decide (x52 < x320)
  let x325 := x323 || x324
  let x326 := decide (x34 > x321)
  let x327 := x325 || x326
  let x328 := !x327
  let x329 := decide (x34 < x320)
  let x330 := decide (x52 > x321)
  let x331 := x329 || x330
  let x332 := decide (x34 ≥ x320)
  let x333 := decide (x52 ≤ x321)
  let x334 := x332 && x333
  let x335 := !x331
  let x336 := x334 && x335
  let x338 := r11_0 x0 x1 x2 x3 x4 x5 x6 x7 x8 x9 x10 x11 x12 x13 x14 x15 x32 x33 x34 x35
  let x340 := r11_0 x0 x1 x2 x3 x4 x5 x6 x7 x8 x9 x10 x11 x12 x13 x14 x15 x32 x33 x34 x35
  let x341 := x338 != x340
  let x342 := !x341
  let x343 := iland .u8 x7 128
  let x344 := x343 == 0
  let x345 := x35 != 3
  let x346 := x344 && x345
  let x347 := decide (x35 < 5)
  let x348 := x346 && x347
  let x350 := r11_0 x0 x1 x2 x3 x4 x5 x6 x7 x8 x9 x10 x11 x12 x13 x14 x15 3 x33 x34 x35
  let x351 := !x350
  let x352 := x348 && x351
  let x353 := !x352
  let x354 := x342 && x353
  let x355 := bif x336 then x354 else true
  let x356 := !x328
  let x357 := x356 || x355
  let x358 := bif x318 then x357 else x317
  let x359 := bif x280 then x358 else x279
  let x360 := bif x242 then x359 else x241
  let x361 := bif x204 then x360 else x203
  let x362 := bif x166 then x361 else x165
  let x363 := bif x128 then x362 else x127
  let x364 := bif x90 then x363 else x89
  let x544 := bif x49 then x364 else true
  let x545 := x39 && x544
  x545
noncomputable def g6 (ds : List DV) : List DV := [.b (p6 (dget ds 0).toI (dget ds 1).toI (dget ds 2).toI (dget ds 3).toI (dget ds 4).toI (dget ds 5).toI (dget ds 6).toI (dget ds 7).toI (dget ds 8).toI (dget ds 9).toI (dget ds 10).toI (dget ds 11).toI (dget ds 12).toI (dget ds 13).toI (dget ds 14).toI (dget ds 15).toI (dget ds 16).toI (dget ds 17).toI (dget ds 18).toI (dget ds 19).toI (dget ds 20).toI (dget ds 21).toI (dget ds 22).toI (dget ds 23).toI (dget ds 24).toI (dget ds 25).toI (dget ds 26).toI (dget ds 27).toI (dget ds 28).toI (dget ds 29).toI (dget ds 30).toI (dget ds 31).toI (dget ds 32).toI (dget ds 33).toI (dget ds 34).toI (dget ds 35).toI), .b (r6_0 (dget ds 0).toI (dget ds 1).toI (dget ds 2).toI (dget ds 3).toI (dget ds 4).toI (dget ds 5).toI (dget ds 6).toI (dget ds 7).toI (dget ds 8).toI (dget ds 9).toI (dget ds 10).toI (dget ds 11).toI (dget ds 12).toI (dget ds 13).toI (dget ds 14).toI (dget ds 15).toI (dget ds 16).toI (dget ds 17).toI (dget ds 18).toI (dget ds 19).toI (dget ds 20).toI (dget ds 21).toI (dget ds 22).toI (dget ds 23).toI (dget ds 24).toI (dget ds 25).toI (dget ds 26).toI (dget ds 27).toI (dget ds 28).toI (dget ds 29).toI (dget ds 30).toI (dget ds 31).toI (dget ds 32).toI (dget ds 33).toI (dget ds 34).toI (dget ds 35).toI)]
def S6 : Sigs := ⟨[(10, s10), (8, s8), (11, s11)], [], []⟩
theorem ev6 : evFn Tryd.prog S6 2000 Tryd.f6 s6 = some o6 := by kernel_rfl



def WI (w : World) : Prop := GlobIn w 0 c0
theorem gl0 : ∀ w, WI w → GlobIn w 0 c0 := fun _ h => h
theorem wiStable : Stable WI := fun _ _ hb h => GlobIn.below hb h


noncomputable def FE : FEnv := fun f => match f with
  | 17 => g17
  | 18 => g18
  | 8 => g8
  | 21 => g21
  | 11 => g11
  | 13 => g13
  | 15 => g15
  | 10 => g10
  | 19 => g19
  | 22 => g22
  | 20 => g20
  | 16 => g16
  | 14 => g14
  | 23 => g23
  | 100901 => g100901
  | 9 => g9
  | 101202 => g101202
  | 12 => g12
  | 3 => g3
  | 4 => g4
  | 5 => g5
  | 6 => g6
  | _ => fun _ => []



theorem k17 : FnOK Tryd.prog WI 17 s17 g17 :=
  fn_ok (F := FE) wiStable (⟨fun _ _ h => (by cases h), (fun _ _ h => (by cases h))⟩) Tryd.func17 ev17 (by kernel_rfl) (fun _ h => (by cases h)) fun ds h hp => match ds, h, hp with
    | [d0], _, _ => ⟨by kernel_rfl, by kernel_rfl⟩
theorem k18 : FnOK Tryd.prog WI 18 s18 g18 :=
  fn_ok (F := FE) wiStable (⟨fun _ _ h => (by cases h), (fun g cs h => by
    simp only [S18, assoc] at h
    split at h
    · rename_i hg; obtain rfl := Nat.eq_of_beq_eq_true hg; cases h; exact gl0
    cases h)⟩) Tryd.func18 ev18 (by kernel_rfl) (fun _ h => (by cases h)) fun ds h hp => match ds, h, hp with
    | [d0], _, hp => ⟨(by kernel_rfl : owesB (outEnv FE s18 o18 [d0]) o18.owes = (dget (g18 [d0]) 0).toB).trans (hp rfl), by kernel_rfl⟩
theorem k8 : FnOK Tryd.prog WI 8 s8 g8 :=
  fn_ok (F := FE) wiStable (⟨(fun f s h => by
    simp only [Sigs.get, S8, assoc] at h
    split at h
    · rename_i hg; obtain rfl := Nat.eq_of_beq_eq_true hg; cases h; exact k17
    split at h
    · rename_i hg; obtain rfl := Nat.eq_of_beq_eq_true hg; cases h; exact k18
    cases h), (fun _ _ h => (by cases h))⟩) Tryd.func8 ev8 (by kernel_rfl) (fun _ h => (by cases h)) fun ds h hp => match ds, h, hp with
    | [d0, d1, d2, d3, d4, d5, d6, d7, d8, d9, d10, d11, d12, d13, d14, d15, d16], _, hp => ⟨(by kernel_rfl : owesB (outEnv FE s8 o8 [d0, d1, d2, d3, d4, d5, d6, d7, d8, d9, d10, d11, d12, d13, d14, d15, d16]) o8.owes = (dget (g8 [d0, d1, d2, d3, d4, d5, d6, d7, d8, d9, d10, d11, d12, d13, d14, d15, d16]) 0).toB).trans (hp rfl), by kernel_rfl⟩
theorem k21 : FnOK Tryd.prog WI 21 s21 g21 :=
  fn_ok (F := FE) wiStable (⟨fun _ _ h => (by cases h), (fun _ _ h => (by cases h))⟩) Tryd.func21 ev21 (by kernel_rfl) (fun _ h => (by cases h)) fun ds h hp => match ds, h, hp with
    | [d0], _, _ => ⟨by kernel_rfl, by kernel_rfl⟩
theorem k11 : FnOK Tryd.prog WI 11 s11 g11 :=
  fn_ok (F := FE) wiStable (⟨(fun f s h => by
    simp only [Sigs.get, S11, assoc] at h
    split at h
    · rename_i hg; obtain rfl := Nat.eq_of_beq_eq_true hg; cases h; exact k21
    split at h
    · rename_i hg; obtain rfl := Nat.eq_of_beq_eq_true hg; cases h; exact k8
    cases h), (fun _ _ h => (by cases h))⟩) Tryd.func11 ev11 (by kernel_rfl) (fun _ h => (by cases h)) fun ds h hp => match ds, h, hp with
    | [d0, d1, d2, d3, d4, d5, d6, d7, d8, d9, d10, d11, d12, d13, d14, d15, d16, d17, d18, d19], _, hp => ⟨(by kernel_rfl : owesB (outEnv FE s11 o11 [d0, d1, d2, d3, d4, d5, d6, d7, d8, d9, d10, d11, d12, d13, d14, d15, d16, d17, d18, d19]) o11.owes = (dget (g11 [d0, d1, d2, d3, d4, d5, d6, d7, d8, d9, d10, d11, d12, d13, d14, d15, d16, d17, d18, d19]) 0).toB).trans (hp rfl), by kernel_rfl⟩
theorem k13 : FnOK Tryd.prog WI 13 s13 g13 :=
  fn_ok (F := FE) wiStable (⟨fun _ _ h => (by cases h), (fun _ _ h => (by cases h))⟩) Tryd.func13 ev13 (by kernel_rfl) (fun _ h => (by cases h)) fun ds h hp => match ds, h, hp with
    | [d0, d1, d2, d3, d4, d5, d6, d7, d8], _, _ => ⟨by kernel_rfl, by kernel_rfl⟩
theorem k15 : FnOK Tryd.prog WI 15 s15 g15 :=
  fn_ok (F := FE) wiStable (⟨(fun f s h => by
    simp only [Sigs.get, S15, assoc] at h
    split at h
    · rename_i hg; obtain rfl := Nat.eq_of_beq_eq_true hg; cases h; exact k17
    cases h), (fun _ _ h => (by cases h))⟩) Tryd.func15 ev15 (by kernel_rfl) (fun _ h => (by cases h)) fun ds h hp => match ds, h, hp with
    | [d0, d1, d2, d3, d4, d5, d6, d7, d8, d9, d10, d11, d12, d13, d14, d15, d16, d17], _, hp => ⟨(by kernel_rfl : owesB (outEnv FE s15 o15 [d0, d1, d2, d3, d4, d5, d6, d7, d8, d9, d10, d11, d12, d13, d14, d15, d16, d17]) o15.owes = (dget (g15 [d0, d1, d2, d3, d4, d5, d6, d7, d8, d9, d10, d11, d12, d13, d14, d15, d16, d17]) 0).toB).trans (hp rfl), by kernel_rfl⟩
theorem k10 : FnOK Tryd.prog WI 10 s10 g10 :=
  fn_ok (F := FE) wiStable (⟨(fun f s h => by
    simp only [Sigs.get, S10, assoc] at h
    split at h
    · rename_i hg; obtain rfl := Nat.eq_of_beq_eq_true hg; cases h; exact k8
    split at h
    · rename_i hg; obtain rfl := Nat.eq_of_beq_eq_true hg; cases h; exact k13
    split at h
    · rename_i hg; obtain rfl := Nat.eq_of_beq_eq_true hg; cases h; exact k15
    split at h
    · rename_i hg; obtain rfl := Nat.eq_of_beq_eq_true hg; cases h; exact k11
    cases h), (fun _ _ h => (by cases h))⟩) Tryd.func10 ev10 (by kernel_rfl) (fun _ h => (by cases h)) fun ds h hp => match ds, h, hp with
    | [], _, hp => ⟨(by kernel_rfl : owesB (outEnv FE s10 o10 []) o10.owes = (dget (g10 []) 0).toB).trans (hp rfl), by kernel_rfl⟩
theorem k19 : FnOK Tryd.prog WI 19 s19 g19 :=
  fn_ok (F := FE) wiStable (⟨fun _ _ h => (by cases h), (fun _ _ h => (by cases h))⟩) Tryd.func19 ev19 (by kernel_rfl) (fun _ h => (by cases h)) fun ds h hp => match ds, h, hp with
    | [d0], _, _ => ⟨by kernel_rfl, by kernel_rfl⟩
theorem k22 : FnOK Tryd.prog WI 22 s22 g22 :=
  fn_ok (F := FE) wiStable (⟨fun _ _ h => (by cases h), (fun _ _ h => (by cases h))⟩) Tryd.func22 ev22 (by kernel_rfl) (fun _ h => (by cases h)) fun ds h hp => match ds, h, hp with
    | [d0, d1], _, hp => ⟨(by kernel_rfl : owesB (outEnv FE s22 o22 [d0, d1]) o22.owes = (dget (g22 [d0, d1]) 0).toB).trans (hp rfl), by kernel_rfl⟩
theorem k20 : FnOK Tryd.prog WI 20 s20 g20 :=
  fn_ok (F := FE) wiStable (⟨(fun f s h => by
    simp only [Sigs.get, S20, assoc] at h
    split at h
    · rename_i hg; obtain rfl := Nat.eq_of_beq_eq_true hg; cases h; exact k22
    cases h), (fun _ _ h => (by cases h))⟩) Tryd.func20 ev20 (by kernel_rfl) (fun _ h => (by cases h)) fun ds h hp => match ds, h, hp with
    | [d0], _, hp => ⟨(by kernel_rfl : owesB (outEnv FE s20 o20 [d0]) o20.owes = (dget (g20 [d0]) 0).toB).trans (hp rfl), by kernel_rfl⟩
theorem k16 : FnOK Tryd.prog WI 16 s16 g16 :=
  fn_ok (F := FE) wiStable (⟨(fun f s h => by
    simp only [Sigs.get, S16, assoc] at h
    split at h
    · rename_i hg; obtain rfl := Nat.eq_of_beq_eq_true hg; cases h; exact k22
    split at h
    · rename_i hg; obtain rfl := Nat.eq_of_beq_eq_true hg; cases h; exact k20
    split at h
    · rename_i hg; obtain rfl := Nat.eq_of_beq_eq_true hg; cases h; exact k19
    cases h), (fun _ _ h => (by cases h))⟩) Tryd.func16 ev16 (by kernel_rfl) (fun _ h => (by cases h)) fun ds h hp => match ds, h, hp with
    | [d0, d1, d2, d3, d4, d5, d6, d7, d8, d9, d10, d11, d12, d13, d14, d15, d16, d17], _, hp => ⟨(by kernel_rfl : owesB (outEnv FE s16 o16 [d0, d1, d2, d3, d4, d5, d6, d7, d8, d9, d10, d11, d12, d13, d14, d15, d16, d17]) o16.owes = (dget (g16 [d0, d1, d2, d3, d4, d5, d6, d7, d8, d9, d10, d11, d12, d13, d14, d15, d16, d17]) 0).toB).trans (hp rfl), by kernel_rfl⟩
theorem k14 : FnOK Tryd.prog WI 14 s14 g14 :=
  fn_ok (F := FE) wiStable (⟨(fun f s h => by
    simp only [Sigs.get, S14, assoc] at h
    split at h
    · rename_i hg; obtain rfl := Nat.eq_of_beq_eq_true hg; cases h; exact k22
    cases h), (fun _ _ h => (by cases h))⟩) Tryd.func14 ev14 (by kernel_rfl) (fun _ h => (by cases h)) fun ds h hp => match ds, h, hp with
    | [d0, d1, d2, d3, d4, d5, d6, d7, d8], _, hp => ⟨(by kernel_rfl : owesB (outEnv FE s14 o14 [d0, d1, d2, d3, d4, d5, d6, d7, d8]) o14.owes = (dget (g14 [d0, d1, d2, d3, d4, d5, d6, d7, d8]) 0).toB).trans (hp rfl), by kernel_rfl⟩
theorem k23 : FnOK Tryd.prog WI 23 s23 g23 :=
  fn_ok (F := FE) wiStable (⟨(fun f s h => by
    simp only [Sigs.get, S23, assoc] at h
    split at h
    · rename_i hg; obtain rfl := Nat.eq_of_beq_eq_true hg; cases h; exact k22
    cases h), (fun _ _ h => (by cases h))⟩) Tryd.func23 ev23 (by kernel_rfl) (fun _ h => (by cases h)) fun ds h hp => match ds, h, hp with
    | [d0, d1], _, hp => ⟨(by kernel_rfl : owesB (outEnv FE s23 o23 [d0, d1]) o23.owes = (dget (g23 [d0, d1]) 0).toB).trans (hp rfl), by kernel_rfl⟩
theorem hl9_0 : LoopSound FE l9_0 := loop_ok (w := W100901) (c := C100901) (nx := N100901) (out := T100901) [true, true] (fun ds => by kernel_rfl) rfl (fun ν xs h => match xs, h with | [x0, x1], _ => by kernel_rfl)
  (fun ν xs h => match xs, h with | [x0, x1], _ => by kernel_rfl)
  (fun ν xs h => match xs, h with | [x0, x1], _ => by kernel_rfl)
  (fun ν xs h => match xs, h with | [x0, x1], _ => by kernel_rfl)
theorem hl9 : ∀ l ∈ o9.loops, LoopSound FE l := show ∀ l ∈ [l9_0], LoopSound FE l from
  List.forall_mem_cons.2 ⟨hl9_0, fun _ h => (by cases h)⟩
theorem k9 : FnOK Tryd.prog WI 9 s9 g9 :=
  fn_ok (F := FE) wiStable (⟨(fun f s h => by
    simp only [Sigs.get, S9, assoc] at h
    split at h
    · rename_i hg; obtain rfl := Nat.eq_of_beq_eq_true hg; cases h; exact k19
    split at h
    · rename_i hg; obtain rfl := Nat.eq_of_beq_eq_true hg; cases h; exact k20
    cases h), (fun _ _ h => (by cases h))⟩) Tryd.func9 ev9 (by kernel_rfl) hl9 fun ds h hp => match ds, h, hp with
    | [d0, d1, d2, d3, d4, d5, d6, d7, d8, d9, d10, d11, d12, d13, d14, d15, d16], _, hp => ⟨(by kernel_rfl : owesB (outEnv FE s9 o9 [d0, d1, d2, d3, d4, d5, d6, d7, d8, d9, d10, d11, d12, d13, d14, d15, d16]) o9.owes = (dget (g9 [d0, d1, d2, d3, d4, d5, d6, d7, d8, d9, d10, d11, d12, d13, d14, d15, d16]) 0).toB).trans (hp rfl), by kernel_rfl⟩
theorem hl12_0 : LoopSound FE l12_0 := loop_ok (w := W101202) (c := C101202) (nx := N101202) (out := T101202) [true, true, false, true, true, false, false, true] (fun ds => by kernel_rfl) rfl (fun ν xs h => match xs, h with | [x0, x1, x2], _ => by kernel_rfl)
  (fun ν xs h => match xs, h with | [x0, x1, x2], _ => by kernel_rfl)
  (fun ν xs h => match xs, h with | [x0, x1, x2], _ => by kernel_rfl)
  (fun ν xs h => match xs, h with | [x0, x1, x2], _ => by kernel_rfl)
theorem hl12_1 : LoopSound FE l12_1 := loop_ok (w := W101202) (c := C101202) (nx := N101202) (out := T101202) [true, true, false, true, true, false, false, true] (fun ds => by kernel_rfl) rfl (fun ν xs h => match xs, h with | [x0, x1, x2], _ => by kernel_rfl)
  (fun ν xs h => match xs, h with | [x0, x1, x2], _ => by kernel_rfl)
  (fun ν xs h => match xs, h with | [x0, x1, x2], _ => by kernel_rfl)
  (fun ν xs h => match xs, h with | [x0, x1, x2], _ => by kernel_rfl)
theorem hl12_2 : LoopSound FE l12_2 := loop_ok (w := W101202) (c := C101202) (nx := N101202) (out := T101202) [true, true, false, true, true, false, false, true] (fun ds => by kernel_rfl) rfl (fun ν xs h => match xs, h with | [x0, x1, x2], _ => by kernel_rfl)
  (fun ν xs h => match xs, h with | [x0, x1, x2], _ => by kernel_rfl)
  (fun ν xs h => match xs, h with | [x0, x1, x2], _ => by kernel_rfl)
  (fun ν xs h => match xs, h with | [x0, x1, x2], _ => by kernel_rfl)
theorem hl12_3 : LoopSound FE l12_3 := loop_ok (w := W101202) (c := C101202) (nx := N101202) (out := T101202) [true, true, false, true, true, false, false, true] (fun ds => by kernel_rfl) rfl (fun ν xs h => match xs, h with | [x0, x1, x2], _ => by kernel_rfl)
  (fun ν xs h => match xs, h with | [x0, x1, x2], _ => by kernel_rfl)
  (fun ν xs h => match xs, h with | [x0, x1, x2], _ => by kernel_rfl)
  (fun ν xs h => match xs, h with | [x0, x1, x2], _ => by kernel_rfl)
theorem hl12_4 : LoopSound FE l12_4 := loop_ok (w := W101202) (c := C101202) (nx := N101202) (out := T101202) [true, true, false, true, true, false, false, true] (fun ds => by kernel_rfl) rfl (fun ν xs h => match xs, h with | [x0, x1, x2], _ => by kernel_rfl)
  (fun ν xs h => match xs, h with | [x0, x1, x2], _ => by kernel_rfl)
  (fun ν xs h => match xs, h with | [x0, x1, x2], _ => by kernel_rfl)
  (fun ν xs h => match xs, h with | [x0, x1, x2], _ => by kernel_rfl)
theorem hl12_5 : LoopSound FE l12_5 := loop_ok (w := W101202) (c := C101202) (nx := N101202) (out := T101202) [true, true, false, true, true, false, false, true] (fun ds => by kernel_rfl) rfl (fun ν xs h => match xs, h with | [x0, x1, x2], _ => by kernel_rfl)
  (fun ν xs h => match xs, h with | [x0, x1, x2], _ => by kernel_rfl)
  (fun ν xs h => match xs, h with | [x0, x1, x2], _ => by kernel_rfl)
  (fun ν xs h => match xs, h with | [x0, x1, x2], _ => by kernel_rfl)
theorem hl12_6 : LoopSound FE l12_6 := loop_ok (w := W101202) (c := C101202) (nx := N101202) (out := T101202) [true, true, false, true, true, false, false, true] (fun ds => by kernel_rfl) rfl (fun ν xs h => match xs, h with | [x0, x1, x2], _ => by kernel_rfl)
  (fun ν xs h => match xs, h with | [x0, x1, x2], _ => by kernel_rfl)
  (fun ν xs h => match xs, h with | [x0, x1, x2], _ => by kernel_rfl)
  (fun ν xs h => match xs, h with | [x0, x1, x2], _ => by kernel_rfl)
theorem hl12_7 : LoopSound FE l12_7 := loop_ok (w := W101202) (c := C101202) (nx := N101202) (out := T101202) [true, true, false, true, true, false, false, true] (fun ds => by kernel_rfl) rfl (fun ν xs h => match xs, h with | [x0, x1, x2], _ => by kernel_rfl)
  (fun ν xs h => match xs, h with | [x0, x1, x2], _ => by kernel_rfl)
  (fun ν xs h => match xs, h with | [x0, x1, x2], _ => by kernel_rfl)
  (fun ν xs h => match xs, h with | [x0, x1, x2], _ => by kernel_rfl)
theorem hl12 : ∀ l ∈ o12.loops, LoopSound FE l := show ∀ l ∈ [l12_0, l12_1, l12_2, l12_3, l12_4, l12_5, l12_6, l12_7], LoopSound FE l from
  List.forall_mem_cons.2 ⟨hl12_0, List.forall_mem_cons.2 ⟨hl12_1, List.forall_mem_cons.2 ⟨hl12_2, List.forall_mem_cons.2 ⟨hl12_3, List.forall_mem_cons.2 ⟨hl12_4, List.forall_mem_cons.2 ⟨hl12_5, List.forall_mem_cons.2 ⟨hl12_6, List.forall_mem_cons.2 ⟨hl12_7, fun _ h => (by cases h)⟩⟩⟩⟩⟩⟩⟩⟩
theorem k12 : FnOK Tryd.prog WI 12 s12 g12 :=
  fn_ok (F := FE) wiStable (⟨(fun f s h => by
    simp only [Sigs.get, S12, assoc] at h
    split at h
    · rename_i hg; obtain rfl := Nat.eq_of_beq_eq_true hg; cases h; exact k9
    split at h
    · rename_i hg; obtain rfl := Nat.eq_of_beq_eq_true hg; cases h; exact k22
    split at h
    · rename_i hg; obtain rfl := Nat.eq_of_beq_eq_true hg; cases h; exact k23
    cases h), (fun _ _ h => (by cases h))⟩) Tryd.func12 ev12 (by kernel_rfl) hl12 fun ds h hp => match ds, h, hp with
    | [d0, d1, d2, d3, d4, d5, d6, d7, d8, d9, d10, d11, d12, d13, d14, d15, d16, d17, d18, d19], _, hp => ⟨(by kernel_rfl : owesB (outEnv FE s12 o12 [d0, d1, d2, d3, d4, d5, d6, d7, d8, d9, d10, d11, d12, d13, d14, d15, d16, d17, d18, d19]) o12.owes = (dget (g12 [d0, d1, d2, d3, d4, d5, d6, d7, d8, d9, d10, d11, d12, d13, d14, d15, d16, d17, d18, d19]) 0).toB).trans (hp rfl), by kernel_rfl⟩
theorem k3 : FnOK Tryd.prog WI 3 s3 g3 :=
  fn_ok (F := FE) wiStable (⟨(fun f s h => by
    simp only [Sigs.get, S3, assoc] at h
    split at h
    · rename_i hg; obtain rfl := Nat.eq_of_beq_eq_true hg; cases h; exact k8
    split at h
    · rename_i hg; obtain rfl := Nat.eq_of_beq_eq_true hg; cases h; exact k9
    split at h
    · rename_i hg; obtain rfl := Nat.eq_of_beq_eq_true hg; cases h; exact k10
    cases h), (fun _ _ h => (by cases h))⟩) Tryd.func3 ev3 (by kernel_rfl) (fun _ h => (by cases h)) fun ds h hp => match ds, h, hp with
    | [d0, d1, d2, d3, d4, d5, d6, d7, d8, d9, d10, d11, d12, d13, d14, d15, d16], _, hp => ⟨(by kernel_rfl : owesB (outEnv FE s3 o3 [d0, d1, d2, d3, d4, d5, d6, d7, d8, d9, d10, d11, d12, d13, d14, d15, d16]) o3.owes = (dget (g3 [d0, d1, d2, d3, d4, d5, d6, d7, d8, d9, d10, d11, d12, d13, d14, d15, d16]) 0).toB).trans (hp rfl), by kernel_rfl⟩
theorem k4 : FnOK Tryd.prog WI 4 s4 g4 :=
  fn_ok (F := FE) wiStable (⟨(fun f s h => by
    simp only [Sigs.get, S4, assoc] at h
    split at h
    · rename_i hg; obtain rfl := Nat.eq_of_beq_eq_true hg; cases h; exact k10
    split at h
    · rename_i hg; obtain rfl := Nat.eq_of_beq_eq_true hg; cases h; exact k11
    split at h
    · rename_i hg; obtain rfl := Nat.eq_of_beq_eq_true hg; cases h; exact k12
    cases h), (fun _ _ h => (by cases h))⟩) Tryd.func4 ev4 (by kernel_rfl) (fun _ h => (by cases h)) fun ds h hp => match ds, h, hp with
    | [d0, d1, d2, d3, d4, d5, d6, d7, d8, d9, d10, d11, d12, d13, d14, d15, d16, d17, d18, d19], _, hp => ⟨(by kernel_rfl : owesB (outEnv FE s4 o4 [d0, d1, d2, d3, d4, d5, d6, d7, d8, d9, d10, d11, d12, d13, d14, d15, d16, d17, d18, d19]) o4.owes = (dget (g4 [d0, d1, d2, d3, d4, d5, d6, d7, d8, d9, d10, d11, d12, d13, d14, d15, d16, d17, d18, d19]) 0).toB).trans (hp rfl), by kernel_rfl⟩
theorem k5 : FnOK Tryd.prog WI 5 s5 g5 :=
  fn_ok (F := FE) wiStable (⟨(fun f s h => by
    simp only [Sigs.get, S5, assoc] at h
    split at h
    · rename_i hg; obtain rfl := Nat.eq_of_beq_eq_true hg; cases h; exact k10
    split at h
    · rename_i hg; obtain rfl := Nat.eq_of_beq_eq_true hg; cases h; exact k13
    split at h
    · rename_i hg; obtain rfl := Nat.eq_of_beq_eq_true hg; cases h; exact k14
    split at h
    · rename_i hg; obtain rfl := Nat.eq_of_beq_eq_true hg; cases h; exact k15
    split at h
    · rename_i hg; obtain rfl := Nat.eq_of_beq_eq_true hg; cases h; exact k16
    cases h), (fun _ _ h => (by cases h))⟩) Tryd.func5 ev5 (by kernel_rfl) (fun _ h => (by cases h)) fun ds h hp => match ds, h, hp with
    | [d0, d1, d2, d3, d4, d5, d6, d7, d8, d9, d10, d11, d12, d13, d14, d15, d16, d17], _, hp => ⟨(by kernel_rfl : owesB (outEnv FE s5 o5 [d0, d1, d2, d3, d4, d5, d6, d7, d8, d9, d10, d11, d12, d13, d14, d15, d16, d17]) o5.owes = (dget (g5 [d0, d1, d2, d3, d4, d5, d6, d7, d8, d9, d10, d11, d12, d13, d14, d15, d16, d17]) 0).toB).trans (hp rfl), by kernel_rfl⟩
theorem k6 : FnOK Tryd.prog WI 6 s6 g6 :=
  fn_ok (F := FE) wiStable (⟨(fun f s h => by
    simp only [Sigs.get, S6, assoc] at h
    split at h
    · rename_i hg; obtain rfl := Nat.eq_of_beq_eq_true hg; cases h; exact k10
    split at h
    · rename_i hg; obtain rfl := Nat.eq_of_beq_eq_true hg; cases h; exact k8
    split at h
    · rename_i hg; obtain rfl := Nat.eq_of_beq_eq_true hg; cases h; exact k11
    cases h), (fun _ _ h => (by cases h))⟩) Tryd.func6 ev6 (by kernel_rfl) (fun _ h => (by cases h)) fun ds h hp => match ds, h, hp with
    | d0 :: d1 :: d2 :: d3 :: d4 :: d5 :: d6 :: d7 :: d8 :: d9 :: d10 :: d11 :: d12 :: d13 :: d14 :: d15 :: d16 :: d17 :: d18 :: d19 :: d20 :: d21 :: d22 :: d23 :: d24 :: d25 :: d26 :: d27 :: d28 :: d29 :: d30 :: d31 :: d32 :: d33 :: d34 :: d35 :: [], _, hp => ⟨(by kernel_rfl : owesB (outEnv FE s6 o6 (d0 :: d1 :: d2 :: d3 :: d4 :: d5 :: d6 :: d7 :: d8 :: d9 :: d10 :: d11 :: d12 :: d13 :: d14 :: d15 :: d16 :: d17 :: d18 :: d19 :: d20 :: d21 :: d22 :: d23 :: d24 :: d25 :: d26 :: d27 :: d28 :: d29 :: d30 :: d31 :: d32 :: d33 :: d34 :: d35 :: [])) o6.owes = (dget (g6 (d0 :: d1 :: d2 :: d3 :: d4 :: d5 :: d6 :: d7 :: d8 :: d9 :: d10 :: d11 :: d12 :: d13 :: d14 :: d15 :: d16 :: d17 :: d18 :: d19 :: d20 :: d21 :: d22 :: d23 :: d24 :: d25 :: d26 :: d27 :: d28 :: d29 :: d30 :: d31 :: d32 :: d33 :: d34 :: d35 :: [])) 0).toB).trans (hp rfl), by kernel_rfl⟩


end Go.Proofs.YtoebecinndbnoaaDoor
