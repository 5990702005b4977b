/- The functions of the statements, as lists of plain steps, each tied to the program's own text by the kernel (part 0). Written by the generator. -/
import Derived.Test.YtoebecinndbnoaaDoorSyLoopG
import Derived.Test.YtoebecinndbnoaaDoorProg
import Derived.KernelRfl
namespace Go.Proofs.YtoebecinndbnoaaDoor
open Go Go.Sx
set_option maxRecDepth 100000

def c0 : List Lf := [.i .u8 (.z 0), .i .u8 (.z 1), .i .u8 (.z 56), .i .u8 (.z 2), .i .u8 (.z 57), .i .u8 (.z 49), .i .u8 (.z 28), .i .u8 (.z 3), .i .u8 (.z 61), .i .u8 (.z 58), .i .u8 (.z 42), .i .u8 (.z 50), .i .u8 (.z 38), .i .u8 (.z 29), .i .u8 (.z 17), .i .u8 (.z 4), .i .u8 (.z 62), .i .u8 (.z 47), .i .u8 (.z 59), .i .u8 (.z 36), .i .u8 (.z 45), .i .u8 (.z 43), .i .u8 (.z 51), .i .u8 (.z 22), .i .u8 (.z 53), .i .u8 (.z 39), .i .u8 (.z 33), .i .u8 (.z 30), .i .u8 (.z 24), .i .u8 (.z 18), .i .u8 (.z 12), .i .u8 (.z 5), .i .u8 (.z 63), .i .u8 (.z 55), .i .u8 (.z 48), .i .u8 (.z 27), .i .u8 (.z 60), .i .u8 (.z 41), .i .u8 (.z 37), .i .u8 (.z 16), .i .u8 (.z 46), .i .u8 (.z 35), .i .u8 (.z 44), .i .u8 (.z 21), .i .u8 (.z 52), .i .u8 (.z 32), .i .u8 (.z 23), .i .u8 (.z 11), .i .u8 (.z 54), .i .u8 (.z 26), .i .u8 (.z 40), .i .u8 (.z 15), .i .u8 (.z 34), .i .u8 (.z 20), .i .u8 (.z 31), .i .u8 (.z 10), .i .u8 (.z 25), .i .u8 (.z 14), .i .u8 (.z 19), .i .u8 (.z 9), .i .u8 (.z 13), .i .u8 (.z 8), .i .u8 (.z 7), .i .u8 (.z 6)]
/-! tandem/pmp.way -/
def s17 : Sig := ⟨[.s (.one (.i .u8 (.h 0)))], [], [.i], .s (.one (.i .i64 (.h 0))), [], [.i], false⟩
def o17 : Out := ⟨[(1, .shr .u8 (.r 0) (.z 3)), (2, .land .u8 (.r 1) (.z 3)), (3, .conv .i64 (.r 2))],
  [],
  [],
  [.r 3]⟩
noncomputable def r17_0 (x0 : Int) : Int :=
  let x1 := ishr .u8 x0 3
  let x2 := iland .u8 x1 3
  let x3 := IntKind.wrap .i64 x2
  x3
noncomputable def g17 (ds : List DV) : List DV := [.i (r17_0 (dget ds 0).toI)]
def S17 : Sigs := ⟨[], [], [], 0⟩
theorem ev17 : evFn Tryd.prog S17 2000 Tryd.f17 s17 = some o17 := by kernel_rfl

/-! math/bits.TrailingZeros64 -/
def s18 : Sig := ⟨[.s (.one (.i .u64 (.h 0)))], [], [.i], .s (.one (.i .i64 (.h 0))), [], [.i], true⟩
def o18 : Out := ⟨[(1, .eql (.r 0) (.z 0)), (2, .not (.r 1)), (3, .sub .u64 (.z 0) (.r 0)), (4, .land .u64 (.r 0) (.r 3)), (5, .mul .u64 (.r 4) (.z 285870213051353865)), (6, .shr .u64 (.r 5) (.z 58)), (7, .geq (.r 6) (.z 0)), (8, .lss (.r 6) (.z 64)), (9, .seli [.z 0, .z 1, .z 56, .z 2, .z 57, .z 49, .z 28, .z 3, .z 61, .z 58, .z 42, .z 50, .z 38, .z 29, .z 17, .z 4, .z 62, .z 47, .z 59, .z 36, .z 45, .z 43, .z 51, .z 22, .z 53, .z 39, .z 33, .z 30, .z 24, .z 18, .z 12, .z 5, .z 63, .z 55, .z 48, .z 27, .z 60, .z 41, .z 37, .z 16, .z 46, .z 35, .z 44, .z 21, .z 52, .z 32, .z 23, .z 11, .z 54, .z 26, .z 40, .z 15, .z 34, .z 20, .z 31, .z 10, .z 25, .z 14, .z 19, .z 9, .z 13, .z 8, .z 7, .z 6] (.r 6)), (10, .conv .i64 (.r 9)), (11, .itei (.r 2) (.r 10) (.z 64))],
  [⟨[(.r 2, true)], .r 7⟩, ⟨[(.r 2, true)], .r 8⟩],
  [],
  [.r 11]⟩
noncomputable def p18 (x0 : Int) : Bool :=
  let x1 := x0 == 0
  let x2 := !x1
  let x3 := IntKind.wrap .u64 (0 - x0)
  let x4 := iland .u64 x0 x3
  let x5 := IntKind.wrap .u64 (x4 * 285870213051353865)
  let x6 := ishr .u64 x5 58
  let x7 := decide (x6 ≥ 0)
  let x8 := decide (x6 < 64)
  [ow [(x2, true)] x7, ow [(x2, true)] x8].all id
noncomputable def r18_0 (x0 : Int) : Int :=
  let x1 := x0 == 0
  let x2 := !x1
  let x3 := IntKind.wrap .u64 (0 - x0)
  let x4 := iland .u64 x0 x3
  let x5 := IntKind.wrap .u64 (x4 * 285870213051353865)
  let x6 := ishr .u64 x5 58
  let x9 := [0, 1, 56, 2, 57, 49, 28, 3, 61, 58, 42, 50, 38, 29, 17, 4, 62, 47, 59, 36, 45, 43, 51, 22, 53, 39, 33, 30, 24, 18, 12, 5, 63, 55, 48, 27, 60, 41, 37, 16, 46, 35, 44, 21, 52, 32, 23, 11, 54, 26, 40, 15, 34, 20, 31, 10, 25, 14, 19, 9, 13, 8, 7, 6].getD (Int.toNat x6) 0
  let x10 := IntKind.wrap .i64 x9
  let x11 := bif x2 then x10 else 64
  x11
noncomputable def g18 (ds : List DV) : List DV := [.b (p18 (dget ds 0).toI), .i (r18_0 (dget ds 0).toI)]
def S18 : Sigs := ⟨[], [(0, c0)], [], 0⟩
theorem ev18 : evFn Tryd.prog S18 2000 Tryd.f18 s18 = some o18 := by kernel_rfl

/-! tandem/pmp.Range -/
def s8 : Sig := ⟨[.s (.agg [.i .u8 (.h 0), .i .u8 (.h 1), .i .u8 (.h 2), .i .u8 (.h 3), .i .u8 (.h 4), .i .u8 (.h 5), .i .u8 (.h 6), .i .u8 (.h 7)]), .s (.agg [.i .u64 (.h 8), .i .u64 (.h 9), .i .u64 (.h 10), .i .u64 (.h 11), .i .u64 (.h 12), .i .u64 (.h 13), .i .u64 (.h 14), .i .u64 (.h 15)]), .s (.one (.i .i64 (.h 16)))], [], [.i, .i, .i, .i, .i, .i, .i, .i, .i, .i, .i, .i, .i, .i, .i, .i, .i], .t [.one (.i .u64 (.h 0)), .one (.i .u64 (.h 1)), .one (.b (.h 2))], [], [.i, .i, .b], true⟩
def o8 : Out := ⟨[(17, .lss (.r 16) (.z 0)), (18, .geq (.r 16) (.z 8)), (19, .or (.r 17) (.r 18)), (20, .not (.r 19)), (21, .geq (.r 16) (.z 0)), (22, .lss (.r 16) (.z 8)), (23, .seli (idsFrom 8 8) (.r 16)), (24, .land .u64 (.r 23) (.z 18014398509481983)), (25, .geq (.r 16) (.z 0)), (26, .lss (.r 16) (.z 8)), (27, .seli (idsFrom 0 8) (.r 16)), (28, .call 17 [.r 27] 0), (29, .eql (.r 28) (.z 1)), (30, .gtr (.r 16) (.z 0)), (31, .sub .i64 (.r 16) (.z 1)), (32, .geq (.r 31) (.z 0)), (33, .lss (.r 31) (.z 8)), (34, .seli (idsFrom 8 8) (.r 31)), (35, .land .u64 (.r 34) (.z 18014398509481983)), (36, .mul .u64 (.r 35) (.z 4)), (37, .itei (.r 30) (.r 36) (.z 0)), (38, .mul .u64 (.r 24) (.z 4)), (39, .geq (.r 37) (.r 38)), (40, .not (.r 39)), (41, .mul .u64 (.r 24) (.z 4)), (42, .sub .u64 (.r 41) (.z 1)), (43, .eql (.r 28) (.z 2)), (44, .mul .u64 (.r 24) (.z 4)), (45, .mul .u64 (.r 24) (.z 4)), (46, .add .u64 (.r 45) (.z 3)), (47, .eql (.r 28) (.z 3)), (48, .lxor .u64 (.z 18446744073709551615) (.r 24)), (49, .call 18 [.r 48] 0), (50, .call 18 [.r 48] 1), (51, .add .i64 (.r 50) (.z 1)), (52, .geq (.r 51) (.z 0)), (53, .shr .u64 (.r 24) (.r 51)), (54, .add .i64 (.r 50) (.z 1)), (55, .geq (.r 54) (.z 0)), (56, .shl .u64 (.r 53) (.r 54)), (57, .mul .u64 (.r 56) (.z 4)), (58, .add .i64 (.r 50) (.z 3)), (59, .geq (.r 58) (.z 0)), (60, .shl .u64 (.z 1) (.r 58)), (61, .add .u64 (.r 57) (.r 60)), (62, .sub .u64 (.r 61) (.z 1)), (63, .not (.r 47)), (64, .iteb (.r 43) (.t false) (.r 63)), (65, .iteb (.r 29) (.t false) (.r 64)), (66, .itei (.r 40) (.r 37) (.z 0)), (67, .itei (.r 40) (.r 42) (.z 0)), (68, .itei (.r 43) (.r 44) (.r 57)), (69, .itei (.r 43) (.r 46) (.r 62)), (70, .itei (.r 29) (.r 66) (.r 68)), (71, .itei (.r 29) (.r 67) (.r 69)), (72, .iteb (.r 29) (.r 40) (.t true)), (73, .itei (.r 65) (.z 0) (.r 70)), (74, .itei (.r 65) (.z 0) (.r 71)), (75, .iteb (.r 65) (.t false) (.r 72)), (76, .itei (.r 20) (.r 73) (.z 0)), (77, .itei (.r 20) (.r 74) (.z 0)), (78, .and (.r 20) (.r 75))],
  [⟨[(.r 20, true)], .r 21⟩, ⟨[(.r 20, true)], .r 22⟩, ⟨[(.r 20, true)], .r 25⟩, ⟨[(.r 20, true)], .r 26⟩, ⟨[(.r 20, true), (.r 29, true), (.r 30, true)], .r 32⟩, ⟨[(.r 20, true), (.r 29, true), (.r 30, true)], .r 33⟩, ⟨[(.r 20, true), (.r 29, false), (.r 43, false), (.r 47, true)], .r 49⟩, ⟨[(.r 20, true), (.r 29, false), (.r 43, false), (.r 47, true)], .r 52⟩, ⟨[(.r 20, true), (.r 29, false), (.r 43, false), (.r 47, true)], .r 55⟩, ⟨[(.r 20, true), (.r 29, false), (.r 43, false), (.r 47, true)], .r 59⟩],
  [],
  [.r 76, .r 77, .r 78]⟩
noncomputable def p8 (x0 : Int) (x1 : Int) (x2 : Int) (x3 : Int) (x4 : Int) (x5 : Int) (x6 : Int) (x7 : Int) (x8 : Int) (x9 : Int) (x10 : Int) (x11 : Int) (x12 : Int) (x13 : Int) (x14 : Int) (x15 : Int) (x16 : Int) : Bool :=
  let x17 := decide (x16 < 0)
  let x18 := decide (x16 ≥ 8)
  let x19 := x17 || x18
  let x20 := !x19
  let x21 := decide (x16 ≥ 0)
  let x22 := decide (x16 < 8)
  let x23 := [x8, x9, x10, x11, x12, x13, x14, x15].getD (Int.toNat x16) 0
  let x24 := iland .u64 x23 18014398509481983
  let x25 := decide (x16 ≥ 0)
  let x26 := decide (x16 < 8)
  let x27 := [x0, x1, x2, x3, x4, x5, x6, x7].getD (Int.toNat x16) 0
  let x28 := r17_0 x27
  let x29 := x28 == 1
  let x30 := decide (x16 > 0)
  let x31 := IntKind.wrap .i64 (x16 - 1)
  let x32 := decide (x31 ≥ 0)
  let x33 := decide (x31 < 8)
  let x43 := x28 == 2
  let x47 := x28 == 3
  let x48 := ilxor .u64 18446744073709551615 x24
  let x49 := p18 x48
  let x50 := r18_0 x48
  let x51 := IntKind.wrap .i64 (x50 + 1)
  let x52 := decide (x51 ≥ 0)
  let x54 := IntKind.wrap .i64 (x50 + 1)
  let x55 := decide (x54 ≥ 0)
  let x58 := IntKind.wrap .i64 (x50 + 3)
  let x59 := decide (x58 ≥ 0)
  [ow [(x20, true)] x21, ow [(x20, true)] x22, ow [(x20, true)] x25, ow [(x20, true)] x26, ow [(x20, true), (x29, true), (x30, true)] x32, ow [(x20, true), (x29, true), (x30, true)] x33, ow [(x20, true), (x29, false), (x43, false), (x47, true)] x49, ow [(x20, true), (x29, false), (x43, false), (x47, true)] x52, ow [(x20, true), (x29, false), (x43, false), (x47, true)] x55, ow [(x20, true), (x29, false), (x43, false), (x47, true)] x59].all id
noncomputable def r8_0 (x0 : Int) (x1 : Int) (x2 : Int) (x3 : Int) (x4 : Int) (x5 : Int) (x6 : Int) (x7 : Int) (x8 : Int) (x9 : Int) (x10 : Int) (x11 : Int) (x12 : Int) (x13 : Int) (x14 : Int) (x15 : Int) (x16 : Int) : Int :=
  let x17 := decide (x16 < 0)
  let x18 := decide (x16 ≥ 8)
  let x19 := x17 || x18
  let x20 := !x19
  let x23 := [x8, x9, x10, x11, x12, x13, x14, x15].getD (Int.toNat x16) 0
  let x24 := iland .u64 x23 18014398509481983
  let x27 := [x0, x1, x2, x3, x4, x5, x6, x7].getD (Int.toNat x16) 0
  let x28 := r17_0 x27
  let x29 := x28 == 1
  let x30 := decide (x16 > 0)
  let x31 := IntKind.wrap .i64 (x16 - 1)
  let x34 := [x8, x9, x10, x11, x12, x13, x14, x15].getD (Int.toNat x31) 0
  let x35 := iland .u64 x34 18014398509481983
  let x36 := IntKind.wrap .u64 (x35 * 4)
  let x37 := bif x30 then x36 else 0
  let x38 := IntKind.wrap .u64 (x24 * 4)
  let x39 := decide (x37 ≥ x38)
  let x40 := !x39
  let x43 := x28 == 2
  let x44 := IntKind.wrap .u64 (x24 * 4)
  let x47 := x28 == 3
  let x48 := ilxor .u64 18446744073709551615 x24
  let x50 := r18_0 x48
  let x51 := IntKind.wrap .i64 (x50 + 1)
  let x53 := ishr .u64 x24 x51
  let x54 := IntKind.wrap .i64 (x50 + 1)
  let x56 := ishl .u64 x53 x54
  let x57 := IntKind.wrap .u64 (x56 * 4)
  let x63 := !x47
  let x64 := bif x43 then false else x63
  let x65 := bif x29 then false else x64
  let x66 := bif x40 then x37 else 0
  let x68 := bif x43 then x44 else x57
  let x70 := bif x29 then x66 else x68
  let x73 := bif x65 then 0 else x70
  let x76 := bif x20 then x73 else 0
  x76
noncomputable def r8_1 (x0 : Int) (x1 : Int) (x2 : Int) (x3 : Int) (x4 : Int) (x5 : Int) (x6 : Int) (x7 : Int) (x8 : Int) (x9 : Int) (x10 : Int) (x11 : Int) (x12 : Int) (x13 : Int) (x14 : Int) (x15 : Int) (x16 : Int) : Int :=
  let x17 := decide (x16 < 0)
  let x18 := decide (x16 ≥ 8)
  let x19 := x17 || x18
  let x20 := !x19
  let x23 := [x8, x9, x10, x11, x12, x13, x14, x15].getD (Int.toNat x16) 0
  let x24 := iland .u64 x23 18014398509481983
  let x27 := [x0, x1, x2, x3, x4, x5, x6, x7].getD (Int.toNat x16) 0
  let x28 := r17_0 x27
  let x29 := x28 == 1
  let x30 := decide (x16 > 0)
  let x31 := IntKind.wrap .i64 (x16 - 1)
  let x34 := [x8, x9, x10, x11, x12, x13, x14, x15].getD (Int.toNat x31) 0
  let x35 := iland .u64 x34 18014398509481983
  let x36 := IntKind.wrap .u64 (x35 * 4)
  let x37 := bif x30 then x36 else 0
  let x38 := IntKind.wrap .u64 (x24 * 4)
  let x39 := decide (x37 ≥ x38)
  let x40 := !x39
  let x41 := IntKind.wrap .u64 (x24 * 4)
  let x42 := IntKind.wrap .u64 (x41 - 1)
  let x43 := x28 == 2
  let x45 := IntKind.wrap .u64 (x24 * 4)
  let x46 := IntKind.wrap .u64 (x45 + 3)
  let x47 := x28 == 3
  let x48 := ilxor .u64 18446744073709551615 x24
  let x50 := r18_0 x48
  let x51 := IntKind.wrap .i64 (x50 + 1)
  let x53 := ishr .u64 x24 x51
  let x54 := IntKind.wrap .i64 (x50 + 1)
  let x56 := ishl .u64 x53 x54
  let x57 := IntKind.wrap .u64 (x56 * 4)
  let x58 := IntKind.wrap .i64 (x50 + 3)
  let x60 := ishl .u64 1 x58
  let x61 := IntKind.wrap .u64 (x57 + x60)
  let x62 := IntKind.wrap .u64 (x61 - 1)
  let x63 := !x47
  let x64 := bif x43 then false else x63
  let x65 := bif x29 then false else x64
  let x67 := bif x40 then x42 else 0
  let x69 := bif x43 then x46 else x62
  let x71 := bif x29 then x67 else x69
  let x74 := bif x65 then 0 else x71
  let x77 := bif x20 then x74 else 0
  x77
noncomputable def r8_2 (x0 : Int) (x1 : Int) (x2 : Int) (x3 : Int) (x4 : Int) (x5 : Int) (x6 : Int) (x7 : Int) (x8 : Int) (x9 : Int) (x10 : Int) (x11 : Int) (x12 : Int) (x13 : Int) (x14 : Int) (x15 : Int) (x16 : Int) : Bool :=
  let x17 := decide (x16 < 0)
  let x18 := decide (x16 ≥ 8)
  let x19 := x17 || x18
  let x20 := !x19
  let x23 := [x8, x9, x10, x11, x12, x13, x14, x15].getD (Int.toNat x16) 0
  let x24 := iland .u64 x23 18014398509481983
  let x27 := [x0, x1, x2, x3, x4, x5, x6, x7].getD (Int.toNat x16) 0
  let x28 := r17_0 x27
  let x29 := x28 == 1
  let x30 := decide (x16 > 0)
  let x31 := IntKind.wrap .i64 (x16 - 1)
  let x34 := [x8, x9, x10, x11, x12, x13, x14, x15].getD (Int.toNat x31) 0
  let x35 := iland .u64 x34 18014398509481983
  let x36 := IntKind.wrap .u64 (x35 * 4)
  let x37 := bif x30 then x36 else 0
  let x38 := IntKind.wrap .u64 (x24 * 4)
  let x39 := decide (x37 ≥ x38)
  let x40 := !x39
  let x43 := x28 == 2
  let x47 := x28 == 3
  let x63 := !x47
  let x64 := bif x43 then false else x63
  let x65 := bif x29 then false else x64
  let x72 := bif x29 then x40 else true
  let x75 := bif x65 then false else x72
  let x78 := x20 && x75
  x78
noncomputable def g8 (ds : List DV) : List DV := [.b (p8 (dget ds 0).toI (dget ds 1).toI (dget ds 2).toI (dget ds 3).toI (dget ds 4).toI (dget ds 5).toI (dget ds 6).toI (dget ds 7).toI (dget ds 8).toI (dget ds 9).toI (dget ds 10).toI (dget ds 11).toI (dget ds 12).toI (dget ds 13).toI (dget ds 14).toI (dget ds 15).toI (dget ds 16).toI), .i (r8_0 (dget ds 0).toI (dget ds 1).toI (dget ds 2).toI (dget ds 3).toI (dget ds 4).toI (dget ds 5).toI (dget ds 6).toI (dget ds 7).toI (dget ds 8).toI (dget ds 9).toI (dget ds 10).toI (dget ds 11).toI (dget ds 12).toI (dget ds 13).toI (dget ds 14).toI (dget ds 15).toI (dget ds 16).toI), .i (r8_1 (dget ds 0).toI (dget ds 1).toI (dget ds 2).toI (dget ds 3).toI (dget ds 4).toI (dget ds 5).toI (dget ds 6).toI (dget ds 7).toI (dget ds 8).toI (dget ds 9).toI (dget ds 10).toI (dget ds 11).toI (dget ds 12).toI (dget ds 13).toI (dget ds 14).toI (dget ds 15).toI (dget ds 16).toI), .b (r8_2 (dget ds 0).toI (dget ds 1).toI (dget ds 2).toI (dget ds 3).toI (dget ds 4).toI (dget ds 5).toI (dget ds 6).toI (dget ds 7).toI (dget ds 8).toI (dget ds 9).toI (dget ds 10).toI (dget ds 11).toI (dget ds 12).toI (dget ds 13).toI (dget ds 14).toI (dget ds 15).toI (dget ds 16).toI)]
def S8 : Sigs := ⟨[(17, s17), (18, s18)], [], [], 0⟩
theorem ev8 : evFn Tryd.prog S8 2000 Tryd.f8 s8 = some o8 := by kernel_rfl

/-! tandem/pmp.needs -/
def s21 : Sig := ⟨[.s (.one (.i .i64 (.h 0)))], [], [.i], .s (.one (.i .u8 (.h 0))), [], [.i], false⟩
def o21 : Out := ⟨[(1, .eql (.r 0) (.z 0)), (2, .eql (.r 0) (.z 1)), (3, .eql (.r 0) (.z 2)), (4, .eql (.r 0) (.z 3)), (5, .not (.r 4)), (6, .iteb (.r 3) (.t false) (.r 5)), (7, .iteb (.r 2) (.t false) (.r 6)), (8, .iteb (.r 1) (.t false) (.r 7)), (9, .itei (.r 3) (.z 2) (.z 3)), (10, .itei (.r 2) (.z 1) (.r 9)), (11, .itei (.r 1) (.z 4) (.r 10)), (12, .itei (.r 8) (.z 0) (.r 11))],
  [],
  [],
  [.r 12]⟩
noncomputable def r21_0 (x0 : Int) : Int :=
  let x1 := x0 == 0
  let x2 := x0 == 1
  let x3 := x0 == 2
  let x4 := x0 == 3
  let x5 := !x4
  let x6 := bif x3 then false else x5
  let x7 := bif x2 then false else x6
  let x8 := bif x1 then false else x7
  let x9 := bif x3 then 2 else 3
  let x10 := bif x2 then 1 else x9
  let x11 := bif x1 then 4 else x10
  let x12 := bif x8 then 0 else x11
  x12
noncomputable def g21 (ds : List DV) : List DV := [.i (r21_0 (dget ds 0).toI)]
def S21 : Sigs := ⟨[], [], [], 0⟩
theorem ev21 : evFn Tryd.prog S21 2000 Tryd.f21 s21 = some o21 := by kernel_rfl

/-! tandem/pmp.Check -/
def s11 : Sig := ⟨[.s (.agg [.i .u8 (.h 0), .i .u8 (.h 1), .i .u8 (.h 2), .i .u8 (.h 3), .i .u8 (.h 4), .i .u8 (.h 5), .i .u8 (.h 6), .i .u8 (.h 7)]), .s (.agg [.i .u64 (.h 8), .i .u64 (.h 9), .i .u64 (.h 10), .i .u64 (.h 11), .i .u64 (.h 12), .i .u64 (.h 13), .i .u64 (.h 14), .i .u64 (.h 15)]), .s (.one (.i .i64 (.h 16))), .s (.one (.i .i64 (.h 17))), .s (.one (.i .u64 (.h 18))), .s (.one (.i .i64 (.h 19)))], [], [.i, .i, .i, .i, .i, .i, .i, .i, .i, .i, .i, .i, .i, .i, .i, .i, .i, .i, .i, .i], .s (.one (.b (.h 0))), [], [.b], true⟩
def o11 : Out := ⟨[(20, .call 21 [.r 17] 0), (21, .eql (.r 19) (.z 1)), (22, .eql (.r 19) (.z 2)), (23, .eql (.r 19) (.z 4)), (24, .eql (.r 19) (.z 8)), (25, .iteb (.r 23) (.r 23) (.r 24)), (26, .iteb (.r 22) (.r 22) (.r 25)), (27, .iteb (.r 21) (.r 21) (.r 26)), (28, .conv .u64 (.r 19)), (29, .add .u64 (.r 18) (.r 28)), (30, .sub .u64 (.r 29) (.z 1)), (31, .eql (.r 20) (.z 0)), (32, .lss (.r 30) (.r 18)), (33, .or (.r 31) (.r 32)), (34, .not (.r 33))] ++ callsAt 35 8 (idsFrom 0 16 ++ [.z 0]) 0 4 ++ [(39, .not (.r 38)), (40, .lss (.r 30) (.r 36)), (41, .or (.r 39) (.r 40)), (42, .gtr (.r 18) (.r 37)), (43, .or (.r 41) (.r 42)), (44, .not (.r 43)), (45, .lss (.r 18) (.r 36)), (46, .gtr (.r 30) (.r 37)), (47, .or (.r 45) (.r 46)), (48, .not (.r 47)), (49, .eql (.r 16) (.z 3)), (50, .land .u8 (.r 0) (.z 128)), (51, .eql (.r 50) (.z 0)), (52, .and (.r 49) (.r 51)), (53, .land .u8 (.r 0) (.r 20)), (54, .eql (.r 53) (.r 20)), (55, .or (.r 52) (.r 54)), (56, .not (.r 44))] ++ callsAt 57 8 (idsFrom 0 16 ++ [.z 1]) 0 4 ++ [(61, .not (.r 60)), (62, .lss (.r 30) (.r 58)), (63, .or (.r 61) (.r 62)), (64, .gtr (.r 18) (.r 59)), (65, .or (.r 63) (.r 64)), (66, .not (.r 65)), (67, .lss (.r 18) (.r 58)), (68, .gtr (.r 30) (.r 59)), (69, .or (.r 67) (.r 68)), (70, .not (.r 69)), (71, .eql (.r 16) (.z 3)), (72, .land .u8 (.r 1) (.z 128)), (73, .eql (.r 72) (.z 0)), (74, .and (.r 71) (.r 73)), (75, .land .u8 (.r 1) (.r 20)), (76, .eql (.r 75) (.r 20)), (77, .or (.r 74) (.r 76)), (78, .not (.r 66))] ++ callsAt 79 8 (idsFrom 0 16 ++ [.z 2]) 0 4 ++ [(83, .not (.r 82)), (84, .lss (.r 30) (.r 80)), (85, .or (.r 83) (.r 84)), (86, .gtr (.r 18) (.r 81)), (87, .or (.r 85) (.r 86)), (88, .not (.r 87)), (89, .lss (.r 18) (.r 80)), (90, .gtr (.r 30) (.r 81)), (91, .or (.r 89) (.r 90)), (92, .not (.r 91)), (93, .eql (.r 16) (.z 3)), (94, .land .u8 (.r 2) (.z 128)), (95, .eql (.r 94) (.z 0)), (96, .and (.r 93) (.r 95)), (97, .land .u8 (.r 2) (.r 20)), (98, .eql (.r 97) (.r 20)), (99, .or (.r 96) (.r 98)), (100, .not (.r 88))] ++ callsAt 101 8 (idsFrom 0 16 ++ [.z 3]) 0 4 ++ [(105, .not (.r 104)), (106, .lss (.r 30) (.r 102)), (107, .or (.r 105) (.r 106)), (108, .gtr (.r 18) (.r 103)), (109, .or (.r 107) (.r 108)), (110, .not (.r 109)), (111, .lss (.r 18) (.r 102)), (112, .gtr (.r 30) (.r 103)), (113, .or (.r 111) (.r 112)), (114, .not (.r 113)), (115, .eql (.r 16) (.z 3)), (116, .land .u8 (.r 3) (.z 128)), (117, .eql (.r 116) (.z 0)), (118, .and (.r 115) (.r 117)), (119, .land .u8 (.r 3) (.r 20)), (120, .eql (.r 119) (.r 20)), (121, .or (.r 118) (.r 120)), (122, .not (.r 110))] ++ callsAt 123 8 (idsFrom 0 16 ++ [.z 4]) 0 4 ++ [(127, .not (.r 126)), (128, .lss (.r 30) (.r 124)), (129, .or (.r 127) (.r 128)), (130, .gtr (.r 18) (.r 125)), (131, .or (.r 129) (.r 130)), (132, .not (.r 131)), (133, .lss (.r 18) (.r 124)), (134, .gtr (.r 30) (.r 125)), (135, .or (.r 133) (.r 134)), (136, .not (.r 135)), (137, .eql (.r 16) (.z 3)), (138, .land .u8 (.r 4) (.z 128)), (139, .eql (.r 138) (.z 0)), (140, .and (.r 137) (.r 139)), (141, .land .u8 (.r 4) (.r 20)), (142, .eql (.r 141) (.r 20)), (143, .or (.r 140) (.r 142)), (144, .not (.r 132))] ++ callsAt 145 8 (idsFrom 0 16 ++ [.z 5]) 0 4 ++ [(149, .not (.r 148)), (150, .lss (.r 30) (.r 146)), (151, .or (.r 149) (.r 150)), (152, .gtr (.r 18) (.r 147)), (153, .or (.r 151) (.r 152)), (154, .not (.r 153)), (155, .lss (.r 18) (.r 146)), (156, .gtr (.r 30) (.r 147)), (157, .or (.r 155) (.r 156)), (158, .not (.r 157)), (159, .eql (.r 16) (.z 3)), (160, .land .u8 (.r 5) (.z 128)), (161, .eql (.r 160) (.z 0)), (162, .and (.r 159) (.r 161)), (163, .land .u8 (.r 5) (.r 20)), (164, .eql (.r 163) (.r 20)), (165, .or (.r 162) (.r 164)), (166, .not (.r 154))] ++ callsAt 167 8 (idsFrom 0 16 ++ [.z 6]) 0 4 ++ [(171, .not (.r 170)), (172, .lss (.r 30) (.r 168)), (173, .or (.r 171) (.r 172)), (174, .gtr (.r 18) (.r 169)), (175, .or (.r 173) (.r 174)), (176, .not (.r 175)), (177, .lss (.r 18) (.r 168)), (178, .gtr (.r 30) (.r 169)), (179, .or (.r 177) (.r 178)), (180, .not (.r 179)), (181, .eql (.r 16) (.z 3)), (182, .land .u8 (.r 6) (.z 128)), (183, .eql (.r 182) (.z 0)), (184, .and (.r 181) (.r 183)), (185, .land .u8 (.r 6) (.r 20)), (186, .eql (.r 185) (.r 20)), (187, .or (.r 184) (.r 186)), (188, .not (.r 176))] ++ callsAt 189 8 (idsFrom 0 16 ++ [.z 7]) 0 4 ++ [(193, .not (.r 192)), (194, .lss (.r 30) (.r 190)), (195, .or (.r 193) (.r 194)), (196, .gtr (.r 18) (.r 191)), (197, .or (.r 195) (.r 196)), (198, .not (.r 197)), (199, .lss (.r 18) (.r 190)), (200, .gtr (.r 30) (.r 191)), (201, .or (.r 199) (.r 200)), (202, .not (.r 201)), (203, .eql (.r 16) (.z 3)), (204, .land .u8 (.r 7) (.z 128)), (205, .eql (.r 204) (.z 0)), (206, .and (.r 203) (.r 205)), (207, .land .u8 (.r 7) (.r 20)), (208, .eql (.r 207) (.r 20)), (209, .or (.r 206) (.r 208)), (210, .not (.r 198)), (211, .and (.r 188) (.r 210)), (212, .and (.r 166) (.r 211)), (213, .and (.r 144) (.r 212)), (214, .and (.r 122) (.r 213)), (215, .and (.r 100) (.r 214)), (216, .and (.r 78) (.r 215)), (217, .and (.r 56) (.r 216)), (218, .eql (.r 16) (.z 3)), (219, .and (.r 202) (.r 209)), (220, .and (.r 180) (.r 187)), (221, .iteb (.r 188) (.r 219) (.r 220)), (222, .and (.r 158) (.r 165)), (223, .iteb (.r 166) (.r 221) (.r 222)), (224, .and (.r 136) (.r 143)), (225, .iteb (.r 144) (.r 223) (.r 224)), (226, .and (.r 114) (.r 121)), (227, .iteb (.r 122) (.r 225) (.r 226)), (228, .and (.r 92) (.r 99)), (229, .iteb (.r 100) (.r 227) (.r 228)), (230, .and (.r 70) (.r 77)), (231, .iteb (.r 78) (.r 229) (.r 230)), (232, .and (.r 48) (.r 55)), (233, .iteb (.r 56) (.r 231) (.r 232)), (234, .iteb (.r 217) (.r 218) (.r 233)), (235, .and (.r 34) (.r 234)), (236, .and (.r 27) (.r 235))],
  [⟨[(.r 27, true), (.r 34, true)], .r 35⟩, ⟨[(.r 27, true), (.r 34, true), (.r 56, true)], .r 57⟩, ⟨[(.r 27, true), (.r 34, true), (.r 56, true), (.r 78, true)], .r 79⟩, ⟨[(.r 27, true), (.r 34, true), (.r 56, true), (.r 78, true), (.r 100, true)], .r 101⟩, ⟨[(.r 27, true), (.r 34, true), (.r 56, true), (.r 78, true), (.r 100, true), (.r 122, true)], .r 123⟩, ⟨[(.r 27, true), (.r 34, true), (.r 56, true), (.r 78, true), (.r 100, true), (.r 122, true), (.r 144, true)], .r 145⟩, ⟨[(.r 27, true), (.r 34, true), (.r 56, true), (.r 78, true), (.r 100, true), (.r 122, true), (.r 144, true), (.r 166, true)], .r 167⟩, ⟨[(.r 27, true), (.r 34, true), (.r 56, true), (.r 78, true), (.r 100, true), (.r 122, true), (.r 144, true), (.r 166, true), (.r 188, true)], .r 189⟩],
  [],
  [.r 236]⟩
noncomputable def p11 (x0 : Int) (x1 : Int) (x2 : Int) (x3 : Int) (x4 : Int) (x5 : Int) (x6 : Int) (x7 : Int) (x8 : Int) (x9 : Int) (x10 : Int) (x11 : Int) (x12 : Int) (x13 : Int) (x14 : Int) (x15 : Int) (x17 : Int) (x18 : Int) (x19 : Int) : Bool :=
  let x20 := r21_0 x17
  let x21 := x19 == 1
  let x22 := x19 == 2
  let x23 := x19 == 4
  let x24 := x19 == 8
  let x25 := bif x23 then x23 else x24
  let x26 := bif x22 then x22 else x25
  let x27 := bif x21 then x21 else x26
  let x28 := IntKind.wrap .u64 x19
  let x29 := IntKind.wrap .u64 (x18 + x28)
  let x30 := IntKind.wrap .u64 (x29 - 1)
  let x31 := x20 == 0
  let x32 := decide (x30 < x18)
  let x33 := x31 || x32
  let x34 := !x33
  let x35 := p8 x0 x1 x2 x3 x4 x5 x6 x7 x8 x9 x10 x11 x12 x13 x14 x15 0
  let x36 := r8_0 x0 x1 x2 x3 x4 x5 x6 x7 x8 x9 x10 x11 x12 x13 x14 x15 0
  let x37 := r8_1 x0 x1 x2 x3 x4 x5 x6 x7 x8 x9 x10 x11 x12 x13 x14 x15 0
  let x38 := r8_2 x0 x1 x2 x3 x4 x5 x6 x7 x8 x9 x10 x11 x12 x13 x14 x15 0
  let x39 := !x38
  let x40 := decide (x30 < x36)
  let x41 := x39 || x40
  let x42 := decide (x18 > x37)
  let x43 := x41 || x42
  let x44 := !x43
  let x56 := !x44
  let x57 := p8 x0 x1 x2 x3 x4 x5 x6 x7 x8 x9 x10 x11 x12 x13 x14 x15 1
  let x58 := r8_0 x0 x1 x2 x3 x4 x5 x6 x7 x8 x9 x10 x11 x12 x13 x14 x15 1
  let x59 := r8_1 x0 x1 x2 x3 x4 x5 x6 x7 x8 x9 x10 x11 x12 x13 x14 x15 1
  let x60 := r8_2 x0 x1 x2 x3 x4 x5 x6 x7 x8 x9 x10 x11 x12 x13 x14 x15 1
  let x61 := !x60
  let x62 := decide (x30 < x58)
  let x63 := x61 || x62
  let x64 := decide (x18 > x59)
  let x65 := x63 || x64
  let x66 := !x65
  let x78 := !x66
  let x79 := p8 x0 x1 x2 x3 x4 x5 x6 x7 x8 x9 x10 x11 x12 x13 x14 x15 2
  let x80 := r8_0 x0 x1 x2 x3 x4 x5 x6 x7 x8 x9 x10 x11 x12 x13 x14 x15 2
  let x81 := r8_1 x0 x1 x2 x3 x4 x5 x6 x7 x8 x9 x10 x11 x12 x13 x14 x15 2
  let x82 := r8_2 x0 x1 x2 x3 x4 x5 x6 x7 x8 x9 x10 x11 x12 x13 x14 x15 2
  let x83 := !x82
  let x84 := decide (x30 < x80)
  let x85 := x83 || x84
  let x86 := decide (x18 > x81)
  let x87 := x85 || x86
  let x88 := !x87
  let x100 := !x88
  let x101 := p8 x0 x1 x2 x3 x4 x5 x6 x7 x8 x9 x10 x11 x12 x13 x14 x15 3
  let x102 := r8_0 x0 x1 x2 x3 x4 x5 x6 x7 x8 x9 x10 x11 x12 x13 x14 x15 3
  let x103 := r8_1 x0 x1 x2 x3 x4 x5 x6 x7 x8 x9 x10 x11 x12 x13 x14 x15 3
  let x104 := r8_2 x0 x1 x2 x3 x4 x5 x6 x7 x8 x9 x10 x11 x12 x13 x14 x15 3
  let x105 := !x104
  let x106 := decide (x30 < x102)
  let x107 := x105 || x106
  let x108 := decide (x18 > x103)
  let x109 := x107 || x108
  let x110 := !x109
  let x122 := !x110
  let x123 := p8 x0 x1 x2 x3 x4 x5 x6 x7 x8 x9 x10 x11 x12 x13 x14 x15 4
  let x124 := r8_0 x0 x1 x2 x3 x4 x5 x6 x7 x8 x9 x10 x11 x12 x13 x14 x15 4
  let x125 := r8_1 x0 x1 x2 x3 x4 x5 x6 x7 x8 x9 x10 x11 x12 x13 x14 x15 4
  let x126 := r8_2 x0 x1 x2 x3 x4 x5 x6 x7 x8 x9 x10 x11 x12 x13 x14 x15 4
  let x127 := !x126
  let x128 := decide (x30 < x124)
  let x129 := x127 || x128
  let x130 := decide (x18 > x125)
  let x131 := x129 || x130
  let x132 := !x131
  let x144 := !x132
  let x145 := p8 x0 x1 x2 x3 x4 x5 x6 x7 x8 x9 x10 x11 x12 x13 x14 x15 5
  let x146 := r8_0 x0 x1 x2 x3 x4 x5 x6 x7 x8 x9 x10 x11 x12 x13 x14 x15 5
  let x147 := r8_1 x0 x1 x2 x3 x4 x5 x6 x7 x8 x9 x10 x11 x12 x13 x14 x15 5
  let x148 := r8_2 x0 x1 x2 x3 x4 x5 x6 x7 x8 x9 x10 x11 x12 x13 x14 x15 5
  let x149 := !x148
  let x150 := decide (x30 < x146)
  let x151 := x149 || x150
  let x152 := decide (x18 > x147)
  let x153 := x151 || x152
  let x154 := !x153
  let x166 := !x154
  let x167 := p8 x0 x1 x2 x3 x4 x5 x6 x7 x8 x9 x10 x11 x12 x13 x14 x15 6
  let x168 := r8_0 x0 x1 x2 x3 x4 x5 x6 x7 x8 x9 x10 x11 x12 x13 x14 x15 6
  let x169 := r8_1 x0 x1 x2 x3 x4 x5 x6 x7 x8 x9 x10 x11 x12 x13 x14 x15 6
  let x170 := r8_2 x0 x1 x2 x3 x4 x5 x6 x7 x8 x9 x10 x11 x12 x13 x14 x15 6
  let x171 := !x170
  let x172 := decide (x30 < x168)
  let x173 := x171 || x172
  let x174 := decide (x18 > x169)
  let x175 := x173 || x174
  let x176 := !x175
  let x188 := !x176
  let x189 := p8 x0 x1 x2 x3 x4 x5 x6 x7 x8 x9 x10 x11 x12 x13 x14 x15 7
  [ow [(x27, true), (x34, true)] x35, ow [(x27, true), (x34, true), (x56, true)] x57, ow [(x27, true), (x34, true), (x56, true), (x78, true)] x79, ow [(x27, true), (x34, true), (x56, true), (x78, true), (x100, true)] x101, ow [(x27, true), (x34, true), (x56, true), (x78, true), (x100, true), (x122, true)] x123, ow [(x27, true), (x34, true), (x56, true), (x78, true), (x100, true), (x122, true), (x144, true)] x145, ow [(x27, true), (x34, true), (x56, true), (x78, true), (x100, true), (x122, true), (x144, true), (x166, true)] x167, ow [(x27, true), (x34, true), (x56, true), (x78, true), (x100, true), (x122, true), (x144, true), (x166, true), (x188, true)] x189].all id
noncomputable def r11_0 (x0 : Int) (x1 : Int) (x2 : Int) (x3 : Int) (x4 : Int) (x5 : Int) (x6 : Int) (x7 : Int) (x8 : Int) (x9 : Int) (x10 : Int) (x11 : Int) (x12 : Int) (x13 : Int) (x14 : Int) (x15 : Int) (x16 : Int) (x17 : Int) (x18 : Int) (x19 : Int) : Bool :=
  let x20 := r21_0 x17
  let x21 := x19 == 1
  let x22 := x19 == 2
  let x23 := x19 == 4
  let x24 := x19 == 8
  let x25 := bif x23 then x23 else x24
  let x26 := bif x22 then x22 else x25
  let x27 := bif x21 then x21 else x26
  let x28 := IntKind.wrap .u64 x19
  let x29 := IntKind.wrap .u64 (x18 + x28)
  let x30 := IntKind.wrap .u64 (x29 - 1)
  let x31 := x20 == 0
  let x32 := decide (x30 < x18)
  let x33 := x31 || x32
  let x34 := !x33
  let x36 := r8_0 x0 x1 x2 x3 x4 x5 x6 x7 x8 x9 x10 x11 x12 x13 x14 x15 0
  let x37 := r8_1 x0 x1 x2 x3 x4 x5 x6 x7 x8 x9 x10 x11 x12 x13 x14 x15 0
  let x38 := r8_2 x0 x1 x2 x3 x4 x5 x6 x7 x8 x9 x10 x11 x12 x13 x14 x15 0
  let x39 := !x38
  let x40 := decide (x30 < x36)
  let x41 := x39 || x40
  let x42 := decide (x18 > x37)
  let x43 := x41 || x42
  let x44 := !x43
  let x45 := decide (x18 < x36)
  let x46 := decide (x30 > x37)
  let x47 := x45 || x46
  let x48 := !x47
  let x49 := x16 == 3
  let x50 := iland .u8 x0 128
  let x51 := x50 == 0
  let x52 := x49 && x51
  let x53 := iland .u8 x0 x20
  let x54 := x53 == x20
  let x55 := x52 || x54
  let x56 := !x44
  let x58 := r8_0 x0 x1 x2 x3 x4 x5 x6 x7 x8 x9 x10 x11 x12 x13 x14 x15 1
  let x59 := r8_1 x0 x1 x2 x3 x4 x5 x6 x7 x8 x9 x10 x11 x12 x13 x14 x15 1
  let x60 := r8_2 x0 x1 x2 x3 x4 x5 x6 x7 x8 x9 x10 x11 x12 x13 x14 x15 1
  let x61 := !x60
  let x62 := decide (x30 < x58)
  let x63 := x61 || x62
  let x64 := decide (x18 > x59)
  let x65 := x63 || x64
  let x66 := !x65
  let x67 := decide (x18 < x58)
  let x68 := decide (x30 > x59)
  let x69 := x67 || x68
  let x70 := !x69
  let x71 := x16 == 3
  let x72 := iland .u8 x1 128
  let x73 := x72 == 0
  let x74 := x71 && x73
  let x75 := iland .u8 x1 x20
  let x76 := x75 == x20
  let x77 := x74 || x76
  let x78 := !x66
  let x80 := r8_0 x0 x1 x2 x3 x4 x5 x6 x7 x8 x9 x10 x11 x12 x13 x14 x15 2
  let x81 := r8_1 x0 x1 x2 x3 x4 x5 x6 x7 x8 x9 x10 x11 x12 x13 x14 x15 2
  let x82 := r8_2 x0 x1 x2 x3 x4 x5 x6 x7 x8 x9 x10 x11 x12 x13 x14 x15 2
  let x83 := !x82
  let x84 := decide (x30 < x80)
  let x85 := x83 || x84
  let x86 := decide (x18 > x81)
  let x87 := x85 || x86
  let x88 := !x87
  let x89 := decide (x18 < x80)
  let x90 := decide (x30 > x81)
  let x91 := x89 || x90
  let x92 := !x91
  let x93 := x16 == 3
  let x94 := iland .u8 x2 128
  let x95 := x94 == 0
  let x96 := x93 && x95
  let x97 := iland .u8 x2 x20
  let x98 := x97 == x20
  let x99 := x96 || x98
  let x100 := !x88
  let x102 := r8_0 x0 x1 x2 x3 x4 x5 x6 x7 x8 x9 x10 x11 x12 x13 x14 x15 3
  let x103 := r8_1 x0 x1 x2 x3 x4 x5 x6 x7 x8 x9 x10 x11 x12 x13 x14 x15 3
  let x104 := r8_2 x0 x1 x2 x3 x4 x5 x6 x7 x8 x9 x10 x11 x12 x13 x14 x15 3
  let x105 := !x104
  let x106 := decide (x30 < x102)
  let x107 := x105 || x106
  let x108 := decide (x18 > x103)
  let x109 := x107 || x108
  let x110 := !x109
  let x111 := decide (x18 < x102)
  let x112 := decide (x30 > x103)
  let x113 := x111 || x112
  let x114 := !x113
  let x115 := x16 == 3
  let x116 := iland .u8 x3 128
  let x117 := x116 == 0
  let x118 := x115 && x117
  let x119 := iland .u8 x3 x20
  let x120 := x119 == x20
  let x121 := x118 || x120
  let x122 := !x110
  let x124 := r8_0 x0 x1 x2 x3 x4 x5 x6 x7 x8 x9 x10 x11 x12 x13 x14 x15 4
  let x125 := r8_1 x0 x1 x2 x3 x4 x5 x6 x7 x8 x9 x10 x11 x12 x13 x14 x15 4
  let x126 := r8_2 x0 x1 x2 x3 x4 x5 x6 x7 x8 x9 x10 x11 x12 x13 x14 x15 4
  let x127 := !x126
  let x128 := decide (x30 < x124)
  let x129 := x127 || x128
  let x130 := decide (x18 > x125)
  let x131 := x129 || x130
  let x132 := !x131
  let x133 := decide (x18 < x124)
  let x134 := decide (x30 > x125)
  let x135 := x133 || x134
  let x136 := !x135
  let x137 := x16 == 3
  let x138 := iland .u8 x4 128
  let x139 := x138 == 0
  let x140 := x137 && x139
  let x141 := iland .u8 x4 x20
  let x142 := x141 == x20
  let x143 := x140 || x142
  let x144 := !x132
  let x146 := r8_0 x0 x1 x2 x3 x4 x5 x6 x7 x8 x9 x10 x11 x12 x13 x14 x15 5
  let x147 := r8_1 x0 x1 x2 x3 x4 x5 x6 x7 x8 x9 x10 x11 x12 x13 x14 x15 5
  let x148 := r8_2 x0 x1 x2 x3 x4 x5 x6 x7 x8 x9 x10 x11 x12 x13 x14 x15 5
  let x149 := !x148
  let x150 := decide (x30 < x146)
  let x151 := x149 || x150
  let x152 := decide (x18 > x147)
  let x153 := x151 || x152
  let x154 := !x153
  let x155 := decide (x18 < x146)
  let x156 := decide (x30 > x147)
  let x157 := x155 || x156
  let x158 := !x157
  let x159 := x16 == 3
  let x160 := iland .u8 x5 128
  let x161 := x160 == 0
  let x162 := x159 && x161
  let x163 := iland .u8 x5 x20
  let x164 := x163 == x20
  let x165 := x162 || x164
  let x166 := !x154
  let x168 := r8_0 x0 x1 x2 x3 x4 x5 x6 x7 x8 x9 x10 x11 x12 x13 x14 x15 6
  let x169 := r8_1 x0 x1 x2 x3 x4 x5 x6 x7 x8 x9 x10 x11 x12 x13 x14 x15 6
  let x170 := r8_2 x0 x1 x2 x3 x4 x5 x6 x7 x8 x9 x10 x11 x12 x13 x14 x15 6
  let x171 := !x170
  let x172 := decide (x30 < x168)
  let x173 := x171 || x172
  let x174 := decide (x18 > x169)
  let x175 := x173 || x174
  let x176 := !x175
  let x177 := decide (x18 < x168)
  let x178 := decide (x30 > x169)
  let x179 := x177 || x178
  let x180 := !x179
  let x181 := x16 == 3
  let x182 := iland .u8 x6 128
  let x183 := x182 == 0
  let x184 := x181 && x183
  let x185 := iland .u8 x6 x20
  let x186 := x185 == x20
  let x187 := x184 || x186
  let x188 := !x176
  let x190 := r8_0 x0 x1 x2 x3 x4 x5 x6 x7 x8 x9 x10 x11 x12 x13 x14 x15 7
  let x191 := r8_1 x0 x1 x2 x3 x4 x5 x6 x7 x8 x9 x10 x11 x12 x13 x14 x15 7
  let x192 := r8_2 x0 x1 x2 x3 x4 x5 x6 x7 x8 x9 x10 x11 x12 x13 x14 x15 7
  let x193 := !x192
  let x194 := decide (x30 < x190)
  let x195 := x193 || x194
  let x196 := decide (x18 > x191)
  let x197 := x195 || x196
  let x198 := !x197
  let x199 := decide (x18 < x190)
  let x200 := decide (x30 > x191)
  let x201 := x199 || x200
  let x202 := !x201
  let x203 := x16 == 3
  let x204 := iland .u8 x7 128
  let x205 := x204 == 0
  let x206 := x203 && x205
  let x207 := iland .u8 x7 x20
  let x208 := x207 == x20
  let x209 := x206 || x208
  let x210 := !x198
  let x211 := x188 && x210
  let x212 := x166 && x211
  let x213 := x144 && x212
  let x214 := x122 && x213
  let x215 := x100 && x214
  let x216 := x78 && x215
  let x217 := x56 && x216
  let x218 := x16 == 3
  let x219 := x202 && x209
  let x220 := x180 && x187
  let x221 := bif x188 then x219 else x220
  let x222 := x158 && x165
  let x223 := bif x166 then x221 else x222
  let x224 := x136 && x143
  let x225 := bif x144 then x223 else x224
  let x226 := x114 && x121
  let x227 := bif x122 then x225 else x226
  let x228 := x92 && x99
  let x229 := bif x100 then x227 else x228
  let x230 := x70 && x77
  let x231 := bif x78 then x229 else x230
  let x232 := x48 && x55
  let x233 := bif x56 then x231 else x232
  let x234 := bif x217 then x218 else x233
  let x235 := x34 && x234
  let x236 := x27 && x235
  x236
noncomputable def g11 (ds : List DV) : List DV := [.b (p11 (dget ds 0).toI (dget ds 1).toI (dget ds 2).toI (dget ds 3).toI (dget ds 4).toI (dget ds 5).toI (dget ds 6).toI (dget ds 7).toI (dget ds 8).toI (dget ds 9).toI (dget ds 10).toI (dget ds 11).toI (dget ds 12).toI (dget ds 13).toI (dget ds 14).toI (dget ds 15).toI (dget ds 17).toI (dget ds 18).toI (dget ds 19).toI), .b (r11_0 (dget ds 0).toI (dget ds 1).toI (dget ds 2).toI (dget ds 3).toI (dget ds 4).toI (dget ds 5).toI (dget ds 6).toI (dget ds 7).toI (dget ds 8).toI (dget ds 9).toI (dget ds 10).toI (dget ds 11).toI (dget ds 12).toI (dget ds 13).toI (dget ds 14).toI (dget ds 15).toI (dget ds 16).toI (dget ds 17).toI (dget ds 18).toI (dget ds 19).toI)]
def S11 : Sigs := ⟨[(21, s21), (8, s8)], [], [], 0⟩
theorem ev11 : evFn Tryd.prog S11 2000 Tryd.f11 s11 = some o11 := by kernel_rfl

/-! tandem/pmp.Config -/
def s13 : Sig := ⟨[.s (.agg [.i .u8 (.h 0), .i .u8 (.h 1), .i .u8 (.h 2), .i .u8 (.h 3), .i .u8 (.h 4), .i .u8 (.h 5), .i .u8 (.h 6), .i .u8 (.h 7)]), .s (.one (.i .u64 (.h 8)))], [], [.i, .i, .i, .i, .i, .i, .i, .i, .i], .s (.agg [.i .u8 (.h 0), .i .u8 (.h 1), .i .u8 (.h 2), .i .u8 (.h 3), .i .u8 (.h 4), .i .u8 (.h 5), .i .u8 (.h 6), .i .u8 (.h 7)]), [], [.i, .i, .i, .i, .i, .i, .i, .i], false⟩
def o13 : Out := ⟨[(9, .shr .u64 (.r 8) (.z 0)), (10, .conv .u8 (.r 9)), (11, .land .u8 (.r 0) (.z 128)), (12, .eql (.r 11) (.z 0)), (13, .land .u8 (.r 10) (.z 3)), (14, .neq (.r 13) (.z 2)), (15, .and (.r 12) (.r 14)), (16, .landNot .u8 (.r 10) (.z 96)), (17, .itei (.r 15) (.r 16) (.r 0)), (18, .shr .u64 (.r 8) (.z 8)), (19, .conv .u8 (.r 18)), (20, .land .u8 (.r 1) (.z 128)), (21, .eql (.r 20) (.z 0)), (22, .land .u8 (.r 19) (.z 3)), (23, .neq (.r 22) (.z 2)), (24, .and (.r 21) (.r 23)), (25, .landNot .u8 (.r 19) (.z 96)), (26, .itei (.r 24) (.r 25) (.r 1)), (27, .shr .u64 (.r 8) (.z 16)), (28, .conv .u8 (.r 27)), (29, .land .u8 (.r 2) (.z 128)), (30, .eql (.r 29) (.z 0)), (31, .land .u8 (.r 28) (.z 3)), (32, .neq (.r 31) (.z 2)), (33, .and (.r 30) (.r 32)), (34, .landNot .u8 (.r 28) (.z 96)), (35, .itei (.r 33) (.r 34) (.r 2)), (36, .shr .u64 (.r 8) (.z 24)), (37, .conv .u8 (.r 36)), (38, .land .u8 (.r 3) (.z 128)), (39, .eql (.r 38) (.z 0)), (40, .land .u8 (.r 37) (.z 3)), (41, .neq (.r 40) (.z 2)), (42, .and (.r 39) (.r 41)), (43, .landNot .u8 (.r 37) (.z 96)), (44, .itei (.r 42) (.r 43) (.r 3)), (45, .shr .u64 (.r 8) (.z 32)), (46, .conv .u8 (.r 45)), (47, .land .u8 (.r 4) (.z 128)), (48, .eql (.r 47) (.z 0)), (49, .land .u8 (.r 46) (.z 3)), (50, .neq (.r 49) (.z 2)), (51, .and (.r 48) (.r 50)), (52, .landNot .u8 (.r 46) (.z 96)), (53, .itei (.r 51) (.r 52) (.r 4)), (54, .shr .u64 (.r 8) (.z 40)), (55, .conv .u8 (.r 54)), (56, .land .u8 (.r 5) (.z 128)), (57, .eql (.r 56) (.z 0)), (58, .land .u8 (.r 55) (.z 3)), (59, .neq (.r 58) (.z 2)), (60, .and (.r 57) (.r 59)), (61, .landNot .u8 (.r 55) (.z 96)), (62, .itei (.r 60) (.r 61) (.r 5)), (63, .shr .u64 (.r 8) (.z 48)), (64, .conv .u8 (.r 63)), (65, .land .u8 (.r 6) (.z 128)), (66, .eql (.r 65) (.z 0)), (67, .land .u8 (.r 64) (.z 3)), (68, .neq (.r 67) (.z 2)), (69, .and (.r 66) (.r 68)), (70, .landNot .u8 (.r 64) (.z 96)), (71, .itei (.r 69) (.r 70) (.r 6)), (72, .shr .u64 (.r 8) (.z 56)), (73, .conv .u8 (.r 72)), (74, .land .u8 (.r 7) (.z 128)), (75, .eql (.r 74) (.z 0)), (76, .land .u8 (.r 73) (.z 3)), (77, .neq (.r 76) (.z 2)), (78, .and (.r 75) (.r 77)), (79, .landNot .u8 (.r 73) (.z 96)), (80, .itei (.r 78) (.r 79) (.r 7))],
  [],
  [],
  [.r 17, .r 26, .r 35, .r 44, .r 53, .r 62, .r 71, .r 80]⟩
noncomputable def r13_0 (x0 : Int) (x8 : Int) : Int :=
  let x9 := ishr .u64 x8 0
  let x10 := IntKind.wrap .u8 x9
  let x11 := iland .u8 x0 128
  let x12 := x11 == 0
  let x13 := iland .u8 x10 3
  let x14 := x13 != 2
  let x15 := x12 && x14
  let x16 := ilandNot .u8 x10 96
  let x17 := bif x15 then x16 else x0
  x17
noncomputable def r13_1 (x1 : Int) (x8 : Int) : Int :=
  let x18 := ishr .u64 x8 8
  let x19 := IntKind.wrap .u8 x18
  let x20 := iland .u8 x1 128
  let x21 := x20 == 0
  let x22 := iland .u8 x19 3
  let x23 := x22 != 2
  let x24 := x21 && x23
  let x25 := ilandNot .u8 x19 96
  let x26 := bif x24 then x25 else x1
  x26
noncomputable def r13_2 (x2 : Int) (x8 : Int) : Int :=
  let x27 := ishr .u64 x8 16
  let x28 := IntKind.wrap .u8 x27
  let x29 := iland .u8 x2 128
  let x30 := x29 == 0
  let x31 := iland .u8 x28 3
  let x32 := x31 != 2
  let x33 := x30 && x32
  let x34 := ilandNot .u8 x28 96
  let x35 := bif x33 then x34 else x2
  x35
noncomputable def r13_3 (x3 : Int) (x8 : Int) : Int :=
  let x36 := ishr .u64 x8 24
  let x37 := IntKind.wrap .u8 x36
  let x38 := iland .u8 x3 128
  let x39 := x38 == 0
  let x40 := iland .u8 x37 3
  let x41 := x40 != 2
  let x42 := x39 && x41
  let x43 := ilandNot .u8 x37 96
  let x44 := bif x42 then x43 else x3
  x44
noncomputable def r13_4 (x4 : Int) (x8 : Int) : Int :=
  let x45 := ishr .u64 x8 32
  let x46 := IntKind.wrap .u8 x45
  let x47 := iland .u8 x4 128
  let x48 := x47 == 0
  let x49 := iland .u8 x46 3
  let x50 := x49 != 2
  let x51 := x48 && x50
  let x52 := ilandNot .u8 x46 96
  let x53 := bif x51 then x52 else x4
  x53
noncomputable def r13_5 (x5 : Int) (x8 : Int) : Int :=
  let x54 := ishr .u64 x8 40
  let x55 := IntKind.wrap .u8 x54
  let x56 := iland .u8 x5 128
  let x57 := x56 == 0
  let x58 := iland .u8 x55 3
  let x59 := x58 != 2
  let x60 := x57 && x59
  let x61 := ilandNot .u8 x55 96
  let x62 := bif x60 then x61 else x5
  x62
noncomputable def r13_6 (x6 : Int) (x8 : Int) : Int :=
  let x63 := ishr .u64 x8 48
  let x64 := IntKind.wrap .u8 x63
  let x65 := iland .u8 x6 128
  let x66 := x65 == 0
  let x67 := iland .u8 x64 3
  let x68 := x67 != 2
  let x69 := x66 && x68
  let x70 := ilandNot .u8 x64 96
  let x71 := bif x69 then x70 else x6
  x71
noncomputable def r13_7 (x7 : Int) (x8 : Int) : Int :=
  let x72 := ishr .u64 x8 56
  let x73 := IntKind.wrap .u8 x72
  let x74 := iland .u8 x7 128
  let x75 := x74 == 0
  let x76 := iland .u8 x73 3
  let x77 := x76 != 2
  let x78 := x75 && x77
  let x79 := ilandNot .u8 x73 96
  let x80 := bif x78 then x79 else x7
  x80
noncomputable def g13 (ds : List DV) : List DV := [.i (r13_0 (dget ds 0).toI (dget ds 8).toI), .i (r13_1 (dget ds 1).toI (dget ds 8).toI), .i (r13_2 (dget ds 2).toI (dget ds 8).toI), .i (r13_3 (dget ds 3).toI (dget ds 8).toI), .i (r13_4 (dget ds 4).toI (dget ds 8).toI), .i (r13_5 (dget ds 5).toI (dget ds 8).toI), .i (r13_6 (dget ds 6).toI (dget ds 8).toI), .i (r13_7 (dget ds 7).toI (dget ds 8).toI)]
def S13 : Sigs := ⟨[], [], [], 0⟩
theorem ev13 : evFn Tryd.prog S13 2000 Tryd.f13 s13 = some o13 := by kernel_rfl

/-! tandem/pmp.Address -/
def s15 : Sig := ⟨[.s (.agg [.i .u8 (.h 0), .i .u8 (.h 1), .i .u8 (.h 2), .i .u8 (.h 3), .i .u8 (.h 4), .i .u8 (.h 5), .i .u8 (.h 6), .i .u8 (.h 7)]), .s (.agg [.i .u64 (.h 8), .i .u64 (.h 9), .i .u64 (.h 10), .i .u64 (.h 11), .i .u64 (.h 12), .i .u64 (.h 13), .i .u64 (.h 14), .i .u64 (.h 15)]), .s (.one (.i .i64 (.h 16))), .s (.one (.i .u64 (.h 17)))], [], [.i, .i, .i, .i, .i, .i, .i, .i, .i, .i, .i, .i, .i, .i, .i, .i, .i, .i], .s (.agg [.i .u64 (.h 0), .i .u64 (.h 1), .i .u64 (.h 2), .i .u64 (.h 3), .i .u64 (.h 4), .i .u64 (.h 5), .i .u64 (.h 6), .i .u64 (.h 7)]), [], [.i, .i, .i, .i, .i, .i, .i, .i], true⟩
def o15 : Out := ⟨[(18, .lss (.r 16) (.z 0)), (19, .geq (.r 16) (.z 8)), (20, .or (.r 18) (.r 19)), (21, .geq (.r 16) (.z 0)), (22, .lss (.r 16) (.z 8)), (23, .seli (idsFrom 0 8) (.r 16)), (24, .land .u8 (.r 23) (.z 128)), (25, .neq (.r 24) (.z 0)), (26, .or (.r 20) (.r 25)), (27, .not (.r 26)), (28, .add .i64 (.r 16) (.z 1)), (29, .lss (.r 28) (.z 8)), (30, .add .i64 (.r 16) (.z 1)), (31, .geq (.r 30) (.z 0)), (32, .lss (.r 30) (.z 8)), (33, .seli (idsFrom 0 8) (.r 30)), (34, .land .u8 (.r 33) (.z 128)), (35, .neq (.r 34) (.z 0)), (36, .and (.r 29) (.r 35)), (37, .add .i64 (.r 16) (.z 1)), (38, .geq (.r 37) (.z 0)), (39, .lss (.r 37) (.z 8)), (40, .seli (idsFrom 0 8) (.r 37)), (41, .call 17 [.r 40] 0), (42, .eql (.r 41) (.z 1)), (43, .and (.r 36) (.r 42)), (44, .not (.r 43)), (45, .land .u64 (.r 17) (.z 18014398509481983)), (46, .geq (.r 16) (.z 0)), (47, .lss (.r 16) (.z 8)), (48, .eql (.r 16) (.z 0)), (49, .itei (.r 48) (.r 45) (.r 8)), (50, .eql (.r 16) (.z 1)), (51, .itei (.r 50) (.r 45) (.r 9)), (52, .eql (.r 16) (.z 2)), (53, .itei (.r 52) (.r 45) (.r 10)), (54, .eql (.r 16) (.z 3)), (55, .itei (.r 54) (.r 45) (.r 11)), (56, .eql (.r 16) (.z 4)), (57, .itei (.r 56) (.r 45) (.r 12)), (58, .eql (.r 16) (.z 5)), (59, .itei (.r 58) (.r 45) (.r 13)), (60, .eql (.r 16) (.z 6)), (61, .itei (.r 60) (.r 45) (.r 14)), (62, .eql (.r 16) (.z 7)), (63, .itei (.r 62) (.r 45) (.r 15)), (64, .itei (.r 44) (.r 49) (.r 8)), (65, .itei (.r 44) (.r 51) (.r 9)), (66, .itei (.r 44) (.r 53) (.r 10)), (67, .itei (.r 44) (.r 55) (.r 11)), (68, .itei (.r 44) (.r 57) (.r 12)), (69, .itei (.r 44) (.r 59) (.r 13)), (70, .itei (.r 44) (.r 61) (.r 14)), (71, .itei (.r 44) (.r 63) (.r 15)), (72, .itei (.r 27) (.r 64) (.r 8)), (73, .itei (.r 27) (.r 65) (.r 9)), (74, .itei (.r 27) (.r 66) (.r 10)), (75, .itei (.r 27) (.r 67) (.r 11)), (76, .itei (.r 27) (.r 68) (.r 12)), (77, .itei (.r 27) (.r 69) (.r 13)), (78, .itei (.r 27) (.r 70) (.r 14)), (79, .itei (.r 27) (.r 71) (.r 15))],
  [⟨[(.r 20, false)], .r 21⟩, ⟨[(.r 20, false)], .r 22⟩, ⟨[(.r 27, true), (.r 29, true)], .r 31⟩, ⟨[(.r 27, true), (.r 29, true)], .r 32⟩, ⟨[(.r 27, true), (.r 36, true)], .r 38⟩, ⟨[(.r 27, true), (.r 36, true)], .r 39⟩, ⟨[(.r 27, true), (.r 44, true)], .r 46⟩, ⟨[(.r 27, true), (.r 44, true)], .r 47⟩],
  [],
  (idsFrom 72 8)⟩
noncomputable def p15 (x0 : Int) (x1 : Int) (x2 : Int) (x3 : Int) (x4 : Int) (x5 : Int) (x6 : Int) (x7 : Int) (x16 : Int) : Bool :=
  let x18 := decide (x16 < 0)
  let x19 := decide (x16 ≥ 8)
  let x20 := x18 || x19
  let x21 := decide (x16 ≥ 0)
  let x22 := decide (x16 < 8)
  let x23 := [x0, x1, x2, x3, x4, x5, x6, x7].getD (Int.toNat x16) 0
  let x24 := iland .u8 x23 128
  let x25 := x24 != 0
  let x26 := x20 || x25
  let x27 := !x26
  let x28 := IntKind.wrap .i64 (x16 + 1)
  let x29 := decide (x28 < 8)
  let x30 := IntKind.wrap .i64 (x16 + 1)
  let x31 := decide (x30 ≥ 0)
  let x32 := decide (x30 < 8)
  let x33 := [x0, x1, x2, x3, x4, x5, x6, x7].getD (Int.toNat x30) 0
  let x34 := iland .u8 x33 128
  let x35 := x34 != 0
  let x36 := x29 && x35
  let x37 := IntKind.wrap .i64 (x16 + 1)
  let x38 := decide (x37 ≥ 0)
  let x39 := decide (x37 < 8)
  let x40 := [x0, x1, x2, x3, x4, x5, x6, x7].getD (Int.toNat x37) 0
  let x41 := r17_0 x40
  let x42 := x41 == 1
  let x43 := x36 && x42
  let x44 := !x43
  let x46 := decide (x16 ≥ 0)
  let x47 := decide (x16 < 8)
  [ow [(x20, false)] x21, ow [(x20, false)] x22, ow [(x27, true), (x29, true)] x31, ow [(x27, true), (x29, true)] x32, ow [(x27, true), (x36, true)] x38, ow [(x27, true), (x36, true)] x39, ow [(x27, true), (x44, true)] x46, ow [(x27, true), (x44, true)] x47].all id
noncomputable def r15_0 (x0 : Int) (x1 : Int) (x2 : Int) (x3 : Int) (x4 : Int) (x5 : Int) (x6 : Int) (x7 : Int) (x8 : Int) (x16 : Int) (x17 : Int) : Int :=
  let x18 := decide (x16 < 0)
  let x19 := decide (x16 ≥ 8)
  let x20 := x18 || x19
  let x23 := [x0, x1, x2, x3, x4, x5, x6, x7].getD (Int.toNat x16) 0
  let x24 := iland .u8 x23 128
  let x25 := x24 != 0
  let x26 := x20 || x25
  let x27 := !x26
  let x28 := IntKind.wrap .i64 (x16 + 1)
  let x29 := decide (x28 < 8)
  let x30 := IntKind.wrap .i64 (x16 + 1)
  let x33 := [x0, x1, x2, x3, x4, x5, x6, x7].getD (Int.toNat x30) 0
  let x34 := iland .u8 x33 128
  let x35 := x34 != 0
  let x36 := x29 && x35
  let x37 := IntKind.wrap .i64 (x16 + 1)
  let x40 := [x0, x1, x2, x3, x4, x5, x6, x7].getD (Int.toNat x37) 0
  let x41 := r17_0 x40
  let x42 := x41 == 1
  let x43 := x36 && x42
  let x44 := !x43
  let x45 := iland .u64 x17 18014398509481983
  let x48 := x16 == 0
  let x49 := bif x48 then x45 else x8
  let x64 := bif x44 then x49 else x8
  let x72 := bif x27 then x64 else x8
  x72
noncomputable def r15_1 (x0 : Int) (x1 : Int) (x2 : Int) (x3 : Int) (x4 : Int) (x5 : Int) (x6 : Int) (x7 : Int) (x9 : Int) (x16 : Int) (x17 : Int) : Int :=
  let x18 := decide (x16 < 0)
  let x19 := decide (x16 ≥ 8)
  let x20 := x18 || x19
  let x23 := [x0, x1, x2, x3, x4, x5, x6, x7].getD (Int.toNat x16) 0
  let x24 := iland .u8 x23 128
  let x25 := x24 != 0
  let x26 := x20 || x25
  let x27 := !x26
  let x28 := IntKind.wrap .i64 (x16 + 1)
  let x29 := decide (x28 < 8)
  let x30 := IntKind.wrap .i64 (x16 + 1)
  let x33 := [x0, x1, x2, x3, x4, x5, x6, x7].getD (Int.toNat x30) 0
  let x34 := iland .u8 x33 128
  let x35 := x34 != 0
  let x36 := x29 && x35
  let x37 := IntKind.wrap .i64 (x16 + 1)
  let x40 := [x0, x1, x2, x3, x4, x5, x6, x7].getD (Int.toNat x37) 0
  let x41 := r17_0 x40
  let x42 := x41 == 1
  let x43 := x36 && x42
  let x44 := !x43
  let x45 := iland .u64 x17 18014398509481983
  let x50 := x16 == 1
  let x51 := bif x50 then x45 else x9
  let x65 := bif x44 then x51 else x9
  let x73 := bif x27 then x65 else x9
  x73
noncomputable def r15_2 (x0 : Int) (x1 : Int) (x2 : Int) (x3 : Int) (x4 : Int) (x5 : Int) (x6 : Int) (x7 : Int) (x10 : Int) (x16 : Int) (x17 : Int) : Int :=
  let x18 := decide (x16 < 0)
  let x19 := decide (x16 ≥ 8)
  let x20 := x18 || x19
  let x23 := [x0, x1, x2, x3, x4, x5, x6, x7].getD (Int.toNat x16) 0
  let x24 := iland .u8 x23 128
  let x25 := x24 != 0
  let x26 := x20 || x25
  let x27 := !x26
  let x28 := IntKind.wrap .i64 (x16 + 1)
  let x29 := decide (x28 < 8)
  let x30 := IntKind.wrap .i64 (x16 + 1)
  let x33 := [x0, x1, x2, x3, x4, x5, x6, x7].getD (Int.toNat x30) 0
  let x34 := iland .u8 x33 128
  let x35 := x34 != 0
  let x36 := x29 && x35
  let x37 := IntKind.wrap .i64 (x16 + 1)
  let x40 := [x0, x1, x2, x3, x4, x5, x6, x7].getD (Int.toNat x37) 0
  let x41 := r17_0 x40
  let x42 := x41 == 1
  let x43 := x36 && x42
  let x44 := !x43
  let x45 := iland .u64 x17 18014398509481983
  let x52 := x16 == 2
  let x53 := bif x52 then x45 else x10
  let x66 := bif x44 then x53 else x10
  let x74 := bif x27 then x66 else x10
  x74
noncomputable def r15_3 (x0 : Int) (x1 : Int) (x2 : Int) (x3 : Int) (x4 : Int) (x5 : Int) (x6 : Int) (x7 : Int) (x11 : Int) (x16 : Int) (x17 : Int) : Int :=
  let x18 := decide (x16 < 0)
  let x19 := decide (x16 ≥ 8)
  let x20 := x18 || x19
  let x23 := [x0, x1, x2, x3, x4, x5, x6, x7].getD (Int.toNat x16) 0
  let x24 := iland .u8 x23 128
  let x25 := x24 != 0
  let x26 := x20 || x25
  let x27 := !x26
  let x28 := IntKind.wrap .i64 (x16 + 1)
  let x29 := decide (x28 < 8)
  let x30 := IntKind.wrap .i64 (x16 + 1)
  let x33 := [x0, x1, x2, x3, x4, x5, x6, x7].getD (Int.toNat x30) 0
  let x34 := iland .u8 x33 128
  let x35 := x34 != 0
  let x36 := x29 && x35
  let x37 := IntKind.wrap .i64 (x16 + 1)
  let x40 := [x0, x1, x2, x3, x4, x5, x6, x7].getD (Int.toNat x37) 0
  let x41 := r17_0 x40
  let x42 := x41 == 1
  let x43 := x36 && x42
  let x44 := !x43
  let x45 := iland .u64 x17 18014398509481983
  let x54 := x16 == 3
  let x55 := bif x54 then x45 else x11
  let x67 := bif x44 then x55 else x11
  let x75 := bif x27 then x67 else x11
  x75
noncomputable def r15_4 (x0 : Int) (x1 : Int) (x2 : Int) (x3 : Int) (x4 : Int) (x5 : Int) (x6 : Int) (x7 : Int) (x12 : Int) (x16 : Int) (x17 : Int) : Int :=
  let x18 := decide (x16 < 0)
  let x19 := decide (x16 ≥ 8)
  let x20 := x18 || x19
  let x23 := [x0, x1, x2, x3, x4, x5, x6, x7].getD (Int.toNat x16) 0
  let x24 := iland .u8 x23 128
  let x25 := x24 != 0
  let x26 := x20 || x25
  let x27 := !x26
  let x28 := IntKind.wrap .i64 (x16 + 1)
  let x29 := decide (x28 < 8)
  let x30 := IntKind.wrap .i64 (x16 + 1)
  let x33 := [x0, x1, x2, x3, x4, x5, x6, x7].getD (Int.toNat x30) 0
  let x34 := iland .u8 x33 128
  let x35 := x34 != 0
  let x36 := x29 && x35
  let x37 := IntKind.wrap .i64 (x16 + 1)
  let x40 := [x0, x1, x2, x3, x4, x5, x6, x7].getD (Int.toNat x37) 0
  let x41 := r17_0 x40
  let x42 := x41 == 1
  let x43 := x36 && x42
  let x44 := !x43
  let x45 := iland .u64 x17 18014398509481983
  let x56 := x16 == 4
  let x57 := bif x56 then x45 else x12
  let x68 := bif x44 then x57 else x12
  let x76 := bif x27 then x68 else x12
  x76
noncomputable def r15_5 (x0 : Int) (x1 : Int) (x2 : Int) (x3 : Int) (x4 : Int) (x5 : Int) (x6 : Int) (x7 : Int) (x13 : Int) (x16 : Int) (x17 : Int) : Int :=
  let x18 := decide (x16 < 0)
  let x19 := decide (x16 ≥ 8)
  let x20 := x18 || x19
  let x23 := [x0, x1, x2, x3, x4, x5, x6, x7].getD (Int.toNat x16) 0
  let x24 := iland .u8 x23 128
  let x25 := x24 != 0
  let x26 := x20 || x25
  let x27 := !x26
  let x28 := IntKind.wrap .i64 (x16 + 1)
  let x29 := decide (x28 < 8)
  let x30 := IntKind.wrap .i64 (x16 + 1)
  let x33 := [x0, x1, x2, x3, x4, x5, x6, x7].getD (Int.toNat x30) 0
  let x34 := iland .u8 x33 128
  let x35 := x34 != 0
  let x36 := x29 && x35
  let x37 := IntKind.wrap .i64 (x16 + 1)
  let x40 := [x0, x1, x2, x3, x4, x5, x6, x7].getD (Int.toNat x37) 0
  let x41 := r17_0 x40
  let x42 := x41 == 1
  let x43 := x36 && x42
  let x44 := !x43
  let x45 := iland .u64 x17 18014398509481983
  let x58 := x16 == 5
  let x59 := bif x58 then x45 else x13
  let x69 := bif x44 then x59 else x13
  let x77 := bif x27 then x69 else x13
  x77
noncomputable def r15_6 (x0 : Int) (x1 : Int) (x2 : Int) (x3 : Int) (x4 : Int) (x5 : Int) (x6 : Int) (x7 : Int) (x14 : Int) (x16 : Int) (x17 : Int) : Int :=
  let x18 := decide (x16 < 0)
  let x19 := decide (x16 ≥ 8)
  let x20 := x18 || x19
  let x23 := [x0, x1, x2, x3, x4, x5, x6, x7].getD (Int.toNat x16) 0
  let x24 := iland .u8 x23 128
  let x25 := x24 != 0
  let x26 := x20 || x25
  let x27 := !x26
  let x28 := IntKind.wrap .i64 (x16 + 1)
  let x29 := decide (x28 < 8)
  let x30 := IntKind.wrap .i64 (x16 + 1)
  let x33 := [x0, x1, x2, x3, x4, x5, x6, x7].getD (Int.toNat x30) 0
  let x34 := iland .u8 x33 128
  let x35 := x34 != 0
  let x36 := x29 && x35
  let x37 := IntKind.wrap .i64 (x16 + 1)
  let x40 := [x0, x1, x2, x3, x4, x5, x6, x7].getD (Int.toNat x37) 0
  let x41 := r17_0 x40
  let x42 := x41 == 1
  let x43 := x36 && x42
  let x44 := !x43
  let x45 := iland .u64 x17 18014398509481983
  let x60 := x16 == 6
  let x61 := bif x60 then x45 else x14
  let x70 := bif x44 then x61 else x14
  let x78 := bif x27 then x70 else x14
  x78
noncomputable def r15_7 (x0 : Int) (x1 : Int) (x2 : Int) (x3 : Int) (x4 : Int) (x5 : Int) (x6 : Int) (x7 : Int) (x15 : Int) (x16 : Int) (x17 : Int) : Int :=
  let x18 := decide (x16 < 0)
  let x19 := decide (x16 ≥ 8)
  let x20 := x18 || x19
  let x23 := [x0, x1, x2, x3, x4, x5, x6, x7].getD (Int.toNat x16) 0
  let x24 := iland .u8 x23 128
  let x25 := x24 != 0
  let x26 := x20 || x25
  let x27 := !x26
  let x28 := IntKind.wrap .i64 (x16 + 1)
  let x29 := decide (x28 < 8)
  let x30 := IntKind.wrap .i64 (x16 + 1)
  let x33 := [x0, x1, x2, x3, x4, x5, x6, x7].getD (Int.toNat x30) 0
  let x34 := iland .u8 x33 128
  let x35 := x34 != 0
  let x36 := x29 && x35
  let x37 := IntKind.wrap .i64 (x16 + 1)
  let x40 := [x0, x1, x2, x3, x4, x5, x6, x7].getD (Int.toNat x37) 0
  let x41 := r17_0 x40
  let x42 := x41 == 1
  let x43 := x36 && x42
  let x44 := !x43
  let x45 := iland .u64 x17 18014398509481983
  let x62 := x16 == 7
  let x63 := bif x62 then x45 else x15
  let x71 := bif x44 then x63 else x15
  let x79 := bif x27 then x71 else x15
  x79
noncomputable def g15 (ds : List DV) : List DV := [.b (p15 (dget ds 0).toI (dget ds 1).toI (dget ds 2).toI (dget ds 3).toI (dget ds 4).toI (dget ds 5).toI (dget ds 6).toI (dget ds 7).toI (dget ds 16).toI), .i (r15_0 (dget ds 0).toI (dget ds 1).toI (dget ds 2).toI (dget ds 3).toI (dget ds 4).toI (dget ds 5).toI (dget ds 6).toI (dget ds 7).toI (dget ds 8).toI (dget ds 16).toI (dget ds 17).toI), .i (r15_1 (dget ds 0).toI (dget ds 1).toI (dget ds 2).toI (dget ds 3).toI (dget ds 4).toI (dget ds 5).toI (dget ds 6).toI (dget ds 7).toI (dget ds 9).toI (dget ds 16).toI (dget ds 17).toI), .i (r15_2 (dget ds 0).toI (dget ds 1).toI (dget ds 2).toI (dget ds 3).toI (dget ds 4).toI (dget ds 5).toI (dget ds 6).toI (dget ds 7).toI (dget ds 10).toI (dget ds 16).toI (dget ds 17).toI), .i (r15_3 (dget ds 0).toI (dget ds 1).toI (dget ds 2).toI (dget ds 3).toI (dget ds 4).toI (dget ds 5).toI (dget ds 6).toI (dget ds 7).toI (dget ds 11).toI (dget ds 16).toI (dget ds 17).toI), .i (r15_4 (dget ds 0).toI (dget ds 1).toI (dget ds 2).toI (dget ds 3).toI (dget ds 4).toI (dget ds 5).toI (dget ds 6).toI (dget ds 7).toI (dget ds 12).toI (dget ds 16).toI (dget ds 17).toI), .i (r15_5 (dget ds 0).toI (dget ds 1).toI (dget ds 2).toI (dget ds 3).toI (dget ds 4).toI (dget ds 5).toI (dget ds 6).toI (dget ds 7).toI (dget ds 13).toI (dget ds 16).toI (dget ds 17).toI), .i (r15_6 (dget ds 0).toI (dget ds 1).toI (dget ds 2).toI (dget ds 3).toI (dget ds 4).toI (dget ds 5).toI (dget ds 6).toI (dget ds 7).toI (dget ds 14).toI (dget ds 16).toI (dget ds 17).toI), .i (r15_7 (dget ds 0).toI (dget ds 1).toI (dget ds 2).toI (dget ds 3).toI (dget ds 4).toI (dget ds 5).toI (dget ds 6).toI (dget ds 7).toI (dget ds 15).toI (dget ds 16).toI (dget ds 17).toI)]
def S15 : Sigs := ⟨[(17, s17)], [], [], 0⟩
theorem ev15 : evFn Tryd.prog S15 2000 Tryd.f15 s15 = some o15 := by kernel_rfl

/-! tandem/tandemlaw11.fixed -/
def s10 : Sig := ⟨[], [], [], .s (.one (.b (.h 0))), [], [.b], true⟩
def o10 : Out := ⟨callsAt 0 8 [.z 25, .z 0, .z 0, .z 0, .z 0, .z 0, .z 0, .z 0, .z 536870912, .z 0, .z 0, .z 0, .z 0, .z 0, .z 0, .z 0, .z 0] 0 4 ++ callsAt 4 13 [.z 0, .z 128, .z 0, .z 0, .z 0, .z 0, .z 0, .z 0, .z 2047] 0 8 ++ callsAt 12 15 [.z 25, .z 0, .z 0, .z 0, .z 0, .z 0, .z 0, .z 0, .z 536870912, .z 0, .z 0, .z 0, .z 0, .z 0, .z 0, .z 0, .z 2, .z 18446744073709551615] 0 9 ++ [(21, .eql (.r 1) (.z 2147483648)), (22, .and (.r 3) (.r 21)), (23, .eql (.r 2) (.z 2147483655)), (24, .and (.r 22) (.r 23)), (25, .call 11 [.z 25, .z 0, .z 0, .z 0, .z 0, .z 0, .z 0, .z 0, .z 536870912, .z 0, .z 0, .z 0, .z 0, .z 0, .z 0, .z 0, .z 1, .z 1, .z 2147483648, .z 8] 0), (26, .call 11 [.z 25, .z 0, .z 0, .z 0, .z 0, .z 0, .z 0, .z 0, .z 536870912, .z 0, .z 0, .z 0, .z 0, .z 0, .z 0, .z 0, .z 1, .z 1, .z 2147483648, .z 8] 1), (27, .and (.r 24) (.r 26)), (28, .call 11 [.z 25, .z 0, .z 0, .z 0, .z 0, .z 0, .z 0, .z 0, .z 536870912, .z 0, .z 0, .z 0, .z 0, .z 0, .z 0, .z 0, .z 1, .z 2, .z 2147483648, .z 8] 0), (29, .call 11 [.z 25, .z 0, .z 0, .z 0, .z 0, .z 0, .z 0, .z 0, .z 536870912, .z 0, .z 0, .z 0, .z 0, .z 0, .z 0, .z 0, .z 1, .z 2, .z 2147483648, .z 8] 1), (30, .not (.r 29)), (31, .and (.r 27) (.r 30)), (32, .eql (.r 4) (.z 159)), (33, .and (.r 31) (.r 32)), (34, .eql (.r 5) (.z 128)), (35, .and (.r 33) (.r 34)), (36, .eql (.r 15) (.z 18014398509481983)), (37, .and (.r 35) (.r 36)), (38, .eql (.r 13) (.z 536870912)), (39, .and (.r 37) (.r 38))],
  [⟨[], .r 0⟩, ⟨[], .r 12⟩, ⟨[(.r 24, true)], .r 25⟩, ⟨[(.r 27, true)], .r 28⟩],
  [],
  [.r 39]⟩
noncomputable def p10  : Bool :=
  let x0 := p8 25 0 0 0 0 0 0 0 536870912 0 0 0 0 0 0 0 0
  let x1 := r8_0 25 0 0 0 0 0 0 0 536870912 0 0 0 0 0 0 0 0
  let x2 := r8_1 25 0 0 0 0 0 0 0 536870912 0 0 0 0 0 0 0 0
  let x3 := r8_2 25 0 0 0 0 0 0 0 536870912 0 0 0 0 0 0 0 0
  let y12 := g15 [.i 25, .i 0, .i 0, .i 0, .i 0, .i 0, .i 0, .i 0, .i 536870912, .i 0, .i 0, .i 0, .i 0, .i 0, .i 0, .i 0, .i 2, .i 18446744073709551615]
  let x12 := (dget y12 0).toB
  let x21 := x1 == 2147483648
  let x22 := x3 && x21
  let x23 := x2 == 2147483655
  let x24 := x22 && x23
  let x25 := p11 25 0 0 0 0 0 0 0 536870912 0 0 0 0 0 0 0 1 2147483648 8
  let x26 := r11_0 25 0 0 0 0 0 0 0 536870912 0 0 0 0 0 0 0 1 1 2147483648 8
  let x27 := x24 && x26
  let x28 := p11 25 0 0 0 0 0 0 0 536870912 0 0 0 0 0 0 0 2 2147483648 8
  [ow [] x0, ow [] x12, ow [(x24, true)] x25, ow [(x27, true)] x28].all id
noncomputable def r10_0  : Bool :=
  let x1 := r8_0 25 0 0 0 0 0 0 0 536870912 0 0 0 0 0 0 0 0
  let x2 := r8_1 25 0 0 0 0 0 0 0 536870912 0 0 0 0 0 0 0 0
  let x3 := r8_2 25 0 0 0 0 0 0 0 536870912 0 0 0 0 0 0 0 0
  let y4 := g13 [.i 0, .i 128, .i 0, .i 0, .i 0, .i 0, .i 0, .i 0, .i 2047]
  let x4 := (dget y4 0).toI
  let x5 := (dget y4 1).toI
  let y13 := g15 [.i 25, .i 0, .i 0, .i 0, .i 0, .i 0, .i 0, .i 0, .i 536870912, .i 0, .i 0, .i 0, .i 0, .i 0, .i 0, .i 0, .i 2, .i 18446744073709551615]
  let x13 := (dget y13 1).toI
  let x15 := (dget y13 3).toI
  let x21 := x1 == 2147483648
  let x22 := x3 && x21
  let x23 := x2 == 2147483655
  let x24 := x22 && x23
  let x26 := r11_0 25 0 0 0 0 0 0 0 536870912 0 0 0 0 0 0 0 1 1 2147483648 8
  let x27 := x24 && x26
  let x29 := r11_0 25 0 0 0 0 0 0 0 536870912 0 0 0 0 0 0 0 1 2 2147483648 8
  let x30 := !x29
  let x31 := x27 && x30
  let x32 := x4 == 159
  let x33 := x31 && x32
  let x34 := x5 == 128
  let x35 := x33 && x34
  let x36 := x15 == 18014398509481983
  let x37 := x35 && x36
  let x38 := x13 == 536870912
  let x39 := x37 && x38
  x39
noncomputable def g10 (_ds : List DV) : List DV := [.b (p10 ), .b (r10_0 )]
def S10 : Sigs := ⟨[(8, s8), (13, s13), (15, s15), (11, s11)], [], [], 0⟩
theorem ev10 : evFn Tryd.prog S10 2000 Tryd.f10 s10 = some o10 := by kernel_rfl

end Go.Proofs.YtoebecinndbnoaaDoor
