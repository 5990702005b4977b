/- The functions of the statements, as lists of plain steps, each tied to the program's own text by the kernel (part 0). Written by the generator. -/
import Derived.Test.YthlbgkhbebffaaaSyLoopG
import Derived.Test.YthlbgkhbebffaaaProg
import Derived.KernelRfl
namespace Go.Proofs.Ythlbgkhbebffaaa
open Go Go.Sx
set_option maxRecDepth 100000

/-! tandem/plic.register -/
def s12 : Sig := ⟨[.s (.one (.i .u64 (.h 0))), .s (.one (.i .i64 (.h 1)))], [], [.i, .i], .t [.one (.i .i64 (.h 0)), .one (.i .i64 (.h 1))], [], [.i, .i], false⟩
def o12 : Out := ⟨[(2, .neq (.r 1) (.z 4)), (3, .leq (.r 0) (.z 32)), (4, .rem .u64 (.r 0) (.z 4)), (5, .eql (.r 4) (.z 0)), (6, .and (.r 3) (.r 5)), (7, .quo .u64 (.r 0) (.z 4)), (8, .conv .i64 (.r 7)), (9, .eql (.r 0) (.z 4096)), (10, .not (.r 9)), (11, .iteb (.r 6) (.t false) (.r 10)), (12, .or (.r 2) (.r 11)), (13, .neq (.r 1) (.z 4)), (14, .eql (.r 0) (.z 8192)), (15, .eql (.r 0) (.z 2097152)), (16, .eql (.r 0) (.z 2097156)), (17, .not (.r 16)), (18, .iteb (.r 15) (.t false) (.r 17)), (19, .iteb (.r 14) (.t false) (.r 18)), (20, .or (.r 13) (.r 19)), (21, .neq (.r 1) (.z 4)), (22, .eql (.r 0) (.z 8320)), (23, .eql (.r 0) (.z 2101248)), (24, .eql (.r 0) (.z 2101252)), (25, .not (.r 24)), (26, .iteb (.r 23) (.t false) (.r 25)), (27, .iteb (.r 22) (.t false) (.r 26)), (28, .or (.r 21) (.r 27)), (29, .and (.r 20) (.r 28)), (30, .itei (.r 23) (.z 4) (.z 5)), (31, .itei (.r 22) (.z 3) (.r 30)), (32, .itei (.r 15) (.z 4) (.z 5)), (33, .itei (.r 14) (.z 3) (.r 32)), (34, .itei (.r 20) (.r 31) (.r 33)), (35, .itei (.r 20) (.z 1) (.z 0)), (36, .itei (.r 29) (.z 0) (.r 34)), (37, .itei (.r 29) (.z 0) (.r 35)), (38, .itei (.r 6) (.z 1) (.z 2)), (39, .itei (.r 6) (.r 8) (.z 0)), (40, .itei (.r 12) (.r 36) (.r 38)), (41, .itei (.r 12) (.r 37) (.r 39))],
  [],
  [],
  [.r 40, .r 41]⟩
noncomputable def r12_0 (x0 : Int) (x1 : Int) : Int :=
  let x2 := x1 != 4
  let x3 := decide (x0 ≤ 32)
  let x4 := Int.tmod x0 4
  let x5 := x4 == 0
  let x6 := x3 && x5
  let x9 := x0 == 4096
  let x10 := !x9
  let x11 := bif x6 then false else x10
  let x12 := x2 || x11
  let x13 := x1 != 4
  let x14 := x0 == 8192
  let x15 := x0 == 2097152
  let x16 := x0 == 2097156
  let x17 := !x16
  let x18 := bif x15 then false else x17
  let x19 := bif x14 then false else x18
  let x20 := x13 || x19
  let x21 := x1 != 4
  let x22 := x0 == 8320
  let x23 := x0 == 2101248
  let x24 := x0 == 2101252
  let x25 := !x24
  let x26 := bif x23 then false else x25
  let x27 := bif x22 then false else x26
  let x28 := x21 || x27
  let x29 := x20 && x28
  let x30 := bif x23 then 4 else 5
  let x31 := bif x22 then 3 else x30
  let x32 := bif x15 then 4 else 5
  let x33 := bif x14 then 3 else x32
  let x34 := bif x20 then x31 else x33
  let x36 := bif x29 then 0 else x34
  let x38 := bif x6 then 1 else 2
  let x40 := bif x12 then x36 else x38
  x40
noncomputable def r12_1 (x0 : Int) (x1 : Int) : Int :=
  let x2 := x1 != 4
  let x3 := decide (x0 ≤ 32)
  let x4 := Int.tmod x0 4
  let x5 := x4 == 0
  let x6 := x3 && x5
  let x7 := IntKind.wrap .u64 (Int.tdiv x0 4)
  let x8 := IntKind.wrap .i64 x7
  let x9 := x0 == 4096
  let x10 := !x9
  let x11 := bif x6 then false else x10
  let x12 := x2 || x11
  let x13 := x1 != 4
  let x14 := x0 == 8192
  let x15 := x0 == 2097152
  let x16 := x0 == 2097156
  let x17 := !x16
  let x18 := bif x15 then false else x17
  let x19 := bif x14 then false else x18
  let x20 := x13 || x19
  let x21 := x1 != 4
  let x22 := x0 == 8320
  let x23 := x0 == 2101248
  let x24 := x0 == 2101252
  let x25 := !x24
  let x26 := bif x23 then false else x25
  let x27 := bif x22 then false else x26
  let x28 := x21 || x27
  let x29 := x20 && x28
  let x35 := bif x20 then 1 else 0
  let x37 := bif x29 then 0 else x35
  let x39 := bif x6 then x8 else 0
  let x41 := bif x12 then x37 else x39
  x41
noncomputable def g12 (ds : List DV) : List DV := [.i (r12_0 (dget ds 0).toI (dget ds 1).toI), .i (r12_1 (dget ds 0).toI (dget ds 1).toI)]
def S12 : Sigs := ⟨[], [], [], 0⟩
theorem ev12 : evFn Try.prog S12 2000 Try.f12 s12 = some o12 := by kernel_rfl

/-! (*tandem/plic.Plic).in -/
def s13 : Sig := ⟨[.s (.one (.p 0 (.c 0))), .s (.one (.i .i64 (.h 56)))], [some (.c true [some (.i .i64 (.h 0)), some (.b (.h 1)), some (.b (.h 2)), some (.b (.h 3)), some (.b (.h 4)), some (.b (.h 5)), some (.i .i64 (.h 6)), some (.b (.h 7)), some (.b (.h 8)), some (.b (.h 9)), some (.b (.h 10)), some (.b (.h 11)), some (.i .i64 (.h 12)), some (.b (.h 13)), some (.b (.h 14)), some (.b (.h 15)), some (.b (.h 16)), some (.b (.h 17)), some (.i .i64 (.h 18)), some (.b (.h 19)), some (.b (.h 20)), some (.b (.h 21)), some (.b (.h 22)), some (.b (.h 23)), some (.i .i64 (.h 24)), some (.b (.h 25)), some (.b (.h 26)), some (.b (.h 27)), some (.b (.h 28)), some (.b (.h 29)), some (.i .i64 (.h 30)), some (.b (.h 31)), some (.b (.h 32)), some (.b (.h 33)), some (.b (.h 34)), some (.b (.h 35)), some (.i .i64 (.h 36)), some (.b (.h 37)), some (.b (.h 38)), some (.b (.h 39)), some (.b (.h 40)), some (.b (.h 41)), some (.i .i64 (.h 42)), some (.b (.h 43)), some (.b (.h 44)), some (.b (.h 45)), some (.b (.h 46)), some (.b (.h 47)), some (.i .i64 (.h 48)), some (.b (.h 49)), some (.b (.h 50)), some (.b (.h 51)), some (.b (.h 52)), some (.b (.h 53)), some (.i .i64 (.h 54)), some (.i .i64 (.h 55))])], [.i, .b, .b, .b, .b, .b, .i, .b, .b, .b, .b, .b, .i, .b, .b, .b, .b, .b, .i, .b, .b, .b, .b, .b, .i, .b, .b, .b, .b, .b, .i, .b, .b, .b, .b, .b, .i, .b, .b, .b, .b, .b, .i, .b, .b, .b, .b, .b, .i, .b, .b, .b, .b, .b, .i, .i, .i], .t [], [some (.c true [some (.i .i64 (.h 0)), some (.b (.h 1)), some (.b (.h 2)), some (.b (.h 3)), some (.b (.h 4)), some (.b (.h 5)), some (.i .i64 (.h 6)), some (.b (.h 7)), some (.b (.h 8)), some (.b (.h 9)), some (.b (.h 10)), some (.b (.h 11)), some (.i .i64 (.h 12)), some (.b (.h 13)), some (.b (.h 14)), some (.b (.h 15)), some (.b (.h 16)), some (.b (.h 17)), some (.i .i64 (.h 18)), some (.b (.h 19)), some (.b (.h 20)), some (.b (.h 21)), some (.b (.h 22)), some (.b (.h 23)), some (.i .i64 (.h 24)), some (.b (.h 25)), some (.b (.h 26)), some (.b (.h 27)), some (.b (.h 28)), some (.b (.h 29)), some (.i .i64 (.h 30)), some (.b (.h 31)), some (.b (.h 32)), some (.b (.h 33)), some (.b (.h 34)), some (.b (.h 35)), some (.i .i64 (.h 36)), some (.b (.h 37)), some (.b (.h 38)), some (.b (.h 39)), some (.b (.h 40)), some (.b (.h 41)), some (.i .i64 (.h 42)), some (.b (.h 43)), some (.b (.h 44)), some (.b (.h 45)), some (.b (.h 46)), some (.b (.h 47)), some (.i .i64 (.h 48)), some (.b (.h 49)), some (.b (.h 50)), some (.b (.h 51)), some (.b (.h 52)), some (.b (.h 53)), some (.i .i64 (.h 54)), some (.i .i64 (.h 55))])], [.i, .b, .b, .b, .b, .b, .i, .b, .b, .b, .b, .b, .i, .b, .b, .b, .b, .b, .i, .b, .b, .b, .b, .b, .i, .b, .b, .b, .b, .b, .i, .b, .b, .b, .b, .b, .i, .b, .b, .b, .b, .b, .i, .b, .b, .b, .b, .b, .i, .b, .b, .b, .b, .b, .i, .i], true⟩
def o13 : Out := ⟨[(57, .geq (.r 56) (.z 0)), (58, .lss (.r 56) (.z 9)), (59, .selb [.r 2, .r 8, .r 14, .r 20, .r 26, .r 32, .r 38, .r 44, .r 50] (.r 56)), (60, .selb [.r 1, .r 7, .r 13, .r 19, .r 25, .r 31, .r 37, .r 43, .r 49] (.r 56)), (61, .selb [.r 3, .r 9, .r 15, .r 21, .r 27, .r 33, .r 39, .r 45, .r 51] (.r 56)), (62, .not (.r 61)), (63, .and (.r 60) (.r 62)), (64, .or (.r 59) (.r 63)), (65, .eql (.r 56) (.z 0)), (66, .iteb (.r 65) (.r 64) (.r 2)), (67, .eql (.r 56) (.z 1)), (68, .iteb (.r 67) (.r 64) (.r 8)), (69, .eql (.r 56) (.z 2)), (70, .iteb (.r 69) (.r 64) (.r 14)), (71, .eql (.r 56) (.z 3)), (72, .iteb (.r 71) (.r 64) (.r 20)), (73, .eql (.r 56) (.z 4)), (74, .iteb (.r 73) (.r 64) (.r 26)), (75, .eql (.r 56) (.z 5)), (76, .iteb (.r 75) (.r 64) (.r 32)), (77, .eql (.r 56) (.z 6)), (78, .iteb (.r 77) (.r 64) (.r 38)), (79, .eql (.r 56) (.z 7)), (80, .iteb (.r 79) (.r 64) (.r 44)), (81, .eql (.r 56) (.z 8)), (82, .iteb (.r 81) (.r 64) (.r 50))],
  [⟨[], .r 57⟩, ⟨[], .r 58⟩],
  [],
  [.r 0, .r 1, .r 66, .r 3, .r 4, .r 5, .r 6, .r 7, .r 68, .r 9, .r 10, .r 11, .r 12, .r 13, .r 70, .r 15, .r 16, .r 17, .r 18, .r 19, .r 72, .r 21, .r 22, .r 23, .r 24, .r 25, .r 74, .r 27, .r 28, .r 29, .r 30, .r 31, .r 76, .r 33, .r 34, .r 35, .r 36, .r 37, .r 78, .r 39, .r 40, .r 41, .r 42, .r 43, .r 80, .r 45, .r 46, .r 47, .r 48, .r 49, .r 82, .r 51, .r 52, .r 53, .r 54, .r 55]⟩
noncomputable def p13 (x56 : Int) : Bool :=
  let x57 := decide (x56 ≥ 0)
  let x58 := decide (x56 < 9)
  [ow [] x57, ow [] x58].all id
noncomputable def r13_0 (x0 : Int) : Int :=
  x0
noncomputable def r13_1 (x1 : Bool) : Bool :=
  x1
noncomputable def r13_2 (x1 : Bool) (x2 : Bool) (x3 : Bool) (x7 : Bool) (x8 : Bool) (x9 : Bool) (x13 : Bool) (x14 : Bool) (x15 : Bool) (x19 : Bool) (x20 : Bool) (x21 : Bool) (x25 : Bool) (x26 : Bool) (x27 : Bool) (x31 : Bool) (x32 : Bool) (x33 : Bool) (x37 : Bool) (x38 : Bool) (x39 : Bool) (x43 : Bool) (x44 : Bool) (x45 : Bool) (x49 : Bool) (x50 : Bool) (x51 : Bool) (x56 : Int) : Bool :=
  let x59 := [x2, x8, x14, x20, x26, x32, x38, x44, x50].getD (Int.toNat x56) false
  let x60 := [x1, x7, x13, x19, x25, x31, x37, x43, x49].getD (Int.toNat x56) false
  let x61 := [x3, x9, x15, x21, x27, x33, x39, x45, x51].getD (Int.toNat x56) false
  let x62 := !x61
  let x63 := x60 && x62
  let x64 := x59 || x63
  let x65 := x56 == 0
  let x66 := bif x65 then x64 else x2
  x66
noncomputable def r13_3 (x3 : Bool) : Bool :=
  x3
noncomputable def r13_4 (x4 : Bool) : Bool :=
  x4
noncomputable def r13_5 (x5 : Bool) : Bool :=
  x5
noncomputable def r13_6 (x6 : Int) : Int :=
  x6
noncomputable def r13_7 (x7 : Bool) : Bool :=
  x7
noncomputable def r13_8 (x1 : Bool) (x2 : Bool) (x3 : Bool) (x7 : Bool) (x8 : Bool) (x9 : Bool) (x13 : Bool) (x14 : Bool) (x15 : Bool) (x19 : Bool) (x20 : Bool) (x21 : Bool) (x25 : Bool) (x26 : Bool) (x27 : Bool) (x31 : Bool) (x32 : Bool) (x33 : Bool) (x37 : Bool) (x38 : Bool) (x39 : Bool) (x43 : Bool) (x44 : Bool) (x45 : Bool) (x49 : Bool) (x50 : Bool) (x51 : Bool) (x56 : Int) : Bool :=
  let x59 := [x2, x8, x14, x20, x26, x32, x38, x44, x50].getD (Int.toNat x56) false
  let x60 := [x1, x7, x13, x19, x25, x31, x37, x43, x49].getD (Int.toNat x56) false
  let x61 := [x3, x9, x15, x21, x27, x33, x39, x45, x51].getD (Int.toNat x56) false
  let x62 := !x61
  let x63 := x60 && x62
  let x64 := x59 || x63
  let x67 := x56 == 1
  let x68 := bif x67 then x64 else x8
  x68
noncomputable def r13_9 (x9 : Bool) : Bool :=
  x9
noncomputable def r13_10 (x10 : Bool) : Bool :=
  x10
noncomputable def r13_11 (x11 : Bool) : Bool :=
  x11
noncomputable def r13_12 (x12 : Int) : Int :=
  x12
noncomputable def r13_13 (x13 : Bool) : Bool :=
  x13
noncomputable def r13_14 (x1 : Bool) (x2 : Bool) (x3 : Bool) (x7 : Bool) (x8 : Bool) (x9 : Bool) (x13 : Bool) (x14 : Bool) (x15 : Bool) (x19 : Bool) (x20 : Bool) (x21 : Bool) (x25 : Bool) (x26 : Bool) (x27 : Bool) (x31 : Bool) (x32 : Bool) (x33 : Bool) (x37 : Bool) (x38 : Bool) (x39 : Bool) (x43 : Bool) (x44 : Bool) (x45 : Bool) (x49 : Bool) (x50 : Bool) (x51 : Bool) (x56 : Int) : Bool :=
  let x59 := [x2, x8, x14, x20, x26, x32, x38, x44, x50].getD (Int.toNat x56) false
  let x60 := [x1, x7, x13, x19, x25, x31, x37, x43, x49].getD (Int.toNat x56) false
  let x61 := [x3, x9, x15, x21, x27, x33, x39, x45, x51].getD (Int.toNat x56) false
  let x62 := !x61
  let x63 := x60 && x62
  let x64 := x59 || x63
  let x69 := x56 == 2
  let x70 := bif x69 then x64 else x14
  x70
noncomputable def r13_15 (x15 : Bool) : Bool :=
  x15
noncomputable def r13_16 (x16 : Bool) : Bool :=
  x16
noncomputable def r13_17 (x17 : Bool) : Bool :=
  x17
noncomputable def r13_18 (x18 : Int) : Int :=
  x18
noncomputable def r13_19 (x19 : Bool) : Bool :=
  x19
noncomputable def r13_20 (x1 : Bool) (x2 : Bool) (x3 : Bool) (x7 : Bool) (x8 : Bool) (x9 : Bool) (x13 : Bool) (x14 : Bool) (x15 : Bool) (x19 : Bool) (x20 : Bool) (x21 : Bool) (x25 : Bool) (x26 : Bool) (x27 : Bool) (x31 : Bool) (x32 : Bool) (x33 : Bool) (x37 : Bool) (x38 : Bool) (x39 : Bool) (x43 : Bool) (x44 : Bool) (x45 : Bool) (x49 : Bool) (x50 : Bool) (x51 : Bool) (x56 : Int) : Bool :=
  let x59 := [x2, x8, x14, x20, x26, x32, x38, x44, x50].getD (Int.toNat x56) false
  let x60 := [x1, x7, x13, x19, x25, x31, x37, x43, x49].getD (Int.toNat x56) false
  let x61 := [x3, x9, x15, x21, x27, x33, x39, x45, x51].getD (Int.toNat x56) false
  let x62 := !x61
  let x63 := x60 && x62
  let x64 := x59 || x63
  let x71 := x56 == 3
  let x72 := bif x71 then x64 else x20
  x72
noncomputable def r13_21 (x21 : Bool) : Bool :=
  x21
noncomputable def r13_22 (x22 : Bool) : Bool :=
  x22
noncomputable def r13_23 (x23 : Bool) : Bool :=
  x23
noncomputable def r13_24 (x24 : Int) : Int :=
  x24
noncomputable def r13_25 (x25 : Bool) : Bool :=
  x25
noncomputable def r13_26 (x1 : Bool) (x2 : Bool) (x3 : Bool) (x7 : Bool) (x8 : Bool) (x9 : Bool) (x13 : Bool) (x14 : Bool) (x15 : Bool) (x19 : Bool) (x20 : Bool) (x21 : Bool) (x25 : Bool) (x26 : Bool) (x27 : Bool) (x31 : Bool) (x32 : Bool) (x33 : Bool) (x37 : Bool) (x38 : Bool) (x39 : Bool) (x43 : Bool) (x44 : Bool) (x45 : Bool) (x49 : Bool) (x50 : Bool) (x51 : Bool) (x56 : Int) : Bool :=
  let x59 := [x2, x8, x14, x20, x26, x32, x38, x44, x50].getD (Int.toNat x56) false
  let x60 := [x1, x7, x13, x19, x25, x31, x37, x43, x49].getD (Int.toNat x56) false
  let x61 := [x3, x9, x15, x21, x27, x33, x39, x45, x51].getD (Int.toNat x56) false
  let x62 := !x61
  let x63 := x60 && x62
  let x64 := x59 || x63
  let x73 := x56 == 4
  let x74 := bif x73 then x64 else x26
  x74
noncomputable def r13_27 (x27 : Bool) : Bool :=
  x27
noncomputable def r13_28 (x28 : Bool) : Bool :=
  x28
noncomputable def r13_29 (x29 : Bool) : Bool :=
  x29
noncomputable def r13_30 (x30 : Int) : Int :=
  x30
noncomputable def r13_31 (x31 : Bool) : Bool :=
  x31
noncomputable def r13_32 (x1 : Bool) (x2 : Bool) (x3 : Bool) (x7 : Bool) (x8 : Bool) (x9 : Bool) (x13 : Bool) (x14 : Bool) (x15 : Bool) (x19 : Bool) (x20 : Bool) (x21 : Bool) (x25 : Bool) (x26 : Bool) (x27 : Bool) (x31 : Bool) (x32 : Bool) (x33 : Bool) (x37 : Bool) (x38 : Bool) (x39 : Bool) (x43 : Bool) (x44 : Bool) (x45 : Bool) (x49 : Bool) (x50 : Bool) (x51 : Bool) (x56 : Int) : Bool :=
  let x59 := [x2, x8, x14, x20, x26, x32, x38, x44, x50].getD (Int.toNat x56) false
  let x60 := [x1, x7, x13, x19, x25, x31, x37, x43, x49].getD (Int.toNat x56) false
  let x61 := [x3, x9, x15, x21, x27, x33, x39, x45, x51].getD (Int.toNat x56) false
  let x62 := !x61
  let x63 := x60 && x62
  let x64 := x59 || x63
  let x75 := x56 == 5
  let x76 := bif x75 then x64 else x32
  x76
noncomputable def r13_33 (x33 : Bool) : Bool :=
  x33
noncomputable def r13_34 (x34 : Bool) : Bool :=
  x34
noncomputable def r13_35 (x35 : Bool) : Bool :=
  x35
noncomputable def r13_36 (x36 : Int) : Int :=
  x36
noncomputable def r13_37 (x37 : Bool) : Bool :=
  x37
noncomputable def r13_38 (x1 : Bool) (x2 : Bool) (x3 : Bool) (x7 : Bool) (x8 : Bool) (x9 : Bool) (x13 : Bool) (x14 : Bool) (x15 : Bool) (x19 : Bool) (x20 : Bool) (x21 : Bool) (x25 : Bool) (x26 : Bool) (x27 : Bool) (x31 : Bool) (x32 : Bool) (x33 : Bool) (x37 : Bool) (x38 : Bool) (x39 : Bool) (x43 : Bool) (x44 : Bool) (x45 : Bool) (x49 : Bool) (x50 : Bool) (x51 : Bool) (x56 : Int) : Bool :=
  let x59 := [x2, x8, x14, x20, x26, x32, x38, x44, x50].getD (Int.toNat x56) false
  let x60 := [x1, x7, x13, x19, x25, x31, x37, x43, x49].getD (Int.toNat x56) false
  let x61 := [x3, x9, x15, x21, x27, x33, x39, x45, x51].getD (Int.toNat x56) false
  let x62 := !x61
  let x63 := x60 && x62
  let x64 := x59 || x63
  let x77 := x56 == 6
  let x78 := bif x77 then x64 else x38
  x78
noncomputable def r13_39 (x39 : Bool) : Bool :=
  x39
noncomputable def r13_40 (x40 : Bool) : Bool :=
  x40
noncomputable def r13_41 (x41 : Bool) : Bool :=
  x41
noncomputable def r13_42 (x42 : Int) : Int :=
  x42
noncomputable def r13_43 (x43 : Bool) : Bool :=
  x43
noncomputable def r13_44 (x1 : Bool) (x2 : Bool) (x3 : Bool) (x7 : Bool) (x8 : Bool) (x9 : Bool) (x13 : Bool) (x14 : Bool) (x15 : Bool) (x19 : Bool) (x20 : Bool) (x21 : Bool) (x25 : Bool) (x26 : Bool) (x27 : Bool) (x31 : Bool) (x32 : Bool) (x33 : Bool) (x37 : Bool) (x38 : Bool) (x39 : Bool) (x43 : Bool) (x44 : Bool) (x45 : Bool) (x49 : Bool) (x50 : Bool) (x51 : Bool) (x56 : Int) : Bool :=
  let x59 := [x2, x8, x14, x20, x26, x32, x38, x44, x50].getD (Int.toNat x56) false
  let x60 := [x1, x7, x13, x19, x25, x31, x37, x43, x49].getD (Int.toNat x56) false
  let x61 := [x3, x9, x15, x21, x27, x33, x39, x45, x51].getD (Int.toNat x56) false
  let x62 := !x61
  let x63 := x60 && x62
  let x64 := x59 || x63
  let x79 := x56 == 7
  let x80 := bif x79 then x64 else x44
  x80
noncomputable def r13_45 (x45 : Bool) : Bool :=
  x45
noncomputable def r13_46 (x46 : Bool) : Bool :=
  x46
noncomputable def r13_47 (x47 : Bool) : Bool :=
  x47
noncomputable def r13_48 (x48 : Int) : Int :=
  x48
noncomputable def r13_49 (x49 : Bool) : Bool :=
  x49
noncomputable def r13_50 (x1 : Bool) (x2 : Bool) (x3 : Bool) (x7 : Bool) (x8 : Bool) (x9 : Bool) (x13 : Bool) (x14 : Bool) (x15 : Bool) (x19 : Bool) (x20 : Bool) (x21 : Bool) (x25 : Bool) (x26 : Bool) (x27 : Bool) (x31 : Bool) (x32 : Bool) (x33 : Bool) (x37 : Bool) (x38 : Bool) (x39 : Bool) (x43 : Bool) (x44 : Bool) (x45 : Bool) (x49 : Bool) (x50 : Bool) (x51 : Bool) (x56 : Int) : Bool :=
  let x59 := [x2, x8, x14, x20, x26, x32, x38, x44, x50].getD (Int.toNat x56) false
  let x60 := [x1, x7, x13, x19, x25, x31, x37, x43, x49].getD (Int.toNat x56) false
  let x61 := [x3, x9, x15, x21, x27, x33, x39, x45, x51].getD (Int.toNat x56) false
  let x62 := !x61
  let x63 := x60 && x62
  let x64 := x59 || x63
  let x81 := x56 == 8
  let x82 := bif x81 then x64 else x50
  x82
noncomputable def r13_51 (x51 : Bool) : Bool :=
  x51
noncomputable def r13_52 (x52 : Bool) : Bool :=
  x52
noncomputable def r13_53 (x53 : Bool) : Bool :=
  x53
noncomputable def r13_54 (x54 : Int) : Int :=
  x54
noncomputable def r13_55 (x55 : Int) : Int :=
  x55
noncomputable def g13 (ds : List DV) : List DV := [.b (p13 (dget ds 56).toI), .i (r13_0 (dget ds 0).toI), .b (r13_1 (dget ds 1).toB), .b (r13_2 (dget ds 1).toB (dget ds 2).toB (dget ds 3).toB (dget ds 7).toB (dget ds 8).toB (dget ds 9).toB (dget ds 13).toB (dget ds 14).toB (dget ds 15).toB (dget ds 19).toB (dget ds 20).toB (dget ds 21).toB (dget ds 25).toB (dget ds 26).toB (dget ds 27).toB (dget ds 31).toB (dget ds 32).toB (dget ds 33).toB (dget ds 37).toB (dget ds 38).toB (dget ds 39).toB (dget ds 43).toB (dget ds 44).toB (dget ds 45).toB (dget ds 49).toB (dget ds 50).toB (dget ds 51).toB (dget ds 56).toI), .b (r13_3 (dget ds 3).toB), .b (r13_4 (dget ds 4).toB), .b (r13_5 (dget ds 5).toB), .i (r13_6 (dget ds 6).toI), .b (r13_7 (dget ds 7).toB), .b (r13_8 (dget ds 1).toB (dget ds 2).toB (dget ds 3).toB (dget ds 7).toB (dget ds 8).toB (dget ds 9).toB (dget ds 13).toB (dget ds 14).toB (dget ds 15).toB (dget ds 19).toB (dget ds 20).toB (dget ds 21).toB (dget ds 25).toB (dget ds 26).toB (dget ds 27).toB (dget ds 31).toB (dget ds 32).toB (dget ds 33).toB (dget ds 37).toB (dget ds 38).toB (dget ds 39).toB (dget ds 43).toB (dget ds 44).toB (dget ds 45).toB (dget ds 49).toB (dget ds 50).toB (dget ds 51).toB (dget ds 56).toI), .b (r13_9 (dget ds 9).toB), .b (r13_10 (dget ds 10).toB), .b (r13_11 (dget ds 11).toB), .i (r13_12 (dget ds 12).toI), .b (r13_13 (dget ds 13).toB), .b (r13_14 (dget ds 1).toB (dget ds 2).toB (dget ds 3).toB (dget ds 7).toB (dget ds 8).toB (dget ds 9).toB (dget ds 13).toB (dget ds 14).toB (dget ds 15).toB (dget ds 19).toB (dget ds 20).toB (dget ds 21).toB (dget ds 25).toB (dget ds 26).toB (dget ds 27).toB (dget ds 31).toB (dget ds 32).toB (dget ds 33).toB (dget ds 37).toB (dget ds 38).toB (dget ds 39).toB (dget ds 43).toB (dget ds 44).toB (dget ds 45).toB (dget ds 49).toB (dget ds 50).toB (dget ds 51).toB (dget ds 56).toI), .b (r13_15 (dget ds 15).toB), .b (r13_16 (dget ds 16).toB), .b (r13_17 (dget ds 17).toB), .i (r13_18 (dget ds 18).toI), .b (r13_19 (dget ds 19).toB), .b (r13_20 (dget ds 1).toB (dget ds 2).toB (dget ds 3).toB (dget ds 7).toB (dget ds 8).toB (dget ds 9).toB (dget ds 13).toB (dget ds 14).toB (dget ds 15).toB (dget ds 19).toB (dget ds 20).toB (dget ds 21).toB (dget ds 25).toB (dget ds 26).toB (dget ds 27).toB (dget ds 31).toB (dget ds 32).toB (dget ds 33).toB (dget ds 37).toB (dget ds 38).toB (dget ds 39).toB (dget ds 43).toB (dget ds 44).toB (dget ds 45).toB (dget ds 49).toB (dget ds 50).toB (dget ds 51).toB (dget ds 56).toI), .b (r13_21 (dget ds 21).toB), .b (r13_22 (dget ds 22).toB), .b (r13_23 (dget ds 23).toB), .i (r13_24 (dget ds 24).toI), .b (r13_25 (dget ds 25).toB), .b (r13_26 (dget ds 1).toB (dget ds 2).toB (dget ds 3).toB (dget ds 7).toB (dget ds 8).toB (dget ds 9).toB (dget ds 13).toB (dget ds 14).toB (dget ds 15).toB (dget ds 19).toB (dget ds 20).toB (dget ds 21).toB (dget ds 25).toB (dget ds 26).toB (dget ds 27).toB (dget ds 31).toB (dget ds 32).toB (dget ds 33).toB (dget ds 37).toB (dget ds 38).toB (dget ds 39).toB (dget ds 43).toB (dget ds 44).toB (dget ds 45).toB (dget ds 49).toB (dget ds 50).toB (dget ds 51).toB (dget ds 56).toI), .b (r13_27 (dget ds 27).toB), .b (r13_28 (dget ds 28).toB), .b (r13_29 (dget ds 29).toB), .i (r13_30 (dget ds 30).toI), .b (r13_31 (dget ds 31).toB), .b (r13_32 (dget ds 1).toB (dget ds 2).toB (dget ds 3).toB (dget ds 7).toB (dget ds 8).toB (dget ds 9).toB (dget ds 13).toB (dget ds 14).toB (dget ds 15).toB (dget ds 19).toB (dget ds 20).toB (dget ds 21).toB (dget ds 25).toB (dget ds 26).toB (dget ds 27).toB (dget ds 31).toB (dget ds 32).toB (dget ds 33).toB (dget ds 37).toB (dget ds 38).toB (dget ds 39).toB (dget ds 43).toB (dget ds 44).toB (dget ds 45).toB (dget ds 49).toB (dget ds 50).toB (dget ds 51).toB (dget ds 56).toI), .b (r13_33 (dget ds 33).toB), .b (r13_34 (dget ds 34).toB), .b (r13_35 (dget ds 35).toB), .i (r13_36 (dget ds 36).toI), .b (r13_37 (dget ds 37).toB), .b (r13_38 (dget ds 1).toB (dget ds 2).toB (dget ds 3).toB (dget ds 7).toB (dget ds 8).toB (dget ds 9).toB (dget ds 13).toB (dget ds 14).toB (dget ds 15).toB (dget ds 19).toB (dget ds 20).toB (dget ds 21).toB (dget ds 25).toB (dget ds 26).toB (dget ds 27).toB (dget ds 31).toB (dget ds 32).toB (dget ds 33).toB (dget ds 37).toB (dget ds 38).toB (dget ds 39).toB (dget ds 43).toB (dget ds 44).toB (dget ds 45).toB (dget ds 49).toB (dget ds 50).toB (dget ds 51).toB (dget ds 56).toI), .b (r13_39 (dget ds 39).toB), .b (r13_40 (dget ds 40).toB), .b (r13_41 (dget ds 41).toB), .i (r13_42 (dget ds 42).toI), .b (r13_43 (dget ds 43).toB), .b (r13_44 (dget ds 1).toB (dget ds 2).toB (dget ds 3).toB (dget ds 7).toB (dget ds 8).toB (dget ds 9).toB (dget ds 13).toB (dget ds 14).toB (dget ds 15).toB (dget ds 19).toB (dget ds 20).toB (dget ds 21).toB (dget ds 25).toB (dget ds 26).toB (dget ds 27).toB (dget ds 31).toB (dget ds 32).toB (dget ds 33).toB (dget ds 37).toB (dget ds 38).toB (dget ds 39).toB (dget ds 43).toB (dget ds 44).toB (dget ds 45).toB (dget ds 49).toB (dget ds 50).toB (dget ds 51).toB (dget ds 56).toI), .b (r13_45 (dget ds 45).toB), .b (r13_46 (dget ds 46).toB), .b (r13_47 (dget ds 47).toB), .i (r13_48 (dget ds 48).toI), .b (r13_49 (dget ds 49).toB), .b (r13_50 (dget ds 1).toB (dget ds 2).toB (dget ds 3).toB (dget ds 7).toB (dget ds 8).toB (dget ds 9).toB (dget ds 13).toB (dget ds 14).toB (dget ds 15).toB (dget ds 19).toB (dget ds 20).toB (dget ds 21).toB (dget ds 25).toB (dget ds 26).toB (dget ds 27).toB (dget ds 31).toB (dget ds 32).toB (dget ds 33).toB (dget ds 37).toB (dget ds 38).toB (dget ds 39).toB (dget ds 43).toB (dget ds 44).toB (dget ds 45).toB (dget ds 49).toB (dget ds 50).toB (dget ds 51).toB (dget ds 56).toI), .b (r13_51 (dget ds 51).toB), .b (r13_52 (dget ds 52).toB), .b (r13_53 (dget ds 53).toB), .i (r13_54 (dget ds 54).toI), .i (r13_55 (dget ds 55).toI)]
def S13 : Sigs := ⟨[], [], [], 1⟩
theorem ev13 : evFn Try.prog S13 2000 Try.f13 s13 = some o13 := by kernel_rfl

/-! (*tandem/plic.Plic).best -/
def s14 : Sig := ⟨[.s (.one (.p 0 (.c 0))), .s (.one (.i .i64 (.h 56)))], [some (.c false [some (.i .i64 (.h 0)), some (.b (.h 1)), some (.b (.h 2)), some (.b (.h 3)), some (.b (.h 4)), some (.b (.h 5)), some (.i .i64 (.h 6)), some (.b (.h 7)), some (.b (.h 8)), some (.b (.h 9)), some (.b (.h 10)), some (.b (.h 11)), some (.i .i64 (.h 12)), some (.b (.h 13)), some (.b (.h 14)), some (.b (.h 15)), some (.b (.h 16)), some (.b (.h 17)), some (.i .i64 (.h 18)), some (.b (.h 19)), some (.b (.h 20)), some (.b (.h 21)), some (.b (.h 22)), some (.b (.h 23)), some (.i .i64 (.h 24)), some (.b (.h 25)), some (.b (.h 26)), some (.b (.h 27)), some (.b (.h 28)), some (.b (.h 29)), some (.i .i64 (.h 30)), some (.b (.h 31)), some (.b (.h 32)), some (.b (.h 33)), some (.b (.h 34)), some (.b (.h 35)), some (.i .i64 (.h 36)), some (.b (.h 37)), some (.b (.h 38)), some (.b (.h 39)), some (.b (.h 40)), some (.b (.h 41)), some (.i .i64 (.h 42)), some (.b (.h 43)), some (.b (.h 44)), some (.b (.h 45)), some (.b (.h 46)), some (.b (.h 47)), some (.i .i64 (.h 48)), some (.b (.h 49)), some (.b (.h 50)), some (.b (.h 51)), some (.b (.h 52)), some (.b (.h 53)), some (.i .i64 (.h 54)), some (.i .i64 (.h 55))])], [.i, .b, .b, .b, .b, .b, .i, .b, .b, .b, .b, .b, .i, .b, .b, .b, .b, .b, .i, .b, .b, .b, .b, .b, .i, .b, .b, .b, .b, .b, .i, .b, .b, .b, .b, .b, .i, .b, .b, .b, .b, .b, .i, .b, .b, .b, .b, .b, .i, .b, .b, .b, .b, .b, .i, .i, .i], .s (.one (.i .i64 (.h 0))), [], [.i], true⟩
def o14 : Out := ⟨[(57, .not (.r 8)), (58, .geq (.r 56) (.z 0)), (59, .lss (.r 56) (.z 2)), (60, .selb [.r 10, .r 11] (.r 56)), (61, .not (.r 60)), (62, .or (.r 57) (.r 61)), (63, .not (.r 62)), (64, .gtr (.r 6) (.r 0)), (65, .itei (.r 64) (.z 1) (.z 0)), (66, .itei (.r 63) (.r 65) (.z 0)), (67, .not (.r 14)), (68, .geq (.r 56) (.z 0)), (69, .lss (.r 56) (.z 2)), (70, .selb [.r 16, .r 17] (.r 56)), (71, .not (.r 70)), (72, .or (.r 67) (.r 71)), (73, .not (.r 72)), (74, .geq (.r 66) (.z 0)), (75, .lss (.r 66) (.z 9)), (76, .seli [.r 0, .r 6, .r 12, .r 18, .r 24, .r 30, .r 36, .r 42, .r 48] (.r 66)), (77, .gtr (.r 12) (.r 76)), (78, .itei (.r 77) (.z 2) (.r 66)), (79, .itei (.r 73) (.r 78) (.r 66)), (80, .not (.r 20)), (81, .geq (.r 56) (.z 0)), (82, .lss (.r 56) (.z 2)), (83, .selb [.r 22, .r 23] (.r 56)), (84, .not (.r 83)), (85, .or (.r 80) (.r 84)), (86, .not (.r 85)), (87, .geq (.r 79) (.z 0)), (88, .lss (.r 79) (.z 9)), (89, .seli [.r 0, .r 6, .r 12, .r 18, .r 24, .r 30, .r 36, .r 42, .r 48] (.r 79)), (90, .gtr (.r 18) (.r 89)), (91, .itei (.r 90) (.z 3) (.r 79)), (92, .itei (.r 86) (.r 91) (.r 79)), (93, .not (.r 26)), (94, .geq (.r 56) (.z 0)), (95, .lss (.r 56) (.z 2)), (96, .selb [.r 28, .r 29] (.r 56)), (97, .not (.r 96)), (98, .or (.r 93) (.r 97)), (99, .not (.r 98)), (100, .geq (.r 92) (.z 0)), (101, .lss (.r 92) (.z 9)), (102, .seli [.r 0, .r 6, .r 12, .r 18, .r 24, .r 30, .r 36, .r 42, .r 48] (.r 92)), (103, .gtr (.r 24) (.r 102)), (104, .itei (.r 103) (.z 4) (.r 92)), (105, .itei (.r 99) (.r 104) (.r 92)), (106, .not (.r 32)), (107, .geq (.r 56) (.z 0)), (108, .lss (.r 56) (.z 2)), (109, .selb [.r 34, .r 35] (.r 56)), (110, .not (.r 109)), (111, .or (.r 106) (.r 110)), (112, .not (.r 111)), (113, .geq (.r 105) (.z 0)), (114, .lss (.r 105) (.z 9)), (115, .seli [.r 0, .r 6, .r 12, .r 18, .r 24, .r 30, .r 36, .r 42, .r 48] (.r 105)), (116, .gtr (.r 30) (.r 115)), (117, .itei (.r 116) (.z 5) (.r 105)), (118, .itei (.r 112) (.r 117) (.r 105)), (119, .not (.r 38)), (120, .geq (.r 56) (.z 0)), (121, .lss (.r 56) (.z 2)), (122, .selb [.r 40, .r 41] (.r 56)), (123, .not (.r 122)), (124, .or (.r 119) (.r 123)), (125, .not (.r 124)), (126, .geq (.r 118) (.z 0)), (127, .lss (.r 118) (.z 9)), (128, .seli [.r 0, .r 6, .r 12, .r 18, .r 24, .r 30, .r 36, .r 42, .r 48] (.r 118)), (129, .gtr (.r 36) (.r 128)), (130, .itei (.r 129) (.z 6) (.r 118)), (131, .itei (.r 125) (.r 130) (.r 118)), (132, .not (.r 44)), (133, .geq (.r 56) (.z 0)), (134, .lss (.r 56) (.z 2)), (135, .selb [.r 46, .r 47] (.r 56)), (136, .not (.r 135)), (137, .or (.r 132) (.r 136)), (138, .not (.r 137)), (139, .geq (.r 131) (.z 0)), (140, .lss (.r 131) (.z 9)), (141, .seli [.r 0, .r 6, .r 12, .r 18, .r 24, .r 30, .r 36, .r 42, .r 48] (.r 131)), (142, .gtr (.r 42) (.r 141)), (143, .itei (.r 142) (.z 7) (.r 131)), (144, .itei (.r 138) (.r 143) (.r 131)), (145, .not (.r 50)), (146, .geq (.r 56) (.z 0)), (147, .lss (.r 56) (.z 2)), (148, .selb [.r 52, .r 53] (.r 56)), (149, .not (.r 148)), (150, .or (.r 145) (.r 149)), (151, .not (.r 150)), (152, .geq (.r 144) (.z 0)), (153, .lss (.r 144) (.z 9)), (154, .seli [.r 0, .r 6, .r 12, .r 18, .r 24, .r 30, .r 36, .r 42, .r 48] (.r 144)), (155, .gtr (.r 48) (.r 154)), (156, .itei (.r 155) (.z 8) (.r 144)), (157, .itei (.r 151) (.r 156) (.r 144))],
  [⟨[(.r 57, false)], .r 58⟩, ⟨[(.r 57, false)], .r 59⟩, ⟨[(.r 67, false)], .r 68⟩, ⟨[(.r 67, false)], .r 69⟩, ⟨[(.r 73, true)], .r 74⟩, ⟨[(.r 73, true)], .r 75⟩, ⟨[(.r 80, false)], .r 81⟩, ⟨[(.r 80, false)], .r 82⟩, ⟨[(.r 86, true)], .r 87⟩, ⟨[(.r 86, true)], .r 88⟩, ⟨[(.r 93, false)], .r 94⟩, ⟨[(.r 93, false)], .r 95⟩, ⟨[(.r 99, true)], .r 100⟩, ⟨[(.r 99, true)], .r 101⟩, ⟨[(.r 106, false)], .r 107⟩, ⟨[(.r 106, false)], .r 108⟩, ⟨[(.r 112, true)], .r 113⟩, ⟨[(.r 112, true)], .r 114⟩, ⟨[(.r 119, false)], .r 120⟩, ⟨[(.r 119, false)], .r 121⟩, ⟨[(.r 125, true)], .r 126⟩, ⟨[(.r 125, true)], .r 127⟩, ⟨[(.r 132, false)], .r 133⟩, ⟨[(.r 132, false)], .r 134⟩, ⟨[(.r 138, true)], .r 139⟩, ⟨[(.r 138, true)], .r 140⟩, ⟨[(.r 145, false)], .r 146⟩, ⟨[(.r 145, false)], .r 147⟩, ⟨[(.r 151, true)], .r 152⟩, ⟨[(.r 151, true)], .r 153⟩],
  [],
  [.r 157]⟩
noncomputable def p14 (x0 : Int) (x6 : Int) (x8 : Bool) (x10 : Bool) (x11 : Bool) (x12 : Int) (x14 : Bool) (x16 : Bool) (x17 : Bool) (x18 : Int) (x20 : Bool) (x22 : Bool) (x23 : Bool) (x24 : Int) (x26 : Bool) (x28 : Bool) (x29 : Bool) (x30 : Int) (x32 : Bool) (x34 : Bool) (x35 : Bool) (x36 : Int) (x38 : Bool) (x40 : Bool) (x41 : Bool) (x42 : Int) (x44 : Bool) (x46 : Bool) (x47 : Bool) (x48 : Int) (x50 : Bool) (x52 : Bool) (x53 : Bool) (x56 : Int) : Bool :=
  let x57 := !x8
  let x58 := decide (x56 ≥ 0)
  let x59 := decide (x56 < 2)
  let x60 := [x10, x11].getD (Int.toNat x56) false
  let x61 := !x60
  let x62 := x57 || x61
  let x63 := !x62
  let x64 := decide (x6 > x0)
  let x65 := bif x64 then 1 else 0
  let x66 := bif x63 then x65 else 0
  let x67 := !x14
  let x68 := decide (x56 ≥ 0)
  let x69 := decide (x56 < 2)
  let x70 := [x16, x17].getD (Int.toNat x56) false
  let x71 := !x70
  let x72 := x67 || x71
  let x73 := !x72
  let x74 := decide (x66 ≥ 0)
  let x75 := decide (x66 < 9)
  let x76 := [x0, x6, x12, x18, x24, x30, x36, x42, x48].getD (Int.toNat x66) 0
  let x77 := decide (x12 > x76)
  let x78 := bif x77 then 2 else x66
  let x79 := bif x73 then x78 else x66
  let x80 := !x20
  let x81 := decide (x56 ≥ 0)
  let x82 := decide (x56 < 2)
  let x83 := [x22, x23].getD (Int.toNat x56) false
  let x84 := !x83
  let x85 := x80 || x84
  let x86 := !x85
  let x87 := decide (x79 ≥ 0)
  let x88 := decide (x79 < 9)
  let x89 := [x0, x6, x12, x18, x24, x30, x36, x42, x48].getD (Int.toNat x79) 0
  let x90 := decide (x18 > x89)
  let x91 := bif x90 then 3 else x79
  let x92 := bif x86 then x91 else x79
  let x93 := !x26
  let x94 := decide (x56 ≥ 0)
  let x95 := decide (x56 < 2)
  let x96 := [x28, x29].getD (Int.toNat x56) false
  let x97 := !x96
  let x98 := x93 || x97
  let x99 := !x98
  let x100 := decide (x92 ≥ 0)
  let x101 := decide (x92 < 9)
  let x102 := [x0, x6, x12, x18, x24, x30, x36, x42, x48].getD (Int.toNat x92) 0
  let x103 := decide (x24 > x102)
  let x104 := bif x103 then 4 else x92
  let x105 := bif x99 then x104 else x92
  let x106 := !x32
  let x107 := decide (x56 ≥ 0)
  let x108 := decide (x56 < 2)
  let x109 := [x34, x35].getD (Int.toNat x56) false
  let x110 := !x109
  let x111 := x106 || x110
  let x112 := !x111
  let x113 := decide (x105 ≥ 0)
  let x114 := decide (x105 < 9)
  let x115 := [x0, x6, x12, x18, x24, x30, x36, x42, x48].getD (Int.toNat x105) 0
  let x116 := decide (x30 > x115)
  let x117 := bif x116 then 5 else x105
  let x118 := bif x112 then x117 else x105
  let x119 := !x38
  let x120 := decide (x56 ≥ 0)
  let x121 := decide (x56 < 2)
  let x122 := [x40, x41].getD (Int.toNat x56) false
  let x123 := !x122
  let x124 := x119 || x123
  let x125 := !x124
  let x126 := decide (x118 ≥ 0)
  let x127 := decide (x118 < 9)
  let x128 := [x0, x6, x12, x18, x24, x30, x36, x42, x48].getD (Int.toNat x118) 0
  let x129 := decide (x36 > x128)
  let x130 := bif x129 then 6 else x118
  let x131 := bif x125 then x130 else x118
  let x132 := !x44
  let x133 := decide (x56 ≥ 0)
  let x134 := decide (x56 < 2)
  let x135 := [x46, x47].getD (Int.toNat x56) false
  let x136 := !x135
  let x137 := x132 || x136
  let x138 := !x137
  let x139 := decide (x131 ≥ 0)
  let x140 := decide (x131 < 9)
  let x141 := [x0, x6, x12, x18, x24, x30, x36, x42, x48].getD (Int.toNat x131) 0
  let x142 := decide (x42 > x141)
  let x143 := bif x142 then 7 else x131
  let x144 := bif x138 then x143 else x131
  let x145 := !x50
  let x146 := decide (x56 ≥ 0)
  let x147 := decide (x56 < 2)
  let x148 := [x52, x53].getD (Int.toNat x56) false
  let x149 := !x148
  let x150 := x145 || x149
  let x151 := !x150
  let x152 := decide (x144 ≥ 0)
  let x153 := decide (x144 < 9)
  [ow [(x57, false)] x58, ow [(x57, false)] x59, ow [(x67, false)] x68, ow [(x67, false)] x69, ow [(x73, true)] x74, ow [(x73, true)] x75, ow [(x80, false)] x81, ow [(x80, false)] x82, ow [(x86, true)] x87, ow [(x86, true)] x88, ow [(x93, false)] x94, ow [(x93, false)] x95, ow [(x99, true)] x100, ow [(x99, true)] x101, ow [(x106, false)] x107, ow [(x106, false)] x108, ow [(x112, true)] x113, ow [(x112, true)] x114, ow [(x119, false)] x120, ow [(x119, false)] x121, ow [(x125, true)] x126, ow [(x125, true)] x127, ow [(x132, false)] x133, ow [(x132, false)] x134, ow [(x138, true)] x139, ow [(x138, true)] x140, ow [(x145, false)] x146, ow [(x145, false)] x147, ow [(x151, true)] x152, ow [(x151, true)] x153].all id
noncomputable def r14_0 (x0 : Int) (x6 : Int) (x8 : Bool) (x10 : Bool) (x11 : Bool) (x12 : Int) (x14 : Bool) (x16 : Bool) (x17 : Bool) (x18 : Int) (x20 : Bool) (x22 : Bool) (x23 : Bool) (x24 : Int) (x26 : Bool) (x28 : Bool) (x29 : Bool) (x30 : Int) (x32 : Bool) (x34 : Bool) (x35 : Bool) (x36 : Int) (x38 : Bool) (x40 : Bool) (x41 : Bool) (x42 : Int) (x44 : Bool) (x46 : Bool) (x47 : Bool) (x48 : Int) (x50 : Bool) (x52 : Bool) (x53 : Bool) (x56 : Int) : Int :=
  let x57 := !x8
  let x60 := [x10, x11].getD (Int.toNat x56) false
  let x61 := !x60
  let x62 := x57 || x61
  let x63 := !x62
  let x64 := decide (x6 > x0)
  let x65 := bif x64 then 1 else 0
  let x66 := bif x63 then x65 else 0
  let x67 := !x14
  let x70 := [x16, x17].getD (Int.toNat x56) false
  let x71 := !x70
  let x72 := x67 || x71
  let x73 := !x72
  let x76 := [x0, x6, x12, x18, x24, x30, x36, x42, x48].getD (Int.toNat x66) 0
  let x77 := decide (x12 > x76)
  let x78 := bif x77 then 2 else x66
  let x79 := bif x73 then x78 else x66
  let x80 := !x20
  let x83 := [x22, x23].getD (Int.toNat x56) false
  let x84 := !x83
  let x85 := x80 || x84
  let x86 := !x85
  let x89 := [x0, x6, x12, x18, x24, x30, x36, x42, x48].getD (Int.toNat x79) 0
  let x90 := decide (x18 > x89)
  let x91 := bif x90 then 3 else x79
  let x92 := bif x86 then x91 else x79
  let x93 := !x26
  let x96 := [x28, x29].getD (Int.toNat x56) false
  let x97 := !x96
  let x98 := x93 || x97
  let x99 := !x98
  let x102 := [x0, x6, x12, x18, x24, x30, x36, x42, x48].getD (Int.toNat x92) 0
  let x103 := decide (x24 > x102)
  let x104 := bif x103 then 4 else x92
  let x105 := bif x99 then x104 else x92
  let x106 := !x32
  let x109 := [x34, x35].getD (Int.toNat x56) false
  let x110 := !x109
  let x111 := x106 || x110
  let x112 := !x111
  let x115 := [x0, x6, x12, x18, x24, x30, x36, x42, x48].getD (Int.toNat x105) 0
  let x116 := decide (x30 > x115)
  let x117 := bif x116 then 5 else x105
  let x118 := bif x112 then x117 else x105
  let x119 := !x38
  let x122 := [x40, x41].getD (Int.toNat x56) false
  let x123 := !x122
  let x124 := x119 || x123
  let x125 := !x124
  let x128 := [x0, x6, x12, x18, x24, x30, x36, x42, x48].getD (Int.toNat x118) 0
  let x129 := decide (x36 > x128)
  let x130 := bif x129 then 6 else x118
  let x131 := bif x125 then x130 else x118
  let x132 := !x44
  let x135 := [x46, x47].getD (Int.toNat x56) false
  let x136 := !x135
  let x137 := x132 || x136
  let x138 := !x137
  let x141 := [x0, x6, x12, x18, x24, x30, x36, x42, x48].getD (Int.toNat x131) 0
  let x142 := decide (x42 > x141)
  let x143 := bif x142 then 7 else x131
  let x144 := bif x138 then x143 else x131
  let x145 := !x50
  let x148 := [x52, x53].getD (Int.toNat x56) false
  let x149 := !x148
  let x150 := x145 || x149
  let x151 := !x150
  let x154 := [x0, x6, x12, x18, x24, x30, x36, x42, x48].getD (Int.toNat x144) 0
  let x155 := decide (x48 > x154)
  let x156 := bif x155 then 8 else x144
  let x157 := bif x151 then x156 else x144
  x157
noncomputable def g14 (ds : List DV) : List DV := [.b (p14 (dget ds 0).toI (dget ds 6).toI (dget ds 8).toB (dget ds 10).toB (dget ds 11).toB (dget ds 12).toI (dget ds 14).toB (dget ds 16).toB (dget ds 17).toB (dget ds 18).toI (dget ds 20).toB (dget ds 22).toB (dget ds 23).toB (dget ds 24).toI (dget ds 26).toB (dget ds 28).toB (dget ds 29).toB (dget ds 30).toI (dget ds 32).toB (dget ds 34).toB (dget ds 35).toB (dget ds 36).toI (dget ds 38).toB (dget ds 40).toB (dget ds 41).toB (dget ds 42).toI (dget ds 44).toB (dget ds 46).toB (dget ds 47).toB (dget ds 48).toI (dget ds 50).toB (dget ds 52).toB (dget ds 53).toB (dget ds 56).toI), .i (r14_0 (dget ds 0).toI (dget ds 6).toI (dget ds 8).toB (dget ds 10).toB (dget ds 11).toB (dget ds 12).toI (dget ds 14).toB (dget ds 16).toB (dget ds 17).toB (dget ds 18).toI (dget ds 20).toB (dget ds 22).toB (dget ds 23).toB (dget ds 24).toI (dget ds 26).toB (dget ds 28).toB (dget ds 29).toB (dget ds 30).toI (dget ds 32).toB (dget ds 34).toB (dget ds 35).toB (dget ds 36).toI (dget ds 38).toB (dget ds 40).toB (dget ds 41).toB (dget ds 42).toI (dget ds 44).toB (dget ds 46).toB (dget ds 47).toB (dget ds 48).toI (dget ds 50).toB (dget ds 52).toB (dget ds 53).toB (dget ds 56).toI)]
def S14 : Sigs := ⟨[], [], [], 1⟩
theorem ev14 : evFn Try.prog S14 2000 Try.f14 s14 = some o14 := by kernel_rfl

end Go.Proofs.Ythlbgkhbebffaaa
