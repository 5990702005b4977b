/- The functions of the statements, as lists of plain steps (part 0). Written by the generator. -/
import Derived.Test.YthlbgkhbebffaaaR4
import Derived.Test.YthlbgkhbebffaaaProg
import Derived.KernelRfl
namespace Go.Proofs.Ythlbgkhbebffaaa
open Go Go.Sx
set_option maxRecDepth 100000
set_option maxHeartbeats 4000000
abbrev ilt (a b : Int) : Bool := decide (a < b)
abbrev ile (a b : Int) : Bool := decide (a ≤ b)
abbrev igt (a b : Int) : Bool := decide (a > b)
abbrev ige (a b : Int) : Bool := decide (a ≥ b)

def s12 : Sig := ⟨[.s (.one (.i .u64 (.h 0))), .s (.one (.i .i64 (.h 1)))], [], [.i, .i], .t [.one (.i .i64 (.h 0)), .one (.i .i64 (.h 1))], [], [.i, .i], false⟩
def o12 : Out := ⟨[(2, .neq (.r 1) (.z 4)), (3, .leq (.r 0) (.z 32)), (4, .rem .u64 (.r 0) (.z 4)), (5, .eql (.r 4) (.z 0)), (6, .and (.r 3) (.r 5)), (7, .quo .u64 (.r 0) (.z 4)), (8, .conv .i64 (.r 7)), (9, .eql (.r 0) (.z 4096)), (10, .not (.r 9)), (11, .iteb (.r 6) (.t false) (.r 10)), (12, .or (.r 2) (.r 11)), (13, .neq (.r 1) (.z 4)), (14, .eql (.r 0) (.z 8192)), (15, .eql (.r 0) (.z 2097152)), (16, .eql (.r 0) (.z 2097156)), (17, .not (.r 16)), (18, .iteb (.r 15) (.t false) (.r 17)), (19, .iteb (.r 14) (.t false) (.r 18)), (20, .or (.r 13) (.r 19)), (21, .neq (.r 1) (.z 4)), (22, .eql (.r 0) (.z 8320)), (23, .eql (.r 0) (.z 2101248)), (24, .eql (.r 0) (.z 2101252)), (25, .not (.r 24)), (26, .iteb (.r 23) (.t false) (.r 25)), (27, .iteb (.r 22) (.t false) (.r 26)), (28, .or (.r 21) (.r 27)), (29, .and (.r 20) (.r 28)), (30, .itei (.r 23) (.z 4) (.z 5)), (31, .itei (.r 22) (.z 3) (.r 30)), (32, .itei (.r 15) (.z 4) (.z 5)), (33, .itei (.r 14) (.z 3) (.r 32)), (34, .itei (.r 20) (.r 31) (.r 33)), (35, .itei (.r 20) (.z 1) (.z 0)), (36, .itei (.r 29) (.z 0) (.r 34)), (37, .itei (.r 29) (.z 0) (.r 35)), (38, .itei (.r 6) (.z 1) (.z 2)), (39, .itei (.r 6) (.r 8) (.z 0)), (40, .itei (.r 12) (.r 36) (.r 38)), (41, .itei (.r 12) (.r 37) (.r 39))],
  [],
  [],
  [.r 40, .r 41]⟩
noncomputable def r12_0 (x0 : Int) (x1 : Int) : Int :=
  let x2 := x1 != 4
  let x3 := decide (x0 ≤ 32)
  let x4 := Int.tmod x0 4
  let x5 := x4 == 0
  let x6 := x3 && x5
  let x9 := x0 == 4096
  let x10 := !x9
  let x11 := bif x6 then false else x10
  let x12 := x2 || x11
  let x13 := x1 != 4
  let x14 := x0 == 8192
  let x15 := x0 == 2097152
  let x16 := x0 == 2097156
  let x17 := !x16
  let x18 := bif x15 then false else x17
  let x19 := bif x14 then false else x18
  let x20 := x13 || x19
  let x21 := x1 != 4
  let x22 := x0 == 8320
  let x23 := x0 == 2101248
  let x24 := x0 == 2101252
  let x25 := !x24
  let x26 := bif x23 then false else x25
  let x27 := bif x22 then false else x26
  let x28 := x21 || x27
  let x29 := x20 && x28
  let x30 : Int := bif x23 then 4 else 5
  let x31 := bif x22 then 3 else x30
  let x32 : Int := bif x15 then 4 else 5
  let x33 := bif x14 then 3 else x32
  let x34 := bif x20 then x31 else x33
  let x36 := bif x29 then 0 else x34
  let x38 : Int := bif x6 then 1 else 2
  let x40 := bif x12 then x36 else x38
  x40
noncomputable def r12_1 (x0 : Int) (x1 : Int) : Int :=
  let x2 := x1 != 4
  let x3 := decide (x0 ≤ 32)
  let x4 := Int.tmod x0 4
  let x5 := x4 == 0
  let x6 := x3 && x5
  let x7 := IntKind.wrap .u64 (Int.tdiv x0 4)
  let x8 := IntKind.wrap .i64 x7
  let x9 := x0 == 4096
  let x10 := !x9
  let x11 := bif x6 then false else x10
  let x12 := x2 || x11
  let x13 := x1 != 4
  let x14 := x0 == 8192
  let x15 := x0 == 2097152
  let x16 := x0 == 2097156
  let x17 := !x16
  let x18 := bif x15 then false else x17
  let x19 := bif x14 then false else x18
  let x20 := x13 || x19
  let x21 := x1 != 4
  let x22 := x0 == 8320
  let x23 := x0 == 2101248
  let x24 := x0 == 2101252
  let x25 := !x24
  let x26 := bif x23 then false else x25
  let x27 := bif x22 then false else x26
  let x28 := x21 || x27
  let x29 := x20 && x28
  let x35 : Int := bif x20 then 1 else 0
  let x37 := bif x29 then 0 else x35
  let x39 := bif x6 then x8 else 0
  let x41 := bif x12 then x37 else x39
  x41
noncomputable def g12 (ds : List DV) : List DV := [.i (r12_0 (dget ds 0).toI (dget ds 1).toI), .i (r12_1 (dget ds 0).toI (dget ds 1).toI)]
def S12 : Sigs := ⟨[], [], [], 0⟩

def s13 : Sig := ⟨[.s (.one (.p 0 (.c 0))), .s (.one (.i .i64 (.h 56)))], [some (.c true [some (.i .i64 (.h 0)), some (.b (.h 1)), some (.b (.h 2)), some (.b (.h 3)), some (.b (.h 4)), some (.b (.h 5)), some (.i .i64 (.h 6)), some (.b (.h 7)), some (.b (.h 8)), some (.b (.h 9)), some (.b (.h 10)), some (.b (.h 11)), some (.i .i64 (.h 12)), some (.b (.h 13)), some (.b (.h 14)), some (.b (.h 15)), some (.b (.h 16)), some (.b (.h 17)), some (.i .i64 (.h 18)), some (.b (.h 19)), some (.b (.h 20)), some (.b (.h 21)), some (.b (.h 22)), some (.b (.h 23)), some (.i .i64 (.h 24)), some (.b (.h 25)), some (.b (.h 26)), some (.b (.h 27)), some (.b (.h 28)), some (.b (.h 29)), some (.i .i64 (.h 30)), some (.b (.h 31)), some (.b (.h 32)), some (.b (.h 33)), some (.b (.h 34)), some (.b (.h 35)), some (.i .i64 (.h 36)), some (.b (.h 37)), some (.b (.h 38)), some (.b (.h 39)), some (.b (.h 40)), some (.b (.h 41)), some (.i .i64 (.h 42)), some (.b (.h 43)), some (.b (.h 44)), some (.b (.h 45)), some (.b (.h 46)), some (.b (.h 47)), some (.i .i64 (.h 48)), some (.b (.h 49)), some (.b (.h 50)), some (.b (.h 51)), some (.b (.h 52)), some (.b (.h 53)), some (.i .i64 (.h 54)), some (.i .i64 (.h 55))])], [.i, .b, .b, .b, .b, .b, .i, .b, .b, .b, .b, .b, .i, .b, .b, .b, .b, .b, .i, .b, .b, .b, .b, .b, .i, .b, .b, .b, .b, .b, .i, .b, .b, .b, .b, .b, .i, .b, .b, .b, .b, .b, .i, .b, .b, .b, .b, .b, .i, .b, .b, .b, .b, .b, .i, .i, .i], .t [], [some (.c true [some (.i .i64 (.h 0)), some (.b (.h 1)), some (.b (.h 2)), some (.b (.h 3)), some (.b (.h 4)), some (.b (.h 5)), some (.i .i64 (.h 6)), some (.b (.h 7)), some (.b (.h 8)), some (.b (.h 9)), some (.b (.h 10)), some (.b (.h 11)), some (.i .i64 (.h 12)), some (.b (.h 13)), some (.b (.h 14)), some (.b (.h 15)), some (.b (.h 16)), some (.b (.h 17)), some (.i .i64 (.h 18)), some (.b (.h 19)), some (.b (.h 20)), some (.b (.h 21)), some (.b (.h 22)), some (.b (.h 23)), some (.i .i64 (.h 24)), some (.b (.h 25)), some (.b (.h 26)), some (.b (.h 27)), some (.b (.h 28)), some (.b (.h 29)), some (.i .i64 (.h 30)), some (.b (.h 31)), some (.b (.h 32)), some (.b (.h 33)), some (.b (.h 34)), some (.b (.h 35)), some (.i .i64 (.h 36)), some (.b (.h 37)), some (.b (.h 38)), some (.b (.h 39)), some (.b (.h 40)), some (.b (.h 41)), some (.i .i64 (.h 42)), some (.b (.h 43)), some (.b (.h 44)), some (.b (.h 45)), some (.b (.h 46)), some (.b (.h 47)), some (.i .i64 (.h 48)), some (.b (.h 49)), some (.b (.h 50)), some (.b (.h 51)), some (.b (.h 52)), some (.b (.h 53)), some (.i .i64 (.h 54)), some (.i .i64 (.h 55))])], [.i, .b, .b, .b, .b, .b, .i, .b, .b, .b, .b, .b, .i, .b, .b, .b, .b, .b, .i, .b, .b, .b, .b, .b, .i, .b, .b, .b, .b, .b, .i, .b, .b, .b, .b, .b, .i, .b, .b, .b, .b, .b, .i, .b, .b, .b, .b, .b, .i, .b, .b, .b, .b, .b, .i, .i], true⟩
def o13 : Out := ⟨[(57, .geq (.r 56) (.z 0)), (58, .lss (.r 56) (.z 9)), (59, .selb [.r 2, .r 8, .r 14, .r 20, .r 26, .r 32, .r 38, .r 44, .r 50] (.r 56)), (60, .selb [.r 1, .r 7, .r 13, .r 19, .r 25, .r 31, .r 37, .r 43, .r 49] (.r 56)), (61, .selb [.r 3, .r 9, .r 15, .r 21, .r 27, .r 33, .r 39, .r 45, .r 51] (.r 56)), (62, .not (.r 61)), (63, .and (.r 60) (.r 62)), (64, .or (.r 59) (.r 63)), (65, .eql (.r 56) (.z 0)), (66, .iteb (.r 65) (.r 64) (.r 2)), (67, .eql (.r 56) (.z 1)), (68, .iteb (.r 67) (.r 64) (.r 8)), (69, .eql (.r 56) (.z 2)), (70, .iteb (.r 69) (.r 64) (.r 14)), (71, .eql (.r 56) (.z 3)), (72, .iteb (.r 71) (.r 64) (.r 20)), (73, .eql (.r 56) (.z 4)), (74, .iteb (.r 73) (.r 64) (.r 26)), (75, .eql (.r 56) (.z 5)), (76, .iteb (.r 75) (.r 64) (.r 32)), (77, .eql (.r 56) (.z 6)), (78, .iteb (.r 77) (.r 64) (.r 38)), (79, .eql (.r 56) (.z 7)), (80, .iteb (.r 79) (.r 64) (.r 44)), (81, .eql (.r 56) (.z 8)), (82, .iteb (.r 81) (.r 64) (.r 50))],
  [⟨[], .r 57⟩, ⟨[], .r 58⟩],
  [],
  [.r 0, .r 1, .r 66, .r 3, .r 4, .r 5, .r 6, .r 7, .r 68, .r 9, .r 10, .r 11, .r 12, .r 13, .r 70, .r 15, .r 16, .r 17, .r 18, .r 19, .r 72, .r 21, .r 22, .r 23, .r 24, .r 25, .r 74, .r 27, .r 28, .r 29, .r 30, .r 31, .r 76, .r 33, .r 34, .r 35, .r 36, .r 37, .r 78, .r 39, .r 40, .r 41, .r 42, .r 43, .r 80, .r 45, .r 46, .r 47, .r 48, .r 49, .r 82, .r 51, .r 52, .r 53, .r 54, .r 55]⟩
noncomputable def g13 (ds : List DV) : List DV :=
  let x0 : Int := (dget ds 0).toI
  let x1 : Bool := (dget ds 1).toB
  let x2 : Bool := (dget ds 2).toB
  let x3 : Bool := (dget ds 3).toB
  let x4 : Bool := (dget ds 4).toB
  let x5 : Bool := (dget ds 5).toB
  let x6 : Int := (dget ds 6).toI
  let x7 : Bool := (dget ds 7).toB
  let x8 : Bool := (dget ds 8).toB
  let x9 : Bool := (dget ds 9).toB
  let x10 : Bool := (dget ds 10).toB
  let x11 : Bool := (dget ds 11).toB
  let x12 : Int := (dget ds 12).toI
  let x13 : Bool := (dget ds 13).toB
  let x14 : Bool := (dget ds 14).toB
  let x15 : Bool := (dget ds 15).toB
  let x16 : Bool := (dget ds 16).toB
  let x17 : Bool := (dget ds 17).toB
  let x18 : Int := (dget ds 18).toI
  let x19 : Bool := (dget ds 19).toB
  let x20 : Bool := (dget ds 20).toB
  let x21 : Bool := (dget ds 21).toB
  let x22 : Bool := (dget ds 22).toB
  let x23 : Bool := (dget ds 23).toB
  let x24 : Int := (dget ds 24).toI
  let x25 : Bool := (dget ds 25).toB
  let x26 : Bool := (dget ds 26).toB
  let x27 : Bool := (dget ds 27).toB
  let x28 : Bool := (dget ds 28).toB
  let x29 : Bool := (dget ds 29).toB
  let x30 : Int := (dget ds 30).toI
  let x31 : Bool := (dget ds 31).toB
  let x32 : Bool := (dget ds 32).toB
  let x33 : Bool := (dget ds 33).toB
  let x34 : Bool := (dget ds 34).toB
  let x35 : Bool := (dget ds 35).toB
  let x36 : Int := (dget ds 36).toI
  let x37 : Bool := (dget ds 37).toB
  let x38 : Bool := (dget ds 38).toB
  let x39 : Bool := (dget ds 39).toB
  let x40 : Bool := (dget ds 40).toB
  let x41 : Bool := (dget ds 41).toB
  let x42 : Int := (dget ds 42).toI
  let x43 : Bool := (dget ds 43).toB
  let x44 : Bool := (dget ds 44).toB
  let x45 : Bool := (dget ds 45).toB
  let x46 : Bool := (dget ds 46).toB
  let x47 : Bool := (dget ds 47).toB
  let x48 : Int := (dget ds 48).toI
  let x49 : Bool := (dget ds 49).toB
  let x50 : Bool := (dget ds 50).toB
  let x51 : Bool := (dget ds 51).toB
  let x52 : Bool := (dget ds 52).toB
  let x53 : Bool := (dget ds 53).toB
  let x54 : Int := (dget ds 54).toI
  let x55 : Int := (dget ds 55).toI
  let x56 : Int := (dget ds 56).toI
  let x57 := ige x56 0
  let x58 := ilt x56 9
  let x59 := [x2, x8, x14, x20, x26, x32, x38, x44, x50].getD (Int.toNat x56) false
  let x60 := [x1, x7, x13, x19, x25, x31, x37, x43, x49].getD (Int.toNat x56) false
  let x61 := [x3, x9, x15, x21, x27, x33, x39, x45, x51].getD (Int.toNat x56) false
  let x62 := !x61
  let x63 := x60 && x62
  let x64 := x59 || x63
  let x65 := x56 == 0
  let x66 := bif x65 then x64 else x2
  let x67 := x56 == 1
  let x68 := bif x67 then x64 else x8
  let x69 := x56 == 2
  let x70 := bif x69 then x64 else x14
  let x71 := x56 == 3
  let x72 := bif x71 then x64 else x20
  let x73 := x56 == 4
  let x74 := bif x73 then x64 else x26
  let x75 := x56 == 5
  let x76 := bif x75 then x64 else x32
  let x77 := x56 == 6
  let x78 := bif x77 then x64 else x38
  let x79 := x56 == 7
  let x80 := bif x79 then x64 else x44
  let x81 := x56 == 8
  let x82 := bif x81 then x64 else x50
  [.b ([ow [] x57, ow [] x58].all id), .i x0, .b x1, .b x66, .b x3, .b x4, .b x5, .i x6, .b x7, .b x68, .b x9, .b x10, .b x11, .i x12, .b x13, .b x70, .b x15, .b x16, .b x17, .i x18, .b x19, .b x72, .b x21, .b x22, .b x23, .i x24, .b x25, .b x74, .b x27, .b x28, .b x29, .i x30, .b x31, .b x76, .b x33, .b x34, .b x35, .i x36, .b x37, .b x78, .b x39, .b x40, .b x41, .i x42, .b x43, .b x80, .b x45, .b x46, .b x47, .i x48, .b x49, .b x82, .b x51, .b x52, .b x53, .i x54, .i x55]
def S13 : Sigs := ⟨[], [], [], 1⟩

def s14 : Sig := ⟨[.s (.one (.p 0 (.c 0))), .s (.one (.i .i64 (.h 56)))], [some (.c false [some (.i .i64 (.h 0)), some (.b (.h 1)), some (.b (.h 2)), some (.b (.h 3)), some (.b (.h 4)), some (.b (.h 5)), some (.i .i64 (.h 6)), some (.b (.h 7)), some (.b (.h 8)), some (.b (.h 9)), some (.b (.h 10)), some (.b (.h 11)), some (.i .i64 (.h 12)), some (.b (.h 13)), some (.b (.h 14)), some (.b (.h 15)), some (.b (.h 16)), some (.b (.h 17)), some (.i .i64 (.h 18)), some (.b (.h 19)), some (.b (.h 20)), some (.b (.h 21)), some (.b (.h 22)), some (.b (.h 23)), some (.i .i64 (.h 24)), some (.b (.h 25)), some (.b (.h 26)), some (.b (.h 27)), some (.b (.h 28)), some (.b (.h 29)), some (.i .i64 (.h 30)), some (.b (.h 31)), some (.b (.h 32)), some (.b (.h 33)), some (.b (.h 34)), some (.b (.h 35)), some (.i .i64 (.h 36)), some (.b (.h 37)), some (.b (.h 38)), some (.b (.h 39)), some (.b (.h 40)), some (.b (.h 41)), some (.i .i64 (.h 42)), some (.b (.h 43)), some (.b (.h 44)), some (.b (.h 45)), some (.b (.h 46)), some (.b (.h 47)), some (.i .i64 (.h 48)), some (.b (.h 49)), some (.b (.h 50)), some (.b (.h 51)), some (.b (.h 52)), some (.b (.h 53)), some (.i .i64 (.h 54)), some (.i .i64 (.h 55))])], [.i, .b, .b, .b, .b, .b, .i, .b, .b, .b, .b, .b, .i, .b, .b, .b, .b, .b, .i, .b, .b, .b, .b, .b, .i, .b, .b, .b, .b, .b, .i, .b, .b, .b, .b, .b, .i, .b, .b, .b, .b, .b, .i, .b, .b, .b, .b, .b, .i, .b, .b, .b, .b, .b, .i, .i, .i], .s (.one (.i .i64 (.h 0))), [], [.i], true⟩
def o14 : Out := ⟨[(57, .not (.r 8)), (58, .geq (.r 56) (.z 0)), (59, .lss (.r 56) (.z 2)), (60, .selb [.r 10, .r 11] (.r 56)), (61, .not (.r 60)), (62, .or (.r 57) (.r 61)), (63, .not (.r 62)), (64, .gtr (.r 6) (.r 0)), (65, .itei (.r 64) (.z 1) (.z 0)), (66, .itei (.r 63) (.r 65) (.z 0)), (67, .not (.r 14)), (68, .geq (.r 56) (.z 0)), (69, .lss (.r 56) (.z 2)), (70, .selb [.r 16, .r 17] (.r 56)), (71, .not (.r 70)), (72, .or (.r 67) (.r 71)), (73, .not (.r 72)), (74, .geq (.r 66) (.z 0)), (75, .lss (.r 66) (.z 9)), (76, .seli [.r 0, .r 6, .r 12, .r 18, .r 24, .r 30, .r 36, .r 42, .r 48] (.r 66)), (77, .gtr (.r 12) (.r 76)), (78, .itei (.r 77) (.z 2) (.r 66)), (79, .itei (.r 73) (.r 78) (.r 66)), (80, .not (.r 20)), (81, .geq (.r 56) (.z 0)), (82, .lss (.r 56) (.z 2)), (83, .selb [.r 22, .r 23] (.r 56)), (84, .not (.r 83)), (85, .or (.r 80) (.r 84)), (86, .not (.r 85)), (87, .geq (.r 79) (.z 0)), (88, .lss (.r 79) (.z 9)), (89, .seli [.r 0, .r 6, .r 12, .r 18, .r 24, .r 30, .r 36, .r 42, .r 48] (.r 79)), (90, .gtr (.r 18) (.r 89)), (91, .itei (.r 90) (.z 3) (.r 79)), (92, .itei (.r 86) (.r 91) (.r 79)), (93, .not (.r 26)), (94, .geq (.r 56) (.z 0)), (95, .lss (.r 56) (.z 2)), (96, .selb [.r 28, .r 29] (.r 56)), (97, .not (.r 96)), (98, .or (.r 93) (.r 97)), (99, .not (.r 98)), (100, .geq (.r 92) (.z 0)), (101, .lss (.r 92) (.z 9)), (102, .seli [.r 0, .r 6, .r 12, .r 18, .r 24, .r 30, .r 36, .r 42, .r 48] (.r 92)), (103, .gtr (.r 24) (.r 102)), (104, .itei (.r 103) (.z 4) (.r 92)), (105, .itei (.r 99) (.r 104) (.r 92)), (106, .not (.r 32)), (107, .geq (.r 56) (.z 0)), (108, .lss (.r 56) (.z 2)), (109, .selb [.r 34, .r 35] (.r 56)), (110, .not (.r 109)), (111, .or (.r 106) (.r 110)), (112, .not (.r 111)), (113, .geq (.r 105) (.z 0)), (114, .lss (.r 105) (.z 9)), (115, .seli [.r 0, .r 6, .r 12, .r 18, .r 24, .r 30, .r 36, .r 42, .r 48] (.r 105)), (116, .gtr (.r 30) (.r 115)), (117, .itei (.r 116) (.z 5) (.r 105)), (118, .itei (.r 112) (.r 117) (.r 105)), (119, .not (.r 38)), (120, .geq (.r 56) (.z 0)), (121, .lss (.r 56) (.z 2)), (122, .selb [.r 40, .r 41] (.r 56)), (123, .not (.r 122)), (124, .or (.r 119) (.r 123)), (125, .not (.r 124)), (126, .geq (.r 118) (.z 0)), (127, .lss (.r 118) (.z 9)), (128, .seli [.r 0, .r 6, .r 12, .r 18, .r 24, .r 30, .r 36, .r 42, .r 48] (.r 118)), (129, .gtr (.r 36) (.r 128)), (130, .itei (.r 129) (.z 6) (.r 118)), (131, .itei (.r 125) (.r 130) (.r 118)), (132, .not (.r 44)), (133, .geq (.r 56) (.z 0)), (134, .lss (.r 56) (.z 2)), (135, .selb [.r 46, .r 47] (.r 56)), (136, .not (.r 135)), (137, .or (.r 132) (.r 136)), (138, .not (.r 137)), (139, .geq (.r 131) (.z 0)), (140, .lss (.r 131) (.z 9)), (141, .seli [.r 0, .r 6, .r 12, .r 18, .r 24, .r 30, .r 36, .r 42, .r 48] (.r 131)), (142, .gtr (.r 42) (.r 141)), (143, .itei (.r 142) (.z 7) (.r 131)), (144, .itei (.r 138) (.r 143) (.r 131)), (145, .not (.r 50)), (146, .geq (.r 56) (.z 0)), (147, .lss (.r 56) (.z 2)), (148, .selb [.r 52, .r 53] (.r 56)), (149, .not (.r 148)), (150, .or (.r 145) (.r 149)), (151, .not (.r 150)), (152, .geq (.r 144) (.z 0)), (153, .lss (.r 144) (.z 9)), (154, .seli [.r 0, .r 6, .r 12, .r 18, .r 24, .r 30, .r 36, .r 42, .r 48] (.r 144)), (155, .gtr (.r 48) (.r 154)), (156, .itei (.r 155) (.z 8) (.r 144)), (157, .itei (.r 151) (.r 156) (.r 144))],
  [⟨[(.r 57, false)], .r 58⟩, ⟨[(.r 57, false)], .r 59⟩, ⟨[(.r 67, false)], .r 68⟩, ⟨[(.r 67, false)], .r 69⟩, ⟨[(.r 73, true)], .r 74⟩, ⟨[(.r 73, true)], .r 75⟩, ⟨[(.r 80, false)], .r 81⟩, ⟨[(.r 80, false)], .r 82⟩, ⟨[(.r 86, true)], .r 87⟩, ⟨[(.r 86, true)], .r 88⟩, ⟨[(.r 93, false)], .r 94⟩, ⟨[(.r 93, false)], .r 95⟩, ⟨[(.r 99, true)], .r 100⟩, ⟨[(.r 99, true)], .r 101⟩, ⟨[(.r 106, false)], .r 107⟩, ⟨[(.r 106, false)], .r 108⟩, ⟨[(.r 112, true)], .r 113⟩, ⟨[(.r 112, true)], .r 114⟩, ⟨[(.r 119, false)], .r 120⟩, ⟨[(.r 119, false)], .r 121⟩, ⟨[(.r 125, true)], .r 126⟩, ⟨[(.r 125, true)], .r 127⟩, ⟨[(.r 132, false)], .r 133⟩, ⟨[(.r 132, false)], .r 134⟩, ⟨[(.r 138, true)], .r 139⟩, ⟨[(.r 138, true)], .r 140⟩, ⟨[(.r 145, false)], .r 146⟩, ⟨[(.r 145, false)], .r 147⟩, ⟨[(.r 151, true)], .r 152⟩, ⟨[(.r 151, true)], .r 153⟩],
  [],
  [.r 157]⟩
noncomputable def p14 (x0 : Int) (x6 : Int) (x8 : Bool) (x10 : Bool) (x11 : Bool) (x12 : Int) (x14 : Bool) (x16 : Bool) (x17 : Bool) (x18 : Int) (x20 : Bool) (x22 : Bool) (x23 : Bool) (x24 : Int) (x26 : Bool) (x28 : Bool) (x29 : Bool) (x30 : Int) (x32 : Bool) (x34 : Bool) (x35 : Bool) (x36 : Int) (x38 : Bool) (x40 : Bool) (x41 : Bool) (x42 : Int) (x44 : Bool) (x46 : Bool) (x47 : Bool) (x48 : Int) (x50 : Bool) (x52 : Bool) (x53 : Bool) (x56 : Int) : Bool :=
  let x57 := !x8
  let x58 := decide (x56 ≥ 0)
  let x59 := decide (x56 < 2)
  let x60 := [x10, x11].getD (Int.toNat x56) false
  let x61 := !x60
  let x62 := x57 || x61
  let x63 := !x62
  let x64 := decide (x6 > x0)
  let x65 : Int := bif x64 then 1 else 0
  let x66 := bif x63 then x65 else 0
  let x67 := !x14
  let x68 := decide (x56 ≥ 0)
  let x69 := decide (x56 < 2)
  let x70 := [x16, x17].getD (Int.toNat x56) false
  let x71 := !x70
  let x72 := x67 || x71
  let x73 := !x72
  let x74 := decide (x66 ≥ 0)
  let x75 := decide (x66 < 9)
  let x76 := [x0, x6, x12, x18, x24, x30, x36, x42, x48].getD (Int.toNat x66) 0
  let x77 := decide (x12 > x76)
  let x78 := bif x77 then 2 else x66
  let x79 := bif x73 then x78 else x66
  let x80 := !x20
  let x81 := decide (x56 ≥ 0)
  let x82 := decide (x56 < 2)
  let x83 := [x22, x23].getD (Int.toNat x56) false
  let x84 := !x83
  let x85 := x80 || x84
  let x86 := !x85
  let x87 := decide (x79 ≥ 0)
  let x88 := decide (x79 < 9)
  let x89 := [x0, x6, x12, x18, x24, x30, x36, x42, x48].getD (Int.toNat x79) 0
  let x90 := decide (x18 > x89)
  let x91 := bif x90 then 3 else x79
  let x92 := bif x86 then x91 else x79
  let x93 := !x26
  let x94 := decide (x56 ≥ 0)
  let x95 := decide (x56 < 2)
  let x96 := [x28, x29].getD (Int.toNat x56) false
  let x97 := !x96
  let x98 := x93 || x97
  let x99 := !x98
  let x100 := decide (x92 ≥ 0)
  let x101 := decide (x92 < 9)
  let x102 := [x0, x6, x12, x18, x24, x30, x36, x42, x48].getD (Int.toNat x92) 0
  let x103 := decide (x24 > x102)
  let x104 := bif x103 then 4 else x92
  let x105 := bif x99 then x104 else x92
  let x106 := !x32
  let x107 := decide (x56 ≥ 0)
  let x108 := decide (x56 < 2)
  let x109 := [x34, x35].getD (Int.toNat x56) false
  let x110 := !x109
  let x111 := x106 || x110
  let x112 := !x111
  let x113 := decide (x105 ≥ 0)
  let x114 := decide (x105 < 9)
  let x115 := [x0, x6, x12, x18, x24, x30, x36, x42, x48].getD (Int.toNat x105) 0
  let x116 := decide (x30 > x115)
  let x117 := bif x116 then 5 else x105
  let x118 := bif x112 then x117 else x105
  let x119 := !x38
  let x120 := decide (x56 ≥ 0)
  let x121 := decide (x56 < 2)
  let x122 := [x40, x41].getD (Int.toNat x56) false
  let x123 := !x122
  let x124 := x119 || x123
  let x125 := !x124
  let x126 := decide (x118 ≥ 0)
  let x127 := decide (x118 < 9)
  let x128 := [x0, x6, x12, x18, x24, x30, x36, x42, x48].getD (Int.toNat x118) 0
  let x129 := decide (x36 > x128)
  let x130 := bif x129 then 6 else x118
  let x131 := bif x125 then x130 else x118
  let x132 := !x44
  let x133 := decide (x56 ≥ 0)
  let x134 := decide (x56 < 2)
  let x135 := [x46, x47].getD (Int.toNat x56) false
  let x136 := !x135
  let x137 := x132 || x136
  let x138 := !x137
  let x139 := decide (x131 ≥ 0)
  let x140 := decide (x131 < 9)
  let x141 := [x0, x6, x12, x18, x24, x30, x36, x42, x48].getD (Int.toNat x131) 0
  let x142 := decide (x42 > x141)
  let x143 := bif x142 then 7 else x131
  let x144 := bif x138 then x143 else x131
  let x145 := !x50
  let x146 := decide (x56 ≥ 0)
  let x147 := decide (x56 < 2)
  let x148 := [x52, x53].getD (Int.toNat x56) false
  let x149 := !x148
  let x150 := x145 || x149
  let x151 := !x150
  let x152 := decide (x144 ≥ 0)
  let x153 := decide (x144 < 9)
  [ow [(x57, false)] x58, ow [(x57, false)] x59, ow [(x67, false)] x68, ow [(x67, false)] x69, ow [(x73, true)] x74, ow [(x73, true)] x75, ow [(x80, false)] x81, ow [(x80, false)] x82, ow [(x86, true)] x87, ow [(x86, true)] x88, ow [(x93, false)] x94, ow [(x93, false)] x95, ow [(x99, true)] x100, ow [(x99, true)] x101, ow [(x106, false)] x107, ow [(x106, false)] x108, ow [(x112, true)] x113, ow [(x112, true)] x114, ow [(x119, false)] x120, ow [(x119, false)] x121, ow [(x125, true)] x126, ow [(x125, true)] x127, ow [(x132, false)] x133, ow [(x132, false)] x134, ow [(x138, true)] x139, ow [(x138, true)] x140, ow [(x145, false)] x146, ow [(x145, false)] x147, ow [(x151, true)] x152, ow [(x151, true)] x153].all id
noncomputable def r14_0 (x0 : Int) (x6 : Int) (x8 : Bool) (x10 : Bool) (x11 : Bool) (x12 : Int) (x14 : Bool) (x16 : Bool) (x17 : Bool) (x18 : Int) (x20 : Bool) (x22 : Bool) (x23 : Bool) (x24 : Int) (x26 : Bool) (x28 : Bool) (x29 : Bool) (x30 : Int) (x32 : Bool) (x34 : Bool) (x35 : Bool) (x36 : Int) (x38 : Bool) (x40 : Bool) (x41 : Bool) (x42 : Int) (x44 : Bool) (x46 : Bool) (x47 : Bool) (x48 : Int) (x50 : Bool) (x52 : Bool) (x53 : Bool) (x56 : Int) : Int :=
  let x57 := !x8
  let x60 := [x10, x11].getD (Int.toNat x56) false
  let x61 := !x60
  let x62 := x57 || x61
  let x63 := !x62
  let x64 := decide (x6 > x0)
  let x65 : Int := bif x64 then 1 else 0
  let x66 := bif x63 then x65 else 0
  let x67 := !x14
  let x70 := [x16, x17].getD (Int.toNat x56) false
  let x71 := !x70
  let x72 := x67 || x71
  let x73 := !x72
  let x76 := [x0, x6, x12, x18, x24, x30, x36, x42, x48].getD (Int.toNat x66) 0
  let x77 := decide (x12 > x76)
  let x78 := bif x77 then 2 else x66
  let x79 := bif x73 then x78 else x66
  let x80 := !x20
  let x83 := [x22, x23].getD (Int.toNat x56) false
  let x84 := !x83
  let x85 := x80 || x84
  let x86 := !x85
  let x89 := [x0, x6, x12, x18, x24, x30, x36, x42, x48].getD (Int.toNat x79) 0
  let x90 := decide (x18 > x89)
  let x91 := bif x90 then 3 else x79
  let x92 := bif x86 then x91 else x79
  let x93 := !x26
  let x96 := [x28, x29].getD (Int.toNat x56) false
  let x97 := !x96
  let x98 := x93 || x97
  let x99 := !x98
  let x102 := [x0, x6, x12, x18, x24, x30, x36, x42, x48].getD (Int.toNat x92) 0
  let x103 := decide (x24 > x102)
  let x104 := bif x103 then 4 else x92
  let x105 := bif x99 then x104 else x92
  let x106 := !x32
  let x109 := [x34, x35].getD (Int.toNat x56) false
  let x110 := !x109
  let x111 := x106 || x110
  let x112 := !x111
  let x115 := [x0, x6, x12, x18, x24, x30, x36, x42, x48].getD (Int.toNat x105) 0
  let x116 := decide (x30 > x115)
  let x117 := bif x116 then 5 else x105
  let x118 := bif x112 then x117 else x105
  let x119 := !x38
  let x122 := [x40, x41].getD (Int.toNat x56) false
  let x123 := !x122
  let x124 := x119 || x123
  let x125 := !x124
  let x128 := [x0, x6, x12, x18, x24, x30, x36, x42, x48].getD (Int.toNat x118) 0
  let x129 := decide (x36 > x128)
  let x130 := bif x129 then 6 else x118
  let x131 := bif x125 then x130 else x118
  let x132 := !x44
  let x135 := [x46, x47].getD (Int.toNat x56) false
  let x136 := !x135
  let x137 := x132 || x136
  let x138 := !x137
  let x141 := [x0, x6, x12, x18, x24, x30, x36, x42, x48].getD (Int.toNat x131) 0
  let x142 := decide (x42 > x141)
  let x143 := bif x142 then 7 else x131
  let x144 := bif x138 then x143 else x131
  let x145 := !x50
  let x148 := [x52, x53].getD (Int.toNat x56) false
  let x149 := !x148
  let x150 := x145 || x149
  let x151 := !x150
  let x154 := [x0, x6, x12, x18, x24, x30, x36, x42, x48].getD (Int.toNat x144) 0
  let x155 := decide (x48 > x154)
  let x156 := bif x155 then 8 else x144
  let x157 := bif x151 then x156 else x144
  x157
noncomputable def g14 (ds : List DV) : List DV := [.b (p14 (dget ds 0).toI (dget ds 6).toI (dget ds 8).toB (dget ds 10).toB (dget ds 11).toB (dget ds 12).toI (dget ds 14).toB (dget ds 16).toB (dget ds 17).toB (dget ds 18).toI (dget ds 20).toB (dget ds 22).toB (dget ds 23).toB (dget ds 24).toI (dget ds 26).toB (dget ds 28).toB (dget ds 29).toB (dget ds 30).toI (dget ds 32).toB (dget ds 34).toB (dget ds 35).toB (dget ds 36).toI (dget ds 38).toB (dget ds 40).toB (dget ds 41).toB (dget ds 42).toI (dget ds 44).toB (dget ds 46).toB (dget ds 47).toB (dget ds 48).toI (dget ds 50).toB (dget ds 52).toB (dget ds 53).toB (dget ds 56).toI), .i (r14_0 (dget ds 0).toI (dget ds 6).toI (dget ds 8).toB (dget ds 10).toB (dget ds 11).toB (dget ds 12).toI (dget ds 14).toB (dget ds 16).toB (dget ds 17).toB (dget ds 18).toI (dget ds 20).toB (dget ds 22).toB (dget ds 23).toB (dget ds 24).toI (dget ds 26).toB (dget ds 28).toB (dget ds 29).toB (dget ds 30).toI (dget ds 32).toB (dget ds 34).toB (dget ds 35).toB (dget ds 36).toI (dget ds 38).toB (dget ds 40).toB (dget ds 41).toB (dget ds 42).toI (dget ds 44).toB (dget ds 46).toB (dget ds 47).toB (dget ds 48).toI (dget ds 50).toB (dget ds 52).toB (dget ds 53).toB (dget ds 56).toI)]
def S14 : Sigs := ⟨[], [], [], 1⟩

def s10 : Sig := ⟨[.s (.one (.p 0 (.c 0))), .s (.one (.i .i64 (.h 56))), .s (.one (.b (.h 57)))], [some (.c true [some (.i .i64 (.h 0)), some (.b (.h 1)), some (.b (.h 2)), some (.b (.h 3)), some (.b (.h 4)), some (.b (.h 5)), some (.i .i64 (.h 6)), some (.b (.h 7)), some (.b (.h 8)), some (.b (.h 9)), some (.b (.h 10)), some (.b (.h 11)), some (.i .i64 (.h 12)), some (.b (.h 13)), some (.b (.h 14)), some (.b (.h 15)), some (.b (.h 16)), some (.b (.h 17)), some (.i .i64 (.h 18)), some (.b (.h 19)), some (.b (.h 20)), some (.b (.h 21)), some (.b (.h 22)), some (.b (.h 23)), some (.i .i64 (.h 24)), some (.b (.h 25)), some (.b (.h 26)), some (.b (.h 27)), some (.b (.h 28)), some (.b (.h 29)), some (.i .i64 (.h 30)), some (.b (.h 31)), some (.b (.h 32)), some (.b (.h 33)), some (.b (.h 34)), some (.b (.h 35)), some (.i .i64 (.h 36)), some (.b (.h 37)), some (.b (.h 38)), some (.b (.h 39)), some (.b (.h 40)), some (.b (.h 41)), some (.i .i64 (.h 42)), some (.b (.h 43)), some (.b (.h 44)), some (.b (.h 45)), some (.b (.h 46)), some (.b (.h 47)), some (.i .i64 (.h 48)), some (.b (.h 49)), some (.b (.h 50)), some (.b (.h 51)), some (.b (.h 52)), some (.b (.h 53)), some (.i .i64 (.h 54)), some (.i .i64 (.h 55))])], [.i, .b, .b, .b, .b, .b, .i, .b, .b, .b, .b, .b, .i, .b, .b, .b, .b, .b, .i, .b, .b, .b, .b, .b, .i, .b, .b, .b, .b, .b, .i, .b, .b, .b, .b, .b, .i, .b, .b, .b, .b, .b, .i, .b, .b, .b, .b, .b, .i, .b, .b, .b, .b, .b, .i, .i, .i, .b], .s (.one (.b (.h 0))), [some (.c true [some (.i .i64 (.h 1)), some (.b (.h 2)), some (.b (.h 3)), some (.b (.h 4)), some (.b (.h 5)), some (.b (.h 6)), some (.i .i64 (.h 7)), some (.b (.h 8)), some (.b (.h 9)), some (.b (.h 10)), some (.b (.h 11)), some (.b (.h 12)), some (.i .i64 (.h 13)), some (.b (.h 14)), some (.b (.h 15)), some (.b (.h 16)), some (.b (.h 17)), some (.b (.h 18)), some (.i .i64 (.h 19)), some (.b (.h 20)), some (.b (.h 21)), some (.b (.h 22)), some (.b (.h 23)), some (.b (.h 24)), some (.i .i64 (.h 25)), some (.b (.h 26)), some (.b (.h 27)), some (.b (.h 28)), some (.b (.h 29)), some (.b (.h 30)), some (.i .i64 (.h 31)), some (.b (.h 32)), some (.b (.h 33)), some (.b (.h 34)), some (.b (.h 35)), some (.b (.h 36)), some (.i .i64 (.h 37)), some (.b (.h 38)), some (.b (.h 39)), some (.b (.h 40)), some (.b (.h 41)), some (.b (.h 42)), some (.i .i64 (.h 43)), some (.b (.h 44)), some (.b (.h 45)), some (.b (.h 46)), some (.b (.h 47)), some (.b (.h 48)), some (.i .i64 (.h 49)), some (.b (.h 50)), some (.b (.h 51)), some (.b (.h 52)), some (.b (.h 53)), some (.b (.h 54)), some (.i .i64 (.h 55)), some (.i .i64 (.h 56))])], [.b, .i, .b, .b, .b, .b, .b, .i, .b, .b, .b, .b, .b, .i, .b, .b, .b, .b, .b, .i, .b, .b, .b, .b, .b, .i, .b, .b, .b, .b, .b, .i, .b, .b, .b, .b, .b, .i, .b, .b, .b, .b, .b, .i, .b, .b, .b, .b, .b, .i, .b, .b, .b, .b, .b, .i, .i], true⟩
def o10 : Out := ⟨List.append (List.append ([(58, .lss (.r 56) (.z 1)), (59, .gtr (.r 56) (.z 8)), (60, .or (.r 58) (.r 59)), (61, .not (.r 60)), (62, .geq (.r 56) (.z 0)), (63, .lss (.r 56) (.z 9)), (64, .eql (.r 56) (.z 0)), (65, .iteb (.r 64) (.r 57) (.r 1)), (66, .eql (.r 56) (.z 1)), (67, .iteb (.r 66) (.r 57) (.r 7)), (68, .eql (.r 56) (.z 2)), (69, .iteb (.r 68) (.r 57) (.r 13)), (70, .eql (.r 56) (.z 3)), (71, .iteb (.r 70) (.r 57) (.r 19)), (72, .eql (.r 56) (.z 4)), (73, .iteb (.r 72) (.r 57) (.r 25)), (74, .eql (.r 56) (.z 5)), (75, .iteb (.r 74) (.r 57) (.r 31)), (76, .eql (.r 56) (.z 6)), (77, .iteb (.r 76) (.r 57) (.r 37)), (78, .eql (.r 56) (.z 7)), (79, .iteb (.r 78) (.r 57) (.r 43)), (80, .eql (.r 56) (.z 8)), (81, .iteb (.r 80) (.r 57) (.r 49))]) (callsAt 82 13 ([.r 0, .r 65, .r 2, .r 3, .r 4, .r 5, .r 6, .r 67, .r 8, .r 9, .r 10, .r 11, .r 12, .r 69, .r 14, .r 15, .r 16, .r 17, .r 18, .r 71, .r 20, .r 21, .r 22, .r 23, .r 24, .r 73, .r 26, .r 27, .r 28, .r 29, .r 30, .r 75, .r 32, .r 33, .r 34, .r 35, .r 36, .r 77, .r 38, .r 39, .r 40, .r 41, .r 42, .r 79, .r 44, .r 45, .r 46, .r 47, .r 48, .r 81] ++ idsFrom 50 7) 0 57)) ([(139, .itei (.r 61) (.r 83) (.r 0)), (140, .iteb (.r 61) (.r 84) (.r 1)), (141, .iteb (.r 61) (.r 85) (.r 2)), (142, .iteb (.r 61) (.r 86) (.r 3)), (143, .iteb (.r 61) (.r 87) (.r 4)), (144, .iteb (.r 61) (.r 88) (.r 5)), (145, .itei (.r 61) (.r 89) (.r 6)), (146, .iteb (.r 61) (.r 90) (.r 7)), (147, .iteb (.r 61) (.r 91) (.r 8)), (148, .iteb (.r 61) (.r 92) (.r 9)), (149, .iteb (.r 61) (.r 93) (.r 10)), (150, .iteb (.r 61) (.r 94) (.r 11)), (151, .itei (.r 61) (.r 95) (.r 12)), (152, .iteb (.r 61) (.r 96) (.r 13)), (153, .iteb (.r 61) (.r 97) (.r 14)), (154, .iteb (.r 61) (.r 98) (.r 15)), (155, .iteb (.r 61) (.r 99) (.r 16)), (156, .iteb (.r 61) (.r 100) (.r 17)), (157, .itei (.r 61) (.r 101) (.r 18)), (158, .iteb (.r 61) (.r 102) (.r 19)), (159, .iteb (.r 61) (.r 103) (.r 20)), (160, .iteb (.r 61) (.r 104) (.r 21)), (161, .iteb (.r 61) (.r 105) (.r 22)), (162, .iteb (.r 61) (.r 106) (.r 23)), (163, .itei (.r 61) (.r 107) (.r 24)), (164, .iteb (.r 61) (.r 108) (.r 25)), (165, .iteb (.r 61) (.r 109) (.r 26)), (166, .iteb (.r 61) (.r 110) (.r 27)), (167, .iteb (.r 61) (.r 111) (.r 28)), (168, .iteb (.r 61) (.r 112) (.r 29)), (169, .itei (.r 61) (.r 113) (.r 30)), (170, .iteb (.r 61) (.r 114) (.r 31)), (171, .iteb (.r 61) (.r 115) (.r 32)), (172, .iteb (.r 61) (.r 116) (.r 33)), (173, .iteb (.r 61) (.r 117) (.r 34)), (174, .iteb (.r 61) (.r 118) (.r 35)), (175, .itei (.r 61) (.r 119) (.r 36)), (176, .iteb (.r 61) (.r 120) (.r 37)), (177, .iteb (.r 61) (.r 121) (.r 38)), (178, .iteb (.r 61) (.r 122) (.r 39)), (179, .iteb (.r 61) (.r 123) (.r 40)), (180, .iteb (.r 61) (.r 124) (.r 41)), (181, .itei (.r 61) (.r 125) (.r 42)), (182, .iteb (.r 61) (.r 126) (.r 43)), (183, .iteb (.r 61) (.r 127) (.r 44)), (184, .iteb (.r 61) (.r 128) (.r 45)), (185, .iteb (.r 61) (.r 129) (.r 46)), (186, .iteb (.r 61) (.r 130) (.r 47)), (187, .itei (.r 61) (.r 131) (.r 48)), (188, .iteb (.r 61) (.r 132) (.r 49)), (189, .iteb (.r 61) (.r 133) (.r 50)), (190, .iteb (.r 61) (.r 134) (.r 51)), (191, .iteb (.r 61) (.r 135) (.r 52)), (192, .iteb (.r 61) (.r 136) (.r 53)), (193, .itei (.r 61) (.r 137) (.r 54)), (194, .itei (.r 61) (.r 138) (.r 55))]),
  [⟨[(.r 61, true)], .r 62⟩, ⟨[(.r 61, true)], .r 63⟩, ⟨[(.r 61, true)], .r 82⟩],
  [],
  ([.r 61] ++ idsFrom 139 56)⟩
noncomputable def g10 (ds : List DV) : List DV :=
  let x0 : Int := (dget ds 0).toI
  let x1 : Bool := (dget ds 1).toB
  let x2 : Bool := (dget ds 2).toB
  let x3 : Bool := (dget ds 3).toB
  let x4 : Bool := (dget ds 4).toB
  let x5 : Bool := (dget ds 5).toB
  let x6 : Int := (dget ds 6).toI
  let x7 : Bool := (dget ds 7).toB
  let x8 : Bool := (dget ds 8).toB
  let x9 : Bool := (dget ds 9).toB
  let x10 : Bool := (dget ds 10).toB
  let x11 : Bool := (dget ds 11).toB
  let x12 : Int := (dget ds 12).toI
  let x13 : Bool := (dget ds 13).toB
  let x14 : Bool := (dget ds 14).toB
  let x15 : Bool := (dget ds 15).toB
  let x16 : Bool := (dget ds 16).toB
  let x17 : Bool := (dget ds 17).toB
  let x18 : Int := (dget ds 18).toI
  let x19 : Bool := (dget ds 19).toB
  let x20 : Bool := (dget ds 20).toB
  let x21 : Bool := (dget ds 21).toB
  let x22 : Bool := (dget ds 22).toB
  let x23 : Bool := (dget ds 23).toB
  let x24 : Int := (dget ds 24).toI
  let x25 : Bool := (dget ds 25).toB
  let x26 : Bool := (dget ds 26).toB
  let x27 : Bool := (dget ds 27).toB
  let x28 : Bool := (dget ds 28).toB
  let x29 : Bool := (dget ds 29).toB
  let x30 : Int := (dget ds 30).toI
  let x31 : Bool := (dget ds 31).toB
  let x32 : Bool := (dget ds 32).toB
  let x33 : Bool := (dget ds 33).toB
  let x34 : Bool := (dget ds 34).toB
  let x35 : Bool := (dget ds 35).toB
  let x36 : Int := (dget ds 36).toI
  let x37 : Bool := (dget ds 37).toB
  let x38 : Bool := (dget ds 38).toB
  let x39 : Bool := (dget ds 39).toB
  let x40 : Bool := (dget ds 40).toB
  let x41 : Bool := (dget ds 41).toB
  let x42 : Int := (dget ds 42).toI
  let x43 : Bool := (dget ds 43).toB
  let x44 : Bool := (dget ds 44).toB
  let x45 : Bool := (dget ds 45).toB
  let x46 : Bool := (dget ds 46).toB
  let x47 : Bool := (dget ds 47).toB
  let x48 : Int := (dget ds 48).toI
  let x49 : Bool := (dget ds 49).toB
  let x50 : Bool := (dget ds 50).toB
  let x51 : Bool := (dget ds 51).toB
  let x52 : Bool := (dget ds 52).toB
  let x53 : Bool := (dget ds 53).toB
  let x54 : Int := (dget ds 54).toI
  let x55 : Int := (dget ds 55).toI
  let x56 : Int := (dget ds 56).toI
  let x57 : Bool := (dget ds 57).toB
  let x58 := ilt x56 1
  let x59 := igt x56 8
  let x60 := x58 || x59
  let x61 := !x60
  let x62 := ige x56 0
  let x63 := ilt x56 9
  let x64 := x56 == 0
  let x65 := bif x64 then x57 else x1
  let x66 := x56 == 1
  let x67 := bif x66 then x57 else x7
  let x68 := x56 == 2
  let x69 := bif x68 then x57 else x13
  let x70 := x56 == 3
  let x71 := bif x70 then x57 else x19
  let x72 := x56 == 4
  let x73 := bif x72 then x57 else x25
  let x74 := x56 == 5
  let x75 := bif x74 then x57 else x31
  let x76 := x56 == 6
  let x77 := bif x76 then x57 else x37
  let x78 := x56 == 7
  let x79 := bif x78 then x57 else x43
  let x80 := x56 == 8
  let x81 := bif x80 then x57 else x49
  let y82 : List DV := g13 [.i x0, .b x65, .b x2, .b x3, .b x4, .b x5, .i x6, .b x67, .b x8, .b x9, .b x10, .b x11, .i x12, .b x69, .b x14, .b x15, .b x16, .b x17, .i x18, .b x71, .b x20, .b x21, .b x22, .b x23, .i x24, .b x73, .b x26, .b x27, .b x28, .b x29, .i x30, .b x75, .b x32, .b x33, .b x34, .b x35, .i x36, .b x77, .b x38, .b x39, .b x40, .b x41, .i x42, .b x79, .b x44, .b x45, .b x46, .b x47, .i x48, .b x81, .b x50, .b x51, .b x52, .b x53, .i x54, .i x55, .i x56]
  let x82 : Bool := (dget y82 0).toB
  let x83 : Int := (dget y82 1).toI
  let x84 : Bool := (dget y82 2).toB
  let x85 : Bool := (dget y82 3).toB
  let x86 : Bool := (dget y82 4).toB
  let x87 : Bool := (dget y82 5).toB
  let x88 : Bool := (dget y82 6).toB
  let x89 : Int := (dget y82 7).toI
  let x90 : Bool := (dget y82 8).toB
  let x91 : Bool := (dget y82 9).toB
  let x92 : Bool := (dget y82 10).toB
  let x93 : Bool := (dget y82 11).toB
  let x94 : Bool := (dget y82 12).toB
  let x95 : Int := (dget y82 13).toI
  let x96 : Bool := (dget y82 14).toB
  let x97 : Bool := (dget y82 15).toB
  let x98 : Bool := (dget y82 16).toB
  let x99 : Bool := (dget y82 17).toB
  let x100 : Bool := (dget y82 18).toB
  let x101 : Int := (dget y82 19).toI
  let x102 : Bool := (dget y82 20).toB
  let x103 : Bool := (dget y82 21).toB
  let x104 : Bool := (dget y82 22).toB
  let x105 : Bool := (dget y82 23).toB
  let x106 : Bool := (dget y82 24).toB
  let x107 : Int := (dget y82 25).toI
  let x108 : Bool := (dget y82 26).toB
  let x109 : Bool := (dget y82 27).toB
  let x110 : Bool := (dget y82 28).toB
  let x111 : Bool := (dget y82 29).toB
  let x112 : Bool := (dget y82 30).toB
  let x113 : Int := (dget y82 31).toI
  let x114 : Bool := (dget y82 32).toB
  let x115 : Bool := (dget y82 33).toB
  let x116 : Bool := (dget y82 34).toB
  let x117 : Bool := (dget y82 35).toB
  let x118 : Bool := (dget y82 36).toB
  let x119 : Int := (dget y82 37).toI
  let x120 : Bool := (dget y82 38).toB
  let x121 : Bool := (dget y82 39).toB
  let x122 : Bool := (dget y82 40).toB
  let x123 : Bool := (dget y82 41).toB
  let x124 : Bool := (dget y82 42).toB
  let x125 : Int := (dget y82 43).toI
  let x126 : Bool := (dget y82 44).toB
  let x127 : Bool := (dget y82 45).toB
  let x128 : Bool := (dget y82 46).toB
  let x129 : Bool := (dget y82 47).toB
  let x130 : Bool := (dget y82 48).toB
  let x131 : Int := (dget y82 49).toI
  let x132 : Bool := (dget y82 50).toB
  let x133 : Bool := (dget y82 51).toB
  let x134 : Bool := (dget y82 52).toB
  let x135 : Bool := (dget y82 53).toB
  let x136 : Bool := (dget y82 54).toB
  let x137 : Int := (dget y82 55).toI
  let x138 : Int := (dget y82 56).toI
  let x139 := bif x61 then x83 else x0
  let x140 := bif x61 then x84 else x1
  let x141 := bif x61 then x85 else x2
  let x142 := bif x61 then x86 else x3
  let x143 := bif x61 then x87 else x4
  let x144 := bif x61 then x88 else x5
  let x145 := bif x61 then x89 else x6
  let x146 := bif x61 then x90 else x7
  let x147 := bif x61 then x91 else x8
  let x148 := bif x61 then x92 else x9
  let x149 := bif x61 then x93 else x10
  let x150 := bif x61 then x94 else x11
  let x151 := bif x61 then x95 else x12
  let x152 := bif x61 then x96 else x13
  let x153 := bif x61 then x97 else x14
  let x154 := bif x61 then x98 else x15
  let x155 := bif x61 then x99 else x16
  let x156 := bif x61 then x100 else x17
  let x157 := bif x61 then x101 else x18
  let x158 := bif x61 then x102 else x19
  let x159 := bif x61 then x103 else x20
  let x160 := bif x61 then x104 else x21
  let x161 := bif x61 then x105 else x22
  let x162 := bif x61 then x106 else x23
  let x163 := bif x61 then x107 else x24
  let x164 := bif x61 then x108 else x25
  let x165 := bif x61 then x109 else x26
  let x166 := bif x61 then x110 else x27
  let x167 := bif x61 then x111 else x28
  let x168 := bif x61 then x112 else x29
  let x169 := bif x61 then x113 else x30
  let x170 := bif x61 then x114 else x31
  let x171 := bif x61 then x115 else x32
  let x172 := bif x61 then x116 else x33
  let x173 := bif x61 then x117 else x34
  let x174 := bif x61 then x118 else x35
  let x175 := bif x61 then x119 else x36
  let x176 := bif x61 then x120 else x37
  let x177 := bif x61 then x121 else x38
  let x178 := bif x61 then x122 else x39
  let x179 := bif x61 then x123 else x40
  let x180 := bif x61 then x124 else x41
  let x181 := bif x61 then x125 else x42
  let x182 := bif x61 then x126 else x43
  let x183 := bif x61 then x127 else x44
  let x184 := bif x61 then x128 else x45
  let x185 := bif x61 then x129 else x46
  let x186 := bif x61 then x130 else x47
  let x187 := bif x61 then x131 else x48
  let x188 := bif x61 then x132 else x49
  let x189 := bif x61 then x133 else x50
  let x190 := bif x61 then x134 else x51
  let x191 := bif x61 then x135 else x52
  let x192 := bif x61 then x136 else x53
  let x193 := bif x61 then x137 else x54
  let x194 := bif x61 then x138 else x55
  [.b ([ow [(x61, true)] x62, ow [(x61, true)] x63, ow [(x61, true)] x82].all id), .b x61, .i x139, .b x140, .b x141, .b x142, .b x143, .b x144, .i x145, .b x146, .b x147, .b x148, .b x149, .b x150, .i x151, .b x152, .b x153, .b x154, .b x155, .b x156, .i x157, .b x158, .b x159, .b x160, .b x161, .b x162, .i x163, .b x164, .b x165, .b x166, .b x167, .b x168, .i x169, .b x170, .b x171, .b x172, .b x173, .b x174, .i x175, .b x176, .b x177, .b x178, .b x179, .b x180, .i x181, .b x182, .b x183, .b x184, .b x185, .b x186, .i x187, .b x188, .b x189, .b x190, .b x191, .b x192, .i x193, .i x194]
def S10 : Sigs := ⟨[(13, s13)], [], [], 1⟩

def s9 : Sig := ⟨[.s (.one (.p 0 (.c 0)))], [some (.c false [some (.i .i64 (.h 0)), some (.b (.h 1)), some (.b (.h 2)), some (.b (.h 3)), some (.b (.h 4)), some (.b (.h 5)), some (.i .i64 (.h 6)), some (.b (.h 7)), some (.b (.h 8)), some (.b (.h 9)), some (.b (.h 10)), some (.b (.h 11)), some (.i .i64 (.h 12)), some (.b (.h 13)), some (.b (.h 14)), some (.b (.h 15)), some (.b (.h 16)), some (.b (.h 17)), some (.i .i64 (.h 18)), some (.b (.h 19)), some (.b (.h 20)), some (.b (.h 21)), some (.b (.h 22)), some (.b (.h 23)), some (.i .i64 (.h 24)), some (.b (.h 25)), some (.b (.h 26)), some (.b (.h 27)), some (.b (.h 28)), some (.b (.h 29)), some (.i .i64 (.h 30)), some (.b (.h 31)), some (.b (.h 32)), some (.b (.h 33)), some (.b (.h 34)), some (.b (.h 35)), some (.i .i64 (.h 36)), some (.b (.h 37)), some (.b (.h 38)), some (.b (.h 39)), some (.b (.h 40)), some (.b (.h 41)), some (.i .i64 (.h 42)), some (.b (.h 43)), some (.b (.h 44)), some (.b (.h 45)), some (.b (.h 46)), some (.b (.h 47)), some (.i .i64 (.h 48)), some (.b (.h 49)), some (.b (.h 50)), some (.b (.h 51)), some (.b (.h 52)), some (.b (.h 53)), some (.i .i64 (.h 54)), some (.i .i64 (.h 55))])], [.i, .b, .b, .b, .b, .b, .i, .b, .b, .b, .b, .b, .i, .b, .b, .b, .b, .b, .i, .b, .b, .b, .b, .b, .i, .b, .b, .b, .b, .b, .i, .b, .b, .b, .b, .b, .i, .b, .b, .b, .b, .b, .i, .b, .b, .b, .b, .b, .i, .b, .b, .b, .b, .b, .i, .i], .s (.one (.i .u64 (.h 0))), [], [.i], true⟩
def o9 : Out := ⟨[(56, .call 14 (idsFrom 0 56 ++ [.z 0]) 0), (57, .call 14 (idsFrom 0 56 ++ [.z 0]) 1), (58, .geq (.r 57) (.z 0)), (59, .lss (.r 57) (.z 9)), (60, .seli [.r 0, .r 6, .r 12, .r 18, .r 24, .r 30, .r 36, .r 42, .r 48] (.r 57)), (61, .gtr (.r 60) (.r 54)), (62, .itei (.r 61) (.z 2048) (.z 0)), (63, .call 14 (idsFrom 0 56 ++ [.z 1]) 0), (64, .call 14 (idsFrom 0 56 ++ [.z 1]) 1), (65, .geq (.r 64) (.z 0)), (66, .lss (.r 64) (.z 9)), (67, .seli [.r 0, .r 6, .r 12, .r 18, .r 24, .r 30, .r 36, .r 42, .r 48] (.r 64)), (68, .gtr (.r 67) (.r 55)), (69, .lor .u64 (.r 62) (.z 512)), (70, .itei (.r 68) (.r 69) (.r 62))],
  [⟨[], .r 56⟩, ⟨[], .r 58⟩, ⟨[], .r 59⟩, ⟨[], .r 63⟩, ⟨[], .r 65⟩, ⟨[], .r 66⟩],
  [],
  [.r 70]⟩
noncomputable def p9 (x0 : Int) (x6 : Int) (x8 : Bool) (x10 : Bool) (x11 : Bool) (x12 : Int) (x14 : Bool) (x16 : Bool) (x17 : Bool) (x18 : Int) (x20 : Bool) (x22 : Bool) (x23 : Bool) (x24 : Int) (x26 : Bool) (x28 : Bool) (x29 : Bool) (x30 : Int) (x32 : Bool) (x34 : Bool) (x35 : Bool) (x36 : Int) (x38 : Bool) (x40 : Bool) (x41 : Bool) (x42 : Int) (x44 : Bool) (x46 : Bool) (x47 : Bool) (x48 : Int) (x50 : Bool) (x52 : Bool) (x53 : Bool) : Bool :=
  let x56 := p14 x0 x6 x8 x10 x11 x12 x14 x16 x17 x18 x20 x22 x23 x24 x26 x28 x29 x30 x32 x34 x35 x36 x38 x40 x41 x42 x44 x46 x47 x48 x50 x52 x53 0
  let x57 := r14_0 x0 x6 x8 x10 x11 x12 x14 x16 x17 x18 x20 x22 x23 x24 x26 x28 x29 x30 x32 x34 x35 x36 x38 x40 x41 x42 x44 x46 x47 x48 x50 x52 x53 0
  let x58 := decide (x57 ≥ 0)
  let x59 := decide (x57 < 9)
  let x63 := p14 x0 x6 x8 x10 x11 x12 x14 x16 x17 x18 x20 x22 x23 x24 x26 x28 x29 x30 x32 x34 x35 x36 x38 x40 x41 x42 x44 x46 x47 x48 x50 x52 x53 1
  let x64 := r14_0 x0 x6 x8 x10 x11 x12 x14 x16 x17 x18 x20 x22 x23 x24 x26 x28 x29 x30 x32 x34 x35 x36 x38 x40 x41 x42 x44 x46 x47 x48 x50 x52 x53 1
  let x65 := decide (x64 ≥ 0)
  let x66 := decide (x64 < 9)
  [ow [] x56, ow [] x58, ow [] x59, ow [] x63, ow [] x65, ow [] x66].all id
noncomputable def r9_0 (x0 : Int) (x6 : Int) (x8 : Bool) (x10 : Bool) (x11 : Bool) (x12 : Int) (x14 : Bool) (x16 : Bool) (x17 : Bool) (x18 : Int) (x20 : Bool) (x22 : Bool) (x23 : Bool) (x24 : Int) (x26 : Bool) (x28 : Bool) (x29 : Bool) (x30 : Int) (x32 : Bool) (x34 : Bool) (x35 : Bool) (x36 : Int) (x38 : Bool) (x40 : Bool) (x41 : Bool) (x42 : Int) (x44 : Bool) (x46 : Bool) (x47 : Bool) (x48 : Int) (x50 : Bool) (x52 : Bool) (x53 : Bool) (x54 : Int) (x55 : Int) : Int :=
  let x57 := r14_0 x0 x6 x8 x10 x11 x12 x14 x16 x17 x18 x20 x22 x23 x24 x26 x28 x29 x30 x32 x34 x35 x36 x38 x40 x41 x42 x44 x46 x47 x48 x50 x52 x53 0
  let x60 := [x0, x6, x12, x18, x24, x30, x36, x42, x48].getD (Int.toNat x57) 0
  let x61 := decide (x60 > x54)
  let x62 : Int := bif x61 then 2048 else 0
  let x64 := r14_0 x0 x6 x8 x10 x11 x12 x14 x16 x17 x18 x20 x22 x23 x24 x26 x28 x29 x30 x32 x34 x35 x36 x38 x40 x41 x42 x44 x46 x47 x48 x50 x52 x53 1
  let x67 := [x0, x6, x12, x18, x24, x30, x36, x42, x48].getD (Int.toNat x64) 0
  let x68 := decide (x67 > x55)
  let x69 := ilor .u64 x62 512
  let x70 := bif x68 then x69 else x62
  x70
noncomputable def g9 (ds : List DV) : List DV := [.b (p9 (dget ds 0).toI (dget ds 6).toI (dget ds 8).toB (dget ds 10).toB (dget ds 11).toB (dget ds 12).toI (dget ds 14).toB (dget ds 16).toB (dget ds 17).toB (dget ds 18).toI (dget ds 20).toB (dget ds 22).toB (dget ds 23).toB (dget ds 24).toI (dget ds 26).toB (dget ds 28).toB (dget ds 29).toB (dget ds 30).toI (dget ds 32).toB (dget ds 34).toB (dget ds 35).toB (dget ds 36).toI (dget ds 38).toB (dget ds 40).toB (dget ds 41).toB (dget ds 42).toI (dget ds 44).toB (dget ds 46).toB (dget ds 47).toB (dget ds 48).toI (dget ds 50).toB (dget ds 52).toB (dget ds 53).toB), .i (r9_0 (dget ds 0).toI (dget ds 6).toI (dget ds 8).toB (dget ds 10).toB (dget ds 11).toB (dget ds 12).toI (dget ds 14).toB (dget ds 16).toB (dget ds 17).toB (dget ds 18).toI (dget ds 20).toB (dget ds 22).toB (dget ds 23).toB (dget ds 24).toI (dget ds 26).toB (dget ds 28).toB (dget ds 29).toB (dget ds 30).toI (dget ds 32).toB (dget ds 34).toB (dget ds 35).toB (dget ds 36).toI (dget ds 38).toB (dget ds 40).toB (dget ds 41).toB (dget ds 42).toI (dget ds 44).toB (dget ds 46).toB (dget ds 47).toB (dget ds 48).toI (dget ds 50).toB (dget ds 52).toB (dget ds 53).toB (dget ds 54).toI (dget ds 55).toI)]
def S9 : Sigs := ⟨[(14, s14)], [], [], 1⟩

def s8 : Sig := ⟨[.s (.one (.p 0 (.c 0))), .s (.one (.i .u64 (.h 56))), .s (.one (.i .i64 (.h 57)))], [some (.c true [some (.i .i64 (.h 0)), some (.b (.h 1)), some (.b (.h 2)), some (.b (.h 3)), some (.b (.h 4)), some (.b (.h 5)), some (.i .i64 (.h 6)), some (.b (.h 7)), some (.b (.h 8)), some (.b (.h 9)), some (.b (.h 10)), some (.b (.h 11)), some (.i .i64 (.h 12)), some (.b (.h 13)), some (.b (.h 14)), some (.b (.h 15)), some (.b (.h 16)), some (.b (.h 17)), some (.i .i64 (.h 18)), some (.b (.h 19)), some (.b (.h 20)), some (.b (.h 21)), some (.b (.h 22)), some (.b (.h 23)), some (.i .i64 (.h 24)), some (.b (.h 25)), some (.b (.h 26)), some (.b (.h 27)), some (.b (.h 28)), some (.b (.h 29)), some (.i .i64 (.h 30)), some (.b (.h 31)), some (.b (.h 32)), some (.b (.h 33)), some (.b (.h 34)), some (.b (.h 35)), some (.i .i64 (.h 36)), some (.b (.h 37)), some (.b (.h 38)), some (.b (.h 39)), some (.b (.h 40)), some (.b (.h 41)), some (.i .i64 (.h 42)), some (.b (.h 43)), some (.b (.h 44)), some (.b (.h 45)), some (.b (.h 46)), some (.b (.h 47)), some (.i .i64 (.h 48)), some (.b (.h 49)), some (.b (.h 50)), some (.b (.h 51)), some (.b (.h 52)), some (.b (.h 53)), some (.i .i64 (.h 54)), some (.i .i64 (.h 55))])], [.i, .b, .b, .b, .b, .b, .i, .b, .b, .b, .b, .b, .i, .b, .b, .b, .b, .b, .i, .b, .b, .b, .b, .b, .i, .b, .b, .b, .b, .b, .i, .b, .b, .b, .b, .b, .i, .b, .b, .b, .b, .b, .i, .b, .b, .b, .b, .b, .i, .b, .b, .b, .b, .b, .i, .i, .i, .i], .t [.one (.i .u64 (.h 0)), .one (.b (.h 1))], [some (.c true [some (.i .i64 (.h 2)), some (.b (.h 3)), some (.b (.h 4)), some (.b (.h 5)), some (.b (.h 6)), some (.b (.h 7)), some (.i .i64 (.h 8)), some (.b (.h 9)), some (.b (.h 10)), some (.b (.h 11)), some (.b (.h 12)), some (.b (.h 13)), some (.i .i64 (.h 14)), some (.b (.h 15)), some (.b (.h 16)), some (.b (.h 17)), some (.b (.h 18)), some (.b (.h 19)), some (.i .i64 (.h 20)), some (.b (.h 21)), some (.b (.h 22)), some (.b (.h 23)), some (.b (.h 24)), some (.b (.h 25)), some (.i .i64 (.h 26)), some (.b (.h 27)), some (.b (.h 28)), some (.b (.h 29)), some (.b (.h 30)), some (.b (.h 31)), some (.i .i64 (.h 32)), some (.b (.h 33)), some (.b (.h 34)), some (.b (.h 35)), some (.b (.h 36)), some (.b (.h 37)), some (.i .i64 (.h 38)), some (.b (.h 39)), some (.b (.h 40)), some (.b (.h 41)), some (.b (.h 42)), some (.b (.h 43)), some (.i .i64 (.h 44)), some (.b (.h 45)), some (.b (.h 46)), some (.b (.h 47)), some (.b (.h 48)), some (.b (.h 49)), some (.i .i64 (.h 50)), some (.b (.h 51)), some (.b (.h 52)), some (.b (.h 53)), some (.b (.h 54)), some (.b (.h 55)), some (.i .i64 (.h 56)), some (.i .i64 (.h 57))])], [.i, .b, .i, .b, .b, .b, .b, .b, .i, .b, .b, .b, .b, .b, .i, .b, .b, .b, .b, .b, .i, .b, .b, .b, .b, .b, .i, .b, .b, .b, .b, .b, .i, .b, .b, .b, .b, .b, .i, .b, .b, .b, .b, .b, .i, .b, .b, .b, .b, .b, .i, .b, .b, .b, .b, .b, .i, .i], true⟩
def o8 : Out := ⟨[(58, .call 12 [.r 56, .r 57] 0), (59, .call 12 [.r 56, .r 57] 1), (60, .eql (.r 58) (.z 0)), (61, .eql (.r 58) (.z 1)), (62, .geq (.r 59) (.z 0)), (63, .lss (.r 59) (.z 9)), (64, .seli [.r 0, .r 6, .r 12, .r 18, .r 24, .r 30, .r 36, .r 42, .r 48] (.r 59)), (65, .conv .u64 (.r 64)), (66, .eql (.r 58) (.z 2)), (67, .itei (.r 2) (.z 1) (.z 0)), (68, .lor .u64 (.r 67) (.z 2)), (69, .itei (.r 8) (.r 68) (.r 67)), (70, .lor .u64 (.r 69) (.z 4)), (71, .itei (.r 14) (.r 70) (.r 69)), (72, .lor .u64 (.r 71) (.z 8)), (73, .itei (.r 20) (.r 72) (.r 71)), (74, .lor .u64 (.r 73) (.z 16)), (75, .itei (.r 26) (.r 74) (.r 73)), (76, .lor .u64 (.r 75) (.z 32)), (77, .itei (.r 32) (.r 76) (.r 75)), (78, .lor .u64 (.r 77) (.z 64)), (79, .itei (.r 38) (.r 78) (.r 77)), (80, .lor .u64 (.r 79) (.z 128)), (81, .itei (.r 44) (.r 80) (.r 79)), (82, .lor .u64 (.r 81) (.z 256)), (83, .itei (.r 50) (.r 82) (.r 81)), (84, .eql (.r 58) (.z 3)), (85, .geq (.r 59) (.z 0)), (86, .lss (.r 59) (.z 2)), (87, .selb [.r 4, .r 5] (.r 59)), (88, .itei (.r 87) (.z 1) (.z 0)), (89, .geq (.r 59) (.z 0)), (90, .lss (.r 59) (.z 2)), (91, .selb [.r 10, .r 11] (.r 59)), (92, .lor .u64 (.r 88) (.z 2)), (93, .itei (.r 91) (.r 92) (.r 88)), (94, .geq (.r 59) (.z 0)), (95, .lss (.r 59) (.z 2)), (96, .selb [.r 16, .r 17] (.r 59)), (97, .lor .u64 (.r 93) (.z 4)), (98, .itei (.r 96) (.r 97) (.r 93)), (99, .geq (.r 59) (.z 0)), (100, .lss (.r 59) (.z 2)), (101, .selb [.r 22, .r 23] (.r 59)), (102, .lor .u64 (.r 98) (.z 8)), (103, .itei (.r 101) (.r 102) (.r 98)), (104, .geq (.r 59) (.z 0)), (105, .lss (.r 59) (.z 2)), (106, .selb [.r 28, .r 29] (.r 59)), (107, .lor .u64 (.r 103) (.z 16)), (108, .itei (.r 106) (.r 107) (.r 103)), (109, .geq (.r 59) (.z 0)), (110, .lss (.r 59) (.z 2)), (111, .selb [.r 34, .r 35] (.r 59)), (112, .lor .u64 (.r 108) (.z 32)), (113, .itei (.r 111) (.r 112) (.r 108)), (114, .geq (.r 59) (.z 0)), (115, .lss (.r 59) (.z 2)), (116, .selb [.r 40, .r 41] (.r 59)), (117, .lor .u64 (.r 113) (.z 64)), (118, .itei (.r 116) (.r 117) (.r 113)), (119, .geq (.r 59) (.z 0)), (120, .lss (.r 59) (.z 2)), (121, .selb [.r 46, .r 47] (.r 59)), (122, .lor .u64 (.r 118) (.z 128)), (123, .itei (.r 121) (.r 122) (.r 118)), (124, .geq (.r 59) (.z 0)), (125, .lss (.r 59) (.z 2)), (126, .selb [.r 52, .r 53] (.r 59)), (127, .lor .u64 (.r 123) (.z 256)), (128, .itei (.r 126) (.r 127) (.r 123)), (129, .eql (.r 58) (.z 4)), (130, .geq (.r 59) (.z 0)), (131, .lss (.r 59) (.z 2)), (132, .seli [.r 54, .r 55] (.r 59)), (133, .conv .u64 (.r 132)), (134, .eql (.r 58) (.z 5)), (135, .call 14 (idsFrom 0 56 ++ [.r 59]) 0), (136, .call 14 (idsFrom 0 56 ++ [.r 59]) 1), (137, .gtr (.r 136) (.z 0)), (138, .geq (.r 136) (.z 0)), (139, .lss (.r 136) (.z 9)), (140, .geq (.r 136) (.z 0)), (141, .lss (.r 136) (.z 9)), (142, .eql (.r 136) (.z 0)), (143, .iteb (.r 142) (.t false) (.r 2)), (144, .eql (.r 136) (.z 1)), (145, .iteb (.r 144) (.t false) (.r 8)), (146, .eql (.r 136) (.z 2)), (147, .iteb (.r 146) (.t false) (.r 14)), (148, .eql (.r 136) (.z 3)), (149, .iteb (.r 148) (.t false) (.r 20)), (150, .eql (.r 136) (.z 4)), (151, .iteb (.r 150) (.t false) (.r 26)), (152, .eql (.r 136) (.z 5)), (153, .iteb (.r 152) (.t false) (.r 32)), (154, .eql (.r 136) (.z 6)), (155, .iteb (.r 154) (.t false) (.r 38)), (156, .eql (.r 136) (.z 7)), (157, .iteb (.r 156) (.t false) (.r 44)), (158, .eql (.r 136) (.z 8)), (159, .iteb (.r 158) (.t false) (.r 50)), (160, .eql (.r 136) (.z 0)), (161, .or (.r 160) (.r 3)), (162, .eql (.r 136) (.z 1)), (163, .or (.r 162) (.r 9)), (164, .eql (.r 136) (.z 2)), (165, .or (.r 164) (.r 15)), (166, .eql (.r 136) (.z 3)), (167, .or (.r 166) (.r 21)), (168, .eql (.r 136) (.z 4)), (169, .or (.r 168) (.r 27)), (170, .eql (.r 136) (.z 5)), (171, .or (.r 170) (.r 33)), (172, .eql (.r 136) (.z 6)), (173, .or (.r 172) (.r 39)), (174, .eql (.r 136) (.z 7)), (175, .or (.r 174) (.r 45)), (176, .eql (.r 136) (.z 8)), (177, .or (.r 176) (.r 51)), (178, .iteb (.r 137) (.r 143) (.r 2)), (179, .iteb (.r 137) (.r 161) (.r 3)), (180, .iteb (.r 137) (.r 145) (.r 8)), (181, .iteb (.r 137) (.r 163) (.r 9)), (182, .iteb (.r 137) (.r 147) (.r 14)), (183, .iteb (.r 137) (.r 165) (.r 15)), (184, .iteb (.r 137) (.r 149) (.r 20)), (185, .iteb (.r 137) (.r 167) (.r 21)), (186, .iteb (.r 137) (.r 151) (.r 26)), (187, .iteb (.r 137) (.r 169) (.r 27)), (188, .iteb (.r 137) (.r 153) (.r 32)), (189, .iteb (.r 137) (.r 171) (.r 33)), (190, .iteb (.r 137) (.r 155) (.r 38)), (191, .iteb (.r 137) (.r 173) (.r 39)), (192, .iteb (.r 137) (.r 157) (.r 44)), (193, .iteb (.r 137) (.r 175) (.r 45)), (194, .iteb (.r 137) (.r 159) (.r 50)), (195, .iteb (.r 137) (.r 177) (.r 51)), (196, .conv .u64 (.r 136)), (197, .not (.r 60)), (198, .itei (.r 134) (.r 196) (.z 0)), (199, .iteb (.r 134) (.r 178) (.r 2)), (200, .iteb (.r 134) (.r 179) (.r 3)), (201, .iteb (.r 134) (.r 180) (.r 8)), (202, .iteb (.r 134) (.r 181) (.r 9)), (203, .iteb (.r 134) (.r 182) (.r 14)), (204, .iteb (.r 134) (.r 183) (.r 15)), (205, .iteb (.r 134) (.r 184) (.r 20)), (206, .iteb (.r 134) (.r 185) (.r 21)), (207, .iteb (.r 134) (.r 186) (.r 26)), (208, .iteb (.r 134) (.r 187) (.r 27)), (209, .iteb (.r 134) (.r 188) (.r 32)), (210, .iteb (.r 134) (.r 189) (.r 33)), (211, .iteb (.r 134) (.r 190) (.r 38)), (212, .iteb (.r 134) (.r 191) (.r 39)), (213, .iteb (.r 134) (.r 192) (.r 44)), (214, .iteb (.r 134) (.r 193) (.r 45)), (215, .iteb (.r 134) (.r 194) (.r 50)), (216, .iteb (.r 134) (.r 195) (.r 51)), (217, .itei (.r 129) (.r 133) (.r 198)), (218, .iteb (.r 129) (.r 2) (.r 199)), (219, .iteb (.r 129) (.r 3) (.r 200)), (220, .iteb (.r 129) (.r 8) (.r 201)), (221, .iteb (.r 129) (.r 9) (.r 202)), (222, .iteb (.r 129) (.r 14) (.r 203)), (223, .iteb (.r 129) (.r 15) (.r 204)), (224, .iteb (.r 129) (.r 20) (.r 205)), (225, .iteb (.r 129) (.r 21) (.r 206)), (226, .iteb (.r 129) (.r 26) (.r 207)), (227, .iteb (.r 129) (.r 27) (.r 208)), (228, .iteb (.r 129) (.r 32) (.r 209)), (229, .iteb (.r 129) (.r 33) (.r 210)), (230, .iteb (.r 129) (.r 38) (.r 211)), (231, .iteb (.r 129) (.r 39) (.r 212)), (232, .iteb (.r 129) (.r 44) (.r 213)), (233, .iteb (.r 129) (.r 45) (.r 214)), (234, .iteb (.r 129) (.r 50) (.r 215)), (235, .iteb (.r 129) (.r 51) (.r 216)), (236, .itei (.r 84) (.r 128) (.r 217)), (237, .iteb (.r 84) (.r 2) (.r 218)), (238, .iteb (.r 84) (.r 3) (.r 219)), (239, .iteb (.r 84) (.r 8) (.r 220)), (240, .iteb (.r 84) (.r 9) (.r 221)), (241, .iteb (.r 84) (.r 14) (.r 222)), (242, .iteb (.r 84) (.r 15) (.r 223)), (243, .iteb (.r 84) (.r 20) (.r 224)), (244, .iteb (.r 84) (.r 21) (.r 225)), (245, .iteb (.r 84) (.r 26) (.r 226)), (246, .iteb (.r 84) (.r 27) (.r 227)), (247, .iteb (.r 84) (.r 32) (.r 228)), (248, .iteb (.r 84) (.r 33) (.r 229)), (249, .iteb (.r 84) (.r 38) (.r 230)), (250, .iteb (.r 84) (.r 39) (.r 231)), (251, .iteb (.r 84) (.r 44) (.r 232)), (252, .iteb (.r 84) (.r 45) (.r 233)), (253, .iteb (.r 84) (.r 50) (.r 234)), (254, .iteb (.r 84) (.r 51) (.r 235)), (255, .itei (.r 66) (.r 83) (.r 236)), (256, .iteb (.r 66) (.r 2) (.r 237)), (257, .iteb (.r 66) (.r 3) (.r 238)), (258, .iteb (.r 66) (.r 8) (.r 239)), (259, .iteb (.r 66) (.r 9) (.r 240)), (260, .iteb (.r 66) (.r 14) (.r 241)), (261, .iteb (.r 66) (.r 15) (.r 242)), (262, .iteb (.r 66) (.r 20) (.r 243)), (263, .iteb (.r 66) (.r 21) (.r 244)), (264, .iteb (.r 66) (.r 26) (.r 245)), (265, .iteb (.r 66) (.r 27) (.r 246)), (266, .iteb (.r 66) (.r 32) (.r 247)), (267, .iteb (.r 66) (.r 33) (.r 248)), (268, .iteb (.r 66) (.r 38) (.r 249)), (269, .iteb (.r 66) (.r 39) (.r 250)), (270, .iteb (.r 66) (.r 44) (.r 251)), (271, .iteb (.r 66) (.r 45) (.r 252)), (272, .iteb (.r 66) (.r 50) (.r 253)), (273, .iteb (.r 66) (.r 51) (.r 254)), (274, .itei (.r 61) (.r 65) (.r 255)), (275, .iteb (.r 61) (.r 2) (.r 256)), (276, .iteb (.r 61) (.r 3) (.r 257)), (277, .iteb (.r 61) (.r 8) (.r 258)), (278, .iteb (.r 61) (.r 9) (.r 259)), (279, .iteb (.r 61) (.r 14) (.r 260)), (280, .iteb (.r 61) (.r 15) (.r 261)), (281, .iteb (.r 61) (.r 20) (.r 262)), (282, .iteb (.r 61) (.r 21) (.r 263)), (283, .iteb (.r 61) (.r 26) (.r 264)), (284, .iteb (.r 61) (.r 27) (.r 265)), (285, .iteb (.r 61) (.r 32) (.r 266)), (286, .iteb (.r 61) (.r 33) (.r 267)), (287, .iteb (.r 61) (.r 38) (.r 268)), (288, .iteb (.r 61) (.r 39) (.r 269)), (289, .iteb (.r 61) (.r 44) (.r 270)), (290, .iteb (.r 61) (.r 45) (.r 271)), (291, .iteb (.r 61) (.r 50) (.r 272)), (292, .iteb (.r 61) (.r 51) (.r 273)), (293, .itei (.r 197) (.r 274) (.z 0)), (294, .iteb (.r 197) (.r 275) (.r 2)), (295, .iteb (.r 197) (.r 276) (.r 3)), (296, .iteb (.r 197) (.r 277) (.r 8)), (297, .iteb (.r 197) (.r 278) (.r 9)), (298, .iteb (.r 197) (.r 279) (.r 14)), (299, .iteb (.r 197) (.r 280) (.r 15)), (300, .iteb (.r 197) (.r 281) (.r 20)), (301, .iteb (.r 197) (.r 282) (.r 21)), (302, .iteb (.r 197) (.r 283) (.r 26)), (303, .iteb (.r 197) (.r 284) (.r 27)), (304, .iteb (.r 197) (.r 285) (.r 32)), (305, .iteb (.r 197) (.r 286) (.r 33)), (306, .iteb (.r 197) (.r 287) (.r 38)), (307, .iteb (.r 197) (.r 288) (.r 39)), (308, .iteb (.r 197) (.r 289) (.r 44)), (309, .iteb (.r 197) (.r 290) (.r 45)), (310, .iteb (.r 197) (.r 291) (.r 50)), (311, .iteb (.r 197) (.r 292) (.r 51))],
  [⟨[(.r 60, false), (.r 61, true)], .r 62⟩, ⟨[(.r 60, false), (.r 61, true)], .r 63⟩, ⟨[(.r 60, false), (.r 61, false), (.r 66, false), (.r 84, true)], .r 85⟩, ⟨[(.r 60, false), (.r 61, false), (.r 66, false), (.r 84, true)], .r 86⟩, ⟨[(.r 60, false), (.r 61, false), (.r 66, false), (.r 84, true)], .r 89⟩, ⟨[(.r 60, false), (.r 61, false), (.r 66, false), (.r 84, true)], .r 90⟩, ⟨[(.r 60, false), (.r 61, false), (.r 66, false), (.r 84, true)], .r 94⟩, ⟨[(.r 60, false), (.r 61, false), (.r 66, false), (.r 84, true)], .r 95⟩, ⟨[(.r 60, false), (.r 61, false), (.r 66, false), (.r 84, true)], .r 99⟩, ⟨[(.r 60, false), (.r 61, false), (.r 66, false), (.r 84, true)], .r 100⟩, ⟨[(.r 60, false), (.r 61, false), (.r 66, false), (.r 84, true)], .r 104⟩, ⟨[(.r 60, false), (.r 61, false), (.r 66, false), (.r 84, true)], .r 105⟩, ⟨[(.r 60, false), (.r 61, false), (.r 66, false), (.r 84, true)], .r 109⟩, ⟨[(.r 60, false), (.r 61, false), (.r 66, false), (.r 84, true)], .r 110⟩, ⟨[(.r 60, false), (.r 61, false), (.r 66, false), (.r 84, true)], .r 114⟩, ⟨[(.r 60, false), (.r 61, false), (.r 66, false), (.r 84, true)], .r 115⟩, ⟨[(.r 60, false), (.r 61, false), (.r 66, false), (.r 84, true)], .r 119⟩, ⟨[(.r 60, false), (.r 61, false), (.r 66, false), (.r 84, true)], .r 120⟩, ⟨[(.r 60, false), (.r 61, false), (.r 66, false), (.r 84, true)], .r 124⟩, ⟨[(.r 60, false), (.r 61, false), (.r 66, false), (.r 84, true)], .r 125⟩, ⟨[(.r 60, false), (.r 61, false), (.r 66, false), (.r 84, false), (.r 129, true)], .r 130⟩, ⟨[(.r 60, false), (.r 61, false), (.r 66, false), (.r 84, false), (.r 129, true)], .r 131⟩, ⟨[(.r 60, false), (.r 61, false), (.r 66, false), (.r 84, false), (.r 129, false), (.r 134, true)], .r 135⟩, ⟨[(.r 60, false), (.r 61, false), (.r 66, false), (.r 84, false), (.r 129, false), (.r 134, true), (.r 137, true)], .r 138⟩, ⟨[(.r 60, false), (.r 61, false), (.r 66, false), (.r 84, false), (.r 129, false), (.r 134, true), (.r 137, true)], .r 139⟩, ⟨[(.r 60, false), (.r 61, false), (.r 66, false), (.r 84, false), (.r 129, false), (.r 134, true), (.r 137, true)], .r 140⟩, ⟨[(.r 60, false), (.r 61, false), (.r 66, false), (.r 84, false), (.r 129, false), (.r 134, true), (.r 137, true)], .r 141⟩],
  [],
  [.r 293, .r 197, .r 0, .r 1, .r 294, .r 295, .r 4, .r 5, .r 6, .r 7, .r 296, .r 297, .r 10, .r 11, .r 12, .r 13, .r 298, .r 299, .r 16, .r 17, .r 18, .r 19, .r 300, .r 301, .r 22, .r 23, .r 24, .r 25, .r 302, .r 303, .r 28, .r 29, .r 30, .r 31, .r 304, .r 305, .r 34, .r 35, .r 36, .r 37, .r 306, .r 307, .r 40, .r 41, .r 42, .r 43, .r 308, .r 309, .r 46, .r 47, .r 48, .r 49, .r 310, .r 311, .r 52, .r 53, .r 54, .r 55]⟩
noncomputable def g8 (ds : List DV) : List DV :=
  let x0 : Int := (dget ds 0).toI
  let x1 : Bool := (dget ds 1).toB
  let x2 : Bool := (dget ds 2).toB
  let x3 : Bool := (dget ds 3).toB
  let x4 : Bool := (dget ds 4).toB
  let x5 : Bool := (dget ds 5).toB
  let x6 : Int := (dget ds 6).toI
  let x7 : Bool := (dget ds 7).toB
  let x8 : Bool := (dget ds 8).toB
  let x9 : Bool := (dget ds 9).toB
  let x10 : Bool := (dget ds 10).toB
  let x11 : Bool := (dget ds 11).toB
  let x12 : Int := (dget ds 12).toI
  let x13 : Bool := (dget ds 13).toB
  let x14 : Bool := (dget ds 14).toB
  let x15 : Bool := (dget ds 15).toB
  let x16 : Bool := (dget ds 16).toB
  let x17 : Bool := (dget ds 17).toB
  let x18 : Int := (dget ds 18).toI
  let x19 : Bool := (dget ds 19).toB
  let x20 : Bool := (dget ds 20).toB
  let x21 : Bool := (dget ds 21).toB
  let x22 : Bool := (dget ds 22).toB
  let x23 : Bool := (dget ds 23).toB
  let x24 : Int := (dget ds 24).toI
  let x25 : Bool := (dget ds 25).toB
  let x26 : Bool := (dget ds 26).toB
  let x27 : Bool := (dget ds 27).toB
  let x28 : Bool := (dget ds 28).toB
  let x29 : Bool := (dget ds 29).toB
  let x30 : Int := (dget ds 30).toI
  let x31 : Bool := (dget ds 31).toB
  let x32 : Bool := (dget ds 32).toB
  let x33 : Bool := (dget ds 33).toB
  let x34 : Bool := (dget ds 34).toB
  let x35 : Bool := (dget ds 35).toB
  let x36 : Int := (dget ds 36).toI
  let x37 : Bool := (dget ds 37).toB
  let x38 : Bool := (dget ds 38).toB
  let x39 : Bool := (dget ds 39).toB
  let x40 : Bool := (dget ds 40).toB
  let x41 : Bool := (dget ds 41).toB
  let x42 : Int := (dget ds 42).toI
  let x43 : Bool := (dget ds 43).toB
  let x44 : Bool := (dget ds 44).toB
  let x45 : Bool := (dget ds 45).toB
  let x46 : Bool := (dget ds 46).toB
  let x47 : Bool := (dget ds 47).toB
  let x48 : Int := (dget ds 48).toI
  let x49 : Bool := (dget ds 49).toB
  let x50 : Bool := (dget ds 50).toB
  let x51 : Bool := (dget ds 51).toB
  let x52 : Bool := (dget ds 52).toB
  let x53 : Bool := (dget ds 53).toB
  let x54 : Int := (dget ds 54).toI
  let x55 : Int := (dget ds 55).toI
  let x56 : Int := (dget ds 56).toI
  let x57 : Int := (dget ds 57).toI
  let x58 := r12_0 x56 x57
  let x59 := r12_1 x56 x57
  let x60 := x58 == 0
  let x61 := x58 == 1
  let x62 := decide (x59 ≥ 0)
  let x63 := decide (x59 < 9)
  let x64 := [x0, x6, x12, x18, x24, x30, x36, x42, x48].getD (Int.toNat x59) 0
  let x65 := IntKind.wrap .u64 x64
  let x66 := x58 == 2
  let x67 : Int := bif x2 then 1 else 0
  let x68 := ilor .u64 x67 2
  let x69 := bif x8 then x68 else x67
  let x70 := ilor .u64 x69 4
  let x71 := bif x14 then x70 else x69
  let x72 := ilor .u64 x71 8
  let x73 := bif x20 then x72 else x71
  let x74 := ilor .u64 x73 16
  let x75 := bif x26 then x74 else x73
  let x76 := ilor .u64 x75 32
  let x77 := bif x32 then x76 else x75
  let x78 := ilor .u64 x77 64
  let x79 := bif x38 then x78 else x77
  let x80 := ilor .u64 x79 128
  let x81 := bif x44 then x80 else x79
  let x82 := ilor .u64 x81 256
  let x83 := bif x50 then x82 else x81
  let x84 := x58 == 3
  let x85 := decide (x59 ≥ 0)
  let x86 := decide (x59 < 2)
  let x87 := [x4, x5].getD (Int.toNat x59) false
  let x88 : Int := bif x87 then 1 else 0
  let x89 := decide (x59 ≥ 0)
  let x90 := decide (x59 < 2)
  let x91 := [x10, x11].getD (Int.toNat x59) false
  let x92 := ilor .u64 x88 2
  let x93 := bif x91 then x92 else x88
  let x94 := decide (x59 ≥ 0)
  let x95 := decide (x59 < 2)
  let x96 := [x16, x17].getD (Int.toNat x59) false
  let x97 := ilor .u64 x93 4
  let x98 := bif x96 then x97 else x93
  let x99 := decide (x59 ≥ 0)
  let x100 := decide (x59 < 2)
  let x101 := [x22, x23].getD (Int.toNat x59) false
  let x102 := ilor .u64 x98 8
  let x103 := bif x101 then x102 else x98
  let x104 := decide (x59 ≥ 0)
  let x105 := decide (x59 < 2)
  let x106 := [x28, x29].getD (Int.toNat x59) false
  let x107 := ilor .u64 x103 16
  let x108 := bif x106 then x107 else x103
  let x109 := decide (x59 ≥ 0)
  let x110 := decide (x59 < 2)
  let x111 := [x34, x35].getD (Int.toNat x59) false
  let x112 := ilor .u64 x108 32
  let x113 := bif x111 then x112 else x108
  let x114 := decide (x59 ≥ 0)
  let x115 := decide (x59 < 2)
  let x116 := [x40, x41].getD (Int.toNat x59) false
  let x117 := ilor .u64 x113 64
  let x118 := bif x116 then x117 else x113
  let x119 := decide (x59 ≥ 0)
  let x120 := decide (x59 < 2)
  let x121 := [x46, x47].getD (Int.toNat x59) false
  let x122 := ilor .u64 x118 128
  let x123 := bif x121 then x122 else x118
  let x124 := decide (x59 ≥ 0)
  let x125 := decide (x59 < 2)
  let x126 := [x52, x53].getD (Int.toNat x59) false
  let x127 := ilor .u64 x123 256
  let x128 := bif x126 then x127 else x123
  let x129 := x58 == 4
  let x130 := decide (x59 ≥ 0)
  let x131 := decide (x59 < 2)
  let x132 := [x54, x55].getD (Int.toNat x59) 0
  let x133 := IntKind.wrap .u64 x132
  let x134 := x58 == 5
  let x135 := p14 x0 x6 x8 x10 x11 x12 x14 x16 x17 x18 x20 x22 x23 x24 x26 x28 x29 x30 x32 x34 x35 x36 x38 x40 x41 x42 x44 x46 x47 x48 x50 x52 x53 x59
  let x136 := r14_0 x0 x6 x8 x10 x11 x12 x14 x16 x17 x18 x20 x22 x23 x24 x26 x28 x29 x30 x32 x34 x35 x36 x38 x40 x41 x42 x44 x46 x47 x48 x50 x52 x53 x59
  let x137 := decide (x136 > 0)
  let x138 := decide (x136 ≥ 0)
  let x139 := decide (x136 < 9)
  let x140 := decide (x136 ≥ 0)
  let x141 := decide (x136 < 9)
  let x142 := x136 == 0
  let x143 := bif x142 then false else x2
  let x144 := x136 == 1
  let x145 := bif x144 then false else x8
  let x146 := x136 == 2
  let x147 := bif x146 then false else x14
  let x148 := x136 == 3
  let x149 := bif x148 then false else x20
  let x150 := x136 == 4
  let x151 := bif x150 then false else x26
  let x152 := x136 == 5
  let x153 := bif x152 then false else x32
  let x154 := x136 == 6
  let x155 := bif x154 then false else x38
  let x156 := x136 == 7
  let x157 := bif x156 then false else x44
  let x158 := x136 == 8
  let x159 := bif x158 then false else x50
  let x160 := x136 == 0
  let x161 := x160 || x3
  let x162 := x136 == 1
  let x163 := x162 || x9
  let x164 := x136 == 2
  let x165 := x164 || x15
  let x166 := x136 == 3
  let x167 := x166 || x21
  let x168 := x136 == 4
  let x169 := x168 || x27
  let x170 := x136 == 5
  let x171 := x170 || x33
  let x172 := x136 == 6
  let x173 := x172 || x39
  let x174 := x136 == 7
  let x175 := x174 || x45
  let x176 := x136 == 8
  let x177 := x176 || x51
  let x178 := bif x137 then x143 else x2
  let x179 := bif x137 then x161 else x3
  let x180 := bif x137 then x145 else x8
  let x181 := bif x137 then x163 else x9
  let x182 := bif x137 then x147 else x14
  let x183 := bif x137 then x165 else x15
  let x184 := bif x137 then x149 else x20
  let x185 := bif x137 then x167 else x21
  let x186 := bif x137 then x151 else x26
  let x187 := bif x137 then x169 else x27
  let x188 := bif x137 then x153 else x32
  let x189 := bif x137 then x171 else x33
  let x190 := bif x137 then x155 else x38
  let x191 := bif x137 then x173 else x39
  let x192 := bif x137 then x157 else x44
  let x193 := bif x137 then x175 else x45
  let x194 := bif x137 then x159 else x50
  let x195 := bif x137 then x177 else x51
  let x196 := IntKind.wrap .u64 x136
  let x197 := !x60
  let x198 := bif x134 then x196 else 0
  let x199 := bif x134 then x178 else x2
  let x200 := bif x134 then x179 else x3
  let x201 := bif x134 then x180 else x8
  let x202 := bif x134 then x181 else x9
  let x203 := bif x134 then x182 else x14
  let x204 := bif x134 then x183 else x15
  let x205 := bif x134 then x184 else x20
  let x206 := bif x134 then x185 else x21
  let x207 := bif x134 then x186 else x26
  let x208 := bif x134 then x187 else x27
  let x209 := bif x134 then x188 else x32
  let x210 := bif x134 then x189 else x33
  let x211 := bif x134 then x190 else x38
  let x212 := bif x134 then x191 else x39
  let x213 := bif x134 then x192 else x44
  let x214 := bif x134 then x193 else x45
  let x215 := bif x134 then x194 else x50
  let x216 := bif x134 then x195 else x51
  let x217 := bif x129 then x133 else x198
  let x218 := bif x129 then x2 else x199
  let x219 := bif x129 then x3 else x200
  let x220 := bif x129 then x8 else x201
  let x221 := bif x129 then x9 else x202
  let x222 := bif x129 then x14 else x203
  let x223 := bif x129 then x15 else x204
  let x224 := bif x129 then x20 else x205
  let x225 := bif x129 then x21 else x206
  let x226 := bif x129 then x26 else x207
  let x227 := bif x129 then x27 else x208
  let x228 := bif x129 then x32 else x209
  let x229 := bif x129 then x33 else x210
  let x230 := bif x129 then x38 else x211
  let x231 := bif x129 then x39 else x212
  let x232 := bif x129 then x44 else x213
  let x233 := bif x129 then x45 else x214
  let x234 := bif x129 then x50 else x215
  let x235 := bif x129 then x51 else x216
  let x236 := bif x84 then x128 else x217
  let x237 := bif x84 then x2 else x218
  let x238 := bif x84 then x3 else x219
  let x239 := bif x84 then x8 else x220
  let x240 := bif x84 then x9 else x221
  let x241 := bif x84 then x14 else x222
  let x242 := bif x84 then x15 else x223
  let x243 := bif x84 then x20 else x224
  let x244 := bif x84 then x21 else x225
  let x245 := bif x84 then x26 else x226
  let x246 := bif x84 then x27 else x227
  let x247 := bif x84 then x32 else x228
  let x248 := bif x84 then x33 else x229
  let x249 := bif x84 then x38 else x230
  let x250 := bif x84 then x39 else x231
  let x251 := bif x84 then x44 else x232
  let x252 := bif x84 then x45 else x233
  let x253 := bif x84 then x50 else x234
  let x254 := bif x84 then x51 else x235
  let x255 := bif x66 then x83 else x236
  let x256 := bif x66 then x2 else x237
  let x257 := bif x66 then x3 else x238
  let x258 := bif x66 then x8 else x239
  let x259 := bif x66 then x9 else x240
  let x260 := bif x66 then x14 else x241
  let x261 := bif x66 then x15 else x242
  let x262 := bif x66 then x20 else x243
  let x263 := bif x66 then x21 else x244
  let x264 := bif x66 then x26 else x245
  let x265 := bif x66 then x27 else x246
  let x266 := bif x66 then x32 else x247
  let x267 := bif x66 then x33 else x248
  let x268 := bif x66 then x38 else x249
  let x269 := bif x66 then x39 else x250
  let x270 := bif x66 then x44 else x251
  let x271 := bif x66 then x45 else x252
  let x272 := bif x66 then x50 else x253
  let x273 := bif x66 then x51 else x254
  let x274 := bif x61 then x65 else x255
  let x275 := bif x61 then x2 else x256
  let x276 := bif x61 then x3 else x257
  let x277 := bif x61 then x8 else x258
  let x278 := bif x61 then x9 else x259
  let x279 := bif x61 then x14 else x260
  let x280 := bif x61 then x15 else x261
  let x281 := bif x61 then x20 else x262
  let x282 := bif x61 then x21 else x263
  let x283 := bif x61 then x26 else x264
  let x284 := bif x61 then x27 else x265
  let x285 := bif x61 then x32 else x266
  let x286 := bif x61 then x33 else x267
  let x287 := bif x61 then x38 else x268
  let x288 := bif x61 then x39 else x269
  let x289 := bif x61 then x44 else x270
  let x290 := bif x61 then x45 else x271
  let x291 := bif x61 then x50 else x272
  let x292 := bif x61 then x51 else x273
  let x293 := bif x197 then x274 else 0
  let x294 := bif x197 then x275 else x2
  let x295 := bif x197 then x276 else x3
  let x296 := bif x197 then x277 else x8
  let x297 := bif x197 then x278 else x9
  let x298 := bif x197 then x279 else x14
  let x299 := bif x197 then x280 else x15
  let x300 := bif x197 then x281 else x20
  let x301 := bif x197 then x282 else x21
  let x302 := bif x197 then x283 else x26
  let x303 := bif x197 then x284 else x27
  let x304 := bif x197 then x285 else x32
  let x305 := bif x197 then x286 else x33
  let x306 := bif x197 then x287 else x38
  let x307 := bif x197 then x288 else x39
  let x308 := bif x197 then x289 else x44
  let x309 := bif x197 then x290 else x45
  let x310 := bif x197 then x291 else x50
  let x311 := bif x197 then x292 else x51
  [.b ([ow [(x60, false), (x61, true)] x62, ow [(x60, false), (x61, true)] x63, ow [(x60, false), (x61, false), (x66, false), (x84, true)] x85, ow [(x60, false), (x61, false), (x66, false), (x84, true)] x86, ow [(x60, false), (x61, false), (x66, false), (x84, true)] x89, ow [(x60, false), (x61, false), (x66, false), (x84, true)] x90, ow [(x60, false), (x61, false), (x66, false), (x84, true)] x94, ow [(x60, false), (x61, false), (x66, false), (x84, true)] x95, ow [(x60, false), (x61, false), (x66, false), (x84, true)] x99, ow [(x60, false), (x61, false), (x66, false), (x84, true)] x100, ow [(x60, false), (x61, false), (x66, false), (x84, true)] x104, ow [(x60, false), (x61, false), (x66, false), (x84, true)] x105, ow [(x60, false), (x61, false), (x66, false), (x84, true)] x109, ow [(x60, false), (x61, false), (x66, false), (x84, true)] x110, ow [(x60, false), (x61, false), (x66, false), (x84, true)] x114, ow [(x60, false), (x61, false), (x66, false), (x84, true)] x115, ow [(x60, false), (x61, false), (x66, false), (x84, true)] x119, ow [(x60, false), (x61, false), (x66, false), (x84, true)] x120, ow [(x60, false), (x61, false), (x66, false), (x84, true)] x124, ow [(x60, false), (x61, false), (x66, false), (x84, true)] x125, ow [(x60, false), (x61, false), (x66, false), (x84, false), (x129, true)] x130, ow [(x60, false), (x61, false), (x66, false), (x84, false), (x129, true)] x131, ow [(x60, false), (x61, false), (x66, false), (x84, false), (x129, false), (x134, true)] x135, ow [(x60, false), (x61, false), (x66, false), (x84, false), (x129, false), (x134, true), (x137, true)] x138, ow [(x60, false), (x61, false), (x66, false), (x84, false), (x129, false), (x134, true), (x137, true)] x139, ow [(x60, false), (x61, false), (x66, false), (x84, false), (x129, false), (x134, true), (x137, true)] x140, ow [(x60, false), (x61, false), (x66, false), (x84, false), (x129, false), (x134, true), (x137, true)] x141].all id), .i x293, .b x197, .i x0, .b x1, .b x294, .b x295, .b x4, .b x5, .i x6, .b x7, .b x296, .b x297, .b x10, .b x11, .i x12, .b x13, .b x298, .b x299, .b x16, .b x17, .i x18, .b x19, .b x300, .b x301, .b x22, .b x23, .i x24, .b x25, .b x302, .b x303, .b x28, .b x29, .i x30, .b x31, .b x304, .b x305, .b x34, .b x35, .i x36, .b x37, .b x306, .b x307, .b x40, .b x41, .i x42, .b x43, .b x308, .b x309, .b x46, .b x47, .i x48, .b x49, .b x310, .b x311, .b x52, .b x53, .i x54, .i x55]
def S8 : Sigs := ⟨[(12, s12), (14, s14)], [], [], 1⟩

end Go.Proofs.Ythlbgkhbebffaaa

