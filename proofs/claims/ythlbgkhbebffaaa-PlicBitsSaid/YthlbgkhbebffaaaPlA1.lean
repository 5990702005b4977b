/- The functions of the statements, as lists of plain steps, each tied to the program's own text by the kernel (part 1). Written by the generator. -/
import Derived.Test.YthlbgkhbebffaaaPlA0
namespace Go.Proofs.Ythlbgkhbebffaaa
open Go Go.Sx
set_option maxRecDepth 100000

/-! (*tandem/plic.Plic).Line -/
def s10 : Sig := ⟨[.s (.one (.p 0 (.c 0))), .s (.one (.i .i64 (.h 56))), .s (.one (.b (.h 57)))], [some (.c true [some (.i .i64 (.h 0)), some (.b (.h 1)), some (.b (.h 2)), some (.b (.h 3)), some (.b (.h 4)), some (.b (.h 5)), some (.i .i64 (.h 6)), some (.b (.h 7)), some (.b (.h 8)), some (.b (.h 9)), some (.b (.h 10)), some (.b (.h 11)), some (.i .i64 (.h 12)), some (.b (.h 13)), some (.b (.h 14)), some (.b (.h 15)), some (.b (.h 16)), some (.b (.h 17)), some (.i .i64 (.h 18)), some (.b (.h 19)), some (.b (.h 20)), some (.b (.h 21)), some (.b (.h 22)), some (.b (.h 23)), some (.i .i64 (.h 24)), some (.b (.h 25)), some (.b (.h 26)), some (.b (.h 27)), some (.b (.h 28)), some (.b (.h 29)), some (.i .i64 (.h 30)), some (.b (.h 31)), some (.b (.h 32)), some (.b (.h 33)), some (.b (.h 34)), some (.b (.h 35)), some (.i .i64 (.h 36)), some (.b (.h 37)), some (.b (.h 38)), some (.b (.h 39)), some (.b (.h 40)), some (.b (.h 41)), some (.i .i64 (.h 42)), some (.b (.h 43)), some (.b (.h 44)), some (.b (.h 45)), some (.b (.h 46)), some (.b (.h 47)), some (.i .i64 (.h 48)), some (.b (.h 49)), some (.b (.h 50)), some (.b (.h 51)), some (.b (.h 52)), some (.b (.h 53)), some (.i .i64 (.h 54)), some (.i .i64 (.h 55))])], [.i, .b, .b, .b, .b, .b, .i, .b, .b, .b, .b, .b, .i, .b, .b, .b, .b, .b, .i, .b, .b, .b, .b, .b, .i, .b, .b, .b, .b, .b, .i, .b, .b, .b, .b, .b, .i, .b, .b, .b, .b, .b, .i, .b, .b, .b, .b, .b, .i, .b, .b, .b, .b, .b, .i, .i, .i, .b], .s (.one (.b (.h 0))), [some (.c true [some (.i .i64 (.h 1)), some (.b (.h 2)), some (.b (.h 3)), some (.b (.h 4)), some (.b (.h 5)), some (.b (.h 6)), some (.i .i64 (.h 7)), some (.b (.h 8)), some (.b (.h 9)), some (.b (.h 10)), some (.b (.h 11)), some (.b (.h 12)), some (.i .i64 (.h 13)), some (.b (.h 14)), some (.b (.h 15)), some (.b (.h 16)), some (.b (.h 17)), some (.b (.h 18)), some (.i .i64 (.h 19)), some (.b (.h 20)), some (.b (.h 21)), some (.b (.h 22)), some (.b (.h 23)), some (.b (.h 24)), some (.i .i64 (.h 25)), some (.b (.h 26)), some (.b (.h 27)), some (.b (.h 28)), some (.b (.h 29)), some (.b (.h 30)), some (.i .i64 (.h 31)), some (.b (.h 32)), some (.b (.h 33)), some (.b (.h 34)), some (.b (.h 35)), some (.b (.h 36)), some (.i .i64 (.h 37)), some (.b (.h 38)), some (.b (.h 39)), some (.b (.h 40)), some (.b (.h 41)), some (.b (.h 42)), some (.i .i64 (.h 43)), some (.b (.h 44)), some (.b (.h 45)), some (.b (.h 46)), some (.b (.h 47)), some (.b (.h 48)), some (.i .i64 (.h 49)), some (.b (.h 50)), some (.b (.h 51)), some (.b (.h 52)), some (.b (.h 53)), some (.b (.h 54)), some (.i .i64 (.h 55)), some (.i .i64 (.h 56))])], [.b, .i, .b, .b, .b, .b, .b, .i, .b, .b, .b, .b, .b, .i, .b, .b, .b, .b, .b, .i, .b, .b, .b, .b, .b, .i, .b, .b, .b, .b, .b, .i, .b, .b, .b, .b, .b, .i, .b, .b, .b, .b, .b, .i, .b, .b, .b, .b, .b, .i, .b, .b, .b, .b, .b, .i, .i], true⟩
def o10 : Out := ⟨[(58, .lss (.r 56) (.z 1)), (59, .gtr (.r 56) (.z 8)), (60, .or (.r 58) (.r 59)), (61, .not (.r 60)), (62, .geq (.r 56) (.z 0)), (63, .lss (.r 56) (.z 9)), (64, .eql (.r 56) (.z 0)), (65, .iteb (.r 64) (.r 57) (.r 1)), (66, .eql (.r 56) (.z 1)), (67, .iteb (.r 66) (.r 57) (.r 7)), (68, .eql (.r 56) (.z 2)), (69, .iteb (.r 68) (.r 57) (.r 13)), (70, .eql (.r 56) (.z 3)), (71, .iteb (.r 70) (.r 57) (.r 19)), (72, .eql (.r 56) (.z 4)), (73, .iteb (.r 72) (.r 57) (.r 25)), (74, .eql (.r 56) (.z 5)), (75, .iteb (.r 74) (.r 57) (.r 31)), (76, .eql (.r 56) (.z 6)), (77, .iteb (.r 76) (.r 57) (.r 37)), (78, .eql (.r 56) (.z 7)), (79, .iteb (.r 78) (.r 57) (.r 43)), (80, .eql (.r 56) (.z 8)), (81, .iteb (.r 80) (.r 57) (.r 49))] ++ callsAt 82 13 ([.r 0, .r 65, .r 2, .r 3, .r 4, .r 5, .r 6, .r 67, .r 8, .r 9, .r 10, .r 11, .r 12, .r 69, .r 14, .r 15, .r 16, .r 17, .r 18, .r 71, .r 20, .r 21, .r 22, .r 23, .r 24, .r 73, .r 26, .r 27, .r 28, .r 29, .r 30, .r 75, .r 32, .r 33, .r 34, .r 35, .r 36, .r 77, .r 38, .r 39, .r 40, .r 41, .r 42, .r 79, .r 44, .r 45, .r 46, .r 47, .r 48, .r 81] ++ idsFrom 50 7) 0 57 ++ [(139, .itei (.r 61) (.r 83) (.r 0)), (140, .iteb (.r 61) (.r 84) (.r 1)), (141, .iteb (.r 61) (.r 85) (.r 2)), (142, .iteb (.r 61) (.r 86) (.r 3)), (143, .iteb (.r 61) (.r 87) (.r 4)), (144, .iteb (.r 61) (.r 88) (.r 5)), (145, .itei (.r 61) (.r 89) (.r 6)), (146, .iteb (.r 61) (.r 90) (.r 7)), (147, .iteb (.r 61) (.r 91) (.r 8)), (148, .iteb (.r 61) (.r 92) (.r 9)), (149, .iteb (.r 61) (.r 93) (.r 10)), (150, .iteb (.r 61) (.r 94) (.r 11)), (151, .itei (.r 61) (.r 95) (.r 12)), (152, .iteb (.r 61) (.r 96) (.r 13)), (153, .iteb (.r 61) (.r 97) (.r 14)), (154, .iteb (.r 61) (.r 98) (.r 15)), (155, .iteb (.r 61) (.r 99) (.r 16)), (156, .iteb (.r 61) (.r 100) (.r 17)), (157, .itei (.r 61) (.r 101) (.r 18)), (158, .iteb (.r 61) (.r 102) (.r 19)), (159, .iteb (.r 61) (.r 103) (.r 20)), (160, .iteb (.r 61) (.r 104) (.r 21)), (161, .iteb (.r 61) (.r 105) (.r 22)), (162, .iteb (.r 61) (.r 106) (.r 23)), (163, .itei (.r 61) (.r 107) (.r 24)), (164, .iteb (.r 61) (.r 108) (.r 25)), (165, .iteb (.r 61) (.r 109) (.r 26)), (166, .iteb (.r 61) (.r 110) (.r 27)), (167, .iteb (.r 61) (.r 111) (.r 28)), (168, .iteb (.r 61) (.r 112) (.r 29)), (169, .itei (.r 61) (.r 113) (.r 30)), (170, .iteb (.r 61) (.r 114) (.r 31)), (171, .iteb (.r 61) (.r 115) (.r 32)), (172, .iteb (.r 61) (.r 116) (.r 33)), (173, .iteb (.r 61) (.r 117) (.r 34)), (174, .iteb (.r 61) (.r 118) (.r 35)), (175, .itei (.r 61) (.r 119) (.r 36)), (176, .iteb (.r 61) (.r 120) (.r 37)), (177, .iteb (.r 61) (.r 121) (.r 38)), (178, .iteb (.r 61) (.r 122) (.r 39)), (179, .iteb (.r 61) (.r 123) (.r 40)), (180, .iteb (.r 61) (.r 124) (.r 41)), (181, .itei (.r 61) (.r 125) (.r 42)), (182, .iteb (.r 61) (.r 126) (.r 43)), (183, .iteb (.r 61) (.r 127) (.r 44)), (184, .iteb (.r 61) (.r 128) (.r 45)), (185, .iteb (.r 61) (.r 129) (.r 46)), (186, .iteb (.r 61) (.r 130) (.r 47)), (187, .itei (.r 61) (.r 131) (.r 48)), (188, .iteb (.r 61) (.r 132) (.r 49)), (189, .iteb (.r 61) (.r 133) (.r 50)), (190, .iteb (.r 61) (.r 134) (.r 51)), (191, .iteb (.r 61) (.r 135) (.r 52)), (192, .iteb (.r 61) (.r 136) (.r 53)), (193, .itei (.r 61) (.r 137) (.r 54)), (194, .itei (.r 61) (.r 138) (.r 55))],
  [⟨[(.r 61, true)], .r 62⟩, ⟨[(.r 61, true)], .r 63⟩, ⟨[(.r 61, true)], .r 82⟩],
  [],
  ([.r 61] ++ idsFrom 139 56)⟩
noncomputable def p10 (x0 : Int) (x1 : Bool) (x2 : Bool) (x3 : Bool) (x4 : Bool) (x5 : Bool) (x6 : Int) (x7 : Bool) (x8 : Bool) (x9 : Bool) (x10 : Bool) (x11 : Bool) (x12 : Int) (x13 : Bool) (x14 : Bool) (x15 : Bool) (x16 : Bool) (x17 : Bool) (x18 : Int) (x19 : Bool) (x20 : Bool) (x21 : Bool) (x22 : Bool) (x23 : Bool) (x24 : Int) (x25 : Bool) (x26 : Bool) (x27 : Bool) (x28 : Bool) (x29 : Bool) (x30 : Int) (x31 : Bool) (x32 : Bool) (x33 : Bool) (x34 : Bool) (x35 : Bool) (x36 : Int) (x37 : Bool) (x38 : Bool) (x39 : Bool) (x40 : Bool) (x41 : Bool) (x42 : Int) (x43 : Bool) (x44 : Bool) (x45 : Bool) (x46 : Bool) (x47 : Bool) (x48 : Int) (x49 : Bool) (x50 : Bool) (x51 : Bool) (x52 : Bool) (x53 : Bool) (x54 : Int) (x55 : Int) (x56 : Int) (x57 : Bool) : Bool :=
  let x58 := decide (x56 < 1)
  let x59 := decide (x56 > 8)
  let x60 := x58 || x59
  let x61 := !x60
  let x62 := decide (x56 ≥ 0)
  let x63 := decide (x56 < 9)
  let x64 := x56 == 0
  let x65 := bif x64 then x57 else x1
  let x66 := x56 == 1
  let x67 := bif x66 then x57 else x7
  let x68 := x56 == 2
  let x69 := bif x68 then x57 else x13
  let x70 := x56 == 3
  let x71 := bif x70 then x57 else x19
  let x72 := x56 == 4
  let x73 := bif x72 then x57 else x25
  let x74 := x56 == 5
  let x75 := bif x74 then x57 else x31
  let x76 := x56 == 6
  let x77 := bif x76 then x57 else x37
  let x78 := x56 == 7
  let x79 := bif x78 then x57 else x43
  let x80 := x56 == 8
  let x81 := bif x80 then x57 else x49
  let y82 := g13 [.i x0, .b x65, .b x2, .b x3, .b x4, .b x5, .i x6, .b x67, .b x8, .b x9, .b x10, .b x11, .i x12, .b x69, .b x14, .b x15, .b x16, .b x17, .i x18, .b x71, .b x20, .b x21, .b x22, .b x23, .i x24, .b x73, .b x26, .b x27, .b x28, .b x29, .i x30, .b x75, .b x32, .b x33, .b x34, .b x35, .i x36, .b x77, .b x38, .b x39, .b x40, .b x41, .i x42, .b x79, .b x44, .b x45, .b x46, .b x47, .i x48, .b x81, .b x50, .b x51, .b x52, .b x53, .i x54, .i x55, .i x56]
  let x82 := (dget y82 0).toB
  [ow [(x61, true)] x62, ow [(x61, true)] x63, ow [(x61, true)] x82].all id
noncomputable def r10_0 (x56 : Int) : Bool :=
  let x58 := decide (x56 < 1)
  let x59 := decide (x56 > 8)
  let x60 := x58 || x59
  let x61 := !x60
  x61
noncomputable def r10_1 (x0 : Int) (x1 : Bool) (x2 : Bool) (x3 : Bool) (x4 : Bool) (x5 : Bool) (x6 : Int) (x7 : Bool) (x8 : Bool) (x9 : Bool) (x10 : Bool) (x11 : Bool) (x12 : Int) (x13 : Bool) (x14 : Bool) (x15 : Bool) (x16 : Bool) (x17 : Bool) (x18 : Int) (x19 : Bool) (x20 : Bool) (x21 : Bool) (x22 : Bool) (x23 : Bool) (x24 : Int) (x25 : Bool) (x26 : Bool) (x27 : Bool) (x28 : Bool) (x29 : Bool) (x30 : Int) (x31 : Bool) (x32 : Bool) (x33 : Bool) (x34 : Bool) (x35 : Bool) (x36 : Int) (x37 : Bool) (x38 : Bool) (x39 : Bool) (x40 : Bool) (x41 : Bool) (x42 : Int) (x43 : Bool) (x44 : Bool) (x45 : Bool) (x46 : Bool) (x47 : Bool) (x48 : Int) (x49 : Bool) (x50 : Bool) (x51 : Bool) (x52 : Bool) (x53 : Bool) (x54 : Int) (x55 : Int) (x56 : Int) (x57 : Bool) : Int :=
  let x58 := decide (x56 < 1)
  let x59 := decide (x56 > 8)
  let x60 := x58 || x59
  let x61 := !x60
  let x64 := x56 == 0
  let x65 := bif x64 then x57 else x1
  let x66 := x56 == 1
  let x67 := bif x66 then x57 else x7
  let x68 := x56 == 2
  let x69 := bif x68 then x57 else x13
  let x70 := x56 == 3
  let x71 := bif x70 then x57 else x19
  let x72 := x56 == 4
  let x73 := bif x72 then x57 else x25
  let x74 := x56 == 5
  let x75 := bif x74 then x57 else x31
  let x76 := x56 == 6
  let x77 := bif x76 then x57 else x37
  let x78 := x56 == 7
  let x79 := bif x78 then x57 else x43
  let x80 := x56 == 8
  let x81 := bif x80 then x57 else x49
  let y83 := g13 [.i x0, .b x65, .b x2, .b x3, .b x4, .b x5, .i x6, .b x67, .b x8, .b x9, .b x10, .b x11, .i x12, .b x69, .b x14, .b x15, .b x16, .b x17, .i x18, .b x71, .b x20, .b x21, .b x22, .b x23, .i x24, .b x73, .b x26, .b x27, .b x28, .b x29, .i x30, .b x75, .b x32, .b x33, .b x34, .b x35, .i x36, .b x77, .b x38, .b x39, .b x40, .b x41, .i x42, .b x79, .b x44, .b x45, .b x46, .b x47, .i x48, .b x81, .b x50, .b x51, .b x52, .b x53, .i x54, .i x55, .i x56]
  let x83 := (dget y83 1).toI
  let x139 := bif x61 then x83 else x0
  x139
noncomputable def r10_2 (x0 : Int) (x1 : Bool) (x2 : Bool) (x3 : Bool) (x4 : Bool) (x5 : Bool) (x6 : Int) (x7 : Bool) (x8 : Bool) (x9 : Bool) (x10 : Bool) (x11 : Bool) (x12 : Int) (x13 : Bool) (x14 : Bool) (x15 : Bool) (x16 : Bool) (x17 : Bool) (x18 : Int) (x19 : Bool) (x20 : Bool) (x21 : Bool) (x22 : Bool) (x23 : Bool) (x24 : Int) (x25 : Bool) (x26 : Bool) (x27 : Bool) (x28 : Bool) (x29 : Bool) (x30 : Int) (x31 : Bool) (x32 : Bool) (x33 : Bool) (x34 : Bool) (x35 : Bool) (x36 : Int) (x37 : Bool) (x38 : Bool) (x39 : Bool) (x40 : Bool) (x41 : Bool) (x42 : Int) (x43 : Bool) (x44 : Bool) (x45 : Bool) (x46 : Bool) (x47 : Bool) (x48 : Int) (x49 : Bool) (x50 : Bool) (x51 : Bool) (x52 : Bool) (x53 : Bool) (x54 : Int) (x55 : Int) (x56 : Int) (x57 : Bool) : Bool :=
  let x58 := decide (x56 < 1)
  let x59 := decide (x56 > 8)
  let x60 := x58 || x59
  let x61 := !x60
  let x64 := x56 == 0
  let x65 := bif x64 then x57 else x1
  let x66 := x56 == 1
  let x67 := bif x66 then x57 else x7
  let x68 := x56 == 2
  let x69 := bif x68 then x57 else x13
  let x70 := x56 == 3
  let x71 := bif x70 then x57 else x19
  let x72 := x56 == 4
  let x73 := bif x72 then x57 else x25
  let x74 := x56 == 5
  let x75 := bif x74 then x57 else x31
  let x76 := x56 == 6
  let x77 := bif x76 then x57 else x37
  let x78 := x56 == 7
  let x79 := bif x78 then x57 else x43
  let x80 := x56 == 8
  let x81 := bif x80 then x57 else x49
  let y84 := g13 [.i x0, .b x65, .b x2, .b x3, .b x4, .b x5, .i x6, .b x67, .b x8, .b x9, .b x10, .b x11, .i x12, .b x69, .b x14, .b x15, .b x16, .b x17, .i x18, .b x71, .b x20, .b x21, .b x22, .b x23, .i x24, .b x73, .b x26, .b x27, .b x28, .b x29, .i x30, .b x75, .b x32, .b x33, .b x34, .b x35, .i x36, .b x77, .b x38, .b x39, .b x40, .b x41, .i x42, .b x79, .b x44, .b x45, .b x46, .b x47, .i x48, .b x81, .b x50, .b x51, .b x52, .b x53, .i x54, .i x55, .i x56]
  let x84 := (dget y84 2).toB
  let x140 := bif x61 then x84 else x1
  x140
noncomputable def r10_3 (x0 : Int) (x1 : Bool) (x2 : Bool) (x3 : Bool) (x4 : Bool) (x5 : Bool) (x6 : Int) (x7 : Bool) (x8 : Bool) (x9 : Bool) (x10 : Bool) (x11 : Bool) (x12 : Int) (x13 : Bool) (x14 : Bool) (x15 : Bool) (x16 : Bool) (x17 : Bool) (x18 : Int) (x19 : Bool) (x20 : Bool) (x21 : Bool) (x22 : Bool) (x23 : Bool) (x24 : Int) (x25 : Bool) (x26 : Bool) (x27 : Bool) (x28 : Bool) (x29 : Bool) (x30 : Int) (x31 : Bool) (x32 : Bool) (x33 : Bool) (x34 : Bool) (x35 : Bool) (x36 : Int) (x37 : Bool) (x38 : Bool) (x39 : Bool) (x40 : Bool) (x41 : Bool) (x42 : Int) (x43 : Bool) (x44 : Bool) (x45 : Bool) (x46 : Bool) (x47 : Bool) (x48 : Int) (x49 : Bool) (x50 : Bool) (x51 : Bool) (x52 : Bool) (x53 : Bool) (x54 : Int) (x55 : Int) (x56 : Int) (x57 : Bool) : Bool :=
  let x58 := decide (x56 < 1)
  let x59 := decide (x56 > 8)
  let x60 := x58 || x59
  let x61 := !x60
  let x64 := x56 == 0
  let x65 := bif x64 then x57 else x1
  let x66 := x56 == 1
  let x67 := bif x66 then x57 else x7
  let x68 := x56 == 2
  let x69 := bif x68 then x57 else x13
  let x70 := x56 == 3
  let x71 := bif x70 then x57 else x19
  let x72 := x56 == 4
  let x73 := bif x72 then x57 else x25
  let x74 := x56 == 5
  let x75 := bif x74 then x57 else x31
  let x76 := x56 == 6
  let x77 := bif x76 then x57 else x37
  let x78 := x56 == 7
  let x79 := bif x78 then x57 else x43
  let x80 := x56 == 8
  let x81 := bif x80 then x57 else x49
  let y85 := g13 [.i x0, .b x65, .b x2, .b x3, .b x4, .b x5, .i x6, .b x67, .b x8, .b x9, .b x10, .b x11, .i x12, .b x69, .b x14, .b x15, .b x16, .b x17, .i x18, .b x71, .b x20, .b x21, .b x22, .b x23, .i x24, .b x73, .b x26, .b x27, .b x28, .b x29, .i x30, .b x75, .b x32, .b x33, .b x34, .b x35, .i x36, .b x77, .b x38, .b x39, .b x40, .b x41, .i x42, .b x79, .b x44, .b x45, .b x46, .b x47, .i x48, .b x81, .b x50, .b x51, .b x52, .b x53, .i x54, .i x55, .i x56]
  let x85 := (dget y85 3).toB
  let x141 := bif x61 then x85 else x2
  x141
noncomputable def r10_4 (x0 : Int) (x1 : Bool) (x2 : Bool) (x3 : Bool) (x4 : Bool) (x5 : Bool) (x6 : Int) (x7 : Bool) (x8 : Bool) (x9 : Bool) (x10 : Bool) (x11 : Bool) (x12 : Int) (x13 : Bool) (x14 : Bool) (x15 : Bool) (x16 : Bool) (x17 : Bool) (x18 : Int) (x19 : Bool) (x20 : Bool) (x21 : Bool) (x22 : Bool) (x23 : Bool) (x24 : Int) (x25 : Bool) (x26 : Bool) (x27 : Bool) (x28 : Bool) (x29 : Bool) (x30 : Int) (x31 : Bool) (x32 : Bool) (x33 : Bool) (x34 : Bool) (x35 : Bool) (x36 : Int) (x37 : Bool) (x38 : Bool) (x39 : Bool) (x40 : Bool) (x41 : Bool) (x42 : Int) (x43 : Bool) (x44 : Bool) (x45 : Bool) (x46 : Bool) (x47 : Bool) (x48 : Int) (x49 : Bool) (x50 : Bool) (x51 : Bool) (x52 : Bool) (x53 : Bool) (x54 : Int) (x55 : Int) (x56 : Int) (x57 : Bool) : Bool :=
  let x58 := decide (x56 < 1)
  let x59 := decide (x56 > 8)
  let x60 := x58 || x59
  let x61 := !x60
  let x64 := x56 == 0
  let x65 := bif x64 then x57 else x1
  let x66 := x56 == 1
  let x67 := bif x66 then x57 else x7
  let x68 := x56 == 2
  let x69 := bif x68 then x57 else x13
  let x70 := x56 == 3
  let x71 := bif x70 then x57 else x19
  let x72 := x56 == 4
  let x73 := bif x72 then x57 else x25
  let x74 := x56 == 5
  let x75 := bif x74 then x57 else x31
  let x76 := x56 == 6
  let x77 := bif x76 then x57 else x37
  let x78 := x56 == 7
  let x79 := bif x78 then x57 else x43
  let x80 := x56 == 8
  let x81 := bif x80 then x57 else x49
  let y86 := g13 [.i x0, .b x65, .b x2, .b x3, .b x4, .b x5, .i x6, .b x67, .b x8, .b x9, .b x10, .b x11, .i x12, .b x69, .b x14, .b x15, .b x16, .b x17, .i x18, .b x71, .b x20, .b x21, .b x22, .b x23, .i x24, .b x73, .b x26, .b x27, .b x28, .b x29, .i x30, .b x75, .b x32, .b x33, .b x34, .b x35, .i x36, .b x77, .b x38, .b x39, .b x40, .b x41, .i x42, .b x79, .b x44, .b x45, .b x46, .b x47, .i x48, .b x81, .b x50, .b x51, .b x52, .b x53, .i x54, .i x55, .i x56]
  let x86 := (dget y86 4).toB
  let x142 := bif x61 then x86 else x3
  x142
noncomputable def r10_5 (x0 : Int) (x1 : Bool) (x2 : Bool) (x3 : Bool) (x4 : Bool) (x5 : Bool) (x6 : Int) (x7 : Bool) (x8 : Bool) (x9 : Bool) (x10 : Bool) (x11 : Bool) (x12 : Int) (x13 : Bool) (x14 : Bool) (x15 : Bool) (x16 : Bool) (x17 : Bool) (x18 : Int) (x19 : Bool) (x20 : Bool) (x21 : Bool) (x22 : Bool) (x23 : Bool) (x24 : Int) (x25 : Bool) (x26 : Bool) (x27 : Bool) (x28 : Bool) (x29 : Bool) (x30 : Int) (x31 : Bool) (x32 : Bool) (x33 : Bool) (x34 : Bool) (x35 : Bool) (x36 : Int) (x37 : Bool) (x38 : Bool) (x39 : Bool) (x40 : Bool) (x41 : Bool) (x42 : Int) (x43 : Bool) (x44 : Bool) (x45 : Bool) (x46 : Bool) (x47 : Bool) (x48 : Int) (x49 : Bool) (x50 : Bool) (x51 : Bool) (x52 : Bool) (x53 : Bool) (x54 : Int) (x55 : Int) (x56 : Int) (x57 : Bool) : Bool :=
  let x58 := decide (x56 < 1)
  let x59 := decide (x56 > 8)
  let x60 := x58 || x59
  let x61 := !x60
  let x64 := x56 == 0
  let x65 := bif x64 then x57 else x1
  let x66 := x56 == 1
  let x67 := bif x66 then x57 else x7
  let x68 := x56 == 2
  let x69 := bif x68 then x57 else x13
  let x70 := x56 == 3
  let x71 := bif x70 then x57 else x19
  let x72 := x56 == 4
  let x73 := bif x72 then x57 else x25
  let x74 := x56 == 5
  let x75 := bif x74 then x57 else x31
  let x76 := x56 == 6
  let x77 := bif x76 then x57 else x37
  let x78 := x56 == 7
  let x79 := bif x78 then x57 else x43
  let x80 := x56 == 8
  let x81 := bif x80 then x57 else x49
  let y87 := g13 [.i x0, .b x65, .b x2, .b x3, .b x4, .b x5, .i x6, .b x67, .b x8, .b x9, .b x10, .b x11, .i x12, .b x69, .b x14, .b x15, .b x16, .b x17, .i x18, .b x71, .b x20, .b x21, .b x22, .b x23, .i x24, .b x73, .b x26, .b x27, .b x28, .b x29, .i x30, .b x75, .b x32, .b x33, .b x34, .b x35, .i x36, .b x77, .b x38, .b x39, .b x40, .b x41, .i x42, .b x79, .b x44, .b x45, .b x46, .b x47, .i x48, .b x81, .b x50, .b x51, .b x52, .b x53, .i x54, .i x55, .i x56]
  let x87 := (dget y87 5).toB
  let x143 := bif x61 then x87 else x4
  x143
noncomputable def r10_6 (x0 : Int) (x1 : Bool) (x2 : Bool) (x3 : Bool) (x4 : Bool) (x5 : Bool) (x6 : Int) (x7 : Bool) (x8 : Bool) (x9 : Bool) (x10 : Bool) (x11 : Bool) (x12 : Int) (x13 : Bool) (x14 : Bool) (x15 : Bool) (x16 : Bool) (x17 : Bool) (x18 : Int) (x19 : Bool) (x20 : Bool) (x21 : Bool) (x22 : Bool) (x23 : Bool) (x24 : Int) (x25 : Bool) (x26 : Bool) (x27 : Bool) (x28 : Bool) (x29 : Bool) (x30 : Int) (x31 : Bool) (x32 : Bool) (x33 : Bool) (x34 : Bool) (x35 : Bool) (x36 : Int) (x37 : Bool) (x38 : Bool) (x39 : Bool) (x40 : Bool) (x41 : Bool) (x42 : Int) (x43 : Bool) (x44 : Bool) (x45 : Bool) (x46 : Bool) (x47 : Bool) (x48 : Int) (x49 : Bool) (x50 : Bool) (x51 : Bool) (x52 : Bool) (x53 : Bool) (x54 : Int) (x55 : Int) (x56 : Int) (x57 : Bool) : Bool :=
  let x58 := decide (x56 < 1)
  let x59 := decide (x56 > 8)
  let x60 := x58 || x59
  let x61 := !x60
  let x64 := x56 == 0
  let x65 := bif x64 then x57 else x1
  let x66 := x56 == 1
  let x67 := bif x66 then x57 else x7
  let x68 := x56 == 2
  let x69 := bif x68 then x57 else x13
  let x70 := x56 == 3
  let x71 := bif x70 then x57 else x19
  let x72 := x56 == 4
  let x73 := bif x72 then x57 else x25
  let x74 := x56 == 5
  let x75 := bif x74 then x57 else x31
  let x76 := x56 == 6
  let x77 := bif x76 then x57 else x37
  let x78 := x56 == 7
  let x79 := bif x78 then x57 else x43
  let x80 := x56 == 8
  let x81 := bif x80 then x57 else x49
  let y88 := g13 [.i x0, .b x65, .b x2, .b x3, .b x4, .b x5, .i x6, .b x67, .b x8, .b x9, .b x10, .b x11, .i x12, .b x69, .b x14, .b x15, .b x16, .b x17, .i x18, .b x71, .b x20, .b x21, .b x22, .b x23, .i x24, .b x73, .b x26, .b x27, .b x28, .b x29, .i x30, .b x75, .b x32, .b x33, .b x34, .b x35, .i x36, .b x77, .b x38, .b x39, .b x40, .b x41, .i x42, .b x79, .b x44, .b x45, .b x46, .b x47, .i x48, .b x81, .b x50, .b x51, .b x52, .b x53, .i x54, .i x55, .i x56]
  let x88 := (dget y88 6).toB
  let x144 := bif x61 then x88 else x5
  x144
noncomputable def r10_7 (x0 : Int) (x1 : Bool) (x2 : Bool) (x3 : Bool) (x4 : Bool) (x5 : Bool) (x6 : Int) (x7 : Bool) (x8 : Bool) (x9 : Bool) (x10 : Bool) (x11 : Bool) (x12 : Int) (x13 : Bool) (x14 : Bool) (x15 : Bool) (x16 : Bool) (x17 : Bool) (x18 : Int) (x19 : Bool) (x20 : Bool) (x21 : Bool) (x22 : Bool) (x23 : Bool) (x24 : Int) (x25 : Bool) (x26 : Bool) (x27 : Bool) (x28 : Bool) (x29 : Bool) (x30 : Int) (x31 : Bool) (x32 : Bool) (x33 : Bool) (x34 : Bool) (x35 : Bool) (x36 : Int) (x37 : Bool) (x38 : Bool) (x39 : Bool) (x40 : Bool) (x41 : Bool) (x42 : Int) (x43 : Bool) (x44 : Bool) (x45 : Bool) (x46 : Bool) (x47 : Bool) (x48 : Int) (x49 : Bool) (x50 : Bool) (x51 : Bool) (x52 : Bool) (x53 : Bool) (x54 : Int) (x55 : Int) (x56 : Int) (x57 : Bool) : Int :=
  let x58 := decide (x56 < 1)
  let x59 := decide (x56 > 8)
  let x60 := x58 || x59
  let x61 := !x60
  let x64 := x56 == 0
  let x65 := bif x64 then x57 else x1
  let x66 := x56 == 1
  let x67 := bif x66 then x57 else x7
  let x68 := x56 == 2
  let x69 := bif x68 then x57 else x13
  let x70 := x56 == 3
  let x71 := bif x70 then x57 else x19
  let x72 := x56 == 4
  let x73 := bif x72 then x57 else x25
  let x74 := x56 == 5
  let x75 := bif x74 then x57 else x31
  let x76 := x56 == 6
  let x77 := bif x76 then x57 else x37
  let x78 := x56 == 7
  let x79 := bif x78 then x57 else x43
  let x80 := x56 == 8
  let x81 := bif x80 then x57 else x49
  let y89 := g13 [.i x0, .b x65, .b x2, .b x3, .b x4, .b x5, .i x6, .b x67, .b x8, .b x9, .b x10, .b x11, .i x12, .b x69, .b x14, .b x15, .b x16, .b x17, .i x18, .b x71, .b x20, .b x21, .b x22, .b x23, .i x24, .b x73, .b x26, .b x27, .b x28, .b x29, .i x30, .b x75, .b x32, .b x33, .b x34, .b x35, .i x36, .b x77, .b x38, .b x39, .b x40, .b x41, .i x42, .b x79, .b x44, .b x45, .b x46, .b x47, .i x48, .b x81, .b x50, .b x51, .b x52, .b x53, .i x54, .i x55, .i x56]
  let x89 := (dget y89 7).toI
  let x145 := bif x61 then x89 else x6
  x145
noncomputable def r10_8 (x0 : Int) (x1 : Bool) (x2 : Bool) (x3 : Bool) (x4 : Bool) (x5 : Bool) (x6 : Int) (x7 : Bool) (x8 : Bool) (x9 : Bool) (x10 : Bool) (x11 : Bool) (x12 : Int) (x13 : Bool) (x14 : Bool) (x15 : Bool) (x16 : Bool) (x17 : Bool) (x18 : Int) (x19 : Bool) (x20 : Bool) (x21 : Bool) (x22 : Bool) (x23 : Bool) (x24 : Int) (x25 : Bool) (x26 : Bool) (x27 : Bool) (x28 : Bool) (x29 : Bool) (x30 : Int) (x31 : Bool) (x32 : Bool) (x33 : Bool) (x34 : Bool) (x35 : Bool) (x36 : Int) (x37 : Bool) (x38 : Bool) (x39 : Bool) (x40 : Bool) (x41 : Bool) (x42 : Int) (x43 : Bool) (x44 : Bool) (x45 : Bool) (x46 : Bool) (x47 : Bool) (x48 : Int) (x49 : Bool) (x50 : Bool) (x51 : Bool) (x52 : Bool) (x53 : Bool) (x54 : Int) (x55 : Int) (x56 : Int) (x57 : Bool) : Bool :=
  let x58 := decide (x56 < 1)
  let x59 := decide (x56 > 8)
  let x60 := x58 || x59
  let x61 := !x60
  let x64 := x56 == 0
  let x65 := bif x64 then x57 else x1
  let x66 := x56 == 1
  let x67 := bif x66 then x57 else x7
  let x68 := x56 == 2
  let x69 := bif x68 then x57 else x13
  let x70 := x56 == 3
  let x71 := bif x70 then x57 else x19
  let x72 := x56 == 4
  let x73 := bif x72 then x57 else x25
  let x74 := x56 == 5
  let x75 := bif x74 then x57 else x31
  let x76 := x56 == 6
  let x77 := bif x76 then x57 else x37
  let x78 := x56 == 7
  let x79 := bif x78 then x57 else x43
  let x80 := x56 == 8
  let x81 := bif x80 then x57 else x49
  let y90 := g13 [.i x0, .b x65, .b x2, .b x3, .b x4, .b x5, .i x6, .b x67, .b x8, .b x9, .b x10, .b x11, .i x12, .b x69, .b x14, .b x15, .b x16, .b x17, .i x18, .b x71, .b x20, .b x21, .b x22, .b x23, .i x24, .b x73, .b x26, .b x27, .b x28, .b x29, .i x30, .b x75, .b x32, .b x33, .b x34, .b x35, .i x36, .b x77, .b x38, .b x39, .b x40, .b x41, .i x42, .b x79, .b x44, .b x45, .b x46, .b x47, .i x48, .b x81, .b x50, .b x51, .b x52, .b x53, .i x54, .i x55, .i x56]
  let x90 := (dget y90 8).toB
  let x146 := bif x61 then x90 else x7
  x146
noncomputable def r10_9 (x0 : Int) (x1 : Bool) (x2 : Bool) (x3 : Bool) (x4 : Bool) (x5 : Bool) (x6 : Int) (x7 : Bool) (x8 : Bool) (x9 : Bool) (x10 : Bool) (x11 : Bool) (x12 : Int) (x13 : Bool) (x14 : Bool) (x15 : Bool) (x16 : Bool) (x17 : Bool) (x18 : Int) (x19 : Bool) (x20 : Bool) (x21 : Bool) (x22 : Bool) (x23 : Bool) (x24 : Int) (x25 : Bool) (x26 : Bool) (x27 : Bool) (x28 : Bool) (x29 : Bool) (x30 : Int) (x31 : Bool) (x32 : Bool) (x33 : Bool) (x34 : Bool) (x35 : Bool) (x36 : Int) (x37 : Bool) (x38 : Bool) (x39 : Bool) (x40 : Bool) (x41 : Bool) (x42 : Int) (x43 : Bool) (x44 : Bool) (x45 : Bool) (x46 : Bool) (x47 : Bool) (x48 : Int) (x49 : Bool) (x50 : Bool) (x51 : Bool) (x52 : Bool) (x53 : Bool) (x54 : Int) (x55 : Int) (x56 : Int) (x57 : Bool) : Bool :=
  let x58 := decide (x56 < 1)
  let x59 := decide (x56 > 8)
  let x60 := x58 || x59
  let x61 := !x60
  let x64 := x56 == 0
  let x65 := bif x64 then x57 else x1
  let x66 := x56 == 1
  let x67 := bif x66 then x57 else x7
  let x68 := x56 == 2
  let x69 := bif x68 then x57 else x13
  let x70 := x56 == 3
  let x71 := bif x70 then x57 else x19
  let x72 := x56 == 4
  let x73 := bif x72 then x57 else x25
  let x74 := x56 == 5
  let x75 := bif x74 then x57 else x31
  let x76 := x56 == 6
  let x77 := bif x76 then x57 else x37
  let x78 := x56 == 7
  let x79 := bif x78 then x57 else x43
  let x80 := x56 == 8
  let x81 := bif x80 then x57 else x49
  let y91 := g13 [.i x0, .b x65, .b x2, .b x3, .b x4, .b x5, .i x6, .b x67, .b x8, .b x9, .b x10, .b x11, .i x12, .b x69, .b x14, .b x15, .b x16, .b x17, .i x18, .b x71, .b x20, .b x21, .b x22, .b x23, .i x24, .b x73, .b x26, .b x27, .b x28, .b x29, .i x30, .b x75, .b x32, .b x33, .b x34, .b x35, .i x36, .b x77, .b x38, .b x39, .b x40, .b x41, .i x42, .b x79, .b x44, .b x45, .b x46, .b x47, .i x48, .b x81, .b x50, .b x51, .b x52, .b x53, .i x54, .i x55, .i x56]
  let x91 := (dget y91 9).toB
  let x147 := bif x61 then x91 else x8
  x147
noncomputable def r10_10 (x0 : Int) (x1 : Bool) (x2 : Bool) (x3 : Bool) (x4 : Bool) (x5 : Bool) (x6 : Int) (x7 : Bool) (x8 : Bool) (x9 : Bool) (x10 : Bool) (x11 : Bool) (x12 : Int) (x13 : Bool) (x14 : Bool) (x15 : Bool) (x16 : Bool) (x17 : Bool) (x18 : Int) (x19 : Bool) (x20 : Bool) (x21 : Bool) (x22 : Bool) (x23 : Bool) (x24 : Int) (x25 : Bool) (x26 : Bool) (x27 : Bool) (x28 : Bool) (x29 : Bool) (x30 : Int) (x31 : Bool) (x32 : Bool) (x33 : Bool) (x34 : Bool) (x35 : Bool) (x36 : Int) (x37 : Bool) (x38 : Bool) (x39 : Bool) (x40 : Bool) (x41 : Bool) (x42 : Int) (x43 : Bool) (x44 : Bool) (x45 : Bool) (x46 : Bool) (x47 : Bool) (x48 : Int) (x49 : Bool) (x50 : Bool) (x51 : Bool) (x52 : Bool) (x53 : Bool) (x54 : Int) (x55 : Int) (x56 : Int) (x57 : Bool) : Bool :=
  let x58 := decide (x56 < 1)
  let x59 := decide (x56 > 8)
  let x60 := x58 || x59
  let x61 := !x60
  let x64 := x56 == 0
  let x65 := bif x64 then x57 else x1
  let x66 := x56 == 1
  let x67 := bif x66 then x57 else x7
  let x68 := x56 == 2
  let x69 := bif x68 then x57 else x13
  let x70 := x56 == 3
  let x71 := bif x70 then x57 else x19
  let x72 := x56 == 4
  let x73 := bif x72 then x57 else x25
  let x74 := x56 == 5
  let x75 := bif x74 then x57 else x31
  let x76 := x56 == 6
  let x77 := bif x76 then x57 else x37
  let x78 := x56 == 7
  let x79 := bif x78 then x57 else x43
  let x80 := x56 == 8
  let x81 := bif x80 then x57 else x49
  let y92 := g13 [.i x0, .b x65, .b x2, .b x3, .b x4, .b x5, .i x6, .b x67, .b x8, .b x9, .b x10, .b x11, .i x12, .b x69, .b x14, .b x15, .b x16, .b x17, .i x18, .b x71, .b x20, .b x21, .b x22, .b x23, .i x24, .b x73, .b x26, .b x27, .b x28, .b x29, .i x30, .b x75, .b x32, .b x33, .b x34, .b x35, .i x36, .b x77, .b x38, .b x39, .b x40, .b x41, .i x42, .b x79, .b x44, .b x45, .b x46, .b x47, .i x48, .b x81, .b x50, .b x51, .b x52, .b x53, .i x54, .i x55, .i x56]
  let x92 := (dget y92 10).toB
  let x148 := bif x61 then x92 else x9
  x148
noncomputable def r10_11 (x0 : Int) (x1 : Bool) (x2 : Bool) (x3 : Bool) (x4 : Bool) (x5 : Bool) (x6 : Int) (x7 : Bool) (x8 : Bool) (x9 : Bool) (x10 : Bool) (x11 : Bool) (x12 : Int) (x13 : Bool) (x14 : Bool) (x15 : Bool) (x16 : Bool) (x17 : Bool) (x18 : Int) (x19 : Bool) (x20 : Bool) (x21 : Bool) (x22 : Bool) (x23 : Bool) (x24 : Int) (x25 : Bool) (x26 : Bool) (x27 : Bool) (x28 : Bool) (x29 : Bool) (x30 : Int) (x31 : Bool) (x32 : Bool) (x33 : Bool) (x34 : Bool) (x35 : Bool) (x36 : Int) (x37 : Bool) (x38 : Bool) (x39 : Bool) (x40 : Bool) (x41 : Bool) (x42 : Int) (x43 : Bool) (x44 : Bool) (x45 : Bool) (x46 : Bool) (x47 : Bool) (x48 : Int) (x49 : Bool) (x50 : Bool) (x51 : Bool) (x52 : Bool) (x53 : Bool) (x54 : Int) (x55 : Int) (x56 : Int) (x57 : Bool) : Bool :=
  let x58 := decide (x56 < 1)
  let x59 := decide (x56 > 8)
  let x60 := x58 || x59
  let x61 := !x60
  let x64 := x56 == 0
  let x65 := bif x64 then x57 else x1
  let x66 := x56 == 1
  let x67 := bif x66 then x57 else x7
  let x68 := x56 == 2
  let x69 := bif x68 then x57 else x13
  let x70 := x56 == 3
  let x71 := bif x70 then x57 else x19
  let x72 := x56 == 4
  let x73 := bif x72 then x57 else x25
  let x74 := x56 == 5
  let x75 := bif x74 then x57 else x31
  let x76 := x56 == 6
  let x77 := bif x76 then x57 else x37
  let x78 := x56 == 7
  let x79 := bif x78 then x57 else x43
  let x80 := x56 == 8
  let x81 := bif x80 then x57 else x49
  let y93 := g13 [.i x0, .b x65, .b x2, .b x3, .b x4, .b x5, .i x6, .b x67, .b x8, .b x9, .b x10, .b x11, .i x12, .b x69, .b x14, .b x15, .b x16, .b x17, .i x18, .b x71, .b x20, .b x21, .b x22, .b x23, .i x24, .b x73, .b x26, .b x27, .b x28, .b x29, .i x30, .b x75, .b x32, .b x33, .b x34, .b x35, .i x36, .b x77, .b x38, .b x39, .b x40, .b x41, .i x42, .b x79, .b x44, .b x45, .b x46, .b x47, .i x48, .b x81, .b x50, .b x51, .b x52, .b x53, .i x54, .i x55, .i x56]
  let x93 := (dget y93 11).toB
  let x149 := bif x61 then x93 else x10
  x149
noncomputable def r10_12 (x0 : Int) (x1 : Bool) (x2 : Bool) (x3 : Bool) (x4 : Bool) (x5 : Bool) (x6 : Int) (x7 : Bool) (x8 : Bool) (x9 : Bool) (x10 : Bool) (x11 : Bool) (x12 : Int) (x13 : Bool) (x14 : Bool) (x15 : Bool) (x16 : Bool) (x17 : Bool) (x18 : Int) (x19 : Bool) (x20 : Bool) (x21 : Bool) (x22 : Bool) (x23 : Bool) (x24 : Int) (x25 : Bool) (x26 : Bool) (x27 : Bool) (x28 : Bool) (x29 : Bool) (x30 : Int) (x31 : Bool) (x32 : Bool) (x33 : Bool) (x34 : Bool) (x35 : Bool) (x36 : Int) (x37 : Bool) (x38 : Bool) (x39 : Bool) (x40 : Bool) (x41 : Bool) (x42 : Int) (x43 : Bool) (x44 : Bool) (x45 : Bool) (x46 : Bool) (x47 : Bool) (x48 : Int) (x49 : Bool) (x50 : Bool) (x51 : Bool) (x52 : Bool) (x53 : Bool) (x54 : Int) (x55 : Int) (x56 : Int) (x57 : Bool) : Bool :=
  let x58 := decide (x56 < 1)
  let x59 := decide (x56 > 8)
  let x60 := x58 || x59
  let x61 := !x60
  let x64 := x56 == 0
  let x65 := bif x64 then x57 else x1
  let x66 := x56 == 1
  let x67 := bif x66 then x57 else x7
  let x68 := x56 == 2
  let x69 := bif x68 then x57 else x13
  let x70 := x56 == 3
  let x71 := bif x70 then x57 else x19
  let x72 := x56 == 4
  let x73 := bif x72 then x57 else x25
  let x74 := x56 == 5
  let x75 := bif x74 then x57 else x31
  let x76 := x56 == 6
  let x77 := bif x76 then x57 else x37
  let x78 := x56 == 7
  let x79 := bif x78 then x57 else x43
  let x80 := x56 == 8
  let x81 := bif x80 then x57 else x49
  let y94 := g13 [.i x0, .b x65, .b x2, .b x3, .b x4, .b x5, .i x6, .b x67, .b x8, .b x9, .b x10, .b x11, .i x12, .b x69, .b x14, .b x15, .b x16, .b x17, .i x18, .b x71, .b x20, .b x21, .b x22, .b x23, .i x24, .b x73, .b x26, .b x27, .b x28, .b x29, .i x30, .b x75, .b x32, .b x33, .b x34, .b x35, .i x36, .b x77, .b x38, .b x39, .b x40, .b x41, .i x42, .b x79, .b x44, .b x45, .b x46, .b x47, .i x48, .b x81, .b x50, .b x51, .b x52, .b x53, .i x54, .i x55, .i x56]
  let x94 := (dget y94 12).toB
  let x150 := bif x61 then x94 else x11
  x150
noncomputable def r10_13 (x0 : Int) (x1 : Bool) (x2 : Bool) (x3 : Bool) (x4 : Bool) (x5 : Bool) (x6 : Int) (x7 : Bool) (x8 : Bool) (x9 : Bool) (x10 : Bool) (x11 : Bool) (x12 : Int) (x13 : Bool) (x14 : Bool) (x15 : Bool) (x16 : Bool) (x17 : Bool) (x18 : Int) (x19 : Bool) (x20 : Bool) (x21 : Bool) (x22 : Bool) (x23 : Bool) (x24 : Int) (x25 : Bool) (x26 : Bool) (x27 : Bool) (x28 : Bool) (x29 : Bool) (x30 : Int) (x31 : Bool) (x32 : Bool) (x33 : Bool) (x34 : Bool) (x35 : Bool) (x36 : Int) (x37 : Bool) (x38 : Bool) (x39 : Bool) (x40 : Bool) (x41 : Bool) (x42 : Int) (x43 : Bool) (x44 : Bool) (x45 : Bool) (x46 : Bool) (x47 : Bool) (x48 : Int) (x49 : Bool) (x50 : Bool) (x51 : Bool) (x52 : Bool) (x53 : Bool) (x54 : Int) (x55 : Int) (x56 : Int) (x57 : Bool) : Int :=
  let x58 := decide (x56 < 1)
  let x59 := decide (x56 > 8)
  let x60 := x58 || x59
  let x61 := !x60
  let x64 := x56 == 0
  let x65 := bif x64 then x57 else x1
  let x66 := x56 == 1
  let x67 := bif x66 then x57 else x7
  let x68 := x56 == 2
  let x69 := bif x68 then x57 else x13
  let x70 := x56 == 3
  let x71 := bif x70 then x57 else x19
  let x72 := x56 == 4
  let x73 := bif x72 then x57 else x25
  let x74 := x56 == 5
  let x75 := bif x74 then x57 else x31
  let x76 := x56 == 6
  let x77 := bif x76 then x57 else x37
  let x78 := x56 == 7
  let x79 := bif x78 then x57 else x43
  let x80 := x56 == 8
  let x81 := bif x80 then x57 else x49
  let y95 := g13 [.i x0, .b x65, .b x2, .b x3, .b x4, .b x5, .i x6, .b x67, .b x8, .b x9, .b x10, .b x11, .i x12, .b x69, .b x14, .b x15, .b x16, .b x17, .i x18, .b x71, .b x20, .b x21, .b x22, .b x23, .i x24, .b x73, .b x26, .b x27, .b x28, .b x29, .i x30, .b x75, .b x32, .b x33, .b x34, .b x35, .i x36, .b x77, .b x38, .b x39, .b x40, .b x41, .i x42, .b x79, .b x44, .b x45, .b x46, .b x47, .i x48, .b x81, .b x50, .b x51, .b x52, .b x53, .i x54, .i x55, .i x56]
  let x95 := (dget y95 13).toI
  let x151 := bif x61 then x95 else x12
  x151
noncomputable def r10_14 (x0 : Int) (x1 : Bool) (x2 : Bool) (x3 : Bool) (x4 : Bool) (x5 : Bool) (x6 : Int) (x7 : Bool) (x8 : Bool) (x9 : Bool) (x10 : Bool) (x11 : Bool) (x12 : Int) (x13 : Bool) (x14 : Bool) (x15 : Bool) (x16 : Bool) (x17 : Bool) (x18 : Int) (x19 : Bool) (x20 : Bool) (x21 : Bool) (x22 : Bool) (x23 : Bool) (x24 : Int) (x25 : Bool) (x26 : Bool) (x27 : Bool) (x28 : Bool) (x29 : Bool) (x30 : Int) (x31 : Bool) (x32 : Bool) (x33 : Bool) (x34 : Bool) (x35 : Bool) (x36 : Int) (x37 : Bool) (x38 : Bool) (x39 : Bool) (x40 : Bool) (x41 : Bool) (x42 : Int) (x43 : Bool) (x44 : Bool) (x45 : Bool) (x46 : Bool) (x47 : Bool) (x48 : Int) (x49 : Bool) (x50 : Bool) (x51 : Bool) (x52 : Bool) (x53 : Bool) (x54 : Int) (x55 : Int) (x56 : Int) (x57 : Bool) : Bool :=
  let x58 := decide (x56 < 1)
  let x59 := decide (x56 > 8)
  let x60 := x58 || x59
  let x61 := !x60
  let x64 := x56 == 0
  let x65 := bif x64 then x57 else x1
  let x66 := x56 == 1
  let x67 := bif x66 then x57 else x7
  let x68 := x56 == 2
  let x69 := bif x68 then x57 else x13
  let x70 := x56 == 3
  let x71 := bif x70 then x57 else x19
  let x72 := x56 == 4
  let x73 := bif x72 then x57 else x25
  let x74 := x56 == 5
  let x75 := bif x74 then x57 else x31
  let x76 := x56 == 6
  let x77 := bif x76 then x57 else x37
  let x78 := x56 == 7
  let x79 := bif x78 then x57 else x43
  let x80 := x56 == 8
  let x81 := bif x80 then x57 else x49
  let y96 := g13 [.i x0, .b x65, .b x2, .b x3, .b x4, .b x5, .i x6, .b x67, .b x8, .b x9, .b x10, .b x11, .i x12, .b x69, .b x14, .b x15, .b x16, .b x17, .i x18, .b x71, .b x20, .b x21, .b x22, .b x23, .i x24, .b x73, .b x26, .b x27, .b x28, .b x29, .i x30, .b x75, .b x32, .b x33, .b x34, .b x35, .i x36, .b x77, .b x38, .b x39, .b x40, .b x41, .i x42, .b x79, .b x44, .b x45, .b x46, .b x47, .i x48, .b x81, .b x50, .b x51, .b x52, .b x53, .i x54, .i x55, .i x56]
  let x96 := (dget y96 14).toB
  let x152 := bif x61 then x96 else x13
  x152
noncomputable def r10_15 (x0 : Int) (x1 : Bool) (x2 : Bool) (x3 : Bool) (x4 : Bool) (x5 : Bool) (x6 : Int) (x7 : Bool) (x8 : Bool) (x9 : Bool) (x10 : Bool) (x11 : Bool) (x12 : Int) (x13 : Bool) (x14 : Bool) (x15 : Bool) (x16 : Bool) (x17 : Bool) (x18 : Int) (x19 : Bool) (x20 : Bool) (x21 : Bool) (x22 : Bool) (x23 : Bool) (x24 : Int) (x25 : Bool) (x26 : Bool) (x27 : Bool) (x28 : Bool) (x29 : Bool) (x30 : Int) (x31 : Bool) (x32 : Bool) (x33 : Bool) (x34 : Bool) (x35 : Bool) (x36 : Int) (x37 : Bool) (x38 : Bool) (x39 : Bool) (x40 : Bool) (x41 : Bool) (x42 : Int) (x43 : Bool) (x44 : Bool) (x45 : Bool) (x46 : Bool) (x47 : Bool) (x48 : Int) (x49 : Bool) (x50 : Bool) (x51 : Bool) (x52 : Bool) (x53 : Bool) (x54 : Int) (x55 : Int) (x56 : Int) (x57 : Bool) : Bool :=
  let x58 := decide (x56 < 1)
  let x59 := decide (x56 > 8)
  let x60 := x58 || x59
  let x61 := !x60
  let x64 := x56 == 0
  let x65 := bif x64 then x57 else x1
  let x66 := x56 == 1
  let x67 := bif x66 then x57 else x7
  let x68 := x56 == 2
  let x69 := bif x68 then x57 else x13
  let x70 := x56 == 3
  let x71 := bif x70 then x57 else x19
  let x72 := x56 == 4
  let x73 := bif x72 then x57 else x25
  let x74 := x56 == 5
  let x75 := bif x74 then x57 else x31
  let x76 := x56 == 6
  let x77 := bif x76 then x57 else x37
  let x78 := x56 == 7
  let x79 := bif x78 then x57 else x43
  let x80 := x56 == 8
  let x81 := bif x80 then x57 else x49
  let y97 := g13 [.i x0, .b x65, .b x2, .b x3, .b x4, .b x5, .i x6, .b x67, .b x8, .b x9, .b x10, .b x11, .i x12, .b x69, .b x14, .b x15, .b x16, .b x17, .i x18, .b x71, .b x20, .b x21, .b x22, .b x23, .i x24, .b x73, .b x26, .b x27, .b x28, .b x29, .i x30, .b x75, .b x32, .b x33, .b x34, .b x35, .i x36, .b x77, .b x38, .b x39, .b x40, .b x41, .i x42, .b x79, .b x44, .b x45, .b x46, .b x47, .i x48, .b x81, .b x50, .b x51, .b x52, .b x53, .i x54, .i x55, .i x56]
  let x97 := (dget y97 15).toB
  let x153 := bif x61 then x97 else x14
  x153
noncomputable def r10_16 (x0 : Int) (x1 : Bool) (x2 : Bool) (x3 : Bool) (x4 : Bool) (x5 : Bool) (x6 : Int) (x7 : Bool) (x8 : Bool) (x9 : Bool) (x10 : Bool) (x11 : Bool) (x12 : Int) (x13 : Bool) (x14 : Bool) (x15 : Bool) (x16 : Bool) (x17 : Bool) (x18 : Int) (x19 : Bool) (x20 : Bool) (x21 : Bool) (x22 : Bool) (x23 : Bool) (x24 : Int) (x25 : Bool) (x26 : Bool) (x27 : Bool) (x28 : Bool) (x29 : Bool) (x30 : Int) (x31 : Bool) (x32 : Bool) (x33 : Bool) (x34 : Bool) (x35 : Bool) (x36 : Int) (x37 : Bool) (x38 : Bool) (x39 : Bool) (x40 : Bool) (x41 : Bool) (x42 : Int) (x43 : Bool) (x44 : Bool) (x45 : Bool) (x46 : Bool) (x47 : Bool) (x48 : Int) (x49 : Bool) (x50 : Bool) (x51 : Bool) (x52 : Bool) (x53 : Bool) (x54 : Int) (x55 : Int) (x56 : Int) (x57 : Bool) : Bool :=
  let x58 := decide (x56 < 1)
  let x59 := decide (x56 > 8)
  let x60 := x58 || x59
  let x61 := !x60
  let x64 := x56 == 0
  let x65 := bif x64 then x57 else x1
  let x66 := x56 == 1
  let x67 := bif x66 then x57 else x7
  let x68 := x56 == 2
  let x69 := bif x68 then x57 else x13
  let x70 := x56 == 3
  let x71 := bif x70 then x57 else x19
  let x72 := x56 == 4
  let x73 := bif x72 then x57 else x25
  let x74 := x56 == 5
  let x75 := bif x74 then x57 else x31
  let x76 := x56 == 6
  let x77 := bif x76 then x57 else x37
  let x78 := x56 == 7
  let x79 := bif x78 then x57 else x43
  let x80 := x56 == 8
  let x81 := bif x80 then x57 else x49
  let y98 := g13 [.i x0, .b x65, .b x2, .b x3, .b x4, .b x5, .i x6, .b x67, .b x8, .b x9, .b x10, .b x11, .i x12, .b x69, .b x14, .b x15, .b x16, .b x17, .i x18, .b x71, .b x20, .b x21, .b x22, .b x23, .i x24, .b x73, .b x26, .b x27, .b x28, .b x29, .i x30, .b x75, .b x32, .b x33, .b x34, .b x35, .i x36, .b x77, .b x38, .b x39, .b x40, .b x41, .i x42, .b x79, .b x44, .b x45, .b x46, .b x47, .i x48, .b x81, .b x50, .b x51, .b x52, .b x53, .i x54, .i x55, .i x56]
  let x98 := (dget y98 16).toB
  let x154 := bif x61 then x98 else x15
  x154
noncomputable def r10_17 (x0 : Int) (x1 : Bool) (x2 : Bool) (x3 : Bool) (x4 : Bool) (x5 : Bool) (x6 : Int) (x7 : Bool) (x8 : Bool) (x9 : Bool) (x10 : Bool) (x11 : Bool) (x12 : Int) (x13 : Bool) (x14 : Bool) (x15 : Bool) (x16 : Bool) (x17 : Bool) (x18 : Int) (x19 : Bool) (x20 : Bool) (x21 : Bool) (x22 : Bool) (x23 : Bool) (x24 : Int) (x25 : Bool) (x26 : Bool) (x27 : Bool) (x28 : Bool) (x29 : Bool) (x30 : Int) (x31 : Bool) (x32 : Bool) (x33 : Bool) (x34 : Bool) (x35 : Bool) (x36 : Int) (x37 : Bool) (x38 : Bool) (x39 : Bool) (x40 : Bool) (x41 : Bool) (x42 : Int) (x43 : Bool) (x44 : Bool) (x45 : Bool) (x46 : Bool) (x47 : Bool) (x48 : Int) (x49 : Bool) (x50 : Bool) (x51 : Bool) (x52 : Bool) (x53 : Bool) (x54 : Int) (x55 : Int) (x56 : Int) (x57 : Bool) : Bool :=
  let x58 := decide (x56 < 1)
  let x59 := decide (x56 > 8)
  let x60 := x58 || x59
  let x61 := !x60
  let x64 := x56 == 0
  let x65 := bif x64 then x57 else x1
  let x66 := x56 == 1
  let x67 := bif x66 then x57 else x7
  let x68 := x56 == 2
  let x69 := bif x68 then x57 else x13
  let x70 := x56 == 3
  let x71 := bif x70 then x57 else x19
  let x72 := x56 == 4
  let x73 := bif x72 then x57 else x25
  let x74 := x56 == 5
  let x75 := bif x74 then x57 else x31
  let x76 := x56 == 6
  let x77 := bif x76 then x57 else x37
  let x78 := x56 == 7
  let x79 := bif x78 then x57 else x43
  let x80 := x56 == 8
  let x81 := bif x80 then x57 else x49
  let y99 := g13 [.i x0, .b x65, .b x2, .b x3, .b x4, .b x5, .i x6, .b x67, .b x8, .b x9, .b x10, .b x11, .i x12, .b x69, .b x14, .b x15, .b x16, .b x17, .i x18, .b x71, .b x20, .b x21, .b x22, .b x23, .i x24, .b x73, .b x26, .b x27, .b x28, .b x29, .i x30, .b x75, .b x32, .b x33, .b x34, .b x35, .i x36, .b x77, .b x38, .b x39, .b x40, .b x41, .i x42, .b x79, .b x44, .b x45, .b x46, .b x47, .i x48, .b x81, .b x50, .b x51, .b x52, .b x53, .i x54, .i x55, .i x56]
  let x99 := (dget y99 17).toB
  let x155 := bif x61 then x99 else x16
  x155
noncomputable def r10_18 (x0 : Int) (x1 : Bool) (x2 : Bool) (x3 : Bool) (x4 : Bool) (x5 : Bool) (x6 : Int) (x7 : Bool) (x8 : Bool) (x9 : Bool) (x10 : Bool) (x11 : Bool) (x12 : Int) (x13 : Bool) (x14 : Bool) (x15 : Bool) (x16 : Bool) (x17 : Bool) (x18 : Int) (x19 : Bool) (x20 : Bool) (x21 : Bool) (x22 : Bool) (x23 : Bool) (x24 : Int) (x25 : Bool) (x26 : Bool) (x27 : Bool) (x28 : Bool) (x29 : Bool) (x30 : Int) (x31 : Bool) (x32 : Bool) (x33 : Bool) (x34 : Bool) (x35 : Bool) (x36 : Int) (x37 : Bool) (x38 : Bool) (x39 : Bool) (x40 : Bool) (x41 : Bool) (x42 : Int) (x43 : Bool) (x44 : Bool) (x45 : Bool) (x46 : Bool) (x47 : Bool) (x48 : Int) (x49 : Bool) (x50 : Bool) (x51 : Bool) (x52 : Bool) (x53 : Bool) (x54 : Int) (x55 : Int) (x56 : Int) (x57 : Bool) : Bool :=
  let x58 := decide (x56 < 1)
  let x59 := decide (x56 > 8)
  let x60 := x58 || x59
  let x61 := !x60
  let x64 := x56 == 0
  let x65 := bif x64 then x57 else x1
  let x66 := x56 == 1
  let x67 := bif x66 then x57 else x7
  let x68 := x56 == 2
  let x69 := bif x68 then x57 else x13
  let x70 := x56 == 3
  let x71 := bif x70 then x57 else x19
  let x72 := x56 == 4
  let x73 := bif x72 then x57 else x25
  let x74 := x56 == 5
  let x75 := bif x74 then x57 else x31
  let x76 := x56 == 6
  let x77 := bif x76 then x57 else x37
  let x78 := x56 == 7
  let x79 := bif x78 then x57 else x43
  let x80 := x56 == 8
  let x81 := bif x80 then x57 else x49
  let y100 := g13 [.i x0, .b x65, .b x2, .b x3, .b x4, .b x5, .i x6, .b x67, .b x8, .b x9, .b x10, .b x11, .i x12, .b x69, .b x14, .b x15, .b x16, .b x17, .i x18, .b x71, .b x20, .b x21, .b x22, .b x23, .i x24, .b x73, .b x26, .b x27, .b x28, .b x29, .i x30, .b x75, .b x32, .b x33, .b x34, .b x35, .i x36, .b x77, .b x38, .b x39, .b x40, .b x41, .i x42, .b x79, .b x44, .b x45, .b x46, .b x47, .i x48, .b x81, .b x50, .b x51, .b x52, .b x53, .i x54, .i x55, .i x56]
  let x100 := (dget y100 18).toB
  let x156 := bif x61 then x100 else x17
  x156
noncomputable def r10_19 (x0 : Int) (x1 : Bool) (x2 : Bool) (x3 : Bool) (x4 : Bool) (x5 : Bool) (x6 : Int) (x7 : Bool) (x8 : Bool) (x9 : Bool) (x10 : Bool) (x11 : Bool) (x12 : Int) (x13 : Bool) (x14 : Bool) (x15 : Bool) (x16 : Bool) (x17 : Bool) (x18 : Int) (x19 : Bool) (x20 : Bool) (x21 : Bool) (x22 : Bool) (x23 : Bool) (x24 : Int) (x25 : Bool) (x26 : Bool) (x27 : Bool) (x28 : Bool) (x29 : Bool) (x30 : Int) (x31 : Bool) (x32 : Bool) (x33 : Bool) (x34 : Bool) (x35 : Bool) (x36 : Int) (x37 : Bool) (x38 : Bool) (x39 : Bool) (x40 : Bool) (x41 : Bool) (x42 : Int) (x43 : Bool) (x44 : Bool) (x45 : Bool) (x46 : Bool) (x47 : Bool) (x48 : Int) (x49 : Bool) (x50 : Bool) (x51 : Bool) (x52 : Bool) (x53 : Bool) (x54 : Int) (x55 : Int) (x56 : Int) (x57 : Bool) : Int :=
  let x58 := decide (x56 < 1)
  let x59 := decide (x56 > 8)
  let x60 := x58 || x59
  let x61 := !x60
  let x64 := x56 == 0
  let x65 := bif x64 then x57 else x1
  let x66 := x56 == 1
  let x67 := bif x66 then x57 else x7
  let x68 := x56 == 2
  let x69 := bif x68 then x57 else x13
  let x70 := x56 == 3
  let x71 := bif x70 then x57 else x19
  let x72 := x56 == 4
  let x73 := bif x72 then x57 else x25
  let x74 := x56 == 5
  let x75 := bif x74 then x57 else x31
  let x76 := x56 == 6
  let x77 := bif x76 then x57 else x37
  let x78 := x56 == 7
  let x79 := bif x78 then x57 else x43
  let x80 := x56 == 8
  let x81 := bif x80 then x57 else x49
  let y101 := g13 [.i x0, .b x65, .b x2, .b x3, .b x4, .b x5, .i x6, .b x67, .b x8, .b x9, .b x10, .b x11, .i x12, .b x69, .b x14, .b x15, .b x16, .b x17, .i x18, .b x71, .b x20, .b x21, .b x22, .b x23, .i x24, .b x73, .b x26, .b x27, .b x28, .b x29, .i x30, .b x75, .b x32, .b x33, .b x34, .b x35, .i x36, .b x77, .b x38, .b x39, .b x40, .b x41, .i x42, .b x79, .b x44, .b x45, .b x46, .b x47, .i x48, .b x81, .b x50, .b x51, .b x52, .b x53, .i x54, .i x55, .i x56]
  let x101 := (dget y101 19).toI
  let x157 := bif x61 then x101 else x18
  x157
noncomputable def r10_20 (x0 : Int) (x1 : Bool) (x2 : Bool) (x3 : Bool) (x4 : Bool) (x5 : Bool) (x6 : Int) (x7 : Bool) (x8 : Bool) (x9 : Bool) (x10 : Bool) (x11 : Bool) (x12 : Int) (x13 : Bool) (x14 : Bool) (x15 : Bool) (x16 : Bool) (x17 : Bool) (x18 : Int) (x19 : Bool) (x20 : Bool) (x21 : Bool) (x22 : Bool) (x23 : Bool) (x24 : Int) (x25 : Bool) (x26 : Bool) (x27 : Bool) (x28 : Bool) (x29 : Bool) (x30 : Int) (x31 : Bool) (x32 : Bool) (x33 : Bool) (x34 : Bool) (x35 : Bool) (x36 : Int) (x37 : Bool) (x38 : Bool) (x39 : Bool) (x40 : Bool) (x41 : Bool) (x42 : Int) (x43 : Bool) (x44 : Bool) (x45 : Bool) (x46 : Bool) (x47 : Bool) (x48 : Int) (x49 : Bool) (x50 : Bool) (x51 : Bool) (x52 : Bool) (x53 : Bool) (x54 : Int) (x55 : Int) (x56 : Int) (x57 : Bool) : Bool :=
  let x58 := decide (x56 < 1)
  let x59 := decide (x56 > 8)
  let x60 := x58 || x59
  let x61 := !x60
  let x64 := x56 == 0
  let x65 := bif x64 then x57 else x1
  let x66 := x56 == 1
  let x67 := bif x66 then x57 else x7
  let x68 := x56 == 2
  let x69 := bif x68 then x57 else x13
  let x70 := x56 == 3
  let x71 := bif x70 then x57 else x19
  let x72 := x56 == 4
  let x73 := bif x72 then x57 else x25
  let x74 := x56 == 5
  let x75 := bif x74 then x57 else x31
  let x76 := x56 == 6
  let x77 := bif x76 then x57 else x37
  let x78 := x56 == 7
  let x79 := bif x78 then x57 else x43
  let x80 := x56 == 8
  let x81 := bif x80 then x57 else x49
  let y102 := g13 [.i x0, .b x65, .b x2, .b x3, .b x4, .b x5, .i x6, .b x67, .b x8, .b x9, .b x10, .b x11, .i x12, .b x69, .b x14, .b x15, .b x16, .b x17, .i x18, .b x71, .b x20, .b x21, .b x22, .b x23, .i x24, .b x73, .b x26, .b x27, .b x28, .b x29, .i x30, .b x75, .b x32, .b x33, .b x34, .b x35, .i x36, .b x77, .b x38, .b x39, .b x40, .b x41, .i x42, .b x79, .b x44, .b x45, .b x46, .b x47, .i x48, .b x81, .b x50, .b x51, .b x52, .b x53, .i x54, .i x55, .i x56]
  let x102 := (dget y102 20).toB
  let x158 := bif x61 then x102 else x19
  x158
noncomputable def r10_21 (x0 : Int) (x1 : Bool) (x2 : Bool) (x3 : Bool) (x4 : Bool) (x5 : Bool) (x6 : Int) (x7 : Bool) (x8 : Bool) (x9 : Bool) (x10 : Bool) (x11 : Bool) (x12 : Int) (x13 : Bool) (x14 : Bool) (x15 : Bool) (x16 : Bool) (x17 : Bool) (x18 : Int) (x19 : Bool) (x20 : Bool) (x21 : Bool) (x22 : Bool) (x23 : Bool) (x24 : Int) (x25 : Bool) (x26 : Bool) (x27 : Bool) (x28 : Bool) (x29 : Bool) (x30 : Int) (x31 : Bool) (x32 : Bool) (x33 : Bool) (x34 : Bool) (x35 : Bool) (x36 : Int) (x37 : Bool) (x38 : Bool) (x39 : Bool) (x40 : Bool) (x41 : Bool) (x42 : Int) (x43 : Bool) (x44 : Bool) (x45 : Bool) (x46 : Bool) (x47 : Bool) (x48 : Int) (x49 : Bool) (x50 : Bool) (x51 : Bool) (x52 : Bool) (x53 : Bool) (x54 : Int) (x55 : Int) (x56 : Int) (x57 : Bool) : Bool :=
  let x58 := decide (x56 < 1)
  let x59 := decide (x56 > 8)
  let x60 := x58 || x59
  let x61 := !x60
  let x64 := x56 == 0
  let x65 := bif x64 then x57 else x1
  let x66 := x56 == 1
  let x67 := bif x66 then x57 else x7
  let x68 := x56 == 2
  let x69 := bif x68 then x57 else x13
  let x70 := x56 == 3
  let x71 := bif x70 then x57 else x19
  let x72 := x56 == 4
  let x73 := bif x72 then x57 else x25
  let x74 := x56 == 5
  let x75 := bif x74 then x57 else x31
  let x76 := x56 == 6
  let x77 := bif x76 then x57 else x37
  let x78 := x56 == 7
  let x79 := bif x78 then x57 else x43
  let x80 := x56 == 8
  let x81 := bif x80 then x57 else x49
  let y103 := g13 [.i x0, .b x65, .b x2, .b x3, .b x4, .b x5, .i x6, .b x67, .b x8, .b x9, .b x10, .b x11, .i x12, .b x69, .b x14, .b x15, .b x16, .b x17, .i x18, .b x71, .b x20, .b x21, .b x22, .b x23, .i x24, .b x73, .b x26, .b x27, .b x28, .b x29, .i x30, .b x75, .b x32, .b x33, .b x34, .b x35, .i x36, .b x77, .b x38, .b x39, .b x40, .b x41, .i x42, .b x79, .b x44, .b x45, .b x46, .b x47, .i x48, .b x81, .b x50, .b x51, .b x52, .b x53, .i x54, .i x55, .i x56]
  let x103 := (dget y103 21).toB
  let x159 := bif x61 then x103 else x20
  x159
noncomputable def r10_22 (x0 : Int) (x1 : Bool) (x2 : Bool) (x3 : Bool) (x4 : Bool) (x5 : Bool) (x6 : Int) (x7 : Bool) (x8 : Bool) (x9 : Bool) (x10 : Bool) (x11 : Bool) (x12 : Int) (x13 : Bool) (x14 : Bool) (x15 : Bool) (x16 : Bool) (x17 : Bool) (x18 : Int) (x19 : Bool) (x20 : Bool) (x21 : Bool) (x22 : Bool) (x23 : Bool) (x24 : Int) (x25 : Bool) (x26 : Bool) (x27 : Bool) (x28 : Bool) (x29 : Bool) (x30 : Int) (x31 : Bool) (x32 : Bool) (x33 : Bool) (x34 : Bool) (x35 : Bool) (x36 : Int) (x37 : Bool) (x38 : Bool) (x39 : Bool) (x40 : Bool) (x41 : Bool) (x42 : Int) (x43 : Bool) (x44 : Bool) (x45 : Bool) (x46 : Bool) (x47 : Bool) (x48 : Int) (x49 : Bool) (x50 : Bool) (x51 : Bool) (x52 : Bool) (x53 : Bool) (x54 : Int) (x55 : Int) (x56 : Int) (x57 : Bool) : Bool :=
  let x58 := decide (x56 < 1)
  let x59 := decide (x56 > 8)
  let x60 := x58 || x59
  let x61 := !x60
  let x64 := x56 == 0
  let x65 := bif x64 then x57 else x1
  let x66 := x56 == 1
  let x67 := bif x66 then x57 else x7
  let x68 := x56 == 2
  let x69 := bif x68 then x57 else x13
  let x70 := x56 == 3
  let x71 := bif x70 then x57 else x19
  let x72 := x56 == 4
  let x73 := bif x72 then x57 else x25
  let x74 := x56 == 5
  let x75 := bif x74 then x57 else x31
  let x76 := x56 == 6
  let x77 := bif x76 then x57 else x37
  let x78 := x56 == 7
  let x79 := bif x78 then x57 else x43
  let x80 := x56 == 8
  let x81 := bif x80 then x57 else x49
  let y104 := g13 [.i x0, .b x65, .b x2, .b x3, .b x4, .b x5, .i x6, .b x67, .b x8, .b x9, .b x10, .b x11, .i x12, .b x69, .b x14, .b x15, .b x16, .b x17, .i x18, .b x71, .b x20, .b x21, .b x22, .b x23, .i x24, .b x73, .b x26, .b x27, .b x28, .b x29, .i x30, .b x75, .b x32, .b x33, .b x34, .b x35, .i x36, .b x77, .b x38, .b x39, .b x40, .b x41, .i x42, .b x79, .b x44, .b x45, .b x46, .b x47, .i x48, .b x81, .b x50, .b x51, .b x52, .b x53, .i x54, .i x55, .i x56]
  let x104 := (dget y104 22).toB
  let x160 := bif x61 then x104 else x21
  x160
noncomputable def r10_23 (x0 : Int) (x1 : Bool) (x2 : Bool) (x3 : Bool) (x4 : Bool) (x5 : Bool) (x6 : Int) (x7 : Bool) (x8 : Bool) (x9 : Bool) (x10 : Bool) (x11 : Bool) (x12 : Int) (x13 : Bool) (x14 : Bool) (x15 : Bool) (x16 : Bool) (x17 : Bool) (x18 : Int) (x19 : Bool) (x20 : Bool) (x21 : Bool) (x22 : Bool) (x23 : Bool) (x24 : Int) (x25 : Bool) (x26 : Bool) (x27 : Bool) (x28 : Bool) (x29 : Bool) (x30 : Int) (x31 : Bool) (x32 : Bool) (x33 : Bool) (x34 : Bool) (x35 : Bool) (x36 : Int) (x37 : Bool) (x38 : Bool) (x39 : Bool) (x40 : Bool) (x41 : Bool) (x42 : Int) (x43 : Bool) (x44 : Bool) (x45 : Bool) (x46 : Bool) (x47 : Bool) (x48 : Int) (x49 : Bool) (x50 : Bool) (x51 : Bool) (x52 : Bool) (x53 : Bool) (x54 : Int) (x55 : Int) (x56 : Int) (x57 : Bool) : Bool :=
  let x58 := decide (x56 < 1)
  let x59 := decide (x56 > 8)
  let x60 := x58 || x59
  let x61 := !x60
  let x64 := x56 == 0
  let x65 := bif x64 then x57 else x1
  let x66 := x56 == 1
  let x67 := bif x66 then x57 else x7
  let x68 := x56 == 2
  let x69 := bif x68 then x57 else x13
  let x70 := x56 == 3
  let x71 := bif x70 then x57 else x19
  let x72 := x56 == 4
  let x73 := bif x72 then x57 else x25
  let x74 := x56 == 5
  let x75 := bif x74 then x57 else x31
  let x76 := x56 == 6
  let x77 := bif x76 then x57 else x37
  let x78 := x56 == 7
  let x79 := bif x78 then x57 else x43
  let x80 := x56 == 8
  let x81 := bif x80 then x57 else x49
  let y105 := g13 [.i x0, .b x65, .b x2, .b x3, .b x4, .b x5, .i x6, .b x67, .b x8, .b x9, .b x10, .b x11, .i x12, .b x69, .b x14, .b x15, .b x16, .b x17, .i x18, .b x71, .b x20, .b x21, .b x22, .b x23, .i x24, .b x73, .b x26, .b x27, .b x28, .b x29, .i x30, .b x75, .b x32, .b x33, .b x34, .b x35, .i x36, .b x77, .b x38, .b x39, .b x40, .b x41, .i x42, .b x79, .b x44, .b x45, .b x46, .b x47, .i x48, .b x81, .b x50, .b x51, .b x52, .b x53, .i x54, .i x55, .i x56]
  let x105 := (dget y105 23).toB
  let x161 := bif x61 then x105 else x22
  x161
noncomputable def r10_24 (x0 : Int) (x1 : Bool) (x2 : Bool) (x3 : Bool) (x4 : Bool) (x5 : Bool) (x6 : Int) (x7 : Bool) (x8 : Bool) (x9 : Bool) (x10 : Bool) (x11 : Bool) (x12 : Int) (x13 : Bool) (x14 : Bool) (x15 : Bool) (x16 : Bool) (x17 : Bool) (x18 : Int) (x19 : Bool) (x20 : Bool) (x21 : Bool) (x22 : Bool) (x23 : Bool) (x24 : Int) (x25 : Bool) (x26 : Bool) (x27 : Bool) (x28 : Bool) (x29 : Bool) (x30 : Int) (x31 : Bool) (x32 : Bool) (x33 : Bool) (x34 : Bool) (x35 : Bool) (x36 : Int) (x37 : Bool) (x38 : Bool) (x39 : Bool) (x40 : Bool) (x41 : Bool) (x42 : Int) (x43 : Bool) (x44 : Bool) (x45 : Bool) (x46 : Bool) (x47 : Bool) (x48 : Int) (x49 : Bool) (x50 : Bool) (x51 : Bool) (x52 : Bool) (x53 : Bool) (x54 : Int) (x55 : Int) (x56 : Int) (x57 : Bool) : Bool :=
  let x58 := decide (x56 < 1)
  let x59 := decide (x56 > 8)
  let x60 := x58 || x59
  let x61 := !x60
  let x64 := x56 == 0
  let x65 := bif x64 then x57 else x1
  let x66 := x56 == 1
  let x67 := bif x66 then x57 else x7
  let x68 := x56 == 2
  let x69 := bif x68 then x57 else x13
  let x70 := x56 == 3
  let x71 := bif x70 then x57 else x19
  let x72 := x56 == 4
  let x73 := bif x72 then x57 else x25
  let x74 := x56 == 5
  let x75 := bif x74 then x57 else x31
  let x76 := x56 == 6
  let x77 := bif x76 then x57 else x37
  let x78 := x56 == 7
  let x79 := bif x78 then x57 else x43
  let x80 := x56 == 8
  let x81 := bif x80 then x57 else x49
  let y106 := g13 [.i x0, .b x65, .b x2, .b x3, .b x4, .b x5, .i x6, .b x67, .b x8, .b x9, .b x10, .b x11, .i x12, .b x69, .b x14, .b x15, .b x16, .b x17, .i x18, .b x71, .b x20, .b x21, .b x22, .b x23, .i x24, .b x73, .b x26, .b x27, .b x28, .b x29, .i x30, .b x75, .b x32, .b x33, .b x34, .b x35, .i x36, .b x77, .b x38, .b x39, .b x40, .b x41, .i x42, .b x79, .b x44, .b x45, .b x46, .b x47, .i x48, .b x81, .b x50, .b x51, .b x52, .b x53, .i x54, .i x55, .i x56]
  let x106 := (dget y106 24).toB
  let x162 := bif x61 then x106 else x23
  x162
noncomputable def r10_25 (x0 : Int) (x1 : Bool) (x2 : Bool) (x3 : Bool) (x4 : Bool) (x5 : Bool) (x6 : Int) (x7 : Bool) (x8 : Bool) (x9 : Bool) (x10 : Bool) (x11 : Bool) (x12 : Int) (x13 : Bool) (x14 : Bool) (x15 : Bool) (x16 : Bool) (x17 : Bool) (x18 : Int) (x19 : Bool) (x20 : Bool) (x21 : Bool) (x22 : Bool) (x23 : Bool) (x24 : Int) (x25 : Bool) (x26 : Bool) (x27 : Bool) (x28 : Bool) (x29 : Bool) (x30 : Int) (x31 : Bool) (x32 : Bool) (x33 : Bool) (x34 : Bool) (x35 : Bool) (x36 : Int) (x37 : Bool) (x38 : Bool) (x39 : Bool) (x40 : Bool) (x41 : Bool) (x42 : Int) (x43 : Bool) (x44 : Bool) (x45 : Bool) (x46 : Bool) (x47 : Bool) (x48 : Int) (x49 : Bool) (x50 : Bool) (x51 : Bool) (x52 : Bool) (x53 : Bool) (x54 : Int) (x55 : Int) (x56 : Int) (x57 : Bool) : Int :=
  let x58 := decide (x56 < 1)
  let x59 := decide (x56 > 8)
  let x60 := x58 || x59
  let x61 := !x60
  let x64 := x56 == 0
  let x65 := bif x64 then x57 else x1
  let x66 := x56 == 1
  let x67 := bif x66 then x57 else x7
  let x68 := x56 == 2
  let x69 := bif x68 then x57 else x13
  let x70 := x56 == 3
  let x71 := bif x70 then x57 else x19
  let x72 := x56 == 4
  let x73 := bif x72 then x57 else x25
  let x74 := x56 == 5
  let x75 := bif x74 then x57 else x31
  let x76 := x56 == 6
  let x77 := bif x76 then x57 else x37
  let x78 := x56 == 7
  let x79 := bif x78 then x57 else x43
  let x80 := x56 == 8
  let x81 := bif x80 then x57 else x49
  let y107 := g13 [.i x0, .b x65, .b x2, .b x3, .b x4, .b x5, .i x6, .b x67, .b x8, .b x9, .b x10, .b x11, .i x12, .b x69, .b x14, .b x15, .b x16, .b x17, .i x18, .b x71, .b x20, .b x21, .b x22, .b x23, .i x24, .b x73, .b x26, .b x27, .b x28, .b x29, .i x30, .b x75, .b x32, .b x33, .b x34, .b x35, .i x36, .b x77, .b x38, .b x39, .b x40, .b x41, .i x42, .b x79, .b x44, .b x45, .b x46, .b x47, .i x48, .b x81, .b x50, .b x51, .b x52, .b x53, .i x54, .i x55, .i x56]
  let x107 := (dget y107 25).toI
  let x163 := bif x61 then x107 else x24
  x163
noncomputable def r10_26 (x0 : Int) (x1 : Bool) (x2 : Bool) (x3 : Bool) (x4 : Bool) (x5 : Bool) (x6 : Int) (x7 : Bool) (x8 : Bool) (x9 : Bool) (x10 : Bool) (x11 : Bool) (x12 : Int) (x13 : Bool) (x14 : Bool) (x15 : Bool) (x16 : Bool) (x17 : Bool) (x18 : Int) (x19 : Bool) (x20 : Bool) (x21 : Bool) (x22 : Bool) (x23 : Bool) (x24 : Int) (x25 : Bool) (x26 : Bool) (x27 : Bool) (x28 : Bool) (x29 : Bool) (x30 : Int) (x31 : Bool) (x32 : Bool) (x33 : Bool) (x34 : Bool) (x35 : Bool) (x36 : Int) (x37 : Bool) (x38 : Bool) (x39 : Bool) (x40 : Bool) (x41 : Bool) (x42 : Int) (x43 : Bool) (x44 : Bool) (x45 : Bool) (x46 : Bool) (x47 : Bool) (x48 : Int) (x49 : Bool) (x50 : Bool) (x51 : Bool) (x52 : Bool) (x53 : Bool) (x54 : Int) (x55 : Int) (x56 : Int) (x57 : Bool) : Bool :=
  let x58 := decide (x56 < 1)
  let x59 := decide (x56 > 8)
  let x60 := x58 || x59
  let x61 := !x60
  let x64 := x56 == 0
  let x65 := bif x64 then x57 else x1
  let x66 := x56 == 1
  let x67 := bif x66 then x57 else x7
  let x68 := x56 == 2
  let x69 := bif x68 then x57 else x13
  let x70 := x56 == 3
  let x71 := bif x70 then x57 else x19
  let x72 := x56 == 4
  let x73 := bif x72 then x57 else x25
  let x74 := x56 == 5
  let x75 := bif x74 then x57 else x31
  let x76 := x56 == 6
  let x77 := bif x76 then x57 else x37
  let x78 := x56 == 7
  let x79 := bif x78 then x57 else x43
  let x80 := x56 == 8
  let x81 := bif x80 then x57 else x49
  let y108 := g13 [.i x0, .b x65, .b x2, .b x3, .b x4, .b x5, .i x6, .b x67, .b x8, .b x9, .b x10, .b x11, .i x12, .b x69, .b x14, .b x15, .b x16, .b x17, .i x18, .b x71, .b x20, .b x21, .b x22, .b x23, .i x24, .b x73, .b x26, .b x27, .b x28, .b x29, .i x30, .b x75, .b x32, .b x33, .b x34, .b x35, .i x36, .b x77, .b x38, .b x39, .b x40, .b x41, .i x42, .b x79, .b x44, .b x45, .b x46, .b x47, .i x48, .b x81, .b x50, .b x51, .b x52, .b x53, .i x54, .i x55, .i x56]
  let x108 := (dget y108 26).toB
  let x164 := bif x61 then x108 else x25
  x164
noncomputable def r10_27 (x0 : Int) (x1 : Bool) (x2 : Bool) (x3 : Bool) (x4 : Bool) (x5 : Bool) (x6 : Int) (x7 : Bool) (x8 : Bool) (x9 : Bool) (x10 : Bool) (x11 : Bool) (x12 : Int) (x13 : Bool) (x14 : Bool) (x15 : Bool) (x16 : Bool) (x17 : Bool) (x18 : Int) (x19 : Bool) (x20 : Bool) (x21 : Bool) (x22 : Bool) (x23 : Bool) (x24 : Int) (x25 : Bool) (x26 : Bool) (x27 : Bool) (x28 : Bool) (x29 : Bool) (x30 : Int) (x31 : Bool) (x32 : Bool) (x33 : Bool) (x34 : Bool) (x35 : Bool) (x36 : Int) (x37 : Bool) (x38 : Bool) (x39 : Bool) (x40 : Bool) (x41 : Bool) (x42 : Int) (x43 : Bool) (x44 : Bool) (x45 : Bool) (x46 : Bool) (x47 : Bool) (x48 : Int) (x49 : Bool) (x50 : Bool) (x51 : Bool) (x52 : Bool) (x53 : Bool) (x54 : Int) (x55 : Int) (x56 : Int) (x57 : Bool) : Bool :=
  let x58 := decide (x56 < 1)
  let x59 := decide (x56 > 8)
  let x60 := x58 || x59
  let x61 := !x60
  let x64 := x56 == 0
  let x65 := bif x64 then x57 else x1
  let x66 := x56 == 1
  let x67 := bif x66 then x57 else x7
  let x68 := x56 == 2
  let x69 := bif x68 then x57 else x13
  let x70 := x56 == 3
  let x71 := bif x70 then x57 else x19
  let x72 := x56 == 4
  let x73 := bif x72 then x57 else x25
  let x74 := x56 == 5
  let x75 := bif x74 then x57 else x31
  let x76 := x56 == 6
  let x77 := bif x76 then x57 else x37
  let x78 := x56 == 7
  let x79 := bif x78 then x57 else x43
  let x80 := x56 == 8
  let x81 := bif x80 then x57 else x49
  let y109 := g13 [.i x0, .b x65, .b x2, .b x3, .b x4, .b x5, .i x6, .b x67, .b x8, .b x9, .b x10, .b x11, .i x12, .b x69, .b x14, .b x15, .b x16, .b x17, .i x18, .b x71, .b x20, .b x21, .b x22, .b x23, .i x24, .b x73, .b x26, .b x27, .b x28, .b x29, .i x30, .b x75, .b x32, .b x33, .b x34, .b x35, .i x36, .b x77, .b x38, .b x39, .b x40, .b x41, .i x42, .b x79, .b x44, .b x45, .b x46, .b x47, .i x48, .b x81, .b x50, .b x51, .b x52, .b x53, .i x54, .i x55, .i x56]
  let x109 := (dget y109 27).toB
  let x165 := bif x61 then x109 else x26
  x165
noncomputable def r10_28 (x0 : Int) (x1 : Bool) (x2 : Bool) (x3 : Bool) (x4 : Bool) (x5 : Bool) (x6 : Int) (x7 : Bool) (x8 : Bool) (x9 : Bool) (x10 : Bool) (x11 : Bool) (x12 : Int) (x13 : Bool) (x14 : Bool) (x15 : Bool) (x16 : Bool) (x17 : Bool) (x18 : Int) (x19 : Bool) (x20 : Bool) (x21 : Bool) (x22 : Bool) (x23 : Bool) (x24 : Int) (x25 : Bool) (x26 : Bool) (x27 : Bool) (x28 : Bool) (x29 : Bool) (x30 : Int) (x31 : Bool) (x32 : Bool) (x33 : Bool) (x34 : Bool) (x35 : Bool) (x36 : Int) (x37 : Bool) (x38 : Bool) (x39 : Bool) (x40 : Bool) (x41 : Bool) (x42 : Int) (x43 : Bool) (x44 : Bool) (x45 : Bool) (x46 : Bool) (x47 : Bool) (x48 : Int) (x49 : Bool) (x50 : Bool) (x51 : Bool) (x52 : Bool) (x53 : Bool) (x54 : Int) (x55 : Int) (x56 : Int) (x57 : Bool) : Bool :=
  let x58 := decide (x56 < 1)
  let x59 := decide (x56 > 8)
  let x60 := x58 || x59
  let x61 := !x60
  let x64 := x56 == 0
  let x65 := bif x64 then x57 else x1
  let x66 := x56 == 1
  let x67 := bif x66 then x57 else x7
  let x68 := x56 == 2
  let x69 := bif x68 then x57 else x13
  let x70 := x56 == 3
  let x71 := bif x70 then x57 else x19
  let x72 := x56 == 4
  let x73 := bif x72 then x57 else x25
  let x74 := x56 == 5
  let x75 := bif x74 then x57 else x31
  let x76 := x56 == 6
  let x77 := bif x76 then x57 else x37
  let x78 := x56 == 7
  let x79 := bif x78 then x57 else x43
  let x80 := x56 == 8
  let x81 := bif x80 then x57 else x49
  let y110 := g13 [.i x0, .b x65, .b x2, .b x3, .b x4, .b x5, .i x6, .b x67, .b x8, .b x9, .b x10, .b x11, .i x12, .b x69, .b x14, .b x15, .b x16, .b x17, .i x18, .b x71, .b x20, .b x21, .b x22, .b x23, .i x24, .b x73, .b x26, .b x27, .b x28, .b x29, .i x30, .b x75, .b x32, .b x33, .b x34, .b x35, .i x36, .b x77, .b x38, .b x39, .b x40, .b x41, .i x42, .b x79, .b x44, .b x45, .b x46, .b x47, .i x48, .b x81, .b x50, .b x51, .b x52, .b x53, .i x54, .i x55, .i x56]
  let x110 := (dget y110 28).toB
  let x166 := bif x61 then x110 else x27
  x166
noncomputable def r10_29 (x0 : Int) (x1 : Bool) (x2 : Bool) (x3 : Bool) (x4 : Bool) (x5 : Bool) (x6 : Int) (x7 : Bool) (x8 : Bool) (x9 : Bool) (x10 : Bool) (x11 : Bool) (x12 : Int) (x13 : Bool) (x14 : Bool) (x15 : Bool) (x16 : Bool) (x17 : Bool) (x18 : Int) (x19 : Bool) (x20 : Bool) (x21 : Bool) (x22 : Bool) (x23 : Bool) (x24 : Int) (x25 : Bool) (x26 : Bool) (x27 : Bool) (x28 : Bool) (x29 : Bool) (x30 : Int) (x31 : Bool) (x32 : Bool) (x33 : Bool) (x34 : Bool) (x35 : Bool) (x36 : Int) (x37 : Bool) (x38 : Bool) (x39 : Bool) (x40 : Bool) (x41 : Bool) (x42 : Int) (x43 : Bool) (x44 : Bool) (x45 : Bool) (x46 : Bool) (x47 : Bool) (x48 : Int) (x49 : Bool) (x50 : Bool) (x51 : Bool) (x52 : Bool) (x53 : Bool) (x54 : Int) (x55 : Int) (x56 : Int) (x57 : Bool) : Bool :=
  let x58 := decide (x56 < 1)
  let x59 := decide (x56 > 8)
  let x60 := x58 || x59
  let x61 := !x60
  let x64 := x56 == 0
  let x65 := bif x64 then x57 else x1
  let x66 := x56 == 1
  let x67 := bif x66 then x57 else x7
  let x68 := x56 == 2
  let x69 := bif x68 then x57 else x13
  let x70 := x56 == 3
  let x71 := bif x70 then x57 else x19
  let x72 := x56 == 4
  let x73 := bif x72 then x57 else x25
  let x74 := x56 == 5
  let x75 := bif x74 then x57 else x31
  let x76 := x56 == 6
  let x77 := bif x76 then x57 else x37
  let x78 := x56 == 7
  let x79 := bif x78 then x57 else x43
  let x80 := x56 == 8
  let x81 := bif x80 then x57 else x49
  let y111 := g13 [.i x0, .b x65, .b x2, .b x3, .b x4, .b x5, .i x6, .b x67, .b x8, .b x9, .b x10, .b x11, .i x12, .b x69, .b x14, .b x15, .b x16, .b x17, .i x18, .b x71, .b x20, .b x21, .b x22, .b x23, .i x24, .b x73, .b x26, .b x27, .b x28, .b x29, .i x30, .b x75, .b x32, .b x33, .b x34, .b x35, .i x36, .b x77, .b x38, .b x39, .b x40, .b x41, .i x42, .b x79, .b x44, .b x45, .b x46, .b x47, .i x48, .b x81, .b x50, .b x51, .b x52, .b x53, .i x54, .i x55, .i x56]
  let x111 := (dget y111 29).toB
  let x167 := bif x61 then x111 else x28
  x167
noncomputable def r10_30 (x0 : Int) (x1 : Bool) (x2 : Bool) (x3 : Bool) (x4 : Bool) (x5 : Bool) (x6 : Int) (x7 : Bool) (x8 : Bool) (x9 : Bool) (x10 : Bool) (x11 : Bool) (x12 : Int) (x13 : Bool) (x14 : Bool) (x15 : Bool) (x16 : Bool) (x17 : Bool) (x18 : Int) (x19 : Bool) (x20 : Bool) (x21 : Bool) (x22 : Bool) (x23 : Bool) (x24 : Int) (x25 : Bool) (x26 : Bool) (x27 : Bool) (x28 : Bool) (x29 : Bool) (x30 : Int) (x31 : Bool) (x32 : Bool) (x33 : Bool) (x34 : Bool) (x35 : Bool) (x36 : Int) (x37 : Bool) (x38 : Bool) (x39 : Bool) (x40 : Bool) (x41 : Bool) (x42 : Int) (x43 : Bool) (x44 : Bool) (x45 : Bool) (x46 : Bool) (x47 : Bool) (x48 : Int) (x49 : Bool) (x50 : Bool) (x51 : Bool) (x52 : Bool) (x53 : Bool) (x54 : Int) (x55 : Int) (x56 : Int) (x57 : Bool) : Bool :=
  let x58 := decide (x56 < 1)
  let x59 := decide (x56 > 8)
  let x60 := x58 || x59
  let x61 := !x60
  let x64 := x56 == 0
  let x65 := bif x64 then x57 else x1
  let x66 := x56 == 1
  let x67 := bif x66 then x57 else x7
  let x68 := x56 == 2
  let x69 := bif x68 then x57 else x13
  let x70 := x56 == 3
  let x71 := bif x70 then x57 else x19
  let x72 := x56 == 4
  let x73 := bif x72 then x57 else x25
  let x74 := x56 == 5
  let x75 := bif x74 then x57 else x31
  let x76 := x56 == 6
  let x77 := bif x76 then x57 else x37
  let x78 := x56 == 7
  let x79 := bif x78 then x57 else x43
  let x80 := x56 == 8
  let x81 := bif x80 then x57 else x49
  let y112 := g13 [.i x0, .b x65, .b x2, .b x3, .b x4, .b x5, .i x6, .b x67, .b x8, .b x9, .b x10, .b x11, .i x12, .b x69, .b x14, .b x15, .b x16, .b x17, .i x18, .b x71, .b x20, .b x21, .b x22, .b x23, .i x24, .b x73, .b x26, .b x27, .b x28, .b x29, .i x30, .b x75, .b x32, .b x33, .b x34, .b x35, .i x36, .b x77, .b x38, .b x39, .b x40, .b x41, .i x42, .b x79, .b x44, .b x45, .b x46, .b x47, .i x48, .b x81, .b x50, .b x51, .b x52, .b x53, .i x54, .i x55, .i x56]
  let x112 := (dget y112 30).toB
  let x168 := bif x61 then x112 else x29
  x168
noncomputable def r10_31 (x0 : Int) (x1 : Bool) (x2 : Bool) (x3 : Bool) (x4 : Bool) (x5 : Bool) (x6 : Int) (x7 : Bool) (x8 : Bool) (x9 : Bool) (x10 : Bool) (x11 : Bool) (x12 : Int) (x13 : Bool) (x14 : Bool) (x15 : Bool) (x16 : Bool) (x17 : Bool) (x18 : Int) (x19 : Bool) (x20 : Bool) (x21 : Bool) (x22 : Bool) (x23 : Bool) (x24 : Int) (x25 : Bool) (x26 : Bool) (x27 : Bool) (x28 : Bool) (x29 : Bool) (x30 : Int) (x31 : Bool) (x32 : Bool) (x33 : Bool) (x34 : Bool) (x35 : Bool) (x36 : Int) (x37 : Bool) (x38 : Bool) (x39 : Bool) (x40 : Bool) (x41 : Bool) (x42 : Int) (x43 : Bool) (x44 : Bool) (x45 : Bool) (x46 : Bool) (x47 : Bool) (x48 : Int) (x49 : Bool) (x50 : Bool) (x51 : Bool) (x52 : Bool) (x53 : Bool) (x54 : Int) (x55 : Int) (x56 : Int) (x57 : Bool) : Int :=
  let x58 := decide (x56 < 1)
  let x59 := decide (x56 > 8)
  let x60 := x58 || x59
  let x61 := !x60
  let x64 := x56 == 0
  let x65 := bif x64 then x57 else x1
  let x66 := x56 == 1
  let x67 := bif x66 then x57 else x7
  let x68 := x56 == 2
  let x69 := bif x68 then x57 else x13
  let x70 := x56 == 3
  let x71 := bif x70 then x57 else x19
  let x72 := x56 == 4
  let x73 := bif x72 then x57 else x25
  let x74 := x56 == 5
  let x75 := bif x74 then x57 else x31
  let x76 := x56 == 6
  let x77 := bif x76 then x57 else x37
  let x78 := x56 == 7
  let x79 := bif x78 then x57 else x43
  let x80 := x56 == 8
  let x81 := bif x80 then x57 else x49
  let y113 := g13 [.i x0, .b x65, .b x2, .b x3, .b x4, .b x5, .i x6, .b x67, .b x8, .b x9, .b x10, .b x11, .i x12, .b x69, .b x14, .b x15, .b x16, .b x17, .i x18, .b x71, .b x20, .b x21, .b x22, .b x23, .i x24, .b x73, .b x26, .b x27, .b x28, .b x29, .i x30, .b x75, .b x32, .b x33, .b x34, .b x35, .i x36, .b x77, .b x38, .b x39, .b x40, .b x41, .i x42, .b x79, .b x44, .b x45, .b x46, .b x47, .i x48, .b x81, .b x50, .b x51, .b x52, .b x53, .i x54, .i x55, .i x56]
  let x113 := (dget y113 31).toI
  let x169 := bif x61 then x113 else x30
  x169
noncomputable def r10_32 (x0 : Int) (x1 : Bool) (x2 : Bool) (x3 : Bool) (x4 : Bool) (x5 : Bool) (x6 : Int) (x7 : Bool) (x8 : Bool) (x9 : Bool) (x10 : Bool) (x11 : Bool) (x12 : Int) (x13 : Bool) (x14 : Bool) (x15 : Bool) (x16 : Bool) (x17 : Bool) (x18 : Int) (x19 : Bool) (x20 : Bool) (x21 : Bool) (x22 : Bool) (x23 : Bool) (x24 : Int) (x25 : Bool) (x26 : Bool) (x27 : Bool) (x28 : Bool) (x29 : Bool) (x30 : Int) (x31 : Bool) (x32 : Bool) (x33 : Bool) (x34 : Bool) (x35 : Bool) (x36 : Int) (x37 : Bool) (x38 : Bool) (x39 : Bool) (x40 : Bool) (x41 : Bool) (x42 : Int) (x43 : Bool) (x44 : Bool) (x45 : Bool) (x46 : Bool) (x47 : Bool) (x48 : Int) (x49 : Bool) (x50 : Bool) (x51 : Bool) (x52 : Bool) (x53 : Bool) (x54 : Int) (x55 : Int) (x56 : Int) (x57 : Bool) : Bool :=
  let x58 := decide (x56 < 1)
  let x59 := decide (x56 > 8)
  let x60 := x58 || x59
  let x61 := !x60
  let x64 := x56 == 0
  let x65 := bif x64 then x57 else x1
  let x66 := x56 == 1
  let x67 := bif x66 then x57 else x7
  let x68 := x56 == 2
  let x69 := bif x68 then x57 else x13
  let x70 := x56 == 3
  let x71 := bif x70 then x57 else x19
  let x72 := x56 == 4
  let x73 := bif x72 then x57 else x25
  let x74 := x56 == 5
  let x75 := bif x74 then x57 else x31
  let x76 := x56 == 6
  let x77 := bif x76 then x57 else x37
  let x78 := x56 == 7
  let x79 := bif x78 then x57 else x43
  let x80 := x56 == 8
  let x81 := bif x80 then x57 else x49
  let y114 := g13 [.i x0, .b x65, .b x2, .b x3, .b x4, .b x5, .i x6, .b x67, .b x8, .b x9, .b x10, .b x11, .i x12, .b x69, .b x14, .b x15, .b x16, .b x17, .i x18, .b x71, .b x20, .b x21, .b x22, .b x23, .i x24, .b x73, .b x26, .b x27, .b x28, .b x29, .i x30, .b x75, .b x32, .b x33, .b x34, .b x35, .i x36, .b x77, .b x38, .b x39, .b x40, .b x41, .i x42, .b x79, .b x44, .b x45, .b x46, .b x47, .i x48, .b x81, .b x50, .b x51, .b x52, .b x53, .i x54, .i x55, .i x56]
  let x114 := (dget y114 32).toB
  let x170 := bif x61 then x114 else x31
  x170
noncomputable def r10_33 (x0 : Int) (x1 : Bool) (x2 : Bool) (x3 : Bool) (x4 : Bool) (x5 : Bool) (x6 : Int) (x7 : Bool) (x8 : Bool) (x9 : Bool) (x10 : Bool) (x11 : Bool) (x12 : Int) (x13 : Bool) (x14 : Bool) (x15 : Bool) (x16 : Bool) (x17 : Bool) (x18 : Int) (x19 : Bool) (x20 : Bool) (x21 : Bool) (x22 : Bool) (x23 : Bool) (x24 : Int) (x25 : Bool) (x26 : Bool) (x27 : Bool) (x28 : Bool) (x29 : Bool) (x30 : Int) (x31 : Bool) (x32 : Bool) (x33 : Bool) (x34 : Bool) (x35 : Bool) (x36 : Int) (x37 : Bool) (x38 : Bool) (x39 : Bool) (x40 : Bool) (x41 : Bool) (x42 : Int) (x43 : Bool) (x44 : Bool) (x45 : Bool) (x46 : Bool) (x47 : Bool) (x48 : Int) (x49 : Bool) (x50 : Bool) (x51 : Bool) (x52 : Bool) (x53 : Bool) (x54 : Int) (x55 : Int) (x56 : Int) (x57 : Bool) : Bool :=
  let x58 := decide (x56 < 1)
  let x59 := decide (x56 > 8)
  let x60 := x58 || x59
  let x61 := !x60
  let x64 := x56 == 0
  let x65 := bif x64 then x57 else x1
  let x66 := x56 == 1
  let x67 := bif x66 then x57 else x7
  let x68 := x56 == 2
  let x69 := bif x68 then x57 else x13
  let x70 := x56 == 3
  let x71 := bif x70 then x57 else x19
  let x72 := x56 == 4
  let x73 := bif x72 then x57 else x25
  let x74 := x56 == 5
  let x75 := bif x74 then x57 else x31
  let x76 := x56 == 6
  let x77 := bif x76 then x57 else x37
  let x78 := x56 == 7
  let x79 := bif x78 then x57 else x43
  let x80 := x56 == 8
  let x81 := bif x80 then x57 else x49
  let y115 := g13 [.i x0, .b x65, .b x2, .b x3, .b x4, .b x5, .i x6, .b x67, .b x8, .b x9, .b x10, .b x11, .i x12, .b x69, .b x14, .b x15, .b x16, .b x17, .i x18, .b x71, .b x20, .b x21, .b x22, .b x23, .i x24, .b x73, .b x26, .b x27, .b x28, .b x29, .i x30, .b x75, .b x32, .b x33, .b x34, .b x35, .i x36, .b x77, .b x38, .b x39, .b x40, .b x41, .i x42, .b x79, .b x44, .b x45, .b x46, .b x47, .i x48, .b x81, .b x50, .b x51, .b x52, .b x53, .i x54, .i x55, .i x56]
  let x115 := (dget y115 33).toB
  let x171 := bif x61 then x115 else x32
  x171
noncomputable def r10_34 (x0 : Int) (x1 : Bool) (x2 : Bool) (x3 : Bool) (x4 : Bool) (x5 : Bool) (x6 : Int) (x7 : Bool) (x8 : Bool) (x9 : Bool) (x10 : Bool) (x11 : Bool) (x12 : Int) (x13 : Bool) (x14 : Bool) (x15 : Bool) (x16 : Bool) (x17 : Bool) (x18 : Int) (x19 : Bool) (x20 : Bool) (x21 : Bool) (x22 : Bool) (x23 : Bool) (x24 : Int) (x25 : Bool) (x26 : Bool) (x27 : Bool) (x28 : Bool) (x29 : Bool) (x30 : Int) (x31 : Bool) (x32 : Bool) (x33 : Bool) (x34 : Bool) (x35 : Bool) (x36 : Int) (x37 : Bool) (x38 : Bool) (x39 : Bool) (x40 : Bool) (x41 : Bool) (x42 : Int) (x43 : Bool) (x44 : Bool) (x45 : Bool) (x46 : Bool) (x47 : Bool) (x48 : Int) (x49 : Bool) (x50 : Bool) (x51 : Bool) (x52 : Bool) (x53 : Bool) (x54 : Int) (x55 : Int) (x56 : Int) (x57 : Bool) : Bool :=
  let x58 := decide (x56 < 1)
  let x59 := decide (x56 > 8)
  let x60 := x58 || x59
  let x61 := !x60
  let x64 := x56 == 0
  let x65 := bif x64 then x57 else x1
  let x66 := x56 == 1
  let x67 := bif x66 then x57 else x7
  let x68 := x56 == 2
  let x69 := bif x68 then x57 else x13
  let x70 := x56 == 3
  let x71 := bif x70 then x57 else x19
  let x72 := x56 == 4
  let x73 := bif x72 then x57 else x25
  let x74 := x56 == 5
  let x75 := bif x74 then x57 else x31
  let x76 := x56 == 6
  let x77 := bif x76 then x57 else x37
  let x78 := x56 == 7
  let x79 := bif x78 then x57 else x43
  let x80 := x56 == 8
  let x81 := bif x80 then x57 else x49
  let y116 := g13 [.i x0, .b x65, .b x2, .b x3, .b x4, .b x5, .i x6, .b x67, .b x8, .b x9, .b x10, .b x11, .i x12, .b x69, .b x14, .b x15, .b x16, .b x17, .i x18, .b x71, .b x20, .b x21, .b x22, .b x23, .i x24, .b x73, .b x26, .b x27, .b x28, .b x29, .i x30, .b x75, .b x32, .b x33, .b x34, .b x35, .i x36, .b x77, .b x38, .b x39, .b x40, .b x41, .i x42, .b x79, .b x44, .b x45, .b x46, .b x47, .i x48, .b x81, .b x50, .b x51, .b x52, .b x53, .i x54, .i x55, .i x56]
  let x116 := (dget y116 34).toB
  let x172 := bif x61 then x116 else x33
  x172
noncomputable def r10_35 (x0 : Int) (x1 : Bool) (x2 : Bool) (x3 : Bool) (x4 : Bool) (x5 : Bool) (x6 : Int) (x7 : Bool) (x8 : Bool) (x9 : Bool) (x10 : Bool) (x11 : Bool) (x12 : Int) (x13 : Bool) (x14 : Bool) (x15 : Bool) (x16 : Bool) (x17 : Bool) (x18 : Int) (x19 : Bool) (x20 : Bool) (x21 : Bool) (x22 : Bool) (x23 : Bool) (x24 : Int) (x25 : Bool) (x26 : Bool) (x27 : Bool) (x28 : Bool) (x29 : Bool) (x30 : Int) (x31 : Bool) (x32 : Bool) (x33 : Bool) (x34 : Bool) (x35 : Bool) (x36 : Int) (x37 : Bool) (x38 : Bool) (x39 : Bool) (x40 : Bool) (x41 : Bool) (x42 : Int) (x43 : Bool) (x44 : Bool) (x45 : Bool) (x46 : Bool) (x47 : Bool) (x48 : Int) (x49 : Bool) (x50 : Bool) (x51 : Bool) (x52 : Bool) (x53 : Bool) (x54 : Int) (x55 : Int) (x56 : Int) (x57 : Bool) : Bool :=
  let x58 := decide (x56 < 1)
  let x59 := decide (x56 > 8)
  let x60 := x58 || x59
  let x61 := !x60
  let x64 := x56 == 0
  let x65 := bif x64 then x57 else x1
  let x66 := x56 == 1
  let x67 := bif x66 then x57 else x7
  let x68 := x56 == 2
  let x69 := bif x68 then x57 else x13
  let x70 := x56 == 3
  let x71 := bif x70 then x57 else x19
  let x72 := x56 == 4
  let x73 := bif x72 then x57 else x25
  let x74 := x56 == 5
  let x75 := bif x74 then x57 else x31
  let x76 := x56 == 6
  let x77 := bif x76 then x57 else x37
  let x78 := x56 == 7
  let x79 := bif x78 then x57 else x43
  let x80 := x56 == 8
  let x81 := bif x80 then x57 else x49
  let y117 := g13 [.i x0, .b x65, .b x2, .b x3, .b x4, .b x5, .i x6, .b x67, .b x8, .b x9, .b x10, .b x11, .i x12, .b x69, .b x14, .b x15, .b x16, .b x17, .i x18, .b x71, .b x20, .b x21, .b x22, .b x23, .i x24, .b x73, .b x26, .b x27, .b x28, .b x29, .i x30, .b x75, .b x32, .b x33, .b x34, .b x35, .i x36, .b x77, .b x38, .b x39, .b x40, .b x41, .i x42, .b x79, .b x44, .b x45, .b x46, .b x47, .i x48, .b x81, .b x50, .b x51, .b x52, .b x53, .i x54, .i x55, .i x56]
  let x117 := (dget y117 35).toB
  let x173 := bif x61 then x117 else x34
  x173
noncomputable def r10_36 (x0 : Int) (x1 : Bool) (x2 : Bool) (x3 : Bool) (x4 : Bool) (x5 : Bool) (x6 : Int) (x7 : Bool) (x8 : Bool) (x9 : Bool) (x10 : Bool) (x11 : Bool) (x12 : Int) (x13 : Bool) (x14 : Bool) (x15 : Bool) (x16 : Bool) (x17 : Bool) (x18 : Int) (x19 : Bool) (x20 : Bool) (x21 : Bool) (x22 : Bool) (x23 : Bool) (x24 : Int) (x25 : Bool) (x26 : Bool) (x27 : Bool) (x28 : Bool) (x29 : Bool) (x30 : Int) (x31 : Bool) (x32 : Bool) (x33 : Bool) (x34 : Bool) (x35 : Bool) (x36 : Int) (x37 : Bool) (x38 : Bool) (x39 : Bool) (x40 : Bool) (x41 : Bool) (x42 : Int) (x43 : Bool) (x44 : Bool) (x45 : Bool) (x46 : Bool) (x47 : Bool) (x48 : Int) (x49 : Bool) (x50 : Bool) (x51 : Bool) (x52 : Bool) (x53 : Bool) (x54 : Int) (x55 : Int) (x56 : Int) (x57 : Bool) : Bool :=
  let x58 := decide (x56 < 1)
  let x59 := decide (x56 > 8)
  let x60 := x58 || x59
  let x61 := !x60
  let x64 := x56 == 0
  let x65 := bif x64 then x57 else x1
  let x66 := x56 == 1
  let x67 := bif x66 then x57 else x7
  let x68 := x56 == 2
  let x69 := bif x68 then x57 else x13
  let x70 := x56 == 3
  let x71 := bif x70 then x57 else x19
  let x72 := x56 == 4
  let x73 := bif x72 then x57 else x25
  let x74 := x56 == 5
  let x75 := bif x74 then x57 else x31
  let x76 := x56 == 6
  let x77 := bif x76 then x57 else x37
  let x78 := x56 == 7
  let x79 := bif x78 then x57 else x43
  let x80 := x56 == 8
  let x81 := bif x80 then x57 else x49
  let y118 := g13 [.i x0, .b x65, .b x2, .b x3, .b x4, .b x5, .i x6, .b x67, .b x8, .b x9, .b x10, .b x11, .i x12, .b x69, .b x14, .b x15, .b x16, .b x17, .i x18, .b x71, .b x20, .b x21, .b x22, .b x23, .i x24, .b x73, .b x26, .b x27, .b x28, .b x29, .i x30, .b x75, .b x32, .b x33, .b x34, .b x35, .i x36, .b x77, .b x38, .b x39, .b x40, .b x41, .i x42, .b x79, .b x44, .b x45, .b x46, .b x47, .i x48, .b x81, .b x50, .b x51, .b x52, .b x53, .i x54, .i x55, .i x56]
  let x118 := (dget y118 36).toB
  let x174 := bif x61 then x118 else x35
  x174
noncomputable def r10_37 (x0 : Int) (x1 : Bool) (x2 : Bool) (x3 : Bool) (x4 : Bool) (x5 : Bool) (x6 : Int) (x7 : Bool) (x8 : Bool) (x9 : Bool) (x10 : Bool) (x11 : Bool) (x12 : Int) (x13 : Bool) (x14 : Bool) (x15 : Bool) (x16 : Bool) (x17 : Bool) (x18 : Int) (x19 : Bool) (x20 : Bool) (x21 : Bool) (x22 : Bool) (x23 : Bool) (x24 : Int) (x25 : Bool) (x26 : Bool) (x27 : Bool) (x28 : Bool) (x29 : Bool) (x30 : Int) (x31 : Bool) (x32 : Bool) (x33 : Bool) (x34 : Bool) (x35 : Bool) (x36 : Int) (x37 : Bool) (x38 : Bool) (x39 : Bool) (x40 : Bool) (x41 : Bool) (x42 : Int) (x43 : Bool) (x44 : Bool) (x45 : Bool) (x46 : Bool) (x47 : Bool) (x48 : Int) (x49 : Bool) (x50 : Bool) (x51 : Bool) (x52 : Bool) (x53 : Bool) (x54 : Int) (x55 : Int) (x56 : Int) (x57 : Bool) : Int :=
  let x58 := decide (x56 < 1)
  let x59 := decide (x56 > 8)
  let x60 := x58 || x59
  let x61 := !x60
  let x64 := x56 == 0
  let x65 := bif x64 then x57 else x1
  let x66 := x56 == 1
  let x67 := bif x66 then x57 else x7
  let x68 := x56 == 2
  let x69 := bif x68 then x57 else x13
  let x70 := x56 == 3
  let x71 := bif x70 then x57 else x19
  let x72 := x56 == 4
  let x73 := bif x72 then x57 else x25
  let x74 := x56 == 5
  let x75 := bif x74 then x57 else x31
  let x76 := x56 == 6
  let x77 := bif x76 then x57 else x37
  let x78 := x56 == 7
  let x79 := bif x78 then x57 else x43
  let x80 := x56 == 8
  let x81 := bif x80 then x57 else x49
  let y119 := g13 [.i x0, .b x65, .b x2, .b x3, .b x4, .b x5, .i x6, .b x67, .b x8, .b x9, .b x10, .b x11, .i x12, .b x69, .b x14, .b x15, .b x16, .b x17, .i x18, .b x71, .b x20, .b x21, .b x22, .b x23, .i x24, .b x73, .b x26, .b x27, .b x28, .b x29, .i x30, .b x75, .b x32, .b x33, .b x34, .b x35, .i x36, .b x77, .b x38, .b x39, .b x40, .b x41, .i x42, .b x79, .b x44, .b x45, .b x46, .b x47, .i x48, .b x81, .b x50, .b x51, .b x52, .b x53, .i x54, .i x55, .i x56]
  let x119 := (dget y119 37).toI
  let x175 := bif x61 then x119 else x36
  x175
noncomputable def r10_38 (x0 : Int) (x1 : Bool) (x2 : Bool) (x3 : Bool) (x4 : Bool) (x5 : Bool) (x6 : Int) (x7 : Bool) (x8 : Bool) (x9 : Bool) (x10 : Bool) (x11 : Bool) (x12 : Int) (x13 : Bool) (x14 : Bool) (x15 : Bool) (x16 : Bool) (x17 : Bool) (x18 : Int) (x19 : Bool) (x20 : Bool) (x21 : Bool) (x22 : Bool) (x23 : Bool) (x24 : Int) (x25 : Bool) (x26 : Bool) (x27 : Bool) (x28 : Bool) (x29 : Bool) (x30 : Int) (x31 : Bool) (x32 : Bool) (x33 : Bool) (x34 : Bool) (x35 : Bool) (x36 : Int) (x37 : Bool) (x38 : Bool) (x39 : Bool) (x40 : Bool) (x41 : Bool) (x42 : Int) (x43 : Bool) (x44 : Bool) (x45 : Bool) (x46 : Bool) (x47 : Bool) (x48 : Int) (x49 : Bool) (x50 : Bool) (x51 : Bool) (x52 : Bool) (x53 : Bool) (x54 : Int) (x55 : Int) (x56 : Int) (x57 : Bool) : Bool :=
  let x58 := decide (x56 < 1)
  let x59 := decide (x56 > 8)
  let x60 := x58 || x59
  let x61 := !x60
  let x64 := x56 == 0
  let x65 := bif x64 then x57 else x1
  let x66 := x56 == 1
  let x67 := bif x66 then x57 else x7
  let x68 := x56 == 2
  let x69 := bif x68 then x57 else x13
  let x70 := x56 == 3
  let x71 := bif x70 then x57 else x19
  let x72 := x56 == 4
  let x73 := bif x72 then x57 else x25
  let x74 := x56 == 5
  let x75 := bif x74 then x57 else x31
  let x76 := x56 == 6
  let x77 := bif x76 then x57 else x37
  let x78 := x56 == 7
  let x79 := bif x78 then x57 else x43
  let x80 := x56 == 8
  let x81 := bif x80 then x57 else x49
  let y120 := g13 [.i x0, .b x65, .b x2, .b x3, .b x4, .b x5, .i x6, .b x67, .b x8, .b x9, .b x10, .b x11, .i x12, .b x69, .b x14, .b x15, .b x16, .b x17, .i x18, .b x71, .b x20, .b x21, .b x22, .b x23, .i x24, .b x73, .b x26, .b x27, .b x28, .b x29, .i x30, .b x75, .b x32, .b x33, .b x34, .b x35, .i x36, .b x77, .b x38, .b x39, .b x40, .b x41, .i x42, .b x79, .b x44, .b x45, .b x46, .b x47, .i x48, .b x81, .b x50, .b x51, .b x52, .b x53, .i x54, .i x55, .i x56]
  let x120 := (dget y120 38).toB
  let x176 := bif x61 then x120 else x37
  x176
noncomputable def r10_39 (x0 : Int) (x1 : Bool) (x2 : Bool) (x3 : Bool) (x4 : Bool) (x5 : Bool) (x6 : Int) (x7 : Bool) (x8 : Bool) (x9 : Bool) (x10 : Bool) (x11 : Bool) (x12 : Int) (x13 : Bool) (x14 : Bool) (x15 : Bool) (x16 : Bool) (x17 : Bool) (x18 : Int) (x19 : Bool) (x20 : Bool) (x21 : Bool) (x22 : Bool) (x23 : Bool) (x24 : Int) (x25 : Bool) (x26 : Bool) (x27 : Bool) (x28 : Bool) (x29 : Bool) (x30 : Int) (x31 : Bool) (x32 : Bool) (x33 : Bool) (x34 : Bool) (x35 : Bool) (x36 : Int) (x37 : Bool) (x38 : Bool) (x39 : Bool) (x40 : Bool) (x41 : Bool) (x42 : Int) (x43 : Bool) (x44 : Bool) (x45 : Bool) (x46 : Bool) (x47 : Bool) (x48 : Int) (x49 : Bool) (x50 : Bool) (x51 : Bool) (x52 : Bool) (x53 : Bool) (x54 : Int) (x55 : Int) (x56 : Int) (x57 : Bool) : Bool :=
  let x58 := decide (x56 < 1)
  let x59 := decide (x56 > 8)
  let x60 := x58 || x59
  let x61 := !x60
  let x64 := x56 == 0
  let x65 := bif x64 then x57 else x1
  let x66 := x56 == 1
  let x67 := bif x66 then x57 else x7
  let x68 := x56 == 2
  let x69 := bif x68 then x57 else x13
  let x70 := x56 == 3
  let x71 := bif x70 then x57 else x19
  let x72 := x56 == 4
  let x73 := bif x72 then x57 else x25
  let x74 := x56 == 5
  let x75 := bif x74 then x57 else x31
  let x76 := x56 == 6
  let x77 := bif x76 then x57 else x37
  let x78 := x56 == 7
  let x79 := bif x78 then x57 else x43
  let x80 := x56 == 8
  let x81 := bif x80 then x57 else x49
  let y121 := g13 [.i x0, .b x65, .b x2, .b x3, .b x4, .b x5, .i x6, .b x67, .b x8, .b x9, .b x10, .b x11, .i x12, .b x69, .b x14, .b x15, .b x16, .b x17, .i x18, .b x71, .b x20, .b x21, .b x22, .b x23, .i x24, .b x73, .b x26, .b x27, .b x28, .b x29, .i x30, .b x75, .b x32, .b x33, .b x34, .b x35, .i x36, .b x77, .b x38, .b x39, .b x40, .b x41, .i x42, .b x79, .b x44, .b x45, .b x46, .b x47, .i x48, .b x81, .b x50, .b x51, .b x52, .b x53, .i x54, .i x55, .i x56]
  let x121 := (dget y121 39).toB
  let x177 := bif x61 then x121 else x38
  x177
noncomputable def r10_40 (x0 : Int) (x1 : Bool) (x2 : Bool) (x3 : Bool) (x4 : Bool) (x5 : Bool) (x6 : Int) (x7 : Bool) (x8 : Bool) (x9 : Bool) (x10 : Bool) (x11 : Bool) (x12 : Int) (x13 : Bool) (x14 : Bool) (x15 : Bool) (x16 : Bool) (x17 : Bool) (x18 : Int) (x19 : Bool) (x20 : Bool) (x21 : Bool) (x22 : Bool) (x23 : Bool) (x24 : Int) (x25 : Bool) (x26 : Bool) (x27 : Bool) (x28 : Bool) (x29 : Bool) (x30 : Int) (x31 : Bool) (x32 : Bool) (x33 : Bool) (x34 : Bool) (x35 : Bool) (x36 : Int) (x37 : Bool) (x38 : Bool) (x39 : Bool) (x40 : Bool) (x41 : Bool) (x42 : Int) (x43 : Bool) (x44 : Bool) (x45 : Bool) (x46 : Bool) (x47 : Bool) (x48 : Int) (x49 : Bool) (x50 : Bool) (x51 : Bool) (x52 : Bool) (x53 : Bool) (x54 : Int) (x55 : Int) (x56 : Int) (x57 : Bool) : Bool :=
  let x58 := decide (x56 < 1)
  let x59 := decide (x56 > 8)
  let x60 := x58 || x59
  let x61 := !x60
  let x64 := x56 == 0
  let x65 := bif x64 then x57 else x1
  let x66 := x56 == 1
  let x67 := bif x66 then x57 else x7
  let x68 := x56 == 2
  let x69 := bif x68 then x57 else x13
  let x70 := x56 == 3
  let x71 := bif x70 then x57 else x19
  let x72 := x56 == 4
  let x73 := bif x72 then x57 else x25
  let x74 := x56 == 5
  let x75 := bif x74 then x57 else x31
  let x76 := x56 == 6
  let x77 := bif x76 then x57 else x37
  let x78 := x56 == 7
  let x79 := bif x78 then x57 else x43
  let x80 := x56 == 8
  let x81 := bif x80 then x57 else x49
  let y122 := g13 [.i x0, .b x65, .b x2, .b x3, .b x4, .b x5, .i x6, .b x67, .b x8, .b x9, .b x10, .b x11, .i x12, .b x69, .b x14, .b x15, .b x16, .b x17, .i x18, .b x71, .b x20, .b x21, .b x22, .b x23, .i x24, .b x73, .b x26, .b x27, .b x28, .b x29, .i x30, .b x75, .b x32, .b x33, .b x34, .b x35, .i x36, .b x77, .b x38, .b x39, .b x40, .b x41, .i x42, .b x79, .b x44, .b x45, .b x46, .b x47, .i x48, .b x81, .b x50, .b x51, .b x52, .b x53, .i x54, .i x55, .i x56]
  let x122 := (dget y122 40).toB
  let x178 := bif x61 then x122 else x39
  x178
noncomputable def r10_41 (x0 : Int) (x1 : Bool) (x2 : Bool) (x3 : Bool) (x4 : Bool) (x5 : Bool) (x6 : Int) (x7 : Bool) (x8 : Bool) (x9 : Bool) (x10 : Bool) (x11 : Bool) (x12 : Int) (x13 : Bool) (x14 : Bool) (x15 : Bool) (x16 : Bool) (x17 : Bool) (x18 : Int) (x19 : Bool) (x20 : Bool) (x21 : Bool) (x22 : Bool) (x23 : Bool) (x24 : Int) (x25 : Bool) (x26 : Bool) (x27 : Bool) (x28 : Bool) (x29 : Bool) (x30 : Int) (x31 : Bool) (x32 : Bool) (x33 : Bool) (x34 : Bool) (x35 : Bool) (x36 : Int) (x37 : Bool) (x38 : Bool) (x39 : Bool) (x40 : Bool) (x41 : Bool) (x42 : Int) (x43 : Bool) (x44 : Bool) (x45 : Bool) (x46 : Bool) (x47 : Bool) (x48 : Int) (x49 : Bool) (x50 : Bool) (x51 : Bool) (x52 : Bool) (x53 : Bool) (x54 : Int) (x55 : Int) (x56 : Int) (x57 : Bool) : Bool :=
  let x58 := decide (x56 < 1)
  let x59 := decide (x56 > 8)
  let x60 := x58 || x59
  let x61 := !x60
  let x64 := x56 == 0
  let x65 := bif x64 then x57 else x1
  let x66 := x56 == 1
  let x67 := bif x66 then x57 else x7
  let x68 := x56 == 2
  let x69 := bif x68 then x57 else x13
  let x70 := x56 == 3
  let x71 := bif x70 then x57 else x19
  let x72 := x56 == 4
  let x73 := bif x72 then x57 else x25
  let x74 := x56 == 5
  let x75 := bif x74 then x57 else x31
  let x76 := x56 == 6
  let x77 := bif x76 then x57 else x37
  let x78 := x56 == 7
  let x79 := bif x78 then x57 else x43
  let x80 := x56 == 8
  let x81 := bif x80 then x57 else x49
  let y123 := g13 [.i x0, .b x65, .b x2, .b x3, .b x4, .b x5, .i x6, .b x67, .b x8, .b x9, .b x10, .b x11, .i x12, .b x69, .b x14, .b x15, .b x16, .b x17, .i x18, .b x71, .b x20, .b x21, .b x22, .b x23, .i x24, .b x73, .b x26, .b x27, .b x28, .b x29, .i x30, .b x75, .b x32, .b x33, .b x34, .b x35, .i x36, .b x77, .b x38, .b x39, .b x40, .b x41, .i x42, .b x79, .b x44, .b x45, .b x46, .b x47, .i x48, .b x81, .b x50, .b x51, .b x52, .b x53, .i x54, .i x55, .i x56]
  let x123 := (dget y123 41).toB
  let x179 := bif x61 then x123 else x40
  x179
noncomputable def r10_42 (x0 : Int) (x1 : Bool) (x2 : Bool) (x3 : Bool) (x4 : Bool) (x5 : Bool) (x6 : Int) (x7 : Bool) (x8 : Bool) (x9 : Bool) (x10 : Bool) (x11 : Bool) (x12 : Int) (x13 : Bool) (x14 : Bool) (x15 : Bool) (x16 : Bool) (x17 : Bool) (x18 : Int) (x19 : Bool) (x20 : Bool) (x21 : Bool) (x22 : Bool) (x23 : Bool) (x24 : Int) (x25 : Bool) (x26 : Bool) (x27 : Bool) (x28 : Bool) (x29 : Bool) (x30 : Int) (x31 : Bool) (x32 : Bool) (x33 : Bool) (x34 : Bool) (x35 : Bool) (x36 : Int) (x37 : Bool) (x38 : Bool) (x39 : Bool) (x40 : Bool) (x41 : Bool) (x42 : Int) (x43 : Bool) (x44 : Bool) (x45 : Bool) (x46 : Bool) (x47 : Bool) (x48 : Int) (x49 : Bool) (x50 : Bool) (x51 : Bool) (x52 : Bool) (x53 : Bool) (x54 : Int) (x55 : Int) (x56 : Int) (x57 : Bool) : Bool :=
  let x58 := decide (x56 < 1)
  let x59 := decide (x56 > 8)
  let x60 := x58 || x59
  let x61 := !x60
  let x64 := x56 == 0
  let x65 := bif x64 then x57 else x1
  let x66 := x56 == 1
  let x67 := bif x66 then x57 else x7
  let x68 := x56 == 2
  let x69 := bif x68 then x57 else x13
  let x70 := x56 == 3
  let x71 := bif x70 then x57 else x19
  let x72 := x56 == 4
  let x73 := bif x72 then x57 else x25
  let x74 := x56 == 5
  let x75 := bif x74 then x57 else x31
  let x76 := x56 == 6
  let x77 := bif x76 then x57 else x37
  let x78 := x56 == 7
  let x79 := bif x78 then x57 else x43
  let x80 := x56 == 8
  let x81 := bif x80 then x57 else x49
  let y124 := g13 [.i x0, .b x65, .b x2, .b x3, .b x4, .b x5, .i x6, .b x67, .b x8, .b x9, .b x10, .b x11, .i x12, .b x69, .b x14, .b x15, .b x16, .b x17, .i x18, .b x71, .b x20, .b x21, .b x22, .b x23, .i x24, .b x73, .b x26, .b x27, .b x28, .b x29, .i x30, .b x75, .b x32, .b x33, .b x34, .b x35, .i x36, .b x77, .b x38, .b x39, .b x40, .b x41, .i x42, .b x79, .b x44, .b x45, .b x46, .b x47, .i x48, .b x81, .b x50, .b x51, .b x52, .b x53, .i x54, .i x55, .i x56]
  let x124 := (dget y124 42).toB
  let x180 := bif x61 then x124 else x41
  x180
noncomputable def r10_43 (x0 : Int) (x1 : Bool) (x2 : Bool) (x3 : Bool) (x4 : Bool) (x5 : Bool) (x6 : Int) (x7 : Bool) (x8 : Bool) (x9 : Bool) (x10 : Bool) (x11 : Bool) (x12 : Int) (x13 : Bool) (x14 : Bool) (x15 : Bool) (x16 : Bool) (x17 : Bool) (x18 : Int) (x19 : Bool) (x20 : Bool) (x21 : Bool) (x22 : Bool) (x23 : Bool) (x24 : Int) (x25 : Bool) (x26 : Bool) (x27 : Bool) (x28 : Bool) (x29 : Bool) (x30 : Int) (x31 : Bool) (x32 : Bool) (x33 : Bool) (x34 : Bool) (x35 : Bool) (x36 : Int) (x37 : Bool) (x38 : Bool) (x39 : Bool) (x40 : Bool) (x41 : Bool) (x42 : Int) (x43 : Bool) (x44 : Bool) (x45 : Bool) (x46 : Bool) (x47 : Bool) (x48 : Int) (x49 : Bool) (x50 : Bool) (x51 : Bool) (x52 : Bool) (x53 : Bool) (x54 : Int) (x55 : Int) (x56 : Int) (x57 : Bool) : Int :=
  let x58 := decide (x56 < 1)
  let x59 := decide (x56 > 8)
  let x60 := x58 || x59
  let x61 := !x60
  let x64 := x56 == 0
  let x65 := bif x64 then x57 else x1
  let x66 := x56 == 1
  let x67 := bif x66 then x57 else x7
  let x68 := x56 == 2
  let x69 := bif x68 then x57 else x13
  let x70 := x56 == 3
  let x71 := bif x70 then x57 else x19
  let x72 := x56 == 4
  let x73 := bif x72 then x57 else x25
  let x74 := x56 == 5
  let x75 := bif x74 then x57 else x31
  let x76 := x56 == 6
  let x77 := bif x76 then x57 else x37
  let x78 := x56 == 7
  let x79 := bif x78 then x57 else x43
  let x80 := x56 == 8
  let x81 := bif x80 then x57 else x49
  let y125 := g13 [.i x0, .b x65, .b x2, .b x3, .b x4, .b x5, .i x6, .b x67, .b x8, .b x9, .b x10, .b x11, .i x12, .b x69, .b x14, .b x15, .b x16, .b x17, .i x18, .b x71, .b x20, .b x21, .b x22, .b x23, .i x24, .b x73, .b x26, .b x27, .b x28, .b x29, .i x30, .b x75, .b x32, .b x33, .b x34, .b x35, .i x36, .b x77, .b x38, .b x39, .b x40, .b x41, .i x42, .b x79, .b x44, .b x45, .b x46, .b x47, .i x48, .b x81, .b x50, .b x51, .b x52, .b x53, .i x54, .i x55, .i x56]
  let x125 := (dget y125 43).toI
  let x181 := bif x61 then x125 else x42
  x181
noncomputable def r10_44 (x0 : Int) (x1 : Bool) (x2 : Bool) (x3 : Bool) (x4 : Bool) (x5 : Bool) (x6 : Int) (x7 : Bool) (x8 : Bool) (x9 : Bool) (x10 : Bool) (x11 : Bool) (x12 : Int) (x13 : Bool) (x14 : Bool) (x15 : Bool) (x16 : Bool) (x17 : Bool) (x18 : Int) (x19 : Bool) (x20 : Bool) (x21 : Bool) (x22 : Bool) (x23 : Bool) (x24 : Int) (x25 : Bool) (x26 : Bool) (x27 : Bool) (x28 : Bool) (x29 : Bool) (x30 : Int) (x31 : Bool) (x32 : Bool) (x33 : Bool) (x34 : Bool) (x35 : Bool) (x36 : Int) (x37 : Bool) (x38 : Bool) (x39 : Bool) (x40 : Bool) (x41 : Bool) (x42 : Int) (x43 : Bool) (x44 : Bool) (x45 : Bool) (x46 : Bool) (x47 : Bool) (x48 : Int) (x49 : Bool) (x50 : Bool) (x51 : Bool) (x52 : Bool) (x53 : Bool) (x54 : Int) (x55 : Int) (x56 : Int) (x57 : Bool) : Bool :=
  let x58 := decide (x56 < 1)
  let x59 := decide (x56 > 8)
  let x60 := x58 || x59
  let x61 := !x60
  let x64 := x56 == 0
  let x65 := bif x64 then x57 else x1
  let x66 := x56 == 1
  let x67 := bif x66 then x57 else x7
  let x68 := x56 == 2
  let x69 := bif x68 then x57 else x13
  let x70 := x56 == 3
  let x71 := bif x70 then x57 else x19
  let x72 := x56 == 4
  let x73 := bif x72 then x57 else x25
  let x74 := x56 == 5
  let x75 := bif x74 then x57 else x31
  let x76 := x56 == 6
  let x77 := bif x76 then x57 else x37
  let x78 := x56 == 7
  let x79 := bif x78 then x57 else x43
  let x80 := x56 == 8
  let x81 := bif x80 then x57 else x49
  let y126 := g13 [.i x0, .b x65, .b x2, .b x3, .b x4, .b x5, .i x6, .b x67, .b x8, .b x9, .b x10, .b x11, .i x12, .b x69, .b x14, .b x15, .b x16, .b x17, .i x18, .b x71, .b x20, .b x21, .b x22, .b x23, .i x24, .b x73, .b x26, .b x27, .b x28, .b x29, .i x30, .b x75, .b x32, .b x33, .b x34, .b x35, .i x36, .b x77, .b x38, .b x39, .b x40, .b x41, .i x42, .b x79, .b x44, .b x45, .b x46, .b x47, .i x48, .b x81, .b x50, .b x51, .b x52, .b x53, .i x54, .i x55, .i x56]
  let x126 := (dget y126 44).toB
  let x182 := bif x61 then x126 else x43
  x182
noncomputable def r10_45 (x0 : Int) (x1 : Bool) (x2 : Bool) (x3 : Bool) (x4 : Bool) (x5 : Bool) (x6 : Int) (x7 : Bool) (x8 : Bool) (x9 : Bool) (x10 : Bool) (x11 : Bool) (x12 : Int) (x13 : Bool) (x14 : Bool) (x15 : Bool) (x16 : Bool) (x17 : Bool) (x18 : Int) (x19 : Bool) (x20 : Bool) (x21 : Bool) (x22 : Bool) (x23 : Bool) (x24 : Int) (x25 : Bool) (x26 : Bool) (x27 : Bool) (x28 : Bool) (x29 : Bool) (x30 : Int) (x31 : Bool) (x32 : Bool) (x33 : Bool) (x34 : Bool) (x35 : Bool) (x36 : Int) (x37 : Bool) (x38 : Bool) (x39 : Bool) (x40 : Bool) (x41 : Bool) (x42 : Int) (x43 : Bool) (x44 : Bool) (x45 : Bool) (x46 : Bool) (x47 : Bool) (x48 : Int) (x49 : Bool) (x50 : Bool) (x51 : Bool) (x52 : Bool) (x53 : Bool) (x54 : Int) (x55 : Int) (x56 : Int) (x57 : Bool) : Bool :=
  let x58 := decide (x56 < 1)
  let x59 := decide (x56 > 8)
  let x60 := x58 || x59
  let x61 := !x60
  let x64 := x56 == 0
  let x65 := bif x64 then x57 else x1
  let x66 := x56 == 1
  let x67 := bif x66 then x57 else x7
  let x68 := x56 == 2
  let x69 := bif x68 then x57 else x13
  let x70 := x56 == 3
  let x71 := bif x70 then x57 else x19
  let x72 := x56 == 4
  let x73 := bif x72 then x57 else x25
  let x74 := x56 == 5
  let x75 := bif x74 then x57 else x31
  let x76 := x56 == 6
  let x77 := bif x76 then x57 else x37
  let x78 := x56 == 7
  let x79 := bif x78 then x57 else x43
  let x80 := x56 == 8
  let x81 := bif x80 then x57 else x49
  let y127 := g13 [.i x0, .b x65, .b x2, .b x3, .b x4, .b x5, .i x6, .b x67, .b x8, .b x9, .b x10, .b x11, .i x12, .b x69, .b x14, .b x15, .b x16, .b x17, .i x18, .b x71, .b x20, .b x21, .b x22, .b x23, .i x24, .b x73, .b x26, .b x27, .b x28, .b x29, .i x30, .b x75, .b x32, .b x33, .b x34, .b x35, .i x36, .b x77, .b x38, .b x39, .b x40, .b x41, .i x42, .b x79, .b x44, .b x45, .b x46, .b x47, .i x48, .b x81, .b x50, .b x51, .b x52, .b x53, .i x54, .i x55, .i x56]
  let x127 := (dget y127 45).toB
  let x183 := bif x61 then x127 else x44
  x183
noncomputable def r10_46 (x0 : Int) (x1 : Bool) (x2 : Bool) (x3 : Bool) (x4 : Bool) (x5 : Bool) (x6 : Int) (x7 : Bool) (x8 : Bool) (x9 : Bool) (x10 : Bool) (x11 : Bool) (x12 : Int) (x13 : Bool) (x14 : Bool) (x15 : Bool) (x16 : Bool) (x17 : Bool) (x18 : Int) (x19 : Bool) (x20 : Bool) (x21 : Bool) (x22 : Bool) (x23 : Bool) (x24 : Int) (x25 : Bool) (x26 : Bool) (x27 : Bool) (x28 : Bool) (x29 : Bool) (x30 : Int) (x31 : Bool) (x32 : Bool) (x33 : Bool) (x34 : Bool) (x35 : Bool) (x36 : Int) (x37 : Bool) (x38 : Bool) (x39 : Bool) (x40 : Bool) (x41 : Bool) (x42 : Int) (x43 : Bool) (x44 : Bool) (x45 : Bool) (x46 : Bool) (x47 : Bool) (x48 : Int) (x49 : Bool) (x50 : Bool) (x51 : Bool) (x52 : Bool) (x53 : Bool) (x54 : Int) (x55 : Int) (x56 : Int) (x57 : Bool) : Bool :=
  let x58 := decide (x56 < 1)
  let x59 := decide (x56 > 8)
  let x60 := x58 || x59
  let x61 := !x60
  let x64 := x56 == 0
  let x65 := bif x64 then x57 else x1
  let x66 := x56 == 1
  let x67 := bif x66 then x57 else x7
  let x68 := x56 == 2
  let x69 := bif x68 then x57 else x13
  let x70 := x56 == 3
  let x71 := bif x70 then x57 else x19
  let x72 := x56 == 4
  let x73 := bif x72 then x57 else x25
  let x74 := x56 == 5
  let x75 := bif x74 then x57 else x31
  let x76 := x56 == 6
  let x77 := bif x76 then x57 else x37
  let x78 := x56 == 7
  let x79 := bif x78 then x57 else x43
  let x80 := x56 == 8
  let x81 := bif x80 then x57 else x49
  let y128 := g13 [.i x0, .b x65, .b x2, .b x3, .b x4, .b x5, .i x6, .b x67, .b x8, .b x9, .b x10, .b x11, .i x12, .b x69, .b x14, .b x15, .b x16, .b x17, .i x18, .b x71, .b x20, .b x21, .b x22, .b x23, .i x24, .b x73, .b x26, .b x27, .b x28, .b x29, .i x30, .b x75, .b x32, .b x33, .b x34, .b x35, .i x36, .b x77, .b x38, .b x39, .b x40, .b x41, .i x42, .b x79, .b x44, .b x45, .b x46, .b x47, .i x48, .b x81, .b x50, .b x51, .b x52, .b x53, .i x54, .i x55, .i x56]
  let x128 := (dget y128 46).toB
  let x184 := bif x61 then x128 else x45
  x184
noncomputable def r10_47 (x0 : Int) (x1 : Bool) (x2 : Bool) (x3 : Bool) (x4 : Bool) (x5 : Bool) (x6 : Int) (x7 : Bool) (x8 : Bool) (x9 : Bool) (x10 : Bool) (x11 : Bool) (x12 : Int) (x13 : Bool) (x14 : Bool) (x15 : Bool) (x16 : Bool) (x17 : Bool) (x18 : Int) (x19 : Bool) (x20 : Bool) (x21 : Bool) (x22 : Bool) (x23 : Bool) (x24 : Int) (x25 : Bool) (x26 : Bool) (x27 : Bool) (x28 : Bool) (x29 : Bool) (x30 : Int) (x31 : Bool) (x32 : Bool) (x33 : Bool) (x34 : Bool) (x35 : Bool) (x36 : Int) (x37 : Bool) (x38 : Bool) (x39 : Bool) (x40 : Bool) (x41 : Bool) (x42 : Int) (x43 : Bool) (x44 : Bool) (x45 : Bool) (x46 : Bool) (x47 : Bool) (x48 : Int) (x49 : Bool) (x50 : Bool) (x51 : Bool) (x52 : Bool) (x53 : Bool) (x54 : Int) (x55 : Int) (x56 : Int) (x57 : Bool) : Bool :=
  let x58 := decide (x56 < 1)
  let x59 := decide (x56 > 8)
  let x60 := x58 || x59
  let x61 := !x60
  let x64 := x56 == 0
  let x65 := bif x64 then x57 else x1
  let x66 := x56 == 1
  let x67 := bif x66 then x57 else x7
  let x68 := x56 == 2
  let x69 := bif x68 then x57 else x13
  let x70 := x56 == 3
  let x71 := bif x70 then x57 else x19
  let x72 := x56 == 4
  let x73 := bif x72 then x57 else x25
  let x74 := x56 == 5
  let x75 := bif x74 then x57 else x31
  let x76 := x56 == 6
  let x77 := bif x76 then x57 else x37
  let x78 := x56 == 7
  let x79 := bif x78 then x57 else x43
  let x80 := x56 == 8
  let x81 := bif x80 then x57 else x49
  let y129 := g13 [.i x0, .b x65, .b x2, .b x3, .b x4, .b x5, .i x6, .b x67, .b x8, .b x9, .b x10, .b x11, .i x12, .b x69, .b x14, .b x15, .b x16, .b x17, .i x18, .b x71, .b x20, .b x21, .b x22, .b x23, .i x24, .b x73, .b x26, .b x27, .b x28, .b x29, .i x30, .b x75, .b x32, .b x33, .b x34, .b x35, .i x36, .b x77, .b x38, .b x39, .b x40, .b x41, .i x42, .b x79, .b x44, .b x45, .b x46, .b x47, .i x48, .b x81, .b x50, .b x51, .b x52, .b x53, .i x54, .i x55, .i x56]
  let x129 := (dget y129 47).toB
  let x185 := bif x61 then x129 else x46
  x185
noncomputable def r10_48 (x0 : Int) (x1 : Bool) (x2 : Bool) (x3 : Bool) (x4 : Bool) (x5 : Bool) (x6 : Int) (x7 : Bool) (x8 : Bool) (x9 : Bool) (x10 : Bool) (x11 : Bool) (x12 : Int) (x13 : Bool) (x14 : Bool) (x15 : Bool) (x16 : Bool) (x17 : Bool) (x18 : Int) (x19 : Bool) (x20 : Bool) (x21 : Bool) (x22 : Bool) (x23 : Bool) (x24 : Int) (x25 : Bool) (x26 : Bool) (x27 : Bool) (x28 : Bool) (x29 : Bool) (x30 : Int) (x31 : Bool) (x32 : Bool) (x33 : Bool) (x34 : Bool) (x35 : Bool) (x36 : Int) (x37 : Bool) (x38 : Bool) (x39 : Bool) (x40 : Bool) (x41 : Bool) (x42 : Int) (x43 : Bool) (x44 : Bool) (x45 : Bool) (x46 : Bool) (x47 : Bool) (x48 : Int) (x49 : Bool) (x50 : Bool) (x51 : Bool) (x52 : Bool) (x53 : Bool) (x54 : Int) (x55 : Int) (x56 : Int) (x57 : Bool) : Bool :=
  let x58 := decide (x56 < 1)
  let x59 := decide (x56 > 8)
  let x60 := x58 || x59
  let x61 := !x60
  let x64 := x56 == 0
  let x65 := bif x64 then x57 else x1
  let x66 := x56 == 1
  let x67 := bif x66 then x57 else x7
  let x68 := x56 == 2
  let x69 := bif x68 then x57 else x13
  let x70 := x56 == 3
  let x71 := bif x70 then x57 else x19
  let x72 := x56 == 4
  let x73 := bif x72 then x57 else x25
  let x74 := x56 == 5
  let x75 := bif x74 then x57 else x31
  let x76 := x56 == 6
  let x77 := bif x76 then x57 else x37
  let x78 := x56 == 7
  let x79 := bif x78 then x57 else x43
  let x80 := x56 == 8
  let x81 := bif x80 then x57 else x49
  let y130 := g13 [.i x0, .b x65, .b x2, .b x3, .b x4, .b x5, .i x6, .b x67, .b x8, .b x9, .b x10, .b x11, .i x12, .b x69, .b x14, .b x15, .b x16, .b x17, .i x18, .b x71, .b x20, .b x21, .b x22, .b x23, .i x24, .b x73, .b x26, .b x27, .b x28, .b x29, .i x30, .b x75, .b x32, .b x33, .b x34, .b x35, .i x36, .b x77, .b x38, .b x39, .b x40, .b x41, .i x42, .b x79, .b x44, .b x45, .b x46, .b x47, .i x48, .b x81, .b x50, .b x51, .b x52, .b x53, .i x54, .i x55, .i x56]
  let x130 := (dget y130 48).toB
  let x186 := bif x61 then x130 else x47
  x186
noncomputable def r10_49 (x0 : Int) (x1 : Bool) (x2 : Bool) (x3 : Bool) (x4 : Bool) (x5 : Bool) (x6 : Int) (x7 : Bool) (x8 : Bool) (x9 : Bool) (x10 : Bool) (x11 : Bool) (x12 : Int) (x13 : Bool) (x14 : Bool) (x15 : Bool) (x16 : Bool) (x17 : Bool) (x18 : Int) (x19 : Bool) (x20 : Bool) (x21 : Bool) (x22 : Bool) (x23 : Bool) (x24 : Int) (x25 : Bool) (x26 : Bool) (x27 : Bool) (x28 : Bool) (x29 : Bool) (x30 : Int) (x31 : Bool) (x32 : Bool) (x33 : Bool) (x34 : Bool) (x35 : Bool) (x36 : Int) (x37 : Bool) (x38 : Bool) (x39 : Bool) (x40 : Bool) (x41 : Bool) (x42 : Int) (x43 : Bool) (x44 : Bool) (x45 : Bool) (x46 : Bool) (x47 : Bool) (x48 : Int) (x49 : Bool) (x50 : Bool) (x51 : Bool) (x52 : Bool) (x53 : Bool) (x54 : Int) (x55 : Int) (x56 : Int) (x57 : Bool) : Int :=
  let x58 := decide (x56 < 1)
  let x59 := decide (x56 > 8)
  let x60 := x58 || x59
  let x61 := !x60
  let x64 := x56 == 0
  let x65 := bif x64 then x57 else x1
  let x66 := x56 == 1
  let x67 := bif x66 then x57 else x7
  let x68 := x56 == 2
  let x69 := bif x68 then x57 else x13
  let x70 := x56 == 3
  let x71 := bif x70 then x57 else x19
  let x72 := x56 == 4
  let x73 := bif x72 then x57 else x25
  let x74 := x56 == 5
  let x75 := bif x74 then x57 else x31
  let x76 := x56 == 6
  let x77 := bif x76 then x57 else x37
  let x78 := x56 == 7
  let x79 := bif x78 then x57 else x43
  let x80 := x56 == 8
  let x81 := bif x80 then x57 else x49
  let y131 := g13 [.i x0, .b x65, .b x2, .b x3, .b x4, .b x5, .i x6, .b x67, .b x8, .b x9, .b x10, .b x11, .i x12, .b x69, .b x14, .b x15, .b x16, .b x17, .i x18, .b x71, .b x20, .b x21, .b x22, .b x23, .i x24, .b x73, .b x26, .b x27, .b x28, .b x29, .i x30, .b x75, .b x32, .b x33, .b x34, .b x35, .i x36, .b x77, .b x38, .b x39, .b x40, .b x41, .i x42, .b x79, .b x44, .b x45, .b x46, .b x47, .i x48, .b x81, .b x50, .b x51, .b x52, .b x53, .i x54, .i x55, .i x56]
  let x131 := (dget y131 49).toI
  let x187 := bif x61 then x131 else x48
  x187
noncomputable def r10_50 (x0 : Int) (x1 : Bool) (x2 : Bool) (x3 : Bool) (x4 : Bool) (x5 : Bool) (x6 : Int) (x7 : Bool) (x8 : Bool) (x9 : Bool) (x10 : Bool) (x11 : Bool) (x12 : Int) (x13 : Bool) (x14 : Bool) (x15 : Bool) (x16 : Bool) (x17 : Bool) (x18 : Int) (x19 : Bool) (x20 : Bool) (x21 : Bool) (x22 : Bool) (x23 : Bool) (x24 : Int) (x25 : Bool) (x26 : Bool) (x27 : Bool) (x28 : Bool) (x29 : Bool) (x30 : Int) (x31 : Bool) (x32 : Bool) (x33 : Bool) (x34 : Bool) (x35 : Bool) (x36 : Int) (x37 : Bool) (x38 : Bool) (x39 : Bool) (x40 : Bool) (x41 : Bool) (x42 : Int) (x43 : Bool) (x44 : Bool) (x45 : Bool) (x46 : Bool) (x47 : Bool) (x48 : Int) (x49 : Bool) (x50 : Bool) (x51 : Bool) (x52 : Bool) (x53 : Bool) (x54 : Int) (x55 : Int) (x56 : Int) (x57 : Bool) : Bool :=
  let x58 := decide (x56 < 1)
  let x59 := decide (x56 > 8)
  let x60 := x58 || x59
  let x61 := !x60
  let x64 := x56 == 0
  let x65 := bif x64 then x57 else x1
  let x66 := x56 == 1
  let x67 := bif x66 then x57 else x7
  let x68 := x56 == 2
  let x69 := bif x68 then x57 else x13
  let x70 := x56 == 3
  let x71 := bif x70 then x57 else x19
  let x72 := x56 == 4
  let x73 := bif x72 then x57 else x25
  let x74 := x56 == 5
  let x75 := bif x74 then x57 else x31
  let x76 := x56 == 6
  let x77 := bif x76 then x57 else x37
  let x78 := x56 == 7
  let x79 := bif x78 then x57 else x43
  let x80 := x56 == 8
  let x81 := bif x80 then x57 else x49
  let y132 := g13 [.i x0, .b x65, .b x2, .b x3, .b x4, .b x5, .i x6, .b x67, .b x8, .b x9, .b x10, .b x11, .i x12, .b x69, .b x14, .b x15, .b x16, .b x17, .i x18, .b x71, .b x20, .b x21, .b x22, .b x23, .i x24, .b x73, .b x26, .b x27, .b x28, .b x29, .i x30, .b x75, .b x32, .b x33, .b x34, .b x35, .i x36, .b x77, .b x38, .b x39, .b x40, .b x41, .i x42, .b x79, .b x44, .b x45, .b x46, .b x47, .i x48, .b x81, .b x50, .b x51, .b x52, .b x53, .i x54, .i x55, .i x56]
  let x132 := (dget y132 50).toB
  let x188 := bif x61 then x132 else x49
  x188
noncomputable def r10_51 (x0 : Int) (x1 : Bool) (x2 : Bool) (x3 : Bool) (x4 : Bool) (x5 : Bool) (x6 : Int) (x7 : Bool) (x8 : Bool) (x9 : Bool) (x10 : Bool) (x11 : Bool) (x12 : Int) (x13 : Bool) (x14 : Bool) (x15 : Bool) (x16 : Bool) (x17 : Bool) (x18 : Int) (x19 : Bool) (x20 : Bool) (x21 : Bool) (x22 : Bool) (x23 : Bool) (x24 : Int) (x25 : Bool) (x26 : Bool) (x27 : Bool) (x28 : Bool) (x29 : Bool) (x30 : Int) (x31 : Bool) (x32 : Bool) (x33 : Bool) (x34 : Bool) (x35 : Bool) (x36 : Int) (x37 : Bool) (x38 : Bool) (x39 : Bool) (x40 : Bool) (x41 : Bool) (x42 : Int) (x43 : Bool) (x44 : Bool) (x45 : Bool) (x46 : Bool) (x47 : Bool) (x48 : Int) (x49 : Bool) (x50 : Bool) (x51 : Bool) (x52 : Bool) (x53 : Bool) (x54 : Int) (x55 : Int) (x56 : Int) (x57 : Bool) : Bool :=
  let x58 := decide (x56 < 1)
  let x59 := decide (x56 > 8)
  let x60 := x58 || x59
  let x61 := !x60
  let x64 := x56 == 0
  let x65 := bif x64 then x57 else x1
  let x66 := x56 == 1
  let x67 := bif x66 then x57 else x7
  let x68 := x56 == 2
  let x69 := bif x68 then x57 else x13
  let x70 := x56 == 3
  let x71 := bif x70 then x57 else x19
  let x72 := x56 == 4
  let x73 := bif x72 then x57 else x25
  let x74 := x56 == 5
  let x75 := bif x74 then x57 else x31
  let x76 := x56 == 6
  let x77 := bif x76 then x57 else x37
  let x78 := x56 == 7
  let x79 := bif x78 then x57 else x43
  let x80 := x56 == 8
  let x81 := bif x80 then x57 else x49
  let y133 := g13 [.i x0, .b x65, .b x2, .b x3, .b x4, .b x5, .i x6, .b x67, .b x8, .b x9, .b x10, .b x11, .i x12, .b x69, .b x14, .b x15, .b x16, .b x17, .i x18, .b x71, .b x20, .b x21, .b x22, .b x23, .i x24, .b x73, .b x26, .b x27, .b x28, .b x29, .i x30, .b x75, .b x32, .b x33, .b x34, .b x35, .i x36, .b x77, .b x38, .b x39, .b x40, .b x41, .i x42, .b x79, .b x44, .b x45, .b x46, .b x47, .i x48, .b x81, .b x50, .b x51, .b x52, .b x53, .i x54, .i x55, .i x56]
  let x133 := (dget y133 51).toB
  let x189 := bif x61 then x133 else x50
  x189
noncomputable def r10_52 (x0 : Int) (x1 : Bool) (x2 : Bool) (x3 : Bool) (x4 : Bool) (x5 : Bool) (x6 : Int) (x7 : Bool) (x8 : Bool) (x9 : Bool) (x10 : Bool) (x11 : Bool) (x12 : Int) (x13 : Bool) (x14 : Bool) (x15 : Bool) (x16 : Bool) (x17 : Bool) (x18 : Int) (x19 : Bool) (x20 : Bool) (x21 : Bool) (x22 : Bool) (x23 : Bool) (x24 : Int) (x25 : Bool) (x26 : Bool) (x27 : Bool) (x28 : Bool) (x29 : Bool) (x30 : Int) (x31 : Bool) (x32 : Bool) (x33 : Bool) (x34 : Bool) (x35 : Bool) (x36 : Int) (x37 : Bool) (x38 : Bool) (x39 : Bool) (x40 : Bool) (x41 : Bool) (x42 : Int) (x43 : Bool) (x44 : Bool) (x45 : Bool) (x46 : Bool) (x47 : Bool) (x48 : Int) (x49 : Bool) (x50 : Bool) (x51 : Bool) (x52 : Bool) (x53 : Bool) (x54 : Int) (x55 : Int) (x56 : Int) (x57 : Bool) : Bool :=
  let x58 := decide (x56 < 1)
  let x59 := decide (x56 > 8)
  let x60 := x58 || x59
  let x61 := !x60
  let x64 := x56 == 0
  let x65 := bif x64 then x57 else x1
  let x66 := x56 == 1
  let x67 := bif x66 then x57 else x7
  let x68 := x56 == 2
  let x69 := bif x68 then x57 else x13
  let x70 := x56 == 3
  let x71 := bif x70 then x57 else x19
  let x72 := x56 == 4
  let x73 := bif x72 then x57 else x25
  let x74 := x56 == 5
  let x75 := bif x74 then x57 else x31
  let x76 := x56 == 6
  let x77 := bif x76 then x57 else x37
  let x78 := x56 == 7
  let x79 := bif x78 then x57 else x43
  let x80 := x56 == 8
  let x81 := bif x80 then x57 else x49
  let y134 := g13 [.i x0, .b x65, .b x2, .b x3, .b x4, .b x5, .i x6, .b x67, .b x8, .b x9, .b x10, .b x11, .i x12, .b x69, .b x14, .b x15, .b x16, .b x17, .i x18, .b x71, .b x20, .b x21, .b x22, .b x23, .i x24, .b x73, .b x26, .b x27, .b x28, .b x29, .i x30, .b x75, .b x32, .b x33, .b x34, .b x35, .i x36, .b x77, .b x38, .b x39, .b x40, .b x41, .i x42, .b x79, .b x44, .b x45, .b x46, .b x47, .i x48, .b x81, .b x50, .b x51, .b x52, .b x53, .i x54, .i x55, .i x56]
  let x134 := (dget y134 52).toB
  let x190 := bif x61 then x134 else x51
  x190
noncomputable def r10_53 (x0 : Int) (x1 : Bool) (x2 : Bool) (x3 : Bool) (x4 : Bool) (x5 : Bool) (x6 : Int) (x7 : Bool) (x8 : Bool) (x9 : Bool) (x10 : Bool) (x11 : Bool) (x12 : Int) (x13 : Bool) (x14 : Bool) (x15 : Bool) (x16 : Bool) (x17 : Bool) (x18 : Int) (x19 : Bool) (x20 : Bool) (x21 : Bool) (x22 : Bool) (x23 : Bool) (x24 : Int) (x25 : Bool) (x26 : Bool) (x27 : Bool) (x28 : Bool) (x29 : Bool) (x30 : Int) (x31 : Bool) (x32 : Bool) (x33 : Bool) (x34 : Bool) (x35 : Bool) (x36 : Int) (x37 : Bool) (x38 : Bool) (x39 : Bool) (x40 : Bool) (x41 : Bool) (x42 : Int) (x43 : Bool) (x44 : Bool) (x45 : Bool) (x46 : Bool) (x47 : Bool) (x48 : Int) (x49 : Bool) (x50 : Bool) (x51 : Bool) (x52 : Bool) (x53 : Bool) (x54 : Int) (x55 : Int) (x56 : Int) (x57 : Bool) : Bool :=
  let x58 := decide (x56 < 1)
  let x59 := decide (x56 > 8)
  let x60 := x58 || x59
  let x61 := !x60
  let x64 := x56 == 0
  let x65 := bif x64 then x57 else x1
  let x66 := x56 == 1
  let x67 := bif x66 then x57 else x7
  let x68 := x56 == 2
  let x69 := bif x68 then x57 else x13
  let x70 := x56 == 3
  let x71 := bif x70 then x57 else x19
  let x72 := x56 == 4
  let x73 := bif x72 then x57 else x25
  let x74 := x56 == 5
  let x75 := bif x74 then x57 else x31
  let x76 := x56 == 6
  let x77 := bif x76 then x57 else x37
  let x78 := x56 == 7
  let x79 := bif x78 then x57 else x43
  let x80 := x56 == 8
  let x81 := bif x80 then x57 else x49
  let y135 := g13 [.i x0, .b x65, .b x2, .b x3, .b x4, .b x5, .i x6, .b x67, .b x8, .b x9, .b x10, .b x11, .i x12, .b x69, .b x14, .b x15, .b x16, .b x17, .i x18, .b x71, .b x20, .b x21, .b x22, .b x23, .i x24, .b x73, .b x26, .b x27, .b x28, .b x29, .i x30, .b x75, .b x32, .b x33, .b x34, .b x35, .i x36, .b x77, .b x38, .b x39, .b x40, .b x41, .i x42, .b x79, .b x44, .b x45, .b x46, .b x47, .i x48, .b x81, .b x50, .b x51, .b x52, .b x53, .i x54, .i x55, .i x56]
  let x135 := (dget y135 53).toB
  let x191 := bif x61 then x135 else x52
  x191
noncomputable def r10_54 (x0 : Int) (x1 : Bool) (x2 : Bool) (x3 : Bool) (x4 : Bool) (x5 : Bool) (x6 : Int) (x7 : Bool) (x8 : Bool) (x9 : Bool) (x10 : Bool) (x11 : Bool) (x12 : Int) (x13 : Bool) (x14 : Bool) (x15 : Bool) (x16 : Bool) (x17 : Bool) (x18 : Int) (x19 : Bool) (x20 : Bool) (x21 : Bool) (x22 : Bool) (x23 : Bool) (x24 : Int) (x25 : Bool) (x26 : Bool) (x27 : Bool) (x28 : Bool) (x29 : Bool) (x30 : Int) (x31 : Bool) (x32 : Bool) (x33 : Bool) (x34 : Bool) (x35 : Bool) (x36 : Int) (x37 : Bool) (x38 : Bool) (x39 : Bool) (x40 : Bool) (x41 : Bool) (x42 : Int) (x43 : Bool) (x44 : Bool) (x45 : Bool) (x46 : Bool) (x47 : Bool) (x48 : Int) (x49 : Bool) (x50 : Bool) (x51 : Bool) (x52 : Bool) (x53 : Bool) (x54 : Int) (x55 : Int) (x56 : Int) (x57 : Bool) : Bool :=
  let x58 := decide (x56 < 1)
  let x59 := decide (x56 > 8)
  let x60 := x58 || x59
  let x61 := !x60
  let x64 := x56 == 0
  let x65 := bif x64 then x57 else x1
  let x66 := x56 == 1
  let x67 := bif x66 then x57 else x7
  let x68 := x56 == 2
  let x69 := bif x68 then x57 else x13
  let x70 := x56 == 3
  let x71 := bif x70 then x57 else x19
  let x72 := x56 == 4
  let x73 := bif x72 then x57 else x25
  let x74 := x56 == 5
  let x75 := bif x74 then x57 else x31
  let x76 := x56 == 6
  let x77 := bif x76 then x57 else x37
  let x78 := x56 == 7
  let x79 := bif x78 then x57 else x43
  let x80 := x56 == 8
  let x81 := bif x80 then x57 else x49
  let y136 := g13 [.i x0, .b x65, .b x2, .b x3, .b x4, .b x5, .i x6, .b x67, .b x8, .b x9, .b x10, .b x11, .i x12, .b x69, .b x14, .b x15, .b x16, .b x17, .i x18, .b x71, .b x20, .b x21, .b x22, .b x23, .i x24, .b x73, .b x26, .b x27, .b x28, .b x29, .i x30, .b x75, .b x32, .b x33, .b x34, .b x35, .i x36, .b x77, .b x38, .b x39, .b x40, .b x41, .i x42, .b x79, .b x44, .b x45, .b x46, .b x47, .i x48, .b x81, .b x50, .b x51, .b x52, .b x53, .i x54, .i x55, .i x56]
  let x136 := (dget y136 54).toB
  let x192 := bif x61 then x136 else x53
  x192
noncomputable def r10_55 (x0 : Int) (x1 : Bool) (x2 : Bool) (x3 : Bool) (x4 : Bool) (x5 : Bool) (x6 : Int) (x7 : Bool) (x8 : Bool) (x9 : Bool) (x10 : Bool) (x11 : Bool) (x12 : Int) (x13 : Bool) (x14 : Bool) (x15 : Bool) (x16 : Bool) (x17 : Bool) (x18 : Int) (x19 : Bool) (x20 : Bool) (x21 : Bool) (x22 : Bool) (x23 : Bool) (x24 : Int) (x25 : Bool) (x26 : Bool) (x27 : Bool) (x28 : Bool) (x29 : Bool) (x30 : Int) (x31 : Bool) (x32 : Bool) (x33 : Bool) (x34 : Bool) (x35 : Bool) (x36 : Int) (x37 : Bool) (x38 : Bool) (x39 : Bool) (x40 : Bool) (x41 : Bool) (x42 : Int) (x43 : Bool) (x44 : Bool) (x45 : Bool) (x46 : Bool) (x47 : Bool) (x48 : Int) (x49 : Bool) (x50 : Bool) (x51 : Bool) (x52 : Bool) (x53 : Bool) (x54 : Int) (x55 : Int) (x56 : Int) (x57 : Bool) : Int :=
  let x58 := decide (x56 < 1)
  let x59 := decide (x56 > 8)
  let x60 := x58 || x59
  let x61 := !x60
  let x64 := x56 == 0
  let x65 := bif x64 then x57 else x1
  let x66 := x56 == 1
  let x67 := bif x66 then x57 else x7
  let x68 := x56 == 2
  let x69 := bif x68 then x57 else x13
  let x70 := x56 == 3
  let x71 := bif x70 then x57 else x19
  let x72 := x56 == 4
  let x73 := bif x72 then x57 else x25
  let x74 := x56 == 5
  let x75 := bif x74 then x57 else x31
  let x76 := x56 == 6
  let x77 := bif x76 then x57 else x37
  let x78 := x56 == 7
  let x79 := bif x78 then x57 else x43
  let x80 := x56 == 8
  let x81 := bif x80 then x57 else x49
  let y137 := g13 [.i x0, .b x65, .b x2, .b x3, .b x4, .b x5, .i x6, .b x67, .b x8, .b x9, .b x10, .b x11, .i x12, .b x69, .b x14, .b x15, .b x16, .b x17, .i x18, .b x71, .b x20, .b x21, .b x22, .b x23, .i x24, .b x73, .b x26, .b x27, .b x28, .b x29, .i x30, .b x75, .b x32, .b x33, .b x34, .b x35, .i x36, .b x77, .b x38, .b x39, .b x40, .b x41, .i x42, .b x79, .b x44, .b x45, .b x46, .b x47, .i x48, .b x81, .b x50, .b x51, .b x52, .b x53, .i x54, .i x55, .i x56]
  let x137 := (dget y137 55).toI
  let x193 := bif x61 then x137 else x54
  x193
noncomputable def r10_56 (x0 : Int) (x1 : Bool) (x2 : Bool) (x3 : Bool) (x4 : Bool) (x5 : Bool) (x6 : Int) (x7 : Bool) (x8 : Bool) (x9 : Bool) (x10 : Bool) (x11 : Bool) (x12 : Int) (x13 : Bool) (x14 : Bool) (x15 : Bool) (x16 : Bool) (x17 : Bool) (x18 : Int) (x19 : Bool) (x20 : Bool) (x21 : Bool) (x22 : Bool) (x23 : Bool) (x24 : Int) (x25 : Bool) (x26 : Bool) (x27 : Bool) (x28 : Bool) (x29 : Bool) (x30 : Int) (x31 : Bool) (x32 : Bool) (x33 : Bool) (x34 : Bool) (x35 : Bool) (x36 : Int) (x37 : Bool) (x38 : Bool) (x39 : Bool) (x40 : Bool) (x41 : Bool) (x42 : Int) (x43 : Bool) (x44 : Bool) (x45 : Bool) (x46 : Bool) (x47 : Bool) (x48 : Int) (x49 : Bool) (x50 : Bool) (x51 : Bool) (x52 : Bool) (x53 : Bool) (x54 : Int) (x55 : Int) (x56 : Int) (x57 : Bool) : Int :=
  let x58 := decide (x56 < 1)
  let x59 := decide (x56 > 8)
  let x60 := x58 || x59
  let x61 := !x60
  let x64 := x56 == 0
  let x65 := bif x64 then x57 else x1
  let x66 := x56 == 1
  let x67 := bif x66 then x57 else x7
  let x68 := x56 == 2
  let x69 := bif x68 then x57 else x13
  let x70 := x56 == 3
  let x71 := bif x70 then x57 else x19
  let x72 := x56 == 4
  let x73 := bif x72 then x57 else x25
  let x74 := x56 == 5
  let x75 := bif x74 then x57 else x31
  let x76 := x56 == 6
  let x77 := bif x76 then x57 else x37
  let x78 := x56 == 7
  let x79 := bif x78 then x57 else x43
  let x80 := x56 == 8
  let x81 := bif x80 then x57 else x49
  let y138 := g13 [.i x0, .b x65, .b x2, .b x3, .b x4, .b x5, .i x6, .b x67, .b x8, .b x9, .b x10, .b x11, .i x12, .b x69, .b x14, .b x15, .b x16, .b x17, .i x18, .b x71, .b x20, .b x21, .b x22, .b x23, .i x24, .b x73, .b x26, .b x27, .b x28, .b x29, .i x30, .b x75, .b x32, .b x33, .b x34, .b x35, .i x36, .b x77, .b x38, .b x39, .b x40, .b x41, .i x42, .b x79, .b x44, .b x45, .b x46, .b x47, .i x48, .b x81, .b x50, .b x51, .b x52, .b x53, .i x54, .i x55, .i x56]
  let x138 := (dget y138 56).toI
  let x194 := bif x61 then x138 else x55
  x194
noncomputable def g10 (ds : List DV) : List DV := [.b (p10 (dget ds 0).toI (dget ds 1).toB (dget ds 2).toB (dget ds 3).toB (dget ds 4).toB (dget ds 5).toB (dget ds 6).toI (dget ds 7).toB (dget ds 8).toB (dget ds 9).toB (dget ds 10).toB (dget ds 11).toB (dget ds 12).toI (dget ds 13).toB (dget ds 14).toB (dget ds 15).toB (dget ds 16).toB (dget ds 17).toB (dget ds 18).toI (dget ds 19).toB (dget ds 20).toB (dget ds 21).toB (dget ds 22).toB (dget ds 23).toB (dget ds 24).toI (dget ds 25).toB (dget ds 26).toB (dget ds 27).toB (dget ds 28).toB (dget ds 29).toB (dget ds 30).toI (dget ds 31).toB (dget ds 32).toB (dget ds 33).toB (dget ds 34).toB (dget ds 35).toB (dget ds 36).toI (dget ds 37).toB (dget ds 38).toB (dget ds 39).toB (dget ds 40).toB (dget ds 41).toB (dget ds 42).toI (dget ds 43).toB (dget ds 44).toB (dget ds 45).toB (dget ds 46).toB (dget ds 47).toB (dget ds 48).toI (dget ds 49).toB (dget ds 50).toB (dget ds 51).toB (dget ds 52).toB (dget ds 53).toB (dget ds 54).toI (dget ds 55).toI (dget ds 56).toI (dget ds 57).toB), .b (r10_0 (dget ds 56).toI), .i (r10_1 (dget ds 0).toI (dget ds 1).toB (dget ds 2).toB (dget ds 3).toB (dget ds 4).toB (dget ds 5).toB (dget ds 6).toI (dget ds 7).toB (dget ds 8).toB (dget ds 9).toB (dget ds 10).toB (dget ds 11).toB (dget ds 12).toI (dget ds 13).toB (dget ds 14).toB (dget ds 15).toB (dget ds 16).toB (dget ds 17).toB (dget ds 18).toI (dget ds 19).toB (dget ds 20).toB (dget ds 21).toB (dget ds 22).toB (dget ds 23).toB (dget ds 24).toI (dget ds 25).toB (dget ds 26).toB (dget ds 27).toB (dget ds 28).toB (dget ds 29).toB (dget ds 30).toI (dget ds 31).toB (dget ds 32).toB (dget ds 33).toB (dget ds 34).toB (dget ds 35).toB (dget ds 36).toI (dget ds 37).toB (dget ds 38).toB (dget ds 39).toB (dget ds 40).toB (dget ds 41).toB (dget ds 42).toI (dget ds 43).toB (dget ds 44).toB (dget ds 45).toB (dget ds 46).toB (dget ds 47).toB (dget ds 48).toI (dget ds 49).toB (dget ds 50).toB (dget ds 51).toB (dget ds 52).toB (dget ds 53).toB (dget ds 54).toI (dget ds 55).toI (dget ds 56).toI (dget ds 57).toB), .b (r10_2 (dget ds 0).toI (dget ds 1).toB (dget ds 2).toB (dget ds 3).toB (dget ds 4).toB (dget ds 5).toB (dget ds 6).toI (dget ds 7).toB (dget ds 8).toB (dget ds 9).toB (dget ds 10).toB (dget ds 11).toB (dget ds 12).toI (dget ds 13).toB (dget ds 14).toB (dget ds 15).toB (dget ds 16).toB (dget ds 17).toB (dget ds 18).toI (dget ds 19).toB (dget ds 20).toB (dget ds 21).toB (dget ds 22).toB (dget ds 23).toB (dget ds 24).toI (dget ds 25).toB (dget ds 26).toB (dget ds 27).toB (dget ds 28).toB (dget ds 29).toB (dget ds 30).toI (dget ds 31).toB (dget ds 32).toB (dget ds 33).toB (dget ds 34).toB (dget ds 35).toB (dget ds 36).toI (dget ds 37).toB (dget ds 38).toB (dget ds 39).toB (dget ds 40).toB (dget ds 41).toB (dget ds 42).toI (dget ds 43).toB (dget ds 44).toB (dget ds 45).toB (dget ds 46).toB (dget ds 47).toB (dget ds 48).toI (dget ds 49).toB (dget ds 50).toB (dget ds 51).toB (dget ds 52).toB (dget ds 53).toB (dget ds 54).toI (dget ds 55).toI (dget ds 56).toI (dget ds 57).toB), .b (r10_3 (dget ds 0).toI (dget ds 1).toB (dget ds 2).toB (dget ds 3).toB (dget ds 4).toB (dget ds 5).toB (dget ds 6).toI (dget ds 7).toB (dget ds 8).toB (dget ds 9).toB (dget ds 10).toB (dget ds 11).toB (dget ds 12).toI (dget ds 13).toB (dget ds 14).toB (dget ds 15).toB (dget ds 16).toB (dget ds 17).toB (dget ds 18).toI (dget ds 19).toB (dget ds 20).toB (dget ds 21).toB (dget ds 22).toB (dget ds 23).toB (dget ds 24).toI (dget ds 25).toB (dget ds 26).toB (dget ds 27).toB (dget ds 28).toB (dget ds 29).toB (dget ds 30).toI (dget ds 31).toB (dget ds 32).toB (dget ds 33).toB (dget ds 34).toB (dget ds 35).toB (dget ds 36).toI (dget ds 37).toB (dget ds 38).toB (dget ds 39).toB (dget ds 40).toB (dget ds 41).toB (dget ds 42).toI (dget ds 43).toB (dget ds 44).toB (dget ds 45).toB (dget ds 46).toB (dget ds 47).toB (dget ds 48).toI (dget ds 49).toB (dget ds 50).toB (dget ds 51).toB (dget ds 52).toB (dget ds 53).toB (dget ds 54).toI (dget ds 55).toI (dget ds 56).toI (dget ds 57).toB), .b (r10_4 (dget ds 0).toI (dget ds 1).toB (dget ds 2).toB (dget ds 3).toB (dget ds 4).toB (dget ds 5).toB (dget ds 6).toI (dget ds 7).toB (dget ds 8).toB (dget ds 9).toB (dget ds 10).toB (dget ds 11).toB (dget ds 12).toI (dget ds 13).toB (dget ds 14).toB (dget ds 15).toB (dget ds 16).toB (dget ds 17).toB (dget ds 18).toI (dget ds 19).toB (dget ds 20).toB (dget ds 21).toB (dget ds 22).toB (dget ds 23).toB (dget ds 24).toI (dget ds 25).toB (dget ds 26).toB (dget ds 27).toB (dget ds 28).toB (dget ds 29).toB (dget ds 30).toI (dget ds 31).toB (dget ds 32).toB (dget ds 33).toB (dget ds 34).toB (dget ds 35).toB (dget ds 36).toI (dget ds 37).toB (dget ds 38).toB (dget ds 39).toB (dget ds 40).toB (dget ds 41).toB (dget ds 42).toI (dget ds 43).toB (dget ds 44).toB (dget ds 45).toB (dget ds 46).toB (dget ds 47).toB (dget ds 48).toI (dget ds 49).toB (dget ds 50).toB (dget ds 51).toB (dget ds 52).toB (dget ds 53).toB (dget ds 54).toI (dget ds 55).toI (dget ds 56).toI (dget ds 57).toB), .b (r10_5 (dget ds 0).toI (dget ds 1).toB (dget ds 2).toB (dget ds 3).toB (dget ds 4).toB (dget ds 5).toB (dget ds 6).toI (dget ds 7).toB (dget ds 8).toB (dget ds 9).toB (dget ds 10).toB (dget ds 11).toB (dget ds 12).toI (dget ds 13).toB (dget ds 14).toB (dget ds 15).toB (dget ds 16).toB (dget ds 17).toB (dget ds 18).toI (dget ds 19).toB (dget ds 20).toB (dget ds 21).toB (dget ds 22).toB (dget ds 23).toB (dget ds 24).toI (dget ds 25).toB (dget ds 26).toB (dget ds 27).toB (dget ds 28).toB (dget ds 29).toB (dget ds 30).toI (dget ds 31).toB (dget ds 32).toB (dget ds 33).toB (dget ds 34).toB (dget ds 35).toB (dget ds 36).toI (dget ds 37).toB (dget ds 38).toB (dget ds 39).toB (dget ds 40).toB (dget ds 41).toB (dget ds 42).toI (dget ds 43).toB (dget ds 44).toB (dget ds 45).toB (dget ds 46).toB (dget ds 47).toB (dget ds 48).toI (dget ds 49).toB (dget ds 50).toB (dget ds 51).toB (dget ds 52).toB (dget ds 53).toB (dget ds 54).toI (dget ds 55).toI (dget ds 56).toI (dget ds 57).toB), .b (r10_6 (dget ds 0).toI (dget ds 1).toB (dget ds 2).toB (dget ds 3).toB (dget ds 4).toB (dget ds 5).toB (dget ds 6).toI (dget ds 7).toB (dget ds 8).toB (dget ds 9).toB (dget ds 10).toB (dget ds 11).toB (dget ds 12).toI (dget ds 13).toB (dget ds 14).toB (dget ds 15).toB (dget ds 16).toB (dget ds 17).toB (dget ds 18).toI (dget ds 19).toB (dget ds 20).toB (dget ds 21).toB (dget ds 22).toB (dget ds 23).toB (dget ds 24).toI (dget ds 25).toB (dget ds 26).toB (dget ds 27).toB (dget ds 28).toB (dget ds 29).toB (dget ds 30).toI (dget ds 31).toB (dget ds 32).toB (dget ds 33).toB (dget ds 34).toB (dget ds 35).toB (dget ds 36).toI (dget ds 37).toB (dget ds 38).toB (dget ds 39).toB (dget ds 40).toB (dget ds 41).toB (dget ds 42).toI (dget ds 43).toB (dget ds 44).toB (dget ds 45).toB (dget ds 46).toB (dget ds 47).toB (dget ds 48).toI (dget ds 49).toB (dget ds 50).toB (dget ds 51).toB (dget ds 52).toB (dget ds 53).toB (dget ds 54).toI (dget ds 55).toI (dget ds 56).toI (dget ds 57).toB), .i (r10_7 (dget ds 0).toI (dget ds 1).toB (dget ds 2).toB (dget ds 3).toB (dget ds 4).toB (dget ds 5).toB (dget ds 6).toI (dget ds 7).toB (dget ds 8).toB (dget ds 9).toB (dget ds 10).toB (dget ds 11).toB (dget ds 12).toI (dget ds 13).toB (dget ds 14).toB (dget ds 15).toB (dget ds 16).toB (dget ds 17).toB (dget ds 18).toI (dget ds 19).toB (dget ds 20).toB (dget ds 21).toB (dget ds 22).toB (dget ds 23).toB (dget ds 24).toI (dget ds 25).toB (dget ds 26).toB (dget ds 27).toB (dget ds 28).toB (dget ds 29).toB (dget ds 30).toI (dget ds 31).toB (dget ds 32).toB (dget ds 33).toB (dget ds 34).toB (dget ds 35).toB (dget ds 36).toI (dget ds 37).toB (dget ds 38).toB (dget ds 39).toB (dget ds 40).toB (dget ds 41).toB (dget ds 42).toI (dget ds 43).toB (dget ds 44).toB (dget ds 45).toB (dget ds 46).toB (dget ds 47).toB (dget ds 48).toI (dget ds 49).toB (dget ds 50).toB (dget ds 51).toB (dget ds 52).toB (dget ds 53).toB (dget ds 54).toI (dget ds 55).toI (dget ds 56).toI (dget ds 57).toB), .b (r10_8 (dget ds 0).toI (dget ds 1).toB (dget ds 2).toB (dget ds 3).toB (dget ds 4).toB (dget ds 5).toB (dget ds 6).toI (dget ds 7).toB (dget ds 8).toB (dget ds 9).toB (dget ds 10).toB (dget ds 11).toB (dget ds 12).toI (dget ds 13).toB (dget ds 14).toB (dget ds 15).toB (dget ds 16).toB (dget ds 17).toB (dget ds 18).toI (dget ds 19).toB (dget ds 20).toB (dget ds 21).toB (dget ds 22).toB (dget ds 23).toB (dget ds 24).toI (dget ds 25).toB (dget ds 26).toB (dget ds 27).toB (dget ds 28).toB (dget ds 29).toB (dget ds 30).toI (dget ds 31).toB (dget ds 32).toB (dget ds 33).toB (dget ds 34).toB (dget ds 35).toB (dget ds 36).toI (dget ds 37).toB (dget ds 38).toB (dget ds 39).toB (dget ds 40).toB (dget ds 41).toB (dget ds 42).toI (dget ds 43).toB (dget ds 44).toB (dget ds 45).toB (dget ds 46).toB (dget ds 47).toB (dget ds 48).toI (dget ds 49).toB (dget ds 50).toB (dget ds 51).toB (dget ds 52).toB (dget ds 53).toB (dget ds 54).toI (dget ds 55).toI (dget ds 56).toI (dget ds 57).toB), .b (r10_9 (dget ds 0).toI (dget ds 1).toB (dget ds 2).toB (dget ds 3).toB (dget ds 4).toB (dget ds 5).toB (dget ds 6).toI (dget ds 7).toB (dget ds 8).toB (dget ds 9).toB (dget ds 10).toB (dget ds 11).toB (dget ds 12).toI (dget ds 13).toB (dget ds 14).toB (dget ds 15).toB (dget ds 16).toB (dget ds 17).toB (dget ds 18).toI (dget ds 19).toB (dget ds 20).toB (dget ds 21).toB (dget ds 22).toB (dget ds 23).toB (dget ds 24).toI (dget ds 25).toB (dget ds 26).toB (dget ds 27).toB (dget ds 28).toB (dget ds 29).toB (dget ds 30).toI (dget ds 31).toB (dget ds 32).toB (dget ds 33).toB (dget ds 34).toB (dget ds 35).toB (dget ds 36).toI (dget ds 37).toB (dget ds 38).toB (dget ds 39).toB (dget ds 40).toB (dget ds 41).toB (dget ds 42).toI (dget ds 43).toB (dget ds 44).toB (dget ds 45).toB (dget ds 46).toB (dget ds 47).toB (dget ds 48).toI (dget ds 49).toB (dget ds 50).toB (dget ds 51).toB (dget ds 52).toB (dget ds 53).toB (dget ds 54).toI (dget ds 55).toI (dget ds 56).toI (dget ds 57).toB), .b (r10_10 (dget ds 0).toI (dget ds 1).toB (dget ds 2).toB (dget ds 3).toB (dget ds 4).toB (dget ds 5).toB (dget ds 6).toI (dget ds 7).toB (dget ds 8).toB (dget ds 9).toB (dget ds 10).toB (dget ds 11).toB (dget ds 12).toI (dget ds 13).toB (dget ds 14).toB (dget ds 15).toB (dget ds 16).toB (dget ds 17).toB (dget ds 18).toI (dget ds 19).toB (dget ds 20).toB (dget ds 21).toB (dget ds 22).toB (dget ds 23).toB (dget ds 24).toI (dget ds 25).toB (dget ds 26).toB (dget ds 27).toB (dget ds 28).toB (dget ds 29).toB (dget ds 30).toI (dget ds 31).toB (dget ds 32).toB (dget ds 33).toB (dget ds 34).toB (dget ds 35).toB (dget ds 36).toI (dget ds 37).toB (dget ds 38).toB (dget ds 39).toB (dget ds 40).toB (dget ds 41).toB (dget ds 42).toI (dget ds 43).toB (dget ds 44).toB (dget ds 45).toB (dget ds 46).toB (dget ds 47).toB (dget ds 48).toI (dget ds 49).toB (dget ds 50).toB (dget ds 51).toB (dget ds 52).toB (dget ds 53).toB (dget ds 54).toI (dget ds 55).toI (dget ds 56).toI (dget ds 57).toB), .b (r10_11 (dget ds 0).toI (dget ds 1).toB (dget ds 2).toB (dget ds 3).toB (dget ds 4).toB (dget ds 5).toB (dget ds 6).toI (dget ds 7).toB (dget ds 8).toB (dget ds 9).toB (dget ds 10).toB (dget ds 11).toB (dget ds 12).toI (dget ds 13).toB (dget ds 14).toB (dget ds 15).toB (dget ds 16).toB (dget ds 17).toB (dget ds 18).toI (dget ds 19).toB (dget ds 20).toB (dget ds 21).toB (dget ds 22).toB (dget ds 23).toB (dget ds 24).toI (dget ds 25).toB (dget ds 26).toB (dget ds 27).toB (dget ds 28).toB (dget ds 29).toB (dget ds 30).toI (dget ds 31).toB (dget ds 32).toB (dget ds 33).toB (dget ds 34).toB (dget ds 35).toB (dget ds 36).toI (dget ds 37).toB (dget ds 38).toB (dget ds 39).toB (dget ds 40).toB (dget ds 41).toB (dget ds 42).toI (dget ds 43).toB (dget ds 44).toB (dget ds 45).toB (dget ds 46).toB (dget ds 47).toB (dget ds 48).toI (dget ds 49).toB (dget ds 50).toB (dget ds 51).toB (dget ds 52).toB (dget ds 53).toB (dget ds 54).toI (dget ds 55).toI (dget ds 56).toI (dget ds 57).toB), .b (r10_12 (dget ds 0).toI (dget ds 1).toB (dget ds 2).toB (dget ds 3).toB (dget ds 4).toB (dget ds 5).toB (dget ds 6).toI (dget ds 7).toB (dget ds 8).toB (dget ds 9).toB (dget ds 10).toB (dget ds 11).toB (dget ds 12).toI (dget ds 13).toB (dget ds 14).toB (dget ds 15).toB (dget ds 16).toB (dget ds 17).toB (dget ds 18).toI (dget ds 19).toB (dget ds 20).toB (dget ds 21).toB (dget ds 22).toB (dget ds 23).toB (dget ds 24).toI (dget ds 25).toB (dget ds 26).toB (dget ds 27).toB (dget ds 28).toB (dget ds 29).toB (dget ds 30).toI (dget ds 31).toB (dget ds 32).toB (dget ds 33).toB (dget ds 34).toB (dget ds 35).toB (dget ds 36).toI (dget ds 37).toB (dget ds 38).toB (dget ds 39).toB (dget ds 40).toB (dget ds 41).toB (dget ds 42).toI (dget ds 43).toB (dget ds 44).toB (dget ds 45).toB (dget ds 46).toB (dget ds 47).toB (dget ds 48).toI (dget ds 49).toB (dget ds 50).toB (dget ds 51).toB (dget ds 52).toB (dget ds 53).toB (dget ds 54).toI (dget ds 55).toI (dget ds 56).toI (dget ds 57).toB), .i (r10_13 (dget ds 0).toI (dget ds 1).toB (dget ds 2).toB (dget ds 3).toB (dget ds 4).toB (dget ds 5).toB (dget ds 6).toI (dget ds 7).toB (dget ds 8).toB (dget ds 9).toB (dget ds 10).toB (dget ds 11).toB (dget ds 12).toI (dget ds 13).toB (dget ds 14).toB (dget ds 15).toB (dget ds 16).toB (dget ds 17).toB (dget ds 18).toI (dget ds 19).toB (dget ds 20).toB (dget ds 21).toB (dget ds 22).toB (dget ds 23).toB (dget ds 24).toI (dget ds 25).toB (dget ds 26).toB (dget ds 27).toB (dget ds 28).toB (dget ds 29).toB (dget ds 30).toI (dget ds 31).toB (dget ds 32).toB (dget ds 33).toB (dget ds 34).toB (dget ds 35).toB (dget ds 36).toI (dget ds 37).toB (dget ds 38).toB (dget ds 39).toB (dget ds 40).toB (dget ds 41).toB (dget ds 42).toI (dget ds 43).toB (dget ds 44).toB (dget ds 45).toB (dget ds 46).toB (dget ds 47).toB (dget ds 48).toI (dget ds 49).toB (dget ds 50).toB (dget ds 51).toB (dget ds 52).toB (dget ds 53).toB (dget ds 54).toI (dget ds 55).toI (dget ds 56).toI (dget ds 57).toB), .b (r10_14 (dget ds 0).toI (dget ds 1).toB (dget ds 2).toB (dget ds 3).toB (dget ds 4).toB (dget ds 5).toB (dget ds 6).toI (dget ds 7).toB (dget ds 8).toB (dget ds 9).toB (dget ds 10).toB (dget ds 11).toB (dget ds 12).toI (dget ds 13).toB (dget ds 14).toB (dget ds 15).toB (dget ds 16).toB (dget ds 17).toB (dget ds 18).toI (dget ds 19).toB (dget ds 20).toB (dget ds 21).toB (dget ds 22).toB (dget ds 23).toB (dget ds 24).toI (dget ds 25).toB (dget ds 26).toB (dget ds 27).toB (dget ds 28).toB (dget ds 29).toB (dget ds 30).toI (dget ds 31).toB (dget ds 32).toB (dget ds 33).toB (dget ds 34).toB (dget ds 35).toB (dget ds 36).toI (dget ds 37).toB (dget ds 38).toB (dget ds 39).toB (dget ds 40).toB (dget ds 41).toB (dget ds 42).toI (dget ds 43).toB (dget ds 44).toB (dget ds 45).toB (dget ds 46).toB (dget ds 47).toB (dget ds 48).toI (dget ds 49).toB (dget ds 50).toB (dget ds 51).toB (dget ds 52).toB (dget ds 53).toB (dget ds 54).toI (dget ds 55).toI (dget ds 56).toI (dget ds 57).toB), .b (r10_15 (dget ds 0).toI (dget ds 1).toB (dget ds 2).toB (dget ds 3).toB (dget ds 4).toB (dget ds 5).toB (dget ds 6).toI (dget ds 7).toB (dget ds 8).toB (dget ds 9).toB (dget ds 10).toB (dget ds 11).toB (dget ds 12).toI (dget ds 13).toB (dget ds 14).toB (dget ds 15).toB (dget ds 16).toB (dget ds 17).toB (dget ds 18).toI (dget ds 19).toB (dget ds 20).toB (dget ds 21).toB (dget ds 22).toB (dget ds 23).toB (dget ds 24).toI (dget ds 25).toB (dget ds 26).toB (dget ds 27).toB (dget ds 28).toB (dget ds 29).toB (dget ds 30).toI (dget ds 31).toB (dget ds 32).toB (dget ds 33).toB (dget ds 34).toB (dget ds 35).toB (dget ds 36).toI (dget ds 37).toB (dget ds 38).toB (dget ds 39).toB (dget ds 40).toB (dget ds 41).toB (dget ds 42).toI (dget ds 43).toB (dget ds 44).toB (dget ds 45).toB (dget ds 46).toB (dget ds 47).toB (dget ds 48).toI (dget ds 49).toB (dget ds 50).toB (dget ds 51).toB (dget ds 52).toB (dget ds 53).toB (dget ds 54).toI (dget ds 55).toI (dget ds 56).toI (dget ds 57).toB), .b (r10_16 (dget ds 0).toI (dget ds 1).toB (dget ds 2).toB (dget ds 3).toB (dget ds 4).toB (dget ds 5).toB (dget ds 6).toI (dget ds 7).toB (dget ds 8).toB (dget ds 9).toB (dget ds 10).toB (dget ds 11).toB (dget ds 12).toI (dget ds 13).toB (dget ds 14).toB (dget ds 15).toB (dget ds 16).toB (dget ds 17).toB (dget ds 18).toI (dget ds 19).toB (dget ds 20).toB (dget ds 21).toB (dget ds 22).toB (dget ds 23).toB (dget ds 24).toI (dget ds 25).toB (dget ds 26).toB (dget ds 27).toB (dget ds 28).toB (dget ds 29).toB (dget ds 30).toI (dget ds 31).toB (dget ds 32).toB (dget ds 33).toB (dget ds 34).toB (dget ds 35).toB (dget ds 36).toI (dget ds 37).toB (dget ds 38).toB (dget ds 39).toB (dget ds 40).toB (dget ds 41).toB (dget ds 42).toI (dget ds 43).toB (dget ds 44).toB (dget ds 45).toB (dget ds 46).toB (dget ds 47).toB (dget ds 48).toI (dget ds 49).toB (dget ds 50).toB (dget ds 51).toB (dget ds 52).toB (dget ds 53).toB (dget ds 54).toI (dget ds 55).toI (dget ds 56).toI (dget ds 57).toB), .b (r10_17 (dget ds 0).toI (dget ds 1).toB (dget ds 2).toB (dget ds 3).toB (dget ds 4).toB (dget ds 5).toB (dget ds 6).toI (dget ds 7).toB (dget ds 8).toB (dget ds 9).toB (dget ds 10).toB (dget ds 11).toB (dget ds 12).toI (dget ds 13).toB (dget ds 14).toB (dget ds 15).toB (dget ds 16).toB (dget ds 17).toB (dget ds 18).toI (dget ds 19).toB (dget ds 20).toB (dget ds 21).toB (dget ds 22).toB (dget ds 23).toB (dget ds 24).toI (dget ds 25).toB (dget ds 26).toB (dget ds 27).toB (dget ds 28).toB (dget ds 29).toB (dget ds 30).toI (dget ds 31).toB (dget ds 32).toB (dget ds 33).toB (dget ds 34).toB (dget ds 35).toB (dget ds 36).toI (dget ds 37).toB (dget ds 38).toB (dget ds 39).toB (dget ds 40).toB (dget ds 41).toB (dget ds 42).toI (dget ds 43).toB (dget ds 44).toB (dget ds 45).toB (dget ds 46).toB (dget ds 47).toB (dget ds 48).toI (dget ds 49).toB (dget ds 50).toB (dget ds 51).toB (dget ds 52).toB (dget ds 53).toB (dget ds 54).toI (dget ds 55).toI (dget ds 56).toI (dget ds 57).toB), .b (r10_18 (dget ds 0).toI (dget ds 1).toB (dget ds 2).toB (dget ds 3).toB (dget ds 4).toB (dget ds 5).toB (dget ds 6).toI (dget ds 7).toB (dget ds 8).toB (dget ds 9).toB (dget ds 10).toB (dget ds 11).toB (dget ds 12).toI (dget ds 13).toB (dget ds 14).toB (dget ds 15).toB (dget ds 16).toB (dget ds 17).toB (dget ds 18).toI (dget ds 19).toB (dget ds 20).toB (dget ds 21).toB (dget ds 22).toB (dget ds 23).toB (dget ds 24).toI (dget ds 25).toB (dget ds 26).toB (dget ds 27).toB (dget ds 28).toB (dget ds 29).toB (dget ds 30).toI (dget ds 31).toB (dget ds 32).toB (dget ds 33).toB (dget ds 34).toB (dget ds 35).toB (dget ds 36).toI (dget ds 37).toB (dget ds 38).toB (dget ds 39).toB (dget ds 40).toB (dget ds 41).toB (dget ds 42).toI (dget ds 43).toB (dget ds 44).toB (dget ds 45).toB (dget ds 46).toB (dget ds 47).toB (dget ds 48).toI (dget ds 49).toB (dget ds 50).toB (dget ds 51).toB (dget ds 52).toB (dget ds 53).toB (dget ds 54).toI (dget ds 55).toI (dget ds 56).toI (dget ds 57).toB), .i (r10_19 (dget ds 0).toI (dget ds 1).toB (dget ds 2).toB (dget ds 3).toB (dget ds 4).toB (dget ds 5).toB (dget ds 6).toI (dget ds 7).toB (dget ds 8).toB (dget ds 9).toB (dget ds 10).toB (dget ds 11).toB (dget ds 12).toI (dget ds 13).toB (dget ds 14).toB (dget ds 15).toB (dget ds 16).toB (dget ds 17).toB (dget ds 18).toI (dget ds 19).toB (dget ds 20).toB (dget ds 21).toB (dget ds 22).toB (dget ds 23).toB (dget ds 24).toI (dget ds 25).toB (dget ds 26).toB (dget ds 27).toB (dget ds 28).toB (dget ds 29).toB (dget ds 30).toI (dget ds 31).toB (dget ds 32).toB (dget ds 33).toB (dget ds 34).toB (dget ds 35).toB (dget ds 36).toI (dget ds 37).toB (dget ds 38).toB (dget ds 39).toB (dget ds 40).toB (dget ds 41).toB (dget ds 42).toI (dget ds 43).toB (dget ds 44).toB (dget ds 45).toB (dget ds 46).toB (dget ds 47).toB (dget ds 48).toI (dget ds 49).toB (dget ds 50).toB (dget ds 51).toB (dget ds 52).toB (dget ds 53).toB (dget ds 54).toI (dget ds 55).toI (dget ds 56).toI (dget ds 57).toB), .b (r10_20 (dget ds 0).toI (dget ds 1).toB (dget ds 2).toB (dget ds 3).toB (dget ds 4).toB (dget ds 5).toB (dget ds 6).toI (dget ds 7).toB (dget ds 8).toB (dget ds 9).toB (dget ds 10).toB (dget ds 11).toB (dget ds 12).toI (dget ds 13).toB (dget ds 14).toB (dget ds 15).toB (dget ds 16).toB (dget ds 17).toB (dget ds 18).toI (dget ds 19).toB (dget ds 20).toB (dget ds 21).toB (dget ds 22).toB (dget ds 23).toB (dget ds 24).toI (dget ds 25).toB (dget ds 26).toB (dget ds 27).toB (dget ds 28).toB (dget ds 29).toB (dget ds 30).toI (dget ds 31).toB (dget ds 32).toB (dget ds 33).toB (dget ds 34).toB (dget ds 35).toB (dget ds 36).toI (dget ds 37).toB (dget ds 38).toB (dget ds 39).toB (dget ds 40).toB (dget ds 41).toB (dget ds 42).toI (dget ds 43).toB (dget ds 44).toB (dget ds 45).toB (dget ds 46).toB (dget ds 47).toB (dget ds 48).toI (dget ds 49).toB (dget ds 50).toB (dget ds 51).toB (dget ds 52).toB (dget ds 53).toB (dget ds 54).toI (dget ds 55).toI (dget ds 56).toI (dget ds 57).toB), .b (r10_21 (dget ds 0).toI (dget ds 1).toB (dget ds 2).toB (dget ds 3).toB (dget ds 4).toB (dget ds 5).toB (dget ds 6).toI (dget ds 7).toB (dget ds 8).toB (dget ds 9).toB (dget ds 10).toB (dget ds 11).toB (dget ds 12).toI (dget ds 13).toB (dget ds 14).toB (dget ds 15).toB (dget ds 16).toB (dget ds 17).toB (dget ds 18).toI (dget ds 19).toB (dget ds 20).toB (dget ds 21).toB (dget ds 22).toB (dget ds 23).toB (dget ds 24).toI (dget ds 25).toB (dget ds 26).toB (dget ds 27).toB (dget ds 28).toB (dget ds 29).toB (dget ds 30).toI (dget ds 31).toB (dget ds 32).toB (dget ds 33).toB (dget ds 34).toB (dget ds 35).toB (dget ds 36).toI (dget ds 37).toB (dget ds 38).toB (dget ds 39).toB (dget ds 40).toB (dget ds 41).toB (dget ds 42).toI (dget ds 43).toB (dget ds 44).toB (dget ds 45).toB (dget ds 46).toB (dget ds 47).toB (dget ds 48).toI (dget ds 49).toB (dget ds 50).toB (dget ds 51).toB (dget ds 52).toB (dget ds 53).toB (dget ds 54).toI (dget ds 55).toI (dget ds 56).toI (dget ds 57).toB), .b (r10_22 (dget ds 0).toI (dget ds 1).toB (dget ds 2).toB (dget ds 3).toB (dget ds 4).toB (dget ds 5).toB (dget ds 6).toI (dget ds 7).toB (dget ds 8).toB (dget ds 9).toB (dget ds 10).toB (dget ds 11).toB (dget ds 12).toI (dget ds 13).toB (dget ds 14).toB (dget ds 15).toB (dget ds 16).toB (dget ds 17).toB (dget ds 18).toI (dget ds 19).toB (dget ds 20).toB (dget ds 21).toB (dget ds 22).toB (dget ds 23).toB (dget ds 24).toI (dget ds 25).toB (dget ds 26).toB (dget ds 27).toB (dget ds 28).toB (dget ds 29).toB (dget ds 30).toI (dget ds 31).toB (dget ds 32).toB (dget ds 33).toB (dget ds 34).toB (dget ds 35).toB (dget ds 36).toI (dget ds 37).toB (dget ds 38).toB (dget ds 39).toB (dget ds 40).toB (dget ds 41).toB (dget ds 42).toI (dget ds 43).toB (dget ds 44).toB (dget ds 45).toB (dget ds 46).toB (dget ds 47).toB (dget ds 48).toI (dget ds 49).toB (dget ds 50).toB (dget ds 51).toB (dget ds 52).toB (dget ds 53).toB (dget ds 54).toI (dget ds 55).toI (dget ds 56).toI (dget ds 57).toB), .b (r10_23 (dget ds 0).toI (dget ds 1).toB (dget ds 2).toB (dget ds 3).toB (dget ds 4).toB (dget ds 5).toB (dget ds 6).toI (dget ds 7).toB (dget ds 8).toB (dget ds 9).toB (dget ds 10).toB (dget ds 11).toB (dget ds 12).toI (dget ds 13).toB (dget ds 14).toB (dget ds 15).toB (dget ds 16).toB (dget ds 17).toB (dget ds 18).toI (dget ds 19).toB (dget ds 20).toB (dget ds 21).toB (dget ds 22).toB (dget ds 23).toB (dget ds 24).toI (dget ds 25).toB (dget ds 26).toB (dget ds 27).toB (dget ds 28).toB (dget ds 29).toB (dget ds 30).toI (dget ds 31).toB (dget ds 32).toB (dget ds 33).toB (dget ds 34).toB (dget ds 35).toB (dget ds 36).toI (dget ds 37).toB (dget ds 38).toB (dget ds 39).toB (dget ds 40).toB (dget ds 41).toB (dget ds 42).toI (dget ds 43).toB (dget ds 44).toB (dget ds 45).toB (dget ds 46).toB (dget ds 47).toB (dget ds 48).toI (dget ds 49).toB (dget ds 50).toB (dget ds 51).toB (dget ds 52).toB (dget ds 53).toB (dget ds 54).toI (dget ds 55).toI (dget ds 56).toI (dget ds 57).toB), .b (r10_24 (dget ds 0).toI (dget ds 1).toB (dget ds 2).toB (dget ds 3).toB (dget ds 4).toB (dget ds 5).toB (dget ds 6).toI (dget ds 7).toB (dget ds 8).toB (dget ds 9).toB (dget ds 10).toB (dget ds 11).toB (dget ds 12).toI (dget ds 13).toB (dget ds 14).toB (dget ds 15).toB (dget ds 16).toB (dget ds 17).toB (dget ds 18).toI (dget ds 19).toB (dget ds 20).toB (dget ds 21).toB (dget ds 22).toB (dget ds 23).toB (dget ds 24).toI (dget ds 25).toB (dget ds 26).toB (dget ds 27).toB (dget ds 28).toB (dget ds 29).toB (dget ds 30).toI (dget ds 31).toB (dget ds 32).toB (dget ds 33).toB (dget ds 34).toB (dget ds 35).toB (dget ds 36).toI (dget ds 37).toB (dget ds 38).toB (dget ds 39).toB (dget ds 40).toB (dget ds 41).toB (dget ds 42).toI (dget ds 43).toB (dget ds 44).toB (dget ds 45).toB (dget ds 46).toB (dget ds 47).toB (dget ds 48).toI (dget ds 49).toB (dget ds 50).toB (dget ds 51).toB (dget ds 52).toB (dget ds 53).toB (dget ds 54).toI (dget ds 55).toI (dget ds 56).toI (dget ds 57).toB), .i (r10_25 (dget ds 0).toI (dget ds 1).toB (dget ds 2).toB (dget ds 3).toB (dget ds 4).toB (dget ds 5).toB (dget ds 6).toI (dget ds 7).toB (dget ds 8).toB (dget ds 9).toB (dget ds 10).toB (dget ds 11).toB (dget ds 12).toI (dget ds 13).toB (dget ds 14).toB (dget ds 15).toB (dget ds 16).toB (dget ds 17).toB (dget ds 18).toI (dget ds 19).toB (dget ds 20).toB (dget ds 21).toB (dget ds 22).toB (dget ds 23).toB (dget ds 24).toI (dget ds 25).toB (dget ds 26).toB (dget ds 27).toB (dget ds 28).toB (dget ds 29).toB (dget ds 30).toI (dget ds 31).toB (dget ds 32).toB (dget ds 33).toB (dget ds 34).toB (dget ds 35).toB (dget ds 36).toI (dget ds 37).toB (dget ds 38).toB (dget ds 39).toB (dget ds 40).toB (dget ds 41).toB (dget ds 42).toI (dget ds 43).toB (dget ds 44).toB (dget ds 45).toB (dget ds 46).toB (dget ds 47).toB (dget ds 48).toI (dget ds 49).toB (dget ds 50).toB (dget ds 51).toB (dget ds 52).toB (dget ds 53).toB (dget ds 54).toI (dget ds 55).toI (dget ds 56).toI (dget ds 57).toB), .b (r10_26 (dget ds 0).toI (dget ds 1).toB (dget ds 2).toB (dget ds 3).toB (dget ds 4).toB (dget ds 5).toB (dget ds 6).toI (dget ds 7).toB (dget ds 8).toB (dget ds 9).toB (dget ds 10).toB (dget ds 11).toB (dget ds 12).toI (dget ds 13).toB (dget ds 14).toB (dget ds 15).toB (dget ds 16).toB (dget ds 17).toB (dget ds 18).toI (dget ds 19).toB (dget ds 20).toB (dget ds 21).toB (dget ds 22).toB (dget ds 23).toB (dget ds 24).toI (dget ds 25).toB (dget ds 26).toB (dget ds 27).toB (dget ds 28).toB (dget ds 29).toB (dget ds 30).toI (dget ds 31).toB (dget ds 32).toB (dget ds 33).toB (dget ds 34).toB (dget ds 35).toB (dget ds 36).toI (dget ds 37).toB (dget ds 38).toB (dget ds 39).toB (dget ds 40).toB (dget ds 41).toB (dget ds 42).toI (dget ds 43).toB (dget ds 44).toB (dget ds 45).toB (dget ds 46).toB (dget ds 47).toB (dget ds 48).toI (dget ds 49).toB (dget ds 50).toB (dget ds 51).toB (dget ds 52).toB (dget ds 53).toB (dget ds 54).toI (dget ds 55).toI (dget ds 56).toI (dget ds 57).toB), .b (r10_27 (dget ds 0).toI (dget ds 1).toB (dget ds 2).toB (dget ds 3).toB (dget ds 4).toB (dget ds 5).toB (dget ds 6).toI (dget ds 7).toB (dget ds 8).toB (dget ds 9).toB (dget ds 10).toB (dget ds 11).toB (dget ds 12).toI (dget ds 13).toB (dget ds 14).toB (dget ds 15).toB (dget ds 16).toB (dget ds 17).toB (dget ds 18).toI (dget ds 19).toB (dget ds 20).toB (dget ds 21).toB (dget ds 22).toB (dget ds 23).toB (dget ds 24).toI (dget ds 25).toB (dget ds 26).toB (dget ds 27).toB (dget ds 28).toB (dget ds 29).toB (dget ds 30).toI (dget ds 31).toB (dget ds 32).toB (dget ds 33).toB (dget ds 34).toB (dget ds 35).toB (dget ds 36).toI (dget ds 37).toB (dget ds 38).toB (dget ds 39).toB (dget ds 40).toB (dget ds 41).toB (dget ds 42).toI (dget ds 43).toB (dget ds 44).toB (dget ds 45).toB (dget ds 46).toB (dget ds 47).toB (dget ds 48).toI (dget ds 49).toB (dget ds 50).toB (dget ds 51).toB (dget ds 52).toB (dget ds 53).toB (dget ds 54).toI (dget ds 55).toI (dget ds 56).toI (dget ds 57).toB), .b (r10_28 (dget ds 0).toI (dget ds 1).toB (dget ds 2).toB (dget ds 3).toB (dget ds 4).toB (dget ds 5).toB (dget ds 6).toI (dget ds 7).toB (dget ds 8).toB (dget ds 9).toB (dget ds 10).toB (dget ds 11).toB (dget ds 12).toI (dget ds 13).toB (dget ds 14).toB (dget ds 15).toB (dget ds 16).toB (dget ds 17).toB (dget ds 18).toI (dget ds 19).toB (dget ds 20).toB (dget ds 21).toB (dget ds 22).toB (dget ds 23).toB (dget ds 24).toI (dget ds 25).toB (dget ds 26).toB (dget ds 27).toB (dget ds 28).toB (dget ds 29).toB (dget ds 30).toI (dget ds 31).toB (dget ds 32).toB (dget ds 33).toB (dget ds 34).toB (dget ds 35).toB (dget ds 36).toI (dget ds 37).toB (dget ds 38).toB (dget ds 39).toB (dget ds 40).toB (dget ds 41).toB (dget ds 42).toI (dget ds 43).toB (dget ds 44).toB (dget ds 45).toB (dget ds 46).toB (dget ds 47).toB (dget ds 48).toI (dget ds 49).toB (dget ds 50).toB (dget ds 51).toB (dget ds 52).toB (dget ds 53).toB (dget ds 54).toI (dget ds 55).toI (dget ds 56).toI (dget ds 57).toB), .b (r10_29 (dget ds 0).toI (dget ds 1).toB (dget ds 2).toB (dget ds 3).toB (dget ds 4).toB (dget ds 5).toB (dget ds 6).toI (dget ds 7).toB (dget ds 8).toB (dget ds 9).toB (dget ds 10).toB (dget ds 11).toB (dget ds 12).toI (dget ds 13).toB (dget ds 14).toB (dget ds 15).toB (dget ds 16).toB (dget ds 17).toB (dget ds 18).toI (dget ds 19).toB (dget ds 20).toB (dget ds 21).toB (dget ds 22).toB (dget ds 23).toB (dget ds 24).toI (dget ds 25).toB (dget ds 26).toB (dget ds 27).toB (dget ds 28).toB (dget ds 29).toB (dget ds 30).toI (dget ds 31).toB (dget ds 32).toB (dget ds 33).toB (dget ds 34).toB (dget ds 35).toB (dget ds 36).toI (dget ds 37).toB (dget ds 38).toB (dget ds 39).toB (dget ds 40).toB (dget ds 41).toB (dget ds 42).toI (dget ds 43).toB (dget ds 44).toB (dget ds 45).toB (dget ds 46).toB (dget ds 47).toB (dget ds 48).toI (dget ds 49).toB (dget ds 50).toB (dget ds 51).toB (dget ds 52).toB (dget ds 53).toB (dget ds 54).toI (dget ds 55).toI (dget ds 56).toI (dget ds 57).toB), .b (r10_30 (dget ds 0).toI (dget ds 1).toB (dget ds 2).toB (dget ds 3).toB (dget ds 4).toB (dget ds 5).toB (dget ds 6).toI (dget ds 7).toB (dget ds 8).toB (dget ds 9).toB (dget ds 10).toB (dget ds 11).toB (dget ds 12).toI (dget ds 13).toB (dget ds 14).toB (dget ds 15).toB (dget ds 16).toB (dget ds 17).toB (dget ds 18).toI (dget ds 19).toB (dget ds 20).toB (dget ds 21).toB (dget ds 22).toB (dget ds 23).toB (dget ds 24).toI (dget ds 25).toB (dget ds 26).toB (dget ds 27).toB (dget ds 28).toB (dget ds 29).toB (dget ds 30).toI (dget ds 31).toB (dget ds 32).toB (dget ds 33).toB (dget ds 34).toB (dget ds 35).toB (dget ds 36).toI (dget ds 37).toB (dget ds 38).toB (dget ds 39).toB (dget ds 40).toB (dget ds 41).toB (dget ds 42).toI (dget ds 43).toB (dget ds 44).toB (dget ds 45).toB (dget ds 46).toB (dget ds 47).toB (dget ds 48).toI (dget ds 49).toB (dget ds 50).toB (dget ds 51).toB (dget ds 52).toB (dget ds 53).toB (dget ds 54).toI (dget ds 55).toI (dget ds 56).toI (dget ds 57).toB), .i (r10_31 (dget ds 0).toI (dget ds 1).toB (dget ds 2).toB (dget ds 3).toB (dget ds 4).toB (dget ds 5).toB (dget ds 6).toI (dget ds 7).toB (dget ds 8).toB (dget ds 9).toB (dget ds 10).toB (dget ds 11).toB (dget ds 12).toI (dget ds 13).toB (dget ds 14).toB (dget ds 15).toB (dget ds 16).toB (dget ds 17).toB (dget ds 18).toI (dget ds 19).toB (dget ds 20).toB (dget ds 21).toB (dget ds 22).toB (dget ds 23).toB (dget ds 24).toI (dget ds 25).toB (dget ds 26).toB (dget ds 27).toB (dget ds 28).toB (dget ds 29).toB (dget ds 30).toI (dget ds 31).toB (dget ds 32).toB (dget ds 33).toB (dget ds 34).toB (dget ds 35).toB (dget ds 36).toI (dget ds 37).toB (dget ds 38).toB (dget ds 39).toB (dget ds 40).toB (dget ds 41).toB (dget ds 42).toI (dget ds 43).toB (dget ds 44).toB (dget ds 45).toB (dget ds 46).toB (dget ds 47).toB (dget ds 48).toI (dget ds 49).toB (dget ds 50).toB (dget ds 51).toB (dget ds 52).toB (dget ds 53).toB (dget ds 54).toI (dget ds 55).toI (dget ds 56).toI (dget ds 57).toB), .b (r10_32 (dget ds 0).toI (dget ds 1).toB (dget ds 2).toB (dget ds 3).toB (dget ds 4).toB (dget ds 5).toB (dget ds 6).toI (dget ds 7).toB (dget ds 8).toB (dget ds 9).toB (dget ds 10).toB (dget ds 11).toB (dget ds 12).toI (dget ds 13).toB (dget ds 14).toB (dget ds 15).toB (dget ds 16).toB (dget ds 17).toB (dget ds 18).toI (dget ds 19).toB (dget ds 20).toB (dget ds 21).toB (dget ds 22).toB (dget ds 23).toB (dget ds 24).toI (dget ds 25).toB (dget ds 26).toB (dget ds 27).toB (dget ds 28).toB (dget ds 29).toB (dget ds 30).toI (dget ds 31).toB (dget ds 32).toB (dget ds 33).toB (dget ds 34).toB (dget ds 35).toB (dget ds 36).toI (dget ds 37).toB (dget ds 38).toB (dget ds 39).toB (dget ds 40).toB (dget ds 41).toB (dget ds 42).toI (dget ds 43).toB (dget ds 44).toB (dget ds 45).toB (dget ds 46).toB (dget ds 47).toB (dget ds 48).toI (dget ds 49).toB (dget ds 50).toB (dget ds 51).toB (dget ds 52).toB (dget ds 53).toB (dget ds 54).toI (dget ds 55).toI (dget ds 56).toI (dget ds 57).toB), .b (r10_33 (dget ds 0).toI (dget ds 1).toB (dget ds 2).toB (dget ds 3).toB (dget ds 4).toB (dget ds 5).toB (dget ds 6).toI (dget ds 7).toB (dget ds 8).toB (dget ds 9).toB (dget ds 10).toB (dget ds 11).toB (dget ds 12).toI (dget ds 13).toB (dget ds 14).toB (dget ds 15).toB (dget ds 16).toB (dget ds 17).toB (dget ds 18).toI (dget ds 19).toB (dget ds 20).toB (dget ds 21).toB (dget ds 22).toB (dget ds 23).toB (dget ds 24).toI (dget ds 25).toB (dget ds 26).toB (dget ds 27).toB (dget ds 28).toB (dget ds 29).toB (dget ds 30).toI (dget ds 31).toB (dget ds 32).toB (dget ds 33).toB (dget ds 34).toB (dget ds 35).toB (dget ds 36).toI (dget ds 37).toB (dget ds 38).toB (dget ds 39).toB (dget ds 40).toB (dget ds 41).toB (dget ds 42).toI (dget ds 43).toB (dget ds 44).toB (dget ds 45).toB (dget ds 46).toB (dget ds 47).toB (dget ds 48).toI (dget ds 49).toB (dget ds 50).toB (dget ds 51).toB (dget ds 52).toB (dget ds 53).toB (dget ds 54).toI (dget ds 55).toI (dget ds 56).toI (dget ds 57).toB), .b (r10_34 (dget ds 0).toI (dget ds 1).toB (dget ds 2).toB (dget ds 3).toB (dget ds 4).toB (dget ds 5).toB (dget ds 6).toI (dget ds 7).toB (dget ds 8).toB (dget ds 9).toB (dget ds 10).toB (dget ds 11).toB (dget ds 12).toI (dget ds 13).toB (dget ds 14).toB (dget ds 15).toB (dget ds 16).toB (dget ds 17).toB (dget ds 18).toI (dget ds 19).toB (dget ds 20).toB (dget ds 21).toB (dget ds 22).toB (dget ds 23).toB (dget ds 24).toI (dget ds 25).toB (dget ds 26).toB (dget ds 27).toB (dget ds 28).toB (dget ds 29).toB (dget ds 30).toI (dget ds 31).toB (dget ds 32).toB (dget ds 33).toB (dget ds 34).toB (dget ds 35).toB (dget ds 36).toI (dget ds 37).toB (dget ds 38).toB (dget ds 39).toB (dget ds 40).toB (dget ds 41).toB (dget ds 42).toI (dget ds 43).toB (dget ds 44).toB (dget ds 45).toB (dget ds 46).toB (dget ds 47).toB (dget ds 48).toI (dget ds 49).toB (dget ds 50).toB (dget ds 51).toB (dget ds 52).toB (dget ds 53).toB (dget ds 54).toI (dget ds 55).toI (dget ds 56).toI (dget ds 57).toB), .b (r10_35 (dget ds 0).toI (dget ds 1).toB (dget ds 2).toB (dget ds 3).toB (dget ds 4).toB (dget ds 5).toB (dget ds 6).toI (dget ds 7).toB (dget ds 8).toB (dget ds 9).toB (dget ds 10).toB (dget ds 11).toB (dget ds 12).toI (dget ds 13).toB (dget ds 14).toB (dget ds 15).toB (dget ds 16).toB (dget ds 17).toB (dget ds 18).toI (dget ds 19).toB (dget ds 20).toB (dget ds 21).toB (dget ds 22).toB (dget ds 23).toB (dget ds 24).toI (dget ds 25).toB (dget ds 26).toB (dget ds 27).toB (dget ds 28).toB (dget ds 29).toB (dget ds 30).toI (dget ds 31).toB (dget ds 32).toB (dget ds 33).toB (dget ds 34).toB (dget ds 35).toB (dget ds 36).toI (dget ds 37).toB (dget ds 38).toB (dget ds 39).toB (dget ds 40).toB (dget ds 41).toB (dget ds 42).toI (dget ds 43).toB (dget ds 44).toB (dget ds 45).toB (dget ds 46).toB (dget ds 47).toB (dget ds 48).toI (dget ds 49).toB (dget ds 50).toB (dget ds 51).toB (dget ds 52).toB (dget ds 53).toB (dget ds 54).toI (dget ds 55).toI (dget ds 56).toI (dget ds 57).toB), .b (r10_36 (dget ds 0).toI (dget ds 1).toB (dget ds 2).toB (dget ds 3).toB (dget ds 4).toB (dget ds 5).toB (dget ds 6).toI (dget ds 7).toB (dget ds 8).toB (dget ds 9).toB (dget ds 10).toB (dget ds 11).toB (dget ds 12).toI (dget ds 13).toB (dget ds 14).toB (dget ds 15).toB (dget ds 16).toB (dget ds 17).toB (dget ds 18).toI (dget ds 19).toB (dget ds 20).toB (dget ds 21).toB (dget ds 22).toB (dget ds 23).toB (dget ds 24).toI (dget ds 25).toB (dget ds 26).toB (dget ds 27).toB (dget ds 28).toB (dget ds 29).toB (dget ds 30).toI (dget ds 31).toB (dget ds 32).toB (dget ds 33).toB (dget ds 34).toB (dget ds 35).toB (dget ds 36).toI (dget ds 37).toB (dget ds 38).toB (dget ds 39).toB (dget ds 40).toB (dget ds 41).toB (dget ds 42).toI (dget ds 43).toB (dget ds 44).toB (dget ds 45).toB (dget ds 46).toB (dget ds 47).toB (dget ds 48).toI (dget ds 49).toB (dget ds 50).toB (dget ds 51).toB (dget ds 52).toB (dget ds 53).toB (dget ds 54).toI (dget ds 55).toI (dget ds 56).toI (dget ds 57).toB), .i (r10_37 (dget ds 0).toI (dget ds 1).toB (dget ds 2).toB (dget ds 3).toB (dget ds 4).toB (dget ds 5).toB (dget ds 6).toI (dget ds 7).toB (dget ds 8).toB (dget ds 9).toB (dget ds 10).toB (dget ds 11).toB (dget ds 12).toI (dget ds 13).toB (dget ds 14).toB (dget ds 15).toB (dget ds 16).toB (dget ds 17).toB (dget ds 18).toI (dget ds 19).toB (dget ds 20).toB (dget ds 21).toB (dget ds 22).toB (dget ds 23).toB (dget ds 24).toI (dget ds 25).toB (dget ds 26).toB (dget ds 27).toB (dget ds 28).toB (dget ds 29).toB (dget ds 30).toI (dget ds 31).toB (dget ds 32).toB (dget ds 33).toB (dget ds 34).toB (dget ds 35).toB (dget ds 36).toI (dget ds 37).toB (dget ds 38).toB (dget ds 39).toB (dget ds 40).toB (dget ds 41).toB (dget ds 42).toI (dget ds 43).toB (dget ds 44).toB (dget ds 45).toB (dget ds 46).toB (dget ds 47).toB (dget ds 48).toI (dget ds 49).toB (dget ds 50).toB (dget ds 51).toB (dget ds 52).toB (dget ds 53).toB (dget ds 54).toI (dget ds 55).toI (dget ds 56).toI (dget ds 57).toB), .b (r10_38 (dget ds 0).toI (dget ds 1).toB (dget ds 2).toB (dget ds 3).toB (dget ds 4).toB (dget ds 5).toB (dget ds 6).toI (dget ds 7).toB (dget ds 8).toB (dget ds 9).toB (dget ds 10).toB (dget ds 11).toB (dget ds 12).toI (dget ds 13).toB (dget ds 14).toB (dget ds 15).toB (dget ds 16).toB (dget ds 17).toB (dget ds 18).toI (dget ds 19).toB (dget ds 20).toB (dget ds 21).toB (dget ds 22).toB (dget ds 23).toB (dget ds 24).toI (dget ds 25).toB (dget ds 26).toB (dget ds 27).toB (dget ds 28).toB (dget ds 29).toB (dget ds 30).toI (dget ds 31).toB (dget ds 32).toB (dget ds 33).toB (dget ds 34).toB (dget ds 35).toB (dget ds 36).toI (dget ds 37).toB (dget ds 38).toB (dget ds 39).toB (dget ds 40).toB (dget ds 41).toB (dget ds 42).toI (dget ds 43).toB (dget ds 44).toB (dget ds 45).toB (dget ds 46).toB (dget ds 47).toB (dget ds 48).toI (dget ds 49).toB (dget ds 50).toB (dget ds 51).toB (dget ds 52).toB (dget ds 53).toB (dget ds 54).toI (dget ds 55).toI (dget ds 56).toI (dget ds 57).toB), .b (r10_39 (dget ds 0).toI (dget ds 1).toB (dget ds 2).toB (dget ds 3).toB (dget ds 4).toB (dget ds 5).toB (dget ds 6).toI (dget ds 7).toB (dget ds 8).toB (dget ds 9).toB (dget ds 10).toB (dget ds 11).toB (dget ds 12).toI (dget ds 13).toB (dget ds 14).toB (dget ds 15).toB (dget ds 16).toB (dget ds 17).toB (dget ds 18).toI (dget ds 19).toB (dget ds 20).toB (dget ds 21).toB (dget ds 22).toB (dget ds 23).toB (dget ds 24).toI (dget ds 25).toB (dget ds 26).toB (dget ds 27).toB (dget ds 28).toB (dget ds 29).toB (dget ds 30).toI (dget ds 31).toB (dget ds 32).toB (dget ds 33).toB (dget ds 34).toB (dget ds 35).toB (dget ds 36).toI (dget ds 37).toB (dget ds 38).toB (dget ds 39).toB (dget ds 40).toB (dget ds 41).toB (dget ds 42).toI (dget ds 43).toB (dget ds 44).toB (dget ds 45).toB (dget ds 46).toB (dget ds 47).toB (dget ds 48).toI (dget ds 49).toB (dget ds 50).toB (dget ds 51).toB (dget ds 52).toB (dget ds 53).toB (dget ds 54).toI (dget ds 55).toI (dget ds 56).toI (dget ds 57).toB), .b (r10_40 (dget ds 0).toI (dget ds 1).toB (dget ds 2).toB (dget ds 3).toB (dget ds 4).toB (dget ds 5).toB (dget ds 6).toI (dget ds 7).toB (dget ds 8).toB (dget ds 9).toB (dget ds 10).toB (dget ds 11).toB (dget ds 12).toI (dget ds 13).toB (dget ds 14).toB (dget ds 15).toB (dget ds 16).toB (dget ds 17).toB (dget ds 18).toI (dget ds 19).toB (dget ds 20).toB (dget ds 21).toB (dget ds 22).toB (dget ds 23).toB (dget ds 24).toI (dget ds 25).toB (dget ds 26).toB (dget ds 27).toB (dget ds 28).toB (dget ds 29).toB (dget ds 30).toI (dget ds 31).toB (dget ds 32).toB (dget ds 33).toB (dget ds 34).toB (dget ds 35).toB (dget ds 36).toI (dget ds 37).toB (dget ds 38).toB (dget ds 39).toB (dget ds 40).toB (dget ds 41).toB (dget ds 42).toI (dget ds 43).toB (dget ds 44).toB (dget ds 45).toB (dget ds 46).toB (dget ds 47).toB (dget ds 48).toI (dget ds 49).toB (dget ds 50).toB (dget ds 51).toB (dget ds 52).toB (dget ds 53).toB (dget ds 54).toI (dget ds 55).toI (dget ds 56).toI (dget ds 57).toB), .b (r10_41 (dget ds 0).toI (dget ds 1).toB (dget ds 2).toB (dget ds 3).toB (dget ds 4).toB (dget ds 5).toB (dget ds 6).toI (dget ds 7).toB (dget ds 8).toB (dget ds 9).toB (dget ds 10).toB (dget ds 11).toB (dget ds 12).toI (dget ds 13).toB (dget ds 14).toB (dget ds 15).toB (dget ds 16).toB (dget ds 17).toB (dget ds 18).toI (dget ds 19).toB (dget ds 20).toB (dget ds 21).toB (dget ds 22).toB (dget ds 23).toB (dget ds 24).toI (dget ds 25).toB (dget ds 26).toB (dget ds 27).toB (dget ds 28).toB (dget ds 29).toB (dget ds 30).toI (dget ds 31).toB (dget ds 32).toB (dget ds 33).toB (dget ds 34).toB (dget ds 35).toB (dget ds 36).toI (dget ds 37).toB (dget ds 38).toB (dget ds 39).toB (dget ds 40).toB (dget ds 41).toB (dget ds 42).toI (dget ds 43).toB (dget ds 44).toB (dget ds 45).toB (dget ds 46).toB (dget ds 47).toB (dget ds 48).toI (dget ds 49).toB (dget ds 50).toB (dget ds 51).toB (dget ds 52).toB (dget ds 53).toB (dget ds 54).toI (dget ds 55).toI (dget ds 56).toI (dget ds 57).toB), .b (r10_42 (dget ds 0).toI (dget ds 1).toB (dget ds 2).toB (dget ds 3).toB (dget ds 4).toB (dget ds 5).toB (dget ds 6).toI (dget ds 7).toB (dget ds 8).toB (dget ds 9).toB (dget ds 10).toB (dget ds 11).toB (dget ds 12).toI (dget ds 13).toB (dget ds 14).toB (dget ds 15).toB (dget ds 16).toB (dget ds 17).toB (dget ds 18).toI (dget ds 19).toB (dget ds 20).toB (dget ds 21).toB (dget ds 22).toB (dget ds 23).toB (dget ds 24).toI (dget ds 25).toB (dget ds 26).toB (dget ds 27).toB (dget ds 28).toB (dget ds 29).toB (dget ds 30).toI (dget ds 31).toB (dget ds 32).toB (dget ds 33).toB (dget ds 34).toB (dget ds 35).toB (dget ds 36).toI (dget ds 37).toB (dget ds 38).toB (dget ds 39).toB (dget ds 40).toB (dget ds 41).toB (dget ds 42).toI (dget ds 43).toB (dget ds 44).toB (dget ds 45).toB (dget ds 46).toB (dget ds 47).toB (dget ds 48).toI (dget ds 49).toB (dget ds 50).toB (dget ds 51).toB (dget ds 52).toB (dget ds 53).toB (dget ds 54).toI (dget ds 55).toI (dget ds 56).toI (dget ds 57).toB), .i (r10_43 (dget ds 0).toI (dget ds 1).toB (dget ds 2).toB (dget ds 3).toB (dget ds 4).toB (dget ds 5).toB (dget ds 6).toI (dget ds 7).toB (dget ds 8).toB (dget ds 9).toB (dget ds 10).toB (dget ds 11).toB (dget ds 12).toI (dget ds 13).toB (dget ds 14).toB (dget ds 15).toB (dget ds 16).toB (dget ds 17).toB (dget ds 18).toI (dget ds 19).toB (dget ds 20).toB (dget ds 21).toB (dget ds 22).toB (dget ds 23).toB (dget ds 24).toI (dget ds 25).toB (dget ds 26).toB (dget ds 27).toB (dget ds 28).toB (dget ds 29).toB (dget ds 30).toI (dget ds 31).toB (dget ds 32).toB (dget ds 33).toB (dget ds 34).toB (dget ds 35).toB (dget ds 36).toI (dget ds 37).toB (dget ds 38).toB (dget ds 39).toB (dget ds 40).toB (dget ds 41).toB (dget ds 42).toI (dget ds 43).toB (dget ds 44).toB (dget ds 45).toB (dget ds 46).toB (dget ds 47).toB (dget ds 48).toI (dget ds 49).toB (dget ds 50).toB (dget ds 51).toB (dget ds 52).toB (dget ds 53).toB (dget ds 54).toI (dget ds 55).toI (dget ds 56).toI (dget ds 57).toB), .b (r10_44 (dget ds 0).toI (dget ds 1).toB (dget ds 2).toB (dget ds 3).toB (dget ds 4).toB (dget ds 5).toB (dget ds 6).toI (dget ds 7).toB (dget ds 8).toB (dget ds 9).toB (dget ds 10).toB (dget ds 11).toB (dget ds 12).toI (dget ds 13).toB (dget ds 14).toB (dget ds 15).toB (dget ds 16).toB (dget ds 17).toB (dget ds 18).toI (dget ds 19).toB (dget ds 20).toB (dget ds 21).toB (dget ds 22).toB (dget ds 23).toB (dget ds 24).toI (dget ds 25).toB (dget ds 26).toB (dget ds 27).toB (dget ds 28).toB (dget ds 29).toB (dget ds 30).toI (dget ds 31).toB (dget ds 32).toB (dget ds 33).toB (dget ds 34).toB (dget ds 35).toB (dget ds 36).toI (dget ds 37).toB (dget ds 38).toB (dget ds 39).toB (dget ds 40).toB (dget ds 41).toB (dget ds 42).toI (dget ds 43).toB (dget ds 44).toB (dget ds 45).toB (dget ds 46).toB (dget ds 47).toB (dget ds 48).toI (dget ds 49).toB (dget ds 50).toB (dget ds 51).toB (dget ds 52).toB (dget ds 53).toB (dget ds 54).toI (dget ds 55).toI (dget ds 56).toI (dget ds 57).toB), .b (r10_45 (dget ds 0).toI (dget ds 1).toB (dget ds 2).toB (dget ds 3).toB (dget ds 4).toB (dget ds 5).toB (dget ds 6).toI (dget ds 7).toB (dget ds 8).toB (dget ds 9).toB (dget ds 10).toB (dget ds 11).toB (dget ds 12).toI (dget ds 13).toB (dget ds 14).toB (dget ds 15).toB (dget ds 16).toB (dget ds 17).toB (dget ds 18).toI (dget ds 19).toB (dget ds 20).toB (dget ds 21).toB (dget ds 22).toB (dget ds 23).toB (dget ds 24).toI (dget ds 25).toB (dget ds 26).toB (dget ds 27).toB (dget ds 28).toB (dget ds 29).toB (dget ds 30).toI (dget ds 31).toB (dget ds 32).toB (dget ds 33).toB (dget ds 34).toB (dget ds 35).toB (dget ds 36).toI (dget ds 37).toB (dget ds 38).toB (dget ds 39).toB (dget ds 40).toB (dget ds 41).toB (dget ds 42).toI (dget ds 43).toB (dget ds 44).toB (dget ds 45).toB (dget ds 46).toB (dget ds 47).toB (dget ds 48).toI (dget ds 49).toB (dget ds 50).toB (dget ds 51).toB (dget ds 52).toB (dget ds 53).toB (dget ds 54).toI (dget ds 55).toI (dget ds 56).toI (dget ds 57).toB), .b (r10_46 (dget ds 0).toI (dget ds 1).toB (dget ds 2).toB (dget ds 3).toB (dget ds 4).toB (dget ds 5).toB (dget ds 6).toI (dget ds 7).toB (dget ds 8).toB (dget ds 9).toB (dget ds 10).toB (dget ds 11).toB (dget ds 12).toI (dget ds 13).toB (dget ds 14).toB (dget ds 15).toB (dget ds 16).toB (dget ds 17).toB (dget ds 18).toI (dget ds 19).toB (dget ds 20).toB (dget ds 21).toB (dget ds 22).toB (dget ds 23).toB (dget ds 24).toI (dget ds 25).toB (dget ds 26).toB (dget ds 27).toB (dget ds 28).toB (dget ds 29).toB (dget ds 30).toI (dget ds 31).toB (dget ds 32).toB (dget ds 33).toB (dget ds 34).toB (dget ds 35).toB (dget ds 36).toI (dget ds 37).toB (dget ds 38).toB (dget ds 39).toB (dget ds 40).toB (dget ds 41).toB (dget ds 42).toI (dget ds 43).toB (dget ds 44).toB (dget ds 45).toB (dget ds 46).toB (dget ds 47).toB (dget ds 48).toI (dget ds 49).toB (dget ds 50).toB (dget ds 51).toB (dget ds 52).toB (dget ds 53).toB (dget ds 54).toI (dget ds 55).toI (dget ds 56).toI (dget ds 57).toB), .b (r10_47 (dget ds 0).toI (dget ds 1).toB (dget ds 2).toB (dget ds 3).toB (dget ds 4).toB (dget ds 5).toB (dget ds 6).toI (dget ds 7).toB (dget ds 8).toB (dget ds 9).toB (dget ds 10).toB (dget ds 11).toB (dget ds 12).toI (dget ds 13).toB (dget ds 14).toB (dget ds 15).toB (dget ds 16).toB (dget ds 17).toB (dget ds 18).toI (dget ds 19).toB (dget ds 20).toB (dget ds 21).toB (dget ds 22).toB (dget ds 23).toB (dget ds 24).toI (dget ds 25).toB (dget ds 26).toB (dget ds 27).toB (dget ds 28).toB (dget ds 29).toB (dget ds 30).toI (dget ds 31).toB (dget ds 32).toB (dget ds 33).toB (dget ds 34).toB (dget ds 35).toB (dget ds 36).toI (dget ds 37).toB (dget ds 38).toB (dget ds 39).toB (dget ds 40).toB (dget ds 41).toB (dget ds 42).toI (dget ds 43).toB (dget ds 44).toB (dget ds 45).toB (dget ds 46).toB (dget ds 47).toB (dget ds 48).toI (dget ds 49).toB (dget ds 50).toB (dget ds 51).toB (dget ds 52).toB (dget ds 53).toB (dget ds 54).toI (dget ds 55).toI (dget ds 56).toI (dget ds 57).toB), .b (r10_48 (dget ds 0).toI (dget ds 1).toB (dget ds 2).toB (dget ds 3).toB (dget ds 4).toB (dget ds 5).toB (dget ds 6).toI (dget ds 7).toB (dget ds 8).toB (dget ds 9).toB (dget ds 10).toB (dget ds 11).toB (dget ds 12).toI (dget ds 13).toB (dget ds 14).toB (dget ds 15).toB (dget ds 16).toB (dget ds 17).toB (dget ds 18).toI (dget ds 19).toB (dget ds 20).toB (dget ds 21).toB (dget ds 22).toB (dget ds 23).toB (dget ds 24).toI (dget ds 25).toB (dget ds 26).toB (dget ds 27).toB (dget ds 28).toB (dget ds 29).toB (dget ds 30).toI (dget ds 31).toB (dget ds 32).toB (dget ds 33).toB (dget ds 34).toB (dget ds 35).toB (dget ds 36).toI (dget ds 37).toB (dget ds 38).toB (dget ds 39).toB (dget ds 40).toB (dget ds 41).toB (dget ds 42).toI (dget ds 43).toB (dget ds 44).toB (dget ds 45).toB (dget ds 46).toB (dget ds 47).toB (dget ds 48).toI (dget ds 49).toB (dget ds 50).toB (dget ds 51).toB (dget ds 52).toB (dget ds 53).toB (dget ds 54).toI (dget ds 55).toI (dget ds 56).toI (dget ds 57).toB), .i (r10_49 (dget ds 0).toI (dget ds 1).toB (dget ds 2).toB (dget ds 3).toB (dget ds 4).toB (dget ds 5).toB (dget ds 6).toI (dget ds 7).toB (dget ds 8).toB (dget ds 9).toB (dget ds 10).toB (dget ds 11).toB (dget ds 12).toI (dget ds 13).toB (dget ds 14).toB (dget ds 15).toB (dget ds 16).toB (dget ds 17).toB (dget ds 18).toI (dget ds 19).toB (dget ds 20).toB (dget ds 21).toB (dget ds 22).toB (dget ds 23).toB (dget ds 24).toI (dget ds 25).toB (dget ds 26).toB (dget ds 27).toB (dget ds 28).toB (dget ds 29).toB (dget ds 30).toI (dget ds 31).toB (dget ds 32).toB (dget ds 33).toB (dget ds 34).toB (dget ds 35).toB (dget ds 36).toI (dget ds 37).toB (dget ds 38).toB (dget ds 39).toB (dget ds 40).toB (dget ds 41).toB (dget ds 42).toI (dget ds 43).toB (dget ds 44).toB (dget ds 45).toB (dget ds 46).toB (dget ds 47).toB (dget ds 48).toI (dget ds 49).toB (dget ds 50).toB (dget ds 51).toB (dget ds 52).toB (dget ds 53).toB (dget ds 54).toI (dget ds 55).toI (dget ds 56).toI (dget ds 57).toB), .b (r10_50 (dget ds 0).toI (dget ds 1).toB (dget ds 2).toB (dget ds 3).toB (dget ds 4).toB (dget ds 5).toB (dget ds 6).toI (dget ds 7).toB (dget ds 8).toB (dget ds 9).toB (dget ds 10).toB (dget ds 11).toB (dget ds 12).toI (dget ds 13).toB (dget ds 14).toB (dget ds 15).toB (dget ds 16).toB (dget ds 17).toB (dget ds 18).toI (dget ds 19).toB (dget ds 20).toB (dget ds 21).toB (dget ds 22).toB (dget ds 23).toB (dget ds 24).toI (dget ds 25).toB (dget ds 26).toB (dget ds 27).toB (dget ds 28).toB (dget ds 29).toB (dget ds 30).toI (dget ds 31).toB (dget ds 32).toB (dget ds 33).toB (dget ds 34).toB (dget ds 35).toB (dget ds 36).toI (dget ds 37).toB (dget ds 38).toB (dget ds 39).toB (dget ds 40).toB (dget ds 41).toB (dget ds 42).toI (dget ds 43).toB (dget ds 44).toB (dget ds 45).toB (dget ds 46).toB (dget ds 47).toB (dget ds 48).toI (dget ds 49).toB (dget ds 50).toB (dget ds 51).toB (dget ds 52).toB (dget ds 53).toB (dget ds 54).toI (dget ds 55).toI (dget ds 56).toI (dget ds 57).toB), .b (r10_51 (dget ds 0).toI (dget ds 1).toB (dget ds 2).toB (dget ds 3).toB (dget ds 4).toB (dget ds 5).toB (dget ds 6).toI (dget ds 7).toB (dget ds 8).toB (dget ds 9).toB (dget ds 10).toB (dget ds 11).toB (dget ds 12).toI (dget ds 13).toB (dget ds 14).toB (dget ds 15).toB (dget ds 16).toB (dget ds 17).toB (dget ds 18).toI (dget ds 19).toB (dget ds 20).toB (dget ds 21).toB (dget ds 22).toB (dget ds 23).toB (dget ds 24).toI (dget ds 25).toB (dget ds 26).toB (dget ds 27).toB (dget ds 28).toB (dget ds 29).toB (dget ds 30).toI (dget ds 31).toB (dget ds 32).toB (dget ds 33).toB (dget ds 34).toB (dget ds 35).toB (dget ds 36).toI (dget ds 37).toB (dget ds 38).toB (dget ds 39).toB (dget ds 40).toB (dget ds 41).toB (dget ds 42).toI (dget ds 43).toB (dget ds 44).toB (dget ds 45).toB (dget ds 46).toB (dget ds 47).toB (dget ds 48).toI (dget ds 49).toB (dget ds 50).toB (dget ds 51).toB (dget ds 52).toB (dget ds 53).toB (dget ds 54).toI (dget ds 55).toI (dget ds 56).toI (dget ds 57).toB), .b (r10_52 (dget ds 0).toI (dget ds 1).toB (dget ds 2).toB (dget ds 3).toB (dget ds 4).toB (dget ds 5).toB (dget ds 6).toI (dget ds 7).toB (dget ds 8).toB (dget ds 9).toB (dget ds 10).toB (dget ds 11).toB (dget ds 12).toI (dget ds 13).toB (dget ds 14).toB (dget ds 15).toB (dget ds 16).toB (dget ds 17).toB (dget ds 18).toI (dget ds 19).toB (dget ds 20).toB (dget ds 21).toB (dget ds 22).toB (dget ds 23).toB (dget ds 24).toI (dget ds 25).toB (dget ds 26).toB (dget ds 27).toB (dget ds 28).toB (dget ds 29).toB (dget ds 30).toI (dget ds 31).toB (dget ds 32).toB (dget ds 33).toB (dget ds 34).toB (dget ds 35).toB (dget ds 36).toI (dget ds 37).toB (dget ds 38).toB (dget ds 39).toB (dget ds 40).toB (dget ds 41).toB (dget ds 42).toI (dget ds 43).toB (dget ds 44).toB (dget ds 45).toB (dget ds 46).toB (dget ds 47).toB (dget ds 48).toI (dget ds 49).toB (dget ds 50).toB (dget ds 51).toB (dget ds 52).toB (dget ds 53).toB (dget ds 54).toI (dget ds 55).toI (dget ds 56).toI (dget ds 57).toB), .b (r10_53 (dget ds 0).toI (dget ds 1).toB (dget ds 2).toB (dget ds 3).toB (dget ds 4).toB (dget ds 5).toB (dget ds 6).toI (dget ds 7).toB (dget ds 8).toB (dget ds 9).toB (dget ds 10).toB (dget ds 11).toB (dget ds 12).toI (dget ds 13).toB (dget ds 14).toB (dget ds 15).toB (dget ds 16).toB (dget ds 17).toB (dget ds 18).toI (dget ds 19).toB (dget ds 20).toB (dget ds 21).toB (dget ds 22).toB (dget ds 23).toB (dget ds 24).toI (dget ds 25).toB (dget ds 26).toB (dget ds 27).toB (dget ds 28).toB (dget ds 29).toB (dget ds 30).toI (dget ds 31).toB (dget ds 32).toB (dget ds 33).toB (dget ds 34).toB (dget ds 35).toB (dget ds 36).toI (dget ds 37).toB (dget ds 38).toB (dget ds 39).toB (dget ds 40).toB (dget ds 41).toB (dget ds 42).toI (dget ds 43).toB (dget ds 44).toB (dget ds 45).toB (dget ds 46).toB (dget ds 47).toB (dget ds 48).toI (dget ds 49).toB (dget ds 50).toB (dget ds 51).toB (dget ds 52).toB (dget ds 53).toB (dget ds 54).toI (dget ds 55).toI (dget ds 56).toI (dget ds 57).toB), .b (r10_54 (dget ds 0).toI (dget ds 1).toB (dget ds 2).toB (dget ds 3).toB (dget ds 4).toB (dget ds 5).toB (dget ds 6).toI (dget ds 7).toB (dget ds 8).toB (dget ds 9).toB (dget ds 10).toB (dget ds 11).toB (dget ds 12).toI (dget ds 13).toB (dget ds 14).toB (dget ds 15).toB (dget ds 16).toB (dget ds 17).toB (dget ds 18).toI (dget ds 19).toB (dget ds 20).toB (dget ds 21).toB (dget ds 22).toB (dget ds 23).toB (dget ds 24).toI (dget ds 25).toB (dget ds 26).toB (dget ds 27).toB (dget ds 28).toB (dget ds 29).toB (dget ds 30).toI (dget ds 31).toB (dget ds 32).toB (dget ds 33).toB (dget ds 34).toB (dget ds 35).toB (dget ds 36).toI (dget ds 37).toB (dget ds 38).toB (dget ds 39).toB (dget ds 40).toB (dget ds 41).toB (dget ds 42).toI (dget ds 43).toB (dget ds 44).toB (dget ds 45).toB (dget ds 46).toB (dget ds 47).toB (dget ds 48).toI (dget ds 49).toB (dget ds 50).toB (dget ds 51).toB (dget ds 52).toB (dget ds 53).toB (dget ds 54).toI (dget ds 55).toI (dget ds 56).toI (dget ds 57).toB), .i (r10_55 (dget ds 0).toI (dget ds 1).toB (dget ds 2).toB (dget ds 3).toB (dget ds 4).toB (dget ds 5).toB (dget ds 6).toI (dget ds 7).toB (dget ds 8).toB (dget ds 9).toB (dget ds 10).toB (dget ds 11).toB (dget ds 12).toI (dget ds 13).toB (dget ds 14).toB (dget ds 15).toB (dget ds 16).toB (dget ds 17).toB (dget ds 18).toI (dget ds 19).toB (dget ds 20).toB (dget ds 21).toB (dget ds 22).toB (dget ds 23).toB (dget ds 24).toI (dget ds 25).toB (dget ds 26).toB (dget ds 27).toB (dget ds 28).toB (dget ds 29).toB (dget ds 30).toI (dget ds 31).toB (dget ds 32).toB (dget ds 33).toB (dget ds 34).toB (dget ds 35).toB (dget ds 36).toI (dget ds 37).toB (dget ds 38).toB (dget ds 39).toB (dget ds 40).toB (dget ds 41).toB (dget ds 42).toI (dget ds 43).toB (dget ds 44).toB (dget ds 45).toB (dget ds 46).toB (dget ds 47).toB (dget ds 48).toI (dget ds 49).toB (dget ds 50).toB (dget ds 51).toB (dget ds 52).toB (dget ds 53).toB (dget ds 54).toI (dget ds 55).toI (dget ds 56).toI (dget ds 57).toB), .i (r10_56 (dget ds 0).toI (dget ds 1).toB (dget ds 2).toB (dget ds 3).toB (dget ds 4).toB (dget ds 5).toB (dget ds 6).toI (dget ds 7).toB (dget ds 8).toB (dget ds 9).toB (dget ds 10).toB (dget ds 11).toB (dget ds 12).toI (dget ds 13).toB (dget ds 14).toB (dget ds 15).toB (dget ds 16).toB (dget ds 17).toB (dget ds 18).toI (dget ds 19).toB (dget ds 20).toB (dget ds 21).toB (dget ds 22).toB (dget ds 23).toB (dget ds 24).toI (dget ds 25).toB (dget ds 26).toB (dget ds 27).toB (dget ds 28).toB (dget ds 29).toB (dget ds 30).toI (dget ds 31).toB (dget ds 32).toB (dget ds 33).toB (dget ds 34).toB (dget ds 35).toB (dget ds 36).toI (dget ds 37).toB (dget ds 38).toB (dget ds 39).toB (dget ds 40).toB (dget ds 41).toB (dget ds 42).toI (dget ds 43).toB (dget ds 44).toB (dget ds 45).toB (dget ds 46).toB (dget ds 47).toB (dget ds 48).toI (dget ds 49).toB (dget ds 50).toB (dget ds 51).toB (dget ds 52).toB (dget ds 53).toB (dget ds 54).toI (dget ds 55).toI (dget ds 56).toI (dget ds 57).toB)]
def S10 : Sigs := ⟨[(13, s13)], [], [], 1⟩
theorem ev10 : evFn Try.prog S10 2000 Try.f10 s10 = some o10 := by kernel_rfl

end Go.Proofs.Ythlbgkhbebffaaa
