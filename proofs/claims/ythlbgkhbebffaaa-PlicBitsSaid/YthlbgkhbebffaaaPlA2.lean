/- The functions of the statements, as lists of plain steps, each tied to the program's own text by the kernel (part 2). Written by the generator. -/
import Derived.Test.YthlbgkhbebffaaaPlA1
namespace Go.Proofs.Ythlbgkhbebffaaa
open Go Go.Sx
set_option maxRecDepth 100000

/-! (*tandem/plic.Plic).Pending -/
def s9 : Sig := ⟨[.s (.one (.p 0 (.c 0)))], [some (.c false [some (.i .i64 (.h 0)), some (.b (.h 1)), some (.b (.h 2)), some (.b (.h 3)), some (.b (.h 4)), some (.b (.h 5)), some (.i .i64 (.h 6)), some (.b (.h 7)), some (.b (.h 8)), some (.b (.h 9)), some (.b (.h 10)), some (.b (.h 11)), some (.i .i64 (.h 12)), some (.b (.h 13)), some (.b (.h 14)), some (.b (.h 15)), some (.b (.h 16)), some (.b (.h 17)), some (.i .i64 (.h 18)), some (.b (.h 19)), some (.b (.h 20)), some (.b (.h 21)), some (.b (.h 22)), some (.b (.h 23)), some (.i .i64 (.h 24)), some (.b (.h 25)), some (.b (.h 26)), some (.b (.h 27)), some (.b (.h 28)), some (.b (.h 29)), some (.i .i64 (.h 30)), some (.b (.h 31)), some (.b (.h 32)), some (.b (.h 33)), some (.b (.h 34)), some (.b (.h 35)), some (.i .i64 (.h 36)), some (.b (.h 37)), some (.b (.h 38)), some (.b (.h 39)), some (.b (.h 40)), some (.b (.h 41)), some (.i .i64 (.h 42)), some (.b (.h 43)), some (.b (.h 44)), some (.b (.h 45)), some (.b (.h 46)), some (.b (.h 47)), some (.i .i64 (.h 48)), some (.b (.h 49)), some (.b (.h 50)), some (.b (.h 51)), some (.b (.h 52)), some (.b (.h 53)), some (.i .i64 (.h 54)), some (.i .i64 (.h 55))])], [.i, .b, .b, .b, .b, .b, .i, .b, .b, .b, .b, .b, .i, .b, .b, .b, .b, .b, .i, .b, .b, .b, .b, .b, .i, .b, .b, .b, .b, .b, .i, .b, .b, .b, .b, .b, .i, .b, .b, .b, .b, .b, .i, .b, .b, .b, .b, .b, .i, .b, .b, .b, .b, .b, .i, .i], .s (.one (.i .u64 (.h 0))), [], [.i], true⟩
def o9 : Out := ⟨[(56, .call 14 (idsFrom 0 56 ++ [.z 0]) 0), (57, .call 14 (idsFrom 0 56 ++ [.z 0]) 1), (58, .geq (.r 57) (.z 0)), (59, .lss (.r 57) (.z 9)), (60, .seli [.r 0, .r 6, .r 12, .r 18, .r 24, .r 30, .r 36, .r 42, .r 48] (.r 57)), (61, .gtr (.r 60) (.r 54)), (62, .itei (.r 61) (.z 2048) (.z 0)), (63, .call 14 (idsFrom 0 56 ++ [.z 1]) 0), (64, .call 14 (idsFrom 0 56 ++ [.z 1]) 1), (65, .geq (.r 64) (.z 0)), (66, .lss (.r 64) (.z 9)), (67, .seli [.r 0, .r 6, .r 12, .r 18, .r 24, .r 30, .r 36, .r 42, .r 48] (.r 64)), (68, .gtr (.r 67) (.r 55)), (69, .lor .u64 (.r 62) (.z 512)), (70, .itei (.r 68) (.r 69) (.r 62))],
  [⟨[], .r 56⟩, ⟨[], .r 58⟩, ⟨[], .r 59⟩, ⟨[], .r 63⟩, ⟨[], .r 65⟩, ⟨[], .r 66⟩],
  [],
  [.r 70]⟩
noncomputable def p9 (x0 : Int) (x6 : Int) (x8 : Bool) (x10 : Bool) (x11 : Bool) (x12 : Int) (x14 : Bool) (x16 : Bool) (x17 : Bool) (x18 : Int) (x20 : Bool) (x22 : Bool) (x23 : Bool) (x24 : Int) (x26 : Bool) (x28 : Bool) (x29 : Bool) (x30 : Int) (x32 : Bool) (x34 : Bool) (x35 : Bool) (x36 : Int) (x38 : Bool) (x40 : Bool) (x41 : Bool) (x42 : Int) (x44 : Bool) (x46 : Bool) (x47 : Bool) (x48 : Int) (x50 : Bool) (x52 : Bool) (x53 : Bool) : Bool :=
  let x56 := p14 x0 x6 x8 x10 x11 x12 x14 x16 x17 x18 x20 x22 x23 x24 x26 x28 x29 x30 x32 x34 x35 x36 x38 x40 x41 x42 x44 x46 x47 x48 x50 x52 x53 0
  let x57 := r14_0 x0 x6 x8 x10 x11 x12 x14 x16 x17 x18 x20 x22 x23 x24 x26 x28 x29 x30 x32 x34 x35 x36 x38 x40 x41 x42 x44 x46 x47 x48 x50 x52 x53 0
  let x58 := decide (x57 ≥ 0)
  let x59 := decide (x57 < 9)
  let x63 := p14 x0 x6 x8 x10 x11 x12 x14 x16 x17 x18 x20 x22 x23 x24 x26 x28 x29 x30 x32 x34 x35 x36 x38 x40 x41 x42 x44 x46 x47 x48 x50 x52 x53 1
  let x64 := r14_0 x0 x6 x8 x10 x11 x12 x14 x16 x17 x18 x20 x22 x23 x24 x26 x28 x29 x30 x32 x34 x35 x36 x38 x40 x41 x42 x44 x46 x47 x48 x50 x52 x53 1
  let x65 := decide (x64 ≥ 0)
  let x66 := decide (x64 < 9)
  [ow [] x56, ow [] x58, ow [] x59, ow [] x63, ow [] x65, ow [] x66].all id
noncomputable def r9_0 (x0 : Int) (x6 : Int) (x8 : Bool) (x10 : Bool) (x11 : Bool) (x12 : Int) (x14 : Bool) (x16 : Bool) (x17 : Bool) (x18 : Int) (x20 : Bool) (x22 : Bool) (x23 : Bool) (x24 : Int) (x26 : Bool) (x28 : Bool) (x29 : Bool) (x30 : Int) (x32 : Bool) (x34 : Bool) (x35 : Bool) (x36 : Int) (x38 : Bool) (x40 : Bool) (x41 : Bool) (x42 : Int) (x44 : Bool) (x46 : Bool) (x47 : Bool) (x48 : Int) (x50 : Bool) (x52 : Bool) (x53 : Bool) (x54 : Int) (x55 : Int) : Int :=
  let x57 := r14_0 x0 x6 x8 x10 x11 x12 x14 x16 x17 x18 x20 x22 x23 x24 x26 x28 x29 x30 x32 x34 x35 x36 x38 x40 x41 x42 x44 x46 x47 x48 x50 x52 x53 0
  let x60 := [x0, x6, x12, x18, x24, x30, x36, x42, x48].getD (Int.toNat x57) 0
  let x61 := decide (x60 > x54)
  let x62 := bif x61 then 2048 else 0
  let x64 := r14_0 x0 x6 x8 x10 x11 x12 x14 x16 x17 x18 x20 x22 x23 x24 x26 x28 x29 x30 x32 x34 x35 x36 x38 x40 x41 x42 x44 x46 x47 x48 x50 x52 x53 1
  let x67 := [x0, x6, x12, x18, x24, x30, x36, x42, x48].getD (Int.toNat x64) 0
  let x68 := decide (x67 > x55)
  let x69 := ilor .u64 x62 512
  let x70 := bif x68 then x69 else x62
  x70
noncomputable def g9 (ds : List DV) : List DV := [.b (p9 (dget ds 0).toI (dget ds 6).toI (dget ds 8).toB (dget ds 10).toB (dget ds 11).toB (dget ds 12).toI (dget ds 14).toB (dget ds 16).toB (dget ds 17).toB (dget ds 18).toI (dget ds 20).toB (dget ds 22).toB (dget ds 23).toB (dget ds 24).toI (dget ds 26).toB (dget ds 28).toB (dget ds 29).toB (dget ds 30).toI (dget ds 32).toB (dget ds 34).toB (dget ds 35).toB (dget ds 36).toI (dget ds 38).toB (dget ds 40).toB (dget ds 41).toB (dget ds 42).toI (dget ds 44).toB (dget ds 46).toB (dget ds 47).toB (dget ds 48).toI (dget ds 50).toB (dget ds 52).toB (dget ds 53).toB), .i (r9_0 (dget ds 0).toI (dget ds 6).toI (dget ds 8).toB (dget ds 10).toB (dget ds 11).toB (dget ds 12).toI (dget ds 14).toB (dget ds 16).toB (dget ds 17).toB (dget ds 18).toI (dget ds 20).toB (dget ds 22).toB (dget ds 23).toB (dget ds 24).toI (dget ds 26).toB (dget ds 28).toB (dget ds 29).toB (dget ds 30).toI (dget ds 32).toB (dget ds 34).toB (dget ds 35).toB (dget ds 36).toI (dget ds 38).toB (dget ds 40).toB (dget ds 41).toB (dget ds 42).toI (dget ds 44).toB (dget ds 46).toB (dget ds 47).toB (dget ds 48).toI (dget ds 50).toB (dget ds 52).toB (dget ds 53).toB (dget ds 54).toI (dget ds 55).toI)]
def S9 : Sigs := ⟨[(14, s14)], [], [], 1⟩
theorem ev9 : evFn Try.prog S9 2000 Try.f9 s9 = some o9 := by kernel_rfl

/-! (*tandem/plic.Plic).Read -/
def s8 : Sig := ⟨[.s (.one (.p 0 (.c 0))), .s (.one (.i .u64 (.h 56))), .s (.one (.i .i64 (.h 57)))], [some (.c true [some (.i .i64 (.h 0)), some (.b (.h 1)), some (.b (.h 2)), some (.b (.h 3)), some (.b (.h 4)), some (.b (.h 5)), some (.i .i64 (.h 6)), some (.b (.h 7)), some (.b (.h 8)), some (.b (.h 9)), some (.b (.h 10)), some (.b (.h 11)), some (.i .i64 (.h 12)), some (.b (.h 13)), some (.b (.h 14)), some (.b (.h 15)), some (.b (.h 16)), some (.b (.h 17)), some (.i .i64 (.h 18)), some (.b (.h 19)), some (.b (.h 20)), some (.b (.h 21)), some (.b (.h 22)), some (.b (.h 23)), some (.i .i64 (.h 24)), some (.b (.h 25)), some (.b (.h 26)), some (.b (.h 27)), some (.b (.h 28)), some (.b (.h 29)), some (.i .i64 (.h 30)), some (.b (.h 31)), some (.b (.h 32)), some (.b (.h 33)), some (.b (.h 34)), some (.b (.h 35)), some (.i .i64 (.h 36)), some (.b (.h 37)), some (.b (.h 38)), some (.b (.h 39)), some (.b (.h 40)), some (.b (.h 41)), some (.i .i64 (.h 42)), some (.b (.h 43)), some (.b (.h 44)), some (.b (.h 45)), some (.b (.h 46)), some (.b (.h 47)), some (.i .i64 (.h 48)), some (.b (.h 49)), some (.b (.h 50)), some (.b (.h 51)), some (.b (.h 52)), some (.b (.h 53)), some (.i .i64 (.h 54)), some (.i .i64 (.h 55))])], [.i, .b, .b, .b, .b, .b, .i, .b, .b, .b, .b, .b, .i, .b, .b, .b, .b, .b, .i, .b, .b, .b, .b, .b, .i, .b, .b, .b, .b, .b, .i, .b, .b, .b, .b, .b, .i, .b, .b, .b, .b, .b, .i, .b, .b, .b, .b, .b, .i, .b, .b, .b, .b, .b, .i, .i, .i, .i], .t [.one (.i .u64 (.h 0)), .one (.b (.h 1))], [some (.c true [some (.i .i64 (.h 2)), some (.b (.h 3)), some (.b (.h 4)), some (.b (.h 5)), some (.b (.h 6)), some (.b (.h 7)), some (.i .i64 (.h 8)), some (.b (.h 9)), some (.b (.h 10)), some (.b (.h 11)), some (.b (.h 12)), some (.b (.h 13)), some (.i .i64 (.h 14)), some (.b (.h 15)), some (.b (.h 16)), some (.b (.h 17)), some (.b (.h 18)), some (.b (.h 19)), some (.i .i64 (.h 20)), some (.b (.h 21)), some (.b (.h 22)), some (.b (.h 23)), some (.b (.h 24)), some (.b (.h 25)), some (.i .i64 (.h 26)), some (.b (.h 27)), some (.b (.h 28)), some (.b (.h 29)), some (.b (.h 30)), some (.b (.h 31)), some (.i .i64 (.h 32)), some (.b (.h 33)), some (.b (.h 34)), some (.b (.h 35)), some (.b (.h 36)), some (.b (.h 37)), some (.i .i64 (.h 38)), some (.b (.h 39)), some (.b (.h 40)), some (.b (.h 41)), some (.b (.h 42)), some (.b (.h 43)), some (.i .i64 (.h 44)), some (.b (.h 45)), some (.b (.h 46)), some (.b (.h 47)), some (.b (.h 48)), some (.b (.h 49)), some (.i .i64 (.h 50)), some (.b (.h 51)), some (.b (.h 52)), some (.b (.h 53)), some (.b (.h 54)), some (.b (.h 55)), some (.i .i64 (.h 56)), some (.i .i64 (.h 57))])], [.i, .b, .i, .b, .b, .b, .b, .b, .i, .b, .b, .b, .b, .b, .i, .b, .b, .b, .b, .b, .i, .b, .b, .b, .b, .b, .i, .b, .b, .b, .b, .b, .i, .b, .b, .b, .b, .b, .i, .b, .b, .b, .b, .b, .i, .b, .b, .b, .b, .b, .i, .b, .b, .b, .b, .b, .i, .i], true⟩
def o8 : Out := ⟨[(58, .call 12 [.r 56, .r 57] 0), (59, .call 12 [.r 56, .r 57] 1), (60, .eql (.r 58) (.z 0)), (61, .eql (.r 58) (.z 1)), (62, .geq (.r 59) (.z 0)), (63, .lss (.r 59) (.z 9)), (64, .seli [.r 0, .r 6, .r 12, .r 18, .r 24, .r 30, .r 36, .r 42, .r 48] (.r 59)), (65, .conv .u64 (.r 64)), (66, .eql (.r 58) (.z 2)), (67, .itei (.r 2) (.z 1) (.z 0)), (68, .lor .u64 (.r 67) (.z 2)), (69, .itei (.r 8) (.r 68) (.r 67)), (70, .lor .u64 (.r 69) (.z 4)), (71, .itei (.r 14) (.r 70) (.r 69)), (72, .lor .u64 (.r 71) (.z 8)), (73, .itei (.r 20) (.r 72) (.r 71)), (74, .lor .u64 (.r 73) (.z 16)), (75, .itei (.r 26) (.r 74) (.r 73)), (76, .lor .u64 (.r 75) (.z 32)), (77, .itei (.r 32) (.r 76) (.r 75)), (78, .lor .u64 (.r 77) (.z 64)), (79, .itei (.r 38) (.r 78) (.r 77)), (80, .lor .u64 (.r 79) (.z 128)), (81, .itei (.r 44) (.r 80) (.r 79)), (82, .lor .u64 (.r 81) (.z 256)), (83, .itei (.r 50) (.r 82) (.r 81)), (84, .eql (.r 58) (.z 3)), (85, .geq (.r 59) (.z 0)), (86, .lss (.r 59) (.z 2)), (87, .selb [.r 4, .r 5] (.r 59)), (88, .itei (.r 87) (.z 1) (.z 0)), (89, .geq (.r 59) (.z 0)), (90, .lss (.r 59) (.z 2)), (91, .selb [.r 10, .r 11] (.r 59)), (92, .lor .u64 (.r 88) (.z 2)), (93, .itei (.r 91) (.r 92) (.r 88)), (94, .geq (.r 59) (.z 0)), (95, .lss (.r 59) (.z 2)), (96, .selb [.r 16, .r 17] (.r 59)), (97, .lor .u64 (.r 93) (.z 4)), (98, .itei (.r 96) (.r 97) (.r 93)), (99, .geq (.r 59) (.z 0)), (100, .lss (.r 59) (.z 2)), (101, .selb [.r 22, .r 23] (.r 59)), (102, .lor .u64 (.r 98) (.z 8)), (103, .itei (.r 101) (.r 102) (.r 98)), (104, .geq (.r 59) (.z 0)), (105, .lss (.r 59) (.z 2)), (106, .selb [.r 28, .r 29] (.r 59)), (107, .lor .u64 (.r 103) (.z 16)), (108, .itei (.r 106) (.r 107) (.r 103)), (109, .geq (.r 59) (.z 0)), (110, .lss (.r 59) (.z 2)), (111, .selb [.r 34, .r 35] (.r 59)), (112, .lor .u64 (.r 108) (.z 32)), (113, .itei (.r 111) (.r 112) (.r 108)), (114, .geq (.r 59) (.z 0)), (115, .lss (.r 59) (.z 2)), (116, .selb [.r 40, .r 41] (.r 59)), (117, .lor .u64 (.r 113) (.z 64)), (118, .itei (.r 116) (.r 117) (.r 113)), (119, .geq (.r 59) (.z 0)), (120, .lss (.r 59) (.z 2)), (121, .selb [.r 46, .r 47] (.r 59)), (122, .lor .u64 (.r 118) (.z 128)), (123, .itei (.r 121) (.r 122) (.r 118)), (124, .geq (.r 59) (.z 0)), (125, .lss (.r 59) (.z 2)), (126, .selb [.r 52, .r 53] (.r 59)), (127, .lor .u64 (.r 123) (.z 256)), (128, .itei (.r 126) (.r 127) (.r 123)), (129, .eql (.r 58) (.z 4)), (130, .geq (.r 59) (.z 0)), (131, .lss (.r 59) (.z 2)), (132, .seli [.r 54, .r 55] (.r 59)), (133, .conv .u64 (.r 132)), (134, .eql (.r 58) (.z 5)), (135, .call 14 (idsFrom 0 56 ++ [.r 59]) 0), (136, .call 14 (idsFrom 0 56 ++ [.r 59]) 1), (137, .gtr (.r 136) (.z 0)), (138, .geq (.r 136) (.z 0)), (139, .lss (.r 136) (.z 9)), (140, .geq (.r 136) (.z 0)), (141, .lss (.r 136) (.z 9)), (142, .eql (.r 136) (.z 0)), (143, .iteb (.r 142) (.t false) (.r 2)), (144, .eql (.r 136) (.z 1)), (145, .iteb (.r 144) (.t false) (.r 8)), (146, .eql (.r 136) (.z 2)), (147, .iteb (.r 146) (.t false) (.r 14)), (148, .eql (.r 136) (.z 3)), (149, .iteb (.r 148) (.t false) (.r 20)), (150, .eql (.r 136) (.z 4)), (151, .iteb (.r 150) (.t false) (.r 26)), (152, .eql (.r 136) (.z 5)), (153, .iteb (.r 152) (.t false) (.r 32)), (154, .eql (.r 136) (.z 6)), (155, .iteb (.r 154) (.t false) (.r 38)), (156, .eql (.r 136) (.z 7)), (157, .iteb (.r 156) (.t false) (.r 44)), (158, .eql (.r 136) (.z 8)), (159, .iteb (.r 158) (.t false) (.r 50)), (160, .eql (.r 136) (.z 0)), (161, .or (.r 160) (.r 3)), (162, .eql (.r 136) (.z 1)), (163, .or (.r 162) (.r 9)), (164, .eql (.r 136) (.z 2)), (165, .or (.r 164) (.r 15)), (166, .eql (.r 136) (.z 3)), (167, .or (.r 166) (.r 21)), (168, .eql (.r 136) (.z 4)), (169, .or (.r 168) (.r 27)), (170, .eql (.r 136) (.z 5)), (171, .or (.r 170) (.r 33)), (172, .eql (.r 136) (.z 6)), (173, .or (.r 172) (.r 39)), (174, .eql (.r 136) (.z 7)), (175, .or (.r 174) (.r 45)), (176, .eql (.r 136) (.z 8)), (177, .or (.r 176) (.r 51)), (178, .iteb (.r 137) (.r 143) (.r 2)), (179, .iteb (.r 137) (.r 161) (.r 3)), (180, .iteb (.r 137) (.r 145) (.r 8)), (181, .iteb (.r 137) (.r 163) (.r 9)), (182, .iteb (.r 137) (.r 147) (.r 14)), (183, .iteb (.r 137) (.r 165) (.r 15)), (184, .iteb (.r 137) (.r 149) (.r 20)), (185, .iteb (.r 137) (.r 167) (.r 21)), (186, .iteb (.r 137) (.r 151) (.r 26)), (187, .iteb (.r 137) (.r 169) (.r 27)), (188, .iteb (.r 137) (.r 153) (.r 32)), (189, .iteb (.r 137) (.r 171) (.r 33)), (190, .iteb (.r 137) (.r 155) (.r 38)), (191, .iteb (.r 137) (.r 173) (.r 39)), (192, .iteb (.r 137) (.r 157) (.r 44)), (193, .iteb (.r 137) (.r 175) (.r 45)), (194, .iteb (.r 137) (.r 159) (.r 50)), (195, .iteb (.r 137) (.r 177) (.r 51)), (196, .conv .u64 (.r 136)), (197, .not (.r 60)), (198, .itei (.r 134) (.r 196) (.z 0)), (199, .iteb (.r 134) (.r 178) (.r 2)), (200, .iteb (.r 134) (.r 179) (.r 3)), (201, .iteb (.r 134) (.r 180) (.r 8)), (202, .iteb (.r 134) (.r 181) (.r 9)), (203, .iteb (.r 134) (.r 182) (.r 14)), (204, .iteb (.r 134) (.r 183) (.r 15)), (205, .iteb (.r 134) (.r 184) (.r 20)), (206, .iteb (.r 134) (.r 185) (.r 21)), (207, .iteb (.r 134) (.r 186) (.r 26)), (208, .iteb (.r 134) (.r 187) (.r 27)), (209, .iteb (.r 134) (.r 188) (.r 32)), (210, .iteb (.r 134) (.r 189) (.r 33)), (211, .iteb (.r 134) (.r 190) (.r 38)), (212, .iteb (.r 134) (.r 191) (.r 39)), (213, .iteb (.r 134) (.r 192) (.r 44)), (214, .iteb (.r 134) (.r 193) (.r 45)), (215, .iteb (.r 134) (.r 194) (.r 50)), (216, .iteb (.r 134) (.r 195) (.r 51)), (217, .itei (.r 129) (.r 133) (.r 198)), (218, .iteb (.r 129) (.r 2) (.r 199)), (219, .iteb (.r 129) (.r 3) (.r 200)), (220, .iteb (.r 129) (.r 8) (.r 201)), (221, .iteb (.r 129) (.r 9) (.r 202)), (222, .iteb (.r 129) (.r 14) (.r 203)), (223, .iteb (.r 129) (.r 15) (.r 204)), (224, .iteb (.r 129) (.r 20) (.r 205)), (225, .iteb (.r 129) (.r 21) (.r 206)), (226, .iteb (.r 129) (.r 26) (.r 207)), (227, .iteb (.r 129) (.r 27) (.r 208)), (228, .iteb (.r 129) (.r 32) (.r 209)), (229, .iteb (.r 129) (.r 33) (.r 210)), (230, .iteb (.r 129) (.r 38) (.r 211)), (231, .iteb (.r 129) (.r 39) (.r 212)), (232, .iteb (.r 129) (.r 44) (.r 213)), (233, .iteb (.r 129) (.r 45) (.r 214)), (234, .iteb (.r 129) (.r 50) (.r 215)), (235, .iteb (.r 129) (.r 51) (.r 216)), (236, .itei (.r 84) (.r 128) (.r 217)), (237, .iteb (.r 84) (.r 2) (.r 218)), (238, .iteb (.r 84) (.r 3) (.r 219)), (239, .iteb (.r 84) (.r 8) (.r 220)), (240, .iteb (.r 84) (.r 9) (.r 221)), (241, .iteb (.r 84) (.r 14) (.r 222)), (242, .iteb (.r 84) (.r 15) (.r 223)), (243, .iteb (.r 84) (.r 20) (.r 224)), (244, .iteb (.r 84) (.r 21) (.r 225)), (245, .iteb (.r 84) (.r 26) (.r 226)), (246, .iteb (.r 84) (.r 27) (.r 227)), (247, .iteb (.r 84) (.r 32) (.r 228)), (248, .iteb (.r 84) (.r 33) (.r 229)), (249, .iteb (.r 84) (.r 38) (.r 230)), (250, .iteb (.r 84) (.r 39) (.r 231)), (251, .iteb (.r 84) (.r 44) (.r 232)), (252, .iteb (.r 84) (.r 45) (.r 233)), (253, .iteb (.r 84) (.r 50) (.r 234)), (254, .iteb (.r 84) (.r 51) (.r 235)), (255, .itei (.r 66) (.r 83) (.r 236)), (256, .iteb (.r 66) (.r 2) (.r 237)), (257, .iteb (.r 66) (.r 3) (.r 238)), (258, .iteb (.r 66) (.r 8) (.r 239)), (259, .iteb (.r 66) (.r 9) (.r 240)), (260, .iteb (.r 66) (.r 14) (.r 241)), (261, .iteb (.r 66) (.r 15) (.r 242)), (262, .iteb (.r 66) (.r 20) (.r 243)), (263, .iteb (.r 66) (.r 21) (.r 244)), (264, .iteb (.r 66) (.r 26) (.r 245)), (265, .iteb (.r 66) (.r 27) (.r 246)), (266, .iteb (.r 66) (.r 32) (.r 247)), (267, .iteb (.r 66) (.r 33) (.r 248)), (268, .iteb (.r 66) (.r 38) (.r 249)), (269, .iteb (.r 66) (.r 39) (.r 250)), (270, .iteb (.r 66) (.r 44) (.r 251)), (271, .iteb (.r 66) (.r 45) (.r 252)), (272, .iteb (.r 66) (.r 50) (.r 253)), (273, .iteb (.r 66) (.r 51) (.r 254)), (274, .itei (.r 61) (.r 65) (.r 255)), (275, .iteb (.r 61) (.r 2) (.r 256)), (276, .iteb (.r 61) (.r 3) (.r 257)), (277, .iteb (.r 61) (.r 8) (.r 258)), (278, .iteb (.r 61) (.r 9) (.r 259)), (279, .iteb (.r 61) (.r 14) (.r 260)), (280, .iteb (.r 61) (.r 15) (.r 261)), (281, .iteb (.r 61) (.r 20) (.r 262)), (282, .iteb (.r 61) (.r 21) (.r 263)), (283, .iteb (.r 61) (.r 26) (.r 264)), (284, .iteb (.r 61) (.r 27) (.r 265)), (285, .iteb (.r 61) (.r 32) (.r 266)), (286, .iteb (.r 61) (.r 33) (.r 267)), (287, .iteb (.r 61) (.r 38) (.r 268)), (288, .iteb (.r 61) (.r 39) (.r 269)), (289, .iteb (.r 61) (.r 44) (.r 270)), (290, .iteb (.r 61) (.r 45) (.r 271)), (291, .iteb (.r 61) (.r 50) (.r 272)), (292, .iteb (.r 61) (.r 51) (.r 273)), (293, .itei (.r 197) (.r 274) (.z 0)), (294, .iteb (.r 197) (.r 275) (.r 2)), (295, .iteb (.r 197) (.r 276) (.r 3)), (296, .iteb (.r 197) (.r 277) (.r 8)), (297, .iteb (.r 197) (.r 278) (.r 9)), (298, .iteb (.r 197) (.r 279) (.r 14)), (299, .iteb (.r 197) (.r 280) (.r 15)), (300, .iteb (.r 197) (.r 281) (.r 20)), (301, .iteb (.r 197) (.r 282) (.r 21)), (302, .iteb (.r 197) (.r 283) (.r 26)), (303, .iteb (.r 197) (.r 284) (.r 27)), (304, .iteb (.r 197) (.r 285) (.r 32)), (305, .iteb (.r 197) (.r 286) (.r 33)), (306, .iteb (.r 197) (.r 287) (.r 38)), (307, .iteb (.r 197) (.r 288) (.r 39)), (308, .iteb (.r 197) (.r 289) (.r 44)), (309, .iteb (.r 197) (.r 290) (.r 45)), (310, .iteb (.r 197) (.r 291) (.r 50)), (311, .iteb (.r 197) (.r 292) (.r 51))],
  [⟨[(.r 60, false), (.r 61, true)], .r 62⟩, ⟨[(.r 60, false), (.r 61, true)], .r 63⟩, ⟨[(.r 60, false), (.r 61, false), (.r 66, false), (.r 84, true)], .r 85⟩, ⟨[(.r 60, false), (.r 61, false), (.r 66, false), (.r 84, true)], .r 86⟩, ⟨[(.r 60, false), (.r 61, false), (.r 66, false), (.r 84, true)], .r 89⟩, ⟨[(.r 60, false), (.r 61, false), (.r 66, false), (.r 84, true)], .r 90⟩, ⟨[(.r 60, false), (.r 61, false), (.r 66, false), (.r 84, true)], .r 94⟩, ⟨[(.r 60, false), (.r 61, false), (.r 66, false), (.r 84, true)], .r 95⟩, ⟨[(.r 60, false), (.r 61, false), (.r 66, false), (.r 84, true)], .r 99⟩, ⟨[(.r 60, false), (.r 61, false), (.r 66, false), (.r 84, true)], .r 100⟩, ⟨[(.r 60, false), (.r 61, false), (.r 66, false), (.r 84, true)], .r 104⟩, ⟨[(.r 60, false), (.r 61, false), (.r 66, false), (.r 84, true)], .r 105⟩, ⟨[(.r 60, false), (.r 61, false), (.r 66, false), (.r 84, true)], .r 109⟩, ⟨[(.r 60, false), (.r 61, false), (.r 66, false), (.r 84, true)], .r 110⟩, ⟨[(.r 60, false), (.r 61, false), (.r 66, false), (.r 84, true)], .r 114⟩, ⟨[(.r 60, false), (.r 61, false), (.r 66, false), (.r 84, true)], .r 115⟩, ⟨[(.r 60, false), (.r 61, false), (.r 66, false), (.r 84, true)], .r 119⟩, ⟨[(.r 60, false), (.r 61, false), (.r 66, false), (.r 84, true)], .r 120⟩, ⟨[(.r 60, false), (.r 61, false), (.r 66, false), (.r 84, true)], .r 124⟩, ⟨[(.r 60, false), (.r 61, false), (.r 66, false), (.r 84, true)], .r 125⟩, ⟨[(.r 60, false), (.r 61, false), (.r 66, false), (.r 84, false), (.r 129, true)], .r 130⟩, ⟨[(.r 60, false), (.r 61, false), (.r 66, false), (.r 84, false), (.r 129, true)], .r 131⟩, ⟨[(.r 60, false), (.r 61, false), (.r 66, false), (.r 84, false), (.r 129, false), (.r 134, true)], .r 135⟩, ⟨[(.r 60, false), (.r 61, false), (.r 66, false), (.r 84, false), (.r 129, false), (.r 134, true), (.r 137, true)], .r 138⟩, ⟨[(.r 60, false), (.r 61, false), (.r 66, false), (.r 84, false), (.r 129, false), (.r 134, true), (.r 137, true)], .r 139⟩, ⟨[(.r 60, false), (.r 61, false), (.r 66, false), (.r 84, false), (.r 129, false), (.r 134, true), (.r 137, true)], .r 140⟩, ⟨[(.r 60, false), (.r 61, false), (.r 66, false), (.r 84, false), (.r 129, false), (.r 134, true), (.r 137, true)], .r 141⟩],
  [],
  [.r 293, .r 197, .r 0, .r 1, .r 294, .r 295, .r 4, .r 5, .r 6, .r 7, .r 296, .r 297, .r 10, .r 11, .r 12, .r 13, .r 298, .r 299, .r 16, .r 17, .r 18, .r 19, .r 300, .r 301, .r 22, .r 23, .r 24, .r 25, .r 302, .r 303, .r 28, .r 29, .r 30, .r 31, .r 304, .r 305, .r 34, .r 35, .r 36, .r 37, .r 306, .r 307, .r 40, .r 41, .r 42, .r 43, .r 308, .r 309, .r 46, .r 47, .r 48, .r 49, .r 310, .r 311, .r 52, .r 53, .r 54, .r 55]⟩
noncomputable def p8 (x0 : Int) (x6 : Int) (x8 : Bool) (x10 : Bool) (x11 : Bool) (x12 : Int) (x14 : Bool) (x16 : Bool) (x17 : Bool) (x18 : Int) (x20 : Bool) (x22 : Bool) (x23 : Bool) (x24 : Int) (x26 : Bool) (x28 : Bool) (x29 : Bool) (x30 : Int) (x32 : Bool) (x34 : Bool) (x35 : Bool) (x36 : Int) (x38 : Bool) (x40 : Bool) (x41 : Bool) (x42 : Int) (x44 : Bool) (x46 : Bool) (x47 : Bool) (x48 : Int) (x50 : Bool) (x52 : Bool) (x53 : Bool) (x56 : Int) (x57 : Int) : Bool :=
  let x58 := r12_0 x56 x57
  let x59 := r12_1 x56 x57
  let x60 := x58 == 0
  let x61 := x58 == 1
  let x62 := decide (x59 ≥ 0)
  let x63 := decide (x59 < 9)
  let x66 := x58 == 2
  let x84 := x58 == 3
  let x85 := decide (x59 ≥ 0)
  let x86 := decide (x59 < 2)
  let x89 := decide (x59 ≥ 0)
  let x90 := decide (x59 < 2)
  let x94 := decide (x59 ≥ 0)
  let x95 := decide (x59 < 2)
  let x99 := decide (x59 ≥ 0)
  let x100 := decide (x59 < 2)
  let x104 := decide (x59 ≥ 0)
  let x105 := decide (x59 < 2)
  let x109 := decide (x59 ≥ 0)
  let x110 := decide (x59 < 2)
  let x114 := decide (x59 ≥ 0)
  let x115 := decide (x59 < 2)
  let x119 := decide (x59 ≥ 0)
  let x120 := decide (x59 < 2)
  let x124 := decide (x59 ≥ 0)
  let x125 := decide (x59 < 2)
  let x129 := x58 == 4
  let x130 := decide (x59 ≥ 0)
  let x131 := decide (x59 < 2)
  let x134 := x58 == 5
  let x135 := p14 x0 x6 x8 x10 x11 x12 x14 x16 x17 x18 x20 x22 x23 x24 x26 x28 x29 x30 x32 x34 x35 x36 x38 x40 x41 x42 x44 x46 x47 x48 x50 x52 x53 x59
  let x136 := r14_0 x0 x6 x8 x10 x11 x12 x14 x16 x17 x18 x20 x22 x23 x24 x26 x28 x29 x30 x32 x34 x35 x36 x38 x40 x41 x42 x44 x46 x47 x48 x50 x52 x53 x59
  let x137 := decide (x136 > 0)
  let x138 := decide (x136 ≥ 0)
  let x139 := decide (x136 < 9)
  let x140 := decide (x136 ≥ 0)
  let x141 := decide (x136 < 9)
  [ow [(x60, false), (x61, true)] x62, ow [(x60, false), (x61, true)] x63, ow [(x60, false), (x61, false), (x66, false), (x84, true)] x85, ow [(x60, false), (x61, false), (x66, false), (x84, true)] x86, ow [(x60, false), (x61, false), (x66, false), (x84, true)] x89, ow [(x60, false), (x61, false), (x66, false), (x84, true)] x90, ow [(x60, false), (x61, false), (x66, false), (x84, true)] x94, ow [(x60, false), (x61, false), (x66, false), (x84, true)] x95, ow [(x60, false), (x61, false), (x66, false), (x84, true)] x99, ow [(x60, false), (x61, false), (x66, false), (x84, true)] x100, ow [(x60, false), (x61, false), (x66, false), (x84, true)] x104, ow [(x60, false), (x61, false), (x66, false), (x84, true)] x105, ow [(x60, false), (x61, false), (x66, false), (x84, true)] x109, ow [(x60, false), (x61, false), (x66, false), (x84, true)] x110, ow [(x60, false), (x61, false), (x66, false), (x84, true)] x114, ow [(x60, false), (x61, false), (x66, false), (x84, true)] x115, ow [(x60, false), (x61, false), (x66, false), (x84, true)] x119, ow [(x60, false), (x61, false), (x66, false), (x84, true)] x120, ow [(x60, false), (x61, false), (x66, false), (x84, true)] x124, ow [(x60, false), (x61, false), (x66, false), (x84, true)] x125, ow [(x60, false), (x61, false), (x66, false), (x84, false), (x129, true)] x130, ow [(x60, false), (x61, false), (x66, false), (x84, false), (x129, true)] x131, ow [(x60, false), (x61, false), (x66, false), (x84, false), (x129, false), (x134, true)] x135, ow [(x60, false), (x61, false), (x66, false), (x84, false), (x129, false), (x134, true), (x137, true)] x138, ow [(x60, false), (x61, false), (x66, false), (x84, false), (x129, false), (x134, true), (x137, true)] x139, ow [(x60, false), (x61, false), (x66, false), (x84, false), (x129, false), (x134, true), (x137, true)] x140, ow [(x60, false), (x61, false), (x66, false), (x84, false), (x129, false), (x134, true), (x137, true)] x141].all id
noncomputable def r8_0 (x0 : Int) (x2 : Bool) (x4 : Bool) (x5 : Bool) (x6 : Int) (x8 : Bool) (x10 : Bool) (x11 : Bool) (x12 : Int) (x14 : Bool) (x16 : Bool) (x17 : Bool) (x18 : Int) (x20 : Bool) (x22 : Bool) (x23 : Bool) (x24 : Int) (x26 : Bool) (x28 : Bool) (x29 : Bool) (x30 : Int) (x32 : Bool) (x34 : Bool) (x35 : Bool) (x36 : Int) (x38 : Bool) (x40 : Bool) (x41 : Bool) (x42 : Int) (x44 : Bool) (x46 : Bool) (x47 : Bool) (x48 : Int) (x50 : Bool) (x52 : Bool) (x53 : Bool) (x54 : Int) (x55 : Int) (x56 : Int) (x57 : Int) : Int :=
  let x58 := r12_0 x56 x57
  let x59 := r12_1 x56 x57
  let x60 := x58 == 0
  let x61 := x58 == 1
  let x64 := [x0, x6, x12, x18, x24, x30, x36, x42, x48].getD (Int.toNat x59) 0
  let x65 := IntKind.wrap .u64 x64
  let x66 := x58 == 2
  let x67 := bif x2 then 1 else 0
  let x68 := ilor .u64 x67 2
  let x69 := bif x8 then x68 else x67
  let x70 := ilor .u64 x69 4
  let x71 := bif x14 then x70 else x69
  let x72 := ilor .u64 x71 8
  let x73 := bif x20 then x72 else x71
  let x74 := ilor .u64 x73 16
  let x75 := bif x26 then x74 else x73
  let x76 := ilor .u64 x75 32
  let x77 := bif x32 then x76 else x75
  let x78 := ilor .u64 x77 64
  let x79 := bif x38 then x78 else x77
  let x80 := ilor .u64 x79 128
  let x81 := bif x44 then x80 else x79
  let x82 := ilor .u64 x81 256
  let x83 := bif x50 then x82 else x81
  let x84 := x58 == 3
  let x87 := [x4, x5].getD (Int.toNat x59) false
  let x88 := bif x87 then 1 else 0
  let x91 := [x10, x11].getD (Int.toNat x59) false
  let x92 := ilor .u64 x88 2
  let x93 := bif x91 then x92 else x88
  let x96 := [x16, x17].getD (Int.toNat x59) false
  let x97 := ilor .u64 x93 4
  let x98 := bif x96 then x97 else x93
  let x101 := [x22, x23].getD (Int.toNat x59) false
  let x102 := ilor .u64 x98 8
  let x103 := bif x101 then x102 else x98
  let x106 := [x28, x29].getD (Int.toNat x59) false
  let x107 := ilor .u64 x103 16
  let x108 := bif x106 then x107 else x103
  let x111 := [x34, x35].getD (Int.toNat x59) false
  let x112 := ilor .u64 x108 32
  let x113 := bif x111 then x112 else x108
  let x116 := [x40, x41].getD (Int.toNat x59) false
  let x117 := ilor .u64 x113 64
  let x118 := bif x116 then x117 else x113
  let x121 := [x46, x47].getD (Int.toNat x59) false
  let x122 := ilor .u64 x118 128
  let x123 := bif x121 then x122 else x118
  let x126 := [x52, x53].getD (Int.toNat x59) false
  let x127 := ilor .u64 x123 256
  let x128 := bif x126 then x127 else x123
  let x129 := x58 == 4
  let x132 := [x54, x55].getD (Int.toNat x59) 0
  let x133 := IntKind.wrap .u64 x132
  let x134 := x58 == 5
  let x136 := r14_0 x0 x6 x8 x10 x11 x12 x14 x16 x17 x18 x20 x22 x23 x24 x26 x28 x29 x30 x32 x34 x35 x36 x38 x40 x41 x42 x44 x46 x47 x48 x50 x52 x53 x59
  let x196 := IntKind.wrap .u64 x136
  let x197 := !x60
  let x198 := bif x134 then x196 else 0
  let x217 := bif x129 then x133 else x198
  let x236 := bif x84 then x128 else x217
  let x255 := bif x66 then x83 else x236
  let x274 := bif x61 then x65 else x255
  let x293 := bif x197 then x274 else 0
  x293
noncomputable def r8_1 (x56 : Int) (x57 : Int) : Bool :=
  let x58 := r12_0 x56 x57
  let x60 := x58 == 0
  let x197 := !x60
  x197
noncomputable def r8_2 (x0 : Int) : Int :=
  x0
noncomputable def r8_3 (x1 : Bool) : Bool :=
  x1
noncomputable def r8_4 (x0 : Int) (x2 : Bool) (x6 : Int) (x8 : Bool) (x10 : Bool) (x11 : Bool) (x12 : Int) (x14 : Bool) (x16 : Bool) (x17 : Bool) (x18 : Int) (x20 : Bool) (x22 : Bool) (x23 : Bool) (x24 : Int) (x26 : Bool) (x28 : Bool) (x29 : Bool) (x30 : Int) (x32 : Bool) (x34 : Bool) (x35 : Bool) (x36 : Int) (x38 : Bool) (x40 : Bool) (x41 : Bool) (x42 : Int) (x44 : Bool) (x46 : Bool) (x47 : Bool) (x48 : Int) (x50 : Bool) (x52 : Bool) (x53 : Bool) (x56 : Int) (x57 : Int) : Bool :=
  let x58 := r12_0 x56 x57
  let x59 := r12_1 x56 x57
  let x60 := x58 == 0
  let x61 := x58 == 1
  let x66 := x58 == 2
  let x84 := x58 == 3
  let x129 := x58 == 4
  let x134 := x58 == 5
  let x136 := r14_0 x0 x6 x8 x10 x11 x12 x14 x16 x17 x18 x20 x22 x23 x24 x26 x28 x29 x30 x32 x34 x35 x36 x38 x40 x41 x42 x44 x46 x47 x48 x50 x52 x53 x59
  let x137 := decide (x136 > 0)
  let x142 := x136 == 0
  let x143 := bif x142 then false else x2
  let x178 := bif x137 then x143 else x2
  let x197 := !x60
  let x199 := bif x134 then x178 else x2
  let x218 := bif x129 then x2 else x199
  let x237 := bif x84 then x2 else x218
  let x256 := bif x66 then x2 else x237
  let x275 := bif x61 then x2 else x256
  let x294 := bif x197 then x275 else x2
  x294
noncomputable def r8_5 (x0 : Int) (x3 : Bool) (x6 : Int) (x8 : Bool) (x10 : Bool) (x11 : Bool) (x12 : Int) (x14 : Bool) (x16 : Bool) (x17 : Bool) (x18 : Int) (x20 : Bool) (x22 : Bool) (x23 : Bool) (x24 : Int) (x26 : Bool) (x28 : Bool) (x29 : Bool) (x30 : Int) (x32 : Bool) (x34 : Bool) (x35 : Bool) (x36 : Int) (x38 : Bool) (x40 : Bool) (x41 : Bool) (x42 : Int) (x44 : Bool) (x46 : Bool) (x47 : Bool) (x48 : Int) (x50 : Bool) (x52 : Bool) (x53 : Bool) (x56 : Int) (x57 : Int) : Bool :=
  let x58 := r12_0 x56 x57
  let x59 := r12_1 x56 x57
  let x60 := x58 == 0
  let x61 := x58 == 1
  let x66 := x58 == 2
  let x84 := x58 == 3
  let x129 := x58 == 4
  let x134 := x58 == 5
  let x136 := r14_0 x0 x6 x8 x10 x11 x12 x14 x16 x17 x18 x20 x22 x23 x24 x26 x28 x29 x30 x32 x34 x35 x36 x38 x40 x41 x42 x44 x46 x47 x48 x50 x52 x53 x59
  let x137 := decide (x136 > 0)
  let x160 := x136 == 0
  let x161 := x160 || x3
  let x179 := bif x137 then x161 else x3
  let x197 := !x60
  let x200 := bif x134 then x179 else x3
  let x219 := bif x129 then x3 else x200
  let x238 := bif x84 then x3 else x219
  let x257 := bif x66 then x3 else x238
  let x276 := bif x61 then x3 else x257
  let x295 := bif x197 then x276 else x3
  x295
noncomputable def r8_6 (x4 : Bool) : Bool :=
  x4
noncomputable def r8_7 (x5 : Bool) : Bool :=
  x5
noncomputable def r8_8 (x6 : Int) : Int :=
  x6
noncomputable def r8_9 (x7 : Bool) : Bool :=
  x7
noncomputable def r8_10 (x0 : Int) (x6 : Int) (x8 : Bool) (x10 : Bool) (x11 : Bool) (x12 : Int) (x14 : Bool) (x16 : Bool) (x17 : Bool) (x18 : Int) (x20 : Bool) (x22 : Bool) (x23 : Bool) (x24 : Int) (x26 : Bool) (x28 : Bool) (x29 : Bool) (x30 : Int) (x32 : Bool) (x34 : Bool) (x35 : Bool) (x36 : Int) (x38 : Bool) (x40 : Bool) (x41 : Bool) (x42 : Int) (x44 : Bool) (x46 : Bool) (x47 : Bool) (x48 : Int) (x50 : Bool) (x52 : Bool) (x53 : Bool) (x56 : Int) (x57 : Int) : Bool :=
  let x58 := r12_0 x56 x57
  let x59 := r12_1 x56 x57
  let x60 := x58 == 0
  let x61 := x58 == 1
  let x66 := x58 == 2
  let x84 := x58 == 3
  let x129 := x58 == 4
  let x134 := x58 == 5
  let x136 := r14_0 x0 x6 x8 x10 x11 x12 x14 x16 x17 x18 x20 x22 x23 x24 x26 x28 x29 x30 x32 x34 x35 x36 x38 x40 x41 x42 x44 x46 x47 x48 x50 x52 x53 x59
  let x137 := decide (x136 > 0)
  let x144 := x136 == 1
  let x145 := bif x144 then false else x8
  let x180 := bif x137 then x145 else x8
  let x197 := !x60
  let x201 := bif x134 then x180 else x8
  let x220 := bif x129 then x8 else x201
  let x239 := bif x84 then x8 else x220
  let x258 := bif x66 then x8 else x239
  let x277 := bif x61 then x8 else x258
  let x296 := bif x197 then x277 else x8
  x296
noncomputable def r8_11 (x0 : Int) (x6 : Int) (x8 : Bool) (x9 : Bool) (x10 : Bool) (x11 : Bool) (x12 : Int) (x14 : Bool) (x16 : Bool) (x17 : Bool) (x18 : Int) (x20 : Bool) (x22 : Bool) (x23 : Bool) (x24 : Int) (x26 : Bool) (x28 : Bool) (x29 : Bool) (x30 : Int) (x32 : Bool) (x34 : Bool) (x35 : Bool) (x36 : Int) (x38 : Bool) (x40 : Bool) (x41 : Bool) (x42 : Int) (x44 : Bool) (x46 : Bool) (x47 : Bool) (x48 : Int) (x50 : Bool) (x52 : Bool) (x53 : Bool) (x56 : Int) (x57 : Int) : Bool :=
  let x58 := r12_0 x56 x57
  let x59 := r12_1 x56 x57
  let x60 := x58 == 0
  let x61 := x58 == 1
  let x66 := x58 == 2
  let x84 := x58 == 3
  let x129 := x58 == 4
  let x134 := x58 == 5
  let x136 := r14_0 x0 x6 x8 x10 x11 x12 x14 x16 x17 x18 x20 x22 x23 x24 x26 x28 x29 x30 x32 x34 x35 x36 x38 x40 x41 x42 x44 x46 x47 x48 x50 x52 x53 x59
  let x137 := decide (x136 > 0)
  let x162 := x136 == 1
  let x163 := x162 || x9
  let x181 := bif x137 then x163 else x9
  let x197 := !x60
  let x202 := bif x134 then x181 else x9
  let x221 := bif x129 then x9 else x202
  let x240 := bif x84 then x9 else x221
  let x259 := bif x66 then x9 else x240
  let x278 := bif x61 then x9 else x259
  let x297 := bif x197 then x278 else x9
  x297
noncomputable def r8_12 (x10 : Bool) : Bool :=
  x10
noncomputable def r8_13 (x11 : Bool) : Bool :=
  x11
noncomputable def r8_14 (x12 : Int) : Int :=
  x12
noncomputable def r8_15 (x13 : Bool) : Bool :=
  x13
noncomputable def r8_16 (x0 : Int) (x6 : Int) (x8 : Bool) (x10 : Bool) (x11 : Bool) (x12 : Int) (x14 : Bool) (x16 : Bool) (x17 : Bool) (x18 : Int) (x20 : Bool) (x22 : Bool) (x23 : Bool) (x24 : Int) (x26 : Bool) (x28 : Bool) (x29 : Bool) (x30 : Int) (x32 : Bool) (x34 : Bool) (x35 : Bool) (x36 : Int) (x38 : Bool) (x40 : Bool) (x41 : Bool) (x42 : Int) (x44 : Bool) (x46 : Bool) (x47 : Bool) (x48 : Int) (x50 : Bool) (x52 : Bool) (x53 : Bool) (x56 : Int) (x57 : Int) : Bool :=
  let x58 := r12_0 x56 x57
  let x59 := r12_1 x56 x57
  let x60 := x58 == 0
  let x61 := x58 == 1
  let x66 := x58 == 2
  let x84 := x58 == 3
  let x129 := x58 == 4
  let x134 := x58 == 5
  let x136 := r14_0 x0 x6 x8 x10 x11 x12 x14 x16 x17 x18 x20 x22 x23 x24 x26 x28 x29 x30 x32 x34 x35 x36 x38 x40 x41 x42 x44 x46 x47 x48 x50 x52 x53 x59
  let x137 := decide (x136 > 0)
  let x146 := x136 == 2
  let x147 := bif x146 then false else x14
  let x182 := bif x137 then x147 else x14
  let x197 := !x60
  let x203 := bif x134 then x182 else x14
  let x222 := bif x129 then x14 else x203
  let x241 := bif x84 then x14 else x222
  let x260 := bif x66 then x14 else x241
  let x279 := bif x61 then x14 else x260
  let x298 := bif x197 then x279 else x14
  x298
noncomputable def r8_17 (x0 : Int) (x6 : Int) (x8 : Bool) (x10 : Bool) (x11 : Bool) (x12 : Int) (x14 : Bool) (x15 : Bool) (x16 : Bool) (x17 : Bool) (x18 : Int) (x20 : Bool) (x22 : Bool) (x23 : Bool) (x24 : Int) (x26 : Bool) (x28 : Bool) (x29 : Bool) (x30 : Int) (x32 : Bool) (x34 : Bool) (x35 : Bool) (x36 : Int) (x38 : Bool) (x40 : Bool) (x41 : Bool) (x42 : Int) (x44 : Bool) (x46 : Bool) (x47 : Bool) (x48 : Int) (x50 : Bool) (x52 : Bool) (x53 : Bool) (x56 : Int) (x57 : Int) : Bool :=
  let x58 := r12_0 x56 x57
  let x59 := r12_1 x56 x57
  let x60 := x58 == 0
  let x61 := x58 == 1
  let x66 := x58 == 2
  let x84 := x58 == 3
  let x129 := x58 == 4
  let x134 := x58 == 5
  let x136 := r14_0 x0 x6 x8 x10 x11 x12 x14 x16 x17 x18 x20 x22 x23 x24 x26 x28 x29 x30 x32 x34 x35 x36 x38 x40 x41 x42 x44 x46 x47 x48 x50 x52 x53 x59
  let x137 := decide (x136 > 0)
  let x164 := x136 == 2
  let x165 := x164 || x15
  let x183 := bif x137 then x165 else x15
  let x197 := !x60
  let x204 := bif x134 then x183 else x15
  let x223 := bif x129 then x15 else x204
  let x242 := bif x84 then x15 else x223
  let x261 := bif x66 then x15 else x242
  let x280 := bif x61 then x15 else x261
  let x299 := bif x197 then x280 else x15
  x299
noncomputable def r8_18 (x16 : Bool) : Bool :=
  x16
noncomputable def r8_19 (x17 : Bool) : Bool :=
  x17
noncomputable def r8_20 (x18 : Int) : Int :=
  x18
noncomputable def r8_21 (x19 : Bool) : Bool :=
  x19
noncomputable def r8_22 (x0 : Int) (x6 : Int) (x8 : Bool) (x10 : Bool) (x11 : Bool) (x12 : Int) (x14 : Bool) (x16 : Bool) (x17 : Bool) (x18 : Int) (x20 : Bool) (x22 : Bool) (x23 : Bool) (x24 : Int) (x26 : Bool) (x28 : Bool) (x29 : Bool) (x30 : Int) (x32 : Bool) (x34 : Bool) (x35 : Bool) (x36 : Int) (x38 : Bool) (x40 : Bool) (x41 : Bool) (x42 : Int) (x44 : Bool) (x46 : Bool) (x47 : Bool) (x48 : Int) (x50 : Bool) (x52 : Bool) (x53 : Bool) (x56 : Int) (x57 : Int) : Bool :=
  let x58 := r12_0 x56 x57
  let x59 := r12_1 x56 x57
  let x60 := x58 == 0
  let x61 := x58 == 1
  let x66 := x58 == 2
  let x84 := x58 == 3
  let x129 := x58 == 4
  let x134 := x58 == 5
  let x136 := r14_0 x0 x6 x8 x10 x11 x12 x14 x16 x17 x18 x20 x22 x23 x24 x26 x28 x29 x30 x32 x34 x35 x36 x38 x40 x41 x42 x44 x46 x47 x48 x50 x52 x53 x59
  let x137 := decide (x136 > 0)
  let x148 := x136 == 3
  let x149 := bif x148 then false else x20
  let x184 := bif x137 then x149 else x20
  let x197 := !x60
  let x205 := bif x134 then x184 else x20
  let x224 := bif x129 then x20 else x205
  let x243 := bif x84 then x20 else x224
  let x262 := bif x66 then x20 else x243
  let x281 := bif x61 then x20 else x262
  let x300 := bif x197 then x281 else x20
  x300
noncomputable def r8_23 (x0 : Int) (x6 : Int) (x8 : Bool) (x10 : Bool) (x11 : Bool) (x12 : Int) (x14 : Bool) (x16 : Bool) (x17 : Bool) (x18 : Int) (x20 : Bool) (x21 : Bool) (x22 : Bool) (x23 : Bool) (x24 : Int) (x26 : Bool) (x28 : Bool) (x29 : Bool) (x30 : Int) (x32 : Bool) (x34 : Bool) (x35 : Bool) (x36 : Int) (x38 : Bool) (x40 : Bool) (x41 : Bool) (x42 : Int) (x44 : Bool) (x46 : Bool) (x47 : Bool) (x48 : Int) (x50 : Bool) (x52 : Bool) (x53 : Bool) (x56 : Int) (x57 : Int) : Bool :=
  let x58 := r12_0 x56 x57
  let x59 := r12_1 x56 x57
  let x60 := x58 == 0
  let x61 := x58 == 1
  let x66 := x58 == 2
  let x84 := x58 == 3
  let x129 := x58 == 4
  let x134 := x58 == 5
  let x136 := r14_0 x0 x6 x8 x10 x11 x12 x14 x16 x17 x18 x20 x22 x23 x24 x26 x28 x29 x30 x32 x34 x35 x36 x38 x40 x41 x42 x44 x46 x47 x48 x50 x52 x53 x59
  let x137 := decide (x136 > 0)
  let x166 := x136 == 3
  let x167 := x166 || x21
  let x185 := bif x137 then x167 else x21
  let x197 := !x60
  let x206 := bif x134 then x185 else x21
  let x225 := bif x129 then x21 else x206
  let x244 := bif x84 then x21 else x225
  let x263 := bif x66 then x21 else x244
  let x282 := bif x61 then x21 else x263
  let x301 := bif x197 then x282 else x21
  x301
noncomputable def r8_24 (x22 : Bool) : Bool :=
  x22
noncomputable def r8_25 (x23 : Bool) : Bool :=
  x23
noncomputable def r8_26 (x24 : Int) : Int :=
  x24
noncomputable def r8_27 (x25 : Bool) : Bool :=
  x25
noncomputable def r8_28 (x0 : Int) (x6 : Int) (x8 : Bool) (x10 : Bool) (x11 : Bool) (x12 : Int) (x14 : Bool) (x16 : Bool) (x17 : Bool) (x18 : Int) (x20 : Bool) (x22 : Bool) (x23 : Bool) (x24 : Int) (x26 : Bool) (x28 : Bool) (x29 : Bool) (x30 : Int) (x32 : Bool) (x34 : Bool) (x35 : Bool) (x36 : Int) (x38 : Bool) (x40 : Bool) (x41 : Bool) (x42 : Int) (x44 : Bool) (x46 : Bool) (x47 : Bool) (x48 : Int) (x50 : Bool) (x52 : Bool) (x53 : Bool) (x56 : Int) (x57 : Int) : Bool :=
  let x58 := r12_0 x56 x57
  let x59 := r12_1 x56 x57
  let x60 := x58 == 0
  let x61 := x58 == 1
  let x66 := x58 == 2
  let x84 := x58 == 3
  let x129 := x58 == 4
  let x134 := x58 == 5
  let x136 := r14_0 x0 x6 x8 x10 x11 x12 x14 x16 x17 x18 x20 x22 x23 x24 x26 x28 x29 x30 x32 x34 x35 x36 x38 x40 x41 x42 x44 x46 x47 x48 x50 x52 x53 x59
  let x137 := decide (x136 > 0)
  let x150 := x136 == 4
  let x151 := bif x150 then false else x26
  let x186 := bif x137 then x151 else x26
  let x197 := !x60
  let x207 := bif x134 then x186 else x26
  let x226 := bif x129 then x26 else x207
  let x245 := bif x84 then x26 else x226
  let x264 := bif x66 then x26 else x245
  let x283 := bif x61 then x26 else x264
  let x302 := bif x197 then x283 else x26
  x302
noncomputable def r8_29 (x0 : Int) (x6 : Int) (x8 : Bool) (x10 : Bool) (x11 : Bool) (x12 : Int) (x14 : Bool) (x16 : Bool) (x17 : Bool) (x18 : Int) (x20 : Bool) (x22 : Bool) (x23 : Bool) (x24 : Int) (x26 : Bool) (x27 : Bool) (x28 : Bool) (x29 : Bool) (x30 : Int) (x32 : Bool) (x34 : Bool) (x35 : Bool) (x36 : Int) (x38 : Bool) (x40 : Bool) (x41 : Bool) (x42 : Int) (x44 : Bool) (x46 : Bool) (x47 : Bool) (x48 : Int) (x50 : Bool) (x52 : Bool) (x53 : Bool) (x56 : Int) (x57 : Int) : Bool :=
  let x58 := r12_0 x56 x57
  let x59 := r12_1 x56 x57
  let x60 := x58 == 0
  let x61 := x58 == 1
  let x66 := x58 == 2
  let x84 := x58 == 3
  let x129 := x58 == 4
  let x134 := x58 == 5
  let x136 := r14_0 x0 x6 x8 x10 x11 x12 x14 x16 x17 x18 x20 x22 x23 x24 x26 x28 x29 x30 x32 x34 x35 x36 x38 x40 x41 x42 x44 x46 x47 x48 x50 x52 x53 x59
  let x137 := decide (x136 > 0)
  let x168 := x136 == 4
  let x169 := x168 || x27
  let x187 := bif x137 then x169 else x27
  let x197 := !x60
  let x208 := bif x134 then x187 else x27
  let x227 := bif x129 then x27 else x208
  let x246 := bif x84 then x27 else x227
  let x265 := bif x66 then x27 else x246
  let x284 := bif x61 then x27 else x265
  let x303 := bif x197 then x284 else x27
  x303
noncomputable def r8_30 (x28 : Bool) : Bool :=
  x28
noncomputable def r8_31 (x29 : Bool) : Bool :=
  x29
noncomputable def r8_32 (x30 : Int) : Int :=
  x30
noncomputable def r8_33 (x31 : Bool) : Bool :=
  x31
noncomputable def r8_34 (x0 : Int) (x6 : Int) (x8 : Bool) (x10 : Bool) (x11 : Bool) (x12 : Int) (x14 : Bool) (x16 : Bool) (x17 : Bool) (x18 : Int) (x20 : Bool) (x22 : Bool) (x23 : Bool) (x24 : Int) (x26 : Bool) (x28 : Bool) (x29 : Bool) (x30 : Int) (x32 : Bool) (x34 : Bool) (x35 : Bool) (x36 : Int) (x38 : Bool) (x40 : Bool) (x41 : Bool) (x42 : Int) (x44 : Bool) (x46 : Bool) (x47 : Bool) (x48 : Int) (x50 : Bool) (x52 : Bool) (x53 : Bool) (x56 : Int) (x57 : Int) : Bool :=
  let x58 := r12_0 x56 x57
  let x59 := r12_1 x56 x57
  let x60 := x58 == 0
  let x61 := x58 == 1
  let x66 := x58 == 2
  let x84 := x58 == 3
  let x129 := x58 == 4
  let x134 := x58 == 5
  let x136 := r14_0 x0 x6 x8 x10 x11 x12 x14 x16 x17 x18 x20 x22 x23 x24 x26 x28 x29 x30 x32 x34 x35 x36 x38 x40 x41 x42 x44 x46 x47 x48 x50 x52 x53 x59
  let x137 := decide (x136 > 0)
  let x152 := x136 == 5
  let x153 := bif x152 then false else x32
  let x188 := bif x137 then x153 else x32
  let x197 := !x60
  let x209 := bif x134 then x188 else x32
  let x228 := bif x129 then x32 else x209
  let x247 := bif x84 then x32 else x228
  let x266 := bif x66 then x32 else x247
  let x285 := bif x61 then x32 else x266
  let x304 := bif x197 then x285 else x32
  x304
noncomputable def r8_35 (x0 : Int) (x6 : Int) (x8 : Bool) (x10 : Bool) (x11 : Bool) (x12 : Int) (x14 : Bool) (x16 : Bool) (x17 : Bool) (x18 : Int) (x20 : Bool) (x22 : Bool) (x23 : Bool) (x24 : Int) (x26 : Bool) (x28 : Bool) (x29 : Bool) (x30 : Int) (x32 : Bool) (x33 : Bool) (x34 : Bool) (x35 : Bool) (x36 : Int) (x38 : Bool) (x40 : Bool) (x41 : Bool) (x42 : Int) (x44 : Bool) (x46 : Bool) (x47 : Bool) (x48 : Int) (x50 : Bool) (x52 : Bool) (x53 : Bool) (x56 : Int) (x57 : Int) : Bool :=
  let x58 := r12_0 x56 x57
  let x59 := r12_1 x56 x57
  let x60 := x58 == 0
  let x61 := x58 == 1
  let x66 := x58 == 2
  let x84 := x58 == 3
  let x129 := x58 == 4
  let x134 := x58 == 5
  let x136 := r14_0 x0 x6 x8 x10 x11 x12 x14 x16 x17 x18 x20 x22 x23 x24 x26 x28 x29 x30 x32 x34 x35 x36 x38 x40 x41 x42 x44 x46 x47 x48 x50 x52 x53 x59
  let x137 := decide (x136 > 0)
  let x170 := x136 == 5
  let x171 := x170 || x33
  let x189 := bif x137 then x171 else x33
  let x197 := !x60
  let x210 := bif x134 then x189 else x33
  let x229 := bif x129 then x33 else x210
  let x248 := bif x84 then x33 else x229
  let x267 := bif x66 then x33 else x248
  let x286 := bif x61 then x33 else x267
  let x305 := bif x197 then x286 else x33
  x305
noncomputable def r8_36 (x34 : Bool) : Bool :=
  x34
noncomputable def r8_37 (x35 : Bool) : Bool :=
  x35
noncomputable def r8_38 (x36 : Int) : Int :=
  x36
noncomputable def r8_39 (x37 : Bool) : Bool :=
  x37
noncomputable def r8_40 (x0 : Int) (x6 : Int) (x8 : Bool) (x10 : Bool) (x11 : Bool) (x12 : Int) (x14 : Bool) (x16 : Bool) (x17 : Bool) (x18 : Int) (x20 : Bool) (x22 : Bool) (x23 : Bool) (x24 : Int) (x26 : Bool) (x28 : Bool) (x29 : Bool) (x30 : Int) (x32 : Bool) (x34 : Bool) (x35 : Bool) (x36 : Int) (x38 : Bool) (x40 : Bool) (x41 : Bool) (x42 : Int) (x44 : Bool) (x46 : Bool) (x47 : Bool) (x48 : Int) (x50 : Bool) (x52 : Bool) (x53 : Bool) (x56 : Int) (x57 : Int) : Bool :=
  let x58 := r12_0 x56 x57
  let x59 := r12_1 x56 x57
  let x60 := x58 == 0
  let x61 := x58 == 1
  let x66 := x58 == 2
  let x84 := x58 == 3
  let x129 := x58 == 4
  let x134 := x58 == 5
  let x136 := r14_0 x0 x6 x8 x10 x11 x12 x14 x16 x17 x18 x20 x22 x23 x24 x26 x28 x29 x30 x32 x34 x35 x36 x38 x40 x41 x42 x44 x46 x47 x48 x50 x52 x53 x59
  let x137 := decide (x136 > 0)
  let x154 := x136 == 6
  let x155 := bif x154 then false else x38
  let x190 := bif x137 then x155 else x38
  let x197 := !x60
  let x211 := bif x134 then x190 else x38
  let x230 := bif x129 then x38 else x211
  let x249 := bif x84 then x38 else x230
  let x268 := bif x66 then x38 else x249
  let x287 := bif x61 then x38 else x268
  let x306 := bif x197 then x287 else x38
  x306
noncomputable def r8_41 (x0 : Int) (x6 : Int) (x8 : Bool) (x10 : Bool) (x11 : Bool) (x12 : Int) (x14 : Bool) (x16 : Bool) (x17 : Bool) (x18 : Int) (x20 : Bool) (x22 : Bool) (x23 : Bool) (x24 : Int) (x26 : Bool) (x28 : Bool) (x29 : Bool) (x30 : Int) (x32 : Bool) (x34 : Bool) (x35 : Bool) (x36 : Int) (x38 : Bool) (x39 : Bool) (x40 : Bool) (x41 : Bool) (x42 : Int) (x44 : Bool) (x46 : Bool) (x47 : Bool) (x48 : Int) (x50 : Bool) (x52 : Bool) (x53 : Bool) (x56 : Int) (x57 : Int) : Bool :=
  let x58 := r12_0 x56 x57
  let x59 := r12_1 x56 x57
  let x60 := x58 == 0
  let x61 := x58 == 1
  let x66 := x58 == 2
  let x84 := x58 == 3
  let x129 := x58 == 4
  let x134 := x58 == 5
  let x136 := r14_0 x0 x6 x8 x10 x11 x12 x14 x16 x17 x18 x20 x22 x23 x24 x26 x28 x29 x30 x32 x34 x35 x36 x38 x40 x41 x42 x44 x46 x47 x48 x50 x52 x53 x59
  let x137 := decide (x136 > 0)
  let x172 := x136 == 6
  let x173 := x172 || x39
  let x191 := bif x137 then x173 else x39
  let x197 := !x60
  let x212 := bif x134 then x191 else x39
  let x231 := bif x129 then x39 else x212
  let x250 := bif x84 then x39 else x231
  let x269 := bif x66 then x39 else x250
  let x288 := bif x61 then x39 else x269
  let x307 := bif x197 then x288 else x39
  x307
noncomputable def r8_42 (x40 : Bool) : Bool :=
  x40
noncomputable def r8_43 (x41 : Bool) : Bool :=
  x41
noncomputable def r8_44 (x42 : Int) : Int :=
  x42
noncomputable def r8_45 (x43 : Bool) : Bool :=
  x43
noncomputable def r8_46 (x0 : Int) (x6 : Int) (x8 : Bool) (x10 : Bool) (x11 : Bool) (x12 : Int) (x14 : Bool) (x16 : Bool) (x17 : Bool) (x18 : Int) (x20 : Bool) (x22 : Bool) (x23 : Bool) (x24 : Int) (x26 : Bool) (x28 : Bool) (x29 : Bool) (x30 : Int) (x32 : Bool) (x34 : Bool) (x35 : Bool) (x36 : Int) (x38 : Bool) (x40 : Bool) (x41 : Bool) (x42 : Int) (x44 : Bool) (x46 : Bool) (x47 : Bool) (x48 : Int) (x50 : Bool) (x52 : Bool) (x53 : Bool) (x56 : Int) (x57 : Int) : Bool :=
  let x58 := r12_0 x56 x57
  let x59 := r12_1 x56 x57
  let x60 := x58 == 0
  let x61 := x58 == 1
  let x66 := x58 == 2
  let x84 := x58 == 3
  let x129 := x58 == 4
  let x134 := x58 == 5
  let x136 := r14_0 x0 x6 x8 x10 x11 x12 x14 x16 x17 x18 x20 x22 x23 x24 x26 x28 x29 x30 x32 x34 x35 x36 x38 x40 x41 x42 x44 x46 x47 x48 x50 x52 x53 x59
  let x137 := decide (x136 > 0)
  let x156 := x136 == 7
  let x157 := bif x156 then false else x44
  let x192 := bif x137 then x157 else x44
  let x197 := !x60
  let x213 := bif x134 then x192 else x44
  let x232 := bif x129 then x44 else x213
  let x251 := bif x84 then x44 else x232
  let x270 := bif x66 then x44 else x251
  let x289 := bif x61 then x44 else x270
  let x308 := bif x197 then x289 else x44
  x308
noncomputable def r8_47 (x0 : Int) (x6 : Int) (x8 : Bool) (x10 : Bool) (x11 : Bool) (x12 : Int) (x14 : Bool) (x16 : Bool) (x17 : Bool) (x18 : Int) (x20 : Bool) (x22 : Bool) (x23 : Bool) (x24 : Int) (x26 : Bool) (x28 : Bool) (x29 : Bool) (x30 : Int) (x32 : Bool) (x34 : Bool) (x35 : Bool) (x36 : Int) (x38 : Bool) (x40 : Bool) (x41 : Bool) (x42 : Int) (x44 : Bool) (x45 : Bool) (x46 : Bool) (x47 : Bool) (x48 : Int) (x50 : Bool) (x52 : Bool) (x53 : Bool) (x56 : Int) (x57 : Int) : Bool :=
  let x58 := r12_0 x56 x57
  let x59 := r12_1 x56 x57
  let x60 := x58 == 0
  let x61 := x58 == 1
  let x66 := x58 == 2
  let x84 := x58 == 3
  let x129 := x58 == 4
  let x134 := x58 == 5
  let x136 := r14_0 x0 x6 x8 x10 x11 x12 x14 x16 x17 x18 x20 x22 x23 x24 x26 x28 x29 x30 x32 x34 x35 x36 x38 x40 x41 x42 x44 x46 x47 x48 x50 x52 x53 x59
  let x137 := decide (x136 > 0)
  let x174 := x136 == 7
  let x175 := x174 || x45
  let x193 := bif x137 then x175 else x45
  let x197 := !x60
  let x214 := bif x134 then x193 else x45
  let x233 := bif x129 then x45 else x214
  let x252 := bif x84 then x45 else x233
  let x271 := bif x66 then x45 else x252
  let x290 := bif x61 then x45 else x271
  let x309 := bif x197 then x290 else x45
  x309
noncomputable def r8_48 (x46 : Bool) : Bool :=
  x46
noncomputable def r8_49 (x47 : Bool) : Bool :=
  x47
noncomputable def r8_50 (x48 : Int) : Int :=
  x48
noncomputable def r8_51 (x49 : Bool) : Bool :=
  x49
noncomputable def r8_52 (x0 : Int) (x6 : Int) (x8 : Bool) (x10 : Bool) (x11 : Bool) (x12 : Int) (x14 : Bool) (x16 : Bool) (x17 : Bool) (x18 : Int) (x20 : Bool) (x22 : Bool) (x23 : Bool) (x24 : Int) (x26 : Bool) (x28 : Bool) (x29 : Bool) (x30 : Int) (x32 : Bool) (x34 : Bool) (x35 : Bool) (x36 : Int) (x38 : Bool) (x40 : Bool) (x41 : Bool) (x42 : Int) (x44 : Bool) (x46 : Bool) (x47 : Bool) (x48 : Int) (x50 : Bool) (x52 : Bool) (x53 : Bool) (x56 : Int) (x57 : Int) : Bool :=
  let x58 := r12_0 x56 x57
  let x59 := r12_1 x56 x57
  let x60 := x58 == 0
  let x61 := x58 == 1
  let x66 := x58 == 2
  let x84 := x58 == 3
  let x129 := x58 == 4
  let x134 := x58 == 5
  let x136 := r14_0 x0 x6 x8 x10 x11 x12 x14 x16 x17 x18 x20 x22 x23 x24 x26 x28 x29 x30 x32 x34 x35 x36 x38 x40 x41 x42 x44 x46 x47 x48 x50 x52 x53 x59
  let x137 := decide (x136 > 0)
  let x158 := x136 == 8
  let x159 := bif x158 then false else x50
  let x194 := bif x137 then x159 else x50
  let x197 := !x60
  let x215 := bif x134 then x194 else x50
  let x234 := bif x129 then x50 else x215
  let x253 := bif x84 then x50 else x234
  let x272 := bif x66 then x50 else x253
  let x291 := bif x61 then x50 else x272
  let x310 := bif x197 then x291 else x50
  x310
noncomputable def r8_53 (x0 : Int) (x6 : Int) (x8 : Bool) (x10 : Bool) (x11 : Bool) (x12 : Int) (x14 : Bool) (x16 : Bool) (x17 : Bool) (x18 : Int) (x20 : Bool) (x22 : Bool) (x23 : Bool) (x24 : Int) (x26 : Bool) (x28 : Bool) (x29 : Bool) (x30 : Int) (x32 : Bool) (x34 : Bool) (x35 : Bool) (x36 : Int) (x38 : Bool) (x40 : Bool) (x41 : Bool) (x42 : Int) (x44 : Bool) (x46 : Bool) (x47 : Bool) (x48 : Int) (x50 : Bool) (x51 : Bool) (x52 : Bool) (x53 : Bool) (x56 : Int) (x57 : Int) : Bool :=
  let x58 := r12_0 x56 x57
  let x59 := r12_1 x56 x57
  let x60 := x58 == 0
  let x61 := x58 == 1
  let x66 := x58 == 2
  let x84 := x58 == 3
  let x129 := x58 == 4
  let x134 := x58 == 5
  let x136 := r14_0 x0 x6 x8 x10 x11 x12 x14 x16 x17 x18 x20 x22 x23 x24 x26 x28 x29 x30 x32 x34 x35 x36 x38 x40 x41 x42 x44 x46 x47 x48 x50 x52 x53 x59
  let x137 := decide (x136 > 0)
  let x176 := x136 == 8
  let x177 := x176 || x51
  let x195 := bif x137 then x177 else x51
  let x197 := !x60
  let x216 := bif x134 then x195 else x51
  let x235 := bif x129 then x51 else x216
  let x254 := bif x84 then x51 else x235
  let x273 := bif x66 then x51 else x254
  let x292 := bif x61 then x51 else x273
  let x311 := bif x197 then x292 else x51
  x311
noncomputable def r8_54 (x52 : Bool) : Bool :=
  x52
noncomputable def r8_55 (x53 : Bool) : Bool :=
  x53
noncomputable def r8_56 (x54 : Int) : Int :=
  x54
noncomputable def r8_57 (x55 : Int) : Int :=
  x55
noncomputable def g8 (ds : List DV) : List DV := [.b (p8 (dget ds 0).toI (dget ds 6).toI (dget ds 8).toB (dget ds 10).toB (dget ds 11).toB (dget ds 12).toI (dget ds 14).toB (dget ds 16).toB (dget ds 17).toB (dget ds 18).toI (dget ds 20).toB (dget ds 22).toB (dget ds 23).toB (dget ds 24).toI (dget ds 26).toB (dget ds 28).toB (dget ds 29).toB (dget ds 30).toI (dget ds 32).toB (dget ds 34).toB (dget ds 35).toB (dget ds 36).toI (dget ds 38).toB (dget ds 40).toB (dget ds 41).toB (dget ds 42).toI (dget ds 44).toB (dget ds 46).toB (dget ds 47).toB (dget ds 48).toI (dget ds 50).toB (dget ds 52).toB (dget ds 53).toB (dget ds 56).toI (dget ds 57).toI), .i (r8_0 (dget ds 0).toI (dget ds 2).toB (dget ds 4).toB (dget ds 5).toB (dget ds 6).toI (dget ds 8).toB (dget ds 10).toB (dget ds 11).toB (dget ds 12).toI (dget ds 14).toB (dget ds 16).toB (dget ds 17).toB (dget ds 18).toI (dget ds 20).toB (dget ds 22).toB (dget ds 23).toB (dget ds 24).toI (dget ds 26).toB (dget ds 28).toB (dget ds 29).toB (dget ds 30).toI (dget ds 32).toB (dget ds 34).toB (dget ds 35).toB (dget ds 36).toI (dget ds 38).toB (dget ds 40).toB (dget ds 41).toB (dget ds 42).toI (dget ds 44).toB (dget ds 46).toB (dget ds 47).toB (dget ds 48).toI (dget ds 50).toB (dget ds 52).toB (dget ds 53).toB (dget ds 54).toI (dget ds 55).toI (dget ds 56).toI (dget ds 57).toI), .b (r8_1 (dget ds 56).toI (dget ds 57).toI), .i (r8_2 (dget ds 0).toI), .b (r8_3 (dget ds 1).toB), .b (r8_4 (dget ds 0).toI (dget ds 2).toB (dget ds 6).toI (dget ds 8).toB (dget ds 10).toB (dget ds 11).toB (dget ds 12).toI (dget ds 14).toB (dget ds 16).toB (dget ds 17).toB (dget ds 18).toI (dget ds 20).toB (dget ds 22).toB (dget ds 23).toB (dget ds 24).toI (dget ds 26).toB (dget ds 28).toB (dget ds 29).toB (dget ds 30).toI (dget ds 32).toB (dget ds 34).toB (dget ds 35).toB (dget ds 36).toI (dget ds 38).toB (dget ds 40).toB (dget ds 41).toB (dget ds 42).toI (dget ds 44).toB (dget ds 46).toB (dget ds 47).toB (dget ds 48).toI (dget ds 50).toB (dget ds 52).toB (dget ds 53).toB (dget ds 56).toI (dget ds 57).toI), .b (r8_5 (dget ds 0).toI (dget ds 3).toB (dget ds 6).toI (dget ds 8).toB (dget ds 10).toB (dget ds 11).toB (dget ds 12).toI (dget ds 14).toB (dget ds 16).toB (dget ds 17).toB (dget ds 18).toI (dget ds 20).toB (dget ds 22).toB (dget ds 23).toB (dget ds 24).toI (dget ds 26).toB (dget ds 28).toB (dget ds 29).toB (dget ds 30).toI (dget ds 32).toB (dget ds 34).toB (dget ds 35).toB (dget ds 36).toI (dget ds 38).toB (dget ds 40).toB (dget ds 41).toB (dget ds 42).toI (dget ds 44).toB (dget ds 46).toB (dget ds 47).toB (dget ds 48).toI (dget ds 50).toB (dget ds 52).toB (dget ds 53).toB (dget ds 56).toI (dget ds 57).toI), .b (r8_6 (dget ds 4).toB), .b (r8_7 (dget ds 5).toB), .i (r8_8 (dget ds 6).toI), .b (r8_9 (dget ds 7).toB), .b (r8_10 (dget ds 0).toI (dget ds 6).toI (dget ds 8).toB (dget ds 10).toB (dget ds 11).toB (dget ds 12).toI (dget ds 14).toB (dget ds 16).toB (dget ds 17).toB (dget ds 18).toI (dget ds 20).toB (dget ds 22).toB (dget ds 23).toB (dget ds 24).toI (dget ds 26).toB (dget ds 28).toB (dget ds 29).toB (dget ds 30).toI (dget ds 32).toB (dget ds 34).toB (dget ds 35).toB (dget ds 36).toI (dget ds 38).toB (dget ds 40).toB (dget ds 41).toB (dget ds 42).toI (dget ds 44).toB (dget ds 46).toB (dget ds 47).toB (dget ds 48).toI (dget ds 50).toB (dget ds 52).toB (dget ds 53).toB (dget ds 56).toI (dget ds 57).toI), .b (r8_11 (dget ds 0).toI (dget ds 6).toI (dget ds 8).toB (dget ds 9).toB (dget ds 10).toB (dget ds 11).toB (dget ds 12).toI (dget ds 14).toB (dget ds 16).toB (dget ds 17).toB (dget ds 18).toI (dget ds 20).toB (dget ds 22).toB (dget ds 23).toB (dget ds 24).toI (dget ds 26).toB (dget ds 28).toB (dget ds 29).toB (dget ds 30).toI (dget ds 32).toB (dget ds 34).toB (dget ds 35).toB (dget ds 36).toI (dget ds 38).toB (dget ds 40).toB (dget ds 41).toB (dget ds 42).toI (dget ds 44).toB (dget ds 46).toB (dget ds 47).toB (dget ds 48).toI (dget ds 50).toB (dget ds 52).toB (dget ds 53).toB (dget ds 56).toI (dget ds 57).toI), .b (r8_12 (dget ds 10).toB), .b (r8_13 (dget ds 11).toB), .i (r8_14 (dget ds 12).toI), .b (r8_15 (dget ds 13).toB), .b (r8_16 (dget ds 0).toI (dget ds 6).toI (dget ds 8).toB (dget ds 10).toB (dget ds 11).toB (dget ds 12).toI (dget ds 14).toB (dget ds 16).toB (dget ds 17).toB (dget ds 18).toI (dget ds 20).toB (dget ds 22).toB (dget ds 23).toB (dget ds 24).toI (dget ds 26).toB (dget ds 28).toB (dget ds 29).toB (dget ds 30).toI (dget ds 32).toB (dget ds 34).toB (dget ds 35).toB (dget ds 36).toI (dget ds 38).toB (dget ds 40).toB (dget ds 41).toB (dget ds 42).toI (dget ds 44).toB (dget ds 46).toB (dget ds 47).toB (dget ds 48).toI (dget ds 50).toB (dget ds 52).toB (dget ds 53).toB (dget ds 56).toI (dget ds 57).toI), .b (r8_17 (dget ds 0).toI (dget ds 6).toI (dget ds 8).toB (dget ds 10).toB (dget ds 11).toB (dget ds 12).toI (dget ds 14).toB (dget ds 15).toB (dget ds 16).toB (dget ds 17).toB (dget ds 18).toI (dget ds 20).toB (dget ds 22).toB (dget ds 23).toB (dget ds 24).toI (dget ds 26).toB (dget ds 28).toB (dget ds 29).toB (dget ds 30).toI (dget ds 32).toB (dget ds 34).toB (dget ds 35).toB (dget ds 36).toI (dget ds 38).toB (dget ds 40).toB (dget ds 41).toB (dget ds 42).toI (dget ds 44).toB (dget ds 46).toB (dget ds 47).toB (dget ds 48).toI (dget ds 50).toB (dget ds 52).toB (dget ds 53).toB (dget ds 56).toI (dget ds 57).toI), .b (r8_18 (dget ds 16).toB), .b (r8_19 (dget ds 17).toB), .i (r8_20 (dget ds 18).toI), .b (r8_21 (dget ds 19).toB), .b (r8_22 (dget ds 0).toI (dget ds 6).toI (dget ds 8).toB (dget ds 10).toB (dget ds 11).toB (dget ds 12).toI (dget ds 14).toB (dget ds 16).toB (dget ds 17).toB (dget ds 18).toI (dget ds 20).toB (dget ds 22).toB (dget ds 23).toB (dget ds 24).toI (dget ds 26).toB (dget ds 28).toB (dget ds 29).toB (dget ds 30).toI (dget ds 32).toB (dget ds 34).toB (dget ds 35).toB (dget ds 36).toI (dget ds 38).toB (dget ds 40).toB (dget ds 41).toB (dget ds 42).toI (dget ds 44).toB (dget ds 46).toB (dget ds 47).toB (dget ds 48).toI (dget ds 50).toB (dget ds 52).toB (dget ds 53).toB (dget ds 56).toI (dget ds 57).toI), .b (r8_23 (dget ds 0).toI (dget ds 6).toI (dget ds 8).toB (dget ds 10).toB (dget ds 11).toB (dget ds 12).toI (dget ds 14).toB (dget ds 16).toB (dget ds 17).toB (dget ds 18).toI (dget ds 20).toB (dget ds 21).toB (dget ds 22).toB (dget ds 23).toB (dget ds 24).toI (dget ds 26).toB (dget ds 28).toB (dget ds 29).toB (dget ds 30).toI (dget ds 32).toB (dget ds 34).toB (dget ds 35).toB (dget ds 36).toI (dget ds 38).toB (dget ds 40).toB (dget ds 41).toB (dget ds 42).toI (dget ds 44).toB (dget ds 46).toB (dget ds 47).toB (dget ds 48).toI (dget ds 50).toB (dget ds 52).toB (dget ds 53).toB (dget ds 56).toI (dget ds 57).toI), .b (r8_24 (dget ds 22).toB), .b (r8_25 (dget ds 23).toB), .i (r8_26 (dget ds 24).toI), .b (r8_27 (dget ds 25).toB), .b (r8_28 (dget ds 0).toI (dget ds 6).toI (dget ds 8).toB (dget ds 10).toB (dget ds 11).toB (dget ds 12).toI (dget ds 14).toB (dget ds 16).toB (dget ds 17).toB (dget ds 18).toI (dget ds 20).toB (dget ds 22).toB (dget ds 23).toB (dget ds 24).toI (dget ds 26).toB (dget ds 28).toB (dget ds 29).toB (dget ds 30).toI (dget ds 32).toB (dget ds 34).toB (dget ds 35).toB (dget ds 36).toI (dget ds 38).toB (dget ds 40).toB (dget ds 41).toB (dget ds 42).toI (dget ds 44).toB (dget ds 46).toB (dget ds 47).toB (dget ds 48).toI (dget ds 50).toB (dget ds 52).toB (dget ds 53).toB (dget ds 56).toI (dget ds 57).toI), .b (r8_29 (dget ds 0).toI (dget ds 6).toI (dget ds 8).toB (dget ds 10).toB (dget ds 11).toB (dget ds 12).toI (dget ds 14).toB (dget ds 16).toB (dget ds 17).toB (dget ds 18).toI (dget ds 20).toB (dget ds 22).toB (dget ds 23).toB (dget ds 24).toI (dget ds 26).toB (dget ds 27).toB (dget ds 28).toB (dget ds 29).toB (dget ds 30).toI (dget ds 32).toB (dget ds 34).toB (dget ds 35).toB (dget ds 36).toI (dget ds 38).toB (dget ds 40).toB (dget ds 41).toB (dget ds 42).toI (dget ds 44).toB (dget ds 46).toB (dget ds 47).toB (dget ds 48).toI (dget ds 50).toB (dget ds 52).toB (dget ds 53).toB (dget ds 56).toI (dget ds 57).toI), .b (r8_30 (dget ds 28).toB), .b (r8_31 (dget ds 29).toB), .i (r8_32 (dget ds 30).toI), .b (r8_33 (dget ds 31).toB), .b (r8_34 (dget ds 0).toI (dget ds 6).toI (dget ds 8).toB (dget ds 10).toB (dget ds 11).toB (dget ds 12).toI (dget ds 14).toB (dget ds 16).toB (dget ds 17).toB (dget ds 18).toI (dget ds 20).toB (dget ds 22).toB (dget ds 23).toB (dget ds 24).toI (dget ds 26).toB (dget ds 28).toB (dget ds 29).toB (dget ds 30).toI (dget ds 32).toB (dget ds 34).toB (dget ds 35).toB (dget ds 36).toI (dget ds 38).toB (dget ds 40).toB (dget ds 41).toB (dget ds 42).toI (dget ds 44).toB (dget ds 46).toB (dget ds 47).toB (dget ds 48).toI (dget ds 50).toB (dget ds 52).toB (dget ds 53).toB (dget ds 56).toI (dget ds 57).toI), .b (r8_35 (dget ds 0).toI (dget ds 6).toI (dget ds 8).toB (dget ds 10).toB (dget ds 11).toB (dget ds 12).toI (dget ds 14).toB (dget ds 16).toB (dget ds 17).toB (dget ds 18).toI (dget ds 20).toB (dget ds 22).toB (dget ds 23).toB (dget ds 24).toI (dget ds 26).toB (dget ds 28).toB (dget ds 29).toB (dget ds 30).toI (dget ds 32).toB (dget ds 33).toB (dget ds 34).toB (dget ds 35).toB (dget ds 36).toI (dget ds 38).toB (dget ds 40).toB (dget ds 41).toB (dget ds 42).toI (dget ds 44).toB (dget ds 46).toB (dget ds 47).toB (dget ds 48).toI (dget ds 50).toB (dget ds 52).toB (dget ds 53).toB (dget ds 56).toI (dget ds 57).toI), .b (r8_36 (dget ds 34).toB), .b (r8_37 (dget ds 35).toB), .i (r8_38 (dget ds 36).toI), .b (r8_39 (dget ds 37).toB), .b (r8_40 (dget ds 0).toI (dget ds 6).toI (dget ds 8).toB (dget ds 10).toB (dget ds 11).toB (dget ds 12).toI (dget ds 14).toB (dget ds 16).toB (dget ds 17).toB (dget ds 18).toI (dget ds 20).toB (dget ds 22).toB (dget ds 23).toB (dget ds 24).toI (dget ds 26).toB (dget ds 28).toB (dget ds 29).toB (dget ds 30).toI (dget ds 32).toB (dget ds 34).toB (dget ds 35).toB (dget ds 36).toI (dget ds 38).toB (dget ds 40).toB (dget ds 41).toB (dget ds 42).toI (dget ds 44).toB (dget ds 46).toB (dget ds 47).toB (dget ds 48).toI (dget ds 50).toB (dget ds 52).toB (dget ds 53).toB (dget ds 56).toI (dget ds 57).toI), .b (r8_41 (dget ds 0).toI (dget ds 6).toI (dget ds 8).toB (dget ds 10).toB (dget ds 11).toB (dget ds 12).toI (dget ds 14).toB (dget ds 16).toB (dget ds 17).toB (dget ds 18).toI (dget ds 20).toB (dget ds 22).toB (dget ds 23).toB (dget ds 24).toI (dget ds 26).toB (dget ds 28).toB (dget ds 29).toB (dget ds 30).toI (dget ds 32).toB (dget ds 34).toB (dget ds 35).toB (dget ds 36).toI (dget ds 38).toB (dget ds 39).toB (dget ds 40).toB (dget ds 41).toB (dget ds 42).toI (dget ds 44).toB (dget ds 46).toB (dget ds 47).toB (dget ds 48).toI (dget ds 50).toB (dget ds 52).toB (dget ds 53).toB (dget ds 56).toI (dget ds 57).toI), .b (r8_42 (dget ds 40).toB), .b (r8_43 (dget ds 41).toB), .i (r8_44 (dget ds 42).toI), .b (r8_45 (dget ds 43).toB), .b (r8_46 (dget ds 0).toI (dget ds 6).toI (dget ds 8).toB (dget ds 10).toB (dget ds 11).toB (dget ds 12).toI (dget ds 14).toB (dget ds 16).toB (dget ds 17).toB (dget ds 18).toI (dget ds 20).toB (dget ds 22).toB (dget ds 23).toB (dget ds 24).toI (dget ds 26).toB (dget ds 28).toB (dget ds 29).toB (dget ds 30).toI (dget ds 32).toB (dget ds 34).toB (dget ds 35).toB (dget ds 36).toI (dget ds 38).toB (dget ds 40).toB (dget ds 41).toB (dget ds 42).toI (dget ds 44).toB (dget ds 46).toB (dget ds 47).toB (dget ds 48).toI (dget ds 50).toB (dget ds 52).toB (dget ds 53).toB (dget ds 56).toI (dget ds 57).toI), .b (r8_47 (dget ds 0).toI (dget ds 6).toI (dget ds 8).toB (dget ds 10).toB (dget ds 11).toB (dget ds 12).toI (dget ds 14).toB (dget ds 16).toB (dget ds 17).toB (dget ds 18).toI (dget ds 20).toB (dget ds 22).toB (dget ds 23).toB (dget ds 24).toI (dget ds 26).toB (dget ds 28).toB (dget ds 29).toB (dget ds 30).toI (dget ds 32).toB (dget ds 34).toB (dget ds 35).toB (dget ds 36).toI (dget ds 38).toB (dget ds 40).toB (dget ds 41).toB (dget ds 42).toI (dget ds 44).toB (dget ds 45).toB (dget ds 46).toB (dget ds 47).toB (dget ds 48).toI (dget ds 50).toB (dget ds 52).toB (dget ds 53).toB (dget ds 56).toI (dget ds 57).toI), .b (r8_48 (dget ds 46).toB), .b (r8_49 (dget ds 47).toB), .i (r8_50 (dget ds 48).toI), .b (r8_51 (dget ds 49).toB), .b (r8_52 (dget ds 0).toI (dget ds 6).toI (dget ds 8).toB (dget ds 10).toB (dget ds 11).toB (dget ds 12).toI (dget ds 14).toB (dget ds 16).toB (dget ds 17).toB (dget ds 18).toI (dget ds 20).toB (dget ds 22).toB (dget ds 23).toB (dget ds 24).toI (dget ds 26).toB (dget ds 28).toB (dget ds 29).toB (dget ds 30).toI (dget ds 32).toB (dget ds 34).toB (dget ds 35).toB (dget ds 36).toI (dget ds 38).toB (dget ds 40).toB (dget ds 41).toB (dget ds 42).toI (dget ds 44).toB (dget ds 46).toB (dget ds 47).toB (dget ds 48).toI (dget ds 50).toB (dget ds 52).toB (dget ds 53).toB (dget ds 56).toI (dget ds 57).toI), .b (r8_53 (dget ds 0).toI (dget ds 6).toI (dget ds 8).toB (dget ds 10).toB (dget ds 11).toB (dget ds 12).toI (dget ds 14).toB (dget ds 16).toB (dget ds 17).toB (dget ds 18).toI (dget ds 20).toB (dget ds 22).toB (dget ds 23).toB (dget ds 24).toI (dget ds 26).toB (dget ds 28).toB (dget ds 29).toB (dget ds 30).toI (dget ds 32).toB (dget ds 34).toB (dget ds 35).toB (dget ds 36).toI (dget ds 38).toB (dget ds 40).toB (dget ds 41).toB (dget ds 42).toI (dget ds 44).toB (dget ds 46).toB (dget ds 47).toB (dget ds 48).toI (dget ds 50).toB (dget ds 51).toB (dget ds 52).toB (dget ds 53).toB (dget ds 56).toI (dget ds 57).toI), .b (r8_54 (dget ds 52).toB), .b (r8_55 (dget ds 53).toB), .i (r8_56 (dget ds 54).toI), .i (r8_57 (dget ds 55).toI)]
def S8 : Sigs := ⟨[(12, s12), (14, s14)], [], [], 1⟩
theorem ev8 : evFn Try.prog S8 2000 Try.f8 s8 = some o8 := by kernel_rfl

end Go.Proofs.Ythlbgkhbebffaaa
