/- What two functions of Go's library compute: the signatures and the functions, by hand. -/
import Derived.Test.YtkpbkanbpjfadaaF3
import Derived.Test.YtkpbkanbpjfadaaProg
import Derived.KernelRfl
import Derived.Test.YtkpbkanbpjfadaaF0
namespace Go.Proofs.Ytkpbkanbpjfadaa
open Go Go.Sx
noncomputable def p31 (x0 : List DV) : Bool := decide (x0.length ≤ 17592186044416)
noncomputable def r31_0 (x0 : List DV) : List DV := x0
noncomputable def g31 (ds : List DV) : List DV := [.b (p31 (dget ds 0).toL), .l (r31_0 (dget ds 0).toL)]
def s31 : Sig := ⟨[.s (.one (.vec 0))], [some (.v false [.int .i64] (.h 0))], [.l], .s (.one (.vec 1)), [none, some (.v true [.int .i64] (.h 0))], [.l], true⟩
noncomputable def p30 (x0 : List DV) (x1 : Int) (x2 : List DV) : Bool := decide (x0.length < 17592186044416) && decide (x1 = 0) && decide (x2.length = 1)
noncomputable def r30_0 (x0 : List DV) (_x1 : Int) (x2 : List DV) : List DV := x2 ++ x0
noncomputable def g30 (ds : List DV) : List DV := [.b (p30 (dget ds 0).toL (dget ds 1).toI (dget ds 2).toL), .l (r30_0 (dget ds 0).toL (dget ds 1).toI (dget ds 2).toL)]
def s30 : Sig := ⟨[.s (.one (.vec 0)), .s (.one (.i .i64 (.h 1))), .s (.one (.vec 1))], [some (.v true [.int .i64] (.h 0)), some (.v true [.int .i64] (.h 2))], [.l, .i, .l], .s (.one (.vec 2)), [none, none, some (.v true [.int .i64] (.h 0))], [.l], true⟩
end Go.Proofs.Ytkpbkanbpjfadaa

namespace Go.Proofs.Ytkpbkanbpjfadaa
open Go Go.Sx
set_option maxRecDepth 100000
set_option maxHeartbeats 4000000
abbrev ilt (a b : Int) : Bool := decide (a < b)
abbrev igt (a b : Int) : Bool := decide (a > b)
abbrev ige (a b : Int) : Bool := decide (a ≥ b)

def s26 : Sig := ⟨[.s (.one (.p 1 (.c 0))), .s (.one (.i .i64 (.h 5)))], [some (.v false [.int .i64] (.h 1)), some (.c false (List.append (List.append (List.append (((eRun (.h 0) [.int .i64] 0 64).map some)) ([some (.vec 0)])) (((eRun (.h 2) [.int .i64, .int .i64, .int .i64, .bool] 0 64).map some))) ([some (.i .i64 (.h 3)), some (.i .i64 (.h 4))])))], [.l, .l, .l, .i, .i, .i], .s (.one (.i .i64 (.h 0))), [], [.i], false⟩
def o26 : Out := ⟨[(6, .add .i64 (.r 3) (.r 5)), (7, .rem .i64 (.r 6) (.z 16))],
  [],
  [],
  [.r 7]⟩
noncomputable def r26_0 (x3 : Int) (x5 : Int) : Int :=
  let x6 := IntKind.wrap .i64 (x3 + x5)
  let x7 := Int.tmod x6 16
  x7
noncomputable def g26 (ds : List DV) : List DV := [.i (r26_0 (dget ds 3).toI (dget ds 5).toI)]
def S26 : Sigs := ⟨[], [], [], 2, []⟩

def s28 : Sig := ⟨[.s (.one (.p 1 (.c 0))), .s (.one (.i .i64 (.h 5)))], [some (.v false [.int .i64] (.h 1)), some (.c false (List.append (List.append (List.append (((eRun (.h 0) [.int .i64] 0 64).map some)) ([some (.vec 0)])) (((eRun (.h 2) [.int .i64, .int .i64, .int .i64, .bool] 0 64).map some))) ([some (.i .i64 (.h 3)), some (.i .i64 (.h 4))])))], [.l, .l, .l, .i, .i, .i], .s (.one (.i .i64 (.h 0))), [], [.i], false⟩
def o28 : Out := ⟨[(6, .lss (.r 5) (.z 0)), (7, .geq (.r 5) (.z 16)), (8, .or (.r 6) (.r 7)), (9, .not (.r 8)), (10, .sub .i64 (.r 5) (.r 3)), (11, .add .i64 (.r 10) (.z 16)), (12, .rem .i64 (.r 11) (.z 16)), (13, .geq (.r 12) (.r 4)), (14, .not (.r 13)), (15, .itei (.r 14) (.r 12) (.z (-1))), (16, .itei (.r 9) (.r 15) (.z (-1)))],
  [],
  [],
  [.r 16]⟩
noncomputable def r28_0 (x3 : Int) (x4 : Int) (x5 : Int) : Int :=
  let x6 := decide (x5 < 0)
  let x7 := decide (x5 ≥ 16)
  let x8 := x6 || x7
  let x9 := !x8
  let x10 := IntKind.wrap .i64 (x5 - x3)
  let x11 := IntKind.wrap .i64 (x10 + 16)
  let x12 := Int.tmod x11 16
  let x13 := decide (x12 ≥ x4)
  let x14 := !x13
  let x15 := bif x14 then x12 else (-1)
  let x16 := bif x9 then x15 else (-1)
  x16
noncomputable def g28 (ds : List DV) : List DV := [.i (r28_0 (dget ds 3).toI (dget ds 4).toI (dget ds 5).toI)]
def S28 : Sigs := ⟨[], [], [], 2, []⟩

def s25 : Sig := ⟨[.s (.one (.p 1 (.c 0)))], [some (.v false [.int .i64] (.h 1)), some (.c false (List.append (List.append (List.append (((eRun (.h 0) [.int .i64] 0 64).map some)) ([some (.vec 0)])) (((eRun (.h 2) [.int .i64, .int .i64, .int .i64, .bool] 0 64).map some))) ([some (.i .i64 (.h 3)), some (.i .i64 (.h 4))])))], [.l, .l, .l, .i, .i], .s (.one (.i .i64 (.h 0))), [], [.i], false⟩
def o25 : Out := ⟨[],
  [],
  [],
  [.r 4]⟩
noncomputable def r25_0 (x4 : Int) : Int :=
  x4
noncomputable def g25 (ds : List DV) : List DV := [.i (r25_0 (dget ds 4).toI)]
def S25 : Sigs := ⟨[], [], [], 2, []⟩

def s23 : Sig := ⟨[.s (.one (.p 1 (.c 0)))], [some (.v false [.int .i64] (.h 1)), some (.c false (List.append (List.append (List.append (((eRun (.h 0) [.int .i64] 0 64).map some)) ([some (.vec 0)])) (((eRun (.h 2) [.int .i64, .int .i64, .int .i64, .bool] 0 64).map some))) ([some (.i .i64 (.h 3)), some (.i .i64 (.h 4))])))], [.l, .l, .l, .i, .i], .s (.agg (eRun (.h 0) [.int .i64] 0 64)), [], [.l], false⟩
def o23 : Out := ⟨[(5, .lmk [.i, .i, .i, .i, .i, .i, .i, .i, .i, .i, .i, .i, .i, .i, .i, .i, .i, .i, .i, .i, .i, .i, .i, .i, .i, .i, .i, .i, .i, .i, .i, .i, .i, .i, .i, .i, .i, .i, .i, .i, .i, .i, .i, .i, .i, .i, .i, .i, .i, .i, .i, .i, .i, .i, .i, .i, .i, .i, .i, .i, .i, .i, .i, .i] [.z 0, .z 0, .z 0, .z 0, .z 0, .z 0, .z 0, .z 0, .z 0, .z 0, .z 0, .z 0, .z 0, .z 0, .z 0, .z 0, .z 0, .z 0, .z 0, .z 0, .z 0, .z 0, .z 0, .z 0, .z 0, .z 0, .z 0, .z 0, .z 0, .z 0, .z 0, .z 0, .z 0, .z 0, .z 0, .z 0, .z 0, .z 0, .z 0, .z 0, .z 0, .z 0, .z 0, .z 0, .z 0, .z 0, .z 0, .z 0, .z 0, .z 0, .z 0, .z 0, .z 0, .z 0, .z 0, .z 0, .z 0, .z 0, .z 0, .z 0, .z 0, .z 0, .z 0, .z 0])],
  [],
  [],
  [.r 0]⟩
noncomputable def r23_0 (x0 : List DV) : List DV :=
  x0
noncomputable def g23 (ds : List DV) : List DV := [.l (r23_0 (dget ds 0).toL)]
def S23 : Sigs := ⟨[], [], [], 2, []⟩

def s9 : Sig := ⟨[], [], [], .s (.one (.p 0 (.c 0))), [some (.c true (List.append (List.append (List.append (((eRun (.h 0) [.int .i64] 0 64).map some)) ([some (.vec 1)])) (((eRun (.h 1) [.int .i64, .int .i64, .int .i64, .bool] 0 64).map some))) ([some (.i .i64 (.h 2)), some (.i .i64 (.h 3))]))), some (.v true [.int .i64] (.h 4))], [.l, .l, .i, .i, .l], true⟩
def o9 : Out := ⟨[(0, .lmk [] []), (1, .lmk [.i, .i, .i, .i, .i, .i, .i, .i, .i, .i, .i, .i, .i, .i, .i, .i, .i, .i, .i, .i, .i, .i, .i, .i, .i, .i, .i, .i, .i, .i, .i, .i, .i, .i, .i, .i, .i, .i, .i, .i, .i, .i, .i, .i, .i, .i, .i, .i, .i, .i, .i, .i, .i, .i, .i, .i, .i, .i, .i, .i, .i, .i, .i, .i] [.z 0, .z 0, .z 0, .z 0, .z 0, .z 0, .z 0, .z 0, .z 0, .z 0, .z 0, .z 0, .z 0, .z 0, .z 0, .z 0, .z 0, .z 0, .z 0, .z 0, .z 0, .z 0, .z 0, .z 0, .z 0, .z 0, .z 0, .z 0, .z 0, .z 0, .z 0, .z 0, .z 0, .z 0, .z 0, .z 0, .z 0, .z 0, .z 0, .z 0, .z 0, .z 0, .z 0, .z 0, .z 0, .z 0, .z 0, .z 0, .z 0, .z 0, .z 0, .z 0, .z 0, .z 0, .z 0, .z 0, .z 0, .z 0, .z 0, .z 0, .z 0, .z 0, .z 0, .z 0]), (2, .lmk [.i, .i, .i, .b, .i, .i, .i, .b, .i, .i, .i, .b, .i, .i, .i, .b, .i, .i, .i, .b, .i, .i, .i, .b, .i, .i, .i, .b, .i, .i, .i, .b, .i, .i, .i, .b, .i, .i, .i, .b, .i, .i, .i, .b, .i, .i, .i, .b, .i, .i, .i, .b, .i, .i, .i, .b, .i, .i, .i, .b, .i, .i, .i, .b] [.z 0, .z 0, .z 0, .t false, .z 0, .z 0, .z 0, .t false, .z 0, .z 0, .z 0, .t false, .z 0, .z 0, .z 0, .t false, .z 0, .z 0, .z 0, .t false, .z 0, .z 0, .z 0, .t false, .z 0, .z 0, .z 0, .t false, .z 0, .z 0, .z 0, .t false, .z 0, .z 0, .z 0, .t false, .z 0, .z 0, .z 0, .t false, .z 0, .z 0, .z 0, .t false, .z 0, .z 0, .z 0, .t false, .z 0, .z 0, .z 0, .t false, .z 0, .z 0, .z 0, .t false, .z 0, .z 0, .z 0, .t false, .z 0, .z 0, .z 0, .t false]), (3, .aset 64 1 0 .i (.r 1) (.z 0) (.z 0)), (4, .aset 64 1 1 .i (.r 3) (.z 0) (.z 1)), (5, .aset 64 1 2 .i (.r 4) (.z 0) (.z 2)), (6, .aset 64 1 3 .i (.r 5) (.z 0) (.z 3)), (7, .aset 64 1 4 .i (.r 6) (.z 0) (.z 4)), (8, .aset 64 1 5 .i (.r 7) (.z 0) (.z 5)), (9, .aset 64 1 6 .i (.r 8) (.z 0) (.z 6)), (10, .aset 64 1 7 .i (.r 9) (.z 0) (.z 7)), (11, .aset 64 1 8 .i (.r 10) (.z 0) (.z 8)), (12, .aset 64 1 9 .i (.r 11) (.z 0) (.z 9)), (13, .aset 64 1 10 .i (.r 12) (.z 0) (.z 10)), (14, .aset 64 1 11 .i (.r 13) (.z 0) (.z 11)), (15, .aset 64 1 12 .i (.r 14) (.z 0) (.z 12)), (16, .aset 64 1 13 .i (.r 15) (.z 0) (.z 13)), (17, .aset 64 1 14 .i (.r 16) (.z 0) (.z 14)), (18, .aset 64 1 15 .i (.r 17) (.z 0) (.z 15)), (19, .aset 64 1 16 .i (.r 18) (.z 0) (.z 16)), (20, .aset 64 1 17 .i (.r 19) (.z 0) (.z 17)), (21, .aset 64 1 18 .i (.r 20) (.z 0) (.z 18)), (22, .aset 64 1 19 .i (.r 21) (.z 0) (.z 19)), (23, .aset 64 1 20 .i (.r 22) (.z 0) (.z 20)), (24, .aset 64 1 21 .i (.r 23) (.z 0) (.z 21)), (25, .aset 64 1 22 .i (.r 24) (.z 0) (.z 22)), (26, .aset 64 1 23 .i (.r 25) (.z 0) (.z 23)), (27, .aset 64 1 24 .i (.r 26) (.z 0) (.z 24)), (28, .aset 64 1 25 .i (.r 27) (.z 0) (.z 25)), (29, .aset 64 1 26 .i (.r 28) (.z 0) (.z 26)), (30, .aset 64 1 27 .i (.r 29) (.z 0) (.z 27)), (31, .aset 64 1 28 .i (.r 30) (.z 0) (.z 28)), (32, .aset 64 1 29 .i (.r 31) (.z 0) (.z 29)), (33, .aset 64 1 30 .i (.r 32) (.z 0) (.z 30)), (34, .aset 64 1 31 .i (.r 33) (.z 0) (.z 31)), (35, .aset 64 1 32 .i (.r 34) (.z 0) (.z 32)), (36, .aset 64 1 33 .i (.r 35) (.z 0) (.z 33)), (37, .aset 64 1 34 .i (.r 36) (.z 0) (.z 34)), (38, .aset 64 1 35 .i (.r 37) (.z 0) (.z 35)), (39, .aset 64 1 36 .i (.r 38) (.z 0) (.z 36)), (40, .aset 64 1 37 .i (.r 39) (.z 0) (.z 37)), (41, .aset 64 1 38 .i (.r 40) (.z 0) (.z 38)), (42, .aset 64 1 39 .i (.r 41) (.z 0) (.z 39)), (43, .aset 64 1 40 .i (.r 42) (.z 0) (.z 40)), (44, .aset 64 1 41 .i (.r 43) (.z 0) (.z 41)), (45, .aset 64 1 42 .i (.r 44) (.z 0) (.z 42)), (46, .aset 64 1 43 .i (.r 45) (.z 0) (.z 43)), (47, .aset 64 1 44 .i (.r 46) (.z 0) (.z 44)), (48, .aset 64 1 45 .i (.r 47) (.z 0) (.z 45)), (49, .aset 64 1 46 .i (.r 48) (.z 0) (.z 46)), (50, .aset 64 1 47 .i (.r 49) (.z 0) (.z 47)), (51, .aset 64 1 48 .i (.r 50) (.z 0) (.z 48)), (52, .aset 64 1 49 .i (.r 51) (.z 0) (.z 49)), (53, .aset 64 1 50 .i (.r 52) (.z 0) (.z 50)), (54, .aset 64 1 51 .i (.r 53) (.z 0) (.z 51)), (55, .aset 64 1 52 .i (.r 54) (.z 0) (.z 52)), (56, .aset 64 1 53 .i (.r 55) (.z 0) (.z 53)), (57, .aset 64 1 54 .i (.r 56) (.z 0) (.z 54)), (58, .aset 64 1 55 .i (.r 57) (.z 0) (.z 55)), (59, .aset 64 1 56 .i (.r 58) (.z 0) (.z 56)), (60, .aset 64 1 57 .i (.r 59) (.z 0) (.z 57)), (61, .aset 64 1 58 .i (.r 60) (.z 0) (.z 58)), (62, .aset 64 1 59 .i (.r 61) (.z 0) (.z 59)), (63, .aset 64 1 60 .i (.r 62) (.z 0) (.z 60)), (64, .aset 64 1 61 .i (.r 63) (.z 0) (.z 61)), (65, .aset 64 1 62 .i (.r 64) (.z 0) (.z 62)), (66, .aset 64 1 63 .i (.r 65) (.z 0) (.z 63)), (67, .lmk [.i] [.z 64]), (68, .lcat (.r 0) (.r 67)), (69, .llen 1 (.r 68)), (70, .leq (.r 69) (.z 7818749353073)), (71, .lmk [.i] [.z 65]), (72, .lcat (.r 68) (.r 71)), (73, .llen 1 (.r 72)), (74, .leq (.r 73) (.z 7818749353073)), (75, .lmk [.i] [.z 66]), (76, .lcat (.r 72) (.r 75)), (77, .llen 1 (.r 76)), (78, .leq (.r 77) (.z 7818749353073)), (79, .lmk [.i] [.z 67]), (80, .lcat (.r 76) (.r 79)), (81, .llen 1 (.r 80)), (82, .leq (.r 81) (.z 7818749353073)), (83, .lmk [.i] [.z 68]), (84, .lcat (.r 80) (.r 83)), (85, .llen 1 (.r 84)), (86, .leq (.r 85) (.z 7818749353073)), (87, .lmk [.i] [.z 69]), (88, .lcat (.r 84) (.r 87)), (89, .llen 1 (.r 88)), (90, .leq (.r 89) (.z 7818749353073)), (91, .lmk [.i] [.z 70]), (92, .lcat (.r 88) (.r 91)), (93, .llen 1 (.r 92)), (94, .leq (.r 93) (.z 7818749353073)), (95, .lmk [.i] [.z 71]), (96, .lcat (.r 92) (.r 95)), (97, .llen 1 (.r 96)), (98, .leq (.r 97) (.z 7818749353073)), (99, .lmk [.i] [.z 72]), (100, .lcat (.r 96) (.r 99)), (101, .llen 1 (.r 100)), (102, .leq (.r 101) (.z 7818749353073)), (103, .lmk [.i] [.z 73]), (104, .lcat (.r 100) (.r 103)), (105, .llen 1 (.r 104)), (106, .leq (.r 105) (.z 7818749353073)), (107, .lmk [.i] [.z 74]), (108, .lcat (.r 104) (.r 107)), (109, .llen 1 (.r 108)), (110, .leq (.r 109) (.z 7818749353073)), (111, .lmk [.i] [.z 75]), (112, .lcat (.r 108) (.r 111)), (113, .llen 1 (.r 112)), (114, .leq (.r 113) (.z 7818749353073)), (115, .lmk [.i] [.z 76]), (116, .lcat (.r 112) (.r 115)), (117, .llen 1 (.r 116)), (118, .leq (.r 117) (.z 7818749353073)), (119, .lmk [.i] [.z 77]), (120, .lcat (.r 116) (.r 119)), (121, .llen 1 (.r 120)), (122, .leq (.r 121) (.z 7818749353073)), (123, .lmk [.i] [.z 78]), (124, .lcat (.r 120) (.r 123)), (125, .llen 1 (.r 124)), (126, .leq (.r 125) (.z 7818749353073)), (127, .lmk [.i] [.z 79]), (128, .lcat (.r 124) (.r 127)), (129, .llen 1 (.r 128)), (130, .leq (.r 129) (.z 7818749353073)), (131, .lmk [.i] [.z 80]), (132, .lcat (.r 128) (.r 131)), (133, .llen 1 (.r 132)), (134, .leq (.r 133) (.z 7818749353073)), (135, .lmk [.i] [.z 81]), (136, .lcat (.r 132) (.r 135)), (137, .llen 1 (.r 136)), (138, .leq (.r 137) (.z 7818749353073)), (139, .lmk [.i] [.z 82]), (140, .lcat (.r 136) (.r 139)), (141, .llen 1 (.r 140)), (142, .leq (.r 141) (.z 7818749353073)), (143, .lmk [.i] [.z 83]), (144, .lcat (.r 140) (.r 143)), (145, .llen 1 (.r 144)), (146, .leq (.r 145) (.z 7818749353073)), (147, .lmk [.i] [.z 84]), (148, .lcat (.r 144) (.r 147)), (149, .llen 1 (.r 148)), (150, .leq (.r 149) (.z 7818749353073)), (151, .lmk [.i] [.z 85]), (152, .lcat (.r 148) (.r 151)), (153, .llen 1 (.r 152)), (154, .leq (.r 153) (.z 7818749353073)), (155, .lmk [.i] [.z 86]), (156, .lcat (.r 152) (.r 155)), (157, .llen 1 (.r 156)), (158, .leq (.r 157) (.z 7818749353073)), (159, .lmk [.i] [.z 87]), (160, .lcat (.r 156) (.r 159)), (161, .llen 1 (.r 160)), (162, .leq (.r 161) (.z 7818749353073)), (163, .lmk [.i] [.z 88]), (164, .lcat (.r 160) (.r 163)), (165, .llen 1 (.r 164)), (166, .leq (.r 165) (.z 7818749353073)), (167, .lmk [.i] [.z 89]), (168, .lcat (.r 164) (.r 167)), (169, .llen 1 (.r 168)), (170, .leq (.r 169) (.z 7818749353073)), (171, .lmk [.i] [.z 90]), (172, .lcat (.r 168) (.r 171)), (173, .llen 1 (.r 172)), (174, .leq (.r 173) (.z 7818749353073)), (175, .lmk [.i] [.z 91]), (176, .lcat (.r 172) (.r 175)), (177, .llen 1 (.r 176)), (178, .leq (.r 177) (.z 7818749353073)), (179, .lmk [.i] [.z 92]), (180, .lcat (.r 176) (.r 179)), (181, .llen 1 (.r 180)), (182, .leq (.r 181) (.z 7818749353073)), (183, .lmk [.i] [.z 93]), (184, .lcat (.r 180) (.r 183)), (185, .llen 1 (.r 184)), (186, .leq (.r 185) (.z 7818749353073)), (187, .lmk [.i] [.z 94]), (188, .lcat (.r 184) (.r 187)), (189, .llen 1 (.r 188)), (190, .leq (.r 189) (.z 7818749353073)), (191, .lmk [.i] [.z 95]), (192, .lcat (.r 188) (.r 191)), (193, .llen 1 (.r 192)), (194, .leq (.r 193) (.z 7818749353073))],
  [⟨[], .r 70⟩, ⟨[], .r 74⟩, ⟨[], .r 78⟩, ⟨[], .r 82⟩, ⟨[], .r 86⟩, ⟨[], .r 90⟩, ⟨[], .r 94⟩, ⟨[], .r 98⟩, ⟨[], .r 102⟩, ⟨[], .r 106⟩, ⟨[], .r 110⟩, ⟨[], .r 114⟩, ⟨[], .r 118⟩, ⟨[], .r 122⟩, ⟨[], .r 126⟩, ⟨[], .r 130⟩, ⟨[], .r 134⟩, ⟨[], .r 138⟩, ⟨[], .r 142⟩, ⟨[], .r 146⟩, ⟨[], .r 150⟩, ⟨[], .r 154⟩, ⟨[], .r 158⟩, ⟨[], .r 162⟩, ⟨[], .r 166⟩, ⟨[], .r 170⟩, ⟨[], .r 174⟩, ⟨[], .r 178⟩, ⟨[], .r 182⟩, ⟨[], .r 186⟩, ⟨[], .r 190⟩, ⟨[], .r 194⟩],
  [],
  [.r 66, .r 2, .z 0, .z 0, .r 192]⟩
noncomputable def p9  : Bool :=
  let x0 : List DV := []
  let x67 : List DV := [.i 64]
  let x68 := x0 ++ x67
  let x69 := ((x68.length / 1 : Nat) : Int)
  let x70 := decide (x69 ≤ 7818749353073)
  let x71 : List DV := [.i 65]
  let x72 := x68 ++ x71
  let x73 := ((x72.length / 1 : Nat) : Int)
  let x74 := decide (x73 ≤ 7818749353073)
  let x75 : List DV := [.i 66]
  let x76 := x72 ++ x75
  let x77 := ((x76.length / 1 : Nat) : Int)
  let x78 := decide (x77 ≤ 7818749353073)
  let x79 : List DV := [.i 67]
  let x80 := x76 ++ x79
  let x81 := ((x80.length / 1 : Nat) : Int)
  let x82 := decide (x81 ≤ 7818749353073)
  let x83 : List DV := [.i 68]
  let x84 := x80 ++ x83
  let x85 := ((x84.length / 1 : Nat) : Int)
  let x86 := decide (x85 ≤ 7818749353073)
  let x87 : List DV := [.i 69]
  let x88 := x84 ++ x87
  let x89 := ((x88.length / 1 : Nat) : Int)
  let x90 := decide (x89 ≤ 7818749353073)
  let x91 : List DV := [.i 70]
  let x92 := x88 ++ x91
  let x93 := ((x92.length / 1 : Nat) : Int)
  let x94 := decide (x93 ≤ 7818749353073)
  let x95 : List DV := [.i 71]
  let x96 := x92 ++ x95
  let x97 := ((x96.length / 1 : Nat) : Int)
  let x98 := decide (x97 ≤ 7818749353073)
  let x99 : List DV := [.i 72]
  let x100 := x96 ++ x99
  let x101 := ((x100.length / 1 : Nat) : Int)
  let x102 := decide (x101 ≤ 7818749353073)
  let x103 : List DV := [.i 73]
  let x104 := x100 ++ x103
  let x105 := ((x104.length / 1 : Nat) : Int)
  let x106 := decide (x105 ≤ 7818749353073)
  let x107 : List DV := [.i 74]
  let x108 := x104 ++ x107
  let x109 := ((x108.length / 1 : Nat) : Int)
  let x110 := decide (x109 ≤ 7818749353073)
  let x111 : List DV := [.i 75]
  let x112 := x108 ++ x111
  let x113 := ((x112.length / 1 : Nat) : Int)
  let x114 := decide (x113 ≤ 7818749353073)
  let x115 : List DV := [.i 76]
  let x116 := x112 ++ x115
  let x117 := ((x116.length / 1 : Nat) : Int)
  let x118 := decide (x117 ≤ 7818749353073)
  let x119 : List DV := [.i 77]
  let x120 := x116 ++ x119
  let x121 := ((x120.length / 1 : Nat) : Int)
  let x122 := decide (x121 ≤ 7818749353073)
  let x123 : List DV := [.i 78]
  let x124 := x120 ++ x123
  let x125 := ((x124.length / 1 : Nat) : Int)
  let x126 := decide (x125 ≤ 7818749353073)
  let x127 : List DV := [.i 79]
  let x128 := x124 ++ x127
  let x129 := ((x128.length / 1 : Nat) : Int)
  let x130 := decide (x129 ≤ 7818749353073)
  let x131 : List DV := [.i 80]
  let x132 := x128 ++ x131
  let x133 := ((x132.length / 1 : Nat) : Int)
  let x134 := decide (x133 ≤ 7818749353073)
  let x135 : List DV := [.i 81]
  let x136 := x132 ++ x135
  let x137 := ((x136.length / 1 : Nat) : Int)
  let x138 := decide (x137 ≤ 7818749353073)
  let x139 : List DV := [.i 82]
  let x140 := x136 ++ x139
  let x141 := ((x140.length / 1 : Nat) : Int)
  let x142 := decide (x141 ≤ 7818749353073)
  let x143 : List DV := [.i 83]
  let x144 := x140 ++ x143
  let x145 := ((x144.length / 1 : Nat) : Int)
  let x146 := decide (x145 ≤ 7818749353073)
  let x147 : List DV := [.i 84]
  let x148 := x144 ++ x147
  let x149 := ((x148.length / 1 : Nat) : Int)
  let x150 := decide (x149 ≤ 7818749353073)
  let x151 : List DV := [.i 85]
  let x152 := x148 ++ x151
  let x153 := ((x152.length / 1 : Nat) : Int)
  let x154 := decide (x153 ≤ 7818749353073)
  let x155 : List DV := [.i 86]
  let x156 := x152 ++ x155
  let x157 := ((x156.length / 1 : Nat) : Int)
  let x158 := decide (x157 ≤ 7818749353073)
  let x159 : List DV := [.i 87]
  let x160 := x156 ++ x159
  let x161 := ((x160.length / 1 : Nat) : Int)
  let x162 := decide (x161 ≤ 7818749353073)
  let x163 : List DV := [.i 88]
  let x164 := x160 ++ x163
  let x165 := ((x164.length / 1 : Nat) : Int)
  let x166 := decide (x165 ≤ 7818749353073)
  let x167 : List DV := [.i 89]
  let x168 := x164 ++ x167
  let x169 := ((x168.length / 1 : Nat) : Int)
  let x170 := decide (x169 ≤ 7818749353073)
  let x171 : List DV := [.i 90]
  let x172 := x168 ++ x171
  let x173 := ((x172.length / 1 : Nat) : Int)
  let x174 := decide (x173 ≤ 7818749353073)
  let x175 : List DV := [.i 91]
  let x176 := x172 ++ x175
  let x177 := ((x176.length / 1 : Nat) : Int)
  let x178 := decide (x177 ≤ 7818749353073)
  let x179 : List DV := [.i 92]
  let x180 := x176 ++ x179
  let x181 := ((x180.length / 1 : Nat) : Int)
  let x182 := decide (x181 ≤ 7818749353073)
  let x183 : List DV := [.i 93]
  let x184 := x180 ++ x183
  let x185 := ((x184.length / 1 : Nat) : Int)
  let x186 := decide (x185 ≤ 7818749353073)
  let x187 : List DV := [.i 94]
  let x188 := x184 ++ x187
  let x189 := ((x188.length / 1 : Nat) : Int)
  let x190 := decide (x189 ≤ 7818749353073)
  let x191 : List DV := [.i 95]
  let x192 := x188 ++ x191
  let x193 := ((x192.length / 1 : Nat) : Int)
  let x194 := decide (x193 ≤ 7818749353073)
  [ow [] x70, ow [] x74, ow [] x78, ow [] x82, ow [] x86, ow [] x90, ow [] x94, ow [] x98, ow [] x102, ow [] x106, ow [] x110, ow [] x114, ow [] x118, ow [] x122, ow [] x126, ow [] x130, ow [] x134, ow [] x138, ow [] x142, ow [] x146, ow [] x150, ow [] x154, ow [] x158, ow [] x162, ow [] x166, ow [] x170, ow [] x174, ow [] x178, ow [] x182, ow [] x186, ow [] x190, ow [] x194].all id
noncomputable def r9_0  : List DV :=
  let x1 : List DV := [.i 0, .i 0, .i 0, .i 0, .i 0, .i 0, .i 0, .i 0, .i 0, .i 0, .i 0, .i 0, .i 0, .i 0, .i 0, .i 0, .i 0, .i 0, .i 0, .i 0, .i 0, .i 0, .i 0, .i 0, .i 0, .i 0, .i 0, .i 0, .i 0, .i 0, .i 0, .i 0, .i 0, .i 0, .i 0, .i 0, .i 0, .i 0, .i 0, .i 0, .i 0, .i 0, .i 0, .i 0, .i 0, .i 0, .i 0, .i 0, .i 0, .i 0, .i 0, .i 0, .i 0, .i 0, .i 0, .i 0, .i 0, .i 0, .i 0, .i 0, .i 0, .i 0, .i 0, .i 0]
  let x3 : List DV := (padN 64 x1).set (Int.toNat 0 * (1 : Nat) + (0 : Nat)) (.i 0)
  let x4 : List DV := (padN 64 x3).set (Int.toNat 0 * (1 : Nat) + (1 : Nat)) (.i 1)
  let x5 : List DV := (padN 64 x4).set (Int.toNat 0 * (1 : Nat) + (2 : Nat)) (.i 2)
  let x6 : List DV := (padN 64 x5).set (Int.toNat 0 * (1 : Nat) + (3 : Nat)) (.i 3)
  let x7 : List DV := (padN 64 x6).set (Int.toNat 0 * (1 : Nat) + (4 : Nat)) (.i 4)
  let x8 : List DV := (padN 64 x7).set (Int.toNat 0 * (1 : Nat) + (5 : Nat)) (.i 5)
  let x9 : List DV := (padN 64 x8).set (Int.toNat 0 * (1 : Nat) + (6 : Nat)) (.i 6)
  let x10 : List DV := (padN 64 x9).set (Int.toNat 0 * (1 : Nat) + (7 : Nat)) (.i 7)
  let x11 : List DV := (padN 64 x10).set (Int.toNat 0 * (1 : Nat) + (8 : Nat)) (.i 8)
  let x12 : List DV := (padN 64 x11).set (Int.toNat 0 * (1 : Nat) + (9 : Nat)) (.i 9)
  let x13 : List DV := (padN 64 x12).set (Int.toNat 0 * (1 : Nat) + (10 : Nat)) (.i 10)
  let x14 : List DV := (padN 64 x13).set (Int.toNat 0 * (1 : Nat) + (11 : Nat)) (.i 11)
  let x15 : List DV := (padN 64 x14).set (Int.toNat 0 * (1 : Nat) + (12 : Nat)) (.i 12)
  let x16 : List DV := (padN 64 x15).set (Int.toNat 0 * (1 : Nat) + (13 : Nat)) (.i 13)
  let x17 : List DV := (padN 64 x16).set (Int.toNat 0 * (1 : Nat) + (14 : Nat)) (.i 14)
  let x18 : List DV := (padN 64 x17).set (Int.toNat 0 * (1 : Nat) + (15 : Nat)) (.i 15)
  let x19 : List DV := (padN 64 x18).set (Int.toNat 0 * (1 : Nat) + (16 : Nat)) (.i 16)
  let x20 : List DV := (padN 64 x19).set (Int.toNat 0 * (1 : Nat) + (17 : Nat)) (.i 17)
  let x21 : List DV := (padN 64 x20).set (Int.toNat 0 * (1 : Nat) + (18 : Nat)) (.i 18)
  let x22 : List DV := (padN 64 x21).set (Int.toNat 0 * (1 : Nat) + (19 : Nat)) (.i 19)
  let x23 : List DV := (padN 64 x22).set (Int.toNat 0 * (1 : Nat) + (20 : Nat)) (.i 20)
  let x24 : List DV := (padN 64 x23).set (Int.toNat 0 * (1 : Nat) + (21 : Nat)) (.i 21)
  let x25 : List DV := (padN 64 x24).set (Int.toNat 0 * (1 : Nat) + (22 : Nat)) (.i 22)
  let x26 : List DV := (padN 64 x25).set (Int.toNat 0 * (1 : Nat) + (23 : Nat)) (.i 23)
  let x27 : List DV := (padN 64 x26).set (Int.toNat 0 * (1 : Nat) + (24 : Nat)) (.i 24)
  let x28 : List DV := (padN 64 x27).set (Int.toNat 0 * (1 : Nat) + (25 : Nat)) (.i 25)
  let x29 : List DV := (padN 64 x28).set (Int.toNat 0 * (1 : Nat) + (26 : Nat)) (.i 26)
  let x30 : List DV := (padN 64 x29).set (Int.toNat 0 * (1 : Nat) + (27 : Nat)) (.i 27)
  let x31 : List DV := (padN 64 x30).set (Int.toNat 0 * (1 : Nat) + (28 : Nat)) (.i 28)
  let x32 : List DV := (padN 64 x31).set (Int.toNat 0 * (1 : Nat) + (29 : Nat)) (.i 29)
  let x33 : List DV := (padN 64 x32).set (Int.toNat 0 * (1 : Nat) + (30 : Nat)) (.i 30)
  let x34 : List DV := (padN 64 x33).set (Int.toNat 0 * (1 : Nat) + (31 : Nat)) (.i 31)
  let x35 : List DV := (padN 64 x34).set (Int.toNat 0 * (1 : Nat) + (32 : Nat)) (.i 32)
  let x36 : List DV := (padN 64 x35).set (Int.toNat 0 * (1 : Nat) + (33 : Nat)) (.i 33)
  let x37 : List DV := (padN 64 x36).set (Int.toNat 0 * (1 : Nat) + (34 : Nat)) (.i 34)
  let x38 : List DV := (padN 64 x37).set (Int.toNat 0 * (1 : Nat) + (35 : Nat)) (.i 35)
  let x39 : List DV := (padN 64 x38).set (Int.toNat 0 * (1 : Nat) + (36 : Nat)) (.i 36)
  let x40 : List DV := (padN 64 x39).set (Int.toNat 0 * (1 : Nat) + (37 : Nat)) (.i 37)
  let x41 : List DV := (padN 64 x40).set (Int.toNat 0 * (1 : Nat) + (38 : Nat)) (.i 38)
  let x42 : List DV := (padN 64 x41).set (Int.toNat 0 * (1 : Nat) + (39 : Nat)) (.i 39)
  let x43 : List DV := (padN 64 x42).set (Int.toNat 0 * (1 : Nat) + (40 : Nat)) (.i 40)
  let x44 : List DV := (padN 64 x43).set (Int.toNat 0 * (1 : Nat) + (41 : Nat)) (.i 41)
  let x45 : List DV := (padN 64 x44).set (Int.toNat 0 * (1 : Nat) + (42 : Nat)) (.i 42)
  let x46 : List DV := (padN 64 x45).set (Int.toNat 0 * (1 : Nat) + (43 : Nat)) (.i 43)
  let x47 : List DV := (padN 64 x46).set (Int.toNat 0 * (1 : Nat) + (44 : Nat)) (.i 44)
  let x48 : List DV := (padN 64 x47).set (Int.toNat 0 * (1 : Nat) + (45 : Nat)) (.i 45)
  let x49 : List DV := (padN 64 x48).set (Int.toNat 0 * (1 : Nat) + (46 : Nat)) (.i 46)
  let x50 : List DV := (padN 64 x49).set (Int.toNat 0 * (1 : Nat) + (47 : Nat)) (.i 47)
  let x51 : List DV := (padN 64 x50).set (Int.toNat 0 * (1 : Nat) + (48 : Nat)) (.i 48)
  let x52 : List DV := (padN 64 x51).set (Int.toNat 0 * (1 : Nat) + (49 : Nat)) (.i 49)
  let x53 : List DV := (padN 64 x52).set (Int.toNat 0 * (1 : Nat) + (50 : Nat)) (.i 50)
  let x54 : List DV := (padN 64 x53).set (Int.toNat 0 * (1 : Nat) + (51 : Nat)) (.i 51)
  let x55 : List DV := (padN 64 x54).set (Int.toNat 0 * (1 : Nat) + (52 : Nat)) (.i 52)
  let x56 : List DV := (padN 64 x55).set (Int.toNat 0 * (1 : Nat) + (53 : Nat)) (.i 53)
  let x57 : List DV := (padN 64 x56).set (Int.toNat 0 * (1 : Nat) + (54 : Nat)) (.i 54)
  let x58 : List DV := (padN 64 x57).set (Int.toNat 0 * (1 : Nat) + (55 : Nat)) (.i 55)
  let x59 : List DV := (padN 64 x58).set (Int.toNat 0 * (1 : Nat) + (56 : Nat)) (.i 56)
  let x60 : List DV := (padN 64 x59).set (Int.toNat 0 * (1 : Nat) + (57 : Nat)) (.i 57)
  let x61 : List DV := (padN 64 x60).set (Int.toNat 0 * (1 : Nat) + (58 : Nat)) (.i 58)
  let x62 : List DV := (padN 64 x61).set (Int.toNat 0 * (1 : Nat) + (59 : Nat)) (.i 59)
  let x63 : List DV := (padN 64 x62).set (Int.toNat 0 * (1 : Nat) + (60 : Nat)) (.i 60)
  let x64 : List DV := (padN 64 x63).set (Int.toNat 0 * (1 : Nat) + (61 : Nat)) (.i 61)
  let x65 : List DV := (padN 64 x64).set (Int.toNat 0 * (1 : Nat) + (62 : Nat)) (.i 62)
  let x66 : List DV := (padN 64 x65).set (Int.toNat 0 * (1 : Nat) + (63 : Nat)) (.i 63)
  x66
noncomputable def r9_1  : List DV :=
  let x2 : List DV := [.i 0, .i 0, .i 0, .b false, .i 0, .i 0, .i 0, .b false, .i 0, .i 0, .i 0, .b false, .i 0, .i 0, .i 0, .b false, .i 0, .i 0, .i 0, .b false, .i 0, .i 0, .i 0, .b false, .i 0, .i 0, .i 0, .b false, .i 0, .i 0, .i 0, .b false, .i 0, .i 0, .i 0, .b false, .i 0, .i 0, .i 0, .b false, .i 0, .i 0, .i 0, .b false, .i 0, .i 0, .i 0, .b false, .i 0, .i 0, .i 0, .b false, .i 0, .i 0, .i 0, .b false, .i 0, .i 0, .i 0, .b false, .i 0, .i 0, .i 0, .b false]
  x2
noncomputable def r9_2  : Int :=
  0
noncomputable def r9_3  : Int :=
  0
noncomputable def r9_4  : List DV :=
  let x0 : List DV := []
  let x67 : List DV := [.i 64]
  let x68 := x0 ++ x67
  let x71 : List DV := [.i 65]
  let x72 := x68 ++ x71
  let x75 : List DV := [.i 66]
  let x76 := x72 ++ x75
  let x79 : List DV := [.i 67]
  let x80 := x76 ++ x79
  let x83 : List DV := [.i 68]
  let x84 := x80 ++ x83
  let x87 : List DV := [.i 69]
  let x88 := x84 ++ x87
  let x91 : List DV := [.i 70]
  let x92 := x88 ++ x91
  let x95 : List DV := [.i 71]
  let x96 := x92 ++ x95
  let x99 : List DV := [.i 72]
  let x100 := x96 ++ x99
  let x103 : List DV := [.i 73]
  let x104 := x100 ++ x103
  let x107 : List DV := [.i 74]
  let x108 := x104 ++ x107
  let x111 : List DV := [.i 75]
  let x112 := x108 ++ x111
  let x115 : List DV := [.i 76]
  let x116 := x112 ++ x115
  let x119 : List DV := [.i 77]
  let x120 := x116 ++ x119
  let x123 : List DV := [.i 78]
  let x124 := x120 ++ x123
  let x127 : List DV := [.i 79]
  let x128 := x124 ++ x127
  let x131 : List DV := [.i 80]
  let x132 := x128 ++ x131
  let x135 : List DV := [.i 81]
  let x136 := x132 ++ x135
  let x139 : List DV := [.i 82]
  let x140 := x136 ++ x139
  let x143 : List DV := [.i 83]
  let x144 := x140 ++ x143
  let x147 : List DV := [.i 84]
  let x148 := x144 ++ x147
  let x151 : List DV := [.i 85]
  let x152 := x148 ++ x151
  let x155 : List DV := [.i 86]
  let x156 := x152 ++ x155
  let x159 : List DV := [.i 87]
  let x160 := x156 ++ x159
  let x163 : List DV := [.i 88]
  let x164 := x160 ++ x163
  let x167 : List DV := [.i 89]
  let x168 := x164 ++ x167
  let x171 : List DV := [.i 90]
  let x172 := x168 ++ x171
  let x175 : List DV := [.i 91]
  let x176 := x172 ++ x175
  let x179 : List DV := [.i 92]
  let x180 := x176 ++ x179
  let x183 : List DV := [.i 93]
  let x184 := x180 ++ x183
  let x187 : List DV := [.i 94]
  let x188 := x184 ++ x187
  let x191 : List DV := [.i 95]
  let x192 := x188 ++ x191
  x192
noncomputable def g9 (_ds : List DV) : List DV := [.b (p9 ), .l (r9_0 ), .l (r9_1 ), .i (r9_2 ), .i (r9_3 ), .l (r9_4 )]
def S9 : Sigs := ⟨[], [], [], 0, []⟩

def s14 : Sig := ⟨[.s (.one (.p 1 (.c 0))), .s (.one (.i .i64 (.h 5)))], [some (.v true [.int .i64] (.h 1)), some (.c true (List.append (List.append (List.append (((eRun (.h 0) [.int .i64] 0 64).map some)) ([some (.vec 0)])) (((eRun (.h 2) [.int .i64, .int .i64, .int .i64, .bool] 0 64).map some))) ([some (.i .i64 (.h 3)), some (.i .i64 (.h 4))])))], [.l, .l, .l, .i, .i, .i], .s (.one (.b (.h 0))), [some (.v true [.int .i64] (.h 1)), some (.c true (List.append (List.append (List.append (((eRun (.h 2) [.int .i64] 0 64).map some)) ([some (.vec 0)])) (((eRun (.h 3) [.int .i64, .int .i64, .int .i64, .bool] 0 64).map some))) ([some (.i .i64 (.h 4)), some (.i .i64 (.h 5))])))], [.b, .l, .l, .l, .i, .i], true⟩
def o14 : Out := ⟨[(6, .call 28 (idsFrom 0 6) 0), (7, .lss (.r 6) (.z 0)), (8, .geq (.r 5) (.z 0)), (9, .lss (.r 5) (.z 16)), (10, .lgetb 4 3 (.r 2) (.r 5)), (11, .or (.r 7) (.r 10)), (12, .not (.r 11)), (13, .geq (.r 5) (.z 0)), (14, .lss (.r 5) (.z 16)), (15, .aset 64 4 3 .b (.r 2) (.r 5) (.t true)), (16, .itel (.r 12) (.r 15) (.r 2))],
  [⟨[(.r 7, false)], .r 8⟩, ⟨[(.r 7, false)], .r 9⟩, ⟨[(.r 12, true)], .r 13⟩, ⟨[(.r 12, true)], .r 14⟩],
  [],
  [.r 12, .r 1, .r 0, .r 16, .r 3, .r 4]⟩
noncomputable def p14 (x2 : List DV) (x3 : Int) (x4 : Int) (x5 : Int) : Bool :=
  let x6 := r28_0 x3 x4 x5
  let x7 := decide (x6 < 0)
  let x8 := decide (x5 ≥ 0)
  let x9 := decide (x5 < 16)
  let x10 : Bool := (x2.getD (Int.toNat x5 * (4 : Nat) + (3 : Nat)) default).toB
  let x11 := x7 || x10
  let x12 := !x11
  let x13 := decide (x5 ≥ 0)
  let x14 := decide (x5 < 16)
  [ow [(x7, false)] x8, ow [(x7, false)] x9, ow [(x12, true)] x13, ow [(x12, true)] x14].all id
noncomputable def r14_0 (x2 : List DV) (x3 : Int) (x4 : Int) (x5 : Int) : Bool :=
  let x6 := r28_0 x3 x4 x5
  let x7 := decide (x6 < 0)
  let x10 : Bool := (x2.getD (Int.toNat x5 * (4 : Nat) + (3 : Nat)) default).toB
  let x11 := x7 || x10
  let x12 := !x11
  x12
noncomputable def r14_1 (x1 : List DV) : List DV :=
  x1
noncomputable def r14_2 (x0 : List DV) : List DV :=
  x0
noncomputable def r14_3 (x2 : List DV) (x3 : Int) (x4 : Int) (x5 : Int) : List DV :=
  let x6 := r28_0 x3 x4 x5
  let x7 := decide (x6 < 0)
  let x10 : Bool := (x2.getD (Int.toNat x5 * (4 : Nat) + (3 : Nat)) default).toB
  let x11 := x7 || x10
  let x12 := !x11
  let x15 : List DV := (padN 64 x2).set (Int.toNat x5 * (4 : Nat) + (3 : Nat)) (.b true)
  let x16 := bif x12 then x15 else x2
  x16
noncomputable def r14_4 (x3 : Int) : Int :=
  x3
noncomputable def r14_5 (x4 : Int) : Int :=
  x4
noncomputable def g14 (ds : List DV) : List DV := [.b (p14 (dget ds 2).toL (dget ds 3).toI (dget ds 4).toI (dget ds 5).toI), .b (r14_0 (dget ds 2).toL (dget ds 3).toI (dget ds 4).toI (dget ds 5).toI), .l (r14_1 (dget ds 1).toL), .l (r14_2 (dget ds 0).toL), .l (r14_3 (dget ds 2).toL (dget ds 3).toI (dget ds 4).toI (dget ds 5).toI), .i (r14_4 (dget ds 3).toI), .i (r14_5 (dget ds 4).toI)]
def S14 : Sigs := ⟨[(28, s28)], [], [], 2, []⟩

noncomputable def w101600 (x5 : Int) (x2 : List DV) (_x0 : List DV) (x7 : List DV) (_x8 : List DV) (x9 : List DV) (x10 : Int) (x11 : Int) (_x12 : List DV) : Bool :=
  let x13 := ((x7.length / 1 : Nat) : Int)
  let x14 := decide (x13 < x5)
  let x15 := decide (x11 > 0)
  let x16 := x14 && x15
  let x17 := decide (x10 ≥ 0)
  let x18 := decide (x10 < 16)
  let x19 : Bool := (x2.getD (Int.toNat x10 * (4 : Nat) + (3 : Nat)) default).toB
  let x20 := x16 && x19
  let x21 := decide (x10 ≥ 0)
  let x22 := decide (x10 < 16)
  let x23 : Int := (x2.getD (Int.toNat x10 * (4 : Nat) + (2 : Nat)) default).toI
  let x24 := ige x23 0
  let x25 : List DV := [.i x23]
  let x26 := x9 ++ x25
  let x27 := ((x26.length / 1 : Nat) : Int)
  let x28 := decide (x27 ≤ 7818749353073)
  let x30 : List DV := [.i x10]
  let x31 := x7 ++ x30
  let x32 := ((x31.length / 1 : Nat) : Int)
  let x33 := decide (x32 ≤ 7818749353073)
  [ow [(x16, true)] x17, ow [(x16, true)] x18, ow [(x20, true)] x21, ow [(x20, true)] x22, ow [(x20, true), (x24, true)] x28, ow [(x20, true)] x33].all id
noncomputable def c101600 (x5 : Int) (x2 : List DV) (_x0 : List DV) (x7 : List DV) (_x8 : List DV) (_x9 : List DV) (x10 : Int) (x11 : Int) (_x12 : List DV) : Bool :=
  let x13 := ((x7.length / 1 : Nat) : Int)
  let x14 := decide (x13 < x5)
  let x15 := decide (x11 > 0)
  let x16 := x14 && x15
  let x19 : Bool := (x2.getD (Int.toNat x10 * (4 : Nat) + (3 : Nat)) default).toB
  let x20 := x16 && x19
  x20
noncomputable def n101600_0 (_x5 : Int) (_x2 : List DV) (_x0 : List DV) (x7 : List DV) (_x8 : List DV) (_x9 : List DV) (x10 : Int) (_x11 : Int) (_x12 : List DV) : List DV :=
  let x30 : List DV := [.i x10]
  let x31 := x7 ++ x30
  x31
noncomputable def n101600_1 (_x5 : Int) (_x2 : List DV) (x0 : List DV) (_x7 : List DV) (_x8 : List DV) (_x9 : List DV) (_x10 : Int) (_x11 : Int) (_x12 : List DV) : List DV :=
  x0
noncomputable def n101600_2 (_x5 : Int) (x2 : List DV) (_x0 : List DV) (_x7 : List DV) (_x8 : List DV) (x9 : List DV) (x10 : Int) (_x11 : Int) (_x12 : List DV) : List DV :=
  let x23 : Int := (x2.getD (Int.toNat x10 * (4 : Nat) + (2 : Nat)) default).toI
  let x24 := ige x23 0
  let x25 : List DV := [.i x23]
  let x26 := x9 ++ x25
  let x29 := bif x24 then x26 else x9
  x29
noncomputable def n101600_3 (_x5 : Int) (x2 : List DV) (x0 : List DV) (_x7 : List DV) (_x8 : List DV) (x9 : List DV) (x10 : Int) (x11 : Int) (_x12 : List DV) : Int :=
  let x34 := r26_0 x10 1
  x34
noncomputable def n101600_4 (_x5 : Int) (_x2 : List DV) (_x0 : List DV) (_x7 : List DV) (_x8 : List DV) (_x9 : List DV) (_x10 : Int) (x11 : Int) (_x12 : List DV) : Int :=
  let x35 := IntKind.wrap .i64 (x11 - 1)
  x35
noncomputable def n101600_5 (_x5 : Int) (_x2 : List DV) (x0 : List DV) (_x7 : List DV) (_x8 : List DV) (_x9 : List DV) (_x10 : Int) (_x11 : Int) (_x12 : List DV) : List DV :=
  x0
noncomputable def t101600_0 (_x5 : Int) (_x2 : List DV) (_x0 : List DV) (_x7 : List DV) (_x8 : List DV) (_x9 : List DV) (_x10 : Int) (_x11 : Int) (_x12 : List DV) : Int :=
  0
noncomputable def t101600_1 (_x5 : Int) (_x2 : List DV) (_x0 : List DV) (x7 : List DV) (_x8 : List DV) (_x9 : List DV) (_x10 : Int) (_x11 : Int) (_x12 : List DV) : List DV :=
  x7
noncomputable def t101600_2 (_x5 : Int) (_x2 : List DV) (x0 : List DV) (_x7 : List DV) (_x8 : List DV) (_x9 : List DV) (_x10 : Int) (_x11 : Int) (_x12 : List DV) : List DV :=
  x0
noncomputable def t101600_3 (_x5 : Int) (_x2 : List DV) (_x0 : List DV) (_x7 : List DV) (_x8 : List DV) (x9 : List DV) (_x10 : Int) (_x11 : Int) (_x12 : List DV) : List DV :=
  x9
noncomputable def t101600_4 (_x5 : Int) (_x2 : List DV) (_x0 : List DV) (_x7 : List DV) (_x8 : List DV) (_x9 : List DV) (x10 : Int) (_x11 : Int) (_x12 : List DV) : Int :=
  x10
noncomputable def t101600_5 (_x5 : Int) (_x2 : List DV) (_x0 : List DV) (_x7 : List DV) (_x8 : List DV) (_x9 : List DV) (_x10 : Int) (x11 : Int) (_x12 : List DV) : Int :=
  x11
noncomputable def t101600_6 (_x5 : Int) (_x2 : List DV) (x0 : List DV) (_x7 : List DV) (_x8 : List DV) (_x9 : List DV) (_x10 : Int) (_x11 : Int) (_x12 : List DV) : List DV :=
  x0
noncomputable def W101600 (ds : List DV) : Bool := w101600 (dget ds 0).toI (dget ds 1).toL (dget ds 2).toL (dget ds 3).toL (dget ds 4).toL (dget ds 5).toL (dget ds 6).toI (dget ds 7).toI (dget ds 8).toL
noncomputable def C101600 (ds : List DV) : Bool := c101600 (dget ds 0).toI (dget ds 1).toL (dget ds 2).toL (dget ds 3).toL (dget ds 4).toL (dget ds 5).toL (dget ds 6).toI (dget ds 7).toI (dget ds 8).toL
noncomputable def N101600 (ds : List DV) : List DV := [.i (dget ds 0).toI, .l (dget ds 1).toL, .l (dget ds 2).toL, .l (n101600_0 (dget ds 0).toI (dget ds 1).toL (dget ds 2).toL (dget ds 3).toL (dget ds 4).toL (dget ds 5).toL (dget ds 6).toI (dget ds 7).toI (dget ds 8).toL), .l (n101600_1 (dget ds 0).toI (dget ds 1).toL (dget ds 2).toL (dget ds 3).toL (dget ds 4).toL (dget ds 5).toL (dget ds 6).toI (dget ds 7).toI (dget ds 8).toL), .l (n101600_2 (dget ds 0).toI (dget ds 1).toL (dget ds 2).toL (dget ds 3).toL (dget ds 4).toL (dget ds 5).toL (dget ds 6).toI (dget ds 7).toI (dget ds 8).toL), .i (n101600_3 (dget ds 0).toI (dget ds 1).toL (dget ds 2).toL (dget ds 3).toL (dget ds 4).toL (dget ds 5).toL (dget ds 6).toI (dget ds 7).toI (dget ds 8).toL), .i (n101600_4 (dget ds 0).toI (dget ds 1).toL (dget ds 2).toL (dget ds 3).toL (dget ds 4).toL (dget ds 5).toL (dget ds 6).toI (dget ds 7).toI (dget ds 8).toL), .l (n101600_5 (dget ds 0).toI (dget ds 1).toL (dget ds 2).toL (dget ds 3).toL (dget ds 4).toL (dget ds 5).toL (dget ds 6).toI (dget ds 7).toI (dget ds 8).toL)]
noncomputable def T101600 (ds : List DV) : List DV := [.i (t101600_0 (dget ds 0).toI (dget ds 1).toL (dget ds 2).toL (dget ds 3).toL (dget ds 4).toL (dget ds 5).toL (dget ds 6).toI (dget ds 7).toI (dget ds 8).toL), .l (t101600_1 (dget ds 0).toI (dget ds 1).toL (dget ds 2).toL (dget ds 3).toL (dget ds 4).toL (dget ds 5).toL (dget ds 6).toI (dget ds 7).toI (dget ds 8).toL), .l (t101600_2 (dget ds 0).toI (dget ds 1).toL (dget ds 2).toL (dget ds 3).toL (dget ds 4).toL (dget ds 5).toL (dget ds 6).toI (dget ds 7).toI (dget ds 8).toL), .l (t101600_3 (dget ds 0).toI (dget ds 1).toL (dget ds 2).toL (dget ds 3).toL (dget ds 4).toL (dget ds 5).toL (dget ds 6).toI (dget ds 7).toI (dget ds 8).toL), .i (t101600_4 (dget ds 0).toI (dget ds 1).toL (dget ds 2).toL (dget ds 3).toL (dget ds 4).toL (dget ds 5).toL (dget ds 6).toI (dget ds 7).toI (dget ds 8).toL), .i (t101600_5 (dget ds 0).toI (dget ds 1).toL (dget ds 2).toL (dget ds 3).toL (dget ds 4).toL (dget ds 5).toL (dget ds 6).toI (dget ds 7).toI (dget ds 8).toL), .l (t101600_6 (dget ds 0).toI (dget ds 1).toL (dget ds 2).toL (dget ds 3).toL (dget ds 4).toL (dget ds 5).toL (dget ds 6).toI (dget ds 7).toI (dget ds 8).toL)]
noncomputable def L101600 (x0 : Int) (x1 : List DV) (x2 : List DV) (x3 : List DV) (x4 : List DV) (x5 : List DV) (x6 : Int) (x7 : Int) (x8 : List DV) : Option (List DV) := loopG W101600 C101600 N101600 T101600 [.i x0, .l x1, .l x2, .l x3, .l x4, .l x5, .i x6, .i x7, .l x8]
noncomputable def p101600 (x0 : Int) (x1 : List DV) (x2 : List DV) (x3 : List DV) (x4 : List DV) (x5 : List DV) (x6 : Int) (x7 : Int) (x8 : List DV) : Bool := (L101600 x0 x1 x2 x3 x4 x5 x6 x7 x8).isSome
noncomputable def r101600_0 (x0 : Int) (x1 : List DV) (x2 : List DV) (x3 : List DV) (x4 : List DV) (x5 : List DV) (x6 : Int) (x7 : Int) (x8 : List DV) : Int := (dget ((L101600 x0 x1 x2 x3 x4 x5 x6 x7 x8).getD []) 0).toI
noncomputable def r101600_1 (x0 : Int) (x1 : List DV) (x2 : List DV) (x3 : List DV) (x4 : List DV) (x5 : List DV) (x6 : Int) (x7 : Int) (x8 : List DV) : List DV := (dget ((L101600 x0 x1 x2 x3 x4 x5 x6 x7 x8).getD []) 1).toL
noncomputable def r101600_2 (x0 : Int) (x1 : List DV) (x2 : List DV) (x3 : List DV) (x4 : List DV) (x5 : List DV) (x6 : Int) (x7 : Int) (x8 : List DV) : List DV := (dget ((L101600 x0 x1 x2 x3 x4 x5 x6 x7 x8).getD []) 2).toL
noncomputable def r101600_3 (x0 : Int) (x1 : List DV) (x2 : List DV) (x3 : List DV) (x4 : List DV) (x5 : List DV) (x6 : Int) (x7 : Int) (x8 : List DV) : List DV := (dget ((L101600 x0 x1 x2 x3 x4 x5 x6 x7 x8).getD []) 3).toL
noncomputable def r101600_4 (x0 : Int) (x1 : List DV) (x2 : List DV) (x3 : List DV) (x4 : List DV) (x5 : List DV) (x6 : Int) (x7 : Int) (x8 : List DV) : Int := (dget ((L101600 x0 x1 x2 x3 x4 x5 x6 x7 x8).getD []) 4).toI
noncomputable def r101600_5 (x0 : Int) (x1 : List DV) (x2 : List DV) (x3 : List DV) (x4 : List DV) (x5 : List DV) (x6 : Int) (x7 : Int) (x8 : List DV) : Int := (dget ((L101600 x0 x1 x2 x3 x4 x5 x6 x7 x8).getD []) 5).toI
noncomputable def r101600_6 (x0 : Int) (x1 : List DV) (x2 : List DV) (x3 : List DV) (x4 : List DV) (x5 : List DV) (x6 : Int) (x7 : Int) (x8 : List DV) : List DV := (dget ((L101600 x0 x1 x2 x3 x4 x5 x6 x7 x8).getD []) 6).toL
noncomputable def g101600 (ds : List DV) : List DV := [.b (p101600 (dget ds 0).toI (dget ds 1).toL (dget ds 2).toL (dget ds 3).toL (dget ds 4).toL (dget ds 5).toL (dget ds 6).toI (dget ds 7).toI (dget ds 8).toL), .i (r101600_0 (dget ds 0).toI (dget ds 1).toL (dget ds 2).toL (dget ds 3).toL (dget ds 4).toL (dget ds 5).toL (dget ds 6).toI (dget ds 7).toI (dget ds 8).toL), .l (r101600_1 (dget ds 0).toI (dget ds 1).toL (dget ds 2).toL (dget ds 3).toL (dget ds 4).toL (dget ds 5).toL (dget ds 6).toI (dget ds 7).toI (dget ds 8).toL), .l (r101600_2 (dget ds 0).toI (dget ds 1).toL (dget ds 2).toL (dget ds 3).toL (dget ds 4).toL (dget ds 5).toL (dget ds 6).toI (dget ds 7).toI (dget ds 8).toL), .l (r101600_3 (dget ds 0).toI (dget ds 1).toL (dget ds 2).toL (dget ds 3).toL (dget ds 4).toL (dget ds 5).toL (dget ds 6).toI (dget ds 7).toI (dget ds 8).toL), .i (r101600_4 (dget ds 0).toI (dget ds 1).toL (dget ds 2).toL (dget ds 3).toL (dget ds 4).toL (dget ds 5).toL (dget ds 6).toI (dget ds 7).toI (dget ds 8).toL), .i (r101600_5 (dget ds 0).toI (dget ds 1).toL (dget ds 2).toL (dget ds 3).toL (dget ds 4).toL (dget ds 5).toL (dget ds 6).toI (dget ds 7).toI (dget ds 8).toL), .l (r101600_6 (dget ds 0).toI (dget ds 1).toL (dget ds 2).toL (dget ds 3).toL (dget ds 4).toL (dget ds 5).toL (dget ds 6).toI (dget ds 7).toI (dget ds 8).toL)]
def h101600 : LH := ⟨[(5, [.int .i64])], [], [(1, [(64, 1), (129, 2)])], [0, 2]⟩
def l16_0 : LR := ⟨101600, 7, 6, [5, 2, 0], [(13, .llen 1 (.r 7)), (14, .lss (.r 13) (.r 5)), (15, .gtr (.r 11) (.z 0)), (16, .and (.r 14) (.r 15)), (17, .geq (.r 10) (.z 0)), (18, .lss (.r 10) (.z 16)), (19, .lgetb 4 3 (.r 2) (.r 10)), (20, .and (.r 16) (.r 19)), (21, .geq (.r 10) (.z 0)), (22, .lss (.r 10) (.z 16)), (23, .lgeti 4 2 (.r 2) (.r 10)), (24, .geq (.r 23) (.z 0)), (25, .lmk [.i] [.r 23]), (26, .lcat (.r 9) (.r 25)), (27, .llen 1 (.r 26)), (28, .leq (.r 27) (.z 7818749353073)), (29, .itel (.r 24) (.r 26) (.r 9)), (30, .lmk [.i] [.r 10]), (31, .lcat (.r 7) (.r 30)), (32, .llen 1 (.r 31)), (33, .leq (.r 32) (.z 7818749353073)), (34, .call 26 [.r 0, .r 29, .r 2, .r 10, .r 11, .z 1] 0), (35, .sub .i64 (.r 11) (.z 1))], [⟨[(.r 16, true)], .r 17⟩, ⟨[(.r 16, true)], .r 18⟩, ⟨[(.r 20, true)], .r 21⟩, ⟨[(.r 20, true)], .r 22⟩, ⟨[(.r 20, true), (.r 24, true)], .r 28⟩, ⟨[(.r 20, true)], .r 33⟩], .r 20, [.r 31, .r 0, .r 29, .r 34, .r 35, .r 0], [.z 0, .r 7, .r 0, .r 9, .r 10, .r 11, .r 0], [.l, .l, .l, .i, .i, .l], h101600⟩
def s16 : Sig := ⟨[.s (.one (.p 1 (.c 0))), .s (.one (.i .i64 (.h 5)))], [some (.v true [.int .i64] (.h 1)), some (.c true (List.append (List.append (List.append (((eRun (.h 0) [.int .i64] 0 64).map some)) ([some (.vec 0)])) (((eRun (.h 2) [.int .i64, .int .i64, .int .i64, .bool] 0 64).map some))) ([some (.i .i64 (.h 3)), some (.i .i64 (.h 4))])))], [.l, .l, .l, .i, .i, .i], .s (.one (.vec 2)), [none, some (.c true (List.append (List.append (List.append (((eRun (.h 0) [.int .i64] 0 64).map some)) ([some (.vec 3)])) (((eRun (.h 1) [.int .i64, .int .i64, .int .i64, .bool] 0 64).map some))) ([some (.i .i64 (.h 2)), some (.i .i64 (.h 3))]))), some (.v true [.int .i64] (.h 4)), some (.v true [.int .i64] (.h 5))], [.l, .l, .i, .i, .l, .l], true⟩
def o16 : Out := ⟨List.append ([(6, .lmk [] [])]) (callsAt 7 101600 [.r 5, .r 2, .r 0, .r 6, .r 0, .r 1, .r 3, .r 4, .r 0] 0 8),
  [⟨[], .r 7⟩],
  [l16_0],
  [.r 0, .r 2, .r 12, .r 13, .r 9, .r 11]⟩
noncomputable def p16 (x0 : List DV) (x1 : List DV) (x2 : List DV) (x3 : Int) (x4 : Int) (x5 : Int) : Bool :=
  let x6 : List DV := []
  let y7 : List DV := g101600 [.i x5, .l x2, .l x0, .l x6, .l x0, .l x1, .i x3, .i x4, .l x0]
  let x7 : Bool := (dget y7 0).toB
  [ow [] x7].all id
noncomputable def r16_0 (x0 : List DV) : List DV :=
  x0
noncomputable def r16_1 (x2 : List DV) : List DV :=
  x2
noncomputable def r16_2 (x0 : List DV) (x1 : List DV) (x2 : List DV) (x3 : Int) (x4 : Int) (x5 : Int) : Int :=
  let x6 : List DV := []
  let y12 : List DV := g101600 [.i x5, .l x2, .l x0, .l x6, .l x0, .l x1, .i x3, .i x4, .l x0]
  let x12 : Int := (dget y12 5).toI
  x12
noncomputable def r16_3 (x0 : List DV) (x1 : List DV) (x2 : List DV) (x3 : Int) (x4 : Int) (x5 : Int) : Int :=
  let x6 : List DV := []
  let y13 : List DV := g101600 [.i x5, .l x2, .l x0, .l x6, .l x0, .l x1, .i x3, .i x4, .l x0]
  let x13 : Int := (dget y13 6).toI
  x13
noncomputable def r16_4 (x0 : List DV) (x1 : List DV) (x2 : List DV) (x3 : Int) (x4 : Int) (x5 : Int) : List DV :=
  let x6 : List DV := []
  let y9 : List DV := g101600 [.i x5, .l x2, .l x0, .l x6, .l x0, .l x1, .i x3, .i x4, .l x0]
  let x9 : List DV := (dget y9 2).toL
  x9
noncomputable def r16_5 (x0 : List DV) (x1 : List DV) (x2 : List DV) (x3 : Int) (x4 : Int) (x5 : Int) : List DV :=
  let x6 : List DV := []
  let y11 : List DV := g101600 [.i x5, .l x2, .l x0, .l x6, .l x0, .l x1, .i x3, .i x4, .l x0]
  let x11 : List DV := (dget y11 4).toL
  x11
noncomputable def g16 (ds : List DV) : List DV := [.b (p16 (dget ds 0).toL (dget ds 1).toL (dget ds 2).toL (dget ds 3).toI (dget ds 4).toI (dget ds 5).toI), .l (r16_0 (dget ds 0).toL), .l (r16_1 (dget ds 2).toL), .i (r16_2 (dget ds 0).toL (dget ds 1).toL (dget ds 2).toL (dget ds 3).toI (dget ds 4).toI (dget ds 5).toI), .i (r16_3 (dget ds 0).toL (dget ds 1).toL (dget ds 2).toL (dget ds 3).toI (dget ds 4).toI (dget ds 5).toI), .l (r16_4 (dget ds 0).toL (dget ds 1).toL (dget ds 2).toL (dget ds 3).toI (dget ds 4).toI (dget ds 5).toI), .l (r16_5 (dget ds 0).toL (dget ds 1).toL (dget ds 2).toL (dget ds 3).toI (dget ds 4).toI (dget ds 5).toI)]
def S16 : Sigs := ⟨[(26, s26)], [], [(0, 101600)], 2, [(101600, h101600)]⟩

noncomputable def w101102 (x20 : Int) (x21 : Int) (x22 : Int) (_x11 : List DV) (x34 : Int) (_x35 : Int) (_x36 : Int) (_x37 : Int) : Bool :=
  let x38 := decide (x34 < 3)
  let x39 := decide (x34 ≥ 0)
  let x40 := decide (x34 < 3)
  let x41 := [x20, x21, x22].getD (Int.toNat x34) 0
  let x42 := decide (x34 ≥ 0)
  let x43 := decide (x34 < 3)
  let x50 := decide (x41 ≥ 0)
  let x51 := decide (x41 < 64)
  let x52 := x50 && x51
  let x53 := decide (x41 ≥ 0)
  let x54 := decide (x41 < 64)
  let x56 := decide (x34 ≥ 0)
  let x57 := decide (x34 < 3)
  [ow [(x38, true)] x39, ow [(x38, true)] x40, ow [(x38, true)] x42, ow [(x38, true)] x43, ow [(x38, true), (x52, true)] x53, ow [(x38, true), (x52, true)] x54, ow [(x38, true), (x52, true)] x56, ow [(x38, true), (x52, true)] x57].all id
noncomputable def c101102 (_x20 : Int) (_x21 : Int) (_x22 : Int) (_x11 : List DV) (x34 : Int) (_x35 : Int) (_x36 : Int) (_x37 : Int) : Bool :=
  let x38 := decide (x34 < 3)
  x38
noncomputable def n101102_0 (_x20 : Int) (_x21 : Int) (_x22 : Int) (_x11 : List DV) (x34 : Int) (_x35 : Int) (_x36 : Int) (_x37 : Int) : Int :=
  let x67 := IntKind.wrap .i64 (x34 + 1)
  x67
noncomputable def n101102_1 (x20 : Int) (x21 : Int) (x22 : Int) (x11 : List DV) (x34 : Int) (x35 : Int) (_x36 : Int) (_x37 : Int) : Int :=
  let x41 := [x20, x21, x22].getD (Int.toNat x34) 0
  let x44 := x34 == 0
  let x45 := bif x44 then (-1) else x35
  let x50 := decide (x41 ≥ 0)
  let x51 := decide (x41 < 64)
  let x52 := x50 && x51
  let x55 : Int := (x11.getD (Int.toNat x41 * (1 : Nat) + (0 : Nat)) default).toI
  let x58 := x34 == 0
  let x59 := bif x58 then x55 else x45
  let x64 := bif x52 then x59 else x45
  x64
noncomputable def n101102_2 (x20 : Int) (x21 : Int) (x22 : Int) (x11 : List DV) (x34 : Int) (_x35 : Int) (x36 : Int) (_x37 : Int) : Int :=
  let x41 := [x20, x21, x22].getD (Int.toNat x34) 0
  let x46 := x34 == 1
  let x47 := bif x46 then (-1) else x36
  let x50 := decide (x41 ≥ 0)
  let x51 := decide (x41 < 64)
  let x52 := x50 && x51
  let x55 : Int := (x11.getD (Int.toNat x41 * (1 : Nat) + (0 : Nat)) default).toI
  let x60 := x34 == 1
  let x61 := bif x60 then x55 else x47
  let x65 := bif x52 then x61 else x47
  x65
noncomputable def n101102_3 (x20 : Int) (x21 : Int) (x22 : Int) (x11 : List DV) (x34 : Int) (_x35 : Int) (_x36 : Int) (x37 : Int) : Int :=
  let x41 := [x20, x21, x22].getD (Int.toNat x34) 0
  let x48 := x34 == 2
  let x49 := bif x48 then (-1) else x37
  let x50 := decide (x41 ≥ 0)
  let x51 := decide (x41 < 64)
  let x52 := x50 && x51
  let x55 : Int := (x11.getD (Int.toNat x41 * (1 : Nat) + (0 : Nat)) default).toI
  let x62 := x34 == 2
  let x63 := bif x62 then x55 else x49
  let x66 := bif x52 then x63 else x49
  x66
noncomputable def t101102_0 (_x20 : Int) (_x21 : Int) (_x22 : Int) (_x11 : List DV) (_x34 : Int) (_x35 : Int) (_x36 : Int) (_x37 : Int) : Int :=
  0
noncomputable def t101102_1 (_x20 : Int) (_x21 : Int) (_x22 : Int) (_x11 : List DV) (x34 : Int) (_x35 : Int) (_x36 : Int) (_x37 : Int) : Int :=
  x34
noncomputable def t101102_2 (_x20 : Int) (_x21 : Int) (_x22 : Int) (_x11 : List DV) (_x34 : Int) (x35 : Int) (_x36 : Int) (_x37 : Int) : Int :=
  x35
noncomputable def t101102_3 (_x20 : Int) (_x21 : Int) (_x22 : Int) (_x11 : List DV) (_x34 : Int) (_x35 : Int) (x36 : Int) (_x37 : Int) : Int :=
  x36
noncomputable def t101102_4 (_x20 : Int) (_x21 : Int) (_x22 : Int) (_x11 : List DV) (_x34 : Int) (_x35 : Int) (_x36 : Int) (x37 : Int) : Int :=
  x37
noncomputable def W101102 (ds : List DV) : Bool := w101102 (dget ds 0).toI (dget ds 1).toI (dget ds 2).toI (dget ds 3).toL (dget ds 4).toI (dget ds 5).toI (dget ds 6).toI (dget ds 7).toI
noncomputable def C101102 (ds : List DV) : Bool := c101102 (dget ds 0).toI (dget ds 1).toI (dget ds 2).toI (dget ds 3).toL (dget ds 4).toI (dget ds 5).toI (dget ds 6).toI (dget ds 7).toI
noncomputable def N101102 (ds : List DV) : List DV := [.i (dget ds 0).toI, .i (dget ds 1).toI, .i (dget ds 2).toI, .l (dget ds 3).toL, .i (n101102_0 (dget ds 0).toI (dget ds 1).toI (dget ds 2).toI (dget ds 3).toL (dget ds 4).toI (dget ds 5).toI (dget ds 6).toI (dget ds 7).toI), .i (n101102_1 (dget ds 0).toI (dget ds 1).toI (dget ds 2).toI (dget ds 3).toL (dget ds 4).toI (dget ds 5).toI (dget ds 6).toI (dget ds 7).toI), .i (n101102_2 (dget ds 0).toI (dget ds 1).toI (dget ds 2).toI (dget ds 3).toL (dget ds 4).toI (dget ds 5).toI (dget ds 6).toI (dget ds 7).toI), .i (n101102_3 (dget ds 0).toI (dget ds 1).toI (dget ds 2).toI (dget ds 3).toL (dget ds 4).toI (dget ds 5).toI (dget ds 6).toI (dget ds 7).toI)]
noncomputable def T101102 (ds : List DV) : List DV := [.i (t101102_0 (dget ds 0).toI (dget ds 1).toI (dget ds 2).toI (dget ds 3).toL (dget ds 4).toI (dget ds 5).toI (dget ds 6).toI (dget ds 7).toI), .i (t101102_1 (dget ds 0).toI (dget ds 1).toI (dget ds 2).toI (dget ds 3).toL (dget ds 4).toI (dget ds 5).toI (dget ds 6).toI (dget ds 7).toI), .i (t101102_2 (dget ds 0).toI (dget ds 1).toI (dget ds 2).toI (dget ds 3).toL (dget ds 4).toI (dget ds 5).toI (dget ds 6).toI (dget ds 7).toI), .i (t101102_3 (dget ds 0).toI (dget ds 1).toI (dget ds 2).toI (dget ds 3).toL (dget ds 4).toI (dget ds 5).toI (dget ds 6).toI (dget ds 7).toI), .i (t101102_4 (dget ds 0).toI (dget ds 1).toI (dget ds 2).toI (dget ds 3).toL (dget ds 4).toI (dget ds 5).toI (dget ds 6).toI (dget ds 7).toI)]
noncomputable def L101102 (x0 : Int) (x1 : Int) (x2 : Int) (x3 : List DV) (x4 : Int) (x5 : Int) (x6 : Int) (x7 : Int) : Option (List DV) := loopG W101102 C101102 N101102 T101102 [.i x0, .i x1, .i x2, .l x3, .i x4, .i x5, .i x6, .i x7]
noncomputable def p101102 (x0 : Int) (x1 : Int) (x2 : Int) (x3 : List DV) (x4 : Int) (x5 : Int) (x6 : Int) (x7 : Int) : Bool := (L101102 x0 x1 x2 x3 x4 x5 x6 x7).isSome
noncomputable def r101102_0 (x0 : Int) (x1 : Int) (x2 : Int) (x3 : List DV) (x4 : Int) (x5 : Int) (x6 : Int) (x7 : Int) : Int := (dget ((L101102 x0 x1 x2 x3 x4 x5 x6 x7).getD []) 0).toI
noncomputable def r101102_1 (x0 : Int) (x1 : Int) (x2 : Int) (x3 : List DV) (x4 : Int) (x5 : Int) (x6 : Int) (x7 : Int) : Int := (dget ((L101102 x0 x1 x2 x3 x4 x5 x6 x7).getD []) 1).toI
noncomputable def r101102_2 (x0 : Int) (x1 : Int) (x2 : Int) (x3 : List DV) (x4 : Int) (x5 : Int) (x6 : Int) (x7 : Int) : Int := (dget ((L101102 x0 x1 x2 x3 x4 x5 x6 x7).getD []) 2).toI
noncomputable def r101102_3 (x0 : Int) (x1 : Int) (x2 : Int) (x3 : List DV) (x4 : Int) (x5 : Int) (x6 : Int) (x7 : Int) : Int := (dget ((L101102 x0 x1 x2 x3 x4 x5 x6 x7).getD []) 3).toI
noncomputable def r101102_4 (x0 : Int) (x1 : Int) (x2 : Int) (x3 : List DV) (x4 : Int) (x5 : Int) (x6 : Int) (x7 : Int) : Int := (dget ((L101102 x0 x1 x2 x3 x4 x5 x6 x7).getD []) 4).toI
noncomputable def g101102 (ds : List DV) : List DV := [.b (p101102 (dget ds 0).toI (dget ds 1).toI (dget ds 2).toI (dget ds 3).toL (dget ds 4).toI (dget ds 5).toI (dget ds 6).toI (dget ds 7).toI), .i (r101102_0 (dget ds 0).toI (dget ds 1).toI (dget ds 2).toI (dget ds 3).toL (dget ds 4).toI (dget ds 5).toI (dget ds 6).toI (dget ds 7).toI), .i (r101102_1 (dget ds 0).toI (dget ds 1).toI (dget ds 2).toI (dget ds 3).toL (dget ds 4).toI (dget ds 5).toI (dget ds 6).toI (dget ds 7).toI), .i (r101102_2 (dget ds 0).toI (dget ds 1).toI (dget ds 2).toI (dget ds 3).toL (dget ds 4).toI (dget ds 5).toI (dget ds 6).toI (dget ds 7).toI), .i (r101102_3 (dget ds 0).toI (dget ds 1).toI (dget ds 2).toI (dget ds 3).toL (dget ds 4).toI (dget ds 5).toI (dget ds 6).toI (dget ds 7).toI), .i (r101102_4 (dget ds 0).toI (dget ds 1).toI (dget ds 2).toI (dget ds 3).toL (dget ds 4).toI (dget ds 5).toI (dget ds 6).toI (dget ds 7).toI)]
noncomputable def w101100 (x6 : Int) (x5 : List DV) (x3 : Int) (_x0 : List DV) (x8 : List DV) (x9 : Int) (_x10 : List DV) (x11 : List DV) (x12 : List DV) (x13 : List DV) (x14 : Int) (_x15 : List DV) : Bool :=
  let x16 := decide (x9 < x6)
  let x17 := decide (x9 ≥ 0)
  let x18 := ((x5.length / 4 : Nat) : Int)
  let x19 := decide (x9 < x18)
  let x20 : Int := (x5.getD (Int.toNat x9 * (4 : Nat) + (0 : Nat)) default).toI
  let x21 : Int := (x5.getD (Int.toNat x9 * (4 : Nat) + (1 : Nat)) default).toI
  let x22 : Int := (x5.getD (Int.toNat x9 * (4 : Nat) + (2 : Nat)) default).toI
  let x23 : Int := (x5.getD (Int.toNat x9 * (4 : Nat) + (3 : Nat)) default).toI
  let x24 := igt x23 0
  let x25 := ilt x23 64
  let x26 := x24 && x25
  let x27 := x14 == 16
  let x28 := ((x12.length / 1 : Nat) : Int)
  let x29 := x28 == 0
  let x30 := x26 && x29
  let x31 := x27 || x30
  let x32 := !x31
  let x33 := r26_0 x3 x14
  let y34 : List DV := g101102 [.i x20, .i x21, .i x22, .l x11, .i 0, .i 0, .i 0, .i 0]
  let x34 : Bool := (dget y34 0).toB
  let x37 : Int := (dget y34 3).toI
  let x38 : Int := (dget y34 4).toI
  let x39 : Int := (dget y34 5).toI
  let x40 := ((x12.length / 1 : Nat) : Int)
  let x41 := decide (0 < x40)
  let x42 : Int := (x12.getD (Int.toNat 0 * (1 : Nat) + (0 : Nat)) default).toI
  let x43 := ige x23 0
  let x44 := ilt x23 64
  let x45 : Int := (x11.getD (Int.toNat x23 * (1 : Nat) + (0 : Nat)) default).toI
  let x46 := ((x12.length / 1 : Nat) : Int)
  let x47 := decide (1 ≤ x46)
  let x49 := ige x23 0
  let x50 := ilt x23 64
  let x54 := bif x26 then x42 else (-1)
  let x55 := bif x26 then x45 else (-1)
  let x59 := decide (x33 ≥ 0)
  let x60 := decide (x33 < 16)
  let x66 : List DV := [.i x37, .i x38, .i x39, .i x54, .i x55, .i x33]
  let x67 := x8 ++ x66
  let x68 := ((x67.length / 6 : Nat) : Int)
  let x69 := decide (x68 ≤ 1436096819952)
  [ow [(x16, true)] x17, ow [(x16, true)] x19, ow [(x16, true), (x32, true)] x34, ow [(x16, true), (x32, true), (x26, true)] x41, ow [(x16, true), (x32, true), (x26, true)] x43, ow [(x16, true), (x32, true), (x26, true)] x44, ow [(x16, true), (x32, true), (x26, true)] x47, ow [(x16, true), (x32, true), (x26, true)] x49, ow [(x16, true), (x32, true), (x26, true)] x50, ow [(x16, true), (x32, true)] x59, ow [(x16, true), (x32, true)] x60, ow [(x16, true), (x32, true)] x69].all id
noncomputable def c101100 (x6 : Int) (x5 : List DV) (_x3 : Int) (_x0 : List DV) (_x8 : List DV) (x9 : Int) (_x10 : List DV) (_x11 : List DV) (x12 : List DV) (_x13 : List DV) (x14 : Int) (_x15 : List DV) : Bool :=
  let x16 := decide (x9 < x6)
  let x23 : Int := (x5.getD (Int.toNat x9 * (4 : Nat) + (3 : Nat)) default).toI
  let x24 := igt x23 0
  let x25 := ilt x23 64
  let x26 := x24 && x25
  let x27 := x14 == 16
  let x28 := ((x12.length / 1 : Nat) : Int)
  let x29 := x28 == 0
  let x30 := x26 && x29
  let x31 := x27 || x30
  let x32 := !x31
  let x71 := x16 && x32
  x71
noncomputable def n101100_0 (_x6 : Int) (x5 : List DV) (x3 : Int) (_x0 : List DV) (x8 : List DV) (x9 : Int) (_x10 : List DV) (x11 : List DV) (x12 : List DV) (x13 : List DV) (x14 : Int) (_x15 : List DV) : List DV :=
  let x20 : Int := (x5.getD (Int.toNat x9 * (4 : Nat) + (0 : Nat)) default).toI
  let x21 : Int := (x5.getD (Int.toNat x9 * (4 : Nat) + (1 : Nat)) default).toI
  let x22 : Int := (x5.getD (Int.toNat x9 * (4 : Nat) + (2 : Nat)) default).toI
  let x23 : Int := (x5.getD (Int.toNat x9 * (4 : Nat) + (3 : Nat)) default).toI
  let x24 := igt x23 0
  let x25 := ilt x23 64
  let x26 := x24 && x25
  let x33 := r26_0 x3 x14
  let y37 : List DV := g101102 [.i x20, .i x21, .i x22, .l x11, .i 0, .i 0, .i 0, .i 0]
  let x37 : Int := (dget y37 3).toI
  let x38 : Int := (dget y37 4).toI
  let x39 : Int := (dget y37 5).toI
  let x42 : Int := (x12.getD (Int.toNat 0 * (1 : Nat) + (0 : Nat)) default).toI
  let x45 : Int := (x11.getD (Int.toNat x23 * (1 : Nat) + (0 : Nat)) default).toI
  let x54 := bif x26 then x42 else (-1)
  let x55 := bif x26 then x45 else (-1)
  let x66 : List DV := [.i x37, .i x38, .i x39, .i x54, .i x55, .i x33]
  let x67 := x8 ++ x66
  x67
noncomputable def n101100_1 (_x6 : Int) (_x5 : List DV) (_x3 : Int) (_x0 : List DV) (_x8 : List DV) (x9 : Int) (_x10 : List DV) (_x11 : List DV) (_x12 : List DV) (_x13 : List DV) (_x14 : Int) (_x15 : List DV) : Int :=
  let x70 := IntKind.wrap .i64 (x9 + 1)
  x70
noncomputable def n101100_2 (_x6 : Int) (_x5 : List DV) (_x3 : Int) (x0 : List DV) (_x8 : List DV) (_x9 : Int) (_x10 : List DV) (_x11 : List DV) (_x12 : List DV) (_x13 : List DV) (_x14 : Int) (_x15 : List DV) : List DV :=
  x0
noncomputable def n101100_3 (_x6 : Int) (x5 : List DV) (_x3 : Int) (_x0 : List DV) (_x8 : List DV) (x9 : Int) (_x10 : List DV) (x11 : List DV) (x12 : List DV) (_x13 : List DV) (_x14 : Int) (_x15 : List DV) : List DV :=
  let x23 : Int := (x5.getD (Int.toNat x9 * (4 : Nat) + (3 : Nat)) default).toI
  let x24 := igt x23 0
  let x25 := ilt x23 64
  let x26 := x24 && x25
  let x42 : Int := (x12.getD (Int.toNat 0 * (1 : Nat) + (0 : Nat)) default).toI
  let x51 : List DV := (padN 64 x11).set (Int.toNat x23 * (1 : Nat) + (0 : Nat)) (.i x42)
  let x52 := bif x26 then x51 else x11
  x52
noncomputable def n101100_4 (_x6 : Int) (x5 : List DV) (_x3 : Int) (_x0 : List DV) (_x8 : List DV) (x9 : Int) (_x10 : List DV) (_x11 : List DV) (x12 : List DV) (_x13 : List DV) (_x14 : Int) (_x15 : List DV) : List DV :=
  let x23 : Int := (x5.getD (Int.toNat x9 * (4 : Nat) + (3 : Nat)) default).toI
  let x24 := igt x23 0
  let x25 := ilt x23 64
  let x26 := x24 && x25
  let x48 := x12.drop (Int.toNat 1 * 1)
  let x53 := bif x26 then x48 else x12
  x53
noncomputable def n101100_5 (_x6 : Int) (x5 : List DV) (x3 : Int) (_x0 : List DV) (_x8 : List DV) (x9 : Int) (_x10 : List DV) (x11 : List DV) (x12 : List DV) (x13 : List DV) (x14 : Int) (_x15 : List DV) : List DV :=
  let x23 : Int := (x5.getD (Int.toNat x9 * (4 : Nat) + (3 : Nat)) default).toI
  let x24 := igt x23 0
  let x25 := ilt x23 64
  let x26 := x24 && x25
  let x33 := r26_0 x3 x14
  let x42 : Int := (x12.getD (Int.toNat 0 * (1 : Nat) + (0 : Nat)) default).toI
  let x45 : Int := (x11.getD (Int.toNat x23 * (1 : Nat) + (0 : Nat)) default).toI
  let x56 := bif x26 then x23 else (-1)
  let x57 := bif x26 then x42 else (-1)
  let x58 := bif x26 then x45 else (-1)
  let x61 : List DV := (padN 64 x13).set (Int.toNat x33 * (4 : Nat) + (0 : Nat)) (.i x56)
  let x62 : List DV := (padN 64 x61).set (Int.toNat x33 * (4 : Nat) + (1 : Nat)) (.i x57)
  let x63 : List DV := (padN 64 x62).set (Int.toNat x33 * (4 : Nat) + (2 : Nat)) (.i x58)
  let x64 : List DV := (padN 64 x63).set (Int.toNat x33 * (4 : Nat) + (3 : Nat)) (.b false)
  x64
noncomputable def n101100_6 (_x6 : Int) (_x5 : List DV) (_x3 : Int) (_x0 : List DV) (_x8 : List DV) (_x9 : Int) (_x10 : List DV) (_x11 : List DV) (_x12 : List DV) (_x13 : List DV) (x14 : Int) (_x15 : List DV) : Int :=
  let x65 := IntKind.wrap .i64 (x14 + 1)
  x65
noncomputable def n101100_7 (_x6 : Int) (_x5 : List DV) (_x3 : Int) (x0 : List DV) (_x8 : List DV) (_x9 : Int) (_x10 : List DV) (_x11 : List DV) (_x12 : List DV) (_x13 : List DV) (_x14 : Int) (_x15 : List DV) : List DV :=
  x0
noncomputable def t101100_0 (_x6 : Int) (_x5 : List DV) (_x3 : Int) (_x0 : List DV) (_x8 : List DV) (_x9 : Int) (_x10 : List DV) (_x11 : List DV) (_x12 : List DV) (_x13 : List DV) (_x14 : Int) (_x15 : List DV) : Int :=
  0
noncomputable def t101100_1 (_x6 : Int) (_x5 : List DV) (_x3 : Int) (_x0 : List DV) (x8 : List DV) (_x9 : Int) (_x10 : List DV) (_x11 : List DV) (_x12 : List DV) (_x13 : List DV) (_x14 : Int) (_x15 : List DV) : List DV :=
  x8
noncomputable def t101100_2 (_x6 : Int) (_x5 : List DV) (_x3 : Int) (_x0 : List DV) (_x8 : List DV) (x9 : Int) (_x10 : List DV) (_x11 : List DV) (_x12 : List DV) (_x13 : List DV) (_x14 : Int) (_x15 : List DV) : Int :=
  x9
noncomputable def t101100_3 (_x6 : Int) (_x5 : List DV) (_x3 : Int) (x0 : List DV) (_x8 : List DV) (_x9 : Int) (_x10 : List DV) (_x11 : List DV) (_x12 : List DV) (_x13 : List DV) (_x14 : Int) (_x15 : List DV) : List DV :=
  x0
noncomputable def t101100_4 (_x6 : Int) (_x5 : List DV) (_x3 : Int) (_x0 : List DV) (_x8 : List DV) (_x9 : Int) (_x10 : List DV) (x11 : List DV) (_x12 : List DV) (_x13 : List DV) (_x14 : Int) (_x15 : List DV) : List DV :=
  x11
noncomputable def t101100_5 (_x6 : Int) (_x5 : List DV) (_x3 : Int) (_x0 : List DV) (_x8 : List DV) (_x9 : Int) (_x10 : List DV) (_x11 : List DV) (x12 : List DV) (_x13 : List DV) (_x14 : Int) (_x15 : List DV) : List DV :=
  x12
noncomputable def t101100_6 (_x6 : Int) (_x5 : List DV) (_x3 : Int) (_x0 : List DV) (_x8 : List DV) (_x9 : Int) (_x10 : List DV) (_x11 : List DV) (_x12 : List DV) (x13 : List DV) (_x14 : Int) (_x15 : List DV) : List DV :=
  x13
noncomputable def t101100_7 (_x6 : Int) (_x5 : List DV) (_x3 : Int) (_x0 : List DV) (_x8 : List DV) (_x9 : Int) (_x10 : List DV) (_x11 : List DV) (_x12 : List DV) (_x13 : List DV) (x14 : Int) (_x15 : List DV) : Int :=
  x14
noncomputable def t101100_8 (_x6 : Int) (_x5 : List DV) (_x3 : Int) (x0 : List DV) (_x8 : List DV) (_x9 : Int) (_x10 : List DV) (_x11 : List DV) (_x12 : List DV) (_x13 : List DV) (_x14 : Int) (_x15 : List DV) : List DV :=
  x0
noncomputable def W101100 (ds : List DV) : Bool := w101100 (dget ds 0).toI (dget ds 1).toL (dget ds 2).toI (dget ds 3).toL (dget ds 4).toL (dget ds 5).toI (dget ds 6).toL (dget ds 7).toL (dget ds 8).toL (dget ds 9).toL (dget ds 10).toI (dget ds 11).toL
noncomputable def C101100 (ds : List DV) : Bool := c101100 (dget ds 0).toI (dget ds 1).toL (dget ds 2).toI (dget ds 3).toL (dget ds 4).toL (dget ds 5).toI (dget ds 6).toL (dget ds 7).toL (dget ds 8).toL (dget ds 9).toL (dget ds 10).toI (dget ds 11).toL
noncomputable def N101100 (ds : List DV) : List DV := [.i (dget ds 0).toI, .l (dget ds 1).toL, .i (dget ds 2).toI, .l (dget ds 3).toL, .l (n101100_0 (dget ds 0).toI (dget ds 1).toL (dget ds 2).toI (dget ds 3).toL (dget ds 4).toL (dget ds 5).toI (dget ds 6).toL (dget ds 7).toL (dget ds 8).toL (dget ds 9).toL (dget ds 10).toI (dget ds 11).toL), .i (n101100_1 (dget ds 0).toI (dget ds 1).toL (dget ds 2).toI (dget ds 3).toL (dget ds 4).toL (dget ds 5).toI (dget ds 6).toL (dget ds 7).toL (dget ds 8).toL (dget ds 9).toL (dget ds 10).toI (dget ds 11).toL), .l (n101100_2 (dget ds 0).toI (dget ds 1).toL (dget ds 2).toI (dget ds 3).toL (dget ds 4).toL (dget ds 5).toI (dget ds 6).toL (dget ds 7).toL (dget ds 8).toL (dget ds 9).toL (dget ds 10).toI (dget ds 11).toL), .l (n101100_3 (dget ds 0).toI (dget ds 1).toL (dget ds 2).toI (dget ds 3).toL (dget ds 4).toL (dget ds 5).toI (dget ds 6).toL (dget ds 7).toL (dget ds 8).toL (dget ds 9).toL (dget ds 10).toI (dget ds 11).toL), .l (n101100_4 (dget ds 0).toI (dget ds 1).toL (dget ds 2).toI (dget ds 3).toL (dget ds 4).toL (dget ds 5).toI (dget ds 6).toL (dget ds 7).toL (dget ds 8).toL (dget ds 9).toL (dget ds 10).toI (dget ds 11).toL), .l (n101100_5 (dget ds 0).toI (dget ds 1).toL (dget ds 2).toI (dget ds 3).toL (dget ds 4).toL (dget ds 5).toI (dget ds 6).toL (dget ds 7).toL (dget ds 8).toL (dget ds 9).toL (dget ds 10).toI (dget ds 11).toL), .i (n101100_6 (dget ds 0).toI (dget ds 1).toL (dget ds 2).toI (dget ds 3).toL (dget ds 4).toL (dget ds 5).toI (dget ds 6).toL (dget ds 7).toL (dget ds 8).toL (dget ds 9).toL (dget ds 10).toI (dget ds 11).toL), .l (n101100_7 (dget ds 0).toI (dget ds 1).toL (dget ds 2).toI (dget ds 3).toL (dget ds 4).toL (dget ds 5).toI (dget ds 6).toL (dget ds 7).toL (dget ds 8).toL (dget ds 9).toL (dget ds 10).toI (dget ds 11).toL)]
noncomputable def T101100 (ds : List DV) : List DV := [.i (t101100_0 (dget ds 0).toI (dget ds 1).toL (dget ds 2).toI (dget ds 3).toL (dget ds 4).toL (dget ds 5).toI (dget ds 6).toL (dget ds 7).toL (dget ds 8).toL (dget ds 9).toL (dget ds 10).toI (dget ds 11).toL), .l (t101100_1 (dget ds 0).toI (dget ds 1).toL (dget ds 2).toI (dget ds 3).toL (dget ds 4).toL (dget ds 5).toI (dget ds 6).toL (dget ds 7).toL (dget ds 8).toL (dget ds 9).toL (dget ds 10).toI (dget ds 11).toL), .i (t101100_2 (dget ds 0).toI (dget ds 1).toL (dget ds 2).toI (dget ds 3).toL (dget ds 4).toL (dget ds 5).toI (dget ds 6).toL (dget ds 7).toL (dget ds 8).toL (dget ds 9).toL (dget ds 10).toI (dget ds 11).toL), .l (t101100_3 (dget ds 0).toI (dget ds 1).toL (dget ds 2).toI (dget ds 3).toL (dget ds 4).toL (dget ds 5).toI (dget ds 6).toL (dget ds 7).toL (dget ds 8).toL (dget ds 9).toL (dget ds 10).toI (dget ds 11).toL), .l (t101100_4 (dget ds 0).toI (dget ds 1).toL (dget ds 2).toI (dget ds 3).toL (dget ds 4).toL (dget ds 5).toI (dget ds 6).toL (dget ds 7).toL (dget ds 8).toL (dget ds 9).toL (dget ds 10).toI (dget ds 11).toL), .l (t101100_5 (dget ds 0).toI (dget ds 1).toL (dget ds 2).toI (dget ds 3).toL (dget ds 4).toL (dget ds 5).toI (dget ds 6).toL (dget ds 7).toL (dget ds 8).toL (dget ds 9).toL (dget ds 10).toI (dget ds 11).toL), .l (t101100_6 (dget ds 0).toI (dget ds 1).toL (dget ds 2).toI (dget ds 3).toL (dget ds 4).toL (dget ds 5).toI (dget ds 6).toL (dget ds 7).toL (dget ds 8).toL (dget ds 9).toL (dget ds 10).toI (dget ds 11).toL), .i (t101100_7 (dget ds 0).toI (dget ds 1).toL (dget ds 2).toI (dget ds 3).toL (dget ds 4).toL (dget ds 5).toI (dget ds 6).toL (dget ds 7).toL (dget ds 8).toL (dget ds 9).toL (dget ds 10).toI (dget ds 11).toL), .l (t101100_8 (dget ds 0).toI (dget ds 1).toL (dget ds 2).toI (dget ds 3).toL (dget ds 4).toL (dget ds 5).toI (dget ds 6).toL (dget ds 7).toL (dget ds 8).toL (dget ds 9).toL (dget ds 10).toI (dget ds 11).toL)]
noncomputable def L101100 (x0 : Int) (x1 : List DV) (x2 : Int) (x3 : List DV) (x4 : List DV) (x5 : Int) (x6 : List DV) (x7 : List DV) (x8 : List DV) (x9 : List DV) (x10 : Int) (x11 : List DV) : Option (List DV) := loopG W101100 C101100 N101100 T101100 [.i x0, .l x1, .i x2, .l x3, .l x4, .i x5, .l x6, .l x7, .l x8, .l x9, .i x10, .l x11]
noncomputable def p101100 (x0 : Int) (x1 : List DV) (x2 : Int) (x3 : List DV) (x4 : List DV) (x5 : Int) (x6 : List DV) (x7 : List DV) (x8 : List DV) (x9 : List DV) (x10 : Int) (x11 : List DV) : Bool := (L101100 x0 x1 x2 x3 x4 x5 x6 x7 x8 x9 x10 x11).isSome
noncomputable def r101100_0 (x0 : Int) (x1 : List DV) (x2 : Int) (x3 : List DV) (x4 : List DV) (x5 : Int) (x6 : List DV) (x7 : List DV) (x8 : List DV) (x9 : List DV) (x10 : Int) (x11 : List DV) : Int := (dget ((L101100 x0 x1 x2 x3 x4 x5 x6 x7 x8 x9 x10 x11).getD []) 0).toI
noncomputable def r101100_1 (x0 : Int) (x1 : List DV) (x2 : Int) (x3 : List DV) (x4 : List DV) (x5 : Int) (x6 : List DV) (x7 : List DV) (x8 : List DV) (x9 : List DV) (x10 : Int) (x11 : List DV) : List DV := (dget ((L101100 x0 x1 x2 x3 x4 x5 x6 x7 x8 x9 x10 x11).getD []) 1).toL
noncomputable def r101100_2 (x0 : Int) (x1 : List DV) (x2 : Int) (x3 : List DV) (x4 : List DV) (x5 : Int) (x6 : List DV) (x7 : List DV) (x8 : List DV) (x9 : List DV) (x10 : Int) (x11 : List DV) : Int := (dget ((L101100 x0 x1 x2 x3 x4 x5 x6 x7 x8 x9 x10 x11).getD []) 2).toI
noncomputable def r101100_3 (x0 : Int) (x1 : List DV) (x2 : Int) (x3 : List DV) (x4 : List DV) (x5 : Int) (x6 : List DV) (x7 : List DV) (x8 : List DV) (x9 : List DV) (x10 : Int) (x11 : List DV) : List DV := (dget ((L101100 x0 x1 x2 x3 x4 x5 x6 x7 x8 x9 x10 x11).getD []) 3).toL
noncomputable def r101100_4 (x0 : Int) (x1 : List DV) (x2 : Int) (x3 : List DV) (x4 : List DV) (x5 : Int) (x6 : List DV) (x7 : List DV) (x8 : List DV) (x9 : List DV) (x10 : Int) (x11 : List DV) : List DV := (dget ((L101100 x0 x1 x2 x3 x4 x5 x6 x7 x8 x9 x10 x11).getD []) 4).toL
noncomputable def r101100_5 (x0 : Int) (x1 : List DV) (x2 : Int) (x3 : List DV) (x4 : List DV) (x5 : Int) (x6 : List DV) (x7 : List DV) (x8 : List DV) (x9 : List DV) (x10 : Int) (x11 : List DV) : List DV := (dget ((L101100 x0 x1 x2 x3 x4 x5 x6 x7 x8 x9 x10 x11).getD []) 5).toL
noncomputable def r101100_6 (x0 : Int) (x1 : List DV) (x2 : Int) (x3 : List DV) (x4 : List DV) (x5 : Int) (x6 : List DV) (x7 : List DV) (x8 : List DV) (x9 : List DV) (x10 : Int) (x11 : List DV) : List DV := (dget ((L101100 x0 x1 x2 x3 x4 x5 x6 x7 x8 x9 x10 x11).getD []) 6).toL
noncomputable def r101100_7 (x0 : Int) (x1 : List DV) (x2 : Int) (x3 : List DV) (x4 : List DV) (x5 : Int) (x6 : List DV) (x7 : List DV) (x8 : List DV) (x9 : List DV) (x10 : Int) (x11 : List DV) : Int := (dget ((L101100 x0 x1 x2 x3 x4 x5 x6 x7 x8 x9 x10 x11).getD []) 7).toI
noncomputable def r101100_8 (x0 : Int) (x1 : List DV) (x2 : Int) (x3 : List DV) (x4 : List DV) (x5 : Int) (x6 : List DV) (x7 : List DV) (x8 : List DV) (x9 : List DV) (x10 : Int) (x11 : List DV) : List DV := (dget ((L101100 x0 x1 x2 x3 x4 x5 x6 x7 x8 x9 x10 x11).getD []) 8).toL
noncomputable def g101100 (ds : List DV) : List DV := [.b (p101100 (dget ds 0).toI (dget ds 1).toL (dget ds 2).toI (dget ds 3).toL (dget ds 4).toL (dget ds 5).toI (dget ds 6).toL (dget ds 7).toL (dget ds 8).toL (dget ds 9).toL (dget ds 10).toI (dget ds 11).toL), .i (r101100_0 (dget ds 0).toI (dget ds 1).toL (dget ds 2).toI (dget ds 3).toL (dget ds 4).toL (dget ds 5).toI (dget ds 6).toL (dget ds 7).toL (dget ds 8).toL (dget ds 9).toL (dget ds 10).toI (dget ds 11).toL), .l (r101100_1 (dget ds 0).toI (dget ds 1).toL (dget ds 2).toI (dget ds 3).toL (dget ds 4).toL (dget ds 5).toI (dget ds 6).toL (dget ds 7).toL (dget ds 8).toL (dget ds 9).toL (dget ds 10).toI (dget ds 11).toL), .i (r101100_2 (dget ds 0).toI (dget ds 1).toL (dget ds 2).toI (dget ds 3).toL (dget ds 4).toL (dget ds 5).toI (dget ds 6).toL (dget ds 7).toL (dget ds 8).toL (dget ds 9).toL (dget ds 10).toI (dget ds 11).toL), .l (r101100_3 (dget ds 0).toI (dget ds 1).toL (dget ds 2).toI (dget ds 3).toL (dget ds 4).toL (dget ds 5).toI (dget ds 6).toL (dget ds 7).toL (dget ds 8).toL (dget ds 9).toL (dget ds 10).toI (dget ds 11).toL), .l (r101100_4 (dget ds 0).toI (dget ds 1).toL (dget ds 2).toI (dget ds 3).toL (dget ds 4).toL (dget ds 5).toI (dget ds 6).toL (dget ds 7).toL (dget ds 8).toL (dget ds 9).toL (dget ds 10).toI (dget ds 11).toL), .l (r101100_5 (dget ds 0).toI (dget ds 1).toL (dget ds 2).toI (dget ds 3).toL (dget ds 4).toL (dget ds 5).toI (dget ds 6).toL (dget ds 7).toL (dget ds 8).toL (dget ds 9).toL (dget ds 10).toI (dget ds 11).toL), .l (r101100_6 (dget ds 0).toI (dget ds 1).toL (dget ds 2).toI (dget ds 3).toL (dget ds 4).toL (dget ds 5).toI (dget ds 6).toL (dget ds 7).toL (dget ds 8).toL (dget ds 9).toL (dget ds 10).toI (dget ds 11).toL), .i (r101100_7 (dget ds 0).toI (dget ds 1).toL (dget ds 2).toI (dget ds 3).toL (dget ds 4).toL (dget ds 5).toI (dget ds 6).toL (dget ds 7).toL (dget ds 8).toL (dget ds 9).toL (dget ds 10).toI (dget ds 11).toL), .l (r101100_8 (dget ds 0).toI (dget ds 1).toL (dget ds 2).toI (dget ds 3).toL (dget ds 4).toL (dget ds 5).toI (dget ds 6).toL (dget ds 7).toL (dget ds 8).toL (dget ds 9).toL (dget ds 10).toI (dget ds 11).toL)]
def h101102 : LH := ⟨[], [], [(7, [(0, 3)])], []⟩
def l11_0 : LR := ⟨101102, 34, 4, [20, 21, 22, 11], [(38, .lss (.r 34) (.z 3)), (39, .geq (.r 34) (.z 0)), (40, .lss (.r 34) (.z 3)), (41, .seli [.r 20, .r 21, .r 22] (.r 34)), (42, .geq (.r 34) (.z 0)), (43, .lss (.r 34) (.z 3)), (44, .eql (.r 34) (.z 0)), (45, .itei (.r 44) (.z (-1)) (.r 35)), (46, .eql (.r 34) (.z 1)), (47, .itei (.r 46) (.z (-1)) (.r 36)), (48, .eql (.r 34) (.z 2)), (49, .itei (.r 48) (.z (-1)) (.r 37)), (50, .geq (.r 41) (.z 0)), (51, .lss (.r 41) (.z 64)), (52, .and (.r 50) (.r 51)), (53, .geq (.r 41) (.z 0)), (54, .lss (.r 41) (.z 64)), (55, .lgeti 1 0 (.r 11) (.r 41)), (56, .geq (.r 34) (.z 0)), (57, .lss (.r 34) (.z 3)), (58, .eql (.r 34) (.z 0)), (59, .itei (.r 58) (.r 55) (.r 45)), (60, .eql (.r 34) (.z 1)), (61, .itei (.r 60) (.r 55) (.r 47)), (62, .eql (.r 34) (.z 2)), (63, .itei (.r 62) (.r 55) (.r 49)), (64, .itei (.r 52) (.r 59) (.r 45)), (65, .itei (.r 52) (.r 61) (.r 47)), (66, .itei (.r 52) (.r 63) (.r 49)), (67, .add .i64 (.r 34) (.z 1))], [⟨[(.r 38, true)], .r 39⟩, ⟨[(.r 38, true)], .r 40⟩, ⟨[(.r 38, true)], .r 42⟩, ⟨[(.r 38, true)], .r 43⟩, ⟨[(.r 38, true), (.r 52, true)], .r 53⟩, ⟨[(.r 38, true), (.r 52, true)], .r 54⟩, ⟨[(.r 38, true), (.r 52, true)], .r 56⟩, ⟨[(.r 38, true), (.r 52, true)], .r 57⟩], .r 38, [.r 67, .r 64, .r 65, .r 66], [.z 0, .r 34, .r 35, .r 36, .r 37], [.i, .i, .i, .i], h101102⟩
def h101100 : LH := ⟨[(5, [.int .i64, .int .i64, .int .i64, .int .i64, .int .i64, .int .i64])], [], [(1, [(0, 129), (130, 1)])], [0, 3]⟩
def l11_1 : LR := ⟨101100, 8, 8, [6, 5, 3, 0], List.append (List.append ([(16, .lss (.r 9) (.r 6)), (17, .geq (.r 9) (.z 0)), (18, .llen 4 (.r 5)), (19, .lss (.r 9) (.r 18)), (20, .lgeti 4 0 (.r 5) (.r 9)), (21, .lgeti 4 1 (.r 5) (.r 9)), (22, .lgeti 4 2 (.r 5) (.r 9)), (23, .lgeti 4 3 (.r 5) (.r 9)), (24, .gtr (.r 23) (.z 0)), (25, .lss (.r 23) (.z 64)), (26, .and (.r 24) (.r 25)), (27, .eql (.r 14) (.z 16)), (28, .llen 1 (.r 12)), (29, .eql (.r 28) (.z 0)), (30, .and (.r 26) (.r 29)), (31, .or (.r 27) (.r 30)), (32, .not (.r 31)), (33, .call 26 [.r 11, .r 12, .r 13, .r 3, .r 14, .r 14] 0)]) (callsAt 34 101102 [.r 20, .r 21, .r 22, .r 11, .z 0, .z 0, .z 0, .z 0] 0 6)) ([(40, .llen 1 (.r 12)), (41, .lss (.z 0) (.r 40)), (42, .lgeti 1 0 (.r 12) (.z 0)), (43, .geq (.r 23) (.z 0)), (44, .lss (.r 23) (.z 64)), (45, .lgeti 1 0 (.r 11) (.r 23)), (46, .llen 1 (.r 12)), (47, .leq (.z 1) (.r 46)), (48, .ldrop 1 (.r 12) (.z 1)), (49, .geq (.r 23) (.z 0)), (50, .lss (.r 23) (.z 64)), (51, .aset 64 1 0 .i (.r 11) (.r 23) (.r 42)), (52, .itel (.r 26) (.r 51) (.r 11)), (53, .itel (.r 26) (.r 48) (.r 12)), (54, .itei (.r 26) (.r 42) (.z (-1))), (55, .itei (.r 26) (.r 45) (.z (-1))), (56, .itei (.r 26) (.r 23) (.z (-1))), (57, .itei (.r 26) (.r 42) (.z (-1))), (58, .itei (.r 26) (.r 45) (.z (-1))), (59, .geq (.r 33) (.z 0)), (60, .lss (.r 33) (.z 16)), (61, .aset 64 4 0 .i (.r 13) (.r 33) (.r 56)), (62, .aset 64 4 1 .i (.r 61) (.r 33) (.r 57)), (63, .aset 64 4 2 .i (.r 62) (.r 33) (.r 58)), (64, .aset 64 4 3 .b (.r 63) (.r 33) (.t false)), (65, .add .i64 (.r 14) (.z 1)), (66, .lmk [.i, .i, .i, .i, .i, .i] [.r 37, .r 38, .r 39, .r 54, .r 55, .r 33]), (67, .lcat (.r 8) (.r 66)), (68, .llen 6 (.r 67)), (69, .leq (.r 68) (.z 1436096819952)), (70, .add .i64 (.r 9) (.z 1)), (71, .and (.r 16) (.r 32))]), [⟨[(.r 16, true)], .r 17⟩, ⟨[(.r 16, true)], .r 19⟩, ⟨[(.r 16, true), (.r 32, true)], .r 34⟩, ⟨[(.r 16, true), (.r 32, true), (.r 26, true)], .r 41⟩, ⟨[(.r 16, true), (.r 32, true), (.r 26, true)], .r 43⟩, ⟨[(.r 16, true), (.r 32, true), (.r 26, true)], .r 44⟩, ⟨[(.r 16, true), (.r 32, true), (.r 26, true)], .r 47⟩, ⟨[(.r 16, true), (.r 32, true), (.r 26, true)], .r 49⟩, ⟨[(.r 16, true), (.r 32, true), (.r 26, true)], .r 50⟩, ⟨[(.r 16, true), (.r 32, true)], .r 59⟩, ⟨[(.r 16, true), (.r 32, true)], .r 60⟩, ⟨[(.r 16, true), (.r 32, true)], .r 69⟩], .r 71, [.r 67, .r 70, .r 0, .r 52, .r 53, .r 64, .r 65, .r 0], [.z 0, .r 8, .r 9, .r 0, .r 11, .r 12, .r 13, .r 14, .r 0], [.l, .i, .l, .l, .l, .l, .i, .l], h101100⟩
def s11 : Sig := ⟨[.s (.one (.p 1 (.c 0))), .s (.one (.vec 2))], [some (.v true [.int .i64] (.h 1)), some (.c true (List.append (List.append (List.append (((eRun (.h 0) [.int .i64] 0 64).map some)) ([some (.vec 0)])) (((eRun (.h 2) [.int .i64, .int .i64, .int .i64, .bool] 0 64).map some))) ([some (.i .i64 (.h 3)), some (.i .i64 (.h 4))]))), some (.v false [.int .i64, .int .i64, .int .i64, .int .i64] (.h 5))], [.l, .l, .l, .i, .i, .l], .s (.one (.vec 3)), [none, some (.c true (List.append (List.append (List.append (((eRun (.h 0) [.int .i64] 0 64).map some)) ([some (.vec 4)])) (((eRun (.h 1) [.int .i64, .int .i64, .int .i64, .bool] 0 64).map some))) ([some (.i .i64 (.h 2)), some (.i .i64 (.h 3))]))), none, some (.v true [.int .i64, .int .i64, .int .i64, .int .i64, .int .i64, .int .i64] (.h 4)), some (.v true [.int .i64] (.h 5))], [.l, .l, .i, .i, .l, .l], true⟩
def o11 : Out := ⟨List.append ([(6, .llen 4 (.r 5)), (7, .lmk [] [])]) (callsAt 8 101100 [.r 6, .r 5, .r 3, .r 0, .r 7, .z 0, .r 0, .r 0, .r 1, .r 2, .r 4, .r 0] 0 10),
  [⟨[], .r 8⟩],
  [l11_0, l11_1],
  [.r 13, .r 15, .r 3, .r 16, .r 10, .r 14]⟩
noncomputable def p11 (x0 : List DV) (x1 : List DV) (x2 : List DV) (x3 : Int) (x4 : Int) (x5 : List DV) : Bool :=
  let x6 := ((x5.length / 4 : Nat) : Int)
  let x7 : List DV := []
  let y8 : List DV := g101100 [.i x6, .l x5, .i x3, .l x0, .l x7, .i 0, .l x0, .l x0, .l x1, .l x2, .i x4, .l x0]
  let x8 : Bool := (dget y8 0).toB
  [ow [] x8].all id
noncomputable def r11_0 (x0 : List DV) (x1 : List DV) (x2 : List DV) (x3 : Int) (x4 : Int) (x5 : List DV) : List DV :=
  let x6 := ((x5.length / 4 : Nat) : Int)
  let x7 : List DV := []
  let y13 : List DV := g101100 [.i x6, .l x5, .i x3, .l x0, .l x7, .i 0, .l x0, .l x0, .l x1, .l x2, .i x4, .l x0]
  let x13 : List DV := (dget y13 5).toL
  x13
noncomputable def r11_1 (x0 : List DV) (x1 : List DV) (x2 : List DV) (x3 : Int) (x4 : Int) (x5 : List DV) : List DV :=
  let x6 := ((x5.length / 4 : Nat) : Int)
  let x7 : List DV := []
  let y15 : List DV := g101100 [.i x6, .l x5, .i x3, .l x0, .l x7, .i 0, .l x0, .l x0, .l x1, .l x2, .i x4, .l x0]
  let x15 : List DV := (dget y15 7).toL
  x15
noncomputable def r11_2 (x3 : Int) : Int :=
  x3
noncomputable def r11_3 (x0 : List DV) (x1 : List DV) (x2 : List DV) (x3 : Int) (x4 : Int) (x5 : List DV) : Int :=
  let x6 := ((x5.length / 4 : Nat) : Int)
  let x7 : List DV := []
  let y16 : List DV := g101100 [.i x6, .l x5, .i x3, .l x0, .l x7, .i 0, .l x0, .l x0, .l x1, .l x2, .i x4, .l x0]
  let x16 : Int := (dget y16 8).toI
  x16
noncomputable def r11_4 (x0 : List DV) (x1 : List DV) (x2 : List DV) (x3 : Int) (x4 : Int) (x5 : List DV) : List DV :=
  let x6 := ((x5.length / 4 : Nat) : Int)
  let x7 : List DV := []
  let y10 : List DV := g101100 [.i x6, .l x5, .i x3, .l x0, .l x7, .i 0, .l x0, .l x0, .l x1, .l x2, .i x4, .l x0]
  let x10 : List DV := (dget y10 2).toL
  x10
noncomputable def r11_5 (x0 : List DV) (x1 : List DV) (x2 : List DV) (x3 : Int) (x4 : Int) (x5 : List DV) : List DV :=
  let x6 := ((x5.length / 4 : Nat) : Int)
  let x7 : List DV := []
  let y14 : List DV := g101100 [.i x6, .l x5, .i x3, .l x0, .l x7, .i 0, .l x0, .l x0, .l x1, .l x2, .i x4, .l x0]
  let x14 : List DV := (dget y14 6).toL
  x14
noncomputable def g11 (ds : List DV) : List DV := [.b (p11 (dget ds 0).toL (dget ds 1).toL (dget ds 2).toL (dget ds 3).toI (dget ds 4).toI (dget ds 5).toL), .l (r11_0 (dget ds 0).toL (dget ds 1).toL (dget ds 2).toL (dget ds 3).toI (dget ds 4).toI (dget ds 5).toL), .l (r11_1 (dget ds 0).toL (dget ds 1).toL (dget ds 2).toL (dget ds 3).toI (dget ds 4).toI (dget ds 5).toL), .i (r11_2 (dget ds 3).toI), .i (r11_3 (dget ds 0).toL (dget ds 1).toL (dget ds 2).toL (dget ds 3).toI (dget ds 4).toI (dget ds 5).toL), .l (r11_4 (dget ds 0).toL (dget ds 1).toL (dget ds 2).toL (dget ds 3).toI (dget ds 4).toI (dget ds 5).toL), .l (r11_5 (dget ds 0).toL (dget ds 1).toL (dget ds 2).toL (dget ds 3).toI (dget ds 4).toI (dget ds 5).toL)]
def S11 : Sigs := ⟨[(26, s26)], [], [(0, 101100), (2, 101102)], 3, [(101102, h101102), (101100, h101100)]⟩

def s21 : Sig := ⟨[.s (.one (.p 1 (.c 0)))], [some (.v false [.int .i64] (.h 1)), some (.c false (List.append (List.append (List.append (((eRun (.h 0) [.int .i64] 0 64).map some)) ([some (.vec 0)])) (((eRun (.h 2) [.int .i64, .int .i64, .int .i64, .bool] 0 64).map some))) ([some (.i .i64 (.h 3)), some (.i .i64 (.h 4))])))], [.l, .l, .l, .i, .i], .s (.one (.vec 2)), [none, none, some (.v true [.int .i64] (.h 0))], [.l], true⟩
def o21 : Out := ⟨[(5, .call 31 [.r 1] 0), (6, .call 31 [.r 1] 1)],
  [⟨[], .r 5⟩],
  [],
  [.r 6]⟩
noncomputable def p21 (x1 : List DV) : Bool :=
  let x5 := p31 x1
  [ow [] x5].all id
noncomputable def r21_0 (x1 : List DV) : List DV :=
  let x6 := r31_0 x1
  x6
noncomputable def g21 (ds : List DV) : List DV := [.b (p21 (dget ds 1).toL), .l (r21_0 (dget ds 1).toL)]
def S21 : Sigs := ⟨[(31, s31)], [], [], 2, []⟩

noncomputable def w101900 (x12 : Int) (x3 : Int) (x2 : List DV) (_x0 : List DV) (x13 : Int) (_x14 : List DV) (x15 : List DV) (x16 : List DV) (x17 : Int) : Bool :=
  let x18 := decide (x13 < x12)
  let x19 := IntKind.wrap .i64 (x17 - 1)
  let x20 := r26_0 x3 x19
  let x21 := decide (x20 ≥ 0)
  let x22 := decide (x20 < 16)
  let x23 : Int := (x2.getD (Int.toNat x20 * (4 : Nat) + (0 : Nat)) default).toI
  let x24 : Int := (x2.getD (Int.toNat x20 * (4 : Nat) + (1 : Nat)) default).toI
  let x27 := ige x23 0
  let x28 := ige x23 0
  let x29 := ilt x23 64
  let x31 := p31 x16
  let x32 := r31_0 x16
  let x33 : List DV := [.i x24]
  let x34 := p30 x32 0 x33
  [ow [(x18, true)] x21, ow [(x18, true)] x22, ow [(x18, true), (x27, true)] x28, ow [(x18, true), (x27, true)] x29, ow [(x18, true), (x27, true)] x31, ow [(x18, true), (x27, true)] x34].all id
noncomputable def c101900 (x12 : Int) (_x3 : Int) (_x2 : List DV) (_x0 : List DV) (x13 : Int) (_x14 : List DV) (_x15 : List DV) (_x16 : List DV) (_x17 : Int) : Bool :=
  let x18 := decide (x13 < x12)
  x18
noncomputable def n101900_0 (_x12 : Int) (_x3 : Int) (_x2 : List DV) (_x0 : List DV) (x13 : Int) (_x14 : List DV) (_x15 : List DV) (_x16 : List DV) (_x17 : Int) : Int :=
  let x38 := IntKind.wrap .i64 (x13 + 1)
  x38
noncomputable def n101900_1 (_x12 : Int) (_x3 : Int) (_x2 : List DV) (x0 : List DV) (_x13 : Int) (_x14 : List DV) (_x15 : List DV) (_x16 : List DV) (_x17 : Int) : List DV :=
  x0
noncomputable def n101900_2 (_x12 : Int) (x3 : Int) (x2 : List DV) (_x0 : List DV) (_x13 : Int) (_x14 : List DV) (x15 : List DV) (x16 : List DV) (x17 : Int) : List DV :=
  let x19 := IntKind.wrap .i64 (x17 - 1)
  let x20 := r26_0 x3 x19
  let x23 : Int := (x2.getD (Int.toNat x20 * (4 : Nat) + (0 : Nat)) default).toI
  let x25 : Int := (x2.getD (Int.toNat x20 * (4 : Nat) + (2 : Nat)) default).toI
  let x27 := ige x23 0
  let x30 : List DV := (padN 64 x15).set (Int.toNat x23 * (1 : Nat) + (0 : Nat)) (.i x25)
  let x36 := bif x27 then x30 else x15
  x36
noncomputable def n101900_3 (_x12 : Int) (x3 : Int) (x2 : List DV) (_x0 : List DV) (_x13 : Int) (_x14 : List DV) (x15 : List DV) (x16 : List DV) (x17 : Int) : List DV :=
  let x19 := IntKind.wrap .i64 (x17 - 1)
  let x20 := r26_0 x3 x19
  let x23 : Int := (x2.getD (Int.toNat x20 * (4 : Nat) + (0 : Nat)) default).toI
  let x24 : Int := (x2.getD (Int.toNat x20 * (4 : Nat) + (1 : Nat)) default).toI
  let x27 := ige x23 0
  let x32 := r31_0 x16
  let x33 : List DV := [.i x24]
  let x35 := r30_0 x32 0 x33
  let x37 := bif x27 then x35 else x16
  x37
noncomputable def n101900_4 (_x12 : Int) (_x3 : Int) (_x2 : List DV) (_x0 : List DV) (_x13 : Int) (_x14 : List DV) (_x15 : List DV) (_x16 : List DV) (x17 : Int) : Int :=
  let x19 := IntKind.wrap .i64 (x17 - 1)
  x19
noncomputable def t101900_0 (_x12 : Int) (_x3 : Int) (_x2 : List DV) (_x0 : List DV) (_x13 : Int) (_x14 : List DV) (_x15 : List DV) (_x16 : List DV) (_x17 : Int) : Int :=
  0
noncomputable def t101900_1 (_x12 : Int) (_x3 : Int) (_x2 : List DV) (_x0 : List DV) (x13 : Int) (_x14 : List DV) (_x15 : List DV) (_x16 : List DV) (_x17 : Int) : Int :=
  x13
noncomputable def t101900_2 (_x12 : Int) (_x3 : Int) (_x2 : List DV) (x0 : List DV) (_x13 : Int) (_x14 : List DV) (_x15 : List DV) (_x16 : List DV) (_x17 : Int) : List DV :=
  x0
noncomputable def t101900_3 (_x12 : Int) (_x3 : Int) (_x2 : List DV) (_x0 : List DV) (_x13 : Int) (_x14 : List DV) (x15 : List DV) (_x16 : List DV) (_x17 : Int) : List DV :=
  x15
noncomputable def t101900_4 (_x12 : Int) (_x3 : Int) (_x2 : List DV) (_x0 : List DV) (_x13 : Int) (_x14 : List DV) (_x15 : List DV) (x16 : List DV) (_x17 : Int) : List DV :=
  x16
noncomputable def t101900_5 (_x12 : Int) (_x3 : Int) (_x2 : List DV) (_x0 : List DV) (_x13 : Int) (_x14 : List DV) (_x15 : List DV) (_x16 : List DV) (x17 : Int) : Int :=
  x17
noncomputable def W101900 (ds : List DV) : Bool := w101900 (dget ds 0).toI (dget ds 1).toI (dget ds 2).toL (dget ds 3).toL (dget ds 4).toI (dget ds 5).toL (dget ds 6).toL (dget ds 7).toL (dget ds 8).toI
noncomputable def C101900 (ds : List DV) : Bool := c101900 (dget ds 0).toI (dget ds 1).toI (dget ds 2).toL (dget ds 3).toL (dget ds 4).toI (dget ds 5).toL (dget ds 6).toL (dget ds 7).toL (dget ds 8).toI
noncomputable def N101900 (ds : List DV) : List DV := [.i (dget ds 0).toI, .i (dget ds 1).toI, .l (dget ds 2).toL, .l (dget ds 3).toL, .i (n101900_0 (dget ds 0).toI (dget ds 1).toI (dget ds 2).toL (dget ds 3).toL (dget ds 4).toI (dget ds 5).toL (dget ds 6).toL (dget ds 7).toL (dget ds 8).toI), .l (n101900_1 (dget ds 0).toI (dget ds 1).toI (dget ds 2).toL (dget ds 3).toL (dget ds 4).toI (dget ds 5).toL (dget ds 6).toL (dget ds 7).toL (dget ds 8).toI), .l (n101900_2 (dget ds 0).toI (dget ds 1).toI (dget ds 2).toL (dget ds 3).toL (dget ds 4).toI (dget ds 5).toL (dget ds 6).toL (dget ds 7).toL (dget ds 8).toI), .l (n101900_3 (dget ds 0).toI (dget ds 1).toI (dget ds 2).toL (dget ds 3).toL (dget ds 4).toI (dget ds 5).toL (dget ds 6).toL (dget ds 7).toL (dget ds 8).toI), .i (n101900_4 (dget ds 0).toI (dget ds 1).toI (dget ds 2).toL (dget ds 3).toL (dget ds 4).toI (dget ds 5).toL (dget ds 6).toL (dget ds 7).toL (dget ds 8).toI)]
noncomputable def T101900 (ds : List DV) : List DV := [.i (t101900_0 (dget ds 0).toI (dget ds 1).toI (dget ds 2).toL (dget ds 3).toL (dget ds 4).toI (dget ds 5).toL (dget ds 6).toL (dget ds 7).toL (dget ds 8).toI), .i (t101900_1 (dget ds 0).toI (dget ds 1).toI (dget ds 2).toL (dget ds 3).toL (dget ds 4).toI (dget ds 5).toL (dget ds 6).toL (dget ds 7).toL (dget ds 8).toI), .l (t101900_2 (dget ds 0).toI (dget ds 1).toI (dget ds 2).toL (dget ds 3).toL (dget ds 4).toI (dget ds 5).toL (dget ds 6).toL (dget ds 7).toL (dget ds 8).toI), .l (t101900_3 (dget ds 0).toI (dget ds 1).toI (dget ds 2).toL (dget ds 3).toL (dget ds 4).toI (dget ds 5).toL (dget ds 6).toL (dget ds 7).toL (dget ds 8).toI), .l (t101900_4 (dget ds 0).toI (dget ds 1).toI (dget ds 2).toL (dget ds 3).toL (dget ds 4).toI (dget ds 5).toL (dget ds 6).toL (dget ds 7).toL (dget ds 8).toI), .i (t101900_5 (dget ds 0).toI (dget ds 1).toI (dget ds 2).toL (dget ds 3).toL (dget ds 4).toI (dget ds 5).toL (dget ds 6).toL (dget ds 7).toL (dget ds 8).toI)]
noncomputable def L101900 (x0 : Int) (x1 : Int) (x2 : List DV) (x3 : List DV) (x4 : Int) (x5 : List DV) (x6 : List DV) (x7 : List DV) (x8 : Int) : Option (List DV) := loopG W101900 C101900 N101900 T101900 [.i x0, .i x1, .l x2, .l x3, .i x4, .l x5, .l x6, .l x7, .i x8]
noncomputable def p101900 (x0 : Int) (x1 : Int) (x2 : List DV) (x3 : List DV) (x4 : Int) (x5 : List DV) (x6 : List DV) (x7 : List DV) (x8 : Int) : Bool := (L101900 x0 x1 x2 x3 x4 x5 x6 x7 x8).isSome
noncomputable def r101900_0 (x0 : Int) (x1 : Int) (x2 : List DV) (x3 : List DV) (x4 : Int) (x5 : List DV) (x6 : List DV) (x7 : List DV) (x8 : Int) : Int := (dget ((L101900 x0 x1 x2 x3 x4 x5 x6 x7 x8).getD []) 0).toI
noncomputable def r101900_1 (x0 : Int) (x1 : Int) (x2 : List DV) (x3 : List DV) (x4 : Int) (x5 : List DV) (x6 : List DV) (x7 : List DV) (x8 : Int) : Int := (dget ((L101900 x0 x1 x2 x3 x4 x5 x6 x7 x8).getD []) 1).toI
noncomputable def r101900_2 (x0 : Int) (x1 : Int) (x2 : List DV) (x3 : List DV) (x4 : Int) (x5 : List DV) (x6 : List DV) (x7 : List DV) (x8 : Int) : List DV := (dget ((L101900 x0 x1 x2 x3 x4 x5 x6 x7 x8).getD []) 2).toL
noncomputable def r101900_3 (x0 : Int) (x1 : Int) (x2 : List DV) (x3 : List DV) (x4 : Int) (x5 : List DV) (x6 : List DV) (x7 : List DV) (x8 : Int) : List DV := (dget ((L101900 x0 x1 x2 x3 x4 x5 x6 x7 x8).getD []) 3).toL
noncomputable def r101900_4 (x0 : Int) (x1 : Int) (x2 : List DV) (x3 : List DV) (x4 : Int) (x5 : List DV) (x6 : List DV) (x7 : List DV) (x8 : Int) : List DV := (dget ((L101900 x0 x1 x2 x3 x4 x5 x6 x7 x8).getD []) 4).toL
noncomputable def r101900_5 (x0 : Int) (x1 : Int) (x2 : List DV) (x3 : List DV) (x4 : Int) (x5 : List DV) (x6 : List DV) (x7 : List DV) (x8 : Int) : Int := (dget ((L101900 x0 x1 x2 x3 x4 x5 x6 x7 x8).getD []) 5).toI
noncomputable def g101900 (ds : List DV) : List DV := [.b (p101900 (dget ds 0).toI (dget ds 1).toI (dget ds 2).toL (dget ds 3).toL (dget ds 4).toI (dget ds 5).toL (dget ds 6).toL (dget ds 7).toL (dget ds 8).toI), .i (r101900_0 (dget ds 0).toI (dget ds 1).toI (dget ds 2).toL (dget ds 3).toL (dget ds 4).toI (dget ds 5).toL (dget ds 6).toL (dget ds 7).toL (dget ds 8).toI), .i (r101900_1 (dget ds 0).toI (dget ds 1).toI (dget ds 2).toL (dget ds 3).toL (dget ds 4).toI (dget ds 5).toL (dget ds 6).toL (dget ds 7).toL (dget ds 8).toI), .l (r101900_2 (dget ds 0).toI (dget ds 1).toI (dget ds 2).toL (dget ds 3).toL (dget ds 4).toI (dget ds 5).toL (dget ds 6).toL (dget ds 7).toL (dget ds 8).toI), .l (r101900_3 (dget ds 0).toI (dget ds 1).toI (dget ds 2).toL (dget ds 3).toL (dget ds 4).toI (dget ds 5).toL (dget ds 6).toL (dget ds 7).toL (dget ds 8).toI), .l (r101900_4 (dget ds 0).toI (dget ds 1).toI (dget ds 2).toL (dget ds 3).toL (dget ds 4).toI (dget ds 5).toL (dget ds 6).toL (dget ds 7).toL (dget ds 8).toI), .i (r101900_5 (dget ds 0).toI (dget ds 1).toI (dget ds 2).toL (dget ds 3).toL (dget ds 4).toI (dget ds 5).toL (dget ds 6).toL (dget ds 7).toL (dget ds 8).toI)]
def h101900 : LH := ⟨[], [], [(1, [(0, 65), (130, 1)])], [0]⟩
def l19_0 : LR := ⟨101900, 13, 5, [12, 3, 2, 0], [(18, .lss (.r 13) (.r 12)), (19, .sub .i64 (.r 17) (.z 1)), (20, .call 26 [.r 15, .r 16, .r 2, .r 3, .r 19, .r 19] 0), (21, .geq (.r 20) (.z 0)), (22, .lss (.r 20) (.z 16)), (23, .lgeti 4 0 (.r 2) (.r 20)), (24, .lgeti 4 1 (.r 2) (.r 20)), (25, .lgeti 4 2 (.r 2) (.r 20)), (26, .lgetb 4 3 (.r 2) (.r 20)), (27, .geq (.r 23) (.z 0)), (28, .geq (.r 23) (.z 0)), (29, .lss (.r 23) (.z 64)), (30, .aset 64 1 0 .i (.r 15) (.r 23) (.r 25)), (31, .call 31 [.r 16] 0), (32, .call 31 [.r 16] 1), (33, .lmk [.i] [.r 24]), (34, .call 30 [.r 32, .z 0, .r 33] 0), (35, .call 30 [.r 32, .z 0, .r 33] 1), (36, .itel (.r 27) (.r 30) (.r 15)), (37, .itel (.r 27) (.r 35) (.r 16)), (38, .add .i64 (.r 13) (.z 1))], [⟨[(.r 18, true)], .r 21⟩, ⟨[(.r 18, true)], .r 22⟩, ⟨[(.r 18, true), (.r 27, true)], .r 28⟩, ⟨[(.r 18, true), (.r 27, true)], .r 29⟩, ⟨[(.r 18, true), (.r 27, true)], .r 31⟩, ⟨[(.r 18, true), (.r 27, true)], .r 34⟩], .r 18, [.r 38, .r 0, .r 36, .r 37, .r 19], [.z 0, .r 13, .r 0, .r 15, .r 16, .r 17], [.i, .l, .l, .l, .i], h101900⟩
def s19 : Sig := ⟨[.s (.one (.p 1 (.c 0))), .s (.one (.i .i64 (.h 5)))], [some (.v true [.int .i64] (.h 1)), some (.c true (List.append (List.append (List.append (((eRun (.h 0) [.int .i64] 0 64).map some)) ([some (.vec 0)])) (((eRun (.h 2) [.int .i64, .int .i64, .int .i64, .bool] 0 64).map some))) ([some (.i .i64 (.h 3)), some (.i .i64 (.h 4))])))], [.l, .l, .l, .i, .i, .i], .s (.one (.i .i64 (.h 0))), [none, some (.c true (List.append (List.append (List.append (((eRun (.h 1) [.int .i64] 0 64).map some)) ([some (.vec 2)])) (((eRun (.h 2) [.int .i64, .int .i64, .int .i64, .bool] 0 64).map some))) ([some (.i .i64 (.h 3)), some (.i .i64 (.h 4))]))), some (.v true [.int .i64] (.h 5))], [.i, .l, .l, .i, .i, .l], true⟩
def o19 : Out := ⟨List.append (List.append ([(6, .call 28 (idsFrom 0 6) 0), (7, .lss (.r 6) (.z 0)), (8, .neq (.r 5) (.z (-1))), (9, .and (.r 7) (.r 8)), (10, .not (.r 9)), (11, .sub .i64 (.r 4) (.z 1)), (12, .sub .i64 (.r 11) (.r 6))]) (callsAt 13 101900 [.r 12, .r 3, .r 2, .r 0, .z 0, .r 0, .r 0, .r 1, .r 4] 0 7)) ([(20, .itei (.r 10) (.r 12) (.z 0)), (21, .itel (.r 10) (.r 17) (.r 0)), (22, .itel (.r 10) (.r 18) (.r 1)), (23, .itei (.r 10) (.r 19) (.r 4))]),
  [⟨[(.r 10, true)], .r 13⟩],
  [l19_0],
  [.r 20, .r 21, .r 2, .r 3, .r 23, .r 22]⟩
noncomputable def p19 (x0 : List DV) (x1 : List DV) (x2 : List DV) (x3 : Int) (x4 : Int) (x5 : Int) : Bool :=
  let x6 := r28_0 x3 x4 x5
  let x7 := decide (x6 < 0)
  let x8 := x5 != (-1)
  let x9 := x7 && x8
  let x10 := !x9
  let x11 := IntKind.wrap .i64 (x4 - 1)
  let x12 := IntKind.wrap .i64 (x11 - x6)
  let y13 : List DV := g101900 [.i x12, .i x3, .l x2, .l x0, .i 0, .l x0, .l x0, .l x1, .i x4]
  let x13 : Bool := (dget y13 0).toB
  [ow [(x10, true)] x13].all id
noncomputable def r19_0 (x3 : Int) (x4 : Int) (x5 : Int) : Int :=
  let x6 := r28_0 x3 x4 x5
  let x7 := decide (x6 < 0)
  let x8 := x5 != (-1)
  let x9 := x7 && x8
  let x10 := !x9
  let x11 := IntKind.wrap .i64 (x4 - 1)
  let x12 := IntKind.wrap .i64 (x11 - x6)
  let x20 := bif x10 then x12 else 0
  x20
noncomputable def r19_1 (x0 : List DV) (x1 : List DV) (x2 : List DV) (x3 : Int) (x4 : Int) (x5 : Int) : List DV :=
  let x6 := r28_0 x3 x4 x5
  let x7 := decide (x6 < 0)
  let x8 := x5 != (-1)
  let x9 := x7 && x8
  let x10 := !x9
  let x11 := IntKind.wrap .i64 (x4 - 1)
  let x12 := IntKind.wrap .i64 (x11 - x6)
  let y17 : List DV := g101900 [.i x12, .i x3, .l x2, .l x0, .i 0, .l x0, .l x0, .l x1, .i x4]
  let x17 : List DV := (dget y17 4).toL
  let x21 := bif x10 then x17 else x0
  x21
noncomputable def r19_2 (x2 : List DV) : List DV :=
  x2
noncomputable def r19_3 (x3 : Int) : Int :=
  x3
noncomputable def r19_4 (x0 : List DV) (x1 : List DV) (x2 : List DV) (x3 : Int) (x4 : Int) (x5 : Int) : Int :=
  let x6 := r28_0 x3 x4 x5
  let x7 := decide (x6 < 0)
  let x8 := x5 != (-1)
  let x9 := x7 && x8
  let x10 := !x9
  let x11 := IntKind.wrap .i64 (x4 - 1)
  let x12 := IntKind.wrap .i64 (x11 - x6)
  let y19 : List DV := g101900 [.i x12, .i x3, .l x2, .l x0, .i 0, .l x0, .l x0, .l x1, .i x4]
  let x19 : Int := (dget y19 6).toI
  let x23 := bif x10 then x19 else x4
  x23
noncomputable def r19_5 (x0 : List DV) (x1 : List DV) (x2 : List DV) (x3 : Int) (x4 : Int) (x5 : Int) : List DV :=
  let x6 := r28_0 x3 x4 x5
  let x7 := decide (x6 < 0)
  let x8 := x5 != (-1)
  let x9 := x7 && x8
  let x10 := !x9
  let x11 := IntKind.wrap .i64 (x4 - 1)
  let x12 := IntKind.wrap .i64 (x11 - x6)
  let y18 : List DV := g101900 [.i x12, .i x3, .l x2, .l x0, .i 0, .l x0, .l x0, .l x1, .i x4]
  let x18 : List DV := (dget y18 5).toL
  let x22 := bif x10 then x18 else x1
  x22
noncomputable def g19 (ds : List DV) : List DV := [.b (p19 (dget ds 0).toL (dget ds 1).toL (dget ds 2).toL (dget ds 3).toI (dget ds 4).toI (dget ds 5).toI), .i (r19_0 (dget ds 3).toI (dget ds 4).toI (dget ds 5).toI), .l (r19_1 (dget ds 0).toL (dget ds 1).toL (dget ds 2).toL (dget ds 3).toI (dget ds 4).toI (dget ds 5).toI), .l (r19_2 (dget ds 2).toL), .i (r19_3 (dget ds 3).toI), .i (r19_4 (dget ds 0).toL (dget ds 1).toL (dget ds 2).toL (dget ds 3).toI (dget ds 4).toI (dget ds 5).toI), .l (r19_5 (dget ds 0).toL (dget ds 1).toL (dget ds 2).toL (dget ds 3).toI (dget ds 4).toI (dget ds 5).toI)]
def S19 : Sigs := ⟨[(28, s28), (26, s26), (31, s31), (30, s30)], [], [(0, 101900)], 2, [(101900, h101900)]⟩

def s8 : Sig := ⟨[], [], [], .s (.one (.b (.h 0))), [], [.b], true⟩
def o8 : Out := ⟨List.append (List.append (List.append (List.append (List.append (List.append (List.append (List.append (callsAt 0 9 [] 0 6) ([(6, .lmk [.i, .i, .i, .i, .i, .i, .i, .i, .i, .i, .i, .i] [.z 1, .z 2, .z (-1), .z 3, .z 3, .z 0, .z 40, .z 0, .z 3, .z (-1), .z (-1), .z 3])])) (callsAt 7 11 [.r 1, .r 5, .r 2, .r 3, .r 4, .r 6] 0 7)) ([(14, .call 23 [.r 8, .r 13, .r 9, .r 10, .r 11] 0), (15, .lmk [.i, .i, .i, .i, .i, .i, .i, .i, .i, .i, .i, .i, .i, .i, .i, .i, .i, .i, .i, .i, .i, .i, .i, .i, .i, .i, .i, .i, .i, .i, .i, .i, .i, .i, .i, .i, .i, .i, .i, .i, .i, .i, .i, .i, .i, .i, .i, .i, .i, .i, .i, .i, .i, .i, .i, .i, .i, .i, .i, .i, .i, .i, .i, .i] [.z 0, .z 0, .z 0, .z 0, .z 0, .z 0, .z 0, .z 0, .z 0, .z 0, .z 0, .z 0, .z 0, .z 0, .z 0, .z 0, .z 0, .z 0, .z 0, .z 0, .z 0, .z 0, .z 0, .z 0, .z 0, .z 0, .z 0, .z 0, .z 0, .z 0, .z 0, .z 0, .z 0, .z 0, .z 0, .z 0, .z 0, .z 0, .z 0, .z 0, .z 0, .z 0, .z 0, .z 0, .z 0, .z 0, .z 0, .z 0, .z 0, .z 0, .z 0, .z 0, .z 0, .z 0, .z 0, .z 0, .z 0, .z 0, .z 0, .z 0, .z 0, .z 0, .z 0, .z 0])])) (callsAt 16 14 [.r 8, .r 13, .r 9, .r 10, .r 11, .z 0] 0 7)) (callsAt 23 16 [.r 19, .r 18, .r 20, .r 21, .r 22, .z 2] 0 7)) ([(30, .call 21 [.r 24, .r 29, .r 25, .r 26, .r 27] 0), (31, .call 21 [.r 24, .r 29, .r 25, .r 26, .r 27] 1)])) (callsAt 32 19 [.r 24, .r 29, .r 25, .r 26, .r 27, .z 1] 0 7)) ([(39, .call 23 [.r 34, .r 38, .r 35, .r 36, .r 37] 0), (40, .lmk [.i, .i, .i, .i, .i, .i, .i, .i, .i, .i, .i, .i, .i, .i, .i, .i, .i, .i, .i, .i, .i, .i, .i, .i, .i, .i, .i, .i, .i, .i, .i, .i, .i, .i, .i, .i, .i, .i, .i, .i, .i, .i, .i, .i, .i, .i, .i, .i, .i, .i, .i, .i, .i, .i, .i, .i, .i, .i, .i, .i, .i, .i, .i, .i] [.z 0, .z 0, .z 0, .z 0, .z 0, .z 0, .z 0, .z 0, .z 0, .z 0, .z 0, .z 0, .z 0, .z 0, .z 0, .z 0, .z 0, .z 0, .z 0, .z 0, .z 0, .z 0, .z 0, .z 0, .z 0, .z 0, .z 0, .z 0, .z 0, .z 0, .z 0, .z 0, .z 0, .z 0, .z 0, .z 0, .z 0, .z 0, .z 0, .z 0, .z 0, .z 0, .z 0, .z 0, .z 0, .z 0, .z 0, .z 0, .z 0, .z 0, .z 0, .z 0, .z 0, .z 0, .z 0, .z 0, .z 0, .z 0, .z 0, .z 0, .z 0, .z 0, .z 0, .z 0]), (41, .llen 6 (.r 12)), (42, .eql (.r 41) (.z 3)), (43, .llen 6 (.r 12)), (44, .lss (.z 0) (.r 43)), (45, .lgeti 6 0 (.r 12) (.z 0)), (46, .lgeti 6 1 (.r 12) (.z 0)), (47, .lgeti 6 2 (.r 12) (.z 0)), (48, .lgeti 6 3 (.r 12) (.z 0)), (49, .lgeti 6 4 (.r 12) (.z 0)), (50, .lgeti 6 5 (.r 12) (.z 0)), (51, .eql (.r 45) (.z 1)), (52, .eql (.r 46) (.z 2)), (53, .eql (.r 47) (.z (-1))), (54, .and (.r 52) (.r 53)), (55, .and (.r 51) (.r 54)), (56, .eql (.r 48) (.z 64)), (57, .eql (.r 49) (.z 3)), (58, .eql (.r 50) (.z 0)), (59, .and (.r 57) (.r 58)), (60, .and (.r 56) (.r 59)), (61, .and (.r 55) (.r 60)), (62, .and (.r 42) (.r 61)), (63, .llen 6 (.r 12)), (64, .lss (.z 1) (.r 63)), (65, .lgeti 6 0 (.r 12) (.z 1)), (66, .lgeti 6 1 (.r 12) (.z 1)), (67, .lgeti 6 2 (.r 12) (.z 1)), (68, .lgeti 6 3 (.r 12) (.z 1)), (69, .lgeti 6 4 (.r 12) (.z 1)), (70, .lgeti 6 5 (.r 12) (.z 1)), (71, .eql (.r 65) (.z 64)), (72, .eql (.r 66) (.z 0)), (73, .eql (.r 67) (.z 40)), (74, .and (.r 72) (.r 73)), (75, .and (.r 71) (.r 74)), (76, .eql (.r 68) (.z (-1))), (77, .eql (.r 69) (.z (-1))), (78, .eql (.r 70) (.z 1)), (79, .and (.r 77) (.r 78)), (80, .and (.r 76) (.r 79)), (81, .and (.r 75) (.r 80)), (82, .and (.r 62) (.r 81)), (83, .llen 6 (.r 12)), (84, .lss (.z 2) (.r 83)), (85, .lgeti 6 0 (.r 12) (.z 2)), (86, .lgeti 6 1 (.r 12) (.z 2)), (87, .lgeti 6 2 (.r 12) (.z 2)), (88, .lgeti 6 3 (.r 12) (.z 2)), (89, .lgeti 6 4 (.r 12) (.z 2)), (90, .lgeti 6 5 (.r 12) (.z 2)), (91, .eql (.r 85) (.z 64)), (92, .eql (.r 86) (.z (-1))), (93, .eql (.r 87) (.z (-1))), (94, .and (.r 92) (.r 93)), (95, .and (.r 91) (.r 94)), (96, .eql (.r 88) (.z 65)), (97, .eql (.r 89) (.z 64)), (98, .eql (.r 90) (.z 2)), (99, .and (.r 97) (.r 98)), (100, .and (.r 96) (.r 99)), (101, .and (.r 95) (.r 100)), (102, .and (.r 82) (.r 101)), (103, .lgeti 1 3 (.r 14) (.z 0)), (104, .eql (.r 103) (.z 65)), (105, .and (.r 102) (.r 104)), (106, .and (.r 105) (.r 17)), (107, .llen 1 (.r 28)), (108, .eql (.r 107) (.z 1)), (109, .and (.r 106) (.r 108)), (110, .llen 1 (.r 28)), (111, .lss (.z 0) (.r 110)), (112, .lgeti 1 0 (.r 28) (.z 0)), (113, .eql (.r 112) (.z 0)), (114, .and (.r 109) (.r 113)), (115, .llen 1 (.r 31)), (116, .eql (.r 115) (.z 31)), (117, .and (.r 114) (.r 116)), (118, .llen 1 (.r 31)), (119, .lss (.z 30) (.r 118)), (120, .lgeti 1 0 (.r 31) (.z 30)), (121, .eql (.r 120) (.z 3)), (122, .and (.r 117) (.r 121)), (123, .eql (.r 33) (.z 1)), (124, .and (.r 122) (.r 123)), (125, .lgeti 1 3 (.r 39) (.z 0)), (126, .eql (.r 125) (.z 64)), (127, .and (.r 124) (.r 126)), (128, .call 25 [.r 34, .r 38, .r 35, .r 36, .r 37] 0), (129, .eql (.r 128) (.z 1)), (130, .and (.r 127) (.r 129))]),
  [⟨[], .r 0⟩, ⟨[], .r 7⟩, ⟨[], .r 16⟩, ⟨[], .r 23⟩, ⟨[], .r 30⟩, ⟨[], .r 32⟩, ⟨[(.r 42, true)], .r 44⟩, ⟨[(.r 62, true)], .r 64⟩, ⟨[(.r 82, true)], .r 84⟩, ⟨[(.r 109, true)], .r 111⟩, ⟨[(.r 117, true)], .r 119⟩],
  [],
  [.r 130]⟩
noncomputable def p8  : Bool :=
  let y0 : List DV := g9 []
  let x0 : Bool := (dget y0 0).toB
  let x6 : List DV := [.i 1, .i 2, .i (-1), .i 3, .i 3, .i 0, .i 40, .i 0, .i 3, .i (-1), .i (-1), .i 3]
  let y7 : List DV := g11 [dget y0 1, dget y0 5, dget y0 2, dget y0 3, dget y0 4, .l x6]
  let x7 : Bool := (dget y7 0).toB
  let x8 : List DV := (dget y7 1).toL
  let x12 : List DV := (dget y7 5).toL
  let x14 := r23_0 x8
  let y16 : List DV := g14 [dget y7 1, dget y7 6, dget y7 2, dget y7 3, dget y7 4, .i 0]
  let x16 : Bool := (dget y16 0).toB
  let x17 : Bool := (dget y16 1).toB
  let y23 : List DV := g16 [dget y16 3, dget y16 2, dget y16 4, dget y16 5, dget y16 6, .i 2]
  let x23 : Bool := (dget y23 0).toB
  let x28 : List DV := (dget y23 5).toL
  let x29 : List DV := (dget y23 6).toL
  let x30 := p21 x29
  let x31 := r21_0 x29
  let y32 : List DV := g19 [dget y23 1, dget y23 6, dget y23 2, dget y23 3, dget y23 4, .i 1]
  let x32 : Bool := (dget y32 0).toB
  let x41 := ((x12.length / 6 : Nat) : Int)
  let x42 := x41 == 3
  let x43 := ((x12.length / 6 : Nat) : Int)
  let x44 := decide (0 < x43)
  let x45 : Int := (x12.getD (Int.toNat 0 * (6 : Nat) + (0 : Nat)) default).toI
  let x46 : Int := (x12.getD (Int.toNat 0 * (6 : Nat) + (1 : Nat)) default).toI
  let x47 : Int := (x12.getD (Int.toNat 0 * (6 : Nat) + (2 : Nat)) default).toI
  let x48 : Int := (x12.getD (Int.toNat 0 * (6 : Nat) + (3 : Nat)) default).toI
  let x49 : Int := (x12.getD (Int.toNat 0 * (6 : Nat) + (4 : Nat)) default).toI
  let x50 : Int := (x12.getD (Int.toNat 0 * (6 : Nat) + (5 : Nat)) default).toI
  let x51 := x45 == 1
  let x52 := x46 == 2
  let x53 := x47 == (-1)
  let x54 := x52 && x53
  let x55 := x51 && x54
  let x56 := x48 == 64
  let x57 := x49 == 3
  let x58 := x50 == 0
  let x59 := x57 && x58
  let x60 := x56 && x59
  let x61 := x55 && x60
  let x62 := x42 && x61
  let x63 := ((x12.length / 6 : Nat) : Int)
  let x64 := decide (1 < x63)
  let x65 : Int := (x12.getD (Int.toNat 1 * (6 : Nat) + (0 : Nat)) default).toI
  let x66 : Int := (x12.getD (Int.toNat 1 * (6 : Nat) + (1 : Nat)) default).toI
  let x67 : Int := (x12.getD (Int.toNat 1 * (6 : Nat) + (2 : Nat)) default).toI
  let x68 : Int := (x12.getD (Int.toNat 1 * (6 : Nat) + (3 : Nat)) default).toI
  let x69 : Int := (x12.getD (Int.toNat 1 * (6 : Nat) + (4 : Nat)) default).toI
  let x70 : Int := (x12.getD (Int.toNat 1 * (6 : Nat) + (5 : Nat)) default).toI
  let x71 := x65 == 64
  let x72 := x66 == 0
  let x73 := x67 == 40
  let x74 := x72 && x73
  let x75 := x71 && x74
  let x76 := x68 == (-1)
  let x77 := x69 == (-1)
  let x78 := x70 == 1
  let x79 := x77 && x78
  let x80 := x76 && x79
  let x81 := x75 && x80
  let x82 := x62 && x81
  let x83 := ((x12.length / 6 : Nat) : Int)
  let x84 := decide (2 < x83)
  let x85 : Int := (x12.getD (Int.toNat 2 * (6 : Nat) + (0 : Nat)) default).toI
  let x86 : Int := (x12.getD (Int.toNat 2 * (6 : Nat) + (1 : Nat)) default).toI
  let x87 : Int := (x12.getD (Int.toNat 2 * (6 : Nat) + (2 : Nat)) default).toI
  let x88 : Int := (x12.getD (Int.toNat 2 * (6 : Nat) + (3 : Nat)) default).toI
  let x89 : Int := (x12.getD (Int.toNat 2 * (6 : Nat) + (4 : Nat)) default).toI
  let x90 : Int := (x12.getD (Int.toNat 2 * (6 : Nat) + (5 : Nat)) default).toI
  let x91 := x85 == 64
  let x92 := x86 == (-1)
  let x93 := x87 == (-1)
  let x94 := x92 && x93
  let x95 := x91 && x94
  let x96 := x88 == 65
  let x97 := x89 == 64
  let x98 := x90 == 2
  let x99 := x97 && x98
  let x100 := x96 && x99
  let x101 := x95 && x100
  let x102 := x82 && x101
  let x103 : Int := (x14.getD (Int.toNat 0 * (1 : Nat) + (3 : Nat)) default).toI
  let x104 := x103 == 65
  let x105 := x102 && x104
  let x106 := x105 && x17
  let x107 := ((x28.length / 1 : Nat) : Int)
  let x108 := x107 == 1
  let x109 := x106 && x108
  let x110 := ((x28.length / 1 : Nat) : Int)
  let x111 := decide (0 < x110)
  let x112 : Int := (x28.getD (Int.toNat 0 * (1 : Nat) + (0 : Nat)) default).toI
  let x113 := x112 == 0
  let x114 := x109 && x113
  let x115 := ((x31.length / 1 : Nat) : Int)
  let x116 := x115 == 31
  let x117 := x114 && x116
  let x118 := ((x31.length / 1 : Nat) : Int)
  let x119 := decide (30 < x118)
  [ow [] x0, ow [] x7, ow [] x16, ow [] x23, ow [] x30, ow [] x32, ow [(x42, true)] x44, ow [(x62, true)] x64, ow [(x82, true)] x84, ow [(x109, true)] x111, ow [(x117, true)] x119].all id
noncomputable def r8_0  : Bool :=
  let y1 : List DV := g9 []
  let x6 : List DV := [.i 1, .i 2, .i (-1), .i 3, .i 3, .i 0, .i 40, .i 0, .i 3, .i (-1), .i (-1), .i 3]
  let y8 : List DV := g11 [dget y1 1, dget y1 5, dget y1 2, dget y1 3, dget y1 4, .l x6]
  let x8 : List DV := (dget y8 1).toL
  let x12 : List DV := (dget y8 5).toL
  let x14 := r23_0 x8
  let y17 : List DV := g14 [dget y8 1, dget y8 6, dget y8 2, dget y8 3, dget y8 4, .i 0]
  let x17 : Bool := (dget y17 1).toB
  let y24 : List DV := g16 [dget y17 3, dget y17 2, dget y17 4, dget y17 5, dget y17 6, .i 2]
  let x28 : List DV := (dget y24 5).toL
  let x29 : List DV := (dget y24 6).toL
  let x31 := r21_0 x29
  let y33 : List DV := g19 [dget y24 1, dget y24 6, dget y24 2, dget y24 3, dget y24 4, .i 1]
  let x33 : Int := (dget y33 1).toI
  let x34 : List DV := (dget y33 2).toL
  let x37 : Int := (dget y33 5).toI
  let x39 := r23_0 x34
  let x41 := ((x12.length / 6 : Nat) : Int)
  let x42 := x41 == 3
  let x45 : Int := (x12.getD (Int.toNat 0 * (6 : Nat) + (0 : Nat)) default).toI
  let x46 : Int := (x12.getD (Int.toNat 0 * (6 : Nat) + (1 : Nat)) default).toI
  let x47 : Int := (x12.getD (Int.toNat 0 * (6 : Nat) + (2 : Nat)) default).toI
  let x48 : Int := (x12.getD (Int.toNat 0 * (6 : Nat) + (3 : Nat)) default).toI
  let x49 : Int := (x12.getD (Int.toNat 0 * (6 : Nat) + (4 : Nat)) default).toI
  let x50 : Int := (x12.getD (Int.toNat 0 * (6 : Nat) + (5 : Nat)) default).toI
  let x51 := x45 == 1
  let x52 := x46 == 2
  let x53 := x47 == (-1)
  let x54 := x52 && x53
  let x55 := x51 && x54
  let x56 := x48 == 64
  let x57 := x49 == 3
  let x58 := x50 == 0
  let x59 := x57 && x58
  let x60 := x56 && x59
  let x61 := x55 && x60
  let x62 := x42 && x61
  let x65 : Int := (x12.getD (Int.toNat 1 * (6 : Nat) + (0 : Nat)) default).toI
  let x66 : Int := (x12.getD (Int.toNat 1 * (6 : Nat) + (1 : Nat)) default).toI
  let x67 : Int := (x12.getD (Int.toNat 1 * (6 : Nat) + (2 : Nat)) default).toI
  let x68 : Int := (x12.getD (Int.toNat 1 * (6 : Nat) + (3 : Nat)) default).toI
  let x69 : Int := (x12.getD (Int.toNat 1 * (6 : Nat) + (4 : Nat)) default).toI
  let x70 : Int := (x12.getD (Int.toNat 1 * (6 : Nat) + (5 : Nat)) default).toI
  let x71 := x65 == 64
  let x72 := x66 == 0
  let x73 := x67 == 40
  let x74 := x72 && x73
  let x75 := x71 && x74
  let x76 := x68 == (-1)
  let x77 := x69 == (-1)
  let x78 := x70 == 1
  let x79 := x77 && x78
  let x80 := x76 && x79
  let x81 := x75 && x80
  let x82 := x62 && x81
  let x85 : Int := (x12.getD (Int.toNat 2 * (6 : Nat) + (0 : Nat)) default).toI
  let x86 : Int := (x12.getD (Int.toNat 2 * (6 : Nat) + (1 : Nat)) default).toI
  let x87 : Int := (x12.getD (Int.toNat 2 * (6 : Nat) + (2 : Nat)) default).toI
  let x88 : Int := (x12.getD (Int.toNat 2 * (6 : Nat) + (3 : Nat)) default).toI
  let x89 : Int := (x12.getD (Int.toNat 2 * (6 : Nat) + (4 : Nat)) default).toI
  let x90 : Int := (x12.getD (Int.toNat 2 * (6 : Nat) + (5 : Nat)) default).toI
  let x91 := x85 == 64
  let x92 := x86 == (-1)
  let x93 := x87 == (-1)
  let x94 := x92 && x93
  let x95 := x91 && x94
  let x96 := x88 == 65
  let x97 := x89 == 64
  let x98 := x90 == 2
  let x99 := x97 && x98
  let x100 := x96 && x99
  let x101 := x95 && x100
  let x102 := x82 && x101
  let x103 : Int := (x14.getD (Int.toNat 0 * (1 : Nat) + (3 : Nat)) default).toI
  let x104 := x103 == 65
  let x105 := x102 && x104
  let x106 := x105 && x17
  let x107 := ((x28.length / 1 : Nat) : Int)
  let x108 := x107 == 1
  let x109 := x106 && x108
  let x112 : Int := (x28.getD (Int.toNat 0 * (1 : Nat) + (0 : Nat)) default).toI
  let x113 := x112 == 0
  let x114 := x109 && x113
  let x115 := ((x31.length / 1 : Nat) : Int)
  let x116 := x115 == 31
  let x117 := x114 && x116
  let x120 : Int := (x31.getD (Int.toNat 30 * (1 : Nat) + (0 : Nat)) default).toI
  let x121 := x120 == 3
  let x122 := x117 && x121
  let x123 := x33 == 1
  let x124 := x122 && x123
  let x125 : Int := (x39.getD (Int.toNat 0 * (1 : Nat) + (3 : Nat)) default).toI
  let x126 := x125 == 64
  let x127 := x124 && x126
  let x128 := r25_0 x37
  let x129 := x128 == 1
  let x130 := x127 && x129
  x130
noncomputable def g8 (_ds : List DV) : List DV := [.b (p8 ), .b (r8_0 )]
def S8 : Sigs := ⟨[(9, s9), (11, s11), (23, s23), (14, s14), (16, s16), (21, s21), (19, s19), (25, s25)], [], [], 0, []⟩

end Go.Proofs.Ytkpbkanbpjfadaa

namespace Go.Sx

theorem wrap_i64 (n : Int) : IntKind.wrap .i64 n = if n % 18446744073709551616 ≥ 9223372036854775808 then n % 18446744073709551616 - 18446744073709551616 else n % 18446744073709551616 := by
  simp [IntKind.wrap, IntKind.signed, IntKind.bits]
theorem wrap_i64_of {n : Int} (h0 : -9223372036854775808 ≤ n) (h1 : n < 9223372036854775808) : IntKind.wrap .i64 n = n := by rw [wrap_i64]; split <;> omega
theorem mod_lt (n k : Nat) : n % 2 ^ k < 2 ^ k := Nat.mod_lt _ (Nat.two_pow_pos k)
section
variable {a m p : Int}
end
end Go.Sx

namespace Go.Proofs.Ytkpbkanbpjfadaa
open Go Go.Sx

section fm
variable {α : Type} {f : α → List DV} {m : Nat}
theorem fm_len (hf : ∀ a, (f a).length = m) : ∀ l : List α, (l.flatMap f).length = l.length * m
  | [] => by simp
  | a :: l => by rw [List.flatMap_cons, List.length_append, hf, fm_len hf l, List.length_cons, Nat.succ_mul, Nat.add_comm]
theorem fm_get (hf : ∀ a, (f a).length = m) : ∀ (l : List α) (k j : Nat) (a : α), l[k]? = some a → j < m → (l.flatMap f).getD (k * m + j) default = (f a).getD j default
  | [], k, j, a, h, _ => by simp at h
  | b :: l, 0, j, a, h, hj => by
    simp at h; subst h
    rw [List.flatMap_cons, Nat.zero_mul, Nat.zero_add, List.getD_eq_getElem?_getD, List.getElem?_append_left (by rw [hf]; exact hj), List.getD_eq_getElem?_getD]
  | b :: l, k + 1, j, a, h, hj => by
    have ih := fm_get hf l k j a (by simpa using h) hj
    rw [List.flatMap_cons, List.getD_eq_getElem?_getD, List.getElem?_append_right (by rw [hf, Nat.succ_mul]; omega), hf, ← List.getD_eq_getElem?_getD, show (k + 1) * m + j - m = k * m + j from by rw [Nat.succ_mul]; omega]
    exact ih
theorem fm_drop (hf : ∀ a, (f a).length = m) : ∀ (l : List α) (k : Nat), (l.flatMap f).drop (k * m) = (l.drop k).flatMap f
  | [], k => by simp
  | b :: l, 0 => by simp
  | b :: l, k + 1 => by
    rw [List.flatMap_cons, List.drop_succ_cons, ← fm_drop hf l k, Nat.succ_mul, Nat.add_comm, ← List.drop_drop]
    congr 1
    rw [← hf b, List.drop_left]
end fm

structure En where
  d : Int
  n : Int
  o : Int
  f : Bool
structure Wa where
  s0 : Int
  s1 : Int
  s2 : Int
  d : Int
structure Na where
  s0 : Int
  s1 : Int
  s2 : Int
  d : Int
  o : Int
  r : Int
structure U where
  na : List Int
  fr : List Int
  rob : List En
  fi : Nat
  ma : Nat
def encI (l : List Int) : List DV := l.map .i
abbrev En.dv (e : En) : List DV := [.i e.d, .i e.n, .i e.o, .b e.f]
abbrev Wa.dv (e : Wa) : List DV := [.i e.s0, .i e.s1, .i e.s2, .i e.d]
abbrev Na.dv (e : Na) : List DV := [.i e.s0, .i e.s1, .i e.s2, .i e.d, .i e.o, .i e.r]
def encE (l : List En) : List DV := l.flatMap En.dv
def encW (l : List Wa) : List DV := l.flatMap Wa.dv
def encN (l : List Na) : List DV := l.flatMap Na.dv

theorem encI_get (l : List Int) (k : Nat) : ((encI l).getD k default).toI = l.getD k 0 := by
  unfold encI
  rw [List.getD_eq_getElem?_getD, List.getElem?_map, List.getD_eq_getElem?_getD]
  cases l[k]? <;> rfl
theorem encI_len (l : List Int) : (encI l).length = l.length := by simp [encI]
theorem encI_set (l : List Int) (k : Nat) (x : Int) : (encI l).set k (.i x) = encI (l.set k x) := by simp [encI, List.map_set]
theorem encI_drop (l : List Int) (k : Nat) : (encI l).drop k = encI (l.drop k) := by simp [encI, List.map_drop]
theorem encI_append (l r : List Int) : encI l ++ encI r = encI (l ++ r) := by simp [encI]
theorem encE_len (l : List En) : (encE l).length = l.length * 4 := fm_len (f := En.dv) (fun _ => rfl) l
theorem encW_len (l : List Wa) : (encW l).length = l.length * 4 := fm_len (f := Wa.dv) (fun _ => rfl) l
theorem encN_len (l : List Na) : (encN l).length = l.length * 6 := fm_len (f := Na.dv) (fun _ => rfl) l
theorem encN_append (l r : List Na) : encN l ++ encN r = encN (l ++ r) := by simp [encN]
theorem padN_id {n : Nat} {l : List DV} (h : l.length = n) : padN n l = l := by
  unfold padN
  apply List.ext_getElem?
  intro i
  by_cases hi : i < n
  · rw [List.getElem?_map, List.getElem?_range hi]
    simp [List.getElem?_eq_getElem (show i < l.length from by omega)]
  · rw [List.getElem?_eq_none (by simpa using hi), List.getElem?_eq_none (by omega)]
theorem encE_set : ∀ (l : List En) (k : Nat) (e : En), ((((encE l).set (k * 4 + 0) (.i e.d)).set (k * 4 + 1) (.i e.n)).set (k * 4 + 2) (.i e.o)).set (k * 4 + 3) (.b e.f) = encE (l.set k e)
  | [], k, e => by simp [encE]
  | x :: l, 0, e => by simp [encE]
  | x :: l, k + 1, e => by
    have ih := encE_set l k e
    have h4 : ∀ (j : Nat) (v : DV) (y : List DV), (x.dv ++ y).set ((k + 1) * 4 + j) v = x.dv ++ y.set (k * 4 + j) v := fun j v y => by
      rw [List.set_append_right _ _ (by show 4 ≤ _; omega)]
      congr 2
      show (k + 1) * 4 + j - 4 = _
      omega
    have e0 : encE (x :: l) = x.dv ++ encE l := by simp [encE]
    rw [List.set_cons_succ, e0, h4, h4, h4, h4, ih]
    simp [encE]
theorem encE_done : ∀ (l : List En) (k : Nat) (e : En), l[k]? = some e → (encE l).set (k * 4 + 3) (.b true) = encE (l.set k { e with f := true })
  | [], k, e, h => by simp at h
  | x :: l, 0, e, h => by simp at h; subst h; simp [encE]
  | x :: l, k + 1, e, h => by
    have ih := encE_done l k e (by simpa using h)
    have e0 : encE (x :: l) = x.dv ++ encE l := by simp [encE]
    rw [List.set_cons_succ, e0, List.set_append_right _ _ (by show 4 ≤ _; omega), show (k + 1) * 4 + 3 - x.dv.length = k * 4 + 3 from by show (k + 1) * 4 + 3 - 4 = _; omega, ih]
    simp [encE]

structure U.WF (u : U) : Prop where
  na : u.na.length = 64
  rob : u.rob.length = 16
  fi : u.fi < 16
  ma : u.ma ≤ 16
  fr : u.fr.length ≤ 4096
  rd : ∀ e ∈ u.rob, e.d < 64

def src (na : List Int) (x : Int) : Int := if 0 ≤ x ∧ x < 64 then na.getD x.toNat 0 else -1
def U.place (u : U) (n : Nat) : Nat := (u.fi + n) % 16
def Wa.wr (w : Wa) : Bool := decide (w.d > 0) && decide (w.d < 64)
def U.alloc1 (u : U) (w : Wa) : Option (U × Na) :=
  if u.ma = 16 ∨ (w.wr = true ∧ u.fr.length = 0) then none else
  some (⟨bif w.wr then u.na.set w.d.toNat (u.fr.getD 0 0) else u.na, bif w.wr then u.fr.drop 1 else u.fr,
      u.rob.set (u.place u.ma) ⟨bif w.wr then w.d else -1, bif w.wr then u.fr.getD 0 0 else -1, bif w.wr then u.na.getD w.d.toNat 0 else -1, false⟩, u.fi, u.ma + 1⟩,
    ⟨src u.na w.s0, src u.na w.s1, src u.na w.s2, bif w.wr then u.fr.getD 0 0 else -1, bif w.wr then u.na.getD w.d.toNat 0 else -1, (u.place u.ma : Nat)⟩)
def U.alloc : U → List Wa → U × List Na
  | u, [] => (u, [])
  | u, w :: ws =>
    match u.alloc1 w with
    | none => (u, [])
    | some r => let q := r.1.alloc ws; (q.1, r.2 :: q.2)
theorem U.WF.alloc1 {u u' : U} {w : Wa} {n : Na} (h : u.WF) (ha : u.alloc1 w = some (u', n)) : u'.WF ∧ u'.fi = u.fi ∧ u'.ma = u.ma + 1 ∧ u.ma < 16 := by
  unfold U.alloc1 at ha
  split at ha
  · cases ha
  · rename_i hc
    have hm : u.ma < 16 := by have := h.ma; omega
    simp only [Option.some.injEq, Prod.mk.injEq] at ha
    obtain ⟨rfl, _⟩ := ha
    refine ⟨⟨?_, ?_, h.fi, ?_, ?_, ?_⟩, rfl, rfl, hm⟩
    · show (bif w.wr then _ else _ : List Int).length = 64
      cases w.wr <;> simp [h.na]
    · simp [h.rob]
    · show u.ma + 1 ≤ 16; omega
    · show (bif w.wr then _ else _ : List Int).length ≤ 4096
      have := h.fr
      cases w.wr <;> simp <;> omega
    · intro e he
      rcases List.mem_or_eq_of_mem_set he with h1 | rfl
      · exact h.rd e h1
      · show (bif w.wr then w.d else -1 : Int) < 64
        unfold Wa.wr
        by_cases hd : w.d < 64 <;> simp [hd]
        cases hb : decide (0 < w.d) <;> simp_all
theorem U.WF.alloc {u : U} (h : u.WF) : ∀ ws : List Wa, (u.alloc ws).1.WF ∧ (u.alloc ws).1.fi = u.fi ∧ (u.alloc ws).1.ma = u.ma + (u.alloc ws).2.length ∧ (u.alloc ws).2.length ≤ ws.length
  | [] => ⟨h, rfl, rfl, Nat.le_refl _⟩
  | w :: ws => by
    unfold U.alloc
    cases ha : u.alloc1 w with
    | none => exact ⟨h, rfl, rfl, Nat.zero_le _⟩
    | some r =>
      obtain ⟨h1, h2, h3, _⟩ := h.alloc1 (u' := r.1) (n := r.2) ha
      obtain ⟨k1, k2, k3, k4⟩ := U.WF.alloc h1 ws
      refine ⟨k1, k2.trans h2, ?_, ?_⟩
      · simp only [List.length_cons]; omega
      · simp only [List.length_cons]; omega

theorem place_eq {x y : Nat} (h : x + y < 1000) : r26_0 (x : Int) (y : Int) = ((x + y) % 16 : Nat) := by
  show Int.tmod (IntKind.wrap .i64 ((x : Int) + (y : Int))) 16 = _
  rw [wrap_i64_of (by omega) (by omega)]
  rw [Int.tmod_eq_emod_of_nonneg (by omega)]
  omega
def U.number (u : U) (r : Int) : Int :=
  if 0 ≤ r ∧ r < 16 then (if ((r - u.fi + 16) % 16) < u.ma then (r - u.fi + 16) % 16 else -1) else -1
theorem number_eq {u : U} (h : u.WF) (r : Int) : r28_0 (u.fi : Int) (u.ma : Int) r = u.number r := by
  show (bif !(decide (r < 0) || decide (r ≥ 16)) then (bif !decide (Int.tmod (IntKind.wrap .i64 (IntKind.wrap .i64 (r - u.fi) + 16)) 16 ≥ u.ma) then Int.tmod (IntKind.wrap .i64 (IntKind.wrap .i64 (r - u.fi) + 16)) 16 else -1) else -1) = _
  unfold U.number
  have h1 := h.fi
  by_cases hr : 0 ≤ r ∧ r < 16
  · rw [if_pos hr, wrap_i64_of (n := r - u.fi) (by omega) (by omega), wrap_i64_of (by omega) (by omega), Int.tmod_eq_emod_of_nonneg (by omega)]
    have e1 : decide (r < 0) = false := by simp; omega
    have e2 : decide (r ≥ 16) = false := by simp; omega
    rw [e1, e2]
    simp only [Bool.or_self, Bool.not_false, cond_true]
    by_cases hc : (r - u.fi + 16) % 16 < u.ma
    · rw [if_pos hc, decide_eq_false (by omega)]; rfl
    · rw [if_neg hc, decide_eq_true (by omega)]; rfl
  · rw [if_neg hr]
    have : (decide (r < 0) || decide (r ≥ 16)) = true := by simp; omega
    rw [this]; rfl

theorem at3 (s0 s1 s2 : Int) (na : List Int) : g101102 [.i s0, .i s1, .i s2, .l (encI na), .i 0, .i 0, .i 0, .i 0] = [.b true, .i 0, .i 3, .i (src na s0), .i (src na s1), .i (src na s2)] := by
  have hL : loopG W101102 C101102 N101102 T101102 [.i s0, .i s1, .i s2, .l (encI na), .i 0, .i 0, .i 0, .i 0] = some [.i 0, .i 3, .i (src na s0), .i (src na s1), .i (src na s2)] := by
    have hw : ∀ k a b c : Int, 0 ≤ k → W101102 [.i s0, .i s1, .i s2, .l (encI na), .i k, .i a, .i b, .i c] = true := fun k a b c hk => by
      show w101102 s0 s1 s2 (encI na) k a b c = true
      unfold w101102
      have h1 : decide (k ≥ 0) = true := by simpa using hk
      simp [h1, ow]
      omega
    have hs : ∀ x : Int, (bif decide (x ≥ 0) && decide (x < 64) then ((encI na).getD (Int.toNat x * (1 : Nat) + (0 : Nat)) default).toI else -1) = src na x := fun x => by
      rw [Nat.mul_one, Nat.add_zero, encI_get]
      unfold src
      by_cases hx : 0 ≤ x ∧ x < 64
      · rw [if_pos hx]; have : (decide (x ≥ 0) && decide (x < 64)) = true := by simpa using hx
        rw [this]; rfl
      · rw [if_neg hx]; have : (decide (x ≥ 0) && decide (x < 64)) = false := by simp; omega
        rw [this]; rfl
    have c1 : ∀ (c : Bool) (x : Int), (bif c then x else x) = x := fun c x => by cases c <;> rfl
    have n0 : N101102 [.i s0, .i s1, .i s2, .l (encI na), .i 0, .i 0, .i 0, .i 0] = [.i s0, .i s1, .i s2, .l (encI na), .i 1, .i (src na s0), .i 0, .i 0] := by
      have h0 : n101102_1 s0 s1 s2 (encI na) 0 0 0 0 = src na s0 := hs s0
      have h1 : n101102_2 s0 s1 s2 (encI na) 0 0 0 0 = 0 := c1 _ 0
      have h2 : n101102_3 s0 s1 s2 (encI na) 0 0 0 0 = 0 := c1 _ 0
      show [DV.i s0, .i s1, .i s2, .l (encI na), .i 1, .i (n101102_1 s0 s1 s2 (encI na) 0 0 0 0), .i (n101102_2 s0 s1 s2 (encI na) 0 0 0 0), .i (n101102_3 s0 s1 s2 (encI na) 0 0 0 0)] = _
      rw [h0, h1, h2]
    have n1 : ∀ a, N101102 [.i s0, .i s1, .i s2, .l (encI na), .i 1, .i a, .i 0, .i 0] = [.i s0, .i s1, .i s2, .l (encI na), .i 2, .i a, .i (src na s1), .i 0] := fun a => by
      have h0 : n101102_1 s0 s1 s2 (encI na) 1 a 0 0 = a := c1 _ a
      have h1 : n101102_2 s0 s1 s2 (encI na) 1 a 0 0 = src na s1 := hs s1
      have h2 : n101102_3 s0 s1 s2 (encI na) 1 a 0 0 = 0 := c1 _ 0
      show [DV.i s0, .i s1, .i s2, .l (encI na), .i 2, .i (n101102_1 s0 s1 s2 (encI na) 1 a 0 0), .i (n101102_2 s0 s1 s2 (encI na) 1 a 0 0), .i (n101102_3 s0 s1 s2 (encI na) 1 a 0 0)] = _
      rw [h0, h1, h2]
    have n2 : ∀ a b, N101102 [.i s0, .i s1, .i s2, .l (encI na), .i 2, .i a, .i b, .i 0] = [.i s0, .i s1, .i s2, .l (encI na), .i 3, .i a, .i b, .i (src na s2)] := fun a b => by
      have h0 : n101102_1 s0 s1 s2 (encI na) 2 a b 0 = a := c1 _ a
      have h1 : n101102_2 s0 s1 s2 (encI na) 2 a b 0 = b := c1 _ b
      have h2 : n101102_3 s0 s1 s2 (encI na) 2 a b 0 = src na s2 := hs s2
      show [DV.i s0, .i s1, .i s2, .l (encI na), .i 3, .i (n101102_1 s0 s1 s2 (encI na) 2 a b 0), .i (n101102_2 s0 s1 s2 (encI na) 2 a b 0), .i (n101102_3 s0 s1 s2 (encI na) 2 a b 0)] = _
      rw [h0, h1, h2]
    rw [loopG_next (hw 0 0 0 0 (by decide)) rfl, n0, loopG_next (hw 1 _ _ _ (by decide)) rfl, n1, loopG_next (hw 2 _ _ _ (by decide)) rfl, n2, loopG_last (hw 3 _ _ _ (by decide)) rfl]
    rfl
  have e : ∀ o : Option (List DV), o = some [.i 0, .i 3, .i (src na s0), .i (src na s1), .i (src na s2)] → [DV.b o.isSome, .i (dget (o.getD []) 0).toI, .i (dget (o.getD []) 1).toI, .i (dget (o.getD []) 2).toI, .i (dget (o.getD []) 3).toI, .i (dget (o.getD []) 4).toI] = [.b true, .i 0, .i 3, .i (src na s0), .i (src na s1), .i (src na s2)] := fun o h => by rw [h]; rfl
  exact e _ hL
end Go.Proofs.Ytkpbkanbpjfadaa

namespace Go.Proofs.Ytkpbkanbpjfadaa
open Go Go.Sx

theorem encW_get {ws : List Wa} {k : Nat} {w : Wa} (h : ws[k]? = some w) (j : Nat) (hj : j < 4) : (encW ws).getD (Int.toNat (k : Int) * (4 : Nat) + j) default = w.dv.getD j default := by
  rw [Int.toNat_natCast]
  exact fm_get (f := Wa.dv) (fun _ => rfl) ws k j w h hj
theorem encE_get {l : List En} {k : Nat} {e : En} (h : l[k]? = some e) (j : Nat) (hj : j < 4) : (encE l).getD (Int.toNat (k : Int) * (4 : Nat) + j) default = e.dv.getD j default := by
  rw [Int.toNat_natCast]
  exact fm_get (f := En.dv) (fun _ => rfl) l k j e h hj
theorem encN_get {l : List Na} {k : Nat} {e : Na} (h : l[k]? = some e) (j : Nat) (hj : j < 6) : (encN l).getD (Int.toNat (k : Int) * (6 : Nat) + j) default = e.dv.getD j default := by
  rw [Int.toNat_natCast]
  exact fm_get (f := Na.dv) (fun _ => rfl) l k j e h hj

abbrev AS (ws : List Wa) (x0 : List DV) (out : List Na) (k : Nat) (u : U) : List DV :=
  [.i ws.length, .l (encW ws), .i u.fi, .l x0, .l (encN out), .i k, .l x0, .l (encI u.na), .l (encI u.fr), .l (encE u.rob), .i u.ma, .l x0]

def stops (u : U) (w : Wa) : Bool := decide (u.ma = 16) || (w.wr && decide (u.fr.length = 0))
theorem alloc1_stops {u : U} {w : Wa} (h : stops u w = true) : u.alloc1 w = none := by
  unfold U.alloc1
  rw [if_pos]
  simp [stops] at h
  simpa [List.length_eq_zero_iff] using h
theorem alloc1_goes {u : U} {w : Wa} (h : stops u w = false) : u.alloc1 w = some (⟨bif w.wr then u.na.set w.d.toNat (u.fr.getD 0 0) else u.na, bif w.wr then u.fr.drop 1 else u.fr,
      u.rob.set (u.place u.ma) ⟨bif w.wr then w.d else -1, bif w.wr then u.fr.getD 0 0 else -1, bif w.wr then u.na.getD w.d.toNat 0 else -1, false⟩, u.fi, u.ma + 1⟩,
    ⟨src u.na w.s0, src u.na w.s1, src u.na w.s2, bif w.wr then u.fr.getD 0 0 else -1, bif w.wr then u.na.getD w.d.toNat 0 else -1, (u.place u.ma : Nat)⟩) := by
  unfold U.alloc1
  rw [if_neg]
  simp [stops] at h
  intro hc
  rcases hc with hc | ⟨h1, h2⟩
  · exact h.1 hc
  · exact h.2 h1 (by simpa [List.length_eq_zero_iff] using h2)

variable {w : Wa} {ws : List Wa} {x0 : List DV} {out : List Na} {k : Nat} {u : U}
theorem aC (hk : ws[k]? = some w) (_hu : u.WF) : C101100 (AS ws x0 out k u) = !(stops u w) := by
  have hlt : k < ws.length := (List.getElem?_eq_some_iff.1 hk).1
  show c101100 ws.length (encW ws) u.fi x0 (encN out) k x0 (encI u.na) (encI u.fr) (encE u.rob) u.ma x0 = _
  unfold c101100
  simp only [encW_get hk 3 (by decide), encI_len, Nat.div_one]
  have e1 : decide ((k : Int) < ws.length) = true := by simp; omega
  have e2 : ((u.ma : Int) == 16) = decide (u.ma = 16) := by rw [Bool.eq_iff_iff]; simp; omega
  have e3 : ((u.fr.length : Int) == 0) = decide (u.fr.length = 0) := by rw [Bool.eq_iff_iff]; simp
  rw [e1, e2, e3, Bool.true_and]
  rfl
theorem aCend (hk : ws.length ≤ k) : C101100 (AS ws x0 out k u) = false := by
  show c101100 ws.length (encW ws) u.fi x0 (encN out) k x0 (encI u.na) (encI u.fr) (encE u.rob) u.ma x0 = _
  unfold c101100
  have e1 : decide ((k : Int) < ws.length) = false := by simp; omega
  simp only [e1, Bool.false_and]
theorem ow_cons {c : Bool} {b : Bool} {l : List (Bool × Bool)} {x : Bool} (h : c = b → ow l x = true) : ow ((c, b) :: l) x = true := by
  cases c <;> cases b <;> simp_all [ow]
theorem ow_nil {x : Bool} (h : x = true) : ow [] x = true := by simp [ow, h]
theorem aWend (hk : ws.length ≤ k) : W101100 (AS ws x0 out k u) = true := by
  show w101100 ws.length (encW ws) u.fi x0 (encN out) k x0 (encI u.na) (encI u.fr) (encE u.rob) u.ma x0 = _
  unfold w101100
  have e1 : decide ((k : Int) < ws.length) = false := by simp; omega
  simp only [e1]
  simp [ow]
theorem aW (hk : ws[k]? = some w) (hu : u.WF) (ho : out.length ≤ 100) : W101100 (AS ws x0 out k u) = true := by
  have hlt : k < ws.length := (List.getElem?_eq_some_iff.1 hk).1
  show w101100 ws.length (encW ws) u.fi x0 (encN out) k x0 (encI u.na) (encI u.fr) (encE u.rob) u.ma x0 = _
  unfold w101100
  have := hu.fi
  have := hu.ma
  simp only [encW_get hk 0 (by decide), encW_get hk 1 (by decide), encW_get hk 2 (by decide), encW_get hk 3 (by decide), encI_len, Nat.div_one, encW_len, at3]
  rw [place_eq (by omega)]
  have e1 : decide ((k : Int) < ws.length) = true := by simp; omega
  have e4 : decide ((k : Int) ≥ 0) = true := by simp
  have e5 : ((ws.length * 4 / 4 : Nat) : Int) = ws.length := by congr 1; omega
  rw [e5, e1, e4]
  have e6 : decide ((((u.fi + u.ma) % 16 : Nat) : Int) ≥ 0) = true := by simp; omega
  have e7 : decide ((((u.fi + u.ma) % 16 : Nat) : Int) < 16) = true := by simp; omega
  rw [e6, e7]
  have e8 : ∀ (a b c d e f : Int), decide ((((encN out ++ [DV.i a, .i b, .i c, .i d, .i e, .i f]).length / 6 : Nat) : Int) ≤ 1436096819952) = true := fun a b c d e f => by
    rw [List.length_append, encN_len]; simp; omega
  rw [e8]
  have g1 : ∀ x, ow [(true, true)] x = x := fun x => by simp [ow]
  have g2 : ∀ a x, ow [(true, true), (a, true)] x = ow [(a, true)] x := fun a x => by simp [ow]
  have g3 : ∀ a b x, ow [(true, true), (a, true), (b, true)] x = ow [(a, true), (b, true)] x := fun a b x => by simp [ow]
  simp only [g1, g2, g3]
  have e9 : ∀ y, ow [(y, true)] true = true := fun y => by simp [ow]
  have hd : (w.dv.getD 3 default).toI = w.d := rfl
  simp only [hd, dget, List.getD_cons_zero, e9, List.all_cons, List.all_nil, Bool.and_true, id, Bool.true_and]
  simp only [Bool.and_eq_true]
  generalize u.fr.length = m
  refine ⟨?_, ?_, ?_, ?_, ?_, ?_⟩ <;> refine ow_cons fun h1 => ow_cons fun h2 => ow_nil ?_ <;> simp at h1 h2 ⊢ <;> omega

theorem pad4 {n : Nat} {l : List DV} (h : l.length = n) {a b c d : Nat} {x y z v : DV} : (padN n ((padN n ((padN n ((padN n l).set a x)).set b y)).set c z)).set d v = (((l.set a x).set b y).set c z).set d v := by
  have h1 : padN n l = l := padN_id h
  have h2 : padN n (l.set a x) = l.set a x := padN_id (by simp [h])
  have h3 : padN n ((l.set a x).set b y) = (l.set a x).set b y := padN_id (by simp [h])
  have h4 : padN n (((l.set a x).set b y).set c z) = ((l.set a x).set b y).set c z := padN_id (by simp [h])
  rw [h1, h2, h3, h4]
theorem aN {u' : U} {n : Na} (hk : ws[k]? = some w) (hu : u.WF) (ha : u.alloc1 w = some (u', n)) (hb : ws.length < 9223372036854775808) : N101100 (AS ws x0 out k u) = AS ws x0 (out ++ [n]) (k + 1) u' := by
  have hlt : k < ws.length := (List.getElem?_eq_some_iff.1 hk).1
  obtain ⟨_, _, _, hma⟩ := hu.alloc1 ha
  have hs : stops u w = false := by
    cases h : stops u w with
    | false => rfl
    | true => rw [alloc1_stops h] at ha; cases ha
  rw [alloc1_goes hs] at ha
  simp only [Option.some.injEq, Prod.mk.injEq] at ha
  obtain ⟨rfl, rfl⟩ := ha
  have hfi := hu.fi
  have p1 : r26_0 (u.fi : Int) (u.ma : Int) = ((u.fi + u.ma) % 16 : Nat) := place_eq (by omega)
  have hW : (igt w.d 0 && ilt w.d 64) = w.wr := rfl
  have hd : ∀ j, (w.dv.getD j default).toI = [w.s0, w.s1, w.s2, w.d].getD j 0 := fun j => by
    match j with
    | 0 => rfl
    | 1 => rfl
    | 2 => rfl
    | 3 => rfl
    | _ + 4 => rfl
  have q0 : n101100_0 ws.length (encW ws) u.fi x0 (encN out) k x0 (encI u.na) (encI u.fr) (encE u.rob) u.ma x0 = encN (out ++ [⟨src u.na w.s0, src u.na w.s1, src u.na w.s2, bif w.wr then u.fr.getD 0 0 else -1, bif w.wr then u.na.getD w.d.toNat 0 else -1, (u.place u.ma : Nat)⟩]) := by
    unfold n101100_0
    simp only [encW_get hk 0 (by decide), encW_get hk 1 (by decide), encW_get hk 2 (by decide), encW_get hk 3 (by decide)]
    simp only [at3, p1, List.getD_cons_zero, List.getD_cons_succ, hW, encI_get, Nat.mul_one, Nat.add_zero]
    rw [← encN_append]
    rfl
  have q1 : n101100_1 ws.length (encW ws) u.fi x0 (encN out) k x0 (encI u.na) (encI u.fr) (encE u.rob) u.ma x0 = (k + 1 : Nat) := by
    show IntKind.wrap .i64 ((k : Int) + 1) = _
    rw [wrap_i64_of (by omega) (by omega)]
    omega
  have q3 : n101100_3 ws.length (encW ws) u.fi x0 (encN out) k x0 (encI u.na) (encI u.fr) (encE u.rob) u.ma x0 = encI (bif w.wr then u.na.set w.d.toNat (u.fr.getD 0 0) else u.na) := by
    unfold n101100_3
    simp only [encW_get hk 3 (by decide), List.getD_cons_zero, List.getD_cons_succ, hW, encI_get, Nat.mul_one, Nat.add_zero]
    rw [padN_id (by rw [encI_len, hu.na]), encI_set]
    cases w.wr <;> rfl
  have q4 : n101100_4 ws.length (encW ws) u.fi x0 (encN out) k x0 (encI u.na) (encI u.fr) (encE u.rob) u.ma x0 = encI (bif w.wr then u.fr.drop 1 else u.fr) := by
    unfold n101100_4
    simp only [encW_get hk 3 (by decide), List.getD_cons_zero, List.getD_cons_succ, hW, Nat.mul_one]
    have : Int.toNat 1 = 1 := rfl
    rw [this, encI_drop]
    cases w.wr <;> rfl
  have q5 : n101100_5 ws.length (encW ws) u.fi x0 (encN out) k x0 (encI u.na) (encI u.fr) (encE u.rob) u.ma x0 = encE (u.rob.set (u.place u.ma) ⟨bif w.wr then w.d else -1, bif w.wr then u.fr.getD 0 0 else -1, bif w.wr then u.na.getD w.d.toNat 0 else -1, false⟩) := by
    unfold n101100_5
    simp only [encW_get hk 3 (by decide), List.getD_cons_zero, List.getD_cons_succ, hW, encI_get, Nat.mul_one, Nat.add_zero, p1]
    have hl : (encE u.rob).length = 64 := by rw [encE_len, hu.rob]
    rw [pad4 hl]
    exact encE_set u.rob (u.place u.ma) ⟨bif w.wr then w.d else -1, bif w.wr then u.fr.getD 0 0 else -1, bif w.wr then u.na.getD w.d.toNat 0 else -1, false⟩
  have q6 : n101100_6 ws.length (encW ws) u.fi x0 (encN out) k x0 (encI u.na) (encI u.fr) (encE u.rob) u.ma x0 = (u.ma + 1 : Nat) := by
    show IntKind.wrap .i64 ((u.ma : Int) + 1) = _
    rw [wrap_i64_of (by omega) (by omega)]
    omega
  show [DV.i ws.length, .l (encW ws), .i u.fi, .l x0, .l (n101100_0 ws.length (encW ws) u.fi x0 (encN out) k x0 (encI u.na) (encI u.fr) (encE u.rob) u.ma x0), .i (n101100_1 ws.length (encW ws) u.fi x0 (encN out) k x0 (encI u.na) (encI u.fr) (encE u.rob) u.ma x0), .l x0, .l (n101100_3 ws.length (encW ws) u.fi x0 (encN out) k x0 (encI u.na) (encI u.fr) (encE u.rob) u.ma x0), .l (n101100_4 ws.length (encW ws) u.fi x0 (encN out) k x0 (encI u.na) (encI u.fr) (encE u.rob) u.ma x0), .l (n101100_5 ws.length (encW ws) u.fi x0 (encN out) k x0 (encI u.na) (encI u.fr) (encE u.rob) u.ma x0), .i (n101100_6 ws.length (encW ws) u.fi x0 (encN out) k x0 (encI u.na) (encI u.fr) (encE u.rob) u.ma x0), .l x0] = _
  rw [q0, q1, q3, q4, q5, q6]

theorem aLoop (hb : ws.length < 9223372036854775808) : ∀ (n k : Nat) (out : List Na) (u : U), ws.length - k = n → u.WF → out.length ≤ u.ma →
    ∃ k' : Int, loopG W101100 C101100 N101100 T101100 (AS ws x0 out k u) = some [.i 0, .l (encN (out ++ (u.alloc (ws.drop k)).2)), .i k', .l x0, .l (encI (u.alloc (ws.drop k)).1.na), .l (encI (u.alloc (ws.drop k)).1.fr), .l (encE (u.alloc (ws.drop k)).1.rob), .i (u.alloc (ws.drop k)).1.ma, .l x0]
  | 0, k, out, u, hn, hu, ho => by
    rw [loopG_last (aWend (by omega)) (aCend (by omega)), List.drop_eq_nil_of_le (by omega)]
    refine ⟨k, ?_⟩
    simp only [U.alloc, List.append_nil]
    rfl
  | n + 1, k, out, u, hn, hu, ho => by
    obtain ⟨w, hk⟩ : ∃ w, ws[k]? = some w := ⟨ws[k]'(by omega), List.getElem?_eq_getElem _⟩
    have hm := hu.ma
    have hw := aW (x0 := x0) hk hu (by omega : out.length ≤ 100)
    have hd : ws.drop k = w :: ws.drop (k + 1) := by
      rw [List.drop_eq_getElem_cons (by omega)]
      congr 1
      exact (List.getElem?_eq_some_iff.1 hk).2
    rw [hd]
    unfold U.alloc
    cases ha : u.alloc1 w with
    | none =>
      have hs : stops u w = true := by
        cases h : stops u w with
        | true => rfl
        | false => rw [alloc1_goes h] at ha; cases ha
      rw [loopG_last hw (by rw [aC hk hu, hs]; rfl)]
      refine ⟨k, ?_⟩
      simp only [List.append_nil]
      rfl
    | some r =>
      have hs : stops u w = false := by
        cases h : stops u w with
        | false => rfl
        | true => rw [alloc1_stops h] at ha; cases ha
      obtain ⟨g1, g2, g3, g4⟩ := hu.alloc1 (u' := r.1) (n := r.2) ha
      rw [loopG_next hw (by rw [aC hk hu, hs]; rfl), aN (u' := r.1) (n := r.2) hk hu ha hb]
      obtain ⟨k', ih⟩ := aLoop hb n (k + 1) (out ++ [r.2]) r.1 (by omega) g1 (by simp; omega)
      refine ⟨k', ?_⟩
      rw [ih]
      simp only [List.append_assoc, List.singleton_append]
theorem g11_eq {u : U} {ws : List Wa} (hb : ws.length < 9223372036854775808) (hu : u.WF) : g11 [.l (encI u.na), .l (encI u.fr), .l (encE u.rob), .i u.fi, .i u.ma, .l (encW ws)] =
    [.b true, .l (encI (u.alloc ws).1.na), .l (encE (u.alloc ws).1.rob), .i u.fi, .i (u.alloc ws).1.ma, .l (encN (u.alloc ws).2), .l (encI (u.alloc ws).1.fr)] := by
  obtain ⟨k', hL⟩ := aLoop (x0 := encI u.na) hb ws.length 0 [] u (by omega) hu (by simp)
  have e0 : ((encW ws).length / 4 : Nat) = ws.length := by rw [encW_len]; omega
  have hG : g101100 [.i (((encW ws).length / 4 : Nat) : Int), .l (encW ws), .i u.fi, .l (encI u.na), .l [], .i 0, .l (encI u.na), .l (encI u.na), .l (encI u.fr), .l (encE u.rob), .i u.ma, .l (encI u.na)] =
      [.b true, .i 0, .l (encN (u.alloc ws).2), .i k', .l (encI u.na), .l (encI (u.alloc ws).1.na), .l (encI (u.alloc ws).1.fr), .l (encE (u.alloc ws).1.rob), .i (u.alloc ws).1.ma, .l (encI u.na)] := by
    rw [e0]
    have e : ∀ (o : Option (List DV)) (a b c d f g h i j : DV), o = some [.i a.toI, .l b.toL, .i c.toI, .l d.toL, .l f.toL, .l g.toL, .l h.toL, .i i.toI, .l j.toL] →
        [DV.b o.isSome, .i (dget (o.getD []) 0).toI, .l (dget (o.getD []) 1).toL, .i (dget (o.getD []) 2).toI, .l (dget (o.getD []) 3).toL, .l (dget (o.getD []) 4).toL, .l (dget (o.getD []) 5).toL, .l (dget (o.getD []) 6).toL, .i (dget (o.getD []) 7).toI, .l (dget (o.getD []) 8).toL] = [.b true, .i a.toI, .l b.toL, .i c.toI, .l d.toL, .l f.toL, .l g.toL, .l h.toL, .i i.toI, .l j.toL] := fun o a b c d f g h i j ho => by rw [ho]; rfl
    exact e _ (.i 0) (.l (encN (u.alloc ws).2)) (.i k') (.l (encI u.na)) (.l (encI (u.alloc ws).1.na)) (.l (encI (u.alloc ws).1.fr)) (.l (encE (u.alloc ws).1.rob)) (.i (u.alloc ws).1.ma) (.l (encI u.na)) hL
  show [DV.b (p11 (encI u.na) (encI u.fr) (encE u.rob) u.fi u.ma (encW ws)), .l (r11_0 (encI u.na) (encI u.fr) (encE u.rob) u.fi u.ma (encW ws)), .l (r11_1 (encI u.na) (encI u.fr) (encE u.rob) u.fi u.ma (encW ws)), .i u.fi, .i (r11_3 (encI u.na) (encI u.fr) (encE u.rob) u.fi u.ma (encW ws)), .l (r11_4 (encI u.na) (encI u.fr) (encE u.rob) u.fi u.ma (encW ws)), .l (r11_5 (encI u.na) (encI u.fr) (encE u.rob) u.fi u.ma (encW ws))] = _
  unfold p11 r11_0 r11_1 r11_3 r11_4 r11_5
  simp only [hG]
  rfl
end Go.Proofs.Ytkpbkanbpjfadaa

namespace Go.Proofs.Ytkpbkanbpjfadaa
open Go Go.Sx

def En.nil : En := ⟨0, 0, 0, false⟩
def U.at (u : U) (k : Nat) : En := u.rob.getD k En.nil
theorem U.WF.at {u : U} (h : u.WF) {k : Nat} (hk : k < 16) : u.rob[k]? = some (u.at k) := by
  unfold U.at
  rw [List.getD_eq_getElem?_getD, List.getElem?_eq_getElem (by rw [h.rob]; exact hk)]
  rfl
theorem U.WF.at_d {u : U} (h : u.WF) {k : Nat} (hk : k < 16) : (u.at k).d < 64 := h.rd _ (List.mem_of_getElem? (h.at hk))

def U.finish (u : U) (r : Int) : U × Bool :=
  bif decide (u.number r < 0) || (u.at r.toNat).f then (u, false) else ({ u with rob := u.rob.set r.toNat { u.at r.toNat with f := true } }, true)
theorem number_range {u : U} {r : Int} (h : ¬ u.number r < 0) : 0 ≤ r ∧ r < 16 ∧ u.number r < u.ma := by
  unfold U.number at h ⊢
  split at h
  · rename_i hr
    rw [if_pos hr]
    refine ⟨hr.1, hr.2, ?_⟩
    split at h
    · rename_i h2; rw [if_pos h2]; exact h2
    · exact absurd (by decide : (-1 : Int) < 0) h
  · exact absurd (by decide : (-1 : Int) < 0) h
theorem number_ge (u : U) (r : Int) : -1 ≤ u.number r := by
  unfold U.number
  split
  · split <;> omega
  · omega
theorem g14_eq {u : U} (hu : u.WF) (r : Int) : g14 [.l (encI u.na), .l (encI u.fr), .l (encE u.rob), .i u.fi, .i u.ma, .i r] =
    [.b true, .b (u.finish r).2, .l (encI (u.finish r).1.fr), .l (encI (u.finish r).1.na), .l (encE (u.finish r).1.rob), .i u.fi, .i u.ma] := by
  show [DV.b (p14 (encE u.rob) u.fi u.ma r), .b (r14_0 (encE u.rob) u.fi u.ma r), .l (encI u.fr), .l (encI u.na), .l (r14_3 (encE u.rob) u.fi u.ma r), .i u.fi, .i u.ma] = _
  unfold p14 r14_0 r14_3
  simp only [number_eq hu]
  unfold U.finish
  by_cases hn : u.number r < 0
  · have e : decide (u.number r < 0) = true := by simpa using hn
    simp only [e, Bool.true_or, cond_true, Bool.not_true, cond_false]
    simp [ow]
  · have e : decide (u.number r < 0) = false := by simpa using hn
    obtain ⟨h0, h1, _⟩ := number_range hn
    obtain ⟨k, rfl⟩ : ∃ k : Nat, r = k := ⟨r.toNat, by omega⟩
    have hk : k < 16 := by omega
    have hg := encE_get (hu.at hk) 3 (by decide)
    have hf : ((u.at k).dv.getD 3 default).toB = (u.at k).f := rfl
    rw [hg, hf]
    have e1 : decide ((k : Int) ≥ 0) = true := by simp
    have e2 : decide ((k : Int) < 16) = true := by simp; omega
    simp only [e, e1, e2, Bool.false_or, Int.toNat_natCast]
    have hl : (encE u.rob).length = 64 := by rw [encE_len, hu.rob]
    have hd := encE_done u.rob k _ (hu.at hk)
    rw [padN_id hl, hd]
    cases (u.at k).f <;> simp [ow]
theorem U.WF.finish {u : U} (hu : u.WF) (r : Int) : (u.finish r).1.WF := by
  unfold U.finish
  cases h : (decide (u.number r < 0) || (u.at r.toNat).f) with
  | true => exact hu
  | false =>
    simp only [Bool.or_eq_false_iff, decide_eq_false_iff_not] at h
    obtain ⟨h0, h1, _⟩ := number_range h.1
    refine ⟨hu.na, by simp [hu.rob], hu.fi, hu.ma, hu.fr, fun e he => ?_⟩
    rcases List.mem_or_eq_of_mem_set he with h1 | rfl
    · exact hu.rd e h1
    · exact hu.at_d (k := r.toNat) (by omega)

def U.ready (u : U) : Bool := decide (u.ma > 0) && (u.at u.fi).f
def U.commit1 (u : U) : U := { u with fr := bif decide ((u.at u.fi).o ≥ 0) then u.fr ++ [(u.at u.fi).o] else u.fr, fi := (u.fi + 1) % 16, ma := u.ma - 1 }
def U.commit : U → Nat → U × List Int
  | u, 0 => (u, [])
  | u, n + 1 => bif u.ready then let r := u.commit1.commit n; (r.1, (u.fi : Int) :: r.2) else (u, [])
structure U.W2 (u : U) : Prop where
  na : u.na.length = 64
  rob : u.rob.length = 16
  fi : u.fi < 16
  ma : u.ma ≤ 16
  fr : u.fr.length + u.ma ≤ 5000
  rd : ∀ e ∈ u.rob, e.d < 64
theorem U.WF.w2 {u : U} (h : u.WF) : u.W2 := ⟨h.na, h.rob, h.fi, h.ma, by have := h.fr; have := h.ma; omega, h.rd⟩
theorem U.W2.at {u : U} (h : u.W2) {k : Nat} (hk : k < 16) : u.rob[k]? = some (u.at k) := by
  unfold U.at
  rw [List.getD_eq_getElem?_getD, List.getElem?_eq_getElem (by rw [h.rob]; exact hk)]
  rfl
theorem U.W2.commit1 {u : U} (h : u.W2) (hr : u.ready = true) : u.commit1.W2 := by
  simp only [U.ready, Bool.and_eq_true, decide_eq_true_eq] at hr
  refine ⟨h.na, h.rob, Nat.mod_lt _ (by decide), ?_, ?_, h.rd⟩
  · show u.ma - 1 ≤ 16
    have := h.ma; omega
  · show (bif _ then u.fr ++ [_] else u.fr : List Int).length + (u.ma - 1) ≤ 5000
    have := h.fr
    cases decide ((u.at u.fi).o ≥ 0) <;> simp <;> omega
abbrev CS (most : Int) (x0 : List DV) (out : List Int) (u : U) : List DV :=
  [.i most, .l (encE u.rob), .l x0, .l (encI out), .l x0, .l (encI u.fr), .i u.fi, .i u.ma, .l x0]
variable {most : Int} {x0 : List DV} {out : List Int} {u : U}
theorem cC (hu : u.W2) : C101600 (CS most x0 out u) = (decide ((out.length : Int) < most) && u.ready) := by
  show c101600 most (encE u.rob) x0 (encI out) x0 (encI u.fr) u.fi u.ma x0 = _
  unfold c101600
  simp only [encE_get (hu.at hu.fi) 3 (by decide), encI_len, Nat.div_one]
  have hf : ((u.at u.fi).dv.getD 3 default).toB = (u.at u.fi).f := rfl
  have e : decide ((u.ma : Int) > 0) = decide (u.ma > 0) := by rw [Bool.eq_iff_iff]; simp
  rw [hf, e, Bool.and_assoc]
  rfl
theorem cW (hu : u.W2) (ho : out.length ≤ 16) : W101600 (CS most x0 out u) = true := by
  show w101600 most (encE u.rob) x0 (encI out) x0 (encI u.fr) u.fi u.ma x0 = _
  unfold w101600
  have h1 := hu.fi
  have h2 := hu.fr
  have e1 : decide ((u.fi : Int) ≥ 0) = true := by simp
  have e2 : decide ((u.fi : Int) < 16) = true := by simp; omega
  have e3 : ∀ x : Int, decide ((((encI u.fr ++ [DV.i x]).length / 1 : Nat) : Int) ≤ 7818749353073) = true := fun x => by
    rw [List.length_append, encI_len]; simp; omega
  have e4 : ∀ x : Int, decide ((((encI out ++ [DV.i x]).length / 1 : Nat) : Int) ≤ 7818749353073) = true := fun x => by
    rw [List.length_append, encI_len]; simp; omega
  have e9 : ∀ l, ow l true = true := fun y => by simp [ow]
  simp only [e1, e2, e3, e4, e9]
  rfl
theorem cN (hu : u.W2) (hr : u.ready = true) : N101600 (CS most x0 out u) = CS most x0 (out ++ [(u.fi : Int)]) u.commit1 := by
  have hma := hu.ma
  have hfi := hu.fi
  simp only [U.ready, Bool.and_eq_true, decide_eq_true_eq] at hr
  have q0 : n101600_0 most (encE u.rob) x0 (encI out) x0 (encI u.fr) u.fi u.ma x0 = encI (out ++ [(u.fi : Int)]) := by
    unfold n101600_0
    rw [← encI_append]
    rfl
  have q2 : n101600_2 most (encE u.rob) x0 (encI out) x0 (encI u.fr) u.fi u.ma x0 = encI u.commit1.fr := by
    unfold n101600_2
    simp only [encE_get (hu.at hu.fi) 2 (by decide)]
    have hf : ((u.at u.fi).dv.getD 2 default).toI = (u.at u.fi).o := rfl
    rw [hf]
    unfold U.commit1
    cases h : decide ((u.at u.fi).o ≥ 0) with
    | true =>
      have : ige (u.at u.fi).o 0 = true := h
      simp only [this, cond_true]
      rw [← encI_append]
      rfl
    | false =>
      have : ige (u.at u.fi).o 0 = false := h
      simp only [this, cond_false]
  have q3 : n101600_3 most (encE u.rob) x0 (encI out) x0 (encI u.fr) u.fi u.ma x0 = (u.commit1.fi : Nat) := place_eq (x := u.fi) (y := 1) (by omega)
  have q4 : n101600_4 most (encE u.rob) x0 (encI out) x0 (encI u.fr) u.fi u.ma x0 = (u.commit1.ma : Nat) := by
    show IntKind.wrap .i64 ((u.ma : Int) - 1) = ((u.ma - 1 : Nat) : Int)
    rw [wrap_i64_of (by omega) (by omega)]
    omega
  show [DV.i most, .l (encE u.rob), .l x0, .l (n101600_0 most (encE u.rob) x0 (encI out) x0 (encI u.fr) u.fi u.ma x0), .l x0, .l (n101600_2 most (encE u.rob) x0 (encI out) x0 (encI u.fr) u.fi u.ma x0), .i (n101600_3 most (encE u.rob) x0 (encI out) x0 (encI u.fr) u.fi u.ma x0), .i (n101600_4 most (encE u.rob) x0 (encI out) x0 (encI u.fr) u.fi u.ma x0), .l x0] = _
  rw [q0, q2, q3, q4]
  rfl
theorem commit_zero {u : U} (h : u.ready = false) (n : Nat) : u.commit n = (u, []) := by cases n <;> simp [U.commit, h]
theorem cLoop : ∀ (n : Nat) (out : List Int) (u : U), (most - out.length).toNat = n → u.W2 → out.length + u.ma ≤ 16 →
    loopG W101600 C101600 N101600 T101600 (CS most x0 out u) = some [.i 0, .l (encI (out ++ (u.commit n).2)), .l x0, .l (encI (u.commit n).1.fr), .i (u.commit n).1.fi, .i (u.commit n).1.ma, .l x0]
  | 0, out, u, hn, hu, ho => by
    have : decide ((out.length : Int) < most) = false := by simp; omega
    rw [loopG_last (cW hu (by omega)) (by rw [cC hu, this]; rfl)]
    simp only [U.commit, List.append_nil]
    rfl
  | n + 1, out, u, hn, hu, ho => by
    have hlt : decide ((out.length : Int) < most) = true := by simp; omega
    cases hr : u.ready with
    | false =>
      rw [loopG_last (cW hu (by omega)) (by rw [cC hu, hr, Bool.and_false]), commit_zero hr]
      simp only [List.append_nil]
      rfl
    | true =>
      have hma : u.ma > 0 := by
        simp only [U.ready, Bool.and_eq_true, decide_eq_true_eq] at hr
        exact hr.1
      rw [loopG_next (cW hu (by omega)) (by rw [cC hu, hr, hlt]; rfl), cN hu hr]
      have e : u.commit1.ma = u.ma - 1 := rfl
      rw [cLoop n _ u.commit1 (by simp; omega) (hu.commit1 hr) (by simp [e]; omega)]
      simp only [U.commit, hr, cond_true, List.append_assoc, List.singleton_append]
theorem commit_rob : ∀ (n : Nat) (u : U), (u.commit n).1.rob = u.rob ∧ (u.commit n).1.na = u.na
  | 0, u => ⟨rfl, rfl⟩
  | n + 1, u => by
    simp only [U.commit]
    cases u.ready with
    | false => exact ⟨rfl, rfl⟩
    | true => exact commit_rob n u.commit1
theorem g16_eq {u : U} (hu : u.WF) (most : Int) : g16 [.l (encI u.na), .l (encI u.fr), .l (encE u.rob), .i u.fi, .i u.ma, .i most] =
    [.b true, .l (encI u.na), .l (encE u.rob), .i (u.commit most.toNat).1.fi, .i (u.commit most.toNat).1.ma, .l (encI (u.commit most.toNat).2), .l (encI (u.commit most.toNat).1.fr)] := by
  have hL := cLoop (most := most) (x0 := encI u.na) most.toNat [] u (by simp) hu.w2 (by have := hu.ma; simp; omega)
  have hG : g101600 [.i most, .l (encE u.rob), .l (encI u.na), .l [], .l (encI u.na), .l (encI u.fr), .i u.fi, .i u.ma, .l (encI u.na)] =
      [.b true, .i 0, .l (encI (u.commit most.toNat).2), .l (encI u.na), .l (encI (u.commit most.toNat).1.fr), .i (u.commit most.toNat).1.fi, .i (u.commit most.toNat).1.ma, .l (encI u.na)] := by
    have e : ∀ (o : Option (List DV)) (a b c d f g h : DV), o = some [.i a.toI, .l b.toL, .l c.toL, .l d.toL, .i f.toI, .i g.toI, .l h.toL] →
        [DV.b o.isSome, .i (dget (o.getD []) 0).toI, .l (dget (o.getD []) 1).toL, .l (dget (o.getD []) 2).toL, .l (dget (o.getD []) 3).toL, .i (dget (o.getD []) 4).toI, .i (dget (o.getD []) 5).toI, .l (dget (o.getD []) 6).toL] = [.b true, .i a.toI, .l b.toL, .l c.toL, .l d.toL, .i f.toI, .i g.toI, .l h.toL] := fun o a b c d f g h ho => by rw [ho]; rfl
    exact e _ (.i 0) (.l (encI (u.commit most.toNat).2)) (.l (encI u.na)) (.l (encI (u.commit most.toNat).1.fr)) (.i (u.commit most.toNat).1.fi) (.i (u.commit most.toNat).1.ma) (.l (encI u.na)) hL
  show [DV.b (p16 (encI u.na) (encI u.fr) (encE u.rob) u.fi u.ma most), .l (encI u.na), .l (encE u.rob), .i (r16_2 (encI u.na) (encI u.fr) (encE u.rob) u.fi u.ma most), .i (r16_3 (encI u.na) (encI u.fr) (encE u.rob) u.fi u.ma most), .l (r16_4 (encI u.na) (encI u.fr) (encE u.rob) u.fi u.ma most), .l (r16_5 (encI u.na) (encI u.fr) (encE u.rob) u.fi u.ma most)] = _
  unfold p16 r16_2 r16_3 r16_4 r16_5
  simp only [hG]
  rfl
end Go.Proofs.Ytkpbkanbpjfadaa

namespace Go.Proofs.Ytkpbkanbpjfadaa
open Go Go.Sx

def U.last (u : U) : En := u.at ((u.fi + (u.ma - 1)) % 16)
def U.squash1 (u : U) : U := { u with na := bif decide (u.last.d ≥ 0) then u.na.set u.last.d.toNat u.last.o else u.na, fr := bif decide (u.last.d ≥ 0) then u.last.n :: u.fr else u.fr, ma := u.ma - 1 }
def U.squashN : U → Nat → U
  | u, 0 => u
  | u, n + 1 => u.squash1.squashN n
def U.squash (u : U) (r : Int) : U × Int :=
  bif decide (u.number r < 0) && (r != -1) then (u, 0) else (u.squashN ((u.ma : Int) - 1 - u.number r).toNat, (u.ma : Int) - 1 - u.number r)
theorem U.W2.squash1 {u : U} (h : u.W2) (hm : 0 < u.ma) : u.squash1.W2 := by
  refine ⟨?_, h.rob, h.fi, ?_, ?_, h.rd⟩
  · show (bif _ then u.na.set _ _ else u.na : List Int).length = 64
    cases decide (u.last.d ≥ 0) <;> simp [h.na]
  · show u.ma - 1 ≤ 16
    have := h.ma; omega
  · show (bif _ then u.last.n :: u.fr else u.fr : List Int).length + (u.ma - 1) ≤ 5000
    have := h.fr
    cases decide (u.last.d ≥ 0) <;> simp <;> omega
abbrev QS (back : Int) (x0 : List DV) (i : Nat) (u : U) : List DV :=
  [.i back, .i u.fi, .l (encE u.rob), .l x0, .i i, .l x0, .l (encI u.na), .l (encI u.fr), .i u.ma]
variable {back : Int} {x0 : List DV} {i : Nat} {u : U}
theorem sC : C101900 (QS back x0 i u) = decide ((i : Int) < back) := rfl
theorem sEnd (h : ¬ (i : Int) < back) : W101900 (QS back x0 i u) = true := by
  show w101900 back u.fi (encE u.rob) x0 i x0 (encI u.na) (encI u.fr) u.ma = true
  unfold w101900
  have : decide ((i : Int) < back) = false := by simpa using h
  simp only [this]
  simp [ow]
theorem place_last (hu : u.W2) (hm : 0 < u.ma) : r26_0 (u.fi : Int) (IntKind.wrap .i64 ((u.ma : Int) - 1)) = (((u.fi + (u.ma - 1)) % 16 : Nat) : Int) := by
  have := hu.fi
  have := hu.ma
  rw [wrap_i64_of (by omega) (by omega), show ((u.ma : Int) - 1) = ((u.ma - 1 : Nat) : Int) from by omega, place_eq (by omega)]
theorem sW (hu : u.W2) (hm : 0 < u.ma) : W101900 (QS back x0 i u) = true := by
  show w101900 back u.fi (encE u.rob) x0 i x0 (encI u.na) (encI u.fr) u.ma = true
  unfold w101900
  have hl : (u.fi + (u.ma - 1)) % 16 < 16 := Nat.mod_lt _ (by decide)
  have hfr := hu.fr
  simp only [place_last hu hm, encE_get (hu.at hl) 0 (by decide), encE_get (hu.at hl) 1 (by decide)]
  have hd : ((u.at ((u.fi + (u.ma - 1)) % 16)).dv.getD 0 default).toI = u.last.d := rfl
  have hlt : u.last.d < 64 := hu.rd _ (List.mem_of_getElem? (hu.at hl))
  have e1 : decide ((((u.fi + (u.ma - 1)) % 16 : Nat) : Int) ≥ 0) = true := by simp; omega
  have e2 : decide ((((u.fi + (u.ma - 1)) % 16 : Nat) : Int) < 16) = true := by simp; omega
  have e3 : ilt u.last.d 64 = true := by simpa [ilt] using hlt
  have e4 : p31 (encI u.fr) = true := by unfold p31; rw [encI_len]; simp; omega
  have e5 : ∀ x : Int, p30 (r31_0 (encI u.fr)) 0 [.i x] = true := fun x => by unfold p30 r31_0; rw [encI_len]; simp; omega
  have e9 : ∀ l, ow l true = true := fun y => by simp [ow]
  have e10 : ∀ a c, ow [(a, true), (c, true)] c = true := fun a c => by cases a <;> cases c <;> rfl
  simp only [hd, e1, e2, e3, e4, e5, e9, e10]
  rfl
theorem sN (hu : u.W2) (hm : 0 < u.ma) (hi : i < 100) : N101900 (QS back x0 i u) = QS back x0 (i + 1) u.squash1 := by
  have hl : (u.fi + (u.ma - 1)) % 16 < 16 := Nat.mod_lt _ (by decide)
  have hma := hu.ma
  have hd : ((u.at ((u.fi + (u.ma - 1)) % 16)).dv.getD 0 default).toI = u.last.d := rfl
  have hn : ((u.at ((u.fi + (u.ma - 1)) % 16)).dv.getD 1 default).toI = u.last.n := rfl
  have ho : ((u.at ((u.fi + (u.ma - 1)) % 16)).dv.getD 2 default).toI = u.last.o := rfl
  have q0 : n101900_0 back u.fi (encE u.rob) x0 i x0 (encI u.na) (encI u.fr) u.ma = (i + 1 : Nat) := by
    show IntKind.wrap .i64 ((i : Int) + 1) = _
    rw [wrap_i64_of (by omega) (by omega)]
    omega
  have q2 : n101900_2 back u.fi (encE u.rob) x0 i x0 (encI u.na) (encI u.fr) u.ma = encI u.squash1.na := by
    unfold n101900_2
    simp only [place_last hu hm, encE_get (hu.at hl) 0 (by decide), encE_get (hu.at hl) 2 (by decide), hd, ho]
    rw [Nat.mul_one, Nat.add_zero]
    rw [padN_id (by rw [encI_len, hu.na]), encI_set]
    unfold U.squash1
    have : ige u.last.d 0 = decide (u.last.d ≥ 0) := rfl
    rw [this]
    cases decide (u.last.d ≥ 0) <;> rfl
  have q3 : n101900_3 back u.fi (encE u.rob) x0 i x0 (encI u.na) (encI u.fr) u.ma = encI u.squash1.fr := by
    unfold n101900_3
    simp only [place_last hu hm, encE_get (hu.at hl) 0 (by decide), encE_get (hu.at hl) 1 (by decide), hd, hn]
    unfold U.squash1
    have : ige u.last.d 0 = decide (u.last.d ≥ 0) := rfl
    rw [this]
    cases decide (u.last.d ≥ 0) <;> rfl
  have q4 : n101900_4 back u.fi (encE u.rob) x0 i x0 (encI u.na) (encI u.fr) u.ma = (u.squash1.ma : Nat) := by
    show IntKind.wrap .i64 ((u.ma : Int) - 1) = ((u.ma - 1 : Nat) : Int)
    rw [wrap_i64_of (by omega) (by omega)]
    omega
  show [DV.i back, .i u.fi, .l (encE u.rob), .l x0, .i (n101900_0 back u.fi (encE u.rob) x0 i x0 (encI u.na) (encI u.fr) u.ma), .l x0, .l (n101900_2 back u.fi (encE u.rob) x0 i x0 (encI u.na) (encI u.fr) u.ma), .l (n101900_3 back u.fi (encE u.rob) x0 i x0 (encI u.na) (encI u.fr) u.ma), .i (n101900_4 back u.fi (encE u.rob) x0 i x0 (encI u.na) (encI u.fr) u.ma)] = _
  rw [q0, q2, q3, q4]
  rfl
theorem sLoop : ∀ (n i : Nat) (u : U), (back - i).toNat = n → u.W2 → n ≤ u.ma → i + u.ma ≤ 32 →
    ∃ i' : Int, loopG W101900 C101900 N101900 T101900 (QS back x0 i u) = some [.i 0, .i i', .l x0, .l (encI (u.squashN n).na), .l (encI (u.squashN n).fr), .i (u.squashN n).ma]
  | 0, i, u, hn, hu, hm, hi => by
    have h : ¬ (i : Int) < back := by omega
    rw [loopG_last (sEnd h) (by rw [sC]; simpa using h)]
    exact ⟨i, rfl⟩
  | n + 1, i, u, hn, hu, hm, hi => by
    have h : (i : Int) < back := by omega
    rw [loopG_next (sW hu (by omega)) (by rw [sC]; simpa using h), sN hu (by omega) (by omega)]
    have e : u.squash1.ma = u.ma - 1 := rfl
    exact sLoop n (i + 1) u.squash1 (by omega) (hu.squash1 (by omega)) (by omega) (by omega)
theorem squashN_rob : ∀ (n : Nat) (u : U), (u.squashN n).rob = u.rob ∧ (u.squashN n).fi = u.fi ∧ (u.squashN n).ma = u.ma - n
  | 0, u => ⟨rfl, rfl, rfl⟩
  | n + 1, u => by
    obtain ⟨h1, h2, h3⟩ := squashN_rob n u.squash1
    refine ⟨h1, h2, ?_⟩
    show (u.squash1.squashN n).ma = _
    rw [h3]
    show u.ma - 1 - n = _
    omega
theorem number_lt {u : U} (r : Int) : u.number r < u.ma ∨ u.number r = -1 := by
  unfold U.number
  split
  · split
    · exact .inl (by assumption)
    · exact .inr rfl
  · exact .inr rfl
theorem g19_eq {u : U} (hu : u.WF) (r : Int) : g19 [.l (encI u.na), .l (encI u.fr), .l (encE u.rob), .i u.fi, .i u.ma, .i r] =
    [.b true, .i (u.squash r).2, .l (encI (u.squash r).1.na), .l (encE (u.squash r).1.rob), .i u.fi, .i (u.squash r).1.ma, .l (encI (u.squash r).1.fr)] := by
  have hma := hu.ma
  have hge := number_ge u r
  have hlt := number_lt (u := u) r
  show [DV.b (p19 (encI u.na) (encI u.fr) (encE u.rob) u.fi u.ma r), .i (r19_0 u.fi u.ma r), .l (r19_1 (encI u.na) (encI u.fr) (encE u.rob) u.fi u.ma r), .l (encE u.rob), .i u.fi, .i (r19_4 (encI u.na) (encI u.fr) (encE u.rob) u.fi u.ma r), .l (r19_5 (encI u.na) (encI u.fr) (encE u.rob) u.fi u.ma r)] = _
  unfold p19 r19_0 r19_1 r19_4 r19_5
  simp only [number_eq hu]
  have e12 : IntKind.wrap .i64 (IntKind.wrap .i64 ((u.ma : Int) - 1) - u.number r) = (u.ma : Int) - 1 - u.number r := by
    rw [wrap_i64_of (n := (u.ma : Int) - 1) (by omega) (by omega), wrap_i64_of (by omega) (by omega)]
  rw [e12]
  unfold U.squash
  obtain ⟨i', hL⟩ := sLoop (back := (u.ma : Int) - 1 - u.number r) (x0 := encI u.na) ((u.ma : Int) - 1 - u.number r).toNat 0 u (by simp) hu.w2 (by omega) (by omega)
  have hG : g101900 [.i ((u.ma : Int) - 1 - u.number r), .i u.fi, .l (encE u.rob), .l (encI u.na), .i 0, .l (encI u.na), .l (encI u.na), .l (encI u.fr), .i u.ma] =
      [.b true, .i 0, .i i', .l (encI u.na), .l (encI (u.squashN ((u.ma : Int) - 1 - u.number r).toNat).na), .l (encI (u.squashN ((u.ma : Int) - 1 - u.number r).toNat).fr), .i (u.squashN ((u.ma : Int) - 1 - u.number r).toNat).ma] := by
    have e : ∀ (o : Option (List DV)) (a b c d f g : DV), o = some [.i a.toI, .i b.toI, .l c.toL, .l d.toL, .l f.toL, .i g.toI] →
        [DV.b o.isSome, .i (dget (o.getD []) 0).toI, .i (dget (o.getD []) 1).toI, .l (dget (o.getD []) 2).toL, .l (dget (o.getD []) 3).toL, .l (dget (o.getD []) 4).toL, .i (dget (o.getD []) 5).toI] = [.b true, .i a.toI, .i b.toI, .l c.toL, .l d.toL, .l f.toL, .i g.toI] := fun o a b c d f g ho => by rw [ho]; rfl
    exact e _ (.i 0) (.i i') (.l (encI u.na)) (.l (encI (u.squashN ((u.ma : Int) - 1 - u.number r).toNat).na)) (.l (encI (u.squashN ((u.ma : Int) - 1 - u.number r).toNat).fr)) (.i (u.squashN ((u.ma : Int) - 1 - u.number r).toNat).ma) hL
  simp only [hG]
  cases h : (decide (u.number r < 0) && (r != -1)) with
  | true => simp [ow]
  | false =>
    have := (squashN_rob ((u.ma : Int) - 1 - u.number r).toNat u).1
    simp only [Bool.not_false, cond_true, cond_false, this]
    rfl

def u0 : U := ⟨(List.range 64).map Int.ofNat, (List.range 32).map fun k => ((64 + k : Nat) : Int), List.replicate 16 En.nil, 0, 0⟩
theorem g9_eq (ds : List DV) : g9 ds = [.b true, .l (encI u0.na), .l (encE u0.rob), .i u0.fi, .i u0.ma, .l (encI u0.fr)] := by kernel_rfl
theorem u0_wf : u0.WF := by
  refine ⟨rfl, rfl, by decide, by decide, by decide, fun e he => ?_⟩
  rw [List.eq_of_mem_replicate he]
  decide
end Go.Proofs.Ytkpbkanbpjfadaa

namespace Go.Proofs.Ytkpbkanbpjfadaa
open Go Go.Sx

def wsF : List Wa := [⟨1, 2, -1, 3⟩, ⟨3, 0, 40, 0⟩, ⟨3, -1, -1, 3⟩]
def uF1 : U := (u0.alloc wsF).1
def uF2 : U := (uF1.finish 0).1
def uF3 : U := (uF2.commit 2).1
theorem uF1_wf : uF1.WF := (u0_wf.alloc wsF).1
theorem uF2_wf : uF2.WF := uF1_wf.finish 0
theorem uF3_wf : uF3.WF := by
  have h := commit_rob 2 uF2
  have h1 : uF3.na = uF2.na := h.2
  have h2 : uF3.rob = uF2.rob := h.1
  exact ⟨by rw [h1]; exact uF2_wf.na, by rw [h2]; exact uF2_wf.rob, by decide, by decide, by decide, by rw [h2]; exact uF2_wf.rd⟩
theorem F1 : g11 [dget (g9 []) 1, dget (g9 []) 5, dget (g9 []) 2, dget (g9 []) 3, dget (g9 []) 4, .l [.i 1, .i 2, .i (-1), .i 3, .i 3, .i 0, .i 40, .i 0, .i 3, .i (-1), .i (-1), .i 3]] =
    [.b true, .l (encI uF1.na), .l (encE uF1.rob), .i uF1.fi, .i uF1.ma, .l (encN (u0.alloc wsF).2), .l (encI uF1.fr)] := by
  rw [g9_eq]
  exact g11_eq (ws := wsF) (by decide) u0_wf
theorem F2 : g14 [.l (encI uF1.na), .l (encI uF1.fr), .l (encE uF1.rob), .i uF1.fi, .i uF1.ma, .i 0] =
    [.b true, .b true, .l (encI uF2.fr), .l (encI uF2.na), .l (encE uF2.rob), .i uF2.fi, .i uF2.ma] := by
  have h : (uF1.finish 0).2 = true := by decide
  rw [g14_eq uF1_wf, h]
  rfl
theorem F3 : g16 [.l (encI uF2.na), .l (encI uF2.fr), .l (encE uF2.rob), .i uF2.fi, .i uF2.ma, .i 2] =
    [.b true, .l (encI uF3.na), .l (encE uF3.rob), .i uF3.fi, .i uF3.ma, .l (encI (uF2.commit 2).2), .l (encI uF3.fr)] := by
  have h := commit_rob 2 uF2
  rw [g16_eq uF2_wf]
  show [DV.b true, .l (encI uF2.na), .l (encE uF2.rob), .i uF3.fi, .i uF3.ma, .l (encI (uF2.commit 2).2), .l (encI uF3.fr)] = _
  have h1 : uF3.na = uF2.na := h.2
  have h2 : uF3.rob = uF2.rob := h.1
  rw [h1, h2]
theorem F4 : g19 [.l (encI uF3.na), .l (encI uF3.fr), .l (encE uF3.rob), .i uF3.fi, .i uF3.ma, .i 1] =
    [.b true, .i (uF3.squash 1).2, .l (encI (uF3.squash 1).1.na), .l (encE (uF3.squash 1).1.rob), .i uF3.fi, .i (uF3.squash 1).1.ma, .l (encI (uF3.squash 1).1.fr)] := g19_eq uF3_wf 1
theorem p8_eq : p8 = true := by
  unfold p8
  simp only [F1]
  simp only [dget, List.getD_cons_succ, List.getD_cons_zero, F2, F3, F4]
  kernel_rfl
theorem r8_eq : r8_0 = true := by
  unfold r8_0
  simp only [F1]
  simp only [dget, List.getD_cons_succ, List.getD_cons_zero, F2, F3, F4]
  kernel_rfl
end Go.Proofs.Ytkpbkanbpjfadaa

namespace Go.Proofs.Ytkpbkanbpjfadaa
open Go Go.Sx

def U.under (u : U) : List En := (List.range u.ma).map fun i => u.at ((u.fi + i) % 16)
theorem under_len (u : U) : u.under.length = u.ma := by simp [U.under]
theorem under_get {u : U} {i : Nat} (h : i < u.ma) : u.under[i]? = some (u.at ((u.fi + i) % 16)) := by
  unfold U.under
  rw [List.getElem?_map, List.getElem?_range h]
  rfl
theorem getD_set (l : List En) (k j : Nat) (e d : En) (hk : k < l.length) : (l.set k e).getD j d = if k = j then e else l.getD j d := by
  by_cases h : k = j
  · subst h
    simp [List.getD_eq_getElem?_getD, hk]
  · simp [List.getD_eq_getElem?_getD, h]
theorem under_alloc1 {u u' : U} {w : Wa} {n : Na} (hu : u.WF) (ha : u.alloc1 w = some (u', n)) :
    u'.under = u.under ++ [⟨bif w.wr then w.d else -1, bif w.wr then u.fr.getD 0 0 else -1, bif w.wr then u.na.getD w.d.toNat 0 else -1, false⟩] := by
  obtain ⟨_, _, _, hm⟩ := hu.alloc1 ha
  have hs : stops u w = false := by
    cases h : stops u w with
    | false => rfl
    | true => rw [alloc1_stops h] at ha; cases ha
  rw [alloc1_goes hs] at ha
  simp only [Option.some.injEq, Prod.mk.injEq] at ha
  obtain ⟨rfl, _⟩ := ha
  have hfi := hu.fi
  have hp : u.place u.ma < u.rob.length := by rw [hu.rob]; exact Nat.mod_lt _ (by decide)
  show (List.range (u.ma + 1)).map _ = _
  rw [List.range_succ, List.map_append]
  congr 1
  · refine List.map_congr_left fun i hi => ?_
    have hi := List.mem_range.1 hi
    show (u.rob.set (u.place u.ma) _).getD ((u.fi + i) % 16) En.nil = _
    rw [getD_set _ _ _ _ _ hp, if_neg (by show ¬ (u.fi + u.ma) % 16 = _; omega)]
    rfl
  · show [(u.rob.set (u.place u.ma) _).getD ((u.fi + u.ma) % 16) En.nil] = _
    rw [getD_set _ _ _ _ _ hp, if_pos (show u.place u.ma = (u.fi + u.ma) % 16 from rfl)]
theorem under_commit1 {u : U} (hu : u.W2) (hm : 0 < u.ma) : u.under = u.at u.fi :: u.commit1.under := by
  have hfi := hu.fi
  obtain ⟨m, hm'⟩ : ∃ m, u.ma = m + 1 := ⟨u.ma - 1, by omega⟩
  have e : u.commit1.ma = m := by show u.ma - 1 = m; omega
  unfold U.under
  rw [hm', e, List.range_succ_eq_map, List.map_cons, List.map_map]
  congr 1
  · congr 1; omega
  · refine List.map_congr_left fun i hi => ?_
    show u.at ((u.fi + (i + 1)) % 16) = u.at (((u.fi + 1) % 16 + i) % 16)
    congr 1; omega
theorem under_squash1 {u : U} (hm : 0 < u.ma) : u.under = u.squash1.under ++ [u.last] := by
  obtain ⟨m, hm'⟩ : ∃ m, u.ma = m + 1 := ⟨u.ma - 1, by omega⟩
  have e : u.squash1.ma = m := by show u.ma - 1 = m; omega
  unfold U.under
  rw [hm', e, List.range_succ, List.map_append]
  congr 1
  show [u.at ((u.fi + m) % 16)] = [u.at ((u.fi + (u.ma - 1)) % 16)]
  rw [hm']; rfl
theorem number_at {u : U} (hu : u.WF) {k : Nat} (hk : k < u.ma) : u.number (((u.fi + k) % 16 : Nat) : Int) = k := by
  have := hu.fi
  have := hu.ma
  unfold U.number
  rw [if_pos (by omega)]
  have : ((((u.fi + k) % 16 : Nat) : Int) - u.fi + 16) % 16 = k := by omega
  rw [this, if_pos (by omega)]
theorem finish_at {u : U} (hu : u.WF) {k : Nat} (hk : k < u.ma) (hf : (u.at ((u.fi + k) % 16)).f = false) : u.finish (((u.fi + k) % 16 : Nat) : Int) = ({ u with rob := u.rob.set ((u.fi + k) % 16) { u.at ((u.fi + k) % 16) with f := true } }, true) := by
  unfold U.finish
  rw [number_at hu hk, Int.toNat_natCast, hf]
  have : decide ((k : Int) < 0) = false := by simp
  rw [this]; rfl
theorem under_finish {u : U} (hu : u.WF) {k : Nat} (hk : k < u.ma) (e : En) : ({ u with rob := u.rob.set ((u.fi + k) % 16) e } : U).under = u.under.set k e := by
  have hfi := hu.fi
  have hma := hu.ma
  have hp : (u.fi + k) % 16 < u.rob.length := by rw [hu.rob]; exact Nat.mod_lt _ (by decide)
  apply List.ext_getElem?
  intro i
  by_cases hi : i < u.ma
  · rw [under_get (u := { u with rob := u.rob.set ((u.fi + k) % 16) e }) hi, List.getElem?_set]
    show some ((u.rob.set ((u.fi + k) % 16) e).getD ((u.fi + i) % 16) En.nil) = _
    rw [getD_set _ _ _ _ _ hp]
    by_cases hik : k = i
    · subst hik
      rw [if_pos rfl, if_pos rfl, if_pos (by rw [under_len]; exact hk)]
    · rw [if_neg (by omega), if_neg hik, under_get hi]
      rfl
  · rw [List.getElem?_eq_none (by rw [under_len]; show u.ma ≤ i; omega), List.getElem?_eq_none (by rw [List.length_set, under_len]; omega)]

def En.Good (e : En) : Prop := (e.d = -1 ∧ e.n = -1 ∧ e.o = -1) ∨ (1 ≤ e.d ∧ e.d < 64 ∧ 0 ≤ e.n ∧ 0 ≤ e.o)
def olds (l : List En) : List Int := (l.filter fun e => decide (e.o ≥ 0)).map En.o
theorem olds_append (a b : List En) : olds (a ++ b) = olds a ++ olds b := by simp [olds]
theorem olds_cons (e : En) (l : List En) : olds (e :: l) = (bif decide (e.o ≥ 0) then [e.o] else []) ++ olds l := by
  unfold olds
  rw [List.filter_cons]
  cases decide (e.o ≥ 0) <;> rfl
theorem olds_len (l : List En) : (olds l).length ≤ l.length := by
  simp [olds, List.length_filter_le]
theorem olds_set (l : List En) (k : Nat) (e x : En) (h : l[k]? = some e) (hx : x.o = e.o) : olds (l.set k x) = olds l := by
  induction l generalizing k with
  | nil => rfl
  | cons a l ih =>
    cases k with
    | zero =>
      simp at h; subst h
      rw [List.set_cons_zero, olds_cons, olds_cons, hx]
    | succ k =>
      rw [List.set_cons_succ, olds_cons, olds_cons, ih k (by simpa using h)]
def all96 : List Int := (List.range 96).map Int.ofNat
structure U.Ok (u : U) : Prop where
  wf : u.WF
  pm : (u.na ++ u.fr ++ olds u.under).Perm all96
  ge : ∀ e ∈ u.under, e.Good
theorem U.Ok.len {u : U} (h : u.Ok) : u.fr.length + (olds u.under).length = 32 := by
  have := h.pm.length_eq
  simp only [List.length_append, h.wf.na, all96, List.length_map, List.length_range] at this
  omega
theorem mem96 {x : Int} (h : x ∈ all96) : 0 ≤ x ∧ x < 96 := by
  simp only [all96, List.mem_map, List.mem_range] at h
  obtain ⟨a, h1, rfl⟩ := h
  exact ⟨by show (0 : Int) ≤ (a : Int); omega, by show (a : Int) < 96; omega⟩
theorem U.Ok.na_range {u : U} (h : u.Ok) {x : Int} (hx : x ∈ u.na) : 0 ≤ x ∧ x < 96 := mem96 (h.pm.mem_iff.1 (by simp [hx]))
theorem U.Ok.fr_range {u : U} (h : u.Ok) {x : Int} (hx : x ∈ u.fr) : 0 ≤ x ∧ x < 96 := mem96 (h.pm.mem_iff.1 (by simp [hx]))
theorem set_perm : ∀ (l : List Int) (k : Nat) (x : Int), k < l.length → (l.getD k 0 :: l.set k x).Perm (x :: l)
  | [], k, x, h => by simp at h
  | a :: l, 0, x, h => List.Perm.swap _ _ _
  | a :: l, k + 1, x, h => by
    have ih := set_perm l k x (by simpa using h)
    rw [List.set_cons_succ, List.getD_cons_succ]
    exact (List.Perm.swap _ _ _).trans ((List.Perm.cons a ih).trans (List.Perm.swap _ _ _))
theorem U.Ok.goes {u : U} (h : u.Ok) (w : Wa) : stops u w = decide (u.ma = 16) := by
  unfold stops
  cases hm : decide (u.ma = 16) with
  | true => rfl
  | false =>
    have := h.len
    have := olds_len u.under
    have := h.wf.ma
    rw [under_len] at *
    simp only [decide_eq_false_iff_not] at hm
    have : decide (u.fr.length = 0) = false := by
      rw [decide_eq_false_iff_not]; omega
    rw [this, Bool.and_false]; rfl
theorem U.Ok.wr {u : U} (h : u.Ok) {w : Wa} (hm : u.ma < 16) (hw : w.wr = true) : 0 < w.d ∧ w.d < 64 ∧ u.fr ≠ [] ∧ 0 ≤ u.fr.getD 0 0 ∧ 0 ≤ u.na.getD w.d.toNat 0 := by
  have hd : 0 < w.d ∧ w.d < 64 := by simpa [Wa.wr] using hw
  have hlt : w.d.toNat < u.na.length := by rw [h.wf.na]; omega
  have h1 := h.len
  have h2 := olds_len u.under
  rw [under_len] at h2
  have hl : 0 < u.fr.length := by omega
  refine ⟨hd.1, hd.2, fun e => ?_, ?_, ?_⟩
  · rw [e] at hl; simp at hl
  · rw [List.getD_eq_getElem?_getD, List.getElem?_eq_getElem hl]
    exact (h.fr_range (List.getElem_mem hl)).1
  · rw [List.getD_eq_getElem?_getD, List.getElem?_eq_getElem hlt]
    exact (h.na_range (List.getElem_mem hlt)).1
theorem U.Ok.alloc1 {u u' : U} {w : Wa} {n : Na} (h : u.Ok) (ha : u.alloc1 w = some (u', n)) : u'.Ok := by
  have hun := under_alloc1 h.wf ha
  obtain ⟨hwf, _, _, hm⟩ := h.wf.alloc1 ha
  have hs : stops u w = false := by
    cases hh : stops u w with
    | false => rfl
    | true => rw [alloc1_stops hh] at ha; cases ha
  rw [alloc1_goes hs] at ha
  simp only [Option.some.injEq, Prod.mk.injEq] at ha
  obtain ⟨e1, _⟩ := ha
  refine ⟨hwf, ?_, ?_⟩
  · rw [hun, olds_append]
    subst e1
    show ((bif w.wr then _ else u.na : List Int) ++ (bif w.wr then _ else u.fr : List Int) ++ _).Perm _
    cases hw : w.wr with
    | false =>
      simp only [cond_false]
      have : olds [(⟨-1, -1, -1, false⟩ : En)] = [] := rfl
      rw [this, List.append_nil]
      exact h.pm
    | true =>
      simp only [cond_true]
      obtain ⟨d0, d1, hfr, _, ho⟩ := h.wr hm hw
      have hlt : w.d.toNat < u.na.length := by rw [h.wf.na]; omega
      obtain ⟨f0, fr, hf⟩ : ∃ f0 fr, u.fr = f0 :: fr := by
        cases hh : u.fr with
        | nil => exact absurd hh hfr
        | cons a b => exact ⟨a, b, rfl⟩
      have : olds [(⟨w.d, u.fr.getD 0 0, u.na.getD w.d.toNat 0, false⟩ : En)] = [u.na.getD w.d.toNat 0] := by
        rw [olds_cons]
        have : decide (u.na.getD w.d.toNat 0 ≥ 0) = true := by simpa using ho
        simp only [this, cond_true]
        rfl
      rw [this]
      refine List.Perm.trans ?_ h.pm
      rw [hf]
      show (u.na.set w.d.toNat f0 ++ fr ++ (olds u.under ++ [u.na.getD w.d.toNat 0])).Perm (u.na ++ (f0 :: fr) ++ olds u.under)
      have p := set_perm u.na w.d.toNat f0 hlt
      rw [List.perm_iff_count]
      intro a
      have := p.count_eq a
      simp only [List.count_append, List.count_cons, List.count_nil] at this ⊢
      omega
  · rw [hun]
    intro e he
    rcases List.mem_append.1 he with h1 | h1
    · exact h.ge e h1
    · simp at h1
      subst h1
      cases hw : w.wr with
      | false => exact .inl ⟨rfl, rfl, rfl⟩
      | true =>
        obtain ⟨d0, d1, _, h1, h2⟩ := h.wr hm hw
        refine .inr ⟨?_, d1, ?_, ?_⟩
        · show 1 ≤ w.d; omega
        · simpa using h1
        · simpa using h2
theorem U.Ok.alloc {u : U} (h : u.Ok) : ∀ ws : List Wa, (u.alloc ws).1.Ok ∧ (u.alloc ws).2.length = min (16 - u.ma) ws.length ∧ ∃ es : List En, (u.alloc ws).1.under = u.under ++ es ∧ es.length = (u.alloc ws).2.length ∧ (∀ e ∈ es, e.f = false) ∧
    ∀ i, i < (u.alloc ws).2.length → ∃ n, (u.alloc ws).2[i]? = some n ∧ n.r = ((u.fi + (u.ma + i)) % 16 : Nat)
  | [] => ⟨h, by simp [U.alloc], [], by simp [U.alloc], rfl, fun _ h => (by cases h), fun i hi => by simp [U.alloc] at hi⟩
  | w :: ws => by
    have hg := h.goes w
    unfold U.alloc
    cases ha : u.alloc1 w with
    | none =>
      have hm : u.ma = 16 := by
        cases hs : stops u w with
        | true => rw [hs] at hg; simpa using hg.symm
        | false => rw [alloc1_goes hs] at ha; cases ha
      exact ⟨h, by simp [hm], [], by simp, rfl, fun _ h => (by cases h), fun i hi => by simp at hi⟩
    | some r =>
      obtain ⟨h1, h2, h3, hm⟩ := h.wf.alloc1 (u' := r.1) (n := r.2) ha
      obtain ⟨k1, k2, es, k3, k4, k5, k6⟩ := U.Ok.alloc (h.alloc1 (u' := r.1) (n := r.2) ha) ws
      have hun := under_alloc1 (u' := r.1) (n := r.2) h.wf ha
      refine ⟨k1, ?_, (⟨bif w.wr then w.d else -1, bif w.wr then u.fr.getD 0 0 else -1, bif w.wr then u.na.getD w.d.toNat 0 else -1, false⟩ : En) :: es, ?_, by simp [k4], ?_, ?_⟩
      · show (_ :: _ : List Na).length = _
        rw [List.length_cons, k2, h3, List.length_cons]; omega
      · show (r.1.alloc ws).1.under = _
        rw [k3, hun, List.append_assoc]; rfl
      · intro e he
        rcases List.mem_cons.1 he with rfl | he
        · rfl
        · exact k5 e he
      · intro i hi
        cases i with
        | zero =>
          refine ⟨r.2, rfl, ?_⟩
          have hs : stops u w = false := by
            cases hh : stops u w with
            | false => rfl
            | true => rw [alloc1_stops hh] at ha; cases ha
          rw [alloc1_goes hs] at ha
          rw [← Option.some.inj ha]
          rfl
        | succ i =>
          obtain ⟨n, q1, q2⟩ := k6 i (by simpa using hi)
          refine ⟨n, q1, ?_⟩
          rw [q2, h2, h3, show u.ma + 1 + i = u.ma + (i + 1) from by omega]
theorem U.Ok.finish {u : U} (h : u.Ok) (r : Int) : (u.finish r).1.Ok := by
  by_cases hc : (decide (u.number r < 0) || (u.at r.toNat).f) = true
  · have : u.finish r = (u, false) := by unfold U.finish; rw [hc]; rfl
    rw [this]; exact h
  · have hc : (decide (u.number r < 0) || (u.at r.toNat).f) = false := by simpa using hc
    have hc2 := hc
    simp only [Bool.or_eq_false_iff, decide_eq_false_iff_not] at hc
    obtain ⟨h0, h1, h2⟩ := number_range hc.1
    have hfi := h.wf.fi
    have hma := h.wf.ma
    obtain ⟨k, hk⟩ : ∃ k : Nat, u.number r = k := ⟨(u.number r).toNat, by omega⟩
    have hr : r = (((u.fi + k) % 16 : Nat) : Int) := by
      unfold U.number at hk
      rw [if_pos ⟨h0, h1⟩] at hk
      split at hk <;> omega
    subst hr
    have hkm : k < u.ma := by rw [hk] at h2; omega
    have hf : (u.at ((u.fi + k) % 16)).f = false := hc.2
    rw [finish_at h.wf hkm hf]
    have hw := h.wf.finish (((u.fi + k) % 16 : Nat) : Int)
    rw [finish_at h.wf hkm hf] at hw
    refine ⟨hw, ?_, ?_⟩
    · show (u.na ++ u.fr ++ olds (U.under _)).Perm _
      rw [under_finish h.wf hkm, olds_set _ _ _ _ (under_get hkm) (by rfl)]
      exact h.pm
    · rw [under_finish h.wf hkm]
      intro e he
      rcases List.mem_or_eq_of_mem_set he with h1 | rfl
      · exact h.ge e h1
      · exact h.ge (u.at ((u.fi + k) % 16)) (List.mem_of_getElem? (under_get hkm))
theorem U.Ok.commit1 {u : U} (h : u.Ok) (hm : 0 < u.ma) : u.commit1.Ok := by
  have hu := under_commit1 h.wf.w2 hm
  have hp : (u.na ++ u.commit1.fr ++ olds u.commit1.under).Perm all96 := by
    refine List.Perm.trans ?_ h.pm
    rw [hu, olds_cons]
    show (u.na ++ (bif decide ((u.at u.fi).o ≥ 0) then u.fr ++ [(u.at u.fi).o] else u.fr : List Int) ++ _).Perm _
    cases decide ((u.at u.fi).o ≥ 0) with
    | false => exact List.Perm.refl _
    | true =>
      simp only [cond_true, List.append_assoc]
      exact List.Perm.refl _
  refine ⟨⟨h.wf.na, h.wf.rob, Nat.mod_lt _ (by decide), ?_, ?_, h.wf.rd⟩, hp, ?_⟩
  · show u.ma - 1 ≤ 16
    have := h.wf.ma; omega
  · have := hp.length_eq
    simp only [List.length_append, h.wf.na, all96, List.length_map, List.length_range] at this
    omega
  · intro e he
    exact h.ge e (by rw [hu]; exact List.mem_cons_of_mem _ he)
theorem u0_ok : u0.Ok := by
  refine ⟨u0_wf, ?_, fun e he => ?_⟩
  · have : u0.na ++ u0.fr ++ olds u0.under = all96 := by decide
    rw [this]
  · have : u0.under = [] := rfl
    rw [this] at he; cases he
end Go.Proofs.Ytkpbkanbpjfadaa

namespace Go.Proofs.Ytkpbkanbpjfadaa
open Go Go.Sx

structure Re where
  p : Int
  d : Int
  n : Int
  o : Int
  f : Bool
abbrev Re.dv (e : Re) : List DV := [.i e.p, .i e.d, .i e.n, .i e.o, .b e.f]
variable {u : U} {r : Int} {i : Nat}
end Go.Proofs.Ytkpbkanbpjfadaa

namespace Go.Proofs.Ytkpbkanbpjfadaa
open Go Go.Sx
set_option maxRecDepth 100000
set_option maxHeartbeats 4000000

end Go.Proofs.Ytkpbkanbpjfadaa

namespace Go.Proofs.Ytkpbkanbpjfadaa
open Go Go.Sx

theorem ow_true (l : List (Bool × Bool)) : ow l true = true := by simp [ow]

structure Fresh (a : List Na) (i : Nat) (u : U) : Prop where
  ok : u.Ok
  ma : i + u.ma = a.length
  un : ∀ e ∈ u.under, e.f = false
  at_ : ∀ j, j < u.ma → ∃ n, a[i + j]? = some n ∧ n.r = ((u.fi + j) % 16 : Nat)
variable {a : List Na} {w0 : List DV} {ok : Bool} {i : Nat} {u : U}
def U.fin (u : U) : U := { u with rob := u.rob.set u.fi { u.at u.fi with f := true } }
theorem Fresh.step (h : Fresh a i u) (hm : 0 < u.ma) : u.commit 1 = (u, []) ∧ u.finish u.fi = (u.fin, true) ∧ u.fin.commit 1 = (u.fin.commit1, [(u.fi : Int)]) ∧ u.fin.WF ∧ Fresh a (i + 1) u.fin.commit1 := by
  have hfi := h.ok.wf.fi
  have h0 : u.under[0]? = some (u.at u.fi) := by rw [under_get hm]; congr 2; omega
  have hf : (u.at u.fi).f = false := h.un _ (List.mem_of_getElem? h0)
  have e0 : (u.fi + 0) % 16 = u.fi := by omega
  have hfin := finish_at h.ok.wf hm (by rw [e0]; exact hf)
  rw [e0] at hfin
  have hok : u.fin.Ok := by have := h.ok.finish u.fi; rw [hfin] at this; exact this
  have hat : u.fin.at u.fi = { u.at u.fi with f := true } := by
    show (u.rob.set u.fi _).getD u.fi En.nil = _
    rw [getD_set _ _ _ _ _ (by rw [h.ok.wf.rob]; exact hfi), if_pos rfl]
  have hun : u.fin.under = u.under.set 0 { u.at u.fi with f := true } := by
    have := under_finish h.ok.wf hm { u.at u.fi with f := true }
    rw [e0] at this
    exact this
  have hc := under_commit1 hok.wf.w2 (u := u.fin) hm
  have htl : u.fin.commit1.under = u.under.tail := by
    rw [hc] at hun
    cases hu : u.under with
    | nil => rw [hu] at h0; simp at h0
    | cons x l => rw [hu, List.set_cons_zero] at hun; exact (List.cons.inj hun).2
  refine ⟨?_, hfin, ?_, hok.wf, ⟨hok.commit1 hm, ?_, ?_, ?_⟩⟩
  · have : u.ready = false := by simp [U.ready, hf]
    exact commit_zero this 1
  · have : u.fin.ready = true := by
      show (decide (u.ma > 0) && (u.fin.at u.fi).f) = true
      rw [hat]; simpa using hm
    simp only [U.commit, this, cond_true]
    rfl
  · show i + 1 + (u.ma - 1) = _
    have := h.ma; omega
  · rw [htl]
    intro e he
    exact h.un e (List.mem_of_mem_tail he)
  · intro j hj
    have hj : j < u.ma - 1 := hj
    obtain ⟨n, h1, h2⟩ := h.at_ (j + 1) (by omega)
    refine ⟨n, by rw [show i + 1 + j = i + (j + 1) from by omega]; exact h1, ?_⟩
    rw [h2]
    show (((u.fi + (j + 1)) % 16 : Nat) : Int) = (((u.fi + 1) % 16 + j) % 16 : Nat)
    congr 1; omega
end Go.Proofs.Ytkpbkanbpjfadaa

namespace Go.Proofs.Ytkpbkanbpjfadaa
open Go Go.Sx

section
variable {w : Wa} {ws : List Wa} {x0 : List DV} {out : List Na} {k : Nat} {u : U}
end
end Go.Proofs.Ytkpbkanbpjfadaa

namespace Go.Proofs.Ytkpbkanbpjfadaa
open Go Go.Sx

structure U.Gd (u : U) : Prop where
  w2 : u.W2
  ge : ∀ e ∈ u.under, e.Good
theorem U.Gd.commit1 {u : U} (h : u.Gd) (hr : u.ready = true) : u.commit1.Gd := by
  have hm : 0 < u.ma := by
    simp only [U.ready, Bool.and_eq_true, decide_eq_true_eq] at hr
    exact hr.1
  refine ⟨h.w2.commit1 hr, fun e he => h.ge e ?_⟩
  rw [under_commit1 h.w2 hm]
  exact List.mem_cons_of_mem _ he
theorem U.Gd.squash1 {u : U} (h : u.Gd) (hm : 0 < u.ma) : u.squash1.Gd := by
  refine ⟨h.w2.squash1 hm, fun e he => h.ge e ?_⟩
  rw [under_squash1 hm]
  exact List.mem_append_left _ he
section
variable {most : Int} {x0 : List DV} {out : List Int} {u : U}
end
section
variable {n : Int} {x0 : List DV} {i : Nat} {u : U}
end
end Go.Proofs.Ytkpbkanbpjfadaa

namespace Go.Proofs.Ytkpbkanbpjfadaa
open Go Go.Sx

def Chain : List Int → List En → Prop
  | _, [] => True
  | na, e :: l => (0 ≤ e.d → na.getD e.d.toNat 0 = e.n ∧ Chain (na.set e.d.toNat e.o) l) ∧ (e.d < 0 → Chain na l)
theorem Chain.init : ∀ {l : List En} {na : List Int} {m : List En}, Chain na (l ++ m) → Chain na l
  | [], _, _, _ => trivial
  | _e :: _l, _na, _m, h => ⟨fun h0 => ⟨(h.1 h0).1, Chain.init (h.1 h0).2⟩, fun h0 => Chain.init (h.2 h0)⟩
theorem Chain.congr : ∀ {l m : List En} {na : List Int}, l.map (fun e => (e.d, e.n, e.o)) = m.map (fun e => (e.d, e.n, e.o)) → Chain na l → Chain na m
  | [], [], _, _, h => h
  | [], _ :: _, _, h, _ => by simp at h
  | _ :: _, [], _, h, _ => by simp at h
  | e :: l, e' :: m, na, h, hc => by
    simp only [List.map_cons, List.cons.injEq, Prod.mk.injEq] at h
    obtain ⟨⟨h1, h2, h3⟩, h4⟩ := h
    refine ⟨fun h0 => ?_, fun h0 => Chain.congr h4 (hc.2 (by rw [h1]; exact h0))⟩
    obtain ⟨k1, k2⟩ := hc.1 (by rw [h1]; exact h0)
    rw [h1, h2] at k1
    rw [h1, h3] at k2
    exact ⟨k1, Chain.congr h4 k2⟩
structure U.Ok2 (u : U) : Prop where
  ok : u.Ok
  ch : Chain u.na u.under.reverse
theorem u0_ok2 : u0.Ok2 := ⟨u0_ok, trivial⟩
theorem set_back (l : List Int) (k : Nat) (x : Int) (h : k < l.length) : (l.set k x).set k (l.getD k 0) = l := by
  rw [List.set_set]
  apply List.ext_getElem?
  intro i
  rw [List.getElem?_set]
  by_cases hi : k = i
  · subst hi
    rw [if_pos rfl, if_pos h, List.getD_eq_getElem?_getD, List.getElem?_eq_getElem h]
    rfl
  · rw [if_neg hi]
theorem U.Ok2.alloc1 {u u' : U} {w : Wa} {n : Na} (h : u.Ok2) (ha : u.alloc1 w = some (u', n)) : u'.Ok2 := by
  refine ⟨h.ok.alloc1 ha, ?_⟩
  have hun := under_alloc1 h.ok.wf ha
  obtain ⟨hwf, _, _, hm⟩ := h.ok.wf.alloc1 ha
  have hs : stops u w = false := by
    cases hh : stops u w with
    | false => rfl
    | true => rw [alloc1_stops hh] at ha; cases ha
  rw [alloc1_goes hs] at ha
  simp only [Option.some.injEq, Prod.mk.injEq] at ha
  obtain ⟨e1, _⟩ := ha
  rw [hun, List.reverse_append]
  have e2 : u'.na = bif w.wr then u.na.set w.d.toNat (u.fr.getD 0 0) else u.na := by rw [← e1]
  rw [e2]
  show Chain _ (_ :: u.under.reverse)
  cases hw : w.wr with
  | false => exact ⟨fun h0 => absurd (show (0 : Int) ≤ -1 from h0) (by decide), fun _ => h.ch⟩
  | true =>
    obtain ⟨d0, d1, _⟩ := h.ok.wr hm hw
    have hlt : w.d.toNat < u.na.length := by rw [h.ok.wf.na]; omega
    refine ⟨fun h0 => ⟨?_, ?_⟩, fun h0 => ?_⟩
    · show (u.na.set w.d.toNat (u.fr.getD 0 0)).getD w.d.toNat 0 = u.fr.getD 0 0
      rw [List.getD_eq_getElem?_getD, List.getElem?_set, if_pos rfl, if_pos hlt]
      rfl
    · show Chain ((u.na.set w.d.toNat (u.fr.getD 0 0)).set w.d.toNat (u.na.getD w.d.toNat 0)) u.under.reverse
      rw [set_back _ _ _ hlt]
      exact h.ch
    · have h0 : w.d < 0 := h0
      omega
theorem U.Ok2.alloc {u : U} (h : u.Ok2) : ∀ ws : List Wa, (u.alloc ws).1.Ok2
  | [] => h
  | w :: ws => by
    unfold U.alloc
    cases ha : u.alloc1 w with
    | none => exact h
    | some r => exact U.Ok2.alloc (h.alloc1 (u' := r.1) (n := r.2) ha) ws
theorem U.Ok2.finish {u : U} (h : u.Ok2) (r : Int) : (u.finish r).1.Ok2 := by
  refine ⟨h.ok.finish r, ?_⟩
  by_cases hc : (decide (u.number r < 0) || (u.at r.toNat).f) = true
  · have : u.finish r = (u, false) := by unfold U.finish; rw [hc]; rfl
    rw [this]; exact h.ch
  · have hc : (decide (u.number r < 0) || (u.at r.toNat).f) = false := by simpa using hc
    simp only [Bool.or_eq_false_iff, decide_eq_false_iff_not] at hc
    obtain ⟨h0, h1, h2⟩ := number_range hc.1
    have hfi := h.ok.wf.fi
    have hma := h.ok.wf.ma
    obtain ⟨k, hk⟩ : ∃ k : Nat, u.number r = k := ⟨(u.number r).toNat, by omega⟩
    have hr : r = (((u.fi + k) % 16 : Nat) : Int) := by
      unfold U.number at hk
      rw [if_pos ⟨h0, h1⟩] at hk
      split at hk <;> omega
    subst hr
    have hkm : k < u.ma := by rw [hk] at h2; omega
    have hf : (u.at ((u.fi + k) % 16)).f = false := hc.2
    rw [finish_at h.ok.wf hkm hf]
    show Chain u.na (U.under _).reverse
    rw [under_finish h.ok.wf hkm]
    refine Chain.congr ?_ h.ch
    rw [List.map_reverse, List.map_reverse]
    congr 1
    apply List.ext_getElem?
    intro i
    rw [List.getElem?_map, List.getElem?_map, List.getElem?_set]
    by_cases hi : k = i
    · subst hi
      rw [if_pos rfl, if_pos (by rw [under_len]; exact hkm), under_get hkm]
      rfl
    · rw [if_neg hi]
theorem U.Ok2.commit1 {u : U} (h : u.Ok2) (hm : 0 < u.ma) : u.commit1.Ok2 := by
  refine ⟨h.ok.commit1 hm, ?_⟩
  have := h.ch
  rw [under_commit1 h.ok.wf.w2 hm, List.reverse_cons] at this
  exact this.init
theorem U.Ok2.commit {u : U} (h : u.Ok2) : ∀ n : Nat, (u.commit n).1.Ok2
  | 0 => h
  | n + 1 => by
    simp only [U.commit]
    cases hr : u.ready with
    | false => exact h
    | true =>
      have hm : 0 < u.ma := by
        simp only [U.ready, Bool.and_eq_true, decide_eq_true_eq] at hr
        exact hr.1
      exact U.Ok2.commit (h.commit1 hm) n
theorem U.Ok2.squash1 {u : U} (h : u.Ok2) (hm : 0 < u.ma) : u.squash1.Ok2 := by
  have hun := under_squash1 hm
  have hch := h.ch
  rw [hun, List.reverse_append] at hch
  have hch : Chain u.na (u.last :: u.squash1.under.reverse) := hch
  have hg := h.ok.ge u.last (by rw [hun]; simp)
  have hge : ∀ e ∈ u.squash1.under, e.Good := fun e he => h.ok.ge e (by rw [hun]; exact List.mem_append_left _ he)
  have hw2 := h.ok.wf.w2.squash1 hm
  have hma := h.ok.wf.ma
  have hpm : (u.squash1.na ++ u.squash1.fr ++ olds u.squash1.under).Perm all96 := by
    refine List.Perm.trans ?_ h.ok.pm
    rw [hun, olds_append]
    show ((bif decide (u.last.d ≥ 0) then u.na.set u.last.d.toNat u.last.o else u.na : List Int) ++ (bif decide (u.last.d ≥ 0) then u.last.n :: u.fr else u.fr : List Int) ++ _).Perm _
    rcases hg with ⟨h1, h2, h3⟩ | ⟨h1, h2, h3, h4⟩
    · have e : decide (u.last.d ≥ 0) = false := by rw [h1]; decide
      have eo : olds [u.last] = [] := by
        rw [olds_cons, h3]; rfl
      rw [e, eo, List.append_nil]
      exact List.Perm.refl _
    · have e : decide (u.last.d ≥ 0) = true := by simp; omega
      have eo : olds [u.last] = [u.last.o] := by
        rw [olds_cons]
        have : decide (u.last.o ≥ 0) = true := by simpa using h4
        rw [this]; rfl
      rw [e, eo]
      simp only [cond_true]
      have hlt : u.last.d.toNat < u.na.length := by rw [h.ok.wf.na]; omega
      have p := set_perm u.na u.last.d.toNat u.last.o hlt
      rw [(hch.1 (by omega)).1] at p
      rw [List.perm_iff_count]
      intro a
      have := p.count_eq a
      simp only [List.count_append, List.count_cons, List.count_nil] at this ⊢
      omega
  refine ⟨⟨⟨hw2.na, hw2.rob, hw2.fi, hw2.ma, ?_, hw2.rd⟩, hpm, hge⟩, ?_⟩
  · have := hpm.length_eq
    simp only [List.length_append, hw2.na, all96, List.length_map, List.length_range] at this
    omega
  · show Chain (bif decide (u.last.d ≥ 0) then u.na.set u.last.d.toNat u.last.o else u.na) u.squash1.under.reverse
    cases hd : decide (u.last.d ≥ 0) with
    | true => exact (hch.1 (by simpa using hd)).2
    | false => exact hch.2 (by simpa using hd)
theorem U.Ok2.squashN {u : U} (h : u.Ok2) : ∀ n : Nat, n ≤ u.ma → (u.squashN n).Ok2
  | 0, _ => h
  | n + 1, hn => U.Ok2.squashN (h.squash1 (by omega)) n (by show n ≤ u.ma - 1; omega)
theorem U.Ok2.squash {u : U} (h : u.Ok2) (r : Int) : (u.squash r).1.Ok2 := by
  unfold U.squash
  have hge := number_ge u r
  cases hc : (decide (u.number r < 0) && (r != -1)) with
  | true => exact h
  | false => exact h.squashN _ (by omega)
end Go.Proofs.Ytkpbkanbpjfadaa

namespace Go.Proofs.Ytkpbkanbpjfadaa
open Go Go.Sx

end Go.Proofs.Ytkpbkanbpjfadaa

namespace Go.Proofs.Ytkpbkanbpjfadaa
open Go Go.Sx

end Go.Proofs.Ytkpbkanbpjfadaa

namespace Go.Proofs.Ytkpbkanbpjfadaa
open Go Go.Sx

structure St where
  kind : Int
  n : Int
  ws : List Wa
abbrev St.dv (s : St) : List DV := [.i s.kind, .i s.n, .l (encW s.ws)]
def encS (l : List St) : List DV := l.flatMap St.dv
theorem encS_len (l : List St) : (encS l).length = l.length * 3 := fm_len (f := St.dv) (fun _ => rfl) l
theorem encS_get {l : List St} {k : Nat} {e : St} (h : l[k]? = some e) (j : Nat) (hj : j < 3) : (encS l).getD (Int.toNat (k : Int) * (3 : Nat) + j) default = e.dv.getD j default := by
  rw [Int.toNat_natCast]
  exact fm_get (f := St.dv) (fun _ => rfl) l k j e h hj
def U.step (u : U) (s : St) : U :=
  bif s.kind == 0 then (u.alloc s.ws).1 else bif s.kind == 1 then (u.finish s.n).1 else bif s.kind == 2 then (u.commit s.n.toNat).1 else bif s.kind == 3 then (u.squash s.n).1 else u
theorem U.Ok2.step {u : U} (h : u.Ok2) (s : St) : (u.step s).Ok2 := by
  unfold U.step
  cases s.kind == 0 with
  | true => exact h.alloc s.ws
  | false =>
    cases s.kind == 1 with
    | true => exact h.finish s.n
    | false =>
      cases s.kind == 2 with
      | true => exact h.commit s.n.toNat
      | false =>
        cases s.kind == 3 with
        | true => exact h.squash s.n
        | false => exact h
end Go.Proofs.Ytkpbkanbpjfadaa

namespace Go.Proofs.Ytkpbkanbpjfadaa
open Go Go.Sx
set_option maxRecDepth 100000
set_option maxHeartbeats 4000000

end Go.Proofs.Ytkpbkanbpjfadaa

namespace Go.Proofs.Ytkpbkanbpjfadaa
open Go Go.Sx

def back : List Int × List Int → List En → List Int × List Int
  | s, [] => s
  | s, e :: l => back (bif decide (e.d ≥ 0) then (s.1.set e.d.toNat e.o, e.n :: s.2) else s) l
theorem back_append : ∀ (l m : List En) (s : List Int × List Int), back s (l ++ m) = back (back s l) m
  | [], _, _ => rfl
  | _ :: l, m, _ => back_append l m _
theorem squashN_back : ∀ (k : Nat) {u : U}, k ≤ u.ma → ((u.squashN k).na, (u.squashN k).fr) = back (u.na, u.fr) (u.under.reverse.take k)
  | 0, u, _ => by simp [U.squashN, back]
  | k + 1, u, h => by
    have hun := under_squash1 (u := u) (by omega)
    have ih := squashN_back k (u := u.squash1) (by show k ≤ u.ma - 1; omega)
    rw [hun, List.reverse_append]
    show ((u.squash1.squashN k).na, (u.squash1.squashN k).fr) = back _ (List.take k u.squash1.under.reverse)
    rw [ih]
    congr 1
    show ((bif decide (u.last.d ≥ 0) then u.na.set u.last.d.toNat u.last.o else u.na : List Int), (bif decide (u.last.d ≥ 0) then u.last.n :: u.fr else u.fr : List Int)) = _
    cases decide (u.last.d ≥ 0) <;> rfl
theorem alloc1_back {u u' : U} {w : Wa} {n : Na} (h : u.Ok) (ha : u.alloc1 w = some (u', n)) : ∃ e, u'.under = u.under ++ [e] ∧ back (u'.na, u'.fr) [e] = (u.na, u.fr) := by
  refine ⟨_, under_alloc1 h.wf ha, ?_⟩
  obtain ⟨_, _, _, hm⟩ := h.wf.alloc1 ha
  have hs : stops u w = false := by
    cases hh : stops u w with
    | false => rfl
    | true => rw [alloc1_stops hh] at ha; cases ha
  rw [alloc1_goes hs] at ha
  simp only [Option.some.injEq, Prod.mk.injEq] at ha
  obtain ⟨e1, _⟩ := ha
  rw [← e1]
  cases hw : w.wr with
  | false => rfl
  | true =>
    obtain ⟨d0, d1, hfr, _, _⟩ := h.wr hm hw
    have hlt : w.d.toNat < u.na.length := by rw [h.wf.na]; omega
    have hd : decide (w.d ≥ 0) = true := by simp; omega
    show back (u.na.set w.d.toNat (u.fr.getD 0 0), u.fr.drop 1) [⟨w.d, u.fr.getD 0 0, u.na.getD w.d.toNat 0, false⟩] = _
    simp only [back, hd, cond_true, set_back _ _ _ hlt]
    cases hf : u.fr with
    | nil => exact absurd hf hfr
    | cons a b => rfl
structure Bk (u : U) (last : Int) : Prop where
  ok : u.Ok2
  la : 0 < u.ma → last = (((u.fi + (u.ma - 1)) % 16 : Nat) : Int)
def bStep (u : U) (s : St) : U :=
  bif s.kind == 0 then (u.alloc s.ws).1 else bif s.kind == 1 then (u.finish s.n).1 else bif s.kind == 2 then (u.commit s.n.toNat).1 else bif s.kind == 3 then (u.squash (-1)).1 else u
def lastR (l : List Na) (x : Int) : Int := bif decide ((l.length : Int) > 0) then ((l.getD (l.length - 1) ⟨0, 0, 0, 0, 0, 0⟩).r) else x
def laStep (u : U) (last : Int) (s : St) : Int :=
  bif s.kind == 0 then lastR (u.alloc s.ws).2 last else bif s.kind == 1 then last else bif s.kind == 2 then last else bif s.kind == 3 then (bif igt (u.squash (-1)).2 0 then -1 else last) else last
theorem commit_fi : ∀ (n : Nat) {u : U}, u.WF → (u.commit n).1.ma ≤ u.ma ∧ (u.commit n).1.fi = (u.fi + (u.ma - (u.commit n).1.ma)) % 16
  | 0, u, h => ⟨Nat.le_refl _, by have := h.fi; simp [U.commit]; omega⟩
  | n + 1, u, h => by
    simp only [U.commit]
    cases hr : u.ready with
    | false => exact ⟨Nat.le_refl _, by have := h.fi; simp; omega⟩
    | true =>
      have hm : 0 < u.ma := by
        simp only [U.ready, Bool.and_eq_true, decide_eq_true_eq] at hr
        exact hr.1
      have hw2 := h.w2.commit1 hr
      have key : ∀ (n : Nat) {v : U}, v.fi < 16 → (v.commit n).1.ma ≤ v.ma ∧ (v.commit n).1.fi = (v.fi + (v.ma - (v.commit n).1.ma)) % 16 := by
        intro n
        induction n with
        | zero => intro v hv; exact ⟨Nat.le_refl _, by simp [U.commit]; omega⟩
        | succ n ih =>
          intro v hv
          simp only [U.commit]
          cases hr : v.ready with
          | false => exact ⟨Nat.le_refl _, by simp; omega⟩
          | true =>
            have hm : 0 < v.ma := by
              simp only [U.ready, Bool.and_eq_true, decide_eq_true_eq] at hr
              exact hr.1
            obtain ⟨k1, k2⟩ := ih (v := v.commit1) (Nat.mod_lt _ (by decide))
            have e1 : v.commit1.ma = v.ma - 1 := rfl
            have e2 : v.commit1.fi = (v.fi + 1) % 16 := rfl
            rw [e1] at k1 k2
            rw [e2] at k2
            simp only [cond_true]
            exact ⟨by omega, by omega⟩
      have := key (n + 1) h.fi
      simp only [U.commit, hr, cond_true] at this
      exact this
theorem Bk.step {u : U} {last : Int} (h : Bk u last) (s : St) : Bk (bStep u s) (laStep u last s) := by
  have hu := h.ok.ok.wf
  have hfi := hu.fi
  unfold bStep laStep
  cases s.kind == 0 with
  | true =>
    refine ⟨h.ok.alloc s.ws, fun hm => ?_⟩
    show lastR (u.alloc s.ws).2 last = _
    have hm : 0 < (u.alloc s.ws).1.ma := hm
    obtain ⟨_, _, es, k1, k2, _, k6⟩ := h.ok.ok.alloc s.ws
    obtain ⟨_, a2, a3, _⟩ := hu.alloc s.ws
    unfold lastR
    simp only [cond_true]
    rw [a2, a3]
    cases hc : decide (((u.alloc s.ws).2.length : Int) > 0) with
    | false =>
      have hc : ¬ ((u.alloc s.ws).2.length : Int) > 0 := by simpa using hc
      have : (u.alloc s.ws).2.length = 0 := by omega
      rw [cond_false, this]
      exact h.la (by omega)
    | true =>
      have hc : ((u.alloc s.ws).2.length : Int) > 0 := by simpa using hc
      obtain ⟨n, q1, q2⟩ := k6 ((u.alloc s.ws).2.length - 1) (by omega)
      rw [cond_true, List.getD_eq_getElem?_getD, q1]
      show n.r = _
      rw [q2]
      congr 2
      omega
  | false =>
    cases s.kind == 1 with
    | true =>
      refine ⟨h.ok.finish s.n, fun hm => ?_⟩
      have f2 : (u.finish s.n).1.fi = u.fi ∧ (u.finish s.n).1.ma = u.ma := by
        unfold U.finish
        cases (decide (u.number s.n < 0) || (u.at s.n.toNat).f) <;> exact ⟨rfl, rfl⟩
      have hm : 0 < (u.finish s.n).1.ma := hm
      show last = ((((u.finish s.n).1.fi + ((u.finish s.n).1.ma - 1)) % 16 : Nat) : Int)
      rw [f2.1, f2.2]
      exact h.la (by omega)
    | false =>
      cases s.kind == 2 with
      | true =>
        refine ⟨h.ok.commit s.n.toNat, fun hm => ?_⟩
        have hm : 0 < (u.commit s.n.toNat).1.ma := hm
        obtain ⟨c1, c2⟩ := commit_fi s.n.toNat hu
        show last = ((((u.commit s.n.toNat).1.fi + ((u.commit s.n.toNat).1.ma - 1)) % 16 : Nat) : Int)
        rw [c2, h.la (by omega)]
        congr 1
        omega
      | false =>
        cases s.kind == 3 with
        | true =>
          refine ⟨h.ok.squash (-1), fun hm => ?_⟩
          exfalso
          have hm : 0 < (u.squash (-1)).1.ma := hm
          have hn : u.number (-1) = -1 := by unfold U.number; rw [if_neg (by omega)]
          unfold U.squash at hm
          rw [hn] at hm
          have e : (decide ((-1 : Int) < 0) && ((-1 : Int) != -1)) = false := by decide
          rw [e] at hm
          simp only [cond_false, (squashN_rob _ u).2.2] at hm
          omega
        | false => exact h

theorem len6 (l : List Na) : (((encN l).length / 6 : Nat) : Int) = (l.length : Int) := by rw [encN_len]; congr 1; omega
section
variable {l : List St} {k : Nat} {u : U} {s : St} {last : Int}
structure Fb (l : List St) (k : Nat) (u : U) (s : St) : Prop where
  el : (((encS l).length / 3 : Nat) : Int) = (l.length : Int)
  c1 : decide ((k : Int) < (l.length : Int)) = true
  c2 : decide ((k : Int) ≥ 0) = true
  s0 : ((encS l).getD (Int.toNat (k : Int) * (3 : Nat) + (0 : Nat)) default).toI = s.kind
  s1 : ((encS l).getD (Int.toNat (k : Int) * (3 : Nat) + (1 : Nat)) default).toI = s.n
  s2 : ((encS l).getD (Int.toNat (k : Int) * (3 : Nat) + (2 : Nat)) default).toL = encW s.ws
  wk : IntKind.wrap .i64 ((k : Int) + 1) = ((k + 1 : Nat) : Int)
  f1 : (u.alloc s.ws).1.fi = u.fi
  f2 : (u.finish s.n).1.fi = u.fi ∧ (u.finish s.n).1.ma = u.ma
  f3 : (u.squash (-1)).1.fi = u.fi
end
end Go.Proofs.Ytkpbkanbpjfadaa

namespace Go.Proofs.Ytkpbkanbpjfadaa
open Go Go.Sx

def namesAt (u : U) (j : Nat) : List Int := (back (u.na, u.fr) (u.under.reverse.take (u.ma - j))).1
theorem namesAt_end (u : U) : namesAt u u.ma = u.na := by unfold namesAt; rw [Nat.sub_self, List.take_zero]; rfl
theorem back_len : ∀ (l : List En) (s : List Int × List Int), (back s l).1.length = s.1.length
  | [], _ => rfl
  | e :: l, s => by
    rw [back, back_len l]
    cases decide (e.d ≥ 0) <;> simp
theorem back_mem : ∀ (l : List En) (s : List Int × List Int) (x : Int), x ∈ (back s l).1 → x ∈ s.1 ∨ ∃ e ∈ l, e.d ≥ 0 ∧ x = e.o
  | [], s, x, h => .inl h
  | e :: l, s, x, h => by
    rcases back_mem l _ x h with h1 | ⟨e', h1, h2⟩
    · cases hd : decide (e.d ≥ 0) with
      | false => rw [hd] at h1; exact .inl h1
      | true =>
        rw [hd] at h1
        rcases List.mem_or_eq_of_mem_set h1 with h3 | h3
        · exact .inl h3
        · exact .inr ⟨e, by simp, by simpa using hd, h3⟩
    · exact .inr ⟨e', List.mem_cons_of_mem _ h1, h2⟩
theorem namesAt_len {u : U} (h : u.WF) (j : Nat) : (namesAt u j).length = 64 := by unfold namesAt; rw [back_len]; exact h.na
theorem namesAt_mem {u : U} (h : u.Ok) {j : Nat} {x : Int} (hx : x ∈ namesAt u j) : x ∈ u.na ∨ x ∈ olds u.under := by
  rcases back_mem _ _ _ hx with h1 | ⟨e, h1, h2, h3⟩
  · exact .inl h1
  · right
    have hm : e ∈ u.under := List.mem_reverse.1 (List.mem_of_mem_take h1)
    rcases h.ge e hm with ⟨h4, _⟩ | ⟨_, _, _, h4⟩
    · omega
    · unfold olds
      exact List.mem_map.2 ⟨e, List.mem_filter.2 ⟨hm, by simpa using h4⟩, h3.symm⟩
theorem namesAt_range {u : U} (h : u.Ok) {j : Nat} {x : Int} (hx : x ∈ namesAt u j) : 0 ≤ x ∧ x < 96 := by
  rcases namesAt_mem h hx with h1 | h1
  · exact h.na_range h1
  · exact mem96 (h.pm.mem_iff.1 (by simp [h1]))
theorem nodup96 : all96.Nodup := by
  unfold all96
  rw [List.nodup_iff_pairwise_ne, List.pairwise_map]
  refine List.Pairwise.imp (fun {a b} h e => h ?_) (List.nodup_iff_pairwise_ne.1 List.nodup_range)
  exact Int.ofNat.inj e
theorem free_apart {u : U} (h : u.Ok) {j : Nat} {x y : Int} (hx : x ∈ namesAt u j) (hy : y ∈ u.fr) : x ≠ y := by
  have hn := h.pm.nodup_iff.2 nodup96
  rw [List.append_assoc, List.nodup_append] at hn
  obtain ⟨_, h2, h3⟩ := hn
  rw [List.nodup_append] at h2
  rcases namesAt_mem h hx with h1 | h1
  · exact h3 x h1 y (by simp [hy])
  · exact fun e => h2.2.2 y hy x h1 e.symm

structure Rs where
  value : List Int
  now : List Int
  before : List (List Int)
  un : List Na
  num : Int
structure Rd (u : U) (s : Rs) : Prop where
  ok : u.Ok2
  hv : s.value.length = 96
  hn : s.now.length = 64
  hb : s.before.length = u.ma
  hu : s.un.length = u.ma
  v : ∀ r, r < 64 → s.value.getD (u.na.getD r 0).toNat 0 = s.now.getD r 0
  b : ∀ j, j < u.ma → ∃ bj, s.before[j]? = some bj ∧ bj.length = 64 ∧ ∀ r, r < 64 → s.value.getD ((namesAt u j).getD r 0).toNat 0 = bj.getD r 0
  s : ∀ j, j < u.ma → ∃ n, s.un[j]? = some n ∧ ∀ x ∈ [n.s0, n.s1, n.s2], x = -1 ∨ x ∈ namesAt u j
theorem getD_set_ne {l : List Int} {i k : Nat} {x : Int} (h : k ≠ i) : (l.set k x).getD i 0 = l.getD i 0 := by
  rw [List.getD_eq_getElem?_getD, List.getElem?_set, if_neg h, ← List.getD_eq_getElem?_getD]
theorem getD_set_eq {l : List Int} {k : Nat} {x : Int} (h : k < l.length) : (l.set k x).getD k 0 = x := by
  rw [List.getD_eq_getElem?_getD, List.getElem?_set, if_pos rfl, if_pos h]; rfl
theorem getD_mem {l : List Int} {r : Nat} (h : r < l.length) : l.getD r 0 ∈ l := by
  rw [List.getD_eq_getElem?_getD, List.getElem?_eq_getElem h]
  exact List.getElem_mem h
def num1 (s : Rs) : Int := IntKind.wrap .i64 (s.num + 1)
def rd1 (s : Rs) (w : Wa) (n : Na) : Rs := ⟨bif w.wr then s.value.set n.d.toNat (num1 s) else s.value, bif w.wr then s.now.set w.d.toNat (num1 s) else s.now, s.before ++ [s.now], s.un ++ [n], num1 s⟩
theorem src_names {u : U} (h : u.WF) (x : Int) : src u.na x = -1 ∨ src u.na x ∈ u.na := by
  unfold src
  by_cases hx : 0 ≤ x ∧ x < 64
  · rw [if_pos hx]
    exact .inr (getD_mem (by rw [h.na]; omega))
  · rw [if_neg hx]; exact .inl rfl
theorem namesAt_alloc1 {u u' : U} {w : Wa} {n : Na} (h : u.Ok) (ha : u.alloc1 w = some (u', n)) {j : Nat} (hj : j ≤ u.ma) : namesAt u' j = namesAt u j := by
  obtain ⟨e, h1, h2⟩ := alloc1_back h ha
  obtain ⟨_, _, hm, _⟩ := h.wf.alloc1 ha
  unfold namesAt
  rw [h1, List.reverse_append, hm, show u.ma + 1 - j = (u.ma - j) + 1 from by omega]
  show (back _ (e :: List.take (u.ma - j) u.under.reverse)).1 = _
  rw [show (e :: List.take (u.ma - j) u.under.reverse) = [e] ++ List.take (u.ma - j) u.under.reverse from rfl, back_append, h2]
theorem alloc1_tells {u u' : U} {w : Wa} {n : Na} (h : u.Ok) (ha : u.alloc1 w = some (u', n)) : n.s0 = src u.na w.s0 ∧ n.s1 = src u.na w.s1 ∧ n.s2 = src u.na w.s2 ∧
    (w.wr = false → n.d = -1 ∧ n.o = -1 ∧ u'.na = u.na) ∧ (w.wr = true → n.d ∈ u.fr ∧ 0 ≤ n.d ∧ n.d < 96 ∧ 0 < w.d ∧ w.d < 64 ∧ u'.na = u.na.set w.d.toNat n.d) := by
  obtain ⟨_, _, _, hm⟩ := h.wf.alloc1 ha
  have hs : stops u w = false := by
    cases hh : stops u w with
    | false => rfl
    | true => rw [alloc1_stops hh] at ha; cases ha
  rw [alloc1_goes hs] at ha
  simp only [Option.some.injEq, Prod.mk.injEq] at ha
  obtain ⟨e1, e2⟩ := ha
  rw [← e1, ← e2]
  refine ⟨rfl, rfl, rfl, fun hw => ?_, fun hw => ?_⟩
  · rw [hw]; exact ⟨rfl, rfl, rfl⟩
  · rw [hw]
    obtain ⟨d0, d1, hfr, _, _⟩ := h.wr hm hw
    have hl : 0 < u.fr.length := by
      cases hf : u.fr with
      | nil => exact absurd hf hfr
      | cons a b => simp
    have hmem := getD_mem hl
    obtain ⟨r0, r1⟩ := h.fr_range hmem
    exact ⟨hmem, r0, r1, d0, d1, rfl⟩
theorem Rd.step1 {u u' : U} {w : Wa} {n : Na} {s : Rs} (h : Rd u s) (ha : u.alloc1 w = some (u', n)) : Rd u' (rd1 s w n) := by
  have hok := h.ok.ok
  obtain ⟨hwf, _, hm, _⟩ := hok.wf.alloc1 ha
  obtain ⟨t0, t1, t2, t3, t4⟩ := alloc1_tells hok ha
  -- the value of a name stays
  have keep : ∀ j x, x ∈ namesAt u j → (rd1 s w n).value.getD x.toNat 0 = s.value.getD x.toNat 0 := fun j x hx => by
    show (bif w.wr then s.value.set n.d.toNat (num1 s) else s.value : List Int).getD x.toNat 0 = _
    cases hw : w.wr with
    | false => rfl
    | true =>
      obtain ⟨k1, k2, _⟩ := t4 hw
      have := free_apart hok hx k1
      have := namesAt_range hok hx
      exact getD_set_ne (by omega)
  have named : ∀ j r, r < 64 → (namesAt u j).getD r 0 ∈ namesAt u j := fun j r hr => getD_mem (by rw [namesAt_len hok.wf]; exact hr)
  refine ⟨h.ok.alloc1 ha, ?_, ?_, ?_, ?_, fun r hr => ?_, fun j hj => ?_, fun j hj => ?_⟩
  · show (bif w.wr then s.value.set n.d.toNat (num1 s) else s.value : List Int).length = 96
    cases w.wr <;> simp [h.hv]
  · show (bif w.wr then s.now.set w.d.toNat (num1 s) else s.now : List Int).length = 64
    cases w.wr <;> simp [h.hn]
  · show (s.before ++ [s.now]).length = u'.ma
    rw [List.length_append, h.hb, hm]; rfl
  · show (s.un ++ [n]).length = u'.ma
    rw [List.length_append, h.hu, hm]; rfl
  · have hk := named u.ma r hr
    rw [namesAt_end] at hk
    have hk2 := keep u.ma _ (by rw [namesAt_end]; exact hk)
    cases hw : w.wr with
    | false =>
      rw [(t3 hw).2.2, hk2, h.v r hr]
      show _ = (bif w.wr then s.now.set w.d.toNat (num1 s) else s.now : List Int).getD r 0
      rw [hw]; rfl
    | true =>
      obtain ⟨k1, k2, k3, k4, k5, k6⟩ := t4 hw
      have e1 : (rd1 s w n).value = s.value.set n.d.toNat (num1 s) := by show (bif w.wr then _ else _ : List Int) = _; rw [hw]; rfl
      have e2 : (rd1 s w n).now = s.now.set w.d.toNat (num1 s) := by show (bif w.wr then _ else _ : List Int) = _; rw [hw]; rfl
      rw [k6, e2]
      by_cases hr2 : w.d.toNat = r
      · subst hr2
        rw [getD_set_eq (by rw [hok.wf.na]; exact hr), getD_set_eq (by rw [h.hn]; exact hr), e1, getD_set_eq (by rw [h.hv]; omega)]
      · rw [getD_set_ne hr2, getD_set_ne hr2, hk2, h.v r hr]
  · rw [hm] at hj
    by_cases hj2 : j < u.ma
    · obtain ⟨bj, k1, k2, k3⟩ := h.b j hj2
      refine ⟨bj, by show (s.before ++ [s.now])[j]? = _; rw [List.getElem?_append_left (by rw [h.hb]; exact hj2)]; exact k1, k2, fun r hr => ?_⟩
      rw [namesAt_alloc1 hok ha (by omega), keep j _ (named j r hr)]
      exact k3 r hr
    · obtain rfl : j = u.ma := by omega
      refine ⟨s.now, by show (s.before ++ [s.now])[u.ma]? = _; rw [List.getElem?_append_right (by rw [h.hb]; exact Nat.le_refl _), h.hb, Nat.sub_self]; rfl, h.hn, fun r hr => ?_⟩
      rw [namesAt_alloc1 hok ha (Nat.le_refl _), keep u.ma _ (named u.ma r hr), namesAt_end]
      exact h.v r hr
  · rw [hm] at hj
    by_cases hj2 : j < u.ma
    · obtain ⟨m, k1, k2⟩ := h.s j hj2
      refine ⟨m, by show (s.un ++ [n])[j]? = _; rw [List.getElem?_append_left (by rw [h.hu]; exact hj2)]; exact k1, fun x hx => ?_⟩
      rw [namesAt_alloc1 hok ha (by omega)]
      exact k2 x hx
    · obtain rfl : j = u.ma := by omega
      refine ⟨n, by show (s.un ++ [n])[u.ma]? = _; rw [List.getElem?_append_right (by rw [h.hu]; exact Nat.le_refl _), h.hu, Nat.sub_self]; rfl, fun x hx => ?_⟩
      rw [namesAt_alloc1 hok ha (Nat.le_refl _), namesAt_end]
      simp only [List.mem_cons, List.not_mem_nil, or_false] at hx
      rcases hx with rfl | rfl | rfl
      · rw [t0]; exact src_names hok.wf _
      · rw [t1]; exact src_names hok.wf _
      · rw [t2]; exact src_names hok.wf _
theorem Rd.finish {u : U} {s : Rs} (h : Rd u s) (x : Int) : Rd (u.finish x).1 s := by
  have hu := h.ok.ok.wf
  by_cases hc : (decide (u.number x < 0) || (u.at x.toNat).f) = true
  · have : u.finish x = (u, false) := by unfold U.finish; rw [hc]; rfl
    rw [this]; exact h
  · have hc : (decide (u.number x < 0) || (u.at x.toNat).f) = false := by simpa using hc
    have hc2 := hc
    simp only [Bool.or_eq_false_iff, decide_eq_false_iff_not] at hc
    obtain ⟨h0, h1, h2⟩ := number_range hc.1
    have hfi := hu.fi
    have hma := hu.ma
    obtain ⟨k, hk⟩ : ∃ k : Nat, u.number x = k := ⟨(u.number x).toNat, by omega⟩
    have hr : x = (((u.fi + k) % 16 : Nat) : Int) := by
      unfold U.number at hk
      rw [if_pos ⟨h0, h1⟩] at hk
      split at hk <;> omega
    subst hr
    have hkm : k < u.ma := by rw [hk] at h2; omega
    have hf : (u.at ((u.fi + k) % 16)).f = false := hc.2
    have hok := h.ok.finish (((u.fi + k) % 16 : Nat) : Int)
    rw [finish_at hu hkm hf] at hok ⊢
    -- what is taken back is the same
    have hb : ∀ (l m : List En) (s : List Int × List Int), l.map (fun e => (e.d, e.n, e.o)) = m.map (fun e => (e.d, e.n, e.o)) → back s l = back s m := by
      intro l
      induction l with
      | nil => intro m s h; cases m with
        | nil => rfl
        | cons => simp at h
      | cons e l ih => intro m s h; cases m with
        | nil => simp at h
        | cons e' m =>
          simp only [List.map_cons, List.cons.injEq, Prod.mk.injEq] at h
          obtain ⟨⟨h1, h2, h3⟩, h4⟩ := h
          rw [back, back, h1, h2, h3, ih m _ h4]
    have hmap : ∀ j, namesAt { u with rob := u.rob.set ((u.fi + k) % 16) { u.at ((u.fi + k) % 16) with f := true } } j = namesAt u j := fun j => by
      unfold namesAt
      congr 1
      refine hb _ _ _ ?_
      rw [List.map_take, List.map_take, List.map_reverse, List.map_reverse]
      congr 2
      rw [under_finish hu hkm]
      apply List.ext_getElem?
      intro i
      rw [List.getElem?_map, List.getElem?_map, List.getElem?_set]
      by_cases hi : k = i
      · subst hi
        rw [if_pos rfl, if_pos (by rw [under_len]; exact hkm), under_get hkm]
        rfl
      · rw [if_neg hi]
    exact ⟨hok, h.hv, h.hn, h.hb, h.hu, h.v, fun j hj => by rw [hmap j]; exact h.b j hj, fun j hj => by rw [hmap j]; exact h.s j hj⟩
def rdDrop (s : Rs) (n : Nat) : Rs := { s with before := s.before.drop n, un := s.un.drop n }
theorem back_fst : ∀ (l : List En) (a b : List Int × List Int), a.1 = b.1 → (back a l).1 = (back b l).1
  | [], _, _, h => h
  | e :: l, a, b, h => by
    rw [back, back]
    refine back_fst l _ _ ?_
    cases decide (e.d ≥ 0) with
    | true => simp only [cond_true, h]
    | false => exact h
theorem Rd.commit1 {u : U} {s : Rs} (h : Rd u s) (hm : 0 < u.ma) : Rd u.commit1 (rdDrop s 1) := by
  have hu := h.ok.ok.wf
  have hun := under_commit1 hu.w2 hm
  have hma : u.commit1.ma = u.ma - 1 := rfl
  have hnames : ∀ j, j < u.commit1.ma → namesAt u.commit1 j = namesAt u (j + 1) := fun j hj => by
    unfold namesAt
    rw [hun, List.reverse_cons, hma, List.take_append_of_le_length (by rw [List.length_reverse, under_len, hma]; omega), show u.ma - (j + 1) = u.ma - 1 - j from by omega]
    exact back_fst _ _ _ rfl
  refine ⟨h.ok.commit1 hm, h.hv, h.hn, ?_, ?_, h.v, fun j hj => ?_, fun j hj => ?_⟩
  · show (s.before.drop 1).length = _; rw [List.length_drop, h.hb]; rfl
  · show (s.un.drop 1).length = _; rw [List.length_drop, h.hu]; rfl
  · rw [hnames j hj]
    obtain ⟨bj, k1, k2⟩ := h.b (j + 1) (by omega)
    exact ⟨bj, by show (s.before.drop 1)[j]? = _; rw [List.getElem?_drop, Nat.add_comm]; exact k1, k2⟩
  · rw [hnames j hj]
    obtain ⟨m, k1, k2⟩ := h.s (j + 1) (by omega)
    exact ⟨m, by show (s.un.drop 1)[j]? = _; rw [List.getElem?_drop, Nat.add_comm]; exact k1, k2⟩
theorem rdDrop_drop (s : Rs) (a b : Nat) : rdDrop (rdDrop s a) b = rdDrop s (a + b) := by unfold rdDrop; simp [List.drop_drop]
theorem Rd.commit : ∀ (n : Nat) {u : U} {s : Rs}, Rd u s → Rd (u.commit n).1 (rdDrop s (u.commit n).2.length) ∧ (u.commit n).2.length ≤ u.ma
  | 0, u, s, h => ⟨by simpa [U.commit, rdDrop] using h, Nat.zero_le _⟩
  | n + 1, u, s, h => by
    simp only [U.commit]
    cases hr : u.ready with
    | false => exact ⟨by simpa [rdDrop] using h, Nat.zero_le _⟩
    | true =>
      have hm : 0 < u.ma := by
        simp only [U.ready, Bool.and_eq_true, decide_eq_true_eq] at hr
        exact hr.1
      obtain ⟨h1, h2⟩ := Rd.commit n (h.commit1 hm)
      rw [rdDrop_drop] at h1
      have e : u.commit1.ma = u.ma - 1 := rfl
      simp only [cond_true, List.length_cons]
      exact ⟨by rw [Nat.add_comm]; exact h1, by omega⟩
def rdTake (s : Rs) (n : Nat) : Rs := { s with now := bif decide ((n : Int) > 0) then s.before.getD (s.before.length - n) [] else s.now, before := s.before.take (s.before.length - n), un := s.un.take (s.un.length - n) }
theorem squashN_under : ∀ (n : Nat) {u : U}, n ≤ u.ma → (u.squashN n).under = u.under.take (u.ma - n)
  | 0, u, _ => by rw [Nat.sub_zero, List.take_of_length_le (by rw [under_len]; exact Nat.le_refl _)]; rfl
  | n + 1, u, h => by
    have hun := under_squash1 (u := u) (by omega)
    have ih := squashN_under n (u := u.squash1) (by show n ≤ u.ma - 1; omega)
    have e : u.squash1.ma = u.ma - 1 := rfl
    show (u.squash1.squashN n).under = _
    rw [ih, hun, e, List.take_append_of_le_length (by rw [under_len, e]; omega), show u.ma - (n + 1) = u.ma - 1 - n from by omega]
theorem Rd.squashN {u : U} {s : Rs} (h : Rd u s) (n : Nat) (hn : n ≤ u.ma) : Rd (u.squashN n) (rdTake s n) := by
  have hu := h.ok.ok.wf
  obtain ⟨_, _, hma⟩ := squashN_rob n u
  have hback := squashN_back n hn
  have hun := squashN_under n hn
  have hna : (u.squashN n).na = namesAt u (u.ma - n) := by
    unfold namesAt
    rw [show u.ma - (u.ma - n) = n from by omega, ← hback]
  have hnames : ∀ j, j < u.ma - n → namesAt (u.squashN n) j = namesAt u j := fun j hj => by
    unfold namesAt
    rw [hback, hma, hun, ← back_append]
    congr 2
    have e1 : (u.under.take (u.ma - n)).reverse = u.under.reverse.drop n := by
      rw [List.reverse_take, under_len, show u.ma - (u.ma - n) = n from by omega]
    rw [e1, show u.ma - j = n + (u.ma - n - j) from by omega, List.take_add]
  refine ⟨h.ok.squashN n hn, h.hv, ?_, ?_, ?_, fun r hr => ?_, fun j hj => ?_, fun j hj => ?_⟩
  · show (bif decide ((n : Int) > 0) then s.before.getD (s.before.length - n) [] else s.now : List Int).length = 64
    cases hc : decide ((n : Int) > 0) with
    | false => exact h.hn
    | true =>
      have hc : (n : Int) > 0 := by simpa using hc
      obtain ⟨bj, k1, k2, _⟩ := h.b (u.ma - n) (by omega)
      rw [cond_true, h.hb, List.getD_eq_getElem?_getD, k1]
      exact k2
  · show (s.before.take (s.before.length - n)).length = _
    rw [List.length_take, h.hb, hma]; omega
  · show (s.un.take (s.un.length - n)).length = _
    rw [List.length_take, h.hu, hma]; omega
  · show s.value.getD ((u.squashN n).na.getD r 0).toNat 0 = (bif decide ((n : Int) > 0) then s.before.getD (s.before.length - n) [] else s.now : List Int).getD r 0
    rw [hna]
    cases hc : decide ((n : Int) > 0) with
    | false =>
      have hc : ¬ (n : Int) > 0 := by simpa using hc
      have : n = 0 := by omega
      subst this
      rw [Nat.sub_zero, namesAt_end]
      exact h.v r hr
    | true =>
      have hc : (n : Int) > 0 := by simpa using hc
      obtain ⟨bj, k1, _, k3⟩ := h.b (u.ma - n) (by omega)
      rw [cond_true, h.hb, List.getD_eq_getElem?_getD (l := s.before), k1]
      exact k3 r hr
  · rw [hma] at hj
    rw [hnames j hj]
    obtain ⟨bj, k1, k2⟩ := h.b j (by omega)
    exact ⟨bj, by show (s.before.take (s.before.length - n))[j]? = _; rw [List.getElem?_take_of_lt (by rw [h.hb]; omega)]; exact k1, k2⟩
  · rw [hma] at hj
    rw [hnames j hj]
    obtain ⟨m, k1, k2⟩ := h.s j (by omega)
    exact ⟨m, by show (s.un.take (s.un.length - n))[j]? = _; rw [List.getElem?_take_of_lt (by rw [h.hu]; omega)]; exact k1, k2⟩
theorem squash_rng (u : U) (r : Int) : 0 ≤ (u.squash r).2 ∧ (u.squash r).2 ≤ u.ma := by
  unfold U.squash
  have h1 := number_ge u r
  rcases number_lt (u := u) r with h2 | h2
  · cases (decide (u.number r < 0) && (r != -1)) with
    | true => exact ⟨Int.le_refl _, by simp⟩
    | false => constructor <;> (simp only [cond_false]; omega)
  · cases (decide (u.number r < 0) && (r != -1)) with
    | true => exact ⟨Int.le_refl _, by simp⟩
    | false => constructor <;> (simp only [cond_false]; omega)
theorem Rd.squash {u : U} {s : Rs} (h : Rd u s) (r : Int) : Rd (u.squash r).1 (rdTake s (u.squash r).2.toNat) := by
  have hr := squash_rng u r
  have h0 : rdTake s 0 = s := by
    unfold rdTake
    simp only [Nat.sub_zero, List.take_length]
    rfl
  unfold U.squash at hr ⊢
  cases hc : (decide (u.number r < 0) && (r != -1)) with
  | true => rw [cond_true, show (0 : Int).toNat = 0 from rfl, h0]; exact h
  | false =>
    rw [hc] at hr
    simp only [cond_false] at hr
    exact h.squashN _ (by omega)
def now0 : List Int := (List.range 64).map fun i : Nat => -(i : Int)
def value0 : List Int := now0 ++ List.replicate 32 0
theorem Rd.init : Rd u0 ⟨value0, now0, [], [], 0⟩ := by
  refine ⟨u0_ok2, by decide, by decide, rfl, rfl, ?_, fun j hj => absurd hj (by show ¬ j < 0; omega), fun j hj => absurd hj (by show ¬ j < 0; omega)⟩
  have : ∀ r : Fin 64, value0.getD (u0.na.getD r.1 0).toNat 0 = now0.getD r.1 0 := by decide +kernel
  exact fun r hr => this ⟨r, hr⟩
end Go.Proofs.Ytkpbkanbpjfadaa

