/- The functions of the statements, as lists of plain steps (part 2). Written by the generator. -/
import Derived.Test.YtacciadcmiiimaaN5
import Derived.Test.YtacciadcmiiimaaN0
import Derived.Test.YtacciadcmiiimaaN4
namespace Go.Proofs.Ytacciadcmiiimaa
open Go Go.Sx
set_option maxRecDepth 100000
set_option maxHeartbeats 4000000

def s43 : Sig := ⟨[], [], [], .s (.one (.b (.h 0))), [], [.b], true⟩
def o43 : Out := ⟨List.append (List.append (List.append (List.append (List.append (callsAt 0 54 [.z 4, .z 0, .z 1065353216, .z 1065353216] 0 3) (callsAt 3 46 [.z 4, .z 0, .z 1065353216, .z 1077936128] 0 3)) (callsAt 6 48 [.z 4, .z 0, .z 3212836864] 0 3)) (callsAt 9 50 [.z 4, .z 0, .z 1065353217, .z 1065353217, .z 3212836866] 0 3)) (callsAt 12 44 [.z 4, .z 3, .z 1, .z 1056964608] 0 3)) ([(15, .eql (.r 1) (.z 1073741824)), (16, .eql (.r 2) (.z 0)), (17, .and (.r 15) (.r 16)), (18, .eql (.r 4) (.z 1051372203)), (19, .and (.r 17) (.r 18)), (20, .eql (.r 5) (.z 1)), (21, .and (.r 19) (.r 20)), (22, .eql (.r 7) (.z 2143289344)), (23, .and (.r 21) (.r 22)), (24, .eql (.r 8) (.z 16)), (25, .and (.r 23) (.r 24)), (26, .eql (.r 10) (.z 679477248)), (27, .and (.r 25) (.r 26)), (28, .eql (.r 11) (.z 0)), (29, .and (.r 27) (.r 28)), (30, .eql (.r 13) (.z 1)), (31, .and (.r 29) (.r 30)), (32, .eql (.r 14) (.z 3)), (33, .and (.r 31) (.r 32))]),
  [⟨[], .r 0⟩, ⟨[], .r 3⟩, ⟨[], .r 6⟩, ⟨[], .r 9⟩, ⟨[], .r 12⟩],
  [],
  [.r 33]⟩
noncomputable def p43  : Bool :=
  let x0 := p54 4 0 1065353216 1065353216
  let x3 := p46 4 0 1065353216 1077936128
  let x6 := p48 4 0 3212836864
  let x9 := p50 4 0 1065353217 1065353217 3212836866
  let x12 := p44 4 3 1 1056964608
  [ow [] x0, ow [] x3, ow [] x6, ow [] x9, ow [] x12].all id
noncomputable def r43_0  : Bool :=
  let x1 := r54_0 4 0 1065353216 1065353216
  let x2 := r54_1 4 0 1065353216 1065353216
  let x4 := r46_0 4 0 1065353216 1077936128
  let x5 := r46_1 4 0 1065353216 1077936128
  let x7 := r48_0 4 0 3212836864
  let x8 := r48_1 4 0 3212836864
  let x10 := r50_0 4 0 1065353217 1065353217 3212836866
  let x11 := r50_1 4 0 1065353217 1065353217 3212836866
  let x13 := r44_0 4 3 1 1056964608
  let x14 := r44_1 4 3 1 1056964608
  let x15 := x1 == 1073741824
  let x16 := x2 == 0
  let x17 := x15 && x16
  let x18 := x4 == 1051372203
  let x19 := x17 && x18
  let x20 := x5 == 1
  let x21 := x19 && x20
  let x22 := x7 == 2143289344
  let x23 := x21 && x22
  let x24 := x8 == 16
  let x25 := x23 && x24
  let x26 := x10 == 679477248
  let x27 := x25 && x26
  let x28 := x11 == 0
  let x29 := x27 && x28
  let x30 := x13 == 1
  let x31 := x29 && x30
  let x32 := x14 == 3
  let x33 := x31 && x32
  x33
noncomputable def g43 (_ds : List DV) : List DV := [.b (p43 ), .b (r43_0 )]
def S43 : Sigs := ⟨[(54, s54), (46, s46), (48, s48), (50, s50), (44, s44)], [], [], 0⟩

def s52 : Sig := ⟨[.s (.one (.i .i64 (.h 0)))], [], [.i], .s (.one (.i .i64 (.h 0))), [], [.i], false⟩
def o52 : Out := ⟨[(1, .land .i64 (.r 0) (.z 1)), (2, .mul .i64 (.z 4) (.r 1)), (3, .add .i64 (.z 4) (.r 2))],
  [],
  [],
  [.r 3]⟩
noncomputable def r52_0 (x0 : Int) : Int :=
  let x1 := iland .i64 x0 1
  let x2 := IntKind.wrap .i64 (4 * x1)
  let x3 := IntKind.wrap .i64 (4 + x2)
  x3
noncomputable def g52 (ds : List DV) : List DV := [.i (r52_0 (dget ds 0).toI)]
def S52 : Sigs := ⟨[], [], [], 0⟩

def s53 : Sig := ⟨[.s (.one (.i .i64 (.h 0)))], [], [.i], .s (.one (.i .i64 (.h 0))), [], [.i], false⟩
def o53 : Out := ⟨[(1, .conv .u64 (.r 0)), (2, .rem .u64 (.r 1) (.z 5)), (3, .conv .i64 (.r 2))],
  [],
  [],
  [.r 3]⟩
noncomputable def r53_0 (x0 : Int) : Int :=
  let x1 := IntKind.wrap .u64 x0
  let x2 := Int.tmod x1 5
  let x3 := IntKind.wrap .i64 x2
  x3
noncomputable def g53 (ds : List DV) : List DV := [.i (r53_0 (dget ds 0).toI)]
def S53 : Sigs := ⟨[], [], [], 0⟩

def s55 : Sig := ⟨[.s (.one (.i .i64 (.h 0))), .s (.one (.i .u64 (.h 1)))], [], [.i, .i], .s (.one (.i .i64 (.h 0))), [], [.i], true⟩
def o55 : Out := ⟨[(2, .mul .i64 (.z 8) (.r 0)), (3, .sub .i64 (.r 2) (.z 1)), (4, .geq (.r 3) (.z 0)), (5, .shl .u64 (.z 1) (.r 3)), (6, .call 42 [.r 0, .r 1] 0), (7, .land .u64 (.r 6) (.r 5)), (8, .neq (.r 7) (.z 0)), (9, .landNot .u64 (.r 6) (.r 5)), (10, .conv .i64 (.r 9)), (11, .sub .i64 (.z 0) (.r 10)), (12, .not (.r 8)), (13, .conv .i64 (.r 6)), (14, .itei (.r 12) (.r 13) (.r 11))],
  [⟨[], .r 4⟩],
  [],
  [.r 14]⟩
noncomputable def p55 (x0 : Int) : Bool :=
  let x2 := IntKind.wrap .i64 (8 * x0)
  let x3 := IntKind.wrap .i64 (x2 - 1)
  let x4 := decide (x3 ≥ 0)
  [ow [] x4].all id
noncomputable def r55_0 (x0 : Int) (x1 : Int) : Int :=
  let x2 := IntKind.wrap .i64 (8 * x0)
  let x3 := IntKind.wrap .i64 (x2 - 1)
  let x5 := ishl .u64 1 x3
  let x6 := r42_0 x0 x1
  let x7 := iland .u64 x6 x5
  let x8 := x7 != 0
  let x9 := ilandNot .u64 x6 x5
  let x10 := IntKind.wrap .i64 x9
  let x11 := IntKind.wrap .i64 (0 - x10)
  let x12 := !x8
  let x13 := IntKind.wrap .i64 x6
  let x14 := bif x12 then x13 else x11
  x14
noncomputable def g55 (ds : List DV) : List DV := [.b (p55 (dget ds 0).toI), .i (r55_0 (dget ds 0).toI (dget ds 1).toI)]
def S55 : Sigs := ⟨[(42, s42)], [], [], 0⟩

def s15 : Sig := ⟨[.s (.one (.i .i64 (.h 0))), .s (.one (.i .i64 (.h 1))), .s (.one (.i .u64 (.h 2))), .s (.one (.i .u64 (.h 3)))], [], [.i, .i, .i, .i], .s (.one (.b (.h 0))), [], [.b], true⟩
def o15 : Out := ⟨List.append (List.append (List.append (List.append (List.append (List.append (List.append ([(4, .call 43 [] 0), (5, .call 43 [] 1), (6, .not (.r 5)), (7, .not (.r 6)), (8, .call 52 [.r 0] 0), (9, .call 53 [.r 1] 0), (10, .mul .i64 (.z 8) (.r 8)), (11, .sub .i64 (.r 10) (.z 1)), (12, .geq (.r 11) (.z 0)), (13, .shl .u64 (.z 1) (.r 11)), (14, .eql (.r 8) (.z 8)), (15, .itei (.r 14) (.z 4607182418800017408) (.z 1065353216))]) (callsAt 16 50 [.r 8, .r 9, .r 2, .r 15, .r 3] 0 3)) (callsAt 19 54 [.r 8, .r 9, .r 2, .r 3] 0 3)) ([(22, .neq (.r 17) (.r 20)), (23, .neq (.r 18) (.r 21)), (24, .or (.r 22) (.r 23)), (25, .not (.r 24))])) (callsAt 26 44 [.r 8, .r 9, .r 2, .r 3] 0 3)) ([(29, .land .u64 (.r 27) (.r 13)), (30, .call 39 [.r 8, .r 27] 0), (31, .call 39 [.r 8, .r 27] 1), (32, .itei (.r 31) (.z 0) (.r 29))])) (callsAt 33 50 [.r 8, .r 9, .r 2, .r 3, .r 32] 0 3)) ([(36, .eql (.r 34) (.r 27)), (37, .eql (.r 35) (.r 28)), (38, .and (.r 36) (.r 37)), (39, .and (.r 25) (.r 38)), (40, .and (.r 7) (.r 39))]),
  [⟨[], .r 4⟩, ⟨[(.r 7, true)], .r 12⟩, ⟨[(.r 7, true)], .r 16⟩, ⟨[(.r 7, true)], .r 19⟩, ⟨[(.r 7, true), (.r 25, true)], .r 26⟩, ⟨[(.r 7, true), (.r 25, true)], .r 30⟩, ⟨[(.r 7, true), (.r 25, true)], .r 33⟩],
  [],
  [.r 40]⟩
noncomputable def p15 (x0 : Int) (x1 : Int) (x2 : Int) (x3 : Int) : Bool :=
  let x4 := p43 
  let x5 := r43_0 
  let x6 := !x5
  let x7 := !x6
  let x8 := r52_0 x0
  let x9 := r53_0 x1
  let x10 := IntKind.wrap .i64 (8 * x8)
  let x11 := IntKind.wrap .i64 (x10 - 1)
  let x12 := decide (x11 ≥ 0)
  let x13 := ishl .u64 1 x11
  let x14 := x8 == 8
  let x15 : Int := bif x14 then 4607182418800017408 else 1065353216
  let x16 := p50 x8 x9 x2 x15 x3
  let x17 := r50_0 x8 x9 x2 x15 x3
  let x18 := r50_1 x8 x9 x2 x15 x3
  let x19 := p54 x8 x9 x2 x3
  let x20 := r54_0 x8 x9 x2 x3
  let x21 := r54_1 x8 x9 x2 x3
  let x22 := x17 != x20
  let x23 := x18 != x21
  let x24 := x22 || x23
  let x25 := !x24
  let x26 := p44 x8 x9 x2 x3
  let x27 := r44_0 x8 x9 x2 x3
  let x29 := iland .u64 x27 x13
  let x30 := p39 x8
  let x31 := r39_0 x8 x27
  let x32 := bif x31 then 0 else x29
  let x33 := p50 x8 x9 x2 x3 x32
  [ow [] x4, ow [(x7, true)] x12, ow [(x7, true)] x16, ow [(x7, true)] x19, ow [(x7, true), (x25, true)] x26, ow [(x7, true), (x25, true)] x30, ow [(x7, true), (x25, true)] x33].all id
noncomputable def r15_0 (x0 : Int) (x1 : Int) (x2 : Int) (x3 : Int) : Bool :=
  let x5 := r43_0 
  let x6 := !x5
  let x7 := !x6
  let x8 := r52_0 x0
  let x9 := r53_0 x1
  let x10 := IntKind.wrap .i64 (8 * x8)
  let x11 := IntKind.wrap .i64 (x10 - 1)
  let x13 := ishl .u64 1 x11
  let x14 := x8 == 8
  let x15 : Int := bif x14 then 4607182418800017408 else 1065353216
  let x17 := r50_0 x8 x9 x2 x15 x3
  let x18 := r50_1 x8 x9 x2 x15 x3
  let x20 := r54_0 x8 x9 x2 x3
  let x21 := r54_1 x8 x9 x2 x3
  let x22 := x17 != x20
  let x23 := x18 != x21
  let x24 := x22 || x23
  let x25 := !x24
  let x27 := r44_0 x8 x9 x2 x3
  let x28 := r44_1 x8 x9 x2 x3
  let x29 := iland .u64 x27 x13
  let x31 := r39_0 x8 x27
  let x32 := bif x31 then 0 else x29
  let x34 := r50_0 x8 x9 x2 x3 x32
  let x35 := r50_1 x8 x9 x2 x3 x32
  let x36 := x34 == x27
  let x37 := x35 == x28
  let x38 := x36 && x37
  let x39 := x25 && x38
  let x40 := x7 && x39
  x40
noncomputable def g15 (ds : List DV) : List DV := [.b (p15 (dget ds 0).toI (dget ds 1).toI (dget ds 2).toI (dget ds 3).toI), .b (r15_0 (dget ds 0).toI (dget ds 1).toI (dget ds 2).toI (dget ds 3).toI)]
def S15 : Sigs := ⟨[(43, s43), (52, s52), (53, s53), (50, s50), (54, s54), (44, s44), (39, s39)], [], [], 0⟩

def s18 : Sig := ⟨[.s (.one (.i .i64 (.h 0))), .s (.one (.i .i64 (.h 1))), .s (.one (.i .u64 (.h 2))), .s (.one (.i .u64 (.h 3)))], [], [.i, .i, .i, .i], .s (.one (.b (.h 0))), [], [.b], true⟩
def o18 : Out := ⟨List.append (List.append (List.append (List.append (List.append (List.append (List.append (List.append (List.append (List.append (List.append (List.append ([(4, .call 43 [] 0), (5, .call 43 [] 1), (6, .not (.r 5)), (7, .not (.r 6)), (8, .call 52 [.r 0] 0), (9, .call 53 [.r 1] 0), (10, .mul .i64 (.z 8) (.r 8)), (11, .sub .i64 (.r 10) (.z 1)), (12, .geq (.r 11) (.z 0)), (13, .shl .u64 (.z 1) (.r 11)), (14, .call 42 [.r 8, .r 2] 0), (15, .call 42 [.r 8, .r 3] 0), (16, .call 39 [.r 8, .r 14] 0), (17, .call 39 [.r 8, .r 14] 1), (18, .call 39 [.r 8, .r 15] 0), (19, .call 39 [.r 8, .r 15] 1), (20, .or (.r 17) (.r 19)), (21, .call 56 [.r 8, .r 14] 0), (22, .call 56 [.r 8, .r 14] 1), (23, .or (.r 20) (.r 22)), (24, .call 56 [.r 8, .r 15] 0), (25, .call 56 [.r 8, .r 15] 1), (26, .or (.r 23) (.r 25)), (27, .not (.r 26))]) (callsAt 28 54 [.r 8, .r 9, .r 14, .r 15] 0 3)) ([(31, .eql (.r 30) (.z 0)), (32, .call 61 [.r 8, .r 14] 0), (33, .call 61 [.r 8, .r 14] 1), (34, .not (.r 33)), (35, .and (.r 31) (.r 34))])) (callsAt 36 59 [.r 8, .r 9, .r 29, .r 15] 0 3)) ([(39, .neq (.r 38) (.z 0)), (40, .neq (.r 37) (.r 14)), (41, .or (.r 39) (.r 40)), (42, .not (.r 41)), (43, .iteb (.r 35) (.r 42) (.t true))])) (callsAt 44 44 [.r 8, .r 9, .r 14, .r 14] 0 3)) ([(47, .eql (.r 46) (.z 0))])) (callsAt 48 48 [.r 8, .r 9, .r 45] 0 3)) ([(51, .neq (.r 50) (.z 0)), (52, .landNot .u64 (.r 14) (.r 13)), (53, .neq (.r 49) (.r 52)), (54, .call 61 [.r 8, .r 14] 0), (55, .call 61 [.r 8, .r 14] 1), (56, .not (.r 55)), (57, .and (.r 53) (.r 56)), (58, .or (.r 51) (.r 57)), (59, .call 61 [.r 8, .r 14] 0), (60, .call 61 [.r 8, .r 14] 1), (61, .neq (.r 49) (.z 0)), (62, .and (.r 60) (.r 61)), (63, .or (.r 58) (.r 62)), (64, .not (.r 63)), (65, .iteb (.r 47) (.r 64) (.t true))])) (callsAt 66 46 [.r 8, .r 9, .r 14, .r 15] 0 3)) ([(69, .eql (.r 68) (.z 0))])) (callsAt 70 44 [.r 8, .r 9, .r 67, .r 15] 0 3)) ([(73, .eql (.r 72) (.z 0)), (74, .eql (.r 71) (.r 14)), (75, .call 61 [.r 8, .r 14] 0), (76, .call 61 [.r 8, .r 14] 1), (77, .call 61 [.r 8, .r 71] 0), (78, .call 61 [.r 8, .r 71] 1), (79, .and (.r 76) (.r 78)), (80, .or (.r 74) (.r 79)), (81, .and (.r 73) (.r 80)), (82, .not (.r 69)), (83, .or (.r 82) (.r 81)), (84, .and (.r 65) (.r 83)), (85, .and (.r 43) (.r 84)), (86, .iteb (.r 27) (.r 85) (.t true)), (87, .and (.r 7) (.r 86))]),
  [⟨[], .r 4⟩, ⟨[(.r 7, true)], .r 12⟩, ⟨[(.r 7, true)], .r 16⟩, ⟨[(.r 7, true), (.r 17, false)], .r 18⟩, ⟨[(.r 7, true), (.r 20, false)], .r 21⟩, ⟨[(.r 7, true), (.r 23, false)], .r 24⟩, ⟨[(.r 7, true), (.r 27, true)], .r 28⟩, ⟨[(.r 7, true), (.r 27, true), (.r 31, true)], .r 32⟩, ⟨[(.r 7, true), (.r 27, true), (.r 35, true)], .r 36⟩, ⟨[(.r 7, true), (.r 27, true), (.r 43, true)], .r 44⟩, ⟨[(.r 7, true), (.r 27, true), (.r 43, true), (.r 47, true)], .r 48⟩, ⟨[(.r 7, true), (.r 27, true), (.r 43, true), (.r 47, true), (.r 53, true), (.r 51, false)], .r 54⟩, ⟨[(.r 7, true), (.r 27, true), (.r 43, true), (.r 47, true), (.r 58, false)], .r 59⟩, ⟨[(.r 7, true), (.r 27, true), (.r 43, true), (.r 65, true)], .r 66⟩, ⟨[(.r 7, true), (.r 27, true), (.r 43, true), (.r 65, true), (.r 69, true)], .r 70⟩, ⟨[(.r 7, true), (.r 27, true), (.r 43, true), (.r 65, true), (.r 69, true), (.r 74, false), (.r 73, true)], .r 75⟩, ⟨[(.r 7, true), (.r 27, true), (.r 43, true), (.r 65, true), (.r 69, true), (.r 76, true), (.r 74, false), (.r 73, true)], .r 77⟩],
  [],
  [.r 87]⟩
noncomputable def p18 (x0 : Int) (x1 : Int) (x2 : Int) (x3 : Int) : Bool :=
  let x4 := p43 
  let x5 := r43_0 
  let x6 := !x5
  let x7 := !x6
  let x8 := r52_0 x0
  let x9 := r53_0 x1
  let x10 := IntKind.wrap .i64 (8 * x8)
  let x11 := IntKind.wrap .i64 (x10 - 1)
  let x12 := decide (x11 ≥ 0)
  let x13 := ishl .u64 1 x11
  let x14 := r42_0 x8 x2
  let x15 := r42_0 x8 x3
  let x16 := p39 x8
  let x17 := r39_0 x8 x14
  let x18 := p39 x8
  let x19 := r39_0 x8 x15
  let x20 := x17 || x19
  let x21 := p56 x8
  let x22 := r56_0 x8 x14
  let x23 := x20 || x22
  let x24 := p56 x8
  let x25 := r56_0 x8 x15
  let x26 := x23 || x25
  let x27 := !x26
  let x28 := p54 x8 x9 x14 x15
  let x29 := r54_0 x8 x9 x14 x15
  let x30 := r54_1 x8 x9 x14 x15
  let x31 := x30 == 0
  let x32 := p61 x8
  let x33 := r61_0 x8 x14
  let x34 := !x33
  let x35 := x31 && x34
  let x36 := p59 x8 x9 x29 x15
  let x37 := r59_0 x8 x9 x29 x15
  let x38 := r59_1 x8 x9 x29 x15
  let x39 := x38 != 0
  let x40 := x37 != x14
  let x41 := x39 || x40
  let x42 := !x41
  let x43 := bif x35 then x42 else true
  let x44 := p44 x8 x9 x14 x14
  let x45 := r44_0 x8 x9 x14 x14
  let x46 := r44_1 x8 x9 x14 x14
  let x47 := x46 == 0
  let x48 := p48 x8 x9 x45
  let x49 := r48_0 x8 x9 x45
  let x50 := r48_1 x8 x9 x45
  let x51 := x50 != 0
  let x52 := ilandNot .u64 x14 x13
  let x53 := x49 != x52
  let x54 := p61 x8
  let x55 := r61_0 x8 x14
  let x56 := !x55
  let x57 := x53 && x56
  let x58 := x51 || x57
  let x59 := p61 x8
  let x60 := r61_0 x8 x14
  let x61 := x49 != 0
  let x62 := x60 && x61
  let x63 := x58 || x62
  let x64 := !x63
  let x65 := bif x47 then x64 else true
  let x66 := p46 x8 x9 x14 x15
  let x67 := r46_0 x8 x9 x14 x15
  let x68 := r46_1 x8 x9 x14 x15
  let x69 := x68 == 0
  let x70 := p44 x8 x9 x67 x15
  let x71 := r44_0 x8 x9 x67 x15
  let x72 := r44_1 x8 x9 x67 x15
  let x73 := x72 == 0
  let x74 := x71 == x14
  let x75 := p61 x8
  let x76 := r61_0 x8 x14
  let x77 := p61 x8
  [ow [] x4, ow [(x7, true)] x12, ow [(x7, true)] x16, ow [(x7, true), (x17, false)] x18, ow [(x7, true), (x20, false)] x21, ow [(x7, true), (x23, false)] x24, ow [(x7, true), (x27, true)] x28, ow [(x7, true), (x27, true), (x31, true)] x32, ow [(x7, true), (x27, true), (x35, true)] x36, ow [(x7, true), (x27, true), (x43, true)] x44, ow [(x7, true), (x27, true), (x43, true), (x47, true)] x48, ow [(x7, true), (x27, true), (x43, true), (x47, true), (x53, true), (x51, false)] x54, ow [(x7, true), (x27, true), (x43, true), (x47, true), (x58, false)] x59, ow [(x7, true), (x27, true), (x43, true), (x65, true)] x66, ow [(x7, true), (x27, true), (x43, true), (x65, true), (x69, true)] x70, ow [(x7, true), (x27, true), (x43, true), (x65, true), (x69, true), (x74, false), (x73, true)] x75, ow [(x7, true), (x27, true), (x43, true), (x65, true), (x69, true), (x76, true), (x74, false), (x73, true)] x77].all id
noncomputable def r18_0 (x0 : Int) (x1 : Int) (x2 : Int) (x3 : Int) : Bool :=
  let x5 := r43_0 
  let x6 := !x5
  let x7 := !x6
  let x8 := r52_0 x0
  let x9 := r53_0 x1
  let x10 := IntKind.wrap .i64 (8 * x8)
  let x11 := IntKind.wrap .i64 (x10 - 1)
  let x13 := ishl .u64 1 x11
  let x14 := r42_0 x8 x2
  let x15 := r42_0 x8 x3
  let x17 := r39_0 x8 x14
  let x19 := r39_0 x8 x15
  let x20 := x17 || x19
  let x22 := r56_0 x8 x14
  let x23 := x20 || x22
  let x25 := r56_0 x8 x15
  let x26 := x23 || x25
  let x27 := !x26
  let x29 := r54_0 x8 x9 x14 x15
  let x30 := r54_1 x8 x9 x14 x15
  let x31 := x30 == 0
  let x33 := r61_0 x8 x14
  let x34 := !x33
  let x35 := x31 && x34
  let x37 := r59_0 x8 x9 x29 x15
  let x38 := r59_1 x8 x9 x29 x15
  let x39 := x38 != 0
  let x40 := x37 != x14
  let x41 := x39 || x40
  let x42 := !x41
  let x43 := bif x35 then x42 else true
  let x45 := r44_0 x8 x9 x14 x14
  let x46 := r44_1 x8 x9 x14 x14
  let x47 := x46 == 0
  let x49 := r48_0 x8 x9 x45
  let x50 := r48_1 x8 x9 x45
  let x51 := x50 != 0
  let x52 := ilandNot .u64 x14 x13
  let x53 := x49 != x52
  let x55 := r61_0 x8 x14
  let x56 := !x55
  let x57 := x53 && x56
  let x58 := x51 || x57
  let x60 := r61_0 x8 x14
  let x61 := x49 != 0
  let x62 := x60 && x61
  let x63 := x58 || x62
  let x64 := !x63
  let x65 := bif x47 then x64 else true
  let x67 := r46_0 x8 x9 x14 x15
  let x68 := r46_1 x8 x9 x14 x15
  let x69 := x68 == 0
  let x71 := r44_0 x8 x9 x67 x15
  let x72 := r44_1 x8 x9 x67 x15
  let x73 := x72 == 0
  let x74 := x71 == x14
  let x76 := r61_0 x8 x14
  let x78 := r61_0 x8 x71
  let x79 := x76 && x78
  let x80 := x74 || x79
  let x81 := x73 && x80
  let x82 := !x69
  let x83 := x82 || x81
  let x84 := x65 && x83
  let x85 := x43 && x84
  let x86 := bif x27 then x85 else true
  let x87 := x7 && x86
  x87
noncomputable def g18 (ds : List DV) : List DV := [.b (p18 (dget ds 0).toI (dget ds 1).toI (dget ds 2).toI (dget ds 3).toI), .b (r18_0 (dget ds 0).toI (dget ds 1).toI (dget ds 2).toI (dget ds 3).toI)]
def S18 : Sigs := ⟨[(43, s43), (52, s52), (53, s53), (42, s42), (39, s39), (56, s56), (54, s54), (61, s61), (59, s59), (44, s44), (48, s48), (46, s46)], [], [], 0⟩

end Go.Proofs.Ytacciadcmiiimaa

namespace Go.Proofs.Ytacciadcmiiimaa
open Go Go.Sx
set_option maxRecDepth 100000
set_option maxHeartbeats 4000000

def s14 : Sig := ⟨[.s (.one (.i .i64 (.h 0))), .s (.one (.i .i64 (.h 1))), .s (.one (.i .u64 (.h 2))), .s (.one (.i .u64 (.h 3))), .s (.one (.i .u64 (.h 4)))], [], [.i, .i, .i, .i, .i], .s (.one (.b (.h 0))), [], [.b], true⟩
def o14 : Out := ⟨List.append (List.append (List.append (List.append (List.append (List.append (List.append (List.append (List.append (List.append (List.append (List.append (List.append (List.append (List.append (List.append (List.append (List.append (List.append (List.append (List.append (List.append (List.append (List.append (List.append (List.append (List.append (List.append (List.append (List.append (List.append (List.append (List.append (List.append (List.append (List.append (List.append (List.append (List.append (List.append (List.append (List.append (List.append (List.append (List.append ([(5, .call 43 [] 0), (6, .call 43 [] 1), (7, .not (.r 6)), (8, .not (.r 7)), (9, .call 52 [.r 0] 0), (10, .call 53 [.r 1] 0), (11, .eql (.r 10) (.z 0))]) (callsAt 12 54 [.r 9, .z 0, .r 2, .r 3] 0 3)) ([(15, .eql (.r 10) (.z 1))])) (callsAt 16 44 [.r 9, .z 0, .r 2, .r 3] 0 3)) ([(19, .eql (.r 10) (.z 2))])) (callsAt 20 46 [.r 9, .z 0, .r 2, .r 3] 0 3)) ([(23, .eql (.r 10) (.z 3))])) (callsAt 24 48 [.r 9, .z 0, .r 2] 0 3)) (callsAt 27 50 [.r 9, .z 0, .r 2, .r 3, .r 4] 0 3)) ([(30, .itei (.r 23) (.r 25) (.r 28)), (31, .itei (.r 23) (.r 26) (.r 29)), (32, .itei (.r 19) (.r 21) (.r 30)), (33, .itei (.r 19) (.r 22) (.r 31)), (34, .itei (.r 15) (.r 17) (.r 32)), (35, .itei (.r 15) (.r 18) (.r 33)), (36, .itei (.r 11) (.r 13) (.r 34)), (37, .itei (.r 11) (.r 14) (.r 35)), (38, .call 53 [.r 1] 0), (39, .eql (.r 38) (.z 0))])) (callsAt 40 54 [.r 9, .z 1, .r 2, .r 3] 0 3)) ([(43, .eql (.r 38) (.z 1))])) (callsAt 44 44 [.r 9, .z 1, .r 2, .r 3] 0 3)) ([(47, .eql (.r 38) (.z 2))])) (callsAt 48 46 [.r 9, .z 1, .r 2, .r 3] 0 3)) ([(51, .eql (.r 38) (.z 3))])) (callsAt 52 48 [.r 9, .z 1, .r 2] 0 3)) (callsAt 55 50 [.r 9, .z 1, .r 2, .r 3, .r 4] 0 3)) ([(58, .itei (.r 51) (.r 53) (.r 56)), (59, .itei (.r 51) (.r 54) (.r 57)), (60, .itei (.r 47) (.r 49) (.r 58)), (61, .itei (.r 47) (.r 50) (.r 59)), (62, .itei (.r 43) (.r 45) (.r 60)), (63, .itei (.r 43) (.r 46) (.r 61)), (64, .itei (.r 39) (.r 41) (.r 62)), (65, .itei (.r 39) (.r 42) (.r 63)), (66, .call 53 [.r 1] 0), (67, .eql (.r 66) (.z 0))])) (callsAt 68 54 [.r 9, .z 2, .r 2, .r 3] 0 3)) ([(71, .eql (.r 66) (.z 1))])) (callsAt 72 44 [.r 9, .z 2, .r 2, .r 3] 0 3)) ([(75, .eql (.r 66) (.z 2))])) (callsAt 76 46 [.r 9, .z 2, .r 2, .r 3] 0 3)) ([(79, .eql (.r 66) (.z 3))])) (callsAt 80 48 [.r 9, .z 2, .r 2] 0 3)) (callsAt 83 50 [.r 9, .z 2, .r 2, .r 3, .r 4] 0 3)) ([(86, .itei (.r 79) (.r 81) (.r 84)), (87, .itei (.r 79) (.r 82) (.r 85)), (88, .itei (.r 75) (.r 77) (.r 86)), (89, .itei (.r 75) (.r 78) (.r 87)), (90, .itei (.r 71) (.r 73) (.r 88)), (91, .itei (.r 71) (.r 74) (.r 89)), (92, .itei (.r 67) (.r 69) (.r 90)), (93, .itei (.r 67) (.r 70) (.r 91)), (94, .call 53 [.r 1] 0), (95, .eql (.r 94) (.z 0))])) (callsAt 96 54 [.r 9, .z 3, .r 2, .r 3] 0 3)) ([(99, .eql (.r 94) (.z 1))])) (callsAt 100 44 [.r 9, .z 3, .r 2, .r 3] 0 3)) ([(103, .eql (.r 94) (.z 2))])) (callsAt 104 46 [.r 9, .z 3, .r 2, .r 3] 0 3)) ([(107, .eql (.r 94) (.z 3))])) (callsAt 108 48 [.r 9, .z 3, .r 2] 0 3)) (callsAt 111 50 [.r 9, .z 3, .r 2, .r 3, .r 4] 0 3)) ([(114, .itei (.r 107) (.r 109) (.r 112)), (115, .itei (.r 107) (.r 110) (.r 113)), (116, .itei (.r 103) (.r 105) (.r 114)), (117, .itei (.r 103) (.r 106) (.r 115)), (118, .itei (.r 99) (.r 101) (.r 116)), (119, .itei (.r 99) (.r 102) (.r 117)), (120, .itei (.r 95) (.r 97) (.r 118)), (121, .itei (.r 95) (.r 98) (.r 119)), (122, .call 53 [.r 1] 0), (123, .eql (.r 122) (.z 0))])) (callsAt 124 54 [.r 9, .z 4, .r 2, .r 3] 0 3)) ([(127, .eql (.r 122) (.z 1))])) (callsAt 128 44 [.r 9, .z 4, .r 2, .r 3] 0 3)) ([(131, .eql (.r 122) (.z 2))])) (callsAt 132 46 [.r 9, .z 4, .r 2, .r 3] 0 3)) ([(135, .eql (.r 122) (.z 3))])) (callsAt 136 48 [.r 9, .z 4, .r 2] 0 3)) (callsAt 139 50 [.r 9, .z 4, .r 2, .r 3, .r 4] 0 3)) ([(142, .itei (.r 135) (.r 137) (.r 140)), (143, .itei (.r 135) (.r 138) (.r 141)), (144, .itei (.r 131) (.r 133) (.r 142)), (145, .itei (.r 131) (.r 134) (.r 143)), (146, .itei (.r 127) (.r 129) (.r 144)), (147, .itei (.r 127) (.r 130) (.r 145)), (148, .itei (.r 123) (.r 125) (.r 146)), (149, .itei (.r 123) (.r 126) (.r 147)), (150, .call 39 [.r 9, .r 36] 0), (151, .call 39 [.r 9, .r 36] 1), (152, .eql (.r 64) (.r 36)), (153, .eql (.r 92) (.r 36)), (154, .and (.r 152) (.r 153)), (155, .eql (.r 120) (.r 36)), (156, .and (.r 154) (.r 155)), (157, .eql (.r 148) (.r 36)), (158, .and (.r 156) (.r 157)), (159, .eql (.r 65) (.r 37)), (160, .and (.r 158) (.r 159)), (161, .eql (.r 93) (.r 37)), (162, .and (.r 160) (.r 161)), (163, .eql (.r 121) (.r 37)), (164, .and (.r 162) (.r 163)), (165, .eql (.r 149) (.r 37)), (166, .and (.r 164) (.r 165)), (167, .not (.r 151)), (168, .land .i64 (.r 37) (.z 1)), (169, .land .i64 (.r 37) (.z 1)), (170, .neq (.r 168) (.r 169)), (171, .call 39 [.r 9, .r 36] 0), (172, .call 39 [.r 9, .r 36] 1), (173, .or (.r 170) (.r 172)), (174, .not (.r 173)), (175, .call 55 [.r 9, .r 36] 0), (176, .call 55 [.r 9, .r 36] 1), (177, .land .i64 (.r 65) (.z 1)), (178, .land .i64 (.r 37) (.z 1)), (179, .neq (.r 177) (.r 178)), (180, .call 39 [.r 9, .r 64] 0), (181, .call 39 [.r 9, .r 64] 1), (182, .or (.r 179) (.r 181)), (183, .not (.r 182)), (184, .call 55 [.r 9, .r 64] 0), (185, .call 55 [.r 9, .r 64] 1), (186, .land .i64 (.r 93) (.z 1)), (187, .land .i64 (.r 37) (.z 1)), (188, .neq (.r 186) (.r 187)), (189, .call 39 [.r 9, .r 92] 0), (190, .call 39 [.r 9, .r 92] 1), (191, .or (.r 188) (.r 190)), (192, .not (.r 191)), (193, .call 55 [.r 9, .r 92] 0), (194, .call 55 [.r 9, .r 92] 1), (195, .land .i64 (.r 121) (.z 1)), (196, .land .i64 (.r 37) (.z 1)), (197, .neq (.r 195) (.r 196)), (198, .call 39 [.r 9, .r 120] 0), (199, .call 39 [.r 9, .r 120] 1), (200, .or (.r 197) (.r 199)), (201, .not (.r 200)), (202, .call 55 [.r 9, .r 120] 0), (203, .call 55 [.r 9, .r 120] 1), (204, .land .i64 (.r 149) (.z 1)), (205, .land .i64 (.r 37) (.z 1)), (206, .neq (.r 204) (.r 205)), (207, .call 39 [.r 9, .r 148] 0), (208, .call 39 [.r 9, .r 148] 1), (209, .or (.r 206) (.r 208)), (210, .not (.r 209)), (211, .call 55 [.r 9, .r 148] 0), (212, .call 55 [.r 9, .r 148] 1), (213, .and (.r 201) (.r 210)), (214, .and (.r 192) (.r 213)), (215, .and (.r 183) (.r 214)), (216, .and (.r 174) (.r 215)), (217, .land .i64 (.r 37) (.z 1)), (218, .eql (.r 217) (.z 0)), (219, .eql (.r 185) (.r 176)), (220, .eql (.r 194) (.r 176)), (221, .and (.r 219) (.r 220)), (222, .eql (.r 203) (.r 176)), (223, .and (.r 221) (.r 222)), (224, .eql (.r 212) (.r 176)), (225, .and (.r 223) (.r 224)), (226, .not (.r 218)), (227, .lss (.r 194) (.z 0)), (228, .leq (.r 203) (.z 0)), (229, .or (.r 227) (.r 228)), (230, .itei (.r 229) (.r 203) (.r 194)), (231, .geq (.r 194) (.z 0)), (232, .itei (.r 231) (.r 194) (.r 230)), (233, .add .i64 (.r 194) (.z 1)), (234, .eql (.r 203) (.r 233)), (235, .eql (.r 176) (.r 194)), (236, .eql (.r 176) (.r 203)), (237, .or (.r 235) (.r 236)), (238, .and (.r 234) (.r 237)), (239, .eql (.r 212) (.r 194)), (240, .eql (.r 212) (.r 203)), (241, .or (.r 239) (.r 240)), (242, .and (.r 238) (.r 241)), (243, .eql (.r 185) (.r 232)), (244, .and (.r 242) (.r 243)), (245, .iteb (.r 226) (.r 244) (.r 225)), (246, .and (.r 216) (.r 245)), (247, .iteb (.r 167) (.r 246) (.r 166)), (248, .and (.r 8) (.r 247))]),
  [⟨[], .r 5⟩, ⟨[(.r 8, true), (.r 11, true)], .r 12⟩, ⟨[(.r 8, true), (.r 11, false), (.r 15, true)], .r 16⟩, ⟨[(.r 8, true), (.r 11, false), (.r 15, false), (.r 19, true)], .r 20⟩, ⟨[(.r 8, true), (.r 11, false), (.r 15, false), (.r 19, false), (.r 23, true)], .r 24⟩, ⟨[(.r 8, true), (.r 11, false), (.r 15, false), (.r 19, false), (.r 23, false)], .r 27⟩, ⟨[(.r 8, true), (.r 39, true)], .r 40⟩, ⟨[(.r 8, true), (.r 39, false), (.r 43, true)], .r 44⟩, ⟨[(.r 8, true), (.r 39, false), (.r 43, false), (.r 47, true)], .r 48⟩, ⟨[(.r 8, true), (.r 39, false), (.r 43, false), (.r 47, false), (.r 51, true)], .r 52⟩, ⟨[(.r 8, true), (.r 39, false), (.r 43, false), (.r 47, false), (.r 51, false)], .r 55⟩, ⟨[(.r 8, true), (.r 67, true)], .r 68⟩, ⟨[(.r 8, true), (.r 67, false), (.r 71, true)], .r 72⟩, ⟨[(.r 8, true), (.r 67, false), (.r 71, false), (.r 75, true)], .r 76⟩, ⟨[(.r 8, true), (.r 67, false), (.r 71, false), (.r 75, false), (.r 79, true)], .r 80⟩, ⟨[(.r 8, true), (.r 67, false), (.r 71, false), (.r 75, false), (.r 79, false)], .r 83⟩, ⟨[(.r 8, true), (.r 95, true)], .r 96⟩, ⟨[(.r 8, true), (.r 95, false), (.r 99, true)], .r 100⟩, ⟨[(.r 8, true), (.r 95, false), (.r 99, false), (.r 103, true)], .r 104⟩, ⟨[(.r 8, true), (.r 95, false), (.r 99, false), (.r 103, false), (.r 107, true)], .r 108⟩, ⟨[(.r 8, true), (.r 95, false), (.r 99, false), (.r 103, false), (.r 107, false)], .r 111⟩, ⟨[(.r 8, true), (.r 123, true)], .r 124⟩, ⟨[(.r 8, true), (.r 123, false), (.r 127, true)], .r 128⟩, ⟨[(.r 8, true), (.r 123, false), (.r 127, false), (.r 131, true)], .r 132⟩, ⟨[(.r 8, true), (.r 123, false), (.r 127, false), (.r 131, false), (.r 135, true)], .r 136⟩, ⟨[(.r 8, true), (.r 123, false), (.r 127, false), (.r 131, false), (.r 135, false)], .r 139⟩, ⟨[(.r 8, true)], .r 150⟩, ⟨[(.r 8, true), (.r 167, true), (.r 170, false)], .r 171⟩, ⟨[(.r 8, true), (.r 167, true), (.r 174, true)], .r 175⟩, ⟨[(.r 8, true), (.r 167, true), (.r 174, true), (.r 179, false)], .r 180⟩, ⟨[(.r 8, true), (.r 167, true), (.r 174, true), (.r 183, true)], .r 184⟩, ⟨[(.r 8, true), (.r 167, true), (.r 174, true), (.r 183, true), (.r 188, false)], .r 189⟩, ⟨[(.r 8, true), (.r 167, true), (.r 174, true), (.r 183, true), (.r 192, true)], .r 193⟩, ⟨[(.r 8, true), (.r 167, true), (.r 174, true), (.r 183, true), (.r 192, true), (.r 197, false)], .r 198⟩, ⟨[(.r 8, true), (.r 167, true), (.r 174, true), (.r 183, true), (.r 192, true), (.r 201, true)], .r 202⟩, ⟨[(.r 8, true), (.r 167, true), (.r 174, true), (.r 183, true), (.r 192, true), (.r 201, true), (.r 206, false)], .r 207⟩, ⟨[(.r 8, true), (.r 167, true), (.r 174, true), (.r 183, true), (.r 192, true), (.r 201, true), (.r 210, true)], .r 211⟩],
  [],
  [.r 248]⟩
noncomputable def p14 (x0 : Int) (x1 : Int) (x2 : Int) (x3 : Int) (x4 : Int) : Bool :=
  let x5 := p43 
  let x6 := r43_0 
  let x7 := !x6
  let x8 := !x7
  let x9 := r52_0 x0
  let x10 := r53_0 x1
  let x11 := x10 == 0
  let x12 := p54 x9 0 x2 x3
  let x13 := r54_0 x9 0 x2 x3
  let x14 := r54_1 x9 0 x2 x3
  let x15 := x10 == 1
  let x16 := p44 x9 0 x2 x3
  let x17 := r44_0 x9 0 x2 x3
  let x18 := r44_1 x9 0 x2 x3
  let x19 := x10 == 2
  let x20 := p46 x9 0 x2 x3
  let x21 := r46_0 x9 0 x2 x3
  let x22 := r46_1 x9 0 x2 x3
  let x23 := x10 == 3
  let x24 := p48 x9 0 x2
  let x25 := r48_0 x9 0 x2
  let x26 := r48_1 x9 0 x2
  let x27 := p50 x9 0 x2 x3 x4
  let x28 := r50_0 x9 0 x2 x3 x4
  let x29 := r50_1 x9 0 x2 x3 x4
  let x30 := bif x23 then x25 else x28
  let x31 := bif x23 then x26 else x29
  let x32 := bif x19 then x21 else x30
  let x33 := bif x19 then x22 else x31
  let x34 := bif x15 then x17 else x32
  let x35 := bif x15 then x18 else x33
  let x36 := bif x11 then x13 else x34
  let x37 := bif x11 then x14 else x35
  let x38 := r53_0 x1
  let x39 := x38 == 0
  let x40 := p54 x9 1 x2 x3
  let x41 := r54_0 x9 1 x2 x3
  let x42 := r54_1 x9 1 x2 x3
  let x43 := x38 == 1
  let x44 := p44 x9 1 x2 x3
  let x45 := r44_0 x9 1 x2 x3
  let x46 := r44_1 x9 1 x2 x3
  let x47 := x38 == 2
  let x48 := p46 x9 1 x2 x3
  let x49 := r46_0 x9 1 x2 x3
  let x50 := r46_1 x9 1 x2 x3
  let x51 := x38 == 3
  let x52 := p48 x9 1 x2
  let x53 := r48_0 x9 1 x2
  let x54 := r48_1 x9 1 x2
  let x55 := p50 x9 1 x2 x3 x4
  let x56 := r50_0 x9 1 x2 x3 x4
  let x57 := r50_1 x9 1 x2 x3 x4
  let x58 := bif x51 then x53 else x56
  let x59 := bif x51 then x54 else x57
  let x60 := bif x47 then x49 else x58
  let x61 := bif x47 then x50 else x59
  let x62 := bif x43 then x45 else x60
  let x63 := bif x43 then x46 else x61
  let x64 := bif x39 then x41 else x62
  let x65 := bif x39 then x42 else x63
  let x66 := r53_0 x1
  let x67 := x66 == 0
  let x68 := p54 x9 2 x2 x3
  let x69 := r54_0 x9 2 x2 x3
  let x70 := r54_1 x9 2 x2 x3
  let x71 := x66 == 1
  let x72 := p44 x9 2 x2 x3
  let x73 := r44_0 x9 2 x2 x3
  let x74 := r44_1 x9 2 x2 x3
  let x75 := x66 == 2
  let x76 := p46 x9 2 x2 x3
  let x77 := r46_0 x9 2 x2 x3
  let x78 := r46_1 x9 2 x2 x3
  let x79 := x66 == 3
  let x80 := p48 x9 2 x2
  let x81 := r48_0 x9 2 x2
  let x82 := r48_1 x9 2 x2
  let x83 := p50 x9 2 x2 x3 x4
  let x84 := r50_0 x9 2 x2 x3 x4
  let x85 := r50_1 x9 2 x2 x3 x4
  let x86 := bif x79 then x81 else x84
  let x87 := bif x79 then x82 else x85
  let x88 := bif x75 then x77 else x86
  let x89 := bif x75 then x78 else x87
  let x90 := bif x71 then x73 else x88
  let x91 := bif x71 then x74 else x89
  let x92 := bif x67 then x69 else x90
  let x93 := bif x67 then x70 else x91
  let x94 := r53_0 x1
  let x95 := x94 == 0
  let x96 := p54 x9 3 x2 x3
  let x97 := r54_0 x9 3 x2 x3
  let x98 := r54_1 x9 3 x2 x3
  let x99 := x94 == 1
  let x100 := p44 x9 3 x2 x3
  let x101 := r44_0 x9 3 x2 x3
  let x102 := r44_1 x9 3 x2 x3
  let x103 := x94 == 2
  let x104 := p46 x9 3 x2 x3
  let x105 := r46_0 x9 3 x2 x3
  let x106 := r46_1 x9 3 x2 x3
  let x107 := x94 == 3
  let x108 := p48 x9 3 x2
  let x109 := r48_0 x9 3 x2
  let x110 := r48_1 x9 3 x2
  let x111 := p50 x9 3 x2 x3 x4
  let x112 := r50_0 x9 3 x2 x3 x4
  let x113 := r50_1 x9 3 x2 x3 x4
  let x114 := bif x107 then x109 else x112
  let x115 := bif x107 then x110 else x113
  let x116 := bif x103 then x105 else x114
  let x117 := bif x103 then x106 else x115
  let x118 := bif x99 then x101 else x116
  let x119 := bif x99 then x102 else x117
  let x120 := bif x95 then x97 else x118
  let x121 := bif x95 then x98 else x119
  let x122 := r53_0 x1
  let x123 := x122 == 0
  let x124 := p54 x9 4 x2 x3
  let x125 := r54_0 x9 4 x2 x3
  let x126 := r54_1 x9 4 x2 x3
  let x127 := x122 == 1
  let x128 := p44 x9 4 x2 x3
  let x129 := r44_0 x9 4 x2 x3
  let x130 := r44_1 x9 4 x2 x3
  let x131 := x122 == 2
  let x132 := p46 x9 4 x2 x3
  let x133 := r46_0 x9 4 x2 x3
  let x134 := r46_1 x9 4 x2 x3
  let x135 := x122 == 3
  let x136 := p48 x9 4 x2
  let x137 := r48_0 x9 4 x2
  let x138 := r48_1 x9 4 x2
  let x139 := p50 x9 4 x2 x3 x4
  let x140 := r50_0 x9 4 x2 x3 x4
  let x141 := r50_1 x9 4 x2 x3 x4
  let x142 := bif x135 then x137 else x140
  let x143 := bif x135 then x138 else x141
  let x144 := bif x131 then x133 else x142
  let x145 := bif x131 then x134 else x143
  let x146 := bif x127 then x129 else x144
  let x147 := bif x127 then x130 else x145
  let x148 := bif x123 then x125 else x146
  let x149 := bif x123 then x126 else x147
  let x150 := p39 x9
  let x151 := r39_0 x9 x36
  let x167 := !x151
  let x168 := iland .i64 x37 1
  let x169 := iland .i64 x37 1
  let x170 := x168 != x169
  let x171 := p39 x9
  let x172 := r39_0 x9 x36
  let x173 := x170 || x172
  let x174 := !x173
  let x175 := p55 x9
  let x177 := iland .i64 x65 1
  let x178 := iland .i64 x37 1
  let x179 := x177 != x178
  let x180 := p39 x9
  let x181 := r39_0 x9 x64
  let x182 := x179 || x181
  let x183 := !x182
  let x184 := p55 x9
  let x186 := iland .i64 x93 1
  let x187 := iland .i64 x37 1
  let x188 := x186 != x187
  let x189 := p39 x9
  let x190 := r39_0 x9 x92
  let x191 := x188 || x190
  let x192 := !x191
  let x193 := p55 x9
  let x195 := iland .i64 x121 1
  let x196 := iland .i64 x37 1
  let x197 := x195 != x196
  let x198 := p39 x9
  let x199 := r39_0 x9 x120
  let x200 := x197 || x199
  let x201 := !x200
  let x202 := p55 x9
  let x204 := iland .i64 x149 1
  let x205 := iland .i64 x37 1
  let x206 := x204 != x205
  let x207 := p39 x9
  let x208 := r39_0 x9 x148
  let x209 := x206 || x208
  let x210 := !x209
  let x211 := p55 x9
  [ow [] x5, ow [(x8, true), (x11, true)] x12, ow [(x8, true), (x11, false), (x15, true)] x16, ow [(x8, true), (x11, false), (x15, false), (x19, true)] x20, ow [(x8, true), (x11, false), (x15, false), (x19, false), (x23, true)] x24, ow [(x8, true), (x11, false), (x15, false), (x19, false), (x23, false)] x27, ow [(x8, true), (x39, true)] x40, ow [(x8, true), (x39, false), (x43, true)] x44, ow [(x8, true), (x39, false), (x43, false), (x47, true)] x48, ow [(x8, true), (x39, false), (x43, false), (x47, false), (x51, true)] x52, ow [(x8, true), (x39, false), (x43, false), (x47, false), (x51, false)] x55, ow [(x8, true), (x67, true)] x68, ow [(x8, true), (x67, false), (x71, true)] x72, ow [(x8, true), (x67, false), (x71, false), (x75, true)] x76, ow [(x8, true), (x67, false), (x71, false), (x75, false), (x79, true)] x80, ow [(x8, true), (x67, false), (x71, false), (x75, false), (x79, false)] x83, ow [(x8, true), (x95, true)] x96, ow [(x8, true), (x95, false), (x99, true)] x100, ow [(x8, true), (x95, false), (x99, false), (x103, true)] x104, ow [(x8, true), (x95, false), (x99, false), (x103, false), (x107, true)] x108, ow [(x8, true), (x95, false), (x99, false), (x103, false), (x107, false)] x111, ow [(x8, true), (x123, true)] x124, ow [(x8, true), (x123, false), (x127, true)] x128, ow [(x8, true), (x123, false), (x127, false), (x131, true)] x132, ow [(x8, true), (x123, false), (x127, false), (x131, false), (x135, true)] x136, ow [(x8, true), (x123, false), (x127, false), (x131, false), (x135, false)] x139, ow [(x8, true)] x150, ow [(x8, true), (x167, true), (x170, false)] x171, ow [(x8, true), (x167, true), (x174, true)] x175, ow [(x8, true), (x167, true), (x174, true), (x179, false)] x180, ow [(x8, true), (x167, true), (x174, true), (x183, true)] x184, ow [(x8, true), (x167, true), (x174, true), (x183, true), (x188, false)] x189, ow [(x8, true), (x167, true), (x174, true), (x183, true), (x192, true)] x193, ow [(x8, true), (x167, true), (x174, true), (x183, true), (x192, true), (x197, false)] x198, ow [(x8, true), (x167, true), (x174, true), (x183, true), (x192, true), (x201, true)] x202, ow [(x8, true), (x167, true), (x174, true), (x183, true), (x192, true), (x201, true), (x206, false)] x207, ow [(x8, true), (x167, true), (x174, true), (x183, true), (x192, true), (x201, true), (x210, true)] x211].all id
noncomputable def r14_0 (x0 : Int) (x1 : Int) (x2 : Int) (x3 : Int) (x4 : Int) : Bool :=
  let x6 := r43_0 
  let x7 := !x6
  let x8 := !x7
  let x9 := r52_0 x0
  let x10 := r53_0 x1
  let x11 := x10 == 0
  let x13 := r54_0 x9 0 x2 x3
  let x14 := r54_1 x9 0 x2 x3
  let x15 := x10 == 1
  let x17 := r44_0 x9 0 x2 x3
  let x18 := r44_1 x9 0 x2 x3
  let x19 := x10 == 2
  let x21 := r46_0 x9 0 x2 x3
  let x22 := r46_1 x9 0 x2 x3
  let x23 := x10 == 3
  let x25 := r48_0 x9 0 x2
  let x26 := r48_1 x9 0 x2
  let x28 := r50_0 x9 0 x2 x3 x4
  let x29 := r50_1 x9 0 x2 x3 x4
  let x30 := bif x23 then x25 else x28
  let x31 := bif x23 then x26 else x29
  let x32 := bif x19 then x21 else x30
  let x33 := bif x19 then x22 else x31
  let x34 := bif x15 then x17 else x32
  let x35 := bif x15 then x18 else x33
  let x36 := bif x11 then x13 else x34
  let x37 := bif x11 then x14 else x35
  let x38 := r53_0 x1
  let x39 := x38 == 0
  let x41 := r54_0 x9 1 x2 x3
  let x42 := r54_1 x9 1 x2 x3
  let x43 := x38 == 1
  let x45 := r44_0 x9 1 x2 x3
  let x46 := r44_1 x9 1 x2 x3
  let x47 := x38 == 2
  let x49 := r46_0 x9 1 x2 x3
  let x50 := r46_1 x9 1 x2 x3
  let x51 := x38 == 3
  let x53 := r48_0 x9 1 x2
  let x54 := r48_1 x9 1 x2
  let x56 := r50_0 x9 1 x2 x3 x4
  let x57 := r50_1 x9 1 x2 x3 x4
  let x58 := bif x51 then x53 else x56
  let x59 := bif x51 then x54 else x57
  let x60 := bif x47 then x49 else x58
  let x61 := bif x47 then x50 else x59
  let x62 := bif x43 then x45 else x60
  let x63 := bif x43 then x46 else x61
  let x64 := bif x39 then x41 else x62
  let x65 := bif x39 then x42 else x63
  let x66 := r53_0 x1
  let x67 := x66 == 0
  let x69 := r54_0 x9 2 x2 x3
  let x70 := r54_1 x9 2 x2 x3
  let x71 := x66 == 1
  let x73 := r44_0 x9 2 x2 x3
  let x74 := r44_1 x9 2 x2 x3
  let x75 := x66 == 2
  let x77 := r46_0 x9 2 x2 x3
  let x78 := r46_1 x9 2 x2 x3
  let x79 := x66 == 3
  let x81 := r48_0 x9 2 x2
  let x82 := r48_1 x9 2 x2
  let x84 := r50_0 x9 2 x2 x3 x4
  let x85 := r50_1 x9 2 x2 x3 x4
  let x86 := bif x79 then x81 else x84
  let x87 := bif x79 then x82 else x85
  let x88 := bif x75 then x77 else x86
  let x89 := bif x75 then x78 else x87
  let x90 := bif x71 then x73 else x88
  let x91 := bif x71 then x74 else x89
  let x92 := bif x67 then x69 else x90
  let x93 := bif x67 then x70 else x91
  let x94 := r53_0 x1
  let x95 := x94 == 0
  let x97 := r54_0 x9 3 x2 x3
  let x98 := r54_1 x9 3 x2 x3
  let x99 := x94 == 1
  let x101 := r44_0 x9 3 x2 x3
  let x102 := r44_1 x9 3 x2 x3
  let x103 := x94 == 2
  let x105 := r46_0 x9 3 x2 x3
  let x106 := r46_1 x9 3 x2 x3
  let x107 := x94 == 3
  let x109 := r48_0 x9 3 x2
  let x110 := r48_1 x9 3 x2
  let x112 := r50_0 x9 3 x2 x3 x4
  let x113 := r50_1 x9 3 x2 x3 x4
  let x114 := bif x107 then x109 else x112
  let x115 := bif x107 then x110 else x113
  let x116 := bif x103 then x105 else x114
  let x117 := bif x103 then x106 else x115
  let x118 := bif x99 then x101 else x116
  let x119 := bif x99 then x102 else x117
  let x120 := bif x95 then x97 else x118
  let x121 := bif x95 then x98 else x119
  let x122 := r53_0 x1
  let x123 := x122 == 0
  let x125 := r54_0 x9 4 x2 x3
  let x126 := r54_1 x9 4 x2 x3
  let x127 := x122 == 1
  let x129 := r44_0 x9 4 x2 x3
  let x130 := r44_1 x9 4 x2 x3
  let x131 := x122 == 2
  let x133 := r46_0 x9 4 x2 x3
  let x134 := r46_1 x9 4 x2 x3
  let x135 := x122 == 3
  let x137 := r48_0 x9 4 x2
  let x138 := r48_1 x9 4 x2
  let x140 := r50_0 x9 4 x2 x3 x4
  let x141 := r50_1 x9 4 x2 x3 x4
  let x142 := bif x135 then x137 else x140
  let x143 := bif x135 then x138 else x141
  let x144 := bif x131 then x133 else x142
  let x145 := bif x131 then x134 else x143
  let x146 := bif x127 then x129 else x144
  let x147 := bif x127 then x130 else x145
  let x148 := bif x123 then x125 else x146
  let x149 := bif x123 then x126 else x147
  let x151 := r39_0 x9 x36
  let x152 := x64 == x36
  let x153 := x92 == x36
  let x154 := x152 && x153
  let x155 := x120 == x36
  let x156 := x154 && x155
  let x157 := x148 == x36
  let x158 := x156 && x157
  let x159 := x65 == x37
  let x160 := x158 && x159
  let x161 := x93 == x37
  let x162 := x160 && x161
  let x163 := x121 == x37
  let x164 := x162 && x163
  let x165 := x149 == x37
  let x166 := x164 && x165
  let x167 := !x151
  let x168 := iland .i64 x37 1
  let x169 := iland .i64 x37 1
  let x170 := x168 != x169
  let x172 := r39_0 x9 x36
  let x173 := x170 || x172
  let x174 := !x173
  let x176 := r55_0 x9 x36
  let x177 := iland .i64 x65 1
  let x178 := iland .i64 x37 1
  let x179 := x177 != x178
  let x181 := r39_0 x9 x64
  let x182 := x179 || x181
  let x183 := !x182
  let x185 := r55_0 x9 x64
  let x186 := iland .i64 x93 1
  let x187 := iland .i64 x37 1
  let x188 := x186 != x187
  let x190 := r39_0 x9 x92
  let x191 := x188 || x190
  let x192 := !x191
  let x194 := r55_0 x9 x92
  let x195 := iland .i64 x121 1
  let x196 := iland .i64 x37 1
  let x197 := x195 != x196
  let x199 := r39_0 x9 x120
  let x200 := x197 || x199
  let x201 := !x200
  let x203 := r55_0 x9 x120
  let x204 := iland .i64 x149 1
  let x205 := iland .i64 x37 1
  let x206 := x204 != x205
  let x208 := r39_0 x9 x148
  let x209 := x206 || x208
  let x210 := !x209
  let x212 := r55_0 x9 x148
  let x213 := x201 && x210
  let x214 := x192 && x213
  let x215 := x183 && x214
  let x216 := x174 && x215
  let x217 := iland .i64 x37 1
  let x218 := x217 == 0
  let x219 := x185 == x176
  let x220 := x194 == x176
  let x221 := x219 && x220
  let x222 := x203 == x176
  let x223 := x221 && x222
  let x224 := x212 == x176
  let x225 := x223 && x224
  let x226 := !x218
  let x227 := decide (x194 < 0)
  let x228 := decide (x203 ≤ 0)
  let x229 := x227 || x228
  let x230 := bif x229 then x203 else x194
  let x231 := decide (x194 ≥ 0)
  let x232 := bif x231 then x194 else x230
  let x233 := IntKind.wrap .i64 (x194 + 1)
  let x234 := x203 == x233
  let x235 := x176 == x194
  let x236 := x176 == x203
  let x237 := x235 || x236
  let x238 := x234 && x237
  let x239 := x212 == x194
  let x240 := x212 == x203
  let x241 := x239 || x240
  let x242 := x238 && x241
  let x243 := x185 == x232
  let x244 := x242 && x243
  let x245 := bif x226 then x244 else x225
  let x246 := x216 && x245
  let x247 := bif x167 then x246 else x166
  let x248 := x8 && x247
  x248
noncomputable def g14 (ds : List DV) : List DV := [.b (p14 (dget ds 0).toI (dget ds 1).toI (dget ds 2).toI (dget ds 3).toI (dget ds 4).toI), .b (r14_0 (dget ds 0).toI (dget ds 1).toI (dget ds 2).toI (dget ds 3).toI (dget ds 4).toI)]
def S14 : Sigs := ⟨[(43, s43), (52, s52), (53, s53), (54, s54), (44, s44), (46, s46), (48, s48), (50, s50), (39, s39), (55, s55)], [], [], 0⟩

end Go.Proofs.Ytacciadcmiiimaa

namespace Go.Proofs.Ytacciadcmiiimaa
open Go Go.Sx
set_option maxRecDepth 100000
set_option maxHeartbeats 4000000

end Go.Proofs.Ytacciadcmiiimaa

namespace Go.Rnd

def blen (n : Nat) : Nat := if n = 0 then 0 else n.log2 + 1
theorem blen_le {n k : Nat} : blen n ≤ k ↔ n < 2 ^ k := by
  unfold blen
  split
  · rename_i h; subst h; simp [Nat.two_pow_pos]
  · rename_i h; rw [← Nat.log2_lt h]; omega
theorem lt_blen {n k : Nat} : k < blen n ↔ 2 ^ k ≤ n := by
  rw [← Nat.not_le, blen_le, Nat.not_lt]
theorem blen_eq {n k : Nat} (h1 : 2 ^ k ≤ n) (h2 : n < 2 ^ (k + 1)) : blen n = k + 1 := by
  have a := lt_blen.2 h1; have b := blen_le.2 h2; omega
theorem blen_pos {n : Nat} (h : 0 < n) : 0 < blen n := lt_blen.2 (by rw [Nat.pow_zero]; exact h)
theorem blen_two_pow (k : Nat) : blen (2 ^ k) = k + 1 := blen_eq (Nat.le_refl _) (by rw [Nat.pow_succ]; have := Nat.two_pow_pos k; omega)
theorem blen_self {n : Nat} : n < 2 ^ blen n := blen_le.1 (Nat.le_refl _)
theorem blen_low {n : Nat} (h : 0 < n) : 2 ^ (blen n - 1) ≤ n := lt_blen.1 (by have := blen_pos h; omega)
theorem blen_shift {h j l : Nat} (hh : 0 < h) (hl : l < 2 ^ j) : blen (h * 2 ^ j + l) = blen h + j := by
  have h1 := blen_low hh
  have h2 := blen_self (n := h)
  have h0 := blen_pos hh
  have e : blen h + j = (blen h - 1 + j) + 1 := by omega
  rw [e]
  refine blen_eq ?_ ?_
  · rw [Nat.pow_add]
    exact Nat.le_trans (Nat.mul_le_mul_right _ h1) (Nat.le_add_right _ _)
  · have : (h + 1) * 2 ^ j ≤ 2 ^ blen h * 2 ^ j := Nat.mul_le_mul_right _ h2
    rw [← Nat.pow_add] at this
    have e2 : blen h - 1 + j + 1 = blen h + j := by omega
    rw [e2]
    rw [Nat.add_mul] at this
    omega

def upB (rm : Int) (minus odd half rest : Bool) : Bool :=
  if rm = 0 then half && (rest || odd) else if rm = 2 then minus && (half || rest) else if rm = 3 then !minus && (half || rest) else if rm = 4 then half else false

def cutP (rm : Int) (minus : Bool) (M n : Nat) (more : Bool) : Nat × Bool :=
  (M / 2 ^ n + (if upB rm minus (M / 2 ^ n % 2 == 1) (M / 2 ^ (n - 1) % 2 == 1) (M % 2 ^ (n - 1) != 0 || more) then 1 else 0), M % 2 ^ n == 0 && !more)
def cutN (rm : Int) (minus : Bool) (M : Nat) (b : Int) (more : Bool) : Nat × Bool :=
  if b ≤ 0 then (M * 2 ^ (-b).toNat, !more) else cutP rm minus M b.toNat more

theorem upB_none (rm : Int) (minus odd : Bool) : upB rm minus odd false false = false := by
  unfold upB; simp

theorem cutP_exact {rm : Int} {minus : Bool} {q n : Nat} (hn : 0 < n) : cutP rm minus (q * 2 ^ n) n false = (q, true) := by
  unfold cutP
  have h1 : q * 2 ^ n / 2 ^ n = q := Nat.mul_div_cancel _ (Nat.two_pow_pos n)
  have h2 : q * 2 ^ n % 2 ^ n = 0 := Nat.mul_mod_left _ _
  obtain ⟨m, rfl⟩ : ∃ m, n = m + 1 := ⟨n - 1, by omega⟩
  have h3 : q * 2 ^ (m + 1) / 2 ^ (m + 1 - 1) % 2 = 0 := by
    rw [Nat.add_sub_cancel, Nat.pow_succ, ← Nat.mul_assoc, Nat.mul_right_comm, Nat.mul_div_cancel _ (Nat.two_pow_pos m), Nat.mul_mod_left]
  have h4 : q * 2 ^ (m + 1) % 2 ^ (m + 1 - 1) = 0 := by
    rw [Nat.add_sub_cancel, Nat.pow_succ, ← Nat.mul_assoc, Nat.mul_right_comm, Nat.mul_mod_left]
  rw [h1, h2, h3, h4]
  simp [upB_none]

theorem cutP_near {rm : Int} {minus : Bool} {h j l n : Nat} {more : Bool} (hl : l < 2 ^ j) (hn : 2 ≤ n) :
    cutP rm minus (h * 2 ^ j + l) (n + j) more = cutP rm minus (if l ≠ 0 ∨ more = true then h ||| 1 else h) n false := by
  obtain ⟨m, rfl⟩ : ∃ m, n = m + 2 := ⟨n - 2, by omega⟩
  have hp := Nat.two_pow_pos j
  have d0 : (h * 2 ^ j + l) / 2 ^ j = h := by
    rw [Nat.mul_comm, Nat.mul_add_div hp, Nat.div_eq_of_lt hl, Nat.add_zero]
  have m0 : (h * 2 ^ j + l) % 2 ^ j = l := by
    rw [Nat.mul_comm, Nat.mul_add_mod, Nat.mod_eq_of_lt hl]
  have dv : ∀ k, (h * 2 ^ j + l) / 2 ^ (k + j) = h / 2 ^ k := fun k => by
    rw [Nat.add_comm k j, Nat.pow_add, ← Nat.div_div_eq_div_mul, d0]
  have md : ∀ k, (h * 2 ^ j + l) % 2 ^ (k + j) = 2 ^ j * (h % 2 ^ k) + l := fun k => by
    rw [Nat.add_comm k j, Nat.pow_add, Nat.mod_mul, d0, m0, Nat.add_comm]
  have e1 : m + 2 + j - 1 = (m + 1) + j := by omega
  have dodd : ∀ k, (h ||| 1) / 2 ^ (k + 1) = h / 2 ^ (k + 1) := fun k => by
    rw [← Nat.shiftRight_eq_div_pow, ← Nat.shiftRight_eq_div_pow, Nat.shiftRight_or_distrib]
    have : 1 >>> (k + 1) = 0 := by rw [Nat.shiftRight_eq_div_pow]; exact Nat.div_eq_of_lt (Nat.one_lt_two_pow (by omega))
    rw [this, Nat.or_zero]
  have modd : ∀ k, (h ||| 1) % 2 ^ (k + 1) ≠ 0 := fun k hk => by
    have h1 := congrArg (· % 2) hk
    rw [Nat.pow_succ, Nat.mul_comm, Nat.mod_mul_right_mod] at h1
    have := (Nat.or_mod_two_eq_one (a := h) (b := 1)).2 (Or.inr rfl)
    omega
  have key : ∀ s : Bool, s = decide (l ≠ 0 ∨ more = true) → cutP rm minus (h * 2 ^ j + l) (m + 2 + j) more = cutP rm minus (if s = true then h ||| 1 else h) (m + 2) false := by
    intro s hs
    unfold cutP
    rw [e1, dv (m + 2), dv (m + 1), md (m + 1), md (m + 2)]
    have e2 : m + 2 - 1 = m + 1 := by omega
    rw [e2]
    have a1 : (if s = true then h ||| 1 else h) / 2 ^ (m + 2) = h / 2 ^ (m + 2) := by split; exact dodd (m + 1); rfl
    have a2 : (if s = true then h ||| 1 else h) / 2 ^ (m + 1) = h / 2 ^ (m + 1) := by split; exact dodd m; rfl
    have a3 : ∀ k, ((if s = true then h ||| 1 else h) % 2 ^ (k + 1) = 0) ↔ (2 ^ j * (h % 2 ^ (k + 1)) + l = 0 ∧ more = false) := fun k => by
      have hz : 2 ^ j * (h % 2 ^ (k + 1)) = 0 ↔ h % 2 ^ (k + 1) = 0 := by rw [Nat.mul_eq_zero]; omega
      by_cases hc : l ≠ 0 ∨ more = true
      · rw [hs, if_pos (by simpa using hc)]
        constructor
        · intro h5; exact absurd h5 (modd k)
        · rintro ⟨h5, h6⟩
          rcases hc with hc | hc
          · omega
          · rw [h6] at hc; cases hc
      · rw [hs, if_neg (by simpa using hc)]
        have hl0 : l = 0 := by have := not_or.1 hc; omega
        have hm0 : more = false := by have := (not_or.1 hc).2; simpa using this
        rw [hl0, hm0, Nat.add_zero]; simp [hz]
    have b3 : ∀ k, ((2 ^ j * (h % 2 ^ (k + 1)) + l != 0) || more) = ((if s = true then h ||| 1 else h) % 2 ^ (k + 1) != 0) := fun k => by
      rw [Bool.eq_iff_iff]
      simp only [Bool.or_eq_true, bne_iff_ne, ne_eq]
      rw [a3 k]
      cases more <;> simp
    have b4 : ((2 ^ j * (h % 2 ^ (m + 2)) + l == 0) && !more) = ((if s = true then h ||| 1 else h) % 2 ^ (m + 2) == 0) := by
      rw [Bool.eq_iff_iff]
      simp only [Bool.and_eq_true, beq_iff_eq]
      rw [a3 (m + 1)]
      cases more <;> simp
    rw [a1, a2, b3 m, b4]
    simp
  have := key (decide (l ≠ 0 ∨ more = true)) rfl
  simpa using this

theorem or_one_ge {h : Nat} : h ≤ h ||| 1 := Nat.left_le_or
theorem blen_or_one {h : Nat} (hh : 0 < h) : blen (h ||| 1) = blen h := by
  obtain ⟨k, hk⟩ : ∃ k, blen h = k + 1 := ⟨blen h - 1, by have := blen_pos hh; omega⟩
  rw [hk]
  refine blen_eq (Nat.le_trans (lt_blen.1 (by omega)) or_one_ge) ?_
  exact Nat.or_lt_two_pow (blen_le.1 (by omega)) (Nat.one_lt_two_pow (by omega))

def least (f b : Nat) : Int := 1 - b - f
def lastOf (f b : Nat) (top : Int) : Int := if top - f - 1 < least f b then least f b else top - f - 1
def tinyOf (f b : Nat) (top : Int) (q : Nat) : Bool := decide (top - f - 1 < least f b) && decide ((blen q : Int) + top - f - 1 < least f b + f + 1)
def told (f b : Nat) (rm : Int) (minus : Bool) (last : Int) (c : Nat × Bool) (tiny : Bool) : Nat × Nat :=
  let m := if blen c.1 > f + 1 then c.1 / 2 else c.1
  let la := if blen c.1 > f + 1 then last + 1 else last
  if la + f > b ∧ blen m = f + 1 then ((2 * b + 1) * 2 ^ f - (if rm = 1 ∨ (rm = 2 ∧ minus = false) ∨ (rm = 3 ∧ minus = true) then 1 else 0), 5)
  else ((if blen m = f + 1 then m - 2 ^ f + (la - least f b + 1).toNat * 2 ^ f else m), if c.2 then 0 else if tiny then 3 else 1)
def rnd (f b : Nat) (rm : Int) (minus : Bool) (M : Nat) (E : Int) (more : Bool) : Nat × Nat :=
  told f b rm minus (lastOf f b (blen M + E)) (cutN rm minus M (lastOf f b (blen M + E) - E) more)
    (tinyOf f b (blen M + E) (cutN rm minus M (blen M + E - f - 1 - E) more).1)

theorem cutN_scale {rm : Int} {minus : Bool} {M k : Nat} {b : Int} : cutN rm minus (M * 2 ^ k) (b + k) false = cutN rm minus M b false := by
  unfold cutN
  by_cases h1 : b ≤ 0
  · rw [if_pos h1]
    by_cases h2 : b + k ≤ 0
    · rw [if_pos h2, Nat.mul_assoc, ← Nat.pow_add]
      congr 3; omega
    · rw [if_neg h2]
      obtain ⟨d, rfl⟩ : ∃ d, k = (-b).toNat + d := ⟨k - (-b).toNat, by omega⟩
      have e : (b + ((-b).toNat + d : Nat)).toNat = d := by omega
      rw [e, Nat.pow_add, ← Nat.mul_assoc, cutP_exact (by omega)]
      rfl
  · rw [if_neg h1, if_neg (by omega)]
    have e : (b + k).toNat = b.toNat + k := by omega
    rw [e]
    obtain ⟨n, hn⟩ : ∃ n, b.toNat = n + 1 := ⟨b.toNat - 1, by omega⟩
    rw [hn]
    unfold cutP
    have hp := Nat.two_pow_pos k
    have dv : ∀ x, M * 2 ^ k / 2 ^ (x + k) = M / 2 ^ x := fun x => by rw [Nat.pow_add, Nat.mul_div_mul_right _ _ hp]
    have md : ∀ x, M * 2 ^ k % 2 ^ (x + k) = M % 2 ^ x * 2 ^ k := fun x => by rw [Nat.pow_add, Nat.mul_mod_mul_right]
    have mz : ∀ x, (M % 2 ^ x * 2 ^ k = 0) ↔ M % 2 ^ x = 0 := fun x => by rw [Nat.mul_eq_zero]; omega
    have e2 : n + 1 + k - 1 = n + k := by omega
    rw [e2, dv, dv, md, md, Nat.add_sub_cancel]
    have z1 : ∀ x, (M % 2 ^ x * 2 ^ k != 0) = (M % 2 ^ x != 0) := fun x => by rw [Bool.eq_iff_iff]; simp only [bne_iff_ne, ne_eq, mz]
    have z2 : ∀ x, (M % 2 ^ x * 2 ^ k == 0) = (M % 2 ^ x == 0) := fun x => by rw [Bool.eq_iff_iff]; simp only [beq_iff_eq, mz]
    rw [z1, z2]

theorem rnd_scale {f b : Nat} {rm : Int} {minus : Bool} {M k : Nat} {E : Int} (hM : 0 < M) : rnd f b rm minus (M * 2 ^ k) (E - k) false = rnd f b rm minus M E false := by
  have h1 : (blen (M * 2 ^ k) : Int) + (E - k) = blen M + E := by
    have := blen_shift (h := M) (j := k) (l := 0) hM (Nat.two_pow_pos k)
    rw [Nat.add_zero] at this
    rw [this]; omega
  unfold rnd
  rw [h1]
  have h2 : ∀ x : Int, x - (E - k) = x - E + k := fun x => by omega
  rw [h2, h2, cutN_scale, cutN_scale]

theorem rnd_near {f b : Nat} {rm : Int} {minus : Bool} {h j l : Nat} {e : Int} {more : Bool} (hh : 2 ^ (f + 2) ≤ h) (hl : l < 2 ^ j) :
    rnd f b rm minus (h * 2 ^ j + l) (e - j) more = rnd f b rm minus (if l ≠ 0 ∨ more = true then h ||| 1 else h) e false := by
  have h0 : 0 < h := Nat.lt_of_lt_of_le (Nat.two_pow_pos _) hh
  have hb : f + 2 < blen h := lt_blen.2 hh
  have h1 : (blen (h * 2 ^ j + l) : Int) + (e - j) = blen h + e := by rw [blen_shift h0 hl]; omega
  have h3 : blen (if l ≠ 0 ∨ more = true then h ||| 1 else h) = blen h := by split; exact blen_or_one h0; rfl
  have hc : ∀ x : Int, 2 ≤ x → cutN rm minus (h * 2 ^ j + l) (x + j) more = cutN rm minus (if l ≠ 0 ∨ more = true then h ||| 1 else h) x false := fun x hx => by
    unfold cutN
    rw [if_neg (by omega), if_neg (by omega)]
    have e1 : (x + j).toNat = x.toNat + j := by omega
    rw [e1, cutP_near hl (by omega)]
  unfold rnd
  rw [h1, h3]
  have h2 : ∀ x : Int, x - (e - j) = x - e + j := fun x => by omega
  rw [h2, h2, hc _ (by unfold lastOf; split <;> omega), hc _ (by omega)]
end Go.Rnd

namespace Go.Sx

theorem wrap_u64 (n : Int) : IntKind.wrap .u64 n = n % 18446744073709551616 := by simp [IntKind.wrap, IntKind.signed, IntKind.bits]
theorem wrap_u8 (n : Int) : IntKind.wrap .u8 n = n % 256 := by simp [IntKind.wrap, IntKind.signed, IntKind.bits]
theorem wrap_i64 (n : Int) : IntKind.wrap .i64 n = if n % 18446744073709551616 ≥ 9223372036854775808 then n % 18446744073709551616 - 18446744073709551616 else n % 18446744073709551616 := by
  simp [IntKind.wrap, IntKind.signed, IntKind.bits]
theorem wrap_i64_of {n : Int} (h0 : -9223372036854775808 ≤ n) (h1 : n < 9223372036854775808) : IntKind.wrap .i64 n = n := by rw [wrap_i64]; split <;> omega
theorem wrap_u64_of {n : Int} (h0 : 0 ≤ n) (h1 : n < 18446744073709551616) : IntKind.wrap .u64 n = n := by rw [wrap_u64]; omega

theorem ofInt_nat {a : Nat} (ha : a < 18446744073709551616) : (BitVec.ofInt 64 (a : Int)).toNat = a := by
  rw [BitVec.ofInt_natCast, BitVec.toNat_ofNat]; exact Nat.mod_eq_of_lt (by omega)
theorem land_nn {a b : Nat} (ha : a < 18446744073709551616) (hb : b < 18446744073709551616) : iland .u64 (a : Int) (b : Int) = ((a &&& b : Nat) : Int) := by
  show IntKind.wrap .u64 ((BitVec.ofInt 64 (a : Int) &&& BitVec.ofInt 64 (b : Int)).toNat : Int) = _
  rw [BitVec.toNat_and, ofInt_nat ha, ofInt_nat hb, wrap_u64]
  have : a &&& b ≤ a := Nat.and_le_left
  omega
theorem lor_nn {a b : Nat} (ha : a < 18446744073709551616) (hb : b < 18446744073709551616) : ilor .u64 (a : Int) (b : Int) = ((a ||| b : Nat) : Int) := by
  show IntKind.wrap .u64 ((BitVec.ofInt 64 (a : Int) ||| BitVec.ofInt 64 (b : Int)).toNat : Int) = _
  rw [BitVec.toNat_or, ofInt_nat ha, ofInt_nat hb, wrap_u64]
  have : a ||| b < 2 ^ 64 := Nat.or_lt_two_pow (by omega) (by omega)
  omega
theorem lxor_nn {a b : Nat} (ha : a < 18446744073709551616) (hb : b < 18446744073709551616) : ilxor .u64 (a : Int) (b : Int) = ((a ^^^ b : Nat) : Int) := by
  show IntKind.wrap .u64 ((BitVec.ofInt 64 (a : Int) ^^^ BitVec.ofInt 64 (b : Int)).toNat : Int) = _
  rw [BitVec.toNat_xor, ofInt_nat ha, ofInt_nat hb, wrap_u64]
  have : a ^^^ b < 2 ^ 64 := Nat.xor_lt_two_pow (by omega) (by omega)
  omega
theorem landNot_nn {a b : Nat} (ha : a < 18446744073709551616) (hb : b < 18446744073709551616) : ilandNot .u64 (a : Int) (b : Int) = ((a &&& (18446744073709551615 - b) : Nat) : Int) := by
  show IntKind.wrap .u64 ((BitVec.ofInt 64 (a : Int) &&& ~~~ BitVec.ofInt 64 (b : Int)).toNat : Int) = _
  rw [BitVec.toNat_and, ofInt_nat ha, BitVec.toNat_not, ofInt_nat hb, wrap_u64]
  have e : 2 ^ 64 - 1 - b = 18446744073709551615 - b := by omega
  rw [e]
  have : a &&& (18446744073709551615 - b) ≤ a := Nat.and_le_left
  omega

theorem int_nat {a : Int} (h0 : 0 ≤ a) : ∃ n : Nat, a = n := ⟨a.toNat, by omega⟩

theorem testBit_parts {k r : Nat} (hr : r < 2 ^ k) (q j : Nat) : (2 ^ k * q + r).testBit j = if j < k then r.testBit j else q.testBit (j - k) := Nat.testBit_two_pow_mul_add q hr j
theorem and_parts {k r s : Nat} (hr : r < 2 ^ k) (hs : s < 2 ^ k) (q q' : Nat) : (2 ^ k * q + r) &&& (2 ^ k * q' + s) = 2 ^ k * (q &&& q') + (r &&& s) := by
  apply Nat.eq_of_testBit_eq
  intro j
  rw [Nat.testBit_and, testBit_parts hr, testBit_parts hs, testBit_parts (Nat.and_lt_two_pow r hs), Nat.testBit_and, Nat.testBit_and]
  split <;> rfl
theorem or_parts {k r s : Nat} (hr : r < 2 ^ k) (hs : s < 2 ^ k) (q q' : Nat) : (2 ^ k * q + r) ||| (2 ^ k * q' + s) = 2 ^ k * (q ||| q') + (r ||| s) := by
  apply Nat.eq_of_testBit_eq
  intro j
  rw [Nat.testBit_or, testBit_parts hr, testBit_parts hs, testBit_parts (Nat.or_lt_two_pow hr hs), Nat.testBit_or, Nat.testBit_or]
  split <;> rfl
theorem xor_parts {k r s : Nat} (hr : r < 2 ^ k) (hs : s < 2 ^ k) (q q' : Nat) : (2 ^ k * q + r) ^^^ (2 ^ k * q' + s) = 2 ^ k * (q ^^^ q') + (r ^^^ s) := by
  apply Nat.eq_of_testBit_eq
  intro j
  rw [Nat.testBit_xor, testBit_parts hr, testBit_parts hs, testBit_parts (Nat.xor_lt_two_pow hr hs), Nat.testBit_xor, Nat.testBit_xor]
  split <;> rfl
theorem split_at (n k : Nat) : 2 ^ k * (n / 2 ^ k) + n % 2 ^ k = n := Nat.div_add_mod n (2 ^ k)
theorem mod_lt (n k : Nat) : n % 2 ^ k < 2 ^ k := Nat.mod_lt _ (Nat.two_pow_pos k)
theorem one_parts (q : Nat) : q &&& 1 = q % 2 ∧ q ||| 1 = q / 2 * 2 + 1 ∧ q ^^^ 1 = q / 2 * 2 + (1 - q % 2) := by
  have h2 : q % 2 < 2 ^ 1 := by omega
  have e : q = 2 ^ 1 * (q / 2) + q % 2 := by omega
  have h1 : (1 : Nat) = 2 ^ 1 * 0 + 1 := rfl
  refine ⟨Nat.and_one_is_mod q, ?_, ?_⟩
  · conv => lhs; rw [e, h1, or_parts h2 (by decide)]
    rw [Nat.or_zero]
    rcases Nat.mod_two_eq_zero_or_one q with h | h <;> rw [h] <;> simp <;> omega
  · conv => lhs; rw [e, h1, xor_parts h2 (by decide)]
    rw [Nat.xor_zero]
    rcases Nat.mod_two_eq_zero_or_one q with h | h <;> rw [h] <;> simp <;> omega
theorem and_bit (n k : Nat) : n &&& 2 ^ k = 2 ^ k * (n / 2 ^ k % 2) := by
  conv => lhs; rw [← split_at n k, show (2 : Nat) ^ k = 2 ^ k * 1 + 0 from by omega, show 2 ^ k * 1 + 0 = 2 ^ k from by omega]
  have := and_parts (mod_lt n k) (Nat.two_pow_pos k) (n / 2 ^ k) 1
  rw [Nat.mul_one, Nat.add_zero] at this
  rw [this, (one_parts _).1, Nat.and_zero, Nat.add_zero]
theorem xor_bit (n k : Nat) : n ^^^ 2 ^ k = if n / 2 ^ k % 2 = 1 then n - 2 ^ k else n + 2 ^ k := by
  have := xor_parts (mod_lt n k) (Nat.two_pow_pos k) (n / 2 ^ k) 1
  rw [Nat.mul_one, Nat.add_zero, split_at, (one_parts _).2.2, Nat.xor_zero] at this
  rw [this]
  have h := split_at n k
  generalize n / 2 ^ k = q at *
  generalize n % 2 ^ k = r at *
  rcases Nat.mod_two_eq_zero_or_one q with hq | hq
  · rw [hq, show q / 2 * 2 + (1 - 0) = q + 1 from by omega, Nat.mul_add]; simp; omega
  · rw [hq, show q / 2 * 2 + (1 - 1) = q - 1 from by omega]
    simp
    have : q = (q - 1) + 1 := by omega
    rw [this, Nat.mul_add] at h
    omega
theorem andNot_bit (n k w : Nat) (hn : n < 2 ^ w) (hk : k < w) : n &&& (2 ^ w - 1 - 2 ^ k) = n - 2 ^ k * (n / 2 ^ k % 2) := by
  have hlt : 2 ^ k < 2 ^ w := Nat.pow_lt_pow_right (by decide) hk
  have h1 : 2 ^ w - 1 - 2 ^ k = (2 ^ w - 1) ^^^ 2 ^ k := by
    rw [xor_bit]
    have : (2 ^ w - 1) / 2 ^ k % 2 = 1 := by
      have := Nat.testBit_two_pow_sub_one w k
      rw [Nat.testBit_eq_decide_div_mod_eq] at this
      simpa [hk] using this
    rw [if_pos this]
  have h2 : n &&& ((2 ^ w - 1) ^^^ 2 ^ k) = n ^^^ (n &&& 2 ^ k) := by
    apply Nat.eq_of_testBit_eq
    intro j
    rw [Nat.testBit_and, Nat.testBit_xor, Nat.testBit_xor, Nat.testBit_and, Nat.testBit_two_pow_sub_one]
    by_cases hj : j < w
    · simp [hj]; cases n.testBit j <;> cases (2 ^ k).testBit j <;> rfl
    · have : n.testBit j = false := Nat.testBit_lt_two_pow (Nat.lt_of_lt_of_le hn (Nat.pow_le_pow_right (by decide) (by omega)))
      simp [this]
  rw [h1, h2, and_bit]
  rcases Nat.mod_two_eq_zero_or_one (n / 2 ^ k) with h | h
  · rw [h]; simp
  · rw [h, Nat.mul_one, xor_bit, if_pos h]

section
variable {a m p : Int}
theorem land_mask (h0 : 0 ≤ a) (h1 : a < 18446744073709551616) (k : Nat) (hk : k ≤ 64) (hm : m = ((2 ^ k - 1 : Nat) : Int)) (hp : p = ((2 ^ k : Nat) : Int)) : iland .u64 a m = a % p := by
  obtain ⟨n, rfl⟩ := int_nat h0
  have : 2 ^ k ≤ 2 ^ 64 := Nat.pow_le_pow_right (by decide) hk
  rw [hm, land_nn (by omega) (by omega), Nat.and_two_pow_sub_one_eq_mod, hp]
  omega
theorem land_bit (h0 : 0 ≤ a) (h1 : a < 18446744073709551616) (k : Nat) (hk : k < 64) (hm : m = ((2 ^ k : Nat) : Int)) : iland .u64 a m = m * (a / m % 2) := by
  obtain ⟨n, rfl⟩ := int_nat h0
  have : 2 ^ k < 2 ^ 64 := Nat.pow_lt_pow_right (by decide) hk
  rw [hm, land_nn (by omega) (by omega), and_bit]
  simp
theorem landNot_bit (h0 : 0 ≤ a) (h1 : a < 18446744073709551616) (k : Nat) (hk : k < 64) (hm : m = ((2 ^ k : Nat) : Int)) : ilandNot .u64 a m = a - m * (a / m % 2) := by
  obtain ⟨n, rfl⟩ := int_nat h0
  have : 2 ^ k < 2 ^ 64 := Nat.pow_lt_pow_right (by decide) hk
  rw [hm, landNot_nn (by omega) (by omega), show 18446744073709551615 - 2 ^ k = 2 ^ 64 - 1 - 2 ^ k from by omega, andNot_bit n k 64 (by omega) hk]
  have : 2 ^ k * (n / 2 ^ k % 2) ≤ n := by
    have h := split_at n k
    have : 2 ^ k * (n / 2 ^ k % 2) ≤ 2 ^ k * (n / 2 ^ k) := Nat.mul_le_mul_left _ (Nat.mod_le _ _)
    omega
  have e : ((2 ^ k * (n / 2 ^ k % 2) : Nat) : Int) = ((2 ^ k : Nat) : Int) * ((n : Int) / ((2 ^ k : Nat) : Int) % 2) := by simp
  rw [← e]
  omega
theorem shr_of (k : Nat) (hk : k ≤ 64) (hp : p = ((2 ^ k : Nat) : Int)) : ishr .u64 a (k : Int) = a / p := by
  show Int.fdiv a (2 ^ min (k : Int).toNat 64) = _
  have e : min (k : Int).toNat 64 = k := by simp; omega
  rw [e, hp, Int.fdiv_eq_ediv_of_nonneg _ (by exact Int.le_of_lt (Int.pow_pos (by decide)))]
  simp
end
theorem ibeq (x y : Int) : (x == y) = decide (x = y) := by by_cases h : x = y <;> simp [h]
end Go.Sx

namespace Go.Rnd
open Go Go.Sx

theorem ow_t (l : List (Bool × Bool)) : ow l true = true := by simp [ow]
theorem dec (p : Prop) [Decidable p] : (decide p = true) = p := by simp

def dlen (n : Nat) : Nat := (blen n + 31) / 32
theorem wr64 {n : Nat} (h : n < 18446744073709551616) : IntKind.wrap .u64 (n : Int) = n := wrap_u64_of (by omega) (by omega)
theorem wri {n : Nat} (h : n < 9223372036854775808) : IntKind.wrap .i64 (n : Int) = n := wrap_i64_of (by omega) (by omega)
theorem wri1 {n : Nat} (h : n + 1 < 9223372036854775808) : IntKind.wrap .i64 ((n : Int) + 1) = ((n + 1 : Nat) : Int) := by rw [wrap_i64_of (by omega) (by omega)]; rfl
theorem shr32 (n : Nat) : ishr .u64 (n : Int) 32 = ((n / 4294967296 : Nat) : Int) := by
  rw [show ishr .u64 (n : Int) 32 = (n : Int) / 4294967296 from shr_of 32 (by decide) (by decide)]; omega
end Go.Rnd

namespace Go.Proofs.Ytacciadcmiiimaa
open Go Go.Sx Go.Rnd
set_option maxRecDepth 100000
set_option maxHeartbeats 1000000

section
variable {a b : Nat} (ha : dlen a ≤ 1048576) (hb : dlen b ≤ 1048576)
include ha hb
end
end Go.Proofs.Ytacciadcmiiimaa

namespace Go.Rnd
open Go Go.Sx
set_option maxRecDepth 100000

theorem shl_nat (x s : Nat) : ishl .u64 (x : Int) (s : Int) = ((x * 2 ^ s % 18446744073709551616 : Nat) : Int) := by
  unfold ishl
  rw [wrap_u64, Int.toNat_natCast]
  show ((x : Int) * 2 ^ min s 64) % 18446744073709551616 = _
  by_cases h : s ≤ 64
  · rw [Nat.min_eq_left h, Int.natCast_emod, Int.natCast_mul, Int.natCast_pow]; rfl
  · rw [Nat.min_eq_right (by omega)]
    obtain ⟨d, rfl⟩ : ∃ d, s = 64 + d := ⟨s - 64, by omega⟩
    have : x * 2 ^ (64 + d) % 18446744073709551616 = 0 := by
      rw [Nat.pow_add, Nat.mul_left_comm]; exact Nat.mul_mod_right _ _
    rw [this]; omega
theorem shl_lt {x s : Nat} (h : x * 2 ^ s < 18446744073709551616) : ishl .u64 (x : Int) (s : Int) = ((x * 2 ^ s : Nat) : Int) := by
  rw [shl_nat, Nat.mod_eq_of_lt h]
theorem shr_nat {x : Nat} (h : x < 18446744073709551616) (s : Nat) : ishr .u64 (x : Int) (s : Int) = ((x / 2 ^ s : Nat) : Int) := by
  unfold ishr
  rw [Int.toNat_natCast]
  show (x : Int).fdiv (2 ^ min s 64) = _
  have e : ((2 : Int) ^ min s 64) = ((2 ^ min s 64 : Nat) : Int) := by rw [Int.natCast_pow]; rfl
  rw [e, Int.fdiv_eq_ediv_of_nonneg _ (Int.natCast_nonneg _), ← Int.natCast_ediv]
  congr 1
  by_cases hs : s ≤ 64
  · rw [Nat.min_eq_left hs]
  · rw [Nat.min_eq_right (by omega), Nat.div_eq_of_lt h, Nat.div_eq_of_lt]
    have : 2 ^ 64 ≤ 2 ^ s := Nat.pow_le_pow_right (by decide) (by omega)
    exact Nat.lt_of_lt_of_le h this
theorem or_high {c x s : Nat} (hc : c < 2 ^ s) : c ||| x * 2 ^ s = c + x * 2 ^ s := by
  rw [Nat.or_comm, Nat.mul_comm, ← Nat.two_pow_add_eq_or_of_lt hc]; omega
end Go.Rnd

namespace Go.Proofs.Ytacciadcmiiimaa
open Go Go.Sx Go.Rnd
set_option maxRecDepth 100000
set_option maxHeartbeats 1000000

section
variable {a b : Nat} (ha : dlen a ≤ 1048576) (hab : b ≤ a)
include ha hab
end

section
variable {a n : Nat} (ha : dlen a ≤ 1048576) (hn : n ≤ 33554432)
include ha hn
end
end Go.Proofs.Ytacciadcmiiimaa

namespace Go.Proofs.Ytacciadcmiiimaa
open Go Go.Sx Go.Rnd
set_option maxRecDepth 100000
set_option maxHeartbeats 1000000

section
variable {a n : Nat} (ha : dlen a ≤ 1048576) (hn : n ≤ 33554432)
include ha hn
end

section
variable {a b : Nat} (ha : dlen a ≤ 1048576) (hb : dlen b ≤ 1048576)
include ha hb
end
end Go.Proofs.Ytacciadcmiiimaa

namespace Go.Proofs.Ytacciadcmiiimaa
open Go Go.Sx Go.Rnd
set_option maxRecDepth 100000
set_option maxHeartbeats 1000000

section
variable {a b : Nat} (ha : blen a ≤ 1000000) (hb0 : 0 < b) (hb : blen b ≤ 1000000)
include ha hb0 hb
end

section
variable {a : Nat} (ha : blen a ≤ 1000000)
include ha
end
end Go.Proofs.Ytacciadcmiiimaa

namespace Go.Proofs.Ytacciadcmiiimaa
open Go Go.Sx Go.Rnd
set_option maxRecDepth 100000
set_option maxHeartbeats 1000000

def frN (s : Int) : Nat := if s = 4 then 23 else 52
def biN (s : Int) : Nat := if s = 4 then 127 else 1023
def topN (s : Int) : Nat := if s = 4 then 2147483648 else 9223372036854775808
def oneN (s : Int) : Nat := if s = 4 then 8388608 else 4503599627370496
def infB (s : Int) : Nat := if s = 4 then 2139095040 else 9218868437227405312
def quiB (s : Int) : Nat := if s = 4 then 2143289344 else 9221120237041090560
def emaxN (s : Int) : Nat := if s = 4 then 255 else 2047
def mkN (s : Int) (a : Nat) : Nat := if s = 4 then a % 4294967296 else a
def sgN (s : Int) (a : Nat) : Bool := decide (mkN s a / topN s = 1)
def exf (s : Int) (a : Nat) : Nat := mkN s a / oneN s % (emaxN s + 1)
def frf (s : Int) (a : Nat) : Nat := mkN s a % oneN s
def nanN (s : Int) (a : Nat) : Bool := decide (exf s a = emaxN s ∧ frf s a ≠ 0)
def loudN (s : Int) (a : Nat) : Bool := decide (exf s a = emaxN s ∧ frf s a ≠ 0 ∧ frf s a < oneN s / 2)
def infN (s : Int) (a : Nat) : Bool := decide (exf s a = emaxN s ∧ frf s a = 0)
def zerN (s : Int) (a : Nat) : Bool := decide (exf s a = 0 ∧ frf s a = 0)
def fM (s : Int) (a : Nat) : Nat := if 0 < exf s a then frf s a + oneN s else frf s a
def fE (s : Int) (a : Nat) : Int := (if 0 < exf s a then (exf s a : Int) else 1) - biN s - frN s
def sgB (s : Int) (b : Bool) : Nat := if b then topN s else 0

theorem land_low {x n : Nat} (hx : x < 18446744073709551616) (hn : n ≤ 64) : iland .u64 (x : Int) ((2 ^ n - 1 : Nat) : Int) = ((x % 2 ^ n : Nat) : Int) := by
  have h1 := Nat.two_pow_pos n
  have h2 : 2 ^ n ≤ 2 ^ 64 := Nat.pow_le_pow_right (by decide) hn
  rw [land_nn hx (by omega), Nat.and_two_pow_sub_one_eq_mod]

section
variable {s : Int} (hs : s = 4 ∨ s = 8) {a : Nat} (ha : a < 18446744073709551616)
include hs
theorem mk_lt (ha : a < 18446744073709551616) : mkN s a < 2 * topN s := by
  rcases hs with rfl | rfl
  · show a % 4294967296 < 2 * 2147483648; omega
  · show a < 2 * 9223372036854775808; omega
include ha
theorem mask_ok : r42_0 s (a : Int) = (mkN s a : Int) := by
  rcases hs with rfl | rfl
  · simp only [r42_0]
    exact land_low (n := 32) ha (by decide)
  · rfl
theorem parts_ok : p90 s = true ∧ r90_0 s (a : Int) = sgN s a ∧ r90_1 s (a : Int) = (exf s a : Int) ∧ r90_2 s (a : Int) = (frf s a : Int) := by
  have hm := mask_ok hs ha
  have hl := mk_lt hs ha
  rcases hs with rfl | rfl
  · have hv : mkN 4 a < 4294967296 := hl
    have k0 : IntKind.wrap .i64 (r89_0 4 + r89_1 4) = ((31 : Nat) : Int) := by decide
    have k1 : r89_0 4 = ((23 : Nat) : Int) := rfl
    have k2 : IntKind.wrap .u64 (ishl .u64 1 (r89_1 4) - 1) = ((2 ^ 8 - 1 : Nat) : Int) := by decide
    have k3 : IntKind.wrap .u64 (ishl .u64 1 ((23 : Nat) : Int) - 1) = ((2 ^ 23 - 1 : Nat) : Int) := by decide
    unfold sgN exf frf
    rw [show topN 4 = 2 ^ 31 from by decide, show oneN 4 = 2 ^ 23 from by decide, show emaxN 4 + 1 = 2 ^ 8 from by decide]
    generalize mkN 4 a = v at *
    refine ⟨by decide, ?_, ?_, ?_⟩
    · simp only [r90_0, hm, k0]
      rw [shr_nat (by omega), Bool.eq_iff_iff]
      simp only [beq_iff_eq, dec]
      exact ⟨fun h => Int.ofNat.inj h, fun h => congrArg Int.ofNat h⟩
    · simp only [r90_1, hm, k1, k2]
      have h1 : v / 2 ^ 23 < 18446744073709551616 := Nat.lt_of_le_of_lt (Nat.div_le_self _ _) (by omega)
      have h2 : v / 2 ^ 23 % 2 ^ 8 < 2 ^ 8 := Nat.mod_lt _ (by decide)
      rw [shr_nat (by omega), land_low h1 (by decide), wri (Nat.lt_trans h2 (by decide))]
    · simp only [r90_2, hm, k1, k3]
      rw [land_low (by omega) (by decide)]
  · have hv : mkN 8 a < 18446744073709551616 := hl
    have k0 : IntKind.wrap .i64 (r89_0 8 + r89_1 8) = ((63 : Nat) : Int) := by decide
    have k1 : r89_0 8 = ((52 : Nat) : Int) := rfl
    have k2 : IntKind.wrap .u64 (ishl .u64 1 (r89_1 8) - 1) = ((2 ^ 11 - 1 : Nat) : Int) := by decide
    have k3 : IntKind.wrap .u64 (ishl .u64 1 ((52 : Nat) : Int) - 1) = ((2 ^ 52 - 1 : Nat) : Int) := by decide
    unfold sgN exf frf
    rw [show topN 8 = 2 ^ 63 from by decide, show oneN 8 = 2 ^ 52 from by decide, show emaxN 8 + 1 = 2 ^ 11 from by decide]
    generalize mkN 8 a = v at *
    refine ⟨by decide, ?_, ?_, ?_⟩
    · simp only [r90_0, hm, k0]
      rw [shr_nat (by omega), Bool.eq_iff_iff]
      simp only [beq_iff_eq, dec]
      exact ⟨fun h => Int.ofNat.inj h, fun h => congrArg Int.ofNat h⟩
    · simp only [r90_1, hm, k1, k2]
      have h1 : v / 2 ^ 52 < 18446744073709551616 := Nat.lt_of_le_of_lt (Nat.div_le_self _ _) (by omega)
      have h2 : v / 2 ^ 52 % 2 ^ 11 < 2 ^ 11 := Nat.mod_lt _ (by decide)
      rw [shr_nat (by omega), land_low h1 (by decide), wri (Nat.lt_trans h2 (by decide))]
    · simp only [r90_2, hm, k1, k3]
      rw [land_low (by omega) (by decide)]
theorem ex_le : exf s a ≤ emaxN s := by have _ := hs; have _ := ha; unfold exf; have := Nat.mod_lt (mkN s a / oneN s) (show 0 < emaxN s + 1 by omega); omega
theorem fr_lt : frf s a < oneN s := by
  have _ := ha
  unfold frf
  exact Nat.mod_lt _ (by rcases hs with rfl | rfl <;> decide)
theorem nan_ok : p39 s = true ∧ r39_0 s (a : Int) = nanN s a := by
  obtain ⟨h0, _, h2, h3⟩ := parts_ok hs ha
  constructor
  · rcases hs with rfl | rfl <;> decide
  · simp only [r39_0, h2, h3]
    have : IntKind.wrap .i64 (ishl .i64 1 (r89_1 s) - 1) = (emaxN s : Int) := by rcases hs with rfl | rfl <;> decide
    rw [this, Bool.eq_iff_iff]
    unfold nanN
    simp only [Bool.and_eq_true, beq_iff_eq, bne_iff_ne, dec]
    omega
theorem inf_ok : p56 s = true ∧ r56_0 s (a : Int) = infN s a := by
  obtain ⟨h0, _, h2, h3⟩ := parts_ok hs ha
  constructor
  · rcases hs with rfl | rfl <;> decide
  · simp only [r56_0, h2, h3]
    have : IntKind.wrap .i64 (ishl .i64 1 (r89_1 s) - 1) = (emaxN s : Int) := by rcases hs with rfl | rfl <;> decide
    rw [this, Bool.eq_iff_iff]
    unfold infN
    simp only [Bool.and_eq_true, beq_iff_eq, dec]
    omega
theorem zero_ok : p61 s = true ∧ r61_0 s (a : Int) = zerN s a := by
  obtain ⟨h0, _, h2, h3⟩ := parts_ok hs ha
  constructor
  · simp only [p61, h0]; rfl
  · simp only [r61_0, h2, h3]
    rw [Bool.eq_iff_iff]
    unfold zerN
    simp only [Bool.and_eq_true, beq_iff_eq, dec]
    omega
omit ha
include ha
theorem fM_lt : fM s a < 2 * oneN s := by
  have := fr_lt hs ha
  unfold fM; split <;> omega
end
end Go.Proofs.Ytacciadcmiiimaa

namespace Go.Proofs.Ytacciadcmiiimaa
open Go Go.Sx Go.Rnd
set_option maxRecDepth 100000
set_option maxHeartbeats 1000000

theorem ib1 (k : Nat) : (((k : Nat) : Int) == 1) = (k == 1) := by
  rw [Bool.eq_iff_iff]
  simp only [beq_iff_eq]
  exact ⟨fun h => Int.ofNat.inj h, fun h => congrArg Int.ofNat h⟩
theorem cutN_le {rm : Int} {minus : Bool} {M : Nat} {b : Int} {more : Bool} {k : Nat} (h : (blen M : Int) - b ≤ k) : (cutN rm minus M b more).1 ≤ 2 ^ k := by
  have hM := blen_self (n := M)
  unfold cutN
  by_cases hb : b ≤ 0
  · rw [if_pos hb]
    show M * 2 ^ (-b).toNat ≤ 2 ^ k
    have h1 : M * 2 ^ (-b).toNat ≤ 2 ^ blen M * 2 ^ (-b).toNat := Nat.mul_le_mul_right _ (Nat.le_of_lt hM)
    rw [← Nat.pow_add] at h1
    exact Nat.le_trans h1 (Nat.pow_le_pow_right (by decide) (by omega))
  · rw [if_neg hb]
    unfold cutP
    have h1 : M / 2 ^ b.toNat < 2 ^ k := by
      rw [Nat.div_lt_iff_lt_mul (Nat.two_pow_pos _), ← Nat.pow_add]
      exact Nat.lt_of_lt_of_le hM (Nat.pow_le_pow_right (by decide) (by omega))
    show M / 2 ^ b.toNat + _ ≤ 2 ^ k
    split <;> omega
theorem blen_of_le {n k : Nat} (h : n ≤ 2 ^ k) : blen n ≤ k + 1 := blen_le.2 (Nat.lt_of_le_of_lt h (by rw [Nat.pow_succ]; have := Nat.two_pow_pos k; omega))

section
variable {rm : Int} {minus : Bool} {M : Nat} {b : Int} {more : Bool} (hM : blen M ≤ 1000000) (hb : -1000000 ≤ b) (hb2 : b ≤ 1000000)
include hM hb hb2
end

section
variable {s : Int} (hs : s = 4 ∨ s = 8) {rm : Int} {minus : Bool} {M : Nat} {E : Int} {more : Bool} (hM : blen M ≤ 100000) (hE : -100000 ≤ E) (hE2 : E ≤ 100000)
include hs
theorem size_facts : frN s ≤ 52 ∧ 23 ≤ frN s ∧ biN s ≤ 1023 ∧ 127 ≤ biN s ∧ 2 ^ frN s = oneN s ∧ infB s = (2 * biN s + 1) * oneN s ∧ topN s = (2 * biN s + 2) * oneN s ∧ oneN s ≤ 4503599627370496 ∧ 8388608 ≤ oneN s ∧ topN s ≤ 9223372036854775808 := by
  rcases hs with rfl | rfl <;> decide
include hM hE hE2
end
end Go.Proofs.Ytacciadcmiiimaa

namespace Go.Proofs.Ytacciadcmiiimaa
open Go Go.Sx Go.Rnd
set_option maxRecDepth 100000
set_option maxHeartbeats 1000000

def tabL : List Int := [0, 1, 2, 2, 3, 3, 3, 3, 4, 4, 4, 4, 4, 4, 4, 4, 5, 5, 5, 5, 5, 5, 5, 5, 5, 5, 5, 5, 5, 5, 5, 5, 6, 6, 6, 6, 6, 6, 6, 6, 6, 6, 6, 6, 6, 6, 6, 6, 6, 6, 6, 6, 6, 6, 6, 6, 6, 6, 6, 6, 6, 6, 6, 6, 7, 7, 7, 7, 7, 7, 7, 7, 7, 7, 7, 7, 7, 7, 7, 7, 7, 7, 7, 7, 7, 7, 7, 7, 7, 7, 7, 7, 7, 7, 7, 7, 7, 7, 7, 7, 7, 7, 7, 7, 7, 7, 7, 7, 7, 7, 7, 7, 7, 7, 7, 7, 7, 7, 7, 7, 7, 7, 7, 7, 7, 7, 7, 7, 8, 8, 8, 8, 8, 8, 8, 8, 8, 8, 8, 8, 8, 8, 8, 8, 8, 8, 8, 8, 8, 8, 8, 8, 8, 8, 8, 8, 8, 8, 8, 8, 8, 8, 8, 8, 8, 8, 8, 8, 8, 8, 8, 8, 8, 8, 8, 8, 8, 8, 8, 8, 8, 8, 8, 8, 8, 8, 8, 8, 8, 8, 8, 8, 8, 8, 8, 8, 8, 8, 8, 8, 8, 8, 8, 8, 8, 8, 8, 8, 8, 8, 8, 8, 8, 8, 8, 8, 8, 8, 8, 8, 8, 8, 8, 8, 8, 8, 8, 8, 8, 8, 8, 8, 8, 8, 8, 8, 8, 8, 8, 8, 8, 8, 8, 8, 8, 8, 8, 8, 8, 8, 8, 8, 8, 8, 8, 8]
def lenFin (y acc : Int) : Int := IntKind.wrap .i64 (acc + IntKind.wrap .i64 (tabL.getD (Int.toNat (IntKind.wrap .u8 y)) 0))
theorem r69_eq (x : Int) : r69_0 x = lenFin (bif decide ((bif decide ((bif decide (x ≥ 4294967296) then ishr .u64 x 32 else x) ≥ 65536) then ishr .u64 (bif decide (x ≥ 4294967296) then ishr .u64 x 32 else x) 16 else (bif decide (x ≥ 4294967296) then ishr .u64 x 32 else x)) ≥ 256) then ishr .u64 (bif decide ((bif decide (x ≥ 4294967296) then ishr .u64 x 32 else x) ≥ 65536) then ishr .u64 (bif decide (x ≥ 4294967296) then ishr .u64 x 32 else x) 16 else (bif decide (x ≥ 4294967296) then ishr .u64 x 32 else x)) 8 else (bif decide ((bif decide (x ≥ 4294967296) then ishr .u64 x 32 else x) ≥ 65536) then ishr .u64 (bif decide (x ≥ 4294967296) then ishr .u64 x 32 else x) 16 else (bif decide (x ≥ 4294967296) then ishr .u64 x 32 else x)))
    (bif decide ((bif decide ((bif decide (x ≥ 4294967296) then ishr .u64 x 32 else x) ≥ 65536) then ishr .u64 (bif decide (x ≥ 4294967296) then ishr .u64 x 32 else x) 16 else (bif decide (x ≥ 4294967296) then ishr .u64 x 32 else x)) ≥ 256) then IntKind.wrap .i64 ((bif decide ((bif decide (x ≥ 4294967296) then ishr .u64 x 32 else x) ≥ 65536) then IntKind.wrap .i64 ((bif decide (x ≥ 4294967296) then 32 else 0) + 16) else (bif decide (x ≥ 4294967296) then 32 else 0)) + 8) else (bif decide ((bif decide (x ≥ 4294967296) then ishr .u64 x 32 else x) ≥ 65536) then IntKind.wrap .i64 ((bif decide (x ≥ 4294967296) then 32 else 0) + 16) else (bif decide (x ≥ 4294967296) then 32 else 0))) := rfl

theorem tabL_at : ∀ n : Fin 256, (n.val == 0) || ((List.range 8).any fun j => tabL.getD n.val 0 == (j : Int) + 1 && decide (2 ^ j ≤ n.val) && decide (n.val < 2 * 2 ^ j)) = true := by decide +kernel
theorem lenFin_ok {y : Int} (h0 : 0 < y) (h1 : y < 256) {acc : Int} (ha : 0 ≤ acc) (hb : acc ≤ 56) : ∃ j : Nat, j < 8 ∧ lenFin y acc = acc + j + 1 ∧ ((2 ^ j : Nat) : Int) ≤ y ∧ y < 2 * ((2 ^ j : Nat) : Int) := by
  obtain ⟨n, rfl⟩ := int_nat (a := y) (by omega)
  have := tabL_at ⟨n, by omega⟩
  simp only [Bool.or_eq_true, beq_iff_eq, List.any_eq_true, List.mem_range, Bool.and_eq_true, decide_eq_true_eq] at this
  rcases this with h | ⟨j, hj, ⟨h2, h3⟩, h4⟩
  · omega
  · refine ⟨j, hj, ?_, by exact_mod_cast h3, by exact_mod_cast h4⟩
    unfold lenFin
    rw [show IntKind.wrap .u8 (n : Int) = (n : Int) from by rw [wrap_u8]; omega, Int.toNat_natCast, h2, wrap_i64_of (n := (j : Int) + 1) (by omega) (by omega), wrap_i64_of (by omega) (by omega)]
    omega
theorem shr_32 (x : Int) : ishr .u64 x 32 = x / 4294967296 := shr_of 32 (by decide) (by decide)
theorem shr16 (x : Int) : ishr .u64 x 16 = x / 65536 := shr_of 16 (by decide) (by decide)
theorem shr8 (x : Int) : ishr .u64 x 8 = x / 256 := shr_of 8 (by decide) (by decide)
theorem len_fin {x y : Int} {acc : Nat} (hx : y = x / ((2 ^ acc : Nat) : Int)) (h0 : 0 < y) (h1 : y < 256) (hb : acc ≤ 56) : ∃ k : Nat, k < 64 ∧ lenFin y acc = (k : Int) + 1 ∧ ((2 ^ k : Nat) : Int) ≤ x ∧ x < 2 * ((2 ^ k : Nat) : Int) := by
  obtain ⟨j, hj, e, h2, h3⟩ := lenFin_ok h0 h1 (acc := acc) (by omega) (by omega)
  have hp : 0 < 2 ^ acc := Nat.two_pow_pos acc
  refine ⟨acc + j, by omega, by rw [e]; omega, ?_, ?_⟩
  · rw [Nat.pow_add, Nat.mul_comm, Int.natCast_mul]
    rw [hx] at h2
    exact (Int.le_ediv_iff_mul_le (by omega)).1 h2
  · rw [Nat.pow_add, Int.natCast_mul]
    rw [hx] at h3
    have := (Int.ediv_lt_iff_lt_mul (by omega)).1 h3
    rw [Int.mul_comm ((2 ^ acc : Nat) : Int), ← Int.mul_assoc]
    exact this
theorem bitlen_ok {x : Int} (h0 : 0 < x) (h1 : x < 18446744073709551616) : ∃ k : Nat, k < 64 ∧ r69_0 x = (k : Int) + 1 ∧ ((2 ^ k : Nat) : Int) ≤ x ∧ x < 2 * ((2 ^ k : Nat) : Int) := by
  rw [r69_eq]
  simp only [shr_32, shr16, shr8]
  by_cases a : x ≥ 4294967296 <;> simp only [a, decide_true, decide_false, cond_true, cond_false]
  · by_cases b : x / 4294967296 ≥ 65536 <;> simp only [b, decide_true, decide_false, cond_true, cond_false]
    · by_cases c : x / 4294967296 / 65536 ≥ 256 <;> simp only [c, decide_true, decide_false, cond_true, cond_false]
      · exact len_fin (acc := 56) (by simp only [Nat.reducePow]; omega) (by omega) (by omega) (by decide)
      · exact len_fin (acc := 48) (by simp only [Nat.reducePow]; omega) (by omega) (by omega) (by decide)
    · by_cases c : x / 4294967296 ≥ 256 <;> simp only [c, decide_true, decide_false, cond_true, cond_false]
      · exact len_fin (acc := 40) (by simp only [Nat.reducePow]; omega) (by omega) (by omega) (by decide)
      · exact len_fin (acc := 32) (by simp only [Nat.reducePow]; omega) (by omega) (by omega) (by decide)
  · by_cases b : x ≥ 65536 <;> simp only [b, decide_true, decide_false, cond_true, cond_false]
    · by_cases c : x / 65536 ≥ 256 <;> simp only [c, decide_true, decide_false, cond_true, cond_false]
      · exact len_fin (acc := 24) (by simp only [Nat.reducePow]; omega) (by omega) (by omega) (by decide)
      · exact len_fin (acc := 16) (by simp only [Nat.reducePow]; omega) (by omega) (by omega) (by decide)
    · by_cases c : x ≥ 256 <;> simp only [c, decide_true, decide_false, cond_true, cond_false]
      · exact len_fin (acc := 8) (by simp only [Nat.reducePow]; omega) (by omega) (by omega) (by decide)
      · exact len_fin (acc := 0) (by simp only [Nat.reducePow]; omega) (by omega) (by omega) (by decide)

theorem blen64 {x : Nat} (hx : x < 18446744073709551616) : r69_0 (x : Int) = (blen x : Int) := by
  rcases Nat.eq_zero_or_pos x with h | h
  · subst h; decide +kernel
  · obtain ⟨k, hk, e, h2, h3⟩ := bitlen_ok (x := (x : Int)) (by omega) (by omega)
    rw [e, blen_eq (k := k) (by omega) (by rw [Nat.pow_succ]; omega)]; rfl
theorem lz64 {x : Nat} (hx : x < 18446744073709551616) : r115_0 (x : Int) = ((64 - blen x : Nat) : Int) := by
  have h := blen64 hx
  have h2 : blen x ≤ 64 := blen_le.2 hx
  show IntKind.wrap .i64 (64 - r69_0 (x : Int)) = _
  rw [h, wrap_i64_of (by omega) (by omega)]; omega
theorem p69_ok (x : Int) : p69 x = true := by
  have a : ∀ y : Int, decide (IntKind.wrap .u8 y ≥ 0) = true := fun y => decide_eq_true (by rw [wrap_u8]; omega)
  have b : ∀ y : Int, decide (IntKind.wrap .u8 y < 256) = true := fun y => decide_eq_true (by rw [wrap_u8]; omega)
  simp only [p69, a, b, ow_t, List.all_cons, List.all_nil, id, Bool.and_true]
theorem p115_ok (x : Int) : p115 x = true := by simp only [p115, p69_ok, ow_t, List.all_cons, List.all_nil, id, Bool.and_true]

noncomputable def dropOf (f b e : Int) : Int := bif decide (IntKind.wrap .i64 (e + IntKind.wrap .i64 (63 - f)) < IntKind.wrap .i64 (IntKind.wrap .i64 (1 - b) - f)) then IntKind.wrap .i64 (IntKind.wrap .i64 (IntKind.wrap .i64 (1 - b) - f) - e) else IntKind.wrap .i64 (63 - f)
noncomputable def core0 (f b top rm : Int) (minus : Bool) (e q : Int) : Int :=
  let x20 := IntKind.wrap .i64 (IntKind.wrap .i64 (1 - b) - f)
  let x34 := dropOf f b e
  let x44 := q == ishl .u64 2 f
  let x47 := bif x44 then IntKind.wrap .i64 (x34 + 1) else x34
  let x48 := bif x44 then ishr .u64 q 1 else q
  let x56 := IntKind.wrap .i64 (IntKind.wrap .i64 (IntKind.wrap .i64 (e + x47) - x20) + 1)
  let x66 := ((rm == 1) || ((rm == 2) && !minus)) || ((rm == 3) && minus)
  bif !(decide (x48 < ishl .u64 1 f)) then
    (bif !(decide (x56 > IntKind.wrap .i64 (2 * b))) then r95_0 top minus (ilor .u64 (ishl .u64 (IntKind.wrap .u64 x56) f) (ilandNot .u64 x48 (ishl .u64 1 f)))
     else bif !x66 then r95_0 top minus (r96_0 f b) else r95_0 top minus (IntKind.wrap .u64 (r96_0 f b - 1)))
  else r95_0 top minus x48
noncomputable def core1 (f b e q24 q : Int) (ex : Bool) : Int :=
  let x20 := IntKind.wrap .i64 (IntKind.wrap .i64 (1 - b) - f)
  let x18 := IntKind.wrap .i64 (63 - f)
  let x22 := decide (IntKind.wrap .i64 (e + x18) < x20)
  let x32 := decide (IntKind.wrap .i64 (e + x18) < IntKind.wrap .i64 (x20 - 1)) || decide (q24 < ishl .u64 2 f)
  let x34 := dropOf f b e
  let x40 : Int := bif x22 && x32 then 3 else 1
  let x41 := bif !ex then x40 else 0
  let x44 := q == ishl .u64 2 f
  let x47 := bif x44 then IntKind.wrap .i64 (x34 + 1) else x34
  let x48 := bif x44 then ishr .u64 q 1 else q
  let x56 := IntKind.wrap .i64 (IntKind.wrap .i64 (IntKind.wrap .i64 (e + x47) - x20) + 1)
  bif !(decide (x48 < ishl .u64 1 f)) then (bif !(decide (x56 > IntKind.wrap .i64 (2 * b))) then x41 else 5) else x41

section
variable {s : Int} (hs : s = 4 ∨ s = 8)
include hs
theorem signed_ok (minus : Bool) {x : Nat} (hx : x < topN s) : r95_0 (topN s : Int) minus (x : Int) = ((sgB s minus + x : Nat) : Int) := by
  have htp : topN s = 2 ^ (if s = 4 then 31 else 63) := by rcases hs with rfl | rfl <;> decide
  obtain ⟨_, _, _, _, _, _, _, _, _, f10⟩ := size_facts hs
  simp only [r95_0]
  unfold sgB
  cases minus
  · simp
  · simp only [Bool.not_true, cond_false, if_true]
    rw [lor_nn (by omega) (by omega)]
    have : topN s = 1 * 2 ^ (if s = 4 then 31 else 63) := by rw [Nat.one_mul]; exact htp
    rw [this, or_high (by rw [← htp]; exact hx)]
    congr 1; omega
theorem inf96 : r96_0 (frN s : Int) (biN s : Int) = (infB s : Int) := by rcases hs with rfl | rfl <;> decide
theorem dropOf_ok {e : Int} (h1 : -100000 ≤ e) (h2 : e ≤ 100000) : dropOf (frN s) (biN s) e = lastOf (frN s) (biN s) (64 + e) - e ∧ 63 - frN s ≤ lastOf (frN s) (biN s) (64 + e) - e := by
  obtain ⟨f1, f2, f3, f4, _⟩ := size_facts hs
  have e1 : IntKind.wrap .i64 (63 - (frN s : Int)) = 63 - frN s := wrap_i64_of (by omega) (by omega)
  have e2 : IntKind.wrap .i64 (IntKind.wrap .i64 (1 - (biN s : Int)) - frN s) = least (frN s) (biN s) := by
    unfold least
    rw [wrap_i64_of (n := 1 - (biN s : Int)) (by omega) (by omega), wrap_i64_of (by omega) (by omega)]
  have hL : least (frN s) (biN s) = 1 - biN s - frN s := rfl
  unfold dropOf lastOf
  rw [e1, e2, wrap_i64_of (n := e + (63 - (frN s : Int))) (by omega) (by omega), wrap_i64_of (n := least (frN s) (biN s) - e) (by omega) (by omega)]
  by_cases h : 64 + e - frN s - 1 < least (frN s) (biN s)
  · rw [if_pos h, decide_eq_true (by omega)]
    exact ⟨rfl, by omega⟩
  · rw [if_neg h, decide_eq_false (by omega)]
    show 63 - (frN s : Int) = _ ∧ _
    omega
theorem core_ok {rm : Int} {minus : Bool} {m : Nat} {e : Int} (hm0 : 9223372036854775808 ≤ m) (hm : m < 18446744073709551616) (h1 : -100000 ≤ e) (h2 : e ≤ 100000) :
    core0 (frN s) (biN s) (topN s) rm minus e ((cutN rm minus m (dropOf (frN s) (biN s) e) false).1 : Int) = ((sgB s minus + (rnd (frN s) (biN s) rm minus m e false).1 : Nat) : Int) ∧
    core1 (frN s) (biN s) e ((cutN rm minus m (63 - frN s : Int) false).1 : Int) ((cutN rm minus m (dropOf (frN s) (biN s) e) false).1 : Int) (cutN rm minus m (dropOf (frN s) (biN s) e) false).2 = ((rnd (frN s) (biN s) rm minus m e false).2 : Int) := by
  obtain ⟨f1, f2, f3, f4, f5, f6, f7, f8, f9, f10⟩ := size_facts hs
  obtain ⟨d1, d2⟩ := dropOf_ok hs h1 h2
  have hbl : blen m = 64 := blen_eq (k := 63) hm0 hm
  have hsg : ∀ x : Nat, x < topN s → r95_0 (topN s : Int) minus (x : Int) = ((sgB s minus + x : Nat) : Int) := fun x hx => signed_ok hs minus hx
  have hin := inf96 hs
  have k1 : ishl .u64 1 (frN s : Int) = (oneN s : Int) := by rcases hs with rfl | rfl <;> decide
  have k2 : ishl .u64 2 (frN s : Int) = ((2 * oneN s : Nat) : Int) := by rcases hs with rfl | rfl <;> decide
  have kx : ∀ x : Nat, x * oneN s < 18446744073709551616 → ishl .u64 (x : Int) (frN s : Int) = ((x * oneN s : Nat) : Int) := fun x hx => by rw [shl_lt (by rw [f5]; exact hx), f5]
  have e1 : IntKind.wrap .i64 (63 - (frN s : Int)) = 63 - frN s := wrap_i64_of (by omega) (by omega)
  have e2 : IntKind.wrap .i64 (IntKind.wrap .i64 (1 - (biN s : Int)) - frN s) = least (frN s) (biN s) := by
    unfold least
    rw [wrap_i64_of (n := 1 - (biN s : Int)) (by omega) (by omega), wrap_i64_of (by omega) (by omega)]
  have e3 : IntKind.wrap .i64 (2 * (biN s : Int)) = 2 * biN s := wrap_i64_of (by omega) (by omega)
  have kn : ∀ q : Nat, oneN s ≤ q → q < 2 * oneN s → ilandNot .u64 (q : Int) (oneN s : Int) = ((q - oneN s : Nat) : Int) := fun q h1 h2 => by
    have := landNot_bit (a := (q : Int)) (m := (oneN s : Int)) (by omega) (by omega) (frN s) (by omega) (by rw [f5])
    rw [this]
    have : (q : Int) / oneN s = 1 := by
      have : q / oneN s = 1 := Nat.div_eq_of_lt_le (by omega) (by omega)
      omega
    rw [this]; omega
  rw [d1]
  unfold rnd
  rw [hbl]
  have hC : (cutN rm minus m (lastOf (frN s) (biN s) (64 + e) - e) false).1 ≤ 2 ^ (frN s + 1) := cutN_le (by rw [hbl]; omega)
  have hT : (cutN rm minus m (63 - frN s : Int) false).1 ≤ 2 ^ (frN s + 1) := cutN_le (by rw [hbl]; omega)
  have hT0 : 2 ^ frN s ≤ (cutN rm minus m (63 - frN s : Int) false).1 := by
    unfold cutN cutP
    rw [if_neg (by omega)]
    show 2 ^ frN s ≤ m / 2 ^ (63 - (frN s : Int)).toNat + _
    have : 2 ^ frN s ≤ m / 2 ^ (63 - (frN s : Int)).toNat := by
      rw [Nat.le_div_iff_mul_le (Nat.two_pow_pos _), ← Nat.pow_add, show frN s + (63 - (frN s : Int)).toNat = 63 by omega]
      exact hm0
    omega
  have et : ((64 : Nat) : Int) + e - frN s - 1 - e = 63 - frN s := by omega
  rw [et]
  have hlast : least (frN s) (biN s) ≤ lastOf (frN s) (biN s) (64 + e) ∧ lastOf (frN s) (biN s) (64 + e) ≤ 200000 := by
    have hL : least (frN s) (biN s) = 1 - biN s - frN s := rfl
    unfold lastOf; split <;> omega
  have h64 : ((64 : Nat) : Int) + e = 64 + e := rfl
  rw [h64]
  have hL : least (frN s) (biN s) = 1 - biN s - frN s := rfl
  unfold core0 core1
  dsimp only
  rw [d1]
  generalize cutN rm minus m (63 - frN s : Int) false = T at *
  generalize lastOf (frN s) (biN s) (64 + e) = last at *
  generalize cutN rm minus m (last - e) false = C at *
  obtain ⟨T1, T2⟩ := T
  obtain ⟨C1, C2⟩ := C
  dsimp only at *
  generalize hf : frN s = f at *
  generalize hbb : biN s = b at *
  generalize least f b = lst at *
  have hp1 : 2 ^ (f + 1) = 2 * oneN s := by rw [Nat.pow_succ, f5]; omega
  rw [hp1] at hC hT
  rw [f5] at hT0
  have b1 : ∀ n : Nat, n ≤ 2 * oneN s → (blen n > f + 1 ↔ n = 2 * oneN s) := fun n hn => by
    have := lt_blen (n := n) (k := f + 1)
    rw [hp1] at this
    omega
  have b2 : ∀ n : Nat, n < 2 * oneN s → (blen n = f + 1 ↔ oneN s ≤ n) := fun n hn => by
    have h1 := lt_blen (n := n) (k := f)
    have h2 := blen_le (n := n) (k := f + 1)
    rw [hp1] at h2
    rw [f5] at h1
    omega
  have q1 : ((C1 : Int) == ((2 * oneN s : Nat) : Int)) = decide (blen C1 > f + 1) := by
    rw [Bool.eq_iff_iff]; simp only [beq_iff_eq, dec]; have := b1 C1 hC; omega
  have q2 : (bif decide (blen C1 > f + 1) then ishr .u64 (C1 : Int) 1 else (C1 : Int)) = ((if blen C1 > f + 1 then C1 / 2 else C1 : Nat) : Int) := by
    by_cases h : blen C1 > f + 1
    · rw [if_pos h, decide_eq_true h, cond_true]
      have := shr_nat (x := C1) (by omega) 1
      rw [Nat.pow_one] at this; exact this
    · rw [if_neg h, decide_eq_false h]; rfl
  have q3 : (bif decide (blen C1 > f + 1) then IntKind.wrap .i64 (last - e + 1) else last - e) = (if blen C1 > f + 1 then last + 1 else last) - e := by
    by_cases h : blen C1 > f + 1
    · rw [if_pos h, decide_eq_true h, cond_true, wrap_i64_of (by omega) (by omega)]; omega
    · rw [if_neg h, decide_eq_false h]; rfl
  have hm' : (if blen C1 > f + 1 then C1 / 2 else C1) < 2 * oneN s := by
    split
    · omega
    · rename_i h; have := (b1 C1 hC); omega
  have hla : (if blen C1 > f + 1 then last + 1 else last) ≥ lst ∧ (if blen C1 > f + 1 then last + 1 else last) ≤ last + 1 := by split <;> omega
  have hll : least f b = lst := by rw [hL]; rfl
  unfold told
  dsimp only
  rw [k1, k2, q1, q2, q3, e1, e2, e3, hll]
  generalize (if blen C1 > f + 1 then C1 / 2 else C1) = q at *
  generalize (if blen C1 > f + 1 then last + 1 else last) = la at *
  have q4 : IntKind.wrap .i64 (IntKind.wrap .i64 (IntKind.wrap .i64 (e + (la - e)) - lst) + 1) = la - lst + 1 := by
    rw [wrap_i64_of (n := e + (la - e)) (by omega) (by omega), wrap_i64_of (n := e + (la - e) - lst) (by omega) (by omega), wrap_i64_of (by omega) (by omega)]; omega
  rw [q4]
  have q5 : (!decide ((q : Int) < (oneN s : Int))) = decide (blen q = f + 1) := by
    rw [Bool.eq_iff_iff]; simp only [Bool.not_eq_true', decide_eq_false_iff_not, dec]; have := b2 q hm'; omega
  have q6 : (!decide (la - lst + 1 > 2 * (b : Int))) = decide (¬ la + f > b) := by
    rw [Bool.eq_iff_iff]; simp only [Bool.not_eq_true', decide_eq_false_iff_not, dec]; omega
  have q7 : (((rm == 1) || ((rm == 2) && !minus)) || ((rm == 3) && minus)) = decide (rm = 1 ∨ (rm = 2 ∧ minus = false) ∨ (rm = 3 ∧ minus = true)) := by
    rw [Bool.eq_iff_iff]; simp only [Bool.or_eq_true, Bool.and_eq_true, beq_iff_eq, dec, Bool.not_eq_true']
    exact or_assoc
  rw [q5, q6, q7]
  have h6 : (2 * b + 2) * oneN s = 2 * b * oneN s + 2 * oneN s := Nat.add_mul _ _ _
  have h7 : (2 * b + 1) * oneN s = 2 * b * oneN s + oneN s := by rw [Nat.add_mul, Nat.one_mul]
  have hpos : 0 < 2 * b * oneN s := Nat.mul_pos (by omega) (by omega)
  constructor
  · by_cases hn : blen q = f + 1
    · have hq := (b2 q hm').1 hn
      rw [decide_eq_true hn, cond_true]
      by_cases ho : la + f > b
      · rw [decide_eq_false (fun h => h ho), cond_false, if_pos ⟨ho, hn⟩, hin, f5]
        by_cases hr : rm = 1 ∨ (rm = 2 ∧ minus = false) ∨ (rm = 3 ∧ minus = true)
        · rw [decide_eq_true hr, if_pos hr]
          simp only [Bool.not_true, cond_false]
          rw [show (infB s : Int) - 1 = ((infB s - 1 : Nat) : Int) by omega, wr64 (by omega), hsg _ (by omega), f6]
        · rw [decide_eq_false hr, if_neg hr]
          simp only [Bool.not_false, cond_true]
          rw [hsg _ (by omega), f6]; rfl
      · have h4 : (la - lst + 1).toNat ≤ 2 * b := by omega
        have h5 : (la - lst + 1).toNat * oneN s ≤ 2 * b * oneN s := Nat.mul_le_mul_right _ h4
        rw [decide_eq_true ho, cond_true, if_neg (fun h => ho h.1), if_pos hn, wrap_u64_of (n := la - lst + 1) (by omega) (by omega), show la - lst + 1 = (((la - lst + 1).toNat : Nat) : Int) by omega, kx _ (by omega), kn _ hq hm', Int.toNat_natCast,
          lor_nn (by omega) (by omega), Nat.or_comm, ← f5, or_high (by rw [f5]; omega), hsg _ (by rw [f5]; omega)]
    · have hq : q < oneN s := by have := b2 q hm'; omega
      rw [decide_eq_false hn, cond_false, if_neg (fun h => hn h.2), if_neg hn, hsg _ (by omega)]
  · have hc : tinyOf f b (64 + e) T1 = (decide (e + (63 - (f : Int)) < lst) && (decide (e + (63 - (f : Int)) < lst - 1) || decide (T1 < 2 * oneN s))) := by
      unfold tinyOf
      have hb1 := b1 T1 hT
      have hb2 : T1 < 2 * oneN s → blen T1 = f + 1 := fun h => (b2 T1 h).2 hT0
      have hb3 : T1 = 2 * oneN s → blen T1 = f + 2 := fun h => by
        have h5 := blen_of_le (n := T1) (k := f + 1) (by rw [hp1]; omega)
        have := hb1.2 h
        omega
      rw [hll, Bool.eq_iff_iff]
      simp only [Bool.and_eq_true, Bool.or_eq_true, dec]
      have : T1 < 2 * oneN s ∨ T1 = 2 * oneN s := by omega
      rcases this with h | h
      · have := hb2 h; omega
      · have := hb3 h; omega
    have z1 : IntKind.wrap .i64 (e + (63 - (f : Int))) = e + (63 - f) := wrap_i64_of (by omega) (by omega)
    have z2 : IntKind.wrap .i64 (lst - 1) = lst - 1 := wrap_i64_of (by omega) (by omega)
    have z3 : decide ((T1 : Int) < ((2 * oneN s : Nat) : Int)) = decide (T1 < 2 * oneN s) := by rw [decide_eq_decide]; omega
    rw [z1, z2, z3, ← hc]
    by_cases hn : blen q = f + 1
    · rw [decide_eq_true hn, cond_true]
      by_cases ho : la + f > b
      · rw [decide_eq_false (fun h => h ho), cond_false, if_pos ⟨ho, hn⟩]; rfl
      · rw [decide_eq_true ho, cond_true, if_neg (fun h => ho h.1)]
        cases C2 <;> cases tinyOf f b (64 + e) T1 <;> rfl
    · rw [decide_eq_false hn, cond_false, if_neg (fun h => hn h.2)]
      cases C2 <;> cases tinyOf f b (64 + e) T1 <;> rfl
end
end Go.Proofs.Ytacciadcmiiimaa

namespace Go.Proofs.Ytacciadcmiiimaa
open Go Go.Sx Go.Rnd
set_option maxRecDepth 100000
set_option maxHeartbeats 1000000

theorem half_parts (m n : Nat) (hn : 0 < n) : m % 2 ^ n = m / 2 ^ (n - 1) % 2 * 2 ^ (n - 1) + m % 2 ^ (n - 1) := by
  obtain ⟨k, rfl⟩ : ∃ k, n = k + 1 := ⟨n - 1, by omega⟩
  rw [Nat.add_sub_cancel, Nat.pow_succ, Nat.mod_mul, Nat.mul_comm (2 ^ k)]
  omega
theorem up_half (rm : Int) (minus odd : Bool) (m n : Nat) (hn : 0 < n) :
    (rm = 0 → (decide (m % 2 ^ n > 2 ^ (n - 1)) || (decide (m % 2 ^ n = 2 ^ (n - 1)) && odd)) = upB rm minus odd (m / 2 ^ (n - 1) % 2 == 1) (m % 2 ^ (n - 1) != 0)) ∧
    (rm = 2 → (minus && decide (m % 2 ^ n ≠ 0)) = upB rm minus odd (m / 2 ^ (n - 1) % 2 == 1) (m % 2 ^ (n - 1) != 0)) ∧
    (rm = 3 → (!minus && decide (m % 2 ^ n ≠ 0)) = upB rm minus odd (m / 2 ^ (n - 1) % 2 == 1) (m % 2 ^ (n - 1) != 0)) ∧
    (rm = 4 → decide (m % 2 ^ n ≥ 2 ^ (n - 1)) = upB rm minus odd (m / 2 ^ (n - 1) % 2 == 1) (m % 2 ^ (n - 1) != 0)) := by
  have h1 := half_parts m n hn
  have h2 : m % 2 ^ (n - 1) < 2 ^ (n - 1) := Nat.mod_lt _ (Nat.two_pow_pos _)
  have h3 : m / 2 ^ (n - 1) % 2 < 2 := Nat.mod_lt _ (by decide)
  generalize m % 2 ^ n = r at *
  generalize m % 2 ^ (n - 1) = t at *
  generalize m / 2 ^ (n - 1) % 2 = h at *
  generalize 2 ^ (n - 1) = P at *
  have hh : h = 0 ∨ h = 1 := by omega
  refine ⟨?_, ?_, ?_, ?_⟩ <;> rintro rfl <;> unfold upB <;> rcases hh with rfl | rfl
  · have e1 : decide (r > P) = false := decide_eq_false (by omega)
    have e2 : decide (r = P) = false := decide_eq_false (by omega)
    rw [e1, e2]; simp
  · by_cases ht : t = 0
    · have e1 : decide (r > P) = false := decide_eq_false (by omega)
      have e2 : decide (r = P) = true := decide_eq_true (by omega)
      rw [e1, e2, ht]; simp
    · have e1 : decide (r > P) = true := decide_eq_true (by omega)
      have e2 : (t != 0) = true := by simpa using ht
      rw [e1, e2]; simp
  · have : decide (r ≠ 0) = (t != 0) := by rw [Bool.eq_iff_iff]; simp only [dec, bne_iff_ne]; omega
    rw [this]; simp
  · have : decide (r ≠ 0) = true := decide_eq_true (by omega)
    rw [this]; simp
  · have : decide (r ≠ 0) = (t != 0) := by rw [Bool.eq_iff_iff]; simp only [dec, bne_iff_ne]; omega
    rw [this]; simp
  · have : decide (r ≠ 0) = true := decide_eq_true (by omega)
    rw [this]; simp
  · have : decide (r ≥ P) = false := decide_eq_false (by omega)
    rw [this]; simp
  · have : decide (r ≥ P) = true := decide_eq_true (by omega)
    rw [this]; simp
theorem more_ok (rm : Int) (minus odd : Bool) (m n : Nat) (hn : 0 < n) : r127_0 rm minus odd ((m % 2 ^ n : Nat) : Int) ((2 ^ (n - 1) : Nat) : Int) = upB rm minus odd (m / 2 ^ (n - 1) % 2 == 1) (m % 2 ^ (n - 1) != 0) := by
  obtain ⟨u0, u2, u3, u4⟩ := up_half rm minus odd m n hn
  have e1 : decide (((m % 2 ^ n : Nat) : Int) > ((2 ^ (n - 1) : Nat) : Int)) = decide (m % 2 ^ n > 2 ^ (n - 1)) := by rw [decide_eq_decide]; omega
  have e2 : (((m % 2 ^ n : Nat) : Int) == ((2 ^ (n - 1) : Nat) : Int)) = decide (m % 2 ^ n = 2 ^ (n - 1)) := by rw [Bool.eq_iff_iff]; simp only [beq_iff_eq, dec]; omega
  have e3 : (((m % 2 ^ n : Nat) : Int) != 0) = decide (m % 2 ^ n ≠ 0) := by rw [Bool.eq_iff_iff]; simp only [bne_iff_ne, dec]; omega
  have e4 : decide (((m % 2 ^ n : Nat) : Int) ≥ ((2 ^ (n - 1) : Nat) : Int)) = decide (m % 2 ^ n ≥ 2 ^ (n - 1)) := by rw [decide_eq_decide]; omega
  simp only [r127_0, e1, e2, e3, e4]
  by_cases h0 : rm = 0
  · rw [← u0 h0]; subst h0; rfl
  · by_cases h2 : rm = 2
    · rw [← u2 h2]; subst h2; rfl
    · by_cases h3 : rm = 3
      · rw [← u3 h3]; subst h3; rfl
      · by_cases h4 : rm = 4
        · rw [← u4 h4]; subst h4; rfl
        · simp [upB, ibeq, h0, h2, h3, h4]
theorem low_mask {m n : Nat} (hm : m < 18446744073709551616) (hn : n < 64) : iland .u64 (m : Int) (IntKind.wrap .u64 (ishl .u64 1 (n : Int) - 1)) = ((m % 2 ^ n : Nat) : Int) := by
  have hp : 2 ^ n ≤ 2 ^ 63 := Nat.pow_le_pow_right (by decide) (by omega)
  have h1 := shl_lt (x := 1) (s := n) (by omega)
  have h1 : ishl .u64 1 (n : Int) = ((2 ^ n : Nat) : Int) := by rw [Nat.one_mul] at h1; exact h1
  have := Nat.two_pow_pos n
  rw [h1, show ((2 ^ n : Nat) : Int) - 1 = ((2 ^ n - 1 : Nat) : Int) by omega, wr64 (by omega), land_low hm (by omega)]
theorem cutP_far {rm : Int} {minus : Bool} {m n : Nat} (hm0 : 0 < m) (hm : m < 18446744073709551616) (hn : 64 < n) : cutP rm minus m n false = cutP rm minus 1 2 false := by
  have h1 : 18446744073709551616 ≤ 2 ^ (n - 1) := Nat.pow_le_pow_right (n := 2) (by decide) (show 64 ≤ n - 1 by omega)
  have h2 : 2 ^ n = 2 * 2 ^ (n - 1) := by rw [← Nat.pow_succ']; congr 1; omega
  unfold cutP
  rw [Nat.div_eq_of_lt (show m < 2 ^ n by omega), Nat.div_eq_of_lt (show m < 2 ^ (n - 1) by omega), Nat.mod_eq_of_lt (show m < 2 ^ (n - 1) by omega), Nat.mod_eq_of_lt (show m < 2 ^ n by omega)]
  have e1 : (m != 0) = true := by simp; omega
  have e2 : (m == 0) = false := by simp; omega
  rw [e1, e2]
  rfl
theorem shl_one {n : Nat} (hn : n < 64) : ishl .u64 1 (n : Int) = ((2 ^ n : Nat) : Int) := by
  have hp : 2 ^ n ≤ 2 ^ 63 := Nat.pow_le_pow_right (by decide) (by omega)
  have h1 := shl_lt (x := 1) (s := n) (by omega)
  rw [Nat.one_mul] at h1; exact h1
theorem odd_word {x : Nat} (hx : x < 18446744073709551616) : (iland .u64 (x : Int) 1 == 1) = (x % 2 == 1) := by
  have := land_nn hx (show 1 < 18446744073709551616 by decide)
  rw [(one_parts _).1] at this
  rw [show iland .u64 (x : Int) 1 = ((x % 2 : Nat) : Int) from this, ib1]
theorem scut_near (rm : Int) (minus : Bool) {m n : Nat} (hm : m < 18446744073709551616) (hn : 0 < n) (hn2 : n < 64) : r122_0 rm minus (m : Int) (n : Int) = ((cutP rm minus m n false).1 : Int) ∧ r122_1 (m : Int) (n : Int) = (cutP rm minus m n false).2 := by
  have e4 : decide ((n : Int) > 64) = false := decide_eq_false (by omega)
  have e7 : ((n : Int) == 64) = false := by simp; omega
  have e20 : IntKind.wrap .i64 ((n : Int) - 1) = ((n - 1 : Nat) : Int) := by rw [wrap_i64_of (by omega) (by omega)]; omega
  have hd : m / 2 ^ n < 9223372036854775808 := by
    rw [Nat.div_lt_iff_lt_mul (Nat.two_pow_pos n)]
    have : 2 ^ 1 ≤ 2 ^ n := Nat.pow_le_pow_right (by decide) hn
    have : 9223372036854775808 * 2 ≤ 9223372036854775808 * 2 ^ n := Nat.mul_le_mul_left _ this
    omega
  have hr : ∀ b : Bool, (b || false) = b := fun b => by simp
  unfold cutP
  rw [hr]
  constructor
  · simp only [r122_0, e4, e7, cond_false, Bool.not_false, cond_true, low_mask hm hn2, shr_nat hm n, e20, shl_one (show n - 1 < 64 by omega), odd_word (show m / 2 ^ n < 18446744073709551616 by omega), more_ok rm minus _ m n hn]
    cases upB rm minus (m / 2 ^ n % 2 == 1) (m / 2 ^ (n - 1) % 2 == 1) (m % 2 ^ (n - 1) != 0)
    · rfl
    · rw [cond_true, show ((m / 2 ^ n : Nat) : Int) + 1 = ((m / 2 ^ n + 1 : Nat) : Int) by omega, wr64 (by omega)]; rfl
  · simp only [r122_1, e4, e7, cond_false, Bool.not_false, cond_true, low_mask hm hn2]
    rw [Bool.eq_iff_iff]
    simp only [beq_iff_eq, Bool.and_true]
    omega
theorem scut_64 (rm : Int) (minus : Bool) {m : Nat} (hm : m < 18446744073709551616) : r122_0 rm minus (m : Int) 64 = ((cutP rm minus m 64 false).1 : Int) ∧ r122_1 (m : Int) 64 = (cutP rm minus m 64 false).2 := by
  have hr : ∀ b : Bool, (b || false) = b := fun b => by simp
  have h64 : m % 2 ^ 64 = m := Nat.mod_eq_of_lt hm
  have hq : m / 2 ^ 64 = 0 := Nat.div_eq_of_lt hm
  have hmo := more_ok rm minus false m 64 (by decide)
  rw [h64] at hmo
  unfold cutP
  rw [hr, hq, h64]
  constructor
  · have : r122_0 rm minus (m : Int) 64 = bif r127_0 rm minus false (m : Int) 9223372036854775808 then 1 else 0 := rfl
    rw [this]
    have : r127_0 rm minus false (m : Int) 9223372036854775808 = r127_0 rm minus false (m : Int) ((2 ^ (64 - 1) : Nat) : Int) := rfl
    rw [this, hmo]
    show _ = (((0 + if upB rm minus false (m / 2 ^ (64 - 1) % 2 == 1) (m % 2 ^ (64 - 1) != 0) = true then 1 else 0 : Nat)) : Int)
    cases upB rm minus false (m / 2 ^ (64 - 1) % 2 == 1) (m % 2 ^ (64 - 1) != 0) <;> rfl
  · show ((m : Int) == 0) = (m == 0 && !false)
    rw [Bool.eq_iff_iff]
    simp only [beq_iff_eq, Bool.not_false, Bool.and_true]
    omega
theorem scut_ok (rm : Int) (minus : Bool) {m : Nat} {b : Int} (hm0 : 0 < m) (hm : m < 18446744073709551616) (hb : 0 < b) : r122_0 rm minus (m : Int) b = ((cutN rm minus m b false).1 : Int) ∧ r122_1 (m : Int) b = (cutN rm minus m b false).2 := by
  unfold cutN
  rw [if_neg (by omega)]
  obtain ⟨n, rfl⟩ : ∃ n : Nat, b = (n : Int) := ⟨b.toNat, by omega⟩
  rw [Int.toNat_natCast]
  by_cases h : n < 64
  · exact scut_near rm minus hm (by omega) h
  · by_cases h2 : n = 64
    · subst h2; exact scut_64 rm minus hm
    · rw [cutP_far hm0 hm (by omega)]
      have e4 : decide ((n : Int) > 64) = true := decide_eq_true (by omega)
      have hc := scut_near rm minus (m := 1) (n := 2) (by decide) (by decide) (by decide)
      have g1 : r122_0 rm minus (m : Int) (n : Int) = r122_0 rm minus ((1 : Nat) : Int) ((2 : Nat) : Int) := by simp only [r122_0, e4]; rfl
      have g2 : r122_1 (m : Int) (n : Int) = r122_1 ((1 : Nat) : Int) ((2 : Nat) : Int) := by simp only [r122_1, e4]; rfl
      rw [g1, g2]
      exact hc
theorem p122_ok {b : Int} (hb : 0 < b) (hb2 : b < 9223372036854775808) : p122 b = true := by
  simp only [p122]
  by_cases h : b > 64
  · rw [decide_eq_true h]; rfl
  · rw [decide_eq_false h]
    have a : decide ((bif false then (2 : Int) else b) ≥ 0) = true := decide_eq_true (show b ≥ 0 by omega)
    have c : decide (IntKind.wrap .i64 ((bif false then (2 : Int) else b) - 1) ≥ 0) = true := decide_eq_true (show IntKind.wrap .i64 (b - 1) ≥ 0 by rw [wrap_i64_of (by omega) (by omega)]; omega)
    rw [a, c]
    simp only [ow_t]; rfl
section
variable {s : Int} (hs : s = 4 ∨ s = 8)
include hs
end
end Go.Proofs.Ytacciadcmiiimaa

namespace Go.Proofs.Ytacciadcmiiimaa
open Go Go.Sx Go.Rnd
set_option maxRecDepth 100000
set_option maxHeartbeats 1000000

def hiN (P : Nat) : Nat := P / 18446744073709551616
def loN (P : Nat) : Nat := P % 18446744073709551616
def two128 : Nat := 340282366920938463463374607431768211456
theorem hi_lo (P : Nat) : P = hiN P * 18446744073709551616 + loN P := by unfold hiN loN; omega
theorem lo_lt (P : Nat) : loN P < 18446744073709551616 := Nat.mod_lt _ (by decide)
theorem hi_lt {P : Nat} (h : P < two128) : hiN P < 18446744073709551616 := by unfold hiN; unfold two128 at h; omega
theorem hi_of {h l : Nat} (hl : l < 18446744073709551616) : hiN (h * 18446744073709551616 + l) = h := by unfold hiN; omega
theorem lo_of {h l : Nat} (hl : l < 18446744073709551616) : loN (h * 18446744073709551616 + l) = l := by unfold loN; omega
theorem p64 (n : Nat) (hn : n ≤ 64) : 18446744073709551616 = 2 ^ (64 - n) * 2 ^ n := by rw [← Nat.pow_add, show 64 - n + n = 64 by omega]
theorem mulmod (x n : Nat) (hn : n ≤ 64) : x * 2 ^ n % 18446744073709551616 = x % 2 ^ (64 - n) * 2 ^ n := by
  rw [p64 n hn]; exact Nat.mul_mod_mul_right ..
theorem muldiv (x n : Nat) (hn : n ≤ 64) : x * 2 ^ n / 18446744073709551616 = x / 2 ^ (64 - n) := by
  rw [p64 n hn]; exact Nat.mul_div_mul_right _ _ (Nat.two_pow_pos n)

theorem zeros_ok {P : Nat} (hP : P < two128) : p121 (hiN P) (loN P) = true ∧ r121_0 (hiN P) (loN P) = ((128 - blen P : Nat) : Int) := by
  have h1 := hi_lt hP
  have h2 := lo_lt P
  have e := hi_lo P
  have l1 := lz64 h1
  have l2 := lz64 h2
  have b2 : blen (loN P) ≤ 64 := blen_le.2 h2
  have b1 : blen (hiN P) ≤ 64 := blen_le.2 h1
  refine ⟨by simp only [p121, p115_ok, ow_t, List.all_cons, List.all_nil, id, Bool.and_true], ?_⟩
  simp only [r121_0, l1, l2]
  by_cases h : hiN P = 0
  · have : ((hiN P : Int) == 0) = true := by rw [h]; rfl
    rw [this, Bool.not_true, cond_false, wrap_i64_of (by omega) (by omega)]
    have : P = loN P := by rw [h] at e; omega
    rw [← this] at b2 ⊢
    omega
  · have : ((hiN P : Int) == 0) = false := by simpa using h
    rw [this, Bool.not_false, cond_true]
    have := blen_shift (h := hiN P) (j := 64) (l := loN P) (by omega) h2
    have e2 : hiN P * 2 ^ 64 + loN P = P := e.symm
    rw [e2] at this
    rw [this]
    congr 1; omega
theorem up_ok2 {P n : Nat} (hn : n < 128) (h : P * 2 ^ n < two128) : p106 (n : Int) = true ∧ r106_0 (hiN P) (loN P) (n : Int) = (hiN (P * 2 ^ n) : Int) ∧ r106_1 (loN P) (n : Int) = (loN (P * 2 ^ n) : Int) := by
  have h2 := lo_lt P
  have e := hi_lo P
  have hle : P ≤ P * 2 ^ n := Nat.le_mul_of_pos_right _ (Nat.two_pow_pos n)
  have h1 : hiN P < 18446744073709551616 := hi_lt (Nat.lt_of_le_of_lt hle h)
  by_cases c : n ≥ 64
  · have e3 : decide ((n : Int) ≥ 64) = true := decide_eq_true (by omega)
    have e4 : IntKind.wrap .i64 ((n : Int) - 64) = ((n - 64 : Nat) : Int) := by rw [wrap_i64_of (by omega) (by omega)]; omega
    have hp : 2 ^ n = 2 ^ (n - 64) * 18446744073709551616 := by
      have : 2 ^ n = 2 ^ (n - 64) * 2 ^ 64 := by rw [← Nat.pow_add]; congr 1; omega
      rw [this]
    have hP0 : P < 18446744073709551616 := by
      refine Nat.lt_of_not_le fun hc => ?_
      have a := Nat.mul_le_mul_right (2 ^ n) hc
      have b : 18446744073709551616 * 1 ≤ 18446744073709551616 * 2 ^ (n - 64) := Nat.mul_le_mul_left _ (Nat.two_pow_pos _)
      rw [hp, ← Nat.mul_assoc] at a
      have b2 := Nat.mul_le_mul_right 18446744073709551616 b
      unfold two128 at h
      rw [hp] at h
      omega
    have hl : loN P = P := Nat.mod_eq_of_lt hP0
    have hh : P * 2 ^ n = P * 2 ^ (n - 64) * 18446744073709551616 + 0 := by rw [hp, ← Nat.mul_assoc, Nat.add_zero]
    refine ⟨?_, ?_, ?_⟩
    · simp only [p106, e3, e4]
      rw [decide_eq_true (show ((n - 64 : Nat) : Int) ≥ 0 by omega)]
      simp [ow]
    · simp only [r106_0, e3, e4, hl, Bool.not_true, cond_false]
      rw [hh, hi_of (by decide), shl_lt]
      rw [hh] at h; unfold two128 at h; omega
    · simp only [r106_1, e3, Bool.not_true, cond_false]
      rw [hh, lo_of (by decide)]; rfl
  · have e3 : decide ((n : Int) ≥ 64) = false := decide_eq_false (by omega)
    by_cases c0 : n = 0
    · subst c0
      rw [Nat.pow_zero, Nat.mul_one]
      exact ⟨rfl, rfl, rfl⟩
    · have e8 : ((n : Int) == 0) = false := by simp; omega
      have e12 : IntKind.wrap .i64 (64 - (n : Int)) = ((64 - n : Nat) : Int) := by rw [wrap_i64_of (by omega) (by omega)]; omega
      have hx : hiN P * 2 ^ n < 18446744073709551616 := by
        have : hiN P * 18446744073709551616 * 2 ^ n ≤ P * 2 ^ n := Nat.mul_le_mul_right _ (by omega)
        rw [Nat.mul_right_comm] at this
        unfold two128 at h; omega
      have hy : loN P / 2 ^ (64 - n) < 2 ^ n := by
        rw [Nat.div_lt_iff_lt_mul (Nat.two_pow_pos _), Nat.mul_comm, ← p64 n (by omega)]; exact h2
      have ht : P * 2 ^ n = (hiN P * 2 ^ n + loN P / 2 ^ (64 - n)) * 18446744073709551616 + loN P * 2 ^ n % 18446744073709551616 := by
        conv => lhs; rw [e]
        rw [Nat.add_mul, Nat.mul_right_comm, ← muldiv _ n (by omega), Nat.add_mul]
        omega
      refine ⟨?_, ?_, ?_⟩
      · simp only [p106, e3, e8, e12]
        rw [decide_eq_true (show ((64 - n : Nat) : Int) ≥ 0 by omega), decide_eq_true (show (n : Int) ≥ 0 by omega)]
        simp [ow]
      · simp only [r106_0, e3, e8, e12, Bool.not_false, cond_true]
        rw [shl_lt hx, shr_nat h2, lor_nn hx (Nat.lt_of_le_of_lt (Nat.div_le_self _ _) h2), Nat.or_comm, or_high hy, ht, hi_of (Nat.mod_lt _ (by decide)), Nat.add_comm]
      · simp only [r106_1, e3, e8, Bool.not_false, cond_true]
        rw [ht, lo_of (Nat.mod_lt _ (by decide)), shl_nat]

def jamN (P n : Nat) : Nat := if P % 2 ^ n = 0 then P / 2 ^ n else P / 2 ^ n ||| 1
theorem or_one (x : Nat) : x ||| 1 = x / 2 * 2 + 1 := (one_parts x).2.1
theorem hi_or (P : Nat) : hiN (P ||| 1) = hiN P := by rw [or_one]; unfold hiN; omega
theorem lo_or (P : Nat) : loN (P ||| 1) = loN P ||| 1 := by rw [or_one, or_one]; unfold loN; omega
theorem jam_lt {P n : Nat} (h : P < two128) : jamN P n < two128 := by
  have h1 : P / 2 ^ n < two128 := Nat.lt_of_le_of_lt (Nat.div_le_self _ _) h
  unfold jamN
  split
  · exact h1
  · rw [or_one]; unfold two128 at *; omega
theorem jam_ok {P n : Nat} (h : P < two128) (hn : n < 9223372036854775808) : p123 (loN P) (n : Int) = true ∧ r123_0 (hiN P) (loN P) (n : Int) = (hiN (jamN P n) : Int) ∧ r123_1 (hiN P) (loN P) (n : Int) = (loN (jamN P n) : Int) := by
  have h2 := lo_lt P
  have h1 := hi_lt h
  have e := hi_lo P
  by_cases c0 : n = 0
  · subst c0
    have : jamN P 0 = P := by unfold jamN; rw [Nat.pow_zero, Nat.mod_one, if_pos rfl, Nat.div_one]
    rw [this]
    refine ⟨rfl, rfl, rfl⟩
  have e3 : decide ((n : Int) ≤ 0) = false := decide_eq_false (by omega)
  by_cases c1 : n ≥ 128
  · have e4 : decide ((n : Int) ≥ 128) = true := decide_eq_true (by omega)
    have hp : two128 ≤ 2 ^ n := Nat.pow_le_pow_right (n := 2) (by decide) c1
    have hz : (((hiN P : Int) == 0) && ((loN P : Int) == 0)) = decide (P = 0) := by
      rw [Bool.eq_iff_iff]; simp only [Bool.and_eq_true, beq_iff_eq, dec]; omega
    have hj : jamN P n = if P = 0 then 0 else 1 := by
      unfold jamN
      rw [Nat.mod_eq_of_lt (by omega), Nat.div_eq_of_lt (by omega)]
      rfl
    rw [hj]
    refine ⟨?_, ?_, ?_⟩
    · simp only [p123, e3, e4]; rfl
    · simp only [r123_0, e3, e4, hz]
      by_cases hP : P = 0
      · rw [if_pos hP, decide_eq_true hP]
        show (hiN P : Int) = _
        rw [hP]
      · rw [if_neg hP, decide_eq_false hP]; rfl
    · simp only [r123_1, e3, e4, hz]
      by_cases hP : P = 0
      · rw [if_pos hP, decide_eq_true hP]
        show (loN P : Int) = _
        rw [hP]
      · rw [if_neg hP, decide_eq_false hP]; rfl
  have e4 : decide ((n : Int) ≥ 128) = false := decide_eq_false (by omega)
  by_cases c2 : n ≥ 64
  · have e10 : decide ((n : Int) ≥ 64) = true := decide_eq_true (by omega)
    have e11 : IntKind.wrap .i64 ((n : Int) - 64) = ((n - 64 : Nat) : Int) := by rw [wrap_i64_of (by omega) (by omega)]; omega
    have e16 : IntKind.wrap .i64 (128 - (n : Int)) = ((128 - n : Nat) : Int) := by rw [wrap_i64_of (by omega) (by omega)]; omega
    have hp : 2 ^ n = 18446744073709551616 * 2 ^ (n - 64) := by
      have : 2 ^ n = 2 ^ 64 * 2 ^ (n - 64) := by rw [← Nat.pow_add]; congr 1; omega
      rw [this]
    have hd : P / 2 ^ n = hiN P / 2 ^ (n - 64) := by rw [hp, ← Nat.div_div_eq_div_mul]; rfl
    have hm : P % 2 ^ n = loN P + 18446744073709551616 * (hiN P % 2 ^ (n - 64)) := by rw [hp, Nat.mod_mul]; rfl
    have hs : ((ishl .u64 (hiN P : Int) ((128 - n : Nat) : Int)) != 0) = decide (hiN P % 2 ^ (n - 64) ≠ 0) := by
      rw [shl_nat, mulmod _ _ (by omega), show 64 - (128 - n) = n - 64 by omega, Bool.eq_iff_iff]
      simp only [bne_iff_ne, dec]
      have := Nat.two_pow_pos (128 - n)
      have h5 : hiN P % 2 ^ (n - 64) * 2 ^ (128 - n) = 0 ↔ hiN P % 2 ^ (n - 64) = 0 := by rw [Nat.mul_eq_zero]; omega
      omega
    have hb : (((loN P : Int) != 0) || (decide ((n : Int) > 64) && decide (hiN P % 2 ^ (n - 64) ≠ 0))) = decide (P % 2 ^ n ≠ 0) := by
      rw [hm, Bool.eq_iff_iff]
      simp only [Bool.or_eq_true, Bool.and_eq_true, bne_iff_ne, dec]
      have : n = 64 → hiN P % 2 ^ (n - 64) = 0 := fun h => by subst h; exact Nat.mod_one _
      omega
    have hq : hiN P / 2 ^ (n - 64) < 18446744073709551616 := Nat.lt_of_le_of_lt (Nat.div_le_self _ _) h1
    refine ⟨?_, ?_, ?_⟩
    · simp only [p123, e3, e4, e10, e11, e16]
      rw [decide_eq_true (show ((n - 64 : Nat) : Int) ≥ 0 by omega), decide_eq_true (show ((128 - n : Nat) : Int) ≥ 0 by omega)]
      simp [ow]
    · simp only [r123_0, e3, e4, e10]
      have : hiN (jamN P n) = 0 := by
        have : jamN P n < 18446744073709551616 := by
          unfold jamN; rw [hd]; split
          · exact hq
          · rw [or_one]; omega
        unfold hiN; omega
      rw [this]; rfl
    · simp only [r123_1, e3, e4, e10, e11, e16, hs, hb]
      unfold jamN
      by_cases hz : P % 2 ^ n = 0
      · rw [if_pos hz, decide_eq_false (fun h => h hz), hd]
        have : loN (hiN P / 2 ^ (n - 64)) = hiN P / 2 ^ (n - 64) := Nat.mod_eq_of_lt hq
        rw [this]
        exact shr_nat h1 _
      · rw [if_neg hz, decide_eq_true hz, hd, lo_or]
        have : loN (hiN P / 2 ^ (n - 64)) = hiN P / 2 ^ (n - 64) := Nat.mod_eq_of_lt hq
        rw [this]
        have h5 := lor_nn hq (show 1 < 18446744073709551616 by decide)
        rw [← shr_nat h1 (n - 64)] at h5
        exact h5
  · have e10 : decide ((n : Int) ≥ 64) = false := decide_eq_false (by omega)
    have e31 : IntKind.wrap .i64 (64 - (n : Int)) = ((64 - n : Nat) : Int) := by rw [wrap_i64_of (by omega) (by omega)]; omega
    have hx : loN P / 2 ^ n < 2 ^ (64 - n) := by
      rw [Nat.div_lt_iff_lt_mul (Nat.two_pow_pos _), ← p64 n (by omega)]; exact h2
    have hd : P / 2 ^ n = hiN P * 2 ^ (64 - n) + loN P / 2 ^ n := by
      conv => lhs; rw [e]
      rw [p64 n (by omega), ← Nat.mul_assoc, Nat.mul_comm, Nat.mul_add_div (Nat.two_pow_pos n)]
    have hm : P % 2 ^ n = loN P % 2 ^ n := by
      conv => lhs; rw [e]
      rw [p64 n (by omega), ← Nat.mul_assoc, Nat.mul_comm, Nat.mul_add_mod]
    have hdh : hiN (P / 2 ^ n) = hiN P / 2 ^ n := by
      have a := Nat.div_add_mod' (hiN P * 2 ^ (64 - n)) 18446744073709551616
      have b := mulmod (hiN P) (64 - n) (by omega)
      have c := muldiv (hiN P) (64 - n) (by omega)
      rw [show 64 - (64 - n) = n by omega] at b c
      rw [c, b] at a
      rw [hd, ← a, Nat.add_assoc, hi_of]
      have : (hiN P % 2 ^ n + 1) * 2 ^ (64 - n) ≤ 2 ^ n * 2 ^ (64 - n) := Nat.mul_le_mul_right _ (Nat.mod_lt _ (Nat.two_pow_pos n))
      rw [Nat.mul_comm (2 ^ n), ← p64 n (by omega), Nat.add_mul] at this
      omega
    have hdl : loN (P / 2 ^ n) = loN P / 2 ^ n ||| (hiN P * 2 ^ (64 - n) % 18446744073709551616) := by
      have a := Nat.div_add_mod' (hiN P * 2 ^ (64 - n)) 18446744073709551616
      have b := mulmod (hiN P) (64 - n) (by omega)
      rw [show 64 - (64 - n) = n by omega] at b
      rw [b] at a
      rw [b, or_high hx, hd, ← a, Nat.add_assoc, lo_of, Nat.add_comm]
      have : (hiN P % 2 ^ n + 1) * 2 ^ (64 - n) ≤ 2 ^ n * 2 ^ (64 - n) := Nat.mul_le_mul_right _ (Nat.mod_lt _ (Nat.two_pow_pos n))
      rw [Nat.mul_comm (2 ^ n), ← p64 n (by omega), Nat.add_mul] at this
      omega
    have hs : ((ishl .u64 (loN P : Int) ((64 - n : Nat) : Int)) != 0) = decide (P % 2 ^ n ≠ 0) := by
      rw [shl_nat, mulmod _ _ (by omega), show 64 - (64 - n) = n by omega, hm, Bool.eq_iff_iff]
      simp only [bne_iff_ne, dec]
      have := Nat.two_pow_pos (64 - n)
      have h5 : loN P % 2 ^ n * 2 ^ (64 - n) = 0 ↔ loN P % 2 ^ n = 0 := by rw [Nat.mul_eq_zero]; omega
      omega
    have hw1 : loN P / 2 ^ n < 18446744073709551616 := Nat.lt_of_le_of_lt (Nat.div_le_self _ _) h2
    have hl := lor_nn hw1 (Nat.mod_lt (hiN P * 2 ^ (64 - n)) (show 0 < 18446744073709551616 by decide))
    rw [← hdl] at hl
    refine ⟨?_, ?_, ?_⟩
    · simp only [p123, e3, e4, e10, e31]
      rw [decide_eq_true (show ((64 - n : Nat) : Int) ≥ 0 by omega), decide_eq_true (show (n : Int) ≥ 0 by omega)]
      simp [ow]
    · simp only [r123_0, e3, e4, e10]
      have : hiN (jamN P n) = hiN P / 2 ^ n := by
        unfold jamN; split
        · exact hdh
        · rw [hi_or, hdh]
      rw [this]
      exact shr_nat h1 n
    · rw [shl_nat] at hs
      simp only [r123_1, e3, e4, e10, e31, shr_nat h2 n, shl_nat, hs, hl]
      unfold jamN
      by_cases hz : P % 2 ^ n = 0
      · rw [if_pos hz, decide_eq_false (fun h => h hz)]; rfl
      · rw [if_neg hz, decide_eq_true hz, lo_or]
        exact lor_nn (lo_lt _) (show 1 < 18446744073709551616 by decide)

section
variable {s : Int} (hs : s = 4 ∨ s = 8)
include hs
theorem sround_ok {rm : Int} {minus : Bool} {P : Nat} {e : Int} (hP0 : 0 < P) (hP : P < two128) (h1 : -50000 ≤ e) (h2 : e ≤ 50000) :
    p98 (frN s) (biN s) rm minus e (hiN P) (loN P) = true ∧ r98_0 (frN s) (biN s) (topN s) rm minus e (hiN P) (loN P) = ((sgB s minus + (rnd (frN s) (biN s) rm minus P e false).1 : Nat) : Int) ∧
    r98_1 (frN s) (biN s) rm minus e (hiN P) (loN P) = ((rnd (frN s) (biN s) rm minus P e false).2 : Int) := by
  obtain ⟨f1, f2, f3, f4, f5, f6, f7, f8, f9, f10⟩ := size_facts hs
  have hb := blen_pos hP0
  have hb2 : blen P ≤ 128 := blen_le.2 hP
  have hlo := blen_low hP0
  have hup := blen_self (n := P)
  obtain ⟨z1, z2⟩ := zeros_ok hP
  generalize hn : 128 - blen P = n at *
  have hm0 : 170141183460469231731687303715884105728 ≤ P * 2 ^ n := by
    have : 2 ^ (blen P - 1) * 2 ^ n ≤ P * 2 ^ n := Nat.mul_le_mul_right _ hlo
    rw [← Nat.pow_add, show blen P - 1 + n = 127 by omega] at this
    exact this
  have hm : P * 2 ^ n < two128 := by
    have : P * 2 ^ n < 2 ^ blen P * 2 ^ n := Nat.mul_lt_mul_of_pos_right hup (Nat.two_pow_pos n)
    rw [← Nat.pow_add, show blen P + n = 128 by omega] at this
    exact this
  obtain ⟨u0, u1, u2⟩ := up_ok2 (P := P) (n := n) (by omega) hm
  have e13 : IntKind.wrap .i64 (64 - (n : Int)) = 64 - n := wrap_i64_of (by omega) (by omega)
  have e14 : IntKind.wrap .i64 (e + (64 - n)) = e + (64 - n) := wrap_i64_of (by omega) (by omega)
  have hh := hi_lt hm
  have hl := lo_lt (P * 2 ^ n)
  have ee := hi_lo (P * 2 ^ n)
  have hh0 : 9223372036854775808 ≤ hiN (P * 2 ^ n) := by unfold hiN; omega
  have hsc := rnd_scale (f := frN s) (b := biN s) (rm := rm) (minus := minus) (M := P) (k := n) (E := e) hP0
  have hnear := rnd_near (f := frN s) (b := biN s) (rm := rm) (minus := minus) (h := hiN (P * 2 ^ n)) (j := 64) (l := loN (P * 2 ^ n)) (e := e + (64 - n)) (more := false) (by
    have : 2 ^ (frN s + 2) ≤ 2 ^ 63 := Nat.pow_le_pow_right (by decide) (by omega)
    omega) hl
  have ee2 : hiN (P * 2 ^ n) * 2 ^ 64 + loN (P * 2 ^ n) = P * 2 ^ n := ee.symm
  rw [ee2, show e + (64 - (n : Int)) - (64 : Nat) = e - n by omega, hsc] at hnear
  have hmw : (bif ((loN (P * 2 ^ n) : Int) != 0) then ilor .u64 (hiN (P * 2 ^ n) : Int) 1 else (hiN (P * 2 ^ n) : Int)) = ((if loN (P * 2 ^ n) ≠ 0 ∨ false = true then hiN (P * 2 ^ n) ||| 1 else hiN (P * 2 ^ n) : Nat) : Int) := by
    by_cases h : loN (P * 2 ^ n) = 0
    · have : ((loN (P * 2 ^ n) : Int) != 0) = false := by simp [h]
      rw [this, if_neg (by simp [h])]; rfl
    · have : ((loN (P * 2 ^ n) : Int) != 0) = true := by simpa using h
      rw [this, if_pos (.inl h), cond_true]
      exact lor_nn hh (show 1 < 18446744073709551616 by decide)
  have hm1 : 9223372036854775808 ≤ (if loN (P * 2 ^ n) ≠ 0 ∨ false = true then hiN (P * 2 ^ n) ||| 1 else hiN (P * 2 ^ n)) ∧ (if loN (P * 2 ^ n) ≠ 0 ∨ false = true then hiN (P * 2 ^ n) ||| 1 else hiN (P * 2 ^ n)) < 18446744073709551616 := by
    split
    · rw [or_one]; omega
    · exact ⟨hh0, hh⟩
  generalize (if loN (P * 2 ^ n) ≠ 0 ∨ false = true then hiN (P * 2 ^ n) ||| 1 else hiN (P * 2 ^ n)) = m at *
  obtain ⟨m0, m1⟩ := hm1
  obtain ⟨c0, c1⟩ := core_ok hs (rm := rm) (minus := minus) (m := m) (e := e + (64 - n)) m0 m1 (by omega) (by omega)
  obtain ⟨d1, d2⟩ := dropOf_ok hs (e := e + (64 - n)) (by omega) (by omega)
  rw [← hnear] at c0 c1
  have hd : 0 < dropOf (frN s) (biN s) (e + (64 - n)) := by rw [d1]; omega
  have hlst : lastOf (frN s) (biN s) (64 + (e + (64 - n))) ≤ 1000000 := by
    unfold lastOf least; split <;> omega
  have hd2 : dropOf (frN s) (biN s) (e + (64 - n)) < 9223372036854775808 := by rw [d1]; omega
  obtain ⟨q1, q2⟩ := scut_ok rm minus (m := m) (b := dropOf (frN s) (biN s) (e + (64 - n))) (by omega) m1 hd
  obtain ⟨t1, _⟩ := scut_ok rm minus (m := m) (b := 63 - frN s) (by omega) m1 (by omega)
  have e12 : IntKind.wrap .i64 (63 - (frN s : Int)) = 63 - frN s := wrap_i64_of (by omega) (by omega)
  refine ⟨?_, ?_, ?_⟩
  · have a : decide ((frN s : Int) ≥ 0) = true := decide_eq_true (by omega)
    have b : p96 (frN s) = true := by simp only [p96, a]; rfl
    have c : p122 (63 - frN s) = true := p122_ok (by omega) (by omega)
    have d : p122 (bif decide (IntKind.wrap .i64 (e + (64 - n) + (63 - frN s)) < IntKind.wrap .i64 (IntKind.wrap .i64 (1 - (biN s : Int)) - frN s)) then IntKind.wrap .i64 (IntKind.wrap .i64 (IntKind.wrap .i64 (1 - (biN s : Int)) - frN s) - (e + (64 - n))) else 63 - frN s) = true := by
      have := p122_ok hd hd2
      unfold dropOf at this
      rw [e12] at this
      exact this
    simp only [p98, z1, z2, u0, e13, e14, e12, a, b, c, d, ow_t, List.all_cons, List.all_nil, id, Bool.and_true]
  · rw [← c0, ← q1, ← hmw, ← u1, ← u2, ← e14, ← e13, ← z2]; rfl
  · rw [← c1, ← q1, ← q2, ← t1, ← hmw, ← u1, ← u2, ← e12, ← e14, ← e13, ← z2]; rfl
end
end Go.Proofs.Ytacciadcmiiimaa

namespace Go.Proofs.Ytacciadcmiiimaa
open Go Go.Sx Go.Rnd
set_option maxRecDepth 100000
set_option maxHeartbeats 1000000

def finN (s : Int) (a : Nat) : Bool := !nanN s a && !infN s a && !zerN s a
def kdN (s : Int) (a : Nat) : Int := if nanN s a then 3 else if infN s a then 2 else if zerN s a then 0 else 1
def lzN (s : Int) (a : Nat) : Nat := 64 - blen (fM s a)
def teN (s : Int) (a : Nat) : Int := if finN s a then fE s a - lzN s a else 0
def tmN (s : Int) (a : Nat) : Nat := if finN s a then fM s a * 2 ^ lzN s a else 0

section
variable {s : Int} (hs : s = 4 ∨ s = 8) {a : Nat} (ha : a < 18446744073709551616)
include hs
theorem of92 : r92_0 s = (frN s : Int) ∧ r92_1 s = (biN s : Int) ∧ r92_2 s = (topN s : Int) := by rcases hs with rfl | rfl <;> exact ⟨rfl, rfl, rfl⟩
theorem emax_facts : emaxN s = 2 * biN s + 1 ∧ topN s = oneN s * (emaxN s + 1) ∧ 2 ^ (frN s - 1) = oneN s / 2 ∧ 1 ≤ oneN s / 2 := by rcases hs with rfl | rfl <;> decide
include ha
theorem fM_pos (h : finN s a = true) : 0 < fM s a := by
  have h1 := fr_lt hs ha
  unfold finN nanN infN zerN at h
  unfold fM
  simp only [Bool.and_eq_true, Bool.not_eq_true', decide_eq_false_iff_not] at h
  split <;> omega
theorem fE_le : -1074 ≤ fE s a ∧ fE s a ≤ 2000 := by
  have h1 := ex_le hs ha
  obtain ⟨f1, f2, f3, f4, f5, f6, f7, f8, f9, f10⟩ := size_facts hs
  have h2 := (emax_facts hs).1
  have h3 : frN s + biN s ≤ 1075 := by rcases hs with rfl | rfl <;> decide
  unfold fE
  split <;> omega
theorem blenM : blen (fM s a) ≤ 53 := by
  have h1 := fM_lt hs ha
  obtain ⟨f1, f2, f3, f4, f5, f6, f7, f8, f9, f10⟩ := size_facts hs
  exact blen_le.2 (by omega)
theorem tm_facts (h : finN s a = true) : 9223372036854775808 ≤ tmN s a ∧ tmN s a < 18446744073709551616 ∧ tmN s a = fM s a * 2 ^ lzN s a ∧ teN s a = fE s a - lzN s a ∧ 11 ≤ lzN s a ∧ lzN s a ≤ 63 := by
  have hp := fM_pos hs ha h
  have hb := blenM hs ha
  have hb0 := blen_pos hp
  have hlo := blen_low hp
  have hup := blen_self (n := fM s a)
  have e : tmN s a = fM s a * 2 ^ lzN s a := by unfold tmN; rw [if_pos h]
  have e2 : teN s a = fE s a - lzN s a := by unfold teN; rw [if_pos h]
  rw [e, e2]
  unfold lzN
  generalize hn : 64 - blen (fM s a) = n at *
  refine ⟨?_, ?_, rfl, rfl, by omega, by omega⟩
  · have : 2 ^ (blen (fM s a) - 1) * 2 ^ n ≤ fM s a * 2 ^ n := Nat.mul_le_mul_right _ hlo
    rw [← Nat.pow_add, show blen (fM s a) - 1 + n = 63 by omega] at this
    exact this
  · have : fM s a * 2 ^ n < 2 ^ blen (fM s a) * 2 ^ n := Nat.mul_lt_mul_of_pos_right hup (Nat.two_pow_pos n)
    rw [← Nat.pow_add, show blen (fM s a) + n = 64 by omega] at this
    exact this
theorem te_le : -1200 ≤ teN s a ∧ teN s a ≤ 2000 := by
  have h1 := fE_le hs ha
  unfold teN lzN
  split <;> omega
theorem tm_lt : tmN s a < 18446744073709551616 := by
  cases h : finN s a with
  | true => exact (tm_facts hs ha h).2.1
  | false => unfold tmN; rw [if_neg (by rw [h]; decide)]; decide
theorem take_ok : g93 [.i (frN s), .i (biN s), .i (topN s), .i (a : Int)] = [.b true, .b (sgN s a), .b (loudN s a), .i (kdN s a), .i (teN s a), .i (tmN s a)] := by
  obtain ⟨f1, f2, f3, f4, f5, f6, f7, f8, f9, f10⟩ := size_facts hs
  obtain ⟨g1, g2, g3, g4⟩ := emax_facts hs
  have hl := mk_lt hs ha
  have h1 := fr_lt hs ha
  have h2 := ex_le hs ha
  have k6 : iland .u64 (a : Int) (IntKind.wrap .u64 (ishl .u64 (topN s : Int) 1 - 1)) = (mkN s a : Int) := by
    rcases hs with rfl | rfl
    · exact land_low (n := 32) ha (by decide)
    · have : iland .u64 (a : Int) ((2 ^ 64 - 1 : Nat) : Int) = ((a % 2 ^ 64 : Nat) : Int) := land_low ha (by decide)
      rw [Nat.mod_eq_of_lt ha] at this
      exact this
  have k7 : (iland .u64 (mkN s a : Int) (topN s : Int) != 0) = sgN s a := by
    have := land_bit (a := (mkN s a : Int)) (m := (topN s : Int)) (by omega) (by omega) (if s = 4 then 31 else 63) (by split <;> decide) (by rcases hs with rfl | rfl <;> decide)
    rw [this, Bool.eq_iff_iff]
    unfold sgN
    simp only [bne_iff_ne, dec]
    have hq : mkN s a / topN s < 2 := by rw [Nat.div_lt_iff_lt_mul (by rcases hs with rfl | rfl <;> decide)]; exact hl
    have he : (mkN s a : Int) / (topN s : Int) % 2 = ((mkN s a / topN s : Nat) : Int) := by
      rw [← Int.natCast_ediv]
      revert hq
      generalize mkN s a / topN s = q
      intro hq; omega
    rw [he]
    have ht : 0 < topN s := by rcases hs with rfl | rfl <;> decide
    have hz : (topN s : Int) * ((mkN s a / topN s : Nat) : Int) = 0 ↔ mkN s a / topN s = 0 := by
      rw [← Int.natCast_mul, Int.natCast_eq_zero, Nat.mul_eq_zero]; omega
    omega
  have k9 : ilandNot .u64 (mkN s a : Int) (topN s : Int) = ((mkN s a % topN s : Nat) : Int) := by
    have := landNot_bit (a := (mkN s a : Int)) (m := (topN s : Int)) (by omega) (by omega) (if s = 4 then 31 else 63) (by split <;> decide) (by rcases hs with rfl | rfl <;> decide)
    rw [this]
    have hq : mkN s a / topN s < 2 := by rw [Nat.div_lt_iff_lt_mul (by rcases hs with rfl | rfl <;> decide)]; exact hl
    have he : (mkN s a : Int) / (topN s : Int) % 2 = ((mkN s a / topN s : Nat) : Int) := by
      rw [← Int.natCast_ediv]
      revert hq
      generalize mkN s a / topN s = q
      intro hq; omega
    rw [he]
    have hd := Nat.div_add_mod (mkN s a) (topN s)
    rw [← Int.natCast_mul]
    omega
  have k11 : ishr .u64 ((mkN s a % topN s : Nat) : Int) (frN s : Int) = (exf s a : Int) := by
    have : mkN s a % topN s < 18446744073709551616 := Nat.lt_of_le_of_lt (Nat.mod_le _ _) (by omega)
    rw [shr_nat this, f5, g2]
    unfold exf
    rw [Nat.mod_mul_right_div_self]
  have k12 : IntKind.wrap .i64 (exf s a : Int) = (exf s a : Int) := wri (by omega)
  have k16 : iland .u64 (mkN s a : Int) (IntKind.wrap .u64 (ishl .u64 1 (frN s : Int) - 1)) = (frf s a : Int) := by
    rw [low_mask (by omega) (by omega), f5]; rfl
  have k18 : IntKind.wrap .i64 (IntKind.wrap .i64 (2 * (biN s : Int)) + 1) = (emaxN s : Int) := by rcases hs with rfl | rfl <;> decide
  have k22 : IntKind.wrap .i64 ((frN s : Int) - 1) = ((frN s - 1 : Nat) : Int) := by rw [wrap_i64_of (by omega) (by omega)]; omega
  have k24 : (ishr .u64 (frf s a : Int) ((frN s - 1 : Nat) : Int) == 0) = decide (frf s a < oneN s / 2) := by
    rw [shr_nat (by omega), g3, Bool.eq_iff_iff]
    simp only [beq_iff_eq, dec]
    rw [Int.natCast_eq_zero, Nat.div_eq_zero_iff]; omega
  have k19 : ((exf s a : Int) == (emaxN s : Int)) = decide (exf s a = emaxN s) := by rw [Bool.eq_iff_iff]; simp only [beq_iff_eq, dec]; omega
  have k20 : ((frf s a : Int) != 0) = decide (frf s a ≠ 0) := by rw [Bool.eq_iff_iff]; simp only [bne_iff_ne, dec]; omega
  have k29 : ((exf s a : Int) == 0) = decide (exf s a = 0) := by rw [Bool.eq_iff_iff]; simp only [beq_iff_eq, dec]; omega
  have k30 : ((frf s a : Int) == 0) = decide (frf s a = 0) := by rw [Bool.eq_iff_iff]; simp only [beq_iff_eq, dec]; omega
  have k34 : ishl .u64 1 (frN s : Int) = (oneN s : Int) := by rcases hs with rfl | rfl <;> decide
  have k17 : iland .u64 (mkN s a : Int) (IntKind.wrap .u64 ((oneN s : Int) - 1)) = (frf s a : Int) := by rw [← k34]; exact k16
  have k40 : (bif decide (exf s a = 0) then (frf s a : Int) else ilor .u64 (frf s a : Int) (oneN s : Int)) = (fM s a : Int) := by
    unfold fM
    by_cases h : exf s a = 0
    · rw [decide_eq_true h, if_neg (by omega)]; rfl
    · rw [decide_eq_false h, if_pos (by omega), cond_false, lor_nn (by omega) (by omega)]
      have : oneN s = 1 * 2 ^ frN s := by rw [Nat.one_mul, f5]
      rw [this, or_high (by rw [f5]; exact h1)]
  have hM := blenM hs ha
  have hM2 := fM_lt hs ha
  have k42 : r115_0 (fM s a : Int) = (lzN s a : Int) := lz64 (by omega)
  have k39 : (bif decide (exf s a = 0) then (1 : Int) else (exf s a : Int)) = (if 0 < exf s a then (exf s a : Int) else 1) := by
    by_cases h : exf s a = 0
    · rw [decide_eq_true h, if_neg (by omega)]; rfl
    · rw [decide_eq_false h, if_pos (by omega)]; rfl
  have kE : IntKind.wrap .i64 (IntKind.wrap .i64 (IntKind.wrap .i64 ((if 0 < exf s a then (exf s a : Int) else 1) - biN s) - frN s) - lzN s a) = fE s a - lzN s a := by
    have h5 := fE_le hs ha
    have h6 : lzN s a ≤ 64 := by unfold lzN; omega
    have h7 : (1 : Int) ≤ (if 0 < exf s a then (exf s a : Int) else 1) ∧ (if 0 < exf s a then (exf s a : Int) else 1) ≤ 2048 := by split <;> omega
    have h8 : fE s a = (if 0 < exf s a then (exf s a : Int) else 1) - biN s - frN s := rfl
    rw [h8]
    generalize (if 0 < exf s a then (exf s a : Int) else 1) = z at *
    rw [wrap_i64_of (n := z - biN s) (by omega) (by omega), wrap_i64_of (n := z - biN s - frN s) (by omega) (by omega), wrap_i64_of (by omega) (by omega)]
  have c1 : nanN s a = (decide (exf s a = emaxN s) && decide (frf s a ≠ 0)) := by unfold nanN; rw [Bool.decide_and]
  have c2 : infN s a = (decide (exf s a = emaxN s) && decide (frf s a = 0)) := by unfold infN; rw [Bool.decide_and]
  have c3 : zerN s a = (decide (exf s a = 0) && decide (frf s a = 0)) := by unfold zerN; rw [Bool.decide_and]
  have c4 : loudN s a = (decide (exf s a = emaxN s) && decide (frf s a ≠ 0) && decide (frf s a < oneN s / 2)) := by unfold loudN; rw [Bool.decide_and, Bool.decide_and, Bool.and_assoc]
  have hfin : (bif decide (exf s a = emaxN s) && decide (frf s a ≠ 0) then false else bif decide (exf s a = emaxN s) then false else !(decide (exf s a = 0) && decide (frf s a = 0))) = finN s a := by
    unfold finN
    rw [c1, c2, c3]
    have : decide (frf s a ≠ 0) = !decide (frf s a = 0) := by rw [Bool.eq_iff_iff]; simp
    rw [this]
    cases decide (exf s a = emaxN s) <;> cases decide (frf s a = 0) <;> cases decide (exf s a = 0) <;> rfl
  have a1 : decide ((frN s : Int) ≥ 0) = true := decide_eq_true (by omega)
  have a2 : decide (((frN s - 1 : Nat) : Int) ≥ 0) = true := decide_eq_true (by omega)
  have a3 : decide ((lzN s a : Int) ≥ 0) = true := decide_eq_true (by omega)
  have e0 : p93 (frN s) (biN s) (topN s) (a : Int) = true := by
    simp only [p93, k6, k9, k11, k12, k17, k18, k19, k20, k22, k29, k30, k34, k40, k42, a1, a2, a3, p115_ok, ow_t, List.all_cons, List.all_nil, id, Bool.and_true]
  have e1 : r93_0 (topN s) (a : Int) = sgN s a := by simp only [r93_0, k6, k7]
  have e2 : r93_1 (frN s) (biN s) (topN s) (a : Int) = loudN s a := by
    simp only [r93_1, k6, k9, k11, k12, k16, k18, k19, k20, k22, k24, k29, k30, hfin]
    rw [c4]
    unfold finN
    rw [c1]
    cases decide (exf s a = emaxN s) <;> cases decide (frf s a ≠ 0) <;> simp
  have e3 : r93_2 (frN s) (biN s) (topN s) (a : Int) = kdN s a := by
    simp only [r93_2, k6, k9, k11, k12, k16, k18, k19, k20, k29, k30, hfin]
    unfold finN kdN
    rw [c1, c2, c3]
    have : decide (frf s a ≠ 0) = !decide (frf s a = 0) := by rw [Bool.eq_iff_iff]; simp
    rw [this]
    by_cases h5 : exf s a = emaxN s
    · have h6 : exf s a ≠ 0 := by rw [h5, g1]; omega
      rw [decide_eq_true h5, decide_eq_false h6]
      cases decide (frf s a = 0) <;> rfl
    · rw [decide_eq_false h5]
      cases decide (exf s a = 0) <;> cases decide (frf s a = 0) <;> rfl
  have e4 : r93_3 (frN s) (biN s) (topN s) (a : Int) = teN s a := by
    simp only [r93_3, k6, k9, k11, k12, k17, k18, k19, k20, k29, k30, hfin, k34, k40, k42, k39, kE]
    unfold teN
    cases finN s a <;> rfl
  have e5 : r93_4 (frN s) (biN s) (topN s) (a : Int) = (tmN s a : Int) := by
    simp only [r93_4, k6, k9, k11, k12, k17, k18, k19, k20, k29, k30, hfin, k34, k40, k42]
    unfold tmN
    cases h : finN s a with
    | false => rfl
    | true =>
      obtain ⟨t1, t2, t3, _⟩ := tm_facts hs ha h
      rw [t3] at t2
      rw [if_pos rfl]
      exact shl_lt t2
  show [DV.b (p93 (frN s) (biN s) (topN s) (a : Int)), .b (r93_0 (topN s) (a : Int)), .b (r93_1 (frN s) (biN s) (topN s) (a : Int)), .i (r93_2 (frN s) (biN s) (topN s) (a : Int)), .i (r93_3 (frN s) (biN s) (topN s) (a : Int)), .i (r93_4 (frN s) (biN s) (topN s) (a : Int))] = _
  rw [e0, e1, e2, e3, e4, e5]
theorem term_ok : r108_0 (sgN s a) = sgN s a ∧ r108_1 (kdN s a) (teN s a) = (if zerN s a then 0 else teN s a - 63) ∧ r108_2 (kdN s a) (tmN s a) = (if zerN s a then 0 else (hiN (tmN s a * 9223372036854775808) : Int)) ∧ r108_3 (kdN s a) (tmN s a) = (if zerN s a then 0 else (loN (tmN s a * 9223372036854775808) : Int)) := by
  have ht := te_le hs ha
  have hm := tm_lt hs ha
  have hk : (kdN s a == 0) = zerN s a := by
    unfold kdN
    have h1 : nanN s a = true → zerN s a = false := fun h => by
      unfold nanN at h; unfold zerN
      have := (emax_facts hs).1
      simp only [dec, decide_eq_false_iff_not] at h ⊢; omega
    have h2 : infN s a = true → zerN s a = false := fun h => by
      unfold infN at h; unfold zerN
      have := (emax_facts hs).1
      simp only [dec, decide_eq_false_iff_not] at h ⊢; omega
    cases h3 : nanN s a <;> cases h4 : infN s a <;> cases h5 : zerN s a <;> simp_all
  have w : IntKind.wrap .i64 (teN s a - 63) = teN s a - 63 := wrap_i64_of (by omega) (by omega)
  have hh : hiN (tmN s a * 9223372036854775808) = tmN s a / 2 ^ 1 := by unfold hiN; omega
  have hl : loN (tmN s a * 9223372036854775808) = tmN s a * 2 ^ 63 % 18446744073709551616 := by unfold loN; rfl
  have e1 : ishr .u64 (tmN s a : Int) 1 = ((tmN s a / 2 ^ 1 : Nat) : Int) := shr_nat hm 1
  have e2 : ishl .u64 (tmN s a : Int) 63 = ((tmN s a * 2 ^ 63 % 18446744073709551616 : Nat) : Int) := shl_nat (tmN s a) 63
  refine ⟨rfl, ?_, ?_, ?_⟩
  · simp only [r108_1, hk, w]; cases zerN s a <;> rfl
  · simp only [r108_2, hk, e1, hh]; cases zerN s a <;> rfl
  · simp only [r108_3, hk, e2, hl]; cases zerN s a <;> rfl
end

theorem quiet_s {s : Int} (hs : s = 4 ∨ s = 8) : p120 (frN s) = true ∧ r120_0 (frN s) (biN s) = (quiB s : Int) := by rcases hs with rfl | rfl <;> decide
def bad1 (b : Bool) (k : Int) (l : Bool) : Bool := bif k == 3 then b || l else b
theorem nans_of {s : Int} (hs : s = 4 ∨ s = 8) {inv B I : Bool} {fs : List DV} {r3 : DV} (h : L109400 ((fs.length / 5 : Nat) : Int) fs inv inv 0 = some [.i 0, .b B, .b I, r3]) :
    p94 (frN s) inv fs = true ∧ r94_0 (frN s) (biN s) inv fs = (quiB s : Int) ∧ r94_1 inv fs = (if B then 16 else 0) ∧ r94_2 inv fs = (B || I) := by
  obtain ⟨q1, q2⟩ := quiet_s hs
  have hg : g109400 [.i ((fs.length / 5 : Nat) : Int), .l fs, .b inv, .b inv, .i 0] = [.b true, .i 0, .b B, .b I, .i r3.toI] := by
    show [DV.b (p109400 ((fs.length / 5 : Nat) : Int) fs inv inv 0), .i (r109400_0 ((fs.length / 5 : Nat) : Int) fs inv inv 0), .b (r109400_1 ((fs.length / 5 : Nat) : Int) fs inv inv 0), .b (r109400_2 ((fs.length / 5 : Nat) : Int) fs inv inv 0), .i (r109400_3 ((fs.length / 5 : Nat) : Int) fs inv inv 0)] = _
    simp only [p109400, r109400_0, r109400_1, r109400_2, r109400_3, h]
    rfl
  refine ⟨?_, ?_, ?_, ?_⟩
  · simp only [p94, hg, q1]
    show [ow [] true, ow [(B, true)] true, ow [(!B, true)] true].all id = true
    cases B <;> rfl
  · simp only [r94_0, hg, q2]
    show (bif !B then _ else _) = _
    cases B <;> rfl
  · simp only [r94_1, hg]
    show (bif !B then (0 : Int) else 16) = _
    cases B <;> rfl
  · simp only [r94_2, hg]
    show (bif !B then I else true) = _
    cases B <;> simp
theorem nans_step {fs : List DV} {n : Nat} {x y l : Bool} {k : Int} {i : Nat} (hi : i < n) (hn : fs.length = 5 * n) (hx : i < 9223372036854775807) (h1 : fs.getD (i * 5 + 1) default = .b l) (h2 : fs.getD (i * 5 + 2) default = .i k) :
    loopG W109400 C109400 N109400 T109400 [.i (n : Int), .l fs, .b x, .b y, .i (i : Int)] = loopG W109400 C109400 N109400 T109400 [.i (n : Int), .l fs, .b (bad1 x k l), .b ((k == 3) || y), .i ((i + 1 : Nat) : Int)] := by
  have hw : W109400 [.i (n : Int), .l fs, .b x, .b y, .i (i : Int)] = true := by
    show w109400 (n : Int) fs x y (i : Int) = true
    simp only [w109400, hn]
    rw [decide_eq_true (show (i : Int) ≥ 0 by omega), decide_eq_true (show (i : Int) < ((5 * n / 5 : Nat) : Int) by omega)]
    simp [ow_t]
  have hc : C109400 [.i (n : Int), .l fs, .b x, .b y, .i (i : Int)] = true := decide_eq_true (show (i : Int) < (n : Int) by omega)
  rw [loopG_next hw hc]
  congr 1
  have e1 : (fs.getD (Int.toNat (i : Int) * 5 + 1) default).toB = l := by rw [Int.toNat_natCast, h1]
  have e2 : (fs.getD (Int.toNat (i : Int) * 5 + 2) default).toI = k := by rw [Int.toNat_natCast, h2]
  show [DV.i (n : Int), .l fs, .b (n109400_0 (n : Int) fs x y (i : Int)), .b (n109400_1 (n : Int) fs x y (i : Int)), .i (IntKind.wrap .i64 ((i : Int) + 1))] = _
  rw [wri1 (by omega)]
  simp only [n109400_0, n109400_1, e1, e2]
  rfl
theorem nans_end {fs : List DV} {n : Nat} {x y : Bool} : loopG W109400 C109400 N109400 T109400 [.i (n : Int), .l fs, .b x, .b y, .i (n : Int)] = some [.i 0, .b x, .b y, .i (n : Int)] := by
  have hc : C109400 [.i (n : Int), .l fs, .b x, .b y, .i (n : Int)] = false := decide_eq_false (show ¬ (n : Int) < (n : Int) by omega)
  have hw : W109400 [.i (n : Int), .l fs, .b x, .b y, .i (n : Int)] = true := by
    show w109400 (n : Int) fs x y (n : Int) = true
    simp only [w109400]
    rw [decide_eq_false (show ¬ (n : Int) < (n : Int) by omega)]
    simp [ow]
  exact loopG_last hw hc
theorem nans1 {inv s1 l1 : Bool} {k1 e1 m1 : Int} : L109400 1 [.b s1, .b l1, .i k1, .i e1, .i m1] inv inv 0 = some [.i 0, .b (bad1 inv k1 l1), .b ((k1 == 3) || inv), .i 1] :=
  (nans_step (n := 1) (i := 0) (by decide) rfl (by decide) rfl rfl).trans (nans_end (n := 1))
theorem nans2 {inv s1 l1 s2 l2 : Bool} {k1 e1 m1 k2 e2 m2 : Int} : L109400 2 [.b s1, .b l1, .i k1, .i e1, .i m1, .b s2, .b l2, .i k2, .i e2, .i m2] inv inv 0 =
    some [.i 0, .b (bad1 (bad1 inv k1 l1) k2 l2), .b ((k2 == 3) || ((k1 == 3) || inv)), .i 2] :=
  (nans_step (n := 2) (i := 0) (by decide) rfl (by decide) rfl rfl).trans ((nans_step (n := 2) (i := 1) (by decide) rfl (by decide) rfl rfl).trans (nans_end (n := 2)))
theorem nans3 {inv s1 l1 s2 l2 s3 l3 : Bool} {k1 e1 m1 k2 e2 m2 k3 e3 m3 : Int} : L109400 3 [.b s1, .b l1, .i k1, .i e1, .i m1, .b s2, .b l2, .i k2, .i e2, .i m2, .b s3, .b l3, .i k3, .i e3, .i m3] inv inv 0 =
    some [.i 0, .b (bad1 (bad1 (bad1 inv k1 l1) k2 l2) k3 l3), .b ((k3 == 3) || ((k2 == 3) || ((k1 == 3) || inv))), .i 3] :=
  (nans_step (n := 3) (i := 0) (by decide) rfl (by decide) rfl rfl).trans ((nans_step (n := 3) (i := 1) (by decide) rfl (by decide) rfl rfl).trans ((nans_step (n := 3) (i := 2) (by decide) rfl (by decide) rfl rfl).trans (nans_end (n := 3))))
theorem bad_kd {s : Int} {a : Nat} (b : Bool) : bad1 b (kdN s a) (loudN s a) = (b || loudN s a) := by
  unfold bad1 kdN
  have h : loudN s a = true → nanN s a = true := by
    unfold loudN nanN; simp only [dec]; omega
  cases h1 : nanN s a <;> cases h2 : infN s a <;> cases h3 : zerN s a <;> cases h4 : loudN s a <;> simp_all
theorem kd3 {s : Int} {a : Nat} : (kdN s a == 3) = nanN s a := by
  unfold kdN; cases nanN s a <;> cases infN s a <;> cases zerN s a <;> rfl
theorem kd2 {s : Int} (_hs : s = 4 ∨ s = 8) {a : Nat} : (kdN s a == 2) = infN s a := by
  have h : infN s a = true → nanN s a = false := by
    unfold infN nanN; simp only [dec, decide_eq_false_iff_not]; omega
  unfold kdN; cases h1 : nanN s a <;> cases h2 : infN s a <;> cases zerN s a <;> simp_all
theorem kd0 {s : Int} (hs : s = 4 ∨ s = 8) {a : Nat} : (kdN s a == 0) = zerN s a := by
  have hz := (emax_facts hs).1
  have h1 : nanN s a = true → zerN s a = false := by unfold nanN zerN; simp only [dec, decide_eq_false_iff_not]; omega
  have h2 : infN s a = true → zerN s a = false := by unfold infN zerN; simp only [dec, decide_eq_false_iff_not]; omega
  unfold kdN; cases h3 : nanN s a <;> cases h4 : infN s a <;> cases h5 : zerN s a <;> simp_all
theorem kd1 {s : Int} {a : Nat} : (kdN s a == 1) = finN s a := by
  unfold kdN finN; cases nanN s a <;> cases infN s a <;> cases zerN s a <;> rfl
section
variable {s : Int} (hs : s = 4 ∨ s = 8) {a b c : Nat} (ha : a < 18446744073709551616) (hb : b < 18446744073709551616) (hc : c < 18446744073709551616)
include hs ha
include hb
include hc
end
end Go.Proofs.Ytacciadcmiiimaa

