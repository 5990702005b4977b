/- The functions of the statements, as lists of plain steps (part 2). Written by the generator. -/
import Derived.Test.YtacciadcmiiimaaP5
import Derived.Test.YtacciadcmiiimaaP0
import Derived.Test.YtacciadcmiiimaaP4
namespace Go.Proofs.Ytacciadcmiiimaa
open Go Go.Sx
set_option maxRecDepth 100000
set_option maxHeartbeats 4000000

def s43 : Sig := ⟨[], [], [], .s (.one (.b (.h 0))), [], [.b], true⟩
def o43 : Out := ⟨List.append (List.append (List.append (List.append (List.append (callsAt 0 54 [.z 4, .z 0, .z 1065353216, .z 1065353216] 0 3) (callsAt 3 46 [.z 4, .z 0, .z 1065353216, .z 1077936128] 0 3)) (callsAt 6 48 [.z 4, .z 0, .z 3212836864] 0 3)) (callsAt 9 50 [.z 4, .z 0, .z 1065353217, .z 1065353217, .z 3212836866] 0 3)) (callsAt 12 44 [.z 4, .z 3, .z 1, .z 1056964608] 0 3)) ([(15, .eql (.r 1) (.z 1073741824)), (16, .eql (.r 2) (.z 0)), (17, .and (.r 15) (.r 16)), (18, .eql (.r 4) (.z 1051372203)), (19, .and (.r 17) (.r 18)), (20, .eql (.r 5) (.z 1)), (21, .and (.r 19) (.r 20)), (22, .eql (.r 7) (.z 2143289344)), (23, .and (.r 21) (.r 22)), (24, .eql (.r 8) (.z 16)), (25, .and (.r 23) (.r 24)), (26, .eql (.r 10) (.z 679477248)), (27, .and (.r 25) (.r 26)), (28, .eql (.r 11) (.z 0)), (29, .and (.r 27) (.r 28)), (30, .eql (.r 13) (.z 1)), (31, .and (.r 29) (.r 30)), (32, .eql (.r 14) (.z 3)), (33, .and (.r 31) (.r 32))]),
  [⟨[], .r 0⟩, ⟨[], .r 3⟩, ⟨[], .r 6⟩, ⟨[], .r 9⟩, ⟨[], .r 12⟩],
  [],
  [.r 33]⟩
noncomputable def p43  : Bool :=
  let x0 := p54 4 0 1065353216 1065353216
  let x3 := p46 4 0 1065353216 1077936128
  let x6 := p48 4 0 3212836864
  let x9 := p50 4 0 1065353217 1065353217 3212836866
  let x12 := p44 4 3 1 1056964608
  [ow [] x0, ow [] x3, ow [] x6, ow [] x9, ow [] x12].all id
noncomputable def r43_0  : Bool :=
  let x1 := r54_0 4 0 1065353216 1065353216
  let x2 := r54_1 4 0 1065353216 1065353216
  let x4 := r46_0 4 0 1065353216 1077936128
  let x5 := r46_1 4 0 1065353216 1077936128
  let x7 := r48_0 4 0 3212836864
  let x8 := r48_1 4 0 3212836864
  let x10 := r50_0 4 0 1065353217 1065353217 3212836866
  let x11 := r50_1 4 0 1065353217 1065353217 3212836866
  let x13 := r44_0 4 3 1 1056964608
  let x14 := r44_1 4 3 1 1056964608
  let x15 := x1 == 1073741824
  let x16 := x2 == 0
  let x17 := x15 && x16
  let x18 := x4 == 1051372203
  let x19 := x17 && x18
  let x20 := x5 == 1
  let x21 := x19 && x20
  let x22 := x7 == 2143289344
  let x23 := x21 && x22
  let x24 := x8 == 16
  let x25 := x23 && x24
  let x26 := x10 == 679477248
  let x27 := x25 && x26
  let x28 := x11 == 0
  let x29 := x27 && x28
  let x30 := x13 == 1
  let x31 := x29 && x30
  let x32 := x14 == 3
  let x33 := x31 && x32
  x33
noncomputable def g43 (_ds : List DV) : List DV := [.b (p43 ), .b (r43_0 )]
def S43 : Sigs := ⟨[(54, s54), (46, s46), (48, s48), (50, s50), (44, s44)], [], [], 0⟩

def s52 : Sig := ⟨[.s (.one (.i .i64 (.h 0)))], [], [.i], .s (.one (.i .i64 (.h 0))), [], [.i], false⟩
def o52 : Out := ⟨[(1, .land .i64 (.r 0) (.z 1)), (2, .mul .i64 (.z 4) (.r 1)), (3, .add .i64 (.z 4) (.r 2))],
  [],
  [],
  [.r 3]⟩
noncomputable def r52_0 (x0 : Int) : Int :=
  let x1 := iland .i64 x0 1
  let x2 := IntKind.wrap .i64 (4 * x1)
  let x3 := IntKind.wrap .i64 (4 + x2)
  x3
noncomputable def g52 (ds : List DV) : List DV := [.i (r52_0 (dget ds 0).toI)]
def S52 : Sigs := ⟨[], [], [], 0⟩

def s53 : Sig := ⟨[.s (.one (.i .i64 (.h 0)))], [], [.i], .s (.one (.i .i64 (.h 0))), [], [.i], false⟩
def o53 : Out := ⟨[(1, .conv .u64 (.r 0)), (2, .rem .u64 (.r 1) (.z 5)), (3, .conv .i64 (.r 2))],
  [],
  [],
  [.r 3]⟩
noncomputable def r53_0 (x0 : Int) : Int :=
  let x1 := IntKind.wrap .u64 x0
  let x2 := Int.tmod x1 5
  let x3 := IntKind.wrap .i64 x2
  x3
noncomputable def g53 (ds : List DV) : List DV := [.i (r53_0 (dget ds 0).toI)]
def S53 : Sigs := ⟨[], [], [], 0⟩

def s57 : Sig := ⟨[.s (.one (.i .i64 (.h 0))), .s (.one (.i .u64 (.h 1)))], [], [.i, .i], .s (.one (.b (.h 0))), [], [.b], true⟩
def o57 : Out := ⟨[(2, .eql (.r 0) (.z 8)), (3, .itei (.r 2) (.z 52) (.z 23)), (4, .call 42 [.r 0, .r 1] 0), (5, .mul .i64 (.z 8) (.r 0)), (6, .sub .i64 (.z 64) (.r 5)), (7, .geq (.r 6) (.z 0)), (8, .shl .u64 (.r 4) (.r 6)), (9, .shl .u64 (.r 8) (.z 1)), (10, .mul .i64 (.z 8) (.r 0)), (11, .sub .i64 (.z 64) (.r 10)), (12, .geq (.r 11) (.z 0)), (13, .shr .u64 (.r 9) (.r 11)), (14, .shr .u64 (.r 13) (.z 1)), (15, .geq (.r 3) (.z 0)), (16, .shr .u64 (.r 14) (.r 3)), (17, .eql (.r 16) (.z 0))],
  [⟨[], .r 7⟩, ⟨[], .r 12⟩, ⟨[], .r 15⟩],
  [],
  [.r 17]⟩
noncomputable def p57 (x0 : Int) : Bool :=
  let x2 := x0 == 8
  let x3 : Int := bif x2 then 52 else 23
  let x5 := IntKind.wrap .i64 (8 * x0)
  let x6 := IntKind.wrap .i64 (64 - x5)
  let x7 := decide (x6 ≥ 0)
  let x10 := IntKind.wrap .i64 (8 * x0)
  let x11 := IntKind.wrap .i64 (64 - x10)
  let x12 := decide (x11 ≥ 0)
  let x15 := decide (x3 ≥ 0)
  [ow [] x7, ow [] x12, ow [] x15].all id
noncomputable def r57_0 (x0 : Int) (x1 : Int) : Bool :=
  let x2 := x0 == 8
  let x3 : Int := bif x2 then 52 else 23
  let x4 := r42_0 x0 x1
  let x5 := IntKind.wrap .i64 (8 * x0)
  let x6 := IntKind.wrap .i64 (64 - x5)
  let x8 := ishl .u64 x4 x6
  let x9 := ishl .u64 x8 1
  let x10 := IntKind.wrap .i64 (8 * x0)
  let x11 := IntKind.wrap .i64 (64 - x10)
  let x13 := ishr .u64 x9 x11
  let x14 := ishr .u64 x13 1
  let x16 := ishr .u64 x14 x3
  let x17 := x16 == 0
  x17
noncomputable def g57 (ds : List DV) : List DV := [.b (p57 (dget ds 0).toI), .b (r57_0 (dget ds 0).toI (dget ds 1).toI)]
def S57 : Sigs := ⟨[(42, s42)], [], [], 0⟩

def s16 : Sig := ⟨[.s (.one (.i .i64 (.h 0))), .s (.one (.i .i64 (.h 1))), .s (.one (.i .i64 (.h 2))), .s (.one (.i .u64 (.h 3))), .s (.one (.i .u64 (.h 4)))], [], [.i, .i, .i, .i, .i], .s (.one (.b (.h 0))), [], [.b], true⟩
def o16 : Out := ⟨List.append (List.append (List.append (List.append (List.append (List.append (List.append ([(5, .call 43 [] 0), (6, .call 43 [] 1), (7, .not (.r 6)), (8, .not (.r 7)), (9, .call 52 [.r 0] 0), (10, .call 53 [.r 1] 0), (11, .eql (.r 9) (.z 8)), (12, .itei (.r 11) (.z 52) (.z 23)), (13, .itei (.r 11) (.z 1023) (.z 127)), (14, .rem .i64 (.r 2) (.z 20)), (15, .add .i64 (.r 14) (.z 20)), (16, .add .i64 (.r 13) (.r 15)), (17, .sub .i64 (.r 16) (.z 19)), (18, .conv .u64 (.r 17)), (19, .geq (.r 12) (.z 0)), (20, .shl .u64 (.r 18) (.r 12))]) (callsAt 21 44 [.r 9, .r 10, .r 3, .r 20] 0 3)) (callsAt 24 44 [.r 9, .r 10, .r 4, .r 20] 0 3)) ([(27, .call 39 [.r 9, .r 22] 0), (28, .call 39 [.r 9, .r 22] 1), (29, .call 39 [.r 9, .r 25] 0), (30, .call 39 [.r 9, .r 25] 1), (31, .or (.r 28) (.r 30)), (32, .call 56 [.r 9, .r 22] 0), (33, .call 56 [.r 9, .r 22] 1), (34, .or (.r 31) (.r 33)), (35, .call 56 [.r 9, .r 25] 0), (36, .call 56 [.r 9, .r 25] 1), (37, .or (.r 34) (.r 36)), (38, .neq (.r 23) (.z 0)), (39, .or (.r 37) (.r 38)), (40, .neq (.r 26) (.z 0)), (41, .or (.r 39) (.r 40)), (42, .not (.r 41))])) (callsAt 43 54 [.r 9, .r 10, .r 3, .r 4] 0 3)) (callsAt 46 54 [.r 9, .r 10, .r 22, .r 25] 0 3)) (callsAt 49 44 [.r 9, .r 10, .r 44, .r 20] 0 3)) ([(52, .landNot .i64 (.r 45) (.z 1)), (53, .neq (.r 52) (.z 0)), (54, .landNot .i64 (.r 48) (.z 1)), (55, .neq (.r 54) (.z 0)), (56, .or (.r 53) (.r 55)), (57, .neq (.r 51) (.z 0)), (58, .or (.r 56) (.r 57)), (59, .not (.r 58)), (60, .call 57 [.r 9, .r 44] 0), (61, .call 57 [.r 9, .r 44] 1), (62, .call 57 [.r 9, .r 47] 0), (63, .call 57 [.r 9, .r 47] 1), (64, .or (.r 61) (.r 63)), (65, .eql (.r 50) (.r 47)), (66, .eql (.r 45) (.r 48)), (67, .and (.r 65) (.r 66)), (68, .or (.r 64) (.r 67)), (69, .iteb (.r 59) (.r 68) (.t true)), (70, .iteb (.r 42) (.r 69) (.t true)), (71, .and (.r 8) (.r 70))]),
  [⟨[], .r 5⟩, ⟨[(.r 8, true)], .r 19⟩, ⟨[(.r 8, true)], .r 21⟩, ⟨[(.r 8, true)], .r 24⟩, ⟨[(.r 8, true)], .r 27⟩, ⟨[(.r 8, true), (.r 28, false)], .r 29⟩, ⟨[(.r 8, true), (.r 31, false)], .r 32⟩, ⟨[(.r 8, true), (.r 34, false)], .r 35⟩, ⟨[(.r 8, true), (.r 42, true)], .r 43⟩, ⟨[(.r 8, true), (.r 42, true)], .r 46⟩, ⟨[(.r 8, true), (.r 42, true)], .r 49⟩, ⟨[(.r 8, true), (.r 42, true), (.r 59, true)], .r 60⟩, ⟨[(.r 8, true), (.r 42, true), (.r 59, true), (.r 61, false)], .r 62⟩],
  [],
  [.r 71]⟩
noncomputable def p16 (x0 : Int) (x1 : Int) (x2 : Int) (x3 : Int) (x4 : Int) : Bool :=
  let x5 := p43 
  let x6 := r43_0 
  let x7 := !x6
  let x8 := !x7
  let x9 := r52_0 x0
  let x10 := r53_0 x1
  let x11 := x9 == 8
  let x12 : Int := bif x11 then 52 else 23
  let x13 : Int := bif x11 then 1023 else 127
  let x14 := Int.tmod x2 20
  let x15 := IntKind.wrap .i64 (x14 + 20)
  let x16 := IntKind.wrap .i64 (x13 + x15)
  let x17 := IntKind.wrap .i64 (x16 - 19)
  let x18 := IntKind.wrap .u64 x17
  let x19 := decide (x12 ≥ 0)
  let x20 := ishl .u64 x18 x12
  let x21 := p44 x9 x10 x3 x20
  let x22 := r44_0 x9 x10 x3 x20
  let x23 := r44_1 x9 x10 x3 x20
  let x24 := p44 x9 x10 x4 x20
  let x25 := r44_0 x9 x10 x4 x20
  let x26 := r44_1 x9 x10 x4 x20
  let x27 := p39 x9
  let x28 := r39_0 x9 x22
  let x29 := p39 x9
  let x30 := r39_0 x9 x25
  let x31 := x28 || x30
  let x32 := p56 x9
  let x33 := r56_0 x9 x22
  let x34 := x31 || x33
  let x35 := p56 x9
  let x36 := r56_0 x9 x25
  let x37 := x34 || x36
  let x38 := x23 != 0
  let x39 := x37 || x38
  let x40 := x26 != 0
  let x41 := x39 || x40
  let x42 := !x41
  let x43 := p54 x9 x10 x3 x4
  let x44 := r54_0 x9 x10 x3 x4
  let x45 := r54_1 x9 x10 x3 x4
  let x46 := p54 x9 x10 x22 x25
  let x48 := r54_1 x9 x10 x22 x25
  let x49 := p44 x9 x10 x44 x20
  let x51 := r44_1 x9 x10 x44 x20
  let x52 := ilandNot .i64 x45 1
  let x53 := x52 != 0
  let x54 := ilandNot .i64 x48 1
  let x55 := x54 != 0
  let x56 := x53 || x55
  let x57 := x51 != 0
  let x58 := x56 || x57
  let x59 := !x58
  let x60 := p57 x9
  let x61 := r57_0 x9 x44
  let x62 := p57 x9
  [ow [] x5, ow [(x8, true)] x19, ow [(x8, true)] x21, ow [(x8, true)] x24, ow [(x8, true)] x27, ow [(x8, true), (x28, false)] x29, ow [(x8, true), (x31, false)] x32, ow [(x8, true), (x34, false)] x35, ow [(x8, true), (x42, true)] x43, ow [(x8, true), (x42, true)] x46, ow [(x8, true), (x42, true)] x49, ow [(x8, true), (x42, true), (x59, true)] x60, ow [(x8, true), (x42, true), (x59, true), (x61, false)] x62].all id
noncomputable def r16_0 (x0 : Int) (x1 : Int) (x2 : Int) (x3 : Int) (x4 : Int) : Bool :=
  let x6 := r43_0 
  let x7 := !x6
  let x8 := !x7
  let x9 := r52_0 x0
  let x10 := r53_0 x1
  let x11 := x9 == 8
  let x12 : Int := bif x11 then 52 else 23
  let x13 : Int := bif x11 then 1023 else 127
  let x14 := Int.tmod x2 20
  let x15 := IntKind.wrap .i64 (x14 + 20)
  let x16 := IntKind.wrap .i64 (x13 + x15)
  let x17 := IntKind.wrap .i64 (x16 - 19)
  let x18 := IntKind.wrap .u64 x17
  let x20 := ishl .u64 x18 x12
  let x22 := r44_0 x9 x10 x3 x20
  let x23 := r44_1 x9 x10 x3 x20
  let x25 := r44_0 x9 x10 x4 x20
  let x26 := r44_1 x9 x10 x4 x20
  let x28 := r39_0 x9 x22
  let x30 := r39_0 x9 x25
  let x31 := x28 || x30
  let x33 := r56_0 x9 x22
  let x34 := x31 || x33
  let x36 := r56_0 x9 x25
  let x37 := x34 || x36
  let x38 := x23 != 0
  let x39 := x37 || x38
  let x40 := x26 != 0
  let x41 := x39 || x40
  let x42 := !x41
  let x44 := r54_0 x9 x10 x3 x4
  let x45 := r54_1 x9 x10 x3 x4
  let x47 := r54_0 x9 x10 x22 x25
  let x48 := r54_1 x9 x10 x22 x25
  let x50 := r44_0 x9 x10 x44 x20
  let x51 := r44_1 x9 x10 x44 x20
  let x52 := ilandNot .i64 x45 1
  let x53 := x52 != 0
  let x54 := ilandNot .i64 x48 1
  let x55 := x54 != 0
  let x56 := x53 || x55
  let x57 := x51 != 0
  let x58 := x56 || x57
  let x59 := !x58
  let x61 := r57_0 x9 x44
  let x63 := r57_0 x9 x47
  let x64 := x61 || x63
  let x65 := x50 == x47
  let x66 := x45 == x48
  let x67 := x65 && x66
  let x68 := x64 || x67
  let x69 := bif x59 then x68 else true
  let x70 := bif x42 then x69 else true
  let x71 := x8 && x70
  x71
noncomputable def g16 (ds : List DV) : List DV := [.b (p16 (dget ds 0).toI (dget ds 1).toI (dget ds 2).toI (dget ds 3).toI (dget ds 4).toI), .b (r16_0 (dget ds 0).toI (dget ds 1).toI (dget ds 2).toI (dget ds 3).toI (dget ds 4).toI)]
def S16 : Sigs := ⟨[(43, s43), (52, s52), (53, s53), (44, s44), (39, s39), (56, s56), (54, s54), (57, s57)], [], [], 0⟩

end Go.Proofs.Ytacciadcmiiimaa

namespace Go.Proofs.Ytacciadcmiiimaa
open Go Go.Sx
set_option maxRecDepth 100000
set_option maxHeartbeats 4000000

def s66 : Sig := ⟨[.s (.one (.b (.h 0))), .s (.one (.i .u64 (.h 1))), .s (.one (.p 0 (.c 0)))], [some (.c false [some (.b (.h 2))])], [.b, .i, .b], .s (.one (.i .u64 (.h 0))), [], [.i], false⟩
def o66 : Out := ⟨[(3, .sub .u64 (.z 0) (.r 1)), (4, .itei (.r 0) (.r 3) (.r 1)), (5, .conv .i32 (.r 4)), (6, .conv .u64 (.r 5)), (7, .not (.r 2)), (8, .itei (.r 7) (.r 4) (.r 6))],
  [],
  [],
  [.r 8]⟩
noncomputable def r66_0 (x0 : Bool) (x1 : Int) (x2 : Bool) : Int :=
  let x3 := IntKind.wrap .u64 (0 - x1)
  let x4 := bif x0 then x3 else x1
  let x5 := IntKind.wrap .i32 x4
  let x6 := IntKind.wrap .u64 x5
  let x7 := !x2
  let x8 := bif x7 then x4 else x6
  x8
noncomputable def g66 (ds : List DV) : List DV := [.i (r66_0 (dget ds 0).toB (dget ds 1).toI (dget ds 2).toB)]
def S66 : Sigs := ⟨[], [], [], 1⟩

def s62 : Sig := ⟨[.s (.one (.i .i64 (.h 0)))], [], [.i], .s (.agg [.i .i64 (.h 0), .i .i64 (.h 1), .i .u64 (.h 2)]), [], [.i, .i, .i], false⟩
def o62 : Out := ⟨[(1, .eql (.r 0) (.z 4)), (2, .not (.r 1)), (3, .itei (.r 2) (.z 52) (.z 23)), (4, .itei (.r 2) (.z 1023) (.z 127)), (5, .itei (.r 2) (.z 9223372036854775808) (.z 2147483648))],
  [],
  [],
  [.r 3, .r 4, .r 5]⟩
noncomputable def r62_0 (x0 : Int) : Int :=
  let x1 := x0 == 4
  let x2 := !x1
  let x3 : Int := bif x2 then 52 else 23
  x3
noncomputable def r62_1 (x0 : Int) : Int :=
  let x1 := x0 == 4
  let x2 := !x1
  let x4 : Int := bif x2 then 1023 else 127
  x4
noncomputable def r62_2 (x0 : Int) : Int :=
  let x1 := x0 == 4
  let x2 := !x1
  let x5 : Int := bif x2 then 9223372036854775808 else 2147483648
  x5
noncomputable def g62 (ds : List DV) : List DV := [.i (r62_0 (dget ds 0).toI), .i (r62_1 (dget ds 0).toI), .i (r62_2 (dget ds 0).toI)]
def S62 : Sigs := ⟨[], [], [], 0⟩

def s83 : Sig := ⟨[.s (.agg [.i .i64 (.h 0), .i .i64 (.h 1), .i .u64 (.h 2)])], [], [.i, .i, .i], .s (.one (.i .u64 (.h 0))), [], [.i], true⟩
def o83 : Out := ⟨[(3, .mul .i64 (.z 2) (.r 1)), (4, .add .i64 (.r 3) (.z 1)), (5, .conv .u64 (.r 4)), (6, .geq (.r 0) (.z 0)), (7, .shl .u64 (.r 5) (.r 0))],
  [⟨[], .r 6⟩],
  [],
  [.r 7]⟩
noncomputable def p83 (x0 : Int) : Bool :=
  let x6 := decide (x0 ≥ 0)
  [ow [] x6].all id
noncomputable def r83_0 (x0 : Int) (x1 : Int) : Int :=
  let x3 := IntKind.wrap .i64 (2 * x1)
  let x4 := IntKind.wrap .i64 (x3 + 1)
  let x5 := IntKind.wrap .u64 x4
  let x7 := ishl .u64 x5 x0
  x7
noncomputable def g83 (ds : List DV) : List DV := [.b (p83 (dget ds 0).toI), .i (r83_0 (dget ds 0).toI (dget ds 1).toI)]
def S83 : Sigs := ⟨[], [], [], 0⟩

def s63 : Sig := ⟨[.s (.agg [.i .i64 (.h 0), .i .i64 (.h 1), .i .u64 (.h 2)])], [], [.i, .i, .i], .s (.one (.i .u64 (.h 0))), [], [.i], true⟩
def o63 : Out := ⟨[(3, .call 83 [.r 0, .r 1, .r 2] 0), (4, .call 83 [.r 0, .r 1, .r 2] 1), (5, .sub .i64 (.r 0) (.z 1)), (6, .geq (.r 5) (.z 0)), (7, .shl .u64 (.z 1) (.r 5)), (8, .lor .u64 (.r 4) (.r 7))],
  [⟨[], .r 3⟩, ⟨[], .r 6⟩],
  [],
  [.r 8]⟩
noncomputable def p63 (x0 : Int) : Bool :=
  let x3 := p83 x0
  let x5 := IntKind.wrap .i64 (x0 - 1)
  let x6 := decide (x5 ≥ 0)
  [ow [] x3, ow [] x6].all id
noncomputable def r63_0 (x0 : Int) (x1 : Int) : Int :=
  let x4 := r83_0 x0 x1
  let x5 := IntKind.wrap .i64 (x0 - 1)
  let x7 := ishl .u64 1 x5
  let x8 := ilor .u64 x4 x7
  x8
noncomputable def g63 (ds : List DV) : List DV := [.b (p63 (dget ds 0).toI), .i (r63_0 (dget ds 0).toI (dget ds 1).toI)]
def S63 : Sigs := ⟨[(83, s83)], [], [], 0⟩

def s64 : Sig := ⟨[.s (.one (.i .i64 (.h 0))), .s (.one (.i .i64 (.h 1)))], [], [.i, .i], .s (.one (.b (.h 0))), [], [.b], false⟩
def o64 : Out := ⟨[(2, .eql (.r 0) (.z 4)), (3, .eql (.r 0) (.z 8)), (4, .or (.r 2) (.r 3)), (5, .geq (.r 1) (.z 0)), (6, .and (.r 4) (.r 5)), (7, .leq (.r 1) (.z 4)), (8, .and (.r 6) (.r 7))],
  [],
  [],
  [.r 8]⟩
noncomputable def r64_0 (x0 : Int) (x1 : Int) : Bool :=
  let x2 := x0 == 4
  let x3 := x0 == 8
  let x4 := x2 || x3
  let x5 := decide (x1 ≥ 0)
  let x6 := x4 && x5
  let x7 := decide (x1 ≤ 4)
  let x8 := x6 && x7
  x8
noncomputable def g64 (ds : List DV) : List DV := [.b (r64_0 (dget ds 0).toI (dget ds 1).toI)]
def S64 : Sigs := ⟨[], [], [], 0⟩

def s65 : Sig := ⟨[.s (.agg [.i .i64 (.h 0), .i .i64 (.h 1), .i .u64 (.h 2)]), .s (.one (.i .u64 (.h 3)))], [], [.i, .i, .i, .i], .s (.one (.b (.h 0))), [], [.b], false⟩
def o65 : Out := ⟨[(4, .land .u64 (.r 3) (.r 2)), (5, .neq (.r 4) (.z 0))],
  [],
  [],
  [.r 5]⟩
noncomputable def r65_0 (x2 : Int) (x3 : Int) : Bool :=
  let x4 := iland .u64 x3 x2
  let x5 := x4 != 0
  x5
noncomputable def g65 (ds : List DV) : List DV := [.b (r65_0 (dget ds 2).toI (dget ds 3).toI)]
def S65 : Sigs := ⟨[], [], [], 0⟩

def s86 : Sig := ⟨[.s (.agg [.i .i64 (.h 0), .i .i64 (.h 1), .i .u64 (.h 2)]), .s (.one (.i .u64 (.h 3)))], [], [.i, .i, .i, .i], .s (.one (.i .u64 (.h 0))), [], [.i], false⟩
def o86 : Out := ⟨[(4, .sub .u64 (.r 2) (.z 1)), (5, .land .u64 (.r 3) (.r 4))],
  [],
  [],
  [.r 5]⟩
noncomputable def r86_0 (x2 : Int) (x3 : Int) : Int :=
  let x4 := IntKind.wrap .u64 (x2 - 1)
  let x5 := iland .u64 x3 x4
  x5
noncomputable def g86 (ds : List DV) : List DV := [.i (r86_0 (dget ds 2).toI (dget ds 3).toI)]
def S86 : Sigs := ⟨[], [], [], 0⟩

def s82 : Sig := ⟨[.s (.agg [.i .i64 (.h 0), .i .i64 (.h 1), .i .u64 (.h 2)]), .s (.one (.b (.h 3))), .s (.one (.i .u64 (.h 4)))], [], [.i, .i, .i, .b, .i], .s (.one (.i .u64 (.h 0))), [], [.i], false⟩
def o82 : Out := ⟨[(5, .lor .u64 (.r 4) (.r 2)), (6, .not (.r 3)), (7, .itei (.r 6) (.r 4) (.r 5))],
  [],
  [],
  [.r 7]⟩
noncomputable def r82_0 (x2 : Int) (x3 : Bool) (x4 : Int) : Int :=
  let x5 := ilor .u64 x4 x2
  let x6 := !x3
  let x7 := bif x6 then x4 else x5
  x7
noncomputable def g82 (ds : List DV) : List DV := [.i (r82_0 (dget ds 2).toI (dget ds 3).toB (dget ds 4).toI)]
def S82 : Sigs := ⟨[], [], [], 0⟩

def s67 : Sig := ⟨[.s (.agg [.i .i64 (.h 0), .i .i64 (.h 1), .i .u64 (.h 2)]), .s (.one (.i .u64 (.h 3)))], [], [.i, .i, .i, .i], .s (.one (.i .i64 (.h 0))), [], [.i], true⟩
def o67 : Out := ⟨[(4, .call 86 [.r 0, .r 1, .r 2, .r 3] 0), (5, .call 83 [.r 0, .r 1, .r 2] 0), (6, .call 83 [.r 0, .r 1, .r 2] 1), (7, .gtr (.r 4) (.r 6)), (8, .sub .i64 (.r 0) (.z 1)), (9, .geq (.r 8) (.z 0)), (10, .shr .u64 (.r 4) (.r 8)), (11, .land .u64 (.r 10) (.z 1)), (12, .eql (.r 11) (.z 1)), (13, .and (.r 7) (.r 12)), (14, .call 83 [.r 0, .r 1, .r 2] 0), (15, .call 83 [.r 0, .r 1, .r 2] 1), (16, .gtr (.r 4) (.r 15)), (17, .call 83 [.r 0, .r 1, .r 2] 0), (18, .call 83 [.r 0, .r 1, .r 2] 1), (19, .eql (.r 4) (.r 18)), (20, .geq (.r 0) (.z 0)), (21, .shr .u64 (.r 4) (.r 0)), (22, .gtr (.r 21) (.z 0)), (23, .gtr (.r 4) (.z 0)), (24, .not (.r 23)), (25, .iteb (.r 22) (.t false) (.r 24)), (26, .iteb (.r 19) (.t false) (.r 25)), (27, .iteb (.r 16) (.t false) (.r 26)), (28, .iteb (.r 13) (.t false) (.r 27)), (29, .itei (.r 22) (.z 6) (.z 5)), (30, .itei (.r 19) (.z 7) (.r 29)), (31, .itei (.r 16) (.z 8) (.r 30)), (32, .itei (.r 13) (.z 9) (.r 31)), (33, .itei (.r 28) (.z 4) (.r 32))],
  [⟨[], .r 5⟩, ⟨[(.r 7, true)], .r 9⟩, ⟨[(.r 13, false)], .r 14⟩, ⟨[(.r 13, false), (.r 16, false)], .r 17⟩, ⟨[(.r 13, false), (.r 16, false), (.r 19, false)], .r 20⟩],
  [],
  [.r 33]⟩
noncomputable def p67 (x0 : Int) (x1 : Int) (x2 : Int) (x3 : Int) : Bool :=
  let x4 := r86_0 x2 x3
  let x5 := p83 x0
  let x6 := r83_0 x0 x1
  let x7 := decide (x4 > x6)
  let x8 := IntKind.wrap .i64 (x0 - 1)
  let x9 := decide (x8 ≥ 0)
  let x10 := ishr .u64 x4 x8
  let x11 := iland .u64 x10 1
  let x12 := x11 == 1
  let x13 := x7 && x12
  let x14 := p83 x0
  let x15 := r83_0 x0 x1
  let x16 := decide (x4 > x15)
  let x17 := p83 x0
  let x18 := r83_0 x0 x1
  let x19 := x4 == x18
  let x20 := decide (x0 ≥ 0)
  [ow [] x5, ow [(x7, true)] x9, ow [(x13, false)] x14, ow [(x13, false), (x16, false)] x17, ow [(x13, false), (x16, false), (x19, false)] x20].all id
noncomputable def r67_0 (x0 : Int) (x1 : Int) (x2 : Int) (x3 : Int) : Int :=
  let x4 := r86_0 x2 x3
  let x6 := r83_0 x0 x1
  let x7 := decide (x4 > x6)
  let x8 := IntKind.wrap .i64 (x0 - 1)
  let x10 := ishr .u64 x4 x8
  let x11 := iland .u64 x10 1
  let x12 := x11 == 1
  let x13 := x7 && x12
  let x15 := r83_0 x0 x1
  let x16 := decide (x4 > x15)
  let x18 := r83_0 x0 x1
  let x19 := x4 == x18
  let x21 := ishr .u64 x4 x0
  let x22 := decide (x21 > 0)
  let x23 := decide (x4 > 0)
  let x24 := !x23
  let x25 := bif x22 then false else x24
  let x26 := bif x19 then false else x25
  let x27 := bif x16 then false else x26
  let x28 := bif x13 then false else x27
  let x29 : Int := bif x22 then 6 else 5
  let x30 := bif x19 then 7 else x29
  let x31 := bif x16 then 8 else x30
  let x32 := bif x13 then 9 else x31
  let x33 := bif x28 then 4 else x32
  x33
noncomputable def g67 (ds : List DV) : List DV := [.b (p67 (dget ds 0).toI (dget ds 1).toI (dget ds 2).toI (dget ds 3).toI), .i (r67_0 (dget ds 0).toI (dget ds 1).toI (dget ds 2).toI (dget ds 3).toI)]
def S67 : Sigs := ⟨[(86, s86), (83, s83)], [], [], 0⟩

def s68 : Sig := ⟨[.s (.agg [.i .i64 (.h 0), .i .i64 (.h 1), .i .u64 (.h 2)]), .s (.one (.i .u64 (.h 3)))], [], [.i, .i, .i, .i], .t [.one (.i .u64 (.h 0)), .one (.i .i64 (.h 1))], [], [.i, .i], true⟩
def o68 : Out := ⟨[(4, .call 86 [.r 0, .r 1, .r 2, .r 3] 0), (5, .geq (.r 0) (.z 0)), (6, .shr .u64 (.r 4) (.r 0)), (7, .conv .i64 (.r 6)), (8, .gtr (.z 1) (.r 7)), (9, .itei (.r 8) (.z 1) (.r 7)), (10, .geq (.r 0) (.z 0)), (11, .shr .u64 (.r 4) (.r 0)), (12, .gtr (.r 11) (.z 0)), (13, .geq (.r 0) (.z 0)), (14, .shl .u64 (.z 1) (.r 0)), (15, .sub .u64 (.r 14) (.z 1)), (16, .land .u64 (.r 4) (.r 15)), (17, .geq (.r 0) (.z 0)), (18, .shl .u64 (.z 1) (.r 0)), (19, .lor .u64 (.r 16) (.r 18)), (20, .itei (.r 12) (.r 19) (.r 4)), (21, .sub .i64 (.r 9) (.r 1)), (22, .sub .i64 (.r 21) (.r 0))],
  [⟨[], .r 5⟩, ⟨[], .r 10⟩, ⟨[(.r 12, true)], .r 13⟩, ⟨[(.r 12, true)], .r 17⟩],
  [],
  [.r 20, .r 22]⟩
noncomputable def p68 (x0 : Int) (x2 : Int) (x3 : Int) : Bool :=
  let x4 := r86_0 x2 x3
  let x5 := decide (x0 ≥ 0)
  let x10 := decide (x0 ≥ 0)
  let x11 := ishr .u64 x4 x0
  let x12 := decide (x11 > 0)
  let x13 := decide (x0 ≥ 0)
  let x17 := decide (x0 ≥ 0)
  [ow [] x5, ow [] x10, ow [(x12, true)] x13, ow [(x12, true)] x17].all id
noncomputable def r68_0 (x0 : Int) (x2 : Int) (x3 : Int) : Int :=
  let x4 := r86_0 x2 x3
  let x11 := ishr .u64 x4 x0
  let x12 := decide (x11 > 0)
  let x14 := ishl .u64 1 x0
  let x15 := IntKind.wrap .u64 (x14 - 1)
  let x16 := iland .u64 x4 x15
  let x18 := ishl .u64 1 x0
  let x19 := ilor .u64 x16 x18
  let x20 := bif x12 then x19 else x4
  x20
noncomputable def r68_1 (x0 : Int) (x1 : Int) (x2 : Int) (x3 : Int) : Int :=
  let x4 := r86_0 x2 x3
  let x6 := ishr .u64 x4 x0
  let x7 := IntKind.wrap .i64 x6
  let x8 := decide (1 > x7)
  let x9 := bif x8 then 1 else x7
  let x21 := IntKind.wrap .i64 (x9 - x1)
  let x22 := IntKind.wrap .i64 (x21 - x0)
  x22
noncomputable def g68 (ds : List DV) : List DV := [.b (p68 (dget ds 0).toI (dget ds 2).toI (dget ds 3).toI), .i (r68_0 (dget ds 0).toI (dget ds 2).toI (dget ds 3).toI), .i (r68_1 (dget ds 0).toI (dget ds 1).toI (dget ds 2).toI (dget ds 3).toI)]
def S68 : Sigs := ⟨[(86, s86)], [], [], 0⟩

def s70 : Sig := ⟨[.s (.one (.i .i64 (.h 0))), .s (.one (.b (.h 1))), .s (.one (.i .u64 (.h 2))), .s (.one (.i .i64 (.h 3)))], [], [.i, .b, .i, .i], .t [.one (.i .u64 (.h 0)), .one (.b (.h 1))], [], [.i, .b], true⟩
def o70 : Out := ⟨[(4, .leq (.r 3) (.z 0)), (5, .not (.r 4)), (6, .eql (.r 2) (.z 0)), (7, .not (.r 6)), (8, .gtr (.r 3) (.z 64)), (9, .eql (.r 3) (.z 64)), (10, .geq (.r 3) (.z 0)), (11, .shr .u64 (.r 2) (.r 3)), (12, .geq (.r 3) (.z 0)), (13, .shl .u64 (.z 1) (.r 3)), (14, .sub .u64 (.r 13) (.z 1)), (15, .land .u64 (.r 2) (.r 14)), (16, .sub .i64 (.r 3) (.z 1)), (17, .geq (.r 16) (.z 0)), (18, .shl .u64 (.z 1) (.r 16)), (19, .itei (.r 9) (.z 0) (.r 11)), (20, .itei (.r 9) (.r 2) (.r 15)), (21, .itei (.r 9) (.z 9223372036854775808) (.r 18)), (22, .itei (.r 8) (.z 0) (.r 19)), (23, .itei (.r 8) (.z 1) (.r 20)), (24, .itei (.r 8) (.z 2) (.r 21)), (25, .eql (.r 0) (.z 0)), (26, .gtr (.r 23) (.r 24)), (27, .eql (.r 23) (.r 24)), (28, .land .u64 (.r 22) (.z 1)), (29, .eql (.r 28) (.z 1)), (30, .and (.r 27) (.r 29)), (31, .or (.r 26) (.r 30)), (32, .eql (.r 0) (.z 2)), (33, .neq (.r 23) (.z 0)), (34, .and (.r 1) (.r 33)), (35, .eql (.r 0) (.z 3)), (36, .not (.r 1)), (37, .neq (.r 23) (.z 0)), (38, .and (.r 36) (.r 37)), (39, .eql (.r 0) (.z 4)), (40, .geq (.r 23) (.r 24)), (41, .and (.r 39) (.r 40)), (42, .iteb (.r 35) (.r 38) (.r 41)), (43, .iteb (.r 32) (.r 34) (.r 42)), (44, .iteb (.r 25) (.r 31) (.r 43)), (45, .add .u64 (.r 22) (.z 1)), (46, .itei (.r 44) (.r 45) (.r 22)), (47, .eql (.r 23) (.z 0)), (48, .itei (.r 7) (.r 46) (.z 0)), (49, .iteb (.r 7) (.r 47) (.t true)), (50, .itei (.r 5) (.r 48) (.r 2)), (51, .iteb (.r 5) (.r 49) (.t true))],
  [⟨[(.r 5, true), (.r 7, true), (.r 8, false), (.r 9, false)], .r 10⟩, ⟨[(.r 5, true), (.r 7, true), (.r 8, false), (.r 9, false)], .r 12⟩, ⟨[(.r 5, true), (.r 7, true), (.r 8, false), (.r 9, false)], .r 17⟩],
  [],
  [.r 50, .r 51]⟩
noncomputable def p70 (x2 : Int) (x3 : Int) : Bool :=
  let x4 := decide (x3 ≤ 0)
  let x5 := !x4
  let x6 := x2 == 0
  let x7 := !x6
  let x8 := decide (x3 > 64)
  let x9 := x3 == 64
  let x10 := decide (x3 ≥ 0)
  let x12 := decide (x3 ≥ 0)
  let x16 := IntKind.wrap .i64 (x3 - 1)
  let x17 := decide (x16 ≥ 0)
  [ow [(x5, true), (x7, true), (x8, false), (x9, false)] x10, ow [(x5, true), (x7, true), (x8, false), (x9, false)] x12, ow [(x5, true), (x7, true), (x8, false), (x9, false)] x17].all id
noncomputable def r70_0 (x0 : Int) (x1 : Bool) (x2 : Int) (x3 : Int) : Int :=
  let x4 := decide (x3 ≤ 0)
  let x5 := !x4
  let x6 := x2 == 0
  let x7 := !x6
  let x8 := decide (x3 > 64)
  let x9 := x3 == 64
  let x11 := ishr .u64 x2 x3
  let x13 := ishl .u64 1 x3
  let x14 := IntKind.wrap .u64 (x13 - 1)
  let x15 := iland .u64 x2 x14
  let x16 := IntKind.wrap .i64 (x3 - 1)
  let x18 := ishl .u64 1 x16
  let x19 := bif x9 then 0 else x11
  let x20 := bif x9 then x2 else x15
  let x21 := bif x9 then 9223372036854775808 else x18
  let x22 := bif x8 then 0 else x19
  let x23 := bif x8 then 1 else x20
  let x24 := bif x8 then 2 else x21
  let x25 := x0 == 0
  let x26 := decide (x23 > x24)
  let x27 := x23 == x24
  let x28 := iland .u64 x22 1
  let x29 := x28 == 1
  let x30 := x27 && x29
  let x31 := x26 || x30
  let x32 := x0 == 2
  let x33 := x23 != 0
  let x34 := x1 && x33
  let x35 := x0 == 3
  let x36 := !x1
  let x37 := x23 != 0
  let x38 := x36 && x37
  let x39 := x0 == 4
  let x40 := decide (x23 ≥ x24)
  let x41 := x39 && x40
  let x42 := bif x35 then x38 else x41
  let x43 := bif x32 then x34 else x42
  let x44 := bif x25 then x31 else x43
  let x45 := IntKind.wrap .u64 (x22 + 1)
  let x46 := bif x44 then x45 else x22
  let x48 := bif x7 then x46 else 0
  let x50 := bif x5 then x48 else x2
  x50
noncomputable def r70_1 (x2 : Int) (x3 : Int) : Bool :=
  let x4 := decide (x3 ≤ 0)
  let x5 := !x4
  let x6 := x2 == 0
  let x7 := !x6
  let x8 := decide (x3 > 64)
  let x9 := x3 == 64
  let x13 := ishl .u64 1 x3
  let x14 := IntKind.wrap .u64 (x13 - 1)
  let x15 := iland .u64 x2 x14
  let x20 := bif x9 then x2 else x15
  let x23 := bif x8 then 1 else x20
  let x47 := x23 == 0
  let x49 := bif x7 then x47 else true
  let x51 := bif x5 then x49 else true
  x51
noncomputable def g70 (ds : List DV) : List DV := [.b (p70 (dget ds 2).toI (dget ds 3).toI), .i (r70_0 (dget ds 0).toI (dget ds 1).toB (dget ds 2).toI (dget ds 3).toI), .b (r70_1 (dget ds 2).toI (dget ds 3).toI)]
def S70 : Sigs := ⟨[], [], [], 0⟩

def s78 : Sig := ⟨[.s (.agg [.i .i64 (.h 0), .i .i64 (.h 1), .i .u64 (.h 2)]), .s (.one (.i .i64 (.h 3))), .s (.one (.b (.h 4))), .s (.one (.i .u64 (.h 5))), .s (.one (.i .i64 (.h 6)))], [], [.i, .i, .i, .i, .b, .i, .i], .t [.one (.i .u64 (.h 0)), .one (.i .i64 (.h 1))], [], [.i, .i], true⟩
def o78 : Out := ⟨List.append (List.append (List.append (List.append ([(7, .call 115 [.r 5] 0), (8, .call 115 [.r 5] 1), (9, .geq (.r 8) (.z 0)), (10, .shl .u64 (.r 5) (.r 8)), (11, .sub .i64 (.r 6) (.r 8)), (12, .sub .i64 (.z 63) (.r 0)), (13, .sub .i64 (.z 1) (.r 1)), (14, .sub .i64 (.r 13) (.r 0)), (15, .add .i64 (.r 11) (.r 12)), (16, .lss (.r 15) (.r 14))]) (callsAt 17 70 [.r 3, .r 4, .r 10, .r 12] 0 3)) ([(20, .add .i64 (.r 11) (.r 12)), (21, .sub .i64 (.r 14) (.z 1)), (22, .lss (.r 20) (.r 21)), (23, .geq (.r 0) (.z 0)), (24, .shl .u64 (.z 2) (.r 0)), (25, .lss (.r 18) (.r 24)), (26, .or (.r 22) (.r 25)), (27, .sub .i64 (.r 14) (.r 11)), (28, .itei (.r 16) (.r 27) (.r 12)), (29, .and (.r 16) (.r 26))])) (callsAt 30 70 [.r 3, .r 4, .r 10, .r 28] 0 3)) ([(33, .not (.r 32)), (34, .itei (.r 29) (.z 3) (.z 1)), (35, .itei (.r 33) (.r 34) (.z 0)), (36, .geq (.r 0) (.z 0)), (37, .shl .u64 (.z 2) (.r 0)), (38, .eql (.r 31) (.r 37)), (39, .shr .u64 (.r 31) (.z 1)), (40, .add .i64 (.r 28) (.z 1)), (41, .itei (.r 38) (.r 40) (.r 28)), (42, .itei (.r 38) (.r 39) (.r 31)), (43, .geq (.r 0) (.z 0)), (44, .shl .u64 (.z 1) (.r 0)), (45, .lss (.r 42) (.r 44)), (46, .call 82 [.r 0, .r 1, .r 2, .r 4, .r 42] 0), (47, .not (.r 45)), (48, .add .i64 (.r 11) (.r 41)), (49, .sub .i64 (.r 48) (.r 14)), (50, .add .i64 (.r 49) (.z 1)), (51, .mul .i64 (.z 2) (.r 1)), (52, .gtr (.r 50) (.r 51)), (53, .eql (.r 3) (.z 1)), (54, .eql (.r 3) (.z 2)), (55, .not (.r 4)), (56, .and (.r 54) (.r 55)), (57, .or (.r 53) (.r 56)), (58, .eql (.r 3) (.z 3)), (59, .and (.r 58) (.r 4)), (60, .or (.r 57) (.r 59)), (61, .call 83 [.r 0, .r 1, .r 2] 0), (62, .call 83 [.r 0, .r 1, .r 2] 1), (63, .sub .u64 (.r 62) (.z 1)), (64, .call 82 [.r 0, .r 1, .r 2, .r 4, .r 63] 0), (65, .not (.r 60)), (66, .call 83 [.r 0, .r 1, .r 2] 0), (67, .call 83 [.r 0, .r 1, .r 2] 1), (68, .call 82 [.r 0, .r 1, .r 2, .r 4, .r 67] 0), (69, .not (.r 52)), (70, .conv .u64 (.r 50)), (71, .geq (.r 0) (.z 0)), (72, .shl .u64 (.r 70) (.r 0)), (73, .geq (.r 0) (.z 0)), (74, .shl .u64 (.z 1) (.r 0)), (75, .landNot .u64 (.r 42) (.r 74)), (76, .lor .u64 (.r 72) (.r 75)), (77, .call 82 [.r 0, .r 1, .r 2, .r 4, .r 76] 0), (78, .itei (.r 65) (.r 68) (.r 64)), (79, .itei (.r 69) (.r 77) (.r 78)), (80, .itei (.r 69) (.r 35) (.z 5)), (81, .itei (.r 47) (.r 79) (.r 46)), (82, .itei (.r 47) (.r 80) (.r 35))]),
  [⟨[], .r 7⟩, ⟨[], .r 9⟩, ⟨[(.r 16, true)], .r 17⟩, ⟨[(.r 16, true), (.r 22, false)], .r 23⟩, ⟨[], .r 30⟩, ⟨[], .r 36⟩, ⟨[], .r 43⟩, ⟨[(.r 47, true), (.r 52, true), (.r 60, true)], .r 61⟩, ⟨[(.r 47, true), (.r 52, true), (.r 65, true)], .r 66⟩, ⟨[(.r 47, true), (.r 69, true)], .r 71⟩, ⟨[(.r 47, true), (.r 69, true)], .r 73⟩],
  [],
  [.r 81, .r 82]⟩
noncomputable def p78 (x0 : Int) (x1 : Int) (x3 : Int) (x4 : Bool) (x5 : Int) (x6 : Int) : Bool :=
  let x7 := p115 x5
  let x8 := r115_0 x5
  let x9 := decide (x8 ≥ 0)
  let x10 := ishl .u64 x5 x8
  let x11 := IntKind.wrap .i64 (x6 - x8)
  let x12 := IntKind.wrap .i64 (63 - x0)
  let x13 := IntKind.wrap .i64 (1 - x1)
  let x14 := IntKind.wrap .i64 (x13 - x0)
  let x15 := IntKind.wrap .i64 (x11 + x12)
  let x16 := decide (x15 < x14)
  let x17 := p70 x10 x12
  let x20 := IntKind.wrap .i64 (x11 + x12)
  let x21 := IntKind.wrap .i64 (x14 - 1)
  let x22 := decide (x20 < x21)
  let x23 := decide (x0 ≥ 0)
  let x27 := IntKind.wrap .i64 (x14 - x11)
  let x28 := bif x16 then x27 else x12
  let x30 := p70 x10 x28
  let x31 := r70_0 x3 x4 x10 x28
  let x36 := decide (x0 ≥ 0)
  let x37 := ishl .u64 2 x0
  let x38 := x31 == x37
  let x39 := ishr .u64 x31 1
  let x40 := IntKind.wrap .i64 (x28 + 1)
  let x41 := bif x38 then x40 else x28
  let x42 := bif x38 then x39 else x31
  let x43 := decide (x0 ≥ 0)
  let x44 := ishl .u64 1 x0
  let x45 := decide (x42 < x44)
  let x47 := !x45
  let x48 := IntKind.wrap .i64 (x11 + x41)
  let x49 := IntKind.wrap .i64 (x48 - x14)
  let x50 := IntKind.wrap .i64 (x49 + 1)
  let x51 := IntKind.wrap .i64 (2 * x1)
  let x52 := decide (x50 > x51)
  let x53 := x3 == 1
  let x54 := x3 == 2
  let x55 := !x4
  let x56 := x54 && x55
  let x57 := x53 || x56
  let x58 := x3 == 3
  let x59 := x58 && x4
  let x60 := x57 || x59
  let x61 := p83 x0
  let x65 := !x60
  let x66 := p83 x0
  let x69 := !x52
  let x71 := decide (x0 ≥ 0)
  let x73 := decide (x0 ≥ 0)
  [ow [] x7, ow [] x9, ow [(x16, true)] x17, ow [(x16, true), (x22, false)] x23, ow [] x30, ow [] x36, ow [] x43, ow [(x47, true), (x52, true), (x60, true)] x61, ow [(x47, true), (x52, true), (x65, true)] x66, ow [(x47, true), (x69, true)] x71, ow [(x47, true), (x69, true)] x73].all id
noncomputable def r78_0 (x0 : Int) (x1 : Int) (x2 : Int) (x3 : Int) (x4 : Bool) (x5 : Int) (x6 : Int) : Int :=
  let x8 := r115_0 x5
  let x10 := ishl .u64 x5 x8
  let x11 := IntKind.wrap .i64 (x6 - x8)
  let x12 := IntKind.wrap .i64 (63 - x0)
  let x13 := IntKind.wrap .i64 (1 - x1)
  let x14 := IntKind.wrap .i64 (x13 - x0)
  let x15 := IntKind.wrap .i64 (x11 + x12)
  let x16 := decide (x15 < x14)
  let x27 := IntKind.wrap .i64 (x14 - x11)
  let x28 := bif x16 then x27 else x12
  let x31 := r70_0 x3 x4 x10 x28
  let x37 := ishl .u64 2 x0
  let x38 := x31 == x37
  let x39 := ishr .u64 x31 1
  let x40 := IntKind.wrap .i64 (x28 + 1)
  let x41 := bif x38 then x40 else x28
  let x42 := bif x38 then x39 else x31
  let x44 := ishl .u64 1 x0
  let x45 := decide (x42 < x44)
  let x46 := r82_0 x2 x4 x42
  let x47 := !x45
  let x48 := IntKind.wrap .i64 (x11 + x41)
  let x49 := IntKind.wrap .i64 (x48 - x14)
  let x50 := IntKind.wrap .i64 (x49 + 1)
  let x51 := IntKind.wrap .i64 (2 * x1)
  let x52 := decide (x50 > x51)
  let x53 := x3 == 1
  let x54 := x3 == 2
  let x55 := !x4
  let x56 := x54 && x55
  let x57 := x53 || x56
  let x58 := x3 == 3
  let x59 := x58 && x4
  let x60 := x57 || x59
  let x62 := r83_0 x0 x1
  let x63 := IntKind.wrap .u64 (x62 - 1)
  let x64 := r82_0 x2 x4 x63
  let x65 := !x60
  let x67 := r83_0 x0 x1
  let x68 := r82_0 x2 x4 x67
  let x69 := !x52
  let x70 := IntKind.wrap .u64 x50
  let x72 := ishl .u64 x70 x0
  let x74 := ishl .u64 1 x0
  let x75 := ilandNot .u64 x42 x74
  let x76 := ilor .u64 x72 x75
  let x77 := r82_0 x2 x4 x76
  let x78 := bif x65 then x68 else x64
  let x79 := bif x69 then x77 else x78
  let x81 := bif x47 then x79 else x46
  x81
noncomputable def r78_1 (x0 : Int) (x1 : Int) (x3 : Int) (x4 : Bool) (x5 : Int) (x6 : Int) : Int :=
  let x8 := r115_0 x5
  let x10 := ishl .u64 x5 x8
  let x11 := IntKind.wrap .i64 (x6 - x8)
  let x12 := IntKind.wrap .i64 (63 - x0)
  let x13 := IntKind.wrap .i64 (1 - x1)
  let x14 := IntKind.wrap .i64 (x13 - x0)
  let x15 := IntKind.wrap .i64 (x11 + x12)
  let x16 := decide (x15 < x14)
  let x18 := r70_0 x3 x4 x10 x12
  let x20 := IntKind.wrap .i64 (x11 + x12)
  let x21 := IntKind.wrap .i64 (x14 - 1)
  let x22 := decide (x20 < x21)
  let x24 := ishl .u64 2 x0
  let x25 := decide (x18 < x24)
  let x26 := x22 || x25
  let x27 := IntKind.wrap .i64 (x14 - x11)
  let x28 := bif x16 then x27 else x12
  let x29 := x16 && x26
  let x31 := r70_0 x3 x4 x10 x28
  let x32 := r70_1 x10 x28
  let x33 := !x32
  let x34 : Int := bif x29 then 3 else 1
  let x35 := bif x33 then x34 else 0
  let x37 := ishl .u64 2 x0
  let x38 := x31 == x37
  let x39 := ishr .u64 x31 1
  let x40 := IntKind.wrap .i64 (x28 + 1)
  let x41 := bif x38 then x40 else x28
  let x42 := bif x38 then x39 else x31
  let x44 := ishl .u64 1 x0
  let x45 := decide (x42 < x44)
  let x47 := !x45
  let x48 := IntKind.wrap .i64 (x11 + x41)
  let x49 := IntKind.wrap .i64 (x48 - x14)
  let x50 := IntKind.wrap .i64 (x49 + 1)
  let x51 := IntKind.wrap .i64 (2 * x1)
  let x52 := decide (x50 > x51)
  let x69 := !x52
  let x80 := bif x69 then x35 else 5
  let x82 := bif x47 then x80 else x35
  x82
noncomputable def g78 (ds : List DV) : List DV := [.b (p78 (dget ds 0).toI (dget ds 1).toI (dget ds 3).toI (dget ds 4).toB (dget ds 5).toI (dget ds 6).toI), .i (r78_0 (dget ds 0).toI (dget ds 1).toI (dget ds 2).toI (dget ds 3).toI (dget ds 4).toB (dget ds 5).toI (dget ds 6).toI), .i (r78_1 (dget ds 0).toI (dget ds 1).toI (dget ds 3).toI (dget ds 4).toB (dget ds 5).toI (dget ds 6).toI)]
def S78 : Sigs := ⟨[(115, s115), (70, s70), (82, s82), (83, s83)], [], [], 0⟩

def s87 : Sig := ⟨[.s (.agg [.i .i64 (.h 0), .i .i64 (.h 1), .i .u64 (.h 2)]), .s (.one (.i .u64 (.h 3)))], [], [.i, .i, .i, .i], .s (.one (.i .i64 (.h 0))), [], [.i], false⟩
def o87 : Out := ⟨[(4, .call 65 [.r 0, .r 1, .r 2, .r 3] 0), (5, .call 86 [.r 0, .r 1, .r 2, .r 3] 0), (6, .conv .i64 (.r 5)), (7, .lxor .i64 (.z (-1)) (.r 6)), (8, .not (.r 4)), (9, .call 86 [.r 0, .r 1, .r 2, .r 3] 0), (10, .conv .i64 (.r 9)), (11, .itei (.r 8) (.r 10) (.r 7))],
  [],
  [],
  [.r 11]⟩
noncomputable def r87_0 (x2 : Int) (x3 : Int) : Int :=
  let x4 := r65_0 x2 x3
  let x5 := r86_0 x2 x3
  let x6 := IntKind.wrap .i64 x5
  let x7 := ilxor .i64 (-1) x6
  let x8 := !x4
  let x9 := r86_0 x2 x3
  let x10 := IntKind.wrap .i64 x9
  let x11 := bif x8 then x10 else x7
  x11
noncomputable def g87 (ds : List DV) : List DV := [.i (r87_0 (dget ds 2).toI (dget ds 3).toI)]
def S87 : Sigs := ⟨[(65, s65), (86, s86)], [], [], 0⟩

def s25 : Sig := ⟨[.s (.one (.i .i64 (.h 0))), .s (.one (.i .i64 (.h 1))), .s (.one (.b (.h 2))), .s (.one (.b (.h 3))), .s (.one (.i .u64 (.h 4)))], [], [.i, .i, .b, .b, .i], .t [.one (.i .u64 (.h 0)), .one (.i .i64 (.h 1))], [], [.i, .i], true⟩
def o25 : Out := ⟨List.append (List.append (List.append (List.append (List.append (List.append ([(5, .call 64 [.r 0, .r 1] 0), (6, .not (.r 5)), (7, .not (.r 6))]) (callsAt 8 62 [.r 0] 0 3)) ([(11, .call 65 [.r 8, .r 9, .r 10, .r 4] 0), (12, .itei (.r 2) (.z 2147483648) (.z 9223372036854775808)), (13, .itei (.r 2) (.z 2147483647) (.z 9223372036854775807)), (14, .mul .u64 (.z 2) (.r 13)), (15, .add .u64 (.r 14) (.z 1)), (16, .itei (.r 3) (.z 0) (.r 12)), (17, .itei (.r 3) (.r 15) (.r 13)), (18, .call 67 [.r 8, .r 9, .r 10, .r 4] 0), (19, .call 67 [.r 8, .r 9, .r 10, .r 4] 1), (20, .geq (.r 19) (.z 8)), (21, .call 66 [.t false, .r 17, .r 2] 0), (22, .not (.r 20))])) (callsAt 23 68 [.r 8, .r 9, .r 10, .r 4] 0 3)) ([(26, .eql (.r 19) (.z 7)), (27, .gtr (.r 25) (.z 0)), (28, .neq (.r 24) (.z 0)), (29, .and (.r 27) (.r 28)), (30, .call 69 [.r 24] 0), (31, .call 69 [.r 24] 1), (32, .add .i64 (.r 31) (.r 25)), (33, .gtr (.r 32) (.z 64)), (34, .and (.r 29) (.r 33)), (35, .gtr (.r 25) (.z 0)), (36, .geq (.r 25) (.z 0)), (37, .shl .u64 (.r 24) (.r 25)), (38, .sub .i64 (.z 0) (.r 25))])) (callsAt 39 70 [.r 1, .r 11, .r 24, .r 38] 0 3)) ([(42, .itei (.r 35) (.r 37) (.r 40)), (43, .or (.r 35) (.r 41)), (44, .itei (.r 34) (.r 24) (.r 42)), (45, .or (.r 34) (.r 43)), (46, .or (.r 34) (.r 26)), (47, .itei (.r 26) (.r 24) (.r 44)), (48, .or (.r 26) (.r 45)), (49, .iteb (.r 26) (.r 26) (.r 46)), (50, .gtr (.r 47) (.r 16)), (51, .or (.r 49) (.r 50)), (52, .and (.r 11) (.r 51)), (53, .call 66 [.t true, .r 16, .r 2] 0), (54, .not (.r 11)), (55, .gtr (.r 47) (.r 17)), (56, .or (.r 49) (.r 55)), (57, .and (.r 54) (.r 56)), (58, .call 66 [.t false, .r 17, .r 2] 0), (59, .not (.r 48)), (60, .call 66 [.r 11, .r 47, .r 2] 0), (61, .not (.r 59)), (62, .iteb (.r 57) (.t false) (.r 61)), (63, .iteb (.r 52) (.t false) (.r 62)), (64, .call 66 [.r 11, .r 47, .r 2] 0), (65, .itei (.r 57) (.r 58) (.r 60)), (66, .itei (.r 57) (.z 16) (.z 1)), (67, .itei (.r 52) (.r 53) (.r 65)), (68, .itei (.r 52) (.z 16) (.r 66)), (69, .itei (.r 63) (.r 64) (.r 67)), (70, .itei (.r 63) (.z 0) (.r 68)), (71, .itei (.r 22) (.r 69) (.r 21)), (72, .itei (.r 22) (.r 70) (.z 16)), (73, .itei (.r 7) (.r 71) (.z 0)), (74, .itei (.r 7) (.r 72) (.z 0))]),
  [⟨[(.r 7, true)], .r 18⟩, ⟨[(.r 7, true), (.r 22, true)], .r 23⟩, ⟨[(.r 7, true), (.r 22, true), (.r 26, false), (.r 29, true)], .r 30⟩, ⟨[(.r 7, true), (.r 22, true), (.r 26, false), (.r 34, false), (.r 35, true)], .r 36⟩, ⟨[(.r 7, true), (.r 22, true), (.r 26, false), (.r 34, false), (.r 35, false)], .r 39⟩],
  [],
  [.r 73, .r 74]⟩
noncomputable def p25 (x0 : Int) (x1 : Int) (x4 : Int) : Bool :=
  let x5 := r64_0 x0 x1
  let x6 := !x5
  let x7 := !x6
  let x8 := r62_0 x0
  let x9 := r62_1 x0
  let x10 := r62_2 x0
  let x18 := p67 x8 x9 x10 x4
  let x19 := r67_0 x8 x9 x10 x4
  let x20 := decide (x19 ≥ 8)
  let x22 := !x20
  let x23 := p68 x8 x10 x4
  let x24 := r68_0 x8 x10 x4
  let x25 := r68_1 x8 x9 x10 x4
  let x26 := x19 == 7
  let x27 := decide (x25 > 0)
  let x28 := x24 != 0
  let x29 := x27 && x28
  let x30 := p69 x24
  let x31 := r69_0 x24
  let x32 := IntKind.wrap .i64 (x31 + x25)
  let x33 := decide (x32 > 64)
  let x34 := x29 && x33
  let x35 := decide (x25 > 0)
  let x36 := decide (x25 ≥ 0)
  let x38 := IntKind.wrap .i64 (0 - x25)
  let x39 := p70 x24 x38
  [ow [(x7, true)] x18, ow [(x7, true), (x22, true)] x23, ow [(x7, true), (x22, true), (x26, false), (x29, true)] x30, ow [(x7, true), (x22, true), (x26, false), (x34, false), (x35, true)] x36, ow [(x7, true), (x22, true), (x26, false), (x34, false), (x35, false)] x39].all id
noncomputable def r25_0 (x0 : Int) (x1 : Int) (x2 : Bool) (x3 : Bool) (x4 : Int) : Int :=
  let x5 := r64_0 x0 x1
  let x6 := !x5
  let x7 := !x6
  let x8 := r62_0 x0
  let x9 := r62_1 x0
  let x10 := r62_2 x0
  let x11 := r65_0 x10 x4
  let x12 : Int := bif x2 then 2147483648 else 9223372036854775808
  let x13 : Int := bif x2 then 2147483647 else 9223372036854775807
  let x14 := IntKind.wrap .u64 (2 * x13)
  let x15 := IntKind.wrap .u64 (x14 + 1)
  let x16 := bif x3 then 0 else x12
  let x17 := bif x3 then x15 else x13
  let x19 := r67_0 x8 x9 x10 x4
  let x20 := decide (x19 ≥ 8)
  let x21 := r66_0 false x17 x2
  let x22 := !x20
  let x24 := r68_0 x8 x10 x4
  let x25 := r68_1 x8 x9 x10 x4
  let x26 := x19 == 7
  let x27 := decide (x25 > 0)
  let x28 := x24 != 0
  let x29 := x27 && x28
  let x31 := r69_0 x24
  let x32 := IntKind.wrap .i64 (x31 + x25)
  let x33 := decide (x32 > 64)
  let x34 := x29 && x33
  let x35 := decide (x25 > 0)
  let x37 := ishl .u64 x24 x25
  let x38 := IntKind.wrap .i64 (0 - x25)
  let x40 := r70_0 x1 x11 x24 x38
  let x41 := r70_1 x24 x38
  let x42 := bif x35 then x37 else x40
  let x43 := x35 || x41
  let x44 := bif x34 then x24 else x42
  let x45 := x34 || x43
  let x46 := x34 || x26
  let x47 := bif x26 then x24 else x44
  let x48 := x26 || x45
  let x49 := bif x26 then x26 else x46
  let x50 := decide (x47 > x16)
  let x51 := x49 || x50
  let x52 := x11 && x51
  let x53 := r66_0 true x16 x2
  let x54 := !x11
  let x55 := decide (x47 > x17)
  let x56 := x49 || x55
  let x57 := x54 && x56
  let x58 := r66_0 false x17 x2
  let x59 := !x48
  let x60 := r66_0 x11 x47 x2
  let x61 := !x59
  let x62 := bif x57 then false else x61
  let x63 := bif x52 then false else x62
  let x64 := r66_0 x11 x47 x2
  let x65 := bif x57 then x58 else x60
  let x67 := bif x52 then x53 else x65
  let x69 := bif x63 then x64 else x67
  let x71 := bif x22 then x69 else x21
  let x73 := bif x7 then x71 else 0
  x73
noncomputable def r25_1 (x0 : Int) (x1 : Int) (x2 : Bool) (x3 : Bool) (x4 : Int) : Int :=
  let x5 := r64_0 x0 x1
  let x6 := !x5
  let x7 := !x6
  let x8 := r62_0 x0
  let x9 := r62_1 x0
  let x10 := r62_2 x0
  let x11 := r65_0 x10 x4
  let x12 : Int := bif x2 then 2147483648 else 9223372036854775808
  let x13 : Int := bif x2 then 2147483647 else 9223372036854775807
  let x14 := IntKind.wrap .u64 (2 * x13)
  let x15 := IntKind.wrap .u64 (x14 + 1)
  let x16 := bif x3 then 0 else x12
  let x17 := bif x3 then x15 else x13
  let x19 := r67_0 x8 x9 x10 x4
  let x20 := decide (x19 ≥ 8)
  let x22 := !x20
  let x24 := r68_0 x8 x10 x4
  let x25 := r68_1 x8 x9 x10 x4
  let x26 := x19 == 7
  let x27 := decide (x25 > 0)
  let x28 := x24 != 0
  let x29 := x27 && x28
  let x31 := r69_0 x24
  let x32 := IntKind.wrap .i64 (x31 + x25)
  let x33 := decide (x32 > 64)
  let x34 := x29 && x33
  let x35 := decide (x25 > 0)
  let x37 := ishl .u64 x24 x25
  let x38 := IntKind.wrap .i64 (0 - x25)
  let x40 := r70_0 x1 x11 x24 x38
  let x41 := r70_1 x24 x38
  let x42 := bif x35 then x37 else x40
  let x43 := x35 || x41
  let x44 := bif x34 then x24 else x42
  let x45 := x34 || x43
  let x46 := x34 || x26
  let x47 := bif x26 then x24 else x44
  let x48 := x26 || x45
  let x49 := bif x26 then x26 else x46
  let x50 := decide (x47 > x16)
  let x51 := x49 || x50
  let x52 := x11 && x51
  let x54 := !x11
  let x55 := decide (x47 > x17)
  let x56 := x49 || x55
  let x57 := x54 && x56
  let x59 := !x48
  let x61 := !x59
  let x62 := bif x57 then false else x61
  let x63 := bif x52 then false else x62
  let x66 : Int := bif x57 then 16 else 1
  let x68 := bif x52 then 16 else x66
  let x70 := bif x63 then 0 else x68
  let x72 := bif x22 then x70 else 16
  let x74 := bif x7 then x72 else 0
  x74
noncomputable def g25 (ds : List DV) : List DV := [.b (p25 (dget ds 0).toI (dget ds 1).toI (dget ds 4).toI), .i (r25_0 (dget ds 0).toI (dget ds 1).toI (dget ds 2).toB (dget ds 3).toB (dget ds 4).toI), .i (r25_1 (dget ds 0).toI (dget ds 1).toI (dget ds 2).toB (dget ds 3).toB (dget ds 4).toI)]
def S25 : Sigs := ⟨[(64, s64), (62, s62), (65, s65), (67, s67), (66, s66), (68, s68), (69, s69), (70, s70)], [], [], 0⟩

def s27 : Sig := ⟨[.s (.one (.i .i64 (.h 0))), .s (.one (.i .i64 (.h 1))), .s (.one (.b (.h 2))), .s (.one (.b (.h 3))), .s (.one (.i .u64 (.h 4)))], [], [.i, .i, .b, .b, .i], .t [.one (.i .u64 (.h 0)), .one (.i .i64 (.h 1))], [], [.i, .i], true⟩
def o27 : Out := ⟨List.append (List.append (List.append ([(5, .call 64 [.r 0, .r 1] 0), (6, .not (.r 5)), (7, .not (.r 6)), (8, .and (.r 2) (.r 3)), (9, .conv .u32 (.r 4)), (10, .conv .u64 (.r 9)), (11, .conv .i32 (.r 4)), (12, .conv .u64 (.r 11)), (13, .itei (.r 2) (.r 12) (.r 4)), (14, .itei (.r 8) (.r 10) (.r 13)), (15, .not (.r 3)), (16, .conv .i64 (.r 14)), (17, .lss (.r 16) (.z 0)), (18, .and (.r 15) (.r 17)), (19, .sub .u64 (.z 0) (.r 14)), (20, .itei (.r 18) (.r 19) (.r 14)), (21, .eql (.r 20) (.z 0)), (22, .not (.r 21))]) (callsAt 23 62 [.r 0] 0 3)) (callsAt 26 78 [.r 23, .r 24, .r 25, .r 1, .r 18, .r 20, .z 0] 0 3)) ([(29, .itei (.r 22) (.r 27) (.z 0)), (30, .itei (.r 22) (.r 28) (.z 0)), (31, .itei (.r 7) (.r 29) (.z 0)), (32, .itei (.r 7) (.r 30) (.z 0))]),
  [⟨[(.r 7, true), (.r 22, true)], .r 26⟩],
  [],
  [.r 31, .r 32]⟩
noncomputable def p27 (x0 : Int) (x1 : Int) (x2 : Bool) (x3 : Bool) (x4 : Int) : Bool :=
  let x5 := r64_0 x0 x1
  let x6 := !x5
  let x7 := !x6
  let x8 := x2 && x3
  let x9 := IntKind.wrap .u32 x4
  let x10 := IntKind.wrap .u64 x9
  let x11 := IntKind.wrap .i32 x4
  let x12 := IntKind.wrap .u64 x11
  let x13 := bif x2 then x12 else x4
  let x14 := bif x8 then x10 else x13
  let x15 := !x3
  let x16 := IntKind.wrap .i64 x14
  let x17 := decide (x16 < 0)
  let x18 := x15 && x17
  let x19 := IntKind.wrap .u64 (0 - x14)
  let x20 := bif x18 then x19 else x14
  let x21 := x20 == 0
  let x22 := !x21
  let x23 := r62_0 x0
  let x24 := r62_1 x0
  let x26 := p78 x23 x24 x1 x18 x20 0
  [ow [(x7, true), (x22, true)] x26].all id
noncomputable def r27_0 (x0 : Int) (x1 : Int) (x2 : Bool) (x3 : Bool) (x4 : Int) : Int :=
  let x5 := r64_0 x0 x1
  let x6 := !x5
  let x7 := !x6
  let x8 := x2 && x3
  let x9 := IntKind.wrap .u32 x4
  let x10 := IntKind.wrap .u64 x9
  let x11 := IntKind.wrap .i32 x4
  let x12 := IntKind.wrap .u64 x11
  let x13 := bif x2 then x12 else x4
  let x14 := bif x8 then x10 else x13
  let x15 := !x3
  let x16 := IntKind.wrap .i64 x14
  let x17 := decide (x16 < 0)
  let x18 := x15 && x17
  let x19 := IntKind.wrap .u64 (0 - x14)
  let x20 := bif x18 then x19 else x14
  let x21 := x20 == 0
  let x22 := !x21
  let x23 := r62_0 x0
  let x24 := r62_1 x0
  let x25 := r62_2 x0
  let x27 := r78_0 x23 x24 x25 x1 x18 x20 0
  let x29 := bif x22 then x27 else 0
  let x31 := bif x7 then x29 else 0
  x31
noncomputable def r27_1 (x0 : Int) (x1 : Int) (x2 : Bool) (x3 : Bool) (x4 : Int) : Int :=
  let x5 := r64_0 x0 x1
  let x6 := !x5
  let x7 := !x6
  let x8 := x2 && x3
  let x9 := IntKind.wrap .u32 x4
  let x10 := IntKind.wrap .u64 x9
  let x11 := IntKind.wrap .i32 x4
  let x12 := IntKind.wrap .u64 x11
  let x13 := bif x2 then x12 else x4
  let x14 := bif x8 then x10 else x13
  let x15 := !x3
  let x16 := IntKind.wrap .i64 x14
  let x17 := decide (x16 < 0)
  let x18 := x15 && x17
  let x19 := IntKind.wrap .u64 (0 - x14)
  let x20 := bif x18 then x19 else x14
  let x21 := x20 == 0
  let x22 := !x21
  let x23 := r62_0 x0
  let x24 := r62_1 x0
  let x28 := r78_1 x23 x24 x1 x18 x20 0
  let x30 := bif x22 then x28 else 0
  let x32 := bif x7 then x30 else 0
  x32
noncomputable def g27 (ds : List DV) : List DV := [.b (p27 (dget ds 0).toI (dget ds 1).toI (dget ds 2).toB (dget ds 3).toB (dget ds 4).toI), .i (r27_0 (dget ds 0).toI (dget ds 1).toI (dget ds 2).toB (dget ds 3).toB (dget ds 4).toI), .i (r27_1 (dget ds 0).toI (dget ds 1).toI (dget ds 2).toB (dget ds 3).toB (dget ds 4).toI)]
def S27 : Sigs := ⟨[(64, s64), (62, s62), (78, s78)], [], [], 0⟩

def s29 : Sig := ⟨[.s (.one (.i .i64 (.h 0))), .s (.one (.i .i64 (.h 1))), .s (.one (.i .u64 (.h 2)))], [], [.i, .i, .i], .t [.one (.i .u64 (.h 0)), .one (.i .i64 (.h 1))], [], [.i, .i], true⟩
def o29 : Out := ⟨List.append (List.append (List.append (List.append (List.append (List.append (List.append ([(3, .call 64 [.r 0, .r 1] 0), (4, .not (.r 3)), (5, .not (.r 4))]) (callsAt 6 62 [.r 0] 0 3)) ([(9, .sub .i64 (.z 12) (.r 0))])) (callsAt 10 62 [.r 9] 0 3)) ([(13, .call 65 [.r 10, .r 11, .r 12, .r 2] 0), (14, .call 67 [.r 10, .r 11, .r 12, .r 2] 0), (15, .call 67 [.r 10, .r 11, .r 12, .r 2] 1), (16, .eql (.r 15) (.z 8)), (17, .call 63 [.r 6, .r 7, .r 8] 0), (18, .call 63 [.r 6, .r 7, .r 8] 1), (19, .eql (.r 15) (.z 9)), (20, .call 63 [.r 6, .r 7, .r 8] 0), (21, .call 63 [.r 6, .r 7, .r 8] 1), (22, .eql (.r 15) (.z 7)), (23, .call 83 [.r 6, .r 7, .r 8] 0), (24, .call 83 [.r 6, .r 7, .r 8] 1), (25, .call 82 [.r 6, .r 7, .r 8, .r 13, .r 24] 0), (26, .eql (.r 15) (.z 4)), (27, .call 82 [.r 6, .r 7, .r 8, .r 13, .z 0] 0), (28, .not (.r 26)), (29, .iteb (.r 22) (.t false) (.r 28)), (30, .iteb (.r 19) (.t false) (.r 29)), (31, .iteb (.r 16) (.t false) (.r 30))])) (callsAt 32 68 [.r 10, .r 11, .r 12, .r 2] 0 3)) (callsAt 35 78 [.r 6, .r 7, .r 8, .r 1, .r 13, .r 33, .r 34] 0 3)) ([(38, .itei (.r 22) (.r 25) (.r 27)), (39, .itei (.r 19) (.r 21) (.r 38)), (40, .itei (.r 16) (.r 18) (.r 39)), (41, .itei (.r 16) (.z 16) (.z 0)), (42, .itei (.r 31) (.r 36) (.r 40)), (43, .itei (.r 31) (.r 37) (.r 41)), (44, .itei (.r 5) (.r 42) (.z 0)), (45, .itei (.r 5) (.r 43) (.z 0))]),
  [⟨[(.r 5, true)], .r 14⟩, ⟨[(.r 5, true), (.r 16, true)], .r 17⟩, ⟨[(.r 5, true), (.r 16, false), (.r 19, true)], .r 20⟩, ⟨[(.r 5, true), (.r 16, false), (.r 19, false), (.r 22, true)], .r 23⟩, ⟨[(.r 5, true), (.r 31, true)], .r 32⟩, ⟨[(.r 5, true), (.r 31, true)], .r 35⟩],
  [],
  [.r 44, .r 45]⟩
noncomputable def p29 (x0 : Int) (x1 : Int) (x2 : Int) : Bool :=
  let x3 := r64_0 x0 x1
  let x4 := !x3
  let x5 := !x4
  let x6 := r62_0 x0
  let x7 := r62_1 x0
  let x9 := IntKind.wrap .i64 (12 - x0)
  let x10 := r62_0 x9
  let x11 := r62_1 x9
  let x12 := r62_2 x9
  let x13 := r65_0 x12 x2
  let x14 := p67 x10 x11 x12 x2
  let x15 := r67_0 x10 x11 x12 x2
  let x16 := x15 == 8
  let x17 := p63 x6
  let x19 := x15 == 9
  let x20 := p63 x6
  let x22 := x15 == 7
  let x23 := p83 x6
  let x26 := x15 == 4
  let x28 := !x26
  let x29 := bif x22 then false else x28
  let x30 := bif x19 then false else x29
  let x31 := bif x16 then false else x30
  let x32 := p68 x10 x12 x2
  let x33 := r68_0 x10 x12 x2
  let x34 := r68_1 x10 x11 x12 x2
  let x35 := p78 x6 x7 x1 x13 x33 x34
  [ow [(x5, true)] x14, ow [(x5, true), (x16, true)] x17, ow [(x5, true), (x16, false), (x19, true)] x20, ow [(x5, true), (x16, false), (x19, false), (x22, true)] x23, ow [(x5, true), (x31, true)] x32, ow [(x5, true), (x31, true)] x35].all id
noncomputable def r29_0 (x0 : Int) (x1 : Int) (x2 : Int) : Int :=
  let x3 := r64_0 x0 x1
  let x4 := !x3
  let x5 := !x4
  let x6 := r62_0 x0
  let x7 := r62_1 x0
  let x8 := r62_2 x0
  let x9 := IntKind.wrap .i64 (12 - x0)
  let x10 := r62_0 x9
  let x11 := r62_1 x9
  let x12 := r62_2 x9
  let x13 := r65_0 x12 x2
  let x15 := r67_0 x10 x11 x12 x2
  let x16 := x15 == 8
  let x18 := r63_0 x6 x7
  let x19 := x15 == 9
  let x21 := r63_0 x6 x7
  let x22 := x15 == 7
  let x24 := r83_0 x6 x7
  let x25 := r82_0 x8 x13 x24
  let x26 := x15 == 4
  let x27 := r82_0 x8 x13 0
  let x28 := !x26
  let x29 := bif x22 then false else x28
  let x30 := bif x19 then false else x29
  let x31 := bif x16 then false else x30
  let x33 := r68_0 x10 x12 x2
  let x34 := r68_1 x10 x11 x12 x2
  let x36 := r78_0 x6 x7 x8 x1 x13 x33 x34
  let x38 := bif x22 then x25 else x27
  let x39 := bif x19 then x21 else x38
  let x40 := bif x16 then x18 else x39
  let x42 := bif x31 then x36 else x40
  let x44 := bif x5 then x42 else 0
  x44
noncomputable def r29_1 (x0 : Int) (x1 : Int) (x2 : Int) : Int :=
  let x3 := r64_0 x0 x1
  let x4 := !x3
  let x5 := !x4
  let x6 := r62_0 x0
  let x7 := r62_1 x0
  let x9 := IntKind.wrap .i64 (12 - x0)
  let x10 := r62_0 x9
  let x11 := r62_1 x9
  let x12 := r62_2 x9
  let x13 := r65_0 x12 x2
  let x15 := r67_0 x10 x11 x12 x2
  let x16 := x15 == 8
  let x19 := x15 == 9
  let x22 := x15 == 7
  let x26 := x15 == 4
  let x28 := !x26
  let x29 := bif x22 then false else x28
  let x30 := bif x19 then false else x29
  let x31 := bif x16 then false else x30
  let x33 := r68_0 x10 x12 x2
  let x34 := r68_1 x10 x11 x12 x2
  let x37 := r78_1 x6 x7 x1 x13 x33 x34
  let x41 : Int := bif x16 then 16 else 0
  let x43 := bif x31 then x37 else x41
  let x45 := bif x5 then x43 else 0
  x45
noncomputable def g29 (ds : List DV) : List DV := [.b (p29 (dget ds 0).toI (dget ds 1).toI (dget ds 2).toI), .i (r29_0 (dget ds 0).toI (dget ds 1).toI (dget ds 2).toI), .i (r29_1 (dget ds 0).toI (dget ds 1).toI (dget ds 2).toI)]
def S29 : Sigs := ⟨[(64, s64), (62, s62), (65, s65), (67, s67), (63, s63), (83, s83), (82, s82), (68, s68), (78, s78)], [], [], 0⟩

def s31 : Sig := ⟨[.s (.one (.i .i64 (.h 0))), .s (.one (.i .i64 (.h 1))), .s (.one (.i .u64 (.h 2))), .s (.one (.i .u64 (.h 3)))], [], [.i, .i, .i, .i], .s (.one (.i .u64 (.h 0))), [], [.i], false⟩
def o31 : Out := ⟨List.append (List.append ([(4, .call 64 [.r 1, .z 0] 0), (5, .not (.r 4)), (6, .not (.r 5))]) (callsAt 7 62 [.r 1] 0 3)) ([(10, .eql (.r 0) (.z 64)), (11, .call 65 [.r 7, .r 8, .r 9, .r 3] 0), (12, .call 86 [.r 7, .r 8, .r 9, .r 2] 0), (13, .call 82 [.r 7, .r 8, .r 9, .r 11, .r 12] 0), (14, .eql (.r 0) (.z 65)), (15, .call 65 [.r 7, .r 8, .r 9, .r 3] 0), (16, .not (.r 15)), (17, .call 86 [.r 7, .r 8, .r 9, .r 2] 0), (18, .call 82 [.r 7, .r 8, .r 9, .r 16, .r 17] 0), (19, .eql (.r 0) (.z 66)), (20, .call 65 [.r 7, .r 8, .r 9, .r 2] 0), (21, .call 65 [.r 7, .r 8, .r 9, .r 3] 0), (22, .bne (.r 20) (.r 21)), (23, .call 86 [.r 7, .r 8, .r 9, .r 2] 0), (24, .call 82 [.r 7, .r 8, .r 9, .r 22, .r 23] 0), (25, .not (.r 19)), (26, .iteb (.r 14) (.t false) (.r 25)), (27, .iteb (.r 10) (.t false) (.r 26)), (28, .itei (.r 14) (.r 18) (.r 24)), (29, .itei (.r 10) (.r 13) (.r 28)), (30, .itei (.r 27) (.z 0) (.r 29)), (31, .itei (.r 6) (.r 30) (.z 0))]),
  [],
  [],
  [.r 31]⟩
noncomputable def r31_0 (x0 : Int) (x1 : Int) (x2 : Int) (x3 : Int) : Int :=
  let x4 := r64_0 x1 0
  let x5 := !x4
  let x6 := !x5
  let x9 := r62_2 x1
  let x10 := x0 == 64
  let x11 := r65_0 x9 x3
  let x12 := r86_0 x9 x2
  let x13 := r82_0 x9 x11 x12
  let x14 := x0 == 65
  let x15 := r65_0 x9 x3
  let x16 := !x15
  let x17 := r86_0 x9 x2
  let x18 := r82_0 x9 x16 x17
  let x19 := x0 == 66
  let x20 := r65_0 x9 x2
  let x21 := r65_0 x9 x3
  let x22 := x20 != x21
  let x23 := r86_0 x9 x2
  let x24 := r82_0 x9 x22 x23
  let x25 := !x19
  let x26 := bif x14 then false else x25
  let x27 := bif x10 then false else x26
  let x28 := bif x14 then x18 else x24
  let x29 := bif x10 then x13 else x28
  let x30 := bif x27 then 0 else x29
  let x31 := bif x6 then x30 else 0
  x31
noncomputable def g31 (ds : List DV) : List DV := [.i (r31_0 (dget ds 0).toI (dget ds 1).toI (dget ds 2).toI (dget ds 3).toI)]
def S31 : Sigs := ⟨[(64, s64), (62, s62), (65, s65), (86, s86), (82, s82)], [], [], 0⟩

def s33 : Sig := ⟨[.s (.one (.i .i64 (.h 0))), .s (.one (.i .u64 (.h 1)))], [], [.i, .i], .s (.one (.i .u64 (.h 0))), [], [.i], true⟩
def o33 : Out := ⟨List.append (List.append ([(2, .call 64 [.r 0, .z 0] 0), (3, .not (.r 2)), (4, .not (.r 3))]) (callsAt 5 62 [.r 0] 0 3)) ([(8, .call 67 [.r 5, .r 6, .r 7, .r 1] 0), (9, .call 67 [.r 5, .r 6, .r 7, .r 1] 1), (10, .leq (.r 9) (.z 7)), (11, .call 65 [.r 5, .r 6, .r 7, .r 1] 0), (12, .and (.r 10) (.r 11)), (13, .sub .i64 (.z 7) (.r 9)), (14, .itei (.r 12) (.r 13) (.r 9)), (15, .geq (.r 14) (.z 0)), (16, .shl .u64 (.z 1) (.r 14)), (17, .itei (.r 4) (.r 16) (.z 0))]),
  [⟨[(.r 4, true)], .r 8⟩, ⟨[(.r 4, true)], .r 15⟩],
  [],
  [.r 17]⟩
noncomputable def p33 (x0 : Int) (x1 : Int) : Bool :=
  let x2 := r64_0 x0 0
  let x3 := !x2
  let x4 := !x3
  let x5 := r62_0 x0
  let x6 := r62_1 x0
  let x7 := r62_2 x0
  let x8 := p67 x5 x6 x7 x1
  let x9 := r67_0 x5 x6 x7 x1
  let x10 := decide (x9 ≤ 7)
  let x11 := r65_0 x7 x1
  let x12 := x10 && x11
  let x13 := IntKind.wrap .i64 (7 - x9)
  let x14 := bif x12 then x13 else x9
  let x15 := decide (x14 ≥ 0)
  [ow [(x4, true)] x8, ow [(x4, true)] x15].all id
noncomputable def r33_0 (x0 : Int) (x1 : Int) : Int :=
  let x2 := r64_0 x0 0
  let x3 := !x2
  let x4 := !x3
  let x5 := r62_0 x0
  let x6 := r62_1 x0
  let x7 := r62_2 x0
  let x9 := r67_0 x5 x6 x7 x1
  let x10 := decide (x9 ≤ 7)
  let x11 := r65_0 x7 x1
  let x12 := x10 && x11
  let x13 := IntKind.wrap .i64 (7 - x9)
  let x14 := bif x12 then x13 else x9
  let x16 := ishl .u64 1 x14
  let x17 := bif x4 then x16 else 0
  x17
noncomputable def g33 (ds : List DV) : List DV := [.b (p33 (dget ds 0).toI (dget ds 1).toI), .i (r33_0 (dget ds 0).toI (dget ds 1).toI)]
def S33 : Sigs := ⟨[(64, s64), (62, s62), (67, s67), (65, s65)], [], [], 0⟩

def s35 : Sig := ⟨[.s (.one (.i .i64 (.h 0))), .s (.one (.i .i64 (.h 1))), .s (.one (.i .u64 (.h 2))), .s (.one (.i .u64 (.h 3)))], [], [.i, .i, .i, .i], .t [.one (.i .u64 (.h 0)), .one (.i .i64 (.h 1))], [], [.i, .i], true⟩
def o35 : Out := ⟨List.append (List.append ([(4, .call 64 [.r 1, .z 0] 0), (5, .not (.r 4)), (6, .neq (.r 0) (.z 67)), (7, .neq (.r 0) (.z 68)), (8, .and (.r 6) (.r 7)), (9, .or (.r 5) (.r 8)), (10, .not (.r 9))]) (callsAt 11 62 [.r 1] 0 3)) ([(14, .call 67 [.r 11, .r 12, .r 13, .r 2] 0), (15, .call 67 [.r 11, .r 12, .r 13, .r 2] 1), (16, .call 67 [.r 11, .r 12, .r 13, .r 3] 0), (17, .call 67 [.r 11, .r 12, .r 13, .r 3] 1), (18, .eql (.r 15) (.z 8)), (19, .eql (.r 17) (.z 8)), (20, .or (.r 18) (.r 19)), (21, .itei (.r 20) (.z 16) (.z 0)), (22, .call 65 [.r 11, .r 12, .r 13, .r 2] 0), (23, .call 86 [.r 11, .r 12, .r 13, .r 2] 0), (24, .call 82 [.r 11, .r 12, .r 13, .r 22, .r 23] 0), (25, .call 65 [.r 11, .r 12, .r 13, .r 3] 0), (26, .call 86 [.r 11, .r 12, .r 13, .r 3] 0), (27, .call 82 [.r 11, .r 12, .r 13, .r 25, .r 26] 0), (28, .geq (.r 15) (.z 8)), (29, .geq (.r 17) (.z 8)), (30, .and (.r 28) (.r 29)), (31, .call 63 [.r 11, .r 12, .r 13] 0), (32, .call 63 [.r 11, .r 12, .r 13] 1), (33, .geq (.r 15) (.z 8)), (34, .geq (.r 17) (.z 8)), (35, .call 87 [.r 11, .r 12, .r 13, .r 24] 0), (36, .call 87 [.r 11, .r 12, .r 13, .r 27] 0), (37, .lss (.r 35) (.r 36)), (38, .eql (.r 0) (.z 67)), (39, .beq (.r 37) (.r 38)), (40, .not (.r 39)), (41, .iteb (.r 34) (.t false) (.r 40)), (42, .iteb (.r 33) (.t false) (.r 41)), (43, .iteb (.r 30) (.t false) (.r 42)), (44, .itei (.r 33) (.r 27) (.r 24)), (45, .itei (.r 30) (.r 32) (.r 44)), (46, .itei (.r 43) (.r 27) (.r 45)), (47, .itei (.r 10) (.r 46) (.z 0)), (48, .itei (.r 10) (.r 21) (.z 0))]),
  [⟨[(.r 10, true)], .r 14⟩, ⟨[(.r 10, true)], .r 16⟩, ⟨[(.r 10, true), (.r 30, true)], .r 31⟩],
  [],
  [.r 47, .r 48]⟩
noncomputable def p35 (x0 : Int) (x1 : Int) (x2 : Int) (x3 : Int) : Bool :=
  let x4 := r64_0 x1 0
  let x5 := !x4
  let x6 := x0 != 67
  let x7 := x0 != 68
  let x8 := x6 && x7
  let x9 := x5 || x8
  let x10 := !x9
  let x11 := r62_0 x1
  let x12 := r62_1 x1
  let x13 := r62_2 x1
  let x14 := p67 x11 x12 x13 x2
  let x15 := r67_0 x11 x12 x13 x2
  let x16 := p67 x11 x12 x13 x3
  let x17 := r67_0 x11 x12 x13 x3
  let x28 := decide (x15 ≥ 8)
  let x29 := decide (x17 ≥ 8)
  let x30 := x28 && x29
  let x31 := p63 x11
  [ow [(x10, true)] x14, ow [(x10, true)] x16, ow [(x10, true), (x30, true)] x31].all id
noncomputable def r35_0 (x0 : Int) (x1 : Int) (x2 : Int) (x3 : Int) : Int :=
  let x4 := r64_0 x1 0
  let x5 := !x4
  let x6 := x0 != 67
  let x7 := x0 != 68
  let x8 := x6 && x7
  let x9 := x5 || x8
  let x10 := !x9
  let x11 := r62_0 x1
  let x12 := r62_1 x1
  let x13 := r62_2 x1
  let x15 := r67_0 x11 x12 x13 x2
  let x17 := r67_0 x11 x12 x13 x3
  let x22 := r65_0 x13 x2
  let x23 := r86_0 x13 x2
  let x24 := r82_0 x13 x22 x23
  let x25 := r65_0 x13 x3
  let x26 := r86_0 x13 x3
  let x27 := r82_0 x13 x25 x26
  let x28 := decide (x15 ≥ 8)
  let x29 := decide (x17 ≥ 8)
  let x30 := x28 && x29
  let x32 := r63_0 x11 x12
  let x33 := decide (x15 ≥ 8)
  let x34 := decide (x17 ≥ 8)
  let x35 := r87_0 x13 x24
  let x36 := r87_0 x13 x27
  let x37 := decide (x35 < x36)
  let x38 := x0 == 67
  let x39 := x37 == x38
  let x40 := !x39
  let x41 := bif x34 then false else x40
  let x42 := bif x33 then false else x41
  let x43 := bif x30 then false else x42
  let x44 := bif x33 then x27 else x24
  let x45 := bif x30 then x32 else x44
  let x46 := bif x43 then x27 else x45
  let x47 := bif x10 then x46 else 0
  x47
noncomputable def r35_1 (x0 : Int) (x1 : Int) (x2 : Int) (x3 : Int) : Int :=
  let x4 := r64_0 x1 0
  let x5 := !x4
  let x6 := x0 != 67
  let x7 := x0 != 68
  let x8 := x6 && x7
  let x9 := x5 || x8
  let x10 := !x9
  let x11 := r62_0 x1
  let x12 := r62_1 x1
  let x13 := r62_2 x1
  let x15 := r67_0 x11 x12 x13 x2
  let x17 := r67_0 x11 x12 x13 x3
  let x18 := x15 == 8
  let x19 := x17 == 8
  let x20 := x18 || x19
  let x21 : Int := bif x20 then 16 else 0
  let x48 := bif x10 then x21 else 0
  x48
noncomputable def g35 (ds : List DV) : List DV := [.b (p35 (dget ds 0).toI (dget ds 1).toI (dget ds 2).toI (dget ds 3).toI), .i (r35_0 (dget ds 0).toI (dget ds 1).toI (dget ds 2).toI (dget ds 3).toI), .i (r35_1 (dget ds 0).toI (dget ds 1).toI (dget ds 2).toI (dget ds 3).toI)]
def S35 : Sigs := ⟨[(64, s64), (62, s62), (67, s67), (65, s65), (86, s86), (82, s82), (63, s63), (87, s87)], [], [], 0⟩

def s37 : Sig := ⟨[.s (.one (.i .i64 (.h 0))), .s (.one (.i .i64 (.h 1))), .s (.one (.i .u64 (.h 2))), .s (.one (.i .u64 (.h 3)))], [], [.i, .i, .i, .i], .t [.one (.i .u64 (.h 0)), .one (.i .i64 (.h 1))], [], [.i, .i], true⟩
def o37 : Out := ⟨List.append (List.append ([(4, .call 64 [.r 1, .z 0] 0), (5, .not (.r 4)), (6, .neq (.r 0) (.z 69)), (7, .neq (.r 0) (.z 70)), (8, .and (.r 6) (.r 7)), (9, .neq (.r 0) (.z 71)), (10, .and (.r 8) (.r 9)), (11, .or (.r 5) (.r 10)), (12, .not (.r 11))]) (callsAt 13 62 [.r 1] 0 3)) ([(16, .call 67 [.r 13, .r 14, .r 15, .r 2] 0), (17, .call 67 [.r 13, .r 14, .r 15, .r 2] 1), (18, .call 67 [.r 13, .r 14, .r 15, .r 3] 0), (19, .call 67 [.r 13, .r 14, .r 15, .r 3] 1), (20, .geq (.r 17) (.z 8)), (21, .geq (.r 19) (.z 8)), (22, .or (.r 20) (.r 21)), (23, .neq (.r 0) (.z 69)), (24, .eql (.r 17) (.z 8)), (25, .or (.r 23) (.r 24)), (26, .eql (.r 19) (.z 8)), (27, .or (.r 25) (.r 26)), (28, .not (.r 27)), (29, .not (.r 22)), (30, .call 87 [.r 13, .r 14, .r 15, .r 2] 0), (31, .call 87 [.r 13, .r 14, .r 15, .r 3] 0), (32, .eql (.r 17) (.z 4)), (33, .eql (.r 19) (.z 4)), (34, .and (.r 32) (.r 33)), (35, .itei (.r 34) (.r 31) (.r 30)), (36, .eql (.r 0) (.z 69)), (37, .eql (.r 35) (.r 31)), (38, .and (.r 36) (.r 37)), (39, .eql (.r 0) (.z 70)), (40, .lss (.r 35) (.r 31)), (41, .and (.r 39) (.r 40)), (42, .or (.r 38) (.r 41)), (43, .eql (.r 0) (.z 71)), (44, .leq (.r 35) (.r 31)), (45, .and (.r 43) (.r 44)), (46, .or (.r 42) (.r 45)), (47, .not (.r 46)), (48, .itei (.r 47) (.z 0) (.z 1)), (49, .itei (.r 28) (.z 0) (.z 16)), (50, .itei (.r 29) (.r 48) (.z 0)), (51, .itei (.r 29) (.z 0) (.r 49)), (52, .itei (.r 12) (.r 50) (.z 0)), (53, .itei (.r 12) (.r 51) (.z 0))]),
  [⟨[(.r 12, true)], .r 16⟩, ⟨[(.r 12, true)], .r 18⟩],
  [],
  [.r 52, .r 53]⟩
noncomputable def p37 (x0 : Int) (x1 : Int) (x2 : Int) (x3 : Int) : Bool :=
  let x4 := r64_0 x1 0
  let x5 := !x4
  let x6 := x0 != 69
  let x7 := x0 != 70
  let x8 := x6 && x7
  let x9 := x0 != 71
  let x10 := x8 && x9
  let x11 := x5 || x10
  let x12 := !x11
  let x13 := r62_0 x1
  let x14 := r62_1 x1
  let x15 := r62_2 x1
  let x16 := p67 x13 x14 x15 x2
  let x18 := p67 x13 x14 x15 x3
  [ow [(x12, true)] x16, ow [(x12, true)] x18].all id
noncomputable def r37_0 (x0 : Int) (x1 : Int) (x2 : Int) (x3 : Int) : Int :=
  let x4 := r64_0 x1 0
  let x5 := !x4
  let x6 := x0 != 69
  let x7 := x0 != 70
  let x8 := x6 && x7
  let x9 := x0 != 71
  let x10 := x8 && x9
  let x11 := x5 || x10
  let x12 := !x11
  let x13 := r62_0 x1
  let x14 := r62_1 x1
  let x15 := r62_2 x1
  let x17 := r67_0 x13 x14 x15 x2
  let x19 := r67_0 x13 x14 x15 x3
  let x20 := decide (x17 ≥ 8)
  let x21 := decide (x19 ≥ 8)
  let x22 := x20 || x21
  let x29 := !x22
  let x30 := r87_0 x15 x2
  let x31 := r87_0 x15 x3
  let x32 := x17 == 4
  let x33 := x19 == 4
  let x34 := x32 && x33
  let x35 := bif x34 then x31 else x30
  let x36 := x0 == 69
  let x37 := x35 == x31
  let x38 := x36 && x37
  let x39 := x0 == 70
  let x40 := decide (x35 < x31)
  let x41 := x39 && x40
  let x42 := x38 || x41
  let x43 := x0 == 71
  let x44 := decide (x35 ≤ x31)
  let x45 := x43 && x44
  let x46 := x42 || x45
  let x47 := !x46
  let x48 : Int := bif x47 then 0 else 1
  let x50 := bif x29 then x48 else 0
  let x52 := bif x12 then x50 else 0
  x52
noncomputable def r37_1 (x0 : Int) (x1 : Int) (x2 : Int) (x3 : Int) : Int :=
  let x4 := r64_0 x1 0
  let x5 := !x4
  let x6 := x0 != 69
  let x7 := x0 != 70
  let x8 := x6 && x7
  let x9 := x0 != 71
  let x10 := x8 && x9
  let x11 := x5 || x10
  let x12 := !x11
  let x13 := r62_0 x1
  let x14 := r62_1 x1
  let x15 := r62_2 x1
  let x17 := r67_0 x13 x14 x15 x2
  let x19 := r67_0 x13 x14 x15 x3
  let x20 := decide (x17 ≥ 8)
  let x21 := decide (x19 ≥ 8)
  let x22 := x20 || x21
  let x23 := x0 != 69
  let x24 := x17 == 8
  let x25 := x23 || x24
  let x26 := x19 == 8
  let x27 := x25 || x26
  let x28 := !x27
  let x29 := !x22
  let x49 : Int := bif x28 then 0 else 16
  let x51 := bif x29 then 0 else x49
  let x53 := bif x12 then x51 else 0
  x53
noncomputable def g37 (ds : List DV) : List DV := [.b (p37 (dget ds 0).toI (dget ds 1).toI (dget ds 2).toI (dget ds 3).toI), .i (r37_0 (dget ds 0).toI (dget ds 1).toI (dget ds 2).toI (dget ds 3).toI), .i (r37_1 (dget ds 0).toI (dget ds 1).toI (dget ds 2).toI (dget ds 3).toI)]
def S37 : Sigs := ⟨[(64, s64), (62, s62), (67, s67), (87, s87)], [], [], 0⟩

def s21 : Sig := ⟨[.s (.one (.i .u64 (.h 0)))], [], [.i], .s (.one (.i .u64 (.h 0))), [], [.i], false⟩
def o21 : Out := ⟨[(1, .conv .u32 (.r 0)), (2, .conv .u64 (.r 1)), (3, .lor .u64 (.r 2) (.z 18446744069414584320))],
  [],
  [],
  [.r 3]⟩
noncomputable def r21_0 (x0 : Int) : Int :=
  let x1 := IntKind.wrap .u32 x0
  let x2 := IntKind.wrap .u64 x1
  let x3 := ilor .u64 x2 18446744069414584320
  x3
noncomputable def g21 (ds : List DV) : List DV := [.i (r21_0 (dget ds 0).toI)]
def S21 : Sigs := ⟨[], [], [], 0⟩

def s23 : Sig := ⟨[.s (.one (.i .u64 (.h 0)))], [], [.i], .s (.one (.i .u64 (.h 0))), [], [.i], true⟩
def o23 : Out := ⟨List.append (List.append ([(1, .shr .u64 (.r 0) (.z 32)), (2, .neq (.r 1) (.z 4294967295))]) (callsAt 3 62 [.z 4] 0 3)) ([(6, .call 63 [.r 3, .r 4, .r 5] 0), (7, .call 63 [.r 3, .r 4, .r 5] 1), (8, .not (.r 2)), (9, .conv .u32 (.r 0)), (10, .conv .u64 (.r 9)), (11, .itei (.r 8) (.r 10) (.r 7))]),
  [⟨[(.r 2, true)], .r 6⟩],
  [],
  [.r 11]⟩
noncomputable def p23 (x0 : Int) : Bool :=
  let x1 := ishr .u64 x0 32
  let x2 := x1 != 4294967295
  let x3 := r62_0 4
  let x6 := p63 x3
  [ow [(x2, true)] x6].all id
noncomputable def r23_0 (x0 : Int) : Int :=
  let x1 := ishr .u64 x0 32
  let x2 := x1 != 4294967295
  let x3 := r62_0 4
  let x4 := r62_1 4
  let x7 := r63_0 x3 x4
  let x8 := !x2
  let x9 := IntKind.wrap .u32 x0
  let x10 := IntKind.wrap .u64 x9
  let x11 := bif x8 then x10 else x7
  x11
noncomputable def g23 (ds : List DV) : List DV := [.b (p23 (dget ds 0).toI), .i (r23_0 (dget ds 0).toI)]
def S23 : Sigs := ⟨[(62, s62), (63, s63)], [], [], 0⟩

noncomputable def r71_0 (x0 : Int) (x1 : Int) : Bool :=
  let x2 := x0 == 4
  let x3 := x0 == 8
  let x4 := x2 || x3
  let x5 := decide (x1 ≥ 0)
  let x6 := x4 && x5
  let x7 := decide (x1 ≤ 4)
  let x8 := x6 && x7
  x8
def s20 : Sig := ⟨[], [], [], .s (.one (.b (.h 0))), [], [.b], true⟩
def o20 : Out := ⟨List.append (List.append (List.append (List.append (List.append (List.append (callsAt 0 25 [.z 8, .z 0, .t true, .t false, .z 4612811918334230528] 0 3) (callsAt 3 25 [.z 4, .z 1, .t true, .t true, .z 3212836864] 0 3)) (callsAt 6 27 [.z 4, .z 0, .t false, .t false, .z 18446744073709551615] 0 3)) (callsAt 9 29 [.z 4, .z 0, .z 4607182418800017409] 0 3)) (callsAt 12 37 [.z 70, .z 4, .z 2143289344, .z 0] 0 3)) (callsAt 15 35 [.z 67, .z 4, .z 2147483648, .z 0] 0 3)) ([(18, .call 21 [.z 1065353216] 0), (19, .eql (.r 18) (.z 18446744070479937536)), (20, .call 23 [.z 1065353216] 0), (21, .call 23 [.z 1065353216] 1), (22, .eql (.r 21) (.z 2143289344)), (23, .and (.r 19) (.r 22)), (24, .eql (.r 1) (.z 2)), (25, .and (.r 23) (.r 24)), (26, .eql (.r 2) (.z 1)), (27, .and (.r 25) (.r 26)), (28, .eql (.r 4) (.z 0)), (29, .and (.r 27) (.r 28)), (30, .eql (.r 5) (.z 16)), (31, .and (.r 29) (.r 30)), (32, .eql (.r 7) (.z 3212836864)), (33, .and (.r 31) (.r 32)), (34, .eql (.r 8) (.z 0)), (35, .and (.r 33) (.r 34)), (36, .eql (.r 10) (.z 1065353216)), (37, .and (.r 35) (.r 36)), (38, .eql (.r 11) (.z 1)), (39, .and (.r 37) (.r 38)), (40, .eql (.r 13) (.z 0)), (41, .and (.r 39) (.r 40)), (42, .eql (.r 14) (.z 16)), (43, .and (.r 41) (.r 42)), (44, .eql (.r 16) (.z 2147483648)), (45, .and (.r 43) (.r 44)), (46, .eql (.r 17) (.z 0)), (47, .and (.r 45) (.r 46)), (48, .call 33 [.z 4, .z 1] 0), (49, .call 33 [.z 4, .z 1] 1), (50, .eql (.r 49) (.z 32)), (51, .and (.r 47) (.r 50)), (52, .call 31 [.z 64, .z 4, .z 1, .z 2147483648] 0), (53, .eql (.r 52) (.z 2147483649)), (54, .and (.r 51) (.r 53))]),
  [⟨[], .r 0⟩, ⟨[], .r 3⟩, ⟨[], .r 6⟩, ⟨[], .r 9⟩, ⟨[], .r 12⟩, ⟨[], .r 15⟩, ⟨[(.r 19, true)], .r 20⟩, ⟨[(.r 47, true)], .r 48⟩],
  [],
  [.r 54]⟩
noncomputable def p20  : Bool :=
  let x0 := p25 8 0 4612811918334230528
  let x1 := r25_0 8 0 true false 4612811918334230528
  let x2 := r25_1 8 0 true false 4612811918334230528
  let x3 := p25 4 1 3212836864
  let x4 := r25_0 4 1 true true 3212836864
  let x5 := r25_1 4 1 true true 3212836864
  let x6 := p27 4 0 false false 18446744073709551615
  let x7 := r27_0 4 0 false false 18446744073709551615
  let x8 := r27_1 4 0 false false 18446744073709551615
  let x9 := p29 4 0 4607182418800017409
  let x10 := r29_0 4 0 4607182418800017409
  let x11 := r29_1 4 0 4607182418800017409
  let x12 := p37 70 4 2143289344 0
  let x13 := r37_0 70 4 2143289344 0
  let x14 := r37_1 70 4 2143289344 0
  let x15 := p35 67 4 2147483648 0
  let x16 := r35_0 67 4 2147483648 0
  let x17 := r35_1 67 4 2147483648 0
  let x18 := r21_0 1065353216
  let x19 := x18 == 18446744070479937536
  let x20 := p23 1065353216
  let x21 := r23_0 1065353216
  let x22 := x21 == 2143289344
  let x23 := x19 && x22
  let x24 := x1 == 2
  let x25 := x23 && x24
  let x26 := x2 == 1
  let x27 := x25 && x26
  let x28 := x4 == 0
  let x29 := x27 && x28
  let x30 := x5 == 16
  let x31 := x29 && x30
  let x32 := x7 == 3212836864
  let x33 := x31 && x32
  let x34 := x8 == 0
  let x35 := x33 && x34
  let x36 := x10 == 1065353216
  let x37 := x35 && x36
  let x38 := x11 == 1
  let x39 := x37 && x38
  let x40 := x13 == 0
  let x41 := x39 && x40
  let x42 := x14 == 16
  let x43 := x41 && x42
  let x44 := x16 == 2147483648
  let x45 := x43 && x44
  let x46 := x17 == 0
  let x47 := x45 && x46
  let x48 := p33 4 1
  [ow [] x0, ow [] x3, ow [] x6, ow [] x9, ow [] x12, ow [] x15, ow [(x19, true)] x20, ow [(x47, true)] x48].all id
noncomputable def r20_0  : Bool :=
  let x1 := r25_0 8 0 true false 4612811918334230528
  let x2 := r25_1 8 0 true false 4612811918334230528
  let x4 := r25_0 4 1 true true 3212836864
  let x5 := r25_1 4 1 true true 3212836864
  let x7 := r27_0 4 0 false false 18446744073709551615
  let x8 := r27_1 4 0 false false 18446744073709551615
  let x10 := r29_0 4 0 4607182418800017409
  let x11 := r29_1 4 0 4607182418800017409
  let x13 := r37_0 70 4 2143289344 0
  let x14 := r37_1 70 4 2143289344 0
  let x16 := r35_0 67 4 2147483648 0
  let x17 := r35_1 67 4 2147483648 0
  let x18 := r21_0 1065353216
  let x19 := x18 == 18446744070479937536
  let x21 := r23_0 1065353216
  let x22 := x21 == 2143289344
  let x23 := x19 && x22
  let x24 := x1 == 2
  let x25 := x23 && x24
  let x26 := x2 == 1
  let x27 := x25 && x26
  let x28 := x4 == 0
  let x29 := x27 && x28
  let x30 := x5 == 16
  let x31 := x29 && x30
  let x32 := x7 == 3212836864
  let x33 := x31 && x32
  let x34 := x8 == 0
  let x35 := x33 && x34
  let x36 := x10 == 1065353216
  let x37 := x35 && x36
  let x38 := x11 == 1
  let x39 := x37 && x38
  let x40 := x13 == 0
  let x41 := x39 && x40
  let x42 := x14 == 16
  let x43 := x41 && x42
  let x44 := x16 == 2147483648
  let x45 := x43 && x44
  let x46 := x17 == 0
  let x47 := x45 && x46
  let x49 := r33_0 4 1
  let x50 := x49 == 32
  let x51 := x47 && x50
  let x52 := r31_0 64 4 1 2147483648
  let x53 := x52 == 2147483649
  let x54 := x51 && x53
  x54
noncomputable def g20 (_ds : List DV) : List DV := [.b (p20 ), .b (r20_0 )]
def S20 : Sigs := ⟨[(25, s25), (27, s27), (29, s29), (37, s37), (35, s35), (21, s21), (23, s23), (33, s33), (31, s31)], [], [], 0⟩

end Go.Proofs.Ytacciadcmiiimaa

namespace Go.Proofs.Ytacciadcmiiimaa
open Go Go.Sx
set_option maxRecDepth 100000
set_option maxHeartbeats 4000000

def s19 : Sig := ⟨[.s (.one (.i .i64 (.h 0))), .s (.one (.i .i64 (.h 1))), .s (.one (.i .i64 (.h 2))), .s (.one (.i .i64 (.h 3)))], [], [.i, .i, .i, .i], .s (.one (.b (.h 0))), [], [.b], true⟩
def o19 : Out := ⟨List.append (List.append (List.append (List.append (List.append (List.append (List.append (List.append (List.append (List.append (List.append ([(4, .call 20 [] 0), (5, .call 20 [] 1), (6, .not (.r 5)), (7, .not (.r 6)), (8, .land .i64 (.r 0) (.z 1)), (9, .mul .i64 (.z 4) (.r 8)), (10, .add .i64 (.z 4) (.r 9)), (11, .conv .u64 (.r 1)), (12, .rem .u64 (.r 11) (.z 5)), (13, .conv .i64 (.r 12)), (14, .rem .i64 (.r 2) (.z 2048)), (15, .rem .i64 (.r 3) (.z 2048)), (16, .conv .u64 (.r 14))]) (callsAt 17 27 [.r 10, .r 13, .t false, .t false, .r 16] 0 3)) ([(20, .conv .u64 (.r 15))])) (callsAt 21 27 [.r 10, .r 13, .t false, .t false, .r 20] 0 3)) (callsAt 24 54 [.r 10, .r 13, .r 18, .r 22] 0 3)) (callsAt 27 59 [.r 10, .r 13, .r 18, .r 22] 0 3)) (callsAt 30 44 [.r 10, .r 13, .r 18, .r 22] 0 3)) (callsAt 33 25 [.r 10, .r 13, .t false, .t false, .r 25] 0 3)) (callsAt 36 25 [.r 10, .r 13, .t true, .t false, .r 28] 0 3)) (callsAt 39 25 [.r 10, .r 13, .t false, .t false, .r 31] 0 3)) (callsAt 42 37 [.z 70, .r 10, .r 18, .r 22] 0 3)) ([(45, .lor .i64 (.r 26) (.r 29)), (46, .lor .i64 (.r 45) (.r 32)), (47, .lor .i64 (.r 46) (.r 35)), (48, .lor .i64 (.r 47) (.r 38)), (49, .lor .i64 (.r 48) (.r 41)), (50, .eql (.r 49) (.z 0)), (51, .add .i64 (.r 14) (.r 15)), (52, .conv .u64 (.r 51)), (53, .eql (.r 34) (.r 52)), (54, .and (.r 50) (.r 53)), (55, .sub .i64 (.r 14) (.r 15)), (56, .conv .u64 (.r 55)), (57, .eql (.r 37) (.r 56)), (58, .and (.r 54) (.r 57)), (59, .mul .i64 (.r 14) (.r 15)), (60, .conv .u64 (.r 59)), (61, .eql (.r 40) (.r 60)), (62, .and (.r 58) (.r 61)), (63, .eql (.r 43) (.z 1)), (64, .lss (.r 14) (.r 15)), (65, .beq (.r 63) (.r 64)), (66, .and (.r 62) (.r 65)), (67, .and (.r 7) (.r 66))]),
  [⟨[], .r 4⟩, ⟨[(.r 7, true)], .r 17⟩, ⟨[(.r 7, true)], .r 21⟩, ⟨[(.r 7, true)], .r 24⟩, ⟨[(.r 7, true)], .r 27⟩, ⟨[(.r 7, true)], .r 30⟩, ⟨[(.r 7, true)], .r 33⟩, ⟨[(.r 7, true)], .r 36⟩, ⟨[(.r 7, true)], .r 39⟩, ⟨[(.r 7, true)], .r 42⟩],
  [],
  [.r 67]⟩
noncomputable def p19 (x0 : Int) (x1 : Int) (x2 : Int) (x3 : Int) : Bool :=
  let x4 := p20 
  let x5 := r20_0 
  let x6 := !x5
  let x7 := !x6
  let x8 := iland .i64 x0 1
  let x9 := IntKind.wrap .i64 (4 * x8)
  let x10 := IntKind.wrap .i64 (4 + x9)
  let x11 := IntKind.wrap .u64 x1
  let x12 := Int.tmod x11 5
  let x13 := IntKind.wrap .i64 x12
  let x14 := Int.tmod x2 2048
  let x15 := Int.tmod x3 2048
  let x16 := IntKind.wrap .u64 x14
  let x17 := p27 x10 x13 false false x16
  let x18 := r27_0 x10 x13 false false x16
  let x20 := IntKind.wrap .u64 x15
  let x21 := p27 x10 x13 false false x20
  let x22 := r27_0 x10 x13 false false x20
  let x24 := p54 x10 x13 x18 x22
  let x25 := r54_0 x10 x13 x18 x22
  let x27 := p59 x10 x13 x18 x22
  let x28 := r59_0 x10 x13 x18 x22
  let x30 := p44 x10 x13 x18 x22
  let x31 := r44_0 x10 x13 x18 x22
  let x33 := p25 x10 x13 x25
  let x36 := p25 x10 x13 x28
  let x39 := p25 x10 x13 x31
  let x42 := p37 70 x10 x18 x22
  [ow [] x4, ow [(x7, true)] x17, ow [(x7, true)] x21, ow [(x7, true)] x24, ow [(x7, true)] x27, ow [(x7, true)] x30, ow [(x7, true)] x33, ow [(x7, true)] x36, ow [(x7, true)] x39, ow [(x7, true)] x42].all id
noncomputable def r19_0 (x0 : Int) (x1 : Int) (x2 : Int) (x3 : Int) : Bool :=
  let x5 := r20_0 
  let x6 := !x5
  let x7 := !x6
  let x8 := iland .i64 x0 1
  let x9 := IntKind.wrap .i64 (4 * x8)
  let x10 := IntKind.wrap .i64 (4 + x9)
  let x11 := IntKind.wrap .u64 x1
  let x12 := Int.tmod x11 5
  let x13 := IntKind.wrap .i64 x12
  let x14 := Int.tmod x2 2048
  let x15 := Int.tmod x3 2048
  let x16 := IntKind.wrap .u64 x14
  let x18 := r27_0 x10 x13 false false x16
  let x20 := IntKind.wrap .u64 x15
  let x22 := r27_0 x10 x13 false false x20
  let x25 := r54_0 x10 x13 x18 x22
  let x26 := r54_1 x10 x13 x18 x22
  let x28 := r59_0 x10 x13 x18 x22
  let x29 := r59_1 x10 x13 x18 x22
  let x31 := r44_0 x10 x13 x18 x22
  let x32 := r44_1 x10 x13 x18 x22
  let x34 := r25_0 x10 x13 false false x25
  let x35 := r25_1 x10 x13 false false x25
  let x37 := r25_0 x10 x13 true false x28
  let x38 := r25_1 x10 x13 true false x28
  let x40 := r25_0 x10 x13 false false x31
  let x41 := r25_1 x10 x13 false false x31
  let x43 := r37_0 70 x10 x18 x22
  let x45 := ilor .i64 x26 x29
  let x46 := ilor .i64 x45 x32
  let x47 := ilor .i64 x46 x35
  let x48 := ilor .i64 x47 x38
  let x49 := ilor .i64 x48 x41
  let x50 := x49 == 0
  let x51 := IntKind.wrap .i64 (x14 + x15)
  let x52 := IntKind.wrap .u64 x51
  let x53 := x34 == x52
  let x54 := x50 && x53
  let x55 := IntKind.wrap .i64 (x14 - x15)
  let x56 := IntKind.wrap .u64 x55
  let x57 := x37 == x56
  let x58 := x54 && x57
  let x59 := IntKind.wrap .i64 (x14 * x15)
  let x60 := IntKind.wrap .u64 x59
  let x61 := x40 == x60
  let x62 := x58 && x61
  let x63 := x43 == 1
  let x64 := decide (x14 < x15)
  let x65 := x63 == x64
  let x66 := x62 && x65
  let x67 := x7 && x66
  x67
noncomputable def g19 (ds : List DV) : List DV := [.b (p19 (dget ds 0).toI (dget ds 1).toI (dget ds 2).toI (dget ds 3).toI), .b (r19_0 (dget ds 0).toI (dget ds 1).toI (dget ds 2).toI (dget ds 3).toI)]
def S19 : Sigs := ⟨[(20, s20), (27, s27), (54, s54), (59, s59), (44, s44), (25, s25), (37, s37)], [], [], 0⟩



end Go.Proofs.Ytacciadcmiiimaa

namespace Go.Rnd

def blen (n : Nat) : Nat := if n = 0 then 0 else n.log2 + 1
theorem blen_le {n k : Nat} : blen n ≤ k ↔ n < 2 ^ k := by
  unfold blen
  split
  · rename_i h; subst h; simp [Nat.two_pow_pos]
  · rename_i h; rw [← Nat.log2_lt h]; omega
theorem lt_blen {n k : Nat} : k < blen n ↔ 2 ^ k ≤ n := by
  rw [← Nat.not_le, blen_le, Nat.not_lt]
theorem blen_eq {n k : Nat} (h1 : 2 ^ k ≤ n) (h2 : n < 2 ^ (k + 1)) : blen n = k + 1 := by
  have a := lt_blen.2 h1; have b := blen_le.2 h2; omega
theorem blen_pos {n : Nat} (h : 0 < n) : 0 < blen n := lt_blen.2 (by rw [Nat.pow_zero]; exact h)
theorem blen_two_pow (k : Nat) : blen (2 ^ k) = k + 1 := blen_eq (Nat.le_refl _) (by rw [Nat.pow_succ]; have := Nat.two_pow_pos k; omega)
theorem blen_self {n : Nat} : n < 2 ^ blen n := blen_le.1 (Nat.le_refl _)
theorem blen_low {n : Nat} (h : 0 < n) : 2 ^ (blen n - 1) ≤ n := lt_blen.1 (by have := blen_pos h; omega)
theorem blen_shift {h j l : Nat} (hh : 0 < h) (hl : l < 2 ^ j) : blen (h * 2 ^ j + l) = blen h + j := by
  have h1 := blen_low hh
  have h2 := blen_self (n := h)
  have h0 := blen_pos hh
  have e : blen h + j = (blen h - 1 + j) + 1 := by omega
  rw [e]
  refine blen_eq ?_ ?_
  · rw [Nat.pow_add]
    exact Nat.le_trans (Nat.mul_le_mul_right _ h1) (Nat.le_add_right _ _)
  · have : (h + 1) * 2 ^ j ≤ 2 ^ blen h * 2 ^ j := Nat.mul_le_mul_right _ h2
    rw [← Nat.pow_add] at this
    have e2 : blen h - 1 + j + 1 = blen h + j := by omega
    rw [e2]
    rw [Nat.add_mul] at this
    omega

def upB (rm : Int) (minus odd half rest : Bool) : Bool :=
  if rm = 0 then half && (rest || odd) else if rm = 2 then minus && (half || rest) else if rm = 3 then !minus && (half || rest) else if rm = 4 then half else false

def cutP (rm : Int) (minus : Bool) (M n : Nat) (more : Bool) : Nat × Bool :=
  (M / 2 ^ n + (if upB rm minus (M / 2 ^ n % 2 == 1) (M / 2 ^ (n - 1) % 2 == 1) (M % 2 ^ (n - 1) != 0 || more) then 1 else 0), M % 2 ^ n == 0 && !more)
def cutN (rm : Int) (minus : Bool) (M : Nat) (b : Int) (more : Bool) : Nat × Bool :=
  if b ≤ 0 then (M * 2 ^ (-b).toNat, !more) else cutP rm minus M b.toNat more

theorem upB_none (rm : Int) (minus odd : Bool) : upB rm minus odd false false = false := by
  unfold upB; simp

theorem cutP_exact {rm : Int} {minus : Bool} {q n : Nat} (hn : 0 < n) : cutP rm minus (q * 2 ^ n) n false = (q, true) := by
  unfold cutP
  have h1 : q * 2 ^ n / 2 ^ n = q := Nat.mul_div_cancel _ (Nat.two_pow_pos n)
  have h2 : q * 2 ^ n % 2 ^ n = 0 := Nat.mul_mod_left _ _
  obtain ⟨m, rfl⟩ : ∃ m, n = m + 1 := ⟨n - 1, by omega⟩
  have h3 : q * 2 ^ (m + 1) / 2 ^ (m + 1 - 1) % 2 = 0 := by
    rw [Nat.add_sub_cancel, Nat.pow_succ, ← Nat.mul_assoc, Nat.mul_right_comm, Nat.mul_div_cancel _ (Nat.two_pow_pos m), Nat.mul_mod_left]
  have h4 : q * 2 ^ (m + 1) % 2 ^ (m + 1 - 1) = 0 := by
    rw [Nat.add_sub_cancel, Nat.pow_succ, ← Nat.mul_assoc, Nat.mul_right_comm, Nat.mul_mod_left]
  rw [h1, h2, h3, h4]
  simp [upB_none]

theorem cutP_near {rm : Int} {minus : Bool} {h j l n : Nat} {more : Bool} (hl : l < 2 ^ j) (hn : 2 ≤ n) :
    cutP rm minus (h * 2 ^ j + l) (n + j) more = cutP rm minus (if l ≠ 0 ∨ more = true then h ||| 1 else h) n false := by
  obtain ⟨m, rfl⟩ : ∃ m, n = m + 2 := ⟨n - 2, by omega⟩
  have hp := Nat.two_pow_pos j
  have d0 : (h * 2 ^ j + l) / 2 ^ j = h := by
    rw [Nat.mul_comm, Nat.mul_add_div hp, Nat.div_eq_of_lt hl, Nat.add_zero]
  have m0 : (h * 2 ^ j + l) % 2 ^ j = l := by
    rw [Nat.mul_comm, Nat.mul_add_mod, Nat.mod_eq_of_lt hl]
  have dv : ∀ k, (h * 2 ^ j + l) / 2 ^ (k + j) = h / 2 ^ k := fun k => by
    rw [Nat.add_comm k j, Nat.pow_add, ← Nat.div_div_eq_div_mul, d0]
  have md : ∀ k, (h * 2 ^ j + l) % 2 ^ (k + j) = 2 ^ j * (h % 2 ^ k) + l := fun k => by
    rw [Nat.add_comm k j, Nat.pow_add, Nat.mod_mul, d0, m0, Nat.add_comm]
  have e1 : m + 2 + j - 1 = (m + 1) + j := by omega
  have dodd : ∀ k, (h ||| 1) / 2 ^ (k + 1) = h / 2 ^ (k + 1) := fun k => by
    rw [← Nat.shiftRight_eq_div_pow, ← Nat.shiftRight_eq_div_pow, Nat.shiftRight_or_distrib]
    have : 1 >>> (k + 1) = 0 := by rw [Nat.shiftRight_eq_div_pow]; exact Nat.div_eq_of_lt (Nat.one_lt_two_pow (by omega))
    rw [this, Nat.or_zero]
  have modd : ∀ k, (h ||| 1) % 2 ^ (k + 1) ≠ 0 := fun k hk => by
    have h1 := congrArg (· % 2) hk
    rw [Nat.pow_succ, Nat.mul_comm, Nat.mod_mul_right_mod] at h1
    have := (Nat.or_mod_two_eq_one (a := h) (b := 1)).2 (Or.inr rfl)
    omega
  have key : ∀ s : Bool, s = decide (l ≠ 0 ∨ more = true) → cutP rm minus (h * 2 ^ j + l) (m + 2 + j) more = cutP rm minus (if s = true then h ||| 1 else h) (m + 2) false := by
    intro s hs
    unfold cutP
    rw [e1, dv (m + 2), dv (m + 1), md (m + 1), md (m + 2)]
    have e2 : m + 2 - 1 = m + 1 := by omega
    rw [e2]
    have a1 : (if s = true then h ||| 1 else h) / 2 ^ (m + 2) = h / 2 ^ (m + 2) := by split; exact dodd (m + 1); rfl
    have a2 : (if s = true then h ||| 1 else h) / 2 ^ (m + 1) = h / 2 ^ (m + 1) := by split; exact dodd m; rfl
    have a3 : ∀ k, ((if s = true then h ||| 1 else h) % 2 ^ (k + 1) = 0) ↔ (2 ^ j * (h % 2 ^ (k + 1)) + l = 0 ∧ more = false) := fun k => by
      have hz : 2 ^ j * (h % 2 ^ (k + 1)) = 0 ↔ h % 2 ^ (k + 1) = 0 := by rw [Nat.mul_eq_zero]; omega
      by_cases hc : l ≠ 0 ∨ more = true
      · rw [hs, if_pos (by simpa using hc)]
        constructor
        · intro h5; exact absurd h5 (modd k)
        · rintro ⟨h5, h6⟩
          rcases hc with hc | hc
          · omega
          · rw [h6] at hc; cases hc
      · rw [hs, if_neg (by simpa using hc)]
        have hl0 : l = 0 := by have := not_or.1 hc; omega
        have hm0 : more = false := by have := (not_or.1 hc).2; simpa using this
        rw [hl0, hm0, Nat.add_zero]; simp [hz]
    have b3 : ∀ k, ((2 ^ j * (h % 2 ^ (k + 1)) + l != 0) || more) = ((if s = true then h ||| 1 else h) % 2 ^ (k + 1) != 0) := fun k => by
      rw [Bool.eq_iff_iff]
      simp only [Bool.or_eq_true, bne_iff_ne, ne_eq]
      rw [a3 k]
      cases more <;> simp
    have b4 : ((2 ^ j * (h % 2 ^ (m + 2)) + l == 0) && !more) = ((if s = true then h ||| 1 else h) % 2 ^ (m + 2) == 0) := by
      rw [Bool.eq_iff_iff]
      simp only [Bool.and_eq_true, beq_iff_eq]
      rw [a3 (m + 1)]
      cases more <;> simp
    rw [a1, a2, b3 m, b4]
    simp
  have := key (decide (l ≠ 0 ∨ more = true)) rfl
  simpa using this

theorem or_one_ge {h : Nat} : h ≤ h ||| 1 := Nat.left_le_or
theorem blen_or_one {h : Nat} (hh : 0 < h) : blen (h ||| 1) = blen h := by
  obtain ⟨k, hk⟩ : ∃ k, blen h = k + 1 := ⟨blen h - 1, by have := blen_pos hh; omega⟩
  rw [hk]
  refine blen_eq (Nat.le_trans (lt_blen.1 (by omega)) or_one_ge) ?_
  exact Nat.or_lt_two_pow (blen_le.1 (by omega)) (Nat.one_lt_two_pow (by omega))

def least (f b : Nat) : Int := 1 - b - f
def lastOf (f b : Nat) (top : Int) : Int := if top - f - 1 < least f b then least f b else top - f - 1
def tinyOf (f b : Nat) (top : Int) (q : Nat) : Bool := decide (top - f - 1 < least f b) && decide ((blen q : Int) + top - f - 1 < least f b + f + 1)
def told (f b : Nat) (rm : Int) (minus : Bool) (last : Int) (c : Nat × Bool) (tiny : Bool) : Nat × Nat :=
  let m := if blen c.1 > f + 1 then c.1 / 2 else c.1
  let la := if blen c.1 > f + 1 then last + 1 else last
  if la + f > b ∧ blen m = f + 1 then ((2 * b + 1) * 2 ^ f - (if rm = 1 ∨ (rm = 2 ∧ minus = false) ∨ (rm = 3 ∧ minus = true) then 1 else 0), 5)
  else ((if blen m = f + 1 then m - 2 ^ f + (la - least f b + 1).toNat * 2 ^ f else m), if c.2 then 0 else if tiny then 3 else 1)
def rnd (f b : Nat) (rm : Int) (minus : Bool) (M : Nat) (E : Int) (more : Bool) : Nat × Nat :=
  told f b rm minus (lastOf f b (blen M + E)) (cutN rm minus M (lastOf f b (blen M + E) - E) more)
    (tinyOf f b (blen M + E) (cutN rm minus M (blen M + E - f - 1 - E) more).1)

theorem cutN_scale {rm : Int} {minus : Bool} {M k : Nat} {b : Int} : cutN rm minus (M * 2 ^ k) (b + k) false = cutN rm minus M b false := by
  unfold cutN
  by_cases h1 : b ≤ 0
  · rw [if_pos h1]
    by_cases h2 : b + k ≤ 0
    · rw [if_pos h2, Nat.mul_assoc, ← Nat.pow_add]
      congr 3; omega
    · rw [if_neg h2]
      obtain ⟨d, rfl⟩ : ∃ d, k = (-b).toNat + d := ⟨k - (-b).toNat, by omega⟩
      have e : (b + ((-b).toNat + d : Nat)).toNat = d := by omega
      rw [e, Nat.pow_add, ← Nat.mul_assoc, cutP_exact (by omega)]
      rfl
  · rw [if_neg h1, if_neg (by omega)]
    have e : (b + k).toNat = b.toNat + k := by omega
    rw [e]
    obtain ⟨n, hn⟩ : ∃ n, b.toNat = n + 1 := ⟨b.toNat - 1, by omega⟩
    rw [hn]
    unfold cutP
    have hp := Nat.two_pow_pos k
    have dv : ∀ x, M * 2 ^ k / 2 ^ (x + k) = M / 2 ^ x := fun x => by rw [Nat.pow_add, Nat.mul_div_mul_right _ _ hp]
    have md : ∀ x, M * 2 ^ k % 2 ^ (x + k) = M % 2 ^ x * 2 ^ k := fun x => by rw [Nat.pow_add, Nat.mul_mod_mul_right]
    have mz : ∀ x, (M % 2 ^ x * 2 ^ k = 0) ↔ M % 2 ^ x = 0 := fun x => by rw [Nat.mul_eq_zero]; omega
    have e2 : n + 1 + k - 1 = n + k := by omega
    rw [e2, dv, dv, md, md, Nat.add_sub_cancel]
    have z1 : ∀ x, (M % 2 ^ x * 2 ^ k != 0) = (M % 2 ^ x != 0) := fun x => by rw [Bool.eq_iff_iff]; simp only [bne_iff_ne, ne_eq, mz]
    have z2 : ∀ x, (M % 2 ^ x * 2 ^ k == 0) = (M % 2 ^ x == 0) := fun x => by rw [Bool.eq_iff_iff]; simp only [beq_iff_eq, mz]
    rw [z1, z2]

theorem rnd_scale {f b : Nat} {rm : Int} {minus : Bool} {M k : Nat} {E : Int} (hM : 0 < M) : rnd f b rm minus (M * 2 ^ k) (E - k) false = rnd f b rm minus M E false := by
  have h1 : (blen (M * 2 ^ k) : Int) + (E - k) = blen M + E := by
    have := blen_shift (h := M) (j := k) (l := 0) hM (Nat.two_pow_pos k)
    rw [Nat.add_zero] at this
    rw [this]; omega
  unfold rnd
  rw [h1]
  have h2 : ∀ x : Int, x - (E - k) = x - E + k := fun x => by omega
  rw [h2, h2, cutN_scale, cutN_scale]

theorem rnd_near {f b : Nat} {rm : Int} {minus : Bool} {h j l : Nat} {e : Int} {more : Bool} (hh : 2 ^ (f + 2) ≤ h) (hl : l < 2 ^ j) :
    rnd f b rm minus (h * 2 ^ j + l) (e - j) more = rnd f b rm minus (if l ≠ 0 ∨ more = true then h ||| 1 else h) e false := by
  have h0 : 0 < h := Nat.lt_of_lt_of_le (Nat.two_pow_pos _) hh
  have hb : f + 2 < blen h := lt_blen.2 hh
  have h1 : (blen (h * 2 ^ j + l) : Int) + (e - j) = blen h + e := by rw [blen_shift h0 hl]; omega
  have h3 : blen (if l ≠ 0 ∨ more = true then h ||| 1 else h) = blen h := by split; exact blen_or_one h0; rfl
  have hc : ∀ x : Int, 2 ≤ x → cutN rm minus (h * 2 ^ j + l) (x + j) more = cutN rm minus (if l ≠ 0 ∨ more = true then h ||| 1 else h) x false := fun x hx => by
    unfold cutN
    rw [if_neg (by omega), if_neg (by omega)]
    have e1 : (x + j).toNat = x.toNat + j := by omega
    rw [e1, cutP_near hl (by omega)]
  unfold rnd
  rw [h1, h3]
  have h2 : ∀ x : Int, x - (e - j) = x - e + j := fun x => by omega
  rw [h2, h2, hc _ (by unfold lastOf; split <;> omega), hc _ (by omega)]
end Go.Rnd

namespace Go.Sx

theorem wrap_u64 (n : Int) : IntKind.wrap .u64 n = n % 18446744073709551616 := by simp [IntKind.wrap, IntKind.signed, IntKind.bits]
theorem wrap_u32 (n : Int) : IntKind.wrap .u32 n = n % 4294967296 := by simp [IntKind.wrap, IntKind.signed, IntKind.bits]
theorem wrap_u8 (n : Int) : IntKind.wrap .u8 n = n % 256 := by simp [IntKind.wrap, IntKind.signed, IntKind.bits]
theorem wrap_i64 (n : Int) : IntKind.wrap .i64 n = if n % 18446744073709551616 ≥ 9223372036854775808 then n % 18446744073709551616 - 18446744073709551616 else n % 18446744073709551616 := by
  simp [IntKind.wrap, IntKind.signed, IntKind.bits]
theorem wrap_i32 (n : Int) : IntKind.wrap .i32 n = if n % 4294967296 ≥ 2147483648 then n % 4294967296 - 4294967296 else n % 4294967296 := by
  simp [IntKind.wrap, IntKind.signed, IntKind.bits]
theorem wrap_i64_of {n : Int} (h0 : -9223372036854775808 ≤ n) (h1 : n < 9223372036854775808) : IntKind.wrap .i64 n = n := by rw [wrap_i64]; split <;> omega
theorem wrap_u64_of {n : Int} (h0 : 0 ≤ n) (h1 : n < 18446744073709551616) : IntKind.wrap .u64 n = n := by rw [wrap_u64]; omega

theorem ofInt_nat {a : Nat} (ha : a < 18446744073709551616) : (BitVec.ofInt 64 (a : Int)).toNat = a := by
  rw [BitVec.ofInt_natCast, BitVec.toNat_ofNat]; exact Nat.mod_eq_of_lt (by omega)
theorem land_nn {a b : Nat} (ha : a < 18446744073709551616) (hb : b < 18446744073709551616) : iland .u64 (a : Int) (b : Int) = ((a &&& b : Nat) : Int) := by
  show IntKind.wrap .u64 ((BitVec.ofInt 64 (a : Int) &&& BitVec.ofInt 64 (b : Int)).toNat : Int) = _
  rw [BitVec.toNat_and, ofInt_nat ha, ofInt_nat hb, wrap_u64]
  have : a &&& b ≤ a := Nat.and_le_left
  omega
theorem lor_nn {a b : Nat} (ha : a < 18446744073709551616) (hb : b < 18446744073709551616) : ilor .u64 (a : Int) (b : Int) = ((a ||| b : Nat) : Int) := by
  show IntKind.wrap .u64 ((BitVec.ofInt 64 (a : Int) ||| BitVec.ofInt 64 (b : Int)).toNat : Int) = _
  rw [BitVec.toNat_or, ofInt_nat ha, ofInt_nat hb, wrap_u64]
  have : a ||| b < 2 ^ 64 := Nat.or_lt_two_pow (by omega) (by omega)
  omega
theorem lxor_nn {a b : Nat} (ha : a < 18446744073709551616) (hb : b < 18446744073709551616) : ilxor .u64 (a : Int) (b : Int) = ((a ^^^ b : Nat) : Int) := by
  show IntKind.wrap .u64 ((BitVec.ofInt 64 (a : Int) ^^^ BitVec.ofInt 64 (b : Int)).toNat : Int) = _
  rw [BitVec.toNat_xor, ofInt_nat ha, ofInt_nat hb, wrap_u64]
  have : a ^^^ b < 2 ^ 64 := Nat.xor_lt_two_pow (by omega) (by omega)
  omega
theorem landNot_nn {a b : Nat} (ha : a < 18446744073709551616) (hb : b < 18446744073709551616) : ilandNot .u64 (a : Int) (b : Int) = ((a &&& (18446744073709551615 - b) : Nat) : Int) := by
  show IntKind.wrap .u64 ((BitVec.ofInt 64 (a : Int) &&& ~~~ BitVec.ofInt 64 (b : Int)).toNat : Int) = _
  rw [BitVec.toNat_and, ofInt_nat ha, BitVec.toNat_not, ofInt_nat hb, wrap_u64]
  have e : 2 ^ 64 - 1 - b = 18446744073709551615 - b := by omega
  rw [e]
  have : a &&& (18446744073709551615 - b) ≤ a := Nat.and_le_left
  omega

theorem int_nat {a : Int} (h0 : 0 ≤ a) : ∃ n : Nat, a = n := ⟨a.toNat, by omega⟩

theorem testBit_parts {k r : Nat} (hr : r < 2 ^ k) (q j : Nat) : (2 ^ k * q + r).testBit j = if j < k then r.testBit j else q.testBit (j - k) := Nat.testBit_two_pow_mul_add q hr j
theorem and_parts {k r s : Nat} (hr : r < 2 ^ k) (hs : s < 2 ^ k) (q q' : Nat) : (2 ^ k * q + r) &&& (2 ^ k * q' + s) = 2 ^ k * (q &&& q') + (r &&& s) := by
  apply Nat.eq_of_testBit_eq
  intro j
  rw [Nat.testBit_and, testBit_parts hr, testBit_parts hs, testBit_parts (Nat.and_lt_two_pow r hs), Nat.testBit_and, Nat.testBit_and]
  split <;> rfl
theorem or_parts {k r s : Nat} (hr : r < 2 ^ k) (hs : s < 2 ^ k) (q q' : Nat) : (2 ^ k * q + r) ||| (2 ^ k * q' + s) = 2 ^ k * (q ||| q') + (r ||| s) := by
  apply Nat.eq_of_testBit_eq
  intro j
  rw [Nat.testBit_or, testBit_parts hr, testBit_parts hs, testBit_parts (Nat.or_lt_two_pow hr hs), Nat.testBit_or, Nat.testBit_or]
  split <;> rfl
theorem xor_parts {k r s : Nat} (hr : r < 2 ^ k) (hs : s < 2 ^ k) (q q' : Nat) : (2 ^ k * q + r) ^^^ (2 ^ k * q' + s) = 2 ^ k * (q ^^^ q') + (r ^^^ s) := by
  apply Nat.eq_of_testBit_eq
  intro j
  rw [Nat.testBit_xor, testBit_parts hr, testBit_parts hs, testBit_parts (Nat.xor_lt_two_pow hr hs), Nat.testBit_xor, Nat.testBit_xor]
  split <;> rfl
theorem split_at (n k : Nat) : 2 ^ k * (n / 2 ^ k) + n % 2 ^ k = n := Nat.div_add_mod n (2 ^ k)
theorem mod_lt (n k : Nat) : n % 2 ^ k < 2 ^ k := Nat.mod_lt _ (Nat.two_pow_pos k)
theorem one_parts (q : Nat) : q &&& 1 = q % 2 ∧ q ||| 1 = q / 2 * 2 + 1 ∧ q ^^^ 1 = q / 2 * 2 + (1 - q % 2) := by
  have h2 : q % 2 < 2 ^ 1 := by omega
  have e : q = 2 ^ 1 * (q / 2) + q % 2 := by omega
  have h1 : (1 : Nat) = 2 ^ 1 * 0 + 1 := rfl
  refine ⟨Nat.and_one_is_mod q, ?_, ?_⟩
  · conv => lhs; rw [e, h1, or_parts h2 (by decide)]
    rw [Nat.or_zero]
    rcases Nat.mod_two_eq_zero_or_one q with h | h <;> rw [h] <;> simp <;> omega
  · conv => lhs; rw [e, h1, xor_parts h2 (by decide)]
    rw [Nat.xor_zero]
    rcases Nat.mod_two_eq_zero_or_one q with h | h <;> rw [h] <;> simp <;> omega
theorem and_bit (n k : Nat) : n &&& 2 ^ k = 2 ^ k * (n / 2 ^ k % 2) := by
  conv => lhs; rw [← split_at n k, show (2 : Nat) ^ k = 2 ^ k * 1 + 0 from by omega, show 2 ^ k * 1 + 0 = 2 ^ k from by omega]
  have := and_parts (mod_lt n k) (Nat.two_pow_pos k) (n / 2 ^ k) 1
  rw [Nat.mul_one, Nat.add_zero] at this
  rw [this, (one_parts _).1, Nat.and_zero, Nat.add_zero]
theorem xor_bit (n k : Nat) : n ^^^ 2 ^ k = if n / 2 ^ k % 2 = 1 then n - 2 ^ k else n + 2 ^ k := by
  have := xor_parts (mod_lt n k) (Nat.two_pow_pos k) (n / 2 ^ k) 1
  rw [Nat.mul_one, Nat.add_zero, split_at, (one_parts _).2.2, Nat.xor_zero] at this
  rw [this]
  have h := split_at n k
  generalize n / 2 ^ k = q at *
  generalize n % 2 ^ k = r at *
  rcases Nat.mod_two_eq_zero_or_one q with hq | hq
  · rw [hq, show q / 2 * 2 + (1 - 0) = q + 1 from by omega, Nat.mul_add]; simp; omega
  · rw [hq, show q / 2 * 2 + (1 - 1) = q - 1 from by omega]
    simp
    have : q = (q - 1) + 1 := by omega
    rw [this, Nat.mul_add] at h
    omega
theorem andNot_bit (n k w : Nat) (hn : n < 2 ^ w) (hk : k < w) : n &&& (2 ^ w - 1 - 2 ^ k) = n - 2 ^ k * (n / 2 ^ k % 2) := by
  have hlt : 2 ^ k < 2 ^ w := Nat.pow_lt_pow_right (by decide) hk
  have h1 : 2 ^ w - 1 - 2 ^ k = (2 ^ w - 1) ^^^ 2 ^ k := by
    rw [xor_bit]
    have : (2 ^ w - 1) / 2 ^ k % 2 = 1 := by
      have := Nat.testBit_two_pow_sub_one w k
      rw [Nat.testBit_eq_decide_div_mod_eq] at this
      simpa [hk] using this
    rw [if_pos this]
  have h2 : n &&& ((2 ^ w - 1) ^^^ 2 ^ k) = n ^^^ (n &&& 2 ^ k) := by
    apply Nat.eq_of_testBit_eq
    intro j
    rw [Nat.testBit_and, Nat.testBit_xor, Nat.testBit_xor, Nat.testBit_and, Nat.testBit_two_pow_sub_one]
    by_cases hj : j < w
    · simp [hj]; cases n.testBit j <;> cases (2 ^ k).testBit j <;> rfl
    · have : n.testBit j = false := Nat.testBit_lt_two_pow (Nat.lt_of_lt_of_le hn (Nat.pow_le_pow_right (by decide) (by omega)))
      simp [this]
  rw [h1, h2, and_bit]
  rcases Nat.mod_two_eq_zero_or_one (n / 2 ^ k) with h | h
  · rw [h]; simp
  · rw [h, Nat.mul_one, xor_bit, if_pos h]

section
variable {a m p : Int}
theorem land_mask (h0 : 0 ≤ a) (h1 : a < 18446744073709551616) (k : Nat) (hk : k ≤ 64) (hm : m = ((2 ^ k - 1 : Nat) : Int)) (hp : p = ((2 ^ k : Nat) : Int)) : iland .u64 a m = a % p := by
  obtain ⟨n, rfl⟩ := int_nat h0
  have : 2 ^ k ≤ 2 ^ 64 := Nat.pow_le_pow_right (by decide) hk
  rw [hm, land_nn (by omega) (by omega), Nat.and_two_pow_sub_one_eq_mod, hp]
  omega
theorem land_bit (h0 : 0 ≤ a) (h1 : a < 18446744073709551616) (k : Nat) (hk : k < 64) (hm : m = ((2 ^ k : Nat) : Int)) : iland .u64 a m = m * (a / m % 2) := by
  obtain ⟨n, rfl⟩ := int_nat h0
  have : 2 ^ k < 2 ^ 64 := Nat.pow_lt_pow_right (by decide) hk
  rw [hm, land_nn (by omega) (by omega), and_bit]
  simp
theorem landNot_bit (h0 : 0 ≤ a) (h1 : a < 18446744073709551616) (k : Nat) (hk : k < 64) (hm : m = ((2 ^ k : Nat) : Int)) : ilandNot .u64 a m = a - m * (a / m % 2) := by
  obtain ⟨n, rfl⟩ := int_nat h0
  have : 2 ^ k < 2 ^ 64 := Nat.pow_lt_pow_right (by decide) hk
  rw [hm, landNot_nn (by omega) (by omega), show 18446744073709551615 - 2 ^ k = 2 ^ 64 - 1 - 2 ^ k from by omega, andNot_bit n k 64 (by omega) hk]
  have : 2 ^ k * (n / 2 ^ k % 2) ≤ n := by
    have h := split_at n k
    have : 2 ^ k * (n / 2 ^ k % 2) ≤ 2 ^ k * (n / 2 ^ k) := Nat.mul_le_mul_left _ (Nat.mod_le _ _)
    omega
  have e : ((2 ^ k * (n / 2 ^ k % 2) : Nat) : Int) = ((2 ^ k : Nat) : Int) * ((n : Int) / ((2 ^ k : Nat) : Int) % 2) := by simp
  rw [← e]
  omega
theorem shr_of (k : Nat) (hk : k ≤ 64) (hp : p = ((2 ^ k : Nat) : Int)) : ishr .u64 a (k : Int) = a / p := by
  show Int.fdiv a (2 ^ min (k : Int).toNat 64) = _
  have e : min (k : Int).toNat 64 = k := by simp; omega
  rw [e, hp, Int.fdiv_eq_ediv_of_nonneg _ (by exact Int.le_of_lt (Int.pow_pos (by decide)))]
  simp
theorem lxor_neg1 (h0 : 0 ≤ a) (h1 : a < 9223372036854775808) : ilxor .i64 (-1) a = -1 - a := by
  obtain ⟨n, rfl⟩ := int_nat h0
  show IntKind.wrap .i64 ((BitVec.ofInt 64 (-1) ^^^ BitVec.ofInt 64 (n : Int)).toNat : Int) = _
  rw [show BitVec.ofInt 64 (-1) = BitVec.allOnes 64 from by decide, BitVec.allOnes_xor, BitVec.toNat_not, ofInt_nat (by omega), wrap_i64]
  split <;> omega
end
theorem ibeq (x y : Int) : (x == y) = decide (x = y) := by by_cases h : x = y <;> simp [h]
theorem ibne (x y : Int) : (x != y) = !decide (x = y) := by by_cases h : x = y <;> simp [h]
theorem ite_tt (p : Prop) [Decidable p] (a b : Bool) : ((if p then a else b) = true) = ((p ∧ a = true) ∨ (¬ p ∧ b = true)) := by by_cases h : p <;> simp [h]
theorem ite_ff (p : Prop) [Decidable p] (a b : Bool) : ((if p then a else b) = false) = ((p ∧ a = false) ∨ (¬ p ∧ b = false)) := by by_cases h : p <;> simp [h]
theorem bl : (∀ x y : Int, (x == y) = decide (x = y)) ∧ (∀ x y : Int, (x != y) = !decide (x = y)) ∧
    (∀ (c : Bool) (a b : Int), cond c a b = if c = true then a else b) ∧ (∀ (c a b : Bool), cond c a b = if c = true then a else b) ∧
    (∀ a b : Bool, ((a && b) = true) = (a = true ∧ b = true)) ∧ (∀ a b : Bool, ((a || b) = true) = (a = true ∨ b = true)) ∧
    (∀ a b : Bool, ((a && b) = false) = (a = false ∨ b = false)) ∧ (∀ a b : Bool, ((a || b) = false) = (a = false ∧ b = false)) ∧
    (∀ a : Bool, ((!a) = true) = (a = false)) ∧ (∀ a : Bool, ((!a) = false) = (a = true)) ∧
    (∀ (p : Prop) [Decidable p], (decide p = true) = p) ∧ (∀ (p : Prop) [Decidable p], (decide p = false) = ¬ p) ∧
    (∀ (p : Prop) [Decidable p] (a b : Bool), ((if p then a else b) = true) = ((p ∧ a = true) ∨ (¬ p ∧ b = true))) ∧
    (∀ (p : Prop) [Decidable p] (a b : Bool), ((if p then a else b) = false) = ((p ∧ a = false) ∨ (¬ p ∧ b = false))) ∧
    ((false = true) = False) ∧ ((true = false) = False) ∧ ((true = true) = True) ∧ ((false = false) = True) ∧
    (∀ (a b : Int) [Decidable False], (if False then a else b) = b) ∧ (∀ (a b : Int) [Decidable True], (if True then a else b) = a) ∧
    (∀ p : Prop, (p ∧ False) = False) ∧ (∀ p : Prop, (False ∧ p) = False) ∧ (∀ p : Prop, (p ∨ False) = p) ∧ (∀ p : Prop, (False ∨ p) = p) ∧
    (∀ p : Prop, (p ∧ True) = p) ∧ (∀ p : Prop, (True ∧ p) = p) ∧ (∀ p : Prop, (p ∨ True) = True) ∧ (∀ p : Prop, (True ∨ p) = True) ∧
    ((¬ True) = False) ∧ ((¬ False) = True) := by
  refine ⟨ibeq, ibne, ?_, ?_, ?_, ?_, ?_, ?_, ?_, ?_, ?_, ?_, ?_, ?_, ?_, ?_, ?_, ?_, ?_, ?_, ?_, ?_, ?_, ?_, ?_, ?_, ?_, ?_, ?_, ?_⟩
  · intro c a b; cases c <;> rfl
  · intro c a b; cases c <;> rfl
  · intro a b; cases a <;> cases b <;> simp
  · intro a b; cases a <;> cases b <;> simp
  · intro a b; cases a <;> cases b <;> simp
  · intro a b; cases a <;> cases b <;> simp
  · intro a; simp
  · intro a; simp
  · intro p _; simp
  · intro p _; simp
  · intro p _ a b; exact ite_tt p a b
  · intro p _ a b; exact ite_ff p a b
  all_goals simp
end Go.Sx

namespace Go.Rnd
open Go Go.Sx

theorem ow_t (l : List (Bool × Bool)) : ow l true = true := by simp [ow]
theorem dec (p : Prop) [Decidable p] : (decide p = true) = p := by simp

def dlen (n : Nat) : Nat := (blen n + 31) / 32
theorem wr64 {n : Nat} (h : n < 18446744073709551616) : IntKind.wrap .u64 (n : Int) = n := wrap_u64_of (by omega) (by omega)
theorem wr32 (n : Nat) : IntKind.wrap .u32 (n : Int) = ((n % 4294967296 : Nat) : Int) := by rw [wrap_u32]; rfl
theorem wri {n : Nat} (h : n < 9223372036854775808) : IntKind.wrap .i64 (n : Int) = n := wrap_i64_of (by omega) (by omega)
theorem wri1 {n : Nat} (h : n + 1 < 9223372036854775808) : IntKind.wrap .i64 ((n : Int) + 1) = ((n + 1 : Nat) : Int) := by rw [wrap_i64_of (by omega) (by omega)]; rfl
theorem shr32 (n : Nat) : ishr .u64 (n : Int) 32 = ((n / 4294967296 : Nat) : Int) := by
  rw [show ishr .u64 (n : Int) 32 = (n : Int) / 4294967296 from shr_of 32 (by decide) (by decide)]; omega
end Go.Rnd

namespace Go.Proofs.Ytacciadcmiiimaa
open Go Go.Sx Go.Rnd
set_option maxRecDepth 100000
set_option maxHeartbeats 1000000

section
variable {a b : Nat} (ha : dlen a ≤ 1048576) (hb : dlen b ≤ 1048576)
include ha hb
end
end Go.Proofs.Ytacciadcmiiimaa

namespace Go.Rnd
open Go Go.Sx
set_option maxRecDepth 100000

theorem shl_nat (x s : Nat) : ishl .u64 (x : Int) (s : Int) = ((x * 2 ^ s % 18446744073709551616 : Nat) : Int) := by
  unfold ishl
  rw [wrap_u64, Int.toNat_natCast]
  show ((x : Int) * 2 ^ min s 64) % 18446744073709551616 = _
  by_cases h : s ≤ 64
  · rw [Nat.min_eq_left h, Int.natCast_emod, Int.natCast_mul, Int.natCast_pow]; rfl
  · rw [Nat.min_eq_right (by omega)]
    obtain ⟨d, rfl⟩ : ∃ d, s = 64 + d := ⟨s - 64, by omega⟩
    have : x * 2 ^ (64 + d) % 18446744073709551616 = 0 := by
      rw [Nat.pow_add, Nat.mul_left_comm]; exact Nat.mul_mod_right _ _
    rw [this]; omega
theorem shl_lt {x s : Nat} (h : x * 2 ^ s < 18446744073709551616) : ishl .u64 (x : Int) (s : Int) = ((x * 2 ^ s : Nat) : Int) := by
  rw [shl_nat, Nat.mod_eq_of_lt h]
theorem shr_nat {x : Nat} (h : x < 18446744073709551616) (s : Nat) : ishr .u64 (x : Int) (s : Int) = ((x / 2 ^ s : Nat) : Int) := by
  unfold ishr
  rw [Int.toNat_natCast]
  show (x : Int).fdiv (2 ^ min s 64) = _
  have e : ((2 : Int) ^ min s 64) = ((2 ^ min s 64 : Nat) : Int) := by rw [Int.natCast_pow]; rfl
  rw [e, Int.fdiv_eq_ediv_of_nonneg _ (Int.natCast_nonneg _), ← Int.natCast_ediv]
  congr 1
  by_cases hs : s ≤ 64
  · rw [Nat.min_eq_left hs]
  · rw [Nat.min_eq_right (by omega), Nat.div_eq_of_lt h, Nat.div_eq_of_lt]
    have : 2 ^ 64 ≤ 2 ^ s := Nat.pow_le_pow_right (by decide) (by omega)
    exact Nat.lt_of_lt_of_le h this
theorem or_high {c x s : Nat} (hc : c < 2 ^ s) : c ||| x * 2 ^ s = c + x * 2 ^ s := by
  rw [Nat.or_comm, Nat.mul_comm, ← Nat.two_pow_add_eq_or_of_lt hc]; omega
end Go.Rnd

namespace Go.Proofs.Ytacciadcmiiimaa
open Go Go.Sx Go.Rnd
set_option maxRecDepth 100000
set_option maxHeartbeats 1000000

section
variable {a b : Nat} (ha : dlen a ≤ 1048576) (hab : b ≤ a)
include ha hab
end

section
variable {a n : Nat} (ha : dlen a ≤ 1048576) (hn : n ≤ 33554432)
include ha hn
end
end Go.Proofs.Ytacciadcmiiimaa

namespace Go.Proofs.Ytacciadcmiiimaa
open Go Go.Sx Go.Rnd
set_option maxRecDepth 100000
set_option maxHeartbeats 1000000

section
variable {a n : Nat} (ha : dlen a ≤ 1048576) (hn : n ≤ 33554432)
include ha hn
end

section
variable {a b : Nat} (ha : dlen a ≤ 1048576) (hb : dlen b ≤ 1048576)
include ha hb
end
end Go.Proofs.Ytacciadcmiiimaa

namespace Go.Proofs.Ytacciadcmiiimaa
open Go Go.Sx Go.Rnd
set_option maxRecDepth 100000
set_option maxHeartbeats 1000000

section
variable {a b : Nat} (ha : blen a ≤ 1000000) (hb0 : 0 < b) (hb : blen b ≤ 1000000)
include ha hb0 hb
end

section
variable {a : Nat} (ha : blen a ≤ 1000000)
include ha
end
end Go.Proofs.Ytacciadcmiiimaa

namespace Go.Proofs.Ytacciadcmiiimaa
open Go Go.Sx Go.Rnd
set_option maxRecDepth 100000
set_option maxHeartbeats 1000000

def frN (s : Int) : Nat := if s = 4 then 23 else 52
def biN (s : Int) : Nat := if s = 4 then 127 else 1023
def topN (s : Int) : Nat := if s = 4 then 2147483648 else 9223372036854775808
def oneN (s : Int) : Nat := if s = 4 then 8388608 else 4503599627370496
def infB (s : Int) : Nat := if s = 4 then 2139095040 else 9218868437227405312
def quiB (s : Int) : Nat := if s = 4 then 2143289344 else 9221120237041090560
def emaxN (s : Int) : Nat := if s = 4 then 255 else 2047
def mkN (s : Int) (a : Nat) : Nat := if s = 4 then a % 4294967296 else a
def sgN (s : Int) (a : Nat) : Bool := decide (mkN s a / topN s = 1)
def exf (s : Int) (a : Nat) : Nat := mkN s a / oneN s % (emaxN s + 1)
def frf (s : Int) (a : Nat) : Nat := mkN s a % oneN s
def nanN (s : Int) (a : Nat) : Bool := decide (exf s a = emaxN s ∧ frf s a ≠ 0)
def loudN (s : Int) (a : Nat) : Bool := decide (exf s a = emaxN s ∧ frf s a ≠ 0 ∧ frf s a < oneN s / 2)
def infN (s : Int) (a : Nat) : Bool := decide (exf s a = emaxN s ∧ frf s a = 0)
def zerN (s : Int) (a : Nat) : Bool := decide (exf s a = 0 ∧ frf s a = 0)
def fM (s : Int) (a : Nat) : Nat := if 0 < exf s a then frf s a + oneN s else frf s a
def fE (s : Int) (a : Nat) : Int := (if 0 < exf s a then (exf s a : Int) else 1) - biN s - frN s
def sgB (s : Int) (b : Bool) : Nat := if b then topN s else 0

theorem land_low {x n : Nat} (hx : x < 18446744073709551616) (hn : n ≤ 64) : iland .u64 (x : Int) ((2 ^ n - 1 : Nat) : Int) = ((x % 2 ^ n : Nat) : Int) := by
  have h1 := Nat.two_pow_pos n
  have h2 : 2 ^ n ≤ 2 ^ 64 := Nat.pow_le_pow_right (by decide) hn
  rw [land_nn hx (by omega), Nat.and_two_pow_sub_one_eq_mod]

section
variable {s : Int} (hs : s = 4 ∨ s = 8) {a : Nat} (ha : a < 18446744073709551616)
include hs
theorem mk_lt (ha : a < 18446744073709551616) : mkN s a < 2 * topN s := by
  rcases hs with rfl | rfl
  · show a % 4294967296 < 2 * 2147483648; omega
  · show a < 2 * 9223372036854775808; omega
include ha
theorem mask_ok : r42_0 s (a : Int) = (mkN s a : Int) := by
  rcases hs with rfl | rfl
  · simp only [r42_0]
    exact land_low (n := 32) ha (by decide)
  · rfl
theorem parts_ok : p90 s = true ∧ r90_0 s (a : Int) = sgN s a ∧ r90_1 s (a : Int) = (exf s a : Int) ∧ r90_2 s (a : Int) = (frf s a : Int) := by
  have hm := mask_ok hs ha
  have hl := mk_lt hs ha
  rcases hs with rfl | rfl
  · have hv : mkN 4 a < 4294967296 := hl
    have k0 : IntKind.wrap .i64 (r89_0 4 + r89_1 4) = ((31 : Nat) : Int) := by decide
    have k1 : r89_0 4 = ((23 : Nat) : Int) := rfl
    have k2 : IntKind.wrap .u64 (ishl .u64 1 (r89_1 4) - 1) = ((2 ^ 8 - 1 : Nat) : Int) := by decide
    have k3 : IntKind.wrap .u64 (ishl .u64 1 ((23 : Nat) : Int) - 1) = ((2 ^ 23 - 1 : Nat) : Int) := by decide
    unfold sgN exf frf
    rw [show topN 4 = 2 ^ 31 from by decide, show oneN 4 = 2 ^ 23 from by decide, show emaxN 4 + 1 = 2 ^ 8 from by decide]
    generalize mkN 4 a = v at *
    refine ⟨by decide, ?_, ?_, ?_⟩
    · simp only [r90_0, hm, k0]
      rw [shr_nat (by omega), Bool.eq_iff_iff]
      simp only [beq_iff_eq, dec]
      exact ⟨fun h => Int.ofNat.inj h, fun h => congrArg Int.ofNat h⟩
    · simp only [r90_1, hm, k1, k2]
      have h1 : v / 2 ^ 23 < 18446744073709551616 := Nat.lt_of_le_of_lt (Nat.div_le_self _ _) (by omega)
      have h2 : v / 2 ^ 23 % 2 ^ 8 < 2 ^ 8 := Nat.mod_lt _ (by decide)
      rw [shr_nat (by omega), land_low h1 (by decide), wri (Nat.lt_trans h2 (by decide))]
    · simp only [r90_2, hm, k1, k3]
      rw [land_low (by omega) (by decide)]
  · have hv : mkN 8 a < 18446744073709551616 := hl
    have k0 : IntKind.wrap .i64 (r89_0 8 + r89_1 8) = ((63 : Nat) : Int) := by decide
    have k1 : r89_0 8 = ((52 : Nat) : Int) := rfl
    have k2 : IntKind.wrap .u64 (ishl .u64 1 (r89_1 8) - 1) = ((2 ^ 11 - 1 : Nat) : Int) := by decide
    have k3 : IntKind.wrap .u64 (ishl .u64 1 ((52 : Nat) : Int) - 1) = ((2 ^ 52 - 1 : Nat) : Int) := by decide
    unfold sgN exf frf
    rw [show topN 8 = 2 ^ 63 from by decide, show oneN 8 = 2 ^ 52 from by decide, show emaxN 8 + 1 = 2 ^ 11 from by decide]
    generalize mkN 8 a = v at *
    refine ⟨by decide, ?_, ?_, ?_⟩
    · simp only [r90_0, hm, k0]
      rw [shr_nat (by omega), Bool.eq_iff_iff]
      simp only [beq_iff_eq, dec]
      exact ⟨fun h => Int.ofNat.inj h, fun h => congrArg Int.ofNat h⟩
    · simp only [r90_1, hm, k1, k2]
      have h1 : v / 2 ^ 52 < 18446744073709551616 := Nat.lt_of_le_of_lt (Nat.div_le_self _ _) (by omega)
      have h2 : v / 2 ^ 52 % 2 ^ 11 < 2 ^ 11 := Nat.mod_lt _ (by decide)
      rw [shr_nat (by omega), land_low h1 (by decide), wri (Nat.lt_trans h2 (by decide))]
    · simp only [r90_2, hm, k1, k3]
      rw [land_low (by omega) (by decide)]
theorem ex_le : exf s a ≤ emaxN s := by have _ := hs; have _ := ha; unfold exf; have := Nat.mod_lt (mkN s a / oneN s) (show 0 < emaxN s + 1 by omega); omega
theorem fr_lt : frf s a < oneN s := by
  have _ := ha
  unfold frf
  exact Nat.mod_lt _ (by rcases hs with rfl | rfl <;> decide)
theorem nan_ok : p39 s = true ∧ r39_0 s (a : Int) = nanN s a := by
  obtain ⟨h0, _, h2, h3⟩ := parts_ok hs ha
  constructor
  · rcases hs with rfl | rfl <;> decide
  · simp only [r39_0, h2, h3]
    have : IntKind.wrap .i64 (ishl .i64 1 (r89_1 s) - 1) = (emaxN s : Int) := by rcases hs with rfl | rfl <;> decide
    rw [this, Bool.eq_iff_iff]
    unfold nanN
    simp only [Bool.and_eq_true, beq_iff_eq, bne_iff_ne, dec]
    omega
theorem loud_ok : p41 s (a : Int) = true ∧ r41_0 s (a : Int) = loudN s a := by
  obtain ⟨h0, _, h2, h3⟩ := parts_ok hs ha
  obtain ⟨h4, h5⟩ := nan_ok hs ha
  constructor
  · simp only [p41, h0, h4]
    have : decide (IntKind.wrap .i64 (r89_0 s - 1) ≥ 0) = true := by rcases hs with rfl | rfl <;> decide
    rw [this]; simp [ow_t]
  · simp only [r41_0, h5, h3]
    have h6 := fr_lt hs ha
    have e : IntKind.wrap .i64 (r89_0 s - 1) = ((frN s - 1 : Nat) : Int) := by rcases hs with rfl | rfl <;> decide
    have ho : oneN s ≤ 4503599627370496 := by rcases hs with rfl | rfl <;> decide
    rw [e, shr_nat (by omega), Bool.eq_iff_iff]
    unfold nanN loudN
    simp only [Bool.and_eq_true, beq_iff_eq, dec]
    have : 2 ^ (frN s - 1) = oneN s / 2 := by rcases hs with rfl | rfl <;> decide
    rw [this, and_assoc]
    have h7 : ((frf s a / (oneN s / 2) : Nat) : Int) = 0 ↔ frf s a < oneN s / 2 := by
      have : 0 < oneN s / 2 := by rcases hs with rfl | rfl <;> decide
      rw [show (((frf s a / (oneN s / 2) : Nat) : Int) = 0) = (frf s a / (oneN s / 2) = 0) from by rw [eq_iff_iff]; omega, Nat.div_eq_zero_iff]
      omega
    rw [h7]
theorem inf_ok : p56 s = true ∧ r56_0 s (a : Int) = infN s a := by
  obtain ⟨h0, _, h2, h3⟩ := parts_ok hs ha
  constructor
  · rcases hs with rfl | rfl <;> decide
  · simp only [r56_0, h2, h3]
    have : IntKind.wrap .i64 (ishl .i64 1 (r89_1 s) - 1) = (emaxN s : Int) := by rcases hs with rfl | rfl <;> decide
    rw [this, Bool.eq_iff_iff]
    unfold infN
    simp only [Bool.and_eq_true, beq_iff_eq, dec]
    omega
theorem zero_ok : p61 s = true ∧ r61_0 s (a : Int) = zerN s a := by
  obtain ⟨h0, _, h2, h3⟩ := parts_ok hs ha
  constructor
  · simp only [p61, h0]; rfl
  · simp only [r61_0, h2, h3]
    rw [Bool.eq_iff_iff]
    unfold zerN
    simp only [Bool.and_eq_true, beq_iff_eq, dec]
    omega
omit ha
include ha
theorem fM_lt : fM s a < 2 * oneN s := by
  have := fr_lt hs ha
  unfold fM; split <;> omega
end
end Go.Proofs.Ytacciadcmiiimaa

namespace Go.Proofs.Ytacciadcmiiimaa
open Go Go.Sx Go.Rnd
set_option maxRecDepth 100000
set_option maxHeartbeats 1000000

theorem ib1 (k : Nat) : (((k : Nat) : Int) == 1) = (k == 1) := by
  rw [Bool.eq_iff_iff]
  simp only [beq_iff_eq]
  exact ⟨fun h => Int.ofNat.inj h, fun h => congrArg Int.ofNat h⟩
theorem cutN_le {rm : Int} {minus : Bool} {M : Nat} {b : Int} {more : Bool} {k : Nat} (h : (blen M : Int) - b ≤ k) : (cutN rm minus M b more).1 ≤ 2 ^ k := by
  have hM := blen_self (n := M)
  unfold cutN
  by_cases hb : b ≤ 0
  · rw [if_pos hb]
    show M * 2 ^ (-b).toNat ≤ 2 ^ k
    have h1 : M * 2 ^ (-b).toNat ≤ 2 ^ blen M * 2 ^ (-b).toNat := Nat.mul_le_mul_right _ (Nat.le_of_lt hM)
    rw [← Nat.pow_add] at h1
    exact Nat.le_trans h1 (Nat.pow_le_pow_right (by decide) (by omega))
  · rw [if_neg hb]
    unfold cutP
    have h1 : M / 2 ^ b.toNat < 2 ^ k := by
      rw [Nat.div_lt_iff_lt_mul (Nat.two_pow_pos _), ← Nat.pow_add]
      exact Nat.lt_of_lt_of_le hM (Nat.pow_le_pow_right (by decide) (by omega))
    show M / 2 ^ b.toNat + _ ≤ 2 ^ k
    split <;> omega
theorem blen_of_le {n k : Nat} (h : n ≤ 2 ^ k) : blen n ≤ k + 1 := blen_le.2 (Nat.lt_of_le_of_lt h (by rw [Nat.pow_succ]; have := Nat.two_pow_pos k; omega))

section
variable {rm : Int} {minus : Bool} {M : Nat} {b : Int} {more : Bool} (hM : blen M ≤ 1000000) (hb : -1000000 ≤ b) (hb2 : b ≤ 1000000)
include hM hb hb2
end

section
variable {s : Int} (hs : s = 4 ∨ s = 8) {rm : Int} {minus : Bool} {M : Nat} {E : Int} {more : Bool} (hM : blen M ≤ 100000) (hE : -100000 ≤ E) (hE2 : E ≤ 100000)
include hs
theorem size_facts : frN s ≤ 52 ∧ 23 ≤ frN s ∧ biN s ≤ 1023 ∧ 127 ≤ biN s ∧ 2 ^ frN s = oneN s ∧ infB s = (2 * biN s + 1) * oneN s ∧ topN s = (2 * biN s + 2) * oneN s ∧ oneN s ≤ 4503599627370496 ∧ 8388608 ≤ oneN s ∧ topN s ≤ 9223372036854775808 := by
  rcases hs with rfl | rfl <;> decide
include hM hE hE2
end
end Go.Proofs.Ytacciadcmiiimaa

namespace Go.Proofs.Ytacciadcmiiimaa
open Go Go.Sx Go.Rnd
set_option maxRecDepth 100000
set_option maxHeartbeats 1000000

def tabL : List Int := [0, 1, 2, 2, 3, 3, 3, 3, 4, 4, 4, 4, 4, 4, 4, 4, 5, 5, 5, 5, 5, 5, 5, 5, 5, 5, 5, 5, 5, 5, 5, 5, 6, 6, 6, 6, 6, 6, 6, 6, 6, 6, 6, 6, 6, 6, 6, 6, 6, 6, 6, 6, 6, 6, 6, 6, 6, 6, 6, 6, 6, 6, 6, 6, 7, 7, 7, 7, 7, 7, 7, 7, 7, 7, 7, 7, 7, 7, 7, 7, 7, 7, 7, 7, 7, 7, 7, 7, 7, 7, 7, 7, 7, 7, 7, 7, 7, 7, 7, 7, 7, 7, 7, 7, 7, 7, 7, 7, 7, 7, 7, 7, 7, 7, 7, 7, 7, 7, 7, 7, 7, 7, 7, 7, 7, 7, 7, 7, 8, 8, 8, 8, 8, 8, 8, 8, 8, 8, 8, 8, 8, 8, 8, 8, 8, 8, 8, 8, 8, 8, 8, 8, 8, 8, 8, 8, 8, 8, 8, 8, 8, 8, 8, 8, 8, 8, 8, 8, 8, 8, 8, 8, 8, 8, 8, 8, 8, 8, 8, 8, 8, 8, 8, 8, 8, 8, 8, 8, 8, 8, 8, 8, 8, 8, 8, 8, 8, 8, 8, 8, 8, 8, 8, 8, 8, 8, 8, 8, 8, 8, 8, 8, 8, 8, 8, 8, 8, 8, 8, 8, 8, 8, 8, 8, 8, 8, 8, 8, 8, 8, 8, 8, 8, 8, 8, 8, 8, 8, 8, 8, 8, 8, 8, 8, 8, 8, 8, 8, 8, 8, 8, 8, 8, 8, 8, 8]
def lenFin (y acc : Int) : Int := IntKind.wrap .i64 (acc + IntKind.wrap .i64 (tabL.getD (Int.toNat (IntKind.wrap .u8 y)) 0))
theorem r69_eq (x : Int) : r69_0 x = lenFin (bif decide ((bif decide ((bif decide (x ≥ 4294967296) then ishr .u64 x 32 else x) ≥ 65536) then ishr .u64 (bif decide (x ≥ 4294967296) then ishr .u64 x 32 else x) 16 else (bif decide (x ≥ 4294967296) then ishr .u64 x 32 else x)) ≥ 256) then ishr .u64 (bif decide ((bif decide (x ≥ 4294967296) then ishr .u64 x 32 else x) ≥ 65536) then ishr .u64 (bif decide (x ≥ 4294967296) then ishr .u64 x 32 else x) 16 else (bif decide (x ≥ 4294967296) then ishr .u64 x 32 else x)) 8 else (bif decide ((bif decide (x ≥ 4294967296) then ishr .u64 x 32 else x) ≥ 65536) then ishr .u64 (bif decide (x ≥ 4294967296) then ishr .u64 x 32 else x) 16 else (bif decide (x ≥ 4294967296) then ishr .u64 x 32 else x)))
    (bif decide ((bif decide ((bif decide (x ≥ 4294967296) then ishr .u64 x 32 else x) ≥ 65536) then ishr .u64 (bif decide (x ≥ 4294967296) then ishr .u64 x 32 else x) 16 else (bif decide (x ≥ 4294967296) then ishr .u64 x 32 else x)) ≥ 256) then IntKind.wrap .i64 ((bif decide ((bif decide (x ≥ 4294967296) then ishr .u64 x 32 else x) ≥ 65536) then IntKind.wrap .i64 ((bif decide (x ≥ 4294967296) then 32 else 0) + 16) else (bif decide (x ≥ 4294967296) then 32 else 0)) + 8) else (bif decide ((bif decide (x ≥ 4294967296) then ishr .u64 x 32 else x) ≥ 65536) then IntKind.wrap .i64 ((bif decide (x ≥ 4294967296) then 32 else 0) + 16) else (bif decide (x ≥ 4294967296) then 32 else 0))) := rfl

theorem tabL_at : ∀ n : Fin 256, (n.val == 0) || ((List.range 8).any fun j => tabL.getD n.val 0 == (j : Int) + 1 && decide (2 ^ j ≤ n.val) && decide (n.val < 2 * 2 ^ j)) = true := by decide +kernel
theorem lenFin_ok {y : Int} (h0 : 0 < y) (h1 : y < 256) {acc : Int} (ha : 0 ≤ acc) (hb : acc ≤ 56) : ∃ j : Nat, j < 8 ∧ lenFin y acc = acc + j + 1 ∧ ((2 ^ j : Nat) : Int) ≤ y ∧ y < 2 * ((2 ^ j : Nat) : Int) := by
  obtain ⟨n, rfl⟩ := int_nat (a := y) (by omega)
  have := tabL_at ⟨n, by omega⟩
  simp only [Bool.or_eq_true, beq_iff_eq, List.any_eq_true, List.mem_range, Bool.and_eq_true, decide_eq_true_eq] at this
  rcases this with h | ⟨j, hj, ⟨h2, h3⟩, h4⟩
  · omega
  · refine ⟨j, hj, ?_, by exact_mod_cast h3, by exact_mod_cast h4⟩
    unfold lenFin
    rw [show IntKind.wrap .u8 (n : Int) = (n : Int) from by rw [wrap_u8]; omega, Int.toNat_natCast, h2, wrap_i64_of (n := (j : Int) + 1) (by omega) (by omega), wrap_i64_of (by omega) (by omega)]
    omega
theorem shr_32 (x : Int) : ishr .u64 x 32 = x / 4294967296 := shr_of 32 (by decide) (by decide)
theorem shr16 (x : Int) : ishr .u64 x 16 = x / 65536 := shr_of 16 (by decide) (by decide)
theorem shr8 (x : Int) : ishr .u64 x 8 = x / 256 := shr_of 8 (by decide) (by decide)
theorem len_fin {x y : Int} {acc : Nat} (hx : y = x / ((2 ^ acc : Nat) : Int)) (h0 : 0 < y) (h1 : y < 256) (hb : acc ≤ 56) : ∃ k : Nat, k < 64 ∧ lenFin y acc = (k : Int) + 1 ∧ ((2 ^ k : Nat) : Int) ≤ x ∧ x < 2 * ((2 ^ k : Nat) : Int) := by
  obtain ⟨j, hj, e, h2, h3⟩ := lenFin_ok h0 h1 (acc := acc) (by omega) (by omega)
  have hp : 0 < 2 ^ acc := Nat.two_pow_pos acc
  refine ⟨acc + j, by omega, by rw [e]; omega, ?_, ?_⟩
  · rw [Nat.pow_add, Nat.mul_comm, Int.natCast_mul]
    rw [hx] at h2
    exact (Int.le_ediv_iff_mul_le (by omega)).1 h2
  · rw [Nat.pow_add, Int.natCast_mul]
    rw [hx] at h3
    have := (Int.ediv_lt_iff_lt_mul (by omega)).1 h3
    rw [Int.mul_comm ((2 ^ acc : Nat) : Int), ← Int.mul_assoc]
    exact this
theorem bitlen_ok {x : Int} (h0 : 0 < x) (h1 : x < 18446744073709551616) : ∃ k : Nat, k < 64 ∧ r69_0 x = (k : Int) + 1 ∧ ((2 ^ k : Nat) : Int) ≤ x ∧ x < 2 * ((2 ^ k : Nat) : Int) := by
  rw [r69_eq]
  simp only [shr_32, shr16, shr8]
  by_cases a : x ≥ 4294967296 <;> simp only [a, decide_true, decide_false, cond_true, cond_false]
  · by_cases b : x / 4294967296 ≥ 65536 <;> simp only [b, decide_true, decide_false, cond_true, cond_false]
    · by_cases c : x / 4294967296 / 65536 ≥ 256 <;> simp only [c, decide_true, decide_false, cond_true, cond_false]
      · exact len_fin (acc := 56) (by simp only [Nat.reducePow]; omega) (by omega) (by omega) (by decide)
      · exact len_fin (acc := 48) (by simp only [Nat.reducePow]; omega) (by omega) (by omega) (by decide)
    · by_cases c : x / 4294967296 ≥ 256 <;> simp only [c, decide_true, decide_false, cond_true, cond_false]
      · exact len_fin (acc := 40) (by simp only [Nat.reducePow]; omega) (by omega) (by omega) (by decide)
      · exact len_fin (acc := 32) (by simp only [Nat.reducePow]; omega) (by omega) (by omega) (by decide)
  · by_cases b : x ≥ 65536 <;> simp only [b, decide_true, decide_false, cond_true, cond_false]
    · by_cases c : x / 65536 ≥ 256 <;> simp only [c, decide_true, decide_false, cond_true, cond_false]
      · exact len_fin (acc := 24) (by simp only [Nat.reducePow]; omega) (by omega) (by omega) (by decide)
      · exact len_fin (acc := 16) (by simp only [Nat.reducePow]; omega) (by omega) (by omega) (by decide)
    · by_cases c : x ≥ 256 <;> simp only [c, decide_true, decide_false, cond_true, cond_false]
      · exact len_fin (acc := 8) (by simp only [Nat.reducePow]; omega) (by omega) (by omega) (by decide)
      · exact len_fin (acc := 0) (by simp only [Nat.reducePow]; omega) (by omega) (by omega) (by decide)

theorem blen64 {x : Nat} (hx : x < 18446744073709551616) : r69_0 (x : Int) = (blen x : Int) := by
  rcases Nat.eq_zero_or_pos x with h | h
  · subst h; decide +kernel
  · obtain ⟨k, hk, e, h2, h3⟩ := bitlen_ok (x := (x : Int)) (by omega) (by omega)
    rw [e, blen_eq (k := k) (by omega) (by rw [Nat.pow_succ]; omega)]; rfl
theorem lz64 {x : Nat} (hx : x < 18446744073709551616) : r115_0 (x : Int) = ((64 - blen x : Nat) : Int) := by
  have h := blen64 hx
  have h2 : blen x ≤ 64 := blen_le.2 hx
  show IntKind.wrap .i64 (64 - r69_0 (x : Int)) = _
  rw [h, wrap_i64_of (by omega) (by omega)]; omega
theorem p69_ok (x : Int) : p69 x = true := by
  have a : ∀ y : Int, decide (IntKind.wrap .u8 y ≥ 0) = true := fun y => decide_eq_true (by rw [wrap_u8]; omega)
  have b : ∀ y : Int, decide (IntKind.wrap .u8 y < 256) = true := fun y => decide_eq_true (by rw [wrap_u8]; omega)
  simp only [p69, a, b, ow_t, List.all_cons, List.all_nil, id, Bool.and_true]
theorem p115_ok (x : Int) : p115 x = true := by simp only [p115, p69_ok, ow_t, List.all_cons, List.all_nil, id, Bool.and_true]

noncomputable def dropOf (f b e : Int) : Int := bif decide (IntKind.wrap .i64 (e + IntKind.wrap .i64 (63 - f)) < IntKind.wrap .i64 (IntKind.wrap .i64 (1 - b) - f)) then IntKind.wrap .i64 (IntKind.wrap .i64 (IntKind.wrap .i64 (1 - b) - f) - e) else IntKind.wrap .i64 (63 - f)
noncomputable def core0 (f b top rm : Int) (minus : Bool) (e q : Int) : Int :=
  let x20 := IntKind.wrap .i64 (IntKind.wrap .i64 (1 - b) - f)
  let x34 := dropOf f b e
  let x44 := q == ishl .u64 2 f
  let x47 := bif x44 then IntKind.wrap .i64 (x34 + 1) else x34
  let x48 := bif x44 then ishr .u64 q 1 else q
  let x56 := IntKind.wrap .i64 (IntKind.wrap .i64 (IntKind.wrap .i64 (e + x47) - x20) + 1)
  let x66 := ((rm == 1) || ((rm == 2) && !minus)) || ((rm == 3) && minus)
  bif !(decide (x48 < ishl .u64 1 f)) then
    (bif !(decide (x56 > IntKind.wrap .i64 (2 * b))) then r95_0 top minus (ilor .u64 (ishl .u64 (IntKind.wrap .u64 x56) f) (ilandNot .u64 x48 (ishl .u64 1 f)))
     else bif !x66 then r95_0 top minus (r96_0 f b) else r95_0 top minus (IntKind.wrap .u64 (r96_0 f b - 1)))
  else r95_0 top minus x48
noncomputable def core1 (f b e q24 q : Int) (ex : Bool) : Int :=
  let x20 := IntKind.wrap .i64 (IntKind.wrap .i64 (1 - b) - f)
  let x18 := IntKind.wrap .i64 (63 - f)
  let x22 := decide (IntKind.wrap .i64 (e + x18) < x20)
  let x32 := decide (IntKind.wrap .i64 (e + x18) < IntKind.wrap .i64 (x20 - 1)) || decide (q24 < ishl .u64 2 f)
  let x34 := dropOf f b e
  let x40 : Int := bif x22 && x32 then 3 else 1
  let x41 := bif !ex then x40 else 0
  let x44 := q == ishl .u64 2 f
  let x47 := bif x44 then IntKind.wrap .i64 (x34 + 1) else x34
  let x48 := bif x44 then ishr .u64 q 1 else q
  let x56 := IntKind.wrap .i64 (IntKind.wrap .i64 (IntKind.wrap .i64 (e + x47) - x20) + 1)
  bif !(decide (x48 < ishl .u64 1 f)) then (bif !(decide (x56 > IntKind.wrap .i64 (2 * b))) then x41 else 5) else x41

section
variable {s : Int} (hs : s = 4 ∨ s = 8)
include hs
theorem signed_ok (minus : Bool) {x : Nat} (hx : x < topN s) : r95_0 (topN s : Int) minus (x : Int) = ((sgB s minus + x : Nat) : Int) := by
  have htp : topN s = 2 ^ (if s = 4 then 31 else 63) := by rcases hs with rfl | rfl <;> decide
  obtain ⟨_, _, _, _, _, _, _, _, _, f10⟩ := size_facts hs
  simp only [r95_0]
  unfold sgB
  cases minus
  · simp
  · simp only [Bool.not_true, cond_false, if_true]
    rw [lor_nn (by omega) (by omega)]
    have : topN s = 1 * 2 ^ (if s = 4 then 31 else 63) := by rw [Nat.one_mul]; exact htp
    rw [this, or_high (by rw [← htp]; exact hx)]
    congr 1; omega
theorem inf96 : r96_0 (frN s : Int) (biN s : Int) = (infB s : Int) := by rcases hs with rfl | rfl <;> decide
theorem dropOf_ok {e : Int} (h1 : -100000 ≤ e) (h2 : e ≤ 100000) : dropOf (frN s) (biN s) e = lastOf (frN s) (biN s) (64 + e) - e ∧ 63 - frN s ≤ lastOf (frN s) (biN s) (64 + e) - e := by
  obtain ⟨f1, f2, f3, f4, _⟩ := size_facts hs
  have e1 : IntKind.wrap .i64 (63 - (frN s : Int)) = 63 - frN s := wrap_i64_of (by omega) (by omega)
  have e2 : IntKind.wrap .i64 (IntKind.wrap .i64 (1 - (biN s : Int)) - frN s) = least (frN s) (biN s) := by
    unfold least
    rw [wrap_i64_of (n := 1 - (biN s : Int)) (by omega) (by omega), wrap_i64_of (by omega) (by omega)]
  have hL : least (frN s) (biN s) = 1 - biN s - frN s := rfl
  unfold dropOf lastOf
  rw [e1, e2, wrap_i64_of (n := e + (63 - (frN s : Int))) (by omega) (by omega), wrap_i64_of (n := least (frN s) (biN s) - e) (by omega) (by omega)]
  by_cases h : 64 + e - frN s - 1 < least (frN s) (biN s)
  · rw [if_pos h, decide_eq_true (by omega)]
    exact ⟨rfl, by omega⟩
  · rw [if_neg h, decide_eq_false (by omega)]
    show 63 - (frN s : Int) = _ ∧ _
    omega
theorem core_ok {rm : Int} {minus : Bool} {m : Nat} {e : Int} (hm0 : 9223372036854775808 ≤ m) (hm : m < 18446744073709551616) (h1 : -100000 ≤ e) (h2 : e ≤ 100000) :
    core0 (frN s) (biN s) (topN s) rm minus e ((cutN rm minus m (dropOf (frN s) (biN s) e) false).1 : Int) = ((sgB s minus + (rnd (frN s) (biN s) rm minus m e false).1 : Nat) : Int) ∧
    core1 (frN s) (biN s) e ((cutN rm minus m (63 - frN s : Int) false).1 : Int) ((cutN rm minus m (dropOf (frN s) (biN s) e) false).1 : Int) (cutN rm minus m (dropOf (frN s) (biN s) e) false).2 = ((rnd (frN s) (biN s) rm minus m e false).2 : Int) := by
  obtain ⟨f1, f2, f3, f4, f5, f6, f7, f8, f9, f10⟩ := size_facts hs
  obtain ⟨d1, d2⟩ := dropOf_ok hs h1 h2
  have hbl : blen m = 64 := blen_eq (k := 63) hm0 hm
  have hsg : ∀ x : Nat, x < topN s → r95_0 (topN s : Int) minus (x : Int) = ((sgB s minus + x : Nat) : Int) := fun x hx => signed_ok hs minus hx
  have hin := inf96 hs
  have k1 : ishl .u64 1 (frN s : Int) = (oneN s : Int) := by rcases hs with rfl | rfl <;> decide
  have k2 : ishl .u64 2 (frN s : Int) = ((2 * oneN s : Nat) : Int) := by rcases hs with rfl | rfl <;> decide
  have kx : ∀ x : Nat, x * oneN s < 18446744073709551616 → ishl .u64 (x : Int) (frN s : Int) = ((x * oneN s : Nat) : Int) := fun x hx => by rw [shl_lt (by rw [f5]; exact hx), f5]
  have e1 : IntKind.wrap .i64 (63 - (frN s : Int)) = 63 - frN s := wrap_i64_of (by omega) (by omega)
  have e2 : IntKind.wrap .i64 (IntKind.wrap .i64 (1 - (biN s : Int)) - frN s) = least (frN s) (biN s) := by
    unfold least
    rw [wrap_i64_of (n := 1 - (biN s : Int)) (by omega) (by omega), wrap_i64_of (by omega) (by omega)]
  have e3 : IntKind.wrap .i64 (2 * (biN s : Int)) = 2 * biN s := wrap_i64_of (by omega) (by omega)
  have kn : ∀ q : Nat, oneN s ≤ q → q < 2 * oneN s → ilandNot .u64 (q : Int) (oneN s : Int) = ((q - oneN s : Nat) : Int) := fun q h1 h2 => by
    have := landNot_bit (a := (q : Int)) (m := (oneN s : Int)) (by omega) (by omega) (frN s) (by omega) (by rw [f5])
    rw [this]
    have : (q : Int) / oneN s = 1 := by
      have : q / oneN s = 1 := Nat.div_eq_of_lt_le (by omega) (by omega)
      omega
    rw [this]; omega
  rw [d1]
  unfold rnd
  rw [hbl]
  have hC : (cutN rm minus m (lastOf (frN s) (biN s) (64 + e) - e) false).1 ≤ 2 ^ (frN s + 1) := cutN_le (by rw [hbl]; omega)
  have hT : (cutN rm minus m (63 - frN s : Int) false).1 ≤ 2 ^ (frN s + 1) := cutN_le (by rw [hbl]; omega)
  have hT0 : 2 ^ frN s ≤ (cutN rm minus m (63 - frN s : Int) false).1 := by
    unfold cutN cutP
    rw [if_neg (by omega)]
    show 2 ^ frN s ≤ m / 2 ^ (63 - (frN s : Int)).toNat + _
    have : 2 ^ frN s ≤ m / 2 ^ (63 - (frN s : Int)).toNat := by
      rw [Nat.le_div_iff_mul_le (Nat.two_pow_pos _), ← Nat.pow_add, show frN s + (63 - (frN s : Int)).toNat = 63 by omega]
      exact hm0
    omega
  have et : ((64 : Nat) : Int) + e - frN s - 1 - e = 63 - frN s := by omega
  rw [et]
  have hlast : least (frN s) (biN s) ≤ lastOf (frN s) (biN s) (64 + e) ∧ lastOf (frN s) (biN s) (64 + e) ≤ 200000 := by
    have hL : least (frN s) (biN s) = 1 - biN s - frN s := rfl
    unfold lastOf; split <;> omega
  have h64 : ((64 : Nat) : Int) + e = 64 + e := rfl
  rw [h64]
  have hL : least (frN s) (biN s) = 1 - biN s - frN s := rfl
  unfold core0 core1
  dsimp only
  rw [d1]
  generalize cutN rm minus m (63 - frN s : Int) false = T at *
  generalize lastOf (frN s) (biN s) (64 + e) = last at *
  generalize cutN rm minus m (last - e) false = C at *
  obtain ⟨T1, T2⟩ := T
  obtain ⟨C1, C2⟩ := C
  dsimp only at *
  generalize hf : frN s = f at *
  generalize hbb : biN s = b at *
  generalize least f b = lst at *
  have hp1 : 2 ^ (f + 1) = 2 * oneN s := by rw [Nat.pow_succ, f5]; omega
  rw [hp1] at hC hT
  rw [f5] at hT0
  have b1 : ∀ n : Nat, n ≤ 2 * oneN s → (blen n > f + 1 ↔ n = 2 * oneN s) := fun n hn => by
    have := lt_blen (n := n) (k := f + 1)
    rw [hp1] at this
    omega
  have b2 : ∀ n : Nat, n < 2 * oneN s → (blen n = f + 1 ↔ oneN s ≤ n) := fun n hn => by
    have h1 := lt_blen (n := n) (k := f)
    have h2 := blen_le (n := n) (k := f + 1)
    rw [hp1] at h2
    rw [f5] at h1
    omega
  have q1 : ((C1 : Int) == ((2 * oneN s : Nat) : Int)) = decide (blen C1 > f + 1) := by
    rw [Bool.eq_iff_iff]; simp only [beq_iff_eq, dec]; have := b1 C1 hC; omega
  have q2 : (bif decide (blen C1 > f + 1) then ishr .u64 (C1 : Int) 1 else (C1 : Int)) = ((if blen C1 > f + 1 then C1 / 2 else C1 : Nat) : Int) := by
    by_cases h : blen C1 > f + 1
    · rw [if_pos h, decide_eq_true h, cond_true]
      have := shr_nat (x := C1) (by omega) 1
      rw [Nat.pow_one] at this; exact this
    · rw [if_neg h, decide_eq_false h]; rfl
  have q3 : (bif decide (blen C1 > f + 1) then IntKind.wrap .i64 (last - e + 1) else last - e) = (if blen C1 > f + 1 then last + 1 else last) - e := by
    by_cases h : blen C1 > f + 1
    · rw [if_pos h, decide_eq_true h, cond_true, wrap_i64_of (by omega) (by omega)]; omega
    · rw [if_neg h, decide_eq_false h]; rfl
  have hm' : (if blen C1 > f + 1 then C1 / 2 else C1) < 2 * oneN s := by
    split
    · omega
    · rename_i h; have := (b1 C1 hC); omega
  have hla : (if blen C1 > f + 1 then last + 1 else last) ≥ lst ∧ (if blen C1 > f + 1 then last + 1 else last) ≤ last + 1 := by split <;> omega
  have hll : least f b = lst := by rw [hL]; rfl
  unfold told
  dsimp only
  rw [k1, k2, q1, q2, q3, e1, e2, e3, hll]
  generalize (if blen C1 > f + 1 then C1 / 2 else C1) = q at *
  generalize (if blen C1 > f + 1 then last + 1 else last) = la at *
  have q4 : IntKind.wrap .i64 (IntKind.wrap .i64 (IntKind.wrap .i64 (e + (la - e)) - lst) + 1) = la - lst + 1 := by
    rw [wrap_i64_of (n := e + (la - e)) (by omega) (by omega), wrap_i64_of (n := e + (la - e) - lst) (by omega) (by omega), wrap_i64_of (by omega) (by omega)]; omega
  rw [q4]
  have q5 : (!decide ((q : Int) < (oneN s : Int))) = decide (blen q = f + 1) := by
    rw [Bool.eq_iff_iff]; simp only [Bool.not_eq_true', decide_eq_false_iff_not, dec]; have := b2 q hm'; omega
  have q6 : (!decide (la - lst + 1 > 2 * (b : Int))) = decide (¬ la + f > b) := by
    rw [Bool.eq_iff_iff]; simp only [Bool.not_eq_true', decide_eq_false_iff_not, dec]; omega
  have q7 : (((rm == 1) || ((rm == 2) && !minus)) || ((rm == 3) && minus)) = decide (rm = 1 ∨ (rm = 2 ∧ minus = false) ∨ (rm = 3 ∧ minus = true)) := by
    rw [Bool.eq_iff_iff]; simp only [Bool.or_eq_true, Bool.and_eq_true, beq_iff_eq, dec, Bool.not_eq_true']
    exact or_assoc
  rw [q5, q6, q7]
  have h6 : (2 * b + 2) * oneN s = 2 * b * oneN s + 2 * oneN s := Nat.add_mul _ _ _
  have h7 : (2 * b + 1) * oneN s = 2 * b * oneN s + oneN s := by rw [Nat.add_mul, Nat.one_mul]
  have hpos : 0 < 2 * b * oneN s := Nat.mul_pos (by omega) (by omega)
  constructor
  · by_cases hn : blen q = f + 1
    · have hq := (b2 q hm').1 hn
      rw [decide_eq_true hn, cond_true]
      by_cases ho : la + f > b
      · rw [decide_eq_false (fun h => h ho), cond_false, if_pos ⟨ho, hn⟩, hin, f5]
        by_cases hr : rm = 1 ∨ (rm = 2 ∧ minus = false) ∨ (rm = 3 ∧ minus = true)
        · rw [decide_eq_true hr, if_pos hr]
          simp only [Bool.not_true, cond_false]
          rw [show (infB s : Int) - 1 = ((infB s - 1 : Nat) : Int) by omega, wr64 (by omega), hsg _ (by omega), f6]
        · rw [decide_eq_false hr, if_neg hr]
          simp only [Bool.not_false, cond_true]
          rw [hsg _ (by omega), f6]; rfl
      · have h4 : (la - lst + 1).toNat ≤ 2 * b := by omega
        have h5 : (la - lst + 1).toNat * oneN s ≤ 2 * b * oneN s := Nat.mul_le_mul_right _ h4
        rw [decide_eq_true ho, cond_true, if_neg (fun h => ho h.1), if_pos hn, wrap_u64_of (n := la - lst + 1) (by omega) (by omega), show la - lst + 1 = (((la - lst + 1).toNat : Nat) : Int) by omega, kx _ (by omega), kn _ hq hm', Int.toNat_natCast,
          lor_nn (by omega) (by omega), Nat.or_comm, ← f5, or_high (by rw [f5]; omega), hsg _ (by rw [f5]; omega)]
    · have hq : q < oneN s := by have := b2 q hm'; omega
      rw [decide_eq_false hn, cond_false, if_neg (fun h => hn h.2), if_neg hn, hsg _ (by omega)]
  · have hc : tinyOf f b (64 + e) T1 = (decide (e + (63 - (f : Int)) < lst) && (decide (e + (63 - (f : Int)) < lst - 1) || decide (T1 < 2 * oneN s))) := by
      unfold tinyOf
      have hb1 := b1 T1 hT
      have hb2 : T1 < 2 * oneN s → blen T1 = f + 1 := fun h => (b2 T1 h).2 hT0
      have hb3 : T1 = 2 * oneN s → blen T1 = f + 2 := fun h => by
        have h5 := blen_of_le (n := T1) (k := f + 1) (by rw [hp1]; omega)
        have := hb1.2 h
        omega
      rw [hll, Bool.eq_iff_iff]
      simp only [Bool.and_eq_true, Bool.or_eq_true, dec]
      have : T1 < 2 * oneN s ∨ T1 = 2 * oneN s := by omega
      rcases this with h | h
      · have := hb2 h; omega
      · have := hb3 h; omega
    have z1 : IntKind.wrap .i64 (e + (63 - (f : Int))) = e + (63 - f) := wrap_i64_of (by omega) (by omega)
    have z2 : IntKind.wrap .i64 (lst - 1) = lst - 1 := wrap_i64_of (by omega) (by omega)
    have z3 : decide ((T1 : Int) < ((2 * oneN s : Nat) : Int)) = decide (T1 < 2 * oneN s) := by rw [decide_eq_decide]; omega
    rw [z1, z2, z3, ← hc]
    by_cases hn : blen q = f + 1
    · rw [decide_eq_true hn, cond_true]
      by_cases ho : la + f > b
      · rw [decide_eq_false (fun h => h ho), cond_false, if_pos ⟨ho, hn⟩]; rfl
      · rw [decide_eq_true ho, cond_true, if_neg (fun h => ho h.1)]
        cases C2 <;> cases tinyOf f b (64 + e) T1 <;> rfl
    · rw [decide_eq_false hn, cond_false, if_neg (fun h => hn h.2)]
      cases C2 <;> cases tinyOf f b (64 + e) T1 <;> rfl
end
end Go.Proofs.Ytacciadcmiiimaa

