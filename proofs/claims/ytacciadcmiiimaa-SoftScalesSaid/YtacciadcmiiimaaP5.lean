/- The functions of the statements, as lists of plain steps (part 0). Written by the generator. -/
import Derived.Test.YtacciadcmiiimaaP4
import Derived.Test.YtacciadcmiiimaaProg
import Derived.KernelRfl
namespace Go.Proofs.Ytacciadcmiiimaa
open Go Go.Sx
set_option maxRecDepth 100000
set_option maxHeartbeats 4000000
def s69 : Sig := ⟨[.s (.one (.i .u64 (.h 0)))], [], [.i], .s (.one (.i .i64 (.h 0))), [], [.i], true⟩
def o69 : Out := ⟨[(1, .geq (.r 0) (.z 4294967296)), (2, .shr .u64 (.r 0) (.z 32)), (3, .itei (.r 1) (.r 2) (.r 0)), (4, .itei (.r 1) (.z 32) (.z 0)), (5, .geq (.r 3) (.z 65536)), (6, .shr .u64 (.r 3) (.z 16)), (7, .add .i64 (.r 4) (.z 16)), (8, .itei (.r 5) (.r 6) (.r 3)), (9, .itei (.r 5) (.r 7) (.r 4)), (10, .geq (.r 8) (.z 256)), (11, .shr .u64 (.r 8) (.z 8)), (12, .add .i64 (.r 9) (.z 8)), (13, .itei (.r 10) (.r 11) (.r 8)), (14, .itei (.r 10) (.r 12) (.r 9)), (15, .conv .u8 (.r 13)), (16, .geq (.r 15) (.z 0)), (17, .lss (.r 15) (.z 256)), (18, .seli [.z 0, .z 1, .z 2, .z 2, .z 3, .z 3, .z 3, .z 3, .z 4, .z 4, .z 4, .z 4, .z 4, .z 4, .z 4, .z 4, .z 5, .z 5, .z 5, .z 5, .z 5, .z 5, .z 5, .z 5, .z 5, .z 5, .z 5, .z 5, .z 5, .z 5, .z 5, .z 5, .z 6, .z 6, .z 6, .z 6, .z 6, .z 6, .z 6, .z 6, .z 6, .z 6, .z 6, .z 6, .z 6, .z 6, .z 6, .z 6, .z 6, .z 6, .z 6, .z 6, .z 6, .z 6, .z 6, .z 6, .z 6, .z 6, .z 6, .z 6, .z 6, .z 6, .z 6, .z 6, .z 7, .z 7, .z 7, .z 7, .z 7, .z 7, .z 7, .z 7, .z 7, .z 7, .z 7, .z 7, .z 7, .z 7, .z 7, .z 7, .z 7, .z 7, .z 7, .z 7, .z 7, .z 7, .z 7, .z 7, .z 7, .z 7, .z 7, .z 7, .z 7, .z 7, .z 7, .z 7, .z 7, .z 7, .z 7, .z 7, .z 7, .z 7, .z 7, .z 7, .z 7, .z 7, .z 7, .z 7, .z 7, .z 7, .z 7, .z 7, .z 7, .z 7, .z 7, .z 7, .z 7, .z 7, .z 7, .z 7, .z 7, .z 7, .z 7, .z 7, .z 7, .z 7, .z 7, .z 7, .z 8, .z 8, .z 8, .z 8, .z 8, .z 8, .z 8, .z 8, .z 8, .z 8, .z 8, .z 8, .z 8, .z 8, .z 8, .z 8, .z 8, .z 8, .z 8, .z 8, .z 8, .z 8, .z 8, .z 8, .z 8, .z 8, .z 8, .z 8, .z 8, .z 8, .z 8, .z 8, .z 8, .z 8, .z 8, .z 8, .z 8, .z 8, .z 8, .z 8, .z 8, .z 8, .z 8, .z 8, .z 8, .z 8, .z 8, .z 8, .z 8, .z 8, .z 8, .z 8, .z 8, .z 8, .z 8, .z 8, .z 8, .z 8, .z 8, .z 8, .z 8, .z 8, .z 8, .z 8, .z 8, .z 8, .z 8, .z 8, .z 8, .z 8, .z 8, .z 8, .z 8, .z 8, .z 8, .z 8, .z 8, .z 8, .z 8, .z 8, .z 8, .z 8, .z 8, .z 8, .z 8, .z 8, .z 8, .z 8, .z 8, .z 8, .z 8, .z 8, .z 8, .z 8, .z 8, .z 8, .z 8, .z 8, .z 8, .z 8, .z 8, .z 8, .z 8, .z 8, .z 8, .z 8, .z 8, .z 8, .z 8, .z 8, .z 8, .z 8, .z 8, .z 8, .z 8, .z 8, .z 8, .z 8, .z 8, .z 8, .z 8, .z 8, .z 8, .z 8, .z 8, .z 8, .z 8, .z 8] (.r 15)), (19, .conv .i64 (.r 18)), (20, .add .i64 (.r 14) (.r 19))],
  [⟨[], .r 16⟩, ⟨[], .r 17⟩],
  [],
  [.r 20]⟩
noncomputable def p69 (x0 : Int) : Bool :=
  let x1 := decide (x0 ≥ 4294967296)
  let x2 := ishr .u64 x0 32
  let x3 := bif x1 then x2 else x0
  let x5 := decide (x3 ≥ 65536)
  let x6 := ishr .u64 x3 16
  let x8 := bif x5 then x6 else x3
  let x10 := decide (x8 ≥ 256)
  let x11 := ishr .u64 x8 8
  let x13 := bif x10 then x11 else x8
  let x15 := IntKind.wrap .u8 x13
  let x16 := decide (x15 ≥ 0)
  let x17 := decide (x15 < 256)
  [ow [] x16, ow [] x17].all id
noncomputable def r69_0 (x0 : Int) : Int :=
  let x1 := decide (x0 ≥ 4294967296)
  let x2 := ishr .u64 x0 32
  let x3 := bif x1 then x2 else x0
  let x4 : Int := bif x1 then 32 else 0
  let x5 := decide (x3 ≥ 65536)
  let x6 := ishr .u64 x3 16
  let x7 := IntKind.wrap .i64 (x4 + 16)
  let x8 := bif x5 then x6 else x3
  let x9 := bif x5 then x7 else x4
  let x10 := decide (x8 ≥ 256)
  let x11 := ishr .u64 x8 8
  let x12 := IntKind.wrap .i64 (x9 + 8)
  let x13 := bif x10 then x11 else x8
  let x14 := bif x10 then x12 else x9
  let x15 := IntKind.wrap .u8 x13
  let x18 := [0, 1, 2, 2, 3, 3, 3, 3, 4, 4, 4, 4, 4, 4, 4, 4, 5, 5, 5, 5, 5, 5, 5, 5, 5, 5, 5, 5, 5, 5, 5, 5, 6, 6, 6, 6, 6, 6, 6, 6, 6, 6, 6, 6, 6, 6, 6, 6, 6, 6, 6, 6, 6, 6, 6, 6, 6, 6, 6, 6, 6, 6, 6, 6, 7, 7, 7, 7, 7, 7, 7, 7, 7, 7, 7, 7, 7, 7, 7, 7, 7, 7, 7, 7, 7, 7, 7, 7, 7, 7, 7, 7, 7, 7, 7, 7, 7, 7, 7, 7, 7, 7, 7, 7, 7, 7, 7, 7, 7, 7, 7, 7, 7, 7, 7, 7, 7, 7, 7, 7, 7, 7, 7, 7, 7, 7, 7, 7, 8, 8, 8, 8, 8, 8, 8, 8, 8, 8, 8, 8, 8, 8, 8, 8, 8, 8, 8, 8, 8, 8, 8, 8, 8, 8, 8, 8, 8, 8, 8, 8, 8, 8, 8, 8, 8, 8, 8, 8, 8, 8, 8, 8, 8, 8, 8, 8, 8, 8, 8, 8, 8, 8, 8, 8, 8, 8, 8, 8, 8, 8, 8, 8, 8, 8, 8, 8, 8, 8, 8, 8, 8, 8, 8, 8, 8, 8, 8, 8, 8, 8, 8, 8, 8, 8, 8, 8, 8, 8, 8, 8, 8, 8, 8, 8, 8, 8, 8, 8, 8, 8, 8, 8, 8, 8, 8, 8, 8, 8, 8, 8, 8, 8, 8, 8, 8, 8, 8, 8, 8, 8, 8, 8, 8, 8, 8, 8].getD (Int.toNat x15) 0
  let x19 := IntKind.wrap .i64 x18
  let x20 := IntKind.wrap .i64 (x14 + x19)
  x20
noncomputable def g69 (ds : List DV) : List DV := [.b (p69 (dget ds 0).toI), .i (r69_0 (dget ds 0).toI)]
def S69 : Sigs := ⟨[], [], [], 0⟩

def s115 : Sig := ⟨[.s (.one (.i .u64 (.h 0)))], [], [.i], .s (.one (.i .i64 (.h 0))), [], [.i], true⟩
def o115 : Out := ⟨[(1, .call 69 [.r 0] 0), (2, .call 69 [.r 0] 1), (3, .sub .i64 (.z 64) (.r 2))],
  [⟨[], .r 1⟩],
  [],
  [.r 3]⟩
noncomputable def p115 (x0 : Int) : Bool :=
  let x1 := p69 x0
  [ow [] x1].all id
noncomputable def r115_0 (x0 : Int) : Int :=
  let x2 := r69_0 x0
  let x3 := IntKind.wrap .i64 (64 - x2)
  x3
noncomputable def g115 (ds : List DV) : List DV := [.b (p115 (dget ds 0).toI), .i (r115_0 (dget ds 0).toI)]
def S115 : Sigs := ⟨[(69, s69)], [], [], 0⟩

def s91 : Sig := ⟨[.s (.one (.i .i64 (.h 0))), .s (.one (.i .i64 (.h 1)))], [], [.i, .i], .s (.one (.b (.h 0))), [], [.b], false⟩
def o91 : Out := ⟨[(2, .eql (.r 0) (.z 4)), (3, .eql (.r 0) (.z 8)), (4, .or (.r 2) (.r 3)), (5, .geq (.r 1) (.z 0)), (6, .and (.r 4) (.r 5)), (7, .leq (.r 1) (.z 4)), (8, .and (.r 6) (.r 7))],
  [],
  [],
  [.r 8]⟩
noncomputable def r91_0 (x0 : Int) (x1 : Int) : Bool :=
  let x2 := x0 == 4
  let x3 := x0 == 8
  let x4 := x2 || x3
  let x5 := decide (x1 ≥ 0)
  let x6 := x4 && x5
  let x7 := decide (x1 ≤ 4)
  let x8 := x6 && x7
  x8
noncomputable def g91 (ds : List DV) : List DV := [.b (r91_0 (dget ds 0).toI (dget ds 1).toI)]
def S91 : Sigs := ⟨[], [], [], 0⟩

def s92 : Sig := ⟨[.s (.one (.i .i64 (.h 0)))], [], [.i], .s (.agg [.i .i64 (.h 0), .i .i64 (.h 1), .i .u64 (.h 2)]), [], [.i, .i, .i], false⟩
def o92 : Out := ⟨[(1, .eql (.r 0) (.z 4)), (2, .not (.r 1)), (3, .itei (.r 2) (.z 52) (.z 23)), (4, .itei (.r 2) (.z 1023) (.z 127)), (5, .itei (.r 2) (.z 9223372036854775808) (.z 2147483648))],
  [],
  [],
  [.r 3, .r 4, .r 5]⟩
noncomputable def r92_0 (x0 : Int) : Int :=
  let x1 := x0 == 4
  let x2 := !x1
  let x3 : Int := bif x2 then 52 else 23
  x3
noncomputable def r92_1 (x0 : Int) : Int :=
  let x1 := x0 == 4
  let x2 := !x1
  let x4 : Int := bif x2 then 1023 else 127
  x4
noncomputable def r92_2 (x0 : Int) : Int :=
  let x1 := x0 == 4
  let x2 := !x1
  let x5 : Int := bif x2 then 9223372036854775808 else 2147483648
  x5
noncomputable def g92 (ds : List DV) : List DV := [.i (r92_0 (dget ds 0).toI), .i (r92_1 (dget ds 0).toI), .i (r92_2 (dget ds 0).toI)]
def S92 : Sigs := ⟨[], [], [], 0⟩

def s96 : Sig := ⟨[.s (.agg [.i .i64 (.h 0), .i .i64 (.h 1), .i .u64 (.h 2)])], [], [.i, .i, .i], .s (.one (.i .u64 (.h 0))), [], [.i], true⟩
def o96 : Out := ⟨[(3, .mul .i64 (.z 2) (.r 1)), (4, .add .i64 (.r 3) (.z 1)), (5, .conv .u64 (.r 4)), (6, .geq (.r 0) (.z 0)), (7, .shl .u64 (.r 5) (.r 0))],
  [⟨[], .r 6⟩],
  [],
  [.r 7]⟩
noncomputable def p96 (x0 : Int) : Bool :=
  let x6 := decide (x0 ≥ 0)
  [ow [] x6].all id
noncomputable def r96_0 (x0 : Int) (x1 : Int) : Int :=
  let x3 := IntKind.wrap .i64 (2 * x1)
  let x4 := IntKind.wrap .i64 (x3 + 1)
  let x5 := IntKind.wrap .u64 x4
  let x7 := ishl .u64 x5 x0
  x7
noncomputable def g96 (ds : List DV) : List DV := [.b (p96 (dget ds 0).toI), .i (r96_0 (dget ds 0).toI (dget ds 1).toI)]
def S96 : Sigs := ⟨[], [], [], 0⟩

def s120 : Sig := ⟨[.s (.agg [.i .i64 (.h 0), .i .i64 (.h 1), .i .u64 (.h 2)])], [], [.i, .i, .i], .s (.one (.i .u64 (.h 0))), [], [.i], true⟩
def o120 : Out := ⟨[(3, .call 96 [.r 0, .r 1, .r 2] 0), (4, .call 96 [.r 0, .r 1, .r 2] 1), (5, .sub .i64 (.r 0) (.z 1)), (6, .geq (.r 5) (.z 0)), (7, .shl .u64 (.z 1) (.r 5)), (8, .lor .u64 (.r 4) (.r 7))],
  [⟨[], .r 3⟩, ⟨[], .r 6⟩],
  [],
  [.r 8]⟩
noncomputable def p120 (x0 : Int) : Bool :=
  let x3 := p96 x0
  let x5 := IntKind.wrap .i64 (x0 - 1)
  let x6 := decide (x5 ≥ 0)
  [ow [] x3, ow [] x6].all id
noncomputable def r120_0 (x0 : Int) (x1 : Int) : Int :=
  let x4 := r96_0 x0 x1
  let x5 := IntKind.wrap .i64 (x0 - 1)
  let x7 := ishl .u64 1 x5
  let x8 := ilor .u64 x4 x7
  x8
noncomputable def g120 (ds : List DV) : List DV := [.b (p120 (dget ds 0).toI), .i (r120_0 (dget ds 0).toI (dget ds 1).toI)]
def S120 : Sigs := ⟨[(96, s96)], [], [], 0⟩

def s95 : Sig := ⟨[.s (.agg [.i .i64 (.h 0), .i .i64 (.h 1), .i .u64 (.h 2)]), .s (.one (.b (.h 3))), .s (.one (.i .u64 (.h 4)))], [], [.i, .i, .i, .b, .i], .s (.one (.i .u64 (.h 0))), [], [.i], false⟩
def o95 : Out := ⟨[(5, .lor .u64 (.r 4) (.r 2)), (6, .not (.r 3)), (7, .itei (.r 6) (.r 4) (.r 5))],
  [],
  [],
  [.r 7]⟩
noncomputable def r95_0 (x2 : Int) (x3 : Bool) (x4 : Int) : Int :=
  let x5 := ilor .u64 x4 x2
  let x6 := !x3
  let x7 := bif x6 then x4 else x5
  x7
noncomputable def g95 (ds : List DV) : List DV := [.i (r95_0 (dget ds 2).toI (dget ds 3).toB (dget ds 4).toI)]
def S95 : Sigs := ⟨[], [], [], 0⟩

def s93 : Sig := ⟨[.s (.agg [.i .i64 (.h 0), .i .i64 (.h 1), .i .u64 (.h 2)]), .s (.one (.i .u64 (.h 3)))], [], [.i, .i, .i, .i], .s (.agg [.b (.h 0), .b (.h 1), .i .i64 (.h 2), .i .i64 (.h 3), .i .u64 (.h 4)]), [], [.b, .b, .i, .i, .i], true⟩
def o93 : Out := ⟨[(4, .shl .u64 (.r 2) (.z 1)), (5, .sub .u64 (.r 4) (.z 1)), (6, .land .u64 (.r 3) (.r 5)), (7, .land .u64 (.r 6) (.r 2)), (8, .neq (.r 7) (.z 0)), (9, .landNot .u64 (.r 6) (.r 2)), (10, .geq (.r 0) (.z 0)), (11, .shr .u64 (.r 9) (.r 0)), (12, .conv .i64 (.r 11)), (13, .geq (.r 0) (.z 0)), (14, .shl .u64 (.z 1) (.r 0)), (15, .sub .u64 (.r 14) (.z 1)), (16, .land .u64 (.r 6) (.r 15)), (17, .mul .i64 (.z 2) (.r 1)), (18, .add .i64 (.r 17) (.z 1)), (19, .eql (.r 12) (.r 18)), (20, .neq (.r 16) (.z 0)), (21, .and (.r 19) (.r 20)), (22, .sub .i64 (.r 0) (.z 1)), (23, .geq (.r 22) (.z 0)), (24, .shr .u64 (.r 16) (.r 22)), (25, .eql (.r 24) (.z 0)), (26, .mul .i64 (.z 2) (.r 1)), (27, .add .i64 (.r 26) (.z 1)), (28, .eql (.r 12) (.r 27)), (29, .eql (.r 12) (.z 0)), (30, .eql (.r 16) (.z 0)), (31, .and (.r 29) (.r 30)), (32, .eql (.r 12) (.z 0)), (33, .geq (.r 0) (.z 0)), (34, .shl .u64 (.z 1) (.r 0)), (35, .lor .u64 (.r 16) (.r 34)), (36, .not (.r 31)), (37, .iteb (.r 28) (.t false) (.r 36)), (38, .iteb (.r 21) (.t false) (.r 37)), (39, .itei (.r 32) (.z 1) (.r 12)), (40, .itei (.r 32) (.r 16) (.r 35)), (41, .call 115 [.r 40] 0), (42, .call 115 [.r 40] 1), (43, .geq (.r 42) (.z 0)), (44, .shl .u64 (.r 40) (.r 42)), (45, .sub .i64 (.r 39) (.r 1)), (46, .sub .i64 (.r 45) (.r 0)), (47, .sub .i64 (.r 46) (.r 42)), (48, .itei (.r 28) (.z 2) (.z 0)), (49, .and (.r 21) (.r 25)), (50, .itei (.r 21) (.z 3) (.r 48)), (51, .iteb (.r 38) (.t false) (.r 49)), (52, .itei (.r 38) (.z 1) (.r 50)), (53, .itei (.r 38) (.r 47) (.z 0)), (54, .itei (.r 38) (.r 44) (.z 0))],
  [⟨[], .r 10⟩, ⟨[], .r 13⟩, ⟨[(.r 21, true)], .r 23⟩, ⟨[(.r 21, false), (.r 28, false), (.r 31, false), (.r 32, false)], .r 33⟩, ⟨[(.r 38, true)], .r 41⟩, ⟨[(.r 38, true)], .r 43⟩],
  [],
  [.r 8, .r 51, .r 52, .r 53, .r 54]⟩
noncomputable def p93 (x0 : Int) (x1 : Int) (x2 : Int) (x3 : Int) : Bool :=
  let x4 := ishl .u64 x2 1
  let x5 := IntKind.wrap .u64 (x4 - 1)
  let x6 := iland .u64 x3 x5
  let x9 := ilandNot .u64 x6 x2
  let x10 := decide (x0 ≥ 0)
  let x11 := ishr .u64 x9 x0
  let x12 := IntKind.wrap .i64 x11
  let x13 := decide (x0 ≥ 0)
  let x14 := ishl .u64 1 x0
  let x15 := IntKind.wrap .u64 (x14 - 1)
  let x16 := iland .u64 x6 x15
  let x17 := IntKind.wrap .i64 (2 * x1)
  let x18 := IntKind.wrap .i64 (x17 + 1)
  let x19 := x12 == x18
  let x20 := x16 != 0
  let x21 := x19 && x20
  let x22 := IntKind.wrap .i64 (x0 - 1)
  let x23 := decide (x22 ≥ 0)
  let x26 := IntKind.wrap .i64 (2 * x1)
  let x27 := IntKind.wrap .i64 (x26 + 1)
  let x28 := x12 == x27
  let x29 := x12 == 0
  let x30 := x16 == 0
  let x31 := x29 && x30
  let x32 := x12 == 0
  let x33 := decide (x0 ≥ 0)
  let x34 := ishl .u64 1 x0
  let x35 := ilor .u64 x16 x34
  let x36 := !x31
  let x37 := bif x28 then false else x36
  let x38 := bif x21 then false else x37
  let x40 := bif x32 then x16 else x35
  let x41 := p115 x40
  let x42 := r115_0 x40
  let x43 := decide (x42 ≥ 0)
  [ow [] x10, ow [] x13, ow [(x21, true)] x23, ow [(x21, false), (x28, false), (x31, false), (x32, false)] x33, ow [(x38, true)] x41, ow [(x38, true)] x43].all id
noncomputable def r93_0 (x2 : Int) (x3 : Int) : Bool :=
  let x4 := ishl .u64 x2 1
  let x5 := IntKind.wrap .u64 (x4 - 1)
  let x6 := iland .u64 x3 x5
  let x7 := iland .u64 x6 x2
  let x8 := x7 != 0
  x8
noncomputable def r93_1 (x0 : Int) (x1 : Int) (x2 : Int) (x3 : Int) : Bool :=
  let x4 := ishl .u64 x2 1
  let x5 := IntKind.wrap .u64 (x4 - 1)
  let x6 := iland .u64 x3 x5
  let x9 := ilandNot .u64 x6 x2
  let x11 := ishr .u64 x9 x0
  let x12 := IntKind.wrap .i64 x11
  let x14 := ishl .u64 1 x0
  let x15 := IntKind.wrap .u64 (x14 - 1)
  let x16 := iland .u64 x6 x15
  let x17 := IntKind.wrap .i64 (2 * x1)
  let x18 := IntKind.wrap .i64 (x17 + 1)
  let x19 := x12 == x18
  let x20 := x16 != 0
  let x21 := x19 && x20
  let x22 := IntKind.wrap .i64 (x0 - 1)
  let x24 := ishr .u64 x16 x22
  let x25 := x24 == 0
  let x26 := IntKind.wrap .i64 (2 * x1)
  let x27 := IntKind.wrap .i64 (x26 + 1)
  let x28 := x12 == x27
  let x29 := x12 == 0
  let x30 := x16 == 0
  let x31 := x29 && x30
  let x36 := !x31
  let x37 := bif x28 then false else x36
  let x38 := bif x21 then false else x37
  let x49 := x21 && x25
  let x51 := bif x38 then false else x49
  x51
noncomputable def r93_2 (x0 : Int) (x1 : Int) (x2 : Int) (x3 : Int) : Int :=
  let x4 := ishl .u64 x2 1
  let x5 := IntKind.wrap .u64 (x4 - 1)
  let x6 := iland .u64 x3 x5
  let x9 := ilandNot .u64 x6 x2
  let x11 := ishr .u64 x9 x0
  let x12 := IntKind.wrap .i64 x11
  let x14 := ishl .u64 1 x0
  let x15 := IntKind.wrap .u64 (x14 - 1)
  let x16 := iland .u64 x6 x15
  let x17 := IntKind.wrap .i64 (2 * x1)
  let x18 := IntKind.wrap .i64 (x17 + 1)
  let x19 := x12 == x18
  let x20 := x16 != 0
  let x21 := x19 && x20
  let x26 := IntKind.wrap .i64 (2 * x1)
  let x27 := IntKind.wrap .i64 (x26 + 1)
  let x28 := x12 == x27
  let x29 := x12 == 0
  let x30 := x16 == 0
  let x31 := x29 && x30
  let x36 := !x31
  let x37 := bif x28 then false else x36
  let x38 := bif x21 then false else x37
  let x48 : Int := bif x28 then 2 else 0
  let x50 := bif x21 then 3 else x48
  let x52 := bif x38 then 1 else x50
  x52
noncomputable def r93_3 (x0 : Int) (x1 : Int) (x2 : Int) (x3 : Int) : Int :=
  let x4 := ishl .u64 x2 1
  let x5 := IntKind.wrap .u64 (x4 - 1)
  let x6 := iland .u64 x3 x5
  let x9 := ilandNot .u64 x6 x2
  let x11 := ishr .u64 x9 x0
  let x12 := IntKind.wrap .i64 x11
  let x14 := ishl .u64 1 x0
  let x15 := IntKind.wrap .u64 (x14 - 1)
  let x16 := iland .u64 x6 x15
  let x17 := IntKind.wrap .i64 (2 * x1)
  let x18 := IntKind.wrap .i64 (x17 + 1)
  let x19 := x12 == x18
  let x20 := x16 != 0
  let x21 := x19 && x20
  let x26 := IntKind.wrap .i64 (2 * x1)
  let x27 := IntKind.wrap .i64 (x26 + 1)
  let x28 := x12 == x27
  let x29 := x12 == 0
  let x30 := x16 == 0
  let x31 := x29 && x30
  let x32 := x12 == 0
  let x34 := ishl .u64 1 x0
  let x35 := ilor .u64 x16 x34
  let x36 := !x31
  let x37 := bif x28 then false else x36
  let x38 := bif x21 then false else x37
  let x39 := bif x32 then 1 else x12
  let x40 := bif x32 then x16 else x35
  let x42 := r115_0 x40
  let x45 := IntKind.wrap .i64 (x39 - x1)
  let x46 := IntKind.wrap .i64 (x45 - x0)
  let x47 := IntKind.wrap .i64 (x46 - x42)
  let x53 := bif x38 then x47 else 0
  x53
noncomputable def r93_4 (x0 : Int) (x1 : Int) (x2 : Int) (x3 : Int) : Int :=
  let x4 := ishl .u64 x2 1
  let x5 := IntKind.wrap .u64 (x4 - 1)
  let x6 := iland .u64 x3 x5
  let x9 := ilandNot .u64 x6 x2
  let x11 := ishr .u64 x9 x0
  let x12 := IntKind.wrap .i64 x11
  let x14 := ishl .u64 1 x0
  let x15 := IntKind.wrap .u64 (x14 - 1)
  let x16 := iland .u64 x6 x15
  let x17 := IntKind.wrap .i64 (2 * x1)
  let x18 := IntKind.wrap .i64 (x17 + 1)
  let x19 := x12 == x18
  let x20 := x16 != 0
  let x21 := x19 && x20
  let x26 := IntKind.wrap .i64 (2 * x1)
  let x27 := IntKind.wrap .i64 (x26 + 1)
  let x28 := x12 == x27
  let x29 := x12 == 0
  let x30 := x16 == 0
  let x31 := x29 && x30
  let x32 := x12 == 0
  let x34 := ishl .u64 1 x0
  let x35 := ilor .u64 x16 x34
  let x36 := !x31
  let x37 := bif x28 then false else x36
  let x38 := bif x21 then false else x37
  let x40 := bif x32 then x16 else x35
  let x42 := r115_0 x40
  let x44 := ishl .u64 x40 x42
  let x54 := bif x38 then x44 else 0
  x54
noncomputable def g93 (ds : List DV) : List DV := [.b (p93 (dget ds 0).toI (dget ds 1).toI (dget ds 2).toI (dget ds 3).toI), .b (r93_0 (dget ds 2).toI (dget ds 3).toI), .b (r93_1 (dget ds 0).toI (dget ds 1).toI (dget ds 2).toI (dget ds 3).toI), .i (r93_2 (dget ds 0).toI (dget ds 1).toI (dget ds 2).toI (dget ds 3).toI), .i (r93_3 (dget ds 0).toI (dget ds 1).toI (dget ds 2).toI (dget ds 3).toI), .i (r93_4 (dget ds 0).toI (dget ds 1).toI (dget ds 2).toI (dget ds 3).toI)]
def S93 : Sigs := ⟨[(115, s115)], [], [], 0⟩

def s97 : Sig := ⟨[.s (.one (.i .u64 (.h 0))), .s (.one (.i .u64 (.h 1)))], [], [.i, .i], .t [.one (.i .u64 (.h 0)), .one (.i .u64 (.h 1))], [], [.i, .i], false⟩
def o97 : Out := ⟨[(2, .land .u64 (.r 0) (.z 4294967295)), (3, .shr .u64 (.r 0) (.z 32)), (4, .land .u64 (.r 1) (.z 4294967295)), (5, .shr .u64 (.r 1) (.z 32)), (6, .mul .u64 (.r 2) (.r 4)), (7, .mul .u64 (.r 3) (.r 4)), (8, .shr .u64 (.r 6) (.z 32)), (9, .add .u64 (.r 7) (.r 8)), (10, .land .u64 (.r 9) (.z 4294967295)), (11, .shr .u64 (.r 9) (.z 32)), (12, .mul .u64 (.r 2) (.r 5)), (13, .add .u64 (.r 10) (.r 12)), (14, .mul .u64 (.r 3) (.r 5)), (15, .add .u64 (.r 14) (.r 11)), (16, .shr .u64 (.r 13) (.z 32)), (17, .add .u64 (.r 15) (.r 16)), (18, .mul .u64 (.r 0) (.r 1))],
  [],
  [],
  [.r 17, .r 18]⟩
noncomputable def r97_0 (x0 : Int) (x1 : Int) : Int :=
  let x2 := iland .u64 x0 4294967295
  let x3 := ishr .u64 x0 32
  let x4 := iland .u64 x1 4294967295
  let x5 := ishr .u64 x1 32
  let x6 := IntKind.wrap .u64 (x2 * x4)
  let x7 := IntKind.wrap .u64 (x3 * x4)
  let x8 := ishr .u64 x6 32
  let x9 := IntKind.wrap .u64 (x7 + x8)
  let x10 := iland .u64 x9 4294967295
  let x11 := ishr .u64 x9 32
  let x12 := IntKind.wrap .u64 (x2 * x5)
  let x13 := IntKind.wrap .u64 (x10 + x12)
  let x14 := IntKind.wrap .u64 (x3 * x5)
  let x15 := IntKind.wrap .u64 (x14 + x11)
  let x16 := ishr .u64 x13 32
  let x17 := IntKind.wrap .u64 (x15 + x16)
  x17
noncomputable def r97_1 (x0 : Int) (x1 : Int) : Int :=
  let x18 := IntKind.wrap .u64 (x0 * x1)
  x18
noncomputable def g97 (ds : List DV) : List DV := [.i (r97_0 (dget ds 0).toI (dget ds 1).toI), .i (r97_1 (dget ds 0).toI (dget ds 1).toI)]
def S97 : Sigs := ⟨[], [], [], 0⟩

noncomputable def w110202 (_x19 : Int) (_x29 : Int) (_x18 : Int) (_x46 : Int) (_x47 : Int) : Bool :=
  [].all id
noncomputable def c110202 (x19 : Int) (x29 : Int) (x18 : Int) (x46 : Int) (x47 : Int) : Bool :=
  let x48 := decide (x47 ≥ 4294967296)
  let x49 := IntKind.wrap .u64 (x47 * x19)
  let x50 := IntKind.wrap .u64 (4294967296 * x46)
  let x51 := IntKind.wrap .u64 (x50 + x29)
  let x52 := decide (x49 > x51)
  let x53 := x48 || x52
  let x55 := IntKind.wrap .u64 (x46 + x18)
  let x56 := decide (x55 ≥ 4294967296)
  let x57 := !x56
  let x58 := x53 && x57
  x58
noncomputable def n110202_0 (_x19 : Int) (_x29 : Int) (x18 : Int) (x46 : Int) (_x47 : Int) : Int :=
  let x55 := IntKind.wrap .u64 (x46 + x18)
  x55
noncomputable def n110202_1 (_x19 : Int) (_x29 : Int) (_x18 : Int) (_x46 : Int) (x47 : Int) : Int :=
  let x54 := IntKind.wrap .u64 (x47 - 1)
  x54
noncomputable def t110202_0 (_x19 : Int) (_x29 : Int) (_x18 : Int) (_x46 : Int) (_x47 : Int) : Int :=
  0
noncomputable def t110202_1 (x19 : Int) (x29 : Int) (x18 : Int) (x46 : Int) (x47 : Int) : Int :=
  let x48 := decide (x47 ≥ 4294967296)
  let x49 := IntKind.wrap .u64 (x47 * x19)
  let x50 := IntKind.wrap .u64 (4294967296 * x46)
  let x51 := IntKind.wrap .u64 (x50 + x29)
  let x52 := decide (x49 > x51)
  let x53 := x48 || x52
  let x55 := IntKind.wrap .u64 (x46 + x18)
  let x59 := bif x53 then x55 else x46
  x59
noncomputable def t110202_2 (x19 : Int) (x29 : Int) (_x18 : Int) (x46 : Int) (x47 : Int) : Int :=
  let x48 := decide (x47 ≥ 4294967296)
  let x49 := IntKind.wrap .u64 (x47 * x19)
  let x50 := IntKind.wrap .u64 (4294967296 * x46)
  let x51 := IntKind.wrap .u64 (x50 + x29)
  let x52 := decide (x49 > x51)
  let x53 := x48 || x52
  let x54 := IntKind.wrap .u64 (x47 - 1)
  let x60 := bif x53 then x54 else x47
  x60
noncomputable def W110202 (ds : List DV) : Bool := w110202 (dget ds 0).toI (dget ds 1).toI (dget ds 2).toI (dget ds 3).toI (dget ds 4).toI
noncomputable def C110202 (ds : List DV) : Bool := c110202 (dget ds 0).toI (dget ds 1).toI (dget ds 2).toI (dget ds 3).toI (dget ds 4).toI
noncomputable def N110202 (ds : List DV) : List DV := [.i (dget ds 0).toI, .i (dget ds 1).toI, .i (dget ds 2).toI, .i (n110202_0 (dget ds 0).toI (dget ds 1).toI (dget ds 2).toI (dget ds 3).toI (dget ds 4).toI), .i (n110202_1 (dget ds 0).toI (dget ds 1).toI (dget ds 2).toI (dget ds 3).toI (dget ds 4).toI)]
noncomputable def T110202 (ds : List DV) : List DV := [.i (t110202_0 (dget ds 0).toI (dget ds 1).toI (dget ds 2).toI (dget ds 3).toI (dget ds 4).toI), .i (t110202_1 (dget ds 0).toI (dget ds 1).toI (dget ds 2).toI (dget ds 3).toI (dget ds 4).toI), .i (t110202_2 (dget ds 0).toI (dget ds 1).toI (dget ds 2).toI (dget ds 3).toI (dget ds 4).toI)]
noncomputable def L110202 (x0 : Int) (x1 : Int) (x2 : Int) (x3 : Int) (x4 : Int) : Option (List DV) := loopG W110202 C110202 N110202 T110202 [.i x0, .i x1, .i x2, .i x3, .i x4]
noncomputable def p110202 (x0 : Int) (x1 : Int) (x2 : Int) (x3 : Int) (x4 : Int) : Bool := (L110202 x0 x1 x2 x3 x4).isSome
noncomputable def r110202_0 (x0 : Int) (x1 : Int) (x2 : Int) (x3 : Int) (x4 : Int) : Int := (dget ((L110202 x0 x1 x2 x3 x4).getD []) 0).toI
noncomputable def r110202_1 (x0 : Int) (x1 : Int) (x2 : Int) (x3 : Int) (x4 : Int) : Int := (dget ((L110202 x0 x1 x2 x3 x4).getD []) 1).toI
noncomputable def r110202_2 (x0 : Int) (x1 : Int) (x2 : Int) (x3 : Int) (x4 : Int) : Int := (dget ((L110202 x0 x1 x2 x3 x4).getD []) 2).toI
noncomputable def g110202 (ds : List DV) : List DV := [.b (p110202 (dget ds 0).toI (dget ds 1).toI (dget ds 2).toI (dget ds 3).toI (dget ds 4).toI), .i (r110202_0 (dget ds 0).toI (dget ds 1).toI (dget ds 2).toI (dget ds 3).toI (dget ds 4).toI), .i (r110202_1 (dget ds 0).toI (dget ds 1).toI (dget ds 2).toI (dget ds 3).toI (dget ds 4).toI), .i (r110202_2 (dget ds 0).toI (dget ds 1).toI (dget ds 2).toI (dget ds 3).toI (dget ds 4).toI)]
noncomputable def w110200 (_x19 : Int) (_x28 : Int) (_x18 : Int) (_x34 : Int) (_x35 : Int) : Bool :=
  [].all id
noncomputable def c110200 (x19 : Int) (x28 : Int) (x18 : Int) (x34 : Int) (x35 : Int) : Bool :=
  let x36 := decide (x34 ≥ 4294967296)
  let x37 := IntKind.wrap .u64 (x34 * x19)
  let x38 := IntKind.wrap .u64 (4294967296 * x35)
  let x39 := IntKind.wrap .u64 (x38 + x28)
  let x40 := decide (x37 > x39)
  let x41 := x36 || x40
  let x43 := IntKind.wrap .u64 (x35 + x18)
  let x44 := decide (x43 ≥ 4294967296)
  let x45 := !x44
  let x46 := x41 && x45
  x46
noncomputable def n110200_0 (_x19 : Int) (_x28 : Int) (_x18 : Int) (x34 : Int) (_x35 : Int) : Int :=
  let x42 := IntKind.wrap .u64 (x34 - 1)
  x42
noncomputable def n110200_1 (_x19 : Int) (_x28 : Int) (x18 : Int) (_x34 : Int) (x35 : Int) : Int :=
  let x43 := IntKind.wrap .u64 (x35 + x18)
  x43
noncomputable def t110200_0 (_x19 : Int) (_x28 : Int) (_x18 : Int) (_x34 : Int) (_x35 : Int) : Int :=
  0
noncomputable def t110200_1 (x19 : Int) (x28 : Int) (_x18 : Int) (x34 : Int) (x35 : Int) : Int :=
  let x36 := decide (x34 ≥ 4294967296)
  let x37 := IntKind.wrap .u64 (x34 * x19)
  let x38 := IntKind.wrap .u64 (4294967296 * x35)
  let x39 := IntKind.wrap .u64 (x38 + x28)
  let x40 := decide (x37 > x39)
  let x41 := x36 || x40
  let x42 := IntKind.wrap .u64 (x34 - 1)
  let x47 := bif x41 then x42 else x34
  x47
noncomputable def t110200_2 (x19 : Int) (x28 : Int) (x18 : Int) (x34 : Int) (x35 : Int) : Int :=
  let x36 := decide (x34 ≥ 4294967296)
  let x37 := IntKind.wrap .u64 (x34 * x19)
  let x38 := IntKind.wrap .u64 (4294967296 * x35)
  let x39 := IntKind.wrap .u64 (x38 + x28)
  let x40 := decide (x37 > x39)
  let x41 := x36 || x40
  let x43 := IntKind.wrap .u64 (x35 + x18)
  let x48 := bif x41 then x43 else x35
  x48
noncomputable def W110200 (ds : List DV) : Bool := w110200 (dget ds 0).toI (dget ds 1).toI (dget ds 2).toI (dget ds 3).toI (dget ds 4).toI
noncomputable def C110200 (ds : List DV) : Bool := c110200 (dget ds 0).toI (dget ds 1).toI (dget ds 2).toI (dget ds 3).toI (dget ds 4).toI
noncomputable def N110200 (ds : List DV) : List DV := [.i (dget ds 0).toI, .i (dget ds 1).toI, .i (dget ds 2).toI, .i (n110200_0 (dget ds 0).toI (dget ds 1).toI (dget ds 2).toI (dget ds 3).toI (dget ds 4).toI), .i (n110200_1 (dget ds 0).toI (dget ds 1).toI (dget ds 2).toI (dget ds 3).toI (dget ds 4).toI)]
noncomputable def T110200 (ds : List DV) : List DV := [.i (t110200_0 (dget ds 0).toI (dget ds 1).toI (dget ds 2).toI (dget ds 3).toI (dget ds 4).toI), .i (t110200_1 (dget ds 0).toI (dget ds 1).toI (dget ds 2).toI (dget ds 3).toI (dget ds 4).toI), .i (t110200_2 (dget ds 0).toI (dget ds 1).toI (dget ds 2).toI (dget ds 3).toI (dget ds 4).toI)]
noncomputable def L110200 (x0 : Int) (x1 : Int) (x2 : Int) (x3 : Int) (x4 : Int) : Option (List DV) := loopG W110200 C110200 N110200 T110200 [.i x0, .i x1, .i x2, .i x3, .i x4]
noncomputable def p110200 (x0 : Int) (x1 : Int) (x2 : Int) (x3 : Int) (x4 : Int) : Bool := (L110200 x0 x1 x2 x3 x4).isSome
noncomputable def r110200_0 (x0 : Int) (x1 : Int) (x2 : Int) (x3 : Int) (x4 : Int) : Int := (dget ((L110200 x0 x1 x2 x3 x4).getD []) 0).toI
noncomputable def r110200_1 (x0 : Int) (x1 : Int) (x2 : Int) (x3 : Int) (x4 : Int) : Int := (dget ((L110200 x0 x1 x2 x3 x4).getD []) 1).toI
noncomputable def r110200_2 (x0 : Int) (x1 : Int) (x2 : Int) (x3 : Int) (x4 : Int) : Int := (dget ((L110200 x0 x1 x2 x3 x4).getD []) 2).toI
noncomputable def g110200 (ds : List DV) : List DV := [.b (p110200 (dget ds 0).toI (dget ds 1).toI (dget ds 2).toI (dget ds 3).toI (dget ds 4).toI), .i (r110200_0 (dget ds 0).toI (dget ds 1).toI (dget ds 2).toI (dget ds 3).toI (dget ds 4).toI), .i (r110200_1 (dget ds 0).toI (dget ds 1).toI (dget ds 2).toI (dget ds 3).toI (dget ds 4).toI), .i (r110200_2 (dget ds 0).toI (dget ds 1).toI (dget ds 2).toI (dget ds 3).toI (dget ds 4).toI)]
def l102_0 : LR := ⟨110200, 34, 2, [19, 28, 18], [(36, .geq (.r 34) (.z 4294967296)), (37, .mul .u64 (.r 34) (.r 19)), (38, .mul .u64 (.z 4294967296) (.r 35)), (39, .add .u64 (.r 38) (.r 28)), (40, .gtr (.r 37) (.r 39)), (41, .or (.r 36) (.r 40)), (42, .sub .u64 (.r 34) (.z 1)), (43, .add .u64 (.r 35) (.r 18)), (44, .geq (.r 43) (.z 4294967296)), (45, .not (.r 44)), (46, .and (.r 41) (.r 45)), (47, .itei (.r 41) (.r 42) (.r 34)), (48, .itei (.r 41) (.r 43) (.r 35))], [], .r 46, [.r 42, .r 43], [.z 0, .r 47, .r 48], [.i, .i]⟩
def l102_1 : LR := ⟨110202, 46, 2, [19, 29, 18], [(48, .geq (.r 47) (.z 4294967296)), (49, .mul .u64 (.r 47) (.r 19)), (50, .mul .u64 (.z 4294967296) (.r 46)), (51, .add .u64 (.r 50) (.r 29)), (52, .gtr (.r 49) (.r 51)), (53, .or (.r 48) (.r 52)), (54, .sub .u64 (.r 47) (.z 1)), (55, .add .u64 (.r 46) (.r 18)), (56, .geq (.r 55) (.z 4294967296)), (57, .not (.r 56)), (58, .and (.r 53) (.r 57)), (59, .itei (.r 53) (.r 55) (.r 46)), (60, .itei (.r 53) (.r 54) (.r 47))], [], .r 58, [.r 55, .r 54], [.z 0, .r 59, .r 60], [.i, .i]⟩
def s102 : Sig := ⟨[.s (.one (.i .u64 (.h 0))), .s (.one (.i .u64 (.h 1))), .s (.one (.i .u64 (.h 2)))], [], [.i, .i, .i], .t [.one (.i .u64 (.h 0)), .one (.i .u64 (.h 1))], [], [.i, .i], true⟩
def o102 : Out := ⟨List.append (List.append (List.append (List.append ([(3, .eql (.r 2) (.z 0)), (4, .not (.r 3)), (5, .leq (.r 2) (.r 0)), (6, .not (.r 5)), (7, .eql (.r 0) (.z 0)), (8, .neq (.r 2) (.z 0)), (9, .quo .u64 (.r 1) (.r 2)), (10, .neq (.r 2) (.z 0)), (11, .rem .u64 (.r 1) (.r 2)), (12, .not (.r 7)), (13, .call 115 [.r 2] 0), (14, .call 115 [.r 2] 1), (15, .conv .u64 (.r 14)), (16, .geq (.r 15) (.z 0)), (17, .shl .u64 (.r 2) (.r 15)), (18, .shr .u64 (.r 17) (.z 32)), (19, .land .u64 (.r 17) (.z 4294967295)), (20, .geq (.r 15) (.z 0)), (21, .shl .u64 (.r 0) (.r 15)), (22, .sub .u64 (.z 64) (.r 15)), (23, .geq (.r 22) (.z 0)), (24, .shr .u64 (.r 1) (.r 22)), (25, .lor .u64 (.r 21) (.r 24)), (26, .geq (.r 15) (.z 0)), (27, .shl .u64 (.r 1) (.r 15)), (28, .shr .u64 (.r 27) (.z 32)), (29, .land .u64 (.r 27) (.z 4294967295)), (30, .neq (.r 18) (.z 0)), (31, .quo .u64 (.r 25) (.r 18)), (32, .mul .u64 (.r 31) (.r 18)), (33, .sub .u64 (.r 25) (.r 32))]) (callsAt 34 110200 [.r 19, .r 28, .r 18, .r 31, .r 33] 0 4)) ([(38, .mul .u64 (.r 25) (.z 4294967296)), (39, .add .u64 (.r 38) (.r 28)), (40, .mul .u64 (.r 36) (.r 17)), (41, .sub .u64 (.r 39) (.r 40)), (42, .neq (.r 18) (.z 0)), (43, .quo .u64 (.r 41) (.r 18)), (44, .mul .u64 (.r 43) (.r 18)), (45, .sub .u64 (.r 41) (.r 44))])) (callsAt 46 110202 [.r 19, .r 29, .r 18, .r 45, .r 43] 0 4)) ([(50, .mul .u64 (.r 36) (.z 4294967296)), (51, .add .u64 (.r 50) (.r 49)), (52, .mul .u64 (.r 41) (.z 4294967296)), (53, .add .u64 (.r 52) (.r 29)), (54, .mul .u64 (.r 49) (.r 17)), (55, .sub .u64 (.r 53) (.r 54)), (56, .geq (.r 15) (.z 0)), (57, .shr .u64 (.r 55) (.r 15)), (58, .itei (.r 12) (.r 51) (.r 9)), (59, .itei (.r 12) (.r 57) (.r 11))]),
  [⟨[], .r 4⟩, ⟨[], .r 6⟩, ⟨[(.r 7, true)], .r 8⟩, ⟨[(.r 7, true)], .r 10⟩, ⟨[(.r 12, true)], .r 13⟩, ⟨[(.r 12, true)], .r 16⟩, ⟨[(.r 12, true)], .r 20⟩, ⟨[(.r 12, true)], .r 23⟩, ⟨[(.r 12, true)], .r 26⟩, ⟨[(.r 12, true)], .r 30⟩, ⟨[(.r 12, true)], .r 34⟩, ⟨[(.r 12, true)], .r 42⟩, ⟨[(.r 12, true)], .r 46⟩, ⟨[(.r 12, true)], .r 56⟩],
  [l102_0, l102_1],
  [.r 58, .r 59]⟩
noncomputable def p102 (x0 : Int) (x1 : Int) (x2 : Int) : Bool :=
  let x3 := x2 == 0
  let x4 := !x3
  let x5 := decide (x2 ≤ x0)
  let x6 := !x5
  let x7 := x0 == 0
  let x8 := x2 != 0
  let x10 := x2 != 0
  let x12 := !x7
  let x13 := p115 x2
  let x14 := r115_0 x2
  let x15 := IntKind.wrap .u64 x14
  let x16 := decide (x15 ≥ 0)
  let x17 := ishl .u64 x2 x15
  let x18 := ishr .u64 x17 32
  let x19 := iland .u64 x17 4294967295
  let x20 := decide (x15 ≥ 0)
  let x21 := ishl .u64 x0 x15
  let x22 := IntKind.wrap .u64 (64 - x15)
  let x23 := decide (x22 ≥ 0)
  let x24 := ishr .u64 x1 x22
  let x25 := ilor .u64 x21 x24
  let x26 := decide (x15 ≥ 0)
  let x27 := ishl .u64 x1 x15
  let x28 := ishr .u64 x27 32
  let x29 := iland .u64 x27 4294967295
  let x30 := x18 != 0
  let x31 := IntKind.wrap .u64 (Int.tdiv x25 x18)
  let x32 := IntKind.wrap .u64 (x31 * x18)
  let x33 := IntKind.wrap .u64 (x25 - x32)
  let x34 := p110200 x19 x28 x18 x31 x33
  let x36 := r110200_1 x19 x28 x18 x31 x33
  let x38 := IntKind.wrap .u64 (x25 * 4294967296)
  let x39 := IntKind.wrap .u64 (x38 + x28)
  let x40 := IntKind.wrap .u64 (x36 * x17)
  let x41 := IntKind.wrap .u64 (x39 - x40)
  let x42 := x18 != 0
  let x43 := IntKind.wrap .u64 (Int.tdiv x41 x18)
  let x44 := IntKind.wrap .u64 (x43 * x18)
  let x45 := IntKind.wrap .u64 (x41 - x44)
  let x46 := p110202 x19 x29 x18 x45 x43
  let x56 := decide (x15 ≥ 0)
  [ow [] x4, ow [] x6, ow [(x7, true)] x8, ow [(x7, true)] x10, ow [(x12, true)] x13, ow [(x12, true)] x16, ow [(x12, true)] x20, ow [(x12, true)] x23, ow [(x12, true)] x26, ow [(x12, true)] x30, ow [(x12, true)] x34, ow [(x12, true)] x42, ow [(x12, true)] x46, ow [(x12, true)] x56].all id
noncomputable def r102_0 (x0 : Int) (x1 : Int) (x2 : Int) : Int :=
  let x7 := x0 == 0
  let x9 := IntKind.wrap .u64 (Int.tdiv x1 x2)
  let x12 := !x7
  let x14 := r115_0 x2
  let x15 := IntKind.wrap .u64 x14
  let x17 := ishl .u64 x2 x15
  let x18 := ishr .u64 x17 32
  let x19 := iland .u64 x17 4294967295
  let x21 := ishl .u64 x0 x15
  let x22 := IntKind.wrap .u64 (64 - x15)
  let x24 := ishr .u64 x1 x22
  let x25 := ilor .u64 x21 x24
  let x27 := ishl .u64 x1 x15
  let x28 := ishr .u64 x27 32
  let x29 := iland .u64 x27 4294967295
  let x31 := IntKind.wrap .u64 (Int.tdiv x25 x18)
  let x32 := IntKind.wrap .u64 (x31 * x18)
  let x33 := IntKind.wrap .u64 (x25 - x32)
  let x36 := r110200_1 x19 x28 x18 x31 x33
  let x38 := IntKind.wrap .u64 (x25 * 4294967296)
  let x39 := IntKind.wrap .u64 (x38 + x28)
  let x40 := IntKind.wrap .u64 (x36 * x17)
  let x41 := IntKind.wrap .u64 (x39 - x40)
  let x43 := IntKind.wrap .u64 (Int.tdiv x41 x18)
  let x44 := IntKind.wrap .u64 (x43 * x18)
  let x45 := IntKind.wrap .u64 (x41 - x44)
  let x49 := r110202_2 x19 x29 x18 x45 x43
  let x50 := IntKind.wrap .u64 (x36 * 4294967296)
  let x51 := IntKind.wrap .u64 (x50 + x49)
  let x58 := bif x12 then x51 else x9
  x58
noncomputable def r102_1 (x0 : Int) (x1 : Int) (x2 : Int) : Int :=
  let x7 := x0 == 0
  let x11 := Int.tmod x1 x2
  let x12 := !x7
  let x14 := r115_0 x2
  let x15 := IntKind.wrap .u64 x14
  let x17 := ishl .u64 x2 x15
  let x18 := ishr .u64 x17 32
  let x19 := iland .u64 x17 4294967295
  let x21 := ishl .u64 x0 x15
  let x22 := IntKind.wrap .u64 (64 - x15)
  let x24 := ishr .u64 x1 x22
  let x25 := ilor .u64 x21 x24
  let x27 := ishl .u64 x1 x15
  let x28 := ishr .u64 x27 32
  let x29 := iland .u64 x27 4294967295
  let x31 := IntKind.wrap .u64 (Int.tdiv x25 x18)
  let x32 := IntKind.wrap .u64 (x31 * x18)
  let x33 := IntKind.wrap .u64 (x25 - x32)
  let x36 := r110200_1 x19 x28 x18 x31 x33
  let x38 := IntKind.wrap .u64 (x25 * 4294967296)
  let x39 := IntKind.wrap .u64 (x38 + x28)
  let x40 := IntKind.wrap .u64 (x36 * x17)
  let x41 := IntKind.wrap .u64 (x39 - x40)
  let x43 := IntKind.wrap .u64 (Int.tdiv x41 x18)
  let x44 := IntKind.wrap .u64 (x43 * x18)
  let x45 := IntKind.wrap .u64 (x41 - x44)
  let x49 := r110202_2 x19 x29 x18 x45 x43
  let x52 := IntKind.wrap .u64 (x41 * 4294967296)
  let x53 := IntKind.wrap .u64 (x52 + x29)
  let x54 := IntKind.wrap .u64 (x49 * x17)
  let x55 := IntKind.wrap .u64 (x53 - x54)
  let x57 := ishr .u64 x55 x15
  let x59 := bif x12 then x57 else x11
  x59
noncomputable def g102 (ds : List DV) : List DV := [.b (p102 (dget ds 0).toI (dget ds 1).toI (dget ds 2).toI), .i (r102_0 (dget ds 0).toI (dget ds 1).toI (dget ds 2).toI), .i (r102_1 (dget ds 0).toI (dget ds 1).toI (dget ds 2).toI)]
def S102 : Sigs := ⟨[(115, s115)], [], [(0, 110200), (2, 110202)], 0⟩

def s121 : Sig := ⟨[.s (.agg [.i .u64 (.h 0), .i .u64 (.h 1)])], [], [.i, .i], .s (.one (.i .i64 (.h 0))), [], [.i], true⟩
def o121 : Out := ⟨[(2, .eql (.r 0) (.z 0)), (3, .call 115 [.r 1] 0), (4, .call 115 [.r 1] 1), (5, .add .i64 (.z 64) (.r 4)), (6, .not (.r 2)), (7, .call 115 [.r 0] 0), (8, .call 115 [.r 0] 1), (9, .itei (.r 6) (.r 8) (.r 5))],
  [⟨[(.r 2, true)], .r 3⟩, ⟨[(.r 6, true)], .r 7⟩],
  [],
  [.r 9]⟩
noncomputable def p121 (x0 : Int) (x1 : Int) : Bool :=
  let x2 := x0 == 0
  let x3 := p115 x1
  let x6 := !x2
  let x7 := p115 x0
  [ow [(x2, true)] x3, ow [(x6, true)] x7].all id
noncomputable def r121_0 (x0 : Int) (x1 : Int) : Int :=
  let x2 := x0 == 0
  let x4 := r115_0 x1
  let x5 := IntKind.wrap .i64 (64 + x4)
  let x6 := !x2
  let x8 := r115_0 x0
  let x9 := bif x6 then x8 else x5
  x9
noncomputable def g121 (ds : List DV) : List DV := [.b (p121 (dget ds 0).toI (dget ds 1).toI), .i (r121_0 (dget ds 0).toI (dget ds 1).toI)]
def S121 : Sigs := ⟨[(115, s115)], [], [], 0⟩

def s106 : Sig := ⟨[.s (.agg [.i .u64 (.h 0), .i .u64 (.h 1)]), .s (.one (.i .i64 (.h 2)))], [], [.i, .i, .i], .s (.agg [.i .u64 (.h 0), .i .u64 (.h 1)]), [], [.i, .i], true⟩
def o106 : Out := ⟨[(3, .geq (.r 2) (.z 64)), (4, .sub .i64 (.r 2) (.z 64)), (5, .geq (.r 4) (.z 0)), (6, .shl .u64 (.r 1) (.r 4)), (7, .not (.r 3)), (8, .eql (.r 2) (.z 0)), (9, .not (.r 8)), (10, .geq (.r 2) (.z 0)), (11, .shl .u64 (.r 0) (.r 2)), (12, .sub .i64 (.z 64) (.r 2)), (13, .geq (.r 12) (.z 0)), (14, .shr .u64 (.r 1) (.r 12)), (15, .lor .u64 (.r 11) (.r 14)), (16, .geq (.r 2) (.z 0)), (17, .shl .u64 (.r 1) (.r 2)), (18, .itei (.r 9) (.r 15) (.r 0)), (19, .itei (.r 9) (.r 17) (.r 1)), (20, .itei (.r 7) (.r 18) (.r 6)), (21, .itei (.r 7) (.r 19) (.z 0))],
  [⟨[(.r 3, true)], .r 5⟩, ⟨[(.r 7, true), (.r 9, true)], .r 10⟩, ⟨[(.r 7, true), (.r 9, true)], .r 13⟩, ⟨[(.r 7, true), (.r 9, true)], .r 16⟩],
  [],
  [.r 20, .r 21]⟩
noncomputable def p106 (x2 : Int) : Bool :=
  let x3 := decide (x2 ≥ 64)
  let x4 := IntKind.wrap .i64 (x2 - 64)
  let x5 := decide (x4 ≥ 0)
  let x7 := !x3
  let x8 := x2 == 0
  let x9 := !x8
  let x10 := decide (x2 ≥ 0)
  let x12 := IntKind.wrap .i64 (64 - x2)
  let x13 := decide (x12 ≥ 0)
  let x16 := decide (x2 ≥ 0)
  [ow [(x3, true)] x5, ow [(x7, true), (x9, true)] x10, ow [(x7, true), (x9, true)] x13, ow [(x7, true), (x9, true)] x16].all id
noncomputable def r106_0 (x0 : Int) (x1 : Int) (x2 : Int) : Int :=
  let x3 := decide (x2 ≥ 64)
  let x4 := IntKind.wrap .i64 (x2 - 64)
  let x6 := ishl .u64 x1 x4
  let x7 := !x3
  let x8 := x2 == 0
  let x9 := !x8
  let x11 := ishl .u64 x0 x2
  let x12 := IntKind.wrap .i64 (64 - x2)
  let x14 := ishr .u64 x1 x12
  let x15 := ilor .u64 x11 x14
  let x18 := bif x9 then x15 else x0
  let x20 := bif x7 then x18 else x6
  x20
noncomputable def r106_1 (x1 : Int) (x2 : Int) : Int :=
  let x3 := decide (x2 ≥ 64)
  let x7 := !x3
  let x8 := x2 == 0
  let x9 := !x8
  let x17 := ishl .u64 x1 x2
  let x19 := bif x9 then x17 else x1
  let x21 := bif x7 then x19 else 0
  x21
noncomputable def g106 (ds : List DV) : List DV := [.b (p106 (dget ds 2).toI), .i (r106_0 (dget ds 0).toI (dget ds 1).toI (dget ds 2).toI), .i (r106_1 (dget ds 1).toI (dget ds 2).toI)]
def S106 : Sigs := ⟨[], [], [], 0⟩

def s123 : Sig := ⟨[.s (.agg [.i .u64 (.h 0), .i .u64 (.h 1)]), .s (.one (.i .i64 (.h 2)))], [], [.i, .i, .i], .s (.agg [.i .u64 (.h 0), .i .u64 (.h 1)]), [], [.i, .i], true⟩
def o123 : Out := ⟨[(3, .leq (.r 2) (.z 0)), (4, .geq (.r 2) (.z 128)), (5, .eql (.r 0) (.z 0)), (6, .eql (.r 1) (.z 0)), (7, .and (.r 5) (.r 6)), (8, .not (.r 7)), (9, .not (.r 8)), (10, .geq (.r 2) (.z 64)), (11, .sub .i64 (.r 2) (.z 64)), (12, .geq (.r 11) (.z 0)), (13, .shr .u64 (.r 0) (.r 11)), (14, .neq (.r 1) (.z 0)), (15, .gtr (.r 2) (.z 64)), (16, .sub .i64 (.z 128) (.r 2)), (17, .geq (.r 16) (.z 0)), (18, .shl .u64 (.r 0) (.r 16)), (19, .neq (.r 18) (.z 0)), (20, .and (.r 15) (.r 19)), (21, .or (.r 14) (.r 20)), (22, .lor .u64 (.r 13) (.z 1)), (23, .itei (.r 21) (.r 22) (.r 13)), (24, .not (.r 10)), (25, .iteb (.r 4) (.t false) (.r 24)), (26, .iteb (.r 3) (.t false) (.r 25)), (27, .geq (.r 2) (.z 0)), (28, .shr .u64 (.r 0) (.r 2)), (29, .geq (.r 2) (.z 0)), (30, .shr .u64 (.r 1) (.r 2)), (31, .sub .i64 (.z 64) (.r 2)), (32, .geq (.r 31) (.z 0)), (33, .shl .u64 (.r 0) (.r 31)), (34, .lor .u64 (.r 30) (.r 33)), (35, .sub .i64 (.z 64) (.r 2)), (36, .geq (.r 35) (.z 0)), (37, .shl .u64 (.r 1) (.r 35)), (38, .neq (.r 37) (.z 0)), (39, .lor .u64 (.r 34) (.z 1)), (40, .itei (.r 38) (.r 39) (.r 34)), (41, .itei (.r 9) (.r 0) (.z 0)), (42, .itei (.r 9) (.r 1) (.z 1)), (43, .itei (.r 4) (.r 41) (.z 0)), (44, .itei (.r 4) (.r 42) (.r 23)), (45, .itei (.r 3) (.r 0) (.r 43)), (46, .itei (.r 3) (.r 1) (.r 44)), (47, .itei (.r 26) (.r 28) (.r 45)), (48, .itei (.r 26) (.r 40) (.r 46))],
  [⟨[(.r 3, false), (.r 4, false), (.r 10, true)], .r 12⟩, ⟨[(.r 3, false), (.r 4, false), (.r 10, true), (.r 15, true), (.r 14, false)], .r 17⟩, ⟨[(.r 26, true)], .r 27⟩, ⟨[(.r 26, true)], .r 29⟩, ⟨[(.r 26, true)], .r 32⟩, ⟨[(.r 26, true)], .r 36⟩],
  [],
  [.r 47, .r 48]⟩
noncomputable def p123 (x1 : Int) (x2 : Int) : Bool :=
  let x3 := decide (x2 ≤ 0)
  let x4 := decide (x2 ≥ 128)
  let x10 := decide (x2 ≥ 64)
  let x11 := IntKind.wrap .i64 (x2 - 64)
  let x12 := decide (x11 ≥ 0)
  let x14 := x1 != 0
  let x15 := decide (x2 > 64)
  let x16 := IntKind.wrap .i64 (128 - x2)
  let x17 := decide (x16 ≥ 0)
  let x24 := !x10
  let x25 := bif x4 then false else x24
  let x26 := bif x3 then false else x25
  let x27 := decide (x2 ≥ 0)
  let x29 := decide (x2 ≥ 0)
  let x31 := IntKind.wrap .i64 (64 - x2)
  let x32 := decide (x31 ≥ 0)
  let x35 := IntKind.wrap .i64 (64 - x2)
  let x36 := decide (x35 ≥ 0)
  [ow [(x3, false), (x4, false), (x10, true)] x12, ow [(x3, false), (x4, false), (x10, true), (x15, true), (x14, false)] x17, ow [(x26, true)] x27, ow [(x26, true)] x29, ow [(x26, true)] x32, ow [(x26, true)] x36].all id
noncomputable def r123_0 (x0 : Int) (x1 : Int) (x2 : Int) : Int :=
  let x3 := decide (x2 ≤ 0)
  let x4 := decide (x2 ≥ 128)
  let x5 := x0 == 0
  let x6 := x1 == 0
  let x7 := x5 && x6
  let x8 := !x7
  let x9 := !x8
  let x10 := decide (x2 ≥ 64)
  let x24 := !x10
  let x25 := bif x4 then false else x24
  let x26 := bif x3 then false else x25
  let x28 := ishr .u64 x0 x2
  let x41 := bif x9 then x0 else 0
  let x43 := bif x4 then x41 else 0
  let x45 := bif x3 then x0 else x43
  let x47 := bif x26 then x28 else x45
  x47
noncomputable def r123_1 (x0 : Int) (x1 : Int) (x2 : Int) : Int :=
  let x3 := decide (x2 ≤ 0)
  let x4 := decide (x2 ≥ 128)
  let x5 := x0 == 0
  let x6 := x1 == 0
  let x7 := x5 && x6
  let x8 := !x7
  let x9 := !x8
  let x10 := decide (x2 ≥ 64)
  let x11 := IntKind.wrap .i64 (x2 - 64)
  let x13 := ishr .u64 x0 x11
  let x14 := x1 != 0
  let x15 := decide (x2 > 64)
  let x16 := IntKind.wrap .i64 (128 - x2)
  let x18 := ishl .u64 x0 x16
  let x19 := x18 != 0
  let x20 := x15 && x19
  let x21 := x14 || x20
  let x22 := ilor .u64 x13 1
  let x23 := bif x21 then x22 else x13
  let x24 := !x10
  let x25 := bif x4 then false else x24
  let x26 := bif x3 then false else x25
  let x30 := ishr .u64 x1 x2
  let x31 := IntKind.wrap .i64 (64 - x2)
  let x33 := ishl .u64 x0 x31
  let x34 := ilor .u64 x30 x33
  let x35 := IntKind.wrap .i64 (64 - x2)
  let x37 := ishl .u64 x1 x35
  let x38 := x37 != 0
  let x39 := ilor .u64 x34 1
  let x40 := bif x38 then x39 else x34
  let x42 := bif x9 then x1 else 1
  let x44 := bif x4 then x42 else x23
  let x46 := bif x3 then x1 else x44
  let x48 := bif x26 then x40 else x46
  x48
noncomputable def g123 (ds : List DV) : List DV := [.b (p123 (dget ds 1).toI (dget ds 2).toI), .i (r123_0 (dget ds 0).toI (dget ds 1).toI (dget ds 2).toI), .i (r123_1 (dget ds 0).toI (dget ds 1).toI (dget ds 2).toI)]
def S123 : Sigs := ⟨[], [], [], 0⟩

def s127 : Sig := ⟨[.s (.one (.i .i64 (.h 0))), .s (.one (.b (.h 1))), .s (.one (.b (.h 2))), .s (.one (.i .u64 (.h 3))), .s (.one (.i .u64 (.h 4)))], [], [.i, .b, .b, .i, .i], .s (.one (.b (.h 0))), [], [.b], false⟩
def o127 : Out := ⟨[(5, .eql (.r 0) (.z 0)), (6, .gtr (.r 3) (.r 4)), (7, .eql (.r 3) (.r 4)), (8, .and (.r 7) (.r 2)), (9, .or (.r 6) (.r 8)), (10, .eql (.r 0) (.z 2)), (11, .neq (.r 3) (.z 0)), (12, .and (.r 1) (.r 11)), (13, .eql (.r 0) (.z 3)), (14, .not (.r 1)), (15, .neq (.r 3) (.z 0)), (16, .and (.r 14) (.r 15)), (17, .eql (.r 0) (.z 4)), (18, .geq (.r 3) (.r 4)), (19, .not (.r 17)), (20, .iteb (.r 13) (.t false) (.r 19)), (21, .iteb (.r 10) (.t false) (.r 20)), (22, .iteb (.r 5) (.t false) (.r 21)), (23, .iteb (.r 13) (.r 16) (.r 18)), (24, .iteb (.r 10) (.r 12) (.r 23)), (25, .iteb (.r 5) (.r 9) (.r 24)), (26, .iteb (.r 22) (.t false) (.r 25))],
  [],
  [],
  [.r 26]⟩
noncomputable def r127_0 (x0 : Int) (x1 : Bool) (x2 : Bool) (x3 : Int) (x4 : Int) : Bool :=
  let x5 := x0 == 0
  let x6 := decide (x3 > x4)
  let x7 := x3 == x4
  let x8 := x7 && x2
  let x9 := x6 || x8
  let x10 := x0 == 2
  let x11 := x3 != 0
  let x12 := x1 && x11
  let x13 := x0 == 3
  let x14 := !x1
  let x15 := x3 != 0
  let x16 := x14 && x15
  let x17 := x0 == 4
  let x18 := decide (x3 ≥ x4)
  let x19 := !x17
  let x20 := bif x13 then false else x19
  let x21 := bif x10 then false else x20
  let x22 := bif x5 then false else x21
  let x23 := bif x13 then x16 else x18
  let x24 := bif x10 then x12 else x23
  let x25 := bif x5 then x9 else x24
  let x26 := bif x22 then false else x25
  x26
noncomputable def g127 (ds : List DV) : List DV := [.b (r127_0 (dget ds 0).toI (dget ds 1).toB (dget ds 2).toB (dget ds 3).toI (dget ds 4).toI)]
def S127 : Sigs := ⟨[], [], [], 0⟩

def s122 : Sig := ⟨[.s (.one (.i .i64 (.h 0))), .s (.one (.b (.h 1))), .s (.one (.i .u64 (.h 2))), .s (.one (.i .i64 (.h 3)))], [], [.i, .b, .i, .i], .t [.one (.i .u64 (.h 0)), .one (.b (.h 1))], [], [.i, .b], true⟩
def o122 : Out := ⟨[(4, .gtr (.r 3) (.z 64)), (5, .itei (.r 4) (.z 1) (.r 2)), (6, .itei (.r 4) (.z 2) (.r 3)), (7, .eql (.r 6) (.z 64)), (8, .call 127 [.r 0, .r 1, .t false, .r 5, .z 9223372036854775808] 0), (9, .itei (.r 8) (.z 1) (.z 0)), (10, .eql (.r 5) (.z 0)), (11, .not (.r 7)), (12, .geq (.r 6) (.z 0)), (13, .shl .u64 (.z 1) (.r 6)), (14, .sub .u64 (.r 13) (.z 1)), (15, .land .u64 (.r 5) (.r 14)), (16, .geq (.r 6) (.z 0)), (17, .shr .u64 (.r 5) (.r 6)), (18, .land .u64 (.r 17) (.z 1)), (19, .eql (.r 18) (.z 1)), (20, .sub .i64 (.r 6) (.z 1)), (21, .geq (.r 20) (.z 0)), (22, .shl .u64 (.z 1) (.r 20)), (23, .call 127 [.r 0, .r 1, .r 19, .r 15, .r 22] 0), (24, .add .u64 (.r 17) (.z 1)), (25, .itei (.r 23) (.r 24) (.r 17)), (26, .eql (.r 15) (.z 0)), (27, .itei (.r 11) (.r 25) (.r 9)), (28, .iteb (.r 11) (.r 26) (.r 10))],
  [⟨[(.r 11, true)], .r 12⟩, ⟨[(.r 11, true)], .r 16⟩, ⟨[(.r 11, true)], .r 21⟩],
  [],
  [.r 27, .r 28]⟩
noncomputable def p122 (x3 : Int) : Bool :=
  let x4 := decide (x3 > 64)
  let x6 := bif x4 then 2 else x3
  let x7 := x6 == 64
  let x11 := !x7
  let x12 := decide (x6 ≥ 0)
  let x16 := decide (x6 ≥ 0)
  let x20 := IntKind.wrap .i64 (x6 - 1)
  let x21 := decide (x20 ≥ 0)
  [ow [(x11, true)] x12, ow [(x11, true)] x16, ow [(x11, true)] x21].all id
noncomputable def r122_0 (x0 : Int) (x1 : Bool) (x2 : Int) (x3 : Int) : Int :=
  let x4 := decide (x3 > 64)
  let x5 := bif x4 then 1 else x2
  let x6 := bif x4 then 2 else x3
  let x7 := x6 == 64
  let x8 := r127_0 x0 x1 false x5 9223372036854775808
  let x9 : Int := bif x8 then 1 else 0
  let x11 := !x7
  let x13 := ishl .u64 1 x6
  let x14 := IntKind.wrap .u64 (x13 - 1)
  let x15 := iland .u64 x5 x14
  let x17 := ishr .u64 x5 x6
  let x18 := iland .u64 x17 1
  let x19 := x18 == 1
  let x20 := IntKind.wrap .i64 (x6 - 1)
  let x22 := ishl .u64 1 x20
  let x23 := r127_0 x0 x1 x19 x15 x22
  let x24 := IntKind.wrap .u64 (x17 + 1)
  let x25 := bif x23 then x24 else x17
  let x27 := bif x11 then x25 else x9
  x27
noncomputable def r122_1 (x2 : Int) (x3 : Int) : Bool :=
  let x4 := decide (x3 > 64)
  let x5 := bif x4 then 1 else x2
  let x6 := bif x4 then 2 else x3
  let x7 := x6 == 64
  let x10 := x5 == 0
  let x11 := !x7
  let x13 := ishl .u64 1 x6
  let x14 := IntKind.wrap .u64 (x13 - 1)
  let x15 := iland .u64 x5 x14
  let x26 := x15 == 0
  let x28 := bif x11 then x26 else x10
  x28
noncomputable def g122 (ds : List DV) : List DV := [.b (p122 (dget ds 3).toI), .i (r122_0 (dget ds 0).toI (dget ds 1).toB (dget ds 2).toI (dget ds 3).toI), .b (r122_1 (dget ds 2).toI (dget ds 3).toI)]
def S122 : Sigs := ⟨[(127, s127)], [], [], 0⟩

def s98 : Sig := ⟨[.s (.agg [.i .i64 (.h 0), .i .i64 (.h 1), .i .u64 (.h 2)]), .s (.one (.i .i64 (.h 3))), .s (.one (.b (.h 4))), .s (.one (.i .i64 (.h 5))), .s (.agg [.i .u64 (.h 6), .i .u64 (.h 7)])], [], [.i, .i, .i, .i, .b, .i, .i, .i], .t [.one (.i .u64 (.h 0)), .one (.i .i64 (.h 1))], [], [.i, .i], true⟩
def o98 : Out := ⟨List.append (List.append (List.append (List.append (List.append (List.append ([(8, .call 121 [.r 6, .r 7] 0), (9, .call 121 [.r 6, .r 7] 1)]) (callsAt 10 106 [.r 6, .r 7, .r 9] 0 3)) ([(13, .sub .i64 (.z 64) (.r 9)), (14, .add .i64 (.r 5) (.r 13)), (15, .neq (.r 12) (.z 0)), (16, .lor .u64 (.r 11) (.z 1)), (17, .itei (.r 15) (.r 16) (.r 11)), (18, .sub .i64 (.z 63) (.r 0)), (19, .sub .i64 (.z 1) (.r 1)), (20, .sub .i64 (.r 19) (.r 0)), (21, .add .i64 (.r 14) (.r 18)), (22, .lss (.r 21) (.r 20))])) (callsAt 23 122 [.r 3, .r 4, .r 17, .r 18] 0 3)) ([(26, .add .i64 (.r 14) (.r 18)), (27, .sub .i64 (.r 20) (.z 1)), (28, .lss (.r 26) (.r 27)), (29, .geq (.r 0) (.z 0)), (30, .shl .u64 (.z 2) (.r 0)), (31, .lss (.r 24) (.r 30)), (32, .or (.r 28) (.r 31)), (33, .sub .i64 (.r 20) (.r 14)), (34, .itei (.r 22) (.r 33) (.r 18)), (35, .and (.r 22) (.r 32))])) (callsAt 36 122 [.r 3, .r 4, .r 17, .r 34] 0 3)) ([(39, .not (.r 38)), (40, .itei (.r 35) (.z 3) (.z 1)), (41, .itei (.r 39) (.r 40) (.z 0)), (42, .geq (.r 0) (.z 0)), (43, .shl .u64 (.z 2) (.r 0)), (44, .eql (.r 37) (.r 43)), (45, .shr .u64 (.r 37) (.z 1)), (46, .add .i64 (.r 34) (.z 1)), (47, .itei (.r 44) (.r 46) (.r 34)), (48, .itei (.r 44) (.r 45) (.r 37)), (49, .geq (.r 0) (.z 0)), (50, .shl .u64 (.z 1) (.r 0)), (51, .lss (.r 48) (.r 50)), (52, .call 95 [.r 0, .r 1, .r 2, .r 4, .r 48] 0), (53, .not (.r 51)), (54, .add .i64 (.r 14) (.r 47)), (55, .sub .i64 (.r 54) (.r 20)), (56, .add .i64 (.r 55) (.z 1)), (57, .mul .i64 (.z 2) (.r 1)), (58, .gtr (.r 56) (.r 57)), (59, .eql (.r 3) (.z 1)), (60, .eql (.r 3) (.z 2)), (61, .not (.r 4)), (62, .and (.r 60) (.r 61)), (63, .or (.r 59) (.r 62)), (64, .eql (.r 3) (.z 3)), (65, .and (.r 64) (.r 4)), (66, .or (.r 63) (.r 65)), (67, .call 96 [.r 0, .r 1, .r 2] 0), (68, .call 96 [.r 0, .r 1, .r 2] 1), (69, .sub .u64 (.r 68) (.z 1)), (70, .call 95 [.r 0, .r 1, .r 2, .r 4, .r 69] 0), (71, .not (.r 66)), (72, .call 96 [.r 0, .r 1, .r 2] 0), (73, .call 96 [.r 0, .r 1, .r 2] 1), (74, .call 95 [.r 0, .r 1, .r 2, .r 4, .r 73] 0), (75, .not (.r 58)), (76, .conv .u64 (.r 56)), (77, .geq (.r 0) (.z 0)), (78, .shl .u64 (.r 76) (.r 0)), (79, .geq (.r 0) (.z 0)), (80, .shl .u64 (.z 1) (.r 0)), (81, .landNot .u64 (.r 48) (.r 80)), (82, .lor .u64 (.r 78) (.r 81)), (83, .call 95 [.r 0, .r 1, .r 2, .r 4, .r 82] 0), (84, .itei (.r 71) (.r 74) (.r 70)), (85, .itei (.r 75) (.r 83) (.r 84)), (86, .itei (.r 75) (.r 41) (.z 5)), (87, .itei (.r 53) (.r 85) (.r 52)), (88, .itei (.r 53) (.r 86) (.r 41))]),
  [⟨[], .r 8⟩, ⟨[], .r 10⟩, ⟨[(.r 22, true)], .r 23⟩, ⟨[(.r 22, true), (.r 28, false)], .r 29⟩, ⟨[], .r 36⟩, ⟨[], .r 42⟩, ⟨[], .r 49⟩, ⟨[(.r 53, true), (.r 58, true), (.r 66, true)], .r 67⟩, ⟨[(.r 53, true), (.r 58, true), (.r 71, true)], .r 72⟩, ⟨[(.r 53, true), (.r 75, true)], .r 77⟩, ⟨[(.r 53, true), (.r 75, true)], .r 79⟩],
  [],
  [.r 87, .r 88]⟩
noncomputable def p98 (x0 : Int) (x1 : Int) (x3 : Int) (x4 : Bool) (x5 : Int) (x6 : Int) (x7 : Int) : Bool :=
  let x8 := p121 x6 x7
  let x9 := r121_0 x6 x7
  let x10 := p106 x9
  let x11 := r106_0 x6 x7 x9
  let x12 := r106_1 x7 x9
  let x13 := IntKind.wrap .i64 (64 - x9)
  let x14 := IntKind.wrap .i64 (x5 + x13)
  let x15 := x12 != 0
  let x16 := ilor .u64 x11 1
  let x17 := bif x15 then x16 else x11
  let x18 := IntKind.wrap .i64 (63 - x0)
  let x19 := IntKind.wrap .i64 (1 - x1)
  let x20 := IntKind.wrap .i64 (x19 - x0)
  let x21 := IntKind.wrap .i64 (x14 + x18)
  let x22 := decide (x21 < x20)
  let x23 := p122 x18
  let x26 := IntKind.wrap .i64 (x14 + x18)
  let x27 := IntKind.wrap .i64 (x20 - 1)
  let x28 := decide (x26 < x27)
  let x29 := decide (x0 ≥ 0)
  let x33 := IntKind.wrap .i64 (x20 - x14)
  let x34 := bif x22 then x33 else x18
  let x36 := p122 x34
  let x37 := r122_0 x3 x4 x17 x34
  let x42 := decide (x0 ≥ 0)
  let x43 := ishl .u64 2 x0
  let x44 := x37 == x43
  let x45 := ishr .u64 x37 1
  let x46 := IntKind.wrap .i64 (x34 + 1)
  let x47 := bif x44 then x46 else x34
  let x48 := bif x44 then x45 else x37
  let x49 := decide (x0 ≥ 0)
  let x50 := ishl .u64 1 x0
  let x51 := decide (x48 < x50)
  let x53 := !x51
  let x54 := IntKind.wrap .i64 (x14 + x47)
  let x55 := IntKind.wrap .i64 (x54 - x20)
  let x56 := IntKind.wrap .i64 (x55 + 1)
  let x57 := IntKind.wrap .i64 (2 * x1)
  let x58 := decide (x56 > x57)
  let x59 := x3 == 1
  let x60 := x3 == 2
  let x61 := !x4
  let x62 := x60 && x61
  let x63 := x59 || x62
  let x64 := x3 == 3
  let x65 := x64 && x4
  let x66 := x63 || x65
  let x67 := p96 x0
  let x71 := !x66
  let x72 := p96 x0
  let x75 := !x58
  let x77 := decide (x0 ≥ 0)
  let x79 := decide (x0 ≥ 0)
  [ow [] x8, ow [] x10, ow [(x22, true)] x23, ow [(x22, true), (x28, false)] x29, ow [] x36, ow [] x42, ow [] x49, ow [(x53, true), (x58, true), (x66, true)] x67, ow [(x53, true), (x58, true), (x71, true)] x72, ow [(x53, true), (x75, true)] x77, ow [(x53, true), (x75, true)] x79].all id
noncomputable def r98_0 (x0 : Int) (x1 : Int) (x2 : Int) (x3 : Int) (x4 : Bool) (x5 : Int) (x6 : Int) (x7 : Int) : Int :=
  let x9 := r121_0 x6 x7
  let x11 := r106_0 x6 x7 x9
  let x12 := r106_1 x7 x9
  let x13 := IntKind.wrap .i64 (64 - x9)
  let x14 := IntKind.wrap .i64 (x5 + x13)
  let x15 := x12 != 0
  let x16 := ilor .u64 x11 1
  let x17 := bif x15 then x16 else x11
  let x18 := IntKind.wrap .i64 (63 - x0)
  let x19 := IntKind.wrap .i64 (1 - x1)
  let x20 := IntKind.wrap .i64 (x19 - x0)
  let x21 := IntKind.wrap .i64 (x14 + x18)
  let x22 := decide (x21 < x20)
  let x33 := IntKind.wrap .i64 (x20 - x14)
  let x34 := bif x22 then x33 else x18
  let x37 := r122_0 x3 x4 x17 x34
  let x43 := ishl .u64 2 x0
  let x44 := x37 == x43
  let x45 := ishr .u64 x37 1
  let x46 := IntKind.wrap .i64 (x34 + 1)
  let x47 := bif x44 then x46 else x34
  let x48 := bif x44 then x45 else x37
  let x50 := ishl .u64 1 x0
  let x51 := decide (x48 < x50)
  let x52 := r95_0 x2 x4 x48
  let x53 := !x51
  let x54 := IntKind.wrap .i64 (x14 + x47)
  let x55 := IntKind.wrap .i64 (x54 - x20)
  let x56 := IntKind.wrap .i64 (x55 + 1)
  let x57 := IntKind.wrap .i64 (2 * x1)
  let x58 := decide (x56 > x57)
  let x59 := x3 == 1
  let x60 := x3 == 2
  let x61 := !x4
  let x62 := x60 && x61
  let x63 := x59 || x62
  let x64 := x3 == 3
  let x65 := x64 && x4
  let x66 := x63 || x65
  let x68 := r96_0 x0 x1
  let x69 := IntKind.wrap .u64 (x68 - 1)
  let x70 := r95_0 x2 x4 x69
  let x71 := !x66
  let x73 := r96_0 x0 x1
  let x74 := r95_0 x2 x4 x73
  let x75 := !x58
  let x76 := IntKind.wrap .u64 x56
  let x78 := ishl .u64 x76 x0
  let x80 := ishl .u64 1 x0
  let x81 := ilandNot .u64 x48 x80
  let x82 := ilor .u64 x78 x81
  let x83 := r95_0 x2 x4 x82
  let x84 := bif x71 then x74 else x70
  let x85 := bif x75 then x83 else x84
  let x87 := bif x53 then x85 else x52
  x87
noncomputable def r98_1 (x0 : Int) (x1 : Int) (x3 : Int) (x4 : Bool) (x5 : Int) (x6 : Int) (x7 : Int) : Int :=
  let x9 := r121_0 x6 x7
  let x11 := r106_0 x6 x7 x9
  let x12 := r106_1 x7 x9
  let x13 := IntKind.wrap .i64 (64 - x9)
  let x14 := IntKind.wrap .i64 (x5 + x13)
  let x15 := x12 != 0
  let x16 := ilor .u64 x11 1
  let x17 := bif x15 then x16 else x11
  let x18 := IntKind.wrap .i64 (63 - x0)
  let x19 := IntKind.wrap .i64 (1 - x1)
  let x20 := IntKind.wrap .i64 (x19 - x0)
  let x21 := IntKind.wrap .i64 (x14 + x18)
  let x22 := decide (x21 < x20)
  let x24 := r122_0 x3 x4 x17 x18
  let x26 := IntKind.wrap .i64 (x14 + x18)
  let x27 := IntKind.wrap .i64 (x20 - 1)
  let x28 := decide (x26 < x27)
  let x30 := ishl .u64 2 x0
  let x31 := decide (x24 < x30)
  let x32 := x28 || x31
  let x33 := IntKind.wrap .i64 (x20 - x14)
  let x34 := bif x22 then x33 else x18
  let x35 := x22 && x32
  let x37 := r122_0 x3 x4 x17 x34
  let x38 := r122_1 x17 x34
  let x39 := !x38
  let x40 : Int := bif x35 then 3 else 1
  let x41 := bif x39 then x40 else 0
  let x43 := ishl .u64 2 x0
  let x44 := x37 == x43
  let x45 := ishr .u64 x37 1
  let x46 := IntKind.wrap .i64 (x34 + 1)
  let x47 := bif x44 then x46 else x34
  let x48 := bif x44 then x45 else x37
  let x50 := ishl .u64 1 x0
  let x51 := decide (x48 < x50)
  let x53 := !x51
  let x54 := IntKind.wrap .i64 (x14 + x47)
  let x55 := IntKind.wrap .i64 (x54 - x20)
  let x56 := IntKind.wrap .i64 (x55 + 1)
  let x57 := IntKind.wrap .i64 (2 * x1)
  let x58 := decide (x56 > x57)
  let x75 := !x58
  let x86 := bif x75 then x41 else 5
  let x88 := bif x53 then x86 else x41
  x88
noncomputable def g98 (ds : List DV) : List DV := [.b (p98 (dget ds 0).toI (dget ds 1).toI (dget ds 3).toI (dget ds 4).toB (dget ds 5).toI (dget ds 6).toI (dget ds 7).toI), .i (r98_0 (dget ds 0).toI (dget ds 1).toI (dget ds 2).toI (dget ds 3).toI (dget ds 4).toB (dget ds 5).toI (dget ds 6).toI (dget ds 7).toI), .i (r98_1 (dget ds 0).toI (dget ds 1).toI (dget ds 3).toI (dget ds 4).toB (dget ds 5).toI (dget ds 6).toI (dget ds 7).toI)]
def S98 : Sigs := ⟨[(121, s121), (106, s106), (122, s122), (95, s95), (96, s96)], [], [], 0⟩

def s108 : Sig := ⟨[.s (.agg [.b (.h 0), .b (.h 1), .i .i64 (.h 2), .i .i64 (.h 3), .i .u64 (.h 4)])], [], [.b, .b, .i, .i, .i], .s (.agg [.b (.h 0), .i .i64 (.h 1), .i .u64 (.h 2), .i .u64 (.h 3)]), [], [.b, .i, .i, .i], false⟩
def o108 : Out := ⟨[(5, .eql (.r 2) (.z 0)), (6, .not (.r 5)), (7, .sub .i64 (.r 3) (.z 63)), (8, .shr .u64 (.r 4) (.z 1)), (9, .shl .u64 (.r 4) (.z 63)), (10, .itei (.r 6) (.r 7) (.z 0)), (11, .itei (.r 6) (.r 8) (.z 0)), (12, .itei (.r 6) (.r 9) (.z 0))],
  [],
  [],
  [.r 0, .r 10, .r 11, .r 12]⟩
noncomputable def r108_0 (x0 : Bool) : Bool :=
  x0
noncomputable def r108_1 (x2 : Int) (x3 : Int) : Int :=
  let x5 := x2 == 0
  let x6 := !x5
  let x7 := IntKind.wrap .i64 (x3 - 63)
  let x10 := bif x6 then x7 else 0
  x10
noncomputable def r108_2 (x2 : Int) (x4 : Int) : Int :=
  let x5 := x2 == 0
  let x6 := !x5
  let x8 := ishr .u64 x4 1
  let x11 := bif x6 then x8 else 0
  x11
noncomputable def r108_3 (x2 : Int) (x4 : Int) : Int :=
  let x5 := x2 == 0
  let x6 := !x5
  let x9 := ishl .u64 x4 63
  let x12 := bif x6 then x9 else 0
  x12
noncomputable def g108 (ds : List DV) : List DV := [.b (r108_0 (dget ds 0).toB), .i (r108_1 (dget ds 2).toI (dget ds 3).toI), .i (r108_2 (dget ds 2).toI (dget ds 4).toI), .i (r108_3 (dget ds 2).toI (dget ds 4).toI)]
def S108 : Sigs := ⟨[], [], [], 0⟩

noncomputable def w109400 (x5 : Int) (x4 : List DV) (_x6 : Bool) (_x7 : Bool) (x8 : Int) : Bool :=
  let x9 := decide (x8 < x5)
  let x10 := decide (x8 ≥ 0)
  let x11 := ((x4.length / 5 : Nat) : Int)
  let x12 := decide (x8 < x11)
  [ow [(x9, true)] x10, ow [(x9, true)] x12].all id
noncomputable def c109400 (x5 : Int) (_x4 : List DV) (_x6 : Bool) (_x7 : Bool) (x8 : Int) : Bool :=
  let x9 := decide (x8 < x5)
  x9
noncomputable def n109400_0 (_x5 : Int) (x4 : List DV) (x6 : Bool) (_x7 : Bool) (x8 : Int) : Bool :=
  let x14 : Bool := (x4.getD (Int.toNat x8 * (5 : Nat) + (1 : Nat)) default).toB
  let x15 : Int := (x4.getD (Int.toNat x8 * (5 : Nat) + (2 : Nat)) default).toI
  let x18 := x15 == 3
  let x19 := x6 || x14
  let x20 := bif x18 then x19 else x6
  x20
noncomputable def n109400_1 (_x5 : Int) (x4 : List DV) (_x6 : Bool) (x7 : Bool) (x8 : Int) : Bool :=
  let x15 : Int := (x4.getD (Int.toNat x8 * (5 : Nat) + (2 : Nat)) default).toI
  let x18 := x15 == 3
  let x21 := x18 || x7
  x21
noncomputable def n109400_2 (_x5 : Int) (_x4 : List DV) (_x6 : Bool) (_x7 : Bool) (x8 : Int) : Int :=
  let x22 := IntKind.wrap .i64 (x8 + 1)
  x22
noncomputable def t109400_0 (_x5 : Int) (_x4 : List DV) (_x6 : Bool) (_x7 : Bool) (_x8 : Int) : Int :=
  0
noncomputable def t109400_1 (_x5 : Int) (_x4 : List DV) (x6 : Bool) (_x7 : Bool) (_x8 : Int) : Bool :=
  x6
noncomputable def t109400_2 (_x5 : Int) (_x4 : List DV) (_x6 : Bool) (x7 : Bool) (_x8 : Int) : Bool :=
  x7
noncomputable def t109400_3 (_x5 : Int) (_x4 : List DV) (_x6 : Bool) (_x7 : Bool) (x8 : Int) : Int :=
  x8
noncomputable def W109400 (ds : List DV) : Bool := w109400 (dget ds 0).toI (dget ds 1).toL (dget ds 2).toB (dget ds 3).toB (dget ds 4).toI
noncomputable def C109400 (ds : List DV) : Bool := c109400 (dget ds 0).toI (dget ds 1).toL (dget ds 2).toB (dget ds 3).toB (dget ds 4).toI
noncomputable def N109400 (ds : List DV) : List DV := [.i (dget ds 0).toI, .l (dget ds 1).toL, .b (n109400_0 (dget ds 0).toI (dget ds 1).toL (dget ds 2).toB (dget ds 3).toB (dget ds 4).toI), .b (n109400_1 (dget ds 0).toI (dget ds 1).toL (dget ds 2).toB (dget ds 3).toB (dget ds 4).toI), .i (n109400_2 (dget ds 0).toI (dget ds 1).toL (dget ds 2).toB (dget ds 3).toB (dget ds 4).toI)]
noncomputable def T109400 (ds : List DV) : List DV := [.i (t109400_0 (dget ds 0).toI (dget ds 1).toL (dget ds 2).toB (dget ds 3).toB (dget ds 4).toI), .b (t109400_1 (dget ds 0).toI (dget ds 1).toL (dget ds 2).toB (dget ds 3).toB (dget ds 4).toI), .b (t109400_2 (dget ds 0).toI (dget ds 1).toL (dget ds 2).toB (dget ds 3).toB (dget ds 4).toI), .i (t109400_3 (dget ds 0).toI (dget ds 1).toL (dget ds 2).toB (dget ds 3).toB (dget ds 4).toI)]
noncomputable def L109400 (x0 : Int) (x1 : List DV) (x2 : Bool) (x3 : Bool) (x4 : Int) : Option (List DV) := loopG W109400 C109400 N109400 T109400 [.i x0, .l x1, .b x2, .b x3, .i x4]
noncomputable def p109400 (x0 : Int) (x1 : List DV) (x2 : Bool) (x3 : Bool) (x4 : Int) : Bool := (L109400 x0 x1 x2 x3 x4).isSome
noncomputable def r109400_0 (x0 : Int) (x1 : List DV) (x2 : Bool) (x3 : Bool) (x4 : Int) : Int := (dget ((L109400 x0 x1 x2 x3 x4).getD []) 0).toI
noncomputable def r109400_1 (x0 : Int) (x1 : List DV) (x2 : Bool) (x3 : Bool) (x4 : Int) : Bool := (dget ((L109400 x0 x1 x2 x3 x4).getD []) 1).toB
noncomputable def r109400_2 (x0 : Int) (x1 : List DV) (x2 : Bool) (x3 : Bool) (x4 : Int) : Bool := (dget ((L109400 x0 x1 x2 x3 x4).getD []) 2).toB
noncomputable def r109400_3 (x0 : Int) (x1 : List DV) (x2 : Bool) (x3 : Bool) (x4 : Int) : Int := (dget ((L109400 x0 x1 x2 x3 x4).getD []) 3).toI
noncomputable def g109400 (ds : List DV) : List DV := [.b (p109400 (dget ds 0).toI (dget ds 1).toL (dget ds 2).toB (dget ds 3).toB (dget ds 4).toI), .i (r109400_0 (dget ds 0).toI (dget ds 1).toL (dget ds 2).toB (dget ds 3).toB (dget ds 4).toI), .b (r109400_1 (dget ds 0).toI (dget ds 1).toL (dget ds 2).toB (dget ds 3).toB (dget ds 4).toI), .b (r109400_2 (dget ds 0).toI (dget ds 1).toL (dget ds 2).toB (dget ds 3).toB (dget ds 4).toI), .i (r109400_3 (dget ds 0).toI (dget ds 1).toL (dget ds 2).toB (dget ds 3).toB (dget ds 4).toI)]
def l94_0 : LR := ⟨109400, 6, 3, [5, 4], [(9, .lss (.r 8) (.r 5)), (10, .geq (.r 8) (.z 0)), (11, .llen 5 (.r 4)), (12, .lss (.r 8) (.r 11)), (13, .lgetb 5 0 (.r 4) (.r 8)), (14, .lgetb 5 1 (.r 4) (.r 8)), (15, .lgeti 5 2 (.r 4) (.r 8)), (16, .lgeti 5 3 (.r 4) (.r 8)), (17, .lgeti 5 4 (.r 4) (.r 8)), (18, .eql (.r 15) (.z 3)), (19, .or (.r 6) (.r 14)), (20, .iteb (.r 18) (.r 19) (.r 6)), (21, .or (.r 18) (.r 7)), (22, .add .i64 (.r 8) (.z 1))], [⟨[(.r 9, true)], .r 10⟩, ⟨[(.r 9, true)], .r 12⟩], .r 9, [.r 20, .r 21, .r 22], [.z 0, .r 6, .r 7, .r 8], [.b, .b, .i]⟩
def s94 : Sig := ⟨[.s (.agg [.i .i64 (.h 0), .i .i64 (.h 1), .i .u64 (.h 2)]), .s (.one (.b (.h 3))), .s (.one (.vec 0))], [some (.v false [.bool, .bool, .int .i64, .int .i64, .int .u64] (.h 4))], [.i, .i, .i, .b, .l], .t [.one (.i .u64 (.h 0)), .one (.i .i64 (.h 1)), .one (.b (.h 2))], [], [.i, .i, .b], true⟩
def o94 : Out := ⟨List.append (List.append ([(5, .llen 5 (.r 4))]) (callsAt 6 109400 [.r 5, .r 4, .r 3, .r 3, .z 0] 0 5)) ([(11, .call 120 [.r 0, .r 1, .r 2] 0), (12, .call 120 [.r 0, .r 1, .r 2] 1), (13, .not (.r 8)), (14, .call 120 [.r 0, .r 1, .r 2] 0), (15, .call 120 [.r 0, .r 1, .r 2] 1), (16, .itei (.r 13) (.r 15) (.r 12)), (17, .itei (.r 13) (.z 0) (.z 16)), (18, .iteb (.r 13) (.r 9) (.t true))]),
  [⟨[], .r 6⟩, ⟨[(.r 8, true)], .r 11⟩, ⟨[(.r 13, true)], .r 14⟩],
  [l94_0],
  [.r 16, .r 17, .r 18]⟩
noncomputable def p94 (x0 : Int) (x3 : Bool) (x4 : List DV) : Bool :=
  let x5 := ((x4.length / 5 : Nat) : Int)
  let y6 : List DV := g109400 [.i x5, .l x4, .b x3, .b x3, .i 0]
  let x6 : Bool := (dget y6 0).toB
  let x8 : Bool := (dget y6 2).toB
  let x11 := p120 x0
  let x13 := !x8
  let x14 := p120 x0
  [ow [] x6, ow [(x8, true)] x11, ow [(x13, true)] x14].all id
noncomputable def r94_0 (x0 : Int) (x1 : Int) (x3 : Bool) (x4 : List DV) : Int :=
  let x5 := ((x4.length / 5 : Nat) : Int)
  let y8 : List DV := g109400 [.i x5, .l x4, .b x3, .b x3, .i 0]
  let x8 : Bool := (dget y8 2).toB
  let x12 := r120_0 x0 x1
  let x13 := !x8
  let x15 := r120_0 x0 x1
  let x16 := bif x13 then x15 else x12
  x16
noncomputable def r94_1 (x3 : Bool) (x4 : List DV) : Int :=
  let x5 := ((x4.length / 5 : Nat) : Int)
  let y8 : List DV := g109400 [.i x5, .l x4, .b x3, .b x3, .i 0]
  let x8 : Bool := (dget y8 2).toB
  let x13 := !x8
  let x17 : Int := bif x13 then 0 else 16
  x17
noncomputable def r94_2 (x3 : Bool) (x4 : List DV) : Bool :=
  let x5 := ((x4.length / 5 : Nat) : Int)
  let y8 : List DV := g109400 [.i x5, .l x4, .b x3, .b x3, .i 0]
  let x8 : Bool := (dget y8 2).toB
  let x9 : Bool := (dget y8 3).toB
  let x13 := !x8
  let x18 := bif x13 then x9 else true
  x18
noncomputable def g94 (ds : List DV) : List DV := [.b (p94 (dget ds 0).toI (dget ds 3).toB (dget ds 4).toL), .i (r94_0 (dget ds 0).toI (dget ds 1).toI (dget ds 3).toB (dget ds 4).toL), .i (r94_1 (dget ds 3).toB (dget ds 4).toL), .b (r94_2 (dget ds 3).toB (dget ds 4).toL)]
def S94 : Sigs := ⟨[(120, s120)], [], [(0, 109400)], 1⟩

def s107 : Sig := ⟨[.s (.agg [.i .i64 (.h 0), .i .i64 (.h 1), .i .u64 (.h 2)]), .s (.one (.i .i64 (.h 3))), .s (.agg [.b (.h 4), .i .i64 (.h 5), .i .u64 (.h 6), .i .u64 (.h 7)]), .s (.agg [.b (.h 8), .i .i64 (.h 9), .i .u64 (.h 10), .i .u64 (.h 11)])], [], [.i, .i, .i, .i, .b, .i, .i, .i, .b, .i, .i, .i], .t [.one (.i .u64 (.h 0)), .one (.i .i64 (.h 1))], [], [.i, .i], true⟩
def o107 : Out := ⟨List.append (List.append (List.append (List.append (List.append (List.append ([(12, .eql (.r 6) (.z 0)), (13, .eql (.r 7) (.z 0)), (14, .and (.r 12) (.r 13)), (15, .eql (.r 10) (.z 0)), (16, .eql (.r 11) (.z 0)), (17, .and (.r 15) (.r 16)), (18, .and (.r 14) (.r 17)), (19, .beq (.r 4) (.r 8)), (20, .call 95 [.r 0, .r 1, .r 2, .r 4, .z 0] 0), (21, .not (.r 19)), (22, .eql (.r 3) (.z 2)), (23, .call 95 [.r 0, .r 1, .r 2, .r 22, .z 0] 0), (24, .not (.r 18)), (25, .eql (.r 6) (.z 0)), (26, .eql (.r 7) (.z 0)), (27, .and (.r 25) (.r 26)), (28, .eql (.r 10) (.z 0)), (29, .eql (.r 11) (.z 0)), (30, .and (.r 28) (.r 29)), (31, .not (.r 30)), (32, .gtr (.r 9) (.r 5)), (33, .and (.r 31) (.r 32)), (34, .or (.r 27) (.r 33)), (35, .iteb (.r 34) (.r 8) (.r 4)), (36, .itei (.r 34) (.r 9) (.r 5)), (37, .itei (.r 34) (.r 10) (.r 6)), (38, .itei (.r 34) (.r 11) (.r 7)), (39, .iteb (.r 34) (.r 4) (.r 8)), (40, .itei (.r 34) (.r 5) (.r 9)), (41, .itei (.r 34) (.r 6) (.r 10)), (42, .itei (.r 34) (.r 7) (.r 11)), (43, .sub .i64 (.r 36) (.r 40))]) (callsAt 44 123 [.r 41, .r 42, .r 43] 0 3)) ([(47, .beq (.r 35) (.r 39)), (48, .geq (.r 38) (.z 0)), (49, .lss (.r 38) (.z 18446744073709551616)), (50, .geq (.r 46) (.z 0)), (51, .lss (.r 46) (.z 18446744073709551616)), (52, .geq (.z 0) (.z 0)), (53, .lss (.z 0) (.z 2)), (54, .eql (.z 0) (.z 1)), (55, .add .u64 (.r 38) (.r 46)), (56, .add .u64 (.r 55) (.z 0)), (57, .lss (.r 56) (.r 38)), (58, .eql (.r 56) (.r 38)), (59, .and (.r 54) (.r 58)), (60, .or (.r 57) (.r 59)), (61, .itei (.r 60) (.z 1) (.z 0)), (62, .geq (.r 37) (.z 0)), (63, .lss (.r 37) (.z 18446744073709551616)), (64, .geq (.r 45) (.z 0)), (65, .lss (.r 45) (.z 18446744073709551616)), (66, .geq (.r 61) (.z 0)), (67, .lss (.r 61) (.z 2)), (68, .eql (.r 61) (.z 1)), (69, .add .u64 (.r 37) (.r 45)), (70, .add .u64 (.r 69) (.r 61)), (71, .lss (.r 70) (.r 37)), (72, .eql (.r 70) (.r 37)), (73, .and (.r 68) (.r 72)), (74, .or (.r 71) (.r 73)), (75, .itei (.r 74) (.z 1) (.z 0))])) (callsAt 76 98 [.r 0, .r 1, .r 2, .r 3, .r 35, .r 36, .r 70, .r 56] 0 3)) ([(79, .not (.r 47)), (80, .geq (.r 38) (.z 0)), (81, .lss (.r 38) (.z 18446744073709551616)), (82, .geq (.r 46) (.z 0)), (83, .lss (.r 46) (.z 18446744073709551616)), (84, .geq (.z 0) (.z 0)), (85, .lss (.z 0) (.z 2)), (86, .eql (.z 0) (.z 1)), (87, .sub .u64 (.r 38) (.r 46)), (88, .sub .u64 (.r 87) (.z 0)), (89, .lss (.r 38) (.r 46)), (90, .eql (.r 38) (.r 46)), (91, .and (.r 86) (.r 90)), (92, .or (.r 89) (.r 91)), (93, .itei (.r 92) (.z 1) (.z 0)), (94, .geq (.r 37) (.z 0)), (95, .lss (.r 37) (.z 18446744073709551616)), (96, .geq (.r 45) (.z 0)), (97, .lss (.r 45) (.z 18446744073709551616)), (98, .geq (.r 93) (.z 0)), (99, .lss (.r 93) (.z 2)), (100, .eql (.r 93) (.z 1)), (101, .sub .u64 (.r 37) (.r 45)), (102, .sub .u64 (.r 101) (.r 93)), (103, .lss (.r 37) (.r 45)), (104, .eql (.r 37) (.r 45)), (105, .and (.r 100) (.r 104)), (106, .or (.r 103) (.r 105)), (107, .itei (.r 106) (.z 1) (.z 0)), (108, .eql (.r 107) (.z 1)), (109, .geq (.r 46) (.z 0)), (110, .lss (.r 46) (.z 18446744073709551616)), (111, .geq (.r 38) (.z 0)), (112, .lss (.r 38) (.z 18446744073709551616)), (113, .geq (.z 0) (.z 0)), (114, .lss (.z 0) (.z 2)), (115, .eql (.z 0) (.z 1)), (116, .sub .u64 (.r 46) (.r 38)), (117, .sub .u64 (.r 116) (.z 0)), (118, .lss (.r 46) (.r 38)), (119, .eql (.r 46) (.r 38)), (120, .and (.r 115) (.r 119)), (121, .or (.r 118) (.r 120)), (122, .itei (.r 121) (.z 1) (.z 0)), (123, .geq (.r 45) (.z 0)), (124, .lss (.r 45) (.z 18446744073709551616)), (125, .geq (.r 37) (.z 0)), (126, .lss (.r 37) (.z 18446744073709551616)), (127, .geq (.r 122) (.z 0)), (128, .lss (.r 122) (.z 2)), (129, .eql (.r 122) (.z 1)), (130, .sub .u64 (.r 45) (.r 37)), (131, .sub .u64 (.r 130) (.r 122)), (132, .lss (.r 45) (.r 37)), (133, .eql (.r 45) (.r 37)), (134, .and (.r 129) (.r 133)), (135, .or (.r 132) (.r 134)), (136, .itei (.r 135) (.z 1) (.z 0)), (137, .itei (.r 108) (.r 117) (.r 88)), (138, .itei (.r 108) (.r 122) (.r 93)), (139, .itei (.r 108) (.r 131) (.r 102)), (140, .iteb (.r 108) (.r 39) (.r 35)), (141, .lor .u64 (.r 139) (.r 137)), (142, .eql (.r 141) (.z 0)), (143, .eql (.r 3) (.z 2)), (144, .call 95 [.r 0, .r 1, .r 2, .r 143, .z 0] 0), (145, .not (.r 142))])) (callsAt 146 98 [.r 0, .r 1, .r 2, .r 3, .r 140, .r 36, .r 139, .r 137] 0 3)) ([(149, .itei (.r 145) (.r 147) (.r 144)), (150, .itei (.r 145) (.r 148) (.z 0)), (151, .itei (.r 79) (.r 149) (.r 77)), (152, .itei (.r 79) (.r 150) (.r 78)), (153, .itei (.r 21) (.r 23) (.r 20)), (154, .itei (.r 24) (.r 151) (.r 153)), (155, .itei (.r 24) (.r 152) (.z 0))]),
  [⟨[(.r 24, true)], .r 44⟩, ⟨[(.r 24, true), (.r 47, true)], .r 48⟩, ⟨[(.r 24, true), (.r 47, true)], .r 49⟩, ⟨[(.r 24, true), (.r 47, true)], .r 50⟩, ⟨[(.r 24, true), (.r 47, true)], .r 51⟩, ⟨[(.r 24, true), (.r 47, true)], .r 52⟩, ⟨[(.r 24, true), (.r 47, true)], .r 53⟩, ⟨[(.r 24, true), (.r 47, true)], .r 62⟩, ⟨[(.r 24, true), (.r 47, true)], .r 63⟩, ⟨[(.r 24, true), (.r 47, true)], .r 64⟩, ⟨[(.r 24, true), (.r 47, true)], .r 65⟩, ⟨[(.r 24, true), (.r 47, true)], .r 66⟩, ⟨[(.r 24, true), (.r 47, true)], .r 67⟩, ⟨[(.r 24, true), (.r 47, true)], .r 76⟩, ⟨[(.r 24, true), (.r 79, true)], .r 80⟩, ⟨[(.r 24, true), (.r 79, true)], .r 81⟩, ⟨[(.r 24, true), (.r 79, true)], .r 82⟩, ⟨[(.r 24, true), (.r 79, true)], .r 83⟩, ⟨[(.r 24, true), (.r 79, true)], .r 84⟩, ⟨[(.r 24, true), (.r 79, true)], .r 85⟩, ⟨[(.r 24, true), (.r 79, true)], .r 94⟩, ⟨[(.r 24, true), (.r 79, true)], .r 95⟩, ⟨[(.r 24, true), (.r 79, true)], .r 96⟩, ⟨[(.r 24, true), (.r 79, true)], .r 97⟩, ⟨[(.r 24, true), (.r 79, true)], .r 98⟩, ⟨[(.r 24, true), (.r 79, true)], .r 99⟩, ⟨[(.r 24, true), (.r 79, true), (.r 108, true)], .r 109⟩, ⟨[(.r 24, true), (.r 79, true), (.r 108, true)], .r 110⟩, ⟨[(.r 24, true), (.r 79, true), (.r 108, true)], .r 111⟩, ⟨[(.r 24, true), (.r 79, true), (.r 108, true)], .r 112⟩, ⟨[(.r 24, true), (.r 79, true), (.r 108, true)], .r 113⟩, ⟨[(.r 24, true), (.r 79, true), (.r 108, true)], .r 114⟩, ⟨[(.r 24, true), (.r 79, true), (.r 108, true)], .r 123⟩, ⟨[(.r 24, true), (.r 79, true), (.r 108, true)], .r 124⟩, ⟨[(.r 24, true), (.r 79, true), (.r 108, true)], .r 125⟩, ⟨[(.r 24, true), (.r 79, true), (.r 108, true)], .r 126⟩, ⟨[(.r 24, true), (.r 79, true), (.r 108, true)], .r 127⟩, ⟨[(.r 24, true), (.r 79, true), (.r 108, true)], .r 128⟩, ⟨[(.r 24, true), (.r 79, true), (.r 145, true)], .r 146⟩],
  [],
  [.r 154, .r 155]⟩
noncomputable def p107 (x0 : Int) (x1 : Int) (x3 : Int) (x4 : Bool) (x5 : Int) (x6 : Int) (x7 : Int) (x8 : Bool) (x9 : Int) (x10 : Int) (x11 : Int) : Bool :=
  let x12 := x6 == 0
  let x13 := x7 == 0
  let x14 := x12 && x13
  let x15 := x10 == 0
  let x16 := x11 == 0
  let x17 := x15 && x16
  let x18 := x14 && x17
  let x24 := !x18
  let x25 := x6 == 0
  let x26 := x7 == 0
  let x27 := x25 && x26
  let x28 := x10 == 0
  let x29 := x11 == 0
  let x30 := x28 && x29
  let x31 := !x30
  let x32 := decide (x9 > x5)
  let x33 := x31 && x32
  let x34 := x27 || x33
  let x35 := bif x34 then x8 else x4
  let x36 := bif x34 then x9 else x5
  let x37 := bif x34 then x10 else x6
  let x38 := bif x34 then x11 else x7
  let x39 := bif x34 then x4 else x8
  let x40 := bif x34 then x5 else x9
  let x41 := bif x34 then x6 else x10
  let x42 := bif x34 then x7 else x11
  let x43 := IntKind.wrap .i64 (x36 - x40)
  let x44 := p123 x42 x43
  let x45 := r123_0 x41 x42 x43
  let x46 := r123_1 x41 x42 x43
  let x47 := x35 == x39
  let x48 := decide (x38 ≥ 0)
  let x49 := decide (x38 < 18446744073709551616)
  let x50 := decide (x46 ≥ 0)
  let x51 := decide (x46 < 18446744073709551616)
  let x52 := decide (0 ≥ 0)
  let x53 := decide (0 < 2)
  let x54 := 0 == 1
  let x55 := IntKind.wrap .u64 (x38 + x46)
  let x56 := IntKind.wrap .u64 (x55 + 0)
  let x57 := decide (x56 < x38)
  let x58 := x56 == x38
  let x59 := x54 && x58
  let x60 := x57 || x59
  let x61 : Int := bif x60 then 1 else 0
  let x62 := decide (x37 ≥ 0)
  let x63 := decide (x37 < 18446744073709551616)
  let x64 := decide (x45 ≥ 0)
  let x65 := decide (x45 < 18446744073709551616)
  let x66 := decide (x61 ≥ 0)
  let x67 := decide (x61 < 2)
  let x69 := IntKind.wrap .u64 (x37 + x45)
  let x70 := IntKind.wrap .u64 (x69 + x61)
  let x76 := p98 x0 x1 x3 x35 x36 x70 x56
  let x79 := !x47
  let x80 := decide (x38 ≥ 0)
  let x81 := decide (x38 < 18446744073709551616)
  let x82 := decide (x46 ≥ 0)
  let x83 := decide (x46 < 18446744073709551616)
  let x84 := decide (0 ≥ 0)
  let x85 := decide (0 < 2)
  let x86 := 0 == 1
  let x87 := IntKind.wrap .u64 (x38 - x46)
  let x88 := IntKind.wrap .u64 (x87 - 0)
  let x89 := decide (x38 < x46)
  let x90 := x38 == x46
  let x91 := x86 && x90
  let x92 := x89 || x91
  let x93 : Int := bif x92 then 1 else 0
  let x94 := decide (x37 ≥ 0)
  let x95 := decide (x37 < 18446744073709551616)
  let x96 := decide (x45 ≥ 0)
  let x97 := decide (x45 < 18446744073709551616)
  let x98 := decide (x93 ≥ 0)
  let x99 := decide (x93 < 2)
  let x100 := x93 == 1
  let x101 := IntKind.wrap .u64 (x37 - x45)
  let x102 := IntKind.wrap .u64 (x101 - x93)
  let x103 := decide (x37 < x45)
  let x104 := x37 == x45
  let x105 := x100 && x104
  let x106 := x103 || x105
  let x107 : Int := bif x106 then 1 else 0
  let x108 := x107 == 1
  let x109 := decide (x46 ≥ 0)
  let x110 := decide (x46 < 18446744073709551616)
  let x111 := decide (x38 ≥ 0)
  let x112 := decide (x38 < 18446744073709551616)
  let x113 := decide (0 ≥ 0)
  let x114 := decide (0 < 2)
  let x115 := 0 == 1
  let x116 := IntKind.wrap .u64 (x46 - x38)
  let x117 := IntKind.wrap .u64 (x116 - 0)
  let x118 := decide (x46 < x38)
  let x119 := x46 == x38
  let x120 := x115 && x119
  let x121 := x118 || x120
  let x122 : Int := bif x121 then 1 else 0
  let x123 := decide (x45 ≥ 0)
  let x124 := decide (x45 < 18446744073709551616)
  let x125 := decide (x37 ≥ 0)
  let x126 := decide (x37 < 18446744073709551616)
  let x127 := decide (x122 ≥ 0)
  let x128 := decide (x122 < 2)
  let x130 := IntKind.wrap .u64 (x45 - x37)
  let x131 := IntKind.wrap .u64 (x130 - x122)
  let x137 := bif x108 then x117 else x88
  let x139 := bif x108 then x131 else x102
  let x140 := bif x108 then x39 else x35
  let x141 := ilor .u64 x139 x137
  let x142 := x141 == 0
  let x145 := !x142
  let x146 := p98 x0 x1 x3 x140 x36 x139 x137
  [ow [(x24, true)] x44, ow [(x24, true), (x47, true)] x48, ow [(x24, true), (x47, true)] x49, ow [(x24, true), (x47, true)] x50, ow [(x24, true), (x47, true)] x51, ow [(x24, true), (x47, true)] x52, ow [(x24, true), (x47, true)] x53, ow [(x24, true), (x47, true)] x62, ow [(x24, true), (x47, true)] x63, ow [(x24, true), (x47, true)] x64, ow [(x24, true), (x47, true)] x65, ow [(x24, true), (x47, true)] x66, ow [(x24, true), (x47, true)] x67, ow [(x24, true), (x47, true)] x76, ow [(x24, true), (x79, true)] x80, ow [(x24, true), (x79, true)] x81, ow [(x24, true), (x79, true)] x82, ow [(x24, true), (x79, true)] x83, ow [(x24, true), (x79, true)] x84, ow [(x24, true), (x79, true)] x85, ow [(x24, true), (x79, true)] x94, ow [(x24, true), (x79, true)] x95, ow [(x24, true), (x79, true)] x96, ow [(x24, true), (x79, true)] x97, ow [(x24, true), (x79, true)] x98, ow [(x24, true), (x79, true)] x99, ow [(x24, true), (x79, true), (x108, true)] x109, ow [(x24, true), (x79, true), (x108, true)] x110, ow [(x24, true), (x79, true), (x108, true)] x111, ow [(x24, true), (x79, true), (x108, true)] x112, ow [(x24, true), (x79, true), (x108, true)] x113, ow [(x24, true), (x79, true), (x108, true)] x114, ow [(x24, true), (x79, true), (x108, true)] x123, ow [(x24, true), (x79, true), (x108, true)] x124, ow [(x24, true), (x79, true), (x108, true)] x125, ow [(x24, true), (x79, true), (x108, true)] x126, ow [(x24, true), (x79, true), (x108, true)] x127, ow [(x24, true), (x79, true), (x108, true)] x128, ow [(x24, true), (x79, true), (x145, true)] x146].all id
noncomputable def r107_0 (x0 : Int) (x1 : Int) (x2 : Int) (x3 : Int) (x4 : Bool) (x5 : Int) (x6 : Int) (x7 : Int) (x8 : Bool) (x9 : Int) (x10 : Int) (x11 : Int) : Int :=
  let x12 := x6 == 0
  let x13 := x7 == 0
  let x14 := x12 && x13
  let x15 := x10 == 0
  let x16 := x11 == 0
  let x17 := x15 && x16
  let x18 := x14 && x17
  let x19 := x4 == x8
  let x20 := r95_0 x2 x4 0
  let x21 := !x19
  let x22 := x3 == 2
  let x23 := r95_0 x2 x22 0
  let x24 := !x18
  let x25 := x6 == 0
  let x26 := x7 == 0
  let x27 := x25 && x26
  let x28 := x10 == 0
  let x29 := x11 == 0
  let x30 := x28 && x29
  let x31 := !x30
  let x32 := decide (x9 > x5)
  let x33 := x31 && x32
  let x34 := x27 || x33
  let x35 := bif x34 then x8 else x4
  let x36 := bif x34 then x9 else x5
  let x37 := bif x34 then x10 else x6
  let x38 := bif x34 then x11 else x7
  let x39 := bif x34 then x4 else x8
  let x40 := bif x34 then x5 else x9
  let x41 := bif x34 then x6 else x10
  let x42 := bif x34 then x7 else x11
  let x43 := IntKind.wrap .i64 (x36 - x40)
  let x45 := r123_0 x41 x42 x43
  let x46 := r123_1 x41 x42 x43
  let x47 := x35 == x39
  let x54 := 0 == 1
  let x55 := IntKind.wrap .u64 (x38 + x46)
  let x56 := IntKind.wrap .u64 (x55 + 0)
  let x57 := decide (x56 < x38)
  let x58 := x56 == x38
  let x59 := x54 && x58
  let x60 := x57 || x59
  let x61 : Int := bif x60 then 1 else 0
  let x69 := IntKind.wrap .u64 (x37 + x45)
  let x70 := IntKind.wrap .u64 (x69 + x61)
  let x77 := r98_0 x0 x1 x2 x3 x35 x36 x70 x56
  let x79 := !x47
  let x86 := 0 == 1
  let x87 := IntKind.wrap .u64 (x38 - x46)
  let x88 := IntKind.wrap .u64 (x87 - 0)
  let x89 := decide (x38 < x46)
  let x90 := x38 == x46
  let x91 := x86 && x90
  let x92 := x89 || x91
  let x93 : Int := bif x92 then 1 else 0
  let x100 := x93 == 1
  let x101 := IntKind.wrap .u64 (x37 - x45)
  let x102 := IntKind.wrap .u64 (x101 - x93)
  let x103 := decide (x37 < x45)
  let x104 := x37 == x45
  let x105 := x100 && x104
  let x106 := x103 || x105
  let x107 : Int := bif x106 then 1 else 0
  let x108 := x107 == 1
  let x115 := 0 == 1
  let x116 := IntKind.wrap .u64 (x46 - x38)
  let x117 := IntKind.wrap .u64 (x116 - 0)
  let x118 := decide (x46 < x38)
  let x119 := x46 == x38
  let x120 := x115 && x119
  let x121 := x118 || x120
  let x122 : Int := bif x121 then 1 else 0
  let x130 := IntKind.wrap .u64 (x45 - x37)
  let x131 := IntKind.wrap .u64 (x130 - x122)
  let x137 := bif x108 then x117 else x88
  let x139 := bif x108 then x131 else x102
  let x140 := bif x108 then x39 else x35
  let x141 := ilor .u64 x139 x137
  let x142 := x141 == 0
  let x143 := x3 == 2
  let x144 := r95_0 x2 x143 0
  let x145 := !x142
  let x147 := r98_0 x0 x1 x2 x3 x140 x36 x139 x137
  let x149 := bif x145 then x147 else x144
  let x151 := bif x79 then x149 else x77
  let x153 := bif x21 then x23 else x20
  let x154 := bif x24 then x151 else x153
  x154
noncomputable def r107_1 (x0 : Int) (x1 : Int) (x3 : Int) (x4 : Bool) (x5 : Int) (x6 : Int) (x7 : Int) (x8 : Bool) (x9 : Int) (x10 : Int) (x11 : Int) : Int :=
  let x12 := x6 == 0
  let x13 := x7 == 0
  let x14 := x12 && x13
  let x15 := x10 == 0
  let x16 := x11 == 0
  let x17 := x15 && x16
  let x18 := x14 && x17
  let x24 := !x18
  let x25 := x6 == 0
  let x26 := x7 == 0
  let x27 := x25 && x26
  let x28 := x10 == 0
  let x29 := x11 == 0
  let x30 := x28 && x29
  let x31 := !x30
  let x32 := decide (x9 > x5)
  let x33 := x31 && x32
  let x34 := x27 || x33
  let x35 := bif x34 then x8 else x4
  let x36 := bif x34 then x9 else x5
  let x37 := bif x34 then x10 else x6
  let x38 := bif x34 then x11 else x7
  let x39 := bif x34 then x4 else x8
  let x40 := bif x34 then x5 else x9
  let x41 := bif x34 then x6 else x10
  let x42 := bif x34 then x7 else x11
  let x43 := IntKind.wrap .i64 (x36 - x40)
  let x45 := r123_0 x41 x42 x43
  let x46 := r123_1 x41 x42 x43
  let x47 := x35 == x39
  let x54 := 0 == 1
  let x55 := IntKind.wrap .u64 (x38 + x46)
  let x56 := IntKind.wrap .u64 (x55 + 0)
  let x57 := decide (x56 < x38)
  let x58 := x56 == x38
  let x59 := x54 && x58
  let x60 := x57 || x59
  let x61 : Int := bif x60 then 1 else 0
  let x69 := IntKind.wrap .u64 (x37 + x45)
  let x70 := IntKind.wrap .u64 (x69 + x61)
  let x78 := r98_1 x0 x1 x3 x35 x36 x70 x56
  let x79 := !x47
  let x86 := 0 == 1
  let x87 := IntKind.wrap .u64 (x38 - x46)
  let x88 := IntKind.wrap .u64 (x87 - 0)
  let x89 := decide (x38 < x46)
  let x90 := x38 == x46
  let x91 := x86 && x90
  let x92 := x89 || x91
  let x93 : Int := bif x92 then 1 else 0
  let x100 := x93 == 1
  let x101 := IntKind.wrap .u64 (x37 - x45)
  let x102 := IntKind.wrap .u64 (x101 - x93)
  let x103 := decide (x37 < x45)
  let x104 := x37 == x45
  let x105 := x100 && x104
  let x106 := x103 || x105
  let x107 : Int := bif x106 then 1 else 0
  let x108 := x107 == 1
  let x115 := 0 == 1
  let x116 := IntKind.wrap .u64 (x46 - x38)
  let x117 := IntKind.wrap .u64 (x116 - 0)
  let x118 := decide (x46 < x38)
  let x119 := x46 == x38
  let x120 := x115 && x119
  let x121 := x118 || x120
  let x122 : Int := bif x121 then 1 else 0
  let x130 := IntKind.wrap .u64 (x45 - x37)
  let x131 := IntKind.wrap .u64 (x130 - x122)
  let x137 := bif x108 then x117 else x88
  let x139 := bif x108 then x131 else x102
  let x140 := bif x108 then x39 else x35
  let x141 := ilor .u64 x139 x137
  let x142 := x141 == 0
  let x145 := !x142
  let x148 := r98_1 x0 x1 x3 x140 x36 x139 x137
  let x150 := bif x145 then x148 else 0
  let x152 := bif x79 then x150 else x78
  let x155 := bif x24 then x152 else 0
  x155
noncomputable def g107 (ds : List DV) : List DV := [.b (p107 (dget ds 0).toI (dget ds 1).toI (dget ds 3).toI (dget ds 4).toB (dget ds 5).toI (dget ds 6).toI (dget ds 7).toI (dget ds 8).toB (dget ds 9).toI (dget ds 10).toI (dget ds 11).toI), .i (r107_0 (dget ds 0).toI (dget ds 1).toI (dget ds 2).toI (dget ds 3).toI (dget ds 4).toB (dget ds 5).toI (dget ds 6).toI (dget ds 7).toI (dget ds 8).toB (dget ds 9).toI (dget ds 10).toI (dget ds 11).toI), .i (r107_1 (dget ds 0).toI (dget ds 1).toI (dget ds 3).toI (dget ds 4).toB (dget ds 5).toI (dget ds 6).toI (dget ds 7).toI (dget ds 8).toB (dget ds 9).toI (dget ds 10).toI (dget ds 11).toI)]
def S107 : Sigs := ⟨[(95, s95), (123, s123), (98, s98)], [], [], 0⟩

def s44 : Sig := ⟨[.s (.one (.i .i64 (.h 0))), .s (.one (.i .i64 (.h 1))), .s (.one (.i .u64 (.h 2))), .s (.one (.i .u64 (.h 3)))], [], [.i, .i, .i, .i], .t [.one (.i .u64 (.h 0)), .one (.i .i64 (.h 1))], [], [.i, .i], true⟩
def o44 : Out := ⟨List.append (List.append (List.append (List.append (List.append (List.append (List.append (List.append ([(4, .call 91 [.r 0, .r 1] 0), (5, .not (.r 4)), (6, .not (.r 5))]) (callsAt 7 92 [.r 0] 0 3)) (callsAt 10 93 [.r 7, .r 8, .r 9, .r 2] 0 6)) (callsAt 16 93 [.r 7, .r 8, .r 9, .r 3] 0 6)) ([(22, .bne (.r 11) (.r 17)), (23, .eql (.r 13) (.z 2)), (24, .eql (.r 19) (.z 0)), (25, .and (.r 23) (.r 24)), (26, .eql (.r 13) (.z 0)), (27, .eql (.r 19) (.z 2)), (28, .and (.r 26) (.r 27)), (29, .or (.r 25) (.r 28)), (30, .lmk [.b, .b, .i, .i, .i, .b, .b, .i, .i, .i] [.r 11, .r 12, .r 13, .r 14, .r 15, .r 17, .r 18, .r 19, .r 20, .r 21])])) (callsAt 31 94 [.r 7, .r 8, .r 9, .r 29, .r 30] 0 4)) ([(35, .not (.r 34)), (36, .eql (.r 13) (.z 2)), (37, .eql (.r 19) (.z 2)), (38, .or (.r 36) (.r 37)), (39, .call 96 [.r 7, .r 8, .r 9] 0), (40, .call 96 [.r 7, .r 8, .r 9] 1), (41, .call 95 [.r 7, .r 8, .r 9, .r 22, .r 40] 0), (42, .eql (.r 13) (.z 0)), (43, .eql (.r 19) (.z 0)), (44, .or (.r 42) (.r 43)), (45, .call 95 [.r 7, .r 8, .r 9, .r 22, .z 0] 0), (46, .not (.r 44)), (47, .iteb (.r 38) (.t false) (.r 46)), (48, .call 97 [.r 15, .r 21] 0), (49, .call 97 [.r 15, .r 21] 1), (50, .add .i64 (.r 14) (.r 20))])) (callsAt 51 98 [.r 7, .r 8, .r 9, .r 1, .r 22, .r 50, .r 48, .r 49] 0 3)) ([(54, .itei (.r 38) (.r 41) (.r 45)), (55, .itei (.r 47) (.r 52) (.r 54)), (56, .itei (.r 47) (.r 53) (.z 0)), (57, .itei (.r 35) (.r 55) (.r 32)), (58, .itei (.r 35) (.r 56) (.r 33)), (59, .itei (.r 6) (.r 57) (.z 0)), (60, .itei (.r 6) (.r 58) (.z 0))]),
  [⟨[(.r 6, true)], .r 10⟩, ⟨[(.r 6, true)], .r 16⟩, ⟨[(.r 6, true)], .r 31⟩, ⟨[(.r 6, true), (.r 35, true), (.r 38, true)], .r 39⟩, ⟨[(.r 6, true), (.r 35, true), (.r 47, true)], .r 51⟩],
  [],
  [.r 59, .r 60]⟩
noncomputable def p44 (x0 : Int) (x1 : Int) (x2 : Int) (x3 : Int) : Bool :=
  let x4 := r91_0 x0 x1
  let x5 := !x4
  let x6 := !x5
  let x7 := r92_0 x0
  let x8 := r92_1 x0
  let x9 := r92_2 x0
  let y10 : List DV := g93 [.i x7, .i x8, .i x9, .i x2]
  let x10 : Bool := (dget y10 0).toB
  let x11 : Bool := (dget y10 1).toB
  let x12 : Bool := (dget y10 2).toB
  let x13 : Int := (dget y10 3).toI
  let x14 : Int := (dget y10 4).toI
  let x15 : Int := (dget y10 5).toI
  let y16 : List DV := g93 [.i x7, .i x8, .i x9, .i x3]
  let x16 : Bool := (dget y16 0).toB
  let x17 : Bool := (dget y16 1).toB
  let x18 : Bool := (dget y16 2).toB
  let x19 : Int := (dget y16 3).toI
  let x20 : Int := (dget y16 4).toI
  let x21 : Int := (dget y16 5).toI
  let x22 := x11 != x17
  let x23 := x13 == 2
  let x24 := x19 == 0
  let x25 := x23 && x24
  let x26 := x13 == 0
  let x27 := x19 == 2
  let x28 := x26 && x27
  let x29 := x25 || x28
  let x30 : List DV := [.b x11, .b x12, .i x13, .i x14, .i x15, .b x17, .b x18, .i x19, .i x20, .i x21]
  let x31 := p94 x7 x29 x30
  let x34 := r94_2 x29 x30
  let x35 := !x34
  let x36 := x13 == 2
  let x37 := x19 == 2
  let x38 := x36 || x37
  let x39 := p96 x7
  let x42 := x13 == 0
  let x43 := x19 == 0
  let x44 := x42 || x43
  let x46 := !x44
  let x47 := bif x38 then false else x46
  let x48 := r97_0 x15 x21
  let x49 := r97_1 x15 x21
  let x50 := IntKind.wrap .i64 (x14 + x20)
  let x51 := p98 x7 x8 x1 x22 x50 x48 x49
  [ow [(x6, true)] x10, ow [(x6, true)] x16, ow [(x6, true)] x31, ow [(x6, true), (x35, true), (x38, true)] x39, ow [(x6, true), (x35, true), (x47, true)] x51].all id
noncomputable def r44_0 (x0 : Int) (x1 : Int) (x2 : Int) (x3 : Int) : Int :=
  let x4 := r91_0 x0 x1
  let x5 := !x4
  let x6 := !x5
  let x7 := r92_0 x0
  let x8 := r92_1 x0
  let x9 := r92_2 x0
  let y11 : List DV := g93 [.i x7, .i x8, .i x9, .i x2]
  let x11 : Bool := (dget y11 1).toB
  let x12 : Bool := (dget y11 2).toB
  let x13 : Int := (dget y11 3).toI
  let x14 : Int := (dget y11 4).toI
  let x15 : Int := (dget y11 5).toI
  let y17 : List DV := g93 [.i x7, .i x8, .i x9, .i x3]
  let x17 : Bool := (dget y17 1).toB
  let x18 : Bool := (dget y17 2).toB
  let x19 : Int := (dget y17 3).toI
  let x20 : Int := (dget y17 4).toI
  let x21 : Int := (dget y17 5).toI
  let x22 := x11 != x17
  let x23 := x13 == 2
  let x24 := x19 == 0
  let x25 := x23 && x24
  let x26 := x13 == 0
  let x27 := x19 == 2
  let x28 := x26 && x27
  let x29 := x25 || x28
  let x30 : List DV := [.b x11, .b x12, .i x13, .i x14, .i x15, .b x17, .b x18, .i x19, .i x20, .i x21]
  let x32 := r94_0 x7 x8 x29 x30
  let x34 := r94_2 x29 x30
  let x35 := !x34
  let x36 := x13 == 2
  let x37 := x19 == 2
  let x38 := x36 || x37
  let x40 := r96_0 x7 x8
  let x41 := r95_0 x9 x22 x40
  let x42 := x13 == 0
  let x43 := x19 == 0
  let x44 := x42 || x43
  let x45 := r95_0 x9 x22 0
  let x46 := !x44
  let x47 := bif x38 then false else x46
  let x48 := r97_0 x15 x21
  let x49 := r97_1 x15 x21
  let x50 := IntKind.wrap .i64 (x14 + x20)
  let x52 := r98_0 x7 x8 x9 x1 x22 x50 x48 x49
  let x54 := bif x38 then x41 else x45
  let x55 := bif x47 then x52 else x54
  let x57 := bif x35 then x55 else x32
  let x59 := bif x6 then x57 else 0
  x59
noncomputable def r44_1 (x0 : Int) (x1 : Int) (x2 : Int) (x3 : Int) : Int :=
  let x4 := r91_0 x0 x1
  let x5 := !x4
  let x6 := !x5
  let x7 := r92_0 x0
  let x8 := r92_1 x0
  let x9 := r92_2 x0
  let y11 : List DV := g93 [.i x7, .i x8, .i x9, .i x2]
  let x11 : Bool := (dget y11 1).toB
  let x12 : Bool := (dget y11 2).toB
  let x13 : Int := (dget y11 3).toI
  let x14 : Int := (dget y11 4).toI
  let x15 : Int := (dget y11 5).toI
  let y17 : List DV := g93 [.i x7, .i x8, .i x9, .i x3]
  let x17 : Bool := (dget y17 1).toB
  let x18 : Bool := (dget y17 2).toB
  let x19 : Int := (dget y17 3).toI
  let x20 : Int := (dget y17 4).toI
  let x21 : Int := (dget y17 5).toI
  let x22 := x11 != x17
  let x23 := x13 == 2
  let x24 := x19 == 0
  let x25 := x23 && x24
  let x26 := x13 == 0
  let x27 := x19 == 2
  let x28 := x26 && x27
  let x29 := x25 || x28
  let x30 : List DV := [.b x11, .b x12, .i x13, .i x14, .i x15, .b x17, .b x18, .i x19, .i x20, .i x21]
  let x33 := r94_1 x29 x30
  let x34 := r94_2 x29 x30
  let x35 := !x34
  let x36 := x13 == 2
  let x37 := x19 == 2
  let x38 := x36 || x37
  let x42 := x13 == 0
  let x43 := x19 == 0
  let x44 := x42 || x43
  let x46 := !x44
  let x47 := bif x38 then false else x46
  let x48 := r97_0 x15 x21
  let x49 := r97_1 x15 x21
  let x50 := IntKind.wrap .i64 (x14 + x20)
  let x53 := r98_1 x7 x8 x1 x22 x50 x48 x49
  let x56 := bif x47 then x53 else 0
  let x58 := bif x35 then x56 else x33
  let x60 := bif x6 then x58 else 0
  x60
noncomputable def g44 (ds : List DV) : List DV := [.b (p44 (dget ds 0).toI (dget ds 1).toI (dget ds 2).toI (dget ds 3).toI), .i (r44_0 (dget ds 0).toI (dget ds 1).toI (dget ds 2).toI (dget ds 3).toI), .i (r44_1 (dget ds 0).toI (dget ds 1).toI (dget ds 2).toI (dget ds 3).toI)]
def S44 : Sigs := ⟨[(91, s91), (92, s92), (93, s93), (94, s94), (96, s96), (95, s95), (97, s97), (98, s98)], [], [], 0⟩

def s46 : Sig := ⟨[.s (.one (.i .i64 (.h 0))), .s (.one (.i .i64 (.h 1))), .s (.one (.i .u64 (.h 2))), .s (.one (.i .u64 (.h 3)))], [], [.i, .i, .i, .i], .t [.one (.i .u64 (.h 0)), .one (.i .i64 (.h 1))], [], [.i, .i], true⟩
def o46 : Out := ⟨List.append (List.append (List.append (List.append (List.append (List.append (List.append (List.append (List.append (List.append ([(4, .call 91 [.r 0, .r 1] 0), (5, .not (.r 4)), (6, .not (.r 5))]) (callsAt 7 92 [.r 0] 0 3)) (callsAt 10 93 [.r 7, .r 8, .r 9, .r 2] 0 6)) (callsAt 16 93 [.r 7, .r 8, .r 9, .r 3] 0 6)) ([(22, .bne (.r 11) (.r 17)), (23, .eql (.r 13) (.r 19)), (24, .eql (.r 13) (.z 2)), (25, .eql (.r 13) (.z 0)), (26, .or (.r 24) (.r 25)), (27, .and (.r 23) (.r 26)), (28, .lmk [.b, .b, .i, .i, .i, .b, .b, .i, .i, .i] [.r 11, .r 12, .r 13, .r 14, .r 15, .r 17, .r 18, .r 19, .r 20, .r 21])])) (callsAt 29 94 [.r 7, .r 8, .r 9, .r 27, .r 28] 0 4)) ([(33, .not (.r 32)), (34, .eql (.r 13) (.z 2)), (35, .call 96 [.r 7, .r 8, .r 9] 0), (36, .call 96 [.r 7, .r 8, .r 9] 1), (37, .call 95 [.r 7, .r 8, .r 9, .r 22, .r 36] 0), (38, .eql (.r 19) (.z 2)), (39, .eql (.r 13) (.z 0)), (40, .or (.r 38) (.r 39)), (41, .call 95 [.r 7, .r 8, .r 9, .r 22, .z 0] 0), (42, .eql (.r 19) (.z 0)), (43, .call 96 [.r 7, .r 8, .r 9] 0), (44, .call 96 [.r 7, .r 8, .r 9] 1), (45, .call 95 [.r 7, .r 8, .r 9, .r 22, .r 44] 0), (46, .not (.r 42)), (47, .iteb (.r 40) (.t false) (.r 46)), (48, .iteb (.r 34) (.t false) (.r 47)), (49, .shr .u64 (.r 15) (.z 1)), (50, .shl .u64 (.r 15) (.z 63))])) (callsAt 51 102 [.r 49, .r 50, .r 21] 0 3)) ([(54, .neq (.r 53) (.z 0)), (55, .itei (.r 54) (.z 1) (.z 0)), (56, .sub .i64 (.r 14) (.r 20)), (57, .sub .i64 (.r 56) (.z 63)), (58, .sub .i64 (.r 57) (.z 64))])) (callsAt 59 98 [.r 7, .r 8, .r 9, .r 1, .r 22, .r 58, .r 52, .r 55] 0 3)) ([(62, .itei (.r 40) (.r 41) (.r 45)), (63, .itei (.r 40) (.z 0) (.z 8)), (64, .itei (.r 34) (.r 37) (.r 62)), (65, .itei (.r 34) (.z 0) (.r 63)), (66, .itei (.r 48) (.r 60) (.r 64)), (67, .itei (.r 48) (.r 61) (.r 65)), (68, .itei (.r 33) (.r 66) (.r 30)), (69, .itei (.r 33) (.r 67) (.r 31)), (70, .itei (.r 6) (.r 68) (.z 0)), (71, .itei (.r 6) (.r 69) (.z 0))]),
  [⟨[(.r 6, true)], .r 10⟩, ⟨[(.r 6, true)], .r 16⟩, ⟨[(.r 6, true)], .r 29⟩, ⟨[(.r 6, true), (.r 33, true), (.r 34, true)], .r 35⟩, ⟨[(.r 6, true), (.r 33, true), (.r 34, false), (.r 40, false), (.r 42, true)], .r 43⟩, ⟨[(.r 6, true), (.r 33, true), (.r 48, true)], .r 51⟩, ⟨[(.r 6, true), (.r 33, true), (.r 48, true)], .r 59⟩],
  [],
  [.r 70, .r 71]⟩
noncomputable def p46 (x0 : Int) (x1 : Int) (x2 : Int) (x3 : Int) : Bool :=
  let x4 := r91_0 x0 x1
  let x5 := !x4
  let x6 := !x5
  let x7 := r92_0 x0
  let x8 := r92_1 x0
  let x9 := r92_2 x0
  let y10 : List DV := g93 [.i x7, .i x8, .i x9, .i x2]
  let x10 : Bool := (dget y10 0).toB
  let x11 : Bool := (dget y10 1).toB
  let x12 : Bool := (dget y10 2).toB
  let x13 : Int := (dget y10 3).toI
  let x14 : Int := (dget y10 4).toI
  let x15 : Int := (dget y10 5).toI
  let y16 : List DV := g93 [.i x7, .i x8, .i x9, .i x3]
  let x16 : Bool := (dget y16 0).toB
  let x17 : Bool := (dget y16 1).toB
  let x18 : Bool := (dget y16 2).toB
  let x19 : Int := (dget y16 3).toI
  let x20 : Int := (dget y16 4).toI
  let x21 : Int := (dget y16 5).toI
  let x22 := x11 != x17
  let x23 := x13 == x19
  let x24 := x13 == 2
  let x25 := x13 == 0
  let x26 := x24 || x25
  let x27 := x23 && x26
  let x28 : List DV := [.b x11, .b x12, .i x13, .i x14, .i x15, .b x17, .b x18, .i x19, .i x20, .i x21]
  let x29 := p94 x7 x27 x28
  let x32 := r94_2 x27 x28
  let x33 := !x32
  let x34 := x13 == 2
  let x35 := p96 x7
  let x38 := x19 == 2
  let x39 := x13 == 0
  let x40 := x38 || x39
  let x42 := x19 == 0
  let x43 := p96 x7
  let x46 := !x42
  let x47 := bif x40 then false else x46
  let x48 := bif x34 then false else x47
  let x49 := ishr .u64 x15 1
  let x50 := ishl .u64 x15 63
  let x51 := p102 x49 x50 x21
  let x52 := r102_0 x49 x50 x21
  let x53 := r102_1 x49 x50 x21
  let x54 := x53 != 0
  let x55 : Int := bif x54 then 1 else 0
  let x56 := IntKind.wrap .i64 (x14 - x20)
  let x57 := IntKind.wrap .i64 (x56 - 63)
  let x58 := IntKind.wrap .i64 (x57 - 64)
  let x59 := p98 x7 x8 x1 x22 x58 x52 x55
  [ow [(x6, true)] x10, ow [(x6, true)] x16, ow [(x6, true)] x29, ow [(x6, true), (x33, true), (x34, true)] x35, ow [(x6, true), (x33, true), (x34, false), (x40, false), (x42, true)] x43, ow [(x6, true), (x33, true), (x48, true)] x51, ow [(x6, true), (x33, true), (x48, true)] x59].all id
noncomputable def r46_0 (x0 : Int) (x1 : Int) (x2 : Int) (x3 : Int) : Int :=
  let x4 := r91_0 x0 x1
  let x5 := !x4
  let x6 := !x5
  let x7 := r92_0 x0
  let x8 := r92_1 x0
  let x9 := r92_2 x0
  let y11 : List DV := g93 [.i x7, .i x8, .i x9, .i x2]
  let x11 : Bool := (dget y11 1).toB
  let x12 : Bool := (dget y11 2).toB
  let x13 : Int := (dget y11 3).toI
  let x14 : Int := (dget y11 4).toI
  let x15 : Int := (dget y11 5).toI
  let y17 : List DV := g93 [.i x7, .i x8, .i x9, .i x3]
  let x17 : Bool := (dget y17 1).toB
  let x18 : Bool := (dget y17 2).toB
  let x19 : Int := (dget y17 3).toI
  let x20 : Int := (dget y17 4).toI
  let x21 : Int := (dget y17 5).toI
  let x22 := x11 != x17
  let x23 := x13 == x19
  let x24 := x13 == 2
  let x25 := x13 == 0
  let x26 := x24 || x25
  let x27 := x23 && x26
  let x28 : List DV := [.b x11, .b x12, .i x13, .i x14, .i x15, .b x17, .b x18, .i x19, .i x20, .i x21]
  let x30 := r94_0 x7 x8 x27 x28
  let x32 := r94_2 x27 x28
  let x33 := !x32
  let x34 := x13 == 2
  let x36 := r96_0 x7 x8
  let x37 := r95_0 x9 x22 x36
  let x38 := x19 == 2
  let x39 := x13 == 0
  let x40 := x38 || x39
  let x41 := r95_0 x9 x22 0
  let x42 := x19 == 0
  let x44 := r96_0 x7 x8
  let x45 := r95_0 x9 x22 x44
  let x46 := !x42
  let x47 := bif x40 then false else x46
  let x48 := bif x34 then false else x47
  let x49 := ishr .u64 x15 1
  let x50 := ishl .u64 x15 63
  let x52 := r102_0 x49 x50 x21
  let x53 := r102_1 x49 x50 x21
  let x54 := x53 != 0
  let x55 : Int := bif x54 then 1 else 0
  let x56 := IntKind.wrap .i64 (x14 - x20)
  let x57 := IntKind.wrap .i64 (x56 - 63)
  let x58 := IntKind.wrap .i64 (x57 - 64)
  let x60 := r98_0 x7 x8 x9 x1 x22 x58 x52 x55
  let x62 := bif x40 then x41 else x45
  let x64 := bif x34 then x37 else x62
  let x66 := bif x48 then x60 else x64
  let x68 := bif x33 then x66 else x30
  let x70 := bif x6 then x68 else 0
  x70
noncomputable def r46_1 (x0 : Int) (x1 : Int) (x2 : Int) (x3 : Int) : Int :=
  let x4 := r91_0 x0 x1
  let x5 := !x4
  let x6 := !x5
  let x7 := r92_0 x0
  let x8 := r92_1 x0
  let x9 := r92_2 x0
  let y11 : List DV := g93 [.i x7, .i x8, .i x9, .i x2]
  let x11 : Bool := (dget y11 1).toB
  let x12 : Bool := (dget y11 2).toB
  let x13 : Int := (dget y11 3).toI
  let x14 : Int := (dget y11 4).toI
  let x15 : Int := (dget y11 5).toI
  let y17 : List DV := g93 [.i x7, .i x8, .i x9, .i x3]
  let x17 : Bool := (dget y17 1).toB
  let x18 : Bool := (dget y17 2).toB
  let x19 : Int := (dget y17 3).toI
  let x20 : Int := (dget y17 4).toI
  let x21 : Int := (dget y17 5).toI
  let x22 := x11 != x17
  let x23 := x13 == x19
  let x24 := x13 == 2
  let x25 := x13 == 0
  let x26 := x24 || x25
  let x27 := x23 && x26
  let x28 : List DV := [.b x11, .b x12, .i x13, .i x14, .i x15, .b x17, .b x18, .i x19, .i x20, .i x21]
  let x31 := r94_1 x27 x28
  let x32 := r94_2 x27 x28
  let x33 := !x32
  let x34 := x13 == 2
  let x38 := x19 == 2
  let x39 := x13 == 0
  let x40 := x38 || x39
  let x42 := x19 == 0
  let x46 := !x42
  let x47 := bif x40 then false else x46
  let x48 := bif x34 then false else x47
  let x49 := ishr .u64 x15 1
  let x50 := ishl .u64 x15 63
  let x52 := r102_0 x49 x50 x21
  let x53 := r102_1 x49 x50 x21
  let x54 := x53 != 0
  let x55 : Int := bif x54 then 1 else 0
  let x56 := IntKind.wrap .i64 (x14 - x20)
  let x57 := IntKind.wrap .i64 (x56 - 63)
  let x58 := IntKind.wrap .i64 (x57 - 64)
  let x61 := r98_1 x7 x8 x1 x22 x58 x52 x55
  let x63 : Int := bif x40 then 0 else 8
  let x65 := bif x34 then 0 else x63
  let x67 := bif x48 then x61 else x65
  let x69 := bif x33 then x67 else x31
  let x71 := bif x6 then x69 else 0
  x71
noncomputable def g46 (ds : List DV) : List DV := [.b (p46 (dget ds 0).toI (dget ds 1).toI (dget ds 2).toI (dget ds 3).toI), .i (r46_0 (dget ds 0).toI (dget ds 1).toI (dget ds 2).toI (dget ds 3).toI), .i (r46_1 (dget ds 0).toI (dget ds 1).toI (dget ds 2).toI (dget ds 3).toI)]
def S46 : Sigs := ⟨[(91, s91), (92, s92), (93, s93), (94, s94), (96, s96), (95, s95), (102, s102), (98, s98)], [], [], 0⟩

noncomputable def w104800 (_x37 : Int) (_x38 : Int) (_x39 : Int) (x40 : Int) : Bool :=
  let x41 := decide (x40 ≥ 0)
  let x42 := decide (x40 ≥ 0)
  [ow [(x41, true)] x42].all id
noncomputable def c104800 (_x37 : Int) (_x38 : Int) (_x39 : Int) (x40 : Int) : Bool :=
  let x41 := decide (x40 ≥ 0)
  x41
noncomputable def n104800_0 (x37 : Int) (x38 : Int) (x39 : Int) (x40 : Int) : Int :=
  let x43 := ishl .u64 1 x40
  let x44 := ilor .u64 x39 x43
  let x45 := r97_0 x44 x44
  let x46 := r97_1 x44 x44
  let x47 := decide (x45 < x37)
  let x48 := x45 == x37
  let x49 := decide (x46 ≤ x38)
  let x50 := x48 && x49
  let x51 := x47 || x50
  let x52 := bif x51 then x44 else x39
  x52
noncomputable def n104800_1 (_x37 : Int) (_x38 : Int) (_x39 : Int) (x40 : Int) : Int :=
  let x53 := IntKind.wrap .i64 (x40 - 1)
  x53
noncomputable def t104800_0 (_x37 : Int) (_x38 : Int) (_x39 : Int) (_x40 : Int) : Int :=
  0
noncomputable def t104800_1 (_x37 : Int) (_x38 : Int) (x39 : Int) (_x40 : Int) : Int :=
  x39
noncomputable def t104800_2 (_x37 : Int) (_x38 : Int) (_x39 : Int) (x40 : Int) : Int :=
  x40
noncomputable def W104800 (ds : List DV) : Bool := w104800 (dget ds 0).toI (dget ds 1).toI (dget ds 2).toI (dget ds 3).toI
noncomputable def C104800 (ds : List DV) : Bool := c104800 (dget ds 0).toI (dget ds 1).toI (dget ds 2).toI (dget ds 3).toI
noncomputable def N104800 (ds : List DV) : List DV := [.i (dget ds 0).toI, .i (dget ds 1).toI, .i (n104800_0 (dget ds 0).toI (dget ds 1).toI (dget ds 2).toI (dget ds 3).toI), .i (n104800_1 (dget ds 0).toI (dget ds 1).toI (dget ds 2).toI (dget ds 3).toI)]
noncomputable def T104800 (ds : List DV) : List DV := [.i (t104800_0 (dget ds 0).toI (dget ds 1).toI (dget ds 2).toI (dget ds 3).toI), .i (t104800_1 (dget ds 0).toI (dget ds 1).toI (dget ds 2).toI (dget ds 3).toI), .i (t104800_2 (dget ds 0).toI (dget ds 1).toI (dget ds 2).toI (dget ds 3).toI)]
noncomputable def L104800 (x0 : Int) (x1 : Int) (x2 : Int) (x3 : Int) : Option (List DV) := loopG W104800 C104800 N104800 T104800 [.i x0, .i x1, .i x2, .i x3]
noncomputable def p104800 (x0 : Int) (x1 : Int) (x2 : Int) (x3 : Int) : Bool := (L104800 x0 x1 x2 x3).isSome
noncomputable def r104800_0 (x0 : Int) (x1 : Int) (x2 : Int) (x3 : Int) : Int := (dget ((L104800 x0 x1 x2 x3).getD []) 0).toI
noncomputable def r104800_1 (x0 : Int) (x1 : Int) (x2 : Int) (x3 : Int) : Int := (dget ((L104800 x0 x1 x2 x3).getD []) 1).toI
noncomputable def r104800_2 (x0 : Int) (x1 : Int) (x2 : Int) (x3 : Int) : Int := (dget ((L104800 x0 x1 x2 x3).getD []) 2).toI
noncomputable def g104800 (ds : List DV) : List DV := [.b (p104800 (dget ds 0).toI (dget ds 1).toI (dget ds 2).toI (dget ds 3).toI), .i (r104800_0 (dget ds 0).toI (dget ds 1).toI (dget ds 2).toI (dget ds 3).toI), .i (r104800_1 (dget ds 0).toI (dget ds 1).toI (dget ds 2).toI (dget ds 3).toI), .i (r104800_2 (dget ds 0).toI (dget ds 1).toI (dget ds 2).toI (dget ds 3).toI)]
def l48_0 : LR := ⟨104800, 39, 2, [37, 38], [(41, .geq (.r 40) (.z 0)), (42, .geq (.r 40) (.z 0)), (43, .shl .u64 (.z 1) (.r 40)), (44, .lor .u64 (.r 39) (.r 43)), (45, .call 97 [.r 44, .r 44] 0), (46, .call 97 [.r 44, .r 44] 1), (47, .lss (.r 45) (.r 37)), (48, .eql (.r 45) (.r 37)), (49, .leq (.r 46) (.r 38)), (50, .and (.r 48) (.r 49)), (51, .or (.r 47) (.r 50)), (52, .itei (.r 51) (.r 44) (.r 39)), (53, .sub .i64 (.r 40) (.z 1))], [⟨[(.r 41, true)], .r 42⟩], .r 41, [.r 52, .r 53], [.z 0, .r 39, .r 40], [.i, .i]⟩
def s48 : Sig := ⟨[.s (.one (.i .i64 (.h 0))), .s (.one (.i .i64 (.h 1))), .s (.one (.i .u64 (.h 2)))], [], [.i, .i, .i], .t [.one (.i .u64 (.h 0)), .one (.i .i64 (.h 1))], [], [.i, .i], true⟩
def o48 : Out := ⟨List.append (List.append (List.append (List.append (List.append (List.append (List.append (List.append (List.append ([(3, .call 91 [.r 0, .r 1] 0), (4, .not (.r 3)), (5, .not (.r 4))]) (callsAt 6 92 [.r 0] 0 3)) (callsAt 9 93 [.r 6, .r 7, .r 8, .r 2] 0 6)) ([(15, .eql (.r 12) (.z 1)), (16, .eql (.r 12) (.z 2)), (17, .or (.r 15) (.r 16)), (18, .and (.r 10) (.r 17)), (19, .lmk [.b, .b, .i, .i, .i] [.r 10, .r 11, .r 12, .r 13, .r 14])])) (callsAt 20 94 [.r 6, .r 7, .r 8, .r 18, .r 19] 0 4)) ([(24, .not (.r 23)), (25, .neq (.r 12) (.z 1)), (26, .shl .u64 (.r 8) (.z 1)), (27, .sub .u64 (.r 26) (.z 1)), (28, .land .u64 (.r 2) (.r 27)), (29, .not (.r 25)), (30, .shr .u64 (.r 14) (.z 1)), (31, .shl .u64 (.r 14) (.z 63)), (32, .sub .i64 (.r 13) (.z 63)), (33, .rem .i64 (.r 32) (.z 2)), (34, .neq (.r 33) (.z 0)), (35, .sub .i64 (.r 32) (.z 1)), (36, .itei (.r 34) (.r 35) (.r 32)), (37, .itei (.r 34) (.r 14) (.r 30)), (38, .itei (.r 34) (.z 0) (.r 31))])) (callsAt 39 104800 [.r 37, .r 38, .z 0, .z 63] 0 4)) ([(43, .call 97 [.r 41, .r 41] 0), (44, .call 97 [.r 41, .r 41] 1), (45, .eql (.r 43) (.r 37)), (46, .eql (.r 44) (.r 38)), (47, .and (.r 45) (.r 46)), (48, .not (.r 47)), (49, .itei (.r 48) (.z 1) (.z 0)), (50, .quo .i64 (.r 36) (.z 2)), (51, .sub .i64 (.r 50) (.z 64))])) (callsAt 52 98 [.r 6, .r 7, .r 8, .r 1, .t false, .r 51, .r 41, .r 49] 0 3)) ([(55, .itei (.r 29) (.r 53) (.r 28)), (56, .itei (.r 29) (.r 54) (.z 0)), (57, .itei (.r 24) (.r 55) (.r 21)), (58, .itei (.r 24) (.r 56) (.r 22)), (59, .itei (.r 5) (.r 57) (.z 0)), (60, .itei (.r 5) (.r 58) (.z 0))]),
  [⟨[(.r 5, true)], .r 9⟩, ⟨[(.r 5, true)], .r 20⟩, ⟨[(.r 5, true), (.r 24, true), (.r 29, true)], .r 39⟩, ⟨[(.r 5, true), (.r 24, true), (.r 29, true)], .r 52⟩],
  [l48_0],
  [.r 59, .r 60]⟩
noncomputable def p48 (x0 : Int) (x1 : Int) (x2 : Int) : Bool :=
  let x3 := r91_0 x0 x1
  let x4 := !x3
  let x5 := !x4
  let x6 := r92_0 x0
  let x7 := r92_1 x0
  let x8 := r92_2 x0
  let y9 : List DV := g93 [.i x6, .i x7, .i x8, .i x2]
  let x9 : Bool := (dget y9 0).toB
  let x10 : Bool := (dget y9 1).toB
  let x11 : Bool := (dget y9 2).toB
  let x12 : Int := (dget y9 3).toI
  let x13 : Int := (dget y9 4).toI
  let x14 : Int := (dget y9 5).toI
  let x15 := x12 == 1
  let x16 := x12 == 2
  let x17 := x15 || x16
  let x18 := x10 && x17
  let x19 : List DV := [.b x10, .b x11, .i x12, .i x13, .i x14]
  let x20 := p94 x6 x18 x19
  let x23 := r94_2 x18 x19
  let x24 := !x23
  let x25 := x12 != 1
  let x29 := !x25
  let x30 := ishr .u64 x14 1
  let x31 := ishl .u64 x14 63
  let x32 := IntKind.wrap .i64 (x13 - 63)
  let x33 := Int.tmod x32 2
  let x34 := x33 != 0
  let x35 := IntKind.wrap .i64 (x32 - 1)
  let x36 := bif x34 then x35 else x32
  let x37 := bif x34 then x14 else x30
  let x38 := bif x34 then 0 else x31
  let x39 := p104800 x37 x38 0 63
  let x41 := r104800_1 x37 x38 0 63
  let x43 := r97_0 x41 x41
  let x44 := r97_1 x41 x41
  let x45 := x43 == x37
  let x46 := x44 == x38
  let x47 := x45 && x46
  let x48 := !x47
  let x49 : Int := bif x48 then 1 else 0
  let x50 := IntKind.wrap .i64 (Int.tdiv x36 2)
  let x51 := IntKind.wrap .i64 (x50 - 64)
  let x52 := p98 x6 x7 x1 false x51 x41 x49
  [ow [(x5, true)] x9, ow [(x5, true)] x20, ow [(x5, true), (x24, true), (x29, true)] x39, ow [(x5, true), (x24, true), (x29, true)] x52].all id
noncomputable def r48_0 (x0 : Int) (x1 : Int) (x2 : Int) : Int :=
  let x3 := r91_0 x0 x1
  let x4 := !x3
  let x5 := !x4
  let x6 := r92_0 x0
  let x7 := r92_1 x0
  let x8 := r92_2 x0
  let y10 : List DV := g93 [.i x6, .i x7, .i x8, .i x2]
  let x10 : Bool := (dget y10 1).toB
  let x11 : Bool := (dget y10 2).toB
  let x12 : Int := (dget y10 3).toI
  let x13 : Int := (dget y10 4).toI
  let x14 : Int := (dget y10 5).toI
  let x15 := x12 == 1
  let x16 := x12 == 2
  let x17 := x15 || x16
  let x18 := x10 && x17
  let x19 : List DV := [.b x10, .b x11, .i x12, .i x13, .i x14]
  let x21 := r94_0 x6 x7 x18 x19
  let x23 := r94_2 x18 x19
  let x24 := !x23
  let x25 := x12 != 1
  let x26 := ishl .u64 x8 1
  let x27 := IntKind.wrap .u64 (x26 - 1)
  let x28 := iland .u64 x2 x27
  let x29 := !x25
  let x30 := ishr .u64 x14 1
  let x31 := ishl .u64 x14 63
  let x32 := IntKind.wrap .i64 (x13 - 63)
  let x33 := Int.tmod x32 2
  let x34 := x33 != 0
  let x35 := IntKind.wrap .i64 (x32 - 1)
  let x36 := bif x34 then x35 else x32
  let x37 := bif x34 then x14 else x30
  let x38 := bif x34 then 0 else x31
  let x41 := r104800_1 x37 x38 0 63
  let x43 := r97_0 x41 x41
  let x44 := r97_1 x41 x41
  let x45 := x43 == x37
  let x46 := x44 == x38
  let x47 := x45 && x46
  let x48 := !x47
  let x49 : Int := bif x48 then 1 else 0
  let x50 := IntKind.wrap .i64 (Int.tdiv x36 2)
  let x51 := IntKind.wrap .i64 (x50 - 64)
  let x53 := r98_0 x6 x7 x8 x1 false x51 x41 x49
  let x55 := bif x29 then x53 else x28
  let x57 := bif x24 then x55 else x21
  let x59 := bif x5 then x57 else 0
  x59
noncomputable def r48_1 (x0 : Int) (x1 : Int) (x2 : Int) : Int :=
  let x3 := r91_0 x0 x1
  let x4 := !x3
  let x5 := !x4
  let x6 := r92_0 x0
  let x7 := r92_1 x0
  let x8 := r92_2 x0
  let y10 : List DV := g93 [.i x6, .i x7, .i x8, .i x2]
  let x10 : Bool := (dget y10 1).toB
  let x11 : Bool := (dget y10 2).toB
  let x12 : Int := (dget y10 3).toI
  let x13 : Int := (dget y10 4).toI
  let x14 : Int := (dget y10 5).toI
  let x15 := x12 == 1
  let x16 := x12 == 2
  let x17 := x15 || x16
  let x18 := x10 && x17
  let x19 : List DV := [.b x10, .b x11, .i x12, .i x13, .i x14]
  let x22 := r94_1 x18 x19
  let x23 := r94_2 x18 x19
  let x24 := !x23
  let x25 := x12 != 1
  let x29 := !x25
  let x30 := ishr .u64 x14 1
  let x31 := ishl .u64 x14 63
  let x32 := IntKind.wrap .i64 (x13 - 63)
  let x33 := Int.tmod x32 2
  let x34 := x33 != 0
  let x35 := IntKind.wrap .i64 (x32 - 1)
  let x36 := bif x34 then x35 else x32
  let x37 := bif x34 then x14 else x30
  let x38 := bif x34 then 0 else x31
  let x41 := r104800_1 x37 x38 0 63
  let x43 := r97_0 x41 x41
  let x44 := r97_1 x41 x41
  let x45 := x43 == x37
  let x46 := x44 == x38
  let x47 := x45 && x46
  let x48 := !x47
  let x49 : Int := bif x48 then 1 else 0
  let x50 := IntKind.wrap .i64 (Int.tdiv x36 2)
  let x51 := IntKind.wrap .i64 (x50 - 64)
  let x54 := r98_1 x6 x7 x1 false x51 x41 x49
  let x56 := bif x29 then x54 else 0
  let x58 := bif x24 then x56 else x22
  let x60 := bif x5 then x58 else 0
  x60
noncomputable def g48 (ds : List DV) : List DV := [.b (p48 (dget ds 0).toI (dget ds 1).toI (dget ds 2).toI), .i (r48_0 (dget ds 0).toI (dget ds 1).toI (dget ds 2).toI), .i (r48_1 (dget ds 0).toI (dget ds 1).toI (dget ds 2).toI)]
def S48 : Sigs := ⟨[(91, s91), (92, s92), (93, s93), (94, s94), (97, s97), (98, s98)], [], [(0, 104800)], 0⟩

end Go.Proofs.Ytacciadcmiiimaa

namespace Go.Proofs.Ytacciadcmiiimaa
open Go Go.Sx
set_option maxRecDepth 100000
set_option maxHeartbeats 4000000

def s50 : Sig := ⟨[.s (.one (.i .i64 (.h 0))), .s (.one (.i .i64 (.h 1))), .s (.one (.i .u64 (.h 2))), .s (.one (.i .u64 (.h 3))), .s (.one (.i .u64 (.h 4)))], [], [.i, .i, .i, .i, .i], .t [.one (.i .u64 (.h 0)), .one (.i .i64 (.h 1))], [], [.i, .i], true⟩
def o50 : Out := ⟨List.append (List.append (List.append (List.append (List.append (List.append (List.append (List.append (List.append (List.append (List.append (List.append ([(5, .call 91 [.r 0, .r 1] 0), (6, .not (.r 5)), (7, .not (.r 6))]) (callsAt 8 92 [.r 0] 0 3)) (callsAt 11 93 [.r 8, .r 9, .r 10, .r 2] 0 6)) (callsAt 17 93 [.r 8, .r 9, .r 10, .r 3] 0 6)) (callsAt 23 93 [.r 8, .r 9, .r 10, .r 4] 0 6)) ([(29, .bne (.r 12) (.r 18)), (30, .eql (.r 14) (.z 2)), (31, .eql (.r 20) (.z 0)), (32, .and (.r 30) (.r 31)), (33, .eql (.r 14) (.z 0)), (34, .eql (.r 20) (.z 2)), (35, .and (.r 33) (.r 34)), (36, .or (.r 32) (.r 35)), (37, .not (.r 36)), (38, .eql (.r 14) (.z 2)), (39, .eql (.r 20) (.z 2)), (40, .or (.r 38) (.r 39)), (41, .and (.r 37) (.r 40)), (42, .neq (.r 14) (.z 3)), (43, .and (.r 41) (.r 42)), (44, .neq (.r 20) (.z 3)), (45, .and (.r 43) (.r 44)), (46, .eql (.r 26) (.z 2)), (47, .and (.r 45) (.r 46)), (48, .bne (.r 24) (.r 29)), (49, .and (.r 47) (.r 48)), (50, .or (.r 36) (.r 49)), (51, .lmk [.b, .b, .i, .i, .i, .b, .b, .i, .i, .i, .b, .b, .i, .i, .i] [.r 12, .r 13, .r 14, .r 15, .r 16, .r 18, .r 19, .r 20, .r 21, .r 22, .r 24, .r 25, .r 26, .r 27, .r 28])])) (callsAt 52 94 [.r 8, .r 9, .r 10, .r 50, .r 51] 0 4)) ([(56, .not (.r 55)), (57, .call 96 [.r 8, .r 9, .r 10] 0), (58, .call 96 [.r 8, .r 9, .r 10] 1), (59, .call 95 [.r 8, .r 9, .r 10, .r 29, .r 58] 0), (60, .eql (.r 26) (.z 2)), (61, .call 96 [.r 8, .r 9, .r 10] 0), (62, .call 96 [.r 8, .r 9, .r 10] 1), (63, .call 95 [.r 8, .r 9, .r 10, .r 24, .r 62] 0), (64, .not (.r 60)), (65, .iteb (.r 45) (.t false) (.r 64)), (66, .eql (.r 14) (.z 1)), (67, .eql (.r 20) (.z 1)), (68, .and (.r 66) (.r 67)), (69, .call 97 [.r 16, .r 22] 0), (70, .call 97 [.r 16, .r 22] 1), (71, .add .i64 (.r 15) (.r 21)), (72, .shr .u64 (.r 69) (.z 63)), (73, .eql (.r 72) (.z 0))])) (callsAt 74 106 [.r 69, .r 70, .z 1] 0 3)) ([(77, .sub .i64 (.r 71) (.z 1)), (78, .itei (.r 73) (.r 77) (.r 71)), (79, .itei (.r 73) (.r 75) (.r 69)), (80, .itei (.r 73) (.r 76) (.r 70)), (81, .shr .u64 (.r 79) (.z 1)), (82, .shr .u64 (.r 80) (.z 1)), (83, .shl .u64 (.r 79) (.z 63)), (84, .lor .u64 (.r 82) (.r 83)), (85, .add .i64 (.r 78) (.z 1)), (86, .itei (.r 68) (.r 85) (.z 0)), (87, .itei (.r 68) (.r 81) (.z 0)), (88, .itei (.r 68) (.r 84) (.z 0))])) (callsAt 89 108 [.r 24, .r 25, .r 26, .r 27, .r 28] 0 4)) (callsAt 93 107 ([.r 8, .r 9, .r 10, .r 1, .r 29] ++ idsFrom 86 7) 0 3)) ([(96, .itei (.r 45) (.r 59) (.r 63)), (97, .itei (.r 65) (.r 94) (.r 96)), (98, .itei (.r 65) (.r 95) (.z 0)), (99, .itei (.r 56) (.r 97) (.r 53)), (100, .itei (.r 56) (.r 98) (.r 54)), (101, .itei (.r 7) (.r 99) (.z 0)), (102, .itei (.r 7) (.r 100) (.z 0))]),
  [⟨[(.r 7, true)], .r 11⟩, ⟨[(.r 7, true)], .r 17⟩, ⟨[(.r 7, true)], .r 23⟩, ⟨[(.r 7, true)], .r 52⟩, ⟨[(.r 7, true), (.r 56, true), (.r 45, true)], .r 57⟩, ⟨[(.r 7, true), (.r 56, true), (.r 45, false), (.r 60, true)], .r 61⟩, ⟨[(.r 7, true), (.r 56, true), (.r 65, true), (.r 68, true), (.r 73, true)], .r 74⟩, ⟨[(.r 7, true), (.r 56, true), (.r 65, true)], .r 93⟩],
  [],
  [.r 101, .r 102]⟩
noncomputable def p50 (x0 : Int) (x1 : Int) (x2 : Int) (x3 : Int) (x4 : Int) : Bool :=
  let x5 := r91_0 x0 x1
  let x6 := !x5
  let x7 := !x6
  let x8 := r92_0 x0
  let x9 := r92_1 x0
  let x10 := r92_2 x0
  let y11 : List DV := g93 [.i x8, .i x9, .i x10, .i x2]
  let x11 : Bool := (dget y11 0).toB
  let x12 : Bool := (dget y11 1).toB
  let x13 : Bool := (dget y11 2).toB
  let x14 : Int := (dget y11 3).toI
  let x15 : Int := (dget y11 4).toI
  let x16 : Int := (dget y11 5).toI
  let y17 : List DV := g93 [.i x8, .i x9, .i x10, .i x3]
  let x17 : Bool := (dget y17 0).toB
  let x18 : Bool := (dget y17 1).toB
  let x19 : Bool := (dget y17 2).toB
  let x20 : Int := (dget y17 3).toI
  let x21 : Int := (dget y17 4).toI
  let x22 : Int := (dget y17 5).toI
  let y23 : List DV := g93 [.i x8, .i x9, .i x10, .i x4]
  let x23 : Bool := (dget y23 0).toB
  let x24 : Bool := (dget y23 1).toB
  let x25 : Bool := (dget y23 2).toB
  let x26 : Int := (dget y23 3).toI
  let x27 : Int := (dget y23 4).toI
  let x28 : Int := (dget y23 5).toI
  let x29 := x12 != x18
  let x30 := x14 == 2
  let x31 := x20 == 0
  let x32 := x30 && x31
  let x33 := x14 == 0
  let x34 := x20 == 2
  let x35 := x33 && x34
  let x36 := x32 || x35
  let x37 := !x36
  let x38 := x14 == 2
  let x39 := x20 == 2
  let x40 := x38 || x39
  let x41 := x37 && x40
  let x42 := x14 != 3
  let x43 := x41 && x42
  let x44 := x20 != 3
  let x45 := x43 && x44
  let x46 := x26 == 2
  let x47 := x45 && x46
  let x48 := x24 != x29
  let x49 := x47 && x48
  let x50 := x36 || x49
  let x51 : List DV := [.b x12, .b x13, .i x14, .i x15, .i x16, .b x18, .b x19, .i x20, .i x21, .i x22, .b x24, .b x25, .i x26, .i x27, .i x28]
  let x52 := p94 x8 x50 x51
  let x55 := r94_2 x50 x51
  let x56 := !x55
  let x57 := p96 x8
  let x60 := x26 == 2
  let x61 := p96 x8
  let x64 := !x60
  let x65 := bif x45 then false else x64
  let x66 := x14 == 1
  let x67 := x20 == 1
  let x68 := x66 && x67
  let x69 := r97_0 x16 x22
  let x70 := r97_1 x16 x22
  let x71 := IntKind.wrap .i64 (x15 + x21)
  let x72 := ishr .u64 x69 63
  let x73 := x72 == 0
  let x74 := p106 1
  let x75 := r106_0 x69 x70 1
  let x76 := r106_1 x70 1
  let x77 := IntKind.wrap .i64 (x71 - 1)
  let x78 := bif x73 then x77 else x71
  let x79 := bif x73 then x75 else x69
  let x80 := bif x73 then x76 else x70
  let x81 := ishr .u64 x79 1
  let x82 := ishr .u64 x80 1
  let x83 := ishl .u64 x79 63
  let x84 := ilor .u64 x82 x83
  let x85 := IntKind.wrap .i64 (x78 + 1)
  let x86 := bif x68 then x85 else 0
  let x87 := bif x68 then x81 else 0
  let x88 := bif x68 then x84 else 0
  let y89 : List DV := g108 (segD y23 1 5)
  let x89 : Bool := (dget y89 0).toB
  let x90 : Int := (dget y89 1).toI
  let x91 : Int := (dget y89 2).toI
  let x92 : Int := (dget y89 3).toI
  let x93 := p107 x8 x9 x1 x29 x86 x87 x88 x89 x90 x91 x92
  [ow [(x7, true)] x11, ow [(x7, true)] x17, ow [(x7, true)] x23, ow [(x7, true)] x52, ow [(x7, true), (x56, true), (x45, true)] x57, ow [(x7, true), (x56, true), (x45, false), (x60, true)] x61, ow [(x7, true), (x56, true), (x65, true), (x68, true), (x73, true)] x74, ow [(x7, true), (x56, true), (x65, true)] x93].all id
noncomputable def r50_0 (x0 : Int) (x1 : Int) (x2 : Int) (x3 : Int) (x4 : Int) : Int :=
  let x5 := r91_0 x0 x1
  let x6 := !x5
  let x7 := !x6
  let x8 := r92_0 x0
  let x9 := r92_1 x0
  let x10 := r92_2 x0
  let y12 : List DV := g93 [.i x8, .i x9, .i x10, .i x2]
  let x12 : Bool := (dget y12 1).toB
  let x13 : Bool := (dget y12 2).toB
  let x14 : Int := (dget y12 3).toI
  let x15 : Int := (dget y12 4).toI
  let x16 : Int := (dget y12 5).toI
  let y18 : List DV := g93 [.i x8, .i x9, .i x10, .i x3]
  let x18 : Bool := (dget y18 1).toB
  let x19 : Bool := (dget y18 2).toB
  let x20 : Int := (dget y18 3).toI
  let x21 : Int := (dget y18 4).toI
  let x22 : Int := (dget y18 5).toI
  let y24 : List DV := g93 [.i x8, .i x9, .i x10, .i x4]
  let x24 : Bool := (dget y24 1).toB
  let x25 : Bool := (dget y24 2).toB
  let x26 : Int := (dget y24 3).toI
  let x27 : Int := (dget y24 4).toI
  let x28 : Int := (dget y24 5).toI
  let x29 := x12 != x18
  let x30 := x14 == 2
  let x31 := x20 == 0
  let x32 := x30 && x31
  let x33 := x14 == 0
  let x34 := x20 == 2
  let x35 := x33 && x34
  let x36 := x32 || x35
  let x37 := !x36
  let x38 := x14 == 2
  let x39 := x20 == 2
  let x40 := x38 || x39
  let x41 := x37 && x40
  let x42 := x14 != 3
  let x43 := x41 && x42
  let x44 := x20 != 3
  let x45 := x43 && x44
  let x46 := x26 == 2
  let x47 := x45 && x46
  let x48 := x24 != x29
  let x49 := x47 && x48
  let x50 := x36 || x49
  let x51 : List DV := [.b x12, .b x13, .i x14, .i x15, .i x16, .b x18, .b x19, .i x20, .i x21, .i x22, .b x24, .b x25, .i x26, .i x27, .i x28]
  let x53 := r94_0 x8 x9 x50 x51
  let x55 := r94_2 x50 x51
  let x56 := !x55
  let x58 := r96_0 x8 x9
  let x59 := r95_0 x10 x29 x58
  let x60 := x26 == 2
  let x62 := r96_0 x8 x9
  let x63 := r95_0 x10 x24 x62
  let x64 := !x60
  let x65 := bif x45 then false else x64
  let x66 := x14 == 1
  let x67 := x20 == 1
  let x68 := x66 && x67
  let x69 := r97_0 x16 x22
  let x70 := r97_1 x16 x22
  let x71 := IntKind.wrap .i64 (x15 + x21)
  let x72 := ishr .u64 x69 63
  let x73 := x72 == 0
  let x75 := r106_0 x69 x70 1
  let x76 := r106_1 x70 1
  let x77 := IntKind.wrap .i64 (x71 - 1)
  let x78 := bif x73 then x77 else x71
  let x79 := bif x73 then x75 else x69
  let x80 := bif x73 then x76 else x70
  let x81 := ishr .u64 x79 1
  let x82 := ishr .u64 x80 1
  let x83 := ishl .u64 x79 63
  let x84 := ilor .u64 x82 x83
  let x85 := IntKind.wrap .i64 (x78 + 1)
  let x86 := bif x68 then x85 else 0
  let x87 := bif x68 then x81 else 0
  let x88 := bif x68 then x84 else 0
  let y89 : List DV := g108 (segD y24 1 5)
  let x89 : Bool := (dget y89 0).toB
  let x90 : Int := (dget y89 1).toI
  let x91 : Int := (dget y89 2).toI
  let x92 : Int := (dget y89 3).toI
  let x94 := r107_0 x8 x9 x10 x1 x29 x86 x87 x88 x89 x90 x91 x92
  let x96 := bif x45 then x59 else x63
  let x97 := bif x65 then x94 else x96
  let x99 := bif x56 then x97 else x53
  let x101 := bif x7 then x99 else 0
  x101
noncomputable def r50_1 (x0 : Int) (x1 : Int) (x2 : Int) (x3 : Int) (x4 : Int) : Int :=
  let x5 := r91_0 x0 x1
  let x6 := !x5
  let x7 := !x6
  let x8 := r92_0 x0
  let x9 := r92_1 x0
  let x10 := r92_2 x0
  let y12 : List DV := g93 [.i x8, .i x9, .i x10, .i x2]
  let x12 : Bool := (dget y12 1).toB
  let x13 : Bool := (dget y12 2).toB
  let x14 : Int := (dget y12 3).toI
  let x15 : Int := (dget y12 4).toI
  let x16 : Int := (dget y12 5).toI
  let y18 : List DV := g93 [.i x8, .i x9, .i x10, .i x3]
  let x18 : Bool := (dget y18 1).toB
  let x19 : Bool := (dget y18 2).toB
  let x20 : Int := (dget y18 3).toI
  let x21 : Int := (dget y18 4).toI
  let x22 : Int := (dget y18 5).toI
  let y24 : List DV := g93 [.i x8, .i x9, .i x10, .i x4]
  let x24 : Bool := (dget y24 1).toB
  let x25 : Bool := (dget y24 2).toB
  let x26 : Int := (dget y24 3).toI
  let x27 : Int := (dget y24 4).toI
  let x28 : Int := (dget y24 5).toI
  let x29 := x12 != x18
  let x30 := x14 == 2
  let x31 := x20 == 0
  let x32 := x30 && x31
  let x33 := x14 == 0
  let x34 := x20 == 2
  let x35 := x33 && x34
  let x36 := x32 || x35
  let x37 := !x36
  let x38 := x14 == 2
  let x39 := x20 == 2
  let x40 := x38 || x39
  let x41 := x37 && x40
  let x42 := x14 != 3
  let x43 := x41 && x42
  let x44 := x20 != 3
  let x45 := x43 && x44
  let x46 := x26 == 2
  let x47 := x45 && x46
  let x48 := x24 != x29
  let x49 := x47 && x48
  let x50 := x36 || x49
  let x51 : List DV := [.b x12, .b x13, .i x14, .i x15, .i x16, .b x18, .b x19, .i x20, .i x21, .i x22, .b x24, .b x25, .i x26, .i x27, .i x28]
  let x54 := r94_1 x50 x51
  let x55 := r94_2 x50 x51
  let x56 := !x55
  let x60 := x26 == 2
  let x64 := !x60
  let x65 := bif x45 then false else x64
  let x66 := x14 == 1
  let x67 := x20 == 1
  let x68 := x66 && x67
  let x69 := r97_0 x16 x22
  let x70 := r97_1 x16 x22
  let x71 := IntKind.wrap .i64 (x15 + x21)
  let x72 := ishr .u64 x69 63
  let x73 := x72 == 0
  let x75 := r106_0 x69 x70 1
  let x76 := r106_1 x70 1
  let x77 := IntKind.wrap .i64 (x71 - 1)
  let x78 := bif x73 then x77 else x71
  let x79 := bif x73 then x75 else x69
  let x80 := bif x73 then x76 else x70
  let x81 := ishr .u64 x79 1
  let x82 := ishr .u64 x80 1
  let x83 := ishl .u64 x79 63
  let x84 := ilor .u64 x82 x83
  let x85 := IntKind.wrap .i64 (x78 + 1)
  let x86 := bif x68 then x85 else 0
  let x87 := bif x68 then x81 else 0
  let x88 := bif x68 then x84 else 0
  let y89 : List DV := g108 (segD y24 1 5)
  let x89 : Bool := (dget y89 0).toB
  let x90 : Int := (dget y89 1).toI
  let x91 : Int := (dget y89 2).toI
  let x92 : Int := (dget y89 3).toI
  let x95 := r107_1 x8 x9 x1 x29 x86 x87 x88 x89 x90 x91 x92
  let x98 := bif x65 then x95 else 0
  let x100 := bif x56 then x98 else x54
  let x102 := bif x7 then x100 else 0
  x102
noncomputable def g50 (ds : List DV) : List DV := [.b (p50 (dget ds 0).toI (dget ds 1).toI (dget ds 2).toI (dget ds 3).toI (dget ds 4).toI), .i (r50_0 (dget ds 0).toI (dget ds 1).toI (dget ds 2).toI (dget ds 3).toI (dget ds 4).toI), .i (r50_1 (dget ds 0).toI (dget ds 1).toI (dget ds 2).toI (dget ds 3).toI (dget ds 4).toI)]
def S50 : Sigs := ⟨[(91, s91), (92, s92), (93, s93), (94, s94), (96, s96), (95, s95), (97, s97), (106, s106), (108, s108), (107, s107)], [], [], 0⟩

def s54 : Sig := ⟨[.s (.one (.i .i64 (.h 0))), .s (.one (.i .i64 (.h 1))), .s (.one (.i .u64 (.h 2))), .s (.one (.i .u64 (.h 3)))], [], [.i, .i, .i, .i], .t [.one (.i .u64 (.h 0)), .one (.i .i64 (.h 1))], [], [.i, .i], true⟩
def o54 : Out := ⟨List.append (List.append (List.append (List.append (List.append (List.append (List.append (List.append (List.append (List.append ([(4, .call 91 [.r 0, .r 1] 0), (5, .not (.r 4)), (6, .not (.r 5))]) (callsAt 7 92 [.r 0] 0 3)) (callsAt 10 93 [.r 7, .r 8, .r 9, .r 2] 0 6)) (callsAt 16 93 [.r 7, .r 8, .r 9, .r 3] 0 6)) ([(22, .eql (.r 13) (.z 2)), (23, .eql (.r 19) (.z 2)), (24, .and (.r 22) (.r 23)), (25, .bne (.r 11) (.r 17)), (26, .and (.r 24) (.r 25)), (27, .lmk [.b, .b, .i, .i, .i, .b, .b, .i, .i, .i] [.r 11, .r 12, .r 13, .r 14, .r 15, .r 17, .r 18, .r 19, .r 20, .r 21])])) (callsAt 28 94 [.r 7, .r 8, .r 9, .r 26, .r 27] 0 4)) ([(32, .not (.r 31)), (33, .eql (.r 13) (.z 2)), (34, .eql (.r 19) (.z 2)), (35, .or (.r 33) (.r 34)), (36, .eql (.r 13) (.z 2)), (37, .and (.r 36) (.r 11)), (38, .eql (.r 19) (.z 2)), (39, .and (.r 38) (.r 17)), (40, .or (.r 37) (.r 39)), (41, .call 96 [.r 7, .r 8, .r 9] 0), (42, .call 96 [.r 7, .r 8, .r 9] 1), (43, .call 95 [.r 7, .r 8, .r 9, .r 40, .r 42] 0), (44, .not (.r 35))])) (callsAt 45 108 [.r 11, .r 12, .r 13, .r 14, .r 15] 0 4)) (callsAt 49 108 [.r 17, .r 18, .r 19, .r 20, .r 21] 0 4)) (callsAt 53 107 ([.r 7, .r 8, .r 9, .r 1] ++ idsFrom 45 8) 0 3)) ([(56, .itei (.r 44) (.r 54) (.r 43)), (57, .itei (.r 44) (.r 55) (.z 0)), (58, .itei (.r 32) (.r 56) (.r 29)), (59, .itei (.r 32) (.r 57) (.r 30)), (60, .itei (.r 6) (.r 58) (.z 0)), (61, .itei (.r 6) (.r 59) (.z 0))]),
  [⟨[(.r 6, true)], .r 10⟩, ⟨[(.r 6, true)], .r 16⟩, ⟨[(.r 6, true)], .r 28⟩, ⟨[(.r 6, true), (.r 32, true), (.r 35, true)], .r 41⟩, ⟨[(.r 6, true), (.r 32, true), (.r 44, true)], .r 53⟩],
  [],
  [.r 60, .r 61]⟩
noncomputable def p54 (x0 : Int) (x1 : Int) (x2 : Int) (x3 : Int) : Bool :=
  let x4 := r91_0 x0 x1
  let x5 := !x4
  let x6 := !x5
  let x7 := r92_0 x0
  let x8 := r92_1 x0
  let x9 := r92_2 x0
  let y10 : List DV := g93 [.i x7, .i x8, .i x9, .i x2]
  let x10 : Bool := (dget y10 0).toB
  let x11 : Bool := (dget y10 1).toB
  let x12 : Bool := (dget y10 2).toB
  let x13 : Int := (dget y10 3).toI
  let x14 : Int := (dget y10 4).toI
  let x15 : Int := (dget y10 5).toI
  let y16 : List DV := g93 [.i x7, .i x8, .i x9, .i x3]
  let x16 : Bool := (dget y16 0).toB
  let x17 : Bool := (dget y16 1).toB
  let x18 : Bool := (dget y16 2).toB
  let x19 : Int := (dget y16 3).toI
  let x20 : Int := (dget y16 4).toI
  let x21 : Int := (dget y16 5).toI
  let x22 := x13 == 2
  let x23 := x19 == 2
  let x24 := x22 && x23
  let x25 := x11 != x17
  let x26 := x24 && x25
  let x27 : List DV := [.b x11, .b x12, .i x13, .i x14, .i x15, .b x17, .b x18, .i x19, .i x20, .i x21]
  let x28 := p94 x7 x26 x27
  let x31 := r94_2 x26 x27
  let x32 := !x31
  let x33 := x13 == 2
  let x34 := x19 == 2
  let x35 := x33 || x34
  let x41 := p96 x7
  let x44 := !x35
  let y45 : List DV := g108 (segD y10 1 5)
  let x45 : Bool := (dget y45 0).toB
  let x46 : Int := (dget y45 1).toI
  let x47 : Int := (dget y45 2).toI
  let x48 : Int := (dget y45 3).toI
  let y49 : List DV := g108 (segD y16 1 5)
  let x49 : Bool := (dget y49 0).toB
  let x50 : Int := (dget y49 1).toI
  let x51 : Int := (dget y49 2).toI
  let x52 : Int := (dget y49 3).toI
  let x53 := p107 x7 x8 x1 x45 x46 x47 x48 x49 x50 x51 x52
  [ow [(x6, true)] x10, ow [(x6, true)] x16, ow [(x6, true)] x28, ow [(x6, true), (x32, true), (x35, true)] x41, ow [(x6, true), (x32, true), (x44, true)] x53].all id
noncomputable def r54_0 (x0 : Int) (x1 : Int) (x2 : Int) (x3 : Int) : Int :=
  let x4 := r91_0 x0 x1
  let x5 := !x4
  let x6 := !x5
  let x7 := r92_0 x0
  let x8 := r92_1 x0
  let x9 := r92_2 x0
  let y11 : List DV := g93 [.i x7, .i x8, .i x9, .i x2]
  let x11 : Bool := (dget y11 1).toB
  let x12 : Bool := (dget y11 2).toB
  let x13 : Int := (dget y11 3).toI
  let x14 : Int := (dget y11 4).toI
  let x15 : Int := (dget y11 5).toI
  let y17 : List DV := g93 [.i x7, .i x8, .i x9, .i x3]
  let x17 : Bool := (dget y17 1).toB
  let x18 : Bool := (dget y17 2).toB
  let x19 : Int := (dget y17 3).toI
  let x20 : Int := (dget y17 4).toI
  let x21 : Int := (dget y17 5).toI
  let x22 := x13 == 2
  let x23 := x19 == 2
  let x24 := x22 && x23
  let x25 := x11 != x17
  let x26 := x24 && x25
  let x27 : List DV := [.b x11, .b x12, .i x13, .i x14, .i x15, .b x17, .b x18, .i x19, .i x20, .i x21]
  let x29 := r94_0 x7 x8 x26 x27
  let x31 := r94_2 x26 x27
  let x32 := !x31
  let x33 := x13 == 2
  let x34 := x19 == 2
  let x35 := x33 || x34
  let x36 := x13 == 2
  let x37 := x36 && x11
  let x38 := x19 == 2
  let x39 := x38 && x17
  let x40 := x37 || x39
  let x42 := r96_0 x7 x8
  let x43 := r95_0 x9 x40 x42
  let x44 := !x35
  let y45 : List DV := g108 (segD y11 1 5)
  let x45 : Bool := (dget y45 0).toB
  let x46 : Int := (dget y45 1).toI
  let x47 : Int := (dget y45 2).toI
  let x48 : Int := (dget y45 3).toI
  let y49 : List DV := g108 (segD y17 1 5)
  let x49 : Bool := (dget y49 0).toB
  let x50 : Int := (dget y49 1).toI
  let x51 : Int := (dget y49 2).toI
  let x52 : Int := (dget y49 3).toI
  let x54 := r107_0 x7 x8 x9 x1 x45 x46 x47 x48 x49 x50 x51 x52
  let x56 := bif x44 then x54 else x43
  let x58 := bif x32 then x56 else x29
  let x60 := bif x6 then x58 else 0
  x60
noncomputable def r54_1 (x0 : Int) (x1 : Int) (x2 : Int) (x3 : Int) : Int :=
  let x4 := r91_0 x0 x1
  let x5 := !x4
  let x6 := !x5
  let x7 := r92_0 x0
  let x8 := r92_1 x0
  let x9 := r92_2 x0
  let y11 : List DV := g93 [.i x7, .i x8, .i x9, .i x2]
  let x11 : Bool := (dget y11 1).toB
  let x12 : Bool := (dget y11 2).toB
  let x13 : Int := (dget y11 3).toI
  let x14 : Int := (dget y11 4).toI
  let x15 : Int := (dget y11 5).toI
  let y17 : List DV := g93 [.i x7, .i x8, .i x9, .i x3]
  let x17 : Bool := (dget y17 1).toB
  let x18 : Bool := (dget y17 2).toB
  let x19 : Int := (dget y17 3).toI
  let x20 : Int := (dget y17 4).toI
  let x21 : Int := (dget y17 5).toI
  let x22 := x13 == 2
  let x23 := x19 == 2
  let x24 := x22 && x23
  let x25 := x11 != x17
  let x26 := x24 && x25
  let x27 : List DV := [.b x11, .b x12, .i x13, .i x14, .i x15, .b x17, .b x18, .i x19, .i x20, .i x21]
  let x30 := r94_1 x26 x27
  let x31 := r94_2 x26 x27
  let x32 := !x31
  let x33 := x13 == 2
  let x34 := x19 == 2
  let x35 := x33 || x34
  let x44 := !x35
  let y45 : List DV := g108 (segD y11 1 5)
  let x45 : Bool := (dget y45 0).toB
  let x46 : Int := (dget y45 1).toI
  let x47 : Int := (dget y45 2).toI
  let x48 : Int := (dget y45 3).toI
  let y49 : List DV := g108 (segD y17 1 5)
  let x49 : Bool := (dget y49 0).toB
  let x50 : Int := (dget y49 1).toI
  let x51 : Int := (dget y49 2).toI
  let x52 : Int := (dget y49 3).toI
  let x55 := r107_1 x7 x8 x1 x45 x46 x47 x48 x49 x50 x51 x52
  let x57 := bif x44 then x55 else 0
  let x59 := bif x32 then x57 else x30
  let x61 := bif x6 then x59 else 0
  x61
noncomputable def g54 (ds : List DV) : List DV := [.b (p54 (dget ds 0).toI (dget ds 1).toI (dget ds 2).toI (dget ds 3).toI), .i (r54_0 (dget ds 0).toI (dget ds 1).toI (dget ds 2).toI (dget ds 3).toI), .i (r54_1 (dget ds 0).toI (dget ds 1).toI (dget ds 2).toI (dget ds 3).toI)]
def S54 : Sigs := ⟨[(91, s91), (92, s92), (93, s93), (94, s94), (96, s96), (95, s95), (108, s108), (107, s107)], [], [], 0⟩

def s59 : Sig := ⟨[.s (.one (.i .i64 (.h 0))), .s (.one (.i .i64 (.h 1))), .s (.one (.i .u64 (.h 2))), .s (.one (.i .u64 (.h 3)))], [], [.i, .i, .i, .i], .t [.one (.i .u64 (.h 0)), .one (.i .i64 (.h 1))], [], [.i, .i], true⟩
def o59 : Out := ⟨List.append (List.append (List.append (List.append ([(4, .call 91 [.r 0, .r 1] 0), (5, .not (.r 4)), (6, .not (.r 5))]) (callsAt 7 92 [.r 0] 0 3)) ([(10, .lxor .u64 (.r 3) (.r 9))])) (callsAt 11 54 [.r 0, .r 1, .r 2, .r 10] 0 3)) ([(14, .itei (.r 6) (.r 12) (.z 0)), (15, .itei (.r 6) (.r 13) (.z 0))]),
  [⟨[(.r 6, true)], .r 11⟩],
  [],
  [.r 14, .r 15]⟩
noncomputable def p59 (x0 : Int) (x1 : Int) (x2 : Int) (x3 : Int) : Bool :=
  let x4 := r91_0 x0 x1
  let x5 := !x4
  let x6 := !x5
  let x9 := r92_2 x0
  let x10 := ilxor .u64 x3 x9
  let x11 := p54 x0 x1 x2 x10
  [ow [(x6, true)] x11].all id
noncomputable def r59_0 (x0 : Int) (x1 : Int) (x2 : Int) (x3 : Int) : Int :=
  let x4 := r91_0 x0 x1
  let x5 := !x4
  let x6 := !x5
  let x9 := r92_2 x0
  let x10 := ilxor .u64 x3 x9
  let x12 := r54_0 x0 x1 x2 x10
  let x14 := bif x6 then x12 else 0
  x14
noncomputable def r59_1 (x0 : Int) (x1 : Int) (x2 : Int) (x3 : Int) : Int :=
  let x4 := r91_0 x0 x1
  let x5 := !x4
  let x6 := !x5
  let x9 := r92_2 x0
  let x10 := ilxor .u64 x3 x9
  let x13 := r54_1 x0 x1 x2 x10
  let x15 := bif x6 then x13 else 0
  x15
noncomputable def g59 (ds : List DV) : List DV := [.b (p59 (dget ds 0).toI (dget ds 1).toI (dget ds 2).toI (dget ds 3).toI), .i (r59_0 (dget ds 0).toI (dget ds 1).toI (dget ds 2).toI (dget ds 3).toI), .i (r59_1 (dget ds 0).toI (dget ds 1).toI (dget ds 2).toI (dget ds 3).toI)]
def S59 : Sigs := ⟨[(91, s91), (92, s92), (54, s54)], [], [], 0⟩

def s89 : Sig := ⟨[.s (.one (.i .i64 (.h 0)))], [], [.i], .t [.one (.i .i64 (.h 0)), .one (.i .i64 (.h 1))], [], [.i, .i], false⟩
def o89 : Out := ⟨[(1, .eql (.r 0) (.z 4)), (2, .not (.r 1)), (3, .itei (.r 2) (.z 52) (.z 23)), (4, .itei (.r 2) (.z 11) (.z 8))],
  [],
  [],
  [.r 3, .r 4]⟩
noncomputable def r89_0 (x0 : Int) : Int :=
  let x1 := x0 == 4
  let x2 := !x1
  let x3 : Int := bif x2 then 52 else 23
  x3
noncomputable def r89_1 (x0 : Int) : Int :=
  let x1 := x0 == 4
  let x2 := !x1
  let x4 : Int := bif x2 then 11 else 8
  x4
noncomputable def g89 (ds : List DV) : List DV := [.i (r89_0 (dget ds 0).toI), .i (r89_1 (dget ds 0).toI)]
def S89 : Sigs := ⟨[], [], [], 0⟩

def s42 : Sig := ⟨[.s (.one (.i .i64 (.h 0))), .s (.one (.i .u64 (.h 1)))], [], [.i, .i], .s (.one (.i .u64 (.h 0))), [], [.i], false⟩
def o42 : Out := ⟨[(2, .eql (.r 0) (.z 4)), (3, .land .u64 (.r 1) (.z 4294967295)), (4, .not (.r 2)), (5, .itei (.r 4) (.r 1) (.r 3))],
  [],
  [],
  [.r 5]⟩
noncomputable def r42_0 (x0 : Int) (x1 : Int) : Int :=
  let x2 := x0 == 4
  let x3 := iland .u64 x1 4294967295
  let x4 := !x2
  let x5 := bif x4 then x1 else x3
  x5
noncomputable def g42 (ds : List DV) : List DV := [.i (r42_0 (dget ds 0).toI (dget ds 1).toI)]
def S42 : Sigs := ⟨[], [], [], 0⟩

def s90 : Sig := ⟨[.s (.one (.i .i64 (.h 0))), .s (.one (.i .u64 (.h 1)))], [], [.i, .i], .t [.one (.b (.h 0)), .one (.i .i64 (.h 1)), .one (.i .u64 (.h 2))], [], [.b, .i, .i], true⟩
def o90 : Out := ⟨[(2, .call 89 [.r 0] 0), (3, .call 89 [.r 0] 1), (4, .call 42 [.r 0, .r 1] 0), (5, .add .i64 (.r 2) (.r 3)), (6, .geq (.r 5) (.z 0)), (7, .shr .u64 (.r 4) (.r 5)), (8, .eql (.r 7) (.z 1)), (9, .geq (.r 2) (.z 0)), (10, .shr .u64 (.r 4) (.r 2)), (11, .geq (.r 3) (.z 0)), (12, .shl .u64 (.z 1) (.r 3)), (13, .sub .u64 (.r 12) (.z 1)), (14, .land .u64 (.r 10) (.r 13)), (15, .conv .i64 (.r 14)), (16, .geq (.r 2) (.z 0)), (17, .shl .u64 (.z 1) (.r 2)), (18, .sub .u64 (.r 17) (.z 1)), (19, .land .u64 (.r 4) (.r 18))],
  [⟨[], .r 6⟩, ⟨[], .r 9⟩, ⟨[], .r 11⟩, ⟨[], .r 16⟩],
  [],
  [.r 8, .r 15, .r 19]⟩
noncomputable def p90 (x0 : Int) : Bool :=
  let x2 := r89_0 x0
  let x3 := r89_1 x0
  let x5 := IntKind.wrap .i64 (x2 + x3)
  let x6 := decide (x5 ≥ 0)
  let x9 := decide (x2 ≥ 0)
  let x11 := decide (x3 ≥ 0)
  let x16 := decide (x2 ≥ 0)
  [ow [] x6, ow [] x9, ow [] x11, ow [] x16].all id
noncomputable def r90_0 (x0 : Int) (x1 : Int) : Bool :=
  let x2 := r89_0 x0
  let x3 := r89_1 x0
  let x4 := r42_0 x0 x1
  let x5 := IntKind.wrap .i64 (x2 + x3)
  let x7 := ishr .u64 x4 x5
  let x8 := x7 == 1
  x8
noncomputable def r90_1 (x0 : Int) (x1 : Int) : Int :=
  let x2 := r89_0 x0
  let x3 := r89_1 x0
  let x4 := r42_0 x0 x1
  let x10 := ishr .u64 x4 x2
  let x12 := ishl .u64 1 x3
  let x13 := IntKind.wrap .u64 (x12 - 1)
  let x14 := iland .u64 x10 x13
  let x15 := IntKind.wrap .i64 x14
  x15
noncomputable def r90_2 (x0 : Int) (x1 : Int) : Int :=
  let x2 := r89_0 x0
  let x4 := r42_0 x0 x1
  let x17 := ishl .u64 1 x2
  let x18 := IntKind.wrap .u64 (x17 - 1)
  let x19 := iland .u64 x4 x18
  x19
noncomputable def g90 (ds : List DV) : List DV := [.b (p90 (dget ds 0).toI), .b (r90_0 (dget ds 0).toI (dget ds 1).toI), .i (r90_1 (dget ds 0).toI (dget ds 1).toI), .i (r90_2 (dget ds 0).toI (dget ds 1).toI)]
def S90 : Sigs := ⟨[(89, s89), (42, s42)], [], [], 0⟩

def s39 : Sig := ⟨[.s (.one (.i .i64 (.h 0))), .s (.one (.i .u64 (.h 1)))], [], [.i, .i], .s (.one (.b (.h 0))), [], [.b], true⟩
def o39 : Out := ⟨List.append (List.append ([(2, .call 89 [.r 0] 0), (3, .call 89 [.r 0] 1)]) (callsAt 4 90 [.r 0, .r 1] 0 4)) ([(8, .geq (.r 3) (.z 0)), (9, .shl .i64 (.z 1) (.r 3)), (10, .sub .i64 (.r 9) (.z 1)), (11, .eql (.r 6) (.r 10)), (12, .neq (.r 7) (.z 0)), (13, .and (.r 11) (.r 12))]),
  [⟨[], .r 4⟩, ⟨[], .r 8⟩],
  [],
  [.r 13]⟩
noncomputable def p39 (x0 : Int) : Bool :=
  let x3 := r89_1 x0
  let x4 := p90 x0
  let x8 := decide (x3 ≥ 0)
  [ow [] x4, ow [] x8].all id
noncomputable def r39_0 (x0 : Int) (x1 : Int) : Bool :=
  let x3 := r89_1 x0
  let x6 := r90_1 x0 x1
  let x7 := r90_2 x0 x1
  let x9 := ishl .i64 1 x3
  let x10 := IntKind.wrap .i64 (x9 - 1)
  let x11 := x6 == x10
  let x12 := x7 != 0
  let x13 := x11 && x12
  x13
noncomputable def g39 (ds : List DV) : List DV := [.b (p39 (dget ds 0).toI), .b (r39_0 (dget ds 0).toI (dget ds 1).toI)]
def S39 : Sigs := ⟨[(89, s89), (90, s90)], [], [], 0⟩

noncomputable def p41 (x0 : Int) (x1 : Int) : Bool :=
  let x2 := r89_0 x0
  let x4 := p90 x0
  let x8 := p39 x0
  let x9 := r39_0 x0 x1
  let x10 := IntKind.wrap .i64 (x2 - 1)
  let x11 := decide (x10 ≥ 0)
  [ow [] x4, ow [] x8, ow [(x9, true)] x11].all id
noncomputable def r41_0 (x0 : Int) (x1 : Int) : Bool :=
  let x2 := r89_0 x0
  let x7 := r90_2 x0 x1
  let x9 := r39_0 x0 x1
  let x10 := IntKind.wrap .i64 (x2 - 1)
  let x12 := ishr .u64 x7 x10
  let x13 := x12 == 0
  let x14 := x9 && x13
  x14
def s56 : Sig := ⟨[.s (.one (.i .i64 (.h 0))), .s (.one (.i .u64 (.h 1)))], [], [.i, .i], .s (.one (.b (.h 0))), [], [.b], true⟩
def o56 : Out := ⟨List.append (List.append ([(2, .call 89 [.r 0] 0), (3, .call 89 [.r 0] 1)]) (callsAt 4 90 [.r 0, .r 1] 0 4)) ([(8, .geq (.r 3) (.z 0)), (9, .shl .i64 (.z 1) (.r 3)), (10, .sub .i64 (.r 9) (.z 1)), (11, .eql (.r 6) (.r 10)), (12, .eql (.r 7) (.z 0)), (13, .and (.r 11) (.r 12))]),
  [⟨[], .r 4⟩, ⟨[], .r 8⟩],
  [],
  [.r 13]⟩
noncomputable def p56 (x0 : Int) : Bool :=
  let x3 := r89_1 x0
  let x4 := p90 x0
  let x8 := decide (x3 ≥ 0)
  [ow [] x4, ow [] x8].all id
noncomputable def r56_0 (x0 : Int) (x1 : Int) : Bool :=
  let x3 := r89_1 x0
  let x6 := r90_1 x0 x1
  let x7 := r90_2 x0 x1
  let x9 := ishl .i64 1 x3
  let x10 := IntKind.wrap .i64 (x9 - 1)
  let x11 := x6 == x10
  let x12 := x7 == 0
  let x13 := x11 && x12
  x13
noncomputable def g56 (ds : List DV) : List DV := [.b (p56 (dget ds 0).toI), .b (r56_0 (dget ds 0).toI (dget ds 1).toI)]
def S56 : Sigs := ⟨[(89, s89), (90, s90)], [], [], 0⟩

noncomputable def p61 (x0 : Int) : Bool :=
  let x2 := p90 x0
  [ow [] x2].all id
noncomputable def r61_0 (x0 : Int) (x1 : Int) : Bool :=
  let x4 := r90_1 x0 x1
  let x5 := r90_2 x0 x1
  let x6 := x4 == 0
  let x7 := x5 == 0
  let x8 := x6 && x7
  x8
noncomputable def r99_0 (x0 : Int) (x1 : Int) : Bool :=
  let x2 := x0 == 4
  let x3 := x0 == 8
  let x4 := x2 || x3
  let x5 := decide (x1 ≥ 0)
  let x6 := x4 && x5
  let x7 := decide (x1 ≤ 4)
  let x8 := x6 && x7
  x8
end Go.Proofs.Ytacciadcmiiimaa

