/- The functions of the statements, as lists of plain steps (part 3). Written by the generator. -/
import Derived.Test.YtacciadcmiiimaaC5
import Derived.Test.YtacciadcmiiimaaC0
import Derived.Test.YtacciadcmiiimaaC4
namespace Go.Proofs.Ytacciadcmiiimaa
open Go Go.Sx
set_option maxRecDepth 100000
set_option maxHeartbeats 4000000

def s66 : Sig := ⟨[.s (.one (.b (.h 0))), .s (.one (.i .u64 (.h 1))), .s (.one (.p 0 (.c 0)))], [some (.c false [some (.b (.h 2))])], [.b, .i, .b], .s (.one (.i .u64 (.h 0))), [], [.i], false⟩
def o66 : Out := ⟨[(3, .sub .u64 (.z 0) (.r 1)), (4, .itei (.r 0) (.r 3) (.r 1)), (5, .conv .i32 (.r 4)), (6, .conv .u64 (.r 5)), (7, .not (.r 2)), (8, .itei (.r 7) (.r 4) (.r 6))],
  [],
  [],
  [.r 8]⟩
noncomputable def r66_0 (x0 : Bool) (x1 : Int) (x2 : Bool) : Int :=
  let x3 := IntKind.wrap .u64 (0 - x1)
  let x4 := bif x0 then x3 else x1
  let x5 := IntKind.wrap .i32 x4
  let x6 := IntKind.wrap .u64 x5
  let x7 := !x2
  let x8 := bif x7 then x4 else x6
  x8
noncomputable def g66 (ds : List DV) : List DV := [.i (r66_0 (dget ds 0).toB (dget ds 1).toI (dget ds 2).toB)]
def S66 : Sigs := ⟨[], [], [], 1⟩

def s62 : Sig := ⟨[.s (.one (.i .i64 (.h 0)))], [], [.i], .s (.agg [.i .i64 (.h 0), .i .i64 (.h 1), .i .u64 (.h 2)]), [], [.i, .i, .i], false⟩
def o62 : Out := ⟨[(1, .eql (.r 0) (.z 4)), (2, .not (.r 1)), (3, .itei (.r 2) (.z 52) (.z 23)), (4, .itei (.r 2) (.z 1023) (.z 127)), (5, .itei (.r 2) (.z 9223372036854775808) (.z 2147483648))],
  [],
  [],
  [.r 3, .r 4, .r 5]⟩
noncomputable def r62_0 (x0 : Int) : Int :=
  let x1 := x0 == 4
  let x2 := !x1
  let x3 : Int := bif x2 then 52 else 23
  x3
noncomputable def r62_1 (x0 : Int) : Int :=
  let x1 := x0 == 4
  let x2 := !x1
  let x4 : Int := bif x2 then 1023 else 127
  x4
noncomputable def r62_2 (x0 : Int) : Int :=
  let x1 := x0 == 4
  let x2 := !x1
  let x5 : Int := bif x2 then 9223372036854775808 else 2147483648
  x5
noncomputable def g62 (ds : List DV) : List DV := [.i (r62_0 (dget ds 0).toI), .i (r62_1 (dget ds 0).toI), .i (r62_2 (dget ds 0).toI)]
def S62 : Sigs := ⟨[], [], [], 0⟩

def s83 : Sig := ⟨[.s (.agg [.i .i64 (.h 0), .i .i64 (.h 1), .i .u64 (.h 2)])], [], [.i, .i, .i], .s (.one (.i .u64 (.h 0))), [], [.i], true⟩
def o83 : Out := ⟨[(3, .mul .i64 (.z 2) (.r 1)), (4, .add .i64 (.r 3) (.z 1)), (5, .conv .u64 (.r 4)), (6, .geq (.r 0) (.z 0)), (7, .shl .u64 (.r 5) (.r 0))],
  [⟨[], .r 6⟩],
  [],
  [.r 7]⟩
noncomputable def p83 (x0 : Int) : Bool :=
  let x6 := decide (x0 ≥ 0)
  [ow [] x6].all id
noncomputable def r83_0 (x0 : Int) (x1 : Int) : Int :=
  let x3 := IntKind.wrap .i64 (2 * x1)
  let x4 := IntKind.wrap .i64 (x3 + 1)
  let x5 := IntKind.wrap .u64 x4
  let x7 := ishl .u64 x5 x0
  x7
noncomputable def g83 (ds : List DV) : List DV := [.b (p83 (dget ds 0).toI), .i (r83_0 (dget ds 0).toI (dget ds 1).toI)]
def S83 : Sigs := ⟨[], [], [], 0⟩

def s63 : Sig := ⟨[.s (.agg [.i .i64 (.h 0), .i .i64 (.h 1), .i .u64 (.h 2)])], [], [.i, .i, .i], .s (.one (.i .u64 (.h 0))), [], [.i], true⟩
def o63 : Out := ⟨[(3, .call 83 [.r 0, .r 1, .r 2] 0), (4, .call 83 [.r 0, .r 1, .r 2] 1), (5, .sub .i64 (.r 0) (.z 1)), (6, .geq (.r 5) (.z 0)), (7, .shl .u64 (.z 1) (.r 5)), (8, .lor .u64 (.r 4) (.r 7))],
  [⟨[], .r 3⟩, ⟨[], .r 6⟩],
  [],
  [.r 8]⟩
noncomputable def p63 (x0 : Int) : Bool :=
  let x3 := p83 x0
  let x5 := IntKind.wrap .i64 (x0 - 1)
  let x6 := decide (x5 ≥ 0)
  [ow [] x3, ow [] x6].all id
noncomputable def r63_0 (x0 : Int) (x1 : Int) : Int :=
  let x4 := r83_0 x0 x1
  let x5 := IntKind.wrap .i64 (x0 - 1)
  let x7 := ishl .u64 1 x5
  let x8 := ilor .u64 x4 x7
  x8
noncomputable def g63 (ds : List DV) : List DV := [.b (p63 (dget ds 0).toI), .i (r63_0 (dget ds 0).toI (dget ds 1).toI)]
def S63 : Sigs := ⟨[(83, s83)], [], [], 0⟩

def s64 : Sig := ⟨[.s (.one (.i .i64 (.h 0))), .s (.one (.i .i64 (.h 1)))], [], [.i, .i], .s (.one (.b (.h 0))), [], [.b], false⟩
def o64 : Out := ⟨[(2, .eql (.r 0) (.z 4)), (3, .eql (.r 0) (.z 8)), (4, .or (.r 2) (.r 3)), (5, .geq (.r 1) (.z 0)), (6, .and (.r 4) (.r 5)), (7, .leq (.r 1) (.z 4)), (8, .and (.r 6) (.r 7))],
  [],
  [],
  [.r 8]⟩
noncomputable def r64_0 (x0 : Int) (x1 : Int) : Bool :=
  let x2 := x0 == 4
  let x3 := x0 == 8
  let x4 := x2 || x3
  let x5 := decide (x1 ≥ 0)
  let x6 := x4 && x5
  let x7 := decide (x1 ≤ 4)
  let x8 := x6 && x7
  x8
noncomputable def g64 (ds : List DV) : List DV := [.b (r64_0 (dget ds 0).toI (dget ds 1).toI)]
def S64 : Sigs := ⟨[], [], [], 0⟩

def s65 : Sig := ⟨[.s (.agg [.i .i64 (.h 0), .i .i64 (.h 1), .i .u64 (.h 2)]), .s (.one (.i .u64 (.h 3)))], [], [.i, .i, .i, .i], .s (.one (.b (.h 0))), [], [.b], false⟩
def o65 : Out := ⟨[(4, .land .u64 (.r 3) (.r 2)), (5, .neq (.r 4) (.z 0))],
  [],
  [],
  [.r 5]⟩
noncomputable def r65_0 (x2 : Int) (x3 : Int) : Bool :=
  let x4 := iland .u64 x3 x2
  let x5 := x4 != 0
  x5
noncomputable def g65 (ds : List DV) : List DV := [.b (r65_0 (dget ds 2).toI (dget ds 3).toI)]
def S65 : Sigs := ⟨[], [], [], 0⟩

def s86 : Sig := ⟨[.s (.agg [.i .i64 (.h 0), .i .i64 (.h 1), .i .u64 (.h 2)]), .s (.one (.i .u64 (.h 3)))], [], [.i, .i, .i, .i], .s (.one (.i .u64 (.h 0))), [], [.i], false⟩
def o86 : Out := ⟨[(4, .sub .u64 (.r 2) (.z 1)), (5, .land .u64 (.r 3) (.r 4))],
  [],
  [],
  [.r 5]⟩
noncomputable def r86_0 (x2 : Int) (x3 : Int) : Int :=
  let x4 := IntKind.wrap .u64 (x2 - 1)
  let x5 := iland .u64 x3 x4
  x5
noncomputable def g86 (ds : List DV) : List DV := [.i (r86_0 (dget ds 2).toI (dget ds 3).toI)]
def S86 : Sigs := ⟨[], [], [], 0⟩

def s82 : Sig := ⟨[.s (.agg [.i .i64 (.h 0), .i .i64 (.h 1), .i .u64 (.h 2)]), .s (.one (.b (.h 3))), .s (.one (.i .u64 (.h 4)))], [], [.i, .i, .i, .b, .i], .s (.one (.i .u64 (.h 0))), [], [.i], false⟩
def o82 : Out := ⟨[(5, .lor .u64 (.r 4) (.r 2)), (6, .not (.r 3)), (7, .itei (.r 6) (.r 4) (.r 5))],
  [],
  [],
  [.r 7]⟩
noncomputable def r82_0 (x2 : Int) (x3 : Bool) (x4 : Int) : Int :=
  let x5 := ilor .u64 x4 x2
  let x6 := !x3
  let x7 := bif x6 then x4 else x5
  x7
noncomputable def g82 (ds : List DV) : List DV := [.i (r82_0 (dget ds 2).toI (dget ds 3).toB (dget ds 4).toI)]
def S82 : Sigs := ⟨[], [], [], 0⟩

def s67 : Sig := ⟨[.s (.agg [.i .i64 (.h 0), .i .i64 (.h 1), .i .u64 (.h 2)]), .s (.one (.i .u64 (.h 3)))], [], [.i, .i, .i, .i], .s (.one (.i .i64 (.h 0))), [], [.i], true⟩
def o67 : Out := ⟨[(4, .call 86 [.r 0, .r 1, .r 2, .r 3] 0), (5, .call 83 [.r 0, .r 1, .r 2] 0), (6, .call 83 [.r 0, .r 1, .r 2] 1), (7, .gtr (.r 4) (.r 6)), (8, .sub .i64 (.r 0) (.z 1)), (9, .geq (.r 8) (.z 0)), (10, .shr .u64 (.r 4) (.r 8)), (11, .land .u64 (.r 10) (.z 1)), (12, .eql (.r 11) (.z 1)), (13, .and (.r 7) (.r 12)), (14, .call 83 [.r 0, .r 1, .r 2] 0), (15, .call 83 [.r 0, .r 1, .r 2] 1), (16, .gtr (.r 4) (.r 15)), (17, .call 83 [.r 0, .r 1, .r 2] 0), (18, .call 83 [.r 0, .r 1, .r 2] 1), (19, .eql (.r 4) (.r 18)), (20, .geq (.r 0) (.z 0)), (21, .shr .u64 (.r 4) (.r 0)), (22, .gtr (.r 21) (.z 0)), (23, .gtr (.r 4) (.z 0)), (24, .not (.r 23)), (25, .iteb (.r 22) (.t false) (.r 24)), (26, .iteb (.r 19) (.t false) (.r 25)), (27, .iteb (.r 16) (.t false) (.r 26)), (28, .iteb (.r 13) (.t false) (.r 27)), (29, .itei (.r 22) (.z 6) (.z 5)), (30, .itei (.r 19) (.z 7) (.r 29)), (31, .itei (.r 16) (.z 8) (.r 30)), (32, .itei (.r 13) (.z 9) (.r 31)), (33, .itei (.r 28) (.z 4) (.r 32))],
  [⟨[], .r 5⟩, ⟨[(.r 7, true)], .r 9⟩, ⟨[(.r 13, false)], .r 14⟩, ⟨[(.r 13, false), (.r 16, false)], .r 17⟩, ⟨[(.r 13, false), (.r 16, false), (.r 19, false)], .r 20⟩],
  [],
  [.r 33]⟩
noncomputable def p67 (x0 : Int) (x1 : Int) (x2 : Int) (x3 : Int) : Bool :=
  let x4 := r86_0 x2 x3
  let x5 := p83 x0
  let x6 := r83_0 x0 x1
  let x7 := decide (x4 > x6)
  let x8 := IntKind.wrap .i64 (x0 - 1)
  let x9 := decide (x8 ≥ 0)
  let x10 := ishr .u64 x4 x8
  let x11 := iland .u64 x10 1
  let x12 := x11 == 1
  let x13 := x7 && x12
  let x14 := p83 x0
  let x15 := r83_0 x0 x1
  let x16 := decide (x4 > x15)
  let x17 := p83 x0
  let x18 := r83_0 x0 x1
  let x19 := x4 == x18
  let x20 := decide (x0 ≥ 0)
  [ow [] x5, ow [(x7, true)] x9, ow [(x13, false)] x14, ow [(x13, false), (x16, false)] x17, ow [(x13, false), (x16, false), (x19, false)] x20].all id
noncomputable def r67_0 (x0 : Int) (x1 : Int) (x2 : Int) (x3 : Int) : Int :=
  let x4 := r86_0 x2 x3
  let x6 := r83_0 x0 x1
  let x7 := decide (x4 > x6)
  let x8 := IntKind.wrap .i64 (x0 - 1)
  let x10 := ishr .u64 x4 x8
  let x11 := iland .u64 x10 1
  let x12 := x11 == 1
  let x13 := x7 && x12
  let x15 := r83_0 x0 x1
  let x16 := decide (x4 > x15)
  let x18 := r83_0 x0 x1
  let x19 := x4 == x18
  let x21 := ishr .u64 x4 x0
  let x22 := decide (x21 > 0)
  let x23 := decide (x4 > 0)
  let x24 := !x23
  let x25 := bif x22 then false else x24
  let x26 := bif x19 then false else x25
  let x27 := bif x16 then false else x26
  let x28 := bif x13 then false else x27
  let x29 : Int := bif x22 then 6 else 5
  let x30 := bif x19 then 7 else x29
  let x31 := bif x16 then 8 else x30
  let x32 := bif x13 then 9 else x31
  let x33 := bif x28 then 4 else x32
  x33
noncomputable def g67 (ds : List DV) : List DV := [.b (p67 (dget ds 0).toI (dget ds 1).toI (dget ds 2).toI (dget ds 3).toI), .i (r67_0 (dget ds 0).toI (dget ds 1).toI (dget ds 2).toI (dget ds 3).toI)]
def S67 : Sigs := ⟨[(86, s86), (83, s83)], [], [], 0⟩

def s68 : Sig := ⟨[.s (.agg [.i .i64 (.h 0), .i .i64 (.h 1), .i .u64 (.h 2)]), .s (.one (.i .u64 (.h 3)))], [], [.i, .i, .i, .i], .t [.one (.i .u64 (.h 0)), .one (.i .i64 (.h 1))], [], [.i, .i], true⟩
def o68 : Out := ⟨[(4, .call 86 [.r 0, .r 1, .r 2, .r 3] 0), (5, .geq (.r 0) (.z 0)), (6, .shr .u64 (.r 4) (.r 0)), (7, .conv .i64 (.r 6)), (8, .gtr (.z 1) (.r 7)), (9, .itei (.r 8) (.z 1) (.r 7)), (10, .geq (.r 0) (.z 0)), (11, .shr .u64 (.r 4) (.r 0)), (12, .gtr (.r 11) (.z 0)), (13, .geq (.r 0) (.z 0)), (14, .shl .u64 (.z 1) (.r 0)), (15, .sub .u64 (.r 14) (.z 1)), (16, .land .u64 (.r 4) (.r 15)), (17, .geq (.r 0) (.z 0)), (18, .shl .u64 (.z 1) (.r 0)), (19, .lor .u64 (.r 16) (.r 18)), (20, .itei (.r 12) (.r 19) (.r 4)), (21, .sub .i64 (.r 9) (.r 1)), (22, .sub .i64 (.r 21) (.r 0))],
  [⟨[], .r 5⟩, ⟨[], .r 10⟩, ⟨[(.r 12, true)], .r 13⟩, ⟨[(.r 12, true)], .r 17⟩],
  [],
  [.r 20, .r 22]⟩
noncomputable def p68 (x0 : Int) (x2 : Int) (x3 : Int) : Bool :=
  let x4 := r86_0 x2 x3
  let x5 := decide (x0 ≥ 0)
  let x10 := decide (x0 ≥ 0)
  let x11 := ishr .u64 x4 x0
  let x12 := decide (x11 > 0)
  let x13 := decide (x0 ≥ 0)
  let x17 := decide (x0 ≥ 0)
  [ow [] x5, ow [] x10, ow [(x12, true)] x13, ow [(x12, true)] x17].all id
noncomputable def r68_0 (x0 : Int) (x2 : Int) (x3 : Int) : Int :=
  let x4 := r86_0 x2 x3
  let x11 := ishr .u64 x4 x0
  let x12 := decide (x11 > 0)
  let x14 := ishl .u64 1 x0
  let x15 := IntKind.wrap .u64 (x14 - 1)
  let x16 := iland .u64 x4 x15
  let x18 := ishl .u64 1 x0
  let x19 := ilor .u64 x16 x18
  let x20 := bif x12 then x19 else x4
  x20
noncomputable def r68_1 (x0 : Int) (x1 : Int) (x2 : Int) (x3 : Int) : Int :=
  let x4 := r86_0 x2 x3
  let x6 := ishr .u64 x4 x0
  let x7 := IntKind.wrap .i64 x6
  let x8 := decide (1 > x7)
  let x9 := bif x8 then 1 else x7
  let x21 := IntKind.wrap .i64 (x9 - x1)
  let x22 := IntKind.wrap .i64 (x21 - x0)
  x22
noncomputable def g68 (ds : List DV) : List DV := [.b (p68 (dget ds 0).toI (dget ds 2).toI (dget ds 3).toI), .i (r68_0 (dget ds 0).toI (dget ds 2).toI (dget ds 3).toI), .i (r68_1 (dget ds 0).toI (dget ds 1).toI (dget ds 2).toI (dget ds 3).toI)]
def S68 : Sigs := ⟨[(86, s86)], [], [], 0⟩

def s70 : Sig := ⟨[.s (.one (.i .i64 (.h 0))), .s (.one (.b (.h 1))), .s (.one (.i .u64 (.h 2))), .s (.one (.i .i64 (.h 3)))], [], [.i, .b, .i, .i], .t [.one (.i .u64 (.h 0)), .one (.b (.h 1))], [], [.i, .b], true⟩
def o70 : Out := ⟨[(4, .leq (.r 3) (.z 0)), (5, .not (.r 4)), (6, .eql (.r 2) (.z 0)), (7, .not (.r 6)), (8, .gtr (.r 3) (.z 64)), (9, .eql (.r 3) (.z 64)), (10, .geq (.r 3) (.z 0)), (11, .shr .u64 (.r 2) (.r 3)), (12, .geq (.r 3) (.z 0)), (13, .shl .u64 (.z 1) (.r 3)), (14, .sub .u64 (.r 13) (.z 1)), (15, .land .u64 (.r 2) (.r 14)), (16, .sub .i64 (.r 3) (.z 1)), (17, .geq (.r 16) (.z 0)), (18, .shl .u64 (.z 1) (.r 16)), (19, .itei (.r 9) (.z 0) (.r 11)), (20, .itei (.r 9) (.r 2) (.r 15)), (21, .itei (.r 9) (.z 9223372036854775808) (.r 18)), (22, .itei (.r 8) (.z 0) (.r 19)), (23, .itei (.r 8) (.z 1) (.r 20)), (24, .itei (.r 8) (.z 2) (.r 21)), (25, .eql (.r 0) (.z 0)), (26, .gtr (.r 23) (.r 24)), (27, .eql (.r 23) (.r 24)), (28, .land .u64 (.r 22) (.z 1)), (29, .eql (.r 28) (.z 1)), (30, .and (.r 27) (.r 29)), (31, .or (.r 26) (.r 30)), (32, .eql (.r 0) (.z 2)), (33, .neq (.r 23) (.z 0)), (34, .and (.r 1) (.r 33)), (35, .eql (.r 0) (.z 3)), (36, .not (.r 1)), (37, .neq (.r 23) (.z 0)), (38, .and (.r 36) (.r 37)), (39, .eql (.r 0) (.z 4)), (40, .geq (.r 23) (.r 24)), (41, .and (.r 39) (.r 40)), (42, .iteb (.r 35) (.r 38) (.r 41)), (43, .iteb (.r 32) (.r 34) (.r 42)), (44, .iteb (.r 25) (.r 31) (.r 43)), (45, .add .u64 (.r 22) (.z 1)), (46, .itei (.r 44) (.r 45) (.r 22)), (47, .eql (.r 23) (.z 0)), (48, .itei (.r 7) (.r 46) (.z 0)), (49, .iteb (.r 7) (.r 47) (.t true)), (50, .itei (.r 5) (.r 48) (.r 2)), (51, .iteb (.r 5) (.r 49) (.t true))],
  [⟨[(.r 5, true), (.r 7, true), (.r 8, false), (.r 9, false)], .r 10⟩, ⟨[(.r 5, true), (.r 7, true), (.r 8, false), (.r 9, false)], .r 12⟩, ⟨[(.r 5, true), (.r 7, true), (.r 8, false), (.r 9, false)], .r 17⟩],
  [],
  [.r 50, .r 51]⟩
noncomputable def p70 (x2 : Int) (x3 : Int) : Bool :=
  let x4 := decide (x3 ≤ 0)
  let x5 := !x4
  let x6 := x2 == 0
  let x7 := !x6
  let x8 := decide (x3 > 64)
  let x9 := x3 == 64
  let x10 := decide (x3 ≥ 0)
  let x12 := decide (x3 ≥ 0)
  let x16 := IntKind.wrap .i64 (x3 - 1)
  let x17 := decide (x16 ≥ 0)
  [ow [(x5, true), (x7, true), (x8, false), (x9, false)] x10, ow [(x5, true), (x7, true), (x8, false), (x9, false)] x12, ow [(x5, true), (x7, true), (x8, false), (x9, false)] x17].all id
noncomputable def r70_0 (x0 : Int) (x1 : Bool) (x2 : Int) (x3 : Int) : Int :=
  let x4 := decide (x3 ≤ 0)
  let x5 := !x4
  let x6 := x2 == 0
  let x7 := !x6
  let x8 := decide (x3 > 64)
  let x9 := x3 == 64
  let x11 := ishr .u64 x2 x3
  let x13 := ishl .u64 1 x3
  let x14 := IntKind.wrap .u64 (x13 - 1)
  let x15 := iland .u64 x2 x14
  let x16 := IntKind.wrap .i64 (x3 - 1)
  let x18 := ishl .u64 1 x16
  let x19 := bif x9 then 0 else x11
  let x20 := bif x9 then x2 else x15
  let x21 := bif x9 then 9223372036854775808 else x18
  let x22 := bif x8 then 0 else x19
  let x23 := bif x8 then 1 else x20
  let x24 := bif x8 then 2 else x21
  let x25 := x0 == 0
  let x26 := decide (x23 > x24)
  let x27 := x23 == x24
  let x28 := iland .u64 x22 1
  let x29 := x28 == 1
  let x30 := x27 && x29
  let x31 := x26 || x30
  let x32 := x0 == 2
  let x33 := x23 != 0
  let x34 := x1 && x33
  let x35 := x0 == 3
  let x36 := !x1
  let x37 := x23 != 0
  let x38 := x36 && x37
  let x39 := x0 == 4
  let x40 := decide (x23 ≥ x24)
  let x41 := x39 && x40
  let x42 := bif x35 then x38 else x41
  let x43 := bif x32 then x34 else x42
  let x44 := bif x25 then x31 else x43
  let x45 := IntKind.wrap .u64 (x22 + 1)
  let x46 := bif x44 then x45 else x22
  let x48 := bif x7 then x46 else 0
  let x50 := bif x5 then x48 else x2
  x50
noncomputable def r70_1 (x2 : Int) (x3 : Int) : Bool :=
  let x4 := decide (x3 ≤ 0)
  let x5 := !x4
  let x6 := x2 == 0
  let x7 := !x6
  let x8 := decide (x3 > 64)
  let x9 := x3 == 64
  let x13 := ishl .u64 1 x3
  let x14 := IntKind.wrap .u64 (x13 - 1)
  let x15 := iland .u64 x2 x14
  let x20 := bif x9 then x2 else x15
  let x23 := bif x8 then 1 else x20
  let x47 := x23 == 0
  let x49 := bif x7 then x47 else true
  let x51 := bif x5 then x49 else true
  x51
noncomputable def g70 (ds : List DV) : List DV := [.b (p70 (dget ds 2).toI (dget ds 3).toI), .i (r70_0 (dget ds 0).toI (dget ds 1).toB (dget ds 2).toI (dget ds 3).toI), .b (r70_1 (dget ds 2).toI (dget ds 3).toI)]
def S70 : Sigs := ⟨[], [], [], 0⟩

def s78 : Sig := ⟨[.s (.agg [.i .i64 (.h 0), .i .i64 (.h 1), .i .u64 (.h 2)]), .s (.one (.i .i64 (.h 3))), .s (.one (.b (.h 4))), .s (.one (.i .u64 (.h 5))), .s (.one (.i .i64 (.h 6)))], [], [.i, .i, .i, .i, .b, .i, .i], .t [.one (.i .u64 (.h 0)), .one (.i .i64 (.h 1))], [], [.i, .i], true⟩
def o78 : Out := ⟨List.append (List.append (List.append (List.append ([(7, .call 115 [.r 5] 0), (8, .call 115 [.r 5] 1), (9, .geq (.r 8) (.z 0)), (10, .shl .u64 (.r 5) (.r 8)), (11, .sub .i64 (.r 6) (.r 8)), (12, .sub .i64 (.z 63) (.r 0)), (13, .sub .i64 (.z 1) (.r 1)), (14, .sub .i64 (.r 13) (.r 0)), (15, .add .i64 (.r 11) (.r 12)), (16, .lss (.r 15) (.r 14))]) (callsAt 17 70 [.r 3, .r 4, .r 10, .r 12] 0 3)) ([(20, .add .i64 (.r 11) (.r 12)), (21, .sub .i64 (.r 14) (.z 1)), (22, .lss (.r 20) (.r 21)), (23, .geq (.r 0) (.z 0)), (24, .shl .u64 (.z 2) (.r 0)), (25, .lss (.r 18) (.r 24)), (26, .or (.r 22) (.r 25)), (27, .sub .i64 (.r 14) (.r 11)), (28, .itei (.r 16) (.r 27) (.r 12)), (29, .and (.r 16) (.r 26))])) (callsAt 30 70 [.r 3, .r 4, .r 10, .r 28] 0 3)) ([(33, .not (.r 32)), (34, .itei (.r 29) (.z 3) (.z 1)), (35, .itei (.r 33) (.r 34) (.z 0)), (36, .geq (.r 0) (.z 0)), (37, .shl .u64 (.z 2) (.r 0)), (38, .eql (.r 31) (.r 37)), (39, .shr .u64 (.r 31) (.z 1)), (40, .add .i64 (.r 28) (.z 1)), (41, .itei (.r 38) (.r 40) (.r 28)), (42, .itei (.r 38) (.r 39) (.r 31)), (43, .geq (.r 0) (.z 0)), (44, .shl .u64 (.z 1) (.r 0)), (45, .lss (.r 42) (.r 44)), (46, .call 82 [.r 0, .r 1, .r 2, .r 4, .r 42] 0), (47, .not (.r 45)), (48, .add .i64 (.r 11) (.r 41)), (49, .sub .i64 (.r 48) (.r 14)), (50, .add .i64 (.r 49) (.z 1)), (51, .mul .i64 (.z 2) (.r 1)), (52, .gtr (.r 50) (.r 51)), (53, .eql (.r 3) (.z 1)), (54, .eql (.r 3) (.z 2)), (55, .not (.r 4)), (56, .and (.r 54) (.r 55)), (57, .or (.r 53) (.r 56)), (58, .eql (.r 3) (.z 3)), (59, .and (.r 58) (.r 4)), (60, .or (.r 57) (.r 59)), (61, .call 83 [.r 0, .r 1, .r 2] 0), (62, .call 83 [.r 0, .r 1, .r 2] 1), (63, .sub .u64 (.r 62) (.z 1)), (64, .call 82 [.r 0, .r 1, .r 2, .r 4, .r 63] 0), (65, .not (.r 60)), (66, .call 83 [.r 0, .r 1, .r 2] 0), (67, .call 83 [.r 0, .r 1, .r 2] 1), (68, .call 82 [.r 0, .r 1, .r 2, .r 4, .r 67] 0), (69, .not (.r 52)), (70, .conv .u64 (.r 50)), (71, .geq (.r 0) (.z 0)), (72, .shl .u64 (.r 70) (.r 0)), (73, .geq (.r 0) (.z 0)), (74, .shl .u64 (.z 1) (.r 0)), (75, .landNot .u64 (.r 42) (.r 74)), (76, .lor .u64 (.r 72) (.r 75)), (77, .call 82 [.r 0, .r 1, .r 2, .r 4, .r 76] 0), (78, .itei (.r 65) (.r 68) (.r 64)), (79, .itei (.r 69) (.r 77) (.r 78)), (80, .itei (.r 69) (.r 35) (.z 5)), (81, .itei (.r 47) (.r 79) (.r 46)), (82, .itei (.r 47) (.r 80) (.r 35))]),
  [⟨[], .r 7⟩, ⟨[], .r 9⟩, ⟨[(.r 16, true)], .r 17⟩, ⟨[(.r 16, true), (.r 22, false)], .r 23⟩, ⟨[], .r 30⟩, ⟨[], .r 36⟩, ⟨[], .r 43⟩, ⟨[(.r 47, true), (.r 52, true), (.r 60, true)], .r 61⟩, ⟨[(.r 47, true), (.r 52, true), (.r 65, true)], .r 66⟩, ⟨[(.r 47, true), (.r 69, true)], .r 71⟩, ⟨[(.r 47, true), (.r 69, true)], .r 73⟩],
  [],
  [.r 81, .r 82]⟩
noncomputable def p78 (x0 : Int) (x1 : Int) (x3 : Int) (x4 : Bool) (x5 : Int) (x6 : Int) : Bool :=
  let x7 := p115 x5
  let x8 := r115_0 x5
  let x9 := decide (x8 ≥ 0)
  let x10 := ishl .u64 x5 x8
  let x11 := IntKind.wrap .i64 (x6 - x8)
  let x12 := IntKind.wrap .i64 (63 - x0)
  let x13 := IntKind.wrap .i64 (1 - x1)
  let x14 := IntKind.wrap .i64 (x13 - x0)
  let x15 := IntKind.wrap .i64 (x11 + x12)
  let x16 := decide (x15 < x14)
  let x17 := p70 x10 x12
  let x20 := IntKind.wrap .i64 (x11 + x12)
  let x21 := IntKind.wrap .i64 (x14 - 1)
  let x22 := decide (x20 < x21)
  let x23 := decide (x0 ≥ 0)
  let x27 := IntKind.wrap .i64 (x14 - x11)
  let x28 := bif x16 then x27 else x12
  let x30 := p70 x10 x28
  let x31 := r70_0 x3 x4 x10 x28
  let x36 := decide (x0 ≥ 0)
  let x37 := ishl .u64 2 x0
  let x38 := x31 == x37
  let x39 := ishr .u64 x31 1
  let x40 := IntKind.wrap .i64 (x28 + 1)
  let x41 := bif x38 then x40 else x28
  let x42 := bif x38 then x39 else x31
  let x43 := decide (x0 ≥ 0)
  let x44 := ishl .u64 1 x0
  let x45 := decide (x42 < x44)
  let x47 := !x45
  let x48 := IntKind.wrap .i64 (x11 + x41)
  let x49 := IntKind.wrap .i64 (x48 - x14)
  let x50 := IntKind.wrap .i64 (x49 + 1)
  let x51 := IntKind.wrap .i64 (2 * x1)
  let x52 := decide (x50 > x51)
  let x53 := x3 == 1
  let x54 := x3 == 2
  let x55 := !x4
  let x56 := x54 && x55
  let x57 := x53 || x56
  let x58 := x3 == 3
  let x59 := x58 && x4
  let x60 := x57 || x59
  let x61 := p83 x0
  let x65 := !x60
  let x66 := p83 x0
  let x69 := !x52
  let x71 := decide (x0 ≥ 0)
  let x73 := decide (x0 ≥ 0)
  [ow [] x7, ow [] x9, ow [(x16, true)] x17, ow [(x16, true), (x22, false)] x23, ow [] x30, ow [] x36, ow [] x43, ow [(x47, true), (x52, true), (x60, true)] x61, ow [(x47, true), (x52, true), (x65, true)] x66, ow [(x47, true), (x69, true)] x71, ow [(x47, true), (x69, true)] x73].all id
noncomputable def r78_0 (x0 : Int) (x1 : Int) (x2 : Int) (x3 : Int) (x4 : Bool) (x5 : Int) (x6 : Int) : Int :=
  let x8 := r115_0 x5
  let x10 := ishl .u64 x5 x8
  let x11 := IntKind.wrap .i64 (x6 - x8)
  let x12 := IntKind.wrap .i64 (63 - x0)
  let x13 := IntKind.wrap .i64 (1 - x1)
  let x14 := IntKind.wrap .i64 (x13 - x0)
  let x15 := IntKind.wrap .i64 (x11 + x12)
  let x16 := decide (x15 < x14)
  let x27 := IntKind.wrap .i64 (x14 - x11)
  let x28 := bif x16 then x27 else x12
  let x31 := r70_0 x3 x4 x10 x28
  let x37 := ishl .u64 2 x0
  let x38 := x31 == x37
  let x39 := ishr .u64 x31 1
  let x40 := IntKind.wrap .i64 (x28 + 1)
  let x41 := bif x38 then x40 else x28
  let x42 := bif x38 then x39 else x31
  let x44 := ishl .u64 1 x0
  let x45 := decide (x42 < x44)
  let x46 := r82_0 x2 x4 x42
  let x47 := !x45
  let x48 := IntKind.wrap .i64 (x11 + x41)
  let x49 := IntKind.wrap .i64 (x48 - x14)
  let x50 := IntKind.wrap .i64 (x49 + 1)
  let x51 := IntKind.wrap .i64 (2 * x1)
  let x52 := decide (x50 > x51)
  let x53 := x3 == 1
  let x54 := x3 == 2
  let x55 := !x4
  let x56 := x54 && x55
  let x57 := x53 || x56
  let x58 := x3 == 3
  let x59 := x58 && x4
  let x60 := x57 || x59
  let x62 := r83_0 x0 x1
  let x63 := IntKind.wrap .u64 (x62 - 1)
  let x64 := r82_0 x2 x4 x63
  let x65 := !x60
  let x67 := r83_0 x0 x1
  let x68 := r82_0 x2 x4 x67
  let x69 := !x52
  let x70 := IntKind.wrap .u64 x50
  let x72 := ishl .u64 x70 x0
  let x74 := ishl .u64 1 x0
  let x75 := ilandNot .u64 x42 x74
  let x76 := ilor .u64 x72 x75
  let x77 := r82_0 x2 x4 x76
  let x78 := bif x65 then x68 else x64
  let x79 := bif x69 then x77 else x78
  let x81 := bif x47 then x79 else x46
  x81
noncomputable def r78_1 (x0 : Int) (x1 : Int) (x3 : Int) (x4 : Bool) (x5 : Int) (x6 : Int) : Int :=
  let x8 := r115_0 x5
  let x10 := ishl .u64 x5 x8
  let x11 := IntKind.wrap .i64 (x6 - x8)
  let x12 := IntKind.wrap .i64 (63 - x0)
  let x13 := IntKind.wrap .i64 (1 - x1)
  let x14 := IntKind.wrap .i64 (x13 - x0)
  let x15 := IntKind.wrap .i64 (x11 + x12)
  let x16 := decide (x15 < x14)
  let x18 := r70_0 x3 x4 x10 x12
  let x20 := IntKind.wrap .i64 (x11 + x12)
  let x21 := IntKind.wrap .i64 (x14 - 1)
  let x22 := decide (x20 < x21)
  let x24 := ishl .u64 2 x0
  let x25 := decide (x18 < x24)
  let x26 := x22 || x25
  let x27 := IntKind.wrap .i64 (x14 - x11)
  let x28 := bif x16 then x27 else x12
  let x29 := x16 && x26
  let x31 := r70_0 x3 x4 x10 x28
  let x32 := r70_1 x10 x28
  let x33 := !x32
  let x34 : Int := bif x29 then 3 else 1
  let x35 := bif x33 then x34 else 0
  let x37 := ishl .u64 2 x0
  let x38 := x31 == x37
  let x39 := ishr .u64 x31 1
  let x40 := IntKind.wrap .i64 (x28 + 1)
  let x41 := bif x38 then x40 else x28
  let x42 := bif x38 then x39 else x31
  let x44 := ishl .u64 1 x0
  let x45 := decide (x42 < x44)
  let x47 := !x45
  let x48 := IntKind.wrap .i64 (x11 + x41)
  let x49 := IntKind.wrap .i64 (x48 - x14)
  let x50 := IntKind.wrap .i64 (x49 + 1)
  let x51 := IntKind.wrap .i64 (2 * x1)
  let x52 := decide (x50 > x51)
  let x69 := !x52
  let x80 := bif x69 then x35 else 5
  let x82 := bif x47 then x80 else x35
  x82
noncomputable def g78 (ds : List DV) : List DV := [.b (p78 (dget ds 0).toI (dget ds 1).toI (dget ds 3).toI (dget ds 4).toB (dget ds 5).toI (dget ds 6).toI), .i (r78_0 (dget ds 0).toI (dget ds 1).toI (dget ds 2).toI (dget ds 3).toI (dget ds 4).toB (dget ds 5).toI (dget ds 6).toI), .i (r78_1 (dget ds 0).toI (dget ds 1).toI (dget ds 3).toI (dget ds 4).toB (dget ds 5).toI (dget ds 6).toI)]
def S78 : Sigs := ⟨[(115, s115), (70, s70), (82, s82), (83, s83)], [], [], 0⟩

def s87 : Sig := ⟨[.s (.agg [.i .i64 (.h 0), .i .i64 (.h 1), .i .u64 (.h 2)]), .s (.one (.i .u64 (.h 3)))], [], [.i, .i, .i, .i], .s (.one (.i .i64 (.h 0))), [], [.i], false⟩
def o87 : Out := ⟨[(4, .call 65 [.r 0, .r 1, .r 2, .r 3] 0), (5, .call 86 [.r 0, .r 1, .r 2, .r 3] 0), (6, .conv .i64 (.r 5)), (7, .lxor .i64 (.z (-1)) (.r 6)), (8, .not (.r 4)), (9, .call 86 [.r 0, .r 1, .r 2, .r 3] 0), (10, .conv .i64 (.r 9)), (11, .itei (.r 8) (.r 10) (.r 7))],
  [],
  [],
  [.r 11]⟩
noncomputable def r87_0 (x2 : Int) (x3 : Int) : Int :=
  let x4 := r65_0 x2 x3
  let x5 := r86_0 x2 x3
  let x6 := IntKind.wrap .i64 x5
  let x7 := ilxor .i64 (-1) x6
  let x8 := !x4
  let x9 := r86_0 x2 x3
  let x10 := IntKind.wrap .i64 x9
  let x11 := bif x8 then x10 else x7
  x11
noncomputable def g87 (ds : List DV) : List DV := [.i (r87_0 (dget ds 2).toI (dget ds 3).toI)]
def S87 : Sigs := ⟨[(65, s65), (86, s86)], [], [], 0⟩

def s25 : Sig := ⟨[.s (.one (.i .i64 (.h 0))), .s (.one (.i .i64 (.h 1))), .s (.one (.b (.h 2))), .s (.one (.b (.h 3))), .s (.one (.i .u64 (.h 4)))], [], [.i, .i, .b, .b, .i], .t [.one (.i .u64 (.h 0)), .one (.i .i64 (.h 1))], [], [.i, .i], true⟩
def o25 : Out := ⟨List.append (List.append (List.append (List.append (List.append (List.append ([(5, .call 64 [.r 0, .r 1] 0), (6, .not (.r 5)), (7, .not (.r 6))]) (callsAt 8 62 [.r 0] 0 3)) ([(11, .call 65 [.r 8, .r 9, .r 10, .r 4] 0), (12, .itei (.r 2) (.z 2147483648) (.z 9223372036854775808)), (13, .itei (.r 2) (.z 2147483647) (.z 9223372036854775807)), (14, .mul .u64 (.z 2) (.r 13)), (15, .add .u64 (.r 14) (.z 1)), (16, .itei (.r 3) (.z 0) (.r 12)), (17, .itei (.r 3) (.r 15) (.r 13)), (18, .call 67 [.r 8, .r 9, .r 10, .r 4] 0), (19, .call 67 [.r 8, .r 9, .r 10, .r 4] 1), (20, .geq (.r 19) (.z 8)), (21, .call 66 [.t false, .r 17, .r 2] 0), (22, .not (.r 20))])) (callsAt 23 68 [.r 8, .r 9, .r 10, .r 4] 0 3)) ([(26, .eql (.r 19) (.z 7)), (27, .gtr (.r 25) (.z 0)), (28, .neq (.r 24) (.z 0)), (29, .and (.r 27) (.r 28)), (30, .call 69 [.r 24] 0), (31, .call 69 [.r 24] 1), (32, .add .i64 (.r 31) (.r 25)), (33, .gtr (.r 32) (.z 64)), (34, .and (.r 29) (.r 33)), (35, .gtr (.r 25) (.z 0)), (36, .geq (.r 25) (.z 0)), (37, .shl .u64 (.r 24) (.r 25)), (38, .sub .i64 (.z 0) (.r 25))])) (callsAt 39 70 [.r 1, .r 11, .r 24, .r 38] 0 3)) ([(42, .itei (.r 35) (.r 37) (.r 40)), (43, .or (.r 35) (.r 41)), (44, .itei (.r 34) (.r 24) (.r 42)), (45, .or (.r 34) (.r 43)), (46, .or (.r 34) (.r 26)), (47, .itei (.r 26) (.r 24) (.r 44)), (48, .or (.r 26) (.r 45)), (49, .iteb (.r 26) (.r 26) (.r 46)), (50, .gtr (.r 47) (.r 16)), (51, .or (.r 49) (.r 50)), (52, .and (.r 11) (.r 51)), (53, .call 66 [.t true, .r 16, .r 2] 0), (54, .not (.r 11)), (55, .gtr (.r 47) (.r 17)), (56, .or (.r 49) (.r 55)), (57, .and (.r 54) (.r 56)), (58, .call 66 [.t false, .r 17, .r 2] 0), (59, .not (.r 48)), (60, .call 66 [.r 11, .r 47, .r 2] 0), (61, .not (.r 59)), (62, .iteb (.r 57) (.t false) (.r 61)), (63, .iteb (.r 52) (.t false) (.r 62)), (64, .call 66 [.r 11, .r 47, .r 2] 0), (65, .itei (.r 57) (.r 58) (.r 60)), (66, .itei (.r 57) (.z 16) (.z 1)), (67, .itei (.r 52) (.r 53) (.r 65)), (68, .itei (.r 52) (.z 16) (.r 66)), (69, .itei (.r 63) (.r 64) (.r 67)), (70, .itei (.r 63) (.z 0) (.r 68)), (71, .itei (.r 22) (.r 69) (.r 21)), (72, .itei (.r 22) (.r 70) (.z 16)), (73, .itei (.r 7) (.r 71) (.z 0)), (74, .itei (.r 7) (.r 72) (.z 0))]),
  [⟨[(.r 7, true)], .r 18⟩, ⟨[(.r 7, true), (.r 22, true)], .r 23⟩, ⟨[(.r 7, true), (.r 22, true), (.r 26, false), (.r 29, true)], .r 30⟩, ⟨[(.r 7, true), (.r 22, true), (.r 26, false), (.r 34, false), (.r 35, true)], .r 36⟩, ⟨[(.r 7, true), (.r 22, true), (.r 26, false), (.r 34, false), (.r 35, false)], .r 39⟩],
  [],
  [.r 73, .r 74]⟩
noncomputable def p25 (x0 : Int) (x1 : Int) (x4 : Int) : Bool :=
  let x5 := r64_0 x0 x1
  let x6 := !x5
  let x7 := !x6
  let x8 := r62_0 x0
  let x9 := r62_1 x0
  let x10 := r62_2 x0
  let x18 := p67 x8 x9 x10 x4
  let x19 := r67_0 x8 x9 x10 x4
  let x20 := decide (x19 ≥ 8)
  let x22 := !x20
  let x23 := p68 x8 x10 x4
  let x24 := r68_0 x8 x10 x4
  let x25 := r68_1 x8 x9 x10 x4
  let x26 := x19 == 7
  let x27 := decide (x25 > 0)
  let x28 := x24 != 0
  let x29 := x27 && x28
  let x30 := p69 x24
  let x31 := r69_0 x24
  let x32 := IntKind.wrap .i64 (x31 + x25)
  let x33 := decide (x32 > 64)
  let x34 := x29 && x33
  let x35 := decide (x25 > 0)
  let x36 := decide (x25 ≥ 0)
  let x38 := IntKind.wrap .i64 (0 - x25)
  let x39 := p70 x24 x38
  [ow [(x7, true)] x18, ow [(x7, true), (x22, true)] x23, ow [(x7, true), (x22, true), (x26, false), (x29, true)] x30, ow [(x7, true), (x22, true), (x26, false), (x34, false), (x35, true)] x36, ow [(x7, true), (x22, true), (x26, false), (x34, false), (x35, false)] x39].all id
noncomputable def r25_0 (x0 : Int) (x1 : Int) (x2 : Bool) (x3 : Bool) (x4 : Int) : Int :=
  let x5 := r64_0 x0 x1
  let x6 := !x5
  let x7 := !x6
  let x8 := r62_0 x0
  let x9 := r62_1 x0
  let x10 := r62_2 x0
  let x11 := r65_0 x10 x4
  let x12 : Int := bif x2 then 2147483648 else 9223372036854775808
  let x13 : Int := bif x2 then 2147483647 else 9223372036854775807
  let x14 := IntKind.wrap .u64 (2 * x13)
  let x15 := IntKind.wrap .u64 (x14 + 1)
  let x16 := bif x3 then 0 else x12
  let x17 := bif x3 then x15 else x13
  let x19 := r67_0 x8 x9 x10 x4
  let x20 := decide (x19 ≥ 8)
  let x21 := r66_0 false x17 x2
  let x22 := !x20
  let x24 := r68_0 x8 x10 x4
  let x25 := r68_1 x8 x9 x10 x4
  let x26 := x19 == 7
  let x27 := decide (x25 > 0)
  let x28 := x24 != 0
  let x29 := x27 && x28
  let x31 := r69_0 x24
  let x32 := IntKind.wrap .i64 (x31 + x25)
  let x33 := decide (x32 > 64)
  let x34 := x29 && x33
  let x35 := decide (x25 > 0)
  let x37 := ishl .u64 x24 x25
  let x38 := IntKind.wrap .i64 (0 - x25)
  let x40 := r70_0 x1 x11 x24 x38
  let x41 := r70_1 x24 x38
  let x42 := bif x35 then x37 else x40
  let x43 := x35 || x41
  let x44 := bif x34 then x24 else x42
  let x45 := x34 || x43
  let x46 := x34 || x26
  let x47 := bif x26 then x24 else x44
  let x48 := x26 || x45
  let x49 := bif x26 then x26 else x46
  let x50 := decide (x47 > x16)
  let x51 := x49 || x50
  let x52 := x11 && x51
  let x53 := r66_0 true x16 x2
  let x54 := !x11
  let x55 := decide (x47 > x17)
  let x56 := x49 || x55
  let x57 := x54 && x56
  let x58 := r66_0 false x17 x2
  let x59 := !x48
  let x60 := r66_0 x11 x47 x2
  let x61 := !x59
  let x62 := bif x57 then false else x61
  let x63 := bif x52 then false else x62
  let x64 := r66_0 x11 x47 x2
  let x65 := bif x57 then x58 else x60
  let x67 := bif x52 then x53 else x65
  let x69 := bif x63 then x64 else x67
  let x71 := bif x22 then x69 else x21
  let x73 := bif x7 then x71 else 0
  x73
noncomputable def r25_1 (x0 : Int) (x1 : Int) (x2 : Bool) (x3 : Bool) (x4 : Int) : Int :=
  let x5 := r64_0 x0 x1
  let x6 := !x5
  let x7 := !x6
  let x8 := r62_0 x0
  let x9 := r62_1 x0
  let x10 := r62_2 x0
  let x11 := r65_0 x10 x4
  let x12 : Int := bif x2 then 2147483648 else 9223372036854775808
  let x13 : Int := bif x2 then 2147483647 else 9223372036854775807
  let x14 := IntKind.wrap .u64 (2 * x13)
  let x15 := IntKind.wrap .u64 (x14 + 1)
  let x16 := bif x3 then 0 else x12
  let x17 := bif x3 then x15 else x13
  let x19 := r67_0 x8 x9 x10 x4
  let x20 := decide (x19 ≥ 8)
  let x22 := !x20
  let x24 := r68_0 x8 x10 x4
  let x25 := r68_1 x8 x9 x10 x4
  let x26 := x19 == 7
  let x27 := decide (x25 > 0)
  let x28 := x24 != 0
  let x29 := x27 && x28
  let x31 := r69_0 x24
  let x32 := IntKind.wrap .i64 (x31 + x25)
  let x33 := decide (x32 > 64)
  let x34 := x29 && x33
  let x35 := decide (x25 > 0)
  let x37 := ishl .u64 x24 x25
  let x38 := IntKind.wrap .i64 (0 - x25)
  let x40 := r70_0 x1 x11 x24 x38
  let x41 := r70_1 x24 x38
  let x42 := bif x35 then x37 else x40
  let x43 := x35 || x41
  let x44 := bif x34 then x24 else x42
  let x45 := x34 || x43
  let x46 := x34 || x26
  let x47 := bif x26 then x24 else x44
  let x48 := x26 || x45
  let x49 := bif x26 then x26 else x46
  let x50 := decide (x47 > x16)
  let x51 := x49 || x50
  let x52 := x11 && x51
  let x54 := !x11
  let x55 := decide (x47 > x17)
  let x56 := x49 || x55
  let x57 := x54 && x56
  let x59 := !x48
  let x61 := !x59
  let x62 := bif x57 then false else x61
  let x63 := bif x52 then false else x62
  let x66 : Int := bif x57 then 16 else 1
  let x68 := bif x52 then 16 else x66
  let x70 := bif x63 then 0 else x68
  let x72 := bif x22 then x70 else 16
  let x74 := bif x7 then x72 else 0
  x74
noncomputable def g25 (ds : List DV) : List DV := [.b (p25 (dget ds 0).toI (dget ds 1).toI (dget ds 4).toI), .i (r25_0 (dget ds 0).toI (dget ds 1).toI (dget ds 2).toB (dget ds 3).toB (dget ds 4).toI), .i (r25_1 (dget ds 0).toI (dget ds 1).toI (dget ds 2).toB (dget ds 3).toB (dget ds 4).toI)]
def S25 : Sigs := ⟨[(64, s64), (62, s62), (65, s65), (67, s67), (66, s66), (68, s68), (69, s69), (70, s70)], [], [], 0⟩

def s27 : Sig := ⟨[.s (.one (.i .i64 (.h 0))), .s (.one (.i .i64 (.h 1))), .s (.one (.b (.h 2))), .s (.one (.b (.h 3))), .s (.one (.i .u64 (.h 4)))], [], [.i, .i, .b, .b, .i], .t [.one (.i .u64 (.h 0)), .one (.i .i64 (.h 1))], [], [.i, .i], true⟩
def o27 : Out := ⟨List.append (List.append (List.append ([(5, .call 64 [.r 0, .r 1] 0), (6, .not (.r 5)), (7, .not (.r 6)), (8, .and (.r 2) (.r 3)), (9, .conv .u32 (.r 4)), (10, .conv .u64 (.r 9)), (11, .conv .i32 (.r 4)), (12, .conv .u64 (.r 11)), (13, .itei (.r 2) (.r 12) (.r 4)), (14, .itei (.r 8) (.r 10) (.r 13)), (15, .not (.r 3)), (16, .conv .i64 (.r 14)), (17, .lss (.r 16) (.z 0)), (18, .and (.r 15) (.r 17)), (19, .sub .u64 (.z 0) (.r 14)), (20, .itei (.r 18) (.r 19) (.r 14)), (21, .eql (.r 20) (.z 0)), (22, .not (.r 21))]) (callsAt 23 62 [.r 0] 0 3)) (callsAt 26 78 [.r 23, .r 24, .r 25, .r 1, .r 18, .r 20, .z 0] 0 3)) ([(29, .itei (.r 22) (.r 27) (.z 0)), (30, .itei (.r 22) (.r 28) (.z 0)), (31, .itei (.r 7) (.r 29) (.z 0)), (32, .itei (.r 7) (.r 30) (.z 0))]),
  [⟨[(.r 7, true), (.r 22, true)], .r 26⟩],
  [],
  [.r 31, .r 32]⟩
noncomputable def p27 (x0 : Int) (x1 : Int) (x2 : Bool) (x3 : Bool) (x4 : Int) : Bool :=
  let x5 := r64_0 x0 x1
  let x6 := !x5
  let x7 := !x6
  let x8 := x2 && x3
  let x9 := IntKind.wrap .u32 x4
  let x10 := IntKind.wrap .u64 x9
  let x11 := IntKind.wrap .i32 x4
  let x12 := IntKind.wrap .u64 x11
  let x13 := bif x2 then x12 else x4
  let x14 := bif x8 then x10 else x13
  let x15 := !x3
  let x16 := IntKind.wrap .i64 x14
  let x17 := decide (x16 < 0)
  let x18 := x15 && x17
  let x19 := IntKind.wrap .u64 (0 - x14)
  let x20 := bif x18 then x19 else x14
  let x21 := x20 == 0
  let x22 := !x21
  let x23 := r62_0 x0
  let x24 := r62_1 x0
  let x26 := p78 x23 x24 x1 x18 x20 0
  [ow [(x7, true), (x22, true)] x26].all id
noncomputable def r27_0 (x0 : Int) (x1 : Int) (x2 : Bool) (x3 : Bool) (x4 : Int) : Int :=
  let x5 := r64_0 x0 x1
  let x6 := !x5
  let x7 := !x6
  let x8 := x2 && x3
  let x9 := IntKind.wrap .u32 x4
  let x10 := IntKind.wrap .u64 x9
  let x11 := IntKind.wrap .i32 x4
  let x12 := IntKind.wrap .u64 x11
  let x13 := bif x2 then x12 else x4
  let x14 := bif x8 then x10 else x13
  let x15 := !x3
  let x16 := IntKind.wrap .i64 x14
  let x17 := decide (x16 < 0)
  let x18 := x15 && x17
  let x19 := IntKind.wrap .u64 (0 - x14)
  let x20 := bif x18 then x19 else x14
  let x21 := x20 == 0
  let x22 := !x21
  let x23 := r62_0 x0
  let x24 := r62_1 x0
  let x25 := r62_2 x0
  let x27 := r78_0 x23 x24 x25 x1 x18 x20 0
  let x29 := bif x22 then x27 else 0
  let x31 := bif x7 then x29 else 0
  x31
noncomputable def r27_1 (x0 : Int) (x1 : Int) (x2 : Bool) (x3 : Bool) (x4 : Int) : Int :=
  let x5 := r64_0 x0 x1
  let x6 := !x5
  let x7 := !x6
  let x8 := x2 && x3
  let x9 := IntKind.wrap .u32 x4
  let x10 := IntKind.wrap .u64 x9
  let x11 := IntKind.wrap .i32 x4
  let x12 := IntKind.wrap .u64 x11
  let x13 := bif x2 then x12 else x4
  let x14 := bif x8 then x10 else x13
  let x15 := !x3
  let x16 := IntKind.wrap .i64 x14
  let x17 := decide (x16 < 0)
  let x18 := x15 && x17
  let x19 := IntKind.wrap .u64 (0 - x14)
  let x20 := bif x18 then x19 else x14
  let x21 := x20 == 0
  let x22 := !x21
  let x23 := r62_0 x0
  let x24 := r62_1 x0
  let x28 := r78_1 x23 x24 x1 x18 x20 0
  let x30 := bif x22 then x28 else 0
  let x32 := bif x7 then x30 else 0
  x32
noncomputable def g27 (ds : List DV) : List DV := [.b (p27 (dget ds 0).toI (dget ds 1).toI (dget ds 2).toB (dget ds 3).toB (dget ds 4).toI), .i (r27_0 (dget ds 0).toI (dget ds 1).toI (dget ds 2).toB (dget ds 3).toB (dget ds 4).toI), .i (r27_1 (dget ds 0).toI (dget ds 1).toI (dget ds 2).toB (dget ds 3).toB (dget ds 4).toI)]
def S27 : Sigs := ⟨[(64, s64), (62, s62), (78, s78)], [], [], 0⟩

def s29 : Sig := ⟨[.s (.one (.i .i64 (.h 0))), .s (.one (.i .i64 (.h 1))), .s (.one (.i .u64 (.h 2)))], [], [.i, .i, .i], .t [.one (.i .u64 (.h 0)), .one (.i .i64 (.h 1))], [], [.i, .i], true⟩
def o29 : Out := ⟨List.append (List.append (List.append (List.append (List.append (List.append (List.append ([(3, .call 64 [.r 0, .r 1] 0), (4, .not (.r 3)), (5, .not (.r 4))]) (callsAt 6 62 [.r 0] 0 3)) ([(9, .sub .i64 (.z 12) (.r 0))])) (callsAt 10 62 [.r 9] 0 3)) ([(13, .call 65 [.r 10, .r 11, .r 12, .r 2] 0), (14, .call 67 [.r 10, .r 11, .r 12, .r 2] 0), (15, .call 67 [.r 10, .r 11, .r 12, .r 2] 1), (16, .eql (.r 15) (.z 8)), (17, .call 63 [.r 6, .r 7, .r 8] 0), (18, .call 63 [.r 6, .r 7, .r 8] 1), (19, .eql (.r 15) (.z 9)), (20, .call 63 [.r 6, .r 7, .r 8] 0), (21, .call 63 [.r 6, .r 7, .r 8] 1), (22, .eql (.r 15) (.z 7)), (23, .call 83 [.r 6, .r 7, .r 8] 0), (24, .call 83 [.r 6, .r 7, .r 8] 1), (25, .call 82 [.r 6, .r 7, .r 8, .r 13, .r 24] 0), (26, .eql (.r 15) (.z 4)), (27, .call 82 [.r 6, .r 7, .r 8, .r 13, .z 0] 0), (28, .not (.r 26)), (29, .iteb (.r 22) (.t false) (.r 28)), (30, .iteb (.r 19) (.t false) (.r 29)), (31, .iteb (.r 16) (.t false) (.r 30))])) (callsAt 32 68 [.r 10, .r 11, .r 12, .r 2] 0 3)) (callsAt 35 78 [.r 6, .r 7, .r 8, .r 1, .r 13, .r 33, .r 34] 0 3)) ([(38, .itei (.r 22) (.r 25) (.r 27)), (39, .itei (.r 19) (.r 21) (.r 38)), (40, .itei (.r 16) (.r 18) (.r 39)), (41, .itei (.r 16) (.z 16) (.z 0)), (42, .itei (.r 31) (.r 36) (.r 40)), (43, .itei (.r 31) (.r 37) (.r 41)), (44, .itei (.r 5) (.r 42) (.z 0)), (45, .itei (.r 5) (.r 43) (.z 0))]),
  [⟨[(.r 5, true)], .r 14⟩, ⟨[(.r 5, true), (.r 16, true)], .r 17⟩, ⟨[(.r 5, true), (.r 16, false), (.r 19, true)], .r 20⟩, ⟨[(.r 5, true), (.r 16, false), (.r 19, false), (.r 22, true)], .r 23⟩, ⟨[(.r 5, true), (.r 31, true)], .r 32⟩, ⟨[(.r 5, true), (.r 31, true)], .r 35⟩],
  [],
  [.r 44, .r 45]⟩
noncomputable def p29 (x0 : Int) (x1 : Int) (x2 : Int) : Bool :=
  let x3 := r64_0 x0 x1
  let x4 := !x3
  let x5 := !x4
  let x6 := r62_0 x0
  let x7 := r62_1 x0
  let x9 := IntKind.wrap .i64 (12 - x0)
  let x10 := r62_0 x9
  let x11 := r62_1 x9
  let x12 := r62_2 x9
  let x13 := r65_0 x12 x2
  let x14 := p67 x10 x11 x12 x2
  let x15 := r67_0 x10 x11 x12 x2
  let x16 := x15 == 8
  let x17 := p63 x6
  let x19 := x15 == 9
  let x20 := p63 x6
  let x22 := x15 == 7
  let x23 := p83 x6
  let x26 := x15 == 4
  let x28 := !x26
  let x29 := bif x22 then false else x28
  let x30 := bif x19 then false else x29
  let x31 := bif x16 then false else x30
  let x32 := p68 x10 x12 x2
  let x33 := r68_0 x10 x12 x2
  let x34 := r68_1 x10 x11 x12 x2
  let x35 := p78 x6 x7 x1 x13 x33 x34
  [ow [(x5, true)] x14, ow [(x5, true), (x16, true)] x17, ow [(x5, true), (x16, false), (x19, true)] x20, ow [(x5, true), (x16, false), (x19, false), (x22, true)] x23, ow [(x5, true), (x31, true)] x32, ow [(x5, true), (x31, true)] x35].all id
noncomputable def r29_0 (x0 : Int) (x1 : Int) (x2 : Int) : Int :=
  let x3 := r64_0 x0 x1
  let x4 := !x3
  let x5 := !x4
  let x6 := r62_0 x0
  let x7 := r62_1 x0
  let x8 := r62_2 x0
  let x9 := IntKind.wrap .i64 (12 - x0)
  let x10 := r62_0 x9
  let x11 := r62_1 x9
  let x12 := r62_2 x9
  let x13 := r65_0 x12 x2
  let x15 := r67_0 x10 x11 x12 x2
  let x16 := x15 == 8
  let x18 := r63_0 x6 x7
  let x19 := x15 == 9
  let x21 := r63_0 x6 x7
  let x22 := x15 == 7
  let x24 := r83_0 x6 x7
  let x25 := r82_0 x8 x13 x24
  let x26 := x15 == 4
  let x27 := r82_0 x8 x13 0
  let x28 := !x26
  let x29 := bif x22 then false else x28
  let x30 := bif x19 then false else x29
  let x31 := bif x16 then false else x30
  let x33 := r68_0 x10 x12 x2
  let x34 := r68_1 x10 x11 x12 x2
  let x36 := r78_0 x6 x7 x8 x1 x13 x33 x34
  let x38 := bif x22 then x25 else x27
  let x39 := bif x19 then x21 else x38
  let x40 := bif x16 then x18 else x39
  let x42 := bif x31 then x36 else x40
  let x44 := bif x5 then x42 else 0
  x44
noncomputable def r29_1 (x0 : Int) (x1 : Int) (x2 : Int) : Int :=
  let x3 := r64_0 x0 x1
  let x4 := !x3
  let x5 := !x4
  let x6 := r62_0 x0
  let x7 := r62_1 x0
  let x9 := IntKind.wrap .i64 (12 - x0)
  let x10 := r62_0 x9
  let x11 := r62_1 x9
  let x12 := r62_2 x9
  let x13 := r65_0 x12 x2
  let x15 := r67_0 x10 x11 x12 x2
  let x16 := x15 == 8
  let x19 := x15 == 9
  let x22 := x15 == 7
  let x26 := x15 == 4
  let x28 := !x26
  let x29 := bif x22 then false else x28
  let x30 := bif x19 then false else x29
  let x31 := bif x16 then false else x30
  let x33 := r68_0 x10 x12 x2
  let x34 := r68_1 x10 x11 x12 x2
  let x37 := r78_1 x6 x7 x1 x13 x33 x34
  let x41 : Int := bif x16 then 16 else 0
  let x43 := bif x31 then x37 else x41
  let x45 := bif x5 then x43 else 0
  x45
noncomputable def g29 (ds : List DV) : List DV := [.b (p29 (dget ds 0).toI (dget ds 1).toI (dget ds 2).toI), .i (r29_0 (dget ds 0).toI (dget ds 1).toI (dget ds 2).toI), .i (r29_1 (dget ds 0).toI (dget ds 1).toI (dget ds 2).toI)]
def S29 : Sigs := ⟨[(64, s64), (62, s62), (65, s65), (67, s67), (63, s63), (83, s83), (82, s82), (68, s68), (78, s78)], [], [], 0⟩

def s31 : Sig := ⟨[.s (.one (.i .i64 (.h 0))), .s (.one (.i .i64 (.h 1))), .s (.one (.i .u64 (.h 2))), .s (.one (.i .u64 (.h 3)))], [], [.i, .i, .i, .i], .s (.one (.i .u64 (.h 0))), [], [.i], false⟩
def o31 : Out := ⟨List.append (List.append ([(4, .call 64 [.r 1, .z 0] 0), (5, .not (.r 4)), (6, .not (.r 5))]) (callsAt 7 62 [.r 1] 0 3)) ([(10, .eql (.r 0) (.z 64)), (11, .call 65 [.r 7, .r 8, .r 9, .r 3] 0), (12, .call 86 [.r 7, .r 8, .r 9, .r 2] 0), (13, .call 82 [.r 7, .r 8, .r 9, .r 11, .r 12] 0), (14, .eql (.r 0) (.z 65)), (15, .call 65 [.r 7, .r 8, .r 9, .r 3] 0), (16, .not (.r 15)), (17, .call 86 [.r 7, .r 8, .r 9, .r 2] 0), (18, .call 82 [.r 7, .r 8, .r 9, .r 16, .r 17] 0), (19, .eql (.r 0) (.z 66)), (20, .call 65 [.r 7, .r 8, .r 9, .r 2] 0), (21, .call 65 [.r 7, .r 8, .r 9, .r 3] 0), (22, .bne (.r 20) (.r 21)), (23, .call 86 [.r 7, .r 8, .r 9, .r 2] 0), (24, .call 82 [.r 7, .r 8, .r 9, .r 22, .r 23] 0), (25, .not (.r 19)), (26, .iteb (.r 14) (.t false) (.r 25)), (27, .iteb (.r 10) (.t false) (.r 26)), (28, .itei (.r 14) (.r 18) (.r 24)), (29, .itei (.r 10) (.r 13) (.r 28)), (30, .itei (.r 27) (.z 0) (.r 29)), (31, .itei (.r 6) (.r 30) (.z 0))]),
  [],
  [],
  [.r 31]⟩
noncomputable def r31_0 (x0 : Int) (x1 : Int) (x2 : Int) (x3 : Int) : Int :=
  let x4 := r64_0 x1 0
  let x5 := !x4
  let x6 := !x5
  let x9 := r62_2 x1
  let x10 := x0 == 64
  let x11 := r65_0 x9 x3
  let x12 := r86_0 x9 x2
  let x13 := r82_0 x9 x11 x12
  let x14 := x0 == 65
  let x15 := r65_0 x9 x3
  let x16 := !x15
  let x17 := r86_0 x9 x2
  let x18 := r82_0 x9 x16 x17
  let x19 := x0 == 66
  let x20 := r65_0 x9 x2
  let x21 := r65_0 x9 x3
  let x22 := x20 != x21
  let x23 := r86_0 x9 x2
  let x24 := r82_0 x9 x22 x23
  let x25 := !x19
  let x26 := bif x14 then false else x25
  let x27 := bif x10 then false else x26
  let x28 := bif x14 then x18 else x24
  let x29 := bif x10 then x13 else x28
  let x30 := bif x27 then 0 else x29
  let x31 := bif x6 then x30 else 0
  x31
noncomputable def g31 (ds : List DV) : List DV := [.i (r31_0 (dget ds 0).toI (dget ds 1).toI (dget ds 2).toI (dget ds 3).toI)]
def S31 : Sigs := ⟨[(64, s64), (62, s62), (65, s65), (86, s86), (82, s82)], [], [], 0⟩

def s33 : Sig := ⟨[.s (.one (.i .i64 (.h 0))), .s (.one (.i .u64 (.h 1)))], [], [.i, .i], .s (.one (.i .u64 (.h 0))), [], [.i], true⟩
def o33 : Out := ⟨List.append (List.append ([(2, .call 64 [.r 0, .z 0] 0), (3, .not (.r 2)), (4, .not (.r 3))]) (callsAt 5 62 [.r 0] 0 3)) ([(8, .call 67 [.r 5, .r 6, .r 7, .r 1] 0), (9, .call 67 [.r 5, .r 6, .r 7, .r 1] 1), (10, .leq (.r 9) (.z 7)), (11, .call 65 [.r 5, .r 6, .r 7, .r 1] 0), (12, .and (.r 10) (.r 11)), (13, .sub .i64 (.z 7) (.r 9)), (14, .itei (.r 12) (.r 13) (.r 9)), (15, .geq (.r 14) (.z 0)), (16, .shl .u64 (.z 1) (.r 14)), (17, .itei (.r 4) (.r 16) (.z 0))]),
  [⟨[(.r 4, true)], .r 8⟩, ⟨[(.r 4, true)], .r 15⟩],
  [],
  [.r 17]⟩
noncomputable def p33 (x0 : Int) (x1 : Int) : Bool :=
  let x2 := r64_0 x0 0
  let x3 := !x2
  let x4 := !x3
  let x5 := r62_0 x0
  let x6 := r62_1 x0
  let x7 := r62_2 x0
  let x8 := p67 x5 x6 x7 x1
  let x9 := r67_0 x5 x6 x7 x1
  let x10 := decide (x9 ≤ 7)
  let x11 := r65_0 x7 x1
  let x12 := x10 && x11
  let x13 := IntKind.wrap .i64 (7 - x9)
  let x14 := bif x12 then x13 else x9
  let x15 := decide (x14 ≥ 0)
  [ow [(x4, true)] x8, ow [(x4, true)] x15].all id
noncomputable def r33_0 (x0 : Int) (x1 : Int) : Int :=
  let x2 := r64_0 x0 0
  let x3 := !x2
  let x4 := !x3
  let x5 := r62_0 x0
  let x6 := r62_1 x0
  let x7 := r62_2 x0
  let x9 := r67_0 x5 x6 x7 x1
  let x10 := decide (x9 ≤ 7)
  let x11 := r65_0 x7 x1
  let x12 := x10 && x11
  let x13 := IntKind.wrap .i64 (7 - x9)
  let x14 := bif x12 then x13 else x9
  let x16 := ishl .u64 1 x14
  let x17 := bif x4 then x16 else 0
  x17
noncomputable def g33 (ds : List DV) : List DV := [.b (p33 (dget ds 0).toI (dget ds 1).toI), .i (r33_0 (dget ds 0).toI (dget ds 1).toI)]
def S33 : Sigs := ⟨[(64, s64), (62, s62), (67, s67), (65, s65)], [], [], 0⟩

def s35 : Sig := ⟨[.s (.one (.i .i64 (.h 0))), .s (.one (.i .i64 (.h 1))), .s (.one (.i .u64 (.h 2))), .s (.one (.i .u64 (.h 3)))], [], [.i, .i, .i, .i], .t [.one (.i .u64 (.h 0)), .one (.i .i64 (.h 1))], [], [.i, .i], true⟩
def o35 : Out := ⟨List.append (List.append ([(4, .call 64 [.r 1, .z 0] 0), (5, .not (.r 4)), (6, .neq (.r 0) (.z 67)), (7, .neq (.r 0) (.z 68)), (8, .and (.r 6) (.r 7)), (9, .or (.r 5) (.r 8)), (10, .not (.r 9))]) (callsAt 11 62 [.r 1] 0 3)) ([(14, .call 67 [.r 11, .r 12, .r 13, .r 2] 0), (15, .call 67 [.r 11, .r 12, .r 13, .r 2] 1), (16, .call 67 [.r 11, .r 12, .r 13, .r 3] 0), (17, .call 67 [.r 11, .r 12, .r 13, .r 3] 1), (18, .eql (.r 15) (.z 8)), (19, .eql (.r 17) (.z 8)), (20, .or (.r 18) (.r 19)), (21, .itei (.r 20) (.z 16) (.z 0)), (22, .call 65 [.r 11, .r 12, .r 13, .r 2] 0), (23, .call 86 [.r 11, .r 12, .r 13, .r 2] 0), (24, .call 82 [.r 11, .r 12, .r 13, .r 22, .r 23] 0), (25, .call 65 [.r 11, .r 12, .r 13, .r 3] 0), (26, .call 86 [.r 11, .r 12, .r 13, .r 3] 0), (27, .call 82 [.r 11, .r 12, .r 13, .r 25, .r 26] 0), (28, .geq (.r 15) (.z 8)), (29, .geq (.r 17) (.z 8)), (30, .and (.r 28) (.r 29)), (31, .call 63 [.r 11, .r 12, .r 13] 0), (32, .call 63 [.r 11, .r 12, .r 13] 1), (33, .geq (.r 15) (.z 8)), (34, .geq (.r 17) (.z 8)), (35, .call 87 [.r 11, .r 12, .r 13, .r 24] 0), (36, .call 87 [.r 11, .r 12, .r 13, .r 27] 0), (37, .lss (.r 35) (.r 36)), (38, .eql (.r 0) (.z 67)), (39, .beq (.r 37) (.r 38)), (40, .not (.r 39)), (41, .iteb (.r 34) (.t false) (.r 40)), (42, .iteb (.r 33) (.t false) (.r 41)), (43, .iteb (.r 30) (.t false) (.r 42)), (44, .itei (.r 33) (.r 27) (.r 24)), (45, .itei (.r 30) (.r 32) (.r 44)), (46, .itei (.r 43) (.r 27) (.r 45)), (47, .itei (.r 10) (.r 46) (.z 0)), (48, .itei (.r 10) (.r 21) (.z 0))]),
  [⟨[(.r 10, true)], .r 14⟩, ⟨[(.r 10, true)], .r 16⟩, ⟨[(.r 10, true), (.r 30, true)], .r 31⟩],
  [],
  [.r 47, .r 48]⟩
noncomputable def p35 (x0 : Int) (x1 : Int) (x2 : Int) (x3 : Int) : Bool :=
  let x4 := r64_0 x1 0
  let x5 := !x4
  let x6 := x0 != 67
  let x7 := x0 != 68
  let x8 := x6 && x7
  let x9 := x5 || x8
  let x10 := !x9
  let x11 := r62_0 x1
  let x12 := r62_1 x1
  let x13 := r62_2 x1
  let x14 := p67 x11 x12 x13 x2
  let x15 := r67_0 x11 x12 x13 x2
  let x16 := p67 x11 x12 x13 x3
  let x17 := r67_0 x11 x12 x13 x3
  let x28 := decide (x15 ≥ 8)
  let x29 := decide (x17 ≥ 8)
  let x30 := x28 && x29
  let x31 := p63 x11
  [ow [(x10, true)] x14, ow [(x10, true)] x16, ow [(x10, true), (x30, true)] x31].all id
noncomputable def r35_0 (x0 : Int) (x1 : Int) (x2 : Int) (x3 : Int) : Int :=
  let x4 := r64_0 x1 0
  let x5 := !x4
  let x6 := x0 != 67
  let x7 := x0 != 68
  let x8 := x6 && x7
  let x9 := x5 || x8
  let x10 := !x9
  let x11 := r62_0 x1
  let x12 := r62_1 x1
  let x13 := r62_2 x1
  let x15 := r67_0 x11 x12 x13 x2
  let x17 := r67_0 x11 x12 x13 x3
  let x22 := r65_0 x13 x2
  let x23 := r86_0 x13 x2
  let x24 := r82_0 x13 x22 x23
  let x25 := r65_0 x13 x3
  let x26 := r86_0 x13 x3
  let x27 := r82_0 x13 x25 x26
  let x28 := decide (x15 ≥ 8)
  let x29 := decide (x17 ≥ 8)
  let x30 := x28 && x29
  let x32 := r63_0 x11 x12
  let x33 := decide (x15 ≥ 8)
  let x34 := decide (x17 ≥ 8)
  let x35 := r87_0 x13 x24
  let x36 := r87_0 x13 x27
  let x37 := decide (x35 < x36)
  let x38 := x0 == 67
  let x39 := x37 == x38
  let x40 := !x39
  let x41 := bif x34 then false else x40
  let x42 := bif x33 then false else x41
  let x43 := bif x30 then false else x42
  let x44 := bif x33 then x27 else x24
  let x45 := bif x30 then x32 else x44
  let x46 := bif x43 then x27 else x45
  let x47 := bif x10 then x46 else 0
  x47
noncomputable def r35_1 (x0 : Int) (x1 : Int) (x2 : Int) (x3 : Int) : Int :=
  let x4 := r64_0 x1 0
  let x5 := !x4
  let x6 := x0 != 67
  let x7 := x0 != 68
  let x8 := x6 && x7
  let x9 := x5 || x8
  let x10 := !x9
  let x11 := r62_0 x1
  let x12 := r62_1 x1
  let x13 := r62_2 x1
  let x15 := r67_0 x11 x12 x13 x2
  let x17 := r67_0 x11 x12 x13 x3
  let x18 := x15 == 8
  let x19 := x17 == 8
  let x20 := x18 || x19
  let x21 : Int := bif x20 then 16 else 0
  let x48 := bif x10 then x21 else 0
  x48
noncomputable def g35 (ds : List DV) : List DV := [.b (p35 (dget ds 0).toI (dget ds 1).toI (dget ds 2).toI (dget ds 3).toI), .i (r35_0 (dget ds 0).toI (dget ds 1).toI (dget ds 2).toI (dget ds 3).toI), .i (r35_1 (dget ds 0).toI (dget ds 1).toI (dget ds 2).toI (dget ds 3).toI)]
def S35 : Sigs := ⟨[(64, s64), (62, s62), (67, s67), (65, s65), (86, s86), (82, s82), (63, s63), (87, s87)], [], [], 0⟩

def s37 : Sig := ⟨[.s (.one (.i .i64 (.h 0))), .s (.one (.i .i64 (.h 1))), .s (.one (.i .u64 (.h 2))), .s (.one (.i .u64 (.h 3)))], [], [.i, .i, .i, .i], .t [.one (.i .u64 (.h 0)), .one (.i .i64 (.h 1))], [], [.i, .i], true⟩
def o37 : Out := ⟨List.append (List.append ([(4, .call 64 [.r 1, .z 0] 0), (5, .not (.r 4)), (6, .neq (.r 0) (.z 69)), (7, .neq (.r 0) (.z 70)), (8, .and (.r 6) (.r 7)), (9, .neq (.r 0) (.z 71)), (10, .and (.r 8) (.r 9)), (11, .or (.r 5) (.r 10)), (12, .not (.r 11))]) (callsAt 13 62 [.r 1] 0 3)) ([(16, .call 67 [.r 13, .r 14, .r 15, .r 2] 0), (17, .call 67 [.r 13, .r 14, .r 15, .r 2] 1), (18, .call 67 [.r 13, .r 14, .r 15, .r 3] 0), (19, .call 67 [.r 13, .r 14, .r 15, .r 3] 1), (20, .geq (.r 17) (.z 8)), (21, .geq (.r 19) (.z 8)), (22, .or (.r 20) (.r 21)), (23, .neq (.r 0) (.z 69)), (24, .eql (.r 17) (.z 8)), (25, .or (.r 23) (.r 24)), (26, .eql (.r 19) (.z 8)), (27, .or (.r 25) (.r 26)), (28, .not (.r 27)), (29, .not (.r 22)), (30, .call 87 [.r 13, .r 14, .r 15, .r 2] 0), (31, .call 87 [.r 13, .r 14, .r 15, .r 3] 0), (32, .eql (.r 17) (.z 4)), (33, .eql (.r 19) (.z 4)), (34, .and (.r 32) (.r 33)), (35, .itei (.r 34) (.r 31) (.r 30)), (36, .eql (.r 0) (.z 69)), (37, .eql (.r 35) (.r 31)), (38, .and (.r 36) (.r 37)), (39, .eql (.r 0) (.z 70)), (40, .lss (.r 35) (.r 31)), (41, .and (.r 39) (.r 40)), (42, .or (.r 38) (.r 41)), (43, .eql (.r 0) (.z 71)), (44, .leq (.r 35) (.r 31)), (45, .and (.r 43) (.r 44)), (46, .or (.r 42) (.r 45)), (47, .not (.r 46)), (48, .itei (.r 47) (.z 0) (.z 1)), (49, .itei (.r 28) (.z 0) (.z 16)), (50, .itei (.r 29) (.r 48) (.z 0)), (51, .itei (.r 29) (.z 0) (.r 49)), (52, .itei (.r 12) (.r 50) (.z 0)), (53, .itei (.r 12) (.r 51) (.z 0))]),
  [⟨[(.r 12, true)], .r 16⟩, ⟨[(.r 12, true)], .r 18⟩],
  [],
  [.r 52, .r 53]⟩
noncomputable def p37 (x0 : Int) (x1 : Int) (x2 : Int) (x3 : Int) : Bool :=
  let x4 := r64_0 x1 0
  let x5 := !x4
  let x6 := x0 != 69
  let x7 := x0 != 70
  let x8 := x6 && x7
  let x9 := x0 != 71
  let x10 := x8 && x9
  let x11 := x5 || x10
  let x12 := !x11
  let x13 := r62_0 x1
  let x14 := r62_1 x1
  let x15 := r62_2 x1
  let x16 := p67 x13 x14 x15 x2
  let x18 := p67 x13 x14 x15 x3
  [ow [(x12, true)] x16, ow [(x12, true)] x18].all id
noncomputable def r37_0 (x0 : Int) (x1 : Int) (x2 : Int) (x3 : Int) : Int :=
  let x4 := r64_0 x1 0
  let x5 := !x4
  let x6 := x0 != 69
  let x7 := x0 != 70
  let x8 := x6 && x7
  let x9 := x0 != 71
  let x10 := x8 && x9
  let x11 := x5 || x10
  let x12 := !x11
  let x13 := r62_0 x1
  let x14 := r62_1 x1
  let x15 := r62_2 x1
  let x17 := r67_0 x13 x14 x15 x2
  let x19 := r67_0 x13 x14 x15 x3
  let x20 := decide (x17 ≥ 8)
  let x21 := decide (x19 ≥ 8)
  let x22 := x20 || x21
  let x29 := !x22
  let x30 := r87_0 x15 x2
  let x31 := r87_0 x15 x3
  let x32 := x17 == 4
  let x33 := x19 == 4
  let x34 := x32 && x33
  let x35 := bif x34 then x31 else x30
  let x36 := x0 == 69
  let x37 := x35 == x31
  let x38 := x36 && x37
  let x39 := x0 == 70
  let x40 := decide (x35 < x31)
  let x41 := x39 && x40
  let x42 := x38 || x41
  let x43 := x0 == 71
  let x44 := decide (x35 ≤ x31)
  let x45 := x43 && x44
  let x46 := x42 || x45
  let x47 := !x46
  let x48 : Int := bif x47 then 0 else 1
  let x50 := bif x29 then x48 else 0
  let x52 := bif x12 then x50 else 0
  x52
noncomputable def r37_1 (x0 : Int) (x1 : Int) (x2 : Int) (x3 : Int) : Int :=
  let x4 := r64_0 x1 0
  let x5 := !x4
  let x6 := x0 != 69
  let x7 := x0 != 70
  let x8 := x6 && x7
  let x9 := x0 != 71
  let x10 := x8 && x9
  let x11 := x5 || x10
  let x12 := !x11
  let x13 := r62_0 x1
  let x14 := r62_1 x1
  let x15 := r62_2 x1
  let x17 := r67_0 x13 x14 x15 x2
  let x19 := r67_0 x13 x14 x15 x3
  let x20 := decide (x17 ≥ 8)
  let x21 := decide (x19 ≥ 8)
  let x22 := x20 || x21
  let x23 := x0 != 69
  let x24 := x17 == 8
  let x25 := x23 || x24
  let x26 := x19 == 8
  let x27 := x25 || x26
  let x28 := !x27
  let x29 := !x22
  let x49 : Int := bif x28 then 0 else 16
  let x51 := bif x29 then 0 else x49
  let x53 := bif x12 then x51 else 0
  x53
noncomputable def g37 (ds : List DV) : List DV := [.b (p37 (dget ds 0).toI (dget ds 1).toI (dget ds 2).toI (dget ds 3).toI), .i (r37_0 (dget ds 0).toI (dget ds 1).toI (dget ds 2).toI (dget ds 3).toI), .i (r37_1 (dget ds 0).toI (dget ds 1).toI (dget ds 2).toI (dget ds 3).toI)]
def S37 : Sigs := ⟨[(64, s64), (62, s62), (67, s67), (87, s87)], [], [], 0⟩

def s21 : Sig := ⟨[.s (.one (.i .u64 (.h 0)))], [], [.i], .s (.one (.i .u64 (.h 0))), [], [.i], false⟩
def o21 : Out := ⟨[(1, .conv .u32 (.r 0)), (2, .conv .u64 (.r 1)), (3, .lor .u64 (.r 2) (.z 18446744069414584320))],
  [],
  [],
  [.r 3]⟩
noncomputable def r21_0 (x0 : Int) : Int :=
  let x1 := IntKind.wrap .u32 x0
  let x2 := IntKind.wrap .u64 x1
  let x3 := ilor .u64 x2 18446744069414584320
  x3
noncomputable def g21 (ds : List DV) : List DV := [.i (r21_0 (dget ds 0).toI)]
def S21 : Sigs := ⟨[], [], [], 0⟩

def s23 : Sig := ⟨[.s (.one (.i .u64 (.h 0)))], [], [.i], .s (.one (.i .u64 (.h 0))), [], [.i], true⟩
def o23 : Out := ⟨List.append (List.append ([(1, .shr .u64 (.r 0) (.z 32)), (2, .neq (.r 1) (.z 4294967295))]) (callsAt 3 62 [.z 4] 0 3)) ([(6, .call 63 [.r 3, .r 4, .r 5] 0), (7, .call 63 [.r 3, .r 4, .r 5] 1), (8, .not (.r 2)), (9, .conv .u32 (.r 0)), (10, .conv .u64 (.r 9)), (11, .itei (.r 8) (.r 10) (.r 7))]),
  [⟨[(.r 2, true)], .r 6⟩],
  [],
  [.r 11]⟩
noncomputable def p23 (x0 : Int) : Bool :=
  let x1 := ishr .u64 x0 32
  let x2 := x1 != 4294967295
  let x3 := r62_0 4
  let x6 := p63 x3
  [ow [(x2, true)] x6].all id
noncomputable def r23_0 (x0 : Int) : Int :=
  let x1 := ishr .u64 x0 32
  let x2 := x1 != 4294967295
  let x3 := r62_0 4
  let x4 := r62_1 4
  let x7 := r63_0 x3 x4
  let x8 := !x2
  let x9 := IntKind.wrap .u32 x0
  let x10 := IntKind.wrap .u64 x9
  let x11 := bif x8 then x10 else x7
  x11
noncomputable def g23 (ds : List DV) : List DV := [.b (p23 (dget ds 0).toI), .i (r23_0 (dget ds 0).toI)]
def S23 : Sigs := ⟨[(62, s62), (63, s63)], [], [], 0⟩

def s71 : Sig := ⟨[.s (.one (.i .i64 (.h 0))), .s (.one (.i .i64 (.h 1)))], [], [.i, .i], .s (.one (.b (.h 0))), [], [.b], false⟩
def o71 : Out := ⟨[(2, .eql (.r 0) (.z 4)), (3, .eql (.r 0) (.z 8)), (4, .or (.r 2) (.r 3)), (5, .geq (.r 1) (.z 0)), (6, .and (.r 4) (.r 5)), (7, .leq (.r 1) (.z 4)), (8, .and (.r 6) (.r 7))],
  [],
  [],
  [.r 8]⟩
noncomputable def r71_0 (x0 : Int) (x1 : Int) : Bool :=
  let x2 := x0 == 4
  let x3 := x0 == 8
  let x4 := x2 || x3
  let x5 := decide (x1 ≥ 0)
  let x6 := x4 && x5
  let x7 := decide (x1 ≤ 4)
  let x8 := x6 && x7
  x8
noncomputable def g71 (ds : List DV) : List DV := [.b (r71_0 (dget ds 0).toI (dget ds 1).toI)]
def S71 : Sigs := ⟨[], [], [], 0⟩

def s79 : Sig := ⟨[.s (.one (.i .u64 (.h 0)))], [], [.i], .s (.one (.i .u64 (.h 0))), [], [.i], false⟩
def o79 : Out := ⟨[(1, .conv .u32 (.r 0)), (2, .conv .i32 (.r 1)), (3, .conv .i64 (.r 2)), (4, .conv .u64 (.r 3))],
  [],
  [],
  [.r 4]⟩
noncomputable def r79_0 (x0 : Int) : Int :=
  let x1 := IntKind.wrap .u32 x0
  let x2 := IntKind.wrap .i32 x1
  let x3 := IntKind.wrap .i64 x2
  let x4 := IntKind.wrap .u64 x3
  x4
noncomputable def g79 (ds : List DV) : List DV := [.i (r79_0 (dget ds 0).toI)]
def S79 : Sigs := ⟨[], [], [], 0⟩

def s72 : Sig := ⟨[.s (.one (.b (.h 0))), .s (.one (.b (.h 1)))], [], [.b, .b], .t [.one (.vec 0), .one (.vec 1)], [some (.v false [.int .u32] (.h 0)), some (.v false [.int .u32] (.h 1))], [.l, .l], true⟩
def o72 : Out := ⟨[(2, .itei (.r 0) (.z 32) (.z 64)), (3, .lmk [] []), (4, .lmk [.i] [.z 1]), (5, .call 104 [.r 4, .r 2] 0), (6, .call 104 [.r 4, .r 2] 1), (7, .lmk [.i] [.z 1]), (8, .call 110 [.r 6, .r 7] 0), (9, .call 110 [.r 6, .r 7] 1), (10, .not (.r 1)), (11, .lmk [.i] [.z 1]), (12, .sub .i64 (.r 2) (.z 1)), (13, .call 104 [.r 11, .r 12] 0), (14, .call 104 [.r 11, .r 12] 1), (15, .lmk [.i] [.z 1]), (16, .call 110 [.r 14, .r 15] 0), (17, .call 110 [.r 14, .r 15] 1), (18, .itel (.r 10) (.r 14) (.r 3)), (19, .itel (.r 10) (.r 17) (.r 9)), (20, .itel (.r 10) (.r 15) (.r 6))],
  [⟨[(.r 1, true)], .r 5⟩, ⟨[(.r 1, true)], .r 8⟩, ⟨[(.r 10, true)], .r 13⟩, ⟨[(.r 10, true)], .r 16⟩],
  [],
  [.r 18, .r 19]⟩
noncomputable def p72 (x0 : Bool) (x1 : Bool) : Bool :=
  let x2 : Int := bif x0 then 32 else 64
  let x4 : List DV := [.i 1]
  let x5 := p104 x4 x2
  let x6 := r104_0 x4 x2
  let x7 : List DV := [.i 1]
  let x8 := p110 x6 x7
  let x10 := !x1
  let x11 : List DV := [.i 1]
  let x12 := IntKind.wrap .i64 (x2 - 1)
  let x13 := p104 x11 x12
  let x14 := r104_0 x11 x12
  let x15 : List DV := [.i 1]
  let x16 := p110 x14 x15
  [ow [(x1, true)] x5, ow [(x1, true)] x8, ow [(x10, true)] x13, ow [(x10, true)] x16].all id
noncomputable def r72_0 (x0 : Bool) (x1 : Bool) : List DV :=
  let x2 : Int := bif x0 then 32 else 64
  let x3 : List DV := []
  let x10 := !x1
  let x11 : List DV := [.i 1]
  let x12 := IntKind.wrap .i64 (x2 - 1)
  let x14 := r104_0 x11 x12
  let x18 := bif x10 then x14 else x3
  x18
noncomputable def r72_1 (x0 : Bool) (x1 : Bool) : List DV :=
  let x2 : Int := bif x0 then 32 else 64
  let x4 : List DV := [.i 1]
  let x6 := r104_0 x4 x2
  let x7 : List DV := [.i 1]
  let x9 := r110_0 x6 x7
  let x10 := !x1
  let x11 : List DV := [.i 1]
  let x12 := IntKind.wrap .i64 (x2 - 1)
  let x14 := r104_0 x11 x12
  let x15 : List DV := [.i 1]
  let x17 := r110_0 x14 x15
  let x19 := bif x10 then x17 else x9
  x19
noncomputable def g72 (ds : List DV) : List DV := [.b (p72 (dget ds 0).toB (dget ds 1).toB), .l (r72_0 (dget ds 0).toB (dget ds 1).toB), .l (r72_1 (dget ds 0).toB (dget ds 1).toB)]
def S72 : Sigs := ⟨[(104, s104), (110, s110)], [], [], 0⟩

def s73 : Sig := ⟨[.s (.one (.b (.h 0))), .s (.one (.b (.h 1))), .s (.one (.vec 0))], [some (.v false [.int .u32] (.h 2))], [.b, .b, .l], .s (.one (.i .u64 (.h 0))), [], [.i], true⟩
def o73 : Out := ⟨[(3, .call 111 [.r 2] 0), (4, .call 111 [.r 2] 1), (5, .sub .u64 (.z 0) (.r 4)), (6, .itei (.r 1) (.r 5) (.r 4)), (7, .call 79 [.r 6] 0), (8, .not (.r 0)), (9, .itei (.r 8) (.r 6) (.r 7))],
  [⟨[], .r 3⟩],
  [],
  [.r 9]⟩
noncomputable def p73 (x2 : List DV) : Bool :=
  let x3 := p111 x2
  [ow [] x3].all id
noncomputable def r73_0 (x0 : Bool) (x1 : Bool) (x2 : List DV) : Int :=
  let x4 := r111_0 x2
  let x5 := IntKind.wrap .u64 (0 - x4)
  let x6 := bif x1 then x5 else x4
  let x7 := r79_0 x6
  let x8 := !x0
  let x9 := bif x8 then x6 else x7
  x9
noncomputable def g73 (ds : List DV) : List DV := [.b (p73 (dget ds 2).toL), .i (r73_0 (dget ds 0).toB (dget ds 1).toB (dget ds 2).toL)]
def S73 : Sigs := ⟨[(111, s111), (79, s79)], [], [], 1⟩

def s75 : Sig := ⟨[.s (.one (.i .i64 (.h 0))), .s (.agg [.b (.h 1), .vec 0, .i .i64 (.h 3)])], [some (.v false [.int .u32] (.h 2))], [.i, .b, .l, .i], .t [.one (.vec 1), .one (.b (.h 0))], [none, some (.v false [.int .u32] (.h 1))], [.b, .l], true⟩
def o75 : Out := ⟨List.append (List.append (List.append (List.append ([(4, .geq (.r 3) (.z 0)), (5, .call 104 [.r 2, .r 3] 0), (6, .call 104 [.r 2, .r 3] 1), (7, .not (.r 4)), (8, .sub .i64 (.z 0) (.r 3))]) (callsAt 9 112 [.r 2, .r 8] 0 3)) ([(12, .sub .i64 (.z 0) (.r 3)), (13, .sub .i64 (.r 12) (.z 1)), (14, .call 113 [.r 2, .r 13] 0), (15, .call 113 [.r 2, .r 13] 1), (16, .eql (.r 15) (.z 1)), (17, .sub .i64 (.z 0) (.r 3)), (18, .sub .i64 (.r 17) (.z 1))])) (callsAt 19 112 [.r 2, .r 18] 0 3)) ([(22, .eql (.r 0) (.z 0)), (23, .not (.r 20)), (24, .call 113 [.r 11, .z 0] 0), (25, .call 113 [.r 11, .z 0] 1), (26, .eql (.r 25) (.z 1)), (27, .or (.r 23) (.r 26)), (28, .and (.r 16) (.r 27)), (29, .eql (.r 0) (.z 2)), (30, .not (.r 10)), (31, .and (.r 1) (.r 30)), (32, .eql (.r 0) (.z 3)), (33, .not (.r 1)), (34, .not (.r 10)), (35, .and (.r 33) (.r 34)), (36, .eql (.r 0) (.z 4)), (37, .and (.r 36) (.r 16)), (38, .iteb (.r 32) (.r 35) (.r 37)), (39, .iteb (.r 29) (.r 31) (.r 38)), (40, .iteb (.r 22) (.r 28) (.r 39)), (41, .lmk [.i] [.z 1]), (42, .call 114 [.r 11, .r 41] 0), (43, .call 114 [.r 11, .r 41] 1), (44, .itel (.r 40) (.r 43) (.r 11)), (45, .itel (.r 7) (.r 44) (.r 6)), (46, .iteb (.r 7) (.r 10) (.t true)), (47, .itel (.r 7) (.r 11) (.r 6))]),
  [⟨[(.r 4, true)], .r 5⟩, ⟨[(.r 7, true)], .r 9⟩, ⟨[(.r 7, true)], .r 14⟩, ⟨[(.r 7, true)], .r 19⟩, ⟨[(.r 7, true), (.r 22, true), (.r 23, false), (.r 16, true)], .r 24⟩, ⟨[(.r 7, true), (.r 40, true)], .r 42⟩],
  [],
  [.r 46, .r 45]⟩
noncomputable def p75 (x0 : Int) (x1 : Bool) (x2 : List DV) (x3 : Int) : Bool :=
  let x4 := decide (x3 ≥ 0)
  let x5 := p104 x2 x3
  let x7 := !x4
  let x8 := IntKind.wrap .i64 (0 - x3)
  let x9 := p112 x2 x8
  let x10 := r112_0 x2 x8
  let x11 := r112_1 x2 x8
  let x12 := IntKind.wrap .i64 (0 - x3)
  let x13 := IntKind.wrap .i64 (x12 - 1)
  let x14 := p113 x2 x13
  let x15 := r113_0 x2 x13
  let x16 := x15 == 1
  let x17 := IntKind.wrap .i64 (0 - x3)
  let x18 := IntKind.wrap .i64 (x17 - 1)
  let x19 := p112 x2 x18
  let x20 := r112_0 x2 x18
  let x22 := x0 == 0
  let x23 := !x20
  let x24 := p113 x11 0
  let x25 := r113_0 x11 0
  let x26 := x25 == 1
  let x27 := x23 || x26
  let x28 := x16 && x27
  let x29 := x0 == 2
  let x30 := !x10
  let x31 := x1 && x30
  let x32 := x0 == 3
  let x33 := !x1
  let x34 := !x10
  let x35 := x33 && x34
  let x36 := x0 == 4
  let x37 := x36 && x16
  let x38 := bif x32 then x35 else x37
  let x39 := bif x29 then x31 else x38
  let x40 := bif x22 then x28 else x39
  let x41 : List DV := [.i 1]
  let x42 := p114 x11 x41
  [ow [(x4, true)] x5, ow [(x7, true)] x9, ow [(x7, true)] x14, ow [(x7, true)] x19, ow [(x7, true), (x22, true), (x23, false), (x16, true)] x24, ow [(x7, true), (x40, true)] x42].all id
noncomputable def r75_0 (x2 : List DV) (x3 : Int) : Bool :=
  let x4 := decide (x3 ≥ 0)
  let x7 := !x4
  let x8 := IntKind.wrap .i64 (0 - x3)
  let x10 := r112_0 x2 x8
  let x46 := bif x7 then x10 else true
  x46
noncomputable def r75_1 (x0 : Int) (x1 : Bool) (x2 : List DV) (x3 : Int) : List DV :=
  let x4 := decide (x3 ≥ 0)
  let x6 := r104_0 x2 x3
  let x7 := !x4
  let x8 := IntKind.wrap .i64 (0 - x3)
  let x10 := r112_0 x2 x8
  let x11 := r112_1 x2 x8
  let x12 := IntKind.wrap .i64 (0 - x3)
  let x13 := IntKind.wrap .i64 (x12 - 1)
  let x15 := r113_0 x2 x13
  let x16 := x15 == 1
  let x17 := IntKind.wrap .i64 (0 - x3)
  let x18 := IntKind.wrap .i64 (x17 - 1)
  let x20 := r112_0 x2 x18
  let x22 := x0 == 0
  let x23 := !x20
  let x25 := r113_0 x11 0
  let x26 := x25 == 1
  let x27 := x23 || x26
  let x28 := x16 && x27
  let x29 := x0 == 2
  let x30 := !x10
  let x31 := x1 && x30
  let x32 := x0 == 3
  let x33 := !x1
  let x34 := !x10
  let x35 := x33 && x34
  let x36 := x0 == 4
  let x37 := x36 && x16
  let x38 := bif x32 then x35 else x37
  let x39 := bif x29 then x31 else x38
  let x40 := bif x22 then x28 else x39
  let x41 : List DV := [.i 1]
  let x43 := r114_0 x11 x41
  let x44 := bif x40 then x43 else x11
  let x45 := bif x7 then x44 else x6
  x45
noncomputable def g75 (ds : List DV) : List DV := [.b (p75 (dget ds 0).toI (dget ds 1).toB (dget ds 2).toL (dget ds 3).toI), .b (r75_0 (dget ds 2).toL (dget ds 3).toI), .l (r75_1 (dget ds 0).toI (dget ds 1).toB (dget ds 2).toL (dget ds 3).toI)]
def S75 : Sigs := ⟨[(104, s104), (112, s112), (113, s113), (114, s114)], [], [], 1⟩

def s26 : Sig := ⟨[.s (.one (.i .i64 (.h 0))), .s (.one (.i .i64 (.h 1))), .s (.one (.b (.h 2))), .s (.one (.b (.h 3))), .s (.one (.i .u64 (.h 4)))], [], [.i, .i, .b, .b, .i], .t [.one (.i .u64 (.h 0)), .one (.i .i64 (.h 1))], [], [.i, .i], true⟩
def o26 : Out := ⟨List.append (List.append (List.append (List.append (List.append ([(5, .call 71 [.r 0, .r 1] 0), (6, .not (.r 5)), (7, .not (.r 6))]) (callsAt 8 72 [.r 2, .r 3] 0 3)) ([(11, .call 39 [.r 0, .r 4] 0), (12, .call 39 [.r 0, .r 4] 1), (13, .call 73 [.r 2, .t false, .r 10] 0), (14, .call 73 [.r 2, .t false, .r 10] 1), (15, .not (.r 12)), (16, .call 74 [.r 0, .r 4] 0), (17, .call 74 [.r 0, .r 4] 1), (18, .call 56 [.r 0, .r 4] 0), (19, .call 56 [.r 0, .r 4] 1), (20, .lmk [] []), (21, .not (.r 19))])) (callsAt 22 76 [.r 0, .r 4] 0 4)) (callsAt 26 75 [.r 1, .r 23, .r 25, .r 24] 0 3)) ([(29, .itel (.r 21) (.r 28) (.r 20)), (30, .iteb (.r 21) (.r 27) (.t true)), (31, .call 77 [.r 9, .r 29] 0), (32, .call 77 [.r 9, .r 29] 1), (33, .or (.r 19) (.r 32)), (34, .and (.r 17) (.r 33)), (35, .call 73 [.r 2, .t true, .r 9] 0), (36, .call 73 [.r 2, .t true, .r 9] 1), (37, .not (.r 34)), (38, .not (.r 17)), (39, .call 77 [.r 10, .r 29] 0), (40, .call 77 [.r 10, .r 29] 1), (41, .or (.r 19) (.r 40)), (42, .and (.r 38) (.r 41)), (43, .call 73 [.r 2, .t false, .r 10] 0), (44, .call 73 [.r 2, .t false, .r 10] 1), (45, .not (.r 42)), (46, .not (.r 30)), (47, .itei (.r 46) (.z 1) (.z 0)), (48, .call 73 [.r 2, .r 17, .r 29] 0), (49, .call 73 [.r 2, .r 17, .r 29] 1), (50, .itei (.r 45) (.r 49) (.r 44)), (51, .itei (.r 45) (.r 47) (.z 16)), (52, .itei (.r 37) (.r 50) (.r 36)), (53, .itei (.r 37) (.r 51) (.z 16)), (54, .itei (.r 15) (.r 52) (.r 14)), (55, .itei (.r 15) (.r 53) (.z 16)), (56, .itei (.r 7) (.r 54) (.z 0)), (57, .itei (.r 7) (.r 55) (.z 0))]),
  [⟨[(.r 7, true)], .r 8⟩, ⟨[(.r 7, true)], .r 11⟩, ⟨[(.r 7, true), (.r 12, true)], .r 13⟩, ⟨[(.r 7, true), (.r 15, true)], .r 16⟩, ⟨[(.r 7, true), (.r 15, true)], .r 18⟩, ⟨[(.r 7, true), (.r 15, true), (.r 21, true)], .r 22⟩, ⟨[(.r 7, true), (.r 15, true), (.r 21, true)], .r 26⟩, ⟨[(.r 7, true), (.r 15, true), (.r 19, false), (.r 17, true)], .r 31⟩, ⟨[(.r 7, true), (.r 15, true), (.r 34, true)], .r 35⟩, ⟨[(.r 7, true), (.r 15, true), (.r 37, true), (.r 19, false), (.r 38, true)], .r 39⟩, ⟨[(.r 7, true), (.r 15, true), (.r 37, true), (.r 42, true)], .r 43⟩, ⟨[(.r 7, true), (.r 15, true), (.r 37, true), (.r 45, true)], .r 48⟩],
  [],
  [.r 56, .r 57]⟩
noncomputable def p26 (x0 : Int) (x1 : Int) (x2 : Bool) (x3 : Bool) (x4 : Int) : Bool :=
  let x5 := r71_0 x0 x1
  let x6 := !x5
  let x7 := !x6
  let x8 := p72 x2 x3
  let x9 := r72_0 x2 x3
  let x10 := r72_1 x2 x3
  let x11 := p39 x0
  let x12 := r39_0 x0 x4
  let x13 := p73 x10
  let x15 := !x12
  let x16 := p74 x0
  let x17 := r74_0 x0 x4
  let x18 := p56 x0
  let x19 := r56_0 x0 x4
  let x20 : List DV := []
  let x21 := !x19
  let x22 := p76 x0 x4
  let x23 := r76_0 x0 x4
  let x24 := r76_1 x0 x4
  let x25 := r76_2 x0 x4
  let x26 := p75 x1 x23 x25 x24
  let x28 := r75_1 x1 x23 x25 x24
  let x29 := bif x21 then x28 else x20
  let x31 := p77 x9 x29
  let x32 := r77_0 x9 x29
  let x33 := x19 || x32
  let x34 := x17 && x33
  let x35 := p73 x9
  let x37 := !x34
  let x38 := !x17
  let x39 := p77 x10 x29
  let x40 := r77_0 x10 x29
  let x41 := x19 || x40
  let x42 := x38 && x41
  let x43 := p73 x10
  let x45 := !x42
  let x48 := p73 x29
  [ow [(x7, true)] x8, ow [(x7, true)] x11, ow [(x7, true), (x12, true)] x13, ow [(x7, true), (x15, true)] x16, ow [(x7, true), (x15, true)] x18, ow [(x7, true), (x15, true), (x21, true)] x22, ow [(x7, true), (x15, true), (x21, true)] x26, ow [(x7, true), (x15, true), (x19, false), (x17, true)] x31, ow [(x7, true), (x15, true), (x34, true)] x35, ow [(x7, true), (x15, true), (x37, true), (x19, false), (x38, true)] x39, ow [(x7, true), (x15, true), (x37, true), (x42, true)] x43, ow [(x7, true), (x15, true), (x37, true), (x45, true)] x48].all id
noncomputable def r26_0 (x0 : Int) (x1 : Int) (x2 : Bool) (x3 : Bool) (x4 : Int) : Int :=
  let x5 := r71_0 x0 x1
  let x6 := !x5
  let x7 := !x6
  let x9 := r72_0 x2 x3
  let x10 := r72_1 x2 x3
  let x12 := r39_0 x0 x4
  let x14 := r73_0 x2 false x10
  let x15 := !x12
  let x17 := r74_0 x0 x4
  let x19 := r56_0 x0 x4
  let x20 : List DV := []
  let x21 := !x19
  let x23 := r76_0 x0 x4
  let x24 := r76_1 x0 x4
  let x25 := r76_2 x0 x4
  let x28 := r75_1 x1 x23 x25 x24
  let x29 := bif x21 then x28 else x20
  let x32 := r77_0 x9 x29
  let x33 := x19 || x32
  let x34 := x17 && x33
  let x36 := r73_0 x2 true x9
  let x37 := !x34
  let x38 := !x17
  let x40 := r77_0 x10 x29
  let x41 := x19 || x40
  let x42 := x38 && x41
  let x44 := r73_0 x2 false x10
  let x45 := !x42
  let x49 := r73_0 x2 x17 x29
  let x50 := bif x45 then x49 else x44
  let x52 := bif x37 then x50 else x36
  let x54 := bif x15 then x52 else x14
  let x56 := bif x7 then x54 else 0
  x56
noncomputable def r26_1 (x0 : Int) (x1 : Int) (x2 : Bool) (x3 : Bool) (x4 : Int) : Int :=
  let x5 := r71_0 x0 x1
  let x6 := !x5
  let x7 := !x6
  let x9 := r72_0 x2 x3
  let x10 := r72_1 x2 x3
  let x12 := r39_0 x0 x4
  let x15 := !x12
  let x17 := r74_0 x0 x4
  let x19 := r56_0 x0 x4
  let x20 : List DV := []
  let x21 := !x19
  let x23 := r76_0 x0 x4
  let x24 := r76_1 x0 x4
  let x25 := r76_2 x0 x4
  let x27 := r75_0 x25 x24
  let x28 := r75_1 x1 x23 x25 x24
  let x29 := bif x21 then x28 else x20
  let x30 := bif x21 then x27 else true
  let x32 := r77_0 x9 x29
  let x33 := x19 || x32
  let x34 := x17 && x33
  let x37 := !x34
  let x38 := !x17
  let x40 := r77_0 x10 x29
  let x41 := x19 || x40
  let x42 := x38 && x41
  let x45 := !x42
  let x46 := !x30
  let x47 : Int := bif x46 then 1 else 0
  let x51 := bif x45 then x47 else 16
  let x53 := bif x37 then x51 else 16
  let x55 := bif x15 then x53 else 16
  let x57 := bif x7 then x55 else 0
  x57
noncomputable def g26 (ds : List DV) : List DV := [.b (p26 (dget ds 0).toI (dget ds 1).toI (dget ds 2).toB (dget ds 3).toB (dget ds 4).toI), .i (r26_0 (dget ds 0).toI (dget ds 1).toI (dget ds 2).toB (dget ds 3).toB (dget ds 4).toI), .i (r26_1 (dget ds 0).toI (dget ds 1).toI (dget ds 2).toB (dget ds 3).toB (dget ds 4).toI)]
def S26 : Sigs := ⟨[(71, s71), (72, s72), (39, s39), (73, s73), (74, s74), (56, s56), (76, s76), (75, s75), (77, s77)], [], [], 0⟩

def s28 : Sig := ⟨[.s (.one (.i .i64 (.h 0))), .s (.one (.i .i64 (.h 1))), .s (.one (.b (.h 2))), .s (.one (.b (.h 3))), .s (.one (.i .u64 (.h 4)))], [], [.i, .i, .b, .b, .i], .t [.one (.i .u64 (.h 0)), .one (.i .i64 (.h 1))], [], [.i, .i], true⟩
def o28 : Out := ⟨List.append (List.append ([(5, .call 71 [.r 0, .r 1] 0), (6, .not (.r 5)), (7, .not (.r 6)), (8, .land .u64 (.r 4) (.z 4294967295)), (9, .not (.r 3)), (10, .call 79 [.r 8] 0), (11, .itei (.r 9) (.r 10) (.r 8)), (12, .itei (.r 2) (.r 11) (.r 4)), (13, .call 80 [.r 12] 0), (14, .call 80 [.r 12] 1), (15, .lmk [] []), (16, .not (.r 3)), (17, .conv .i64 (.r 12)), (18, .lss (.r 17) (.z 0)), (19, .and (.r 16) (.r 18)), (20, .sub .u64 (.z 0) (.r 12)), (21, .call 80 [.r 20] 0), (22, .call 80 [.r 20] 1), (23, .itel (.r 19) (.r 22) (.r 14)), (24, .eql (.r 12) (.z 0)), (25, .not (.r 24))]) (callsAt 26 81 [.r 0, .r 1, .r 19, .r 23, .z 0, .t false] 0 3)) ([(29, .itei (.r 25) (.r 27) (.z 0)), (30, .itei (.r 25) (.r 28) (.z 0)), (31, .itei (.r 7) (.r 29) (.z 0)), (32, .itei (.r 7) (.r 30) (.z 0))]),
  [⟨[(.r 7, true)], .r 13⟩, ⟨[(.r 7, true), (.r 19, true)], .r 21⟩, ⟨[(.r 7, true), (.r 25, true)], .r 26⟩],
  [],
  [.r 31, .r 32]⟩
noncomputable def p28 (x0 : Int) (x1 : Int) (x2 : Bool) (x3 : Bool) (x4 : Int) : Bool :=
  let x5 := r71_0 x0 x1
  let x6 := !x5
  let x7 := !x6
  let x8 := iland .u64 x4 4294967295
  let x9 := !x3
  let x10 := r79_0 x8
  let x11 := bif x9 then x10 else x8
  let x12 := bif x2 then x11 else x4
  let x13 := p80 x12
  let x14 := r80_0 x12
  let x16 := !x3
  let x17 := IntKind.wrap .i64 x12
  let x18 := decide (x17 < 0)
  let x19 := x16 && x18
  let x20 := IntKind.wrap .u64 (0 - x12)
  let x21 := p80 x20
  let x22 := r80_0 x20
  let x23 := bif x19 then x22 else x14
  let x24 := x12 == 0
  let x25 := !x24
  let x26 := p81 x0 x1 x19 x23 0 false
  [ow [(x7, true)] x13, ow [(x7, true), (x19, true)] x21, ow [(x7, true), (x25, true)] x26].all id
noncomputable def r28_0 (x0 : Int) (x1 : Int) (x2 : Bool) (x3 : Bool) (x4 : Int) : Int :=
  let x5 := r71_0 x0 x1
  let x6 := !x5
  let x7 := !x6
  let x8 := iland .u64 x4 4294967295
  let x9 := !x3
  let x10 := r79_0 x8
  let x11 := bif x9 then x10 else x8
  let x12 := bif x2 then x11 else x4
  let x14 := r80_0 x12
  let x16 := !x3
  let x17 := IntKind.wrap .i64 x12
  let x18 := decide (x17 < 0)
  let x19 := x16 && x18
  let x20 := IntKind.wrap .u64 (0 - x12)
  let x22 := r80_0 x20
  let x23 := bif x19 then x22 else x14
  let x24 := x12 == 0
  let x25 := !x24
  let x27 := r81_0 x0 x1 x19 x23 0 false
  let x29 := bif x25 then x27 else 0
  let x31 := bif x7 then x29 else 0
  x31
noncomputable def r28_1 (x0 : Int) (x1 : Int) (x2 : Bool) (x3 : Bool) (x4 : Int) : Int :=
  let x5 := r71_0 x0 x1
  let x6 := !x5
  let x7 := !x6
  let x8 := iland .u64 x4 4294967295
  let x9 := !x3
  let x10 := r79_0 x8
  let x11 := bif x9 then x10 else x8
  let x12 := bif x2 then x11 else x4
  let x14 := r80_0 x12
  let x16 := !x3
  let x17 := IntKind.wrap .i64 x12
  let x18 := decide (x17 < 0)
  let x19 := x16 && x18
  let x20 := IntKind.wrap .u64 (0 - x12)
  let x22 := r80_0 x20
  let x23 := bif x19 then x22 else x14
  let x24 := x12 == 0
  let x25 := !x24
  let x28 := r81_1 x0 x1 x19 x23 0 false
  let x30 := bif x25 then x28 else 0
  let x32 := bif x7 then x30 else 0
  x32
noncomputable def g28 (ds : List DV) : List DV := [.b (p28 (dget ds 0).toI (dget ds 1).toI (dget ds 2).toB (dget ds 3).toB (dget ds 4).toI), .i (r28_0 (dget ds 0).toI (dget ds 1).toI (dget ds 2).toB (dget ds 3).toB (dget ds 4).toI), .i (r28_1 (dget ds 0).toI (dget ds 1).toI (dget ds 2).toB (dget ds 3).toB (dget ds 4).toI)]
def S28 : Sigs := ⟨[(71, s71), (79, s79), (80, s80), (81, s81)], [], [], 0⟩

def s30 : Sig := ⟨[.s (.one (.i .i64 (.h 0))), .s (.one (.i .i64 (.h 1))), .s (.one (.i .u64 (.h 2)))], [], [.i, .i, .i], .t [.one (.i .u64 (.h 0)), .one (.i .i64 (.h 1))], [], [.i, .i], true⟩
def o30 : Out := ⟨List.append (List.append (List.append ([(3, .call 71 [.r 0, .r 1] 0), (4, .not (.r 3)), (5, .not (.r 4)), (6, .sub .i64 (.z 12) (.r 0)), (7, .call 41 [.r 6, .r 2] 0), (8, .call 41 [.r 6, .r 2] 1), (9, .call 40 [.r 0] 0), (10, .call 39 [.r 6, .r 2] 0), (11, .call 39 [.r 6, .r 2] 1), (12, .call 40 [.r 0] 0), (13, .call 56 [.r 6, .r 2] 0), (14, .call 56 [.r 6, .r 2] 1), (15, .call 74 [.r 6, .r 2] 0), (16, .call 74 [.r 6, .r 2] 1), (17, .call 84 [.r 0, .r 16] 0), (18, .call 84 [.r 0, .r 16] 1), (19, .call 61 [.r 6, .r 2] 0), (20, .call 61 [.r 6, .r 2] 1), (21, .call 74 [.r 6, .r 2] 0), (22, .call 74 [.r 6, .r 2] 1), (23, .call 85 [.r 0, .r 22] 0), (24, .call 85 [.r 0, .r 22] 1), (25, .not (.r 20)), (26, .iteb (.r 14) (.t false) (.r 25)), (27, .iteb (.r 11) (.t false) (.r 26)), (28, .iteb (.r 8) (.t false) (.r 27))]) (callsAt 29 76 [.r 6, .r 2] 0 4)) (callsAt 33 81 [.r 0, .r 1, .r 30, .r 32, .r 31, .t false] 0 3)) ([(36, .itei (.r 14) (.r 18) (.r 24)), (37, .itei (.r 11) (.r 12) (.r 36)), (38, .itei (.r 8) (.r 9) (.r 37)), (39, .itei (.r 8) (.z 16) (.z 0)), (40, .itei (.r 28) (.r 34) (.r 38)), (41, .itei (.r 28) (.r 35) (.r 39)), (42, .itei (.r 5) (.r 40) (.z 0)), (43, .itei (.r 5) (.r 41) (.z 0))]),
  [⟨[(.r 5, true)], .r 7⟩, ⟨[(.r 5, true), (.r 8, false)], .r 10⟩, ⟨[(.r 5, true), (.r 8, false), (.r 11, false)], .r 13⟩, ⟨[(.r 5, true), (.r 8, false), (.r 11, false), (.r 14, true)], .r 15⟩, ⟨[(.r 5, true), (.r 8, false), (.r 11, false), (.r 14, true)], .r 17⟩, ⟨[(.r 5, true), (.r 8, false), (.r 11, false), (.r 14, false)], .r 19⟩, ⟨[(.r 5, true), (.r 8, false), (.r 11, false), (.r 14, false), (.r 20, true)], .r 21⟩, ⟨[(.r 5, true), (.r 8, false), (.r 11, false), (.r 14, false), (.r 20, true)], .r 23⟩, ⟨[(.r 5, true), (.r 28, true)], .r 29⟩, ⟨[(.r 5, true), (.r 28, true)], .r 33⟩],
  [],
  [.r 42, .r 43]⟩
noncomputable def p30 (x0 : Int) (x1 : Int) (x2 : Int) : Bool :=
  let x3 := r71_0 x0 x1
  let x4 := !x3
  let x5 := !x4
  let x6 := IntKind.wrap .i64 (12 - x0)
  let x7 := p41 x6 x2
  let x8 := r41_0 x6 x2
  let x10 := p39 x6
  let x11 := r39_0 x6 x2
  let x13 := p56 x6
  let x14 := r56_0 x6 x2
  let x15 := p74 x6
  let x16 := r74_0 x6 x2
  let x17 := p84 x0 x16
  let x19 := p61 x6
  let x20 := r61_0 x6 x2
  let x21 := p74 x6
  let x22 := r74_0 x6 x2
  let x23 := p85 x0 x22
  let x25 := !x20
  let x26 := bif x14 then false else x25
  let x27 := bif x11 then false else x26
  let x28 := bif x8 then false else x27
  let x29 := p76 x6 x2
  let x30 := r76_0 x6 x2
  let x31 := r76_1 x6 x2
  let x32 := r76_2 x6 x2
  let x33 := p81 x0 x1 x30 x32 x31 false
  [ow [(x5, true)] x7, ow [(x5, true), (x8, false)] x10, ow [(x5, true), (x8, false), (x11, false)] x13, ow [(x5, true), (x8, false), (x11, false), (x14, true)] x15, ow [(x5, true), (x8, false), (x11, false), (x14, true)] x17, ow [(x5, true), (x8, false), (x11, false), (x14, false)] x19, ow [(x5, true), (x8, false), (x11, false), (x14, false), (x20, true)] x21, ow [(x5, true), (x8, false), (x11, false), (x14, false), (x20, true)] x23, ow [(x5, true), (x28, true)] x29, ow [(x5, true), (x28, true)] x33].all id
noncomputable def r30_0 (x0 : Int) (x1 : Int) (x2 : Int) : Int :=
  let x3 := r71_0 x0 x1
  let x4 := !x3
  let x5 := !x4
  let x6 := IntKind.wrap .i64 (12 - x0)
  let x8 := r41_0 x6 x2
  let x9 := r40_0 x0
  let x11 := r39_0 x6 x2
  let x12 := r40_0 x0
  let x14 := r56_0 x6 x2
  let x16 := r74_0 x6 x2
  let x18 := r84_0 x0 x16
  let x20 := r61_0 x6 x2
  let x22 := r74_0 x6 x2
  let x24 := r85_0 x0 x22
  let x25 := !x20
  let x26 := bif x14 then false else x25
  let x27 := bif x11 then false else x26
  let x28 := bif x8 then false else x27
  let x30 := r76_0 x6 x2
  let x31 := r76_1 x6 x2
  let x32 := r76_2 x6 x2
  let x34 := r81_0 x0 x1 x30 x32 x31 false
  let x36 := bif x14 then x18 else x24
  let x37 := bif x11 then x12 else x36
  let x38 := bif x8 then x9 else x37
  let x40 := bif x28 then x34 else x38
  let x42 := bif x5 then x40 else 0
  x42
noncomputable def r30_1 (x0 : Int) (x1 : Int) (x2 : Int) : Int :=
  let x3 := r71_0 x0 x1
  let x4 := !x3
  let x5 := !x4
  let x6 := IntKind.wrap .i64 (12 - x0)
  let x8 := r41_0 x6 x2
  let x11 := r39_0 x6 x2
  let x14 := r56_0 x6 x2
  let x20 := r61_0 x6 x2
  let x25 := !x20
  let x26 := bif x14 then false else x25
  let x27 := bif x11 then false else x26
  let x28 := bif x8 then false else x27
  let x30 := r76_0 x6 x2
  let x31 := r76_1 x6 x2
  let x32 := r76_2 x6 x2
  let x35 := r81_1 x0 x1 x30 x32 x31 false
  let x39 : Int := bif x8 then 16 else 0
  let x41 := bif x28 then x35 else x39
  let x43 := bif x5 then x41 else 0
  x43
noncomputable def g30 (ds : List DV) : List DV := [.b (p30 (dget ds 0).toI (dget ds 1).toI (dget ds 2).toI), .i (r30_0 (dget ds 0).toI (dget ds 1).toI (dget ds 2).toI), .i (r30_1 (dget ds 0).toI (dget ds 1).toI (dget ds 2).toI)]
def S30 : Sigs := ⟨[(71, s71), (41, s41), (40, s40), (39, s39), (56, s56), (74, s74), (84, s84), (61, s61), (85, s85), (76, s76), (81, s81)], [], [], 0⟩

def s20 : Sig := ⟨[], [], [], .s (.one (.b (.h 0))), [], [.b], true⟩
def o20 : Out := ⟨List.append (List.append (List.append (List.append (List.append (List.append (callsAt 0 25 [.z 8, .z 0, .t true, .t false, .z 4612811918334230528] 0 3) (callsAt 3 25 [.z 4, .z 1, .t true, .t true, .z 3212836864] 0 3)) (callsAt 6 27 [.z 4, .z 0, .t false, .t false, .z 18446744073709551615] 0 3)) (callsAt 9 29 [.z 4, .z 0, .z 4607182418800017409] 0 3)) (callsAt 12 37 [.z 70, .z 4, .z 2143289344, .z 0] 0 3)) (callsAt 15 35 [.z 67, .z 4, .z 2147483648, .z 0] 0 3)) ([(18, .call 21 [.z 1065353216] 0), (19, .eql (.r 18) (.z 18446744070479937536)), (20, .call 23 [.z 1065353216] 0), (21, .call 23 [.z 1065353216] 1), (22, .eql (.r 21) (.z 2143289344)), (23, .and (.r 19) (.r 22)), (24, .eql (.r 1) (.z 2)), (25, .and (.r 23) (.r 24)), (26, .eql (.r 2) (.z 1)), (27, .and (.r 25) (.r 26)), (28, .eql (.r 4) (.z 0)), (29, .and (.r 27) (.r 28)), (30, .eql (.r 5) (.z 16)), (31, .and (.r 29) (.r 30)), (32, .eql (.r 7) (.z 3212836864)), (33, .and (.r 31) (.r 32)), (34, .eql (.r 8) (.z 0)), (35, .and (.r 33) (.r 34)), (36, .eql (.r 10) (.z 1065353216)), (37, .and (.r 35) (.r 36)), (38, .eql (.r 11) (.z 1)), (39, .and (.r 37) (.r 38)), (40, .eql (.r 13) (.z 0)), (41, .and (.r 39) (.r 40)), (42, .eql (.r 14) (.z 16)), (43, .and (.r 41) (.r 42)), (44, .eql (.r 16) (.z 2147483648)), (45, .and (.r 43) (.r 44)), (46, .eql (.r 17) (.z 0)), (47, .and (.r 45) (.r 46)), (48, .call 33 [.z 4, .z 1] 0), (49, .call 33 [.z 4, .z 1] 1), (50, .eql (.r 49) (.z 32)), (51, .and (.r 47) (.r 50)), (52, .call 31 [.z 64, .z 4, .z 1, .z 2147483648] 0), (53, .eql (.r 52) (.z 2147483649)), (54, .and (.r 51) (.r 53))]),
  [⟨[], .r 0⟩, ⟨[], .r 3⟩, ⟨[], .r 6⟩, ⟨[], .r 9⟩, ⟨[], .r 12⟩, ⟨[], .r 15⟩, ⟨[(.r 19, true)], .r 20⟩, ⟨[(.r 47, true)], .r 48⟩],
  [],
  [.r 54]⟩
noncomputable def p20  : Bool :=
  let x0 := p25 8 0 4612811918334230528
  let x1 := r25_0 8 0 true false 4612811918334230528
  let x2 := r25_1 8 0 true false 4612811918334230528
  let x3 := p25 4 1 3212836864
  let x4 := r25_0 4 1 true true 3212836864
  let x5 := r25_1 4 1 true true 3212836864
  let x6 := p27 4 0 false false 18446744073709551615
  let x7 := r27_0 4 0 false false 18446744073709551615
  let x8 := r27_1 4 0 false false 18446744073709551615
  let x9 := p29 4 0 4607182418800017409
  let x10 := r29_0 4 0 4607182418800017409
  let x11 := r29_1 4 0 4607182418800017409
  let x12 := p37 70 4 2143289344 0
  let x13 := r37_0 70 4 2143289344 0
  let x14 := r37_1 70 4 2143289344 0
  let x15 := p35 67 4 2147483648 0
  let x16 := r35_0 67 4 2147483648 0
  let x17 := r35_1 67 4 2147483648 0
  let x18 := r21_0 1065353216
  let x19 := x18 == 18446744070479937536
  let x20 := p23 1065353216
  let x21 := r23_0 1065353216
  let x22 := x21 == 2143289344
  let x23 := x19 && x22
  let x24 := x1 == 2
  let x25 := x23 && x24
  let x26 := x2 == 1
  let x27 := x25 && x26
  let x28 := x4 == 0
  let x29 := x27 && x28
  let x30 := x5 == 16
  let x31 := x29 && x30
  let x32 := x7 == 3212836864
  let x33 := x31 && x32
  let x34 := x8 == 0
  let x35 := x33 && x34
  let x36 := x10 == 1065353216
  let x37 := x35 && x36
  let x38 := x11 == 1
  let x39 := x37 && x38
  let x40 := x13 == 0
  let x41 := x39 && x40
  let x42 := x14 == 16
  let x43 := x41 && x42
  let x44 := x16 == 2147483648
  let x45 := x43 && x44
  let x46 := x17 == 0
  let x47 := x45 && x46
  let x48 := p33 4 1
  [ow [] x0, ow [] x3, ow [] x6, ow [] x9, ow [] x12, ow [] x15, ow [(x19, true)] x20, ow [(x47, true)] x48].all id
noncomputable def r20_0  : Bool :=
  let x1 := r25_0 8 0 true false 4612811918334230528
  let x2 := r25_1 8 0 true false 4612811918334230528
  let x4 := r25_0 4 1 true true 3212836864
  let x5 := r25_1 4 1 true true 3212836864
  let x7 := r27_0 4 0 false false 18446744073709551615
  let x8 := r27_1 4 0 false false 18446744073709551615
  let x10 := r29_0 4 0 4607182418800017409
  let x11 := r29_1 4 0 4607182418800017409
  let x13 := r37_0 70 4 2143289344 0
  let x14 := r37_1 70 4 2143289344 0
  let x16 := r35_0 67 4 2147483648 0
  let x17 := r35_1 67 4 2147483648 0
  let x18 := r21_0 1065353216
  let x19 := x18 == 18446744070479937536
  let x21 := r23_0 1065353216
  let x22 := x21 == 2143289344
  let x23 := x19 && x22
  let x24 := x1 == 2
  let x25 := x23 && x24
  let x26 := x2 == 1
  let x27 := x25 && x26
  let x28 := x4 == 0
  let x29 := x27 && x28
  let x30 := x5 == 16
  let x31 := x29 && x30
  let x32 := x7 == 3212836864
  let x33 := x31 && x32
  let x34 := x8 == 0
  let x35 := x33 && x34
  let x36 := x10 == 1065353216
  let x37 := x35 && x36
  let x38 := x11 == 1
  let x39 := x37 && x38
  let x40 := x13 == 0
  let x41 := x39 && x40
  let x42 := x14 == 16
  let x43 := x41 && x42
  let x44 := x16 == 2147483648
  let x45 := x43 && x44
  let x46 := x17 == 0
  let x47 := x45 && x46
  let x49 := r33_0 4 1
  let x50 := x49 == 32
  let x51 := x47 && x50
  let x52 := r31_0 64 4 1 2147483648
  let x53 := x52 == 2147483649
  let x54 := x51 && x53
  x54
noncomputable def g20 (_ds : List DV) : List DV := [.b (p20 ), .b (r20_0 )]
def S20 : Sigs := ⟨[(25, s25), (27, s27), (29, s29), (37, s37), (35, s35), (21, s21), (23, s23), (33, s33), (31, s31)], [], [], 0⟩

def s4 : Sig := ⟨[.s (.one (.i .i64 (.h 0))), .s (.one (.i .i64 (.h 1))), .s (.one (.b (.h 2))), .s (.one (.b (.h 3))), .s (.one (.i .u64 (.h 4)))], [], [.i, .i, .b, .b, .i], .s (.one (.b (.h 0))), [], [.b], true⟩
def o4 : Out := ⟨List.append (List.append (List.append (List.append (List.append ([(5, .call 20 [] 0), (6, .call 20 [] 1), (7, .not (.r 6)), (8, .not (.r 7))]) (callsAt 9 25 [.r 0, .r 1, .r 2, .r 3, .r 4] 0 3)) (callsAt 12 26 [.r 0, .r 1, .r 2, .r 3, .r 4] 0 3)) (callsAt 15 27 [.r 0, .r 1, .r 2, .r 3, .r 4] 0 3)) (callsAt 18 28 [.r 0, .r 1, .r 2, .r 3, .r 4] 0 3)) ([(21, .eql (.r 10) (.r 13)), (22, .eql (.r 11) (.r 14)), (23, .and (.r 21) (.r 22)), (24, .eql (.r 16) (.r 19)), (25, .and (.r 23) (.r 24)), (26, .eql (.r 17) (.r 20)), (27, .and (.r 25) (.r 26)), (28, .and (.r 8) (.r 27))]),
  [⟨[], .r 5⟩, ⟨[(.r 8, true)], .r 9⟩, ⟨[(.r 8, true)], .r 12⟩, ⟨[(.r 8, true)], .r 15⟩, ⟨[(.r 8, true)], .r 18⟩],
  [],
  [.r 28]⟩
noncomputable def p4 (x0 : Int) (x1 : Int) (x2 : Bool) (x3 : Bool) (x4 : Int) : Bool :=
  let x5 := p20 
  let x6 := r20_0 
  let x7 := !x6
  let x8 := !x7
  let x9 := p25 x0 x1 x4
  let x12 := p26 x0 x1 x2 x3 x4
  let x15 := p27 x0 x1 x2 x3 x4
  let x18 := p28 x0 x1 x2 x3 x4
  [ow [] x5, ow [(x8, true)] x9, ow [(x8, true)] x12, ow [(x8, true)] x15, ow [(x8, true)] x18].all id
noncomputable def r4_0 (x0 : Int) (x1 : Int) (x2 : Bool) (x3 : Bool) (x4 : Int) : Bool :=
  let x6 := r20_0 
  let x7 := !x6
  let x8 := !x7
  let x10 := r25_0 x0 x1 x2 x3 x4
  let x11 := r25_1 x0 x1 x2 x3 x4
  let x13 := r26_0 x0 x1 x2 x3 x4
  let x14 := r26_1 x0 x1 x2 x3 x4
  let x16 := r27_0 x0 x1 x2 x3 x4
  let x17 := r27_1 x0 x1 x2 x3 x4
  let x19 := r28_0 x0 x1 x2 x3 x4
  let x20 := r28_1 x0 x1 x2 x3 x4
  let x21 := x10 == x13
  let x22 := x11 == x14
  let x23 := x21 && x22
  let x24 := x16 == x19
  let x25 := x23 && x24
  let x26 := x17 == x20
  let x27 := x25 && x26
  let x28 := x8 && x27
  x28
noncomputable def g4 (ds : List DV) : List DV := [.b (p4 (dget ds 0).toI (dget ds 1).toI (dget ds 2).toB (dget ds 3).toB (dget ds 4).toI), .b (r4_0 (dget ds 0).toI (dget ds 1).toI (dget ds 2).toB (dget ds 3).toB (dget ds 4).toI)]
def S4 : Sigs := ⟨[(20, s20), (25, s25), (26, s26), (27, s27), (28, s28)], [], [], 0⟩

def s5 : Sig := ⟨[.s (.one (.i .i64 (.h 0))), .s (.one (.i .i64 (.h 1))), .s (.one (.i .u64 (.h 2)))], [], [.i, .i, .i], .s (.one (.b (.h 0))), [], [.b], true⟩
def o5 : Out := ⟨List.append (List.append (List.append ([(3, .call 20 [] 0), (4, .call 20 [] 1), (5, .not (.r 4)), (6, .not (.r 5))]) (callsAt 7 29 [.r 0, .r 1, .r 2] 0 3)) (callsAt 10 30 [.r 0, .r 1, .r 2] 0 3)) ([(13, .eql (.r 8) (.r 11)), (14, .eql (.r 9) (.r 12)), (15, .and (.r 13) (.r 14)), (16, .and (.r 6) (.r 15))]),
  [⟨[], .r 3⟩, ⟨[(.r 6, true)], .r 7⟩, ⟨[(.r 6, true)], .r 10⟩],
  [],
  [.r 16]⟩
noncomputable def p5 (x0 : Int) (x1 : Int) (x2 : Int) : Bool :=
  let x3 := p20 
  let x4 := r20_0 
  let x5 := !x4
  let x6 := !x5
  let x7 := p29 x0 x1 x2
  let x10 := p30 x0 x1 x2
  [ow [] x3, ow [(x6, true)] x7, ow [(x6, true)] x10].all id
noncomputable def r5_0 (x0 : Int) (x1 : Int) (x2 : Int) : Bool :=
  let x4 := r20_0 
  let x5 := !x4
  let x6 := !x5
  let x8 := r29_0 x0 x1 x2
  let x9 := r29_1 x0 x1 x2
  let x11 := r30_0 x0 x1 x2
  let x12 := r30_1 x0 x1 x2
  let x13 := x8 == x11
  let x14 := x9 == x12
  let x15 := x13 && x14
  let x16 := x6 && x15
  x16
noncomputable def g5 (ds : List DV) : List DV := [.b (p5 (dget ds 0).toI (dget ds 1).toI (dget ds 2).toI), .b (r5_0 (dget ds 0).toI (dget ds 1).toI (dget ds 2).toI)]
def S5 : Sigs := ⟨[(20, s20), (29, s29), (30, s30)], [], [], 0⟩

end Go.Proofs.Ytacciadcmiiimaa

namespace Go.Proofs.Ytacciadcmiiimaa
open Go Go.Sx
set_option maxRecDepth 100000
set_option maxHeartbeats 4000000

end Go.Proofs.Ytacciadcmiiimaa

namespace Go.Rnd

def blen (n : Nat) : Nat := if n = 0 then 0 else n.log2 + 1
theorem blen_le {n k : Nat} : blen n ≤ k ↔ n < 2 ^ k := by
  unfold blen
  split
  · rename_i h; subst h; simp [Nat.two_pow_pos]
  · rename_i h; rw [← Nat.log2_lt h]; omega
theorem lt_blen {n k : Nat} : k < blen n ↔ 2 ^ k ≤ n := by
  rw [← Nat.not_le, blen_le, Nat.not_lt]
theorem blen_eq {n k : Nat} (h1 : 2 ^ k ≤ n) (h2 : n < 2 ^ (k + 1)) : blen n = k + 1 := by
  have a := lt_blen.2 h1; have b := blen_le.2 h2; omega
theorem blen_pos {n : Nat} (h : 0 < n) : 0 < blen n := lt_blen.2 (by rw [Nat.pow_zero]; exact h)
theorem blen_self {n : Nat} : n < 2 ^ blen n := blen_le.1 (Nat.le_refl _)
theorem blen_low {n : Nat} (h : 0 < n) : 2 ^ (blen n - 1) ≤ n := lt_blen.1 (by have := blen_pos h; omega)
theorem blen_shift {h j l : Nat} (hh : 0 < h) (hl : l < 2 ^ j) : blen (h * 2 ^ j + l) = blen h + j := by
  have h1 := blen_low hh
  have h2 := blen_self (n := h)
  have h0 := blen_pos hh
  have e : blen h + j = (blen h - 1 + j) + 1 := by omega
  rw [e]
  refine blen_eq ?_ ?_
  · rw [Nat.pow_add]
    exact Nat.le_trans (Nat.mul_le_mul_right _ h1) (Nat.le_add_right _ _)
  · have : (h + 1) * 2 ^ j ≤ 2 ^ blen h * 2 ^ j := Nat.mul_le_mul_right _ h2
    rw [← Nat.pow_add] at this
    have e2 : blen h - 1 + j + 1 = blen h + j := by omega
    rw [e2]
    rw [Nat.add_mul] at this
    omega

def upB (rm : Int) (minus odd half rest : Bool) : Bool :=
  if rm = 0 then half && (rest || odd) else if rm = 2 then minus && (half || rest) else if rm = 3 then !minus && (half || rest) else if rm = 4 then half else false

def cutP (rm : Int) (minus : Bool) (M n : Nat) (more : Bool) : Nat × Bool :=
  (M / 2 ^ n + (if upB rm minus (M / 2 ^ n % 2 == 1) (M / 2 ^ (n - 1) % 2 == 1) (M % 2 ^ (n - 1) != 0 || more) then 1 else 0), M % 2 ^ n == 0 && !more)
def cutN (rm : Int) (minus : Bool) (M : Nat) (b : Int) (more : Bool) : Nat × Bool :=
  if b ≤ 0 then (M * 2 ^ (-b).toNat, !more) else cutP rm minus M b.toNat more

theorem upB_none (rm : Int) (minus odd : Bool) : upB rm minus odd false false = false := by
  unfold upB; simp

theorem cutP_exact {rm : Int} {minus : Bool} {q n : Nat} (hn : 0 < n) : cutP rm minus (q * 2 ^ n) n false = (q, true) := by
  unfold cutP
  have h1 : q * 2 ^ n / 2 ^ n = q := Nat.mul_div_cancel _ (Nat.two_pow_pos n)
  have h2 : q * 2 ^ n % 2 ^ n = 0 := Nat.mul_mod_left _ _
  obtain ⟨m, rfl⟩ : ∃ m, n = m + 1 := ⟨n - 1, by omega⟩
  have h3 : q * 2 ^ (m + 1) / 2 ^ (m + 1 - 1) % 2 = 0 := by
    rw [Nat.add_sub_cancel, Nat.pow_succ, ← Nat.mul_assoc, Nat.mul_right_comm, Nat.mul_div_cancel _ (Nat.two_pow_pos m), Nat.mul_mod_left]
  have h4 : q * 2 ^ (m + 1) % 2 ^ (m + 1 - 1) = 0 := by
    rw [Nat.add_sub_cancel, Nat.pow_succ, ← Nat.mul_assoc, Nat.mul_right_comm, Nat.mul_mod_left]
  rw [h1, h2, h3, h4]
  simp [upB_none]

def least (f b : Nat) : Int := 1 - b - f
def lastOf (f b : Nat) (top : Int) : Int := if top - f - 1 < least f b then least f b else top - f - 1
def tinyOf (f b : Nat) (top : Int) (q : Nat) : Bool := decide (top - f - 1 < least f b) && decide ((blen q : Int) + top - f - 1 < least f b + f + 1)
def told (f b : Nat) (rm : Int) (minus : Bool) (last : Int) (c : Nat × Bool) (tiny : Bool) : Nat × Nat :=
  let m := if blen c.1 > f + 1 then c.1 / 2 else c.1
  let la := if blen c.1 > f + 1 then last + 1 else last
  if la + f > b ∧ blen m = f + 1 then ((2 * b + 1) * 2 ^ f - (if rm = 1 ∨ (rm = 2 ∧ minus = false) ∨ (rm = 3 ∧ minus = true) then 1 else 0), 5)
  else ((if blen m = f + 1 then m - 2 ^ f + (la - least f b + 1).toNat * 2 ^ f else m), if c.2 then 0 else if tiny then 3 else 1)
def rnd (f b : Nat) (rm : Int) (minus : Bool) (M : Nat) (E : Int) (more : Bool) : Nat × Nat :=
  told f b rm minus (lastOf f b (blen M + E)) (cutN rm minus M (lastOf f b (blen M + E) - E) more)
    (tinyOf f b (blen M + E) (cutN rm minus M (blen M + E - f - 1 - E) more).1)

theorem cutN_scale {rm : Int} {minus : Bool} {M k : Nat} {b : Int} : cutN rm minus (M * 2 ^ k) (b + k) false = cutN rm minus M b false := by
  unfold cutN
  by_cases h1 : b ≤ 0
  · rw [if_pos h1]
    by_cases h2 : b + k ≤ 0
    · rw [if_pos h2, Nat.mul_assoc, ← Nat.pow_add]
      congr 3; omega
    · rw [if_neg h2]
      obtain ⟨d, rfl⟩ : ∃ d, k = (-b).toNat + d := ⟨k - (-b).toNat, by omega⟩
      have e : (b + ((-b).toNat + d : Nat)).toNat = d := by omega
      rw [e, Nat.pow_add, ← Nat.mul_assoc, cutP_exact (by omega)]
      rfl
  · rw [if_neg h1, if_neg (by omega)]
    have e : (b + k).toNat = b.toNat + k := by omega
    rw [e]
    obtain ⟨n, hn⟩ : ∃ n, b.toNat = n + 1 := ⟨b.toNat - 1, by omega⟩
    rw [hn]
    unfold cutP
    have hp := Nat.two_pow_pos k
    have dv : ∀ x, M * 2 ^ k / 2 ^ (x + k) = M / 2 ^ x := fun x => by rw [Nat.pow_add, Nat.mul_div_mul_right _ _ hp]
    have md : ∀ x, M * 2 ^ k % 2 ^ (x + k) = M % 2 ^ x * 2 ^ k := fun x => by rw [Nat.pow_add, Nat.mul_mod_mul_right]
    have mz : ∀ x, (M % 2 ^ x * 2 ^ k = 0) ↔ M % 2 ^ x = 0 := fun x => by rw [Nat.mul_eq_zero]; omega
    have e2 : n + 1 + k - 1 = n + k := by omega
    rw [e2, dv, dv, md, md, Nat.add_sub_cancel]
    have z1 : ∀ x, (M % 2 ^ x * 2 ^ k != 0) = (M % 2 ^ x != 0) := fun x => by rw [Bool.eq_iff_iff]; simp only [bne_iff_ne, ne_eq, mz]
    have z2 : ∀ x, (M % 2 ^ x * 2 ^ k == 0) = (M % 2 ^ x == 0) := fun x => by rw [Bool.eq_iff_iff]; simp only [beq_iff_eq, mz]
    rw [z1, z2]

theorem rnd_scale {f b : Nat} {rm : Int} {minus : Bool} {M k : Nat} {E : Int} (hM : 0 < M) : rnd f b rm minus (M * 2 ^ k) (E - k) false = rnd f b rm minus M E false := by
  have h1 : (blen (M * 2 ^ k) : Int) + (E - k) = blen M + E := by
    have := blen_shift (h := M) (j := k) (l := 0) hM (Nat.two_pow_pos k)
    rw [Nat.add_zero] at this
    rw [this]; omega
  unfold rnd
  rw [h1]
  have h2 : ∀ x : Int, x - (E - k) = x - E + k := fun x => by omega
  rw [h2, h2, cutN_scale, cutN_scale]

end Go.Rnd

namespace Go.Sx

theorem wrap_u64 (n : Int) : IntKind.wrap .u64 n = n % 18446744073709551616 := by simp [IntKind.wrap, IntKind.signed, IntKind.bits]
theorem wrap_u32 (n : Int) : IntKind.wrap .u32 n = n % 4294967296 := by simp [IntKind.wrap, IntKind.signed, IntKind.bits]
theorem wrap_u8 (n : Int) : IntKind.wrap .u8 n = n % 256 := by simp [IntKind.wrap, IntKind.signed, IntKind.bits]
theorem wrap_i64 (n : Int) : IntKind.wrap .i64 n = if n % 18446744073709551616 ≥ 9223372036854775808 then n % 18446744073709551616 - 18446744073709551616 else n % 18446744073709551616 := by
  simp [IntKind.wrap, IntKind.signed, IntKind.bits]
theorem wrap_i32 (n : Int) : IntKind.wrap .i32 n = if n % 4294967296 ≥ 2147483648 then n % 4294967296 - 4294967296 else n % 4294967296 := by
  simp [IntKind.wrap, IntKind.signed, IntKind.bits]
theorem wrap_i64_of {n : Int} (h0 : -9223372036854775808 ≤ n) (h1 : n < 9223372036854775808) : IntKind.wrap .i64 n = n := by rw [wrap_i64]; split <;> omega
theorem wrap_u64_of {n : Int} (h0 : 0 ≤ n) (h1 : n < 18446744073709551616) : IntKind.wrap .u64 n = n := by rw [wrap_u64]; omega

theorem ofInt_nat {a : Nat} (ha : a < 18446744073709551616) : (BitVec.ofInt 64 (a : Int)).toNat = a := by
  rw [BitVec.ofInt_natCast, BitVec.toNat_ofNat]; exact Nat.mod_eq_of_lt (by omega)
theorem land_nn {a b : Nat} (ha : a < 18446744073709551616) (hb : b < 18446744073709551616) : iland .u64 (a : Int) (b : Int) = ((a &&& b : Nat) : Int) := by
  show IntKind.wrap .u64 ((BitVec.ofInt 64 (a : Int) &&& BitVec.ofInt 64 (b : Int)).toNat : Int) = _
  rw [BitVec.toNat_and, ofInt_nat ha, ofInt_nat hb, wrap_u64]
  have : a &&& b ≤ a := Nat.and_le_left
  omega
theorem lor_nn {a b : Nat} (ha : a < 18446744073709551616) (hb : b < 18446744073709551616) : ilor .u64 (a : Int) (b : Int) = ((a ||| b : Nat) : Int) := by
  show IntKind.wrap .u64 ((BitVec.ofInt 64 (a : Int) ||| BitVec.ofInt 64 (b : Int)).toNat : Int) = _
  rw [BitVec.toNat_or, ofInt_nat ha, ofInt_nat hb, wrap_u64]
  have : a ||| b < 2 ^ 64 := Nat.or_lt_two_pow (by omega) (by omega)
  omega
theorem landNot_nn {a b : Nat} (ha : a < 18446744073709551616) (hb : b < 18446744073709551616) : ilandNot .u64 (a : Int) (b : Int) = ((a &&& (18446744073709551615 - b) : Nat) : Int) := by
  show IntKind.wrap .u64 ((BitVec.ofInt 64 (a : Int) &&& ~~~ BitVec.ofInt 64 (b : Int)).toNat : Int) = _
  rw [BitVec.toNat_and, ofInt_nat ha, BitVec.toNat_not, ofInt_nat hb, wrap_u64]
  have e : 2 ^ 64 - 1 - b = 18446744073709551615 - b := by omega
  rw [e]
  have : a &&& (18446744073709551615 - b) ≤ a := Nat.and_le_left
  omega

theorem int_nat {a : Int} (h0 : 0 ≤ a) : ∃ n : Nat, a = n := ⟨a.toNat, by omega⟩

theorem testBit_parts {k r : Nat} (hr : r < 2 ^ k) (q j : Nat) : (2 ^ k * q + r).testBit j = if j < k then r.testBit j else q.testBit (j - k) := Nat.testBit_two_pow_mul_add q hr j
theorem and_parts {k r s : Nat} (hr : r < 2 ^ k) (hs : s < 2 ^ k) (q q' : Nat) : (2 ^ k * q + r) &&& (2 ^ k * q' + s) = 2 ^ k * (q &&& q') + (r &&& s) := by
  apply Nat.eq_of_testBit_eq
  intro j
  rw [Nat.testBit_and, testBit_parts hr, testBit_parts hs, testBit_parts (Nat.and_lt_two_pow r hs), Nat.testBit_and, Nat.testBit_and]
  split <;> rfl
theorem or_parts {k r s : Nat} (hr : r < 2 ^ k) (hs : s < 2 ^ k) (q q' : Nat) : (2 ^ k * q + r) ||| (2 ^ k * q' + s) = 2 ^ k * (q ||| q') + (r ||| s) := by
  apply Nat.eq_of_testBit_eq
  intro j
  rw [Nat.testBit_or, testBit_parts hr, testBit_parts hs, testBit_parts (Nat.or_lt_two_pow hr hs), Nat.testBit_or, Nat.testBit_or]
  split <;> rfl
theorem xor_parts {k r s : Nat} (hr : r < 2 ^ k) (hs : s < 2 ^ k) (q q' : Nat) : (2 ^ k * q + r) ^^^ (2 ^ k * q' + s) = 2 ^ k * (q ^^^ q') + (r ^^^ s) := by
  apply Nat.eq_of_testBit_eq
  intro j
  rw [Nat.testBit_xor, testBit_parts hr, testBit_parts hs, testBit_parts (Nat.xor_lt_two_pow hr hs), Nat.testBit_xor, Nat.testBit_xor]
  split <;> rfl
theorem split_at (n k : Nat) : 2 ^ k * (n / 2 ^ k) + n % 2 ^ k = n := Nat.div_add_mod n (2 ^ k)
theorem mod_lt (n k : Nat) : n % 2 ^ k < 2 ^ k := Nat.mod_lt _ (Nat.two_pow_pos k)
theorem one_parts (q : Nat) : q &&& 1 = q % 2 ∧ q ||| 1 = q / 2 * 2 + 1 ∧ q ^^^ 1 = q / 2 * 2 + (1 - q % 2) := by
  have h2 : q % 2 < 2 ^ 1 := by omega
  have e : q = 2 ^ 1 * (q / 2) + q % 2 := by omega
  have h1 : (1 : Nat) = 2 ^ 1 * 0 + 1 := rfl
  refine ⟨Nat.and_one_is_mod q, ?_, ?_⟩
  · conv => lhs; rw [e, h1, or_parts h2 (by decide)]
    rw [Nat.or_zero]
    rcases Nat.mod_two_eq_zero_or_one q with h | h <;> rw [h] <;> simp <;> omega
  · conv => lhs; rw [e, h1, xor_parts h2 (by decide)]
    rw [Nat.xor_zero]
    rcases Nat.mod_two_eq_zero_or_one q with h | h <;> rw [h] <;> simp <;> omega
theorem and_bit (n k : Nat) : n &&& 2 ^ k = 2 ^ k * (n / 2 ^ k % 2) := by
  conv => lhs; rw [← split_at n k, show (2 : Nat) ^ k = 2 ^ k * 1 + 0 from by omega, show 2 ^ k * 1 + 0 = 2 ^ k from by omega]
  have := and_parts (mod_lt n k) (Nat.two_pow_pos k) (n / 2 ^ k) 1
  rw [Nat.mul_one, Nat.add_zero] at this
  rw [this, (one_parts _).1, Nat.and_zero, Nat.add_zero]
theorem xor_bit (n k : Nat) : n ^^^ 2 ^ k = if n / 2 ^ k % 2 = 1 then n - 2 ^ k else n + 2 ^ k := by
  have := xor_parts (mod_lt n k) (Nat.two_pow_pos k) (n / 2 ^ k) 1
  rw [Nat.mul_one, Nat.add_zero, split_at, (one_parts _).2.2, Nat.xor_zero] at this
  rw [this]
  have h := split_at n k
  generalize n / 2 ^ k = q at *
  generalize n % 2 ^ k = r at *
  rcases Nat.mod_two_eq_zero_or_one q with hq | hq
  · rw [hq, show q / 2 * 2 + (1 - 0) = q + 1 from by omega, Nat.mul_add]; simp; omega
  · rw [hq, show q / 2 * 2 + (1 - 1) = q - 1 from by omega]
    simp
    have : q = (q - 1) + 1 := by omega
    rw [this, Nat.mul_add] at h
    omega
theorem andNot_bit (n k w : Nat) (hn : n < 2 ^ w) (hk : k < w) : n &&& (2 ^ w - 1 - 2 ^ k) = n - 2 ^ k * (n / 2 ^ k % 2) := by
  have hlt : 2 ^ k < 2 ^ w := Nat.pow_lt_pow_right (by decide) hk
  have h1 : 2 ^ w - 1 - 2 ^ k = (2 ^ w - 1) ^^^ 2 ^ k := by
    rw [xor_bit]
    have : (2 ^ w - 1) / 2 ^ k % 2 = 1 := by
      have := Nat.testBit_two_pow_sub_one w k
      rw [Nat.testBit_eq_decide_div_mod_eq] at this
      simpa [hk] using this
    rw [if_pos this]
  have h2 : n &&& ((2 ^ w - 1) ^^^ 2 ^ k) = n ^^^ (n &&& 2 ^ k) := by
    apply Nat.eq_of_testBit_eq
    intro j
    rw [Nat.testBit_and, Nat.testBit_xor, Nat.testBit_xor, Nat.testBit_and, Nat.testBit_two_pow_sub_one]
    by_cases hj : j < w
    · simp [hj]; cases n.testBit j <;> cases (2 ^ k).testBit j <;> rfl
    · have : n.testBit j = false := Nat.testBit_lt_two_pow (Nat.lt_of_lt_of_le hn (Nat.pow_le_pow_right (by decide) (by omega)))
      simp [this]
  rw [h1, h2, and_bit]
  rcases Nat.mod_two_eq_zero_or_one (n / 2 ^ k) with h | h
  · rw [h]; simp
  · rw [h, Nat.mul_one, xor_bit, if_pos h]

section
variable {a m p : Int}
theorem land_mask (h0 : 0 ≤ a) (h1 : a < 18446744073709551616) (k : Nat) (hk : k ≤ 64) (hm : m = ((2 ^ k - 1 : Nat) : Int)) (hp : p = ((2 ^ k : Nat) : Int)) : iland .u64 a m = a % p := by
  obtain ⟨n, rfl⟩ := int_nat h0
  have : 2 ^ k ≤ 2 ^ 64 := Nat.pow_le_pow_right (by decide) hk
  rw [hm, land_nn (by omega) (by omega), Nat.and_two_pow_sub_one_eq_mod, hp]
  omega
theorem land_bit (h0 : 0 ≤ a) (h1 : a < 18446744073709551616) (k : Nat) (hk : k < 64) (hm : m = ((2 ^ k : Nat) : Int)) : iland .u64 a m = m * (a / m % 2) := by
  obtain ⟨n, rfl⟩ := int_nat h0
  have : 2 ^ k < 2 ^ 64 := Nat.pow_lt_pow_right (by decide) hk
  rw [hm, land_nn (by omega) (by omega), and_bit]
  simp
theorem landNot_bit (h0 : 0 ≤ a) (h1 : a < 18446744073709551616) (k : Nat) (hk : k < 64) (hm : m = ((2 ^ k : Nat) : Int)) : ilandNot .u64 a m = a - m * (a / m % 2) := by
  obtain ⟨n, rfl⟩ := int_nat h0
  have : 2 ^ k < 2 ^ 64 := Nat.pow_lt_pow_right (by decide) hk
  rw [hm, landNot_nn (by omega) (by omega), show 18446744073709551615 - 2 ^ k = 2 ^ 64 - 1 - 2 ^ k from by omega, andNot_bit n k 64 (by omega) hk]
  have : 2 ^ k * (n / 2 ^ k % 2) ≤ n := by
    have h := split_at n k
    have : 2 ^ k * (n / 2 ^ k % 2) ≤ 2 ^ k * (n / 2 ^ k) := Nat.mul_le_mul_left _ (Nat.mod_le _ _)
    omega
  have e : ((2 ^ k * (n / 2 ^ k % 2) : Nat) : Int) = ((2 ^ k : Nat) : Int) * ((n : Int) / ((2 ^ k : Nat) : Int) % 2) := by simp
  rw [← e]
  omega
theorem shr_of (k : Nat) (hk : k ≤ 64) (hp : p = ((2 ^ k : Nat) : Int)) : ishr .u64 a (k : Int) = a / p := by
  show Int.fdiv a (2 ^ min (k : Int).toNat 64) = _
  have e : min (k : Int).toNat 64 = k := by simp; omega
  rw [e, hp, Int.fdiv_eq_ediv_of_nonneg _ (by exact Int.le_of_lt (Int.pow_pos (by decide)))]
  simp
end
theorem ibeq (x y : Int) : (x == y) = decide (x = y) := by by_cases h : x = y <;> simp [h]
theorem ibne (x y : Int) : (x != y) = !decide (x = y) := by by_cases h : x = y <;> simp [h]
theorem ite_tt (p : Prop) [Decidable p] (a b : Bool) : ((if p then a else b) = true) = ((p ∧ a = true) ∨ (¬ p ∧ b = true)) := by by_cases h : p <;> simp [h]
theorem ite_ff (p : Prop) [Decidable p] (a b : Bool) : ((if p then a else b) = false) = ((p ∧ a = false) ∨ (¬ p ∧ b = false)) := by by_cases h : p <;> simp [h]
theorem bl : (∀ x y : Int, (x == y) = decide (x = y)) ∧ (∀ x y : Int, (x != y) = !decide (x = y)) ∧
    (∀ (c : Bool) (a b : Int), cond c a b = if c = true then a else b) ∧ (∀ (c a b : Bool), cond c a b = if c = true then a else b) ∧
    (∀ a b : Bool, ((a && b) = true) = (a = true ∧ b = true)) ∧ (∀ a b : Bool, ((a || b) = true) = (a = true ∨ b = true)) ∧
    (∀ a b : Bool, ((a && b) = false) = (a = false ∨ b = false)) ∧ (∀ a b : Bool, ((a || b) = false) = (a = false ∧ b = false)) ∧
    (∀ a : Bool, ((!a) = true) = (a = false)) ∧ (∀ a : Bool, ((!a) = false) = (a = true)) ∧
    (∀ (p : Prop) [Decidable p], (decide p = true) = p) ∧ (∀ (p : Prop) [Decidable p], (decide p = false) = ¬ p) ∧
    (∀ (p : Prop) [Decidable p] (a b : Bool), ((if p then a else b) = true) = ((p ∧ a = true) ∨ (¬ p ∧ b = true))) ∧
    (∀ (p : Prop) [Decidable p] (a b : Bool), ((if p then a else b) = false) = ((p ∧ a = false) ∨ (¬ p ∧ b = false))) ∧
    ((false = true) = False) ∧ ((true = false) = False) ∧ ((true = true) = True) ∧ ((false = false) = True) ∧
    (∀ (a b : Int) [Decidable False], (if False then a else b) = b) ∧ (∀ (a b : Int) [Decidable True], (if True then a else b) = a) ∧
    (∀ p : Prop, (p ∧ False) = False) ∧ (∀ p : Prop, (False ∧ p) = False) ∧ (∀ p : Prop, (p ∨ False) = p) ∧ (∀ p : Prop, (False ∨ p) = p) ∧
    (∀ p : Prop, (p ∧ True) = p) ∧ (∀ p : Prop, (True ∧ p) = p) ∧ (∀ p : Prop, (p ∨ True) = True) ∧ (∀ p : Prop, (True ∨ p) = True) ∧
    ((¬ True) = False) ∧ ((¬ False) = True) := by
  refine ⟨ibeq, ibne, ?_, ?_, ?_, ?_, ?_, ?_, ?_, ?_, ?_, ?_, ?_, ?_, ?_, ?_, ?_, ?_, ?_, ?_, ?_, ?_, ?_, ?_, ?_, ?_, ?_, ?_, ?_, ?_⟩
  · intro c a b; cases c <;> rfl
  · intro c a b; cases c <;> rfl
  · intro a b; cases a <;> cases b <;> simp
  · intro a b; cases a <;> cases b <;> simp
  · intro a b; cases a <;> cases b <;> simp
  · intro a b; cases a <;> cases b <;> simp
  · intro a; simp
  · intro a; simp
  · intro p _; simp
  · intro p _; simp
  · intro p _ a b; exact ite_tt p a b
  · intro p _ a b; exact ite_ff p a b
  all_goals simp
end Go.Sx

namespace Go.Rnd
open Go Go.Sx

theorem ow_t (l : List (Bool × Bool)) : ow l true = true := by simp [ow]
theorem ow_1 (a x b : Bool) : (ow [(a, x)] b = true) = (a = x → b = true) := by
  cases a <;> cases x <;> cases b <;> simp [ow]
theorem ow_2 (a x a' x' b : Bool) : (ow [(a, x), (a', x')] b = true) = (a = x → a' = x' → b = true) := by
  cases a <;> cases x <;> cases a' <;> cases x' <;> cases b <;> simp [ow]
theorem dec (p : Prop) [Decidable p] : (decide p = true) = p := by simp

def dg (k n : Nat) : List DV := (List.range k).map fun i => DV.i ((n / 4294967296 ^ i % 4294967296 : Nat) : Int)
def dlen (n : Nat) : Nat := (blen n + 31) / 32
def big (n : Nat) : List DV := dg (dlen n) n

theorem pow32 (k : Nat) : 4294967296 ^ k = 2 ^ (32 * k) := by rw [Nat.pow_mul]
theorem pw_pos (k : Nat) : 0 < 4294967296 ^ k := Nat.pow_pos (by decide)
theorem dlen_le {n k : Nat} : dlen n ≤ k ↔ n < 4294967296 ^ k := by
  rw [pow32, ← blen_le]; unfold dlen; omega
theorem lt_dlen {n k : Nat} : k < dlen n ↔ 4294967296 ^ k ≤ n := by rw [← Nat.not_le, dlen_le, Nat.not_lt]
theorem dlen_eq {n k : Nat} (h1 : 4294967296 ^ k ≤ n) (h2 : n < 4294967296 ^ (k + 1)) : dlen n = k + 1 := by
  have := lt_dlen.2 h1; have := dlen_le.2 h2; omega
theorem dlen_one : dlen 1 = 1 := dlen_eq (by decide) (by decide)
theorem dlen_mono {a b : Nat} (h : a ≤ b) : dlen a ≤ dlen b := dlen_le.2 (Nat.lt_of_le_of_lt h (dlen_le.1 (Nat.le_refl _)))
theorem dlen_self (n : Nat) : n < 4294967296 ^ dlen n := dlen_le.1 (Nat.le_refl _)
theorem dlen_pos {n : Nat} (h : 0 < n) : 0 < dlen n := lt_dlen.2 (by rw [Nat.pow_zero]; exact h)
theorem dg_zero (n : Nat) : dg 0 n = [] := rfl
theorem dg_len (k n : Nat) : (dg k n).length = k := by simp [dg]
theorem big_len (n : Nat) : (big n).length = dlen n := dg_len _ _
theorem dg_at (k n i : Nat) : (dg k n).getD i default = if i < k then DV.i ((n / 4294967296 ^ i % 4294967296 : Nat) : Int) else .i 0 := by
  unfold dg
  rw [List.getD_eq_getElem?_getD, List.getElem?_map]
  split
  · rename_i h; rw [List.getElem?_range h]; rfl
  · rename_i h; rw [List.getElem?_eq_none (by simpa using h)]; rfl
theorem dg_get {k n : Nat} (h : n < 4294967296 ^ k) (i : Nat) : (dg k n).getD i default = DV.i ((n / 4294967296 ^ i % 4294967296 : Nat) : Int) := by
  rw [dg_at]
  split
  · rfl
  · rename_i hi
    have : n < 4294967296 ^ i := Nat.lt_of_lt_of_le h (Nat.pow_le_pow_right (by decide) (by omega))
    rw [Nat.div_eq_of_lt this]; rfl
theorem big_get (n i : Nat) : (big n).getD i default = DV.i ((n / 4294967296 ^ i % 4294967296 : Nat) : Int) := dg_get (dlen_self n) i
theorem big_at (n i : Nat) : ((big n).getD (Int.toNat (i : Int) * 1 + 0) default).toI = ((n / 4294967296 ^ i % 4294967296 : Nat) : Int) := by
  rw [Int.toNat_natCast, Nat.mul_one, Nat.add_zero, big_get]
theorem dg_take {k m n : Nat} (h : m ≤ k) : (dg k n).take m = dg m n := by
  unfold dg
  rw [← List.map_take, List.take_range, Nat.min_eq_left h]
theorem dig_snoc {k o d i : Nat} (ho : o < 4294967296 ^ k) (hd : d < 4294967296) : (o + d * 4294967296 ^ k) / 4294967296 ^ i % 4294967296 = if i < k then o / 4294967296 ^ i % 4294967296 else if i = k then d else 0 := by
  have hp := pw_pos k
  split
  · rename_i h
    obtain ⟨j, rfl⟩ : ∃ j, k = i + (j + 1) := ⟨k - i - 1, by omega⟩
    have hi := pw_pos i
    rw [Nat.pow_add, Nat.mul_left_comm d, Nat.add_mul_div_left _ _ hi, Nat.pow_succ, ← Nat.mul_assoc, Nat.add_mul_mod_self_right]
  · split
    · rename_i h; subst h
      rw [Nat.add_mul_div_right _ _ hp, Nat.div_eq_of_lt ho, Nat.zero_add, Nat.mod_eq_of_lt hd]
    · have : o + d * 4294967296 ^ k < 4294967296 ^ (k + 1) := by
        rw [Nat.pow_succ]
        have : (d + 1) * 4294967296 ^ k ≤ 4294967296 * 4294967296 ^ k := Nat.mul_le_mul_right _ hd
        rw [Nat.add_mul] at this
        omega
      have h2 : o + d * 4294967296 ^ k < 4294967296 ^ i := Nat.lt_of_lt_of_le this (Nat.pow_le_pow_right (by decide) (by omega))
      rw [Nat.div_eq_of_lt h2, Nat.zero_mod]
theorem dg_snoc {k o d : Nat} (ho : o < 4294967296 ^ k) (hd : d < 4294967296) : dg k o ++ [DV.i (d : Int)] = dg (k + 1) (o + d * 4294967296 ^ k) := by
  unfold dg
  rw [List.range_succ, List.map_append]
  congr 1
  · refine List.map_congr_left fun i hi => ?_
    rw [dig_snoc ho hd, if_pos (List.mem_range.1 hi)]
  · rw [List.map_singleton, dig_snoc ho hd, if_neg (Nat.lt_irrefl _), if_pos rfl]
theorem snoc_lt {k o d : Nat} (ho : o < 4294967296 ^ k) (hd : d < 4294967296) : o + d * 4294967296 ^ k < 4294967296 ^ (k + 1) := by
  have : (d + 1) * 4294967296 ^ k ≤ 4294967296 * 4294967296 ^ k := Nat.mul_le_mul_right _ hd
  rw [Nat.add_mul] at this
  rw [Nat.pow_succ]; omega
theorem dig_lt (n i : Nat) : n / 4294967296 ^ i % 4294967296 < 4294967296 := Nat.mod_lt _ (by decide)
theorem mod_succ (n i : Nat) : n % 4294967296 ^ (i + 1) = n % 4294967296 ^ i + (n / 4294967296 ^ i % 4294967296) * 4294967296 ^ i := by
  rw [Nat.pow_succ, Nat.mod_mul, Nat.mul_comm (4294967296 ^ i) (n / 4294967296 ^ i % 4294967296)]
theorem mod_self {n i : Nat} (h : dlen n ≤ i) : n % 4294967296 ^ i = n := Nat.mod_eq_of_lt (dlen_le.1 h)
theorem dig_zero {n i : Nat} (h : dlen n ≤ i) : n / 4294967296 ^ i % 4294967296 = 0 := by rw [Nat.div_eq_of_lt (dlen_le.1 h)]
theorem dg_one (d : Nat) (hd : d < 4294967296) : dg 1 d = [DV.i (d : Int)] := by
  have := dg_snoc (k := 0) (o := 0) (d := d) (by decide) hd
  rw [dg_zero] at this
  simpa using this.symm
theorem big_one : big 1 = [DV.i 1] := by unfold big; rw [dlen_one]; exact dg_one 1 (by decide)
theorem dg_zeros (k : Nat) : (List.replicate k ([.i 0] : List DV)).flatten = dg k 0 := by
  induction k with
  | zero => rfl
  | succ k ih =>
    rw [List.replicate_succ', List.flatten_concat, ih]
    have := dg_snoc (k := k) (o := 0) (d := 0) (pw_pos k) (by decide)
    simpa using this
theorem wr64 {n : Nat} (h : n < 18446744073709551616) : IntKind.wrap .u64 (n : Int) = n := wrap_u64_of (by omega) (by omega)
theorem wr32 (n : Nat) : IntKind.wrap .u32 (n : Int) = ((n % 4294967296 : Nat) : Int) := by rw [wrap_u32]; rfl
theorem wri {n : Nat} (h : n < 9223372036854775808) : IntKind.wrap .i64 (n : Int) = n := wrap_i64_of (by omega) (by omega)
theorem wri1 {n : Nat} (h : n + 1 < 9223372036854775808) : IntKind.wrap .i64 ((n : Int) + 1) = ((n + 1 : Nat) : Int) := by rw [wrap_i64_of (by omega) (by omega)]; rfl
theorem shr32 (n : Nat) : ishr .u64 (n : Int) 32 = ((n / 4294967296 : Nat) : Int) := by
  rw [show ishr .u64 (n : Int) 32 = (n : Int) / 4294967296 from shr_of 32 (by decide) (by decide)]; omega
end Go.Rnd

namespace Go.Proofs.Ytacciadcmiiimaa
open Go Go.Sx Go.Rnd
set_option maxRecDepth 100000
set_option maxHeartbeats 1000000

theorem trim_w {x : List DV} {k : Int} (_ : 0 ≤ k) (h1 : k ≤ x.length) (hl : (x.length : Int) < 9223372036854775808) : w111600 x k = true := by
  show [ow [(decide (k > 0), true)] (decide (IntKind.wrap .i64 (k - 1) ≥ 0)), ow [(decide (k > 0), true)] (decide (IntKind.wrap .i64 (k - 1) < ((x.length / 1 : Nat) : Int)))].all id = true
  by_cases hk : k > 0
  · rw [wrap_i64_of (by omega) (by omega), decide_eq_true hk, decide_eq_true (show k - 1 ≥ 0 by omega), decide_eq_true (show k - 1 < ((x.length / 1 : Nat) : Int) by rw [Nat.div_one]; omega)]
    rfl
  · rw [decide_eq_false hk]
    simp [ow]
theorem trim_loop {K n : Nat} (hl : K < 9223372036854775808) : ∀ k : Nat, k ≤ K → n < 4294967296 ^ k → L111600 (dg K n) k = some [.i 0, .i (dlen n : Int)]
  | 0, _, hn => by
    have h0 : n = 0 := by simpa using hn
    subst h0
    exact loopG_last (w := W111600) (c := C111600) (nx := N111600) (out := T111600) (s := [.l (dg K 0), .i ((0 : Nat) : Int)]) (show w111600 (dg K 0) ((0 : Nat) : Int) = true from trim_w (by omega) (by omega) (by rw [dg_len]; omega)) rfl
  | k + 1, hk, hn => by
    have hw : w111600 (dg K n) ((k + 1 : Nat) : Int) = true := trim_w (by omega) (by rw [dg_len]; omega) (by rw [dg_len]; omega)
    have e1 : IntKind.wrap .i64 (((k + 1 : Nat) : Int) - 1) = (k : Int) := by rw [wrap_i64_of (by omega) (by omega)]; omega
    have hd : n / 4294967296 ^ k % 4294967296 = n / 4294967296 ^ k := Nat.mod_eq_of_lt (by rw [Nat.div_lt_iff_lt_mul (pw_pos k), Nat.mul_comm, ← Nat.pow_succ]; exact hn)
    have hc : c111600 (dg K n) ((k + 1 : Nat) : Int) = (((n / 4294967296 ^ k : Nat) : Int) == 0) := by
      show (decide (((k + 1 : Nat) : Int) > 0) && (((dg K n).getD (Int.toNat (IntKind.wrap .i64 (((k + 1 : Nat) : Int) - 1)) * 1 + 0) default).toI == 0)) = _
      rw [e1, decide_eq_true (show ((k + 1 : Nat) : Int) > 0 by omega), Int.toNat_natCast, Nat.mul_one, Nat.add_zero, Bool.true_and, dg_at, if_pos (by omega), hd]
    by_cases hz : n < 4294967296 ^ k
    · have hn2 := loopG_next (w := W111600) (c := C111600) (nx := N111600) (out := T111600) (s := [.l (dg K n), .i ((k + 1 : Nat) : Int)]) hw (show c111600 (dg K n) ((k + 1 : Nat) : Int) = true from by rw [hc, Nat.div_eq_of_lt hz]; rfl)
      have he : N111600 [.l (dg K n), .i ((k + 1 : Nat) : Int)] = [.l (dg K n), .i (k : Int)] := by
        show [DV.l (dg K n), .i (IntKind.wrap .i64 (((k + 1 : Nat) : Int) - 1))] = _
        rw [e1]
      rw [he] at hn2
      exact hn2.trans (trim_loop hl k (by omega) hz)
    · have hge : 4294967296 ^ k ≤ n := Nat.le_of_not_lt hz
      have h1 : n / 4294967296 ^ k ≠ 0 := by rw [Nat.ne_zero_iff_zero_lt]; exact Nat.div_pos hge (pw_pos k)
      rw [dlen_eq hge hn]
      exact loopG_last (w := W111600) (c := C111600) (nx := N111600) (out := T111600) (s := [.l (dg K n), .i ((k + 1 : Nat) : Int)]) hw (show c111600 (dg K n) ((k + 1 : Nat) : Int) = false from by rw [hc]; exact beq_eq_false_iff_ne.2 fun h => h1 (Int.natCast_eq_zero.1 h))
theorem trim_ok {K n : Nat} (hl : K < 9223372036854775808) (hn : n < 4294967296 ^ K) : p116 (dg K n) = true ∧ r116_0 (dg K n) = big n := by
  have h2 := trim_loop hl K (Nat.le_refl _) hn
  have hm : dlen n ≤ K := dlen_le.2 hn
  have hr : r111600_1 (dg K n) (((dg K n).length / 1 : Nat) : Int) = (dlen n : Int) := by
    unfold r111600_1
    rw [Nat.div_one, dg_len, h2]; rfl
  have hp : p111600 (dg K n) (((dg K n).length / 1 : Nat) : Int) = true := by
    unfold p111600
    rw [Nat.div_one, dg_len, h2]; rfl
  constructor
  · show [ow [] (p111600 (dg K n) (((dg K n).length / 1 : Nat) : Int)), ow [] (decide (r111600_1 (dg K n) (((dg K n).length / 1 : Nat) : Int) ≥ 0)), ow [] (decide (r111600_1 (dg K n) (((dg K n).length / 1 : Nat) : Int) ≤ (((dg K n).length / 1 : Nat) : Int)))].all id = true
    rw [hp, hr, decide_eq_true (show (dlen n : Int) ≥ 0 by omega), decide_eq_true (show (dlen n : Int) ≤ (((dg K n).length / 1 : Nat) : Int) by rw [Nat.div_one, dg_len]; omega)]
    rfl
  · show (dg K n).take (Int.toNat (r111600_1 (dg K n) (((dg K n).length / 1 : Nat) : Int)) * 1) = _
    rw [hr, Int.toNat_natCast, Nat.mul_one, dg_take hm]; rfl

theorem ofInt_ok {n : Nat} (hn : n < 18446744073709551616) : p80 n = true ∧ r80_0 n = big n := by
  have e : ([.i (IntKind.wrap .u32 (n : Int)), .i (IntKind.wrap .u32 (ishr .u64 (n : Int) 32))] : List DV) = dg 2 n := by
    rw [shr32, wr32, wr32]
    have h1 := dg_one (n % 4294967296) (Nat.mod_lt _ (by decide))
    have h2 := dg_snoc (k := 1) (o := n % 4294967296) (d := n / 4294967296 % 4294967296) (Nat.mod_lt _ (by decide)) (Nat.mod_lt _ (by decide))
    rw [h1] at h2
    have h3 : n % 4294967296 + n / 4294967296 % 4294967296 * 4294967296 ^ 1 = n := by omega
    rw [h3] at h2
    exact h2
  have ht := trim_ok (K := 2) (n := n) (by decide) (by omega)
  constructor
  · show [ow [] (p116 [.i (IntKind.wrap .u32 (n : Int)), .i (IntKind.wrap .u32 (ishr .u64 (n : Int) 32))])].all id = true
    rw [e, ht.1]; rfl
  · show r116_0 [.i (IntKind.wrap .u32 (n : Int)), .i (IntKind.wrap .u32 (ishr .u64 (n : Int) 32))] = _
    rw [e, ht.2]

section
variable {a b : Nat} (ha : dlen a ≤ 1048576) (hb : dlen b ≤ 1048576)
def plusS (a b i o c : Nat) : List DV := [.l (big b), .l (big a), .l (dg i o), .i (c : Int), .i (i : Int), .l (big a)]
include ha hb
theorem plus_step {i o c : Nat} (hi : i ≤ 2000000) (hc : c ≤ 1) (ho : o < 4294967296 ^ i) :
    W111400 (plusS a b i o c) = true ∧ C111400 (plusS a b i o c) = decide (i < dlen a ∨ i < dlen b ∨ 0 < c) ∧
    N111400 (plusS a b i o c) = plusS a b (i + 1) (o + (c + a / 4294967296 ^ i % 4294967296 + b / 4294967296 ^ i % 4294967296) % 4294967296 * 4294967296 ^ i) ((c + a / 4294967296 ^ i % 4294967296 + b / 4294967296 ^ i % 4294967296) / 4294967296) := by
  have _ := ha; have _ := hb
  have da := dig_lt a i
  have db := dig_lt b i
  have za : ¬ i < dlen a → a / 4294967296 ^ i % 4294967296 = 0 := fun h => dig_zero (by omega)
  have zb : ¬ i < dlen b → b / 4294967296 ^ i % 4294967296 = 0 := fun h => dig_zero (by omega)
  have eA := big_at a i
  have eB := big_at b i
  generalize a / 4294967296 ^ i % 4294967296 = x at *
  generalize b / 4294967296 ^ i % 4294967296 = y at *
  have g1 : (bif decide ((i : Int) < ((big a).length / 1 : Nat)) then IntKind.wrap .u64 ((c : Int) + IntKind.wrap .u64 (x : Int)) else (c : Int)) = ((c + x : Nat) : Int) := by
    rw [Nat.div_one, big_len]
    by_cases h : i < dlen a
    · rw [decide_eq_true (by omega), cond_true, wr64 (by omega), ← Int.natCast_add, wr64 (by omega)]
    · rw [decide_eq_false (by omega), cond_false, za h]; rfl
  have g2 : (bif decide ((i : Int) < ((big b).length / 1 : Nat)) then IntKind.wrap .u64 (((c + x : Nat) : Int) + IntKind.wrap .u64 (y : Int)) else ((c + x : Nat) : Int)) = ((c + x + y : Nat) : Int) := by
    rw [Nat.div_one, big_len]
    by_cases h : i < dlen b
    · rw [decide_eq_true (by omega), cond_true, wr64 (n := y) (by omega), ← Int.natCast_add, wr64 (by omega)]
    · rw [decide_eq_false (by omega), cond_false, zb h]; rfl
  refine ⟨?_, ?_, ?_⟩
  · show w111400 (big b) (big a) (dg i o) (c : Int) (i : Int) (big a) = true
    simp only [w111400, List.all_cons, List.all_nil, id, Bool.and_true, Bool.and_eq_true, ow_2, ow_1, dec, Nat.div_one, List.length_append, dg_len, big_len, List.length_cons, List.length_nil]
    refine ⟨?_, ?_, ?_, ?_, ?_⟩ <;> (intros; omega)
  · show c111400 (big b) (big a) (dg i o) (c : Int) (i : Int) (big a) = _
    simp only [c111400, Nat.div_one, big_len]
    rw [Bool.eq_iff_iff]
    simp only [Bool.or_eq_true, dec]
    omega
  · show [DV.l (big b), .l (big a), .l (n111400_0 (big b) (big a) (dg i o) (c : Int) (i : Int) (big a)), .i (n111400_1 (big b) (big a) (dg i o) (c : Int) (i : Int) (big a)), .i (n111400_2 (big b) (big a) (dg i o) (c : Int) (i : Int) (big a)), .l (big a)] = _
    have q0 : n111400_0 (big b) (big a) (dg i o) (c : Int) (i : Int) (big a) = dg (i + 1) (o + (c + x + y) % 4294967296 * 4294967296 ^ i) := by
      simp only [n111400_0]
      rw [eA, eB, g1, g2, wr32, dg_snoc ho (Nat.mod_lt _ (by decide))]
    have q1 : n111400_1 (big b) (big a) (dg i o) (c : Int) (i : Int) (big a) = (((c + x + y) / 4294967296 : Nat) : Int) := by
      simp only [n111400_1]
      rw [eA, eB, g1, g2, shr32]
    have q2 : n111400_2 (big b) (big a) (dg i o) (c : Int) (i : Int) (big a) = ((i + 1 : Nat) : Int) := by
      simp only [n111400_2]
      rw [wri1 (by omega)]
    rw [q0, q1, q2]; rfl
theorem plus_loop : ∀ (t i o c : Nat), dlen a ≤ i + t → dlen b ≤ i + t → i + t ≤ 1048576 → c ≤ 1 → o < 4294967296 ^ i → a % 4294967296 ^ i + b % 4294967296 ^ i = o + c * 4294967296 ^ i →
    ∃ k r2 r3 r4, k ≤ 1048577 ∧ a + b < 4294967296 ^ k ∧ loopG W111400 C111400 N111400 T111400 (plusS a b i o c) = some [.i 0, .l (dg k (a + b)), r2, r3, r4] := by
  have last : ∀ i o : Nat, dlen a ≤ i → dlen b ≤ i → i ≤ 1048577 → o < 4294967296 ^ i → a % 4294967296 ^ i + b % 4294967296 ^ i = o →
      ∃ k r2 r3 r4, k ≤ 1048577 ∧ a + b < 4294967296 ^ k ∧ loopG W111400 C111400 N111400 T111400 (plusS a b i o 0) = some [.i 0, .l (dg k (a + b)), r2, r3, r4] := by
    intro i o h1 h2 h3 ho he
    obtain ⟨hw, hc, _⟩ := plus_step ha hb (i := i) (o := o) (c := 0) (by omega) (by omega) ho
    rw [decide_eq_false (by omega)] at hc
    rw [mod_self h1, mod_self h2] at he
    refine ⟨i, .i 0, .i i, .l (big a), h3, by omega, ?_⟩
    rw [loopG_last hw hc, he]
    rfl
  intro t
  induction t with
  | zero =>
    intro i o c h1 h2 h3 hc ho he
    rcases Nat.eq_zero_or_pos c with h0 | h0
    · subst h0; exact last i o (by omega) (by omega) (by omega) ho (by omega)
    · have h0 : c = 1 := by omega
      subst h0
      obtain ⟨hw, hcc, hn⟩ := plus_step ha hb (i := i) (o := o) (c := 1) (by omega) (by omega) ho
      rw [decide_eq_true (by omega)] at hcc
      rw [loopG_next hw hcc, hn, dig_zero (n := a) (by omega), dig_zero (n := b) (by omega)]
      refine last (i + 1) _ (by omega) (by omega) (by omega) (snoc_lt ho (by decide)) ?_
      rw [mod_succ, mod_succ, dig_zero (n := a) (by omega), dig_zero (n := b) (by omega)]
      omega
  | succ t ih =>
    intro i o c h1 h2 h3 hc ho he
    obtain ⟨hw, hcc, hn⟩ := plus_step ha hb (i := i) (o := o) (c := c) (by omega) hc ho
    by_cases hgo : i < dlen a ∨ i < dlen b ∨ 0 < c
    · rw [decide_eq_true hgo] at hcc
      rw [loopG_next hw hcc, hn]
      have da := dig_lt a i
      have db := dig_lt b i
      refine ih (i + 1) _ _ (by omega) (by omega) (by omega) (by omega) (snoc_lt ho (Nat.mod_lt _ (by decide))) ?_
      rw [mod_succ, mod_succ]
      generalize a / 4294967296 ^ i % 4294967296 = x at *
      generalize b / 4294967296 ^ i % 4294967296 = y at *
      rw [Nat.pow_succ]
      generalize 4294967296 ^ i = P at *
      have e1 : (c + x + y) * P = ((c + x + y) % 4294967296 + (c + x + y) / 4294967296 * 4294967296) * P := by rw [Nat.mod_add_div' ]
      rw [Nat.add_mul, Nat.add_mul, Nat.add_mul, Nat.mul_assoc ((c + x + y) / 4294967296), Nat.mul_comm 4294967296 P] at e1
      omega
    · have hc0 : c = 0 := by omega
      subst hc0
      exact last i o (by omega) (by omega) (by omega) ho (by omega)
theorem plus_ok : p114 (big a) (big b) = true ∧ r114_0 (big a) (big b) = big (a + b) := by
  obtain ⟨k, r2, r3, r4, hk, hlt, hL⟩ := plus_loop ha hb 1048576 0 0 0 (by omega) (by omega) (by omega) (by omega) (by decide) (by simp [Nat.mod_one])
  have hg : g111400 [.l (big b), .l (big a), .l [], .i 0, .i 0, .l (big a)] = [.b true, .i 0, .l (dg k (a + b)), .i (r2.toI), .i (r3.toI), .l r4.toL] := by
    have hL' : L111400 (big b) (big a) [] 0 0 (big a) = some [.i 0, .l (dg k (a + b)), r2, r3, r4] := hL
    show [DV.b (p111400 (big b) (big a) [] 0 0 (big a)), .i (r111400_0 (big b) (big a) [] 0 0 (big a)), .l (r111400_1 (big b) (big a) [] 0 0 (big a)), .i (r111400_2 (big b) (big a) [] 0 0 (big a)), .i (r111400_3 (big b) (big a) [] 0 0 (big a)), .l (r111400_4 (big b) (big a) [] 0 0 (big a))] = _
    simp only [p111400, r111400_0, r111400_1, r111400_2, r111400_3, r111400_4, hL']
    rfl
  have ht := trim_ok (K := k) (n := a + b) (by omega) hlt
  constructor
  · simp only [p114, hg]
    show [ow [] true, ow [] (p116 (dg k (a + b)))].all id = true
    rw [ht.1]; rfl
  · simp only [r114_0, hg]
    exact ht.2
end
end Go.Proofs.Ytacciadcmiiimaa

namespace Go.Rnd
open Go Go.Sx
set_option maxRecDepth 100000

theorem shl_nat (x s : Nat) : ishl .u64 (x : Int) (s : Int) = ((x * 2 ^ s % 18446744073709551616 : Nat) : Int) := by
  unfold ishl
  rw [wrap_u64, Int.toNat_natCast]
  show ((x : Int) * 2 ^ min s 64) % 18446744073709551616 = _
  by_cases h : s ≤ 64
  · rw [Nat.min_eq_left h, Int.natCast_emod, Int.natCast_mul, Int.natCast_pow]; rfl
  · rw [Nat.min_eq_right (by omega)]
    obtain ⟨d, rfl⟩ : ∃ d, s = 64 + d := ⟨s - 64, by omega⟩
    have : x * 2 ^ (64 + d) % 18446744073709551616 = 0 := by
      rw [Nat.pow_add, Nat.mul_left_comm]; exact Nat.mul_mod_right _ _
    rw [this]; omega
theorem shl_lt {x s : Nat} (h : x * 2 ^ s < 18446744073709551616) : ishl .u64 (x : Int) (s : Int) = ((x * 2 ^ s : Nat) : Int) := by
  rw [shl_nat, Nat.mod_eq_of_lt h]
theorem shr_nat {x : Nat} (h : x < 18446744073709551616) (s : Nat) : ishr .u64 (x : Int) (s : Int) = ((x / 2 ^ s : Nat) : Int) := by
  unfold ishr
  rw [Int.toNat_natCast]
  show (x : Int).fdiv (2 ^ min s 64) = _
  have e : ((2 : Int) ^ min s 64) = ((2 ^ min s 64 : Nat) : Int) := by rw [Int.natCast_pow]; rfl
  rw [e, Int.fdiv_eq_ediv_of_nonneg _ (Int.natCast_nonneg _), ← Int.natCast_ediv]
  congr 1
  by_cases hs : s ≤ 64
  · rw [Nat.min_eq_left hs]
  · rw [Nat.min_eq_right (by omega), Nat.div_eq_of_lt h, Nat.div_eq_of_lt]
    have : 2 ^ 64 ≤ 2 ^ s := Nat.pow_le_pow_right (by decide) (by omega)
    exact Nat.lt_of_lt_of_le h this
theorem shr32_nat {x : Nat} (h : x < 4294967296) (s : Nat) : ishr .u32 (x : Int) (s : Int) = ((x / 2 ^ s : Nat) : Int) := by
  unfold ishr
  rw [Int.toNat_natCast]
  show (x : Int).fdiv (2 ^ min s 32) = _
  have e : ((2 : Int) ^ min s 32) = ((2 ^ min s 32 : Nat) : Int) := by rw [Int.natCast_pow]; rfl
  rw [e, Int.fdiv_eq_ediv_of_nonneg _ (Int.natCast_nonneg _), ← Int.natCast_ediv]
  congr 1
  by_cases hs : s ≤ 32
  · rw [Nat.min_eq_left hs]
  · rw [Nat.min_eq_right (by omega), Nat.div_eq_of_lt h, Nat.div_eq_of_lt]
    have : 2 ^ 32 ≤ 2 ^ s := Nat.pow_le_pow_right (by decide) (by omega)
    exact Nat.lt_of_lt_of_le h this
theorem shl32_nat (x s : Nat) : ishl .u32 (x : Int) (s : Int) = ((x * 2 ^ s % 4294967296 : Nat) : Int) := by
  unfold ishl
  rw [wrap_u32, Int.toNat_natCast]
  show ((x : Int) * 2 ^ min s 32) % 4294967296 = _
  by_cases h : s ≤ 32
  · rw [Nat.min_eq_left h, Int.natCast_emod, Int.natCast_mul, Int.natCast_pow]; rfl
  · rw [Nat.min_eq_right (by omega)]
    obtain ⟨d, rfl⟩ : ∃ d, s = 32 + d := ⟨s - 32, by omega⟩
    have : x * 2 ^ (32 + d) % 4294967296 = 0 := by
      rw [Nat.pow_add, Nat.mul_left_comm]; exact Nat.mul_mod_right _ _
    rw [this]; omega
theorem ofInt32_nat {a : Nat} (ha : a < 4294967296) : (BitVec.ofInt 32 (a : Int)).toNat = a := by
  rw [BitVec.toNat_ofInt]; omega
theorem land32_nn {a b : Nat} (ha : a < 4294967296) (hb : b < 4294967296) : iland .u32 (a : Int) (b : Int) = ((a &&& b : Nat) : Int) := by
  show IntKind.wrap .u32 ((BitVec.ofInt 32 (a : Int) &&& BitVec.ofInt 32 (b : Int)).toNat : Int) = _
  rw [BitVec.toNat_and, ofInt32_nat ha, ofInt32_nat hb, wrap_u32]
  have : a &&& b < 2 ^ 32 := Nat.and_lt_two_pow a hb
  omega
theorem lor32_nn {a b : Nat} (ha : a < 4294967296) (hb : b < 4294967296) : ilor .u32 (a : Int) (b : Int) = ((a ||| b : Nat) : Int) := by
  show IntKind.wrap .u32 ((BitVec.ofInt 32 (a : Int) ||| BitVec.ofInt 32 (b : Int)).toNat : Int) = _
  rw [BitVec.toNat_or, ofInt32_nat ha, ofInt32_nat hb, wrap_u32]
  have : a ||| b < 2 ^ 32 := Nat.or_lt_two_pow ha hb
  omega
theorem or_high {c x s : Nat} (hc : c < 2 ^ s) : c ||| x * 2 ^ s = c + x * 2 ^ s := by
  rw [Nat.or_comm, Nat.mul_comm, ← Nat.two_pow_add_eq_or_of_lt hc]; omega
theorem tmod32 (n : Nat) : Int.tmod (n : Int) 32 = ((n % 32 : Nat) : Int) := by rw [Int.tmod_eq_emod_of_nonneg (by omega)]; omega
theorem tdiv32 (n : Nat) : Int.tdiv (n : Int) 32 = ((n / 32 : Nat) : Int) := by rw [Int.tdiv_eq_ediv_of_nonneg (by omega)]; omega

theorem dig_split {K p o : Nat} (_hp : p < K) (_ho : o < 4294967296 ^ K) : ∃ h l, l < 4294967296 ^ p ∧ o = (h * 4294967296 + o / 4294967296 ^ p % 4294967296) * 4294967296 ^ p + l := by
  refine ⟨o / 4294967296 ^ (p + 1), o % 4294967296 ^ p, Nat.mod_lt _ (pw_pos p), ?_⟩
  rw [Nat.pow_succ, ← Nat.div_div_eq_div_mul]
  have h1 := Nat.div_add_mod' o (4294967296 ^ p)
  have h2 := Nat.div_add_mod' (o / 4294967296 ^ p) 4294967296
  rw [h2, h1]
theorem dig_parts {h d l p j : Nat} (hl : l < 4294967296 ^ p) (hd : d < 4294967296) : ((h * 4294967296 + d) * 4294967296 ^ p + l) / 4294967296 ^ j % 4294967296 =
    if j < p then l / 4294967296 ^ j % 4294967296 else if j = p then d else h / 4294967296 ^ (j - p - 1) % 4294967296 := by
  split
  · rename_i hj
    obtain ⟨e, rfl⟩ : ∃ e, p = j + (e + 1) := ⟨p - j - 1, by omega⟩
    have hi := pw_pos j
    rw [Nat.pow_add, Nat.mul_left_comm, Nat.mul_comm (4294967296 ^ j), Nat.add_comm, Nat.mul_comm, Nat.add_mul_div_left _ _ hi, Nat.pow_succ, ← Nat.mul_assoc, Nat.add_mul_mod_self_right]
  · split
    · rename_i hj; subst hj
      rw [Nat.mul_comm, Nat.mul_add_div (pw_pos j), Nat.div_eq_of_lt hl]; omega
    · obtain ⟨e, rfl⟩ : ∃ e, j = p + 1 + e := ⟨j - p - 1, by omega⟩
      have e1 : p + 1 + e - p - 1 = e := by omega
      rw [e1, Nat.pow_add, ← Nat.div_div_eq_div_mul, Nat.pow_succ, ← Nat.div_div_eq_div_mul, Nat.mul_comm (h * 4294967296 + d), Nat.mul_add_div (pw_pos p), Nat.div_eq_of_lt hl]
      congr 2
      omega
theorem dg_set {K p o o' d : Nat} (hp : p < K) (ho : o < 4294967296 ^ K) (hd : d < 4294967296) (he : o' + o / 4294967296 ^ p % 4294967296 * 4294967296 ^ p = o + d * 4294967296 ^ p) :
    (dg K o).set p (.i (d : Int)) = dg K o' ∧ o' < 4294967296 ^ K := by
  obtain ⟨h, l, hl, hs⟩ := dig_split hp ho
  have hx := dig_lt o p
  generalize o / 4294967296 ^ p % 4294967296 = x at *
  have ho' : o' = (h * 4294967296 + d) * 4294967296 ^ p + l := by
    rw [Nat.add_mul] at hs ⊢
    omega
  have hK : h < 4294967296 ^ (K - p - 1) := by
    refine Nat.lt_of_not_le fun hc => ?_
    have h1 : 4294967296 ^ (K - p - 1) * (4294967296 * 4294967296 ^ p) ≤ h * (4294967296 * 4294967296 ^ p) := Nat.mul_le_mul_right _ hc
    have h2 : 4294967296 ^ (K - p - 1) * (4294967296 * 4294967296 ^ p) = 4294967296 ^ K := by
      rw [Nat.mul_comm 4294967296 (4294967296 ^ p), ← Nat.pow_succ, ← Nat.pow_add]; congr 1; omega
    rw [h2, ← Nat.mul_assoc] at h1
    rw [Nat.add_mul] at hs
    omega
  constructor
  · apply List.ext_getElem?
    intro j
    rw [List.getElem?_set]
    unfold dg
    rw [List.length_map, List.length_range, List.getElem?_map, List.getElem?_map]
    by_cases hj : p = j
    · subst hj
      rw [if_pos rfl, if_pos hp, List.getElem?_range hp, ho']
      simp only [Option.map_some]
      rw [dig_parts hl hd, if_neg (Nat.lt_irrefl _), if_pos rfl]
    · rw [if_neg hj]
      by_cases hjK : j < K
      · rw [List.getElem?_range hjK]
        simp only [Option.map_some]
        rw [ho', dig_parts hl hd, hs, dig_parts hl hx]
        split
        · rfl
        · rw [if_neg (fun h => hj h.symm), if_neg (fun h => hj h.symm)]
      · rw [List.getElem?_eq_none (by simpa using hjK)]; rfl
  · rw [ho']
    have h1 : (h + 1) * (4294967296 * 4294967296 ^ p) ≤ 4294967296 ^ (K - p - 1) * (4294967296 * 4294967296 ^ p) := Nat.mul_le_mul_right _ hK
    have h2 : 4294967296 ^ (K - p - 1) * (4294967296 * 4294967296 ^ p) = 4294967296 ^ K := by
      rw [Nat.mul_comm 4294967296 (4294967296 ^ p), ← Nat.pow_succ, ← Nat.pow_add]; congr 1; omega
    rw [h2] at h1
    have h3 : (d + 1) * 4294967296 ^ p ≤ 4294967296 * 4294967296 ^ p := Nat.mul_le_mul_right _ hd
    rw [Nat.add_mul, ← Nat.mul_assoc] at h1
    rw [Nat.add_mul] at h3 ⊢
    omega
theorem dlen_ofK {n k K : Nat} (h : n < 2 ^ k) (hk : k ≤ 32 * K) : dlen n ≤ K := by
  rw [dlen_le, pow32]; exact Nat.lt_of_lt_of_le h (Nat.pow_le_pow_right (by decide) hk)
theorem dlen_of {n k : Nat} (h : n < 2 ^ k) (hk : k ≤ 33554432) : dlen n ≤ 1048576 := dlen_ofK h (by omega)
theorem dlen_blen {n : Nat} (h : blen n ≤ 33554432) : dlen n ≤ 1048576 := dlen_of (blen_self) h
end Go.Rnd

