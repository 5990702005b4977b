/- The functions of the statements, as lists of plain steps (part 0). Written by the generator. -/
import Derived.Test.YtacciadcmiiimaaC4
import Derived.Test.YtacciadcmiiimaaProg
import Derived.KernelRfl
namespace Go.Proofs.Ytacciadcmiiimaa
open Go Go.Sx
set_option maxRecDepth 100000
set_option maxHeartbeats 4000000
abbrev ilt (a b : Int) : Bool := decide (a < b)
def s69 : Sig := ⟨[.s (.one (.i .u64 (.h 0)))], [], [.i], .s (.one (.i .i64 (.h 0))), [], [.i], true⟩
def o69 : Out := ⟨[(1, .geq (.r 0) (.z 4294967296)), (2, .shr .u64 (.r 0) (.z 32)), (3, .itei (.r 1) (.r 2) (.r 0)), (4, .itei (.r 1) (.z 32) (.z 0)), (5, .geq (.r 3) (.z 65536)), (6, .shr .u64 (.r 3) (.z 16)), (7, .add .i64 (.r 4) (.z 16)), (8, .itei (.r 5) (.r 6) (.r 3)), (9, .itei (.r 5) (.r 7) (.r 4)), (10, .geq (.r 8) (.z 256)), (11, .shr .u64 (.r 8) (.z 8)), (12, .add .i64 (.r 9) (.z 8)), (13, .itei (.r 10) (.r 11) (.r 8)), (14, .itei (.r 10) (.r 12) (.r 9)), (15, .conv .u8 (.r 13)), (16, .geq (.r 15) (.z 0)), (17, .lss (.r 15) (.z 256)), (18, .seli [.z 0, .z 1, .z 2, .z 2, .z 3, .z 3, .z 3, .z 3, .z 4, .z 4, .z 4, .z 4, .z 4, .z 4, .z 4, .z 4, .z 5, .z 5, .z 5, .z 5, .z 5, .z 5, .z 5, .z 5, .z 5, .z 5, .z 5, .z 5, .z 5, .z 5, .z 5, .z 5, .z 6, .z 6, .z 6, .z 6, .z 6, .z 6, .z 6, .z 6, .z 6, .z 6, .z 6, .z 6, .z 6, .z 6, .z 6, .z 6, .z 6, .z 6, .z 6, .z 6, .z 6, .z 6, .z 6, .z 6, .z 6, .z 6, .z 6, .z 6, .z 6, .z 6, .z 6, .z 6, .z 7, .z 7, .z 7, .z 7, .z 7, .z 7, .z 7, .z 7, .z 7, .z 7, .z 7, .z 7, .z 7, .z 7, .z 7, .z 7, .z 7, .z 7, .z 7, .z 7, .z 7, .z 7, .z 7, .z 7, .z 7, .z 7, .z 7, .z 7, .z 7, .z 7, .z 7, .z 7, .z 7, .z 7, .z 7, .z 7, .z 7, .z 7, .z 7, .z 7, .z 7, .z 7, .z 7, .z 7, .z 7, .z 7, .z 7, .z 7, .z 7, .z 7, .z 7, .z 7, .z 7, .z 7, .z 7, .z 7, .z 7, .z 7, .z 7, .z 7, .z 7, .z 7, .z 7, .z 7, .z 8, .z 8, .z 8, .z 8, .z 8, .z 8, .z 8, .z 8, .z 8, .z 8, .z 8, .z 8, .z 8, .z 8, .z 8, .z 8, .z 8, .z 8, .z 8, .z 8, .z 8, .z 8, .z 8, .z 8, .z 8, .z 8, .z 8, .z 8, .z 8, .z 8, .z 8, .z 8, .z 8, .z 8, .z 8, .z 8, .z 8, .z 8, .z 8, .z 8, .z 8, .z 8, .z 8, .z 8, .z 8, .z 8, .z 8, .z 8, .z 8, .z 8, .z 8, .z 8, .z 8, .z 8, .z 8, .z 8, .z 8, .z 8, .z 8, .z 8, .z 8, .z 8, .z 8, .z 8, .z 8, .z 8, .z 8, .z 8, .z 8, .z 8, .z 8, .z 8, .z 8, .z 8, .z 8, .z 8, .z 8, .z 8, .z 8, .z 8, .z 8, .z 8, .z 8, .z 8, .z 8, .z 8, .z 8, .z 8, .z 8, .z 8, .z 8, .z 8, .z 8, .z 8, .z 8, .z 8, .z 8, .z 8, .z 8, .z 8, .z 8, .z 8, .z 8, .z 8, .z 8, .z 8, .z 8, .z 8, .z 8, .z 8, .z 8, .z 8, .z 8, .z 8, .z 8, .z 8, .z 8, .z 8, .z 8, .z 8, .z 8, .z 8, .z 8, .z 8, .z 8, .z 8, .z 8, .z 8] (.r 15)), (19, .conv .i64 (.r 18)), (20, .add .i64 (.r 14) (.r 19))],
  [⟨[], .r 16⟩, ⟨[], .r 17⟩],
  [],
  [.r 20]⟩
noncomputable def p69 (x0 : Int) : Bool :=
  let x1 := decide (x0 ≥ 4294967296)
  let x2 := ishr .u64 x0 32
  let x3 := bif x1 then x2 else x0
  let x5 := decide (x3 ≥ 65536)
  let x6 := ishr .u64 x3 16
  let x8 := bif x5 then x6 else x3
  let x10 := decide (x8 ≥ 256)
  let x11 := ishr .u64 x8 8
  let x13 := bif x10 then x11 else x8
  let x15 := IntKind.wrap .u8 x13
  let x16 := decide (x15 ≥ 0)
  let x17 := decide (x15 < 256)
  [ow [] x16, ow [] x17].all id
noncomputable def r69_0 (x0 : Int) : Int :=
  let x1 := decide (x0 ≥ 4294967296)
  let x2 := ishr .u64 x0 32
  let x3 := bif x1 then x2 else x0
  let x4 : Int := bif x1 then 32 else 0
  let x5 := decide (x3 ≥ 65536)
  let x6 := ishr .u64 x3 16
  let x7 := IntKind.wrap .i64 (x4 + 16)
  let x8 := bif x5 then x6 else x3
  let x9 := bif x5 then x7 else x4
  let x10 := decide (x8 ≥ 256)
  let x11 := ishr .u64 x8 8
  let x12 := IntKind.wrap .i64 (x9 + 8)
  let x13 := bif x10 then x11 else x8
  let x14 := bif x10 then x12 else x9
  let x15 := IntKind.wrap .u8 x13
  let x18 := [0, 1, 2, 2, 3, 3, 3, 3, 4, 4, 4, 4, 4, 4, 4, 4, 5, 5, 5, 5, 5, 5, 5, 5, 5, 5, 5, 5, 5, 5, 5, 5, 6, 6, 6, 6, 6, 6, 6, 6, 6, 6, 6, 6, 6, 6, 6, 6, 6, 6, 6, 6, 6, 6, 6, 6, 6, 6, 6, 6, 6, 6, 6, 6, 7, 7, 7, 7, 7, 7, 7, 7, 7, 7, 7, 7, 7, 7, 7, 7, 7, 7, 7, 7, 7, 7, 7, 7, 7, 7, 7, 7, 7, 7, 7, 7, 7, 7, 7, 7, 7, 7, 7, 7, 7, 7, 7, 7, 7, 7, 7, 7, 7, 7, 7, 7, 7, 7, 7, 7, 7, 7, 7, 7, 7, 7, 7, 7, 8, 8, 8, 8, 8, 8, 8, 8, 8, 8, 8, 8, 8, 8, 8, 8, 8, 8, 8, 8, 8, 8, 8, 8, 8, 8, 8, 8, 8, 8, 8, 8, 8, 8, 8, 8, 8, 8, 8, 8, 8, 8, 8, 8, 8, 8, 8, 8, 8, 8, 8, 8, 8, 8, 8, 8, 8, 8, 8, 8, 8, 8, 8, 8, 8, 8, 8, 8, 8, 8, 8, 8, 8, 8, 8, 8, 8, 8, 8, 8, 8, 8, 8, 8, 8, 8, 8, 8, 8, 8, 8, 8, 8, 8, 8, 8, 8, 8, 8, 8, 8, 8, 8, 8, 8, 8, 8, 8, 8, 8, 8, 8, 8, 8, 8, 8, 8, 8, 8, 8, 8, 8, 8, 8, 8, 8, 8, 8].getD (Int.toNat x15) 0
  let x19 := IntKind.wrap .i64 x18
  let x20 := IntKind.wrap .i64 (x14 + x19)
  x20
noncomputable def g69 (ds : List DV) : List DV := [.b (p69 (dget ds 0).toI), .i (r69_0 (dget ds 0).toI)]
def S69 : Sigs := ⟨[], [], [], 0⟩

def s115 : Sig := ⟨[.s (.one (.i .u64 (.h 0)))], [], [.i], .s (.one (.i .i64 (.h 0))), [], [.i], true⟩
def o115 : Out := ⟨[(1, .call 69 [.r 0] 0), (2, .call 69 [.r 0] 1), (3, .sub .i64 (.z 64) (.r 2))],
  [⟨[], .r 1⟩],
  [],
  [.r 3]⟩
noncomputable def p115 (x0 : Int) : Bool :=
  let x1 := p69 x0
  [ow [] x1].all id
noncomputable def r115_0 (x0 : Int) : Int :=
  let x2 := r69_0 x0
  let x3 := IntKind.wrap .i64 (64 - x2)
  x3
noncomputable def g115 (ds : List DV) : List DV := [.b (p115 (dget ds 0).toI), .i (r115_0 (dget ds 0).toI)]
def S115 : Sigs := ⟨[(69, s69)], [], [], 0⟩

noncomputable def r91_0 (x0 : Int) (x1 : Int) : Bool :=
  let x2 := x0 == 4
  let x3 := x0 == 8
  let x4 := x2 || x3
  let x5 := decide (x1 ≥ 0)
  let x6 := x4 && x5
  let x7 := decide (x1 ≤ 4)
  let x8 := x6 && x7
  x8
noncomputable def r92_0 (x0 : Int) : Int :=
  let x1 := x0 == 4
  let x2 := !x1
  let x3 : Int := bif x2 then 52 else 23
  x3
noncomputable def r92_1 (x0 : Int) : Int :=
  let x1 := x0 == 4
  let x2 := !x1
  let x4 : Int := bif x2 then 1023 else 127
  x4
noncomputable def r92_2 (x0 : Int) : Int :=
  let x1 := x0 == 4
  let x2 := !x1
  let x5 : Int := bif x2 then 9223372036854775808 else 2147483648
  x5
noncomputable def r96_0 (x0 : Int) (x1 : Int) : Int :=
  let x3 := IntKind.wrap .i64 (2 * x1)
  let x4 := IntKind.wrap .i64 (x3 + 1)
  let x5 := IntKind.wrap .u64 x4
  let x7 := ishl .u64 x5 x0
  x7
noncomputable def r95_0 (x2 : Int) (x3 : Bool) (x4 : Int) : Int :=
  let x5 := ilor .u64 x4 x2
  let x6 := !x3
  let x7 := bif x6 then x4 else x5
  x7
noncomputable def r127_0 (x0 : Int) (x1 : Bool) (x2 : Bool) (x3 : Int) (x4 : Int) : Bool :=
  let x5 := x0 == 0
  let x6 := decide (x3 > x4)
  let x7 := x3 == x4
  let x8 := x7 && x2
  let x9 := x6 || x8
  let x10 := x0 == 2
  let x11 := x3 != 0
  let x12 := x1 && x11
  let x13 := x0 == 3
  let x14 := !x1
  let x15 := x3 != 0
  let x16 := x14 && x15
  let x17 := x0 == 4
  let x18 := decide (x3 ≥ x4)
  let x19 := !x17
  let x20 := bif x13 then false else x19
  let x21 := bif x10 then false else x20
  let x22 := bif x5 then false else x21
  let x23 := bif x13 then x16 else x18
  let x24 := bif x10 then x12 else x23
  let x25 := bif x5 then x9 else x24
  let x26 := bif x22 then false else x25
  x26
noncomputable def r122_0 (x0 : Int) (x1 : Bool) (x2 : Int) (x3 : Int) : Int :=
  let x4 := decide (x3 > 64)
  let x5 := bif x4 then 1 else x2
  let x6 := bif x4 then 2 else x3
  let x7 := x6 == 64
  let x8 := r127_0 x0 x1 false x5 9223372036854775808
  let x9 : Int := bif x8 then 1 else 0
  let x11 := !x7
  let x13 := ishl .u64 1 x6
  let x14 := IntKind.wrap .u64 (x13 - 1)
  let x15 := iland .u64 x5 x14
  let x17 := ishr .u64 x5 x6
  let x18 := iland .u64 x17 1
  let x19 := x18 == 1
  let x20 := IntKind.wrap .i64 (x6 - 1)
  let x22 := ishl .u64 1 x20
  let x23 := r127_0 x0 x1 x19 x15 x22
  let x24 := IntKind.wrap .u64 (x17 + 1)
  let x25 := bif x23 then x24 else x17
  let x27 := bif x11 then x25 else x9
  x27
noncomputable def r122_1 (x2 : Int) (x3 : Int) : Bool :=
  let x4 := decide (x3 > 64)
  let x5 := bif x4 then 1 else x2
  let x6 := bif x4 then 2 else x3
  let x7 := x6 == 64
  let x10 := x5 == 0
  let x11 := !x7
  let x13 := ishl .u64 1 x6
  let x14 := IntKind.wrap .u64 (x13 - 1)
  let x15 := iland .u64 x5 x14
  let x26 := x15 == 0
  let x28 := bif x11 then x26 else x10
  x28
end Go.Proofs.Ytacciadcmiiimaa

namespace Go.Proofs.Ytacciadcmiiimaa
open Go Go.Sx
set_option maxRecDepth 100000
set_option maxHeartbeats 4000000

def s89 : Sig := ⟨[.s (.one (.i .i64 (.h 0)))], [], [.i], .t [.one (.i .i64 (.h 0)), .one (.i .i64 (.h 1))], [], [.i, .i], false⟩
def o89 : Out := ⟨[(1, .eql (.r 0) (.z 4)), (2, .not (.r 1)), (3, .itei (.r 2) (.z 52) (.z 23)), (4, .itei (.r 2) (.z 11) (.z 8))],
  [],
  [],
  [.r 3, .r 4]⟩
noncomputable def r89_0 (x0 : Int) : Int :=
  let x1 := x0 == 4
  let x2 := !x1
  let x3 : Int := bif x2 then 52 else 23
  x3
noncomputable def r89_1 (x0 : Int) : Int :=
  let x1 := x0 == 4
  let x2 := !x1
  let x4 : Int := bif x2 then 11 else 8
  x4
noncomputable def g89 (ds : List DV) : List DV := [.i (r89_0 (dget ds 0).toI), .i (r89_1 (dget ds 0).toI)]
def S89 : Sigs := ⟨[], [], [], 0⟩

def s42 : Sig := ⟨[.s (.one (.i .i64 (.h 0))), .s (.one (.i .u64 (.h 1)))], [], [.i, .i], .s (.one (.i .u64 (.h 0))), [], [.i], false⟩
def o42 : Out := ⟨[(2, .eql (.r 0) (.z 4)), (3, .land .u64 (.r 1) (.z 4294967295)), (4, .not (.r 2)), (5, .itei (.r 4) (.r 1) (.r 3))],
  [],
  [],
  [.r 5]⟩
noncomputable def r42_0 (x0 : Int) (x1 : Int) : Int :=
  let x2 := x0 == 4
  let x3 := iland .u64 x1 4294967295
  let x4 := !x2
  let x5 := bif x4 then x1 else x3
  x5
noncomputable def g42 (ds : List DV) : List DV := [.i (r42_0 (dget ds 0).toI (dget ds 1).toI)]
def S42 : Sigs := ⟨[], [], [], 0⟩

def s90 : Sig := ⟨[.s (.one (.i .i64 (.h 0))), .s (.one (.i .u64 (.h 1)))], [], [.i, .i], .t [.one (.b (.h 0)), .one (.i .i64 (.h 1)), .one (.i .u64 (.h 2))], [], [.b, .i, .i], true⟩
def o90 : Out := ⟨[(2, .call 89 [.r 0] 0), (3, .call 89 [.r 0] 1), (4, .call 42 [.r 0, .r 1] 0), (5, .add .i64 (.r 2) (.r 3)), (6, .geq (.r 5) (.z 0)), (7, .shr .u64 (.r 4) (.r 5)), (8, .eql (.r 7) (.z 1)), (9, .geq (.r 2) (.z 0)), (10, .shr .u64 (.r 4) (.r 2)), (11, .geq (.r 3) (.z 0)), (12, .shl .u64 (.z 1) (.r 3)), (13, .sub .u64 (.r 12) (.z 1)), (14, .land .u64 (.r 10) (.r 13)), (15, .conv .i64 (.r 14)), (16, .geq (.r 2) (.z 0)), (17, .shl .u64 (.z 1) (.r 2)), (18, .sub .u64 (.r 17) (.z 1)), (19, .land .u64 (.r 4) (.r 18))],
  [⟨[], .r 6⟩, ⟨[], .r 9⟩, ⟨[], .r 11⟩, ⟨[], .r 16⟩],
  [],
  [.r 8, .r 15, .r 19]⟩
noncomputable def p90 (x0 : Int) : Bool :=
  let x2 := r89_0 x0
  let x3 := r89_1 x0
  let x5 := IntKind.wrap .i64 (x2 + x3)
  let x6 := decide (x5 ≥ 0)
  let x9 := decide (x2 ≥ 0)
  let x11 := decide (x3 ≥ 0)
  let x16 := decide (x2 ≥ 0)
  [ow [] x6, ow [] x9, ow [] x11, ow [] x16].all id
noncomputable def r90_0 (x0 : Int) (x1 : Int) : Bool :=
  let x2 := r89_0 x0
  let x3 := r89_1 x0
  let x4 := r42_0 x0 x1
  let x5 := IntKind.wrap .i64 (x2 + x3)
  let x7 := ishr .u64 x4 x5
  let x8 := x7 == 1
  x8
noncomputable def r90_1 (x0 : Int) (x1 : Int) : Int :=
  let x2 := r89_0 x0
  let x3 := r89_1 x0
  let x4 := r42_0 x0 x1
  let x10 := ishr .u64 x4 x2
  let x12 := ishl .u64 1 x3
  let x13 := IntKind.wrap .u64 (x12 - 1)
  let x14 := iland .u64 x10 x13
  let x15 := IntKind.wrap .i64 x14
  x15
noncomputable def r90_2 (x0 : Int) (x1 : Int) : Int :=
  let x2 := r89_0 x0
  let x4 := r42_0 x0 x1
  let x17 := ishl .u64 1 x2
  let x18 := IntKind.wrap .u64 (x17 - 1)
  let x19 := iland .u64 x4 x18
  x19
noncomputable def g90 (ds : List DV) : List DV := [.b (p90 (dget ds 0).toI), .b (r90_0 (dget ds 0).toI (dget ds 1).toI), .i (r90_1 (dget ds 0).toI (dget ds 1).toI), .i (r90_2 (dget ds 0).toI (dget ds 1).toI)]
def S90 : Sigs := ⟨[(89, s89), (42, s42)], [], [], 0⟩

def s39 : Sig := ⟨[.s (.one (.i .i64 (.h 0))), .s (.one (.i .u64 (.h 1)))], [], [.i, .i], .s (.one (.b (.h 0))), [], [.b], true⟩
def o39 : Out := ⟨List.append (List.append ([(2, .call 89 [.r 0] 0), (3, .call 89 [.r 0] 1)]) (callsAt 4 90 [.r 0, .r 1] 0 4)) ([(8, .geq (.r 3) (.z 0)), (9, .shl .i64 (.z 1) (.r 3)), (10, .sub .i64 (.r 9) (.z 1)), (11, .eql (.r 6) (.r 10)), (12, .neq (.r 7) (.z 0)), (13, .and (.r 11) (.r 12))]),
  [⟨[], .r 4⟩, ⟨[], .r 8⟩],
  [],
  [.r 13]⟩
noncomputable def p39 (x0 : Int) : Bool :=
  let x3 := r89_1 x0
  let x4 := p90 x0
  let x8 := decide (x3 ≥ 0)
  [ow [] x4, ow [] x8].all id
noncomputable def r39_0 (x0 : Int) (x1 : Int) : Bool :=
  let x3 := r89_1 x0
  let x6 := r90_1 x0 x1
  let x7 := r90_2 x0 x1
  let x9 := ishl .i64 1 x3
  let x10 := IntKind.wrap .i64 (x9 - 1)
  let x11 := x6 == x10
  let x12 := x7 != 0
  let x13 := x11 && x12
  x13
noncomputable def g39 (ds : List DV) : List DV := [.b (p39 (dget ds 0).toI), .b (r39_0 (dget ds 0).toI (dget ds 1).toI)]
def S39 : Sigs := ⟨[(89, s89), (90, s90)], [], [], 0⟩

def s40 : Sig := ⟨[.s (.one (.i .i64 (.h 0)))], [], [.i], .s (.one (.i .u64 (.h 0))), [], [.i], false⟩
def o40 : Out := ⟨[(1, .eql (.r 0) (.z 4)), (2, .not (.r 1)), (3, .itei (.r 2) (.z 9221120237041090560) (.z 2143289344))],
  [],
  [],
  [.r 3]⟩
noncomputable def r40_0 (x0 : Int) : Int :=
  let x1 := x0 == 4
  let x2 := !x1
  let x3 : Int := bif x2 then 9221120237041090560 else 2143289344
  x3
noncomputable def g40 (ds : List DV) : List DV := [.i (r40_0 (dget ds 0).toI)]
def S40 : Sigs := ⟨[], [], [], 0⟩

def s41 : Sig := ⟨[.s (.one (.i .i64 (.h 0))), .s (.one (.i .u64 (.h 1)))], [], [.i, .i], .s (.one (.b (.h 0))), [], [.b], true⟩
def o41 : Out := ⟨List.append (List.append ([(2, .call 89 [.r 0] 0), (3, .call 89 [.r 0] 1)]) (callsAt 4 90 [.r 0, .r 1] 0 4)) ([(8, .call 39 [.r 0, .r 1] 0), (9, .call 39 [.r 0, .r 1] 1), (10, .sub .i64 (.r 2) (.z 1)), (11, .geq (.r 10) (.z 0)), (12, .shr .u64 (.r 7) (.r 10)), (13, .eql (.r 12) (.z 0)), (14, .and (.r 9) (.r 13))]),
  [⟨[], .r 4⟩, ⟨[], .r 8⟩, ⟨[(.r 9, true)], .r 11⟩],
  [],
  [.r 14]⟩
noncomputable def p41 (x0 : Int) (x1 : Int) : Bool :=
  let x2 := r89_0 x0
  let x4 := p90 x0
  let x8 := p39 x0
  let x9 := r39_0 x0 x1
  let x10 := IntKind.wrap .i64 (x2 - 1)
  let x11 := decide (x10 ≥ 0)
  [ow [] x4, ow [] x8, ow [(x9, true)] x11].all id
noncomputable def r41_0 (x0 : Int) (x1 : Int) : Bool :=
  let x2 := r89_0 x0
  let x7 := r90_2 x0 x1
  let x9 := r39_0 x0 x1
  let x10 := IntKind.wrap .i64 (x2 - 1)
  let x12 := ishr .u64 x7 x10
  let x13 := x12 == 0
  let x14 := x9 && x13
  x14
noncomputable def g41 (ds : List DV) : List DV := [.b (p41 (dget ds 0).toI (dget ds 1).toI), .b (r41_0 (dget ds 0).toI (dget ds 1).toI)]
def S41 : Sigs := ⟨[(89, s89), (90, s90), (39, s39)], [], [], 0⟩

def s56 : Sig := ⟨[.s (.one (.i .i64 (.h 0))), .s (.one (.i .u64 (.h 1)))], [], [.i, .i], .s (.one (.b (.h 0))), [], [.b], true⟩
def o56 : Out := ⟨List.append (List.append ([(2, .call 89 [.r 0] 0), (3, .call 89 [.r 0] 1)]) (callsAt 4 90 [.r 0, .r 1] 0 4)) ([(8, .geq (.r 3) (.z 0)), (9, .shl .i64 (.z 1) (.r 3)), (10, .sub .i64 (.r 9) (.z 1)), (11, .eql (.r 6) (.r 10)), (12, .eql (.r 7) (.z 0)), (13, .and (.r 11) (.r 12))]),
  [⟨[], .r 4⟩, ⟨[], .r 8⟩],
  [],
  [.r 13]⟩
noncomputable def p56 (x0 : Int) : Bool :=
  let x3 := r89_1 x0
  let x4 := p90 x0
  let x8 := decide (x3 ≥ 0)
  [ow [] x4, ow [] x8].all id
noncomputable def r56_0 (x0 : Int) (x1 : Int) : Bool :=
  let x3 := r89_1 x0
  let x6 := r90_1 x0 x1
  let x7 := r90_2 x0 x1
  let x9 := ishl .i64 1 x3
  let x10 := IntKind.wrap .i64 (x9 - 1)
  let x11 := x6 == x10
  let x12 := x7 == 0
  let x13 := x11 && x12
  x13
noncomputable def g56 (ds : List DV) : List DV := [.b (p56 (dget ds 0).toI), .b (r56_0 (dget ds 0).toI (dget ds 1).toI)]
def S56 : Sigs := ⟨[(89, s89), (90, s90)], [], [], 0⟩

def s61 : Sig := ⟨[.s (.one (.i .i64 (.h 0))), .s (.one (.i .u64 (.h 1)))], [], [.i, .i], .s (.one (.b (.h 0))), [], [.b], true⟩
def o61 : Out := ⟨List.append (callsAt 2 90 [.r 0, .r 1] 0 4) ([(6, .eql (.r 4) (.z 0)), (7, .eql (.r 5) (.z 0)), (8, .and (.r 6) (.r 7))]),
  [⟨[], .r 2⟩],
  [],
  [.r 8]⟩
noncomputable def p61 (x0 : Int) : Bool :=
  let x2 := p90 x0
  [ow [] x2].all id
noncomputable def r61_0 (x0 : Int) (x1 : Int) : Bool :=
  let x4 := r90_1 x0 x1
  let x5 := r90_2 x0 x1
  let x6 := x4 == 0
  let x7 := x5 == 0
  let x8 := x6 && x7
  x8
noncomputable def g61 (ds : List DV) : List DV := [.b (p61 (dget ds 0).toI), .b (r61_0 (dget ds 0).toI (dget ds 1).toI)]
def S61 : Sigs := ⟨[(90, s90)], [], [], 0⟩

def s74 : Sig := ⟨[.s (.one (.i .i64 (.h 0))), .s (.one (.i .u64 (.h 1)))], [], [.i, .i], .s (.one (.b (.h 0))), [], [.b], true⟩
def o74 : Out := ⟨callsAt 2 90 [.r 0, .r 1] 0 4,
  [⟨[], .r 2⟩],
  [],
  [.r 3]⟩
noncomputable def p74 (x0 : Int) : Bool :=
  let x2 := p90 x0
  [ow [] x2].all id
noncomputable def r74_0 (x0 : Int) (x1 : Int) : Bool :=
  let x3 := r90_0 x0 x1
  x3
noncomputable def g74 (ds : List DV) : List DV := [.b (p74 (dget ds 0).toI), .b (r74_0 (dget ds 0).toI (dget ds 1).toI)]
def S74 : Sigs := ⟨[(90, s90)], [], [], 0⟩

def s85 : Sig := ⟨[.s (.one (.i .i64 (.h 0))), .s (.one (.b (.h 1)))], [], [.i, .b], .s (.one (.i .u64 (.h 0))), [], [.i], true⟩
def o85 : Out := ⟨[(2, .mul .i64 (.z 8) (.r 0)), (3, .sub .i64 (.r 2) (.z 1)), (4, .geq (.r 3) (.z 0)), (5, .shl .u64 (.z 1) (.r 3)), (6, .not (.r 1)), (7, .itei (.r 6) (.z 0) (.r 5))],
  [⟨[(.r 1, true)], .r 4⟩],
  [],
  [.r 7]⟩
noncomputable def p85 (x0 : Int) (x1 : Bool) : Bool :=
  let x2 := IntKind.wrap .i64 (8 * x0)
  let x3 := IntKind.wrap .i64 (x2 - 1)
  let x4 := decide (x3 ≥ 0)
  [ow [(x1, true)] x4].all id
noncomputable def r85_0 (x0 : Int) (x1 : Bool) : Int :=
  let x2 := IntKind.wrap .i64 (8 * x0)
  let x3 := IntKind.wrap .i64 (x2 - 1)
  let x5 := ishl .u64 1 x3
  let x6 := !x1
  let x7 := bif x6 then 0 else x5
  x7
noncomputable def g85 (ds : List DV) : List DV := [.b (p85 (dget ds 0).toI (dget ds 1).toB), .i (r85_0 (dget ds 0).toI (dget ds 1).toB)]
def S85 : Sigs := ⟨[], [], [], 0⟩

def s84 : Sig := ⟨[.s (.one (.i .i64 (.h 0))), .s (.one (.b (.h 1)))], [], [.i, .b], .s (.one (.i .u64 (.h 0))), [], [.i], true⟩
def o84 : Out := ⟨[(2, .call 89 [.r 0] 0), (3, .call 89 [.r 0] 1), (4, .call 85 [.r 0, .r 1] 0), (5, .call 85 [.r 0, .r 1] 1), (6, .geq (.r 3) (.z 0)), (7, .shl .u64 (.z 1) (.r 3)), (8, .sub .u64 (.r 7) (.z 1)), (9, .geq (.r 2) (.z 0)), (10, .shl .u64 (.r 8) (.r 2)), (11, .lor .u64 (.r 5) (.r 10))],
  [⟨[], .r 4⟩, ⟨[], .r 6⟩, ⟨[], .r 9⟩],
  [],
  [.r 11]⟩
noncomputable def p84 (x0 : Int) (x1 : Bool) : Bool :=
  let x2 := r89_0 x0
  let x3 := r89_1 x0
  let x4 := p85 x0 x1
  let x6 := decide (x3 ≥ 0)
  let x9 := decide (x2 ≥ 0)
  [ow [] x4, ow [] x6, ow [] x9].all id
noncomputable def r84_0 (x0 : Int) (x1 : Bool) : Int :=
  let x2 := r89_0 x0
  let x3 := r89_1 x0
  let x5 := r85_0 x0 x1
  let x7 := ishl .u64 1 x3
  let x8 := IntKind.wrap .u64 (x7 - 1)
  let x10 := ishl .u64 x8 x2
  let x11 := ilor .u64 x5 x10
  x11
noncomputable def g84 (ds : List DV) : List DV := [.b (p84 (dget ds 0).toI (dget ds 1).toB), .i (r84_0 (dget ds 0).toI (dget ds 1).toB)]
def S84 : Sigs := ⟨[(89, s89), (85, s85)], [], [], 0⟩

def s119 : Sig := ⟨[.s (.one (.i .i64 (.h 0))), .s (.one (.b (.h 1)))], [], [.i, .b], .s (.one (.i .u64 (.h 0))), [], [.i], true⟩
def o119 : Out := ⟨[(2, .call 84 [.r 0, .r 1] 0), (3, .call 84 [.r 0, .r 1] 1), (4, .sub .u64 (.r 3) (.z 1))],
  [⟨[], .r 2⟩],
  [],
  [.r 4]⟩
noncomputable def p119 (x0 : Int) (x1 : Bool) : Bool :=
  let x2 := p84 x0 x1
  [ow [] x2].all id
noncomputable def r119_0 (x0 : Int) (x1 : Bool) : Int :=
  let x3 := r84_0 x0 x1
  let x4 := IntKind.wrap .u64 (x3 - 1)
  x4
noncomputable def g119 (ds : List DV) : List DV := [.b (p119 (dget ds 0).toI (dget ds 1).toB), .i (r119_0 (dget ds 0).toI (dget ds 1).toB)]
def S119 : Sigs := ⟨[(84, s84)], [], [], 0⟩

def s126 : Sig := ⟨[.s (.one (.i .i64 (.h 0))), .s (.one (.b (.h 1))), .s (.one (.b (.h 2))), .s (.one (.b (.h 3))), .s (.one (.b (.h 4)))], [], [.i, .b, .b, .b, .b], .s (.one (.b (.h 0))), [], [.b], false⟩
def o126 : Out := ⟨[(5, .eql (.r 0) (.z 0)), (6, .or (.r 4) (.r 2)), (7, .and (.r 3) (.r 6)), (8, .eql (.r 0) (.z 2)), (9, .or (.r 3) (.r 4)), (10, .and (.r 1) (.r 9)), (11, .eql (.r 0) (.z 3)), (12, .not (.r 1)), (13, .or (.r 3) (.r 4)), (14, .and (.r 12) (.r 13)), (15, .eql (.r 0) (.z 4)), (16, .not (.r 15)), (17, .iteb (.r 11) (.t false) (.r 16)), (18, .iteb (.r 8) (.t false) (.r 17)), (19, .iteb (.r 5) (.t false) (.r 18)), (20, .iteb (.r 11) (.r 14) (.r 3)), (21, .iteb (.r 8) (.r 10) (.r 20)), (22, .iteb (.r 5) (.r 7) (.r 21)), (23, .iteb (.r 19) (.t false) (.r 22))],
  [],
  [],
  [.r 23]⟩
noncomputable def r126_0 (x0 : Int) (x1 : Bool) (x2 : Bool) (x3 : Bool) (x4 : Bool) : Bool :=
  let x5 := x0 == 0
  let x6 := x4 || x2
  let x7 := x3 && x6
  let x8 := x0 == 2
  let x9 := x3 || x4
  let x10 := x1 && x9
  let x11 := x0 == 3
  let x12 := !x1
  let x13 := x3 || x4
  let x14 := x12 && x13
  let x15 := x0 == 4
  let x16 := !x15
  let x17 := bif x11 then false else x16
  let x18 := bif x8 then false else x17
  let x19 := bif x5 then false else x18
  let x20 := bif x11 then x14 else x3
  let x21 := bif x8 then x10 else x20
  let x22 := bif x5 then x7 else x21
  let x23 := bif x19 then false else x22
  x23
noncomputable def g126 (ds : List DV) : List DV := [.b (r126_0 (dget ds 0).toI (dget ds 1).toB (dget ds 2).toB (dget ds 3).toB (dget ds 4).toB)]
def S126 : Sigs := ⟨[], [], [], 0⟩

noncomputable def w111600 (x0 : List DV) (x2 : Int) : Bool :=
  let x3 := decide (x2 > 0)
  let x4 := IntKind.wrap .i64 (x2 - 1)
  let x5 := decide (x4 ≥ 0)
  let x6 := ((x0.length / 1 : Nat) : Int)
  let x7 := decide (x4 < x6)
  [ow [(x3, true)] x5, ow [(x3, true)] x7].all id
noncomputable def c111600 (x0 : List DV) (x2 : Int) : Bool :=
  let x3 := decide (x2 > 0)
  let x4 := IntKind.wrap .i64 (x2 - 1)
  let x8 : Int := (x0.getD (Int.toNat x4 * (1 : Nat) + (0 : Nat)) default).toI
  let x9 := x8 == 0
  let x10 := x3 && x9
  x10
noncomputable def n111600_0 (_x0 : List DV) (x2 : Int) : Int :=
  let x11 := IntKind.wrap .i64 (x2 - 1)
  x11
noncomputable def t111600_0 (_x0 : List DV) (_x2 : Int) : Int :=
  0
noncomputable def t111600_1 (_x0 : List DV) (x2 : Int) : Int :=
  x2
noncomputable def W111600 (ds : List DV) : Bool := w111600 (dget ds 0).toL (dget ds 1).toI
noncomputable def C111600 (ds : List DV) : Bool := c111600 (dget ds 0).toL (dget ds 1).toI
noncomputable def N111600 (ds : List DV) : List DV := [.l (dget ds 0).toL, .i (n111600_0 (dget ds 0).toL (dget ds 1).toI)]
noncomputable def T111600 (ds : List DV) : List DV := [.i (t111600_0 (dget ds 0).toL (dget ds 1).toI), .i (t111600_1 (dget ds 0).toL (dget ds 1).toI)]
noncomputable def L111600 (x0 : List DV) (x1 : Int) : Option (List DV) := loopG W111600 C111600 N111600 T111600 [.l x0, .i x1]
noncomputable def p111600 (x0 : List DV) (x1 : Int) : Bool := (L111600 x0 x1).isSome
noncomputable def r111600_0 (x0 : List DV) (x1 : Int) : Int := (dget ((L111600 x0 x1).getD []) 0).toI
noncomputable def r111600_1 (x0 : List DV) (x1 : Int) : Int := (dget ((L111600 x0 x1).getD []) 1).toI
noncomputable def g111600 (ds : List DV) : List DV := [.b (p111600 (dget ds 0).toL (dget ds 1).toI), .i (r111600_0 (dget ds 0).toL (dget ds 1).toI), .i (r111600_1 (dget ds 0).toL (dget ds 1).toI)]
def l116_0 : LR := ⟨111600, 2, 1, [0], [(3, .gtr (.r 2) (.z 0)), (4, .sub .i64 (.r 2) (.z 1)), (5, .geq (.r 4) (.z 0)), (6, .llen 1 (.r 0)), (7, .lss (.r 4) (.r 6)), (8, .lgeti 1 0 (.r 0) (.r 4)), (9, .eql (.r 8) (.z 0)), (10, .and (.r 3) (.r 9)), (11, .sub .i64 (.r 2) (.z 1))], [⟨[(.r 3, true)], .r 5⟩, ⟨[(.r 3, true)], .r 7⟩], .r 10, [.r 11], [.z 0, .r 2], [.i]⟩
def s116 : Sig := ⟨[.s (.one (.vec 0))], [some (.v false [.int .u32] (.h 0))], [.l], .s (.one (.vec 1)), [none, some (.v false [.int .u32] (.h 0))], [.l], true⟩
def o116 : Out := ⟨List.append (List.append ([(1, .llen 1 (.r 0))]) (callsAt 2 111600 [.r 0, .r 1] 0 3)) ([(5, .geq (.r 4) (.z 0)), (6, .llen 1 (.r 0)), (7, .leq (.r 4) (.r 6)), (8, .ltake 1 (.r 0) (.r 4))]),
  [⟨[], .r 2⟩, ⟨[], .r 5⟩, ⟨[], .r 7⟩],
  [l116_0],
  [.r 8]⟩
noncomputable def p116 (x0 : List DV) : Bool :=
  let x1 := ((x0.length / 1 : Nat) : Int)
  let x2 := p111600 x0 x1
  let x4 := r111600_1 x0 x1
  let x5 := decide (x4 ≥ 0)
  let x6 := ((x0.length / 1 : Nat) : Int)
  let x7 := decide (x4 ≤ x6)
  [ow [] x2, ow [] x5, ow [] x7].all id
noncomputable def r116_0 (x0 : List DV) : List DV :=
  let x1 := ((x0.length / 1 : Nat) : Int)
  let x4 := r111600_1 x0 x1
  let x8 := x0.take (Int.toNat x4 * 1)
  x8
noncomputable def g116 (ds : List DV) : List DV := [.b (p116 (dget ds 0).toL), .l (r116_0 (dget ds 0).toL)]
def S116 : Sigs := ⟨[], [], [(0, 111600)], 1⟩

def s80 : Sig := ⟨[.s (.one (.i .u64 (.h 0)))], [], [.i], .s (.one (.vec 0)), [some (.v false [.int .u32] (.h 0))], [.l], true⟩
def o80 : Out := ⟨[(1, .conv .u32 (.r 0)), (2, .shr .u64 (.r 0) (.z 32)), (3, .conv .u32 (.r 2)), (4, .lmk [.i, .i] [.r 1, .r 3]), (5, .call 116 [.r 4] 0), (6, .call 116 [.r 4] 1)],
  [⟨[], .r 5⟩],
  [],
  [.r 6]⟩
noncomputable def p80 (x0 : Int) : Bool :=
  let x1 := IntKind.wrap .u32 x0
  let x2 := ishr .u64 x0 32
  let x3 := IntKind.wrap .u32 x2
  let x4 : List DV := [.i x1, .i x3]
  let x5 := p116 x4
  [ow [] x5].all id
noncomputable def r80_0 (x0 : Int) : List DV :=
  let x1 := IntKind.wrap .u32 x0
  let x2 := ishr .u64 x0 32
  let x3 := IntKind.wrap .u32 x2
  let x4 : List DV := [.i x1, .i x3]
  let x6 := r116_0 x4
  x6
noncomputable def g80 (ds : List DV) : List DV := [.b (p80 (dget ds 0).toI), .l (r80_0 (dget ds 0).toI)]
def S80 : Sigs := ⟨[(116, s116)], [], [], 0⟩

noncomputable def w111400 (x1 : List DV) (x0 : List DV) (x3 : List DV) (x4 : Int) (x5 : Int) (_x6 : List DV) : Bool :=
  let x7 := ((x0.length / 1 : Nat) : Int)
  let x8 := decide (x5 < x7)
  let x9 := ((x1.length / 1 : Nat) : Int)
  let x10 := decide (x5 < x9)
  let x11 := x8 || x10
  let x12 := decide (x4 > 0)
  let x13 := x11 || x12
  let x14 := ((x0.length / 1 : Nat) : Int)
  let x15 := decide (x5 < x14)
  let x16 := decide (x5 ≥ 0)
  let x17 := ((x0.length / 1 : Nat) : Int)
  let x18 := decide (x5 < x17)
  let x19 : Int := (x0.getD (Int.toNat x5 * (1 : Nat) + (0 : Nat)) default).toI
  let x20 := IntKind.wrap .u64 x19
  let x21 := IntKind.wrap .u64 (x4 + x20)
  let x22 := bif x15 then x21 else x4
  let x23 := ((x1.length / 1 : Nat) : Int)
  let x24 := decide (x5 < x23)
  let x25 := decide (x5 ≥ 0)
  let x26 := ((x1.length / 1 : Nat) : Int)
  let x27 := decide (x5 < x26)
  let x28 : Int := (x1.getD (Int.toNat x5 * (1 : Nat) + (0 : Nat)) default).toI
  let x29 := IntKind.wrap .u64 x28
  let x30 := IntKind.wrap .u64 (x22 + x29)
  let x31 := bif x24 then x30 else x22
  let x32 := IntKind.wrap .u32 x31
  let x33 : List DV := [.i x32]
  let x34 := x3 ++ x33
  let x35 := ((x34.length / 1 : Nat) : Int)
  let x36 := decide (x35 ≤ 14073748835532)
  [ow [(x13, true), (x15, true)] x16, ow [(x13, true), (x15, true)] x18, ow [(x13, true), (x24, true)] x25, ow [(x13, true), (x24, true)] x27, ow [(x13, true)] x36].all id
noncomputable def c111400 (x1 : List DV) (x0 : List DV) (_x3 : List DV) (x4 : Int) (x5 : Int) (_x6 : List DV) : Bool :=
  let x7 := ((x0.length / 1 : Nat) : Int)
  let x8 := decide (x5 < x7)
  let x9 := ((x1.length / 1 : Nat) : Int)
  let x10 := decide (x5 < x9)
  let x11 := x8 || x10
  let x12 := decide (x4 > 0)
  let x13 := x11 || x12
  x13
noncomputable def n111400_0 (x1 : List DV) (x0 : List DV) (x3 : List DV) (x4 : Int) (x5 : Int) (_x6 : List DV) : List DV :=
  let x14 := ((x0.length / 1 : Nat) : Int)
  let x15 := decide (x5 < x14)
  let x19 : Int := (x0.getD (Int.toNat x5 * (1 : Nat) + (0 : Nat)) default).toI
  let x20 := IntKind.wrap .u64 x19
  let x21 := IntKind.wrap .u64 (x4 + x20)
  let x22 := bif x15 then x21 else x4
  let x23 := ((x1.length / 1 : Nat) : Int)
  let x24 := decide (x5 < x23)
  let x28 : Int := (x1.getD (Int.toNat x5 * (1 : Nat) + (0 : Nat)) default).toI
  let x29 := IntKind.wrap .u64 x28
  let x30 := IntKind.wrap .u64 (x22 + x29)
  let x31 := bif x24 then x30 else x22
  let x32 := IntKind.wrap .u32 x31
  let x33 : List DV := [.i x32]
  let x34 := x3 ++ x33
  x34
noncomputable def n111400_1 (x1 : List DV) (x0 : List DV) (_x3 : List DV) (x4 : Int) (x5 : Int) (_x6 : List DV) : Int :=
  let x14 := ((x0.length / 1 : Nat) : Int)
  let x15 := decide (x5 < x14)
  let x19 : Int := (x0.getD (Int.toNat x5 * (1 : Nat) + (0 : Nat)) default).toI
  let x20 := IntKind.wrap .u64 x19
  let x21 := IntKind.wrap .u64 (x4 + x20)
  let x22 := bif x15 then x21 else x4
  let x23 := ((x1.length / 1 : Nat) : Int)
  let x24 := decide (x5 < x23)
  let x28 : Int := (x1.getD (Int.toNat x5 * (1 : Nat) + (0 : Nat)) default).toI
  let x29 := IntKind.wrap .u64 x28
  let x30 := IntKind.wrap .u64 (x22 + x29)
  let x31 := bif x24 then x30 else x22
  let x37 := ishr .u64 x31 32
  x37
noncomputable def n111400_2 (_x1 : List DV) (_x0 : List DV) (_x3 : List DV) (_x4 : Int) (x5 : Int) (_x6 : List DV) : Int :=
  let x38 := IntKind.wrap .i64 (x5 + 1)
  x38
noncomputable def n111400_3 (_x1 : List DV) (x0 : List DV) (_x3 : List DV) (_x4 : Int) (_x5 : Int) (_x6 : List DV) : List DV :=
  x0
noncomputable def t111400_0 (_x1 : List DV) (_x0 : List DV) (_x3 : List DV) (_x4 : Int) (_x5 : Int) (_x6 : List DV) : Int :=
  0
noncomputable def t111400_1 (_x1 : List DV) (_x0 : List DV) (x3 : List DV) (_x4 : Int) (_x5 : Int) (_x6 : List DV) : List DV :=
  x3
noncomputable def t111400_2 (_x1 : List DV) (_x0 : List DV) (_x3 : List DV) (x4 : Int) (_x5 : Int) (_x6 : List DV) : Int :=
  x4
noncomputable def t111400_3 (_x1 : List DV) (_x0 : List DV) (_x3 : List DV) (_x4 : Int) (x5 : Int) (_x6 : List DV) : Int :=
  x5
noncomputable def t111400_4 (_x1 : List DV) (x0 : List DV) (_x3 : List DV) (_x4 : Int) (_x5 : Int) (_x6 : List DV) : List DV :=
  x0
noncomputable def W111400 (ds : List DV) : Bool := w111400 (dget ds 0).toL (dget ds 1).toL (dget ds 2).toL (dget ds 3).toI (dget ds 4).toI (dget ds 5).toL
noncomputable def C111400 (ds : List DV) : Bool := c111400 (dget ds 0).toL (dget ds 1).toL (dget ds 2).toL (dget ds 3).toI (dget ds 4).toI (dget ds 5).toL
noncomputable def N111400 (ds : List DV) : List DV := [.l (dget ds 0).toL, .l (dget ds 1).toL, .l (n111400_0 (dget ds 0).toL (dget ds 1).toL (dget ds 2).toL (dget ds 3).toI (dget ds 4).toI (dget ds 5).toL), .i (n111400_1 (dget ds 0).toL (dget ds 1).toL (dget ds 2).toL (dget ds 3).toI (dget ds 4).toI (dget ds 5).toL), .i (n111400_2 (dget ds 0).toL (dget ds 1).toL (dget ds 2).toL (dget ds 3).toI (dget ds 4).toI (dget ds 5).toL), .l (n111400_3 (dget ds 0).toL (dget ds 1).toL (dget ds 2).toL (dget ds 3).toI (dget ds 4).toI (dget ds 5).toL)]
noncomputable def T111400 (ds : List DV) : List DV := [.i (t111400_0 (dget ds 0).toL (dget ds 1).toL (dget ds 2).toL (dget ds 3).toI (dget ds 4).toI (dget ds 5).toL), .l (t111400_1 (dget ds 0).toL (dget ds 1).toL (dget ds 2).toL (dget ds 3).toI (dget ds 4).toI (dget ds 5).toL), .i (t111400_2 (dget ds 0).toL (dget ds 1).toL (dget ds 2).toL (dget ds 3).toI (dget ds 4).toI (dget ds 5).toL), .i (t111400_3 (dget ds 0).toL (dget ds 1).toL (dget ds 2).toL (dget ds 3).toI (dget ds 4).toI (dget ds 5).toL), .l (t111400_4 (dget ds 0).toL (dget ds 1).toL (dget ds 2).toL (dget ds 3).toI (dget ds 4).toI (dget ds 5).toL)]
noncomputable def L111400 (x0 : List DV) (x1 : List DV) (x2 : List DV) (x3 : Int) (x4 : Int) (x5 : List DV) : Option (List DV) := loopG W111400 C111400 N111400 T111400 [.l x0, .l x1, .l x2, .i x3, .i x4, .l x5]
noncomputable def p111400 (x0 : List DV) (x1 : List DV) (x2 : List DV) (x3 : Int) (x4 : Int) (x5 : List DV) : Bool := (L111400 x0 x1 x2 x3 x4 x5).isSome
noncomputable def r111400_0 (x0 : List DV) (x1 : List DV) (x2 : List DV) (x3 : Int) (x4 : Int) (x5 : List DV) : Int := (dget ((L111400 x0 x1 x2 x3 x4 x5).getD []) 0).toI
noncomputable def r111400_1 (x0 : List DV) (x1 : List DV) (x2 : List DV) (x3 : Int) (x4 : Int) (x5 : List DV) : List DV := (dget ((L111400 x0 x1 x2 x3 x4 x5).getD []) 1).toL
noncomputable def r111400_2 (x0 : List DV) (x1 : List DV) (x2 : List DV) (x3 : Int) (x4 : Int) (x5 : List DV) : Int := (dget ((L111400 x0 x1 x2 x3 x4 x5).getD []) 2).toI
noncomputable def r111400_3 (x0 : List DV) (x1 : List DV) (x2 : List DV) (x3 : Int) (x4 : Int) (x5 : List DV) : Int := (dget ((L111400 x0 x1 x2 x3 x4 x5).getD []) 3).toI
noncomputable def r111400_4 (x0 : List DV) (x1 : List DV) (x2 : List DV) (x3 : Int) (x4 : Int) (x5 : List DV) : List DV := (dget ((L111400 x0 x1 x2 x3 x4 x5).getD []) 4).toL
noncomputable def g111400 (ds : List DV) : List DV := [.b (p111400 (dget ds 0).toL (dget ds 1).toL (dget ds 2).toL (dget ds 3).toI (dget ds 4).toI (dget ds 5).toL), .i (r111400_0 (dget ds 0).toL (dget ds 1).toL (dget ds 2).toL (dget ds 3).toI (dget ds 4).toI (dget ds 5).toL), .l (r111400_1 (dget ds 0).toL (dget ds 1).toL (dget ds 2).toL (dget ds 3).toI (dget ds 4).toI (dget ds 5).toL), .i (r111400_2 (dget ds 0).toL (dget ds 1).toL (dget ds 2).toL (dget ds 3).toI (dget ds 4).toI (dget ds 5).toL), .i (r111400_3 (dget ds 0).toL (dget ds 1).toL (dget ds 2).toL (dget ds 3).toI (dget ds 4).toI (dget ds 5).toL), .l (r111400_4 (dget ds 0).toL (dget ds 1).toL (dget ds 2).toL (dget ds 3).toI (dget ds 4).toI (dget ds 5).toL)]
def l114_0 : LR := ⟨111400, 3, 4, [1, 0], [(7, .llen 1 (.r 0)), (8, .lss (.r 5) (.r 7)), (9, .llen 1 (.r 1)), (10, .lss (.r 5) (.r 9)), (11, .or (.r 8) (.r 10)), (12, .gtr (.r 4) (.z 0)), (13, .or (.r 11) (.r 12)), (14, .llen 1 (.r 0)), (15, .lss (.r 5) (.r 14)), (16, .geq (.r 5) (.z 0)), (17, .llen 1 (.r 0)), (18, .lss (.r 5) (.r 17)), (19, .lgeti 1 0 (.r 0) (.r 5)), (20, .conv .u64 (.r 19)), (21, .add .u64 (.r 4) (.r 20)), (22, .itei (.r 15) (.r 21) (.r 4)), (23, .llen 1 (.r 1)), (24, .lss (.r 5) (.r 23)), (25, .geq (.r 5) (.z 0)), (26, .llen 1 (.r 1)), (27, .lss (.r 5) (.r 26)), (28, .lgeti 1 0 (.r 1) (.r 5)), (29, .conv .u64 (.r 28)), (30, .add .u64 (.r 22) (.r 29)), (31, .itei (.r 24) (.r 30) (.r 22)), (32, .conv .u32 (.r 31)), (33, .lmk [.i] [.r 32]), (34, .lcat (.r 3) (.r 33)), (35, .llen 1 (.r 34)), (36, .leq (.r 35) (.z 14073748835532)), (37, .shr .u64 (.r 31) (.z 32)), (38, .add .i64 (.r 5) (.z 1))], [⟨[(.r 13, true), (.r 15, true)], .r 16⟩, ⟨[(.r 13, true), (.r 15, true)], .r 18⟩, ⟨[(.r 13, true), (.r 24, true)], .r 25⟩, ⟨[(.r 13, true), (.r 24, true)], .r 27⟩, ⟨[(.r 13, true)], .r 36⟩], .r 13, [.r 34, .r 37, .r 38, .r 0], [.z 0, .r 3, .r 4, .r 5, .r 0], [.l, .i, .i, .l]⟩
def s114 : Sig := ⟨[.s (.one (.vec 0)), .s (.one (.vec 1))], [some (.v false [.int .u32] (.h 0)), some (.v false [.int .u32] (.h 1))], [.l, .l], .s (.one (.vec 2)), [none, none, some (.v false [.int .u32] (.h 0))], [.l], true⟩
def o114 : Out := ⟨List.append (List.append ([(2, .lmk [] [])]) (callsAt 3 111400 [.r 1, .r 0, .r 2, .z 0, .z 0, .r 0] 0 6)) ([(9, .call 116 [.r 5] 0), (10, .call 116 [.r 5] 1)]),
  [⟨[], .r 3⟩, ⟨[], .r 9⟩],
  [l114_0],
  [.r 10]⟩
noncomputable def p114 (x0 : List DV) (x1 : List DV) : Bool :=
  let x2 : List DV := []
  let y3 : List DV := g111400 [.l x1, .l x0, .l x2, .i 0, .i 0, .l x0]
  let x3 : Bool := (dget y3 0).toB
  let x5 : List DV := (dget y3 2).toL
  let x9 := p116 x5
  [ow [] x3, ow [] x9].all id
noncomputable def r114_0 (x0 : List DV) (x1 : List DV) : List DV :=
  let x2 : List DV := []
  let y5 : List DV := g111400 [.l x1, .l x0, .l x2, .i 0, .i 0, .l x0]
  let x5 : List DV := (dget y5 2).toL
  let x10 := r116_0 x5
  x10
noncomputable def g114 (ds : List DV) : List DV := [.b (p114 (dget ds 0).toL (dget ds 1).toL), .l (r114_0 (dget ds 0).toL (dget ds 1).toL)]
def S114 : Sigs := ⟨[(116, s116)], [], [(0, 111400)], 2⟩

noncomputable def w107700 (x0 : List DV) (x1 : List DV) (_x11 : Bool) (x12 : Int) : Bool :=
  let x13 := decide (x12 ≥ 0)
  let x14 := decide (x12 ≥ 0)
  let x15 := ((x0.length / 1 : Nat) : Int)
  let x16 := decide (x12 < x15)
  let x17 : Int := (x0.getD (Int.toNat x12 * (1 : Nat) + (0 : Nat)) default).toI
  let x18 := decide (x12 ≥ 0)
  let x19 := ((x1.length / 1 : Nat) : Int)
  let x20 := decide (x12 < x19)
  let x21 : Int := (x1.getD (Int.toNat x12 * (1 : Nat) + (0 : Nat)) default).toI
  let x22 := x17 != x21
  let x23 := decide (x12 ≥ 0)
  let x24 := ((x0.length / 1 : Nat) : Int)
  let x25 := decide (x12 < x24)
  let x27 := decide (x12 ≥ 0)
  let x28 := ((x1.length / 1 : Nat) : Int)
  let x29 := decide (x12 < x28)
  [ow [(x13, true)] x14, ow [(x13, true)] x16, ow [(x13, true)] x18, ow [(x13, true)] x20, ow [(x13, true), (x22, true)] x23, ow [(x13, true), (x22, true)] x25, ow [(x13, true), (x22, true)] x27, ow [(x13, true), (x22, true)] x29].all id
noncomputable def c107700 (x0 : List DV) (x1 : List DV) (_x11 : Bool) (x12 : Int) : Bool :=
  let x13 := decide (x12 ≥ 0)
  let x17 : Int := (x0.getD (Int.toNat x12 * (1 : Nat) + (0 : Nat)) default).toI
  let x21 : Int := (x1.getD (Int.toNat x12 * (1 : Nat) + (0 : Nat)) default).toI
  let x22 := x17 != x21
  let x32 := !x22
  let x34 := x13 && x32
  x34
noncomputable def n107700_0 (_x0 : List DV) (_x1 : List DV) (x11 : Bool) (_x12 : Int) : Bool :=
  x11
noncomputable def n107700_1 (_x0 : List DV) (_x1 : List DV) (_x11 : Bool) (x12 : Int) : Int :=
  let x33 := IntKind.wrap .i64 (x12 - 1)
  x33
noncomputable def t107700_0 (_x0 : List DV) (_x1 : List DV) (_x11 : Bool) (x12 : Int) : Int :=
  let x13 := decide (x12 ≥ 0)
  let x35 : Int := bif x13 then 0 else 1
  x35
noncomputable def t107700_1 (x0 : List DV) (x1 : List DV) (x11 : Bool) (x12 : Int) : Bool :=
  let x13 := decide (x12 ≥ 0)
  let x26 : Int := (x0.getD (Int.toNat x12 * (1 : Nat) + (0 : Nat)) default).toI
  let x30 : Int := (x1.getD (Int.toNat x12 * (1 : Nat) + (0 : Nat)) default).toI
  let x31 := ilt x26 x30
  let x36 := bif x13 then x31 else x11
  x36
noncomputable def t107700_2 (_x0 : List DV) (_x1 : List DV) (_x11 : Bool) (x12 : Int) : Int :=
  x12
noncomputable def W107700 (ds : List DV) : Bool := w107700 (dget ds 0).toL (dget ds 1).toL (dget ds 2).toB (dget ds 3).toI
noncomputable def C107700 (ds : List DV) : Bool := c107700 (dget ds 0).toL (dget ds 1).toL (dget ds 2).toB (dget ds 3).toI
noncomputable def N107700 (ds : List DV) : List DV := [.l (dget ds 0).toL, .l (dget ds 1).toL, .b (n107700_0 (dget ds 0).toL (dget ds 1).toL (dget ds 2).toB (dget ds 3).toI), .i (n107700_1 (dget ds 0).toL (dget ds 1).toL (dget ds 2).toB (dget ds 3).toI)]
noncomputable def T107700 (ds : List DV) : List DV := [.i (t107700_0 (dget ds 0).toL (dget ds 1).toL (dget ds 2).toB (dget ds 3).toI), .b (t107700_1 (dget ds 0).toL (dget ds 1).toL (dget ds 2).toB (dget ds 3).toI), .i (t107700_2 (dget ds 0).toL (dget ds 1).toL (dget ds 2).toB (dget ds 3).toI)]
noncomputable def L107700 (x0 : List DV) (x1 : List DV) (x2 : Bool) (x3 : Int) : Option (List DV) := loopG W107700 C107700 N107700 T107700 [.l x0, .l x1, .b x2, .i x3]
noncomputable def p107700 (x0 : List DV) (x1 : List DV) (x2 : Bool) (x3 : Int) : Bool := (L107700 x0 x1 x2 x3).isSome
noncomputable def r107700_0 (x0 : List DV) (x1 : List DV) (x2 : Bool) (x3 : Int) : Int := (dget ((L107700 x0 x1 x2 x3).getD []) 0).toI
noncomputable def r107700_1 (x0 : List DV) (x1 : List DV) (x2 : Bool) (x3 : Int) : Bool := (dget ((L107700 x0 x1 x2 x3).getD []) 1).toB
noncomputable def r107700_2 (x0 : List DV) (x1 : List DV) (x2 : Bool) (x3 : Int) : Int := (dget ((L107700 x0 x1 x2 x3).getD []) 2).toI
noncomputable def g107700 (ds : List DV) : List DV := [.b (p107700 (dget ds 0).toL (dget ds 1).toL (dget ds 2).toB (dget ds 3).toI), .i (r107700_0 (dget ds 0).toL (dget ds 1).toL (dget ds 2).toB (dget ds 3).toI), .b (r107700_1 (dget ds 0).toL (dget ds 1).toL (dget ds 2).toB (dget ds 3).toI), .i (r107700_2 (dget ds 0).toL (dget ds 1).toL (dget ds 2).toB (dget ds 3).toI)]
def l77_0 : LR := ⟨107700, 11, 2, [0, 1], [(13, .geq (.r 12) (.z 0)), (14, .geq (.r 12) (.z 0)), (15, .llen 1 (.r 0)), (16, .lss (.r 12) (.r 15)), (17, .lgeti 1 0 (.r 0) (.r 12)), (18, .geq (.r 12) (.z 0)), (19, .llen 1 (.r 1)), (20, .lss (.r 12) (.r 19)), (21, .lgeti 1 0 (.r 1) (.r 12)), (22, .neq (.r 17) (.r 21)), (23, .geq (.r 12) (.z 0)), (24, .llen 1 (.r 0)), (25, .lss (.r 12) (.r 24)), (26, .lgeti 1 0 (.r 0) (.r 12)), (27, .geq (.r 12) (.z 0)), (28, .llen 1 (.r 1)), (29, .lss (.r 12) (.r 28)), (30, .lgeti 1 0 (.r 1) (.r 12)), (31, .lss (.r 26) (.r 30)), (32, .not (.r 22)), (33, .sub .i64 (.r 12) (.z 1)), (34, .and (.r 13) (.r 32)), (35, .itei (.r 13) (.z 0) (.z 1)), (36, .iteb (.r 13) (.r 31) (.r 11))], [⟨[(.r 13, true)], .r 14⟩, ⟨[(.r 13, true)], .r 16⟩, ⟨[(.r 13, true)], .r 18⟩, ⟨[(.r 13, true)], .r 20⟩, ⟨[(.r 13, true), (.r 22, true)], .r 23⟩, ⟨[(.r 13, true), (.r 22, true)], .r 25⟩, ⟨[(.r 13, true), (.r 22, true)], .r 27⟩, ⟨[(.r 13, true), (.r 22, true)], .r 29⟩], .r 34, [.r 11, .r 33], [.r 35, .r 36, .r 12], [.b, .i]⟩
def s77 : Sig := ⟨[.s (.one (.vec 0)), .s (.one (.vec 1))], [some (.v false [.int .u32] (.h 0)), some (.v false [.int .u32] (.h 1))], [.l, .l], .s (.one (.b (.h 0))), [], [.b], true⟩
def o77 : Out := ⟨List.append (List.append ([(2, .llen 1 (.r 0)), (3, .llen 1 (.r 1)), (4, .neq (.r 2) (.r 3)), (5, .llen 1 (.r 0)), (6, .llen 1 (.r 1)), (7, .lss (.r 5) (.r 6)), (8, .not (.r 4)), (9, .llen 1 (.r 0)), (10, .sub .i64 (.r 9) (.z 1))]) (callsAt 11 107700 [.r 0, .r 1, .t false, .r 10] 0 4)) ([(15, .eql (.r 12) (.z 0)), (16, .not (.r 15)), (17, .iteb (.r 16) (.t false) (.r 13)), (18, .iteb (.r 8) (.r 17) (.r 7))]),
  [⟨[(.r 8, true)], .r 11⟩],
  [l77_0],
  [.r 18]⟩
noncomputable def p77 (x0 : List DV) (x1 : List DV) : Bool :=
  let x2 := ((x0.length / 1 : Nat) : Int)
  let x3 := ((x1.length / 1 : Nat) : Int)
  let x4 := x2 != x3
  let x8 := !x4
  let x9 := ((x0.length / 1 : Nat) : Int)
  let x10 := IntKind.wrap .i64 (x9 - 1)
  let x11 := p107700 x0 x1 false x10
  [ow [(x8, true)] x11].all id
noncomputable def r77_0 (x0 : List DV) (x1 : List DV) : Bool :=
  let x2 := ((x0.length / 1 : Nat) : Int)
  let x3 := ((x1.length / 1 : Nat) : Int)
  let x4 := x2 != x3
  let x5 := ((x0.length / 1 : Nat) : Int)
  let x6 := ((x1.length / 1 : Nat) : Int)
  let x7 := decide (x5 < x6)
  let x8 := !x4
  let x9 := ((x0.length / 1 : Nat) : Int)
  let x10 := IntKind.wrap .i64 (x9 - 1)
  let x12 := r107700_0 x0 x1 false x10
  let x13 := r107700_1 x0 x1 false x10
  let x15 := x12 == 0
  let x16 := !x15
  let x17 := bif x16 then false else x13
  let x18 := bif x8 then x17 else x7
  x18
noncomputable def g77 (ds : List DV) : List DV := [.b (p77 (dget ds 0).toL (dget ds 1).toL), .b (r77_0 (dget ds 0).toL (dget ds 1).toL)]
def S77 : Sigs := ⟨[], [], [(0, 107700)], 2⟩

noncomputable def w111000 (x1 : List DV) (x0 : List DV) (x3 : List DV) (x4 : Int) (x5 : Int) (_x6 : List DV) : Bool :=
  let x7 := ((x0.length / 1 : Nat) : Int)
  let x8 := decide (x5 < x7)
  let x9 := decide (x5 ≥ 0)
  let x10 := ((x0.length / 1 : Nat) : Int)
  let x11 := decide (x5 < x10)
  let x12 : Int := (x0.getD (Int.toNat x5 * (1 : Nat) + (0 : Nat)) default).toI
  let x13 := IntKind.wrap .i64 x12
  let x14 := IntKind.wrap .i64 (x13 - x4)
  let x15 := ((x1.length / 1 : Nat) : Int)
  let x16 := decide (x5 < x15)
  let x17 := decide (x5 ≥ 0)
  let x18 := ((x1.length / 1 : Nat) : Int)
  let x19 := decide (x5 < x18)
  let x20 : Int := (x1.getD (Int.toNat x5 * (1 : Nat) + (0 : Nat)) default).toI
  let x21 := IntKind.wrap .i64 x20
  let x22 := IntKind.wrap .i64 (x14 - x21)
  let x23 := bif x16 then x22 else x14
  let x24 := decide (x23 < 0)
  let x25 := IntKind.wrap .i64 (x23 + 4294967296)
  let x27 := bif x24 then x25 else x23
  let x28 := IntKind.wrap .u32 x27
  let x29 : List DV := [.i x28]
  let x30 := x3 ++ x29
  let x31 := ((x30.length / 1 : Nat) : Int)
  let x32 := decide (x31 ≤ 14073748835532)
  [ow [(x8, true)] x9, ow [(x8, true)] x11, ow [(x8, true), (x16, true)] x17, ow [(x8, true), (x16, true)] x19, ow [(x8, true)] x32].all id
noncomputable def c111000 (_x1 : List DV) (x0 : List DV) (_x3 : List DV) (_x4 : Int) (x5 : Int) (_x6 : List DV) : Bool :=
  let x7 := ((x0.length / 1 : Nat) : Int)
  let x8 := decide (x5 < x7)
  x8
noncomputable def n111000_0 (x1 : List DV) (x0 : List DV) (x3 : List DV) (x4 : Int) (x5 : Int) (_x6 : List DV) : List DV :=
  let x12 : Int := (x0.getD (Int.toNat x5 * (1 : Nat) + (0 : Nat)) default).toI
  let x13 := IntKind.wrap .i64 x12
  let x14 := IntKind.wrap .i64 (x13 - x4)
  let x15 := ((x1.length / 1 : Nat) : Int)
  let x16 := decide (x5 < x15)
  let x20 : Int := (x1.getD (Int.toNat x5 * (1 : Nat) + (0 : Nat)) default).toI
  let x21 := IntKind.wrap .i64 x20
  let x22 := IntKind.wrap .i64 (x14 - x21)
  let x23 := bif x16 then x22 else x14
  let x24 := decide (x23 < 0)
  let x25 := IntKind.wrap .i64 (x23 + 4294967296)
  let x27 := bif x24 then x25 else x23
  let x28 := IntKind.wrap .u32 x27
  let x29 : List DV := [.i x28]
  let x30 := x3 ++ x29
  x30
noncomputable def n111000_1 (x1 : List DV) (x0 : List DV) (_x3 : List DV) (x4 : Int) (x5 : Int) (_x6 : List DV) : Int :=
  let x12 : Int := (x0.getD (Int.toNat x5 * (1 : Nat) + (0 : Nat)) default).toI
  let x13 := IntKind.wrap .i64 x12
  let x14 := IntKind.wrap .i64 (x13 - x4)
  let x15 := ((x1.length / 1 : Nat) : Int)
  let x16 := decide (x5 < x15)
  let x20 : Int := (x1.getD (Int.toNat x5 * (1 : Nat) + (0 : Nat)) default).toI
  let x21 := IntKind.wrap .i64 x20
  let x22 := IntKind.wrap .i64 (x14 - x21)
  let x23 := bif x16 then x22 else x14
  let x24 := decide (x23 < 0)
  let x26 : Int := bif x24 then 1 else 0
  x26
noncomputable def n111000_2 (_x1 : List DV) (_x0 : List DV) (_x3 : List DV) (_x4 : Int) (x5 : Int) (_x6 : List DV) : Int :=
  let x33 := IntKind.wrap .i64 (x5 + 1)
  x33
noncomputable def n111000_3 (_x1 : List DV) (x0 : List DV) (_x3 : List DV) (_x4 : Int) (_x5 : Int) (_x6 : List DV) : List DV :=
  x0
noncomputable def t111000_0 (_x1 : List DV) (_x0 : List DV) (_x3 : List DV) (_x4 : Int) (_x5 : Int) (_x6 : List DV) : Int :=
  0
noncomputable def t111000_1 (_x1 : List DV) (_x0 : List DV) (x3 : List DV) (_x4 : Int) (_x5 : Int) (_x6 : List DV) : List DV :=
  x3
noncomputable def t111000_2 (_x1 : List DV) (_x0 : List DV) (_x3 : List DV) (x4 : Int) (_x5 : Int) (_x6 : List DV) : Int :=
  x4
noncomputable def t111000_3 (_x1 : List DV) (_x0 : List DV) (_x3 : List DV) (_x4 : Int) (x5 : Int) (_x6 : List DV) : Int :=
  x5
noncomputable def t111000_4 (_x1 : List DV) (x0 : List DV) (_x3 : List DV) (_x4 : Int) (_x5 : Int) (_x6 : List DV) : List DV :=
  x0
noncomputable def W111000 (ds : List DV) : Bool := w111000 (dget ds 0).toL (dget ds 1).toL (dget ds 2).toL (dget ds 3).toI (dget ds 4).toI (dget ds 5).toL
noncomputable def C111000 (ds : List DV) : Bool := c111000 (dget ds 0).toL (dget ds 1).toL (dget ds 2).toL (dget ds 3).toI (dget ds 4).toI (dget ds 5).toL
noncomputable def N111000 (ds : List DV) : List DV := [.l (dget ds 0).toL, .l (dget ds 1).toL, .l (n111000_0 (dget ds 0).toL (dget ds 1).toL (dget ds 2).toL (dget ds 3).toI (dget ds 4).toI (dget ds 5).toL), .i (n111000_1 (dget ds 0).toL (dget ds 1).toL (dget ds 2).toL (dget ds 3).toI (dget ds 4).toI (dget ds 5).toL), .i (n111000_2 (dget ds 0).toL (dget ds 1).toL (dget ds 2).toL (dget ds 3).toI (dget ds 4).toI (dget ds 5).toL), .l (n111000_3 (dget ds 0).toL (dget ds 1).toL (dget ds 2).toL (dget ds 3).toI (dget ds 4).toI (dget ds 5).toL)]
noncomputable def T111000 (ds : List DV) : List DV := [.i (t111000_0 (dget ds 0).toL (dget ds 1).toL (dget ds 2).toL (dget ds 3).toI (dget ds 4).toI (dget ds 5).toL), .l (t111000_1 (dget ds 0).toL (dget ds 1).toL (dget ds 2).toL (dget ds 3).toI (dget ds 4).toI (dget ds 5).toL), .i (t111000_2 (dget ds 0).toL (dget ds 1).toL (dget ds 2).toL (dget ds 3).toI (dget ds 4).toI (dget ds 5).toL), .i (t111000_3 (dget ds 0).toL (dget ds 1).toL (dget ds 2).toL (dget ds 3).toI (dget ds 4).toI (dget ds 5).toL), .l (t111000_4 (dget ds 0).toL (dget ds 1).toL (dget ds 2).toL (dget ds 3).toI (dget ds 4).toI (dget ds 5).toL)]
noncomputable def L111000 (x0 : List DV) (x1 : List DV) (x2 : List DV) (x3 : Int) (x4 : Int) (x5 : List DV) : Option (List DV) := loopG W111000 C111000 N111000 T111000 [.l x0, .l x1, .l x2, .i x3, .i x4, .l x5]
noncomputable def p111000 (x0 : List DV) (x1 : List DV) (x2 : List DV) (x3 : Int) (x4 : Int) (x5 : List DV) : Bool := (L111000 x0 x1 x2 x3 x4 x5).isSome
noncomputable def r111000_0 (x0 : List DV) (x1 : List DV) (x2 : List DV) (x3 : Int) (x4 : Int) (x5 : List DV) : Int := (dget ((L111000 x0 x1 x2 x3 x4 x5).getD []) 0).toI
noncomputable def r111000_1 (x0 : List DV) (x1 : List DV) (x2 : List DV) (x3 : Int) (x4 : Int) (x5 : List DV) : List DV := (dget ((L111000 x0 x1 x2 x3 x4 x5).getD []) 1).toL
noncomputable def r111000_2 (x0 : List DV) (x1 : List DV) (x2 : List DV) (x3 : Int) (x4 : Int) (x5 : List DV) : Int := (dget ((L111000 x0 x1 x2 x3 x4 x5).getD []) 2).toI
noncomputable def r111000_3 (x0 : List DV) (x1 : List DV) (x2 : List DV) (x3 : Int) (x4 : Int) (x5 : List DV) : Int := (dget ((L111000 x0 x1 x2 x3 x4 x5).getD []) 3).toI
noncomputable def r111000_4 (x0 : List DV) (x1 : List DV) (x2 : List DV) (x3 : Int) (x4 : Int) (x5 : List DV) : List DV := (dget ((L111000 x0 x1 x2 x3 x4 x5).getD []) 4).toL
noncomputable def g111000 (ds : List DV) : List DV := [.b (p111000 (dget ds 0).toL (dget ds 1).toL (dget ds 2).toL (dget ds 3).toI (dget ds 4).toI (dget ds 5).toL), .i (r111000_0 (dget ds 0).toL (dget ds 1).toL (dget ds 2).toL (dget ds 3).toI (dget ds 4).toI (dget ds 5).toL), .l (r111000_1 (dget ds 0).toL (dget ds 1).toL (dget ds 2).toL (dget ds 3).toI (dget ds 4).toI (dget ds 5).toL), .i (r111000_2 (dget ds 0).toL (dget ds 1).toL (dget ds 2).toL (dget ds 3).toI (dget ds 4).toI (dget ds 5).toL), .i (r111000_3 (dget ds 0).toL (dget ds 1).toL (dget ds 2).toL (dget ds 3).toI (dget ds 4).toI (dget ds 5).toL), .l (r111000_4 (dget ds 0).toL (dget ds 1).toL (dget ds 2).toL (dget ds 3).toI (dget ds 4).toI (dget ds 5).toL)]
def l110_0 : LR := ⟨111000, 3, 4, [1, 0], [(7, .llen 1 (.r 0)), (8, .lss (.r 5) (.r 7)), (9, .geq (.r 5) (.z 0)), (10, .llen 1 (.r 0)), (11, .lss (.r 5) (.r 10)), (12, .lgeti 1 0 (.r 0) (.r 5)), (13, .conv .i64 (.r 12)), (14, .sub .i64 (.r 13) (.r 4)), (15, .llen 1 (.r 1)), (16, .lss (.r 5) (.r 15)), (17, .geq (.r 5) (.z 0)), (18, .llen 1 (.r 1)), (19, .lss (.r 5) (.r 18)), (20, .lgeti 1 0 (.r 1) (.r 5)), (21, .conv .i64 (.r 20)), (22, .sub .i64 (.r 14) (.r 21)), (23, .itei (.r 16) (.r 22) (.r 14)), (24, .lss (.r 23) (.z 0)), (25, .add .i64 (.r 23) (.z 4294967296)), (26, .itei (.r 24) (.z 1) (.z 0)), (27, .itei (.r 24) (.r 25) (.r 23)), (28, .conv .u32 (.r 27)), (29, .lmk [.i] [.r 28]), (30, .lcat (.r 3) (.r 29)), (31, .llen 1 (.r 30)), (32, .leq (.r 31) (.z 14073748835532)), (33, .add .i64 (.r 5) (.z 1))], [⟨[(.r 8, true)], .r 9⟩, ⟨[(.r 8, true)], .r 11⟩, ⟨[(.r 8, true), (.r 16, true)], .r 17⟩, ⟨[(.r 8, true), (.r 16, true)], .r 19⟩, ⟨[(.r 8, true)], .r 32⟩], .r 8, [.r 30, .r 26, .r 33, .r 0], [.z 0, .r 3, .r 4, .r 5, .r 0], [.l, .i, .i, .l]⟩
def s110 : Sig := ⟨[.s (.one (.vec 0)), .s (.one (.vec 1))], [some (.v false [.int .u32] (.h 0)), some (.v false [.int .u32] (.h 1))], [.l, .l], .s (.one (.vec 2)), [none, none, some (.v false [.int .u32] (.h 0))], [.l], true⟩
def o110 : Out := ⟨List.append (List.append ([(2, .lmk [] [])]) (callsAt 3 111000 [.r 1, .r 0, .r 2, .z 0, .z 0, .r 0] 0 6)) ([(9, .call 116 [.r 5] 0), (10, .call 116 [.r 5] 1)]),
  [⟨[], .r 3⟩, ⟨[], .r 9⟩],
  [l110_0],
  [.r 10]⟩
noncomputable def p110 (x0 : List DV) (x1 : List DV) : Bool :=
  let x2 : List DV := []
  let y3 : List DV := g111000 [.l x1, .l x0, .l x2, .i 0, .i 0, .l x0]
  let x3 : Bool := (dget y3 0).toB
  let x5 : List DV := (dget y3 2).toL
  let x9 := p116 x5
  [ow [] x3, ow [] x9].all id
noncomputable def r110_0 (x0 : List DV) (x1 : List DV) : List DV :=
  let x2 : List DV := []
  let y5 : List DV := g111000 [.l x1, .l x0, .l x2, .i 0, .i 0, .l x0]
  let x5 : List DV := (dget y5 2).toL
  let x10 := r116_0 x5
  x10
noncomputable def g110 (ds : List DV) : List DV := [.b (p110 (dget ds 0).toL (dget ds 1).toL), .l (r110_0 (dget ds 0).toL (dget ds 1).toL)]
def S110 : Sigs := ⟨[(116, s116)], [], [(0, 111000)], 2⟩

noncomputable def w110400 (x1 : Int) (x0 : List DV) (x10 : List DV) (x11 : Int) (x12 : Int) (_x13 : List DV) : Bool :=
  let x14 := ((x0.length / 1 : Nat) : Int)
  let x15 := decide (x12 < x14)
  let x16 := decide (x12 ≥ 0)
  let x17 := ((x0.length / 1 : Nat) : Int)
  let x18 := decide (x12 < x17)
  let x19 : Int := (x0.getD (Int.toNat x12 * (1 : Nat) + (0 : Nat)) default).toI
  let x20 := IntKind.wrap .u64 x19
  let x21 := Int.tmod x1 32
  let x22 := decide (x21 ≥ 0)
  let x23 := ishl .u64 x20 x21
  let x24 := ilor .u64 x11 x23
  let x25 := IntKind.wrap .u32 x24
  let x26 : List DV := [.i x25]
  let x27 := x10 ++ x26
  let x28 := ((x27.length / 1 : Nat) : Int)
  let x29 := decide (x28 ≤ 14073748835532)
  [ow [(x15, true)] x16, ow [(x15, true)] x18, ow [(x15, true)] x22, ow [(x15, true)] x29].all id
noncomputable def c110400 (_x1 : Int) (x0 : List DV) (_x10 : List DV) (_x11 : Int) (x12 : Int) (_x13 : List DV) : Bool :=
  let x14 := ((x0.length / 1 : Nat) : Int)
  let x15 := decide (x12 < x14)
  x15
noncomputable def n110400_0 (x1 : Int) (x0 : List DV) (x10 : List DV) (x11 : Int) (x12 : Int) (_x13 : List DV) : List DV :=
  let x19 : Int := (x0.getD (Int.toNat x12 * (1 : Nat) + (0 : Nat)) default).toI
  let x20 := IntKind.wrap .u64 x19
  let x21 := Int.tmod x1 32
  let x23 := ishl .u64 x20 x21
  let x24 := ilor .u64 x11 x23
  let x25 := IntKind.wrap .u32 x24
  let x26 : List DV := [.i x25]
  let x27 := x10 ++ x26
  x27
noncomputable def n110400_1 (x1 : Int) (x0 : List DV) (_x10 : List DV) (x11 : Int) (x12 : Int) (_x13 : List DV) : Int :=
  let x19 : Int := (x0.getD (Int.toNat x12 * (1 : Nat) + (0 : Nat)) default).toI
  let x20 := IntKind.wrap .u64 x19
  let x21 := Int.tmod x1 32
  let x23 := ishl .u64 x20 x21
  let x24 := ilor .u64 x11 x23
  let x30 := ishr .u64 x24 32
  x30
noncomputable def n110400_2 (_x1 : Int) (_x0 : List DV) (_x10 : List DV) (_x11 : Int) (x12 : Int) (_x13 : List DV) : Int :=
  let x31 := IntKind.wrap .i64 (x12 + 1)
  x31
noncomputable def n110400_3 (_x1 : Int) (x0 : List DV) (_x10 : List DV) (_x11 : Int) (_x12 : Int) (_x13 : List DV) : List DV :=
  x0
noncomputable def t110400_0 (_x1 : Int) (_x0 : List DV) (_x10 : List DV) (_x11 : Int) (_x12 : Int) (_x13 : List DV) : Int :=
  0
noncomputable def t110400_1 (_x1 : Int) (_x0 : List DV) (x10 : List DV) (_x11 : Int) (_x12 : Int) (_x13 : List DV) : List DV :=
  x10
noncomputable def t110400_2 (_x1 : Int) (_x0 : List DV) (_x10 : List DV) (x11 : Int) (_x12 : Int) (_x13 : List DV) : Int :=
  x11
noncomputable def t110400_3 (_x1 : Int) (_x0 : List DV) (_x10 : List DV) (_x11 : Int) (x12 : Int) (_x13 : List DV) : Int :=
  x12
noncomputable def t110400_4 (_x1 : Int) (x0 : List DV) (_x10 : List DV) (_x11 : Int) (_x12 : Int) (_x13 : List DV) : List DV :=
  x0
noncomputable def W110400 (ds : List DV) : Bool := w110400 (dget ds 0).toI (dget ds 1).toL (dget ds 2).toL (dget ds 3).toI (dget ds 4).toI (dget ds 5).toL
noncomputable def C110400 (ds : List DV) : Bool := c110400 (dget ds 0).toI (dget ds 1).toL (dget ds 2).toL (dget ds 3).toI (dget ds 4).toI (dget ds 5).toL
noncomputable def N110400 (ds : List DV) : List DV := [.i (dget ds 0).toI, .l (dget ds 1).toL, .l (n110400_0 (dget ds 0).toI (dget ds 1).toL (dget ds 2).toL (dget ds 3).toI (dget ds 4).toI (dget ds 5).toL), .i (n110400_1 (dget ds 0).toI (dget ds 1).toL (dget ds 2).toL (dget ds 3).toI (dget ds 4).toI (dget ds 5).toL), .i (n110400_2 (dget ds 0).toI (dget ds 1).toL (dget ds 2).toL (dget ds 3).toI (dget ds 4).toI (dget ds 5).toL), .l (n110400_3 (dget ds 0).toI (dget ds 1).toL (dget ds 2).toL (dget ds 3).toI (dget ds 4).toI (dget ds 5).toL)]
noncomputable def T110400 (ds : List DV) : List DV := [.i (t110400_0 (dget ds 0).toI (dget ds 1).toL (dget ds 2).toL (dget ds 3).toI (dget ds 4).toI (dget ds 5).toL), .l (t110400_1 (dget ds 0).toI (dget ds 1).toL (dget ds 2).toL (dget ds 3).toI (dget ds 4).toI (dget ds 5).toL), .i (t110400_2 (dget ds 0).toI (dget ds 1).toL (dget ds 2).toL (dget ds 3).toI (dget ds 4).toI (dget ds 5).toL), .i (t110400_3 (dget ds 0).toI (dget ds 1).toL (dget ds 2).toL (dget ds 3).toI (dget ds 4).toI (dget ds 5).toL), .l (t110400_4 (dget ds 0).toI (dget ds 1).toL (dget ds 2).toL (dget ds 3).toI (dget ds 4).toI (dget ds 5).toL)]
noncomputable def L110400 (x0 : Int) (x1 : List DV) (x2 : List DV) (x3 : Int) (x4 : Int) (x5 : List DV) : Option (List DV) := loopG W110400 C110400 N110400 T110400 [.i x0, .l x1, .l x2, .i x3, .i x4, .l x5]
noncomputable def p110400 (x0 : Int) (x1 : List DV) (x2 : List DV) (x3 : Int) (x4 : Int) (x5 : List DV) : Bool := (L110400 x0 x1 x2 x3 x4 x5).isSome
noncomputable def r110400_0 (x0 : Int) (x1 : List DV) (x2 : List DV) (x3 : Int) (x4 : Int) (x5 : List DV) : Int := (dget ((L110400 x0 x1 x2 x3 x4 x5).getD []) 0).toI
noncomputable def r110400_1 (x0 : Int) (x1 : List DV) (x2 : List DV) (x3 : Int) (x4 : Int) (x5 : List DV) : List DV := (dget ((L110400 x0 x1 x2 x3 x4 x5).getD []) 1).toL
noncomputable def r110400_2 (x0 : Int) (x1 : List DV) (x2 : List DV) (x3 : Int) (x4 : Int) (x5 : List DV) : Int := (dget ((L110400 x0 x1 x2 x3 x4 x5).getD []) 2).toI
noncomputable def r110400_3 (x0 : Int) (x1 : List DV) (x2 : List DV) (x3 : Int) (x4 : Int) (x5 : List DV) : Int := (dget ((L110400 x0 x1 x2 x3 x4 x5).getD []) 3).toI
noncomputable def r110400_4 (x0 : Int) (x1 : List DV) (x2 : List DV) (x3 : Int) (x4 : Int) (x5 : List DV) : List DV := (dget ((L110400 x0 x1 x2 x3 x4 x5).getD []) 4).toL
noncomputable def g110400 (ds : List DV) : List DV := [.b (p110400 (dget ds 0).toI (dget ds 1).toL (dget ds 2).toL (dget ds 3).toI (dget ds 4).toI (dget ds 5).toL), .i (r110400_0 (dget ds 0).toI (dget ds 1).toL (dget ds 2).toL (dget ds 3).toI (dget ds 4).toI (dget ds 5).toL), .l (r110400_1 (dget ds 0).toI (dget ds 1).toL (dget ds 2).toL (dget ds 3).toI (dget ds 4).toI (dget ds 5).toL), .i (r110400_2 (dget ds 0).toI (dget ds 1).toL (dget ds 2).toL (dget ds 3).toI (dget ds 4).toI (dget ds 5).toL), .i (r110400_3 (dget ds 0).toI (dget ds 1).toL (dget ds 2).toL (dget ds 3).toI (dget ds 4).toI (dget ds 5).toL), .l (r110400_4 (dget ds 0).toI (dget ds 1).toL (dget ds 2).toL (dget ds 3).toI (dget ds 4).toI (dget ds 5).toL)]
def l104_0 : LR := ⟨110400, 10, 4, [1, 0], [(14, .llen 1 (.r 0)), (15, .lss (.r 12) (.r 14)), (16, .geq (.r 12) (.z 0)), (17, .llen 1 (.r 0)), (18, .lss (.r 12) (.r 17)), (19, .lgeti 1 0 (.r 0) (.r 12)), (20, .conv .u64 (.r 19)), (21, .rem .i64 (.r 1) (.z 32)), (22, .geq (.r 21) (.z 0)), (23, .shl .u64 (.r 20) (.r 21)), (24, .lor .u64 (.r 11) (.r 23)), (25, .conv .u32 (.r 24)), (26, .lmk [.i] [.r 25]), (27, .lcat (.r 10) (.r 26)), (28, .llen 1 (.r 27)), (29, .leq (.r 28) (.z 14073748835532)), (30, .shr .u64 (.r 24) (.z 32)), (31, .add .i64 (.r 12) (.z 1))], [⟨[(.r 15, true)], .r 16⟩, ⟨[(.r 15, true)], .r 18⟩, ⟨[(.r 15, true)], .r 22⟩, ⟨[(.r 15, true)], .r 29⟩], .r 15, [.r 27, .r 30, .r 31, .r 0], [.z 0, .r 10, .r 11, .r 12, .r 0], [.l, .i, .i, .l]⟩
def s104 : Sig := ⟨[.s (.one (.vec 0)), .s (.one (.i .i64 (.h 1)))], [some (.v false [.int .u32] (.h 0))], [.l, .i], .s (.one (.vec 1)), [none, some (.v false [.int .u32] (.h 0))], [.l], true⟩
def o104 : Out := ⟨List.append (List.append ([(2, .llen 1 (.r 0)), (3, .eql (.r 2) (.z 0)), (4, .not (.r 3)), (5, .quo .i64 (.r 1) (.z 32)), (6, .geq (.r 5) (.z 0)), (7, .leq (.r 5) (.r 5)), (8, .leq (.r 5) (.z 14073748835532)), (9, .lrep (.r 5) [.i] [.z 0])]) (callsAt 10 110400 [.r 1, .r 0, .r 9, .z 0, .z 0, .r 0] 0 6)) ([(16, .conv .u32 (.r 13)), (17, .lmk [.i] [.r 16]), (18, .lcat (.r 12) (.r 17)), (19, .llen 1 (.r 18)), (20, .leq (.r 19) (.z 14073748835532)), (21, .call 116 [.r 18] 0), (22, .call 116 [.r 18] 1), (23, .itel (.r 4) (.r 22) (.r 0))]),
  [⟨[(.r 4, true)], .r 6⟩, ⟨[(.r 4, true)], .r 7⟩, ⟨[(.r 4, true)], .r 8⟩, ⟨[(.r 4, true)], .r 10⟩, ⟨[(.r 4, true)], .r 20⟩, ⟨[(.r 4, true)], .r 21⟩],
  [l104_0],
  [.r 23]⟩
noncomputable def p104 (x0 : List DV) (x1 : Int) : Bool :=
  let x2 := ((x0.length / 1 : Nat) : Int)
  let x3 := x2 == 0
  let x4 := !x3
  let x5 := IntKind.wrap .i64 (Int.tdiv x1 32)
  let x6 := decide (x5 ≥ 0)
  let x7 := decide (x5 ≤ x5)
  let x8 := decide (x5 ≤ 14073748835532)
  let x9 : List DV := (List.replicate (Int.toNat x5) ([.i 0] : List DV)).flatten
  let y10 : List DV := g110400 [.i x1, .l x0, .l x9, .i 0, .i 0, .l x0]
  let x10 : Bool := (dget y10 0).toB
  let x12 : List DV := (dget y10 2).toL
  let x13 : Int := (dget y10 3).toI
  let x16 := IntKind.wrap .u32 x13
  let x17 : List DV := [.i x16]
  let x18 := x12 ++ x17
  let x19 := ((x18.length / 1 : Nat) : Int)
  let x20 := decide (x19 ≤ 14073748835532)
  let x21 := p116 x18
  [ow [(x4, true)] x6, ow [(x4, true)] x7, ow [(x4, true)] x8, ow [(x4, true)] x10, ow [(x4, true)] x20, ow [(x4, true)] x21].all id
noncomputable def r104_0 (x0 : List DV) (x1 : Int) : List DV :=
  let x2 := ((x0.length / 1 : Nat) : Int)
  let x3 := x2 == 0
  let x4 := !x3
  let x5 := IntKind.wrap .i64 (Int.tdiv x1 32)
  let x9 : List DV := (List.replicate (Int.toNat x5) ([.i 0] : List DV)).flatten
  let y12 : List DV := g110400 [.i x1, .l x0, .l x9, .i 0, .i 0, .l x0]
  let x12 : List DV := (dget y12 2).toL
  let x13 : Int := (dget y12 3).toI
  let x16 := IntKind.wrap .u32 x13
  let x17 : List DV := [.i x16]
  let x18 := x12 ++ x17
  let x22 := r116_0 x18
  let x23 := bif x4 then x22 else x0
  x23
noncomputable def g104 (ds : List DV) : List DV := [.b (p104 (dget ds 0).toL (dget ds 1).toI), .l (r104_0 (dget ds 0).toL (dget ds 1).toI)]
def S104 : Sigs := ⟨[(116, s116)], [], [(0, 110400)], 1⟩

def s113 : Sig := ⟨[.s (.one (.vec 0)), .s (.one (.i .i64 (.h 1)))], [some (.v false [.int .u32] (.h 0))], [.l, .i], .s (.one (.i .i64 (.h 0))), [], [.i], true⟩
def o113 : Out := ⟨[(2, .lss (.r 1) (.z 0)), (3, .quo .i64 (.r 1) (.z 32)), (4, .llen 1 (.r 0)), (5, .geq (.r 3) (.r 4)), (6, .or (.r 2) (.r 5)), (7, .not (.r 6)), (8, .quo .i64 (.r 1) (.z 32)), (9, .geq (.r 8) (.z 0)), (10, .llen 1 (.r 0)), (11, .lss (.r 8) (.r 10)), (12, .lgeti 1 0 (.r 0) (.r 8)), (13, .rem .i64 (.r 1) (.z 32)), (14, .geq (.r 13) (.z 0)), (15, .shr .u32 (.r 12) (.r 13)), (16, .land .u32 (.r 15) (.z 1)), (17, .conv .i64 (.r 16)), (18, .itei (.r 7) (.r 17) (.z 0))],
  [⟨[(.r 7, true)], .r 9⟩, ⟨[(.r 7, true)], .r 11⟩, ⟨[(.r 7, true)], .r 14⟩],
  [],
  [.r 18]⟩
noncomputable def p113 (x0 : List DV) (x1 : Int) : Bool :=
  let x2 := decide (x1 < 0)
  let x3 := IntKind.wrap .i64 (Int.tdiv x1 32)
  let x4 := ((x0.length / 1 : Nat) : Int)
  let x5 := decide (x3 ≥ x4)
  let x6 := x2 || x5
  let x7 := !x6
  let x8 := IntKind.wrap .i64 (Int.tdiv x1 32)
  let x9 := decide (x8 ≥ 0)
  let x10 := ((x0.length / 1 : Nat) : Int)
  let x11 := decide (x8 < x10)
  let x13 := Int.tmod x1 32
  let x14 := decide (x13 ≥ 0)
  [ow [(x7, true)] x9, ow [(x7, true)] x11, ow [(x7, true)] x14].all id
noncomputable def r113_0 (x0 : List DV) (x1 : Int) : Int :=
  let x2 := decide (x1 < 0)
  let x3 := IntKind.wrap .i64 (Int.tdiv x1 32)
  let x4 := ((x0.length / 1 : Nat) : Int)
  let x5 := decide (x3 ≥ x4)
  let x6 := x2 || x5
  let x7 := !x6
  let x8 := IntKind.wrap .i64 (Int.tdiv x1 32)
  let x12 : Int := (x0.getD (Int.toNat x8 * (1 : Nat) + (0 : Nat)) default).toI
  let x13 := Int.tmod x1 32
  let x15 := ishr .u32 x12 x13
  let x16 := iland .u32 x15 1
  let x17 := IntKind.wrap .i64 x16
  let x18 := bif x7 then x17 else 0
  x18
noncomputable def g113 (ds : List DV) : List DV := [.b (p113 (dget ds 0).toL (dget ds 1).toI), .i (r113_0 (dget ds 0).toL (dget ds 1).toI)]
def S113 : Sigs := ⟨[], [], [], 1⟩

noncomputable def w111700 (x0 : List DV) (x3 : Int) : Bool :=
  let x4 := decide (x3 > 0)
  let x5 := IntKind.wrap .i64 (x3 - 1)
  let x6 := p113 x0 x5
  [ow [(x4, true)] x6].all id
noncomputable def c111700 (x0 : List DV) (x3 : Int) : Bool :=
  let x4 := decide (x3 > 0)
  let x5 := IntKind.wrap .i64 (x3 - 1)
  let x7 := r113_0 x0 x5
  let x8 := x7 == 0
  let x9 := x4 && x8
  x9
noncomputable def n111700_0 (_x0 : List DV) (x3 : Int) : Int :=
  let x10 := IntKind.wrap .i64 (x3 - 1)
  x10
noncomputable def t111700_0 (_x0 : List DV) (_x3 : Int) : Int :=
  0
noncomputable def t111700_1 (_x0 : List DV) (x3 : Int) : Int :=
  x3
noncomputable def W111700 (ds : List DV) : Bool := w111700 (dget ds 0).toL (dget ds 1).toI
noncomputable def C111700 (ds : List DV) : Bool := c111700 (dget ds 0).toL (dget ds 1).toI
noncomputable def N111700 (ds : List DV) : List DV := [.l (dget ds 0).toL, .i (n111700_0 (dget ds 0).toL (dget ds 1).toI)]
noncomputable def T111700 (ds : List DV) : List DV := [.i (t111700_0 (dget ds 0).toL (dget ds 1).toI), .i (t111700_1 (dget ds 0).toL (dget ds 1).toI)]
noncomputable def L111700 (x0 : List DV) (x1 : Int) : Option (List DV) := loopG W111700 C111700 N111700 T111700 [.l x0, .i x1]
noncomputable def p111700 (x0 : List DV) (x1 : Int) : Bool := (L111700 x0 x1).isSome
noncomputable def r111700_0 (x0 : List DV) (x1 : Int) : Int := (dget ((L111700 x0 x1).getD []) 0).toI
noncomputable def r111700_1 (x0 : List DV) (x1 : Int) : Int := (dget ((L111700 x0 x1).getD []) 1).toI
noncomputable def g111700 (ds : List DV) : List DV := [.b (p111700 (dget ds 0).toL (dget ds 1).toI), .i (r111700_0 (dget ds 0).toL (dget ds 1).toI), .i (r111700_1 (dget ds 0).toL (dget ds 1).toI)]
def l117_0 : LR := ⟨111700, 3, 1, [0], [(4, .gtr (.r 3) (.z 0)), (5, .sub .i64 (.r 3) (.z 1)), (6, .call 113 [.r 0, .r 5] 0), (7, .call 113 [.r 0, .r 5] 1), (8, .eql (.r 7) (.z 0)), (9, .and (.r 4) (.r 8)), (10, .sub .i64 (.r 3) (.z 1))], [⟨[(.r 4, true)], .r 6⟩], .r 9, [.r 10], [.z 0, .r 3], [.i]⟩
def s117 : Sig := ⟨[.s (.one (.vec 0))], [some (.v false [.int .u32] (.h 0))], [.l], .s (.one (.i .i64 (.h 0))), [], [.i], true⟩
def o117 : Out := ⟨List.append ([(1, .llen 1 (.r 0)), (2, .mul .i64 (.z 32) (.r 1))]) (callsAt 3 111700 [.r 0, .r 2] 0 3),
  [⟨[], .r 3⟩],
  [l117_0],
  [.r 5]⟩
noncomputable def p117 (x0 : List DV) : Bool :=
  let x1 := ((x0.length / 1 : Nat) : Int)
  let x2 := IntKind.wrap .i64 (32 * x1)
  let x3 := p111700 x0 x2
  [ow [] x3].all id
noncomputable def r117_0 (x0 : List DV) : Int :=
  let x1 := ((x0.length / 1 : Nat) : Int)
  let x2 := IntKind.wrap .i64 (32 * x1)
  let x5 := r111700_1 x0 x2
  x5
noncomputable def g117 (ds : List DV) : List DV := [.b (p117 (dget ds 0).toL), .i (r117_0 (dget ds 0).toL)]
def S117 : Sigs := ⟨[(113, s113)], [], [(0, 111700)], 1⟩

noncomputable def w111202 (x1 : Int) (x0 : List DV) (x7 : List DV) (x8 : Int) (_x9 : List DV) : Bool :=
  let x10 := ((x0.length / 1 : Nat) : Int)
  let x11 := IntKind.wrap .i64 (32 * x10)
  let x12 := decide (x8 < x11)
  let x13 := IntKind.wrap .i64 (x8 - x1)
  let x14 := Int.tmod x13 32
  let x15 := x14 == 0
  let x16 : List DV := [.i 0]
  let x17 := x7 ++ x16
  let x18 := ((x17.length / 1 : Nat) : Int)
  let x19 := decide (x18 ≤ 14073748835532)
  let x20 := bif x15 then x17 else x7
  let x21 := ((x20.length / 1 : Nat) : Int)
  let x22 := IntKind.wrap .i64 (x21 - 1)
  let x23 := decide (x22 ≥ 0)
  let x24 := ((x20.length / 1 : Nat) : Int)
  let x25 := decide (x22 < x24)
  let x27 := p113 x0 x8
  let x30 := IntKind.wrap .i64 (x8 - x1)
  let x31 := Int.tmod x30 32
  let x32 := decide (x31 ≥ 0)
  let x35 := decide (x22 ≥ 0)
  let x36 := ((x20.length / 1 : Nat) : Int)
  let x37 := decide (x22 < x36)
  [ow [(x12, true), (x15, true)] x19, ow [(x12, true)] x23, ow [(x12, true)] x25, ow [(x12, true)] x27, ow [(x12, true)] x32, ow [(x12, true)] x35, ow [(x12, true)] x37].all id
noncomputable def c111202 (_x1 : Int) (x0 : List DV) (_x7 : List DV) (x8 : Int) (_x9 : List DV) : Bool :=
  let x10 := ((x0.length / 1 : Nat) : Int)
  let x11 := IntKind.wrap .i64 (32 * x10)
  let x12 := decide (x8 < x11)
  x12
noncomputable def n111202_0 (x1 : Int) (x0 : List DV) (x7 : List DV) (x8 : Int) (_x9 : List DV) : List DV :=
  let x13 := IntKind.wrap .i64 (x8 - x1)
  let x14 := Int.tmod x13 32
  let x15 := x14 == 0
  let x16 : List DV := [.i 0]
  let x17 := x7 ++ x16
  let x20 := bif x15 then x17 else x7
  let x21 := ((x20.length / 1 : Nat) : Int)
  let x22 := IntKind.wrap .i64 (x21 - 1)
  let x26 : Int := (x20.getD (Int.toNat x22 * (1 : Nat) + (0 : Nat)) default).toI
  let x28 := r113_0 x0 x8
  let x29 := IntKind.wrap .u32 x28
  let x30 := IntKind.wrap .i64 (x8 - x1)
  let x31 := Int.tmod x30 32
  let x33 := ishl .u32 x29 x31
  let x34 := ilor .u32 x26 x33
  let x38 : List DV := x20.set (Int.toNat x22 * (1 : Nat) + (0 : Nat)) (.i x34)
  x38
noncomputable def n111202_1 (_x1 : Int) (_x0 : List DV) (_x7 : List DV) (x8 : Int) (_x9 : List DV) : Int :=
  let x39 := IntKind.wrap .i64 (x8 + 1)
  x39
noncomputable def n111202_2 (_x1 : Int) (x0 : List DV) (_x7 : List DV) (_x8 : Int) (_x9 : List DV) : List DV :=
  x0
noncomputable def t111202_0 (_x1 : Int) (_x0 : List DV) (_x7 : List DV) (_x8 : Int) (_x9 : List DV) : Int :=
  0
noncomputable def t111202_1 (_x1 : Int) (_x0 : List DV) (x7 : List DV) (_x8 : Int) (_x9 : List DV) : List DV :=
  x7
noncomputable def t111202_2 (_x1 : Int) (_x0 : List DV) (_x7 : List DV) (x8 : Int) (_x9 : List DV) : Int :=
  x8
noncomputable def t111202_3 (_x1 : Int) (x0 : List DV) (_x7 : List DV) (_x8 : Int) (_x9 : List DV) : List DV :=
  x0
noncomputable def W111202 (ds : List DV) : Bool := w111202 (dget ds 0).toI (dget ds 1).toL (dget ds 2).toL (dget ds 3).toI (dget ds 4).toL
noncomputable def C111202 (ds : List DV) : Bool := c111202 (dget ds 0).toI (dget ds 1).toL (dget ds 2).toL (dget ds 3).toI (dget ds 4).toL
noncomputable def N111202 (ds : List DV) : List DV := [.i (dget ds 0).toI, .l (dget ds 1).toL, .l (n111202_0 (dget ds 0).toI (dget ds 1).toL (dget ds 2).toL (dget ds 3).toI (dget ds 4).toL), .i (n111202_1 (dget ds 0).toI (dget ds 1).toL (dget ds 2).toL (dget ds 3).toI (dget ds 4).toL), .l (n111202_2 (dget ds 0).toI (dget ds 1).toL (dget ds 2).toL (dget ds 3).toI (dget ds 4).toL)]
noncomputable def T111202 (ds : List DV) : List DV := [.i (t111202_0 (dget ds 0).toI (dget ds 1).toL (dget ds 2).toL (dget ds 3).toI (dget ds 4).toL), .l (t111202_1 (dget ds 0).toI (dget ds 1).toL (dget ds 2).toL (dget ds 3).toI (dget ds 4).toL), .i (t111202_2 (dget ds 0).toI (dget ds 1).toL (dget ds 2).toL (dget ds 3).toI (dget ds 4).toL), .l (t111202_3 (dget ds 0).toI (dget ds 1).toL (dget ds 2).toL (dget ds 3).toI (dget ds 4).toL)]
noncomputable def L111202 (x0 : Int) (x1 : List DV) (x2 : List DV) (x3 : Int) (x4 : List DV) : Option (List DV) := loopG W111202 C111202 N111202 T111202 [.i x0, .l x1, .l x2, .i x3, .l x4]
noncomputable def p111202 (x0 : Int) (x1 : List DV) (x2 : List DV) (x3 : Int) (x4 : List DV) : Bool := (L111202 x0 x1 x2 x3 x4).isSome
noncomputable def r111202_0 (x0 : Int) (x1 : List DV) (x2 : List DV) (x3 : Int) (x4 : List DV) : Int := (dget ((L111202 x0 x1 x2 x3 x4).getD []) 0).toI
noncomputable def r111202_1 (x0 : Int) (x1 : List DV) (x2 : List DV) (x3 : Int) (x4 : List DV) : List DV := (dget ((L111202 x0 x1 x2 x3 x4).getD []) 1).toL
noncomputable def r111202_2 (x0 : Int) (x1 : List DV) (x2 : List DV) (x3 : Int) (x4 : List DV) : Int := (dget ((L111202 x0 x1 x2 x3 x4).getD []) 2).toI
noncomputable def r111202_3 (x0 : Int) (x1 : List DV) (x2 : List DV) (x3 : Int) (x4 : List DV) : List DV := (dget ((L111202 x0 x1 x2 x3 x4).getD []) 3).toL
noncomputable def g111202 (ds : List DV) : List DV := [.b (p111202 (dget ds 0).toI (dget ds 1).toL (dget ds 2).toL (dget ds 3).toI (dget ds 4).toL), .i (r111202_0 (dget ds 0).toI (dget ds 1).toL (dget ds 2).toL (dget ds 3).toI (dget ds 4).toL), .l (r111202_1 (dget ds 0).toI (dget ds 1).toL (dget ds 2).toL (dget ds 3).toI (dget ds 4).toL), .i (r111202_2 (dget ds 0).toI (dget ds 1).toL (dget ds 2).toL (dget ds 3).toI (dget ds 4).toL), .l (r111202_3 (dget ds 0).toI (dget ds 1).toL (dget ds 2).toL (dget ds 3).toI (dget ds 4).toL)]
noncomputable def w111200 (x1 : Int) (x0 : List DV) (x2 : Bool) (x3 : Int) : Bool :=
  let x4 := decide (x3 < x1)
  let x5 := ((x0.length / 1 : Nat) : Int)
  let x6 := IntKind.wrap .i64 (32 * x5)
  let x7 := decide (x3 < x6)
  let x8 := x4 && x7
  let x9 := p113 x0 x3
  [ow [(x8, true), (x2, true)] x9].all id
noncomputable def c111200 (x1 : Int) (x0 : List DV) (_x2 : Bool) (x3 : Int) : Bool :=
  let x4 := decide (x3 < x1)
  let x5 := ((x0.length / 1 : Nat) : Int)
  let x6 := IntKind.wrap .i64 (32 * x5)
  let x7 := decide (x3 < x6)
  let x8 := x4 && x7
  x8
noncomputable def n111200_0 (_x1 : Int) (x0 : List DV) (x2 : Bool) (x3 : Int) : Bool :=
  let x10 := r113_0 x0 x3
  let x11 := x10 == 0
  let x12 := x2 && x11
  x12
noncomputable def n111200_1 (_x1 : Int) (_x0 : List DV) (_x2 : Bool) (x3 : Int) : Int :=
  let x13 := IntKind.wrap .i64 (x3 + 1)
  x13
noncomputable def t111200_0 (_x1 : Int) (_x0 : List DV) (_x2 : Bool) (_x3 : Int) : Int :=
  0
noncomputable def t111200_1 (_x1 : Int) (_x0 : List DV) (x2 : Bool) (_x3 : Int) : Bool :=
  x2
noncomputable def t111200_2 (_x1 : Int) (_x0 : List DV) (_x2 : Bool) (x3 : Int) : Int :=
  x3
noncomputable def W111200 (ds : List DV) : Bool := w111200 (dget ds 0).toI (dget ds 1).toL (dget ds 2).toB (dget ds 3).toI
noncomputable def C111200 (ds : List DV) : Bool := c111200 (dget ds 0).toI (dget ds 1).toL (dget ds 2).toB (dget ds 3).toI
noncomputable def N111200 (ds : List DV) : List DV := [.i (dget ds 0).toI, .l (dget ds 1).toL, .b (n111200_0 (dget ds 0).toI (dget ds 1).toL (dget ds 2).toB (dget ds 3).toI), .i (n111200_1 (dget ds 0).toI (dget ds 1).toL (dget ds 2).toB (dget ds 3).toI)]
noncomputable def T111200 (ds : List DV) : List DV := [.i (t111200_0 (dget ds 0).toI (dget ds 1).toL (dget ds 2).toB (dget ds 3).toI), .b (t111200_1 (dget ds 0).toI (dget ds 1).toL (dget ds 2).toB (dget ds 3).toI), .i (t111200_2 (dget ds 0).toI (dget ds 1).toL (dget ds 2).toB (dget ds 3).toI)]
noncomputable def L111200 (x0 : Int) (x1 : List DV) (x2 : Bool) (x3 : Int) : Option (List DV) := loopG W111200 C111200 N111200 T111200 [.i x0, .l x1, .b x2, .i x3]
noncomputable def p111200 (x0 : Int) (x1 : List DV) (x2 : Bool) (x3 : Int) : Bool := (L111200 x0 x1 x2 x3).isSome
noncomputable def r111200_0 (x0 : Int) (x1 : List DV) (x2 : Bool) (x3 : Int) : Int := (dget ((L111200 x0 x1 x2 x3).getD []) 0).toI
noncomputable def r111200_1 (x0 : Int) (x1 : List DV) (x2 : Bool) (x3 : Int) : Bool := (dget ((L111200 x0 x1 x2 x3).getD []) 1).toB
noncomputable def r111200_2 (x0 : Int) (x1 : List DV) (x2 : Bool) (x3 : Int) : Int := (dget ((L111200 x0 x1 x2 x3).getD []) 2).toI
noncomputable def g111200 (ds : List DV) : List DV := [.b (p111200 (dget ds 0).toI (dget ds 1).toL (dget ds 2).toB (dget ds 3).toI), .i (r111200_0 (dget ds 0).toI (dget ds 1).toL (dget ds 2).toB (dget ds 3).toI), .b (r111200_1 (dget ds 0).toI (dget ds 1).toL (dget ds 2).toB (dget ds 3).toI), .i (r111200_2 (dget ds 0).toI (dget ds 1).toL (dget ds 2).toB (dget ds 3).toI)]
def l112_0 : LR := ⟨111200, 2, 2, [1, 0], [(4, .lss (.r 3) (.r 1)), (5, .llen 1 (.r 0)), (6, .mul .i64 (.z 32) (.r 5)), (7, .lss (.r 3) (.r 6)), (8, .and (.r 4) (.r 7)), (9, .call 113 [.r 0, .r 3] 0), (10, .call 113 [.r 0, .r 3] 1), (11, .eql (.r 10) (.z 0)), (12, .and (.r 2) (.r 11)), (13, .add .i64 (.r 3) (.z 1))], [⟨[(.r 8, true), (.r 2, true)], .r 9⟩], .r 8, [.r 12, .r 13], [.z 0, .r 2, .r 3], [.b, .i]⟩
def l112_1 : LR := ⟨111202, 7, 3, [1, 0], [(10, .llen 1 (.r 0)), (11, .mul .i64 (.z 32) (.r 10)), (12, .lss (.r 8) (.r 11)), (13, .sub .i64 (.r 8) (.r 1)), (14, .rem .i64 (.r 13) (.z 32)), (15, .eql (.r 14) (.z 0)), (16, .lmk [.i] [.z 0]), (17, .lcat (.r 7) (.r 16)), (18, .llen 1 (.r 17)), (19, .leq (.r 18) (.z 14073748835532)), (20, .itel (.r 15) (.r 17) (.r 7)), (21, .llen 1 (.r 20)), (22, .sub .i64 (.r 21) (.z 1)), (23, .geq (.r 22) (.z 0)), (24, .llen 1 (.r 20)), (25, .lss (.r 22) (.r 24)), (26, .lgeti 1 0 (.r 20) (.r 22)), (27, .call 113 [.r 0, .r 8] 0), (28, .call 113 [.r 0, .r 8] 1), (29, .conv .u32 (.r 28)), (30, .sub .i64 (.r 8) (.r 1)), (31, .rem .i64 (.r 30) (.z 32)), (32, .geq (.r 31) (.z 0)), (33, .shl .u32 (.r 29) (.r 31)), (34, .lor .u32 (.r 26) (.r 33)), (35, .geq (.r 22) (.z 0)), (36, .llen 1 (.r 20)), (37, .lss (.r 22) (.r 36)), (38, .lset 1 0 .i (.r 20) (.r 22) (.r 34)), (39, .add .i64 (.r 8) (.z 1))], [⟨[(.r 12, true), (.r 15, true)], .r 19⟩, ⟨[(.r 12, true)], .r 23⟩, ⟨[(.r 12, true)], .r 25⟩, ⟨[(.r 12, true)], .r 27⟩, ⟨[(.r 12, true)], .r 32⟩, ⟨[(.r 12, true)], .r 35⟩, ⟨[(.r 12, true)], .r 37⟩], .r 12, [.r 38, .r 39, .r 0], [.z 0, .r 7, .r 8, .r 0], [.l, .i, .l]⟩
def s112 : Sig := ⟨[.s (.one (.vec 0)), .s (.one (.i .i64 (.h 1)))], [some (.v false [.int .u32] (.h 0))], [.l, .i], .t [.one (.vec 1), .one (.b (.h 0))], [none, some (.v false [.int .u32] (.h 1))], [.b, .l], true⟩
def o112 : Out := ⟨List.append (List.append (List.append (callsAt 2 111200 [.r 1, .r 0, .t true, .z 0] 0 4) ([(6, .lmk [] [])])) (callsAt 7 111202 [.r 1, .r 0, .r 6, .r 1, .r 0] 0 5)) ([(12, .call 116 [.r 9] 0), (13, .call 116 [.r 9] 1)]),
  [⟨[], .r 2⟩, ⟨[], .r 7⟩, ⟨[], .r 12⟩],
  [l112_0, l112_1],
  [.r 4, .r 13]⟩
noncomputable def p112 (x0 : List DV) (x1 : Int) : Bool :=
  let x2 := p111200 x1 x0 true 0
  let x6 : List DV := []
  let y7 : List DV := g111202 [.i x1, .l x0, .l x6, .i x1, .l x0]
  let x7 : Bool := (dget y7 0).toB
  let x9 : List DV := (dget y7 2).toL
  let x12 := p116 x9
  [ow [] x2, ow [] x7, ow [] x12].all id
noncomputable def r112_0 (x0 : List DV) (x1 : Int) : Bool :=
  let x4 := r111200_1 x1 x0 true 0
  x4
noncomputable def r112_1 (x0 : List DV) (x1 : Int) : List DV :=
  let x6 : List DV := []
  let y9 : List DV := g111202 [.i x1, .l x0, .l x6, .i x1, .l x0]
  let x9 : List DV := (dget y9 2).toL
  let x13 := r116_0 x9
  x13
noncomputable def g112 (ds : List DV) : List DV := [.b (p112 (dget ds 0).toL (dget ds 1).toI), .b (r112_0 (dget ds 0).toL (dget ds 1).toI), .l (r112_1 (dget ds 0).toL (dget ds 1).toI)]
def S112 : Sigs := ⟨[(116, s116), (113, s113)], [], [(0, 111200), (2, 111202)], 1⟩

noncomputable def w111100 (x0 : List DV) (_x1 : Int) (x2 : Int) : Bool :=
  let x3 := ((x0.length / 1 : Nat) : Int)
  let x4 := decide (x2 < x3)
  let x5 := decide (x2 < 2)
  let x6 := x4 && x5
  let x7 := decide (x2 ≥ 0)
  let x8 := ((x0.length / 1 : Nat) : Int)
  let x9 := decide (x2 < x8)
  let x12 := IntKind.wrap .i64 (32 * x2)
  let x13 := decide (x12 ≥ 0)
  [ow [(x6, true)] x7, ow [(x6, true)] x9, ow [(x6, true)] x13].all id
noncomputable def c111100 (x0 : List DV) (_x1 : Int) (x2 : Int) : Bool :=
  let x3 := ((x0.length / 1 : Nat) : Int)
  let x4 := decide (x2 < x3)
  let x5 := decide (x2 < 2)
  let x6 := x4 && x5
  x6
noncomputable def n111100_0 (x0 : List DV) (x1 : Int) (x2 : Int) : Int :=
  let x10 : Int := (x0.getD (Int.toNat x2 * (1 : Nat) + (0 : Nat)) default).toI
  let x11 := IntKind.wrap .u64 x10
  let x12 := IntKind.wrap .i64 (32 * x2)
  let x14 := ishl .u64 x11 x12
  let x15 := ilor .u64 x1 x14
  x15
noncomputable def n111100_1 (_x0 : List DV) (_x1 : Int) (x2 : Int) : Int :=
  let x16 := IntKind.wrap .i64 (x2 + 1)
  x16
noncomputable def t111100_0 (_x0 : List DV) (_x1 : Int) (_x2 : Int) : Int :=
  0
noncomputable def t111100_1 (_x0 : List DV) (x1 : Int) (_x2 : Int) : Int :=
  x1
noncomputable def t111100_2 (_x0 : List DV) (_x1 : Int) (x2 : Int) : Int :=
  x2
noncomputable def W111100 (ds : List DV) : Bool := w111100 (dget ds 0).toL (dget ds 1).toI (dget ds 2).toI
noncomputable def C111100 (ds : List DV) : Bool := c111100 (dget ds 0).toL (dget ds 1).toI (dget ds 2).toI
noncomputable def N111100 (ds : List DV) : List DV := [.l (dget ds 0).toL, .i (n111100_0 (dget ds 0).toL (dget ds 1).toI (dget ds 2).toI), .i (n111100_1 (dget ds 0).toL (dget ds 1).toI (dget ds 2).toI)]
noncomputable def T111100 (ds : List DV) : List DV := [.i (t111100_0 (dget ds 0).toL (dget ds 1).toI (dget ds 2).toI), .i (t111100_1 (dget ds 0).toL (dget ds 1).toI (dget ds 2).toI), .i (t111100_2 (dget ds 0).toL (dget ds 1).toI (dget ds 2).toI)]
noncomputable def L111100 (x0 : List DV) (x1 : Int) (x2 : Int) : Option (List DV) := loopG W111100 C111100 N111100 T111100 [.l x0, .i x1, .i x2]
noncomputable def p111100 (x0 : List DV) (x1 : Int) (x2 : Int) : Bool := (L111100 x0 x1 x2).isSome
noncomputable def r111100_0 (x0 : List DV) (x1 : Int) (x2 : Int) : Int := (dget ((L111100 x0 x1 x2).getD []) 0).toI
noncomputable def r111100_1 (x0 : List DV) (x1 : Int) (x2 : Int) : Int := (dget ((L111100 x0 x1 x2).getD []) 1).toI
noncomputable def r111100_2 (x0 : List DV) (x1 : Int) (x2 : Int) : Int := (dget ((L111100 x0 x1 x2).getD []) 2).toI
noncomputable def g111100 (ds : List DV) : List DV := [.b (p111100 (dget ds 0).toL (dget ds 1).toI (dget ds 2).toI), .i (r111100_0 (dget ds 0).toL (dget ds 1).toI (dget ds 2).toI), .i (r111100_1 (dget ds 0).toL (dget ds 1).toI (dget ds 2).toI), .i (r111100_2 (dget ds 0).toL (dget ds 1).toI (dget ds 2).toI)]
def l111_0 : LR := ⟨111100, 1, 2, [0], [(3, .llen 1 (.r 0)), (4, .lss (.r 2) (.r 3)), (5, .lss (.r 2) (.z 2)), (6, .and (.r 4) (.r 5)), (7, .geq (.r 2) (.z 0)), (8, .llen 1 (.r 0)), (9, .lss (.r 2) (.r 8)), (10, .lgeti 1 0 (.r 0) (.r 2)), (11, .conv .u64 (.r 10)), (12, .mul .i64 (.z 32) (.r 2)), (13, .geq (.r 12) (.z 0)), (14, .shl .u64 (.r 11) (.r 12)), (15, .lor .u64 (.r 1) (.r 14)), (16, .add .i64 (.r 2) (.z 1))], [⟨[(.r 6, true)], .r 7⟩, ⟨[(.r 6, true)], .r 9⟩, ⟨[(.r 6, true)], .r 13⟩], .r 6, [.r 15, .r 16], [.z 0, .r 1, .r 2], [.i, .i]⟩
def s111 : Sig := ⟨[.s (.one (.vec 0))], [some (.v false [.int .u32] (.h 0))], [.l], .s (.one (.i .u64 (.h 0))), [], [.i], true⟩
def o111 : Out := ⟨callsAt 1 111100 [.r 0, .z 0, .z 0] 0 4,
  [⟨[], .r 1⟩],
  [l111_0],
  [.r 3]⟩
noncomputable def p111 (x0 : List DV) : Bool :=
  let x1 := p111100 x0 0 0
  [ow [] x1].all id
noncomputable def r111_0 (x0 : List DV) : Int :=
  let x3 := r111100_1 x0 0 0
  x3
noncomputable def g111 (ds : List DV) : List DV := [.b (p111 (dget ds 0).toL), .i (r111_0 (dget ds 0).toL)]
def S111 : Sigs := ⟨[], [], [(0, 111100)], 1⟩

def s76 : Sig := ⟨[.s (.one (.i .i64 (.h 0))), .s (.one (.i .u64 (.h 1)))], [], [.i, .i], .s (.agg [.b (.h 0), .vec 0, .i .i64 (.h 1)]), [some (.v false [.int .u32] (.h 2))], [.b, .i, .l], true⟩
def o76 : Out := ⟨List.append (List.append ([(2, .lmk [] []), (3, .call 89 [.r 0] 0), (4, .call 89 [.r 0] 1)]) (callsAt 5 90 [.r 0, .r 1] 0 4)) ([(9, .gtr (.r 7) (.z 0)), (10, .geq (.r 3) (.z 0)), (11, .shl .u64 (.z 1) (.r 3)), (12, .lor .u64 (.r 8) (.r 11)), (13, .itei (.r 9) (.r 7) (.z 1)), (14, .itei (.r 9) (.r 12) (.r 8)), (15, .call 80 [.r 14] 0), (16, .call 80 [.r 14] 1), (17, .sub .i64 (.r 4) (.z 1)), (18, .geq (.r 17) (.z 0)), (19, .shl .i64 (.z 1) (.r 17)), (20, .sub .i64 (.r 19) (.z 1)), (21, .sub .i64 (.r 13) (.r 20)), (22, .sub .i64 (.r 21) (.r 3))]),
  [⟨[], .r 5⟩, ⟨[(.r 9, true)], .r 10⟩, ⟨[], .r 15⟩, ⟨[], .r 18⟩],
  [],
  [.r 6, .r 22, .r 16]⟩
noncomputable def p76 (x0 : Int) (x1 : Int) : Bool :=
  let x3 := r89_0 x0
  let x4 := r89_1 x0
  let x5 := p90 x0
  let x7 := r90_1 x0 x1
  let x8 := r90_2 x0 x1
  let x9 := decide (x7 > 0)
  let x10 := decide (x3 ≥ 0)
  let x11 := ishl .u64 1 x3
  let x12 := ilor .u64 x8 x11
  let x14 := bif x9 then x12 else x8
  let x15 := p80 x14
  let x17 := IntKind.wrap .i64 (x4 - 1)
  let x18 := decide (x17 ≥ 0)
  [ow [] x5, ow [(x9, true)] x10, ow [] x15, ow [] x18].all id
noncomputable def r76_0 (x0 : Int) (x1 : Int) : Bool :=
  let x6 := r90_0 x0 x1
  x6
noncomputable def r76_1 (x0 : Int) (x1 : Int) : Int :=
  let x3 := r89_0 x0
  let x4 := r89_1 x0
  let x7 := r90_1 x0 x1
  let x9 := decide (x7 > 0)
  let x13 := bif x9 then x7 else 1
  let x17 := IntKind.wrap .i64 (x4 - 1)
  let x19 := ishl .i64 1 x17
  let x20 := IntKind.wrap .i64 (x19 - 1)
  let x21 := IntKind.wrap .i64 (x13 - x20)
  let x22 := IntKind.wrap .i64 (x21 - x3)
  x22
noncomputable def r76_2 (x0 : Int) (x1 : Int) : List DV :=
  let x3 := r89_0 x0
  let x7 := r90_1 x0 x1
  let x8 := r90_2 x0 x1
  let x9 := decide (x7 > 0)
  let x11 := ishl .u64 1 x3
  let x12 := ilor .u64 x8 x11
  let x14 := bif x9 then x12 else x8
  let x16 := r80_0 x14
  x16
noncomputable def g76 (ds : List DV) : List DV := [.b (p76 (dget ds 0).toI (dget ds 1).toI), .b (r76_0 (dget ds 0).toI (dget ds 1).toI), .i (r76_1 (dget ds 0).toI (dget ds 1).toI), .l (r76_2 (dget ds 0).toI (dget ds 1).toI)]
def S76 : Sigs := ⟨[(89, s89), (90, s90), (80, s80)], [], [], 0⟩

def s118 : Sig := ⟨[.s (.one (.i .i64 (.h 0))), .s (.one (.b (.h 1))), .s (.one (.vec 0)), .s (.one (.i .i64 (.h 3))), .s (.one (.b (.h 4)))], [some (.v false [.int .u32] (.h 2))], [.i, .b, .l, .i, .b], .t [.one (.vec 1), .one (.b (.h 0))], [none, some (.v false [.int .u32] (.h 1))], [.b, .l], true⟩
def o118 : Out := ⟨List.append (List.append (List.append (List.append ([(5, .leq (.r 3) (.z 0)), (6, .sub .i64 (.z 0) (.r 3)), (7, .call 104 [.r 2, .r 6] 0), (8, .call 104 [.r 2, .r 6] 1), (9, .not (.r 4)), (10, .not (.r 5))]) (callsAt 11 112 [.r 2, .r 3] 0 3)) ([(14, .sub .i64 (.r 3) (.z 1)), (15, .call 113 [.r 2, .r 14] 0), (16, .call 113 [.r 2, .r 14] 1), (17, .eql (.r 16) (.z 1)), (18, .sub .i64 (.r 3) (.z 1))])) (callsAt 19 112 [.r 2, .r 18] 0 3)) ([(22, .not (.r 4)), (23, .and (.r 12) (.r 22)), (24, .call 113 [.r 13, .z 0] 0), (25, .call 113 [.r 13, .z 0] 1), (26, .eql (.r 25) (.z 1)), (27, .not (.r 20)), (28, .or (.r 27) (.r 4)), (29, .call 126 [.r 0, .r 1, .r 26, .r 17, .r 28] 0), (30, .lmk [.i] [.z 1]), (31, .call 114 [.r 13, .r 30] 0), (32, .call 114 [.r 13, .r 30] 1), (33, .itel (.r 29) (.r 32) (.r 13)), (34, .itel (.r 10) (.r 33) (.r 8)), (35, .iteb (.r 10) (.r 23) (.r 9)), (36, .itel (.r 10) (.r 13) (.r 8))]),
  [⟨[(.r 5, true)], .r 7⟩, ⟨[(.r 10, true)], .r 11⟩, ⟨[(.r 10, true)], .r 15⟩, ⟨[(.r 10, true)], .r 19⟩, ⟨[(.r 10, true)], .r 24⟩, ⟨[(.r 10, true), (.r 29, true)], .r 31⟩],
  [],
  [.r 35, .r 34]⟩
noncomputable def p118 (x0 : Int) (x1 : Bool) (x2 : List DV) (x3 : Int) (x4 : Bool) : Bool :=
  let x5 := decide (x3 ≤ 0)
  let x6 := IntKind.wrap .i64 (0 - x3)
  let x7 := p104 x2 x6
  let x10 := !x5
  let x11 := p112 x2 x3
  let x13 := r112_1 x2 x3
  let x14 := IntKind.wrap .i64 (x3 - 1)
  let x15 := p113 x2 x14
  let x16 := r113_0 x2 x14
  let x17 := x16 == 1
  let x18 := IntKind.wrap .i64 (x3 - 1)
  let x19 := p112 x2 x18
  let x20 := r112_0 x2 x18
  let x24 := p113 x13 0
  let x25 := r113_0 x13 0
  let x26 := x25 == 1
  let x27 := !x20
  let x28 := x27 || x4
  let x29 := r126_0 x0 x1 x26 x17 x28
  let x30 : List DV := [.i 1]
  let x31 := p114 x13 x30
  [ow [(x5, true)] x7, ow [(x10, true)] x11, ow [(x10, true)] x15, ow [(x10, true)] x19, ow [(x10, true)] x24, ow [(x10, true), (x29, true)] x31].all id
noncomputable def r118_0 (x2 : List DV) (x3 : Int) (x4 : Bool) : Bool :=
  let x5 := decide (x3 ≤ 0)
  let x9 := !x4
  let x10 := !x5
  let x12 := r112_0 x2 x3
  let x22 := !x4
  let x23 := x12 && x22
  let x35 := bif x10 then x23 else x9
  x35
noncomputable def r118_1 (x0 : Int) (x1 : Bool) (x2 : List DV) (x3 : Int) (x4 : Bool) : List DV :=
  let x5 := decide (x3 ≤ 0)
  let x6 := IntKind.wrap .i64 (0 - x3)
  let x8 := r104_0 x2 x6
  let x10 := !x5
  let x13 := r112_1 x2 x3
  let x14 := IntKind.wrap .i64 (x3 - 1)
  let x16 := r113_0 x2 x14
  let x17 := x16 == 1
  let x18 := IntKind.wrap .i64 (x3 - 1)
  let x20 := r112_0 x2 x18
  let x25 := r113_0 x13 0
  let x26 := x25 == 1
  let x27 := !x20
  let x28 := x27 || x4
  let x29 := r126_0 x0 x1 x26 x17 x28
  let x30 : List DV := [.i 1]
  let x32 := r114_0 x13 x30
  let x33 := bif x29 then x32 else x13
  let x34 := bif x10 then x33 else x8
  x34
noncomputable def g118 (ds : List DV) : List DV := [.b (p118 (dget ds 0).toI (dget ds 1).toB (dget ds 2).toL (dget ds 3).toI (dget ds 4).toB), .b (r118_0 (dget ds 2).toL (dget ds 3).toI (dget ds 4).toB), .l (r118_1 (dget ds 0).toI (dget ds 1).toB (dget ds 2).toL (dget ds 3).toI (dget ds 4).toB)]
def S118 : Sigs := ⟨[(104, s104), (112, s112), (113, s113), (126, s126), (114, s114)], [], [], 1⟩

def s81 : Sig := ⟨[.s (.one (.i .i64 (.h 0))), .s (.one (.i .i64 (.h 1))), .s (.agg [.b (.h 2), .vec 0, .i .i64 (.h 4)]), .s (.one (.b (.h 5)))], [some (.v false [.int .u32] (.h 3))], [.i, .i, .b, .l, .i, .b], .t [.one (.i .u64 (.h 0)), .one (.i .i64 (.h 1))], [], [.i, .i], true⟩
def o81 : Out := ⟨List.append (List.append (List.append (List.append (List.append (List.append ([(6, .call 89 [.r 0] 0), (7, .call 89 [.r 0] 1), (8, .sub .i64 (.r 7) (.z 1)), (9, .geq (.r 8) (.z 0)), (10, .shl .i64 (.z 1) (.r 8)), (11, .sub .i64 (.z 2) (.r 10)), (12, .sub .i64 (.r 11) (.r 6)), (13, .call 117 [.r 3] 0), (14, .call 117 [.r 3] 1), (15, .add .i64 (.r 14) (.r 4)), (16, .sub .i64 (.r 15) (.r 6)), (17, .sub .i64 (.r 16) (.z 1)), (18, .gtr (.r 12) (.r 17)), (19, .itei (.r 18) (.r 12) (.r 17)), (20, .sub .i64 (.r 19) (.r 4))]) (callsAt 21 118 [.r 1, .r 2, .r 3, .r 20, .r 5] 0 3)) ([(24, .call 117 [.r 23] 0), (25, .call 117 [.r 23] 1), (26, .add .i64 (.r 6) (.z 1)), (27, .gtr (.r 25) (.r 26))])) (callsAt 28 112 [.r 23, .z 1] 0 3)) ([(31, .add .i64 (.r 19) (.z 1)), (32, .itei (.r 27) (.r 31) (.r 19)), (33, .itel (.r 27) (.r 30) (.r 23)), (34, .not (.r 22)), (35, .itei (.r 34) (.z 1) (.z 0)), (36, .sub .i64 (.r 15) (.r 6)), (37, .sub .i64 (.r 36) (.z 1)), (38, .lss (.r 37) (.r 12)), (39, .not (.r 22)), (40, .and (.r 38) (.r 39)), (41, .sub .i64 (.r 15) (.r 6)), (42, .sub .i64 (.r 41) (.z 1)), (43, .sub .i64 (.r 42) (.r 4))])) (callsAt 44 118 [.r 1, .r 2, .r 3, .r 43, .r 5] 0 3)) ([(47, .call 117 [.r 46] 0), (48, .call 117 [.r 46] 1), (49, .add .i64 (.r 48) (.r 15)), (50, .sub .i64 (.r 49) (.r 6)), (51, .sub .i64 (.r 50) (.z 1)), (52, .add .i64 (.r 12) (.r 6)), (53, .add .i64 (.r 52) (.z 1)), (54, .lss (.r 51) (.r 53)), (55, .lor .i64 (.r 35) (.z 2)), (56, .itei (.r 54) (.r 55) (.r 35)), (57, .itei (.r 40) (.r 56) (.r 35)), (58, .add .i64 (.r 32) (.r 6)), (59, .sub .i64 (.r 7) (.z 1)), (60, .geq (.r 59) (.z 0)), (61, .shl .i64 (.z 1) (.r 59)), (62, .sub .i64 (.r 61) (.z 1)), (63, .gtr (.r 58) (.r 62)), (64, .call 117 [.r 33] 0), (65, .call 117 [.r 33] 1), (66, .add .i64 (.r 6) (.z 1)), (67, .eql (.r 65) (.r 66)), (68, .and (.r 63) (.r 67)), (69, .eql (.r 1) (.z 1)), (70, .eql (.r 1) (.z 2)), (71, .not (.r 2)), (72, .and (.r 70) (.r 71)), (73, .or (.r 69) (.r 72)), (74, .eql (.r 1) (.z 3)), (75, .and (.r 74) (.r 2)), (76, .or (.r 73) (.r 75)), (77, .call 119 [.r 0, .r 2] 0), (78, .call 119 [.r 0, .r 2] 1), (79, .not (.r 76)), (80, .call 84 [.r 0, .r 2] 0), (81, .call 84 [.r 0, .r 2] 1), (82, .not (.r 68)), (83, .call 111 [.r 33] 0), (84, .call 111 [.r 33] 1), (85, .call 117 [.r 33] 0), (86, .call 117 [.r 33] 1), (87, .add .i64 (.r 6) (.z 1)), (88, .eql (.r 86) (.r 87)), (89, .geq (.r 6) (.z 0)), (90, .shl .u64 (.z 1) (.r 6)), (91, .sub .u64 (.r 84) (.r 90)), (92, .sub .i64 (.r 32) (.r 12)), (93, .add .i64 (.r 92) (.z 1)), (94, .conv .u64 (.r 93)), (95, .geq (.r 6) (.z 0)), (96, .shl .u64 (.r 94) (.r 6)), (97, .add .u64 (.r 91) (.r 96)), (98, .itei (.r 88) (.r 97) (.r 84)), (99, .call 85 [.r 0, .r 2] 0), (100, .call 85 [.r 0, .r 2] 1), (101, .lor .u64 (.r 100) (.r 98)), (102, .itei (.r 79) (.r 81) (.r 78)), (103, .itei (.r 82) (.r 101) (.r 102)), (104, .itei (.r 82) (.r 57) (.z 5))]),
  [⟨[], .r 9⟩, ⟨[], .r 13⟩, ⟨[], .r 21⟩, ⟨[], .r 24⟩, ⟨[(.r 27, true)], .r 28⟩, ⟨[(.r 40, true)], .r 44⟩, ⟨[(.r 40, true)], .r 47⟩, ⟨[], .r 60⟩, ⟨[(.r 63, true)], .r 64⟩, ⟨[(.r 68, true), (.r 76, true)], .r 77⟩, ⟨[(.r 68, true), (.r 79, true)], .r 80⟩, ⟨[(.r 82, true)], .r 83⟩, ⟨[(.r 82, true)], .r 85⟩, ⟨[(.r 82, true), (.r 88, true)], .r 89⟩, ⟨[(.r 82, true), (.r 88, true)], .r 95⟩, ⟨[(.r 82, true)], .r 99⟩],
  [],
  [.r 103, .r 104]⟩
noncomputable def p81 (x0 : Int) (x1 : Int) (x2 : Bool) (x3 : List DV) (x4 : Int) (x5 : Bool) : Bool :=
  let x6 := r89_0 x0
  let x7 := r89_1 x0
  let x8 := IntKind.wrap .i64 (x7 - 1)
  let x9 := decide (x8 ≥ 0)
  let x10 := ishl .i64 1 x8
  let x11 := IntKind.wrap .i64 (2 - x10)
  let x12 := IntKind.wrap .i64 (x11 - x6)
  let x13 := p117 x3
  let x14 := r117_0 x3
  let x15 := IntKind.wrap .i64 (x14 + x4)
  let x16 := IntKind.wrap .i64 (x15 - x6)
  let x17 := IntKind.wrap .i64 (x16 - 1)
  let x18 := decide (x12 > x17)
  let x19 := bif x18 then x12 else x17
  let x20 := IntKind.wrap .i64 (x19 - x4)
  let x21 := p118 x1 x2 x3 x20 x5
  let x22 := r118_0 x3 x20 x5
  let x23 := r118_1 x1 x2 x3 x20 x5
  let x24 := p117 x23
  let x25 := r117_0 x23
  let x26 := IntKind.wrap .i64 (x6 + 1)
  let x27 := decide (x25 > x26)
  let x28 := p112 x23 1
  let x30 := r112_1 x23 1
  let x31 := IntKind.wrap .i64 (x19 + 1)
  let x32 := bif x27 then x31 else x19
  let x33 := bif x27 then x30 else x23
  let x36 := IntKind.wrap .i64 (x15 - x6)
  let x37 := IntKind.wrap .i64 (x36 - 1)
  let x38 := decide (x37 < x12)
  let x39 := !x22
  let x40 := x38 && x39
  let x41 := IntKind.wrap .i64 (x15 - x6)
  let x42 := IntKind.wrap .i64 (x41 - 1)
  let x43 := IntKind.wrap .i64 (x42 - x4)
  let x44 := p118 x1 x2 x3 x43 x5
  let x46 := r118_1 x1 x2 x3 x43 x5
  let x47 := p117 x46
  let x58 := IntKind.wrap .i64 (x32 + x6)
  let x59 := IntKind.wrap .i64 (x7 - 1)
  let x60 := decide (x59 ≥ 0)
  let x61 := ishl .i64 1 x59
  let x62 := IntKind.wrap .i64 (x61 - 1)
  let x63 := decide (x58 > x62)
  let x64 := p117 x33
  let x65 := r117_0 x33
  let x66 := IntKind.wrap .i64 (x6 + 1)
  let x67 := x65 == x66
  let x68 := x63 && x67
  let x69 := x1 == 1
  let x70 := x1 == 2
  let x71 := !x2
  let x72 := x70 && x71
  let x73 := x69 || x72
  let x74 := x1 == 3
  let x75 := x74 && x2
  let x76 := x73 || x75
  let x77 := p119 x0 x2
  let x79 := !x76
  let x80 := p84 x0 x2
  let x82 := !x68
  let x83 := p111 x33
  let x85 := p117 x33
  let x86 := r117_0 x33
  let x87 := IntKind.wrap .i64 (x6 + 1)
  let x88 := x86 == x87
  let x89 := decide (x6 ≥ 0)
  let x95 := decide (x6 ≥ 0)
  let x99 := p85 x0 x2
  [ow [] x9, ow [] x13, ow [] x21, ow [] x24, ow [(x27, true)] x28, ow [(x40, true)] x44, ow [(x40, true)] x47, ow [] x60, ow [(x63, true)] x64, ow [(x68, true), (x76, true)] x77, ow [(x68, true), (x79, true)] x80, ow [(x82, true)] x83, ow [(x82, true)] x85, ow [(x82, true), (x88, true)] x89, ow [(x82, true), (x88, true)] x95, ow [(x82, true)] x99].all id
noncomputable def r81_0 (x0 : Int) (x1 : Int) (x2 : Bool) (x3 : List DV) (x4 : Int) (x5 : Bool) : Int :=
  let x6 := r89_0 x0
  let x7 := r89_1 x0
  let x8 := IntKind.wrap .i64 (x7 - 1)
  let x10 := ishl .i64 1 x8
  let x11 := IntKind.wrap .i64 (2 - x10)
  let x12 := IntKind.wrap .i64 (x11 - x6)
  let x14 := r117_0 x3
  let x15 := IntKind.wrap .i64 (x14 + x4)
  let x16 := IntKind.wrap .i64 (x15 - x6)
  let x17 := IntKind.wrap .i64 (x16 - 1)
  let x18 := decide (x12 > x17)
  let x19 := bif x18 then x12 else x17
  let x20 := IntKind.wrap .i64 (x19 - x4)
  let x23 := r118_1 x1 x2 x3 x20 x5
  let x25 := r117_0 x23
  let x26 := IntKind.wrap .i64 (x6 + 1)
  let x27 := decide (x25 > x26)
  let x30 := r112_1 x23 1
  let x31 := IntKind.wrap .i64 (x19 + 1)
  let x32 := bif x27 then x31 else x19
  let x33 := bif x27 then x30 else x23
  let x58 := IntKind.wrap .i64 (x32 + x6)
  let x59 := IntKind.wrap .i64 (x7 - 1)
  let x61 := ishl .i64 1 x59
  let x62 := IntKind.wrap .i64 (x61 - 1)
  let x63 := decide (x58 > x62)
  let x65 := r117_0 x33
  let x66 := IntKind.wrap .i64 (x6 + 1)
  let x67 := x65 == x66
  let x68 := x63 && x67
  let x69 := x1 == 1
  let x70 := x1 == 2
  let x71 := !x2
  let x72 := x70 && x71
  let x73 := x69 || x72
  let x74 := x1 == 3
  let x75 := x74 && x2
  let x76 := x73 || x75
  let x78 := r119_0 x0 x2
  let x79 := !x76
  let x81 := r84_0 x0 x2
  let x82 := !x68
  let x84 := r111_0 x33
  let x86 := r117_0 x33
  let x87 := IntKind.wrap .i64 (x6 + 1)
  let x88 := x86 == x87
  let x90 := ishl .u64 1 x6
  let x91 := IntKind.wrap .u64 (x84 - x90)
  let x92 := IntKind.wrap .i64 (x32 - x12)
  let x93 := IntKind.wrap .i64 (x92 + 1)
  let x94 := IntKind.wrap .u64 x93
  let x96 := ishl .u64 x94 x6
  let x97 := IntKind.wrap .u64 (x91 + x96)
  let x98 := bif x88 then x97 else x84
  let x100 := r85_0 x0 x2
  let x101 := ilor .u64 x100 x98
  let x102 := bif x79 then x81 else x78
  let x103 := bif x82 then x101 else x102
  x103
noncomputable def r81_1 (x0 : Int) (x1 : Int) (x2 : Bool) (x3 : List DV) (x4 : Int) (x5 : Bool) : Int :=
  let x6 := r89_0 x0
  let x7 := r89_1 x0
  let x8 := IntKind.wrap .i64 (x7 - 1)
  let x10 := ishl .i64 1 x8
  let x11 := IntKind.wrap .i64 (2 - x10)
  let x12 := IntKind.wrap .i64 (x11 - x6)
  let x14 := r117_0 x3
  let x15 := IntKind.wrap .i64 (x14 + x4)
  let x16 := IntKind.wrap .i64 (x15 - x6)
  let x17 := IntKind.wrap .i64 (x16 - 1)
  let x18 := decide (x12 > x17)
  let x19 := bif x18 then x12 else x17
  let x20 := IntKind.wrap .i64 (x19 - x4)
  let x22 := r118_0 x3 x20 x5
  let x23 := r118_1 x1 x2 x3 x20 x5
  let x25 := r117_0 x23
  let x26 := IntKind.wrap .i64 (x6 + 1)
  let x27 := decide (x25 > x26)
  let x30 := r112_1 x23 1
  let x31 := IntKind.wrap .i64 (x19 + 1)
  let x32 := bif x27 then x31 else x19
  let x33 := bif x27 then x30 else x23
  let x34 := !x22
  let x35 : Int := bif x34 then 1 else 0
  let x36 := IntKind.wrap .i64 (x15 - x6)
  let x37 := IntKind.wrap .i64 (x36 - 1)
  let x38 := decide (x37 < x12)
  let x39 := !x22
  let x40 := x38 && x39
  let x41 := IntKind.wrap .i64 (x15 - x6)
  let x42 := IntKind.wrap .i64 (x41 - 1)
  let x43 := IntKind.wrap .i64 (x42 - x4)
  let x46 := r118_1 x1 x2 x3 x43 x5
  let x48 := r117_0 x46
  let x49 := IntKind.wrap .i64 (x48 + x15)
  let x50 := IntKind.wrap .i64 (x49 - x6)
  let x51 := IntKind.wrap .i64 (x50 - 1)
  let x52 := IntKind.wrap .i64 (x12 + x6)
  let x53 := IntKind.wrap .i64 (x52 + 1)
  let x54 := decide (x51 < x53)
  let x55 := ilor .i64 x35 2
  let x56 := bif x54 then x55 else x35
  let x57 := bif x40 then x56 else x35
  let x58 := IntKind.wrap .i64 (x32 + x6)
  let x59 := IntKind.wrap .i64 (x7 - 1)
  let x61 := ishl .i64 1 x59
  let x62 := IntKind.wrap .i64 (x61 - 1)
  let x63 := decide (x58 > x62)
  let x65 := r117_0 x33
  let x66 := IntKind.wrap .i64 (x6 + 1)
  let x67 := x65 == x66
  let x68 := x63 && x67
  let x82 := !x68
  let x104 := bif x82 then x57 else 5
  x104
noncomputable def g81 (ds : List DV) : List DV := [.b (p81 (dget ds 0).toI (dget ds 1).toI (dget ds 2).toB (dget ds 3).toL (dget ds 4).toI (dget ds 5).toB), .i (r81_0 (dget ds 0).toI (dget ds 1).toI (dget ds 2).toB (dget ds 3).toL (dget ds 4).toI (dget ds 5).toB), .i (r81_1 (dget ds 0).toI (dget ds 1).toI (dget ds 2).toB (dget ds 3).toL (dget ds 4).toI (dget ds 5).toB)]
def S81 : Sigs := ⟨[(89, s89), (117, s117), (118, s118), (112, s112), (119, s119), (84, s84), (111, s111), (85, s85)], [], [], 1⟩

noncomputable def r99_0 (x0 : Int) (x1 : Int) : Bool :=
  let x2 := x0 == 4
  let x3 := x0 == 8
  let x4 := x2 || x3
  let x5 := decide (x1 ≥ 0)
  let x6 := x4 && x5
  let x7 := decide (x1 ≤ 4)
  let x8 := x6 && x7
  x8
end Go.Proofs.Ytacciadcmiiimaa

namespace Go.Proofs.Ytacciadcmiiimaa
open Go Go.Sx
set_option maxRecDepth 100000
set_option maxHeartbeats 4000000

end Go.Proofs.Ytacciadcmiiimaa

