/- The functions of the statements, as lists of plain steps, each tied to the program's own text by the kernel (part 0). Written by the generator. -/
import Derived.Test.YtacciadcmiiimaaSyLoopG
import Derived.Test.YtacciadcmiiimaaProg
import Derived.KernelRfl
namespace Go.Proofs.Ytacciadcmiiimaa
open Go Go.Sx
set_option maxRecDepth 100000

/-! tandem/conv.ToInt$1 -/
def s66 : Sig := ⟨[.s (.one (.b (.h 0))), .s (.one (.i .u64 (.h 1))), .s (.one (.p 0 (.c 0)))], [some (.c false [some (.b (.h 2))])], [.b, .i, .b], .s (.one (.i .u64 (.h 0))), [], [.i], false⟩
def o66 : Out := ⟨[(3, .sub .u64 (.z 0) (.r 1)), (4, .itei (.r 0) (.r 3) (.r 1)), (5, .conv .i32 (.r 4)), (6, .conv .u64 (.r 5)), (7, .not (.r 2)), (8, .itei (.r 7) (.r 4) (.r 6))],
  [],
  [],
  [.r 8]⟩
noncomputable def r66_0 (x0 : Bool) (x1 : Int) (x2 : Bool) : Int :=
  let x3 := IntKind.wrap .u64 (0 - x1)
  let x4 := bif x0 then x3 else x1
  let x5 := IntKind.wrap .i32 x4
  let x6 := IntKind.wrap .u64 x5
  let x7 := !x2
  let x8 := bif x7 then x4 else x6
  x8
noncomputable def g66 (ds : List DV) : List DV := [.i (r66_0 (dget ds 0).toB (dget ds 1).toI (dget ds 2).toB)]
def S66 : Sigs := ⟨[], [], [], 1⟩
theorem ev66 : evFn Try.prog S66 2000 Try.f66 s66 = some o66 := by kernel_rfl

/-! math/bits.Len64 -/
def s69 : Sig := ⟨[.s (.one (.i .u64 (.h 0)))], [], [.i], .s (.one (.i .i64 (.h 0))), [], [.i], true⟩
def o69 : Out := ⟨[(1, .geq (.r 0) (.z 4294967296)), (2, .shr .u64 (.r 0) (.z 32)), (3, .itei (.r 1) (.r 2) (.r 0)), (4, .itei (.r 1) (.z 32) (.z 0)), (5, .geq (.r 3) (.z 65536)), (6, .shr .u64 (.r 3) (.z 16)), (7, .add .i64 (.r 4) (.z 16)), (8, .itei (.r 5) (.r 6) (.r 3)), (9, .itei (.r 5) (.r 7) (.r 4)), (10, .geq (.r 8) (.z 256)), (11, .shr .u64 (.r 8) (.z 8)), (12, .add .i64 (.r 9) (.z 8)), (13, .itei (.r 10) (.r 11) (.r 8)), (14, .itei (.r 10) (.r 12) (.r 9)), (15, .conv .u8 (.r 13)), (16, .geq (.r 15) (.z 0)), (17, .lss (.r 15) (.z 256)), (18, .seli [.z 0, .z 1, .z 2, .z 2, .z 3, .z 3, .z 3, .z 3, .z 4, .z 4, .z 4, .z 4, .z 4, .z 4, .z 4, .z 4, .z 5, .z 5, .z 5, .z 5, .z 5, .z 5, .z 5, .z 5, .z 5, .z 5, .z 5, .z 5, .z 5, .z 5, .z 5, .z 5, .z 6, .z 6, .z 6, .z 6, .z 6, .z 6, .z 6, .z 6, .z 6, .z 6, .z 6, .z 6, .z 6, .z 6, .z 6, .z 6, .z 6, .z 6, .z 6, .z 6, .z 6, .z 6, .z 6, .z 6, .z 6, .z 6, .z 6, .z 6, .z 6, .z 6, .z 6, .z 6, .z 7, .z 7, .z 7, .z 7, .z 7, .z 7, .z 7, .z 7, .z 7, .z 7, .z 7, .z 7, .z 7, .z 7, .z 7, .z 7, .z 7, .z 7, .z 7, .z 7, .z 7, .z 7, .z 7, .z 7, .z 7, .z 7, .z 7, .z 7, .z 7, .z 7, .z 7, .z 7, .z 7, .z 7, .z 7, .z 7, .z 7, .z 7, .z 7, .z 7, .z 7, .z 7, .z 7, .z 7, .z 7, .z 7, .z 7, .z 7, .z 7, .z 7, .z 7, .z 7, .z 7, .z 7, .z 7, .z 7, .z 7, .z 7, .z 7, .z 7, .z 7, .z 7, .z 7, .z 7, .z 8, .z 8, .z 8, .z 8, .z 8, .z 8, .z 8, .z 8, .z 8, .z 8, .z 8, .z 8, .z 8, .z 8, .z 8, .z 8, .z 8, .z 8, .z 8, .z 8, .z 8, .z 8, .z 8, .z 8, .z 8, .z 8, .z 8, .z 8, .z 8, .z 8, .z 8, .z 8, .z 8, .z 8, .z 8, .z 8, .z 8, .z 8, .z 8, .z 8, .z 8, .z 8, .z 8, .z 8, .z 8, .z 8, .z 8, .z 8, .z 8, .z 8, .z 8, .z 8, .z 8, .z 8, .z 8, .z 8, .z 8, .z 8, .z 8, .z 8, .z 8, .z 8, .z 8, .z 8, .z 8, .z 8, .z 8, .z 8, .z 8, .z 8, .z 8, .z 8, .z 8, .z 8, .z 8, .z 8, .z 8, .z 8, .z 8, .z 8, .z 8, .z 8, .z 8, .z 8, .z 8, .z 8, .z 8, .z 8, .z 8, .z 8, .z 8, .z 8, .z 8, .z 8, .z 8, .z 8, .z 8, .z 8, .z 8, .z 8, .z 8, .z 8, .z 8, .z 8, .z 8, .z 8, .z 8, .z 8, .z 8, .z 8, .z 8, .z 8, .z 8, .z 8, .z 8, .z 8, .z 8, .z 8, .z 8, .z 8, .z 8, .z 8, .z 8, .z 8, .z 8, .z 8, .z 8, .z 8] (.r 15)), (19, .conv .i64 (.r 18)), (20, .add .i64 (.r 14) (.r 19))],
  [⟨[], .r 16⟩, ⟨[], .r 17⟩],
  [],
  [.r 20]⟩
noncomputable def p69 (x0 : Int) : Bool :=
  let x1 := decide (x0 ≥ 4294967296)
  let x2 := ishr .u64 x0 32
  let x3 := bif x1 then x2 else x0
  let x5 := decide (x3 ≥ 65536)
  let x6 := ishr .u64 x3 16
  let x8 := bif x5 then x6 else x3
  let x10 := decide (x8 ≥ 256)
  let x11 := ishr .u64 x8 8
  let x13 := bif x10 then x11 else x8
  let x15 := IntKind.wrap .u8 x13
  let x16 := decide (x15 ≥ 0)
  let x17 := decide (x15 < 256)
  [ow [] x16, ow [] x17].all id
noncomputable def r69_0 (x0 : Int) : Int :=
  let x1 := decide (x0 ≥ 4294967296)
  let x2 := ishr .u64 x0 32
  let x3 := bif x1 then x2 else x0
  let x4 := bif x1 then 32 else 0
  let x5 := decide (x3 ≥ 65536)
  let x6 := ishr .u64 x3 16
  let x7 := IntKind.wrap .i64 (x4 + 16)
  let x8 := bif x5 then x6 else x3
  let x9 := bif x5 then x7 else x4
  let x10 := decide (x8 ≥ 256)
  let x11 := ishr .u64 x8 8
  let x12 := IntKind.wrap .i64 (x9 + 8)
  let x13 := bif x10 then x11 else x8
  let x14 := bif x10 then x12 else x9
  let x15 := IntKind.wrap .u8 x13
  let x18 := [0, 1, 2, 2, 3, 3, 3, 3, 4, 4, 4, 4, 4, 4, 4, 4, 5, 5, 5, 5, 5, 5, 5, 5, 5, 5, 5, 5, 5, 5, 5, 5, 6, 6, 6, 6, 6, 6, 6, 6, 6, 6, 6, 6, 6, 6, 6, 6, 6, 6, 6, 6, 6, 6, 6, 6, 6, 6, 6, 6, 6, 6, 6, 6, 7, 7, 7, 7, 7, 7, 7, 7, 7, 7, 7, 7, 7, 7, 7, 7, 7, 7, 7, 7, 7, 7, 7, 7, 7, 7, 7, 7, 7, 7, 7, 7, 7, 7, 7, 7, 7, 7, 7, 7, 7, 7, 7, 7, 7, 7, 7, 7, 7, 7, 7, 7, 7, 7, 7, 7, 7, 7, 7, 7, 7, 7, 7, 7, 8, 8, 8, 8, 8, 8, 8, 8, 8, 8, 8, 8, 8, 8, 8, 8, 8, 8, 8, 8, 8, 8, 8, 8, 8, 8, 8, 8, 8, 8, 8, 8, 8, 8, 8, 8, 8, 8, 8, 8, 8, 8, 8, 8, 8, 8, 8, 8, 8, 8, 8, 8, 8, 8, 8, 8, 8, 8, 8, 8, 8, 8, 8, 8, 8, 8, 8, 8, 8, 8, 8, 8, 8, 8, 8, 8, 8, 8, 8, 8, 8, 8, 8, 8, 8, 8, 8, 8, 8, 8, 8, 8, 8, 8, 8, 8, 8, 8, 8, 8, 8, 8, 8, 8, 8, 8, 8, 8, 8, 8, 8, 8, 8, 8, 8, 8, 8, 8, 8, 8, 8, 8, 8, 8, 8, 8, 8, 8].getD (Int.toNat x15) 0
  let x19 := IntKind.wrap .i64 x18
  let x20 := IntKind.wrap .i64 (x14 + x19)
  x20
noncomputable def g69 (ds : List DV) : List DV := [.b (p69 (dget ds 0).toI), .i (r69_0 (dget ds 0).toI)]
def S69 : Sigs := ⟨[], [], [], 0⟩
theorem ev69 : evFn Try.prog S69 2000 Try.f69 s69 = some o69 := by kernel_rfl

/-! tandem/conv.of -/
def s62 : Sig := ⟨[.s (.one (.i .i64 (.h 0)))], [], [.i], .s (.agg [.i .i64 (.h 0), .i .i64 (.h 1), .i .u64 (.h 2)]), [], [.i, .i, .i], false⟩
def o62 : Out := ⟨[(1, .eql (.r 0) (.z 4)), (2, .not (.r 1)), (3, .itei (.r 2) (.z 52) (.z 23)), (4, .itei (.r 2) (.z 1023) (.z 127)), (5, .itei (.r 2) (.z 9223372036854775808) (.z 2147483648))],
  [],
  [],
  [.r 3, .r 4, .r 5]⟩
noncomputable def r62_0 (x0 : Int) : Int :=
  let x1 := x0 == 4
  let x2 := !x1
  let x3 := bif x2 then 52 else 23
  x3
noncomputable def r62_1 (x0 : Int) : Int :=
  let x1 := x0 == 4
  let x2 := !x1
  let x4 := bif x2 then 1023 else 127
  x4
noncomputable def r62_2 (x0 : Int) : Int :=
  let x1 := x0 == 4
  let x2 := !x1
  let x5 := bif x2 then 9223372036854775808 else 2147483648
  x5
noncomputable def g62 (ds : List DV) : List DV := [.i (r62_0 (dget ds 0).toI), .i (r62_1 (dget ds 0).toI), .i (r62_2 (dget ds 0).toI)]
def S62 : Sigs := ⟨[], [], [], 0⟩
theorem ev62 : evFn Try.prog S62 2000 Try.f62 s62 = some o62 := by kernel_rfl

/-! (tandem/conv.format).inf -/
def s83 : Sig := ⟨[.s (.agg [.i .i64 (.h 0), .i .i64 (.h 1), .i .u64 (.h 2)])], [], [.i, .i, .i], .s (.one (.i .u64 (.h 0))), [], [.i], true⟩
def o83 : Out := ⟨[(3, .mul .i64 (.z 2) (.r 1)), (4, .add .i64 (.r 3) (.z 1)), (5, .conv .u64 (.r 4)), (6, .geq (.r 0) (.z 0)), (7, .shl .u64 (.r 5) (.r 0))],
  [⟨[], .r 6⟩],
  [],
  [.r 7]⟩
noncomputable def p83 (x0 : Int) : Bool :=
  let x6 := decide (x0 ≥ 0)
  [ow [] x6].all id
noncomputable def r83_0 (x0 : Int) (x1 : Int) : Int :=
  let x3 := IntKind.wrap .i64 (2 * x1)
  let x4 := IntKind.wrap .i64 (x3 + 1)
  let x5 := IntKind.wrap .u64 x4
  let x7 := ishl .u64 x5 x0
  x7
noncomputable def g83 (ds : List DV) : List DV := [.b (p83 (dget ds 0).toI), .i (r83_0 (dget ds 0).toI (dget ds 1).toI)]
def S83 : Sigs := ⟨[], [], [], 0⟩
theorem ev83 : evFn Try.prog S83 2000 Try.f83 s83 = some o83 := by kernel_rfl

/-! (tandem/conv.format).nan -/
def s63 : Sig := ⟨[.s (.agg [.i .i64 (.h 0), .i .i64 (.h 1), .i .u64 (.h 2)])], [], [.i, .i, .i], .s (.one (.i .u64 (.h 0))), [], [.i], true⟩
def o63 : Out := ⟨[(3, .call 83 [.r 0, .r 1, .r 2] 0), (4, .call 83 [.r 0, .r 1, .r 2] 1), (5, .sub .i64 (.r 0) (.z 1)), (6, .geq (.r 5) (.z 0)), (7, .shl .u64 (.z 1) (.r 5)), (8, .lor .u64 (.r 4) (.r 7))],
  [⟨[], .r 3⟩, ⟨[], .r 6⟩],
  [],
  [.r 8]⟩
noncomputable def p63 (x0 : Int) : Bool :=
  let x3 := p83 x0
  let x5 := IntKind.wrap .i64 (x0 - 1)
  let x6 := decide (x5 ≥ 0)
  [ow [] x3, ow [] x6].all id
noncomputable def r63_0 (x0 : Int) (x1 : Int) : Int :=
  let x4 := r83_0 x0 x1
  let x5 := IntKind.wrap .i64 (x0 - 1)
  let x7 := ishl .u64 1 x5
  let x8 := ilor .u64 x4 x7
  x8
noncomputable def g63 (ds : List DV) : List DV := [.b (p63 (dget ds 0).toI), .i (r63_0 (dget ds 0).toI (dget ds 1).toI)]
def S63 : Sigs := ⟨[(83, s83)], [], [], 0⟩
theorem ev63 : evFn Try.prog S63 2000 Try.f63 s63 = some o63 := by kernel_rfl

/-! tandem/conv.known -/
def s64 : Sig := ⟨[.s (.one (.i .i64 (.h 0))), .s (.one (.i .i64 (.h 1)))], [], [.i, .i], .s (.one (.b (.h 0))), [], [.b], false⟩
def o64 : Out := ⟨[(2, .eql (.r 0) (.z 4)), (3, .eql (.r 0) (.z 8)), (4, .or (.r 2) (.r 3)), (5, .geq (.r 1) (.z 0)), (6, .and (.r 4) (.r 5)), (7, .leq (.r 1) (.z 4)), (8, .and (.r 6) (.r 7))],
  [],
  [],
  [.r 8]⟩
noncomputable def r64_0 (x0 : Int) (x1 : Int) : Bool :=
  let x2 := x0 == 4
  let x3 := x0 == 8
  let x4 := x2 || x3
  let x5 := decide (x1 ≥ 0)
  let x6 := x4 && x5
  let x7 := decide (x1 ≤ 4)
  let x8 := x6 && x7
  x8
noncomputable def g64 (ds : List DV) : List DV := [.b (r64_0 (dget ds 0).toI (dget ds 1).toI)]
def S64 : Sigs := ⟨[], [], [], 0⟩
theorem ev64 : evFn Try.prog S64 2000 Try.f64 s64 = some o64 := by kernel_rfl

/-! (tandem/conv.format).minus -/
def s65 : Sig := ⟨[.s (.agg [.i .i64 (.h 0), .i .i64 (.h 1), .i .u64 (.h 2)]), .s (.one (.i .u64 (.h 3)))], [], [.i, .i, .i, .i], .s (.one (.b (.h 0))), [], [.b], false⟩
def o65 : Out := ⟨[(4, .land .u64 (.r 3) (.r 2)), (5, .neq (.r 4) (.z 0))],
  [],
  [],
  [.r 5]⟩
noncomputable def r65_0 (x2 : Int) (x3 : Int) : Bool :=
  let x4 := iland .u64 x3 x2
  let x5 := x4 != 0
  x5
noncomputable def g65 (ds : List DV) : List DV := [.b (r65_0 (dget ds 2).toI (dget ds 3).toI)]
def S65 : Sigs := ⟨[], [], [], 0⟩
theorem ev65 : evFn Try.prog S65 2000 Try.f65 s65 = some o65 := by kernel_rfl

/-! (tandem/conv.format).size -/
def s86 : Sig := ⟨[.s (.agg [.i .i64 (.h 0), .i .i64 (.h 1), .i .u64 (.h 2)]), .s (.one (.i .u64 (.h 3)))], [], [.i, .i, .i, .i], .s (.one (.i .u64 (.h 0))), [], [.i], false⟩
def o86 : Out := ⟨[(4, .sub .u64 (.r 2) (.z 1)), (5, .land .u64 (.r 3) (.r 4))],
  [],
  [],
  [.r 5]⟩
noncomputable def r86_0 (x2 : Int) (x3 : Int) : Int :=
  let x4 := IntKind.wrap .u64 (x2 - 1)
  let x5 := iland .u64 x3 x4
  x5
noncomputable def g86 (ds : List DV) : List DV := [.i (r86_0 (dget ds 2).toI (dget ds 3).toI)]
def S86 : Sigs := ⟨[], [], [], 0⟩
theorem ev86 : evFn Try.prog S86 2000 Try.f86 s86 = some o86 := by kernel_rfl

/-! (tandem/conv.format).signed -/
def s82 : Sig := ⟨[.s (.agg [.i .i64 (.h 0), .i .i64 (.h 1), .i .u64 (.h 2)]), .s (.one (.b (.h 3))), .s (.one (.i .u64 (.h 4)))], [], [.i, .i, .i, .b, .i], .s (.one (.i .u64 (.h 0))), [], [.i], false⟩
def o82 : Out := ⟨[(5, .lor .u64 (.r 4) (.r 2)), (6, .not (.r 3)), (7, .itei (.r 6) (.r 4) (.r 5))],
  [],
  [],
  [.r 7]⟩
noncomputable def r82_0 (x2 : Int) (x3 : Bool) (x4 : Int) : Int :=
  let x5 := ilor .u64 x4 x2
  let x6 := !x3
  let x7 := bif x6 then x4 else x5
  x7
noncomputable def g82 (ds : List DV) : List DV := [.i (r82_0 (dget ds 2).toI (dget ds 3).toB (dget ds 4).toI)]
def S82 : Sigs := ⟨[], [], [], 0⟩
theorem ev82 : evFn Try.prog S82 2000 Try.f82 s82 = some o82 := by kernel_rfl

/-! (tandem/conv.format).class -/
def s67 : Sig := ⟨[.s (.agg [.i .i64 (.h 0), .i .i64 (.h 1), .i .u64 (.h 2)]), .s (.one (.i .u64 (.h 3)))], [], [.i, .i, .i, .i], .s (.one (.i .i64 (.h 0))), [], [.i], true⟩
def o67 : Out := ⟨[(4, .call 86 [.r 0, .r 1, .r 2, .r 3] 0), (5, .call 83 [.r 0, .r 1, .r 2] 0), (6, .call 83 [.r 0, .r 1, .r 2] 1), (7, .gtr (.r 4) (.r 6)), (8, .sub .i64 (.r 0) (.z 1)), (9, .geq (.r 8) (.z 0)), (10, .shr .u64 (.r 4) (.r 8)), (11, .land .u64 (.r 10) (.z 1)), (12, .eql (.r 11) (.z 1)), (13, .and (.r 7) (.r 12)), (14, .call 83 [.r 0, .r 1, .r 2] 0), (15, .call 83 [.r 0, .r 1, .r 2] 1), (16, .gtr (.r 4) (.r 15)), (17, .call 83 [.r 0, .r 1, .r 2] 0), (18, .call 83 [.r 0, .r 1, .r 2] 1), (19, .eql (.r 4) (.r 18)), (20, .geq (.r 0) (.z 0)), (21, .shr .u64 (.r 4) (.r 0)), (22, .gtr (.r 21) (.z 0)), (23, .gtr (.r 4) (.z 0)), (24, .not (.r 23)), (25, .iteb (.r 22) (.t false) (.r 24)), (26, .iteb (.r 19) (.t false) (.r 25)), (27, .iteb (.r 16) (.t false) (.r 26)), (28, .iteb (.r 13) (.t false) (.r 27)), (29, .itei (.r 22) (.z 6) (.z 5)), (30, .itei (.r 19) (.z 7) (.r 29)), (31, .itei (.r 16) (.z 8) (.r 30)), (32, .itei (.r 13) (.z 9) (.r 31)), (33, .itei (.r 28) (.z 4) (.r 32))],
  [⟨[], .r 5⟩, ⟨[(.r 7, true)], .r 9⟩, ⟨[(.r 13, false)], .r 14⟩, ⟨[(.r 13, false), (.r 16, false)], .r 17⟩, ⟨[(.r 13, false), (.r 16, false), (.r 19, false)], .r 20⟩],
  [],
  [.r 33]⟩
noncomputable def p67 (x0 : Int) (x1 : Int) (x2 : Int) (x3 : Int) : Bool :=
  let x4 := r86_0 x2 x3
  let x5 := p83 x0
  let x6 := r83_0 x0 x1
  let x7 := decide (x4 > x6)
  let x8 := IntKind.wrap .i64 (x0 - 1)
  let x9 := decide (x8 ≥ 0)
  let x10 := ishr .u64 x4 x8
  let x11 := iland .u64 x10 1
  let x12 := x11 == 1
  let x13 := x7 && x12
  let x14 := p83 x0
  let x15 := r83_0 x0 x1
  let x16 := decide (x4 > x15)
  let x17 := p83 x0
  let x18 := r83_0 x0 x1
  let x19 := x4 == x18
  let x20 := decide (x0 ≥ 0)
  [ow [] x5, ow [(x7, true)] x9, ow [(x13, false)] x14, ow [(x13, false), (x16, false)] x17, ow [(x13, false), (x16, false), (x19, false)] x20].all id
noncomputable def r67_0 (x0 : Int) (x1 : Int) (x2 : Int) (x3 : Int) : Int :=
  let x4 := r86_0 x2 x3
  let x6 := r83_0 x0 x1
  let x7 := decide (x4 > x6)
  let x8 := IntKind.wrap .i64 (x0 - 1)
  let x10 := ishr .u64 x4 x8
  let x11 := iland .u64 x10 1
  let x12 := x11 == 1
  let x13 := x7 && x12
  let x15 := r83_0 x0 x1
  let x16 := decide (x4 > x15)
  let x18 := r83_0 x0 x1
  let x19 := x4 == x18
  let x21 := ishr .u64 x4 x0
  let x22 := decide (x21 > 0)
  let x23 := decide (x4 > 0)
  let x24 := !x23
  let x25 := bif x22 then false else x24
  let x26 := bif x19 then false else x25
  let x27 := bif x16 then false else x26
  let x28 := bif x13 then false else x27
  let x29 := bif x22 then 6 else 5
  let x30 := bif x19 then 7 else x29
  let x31 := bif x16 then 8 else x30
  let x32 := bif x13 then 9 else x31
  let x33 := bif x28 then 4 else x32
  x33
noncomputable def g67 (ds : List DV) : List DV := [.b (p67 (dget ds 0).toI (dget ds 1).toI (dget ds 2).toI (dget ds 3).toI), .i (r67_0 (dget ds 0).toI (dget ds 1).toI (dget ds 2).toI (dget ds 3).toI)]
def S67 : Sigs := ⟨[(86, s86), (83, s83)], [], [], 0⟩
theorem ev67 : evFn Try.prog S67 2000 Try.f67 s67 = some o67 := by kernel_rfl

/-! (tandem/conv.format).finite -/
def s68 : Sig := ⟨[.s (.agg [.i .i64 (.h 0), .i .i64 (.h 1), .i .u64 (.h 2)]), .s (.one (.i .u64 (.h 3)))], [], [.i, .i, .i, .i], .t [.one (.i .u64 (.h 0)), .one (.i .i64 (.h 1))], [], [.i, .i], true⟩
def o68 : Out := ⟨[(4, .call 86 [.r 0, .r 1, .r 2, .r 3] 0), (5, .geq (.r 0) (.z 0)), (6, .shr .u64 (.r 4) (.r 0)), (7, .conv .i64 (.r 6)), (8, .gtr (.z 1) (.r 7)), (9, .itei (.r 8) (.z 1) (.r 7)), (10, .geq (.r 0) (.z 0)), (11, .shr .u64 (.r 4) (.r 0)), (12, .gtr (.r 11) (.z 0)), (13, .geq (.r 0) (.z 0)), (14, .shl .u64 (.z 1) (.r 0)), (15, .sub .u64 (.r 14) (.z 1)), (16, .land .u64 (.r 4) (.r 15)), (17, .geq (.r 0) (.z 0)), (18, .shl .u64 (.z 1) (.r 0)), (19, .lor .u64 (.r 16) (.r 18)), (20, .itei (.r 12) (.r 19) (.r 4)), (21, .sub .i64 (.r 9) (.r 1)), (22, .sub .i64 (.r 21) (.r 0))],
  [⟨[], .r 5⟩, ⟨[], .r 10⟩, ⟨[(.r 12, true)], .r 13⟩, ⟨[(.r 12, true)], .r 17⟩],
  [],
  [.r 20, .r 22]⟩
noncomputable def p68 (x0 : Int) (x2 : Int) (x3 : Int) : Bool :=
  let x4 := r86_0 x2 x3
  let x5 := decide (x0 ≥ 0)
  let x10 := decide (x0 ≥ 0)
  let x11 := ishr .u64 x4 x0
  let x12 := decide (x11 > 0)
  let x13 := decide (x0 ≥ 0)
  let x17 := decide (x0 ≥ 0)
  [ow [] x5, ow [] x10, ow [(x12, true)] x13, ow [(x12, true)] x17].all id
noncomputable def r68_0 (x0 : Int) (x2 : Int) (x3 : Int) : Int :=
  let x4 := r86_0 x2 x3
  let x11 := ishr .u64 x4 x0
  let x12 := decide (x11 > 0)
  let x14 := ishl .u64 1 x0
  let x15 := IntKind.wrap .u64 (x14 - 1)
  let x16 := iland .u64 x4 x15
  let x18 := ishl .u64 1 x0
  let x19 := ilor .u64 x16 x18
  let x20 := bif x12 then x19 else x4
  x20
noncomputable def r68_1 (x0 : Int) (x1 : Int) (x2 : Int) (x3 : Int) : Int :=
  let x4 := r86_0 x2 x3
  let x6 := ishr .u64 x4 x0
  let x7 := IntKind.wrap .i64 x6
  let x8 := decide (1 > x7)
  let x9 := bif x8 then 1 else x7
  let x21 := IntKind.wrap .i64 (x9 - x1)
  let x22 := IntKind.wrap .i64 (x21 - x0)
  x22
noncomputable def g68 (ds : List DV) : List DV := [.b (p68 (dget ds 0).toI (dget ds 2).toI (dget ds 3).toI), .i (r68_0 (dget ds 0).toI (dget ds 2).toI (dget ds 3).toI), .i (r68_1 (dget ds 0).toI (dget ds 1).toI (dget ds 2).toI (dget ds 3).toI)]
def S68 : Sigs := ⟨[(86, s86)], [], [], 0⟩
theorem ev68 : evFn Try.prog S68 2000 Try.f68 s68 = some o68 := by kernel_rfl

/-! tandem/conv.cut -/
def s70 : Sig := ⟨[.s (.one (.i .i64 (.h 0))), .s (.one (.b (.h 1))), .s (.one (.i .u64 (.h 2))), .s (.one (.i .i64 (.h 3)))], [], [.i, .b, .i, .i], .t [.one (.i .u64 (.h 0)), .one (.b (.h 1))], [], [.i, .b], true⟩
def o70 : Out := ⟨[(4, .leq (.r 3) (.z 0)), (5, .not (.r 4)), (6, .eql (.r 2) (.z 0)), (7, .not (.r 6)), (8, .gtr (.r 3) (.z 64)), (9, .eql (.r 3) (.z 64)), (10, .geq (.r 3) (.z 0)), (11, .shr .u64 (.r 2) (.r 3)), (12, .geq (.r 3) (.z 0)), (13, .shl .u64 (.z 1) (.r 3)), (14, .sub .u64 (.r 13) (.z 1)), (15, .land .u64 (.r 2) (.r 14)), (16, .sub .i64 (.r 3) (.z 1)), (17, .geq (.r 16) (.z 0)), (18, .shl .u64 (.z 1) (.r 16)), (19, .itei (.r 9) (.z 0) (.r 11)), (20, .itei (.r 9) (.r 2) (.r 15)), (21, .itei (.r 9) (.z 9223372036854775808) (.r 18)), (22, .itei (.r 8) (.z 0) (.r 19)), (23, .itei (.r 8) (.z 1) (.r 20)), (24, .itei (.r 8) (.z 2) (.r 21)), (25, .eql (.r 0) (.z 0)), (26, .gtr (.r 23) (.r 24)), (27, .eql (.r 23) (.r 24)), (28, .land .u64 (.r 22) (.z 1)), (29, .eql (.r 28) (.z 1)), (30, .and (.r 27) (.r 29)), (31, .or (.r 26) (.r 30)), (32, .eql (.r 0) (.z 2)), (33, .neq (.r 23) (.z 0)), (34, .and (.r 1) (.r 33)), (35, .eql (.r 0) (.z 3)), (36, .not (.r 1)), (37, .neq (.r 23) (.z 0)), (38, .and (.r 36) (.r 37)), (39, .eql (.r 0) (.z 4)), (40, .geq (.r 23) (.r 24)), (41, .and (.r 39) (.r 40)), (42, .iteb (.r 35) (.r 38) (.r 41)), (43, .iteb (.r 32) (.r 34) (.r 42)), (44, .iteb (.r 25) (.r 31) (.r 43)), (45, .add .u64 (.r 22) (.z 1)), (46, .itei (.r 44) (.r 45) (.r 22)), (47, .eql (.r 23) (.z 0)), (48, .itei (.r 7) (.r 46) (.z 0)), (49, .iteb (.r 7) (.r 47) (.t true)), (50, .itei (.r 5) (.r 48) (.r 2)), (51, .iteb (.r 5) (.r 49) (.t true))],
  [⟨[(.r 5, true), (.r 7, true), (.r 8, false), (.r 9, false)], .r 10⟩, ⟨[(.r 5, true), (.r 7, true), (.r 8, false), (.r 9, false)], .r 12⟩, ⟨[(.r 5, true), (.r 7, true), (.r 8, false), (.r 9, false)], .r 17⟩],
  [],
  [.r 50, .r 51]⟩
noncomputable def p70 (x2 : Int) (x3 : Int) : Bool :=
  let x4 := decide (x3 ≤ 0)
  let x5 := !x4
  let x6 := x2 == 0
  let x7 := !x6
  let x8 := decide (x3 > 64)
  let x9 := x3 == 64
  let x10 := decide (x3 ≥ 0)
  let x12 := decide (x3 ≥ 0)
  let x16 := IntKind.wrap .i64 (x3 - 1)
  let x17 := decide (x16 ≥ 0)
  [ow [(x5, true), (x7, true), (x8, false), (x9, false)] x10, ow [(x5, true), (x7, true), (x8, false), (x9, false)] x12, ow [(x5, true), (x7, true), (x8, false), (x9, false)] x17].all id
noncomputable def r70_0 (x0 : Int) (x1 : Bool) (x2 : Int) (x3 : Int) : Int :=
  let x4 := decide (x3 ≤ 0)
  let x5 := !x4
  let x6 := x2 == 0
  let x7 := !x6
  let x8 := decide (x3 > 64)
  let x9 := x3 == 64
  let x11 := ishr .u64 x2 x3
  let x13 := ishl .u64 1 x3
  let x14 := IntKind.wrap .u64 (x13 - 1)
  let x15 := iland .u64 x2 x14
  let x16 := IntKind.wrap .i64 (x3 - 1)
  let x18 := ishl .u64 1 x16
  let x19 := bif x9 then 0 else x11
  let x20 := bif x9 then x2 else x15
  let x21 := bif x9 then 9223372036854775808 else x18
  let x22 := bif x8 then 0 else x19
  let x23 := bif x8 then 1 else x20
  let x24 := bif x8 then 2 else x21
  let x25 := x0 == 0
  let x26 := decide (x23 > x24)
  let x27 := x23 == x24
  let x28 := iland .u64 x22 1
  let x29 := x28 == 1
  let x30 := x27 && x29
  let x31 := x26 || x30
  let x32 := x0 == 2
  let x33 := x23 != 0
  let x34 := x1 && x33
  let x35 := x0 == 3
  let x36 := !x1
  let x37 := x23 != 0
  let x38 := x36 && x37
  let x39 := x0 == 4
  let x40 := decide (x23 ≥ x24)
  let x41 := x39 && x40
  let x42 := bif x35 then x38 else x41
  let x43 := bif x32 then x34 else x42
  let x44 := bif x25 then x31 else x43
  let x45 := IntKind.wrap .u64 (x22 + 1)
  let x46 := bif x44 then x45 else x22
  let x48 := bif x7 then x46 else 0
  let x50 := bif x5 then x48 else x2
  x50
noncomputable def r70_1 (x2 : Int) (x3 : Int) : Bool :=
  let x4 := decide (x3 ≤ 0)
  let x5 := !x4
  let x6 := x2 == 0
  let x7 := !x6
  let x8 := decide (x3 > 64)
  let x9 := x3 == 64
  let x13 := ishl .u64 1 x3
  let x14 := IntKind.wrap .u64 (x13 - 1)
  let x15 := iland .u64 x2 x14
  let x20 := bif x9 then x2 else x15
  let x23 := bif x8 then 1 else x20
  let x47 := x23 == 0
  let x49 := bif x7 then x47 else true
  let x51 := bif x5 then x49 else true
  x51
noncomputable def g70 (ds : List DV) : List DV := [.b (p70 (dget ds 2).toI (dget ds 3).toI), .i (r70_0 (dget ds 0).toI (dget ds 1).toB (dget ds 2).toI (dget ds 3).toI), .b (r70_1 (dget ds 2).toI (dget ds 3).toI)]
def S70 : Sigs := ⟨[], [], [], 0⟩
theorem ev70 : evFn Try.prog S70 2000 Try.f70 s70 = some o70 := by kernel_rfl

/-! math/bits.LeadingZeros64 -/
def s115 : Sig := ⟨[.s (.one (.i .u64 (.h 0)))], [], [.i], .s (.one (.i .i64 (.h 0))), [], [.i], true⟩
def o115 : Out := ⟨[(1, .call 69 [.r 0] 0), (2, .call 69 [.r 0] 1), (3, .sub .i64 (.z 64) (.r 2))],
  [⟨[], .r 1⟩],
  [],
  [.r 3]⟩
noncomputable def p115 (x0 : Int) : Bool :=
  let x1 := p69 x0
  [ow [] x1].all id
noncomputable def r115_0 (x0 : Int) : Int :=
  let x2 := r69_0 x0
  let x3 := IntKind.wrap .i64 (64 - x2)
  x3
noncomputable def g115 (ds : List DV) : List DV := [.b (p115 (dget ds 0).toI), .i (r115_0 (dget ds 0).toI)]
def S115 : Sigs := ⟨[(69, s69)], [], [], 0⟩
theorem ev115 : evFn Try.prog S115 2000 Try.f115 s115 = some o115 := by kernel_rfl

/-! (tandem/conv.format).round -/
def s78 : Sig := ⟨[.s (.agg [.i .i64 (.h 0), .i .i64 (.h 1), .i .u64 (.h 2)]), .s (.one (.i .i64 (.h 3))), .s (.one (.b (.h 4))), .s (.one (.i .u64 (.h 5))), .s (.one (.i .i64 (.h 6)))], [], [.i, .i, .i, .i, .b, .i, .i], .t [.one (.i .u64 (.h 0)), .one (.i .i64 (.h 1))], [], [.i, .i], true⟩
def o78 : Out := ⟨[(7, .call 115 [.r 5] 0), (8, .call 115 [.r 5] 1), (9, .geq (.r 8) (.z 0)), (10, .shl .u64 (.r 5) (.r 8)), (11, .sub .i64 (.r 6) (.r 8)), (12, .sub .i64 (.z 63) (.r 0)), (13, .sub .i64 (.z 1) (.r 1)), (14, .sub .i64 (.r 13) (.r 0)), (15, .add .i64 (.r 11) (.r 12)), (16, .lss (.r 15) (.r 14))] ++ callsAt 17 70 [.r 3, .r 4, .r 10, .r 12] 0 3 ++ [(20, .add .i64 (.r 11) (.r 12)), (21, .sub .i64 (.r 14) (.z 1)), (22, .lss (.r 20) (.r 21)), (23, .geq (.r 0) (.z 0)), (24, .shl .u64 (.z 2) (.r 0)), (25, .lss (.r 18) (.r 24)), (26, .or (.r 22) (.r 25)), (27, .sub .i64 (.r 14) (.r 11)), (28, .itei (.r 16) (.r 27) (.r 12)), (29, .and (.r 16) (.r 26))] ++ callsAt 30 70 [.r 3, .r 4, .r 10, .r 28] 0 3 ++ [(33, .not (.r 32)), (34, .itei (.r 29) (.z 3) (.z 1)), (35, .itei (.r 33) (.r 34) (.z 0)), (36, .geq (.r 0) (.z 0)), (37, .shl .u64 (.z 2) (.r 0)), (38, .eql (.r 31) (.r 37)), (39, .shr .u64 (.r 31) (.z 1)), (40, .add .i64 (.r 28) (.z 1)), (41, .itei (.r 38) (.r 40) (.r 28)), (42, .itei (.r 38) (.r 39) (.r 31)), (43, .geq (.r 0) (.z 0)), (44, .shl .u64 (.z 1) (.r 0)), (45, .lss (.r 42) (.r 44)), (46, .call 82 [.r 0, .r 1, .r 2, .r 4, .r 42] 0), (47, .not (.r 45)), (48, .add .i64 (.r 11) (.r 41)), (49, .sub .i64 (.r 48) (.r 14)), (50, .add .i64 (.r 49) (.z 1)), (51, .mul .i64 (.z 2) (.r 1)), (52, .gtr (.r 50) (.r 51)), (53, .eql (.r 3) (.z 1)), (54, .eql (.r 3) (.z 2)), (55, .not (.r 4)), (56, .and (.r 54) (.r 55)), (57, .or (.r 53) (.r 56)), (58, .eql (.r 3) (.z 3)), (59, .and (.r 58) (.r 4)), (60, .or (.r 57) (.r 59)), (61, .call 83 [.r 0, .r 1, .r 2] 0), (62, .call 83 [.r 0, .r 1, .r 2] 1), (63, .sub .u64 (.r 62) (.z 1)), (64, .call 82 [.r 0, .r 1, .r 2, .r 4, .r 63] 0), (65, .not (.r 60)), (66, .call 83 [.r 0, .r 1, .r 2] 0), (67, .call 83 [.r 0, .r 1, .r 2] 1), (68, .call 82 [.r 0, .r 1, .r 2, .r 4, .r 67] 0), (69, .not (.r 52)), (70, .conv .u64 (.r 50)), (71, .geq (.r 0) (.z 0)), (72, .shl .u64 (.r 70) (.r 0)), (73, .geq (.r 0) (.z 0)), (74, .shl .u64 (.z 1) (.r 0)), (75, .landNot .u64 (.r 42) (.r 74)), (76, .lor .u64 (.r 72) (.r 75)), (77, .call 82 [.r 0, .r 1, .r 2, .r 4, .r 76] 0), (78, .itei (.r 65) (.r 68) (.r 64)), (79, .itei (.r 69) (.r 77) (.r 78)), (80, .itei (.r 69) (.r 35) (.z 5)), (81, .itei (.r 47) (.r 79) (.r 46)), (82, .itei (.r 47) (.r 80) (.r 35))],
  [⟨[], .r 7⟩, ⟨[], .r 9⟩, ⟨[(.r 16, true)], .r 17⟩, ⟨[(.r 16, true), (.r 22, false)], .r 23⟩, ⟨[], .r 30⟩, ⟨[], .r 36⟩, ⟨[], .r 43⟩, ⟨[(.r 47, true), (.r 52, true), (.r 60, true)], .r 61⟩, ⟨[(.r 47, true), (.r 52, true), (.r 65, true)], .r 66⟩, ⟨[(.r 47, true), (.r 69, true)], .r 71⟩, ⟨[(.r 47, true), (.r 69, true)], .r 73⟩],
  [],
  [.r 81, .r 82]⟩
noncomputable def p78 (x0 : Int) (x1 : Int) (x3 : Int) (x4 : Bool) (x5 : Int) (x6 : Int) : Bool :=
  let x7 := p115 x5
  let x8 := r115_0 x5
  let x9 := decide (x8 ≥ 0)
  let x10 := ishl .u64 x5 x8
  let x11 := IntKind.wrap .i64 (x6 - x8)
  let x12 := IntKind.wrap .i64 (63 - x0)
  let x13 := IntKind.wrap .i64 (1 - x1)
  let x14 := IntKind.wrap .i64 (x13 - x0)
  let x15 := IntKind.wrap .i64 (x11 + x12)
  let x16 := decide (x15 < x14)
  let x17 := p70 x10 x12
  let x20 := IntKind.wrap .i64 (x11 + x12)
  let x21 := IntKind.wrap .i64 (x14 - 1)
  let x22 := decide (x20 < x21)
  let x23 := decide (x0 ≥ 0)
  let x27 := IntKind.wrap .i64 (x14 - x11)
  let x28 := bif x16 then x27 else x12
  let x30 := p70 x10 x28
  let x31 := r70_0 x3 x4 x10 x28
  let x36 := decide (x0 ≥ 0)
  let x37 := ishl .u64 2 x0
  let x38 := x31 == x37
  let x39 := ishr .u64 x31 1
  let x40 := IntKind.wrap .i64 (x28 + 1)
  let x41 := bif x38 then x40 else x28
  let x42 := bif x38 then x39 else x31
  let x43 := decide (x0 ≥ 0)
  let x44 := ishl .u64 1 x0
  let x45 := decide (x42 < x44)
  let x47 := !x45
  let x48 := IntKind.wrap .i64 (x11 + x41)
  let x49 := IntKind.wrap .i64 (x48 - x14)
  let x50 := IntKind.wrap .i64 (x49 + 1)
  let x51 := IntKind.wrap .i64 (2 * x1)
  let x52 := decide (x50 > x51)
  let x53 := x3 == 1
  let x54 := x3 == 2
  let x55 := !x4
  let x56 := x54 && x55
  let x57 := x53 || x56
  let x58 := x3 == 3
  let x59 := x58 && x4
  let x60 := x57 || x59
  let x61 := p83 x0
  let x65 := !x60
  let x66 := p83 x0
  let x69 := !x52
  let x71 := decide (x0 ≥ 0)
  let x73 := decide (x0 ≥ 0)
  [ow [] x7, ow [] x9, ow [(x16, true)] x17, ow [(x16, true), (x22, false)] x23, ow [] x30, ow [] x36, ow [] x43, ow [(x47, true), (x52, true), (x60, true)] x61, ow [(x47, true), (x52, true), (x65, true)] x66, ow [(x47, true), (x69, true)] x71, ow [(x47, true), (x69, true)] x73].all id
noncomputable def r78_0 (x0 : Int) (x1 : Int) (x2 : Int) (x3 : Int) (x4 : Bool) (x5 : Int) (x6 : Int) : Int :=
  let x8 := r115_0 x5
  let x10 := ishl .u64 x5 x8
  let x11 := IntKind.wrap .i64 (x6 - x8)
  let x12 := IntKind.wrap .i64 (63 - x0)
  let x13 := IntKind.wrap .i64 (1 - x1)
  let x14 := IntKind.wrap .i64 (x13 - x0)
  let x15 := IntKind.wrap .i64 (x11 + x12)
  let x16 := decide (x15 < x14)
  let x27 := IntKind.wrap .i64 (x14 - x11)
  let x28 := bif x16 then x27 else x12
  let x31 := r70_0 x3 x4 x10 x28
  let x37 := ishl .u64 2 x0
  let x38 := x31 == x37
  let x39 := ishr .u64 x31 1
  let x40 := IntKind.wrap .i64 (x28 + 1)
  let x41 := bif x38 then x40 else x28
  let x42 := bif x38 then x39 else x31
  let x44 := ishl .u64 1 x0
  let x45 := decide (x42 < x44)
  let x46 := r82_0 x2 x4 x42
  let x47 := !x45
  let x48 := IntKind.wrap .i64 (x11 + x41)
  let x49 := IntKind.wrap .i64 (x48 - x14)
  let x50 := IntKind.wrap .i64 (x49 + 1)
  let x51 := IntKind.wrap .i64 (2 * x1)
  let x52 := decide (x50 > x51)
  let x53 := x3 == 1
  let x54 := x3 == 2
  let x55 := !x4
  let x56 := x54 && x55
  let x57 := x53 || x56
  let x58 := x3 == 3
  let x59 := x58 && x4
  let x60 := x57 || x59
  let x62 := r83_0 x0 x1
  let x63 := IntKind.wrap .u64 (x62 - 1)
  let x64 := r82_0 x2 x4 x63
  let x65 := !x60
  let x67 := r83_0 x0 x1
  let x68 := r82_0 x2 x4 x67
  let x69 := !x52
  let x70 := IntKind.wrap .u64 x50
  let x72 := ishl .u64 x70 x0
  let x74 := ishl .u64 1 x0
  let x75 := ilandNot .u64 x42 x74
  let x76 := ilor .u64 x72 x75
  let x77 := r82_0 x2 x4 x76
  let x78 := bif x65 then x68 else x64
  let x79 := bif x69 then x77 else x78
  let x81 := bif x47 then x79 else x46
  x81
noncomputable def r78_1 (x0 : Int) (x1 : Int) (x3 : Int) (x4 : Bool) (x5 : Int) (x6 : Int) : Int :=
  let x8 := r115_0 x5
  let x10 := ishl .u64 x5 x8
  let x11 := IntKind.wrap .i64 (x6 - x8)
  let x12 := IntKind.wrap .i64 (63 - x0)
  let x13 := IntKind.wrap .i64 (1 - x1)
  let x14 := IntKind.wrap .i64 (x13 - x0)
  let x15 := IntKind.wrap .i64 (x11 + x12)
  let x16 := decide (x15 < x14)
  let x18 := r70_0 x3 x4 x10 x12
  let x20 := IntKind.wrap .i64 (x11 + x12)
  let x21 := IntKind.wrap .i64 (x14 - 1)
  let x22 := decide (x20 < x21)
  let x24 := ishl .u64 2 x0
  let x25 := decide (x18 < x24)
  let x26 := x22 || x25
  let x27 := IntKind.wrap .i64 (x14 - x11)
  let x28 := bif x16 then x27 else x12
  let x29 := x16 && x26
  let x31 := r70_0 x3 x4 x10 x28
  let x32 := r70_1 x10 x28
  let x33 := !x32
  let x34 := bif x29 then 3 else 1
  let x35 := bif x33 then x34 else 0
  let x37 := ishl .u64 2 x0
  let x38 := x31 == x37
  let x39 := ishr .u64 x31 1
  let x40 := IntKind.wrap .i64 (x28 + 1)
  let x41 := bif x38 then x40 else x28
  let x42 := bif x38 then x39 else x31
  let x44 := ishl .u64 1 x0
  let x45 := decide (x42 < x44)
  let x47 := !x45
  let x48 := IntKind.wrap .i64 (x11 + x41)
  let x49 := IntKind.wrap .i64 (x48 - x14)
  let x50 := IntKind.wrap .i64 (x49 + 1)
  let x51 := IntKind.wrap .i64 (2 * x1)
  let x52 := decide (x50 > x51)
  let x69 := !x52
  let x80 := bif x69 then x35 else 5
  let x82 := bif x47 then x80 else x35
  x82
noncomputable def g78 (ds : List DV) : List DV := [.b (p78 (dget ds 0).toI (dget ds 1).toI (dget ds 3).toI (dget ds 4).toB (dget ds 5).toI (dget ds 6).toI), .i (r78_0 (dget ds 0).toI (dget ds 1).toI (dget ds 2).toI (dget ds 3).toI (dget ds 4).toB (dget ds 5).toI (dget ds 6).toI), .i (r78_1 (dget ds 0).toI (dget ds 1).toI (dget ds 3).toI (dget ds 4).toB (dget ds 5).toI (dget ds 6).toI)]
def S78 : Sigs := ⟨[(115, s115), (70, s70), (82, s82), (83, s83)], [], [], 0⟩
theorem ev78 : evFn Try.prog S78 2000 Try.f78 s78 = some o78 := by kernel_rfl

/-! (tandem/conv.format).rank -/
def s87 : Sig := ⟨[.s (.agg [.i .i64 (.h 0), .i .i64 (.h 1), .i .u64 (.h 2)]), .s (.one (.i .u64 (.h 3)))], [], [.i, .i, .i, .i], .s (.one (.i .i64 (.h 0))), [], [.i], false⟩
def o87 : Out := ⟨[(4, .call 65 [.r 0, .r 1, .r 2, .r 3] 0), (5, .call 86 [.r 0, .r 1, .r 2, .r 3] 0), (6, .conv .i64 (.r 5)), (7, .lxor .i64 (.z (-1)) (.r 6)), (8, .not (.r 4)), (9, .call 86 [.r 0, .r 1, .r 2, .r 3] 0), (10, .conv .i64 (.r 9)), (11, .itei (.r 8) (.r 10) (.r 7))],
  [],
  [],
  [.r 11]⟩
noncomputable def r87_0 (x2 : Int) (x3 : Int) : Int :=
  let x4 := r65_0 x2 x3
  let x5 := r86_0 x2 x3
  let x6 := IntKind.wrap .i64 x5
  let x7 := ilxor .i64 (-1) x6
  let x8 := !x4
  let x9 := r86_0 x2 x3
  let x10 := IntKind.wrap .i64 x9
  let x11 := bif x8 then x10 else x7
  x11
noncomputable def g87 (ds : List DV) : List DV := [.i (r87_0 (dget ds 2).toI (dget ds 3).toI)]
def S87 : Sigs := ⟨[(65, s65), (86, s86)], [], [], 0⟩
theorem ev87 : evFn Try.prog S87 2000 Try.f87 s87 = some o87 := by kernel_rfl

/-! tandem/conv.ToInt -/
def s25 : Sig := ⟨[.s (.one (.i .i64 (.h 0))), .s (.one (.i .i64 (.h 1))), .s (.one (.b (.h 2))), .s (.one (.b (.h 3))), .s (.one (.i .u64 (.h 4)))], [], [.i, .i, .b, .b, .i], .t [.one (.i .u64 (.h 0)), .one (.i .i64 (.h 1))], [], [.i, .i], true⟩
def o25 : Out := ⟨[(5, .call 64 [.r 0, .r 1] 0), (6, .not (.r 5)), (7, .not (.r 6))] ++ callsAt 8 62 [.r 0] 0 3 ++ [(11, .call 65 [.r 8, .r 9, .r 10, .r 4] 0), (12, .itei (.r 2) (.z 2147483648) (.z 9223372036854775808)), (13, .itei (.r 2) (.z 2147483647) (.z 9223372036854775807)), (14, .mul .u64 (.z 2) (.r 13)), (15, .add .u64 (.r 14) (.z 1)), (16, .itei (.r 3) (.z 0) (.r 12)), (17, .itei (.r 3) (.r 15) (.r 13)), (18, .call 67 [.r 8, .r 9, .r 10, .r 4] 0), (19, .call 67 [.r 8, .r 9, .r 10, .r 4] 1), (20, .geq (.r 19) (.z 8)), (21, .call 66 [.t false, .r 17, .r 2] 0), (22, .not (.r 20))] ++ callsAt 23 68 [.r 8, .r 9, .r 10, .r 4] 0 3 ++ [(26, .eql (.r 19) (.z 7)), (27, .gtr (.r 25) (.z 0)), (28, .neq (.r 24) (.z 0)), (29, .and (.r 27) (.r 28)), (30, .call 69 [.r 24] 0), (31, .call 69 [.r 24] 1), (32, .add .i64 (.r 31) (.r 25)), (33, .gtr (.r 32) (.z 64)), (34, .and (.r 29) (.r 33)), (35, .gtr (.r 25) (.z 0)), (36, .geq (.r 25) (.z 0)), (37, .shl .u64 (.r 24) (.r 25)), (38, .sub .i64 (.z 0) (.r 25))] ++ callsAt 39 70 [.r 1, .r 11, .r 24, .r 38] 0 3 ++ [(42, .itei (.r 35) (.r 37) (.r 40)), (43, .or (.r 35) (.r 41)), (44, .itei (.r 34) (.r 24) (.r 42)), (45, .or (.r 34) (.r 43)), (46, .or (.r 34) (.r 26)), (47, .itei (.r 26) (.r 24) (.r 44)), (48, .or (.r 26) (.r 45)), (49, .iteb (.r 26) (.r 26) (.r 46)), (50, .gtr (.r 47) (.r 16)), (51, .or (.r 49) (.r 50)), (52, .and (.r 11) (.r 51)), (53, .call 66 [.t true, .r 16, .r 2] 0), (54, .not (.r 11)), (55, .gtr (.r 47) (.r 17)), (56, .or (.r 49) (.r 55)), (57, .and (.r 54) (.r 56)), (58, .call 66 [.t false, .r 17, .r 2] 0), (59, .not (.r 48)), (60, .call 66 [.r 11, .r 47, .r 2] 0), (61, .not (.r 59)), (62, .iteb (.r 57) (.t false) (.r 61)), (63, .iteb (.r 52) (.t false) (.r 62)), (64, .call 66 [.r 11, .r 47, .r 2] 0), (65, .itei (.r 57) (.r 58) (.r 60)), (66, .itei (.r 57) (.z 16) (.z 1)), (67, .itei (.r 52) (.r 53) (.r 65)), (68, .itei (.r 52) (.z 16) (.r 66)), (69, .itei (.r 63) (.r 64) (.r 67)), (70, .itei (.r 63) (.z 0) (.r 68)), (71, .itei (.r 22) (.r 69) (.r 21)), (72, .itei (.r 22) (.r 70) (.z 16)), (73, .itei (.r 7) (.r 71) (.z 0)), (74, .itei (.r 7) (.r 72) (.z 0))],
  [⟨[(.r 7, true)], .r 18⟩, ⟨[(.r 7, true), (.r 22, true)], .r 23⟩, ⟨[(.r 7, true), (.r 22, true), (.r 26, false), (.r 29, true)], .r 30⟩, ⟨[(.r 7, true), (.r 22, true), (.r 26, false), (.r 34, false), (.r 35, true)], .r 36⟩, ⟨[(.r 7, true), (.r 22, true), (.r 26, false), (.r 34, false), (.r 35, false)], .r 39⟩],
  [],
  [.r 73, .r 74]⟩
noncomputable def p25 (x0 : Int) (x1 : Int) (x4 : Int) : Bool :=
  let x5 := r64_0 x0 x1
  let x6 := !x5
  let x7 := !x6
  let x8 := r62_0 x0
  let x9 := r62_1 x0
  let x10 := r62_2 x0
  let x18 := p67 x8 x9 x10 x4
  let x19 := r67_0 x8 x9 x10 x4
  let x20 := decide (x19 ≥ 8)
  let x22 := !x20
  let x23 := p68 x8 x10 x4
  let x24 := r68_0 x8 x10 x4
  let x25 := r68_1 x8 x9 x10 x4
  let x26 := x19 == 7
  let x27 := decide (x25 > 0)
  let x28 := x24 != 0
  let x29 := x27 && x28
  let x30 := p69 x24
  let x31 := r69_0 x24
  let x32 := IntKind.wrap .i64 (x31 + x25)
  let x33 := decide (x32 > 64)
  let x34 := x29 && x33
  let x35 := decide (x25 > 0)
  let x36 := decide (x25 ≥ 0)
  let x38 := IntKind.wrap .i64 (0 - x25)
  let x39 := p70 x24 x38
  [ow [(x7, true)] x18, ow [(x7, true), (x22, true)] x23, ow [(x7, true), (x22, true), (x26, false), (x29, true)] x30, ow [(x7, true), (x22, true), (x26, false), (x34, false), (x35, true)] x36, ow [(x7, true), (x22, true), (x26, false), (x34, false), (x35, false)] x39].all id
noncomputable def r25_0 (x0 : Int) (x1 : Int) (x2 : Bool) (x3 : Bool) (x4 : Int) : Int :=
  let x5 := r64_0 x0 x1
  let x6 := !x5
  let x7 := !x6
  let x8 := r62_0 x0
  let x9 := r62_1 x0
  let x10 := r62_2 x0
  let x11 := r65_0 x10 x4
  let x12 := bif x2 then 2147483648 else 9223372036854775808
  let x13 := bif x2 then 2147483647 else 9223372036854775807
  let x14 := IntKind.wrap .u64 (2 * x13)
  let x15 := IntKind.wrap .u64 (x14 + 1)
  let x16 := bif x3 then 0 else x12
  let x17 := bif x3 then x15 else x13
  let x19 := r67_0 x8 x9 x10 x4
  let x20 := decide (x19 ≥ 8)
  let x21 := r66_0 false x17 x2
  let x22 := !x20
  let x24 := r68_0 x8 x10 x4
  let x25 := r68_1 x8 x9 x10 x4
  let x26 := x19 == 7
  let x27 := decide (x25 > 0)
  let x28 := x24 != 0
  let x29 := x27 && x28
  let x31 := r69_0 x24
  let x32 := IntKind.wrap .i64 (x31 + x25)
  let x33 := decide (x32 > 64)
  let x34 := x29 && x33
  let x35 := decide (x25 > 0)
  let x37 := ishl .u64 x24 x25
  let x38 := IntKind.wrap .i64 (0 - x25)
  let x40 := r70_0 x1 x11 x24 x38
  let x41 := r70_1 x24 x38
  let x42 := bif x35 then x37 else x40
  let x43 := x35 || x41
  let x44 := bif x34 then x24 else x42
  let x45 := x34 || x43
  let x46 := x34 || x26
  let x47 := bif x26 then x24 else x44
  let x48 := x26 || x45
  let x49 := bif x26 then x26 else x46
  let x50 := decide (x47 > x16)
  let x51 := x49 || x50
  let x52 := x11 && x51
  let x53 := r66_0 true x16 x2
  let x54 := !x11
  let x55 := decide (x47 > x17)
  let x56 := x49 || x55
  let x57 := x54 && x56
  let x58 := r66_0 false x17 x2
  let x59 := !x48
  let x60 := r66_0 x11 x47 x2
  let x61 := !x59
  let x62 := bif x57 then false else x61
  let x63 := bif x52 then false else x62
  let x64 := r66_0 x11 x47 x2
  let x65 := bif x57 then x58 else x60
  let x67 := bif x52 then x53 else x65
  let x69 := bif x63 then x64 else x67
  let x71 := bif x22 then x69 else x21
  let x73 := bif x7 then x71 else 0
  x73
noncomputable def r25_1 (x0 : Int) (x1 : Int) (x2 : Bool) (x3 : Bool) (x4 : Int) : Int :=
  let x5 := r64_0 x0 x1
  let x6 := !x5
  let x7 := !x6
  let x8 := r62_0 x0
  let x9 := r62_1 x0
  let x10 := r62_2 x0
  let x11 := r65_0 x10 x4
  let x12 := bif x2 then 2147483648 else 9223372036854775808
  let x13 := bif x2 then 2147483647 else 9223372036854775807
  let x14 := IntKind.wrap .u64 (2 * x13)
  let x15 := IntKind.wrap .u64 (x14 + 1)
  let x16 := bif x3 then 0 else x12
  let x17 := bif x3 then x15 else x13
  let x19 := r67_0 x8 x9 x10 x4
  let x20 := decide (x19 ≥ 8)
  let x22 := !x20
  let x24 := r68_0 x8 x10 x4
  let x25 := r68_1 x8 x9 x10 x4
  let x26 := x19 == 7
  let x27 := decide (x25 > 0)
  let x28 := x24 != 0
  let x29 := x27 && x28
  let x31 := r69_0 x24
  let x32 := IntKind.wrap .i64 (x31 + x25)
  let x33 := decide (x32 > 64)
  let x34 := x29 && x33
  let x35 := decide (x25 > 0)
  let x37 := ishl .u64 x24 x25
  let x38 := IntKind.wrap .i64 (0 - x25)
  let x40 := r70_0 x1 x11 x24 x38
  let x41 := r70_1 x24 x38
  let x42 := bif x35 then x37 else x40
  let x43 := x35 || x41
  let x44 := bif x34 then x24 else x42
  let x45 := x34 || x43
  let x46 := x34 || x26
  let x47 := bif x26 then x24 else x44
  let x48 := x26 || x45
  let x49 := bif x26 then x26 else x46
  let x50 := decide (x47 > x16)
  let x51 := x49 || x50
  let x52 := x11 && x51
  let x54 := !x11
  let x55 := decide (x47 > x17)
  let x56 := x49 || x55
  let x57 := x54 && x56
  let x59 := !x48
  let x61 := !x59
  let x62 := bif x57 then false else x61
  let x63 := bif x52 then false else x62
  let x66 := bif x57 then 16 else 1
  let x68 := bif x52 then 16 else x66
  let x70 := bif x63 then 0 else x68
  let x72 := bif x22 then x70 else 16
  let x74 := bif x7 then x72 else 0
  x74
noncomputable def g25 (ds : List DV) : List DV := [.b (p25 (dget ds 0).toI (dget ds 1).toI (dget ds 4).toI), .i (r25_0 (dget ds 0).toI (dget ds 1).toI (dget ds 2).toB (dget ds 3).toB (dget ds 4).toI), .i (r25_1 (dget ds 0).toI (dget ds 1).toI (dget ds 2).toB (dget ds 3).toB (dget ds 4).toI)]
def S25 : Sigs := ⟨[(64, s64), (62, s62), (65, s65), (67, s67), (66, s66), (68, s68), (69, s69), (70, s70)], [], [], 0⟩
theorem ev25 : evFn Try.prog S25 2000 Try.f25 s25 = some o25 := by kernel_rfl

/-! tandem/conv.FromInt -/
def s27 : Sig := ⟨[.s (.one (.i .i64 (.h 0))), .s (.one (.i .i64 (.h 1))), .s (.one (.b (.h 2))), .s (.one (.b (.h 3))), .s (.one (.i .u64 (.h 4)))], [], [.i, .i, .b, .b, .i], .t [.one (.i .u64 (.h 0)), .one (.i .i64 (.h 1))], [], [.i, .i], true⟩
def o27 : Out := ⟨[(5, .call 64 [.r 0, .r 1] 0), (6, .not (.r 5)), (7, .not (.r 6)), (8, .and (.r 2) (.r 3)), (9, .conv .u32 (.r 4)), (10, .conv .u64 (.r 9)), (11, .conv .i32 (.r 4)), (12, .conv .u64 (.r 11)), (13, .itei (.r 2) (.r 12) (.r 4)), (14, .itei (.r 8) (.r 10) (.r 13)), (15, .not (.r 3)), (16, .conv .i64 (.r 14)), (17, .lss (.r 16) (.z 0)), (18, .and (.r 15) (.r 17)), (19, .sub .u64 (.z 0) (.r 14)), (20, .itei (.r 18) (.r 19) (.r 14)), (21, .eql (.r 20) (.z 0)), (22, .not (.r 21))] ++ callsAt 23 62 [.r 0] 0 3 ++ callsAt 26 78 [.r 23, .r 24, .r 25, .r 1, .r 18, .r 20, .z 0] 0 3 ++ [(29, .itei (.r 22) (.r 27) (.z 0)), (30, .itei (.r 22) (.r 28) (.z 0)), (31, .itei (.r 7) (.r 29) (.z 0)), (32, .itei (.r 7) (.r 30) (.z 0))],
  [⟨[(.r 7, true), (.r 22, true)], .r 26⟩],
  [],
  [.r 31, .r 32]⟩
noncomputable def p27 (x0 : Int) (x1 : Int) (x2 : Bool) (x3 : Bool) (x4 : Int) : Bool :=
  let x5 := r64_0 x0 x1
  let x6 := !x5
  let x7 := !x6
  let x8 := x2 && x3
  let x9 := IntKind.wrap .u32 x4
  let x10 := IntKind.wrap .u64 x9
  let x11 := IntKind.wrap .i32 x4
  let x12 := IntKind.wrap .u64 x11
  let x13 := bif x2 then x12 else x4
  let x14 := bif x8 then x10 else x13
  let x15 := !x3
  let x16 := IntKind.wrap .i64 x14
  let x17 := decide (x16 < 0)
  let x18 := x15 && x17
  let x19 := IntKind.wrap .u64 (0 - x14)
  let x20 := bif x18 then x19 else x14
  let x21 := x20 == 0
  let x22 := !x21
  let x23 := r62_0 x0
  let x24 := r62_1 x0
  let x26 := p78 x23 x24 x1 x18 x20 0
  [ow [(x7, true), (x22, true)] x26].all id
noncomputable def r27_0 (x0 : Int) (x1 : Int) (x2 : Bool) (x3 : Bool) (x4 : Int) : Int :=
  let x5 := r64_0 x0 x1
  let x6 := !x5
  let x7 := !x6
  let x8 := x2 && x3
  let x9 := IntKind.wrap .u32 x4
  let x10 := IntKind.wrap .u64 x9
  let x11 := IntKind.wrap .i32 x4
  let x12 := IntKind.wrap .u64 x11
  let x13 := bif x2 then x12 else x4
  let x14 := bif x8 then x10 else x13
  let x15 := !x3
  let x16 := IntKind.wrap .i64 x14
  let x17 := decide (x16 < 0)
  let x18 := x15 && x17
  let x19 := IntKind.wrap .u64 (0 - x14)
  let x20 := bif x18 then x19 else x14
  let x21 := x20 == 0
  let x22 := !x21
  let x23 := r62_0 x0
  let x24 := r62_1 x0
  let x25 := r62_2 x0
  let x27 := r78_0 x23 x24 x25 x1 x18 x20 0
  let x29 := bif x22 then x27 else 0
  let x31 := bif x7 then x29 else 0
  x31
noncomputable def r27_1 (x0 : Int) (x1 : Int) (x2 : Bool) (x3 : Bool) (x4 : Int) : Int :=
  let x5 := r64_0 x0 x1
  let x6 := !x5
  let x7 := !x6
  let x8 := x2 && x3
  let x9 := IntKind.wrap .u32 x4
  let x10 := IntKind.wrap .u64 x9
  let x11 := IntKind.wrap .i32 x4
  let x12 := IntKind.wrap .u64 x11
  let x13 := bif x2 then x12 else x4
  let x14 := bif x8 then x10 else x13
  let x15 := !x3
  let x16 := IntKind.wrap .i64 x14
  let x17 := decide (x16 < 0)
  let x18 := x15 && x17
  let x19 := IntKind.wrap .u64 (0 - x14)
  let x20 := bif x18 then x19 else x14
  let x21 := x20 == 0
  let x22 := !x21
  let x23 := r62_0 x0
  let x24 := r62_1 x0
  let x28 := r78_1 x23 x24 x1 x18 x20 0
  let x30 := bif x22 then x28 else 0
  let x32 := bif x7 then x30 else 0
  x32
noncomputable def g27 (ds : List DV) : List DV := [.b (p27 (dget ds 0).toI (dget ds 1).toI (dget ds 2).toB (dget ds 3).toB (dget ds 4).toI), .i (r27_0 (dget ds 0).toI (dget ds 1).toI (dget ds 2).toB (dget ds 3).toB (dget ds 4).toI), .i (r27_1 (dget ds 0).toI (dget ds 1).toI (dget ds 2).toB (dget ds 3).toB (dget ds 4).toI)]
def S27 : Sigs := ⟨[(64, s64), (62, s62), (78, s78)], [], [], 0⟩
theorem ev27 : evFn Try.prog S27 2000 Try.f27 s27 = some o27 := by kernel_rfl

/-! tandem/conv.Convert -/
def s29 : Sig := ⟨[.s (.one (.i .i64 (.h 0))), .s (.one (.i .i64 (.h 1))), .s (.one (.i .u64 (.h 2)))], [], [.i, .i, .i], .t [.one (.i .u64 (.h 0)), .one (.i .i64 (.h 1))], [], [.i, .i], true⟩
def o29 : Out := ⟨[(3, .call 64 [.r 0, .r 1] 0), (4, .not (.r 3)), (5, .not (.r 4))] ++ callsAt 6 62 [.r 0] 0 3 ++ [(9, .sub .i64 (.z 12) (.r 0))] ++ callsAt 10 62 [.r 9] 0 3 ++ [(13, .call 65 [.r 10, .r 11, .r 12, .r 2] 0), (14, .call 67 [.r 10, .r 11, .r 12, .r 2] 0), (15, .call 67 [.r 10, .r 11, .r 12, .r 2] 1), (16, .eql (.r 15) (.z 8)), (17, .call 63 [.r 6, .r 7, .r 8] 0), (18, .call 63 [.r 6, .r 7, .r 8] 1), (19, .eql (.r 15) (.z 9)), (20, .call 63 [.r 6, .r 7, .r 8] 0), (21, .call 63 [.r 6, .r 7, .r 8] 1), (22, .eql (.r 15) (.z 7)), (23, .call 83 [.r 6, .r 7, .r 8] 0), (24, .call 83 [.r 6, .r 7, .r 8] 1), (25, .call 82 [.r 6, .r 7, .r 8, .r 13, .r 24] 0), (26, .eql (.r 15) (.z 4)), (27, .call 82 [.r 6, .r 7, .r 8, .r 13, .z 0] 0), (28, .not (.r 26)), (29, .iteb (.r 22) (.t false) (.r 28)), (30, .iteb (.r 19) (.t false) (.r 29)), (31, .iteb (.r 16) (.t false) (.r 30))] ++ callsAt 32 68 [.r 10, .r 11, .r 12, .r 2] 0 3 ++ callsAt 35 78 [.r 6, .r 7, .r 8, .r 1, .r 13, .r 33, .r 34] 0 3 ++ [(38, .itei (.r 22) (.r 25) (.r 27)), (39, .itei (.r 19) (.r 21) (.r 38)), (40, .itei (.r 16) (.r 18) (.r 39)), (41, .itei (.r 16) (.z 16) (.z 0)), (42, .itei (.r 31) (.r 36) (.r 40)), (43, .itei (.r 31) (.r 37) (.r 41)), (44, .itei (.r 5) (.r 42) (.z 0)), (45, .itei (.r 5) (.r 43) (.z 0))],
  [⟨[(.r 5, true)], .r 14⟩, ⟨[(.r 5, true), (.r 16, true)], .r 17⟩, ⟨[(.r 5, true), (.r 16, false), (.r 19, true)], .r 20⟩, ⟨[(.r 5, true), (.r 16, false), (.r 19, false), (.r 22, true)], .r 23⟩, ⟨[(.r 5, true), (.r 31, true)], .r 32⟩, ⟨[(.r 5, true), (.r 31, true)], .r 35⟩],
  [],
  [.r 44, .r 45]⟩
noncomputable def p29 (x0 : Int) (x1 : Int) (x2 : Int) : Bool :=
  let x3 := r64_0 x0 x1
  let x4 := !x3
  let x5 := !x4
  let x6 := r62_0 x0
  let x7 := r62_1 x0
  let x9 := IntKind.wrap .i64 (12 - x0)
  let x10 := r62_0 x9
  let x11 := r62_1 x9
  let x12 := r62_2 x9
  let x13 := r65_0 x12 x2
  let x14 := p67 x10 x11 x12 x2
  let x15 := r67_0 x10 x11 x12 x2
  let x16 := x15 == 8
  let x17 := p63 x6
  let x19 := x15 == 9
  let x20 := p63 x6
  let x22 := x15 == 7
  let x23 := p83 x6
  let x26 := x15 == 4
  let x28 := !x26
  let x29 := bif x22 then false else x28
  let x30 := bif x19 then false else x29
  let x31 := bif x16 then false else x30
  let x32 := p68 x10 x12 x2
  let x33 := r68_0 x10 x12 x2
  let x34 := r68_1 x10 x11 x12 x2
  let x35 := p78 x6 x7 x1 x13 x33 x34
  [ow [(x5, true)] x14, ow [(x5, true), (x16, true)] x17, ow [(x5, true), (x16, false), (x19, true)] x20, ow [(x5, true), (x16, false), (x19, false), (x22, true)] x23, ow [(x5, true), (x31, true)] x32, ow [(x5, true), (x31, true)] x35].all id
noncomputable def r29_0 (x0 : Int) (x1 : Int) (x2 : Int) : Int :=
  let x3 := r64_0 x0 x1
  let x4 := !x3
  let x5 := !x4
  let x6 := r62_0 x0
  let x7 := r62_1 x0
  let x8 := r62_2 x0
  let x9 := IntKind.wrap .i64 (12 - x0)
  let x10 := r62_0 x9
  let x11 := r62_1 x9
  let x12 := r62_2 x9
  let x13 := r65_0 x12 x2
  let x15 := r67_0 x10 x11 x12 x2
  let x16 := x15 == 8
  let x18 := r63_0 x6 x7
  let x19 := x15 == 9
  let x21 := r63_0 x6 x7
  let x22 := x15 == 7
  let x24 := r83_0 x6 x7
  let x25 := r82_0 x8 x13 x24
  let x26 := x15 == 4
  let x27 := r82_0 x8 x13 0
  let x28 := !x26
  let x29 := bif x22 then false else x28
  let x30 := bif x19 then false else x29
  let x31 := bif x16 then false else x30
  let x33 := r68_0 x10 x12 x2
  let x34 := r68_1 x10 x11 x12 x2
  let x36 := r78_0 x6 x7 x8 x1 x13 x33 x34
  let x38 := bif x22 then x25 else x27
  let x39 := bif x19 then x21 else x38
  let x40 := bif x16 then x18 else x39
  let x42 := bif x31 then x36 else x40
  let x44 := bif x5 then x42 else 0
  x44
noncomputable def r29_1 (x0 : Int) (x1 : Int) (x2 : Int) : Int :=
  let x3 := r64_0 x0 x1
  let x4 := !x3
  let x5 := !x4
  let x6 := r62_0 x0
  let x7 := r62_1 x0
  let x9 := IntKind.wrap .i64 (12 - x0)
  let x10 := r62_0 x9
  let x11 := r62_1 x9
  let x12 := r62_2 x9
  let x13 := r65_0 x12 x2
  let x15 := r67_0 x10 x11 x12 x2
  let x16 := x15 == 8
  let x19 := x15 == 9
  let x22 := x15 == 7
  let x26 := x15 == 4
  let x28 := !x26
  let x29 := bif x22 then false else x28
  let x30 := bif x19 then false else x29
  let x31 := bif x16 then false else x30
  let x33 := r68_0 x10 x12 x2
  let x34 := r68_1 x10 x11 x12 x2
  let x37 := r78_1 x6 x7 x1 x13 x33 x34
  let x41 := bif x16 then 16 else 0
  let x43 := bif x31 then x37 else x41
  let x45 := bif x5 then x43 else 0
  x45
noncomputable def g29 (ds : List DV) : List DV := [.b (p29 (dget ds 0).toI (dget ds 1).toI (dget ds 2).toI), .i (r29_0 (dget ds 0).toI (dget ds 1).toI (dget ds 2).toI), .i (r29_1 (dget ds 0).toI (dget ds 1).toI (dget ds 2).toI)]
def S29 : Sigs := ⟨[(64, s64), (62, s62), (65, s65), (67, s67), (63, s63), (83, s83), (82, s82), (68, s68), (78, s78)], [], [], 0⟩
theorem ev29 : evFn Try.prog S29 2000 Try.f29 s29 = some o29 := by kernel_rfl

/-! tandem/conv.Sign -/
def s31 : Sig := ⟨[.s (.one (.i .i64 (.h 0))), .s (.one (.i .i64 (.h 1))), .s (.one (.i .u64 (.h 2))), .s (.one (.i .u64 (.h 3)))], [], [.i, .i, .i, .i], .s (.one (.i .u64 (.h 0))), [], [.i], false⟩
def o31 : Out := ⟨[(4, .call 64 [.r 1, .z 0] 0), (5, .not (.r 4)), (6, .not (.r 5))] ++ callsAt 7 62 [.r 1] 0 3 ++ [(10, .eql (.r 0) (.z 64)), (11, .call 65 [.r 7, .r 8, .r 9, .r 3] 0), (12, .call 86 [.r 7, .r 8, .r 9, .r 2] 0), (13, .call 82 [.r 7, .r 8, .r 9, .r 11, .r 12] 0), (14, .eql (.r 0) (.z 65)), (15, .call 65 [.r 7, .r 8, .r 9, .r 3] 0), (16, .not (.r 15)), (17, .call 86 [.r 7, .r 8, .r 9, .r 2] 0), (18, .call 82 [.r 7, .r 8, .r 9, .r 16, .r 17] 0), (19, .eql (.r 0) (.z 66)), (20, .call 65 [.r 7, .r 8, .r 9, .r 2] 0), (21, .call 65 [.r 7, .r 8, .r 9, .r 3] 0), (22, .bne (.r 20) (.r 21)), (23, .call 86 [.r 7, .r 8, .r 9, .r 2] 0), (24, .call 82 [.r 7, .r 8, .r 9, .r 22, .r 23] 0), (25, .not (.r 19)), (26, .iteb (.r 14) (.t false) (.r 25)), (27, .iteb (.r 10) (.t false) (.r 26)), (28, .itei (.r 14) (.r 18) (.r 24)), (29, .itei (.r 10) (.r 13) (.r 28)), (30, .itei (.r 27) (.z 0) (.r 29)), (31, .itei (.r 6) (.r 30) (.z 0))],
  [],
  [],
  [.r 31]⟩
noncomputable def r31_0 (x0 : Int) (x1 : Int) (x2 : Int) (x3 : Int) : Int :=
  let x4 := r64_0 x1 0
  let x5 := !x4
  let x6 := !x5
  let x9 := r62_2 x1
  let x10 := x0 == 64
  let x11 := r65_0 x9 x3
  let x12 := r86_0 x9 x2
  let x13 := r82_0 x9 x11 x12
  let x14 := x0 == 65
  let x15 := r65_0 x9 x3
  let x16 := !x15
  let x17 := r86_0 x9 x2
  let x18 := r82_0 x9 x16 x17
  let x19 := x0 == 66
  let x20 := r65_0 x9 x2
  let x21 := r65_0 x9 x3
  let x22 := x20 != x21
  let x23 := r86_0 x9 x2
  let x24 := r82_0 x9 x22 x23
  let x25 := !x19
  let x26 := bif x14 then false else x25
  let x27 := bif x10 then false else x26
  let x28 := bif x14 then x18 else x24
  let x29 := bif x10 then x13 else x28
  let x30 := bif x27 then 0 else x29
  let x31 := bif x6 then x30 else 0
  x31
noncomputable def g31 (ds : List DV) : List DV := [.i (r31_0 (dget ds 0).toI (dget ds 1).toI (dget ds 2).toI (dget ds 3).toI)]
def S31 : Sigs := ⟨[(64, s64), (62, s62), (65, s65), (86, s86), (82, s82)], [], [], 0⟩
theorem ev31 : evFn Try.prog S31 2000 Try.f31 s31 = some o31 := by kernel_rfl

/-! tandem/conv.Class -/
def s33 : Sig := ⟨[.s (.one (.i .i64 (.h 0))), .s (.one (.i .u64 (.h 1)))], [], [.i, .i], .s (.one (.i .u64 (.h 0))), [], [.i], true⟩
def o33 : Out := ⟨[(2, .call 64 [.r 0, .z 0] 0), (3, .not (.r 2)), (4, .not (.r 3))] ++ callsAt 5 62 [.r 0] 0 3 ++ [(8, .call 67 [.r 5, .r 6, .r 7, .r 1] 0), (9, .call 67 [.r 5, .r 6, .r 7, .r 1] 1), (10, .leq (.r 9) (.z 7)), (11, .call 65 [.r 5, .r 6, .r 7, .r 1] 0), (12, .and (.r 10) (.r 11)), (13, .sub .i64 (.z 7) (.r 9)), (14, .itei (.r 12) (.r 13) (.r 9)), (15, .geq (.r 14) (.z 0)), (16, .shl .u64 (.z 1) (.r 14)), (17, .itei (.r 4) (.r 16) (.z 0))],
  [⟨[(.r 4, true)], .r 8⟩, ⟨[(.r 4, true)], .r 15⟩],
  [],
  [.r 17]⟩
noncomputable def p33 (x0 : Int) (x1 : Int) : Bool :=
  let x2 := r64_0 x0 0
  let x3 := !x2
  let x4 := !x3
  let x5 := r62_0 x0
  let x6 := r62_1 x0
  let x7 := r62_2 x0
  let x8 := p67 x5 x6 x7 x1
  let x9 := r67_0 x5 x6 x7 x1
  let x10 := decide (x9 ≤ 7)
  let x11 := r65_0 x7 x1
  let x12 := x10 && x11
  let x13 := IntKind.wrap .i64 (7 - x9)
  let x14 := bif x12 then x13 else x9
  let x15 := decide (x14 ≥ 0)
  [ow [(x4, true)] x8, ow [(x4, true)] x15].all id
noncomputable def r33_0 (x0 : Int) (x1 : Int) : Int :=
  let x2 := r64_0 x0 0
  let x3 := !x2
  let x4 := !x3
  let x5 := r62_0 x0
  let x6 := r62_1 x0
  let x7 := r62_2 x0
  let x9 := r67_0 x5 x6 x7 x1
  let x10 := decide (x9 ≤ 7)
  let x11 := r65_0 x7 x1
  let x12 := x10 && x11
  let x13 := IntKind.wrap .i64 (7 - x9)
  let x14 := bif x12 then x13 else x9
  let x16 := ishl .u64 1 x14
  let x17 := bif x4 then x16 else 0
  x17
noncomputable def g33 (ds : List DV) : List DV := [.b (p33 (dget ds 0).toI (dget ds 1).toI), .i (r33_0 (dget ds 0).toI (dget ds 1).toI)]
def S33 : Sigs := ⟨[(64, s64), (62, s62), (67, s67), (65, s65)], [], [], 0⟩
theorem ev33 : evFn Try.prog S33 2000 Try.f33 s33 = some o33 := by kernel_rfl

/-! tandem/conv.Pick -/
def s35 : Sig := ⟨[.s (.one (.i .i64 (.h 0))), .s (.one (.i .i64 (.h 1))), .s (.one (.i .u64 (.h 2))), .s (.one (.i .u64 (.h 3)))], [], [.i, .i, .i, .i], .t [.one (.i .u64 (.h 0)), .one (.i .i64 (.h 1))], [], [.i, .i], true⟩
def o35 : Out := ⟨[(4, .call 64 [.r 1, .z 0] 0), (5, .not (.r 4)), (6, .neq (.r 0) (.z 67)), (7, .neq (.r 0) (.z 68)), (8, .and (.r 6) (.r 7)), (9, .or (.r 5) (.r 8)), (10, .not (.r 9))] ++ callsAt 11 62 [.r 1] 0 3 ++ [(14, .call 67 [.r 11, .r 12, .r 13, .r 2] 0), (15, .call 67 [.r 11, .r 12, .r 13, .r 2] 1), (16, .call 67 [.r 11, .r 12, .r 13, .r 3] 0), (17, .call 67 [.r 11, .r 12, .r 13, .r 3] 1), (18, .eql (.r 15) (.z 8)), (19, .eql (.r 17) (.z 8)), (20, .or (.r 18) (.r 19)), (21, .itei (.r 20) (.z 16) (.z 0)), (22, .call 65 [.r 11, .r 12, .r 13, .r 2] 0), (23, .call 86 [.r 11, .r 12, .r 13, .r 2] 0), (24, .call 82 [.r 11, .r 12, .r 13, .r 22, .r 23] 0), (25, .call 65 [.r 11, .r 12, .r 13, .r 3] 0), (26, .call 86 [.r 11, .r 12, .r 13, .r 3] 0), (27, .call 82 [.r 11, .r 12, .r 13, .r 25, .r 26] 0), (28, .geq (.r 15) (.z 8)), (29, .geq (.r 17) (.z 8)), (30, .and (.r 28) (.r 29)), (31, .call 63 [.r 11, .r 12, .r 13] 0), (32, .call 63 [.r 11, .r 12, .r 13] 1), (33, .geq (.r 15) (.z 8)), (34, .geq (.r 17) (.z 8)), (35, .call 87 [.r 11, .r 12, .r 13, .r 24] 0), (36, .call 87 [.r 11, .r 12, .r 13, .r 27] 0), (37, .lss (.r 35) (.r 36)), (38, .eql (.r 0) (.z 67)), (39, .beq (.r 37) (.r 38)), (40, .not (.r 39)), (41, .iteb (.r 34) (.t false) (.r 40)), (42, .iteb (.r 33) (.t false) (.r 41)), (43, .iteb (.r 30) (.t false) (.r 42)), (44, .itei (.r 33) (.r 27) (.r 24)), (45, .itei (.r 30) (.r 32) (.r 44)), (46, .itei (.r 43) (.r 27) (.r 45)), (47, .itei (.r 10) (.r 46) (.z 0)), (48, .itei (.r 10) (.r 21) (.z 0))],
  [⟨[(.r 10, true)], .r 14⟩, ⟨[(.r 10, true)], .r 16⟩, ⟨[(.r 10, true), (.r 30, true)], .r 31⟩],
  [],
  [.r 47, .r 48]⟩
noncomputable def p35 (x0 : Int) (x1 : Int) (x2 : Int) (x3 : Int) : Bool :=
  let x4 := r64_0 x1 0
  let x5 := !x4
  let x6 := x0 != 67
  let x7 := x0 != 68
  let x8 := x6 && x7
  let x9 := x5 || x8
  let x10 := !x9
  let x11 := r62_0 x1
  let x12 := r62_1 x1
  let x13 := r62_2 x1
  let x14 := p67 x11 x12 x13 x2
  let x15 := r67_0 x11 x12 x13 x2
  let x16 := p67 x11 x12 x13 x3
  let x17 := r67_0 x11 x12 x13 x3
  let x28 := decide (x15 ≥ 8)
  let x29 := decide (x17 ≥ 8)
  let x30 := x28 && x29
  let x31 := p63 x11
  [ow [(x10, true)] x14, ow [(x10, true)] x16, ow [(x10, true), (x30, true)] x31].all id
noncomputable def r35_0 (x0 : Int) (x1 : Int) (x2 : Int) (x3 : Int) : Int :=
  let x4 := r64_0 x1 0
  let x5 := !x4
  let x6 := x0 != 67
  let x7 := x0 != 68
  let x8 := x6 && x7
  let x9 := x5 || x8
  let x10 := !x9
  let x11 := r62_0 x1
  let x12 := r62_1 x1
  let x13 := r62_2 x1
  let x15 := r67_0 x11 x12 x13 x2
  let x17 := r67_0 x11 x12 x13 x3
  let x22 := r65_0 x13 x2
  let x23 := r86_0 x13 x2
  let x24 := r82_0 x13 x22 x23
  let x25 := r65_0 x13 x3
  let x26 := r86_0 x13 x3
  let x27 := r82_0 x13 x25 x26
  let x28 := decide (x15 ≥ 8)
  let x29 := decide (x17 ≥ 8)
  let x30 := x28 && x29
  let x32 := r63_0 x11 x12
  let x33 := decide (x15 ≥ 8)
  let x34 := decide (x17 ≥ 8)
  let x35 := r87_0 x13 x24
  let x36 := r87_0 x13 x27
  let x37 := decide (x35 < x36)
  let x38 := x0 == 67
  let x39 := x37 == x38
  let x40 := !x39
  let x41 := bif x34 then false else x40
  let x42 := bif x33 then false else x41
  let x43 := bif x30 then false else x42
  let x44 := bif x33 then x27 else x24
  let x45 := bif x30 then x32 else x44
  let x46 := bif x43 then x27 else x45
  let x47 := bif x10 then x46 else 0
  x47
noncomputable def r35_1 (x0 : Int) (x1 : Int) (x2 : Int) (x3 : Int) : Int :=
  let x4 := r64_0 x1 0
  let x5 := !x4
  let x6 := x0 != 67
  let x7 := x0 != 68
  let x8 := x6 && x7
  let x9 := x5 || x8
  let x10 := !x9
  let x11 := r62_0 x1
  let x12 := r62_1 x1
  let x13 := r62_2 x1
  let x15 := r67_0 x11 x12 x13 x2
  let x17 := r67_0 x11 x12 x13 x3
  let x18 := x15 == 8
  let x19 := x17 == 8
  let x20 := x18 || x19
  let x21 := bif x20 then 16 else 0
  let x48 := bif x10 then x21 else 0
  x48
noncomputable def g35 (ds : List DV) : List DV := [.b (p35 (dget ds 0).toI (dget ds 1).toI (dget ds 2).toI (dget ds 3).toI), .i (r35_0 (dget ds 0).toI (dget ds 1).toI (dget ds 2).toI (dget ds 3).toI), .i (r35_1 (dget ds 0).toI (dget ds 1).toI (dget ds 2).toI (dget ds 3).toI)]
def S35 : Sigs := ⟨[(64, s64), (62, s62), (67, s67), (65, s65), (86, s86), (82, s82), (63, s63), (87, s87)], [], [], 0⟩
theorem ev35 : evFn Try.prog S35 2000 Try.f35 s35 = some o35 := by kernel_rfl

/-! tandem/conv.Compare -/
def s37 : Sig := ⟨[.s (.one (.i .i64 (.h 0))), .s (.one (.i .i64 (.h 1))), .s (.one (.i .u64 (.h 2))), .s (.one (.i .u64 (.h 3)))], [], [.i, .i, .i, .i], .t [.one (.i .u64 (.h 0)), .one (.i .i64 (.h 1))], [], [.i, .i], true⟩
def o37 : Out := ⟨[(4, .call 64 [.r 1, .z 0] 0), (5, .not (.r 4)), (6, .neq (.r 0) (.z 69)), (7, .neq (.r 0) (.z 70)), (8, .and (.r 6) (.r 7)), (9, .neq (.r 0) (.z 71)), (10, .and (.r 8) (.r 9)), (11, .or (.r 5) (.r 10)), (12, .not (.r 11))] ++ callsAt 13 62 [.r 1] 0 3 ++ [(16, .call 67 [.r 13, .r 14, .r 15, .r 2] 0), (17, .call 67 [.r 13, .r 14, .r 15, .r 2] 1), (18, .call 67 [.r 13, .r 14, .r 15, .r 3] 0), (19, .call 67 [.r 13, .r 14, .r 15, .r 3] 1), (20, .geq (.r 17) (.z 8)), (21, .geq (.r 19) (.z 8)), (22, .or (.r 20) (.r 21)), (23, .neq (.r 0) (.z 69)), (24, .eql (.r 17) (.z 8)), (25, .or (.r 23) (.r 24)), (26, .eql (.r 19) (.z 8)), (27, .or (.r 25) (.r 26)), (28, .not (.r 27)), (29, .not (.r 22)), (30, .call 87 [.r 13, .r 14, .r 15, .r 2] 0), (31, .call 87 [.r 13, .r 14, .r 15, .r 3] 0), (32, .eql (.r 17) (.z 4)), (33, .eql (.r 19) (.z 4)), (34, .and (.r 32) (.r 33)), (35, .itei (.r 34) (.r 31) (.r 30)), (36, .eql (.r 0) (.z 69)), (37, .eql (.r 35) (.r 31)), (38, .and (.r 36) (.r 37)), (39, .eql (.r 0) (.z 70)), (40, .lss (.r 35) (.r 31)), (41, .and (.r 39) (.r 40)), (42, .or (.r 38) (.r 41)), (43, .eql (.r 0) (.z 71)), (44, .leq (.r 35) (.r 31)), (45, .and (.r 43) (.r 44)), (46, .or (.r 42) (.r 45)), (47, .not (.r 46)), (48, .itei (.r 47) (.z 0) (.z 1)), (49, .itei (.r 28) (.z 0) (.z 16)), (50, .itei (.r 29) (.r 48) (.z 0)), (51, .itei (.r 29) (.z 0) (.r 49)), (52, .itei (.r 12) (.r 50) (.z 0)), (53, .itei (.r 12) (.r 51) (.z 0))],
  [⟨[(.r 12, true)], .r 16⟩, ⟨[(.r 12, true)], .r 18⟩],
  [],
  [.r 52, .r 53]⟩
noncomputable def p37 (x0 : Int) (x1 : Int) (x2 : Int) (x3 : Int) : Bool :=
  let x4 := r64_0 x1 0
  let x5 := !x4
  let x6 := x0 != 69
  let x7 := x0 != 70
  let x8 := x6 && x7
  let x9 := x0 != 71
  let x10 := x8 && x9
  let x11 := x5 || x10
  let x12 := !x11
  let x13 := r62_0 x1
  let x14 := r62_1 x1
  let x15 := r62_2 x1
  let x16 := p67 x13 x14 x15 x2
  let x18 := p67 x13 x14 x15 x3
  [ow [(x12, true)] x16, ow [(x12, true)] x18].all id
noncomputable def r37_0 (x0 : Int) (x1 : Int) (x2 : Int) (x3 : Int) : Int :=
  let x4 := r64_0 x1 0
  let x5 := !x4
  let x6 := x0 != 69
  let x7 := x0 != 70
  let x8 := x6 && x7
  let x9 := x0 != 71
  let x10 := x8 && x9
  let x11 := x5 || x10
  let x12 := !x11
  let x13 := r62_0 x1
  let x14 := r62_1 x1
  let x15 := r62_2 x1
  let x17 := r67_0 x13 x14 x15 x2
  let x19 := r67_0 x13 x14 x15 x3
  let x20 := decide (x17 ≥ 8)
  let x21 := decide (x19 ≥ 8)
  let x22 := x20 || x21
  let x29 := !x22
  let x30 := r87_0 x15 x2
  let x31 := r87_0 x15 x3
  let x32 := x17 == 4
  let x33 := x19 == 4
  let x34 := x32 && x33
  let x35 := bif x34 then x31 else x30
  let x36 := x0 == 69
  let x37 := x35 == x31
  let x38 := x36 && x37
  let x39 := x0 == 70
  let x40 := decide (x35 < x31)
  let x41 := x39 && x40
  let x42 := x38 || x41
  let x43 := x0 == 71
  let x44 := decide (x35 ≤ x31)
  let x45 := x43 && x44
  let x46 := x42 || x45
  let x47 := !x46
  let x48 := bif x47 then 0 else 1
  let x50 := bif x29 then x48 else 0
  let x52 := bif x12 then x50 else 0
  x52
noncomputable def r37_1 (x0 : Int) (x1 : Int) (x2 : Int) (x3 : Int) : Int :=
  let x4 := r64_0 x1 0
  let x5 := !x4
  let x6 := x0 != 69
  let x7 := x0 != 70
  let x8 := x6 && x7
  let x9 := x0 != 71
  let x10 := x8 && x9
  let x11 := x5 || x10
  let x12 := !x11
  let x13 := r62_0 x1
  let x14 := r62_1 x1
  let x15 := r62_2 x1
  let x17 := r67_0 x13 x14 x15 x2
  let x19 := r67_0 x13 x14 x15 x3
  let x20 := decide (x17 ≥ 8)
  let x21 := decide (x19 ≥ 8)
  let x22 := x20 || x21
  let x23 := x0 != 69
  let x24 := x17 == 8
  let x25 := x23 || x24
  let x26 := x19 == 8
  let x27 := x25 || x26
  let x28 := !x27
  let x29 := !x22
  let x49 := bif x28 then 0 else 16
  let x51 := bif x29 then 0 else x49
  let x53 := bif x12 then x51 else 0
  x53
noncomputable def g37 (ds : List DV) : List DV := [.b (p37 (dget ds 0).toI (dget ds 1).toI (dget ds 2).toI (dget ds 3).toI), .i (r37_0 (dget ds 0).toI (dget ds 1).toI (dget ds 2).toI (dget ds 3).toI), .i (r37_1 (dget ds 0).toI (dget ds 1).toI (dget ds 2).toI (dget ds 3).toI)]
def S37 : Sigs := ⟨[(64, s64), (62, s62), (67, s67), (87, s87)], [], [], 0⟩
theorem ev37 : evFn Try.prog S37 2000 Try.f37 s37 = some o37 := by kernel_rfl

/-! tandem/conv.Box -/
def s21 : Sig := ⟨[.s (.one (.i .u64 (.h 0)))], [], [.i], .s (.one (.i .u64 (.h 0))), [], [.i], false⟩
def o21 : Out := ⟨[(1, .conv .u32 (.r 0)), (2, .conv .u64 (.r 1)), (3, .lor .u64 (.r 2) (.z 18446744069414584320))],
  [],
  [],
  [.r 3]⟩
noncomputable def r21_0 (x0 : Int) : Int :=
  let x1 := IntKind.wrap .u32 x0
  let x2 := IntKind.wrap .u64 x1
  let x3 := ilor .u64 x2 18446744069414584320
  x3
noncomputable def g21 (ds : List DV) : List DV := [.i (r21_0 (dget ds 0).toI)]
def S21 : Sigs := ⟨[], [], [], 0⟩
theorem ev21 : evFn Try.prog S21 2000 Try.f21 s21 = some o21 := by kernel_rfl

/-! tandem/conv.Unbox -/
def s23 : Sig := ⟨[.s (.one (.i .u64 (.h 0)))], [], [.i], .s (.one (.i .u64 (.h 0))), [], [.i], true⟩
def o23 : Out := ⟨[(1, .shr .u64 (.r 0) (.z 32)), (2, .neq (.r 1) (.z 4294967295))] ++ callsAt 3 62 [.z 4] 0 3 ++ [(6, .call 63 [.r 3, .r 4, .r 5] 0), (7, .call 63 [.r 3, .r 4, .r 5] 1), (8, .not (.r 2)), (9, .conv .u32 (.r 0)), (10, .conv .u64 (.r 9)), (11, .itei (.r 8) (.r 10) (.r 7))],
  [⟨[(.r 2, true)], .r 6⟩],
  [],
  [.r 11]⟩
noncomputable def p23 (x0 : Int) : Bool :=
  let x1 := ishr .u64 x0 32
  let x2 := x1 != 4294967295
  let x3 := r62_0 4
  let x6 := p63 x3
  [ow [(x2, true)] x6].all id
noncomputable def r23_0 (x0 : Int) : Int :=
  let x1 := ishr .u64 x0 32
  let x2 := x1 != 4294967295
  let x3 := r62_0 4
  let x4 := r62_1 4
  let x7 := r63_0 x3 x4
  let x8 := !x2
  let x9 := IntKind.wrap .u32 x0
  let x10 := IntKind.wrap .u64 x9
  let x11 := bif x8 then x10 else x7
  x11
noncomputable def g23 (ds : List DV) : List DV := [.b (p23 (dget ds 0).toI), .i (r23_0 (dget ds 0).toI)]
def S23 : Sigs := ⟨[(62, s62), (63, s63)], [], [], 0⟩
theorem ev23 : evFn Try.prog S23 2000 Try.f23 s23 = some o23 := by kernel_rfl

/-! tandem/tandemref01.shape -/
def s89 : Sig := ⟨[.s (.one (.i .i64 (.h 0)))], [], [.i], .t [.one (.i .i64 (.h 0)), .one (.i .i64 (.h 1))], [], [.i, .i], false⟩
def o89 : Out := ⟨[(1, .eql (.r 0) (.z 4)), (2, .not (.r 1)), (3, .itei (.r 2) (.z 52) (.z 23)), (4, .itei (.r 2) (.z 11) (.z 8))],
  [],
  [],
  [.r 3, .r 4]⟩
noncomputable def r89_0 (x0 : Int) : Int :=
  let x1 := x0 == 4
  let x2 := !x1
  let x3 := bif x2 then 52 else 23
  x3
noncomputable def r89_1 (x0 : Int) : Int :=
  let x1 := x0 == 4
  let x2 := !x1
  let x4 := bif x2 then 11 else 8
  x4
noncomputable def g89 (ds : List DV) : List DV := [.i (r89_0 (dget ds 0).toI), .i (r89_1 (dget ds 0).toI)]
def S89 : Sigs := ⟨[], [], [], 0⟩
theorem ev89 : evFn Try.prog S89 2000 Try.f89 s89 = some o89 := by kernel_rfl

/-! tandem/tandemref01.Mask -/
def s42 : Sig := ⟨[.s (.one (.i .i64 (.h 0))), .s (.one (.i .u64 (.h 1)))], [], [.i, .i], .s (.one (.i .u64 (.h 0))), [], [.i], false⟩
def o42 : Out := ⟨[(2, .eql (.r 0) (.z 4)), (3, .land .u64 (.r 1) (.z 4294967295)), (4, .not (.r 2)), (5, .itei (.r 4) (.r 1) (.r 3))],
  [],
  [],
  [.r 5]⟩
noncomputable def r42_0 (x0 : Int) (x1 : Int) : Int :=
  let x2 := x0 == 4
  let x3 := iland .u64 x1 4294967295
  let x4 := !x2
  let x5 := bif x4 then x1 else x3
  x5
noncomputable def g42 (ds : List DV) : List DV := [.i (r42_0 (dget ds 0).toI (dget ds 1).toI)]
def S42 : Sigs := ⟨[], [], [], 0⟩
theorem ev42 : evFn Try.prog S42 2000 Try.f42 s42 = some o42 := by kernel_rfl

/-! tandem/tandemref01.parts -/
def s90 : Sig := ⟨[.s (.one (.i .i64 (.h 0))), .s (.one (.i .u64 (.h 1)))], [], [.i, .i], .t [.one (.b (.h 0)), .one (.i .i64 (.h 1)), .one (.i .u64 (.h 2))], [], [.b, .i, .i], true⟩
def o90 : Out := ⟨[(2, .call 89 [.r 0] 0), (3, .call 89 [.r 0] 1), (4, .call 42 [.r 0, .r 1] 0), (5, .add .i64 (.r 2) (.r 3)), (6, .geq (.r 5) (.z 0)), (7, .shr .u64 (.r 4) (.r 5)), (8, .eql (.r 7) (.z 1)), (9, .geq (.r 2) (.z 0)), (10, .shr .u64 (.r 4) (.r 2)), (11, .geq (.r 3) (.z 0)), (12, .shl .u64 (.z 1) (.r 3)), (13, .sub .u64 (.r 12) (.z 1)), (14, .land .u64 (.r 10) (.r 13)), (15, .conv .i64 (.r 14)), (16, .geq (.r 2) (.z 0)), (17, .shl .u64 (.z 1) (.r 2)), (18, .sub .u64 (.r 17) (.z 1)), (19, .land .u64 (.r 4) (.r 18))],
  [⟨[], .r 6⟩, ⟨[], .r 9⟩, ⟨[], .r 11⟩, ⟨[], .r 16⟩],
  [],
  [.r 8, .r 15, .r 19]⟩
noncomputable def p90 (x0 : Int) : Bool :=
  let x2 := r89_0 x0
  let x3 := r89_1 x0
  let x5 := IntKind.wrap .i64 (x2 + x3)
  let x6 := decide (x5 ≥ 0)
  let x9 := decide (x2 ≥ 0)
  let x11 := decide (x3 ≥ 0)
  let x16 := decide (x2 ≥ 0)
  [ow [] x6, ow [] x9, ow [] x11, ow [] x16].all id
noncomputable def r90_0 (x0 : Int) (x1 : Int) : Bool :=
  let x2 := r89_0 x0
  let x3 := r89_1 x0
  let x4 := r42_0 x0 x1
  let x5 := IntKind.wrap .i64 (x2 + x3)
  let x7 := ishr .u64 x4 x5
  let x8 := x7 == 1
  x8
noncomputable def r90_1 (x0 : Int) (x1 : Int) : Int :=
  let x2 := r89_0 x0
  let x3 := r89_1 x0
  let x4 := r42_0 x0 x1
  let x10 := ishr .u64 x4 x2
  let x12 := ishl .u64 1 x3
  let x13 := IntKind.wrap .u64 (x12 - 1)
  let x14 := iland .u64 x10 x13
  let x15 := IntKind.wrap .i64 x14
  x15
noncomputable def r90_2 (x0 : Int) (x1 : Int) : Int :=
  let x2 := r89_0 x0
  let x4 := r42_0 x0 x1
  let x17 := ishl .u64 1 x2
  let x18 := IntKind.wrap .u64 (x17 - 1)
  let x19 := iland .u64 x4 x18
  x19
noncomputable def g90 (ds : List DV) : List DV := [.b (p90 (dget ds 0).toI), .b (r90_0 (dget ds 0).toI (dget ds 1).toI), .i (r90_1 (dget ds 0).toI (dget ds 1).toI), .i (r90_2 (dget ds 0).toI (dget ds 1).toI)]
def S90 : Sigs := ⟨[(89, s89), (42, s42)], [], [], 0⟩
theorem ev90 : evFn Try.prog S90 2000 Try.f90 s90 = some o90 := by kernel_rfl

/-! tandem/tandemref01.Nan -/
def s39 : Sig := ⟨[.s (.one (.i .i64 (.h 0))), .s (.one (.i .u64 (.h 1)))], [], [.i, .i], .s (.one (.b (.h 0))), [], [.b], true⟩
def o39 : Out := ⟨[(2, .call 89 [.r 0] 0), (3, .call 89 [.r 0] 1)] ++ callsAt 4 90 [.r 0, .r 1] 0 4 ++ [(8, .geq (.r 3) (.z 0)), (9, .shl .i64 (.z 1) (.r 3)), (10, .sub .i64 (.r 9) (.z 1)), (11, .eql (.r 6) (.r 10)), (12, .neq (.r 7) (.z 0)), (13, .and (.r 11) (.r 12))],
  [⟨[], .r 4⟩, ⟨[], .r 8⟩],
  [],
  [.r 13]⟩
noncomputable def p39 (x0 : Int) : Bool :=
  let x3 := r89_1 x0
  let x4 := p90 x0
  let x8 := decide (x3 ≥ 0)
  [ow [] x4, ow [] x8].all id
noncomputable def r39_0 (x0 : Int) (x1 : Int) : Bool :=
  let x3 := r89_1 x0
  let x6 := r90_1 x0 x1
  let x7 := r90_2 x0 x1
  let x9 := ishl .i64 1 x3
  let x10 := IntKind.wrap .i64 (x9 - 1)
  let x11 := x6 == x10
  let x12 := x7 != 0
  let x13 := x11 && x12
  x13
noncomputable def g39 (ds : List DV) : List DV := [.b (p39 (dget ds 0).toI), .b (r39_0 (dget ds 0).toI (dget ds 1).toI)]
def S39 : Sigs := ⟨[(89, s89), (90, s90)], [], [], 0⟩
theorem ev39 : evFn Try.prog S39 2000 Try.f39 s39 = some o39 := by kernel_rfl

/-! tandem/tandemref01.Quiet -/
def s40 : Sig := ⟨[.s (.one (.i .i64 (.h 0)))], [], [.i], .s (.one (.i .u64 (.h 0))), [], [.i], false⟩
def o40 : Out := ⟨[(1, .eql (.r 0) (.z 4)), (2, .not (.r 1)), (3, .itei (.r 2) (.z 9221120237041090560) (.z 2143289344))],
  [],
  [],
  [.r 3]⟩
noncomputable def r40_0 (x0 : Int) : Int :=
  let x1 := x0 == 4
  let x2 := !x1
  let x3 := bif x2 then 9221120237041090560 else 2143289344
  x3
noncomputable def g40 (ds : List DV) : List DV := [.i (r40_0 (dget ds 0).toI)]
def S40 : Sigs := ⟨[], [], [], 0⟩
theorem ev40 : evFn Try.prog S40 2000 Try.f40 s40 = some o40 := by kernel_rfl

/-! tandem/tandemref01.Signalling -/
def s41 : Sig := ⟨[.s (.one (.i .i64 (.h 0))), .s (.one (.i .u64 (.h 1)))], [], [.i, .i], .s (.one (.b (.h 0))), [], [.b], true⟩
def o41 : Out := ⟨[(2, .call 89 [.r 0] 0), (3, .call 89 [.r 0] 1)] ++ callsAt 4 90 [.r 0, .r 1] 0 4 ++ [(8, .call 39 [.r 0, .r 1] 0), (9, .call 39 [.r 0, .r 1] 1), (10, .sub .i64 (.r 2) (.z 1)), (11, .geq (.r 10) (.z 0)), (12, .shr .u64 (.r 7) (.r 10)), (13, .eql (.r 12) (.z 0)), (14, .and (.r 9) (.r 13))],
  [⟨[], .r 4⟩, ⟨[], .r 8⟩, ⟨[(.r 9, true)], .r 11⟩],
  [],
  [.r 14]⟩
noncomputable def p41 (x0 : Int) (x1 : Int) : Bool :=
  let x2 := r89_0 x0
  let x4 := p90 x0
  let x8 := p39 x0
  let x9 := r39_0 x0 x1
  let x10 := IntKind.wrap .i64 (x2 - 1)
  let x11 := decide (x10 ≥ 0)
  [ow [] x4, ow [] x8, ow [(x9, true)] x11].all id
noncomputable def r41_0 (x0 : Int) (x1 : Int) : Bool :=
  let x2 := r89_0 x0
  let x7 := r90_2 x0 x1
  let x9 := r39_0 x0 x1
  let x10 := IntKind.wrap .i64 (x2 - 1)
  let x12 := ishr .u64 x7 x10
  let x13 := x12 == 0
  let x14 := x9 && x13
  x14
noncomputable def g41 (ds : List DV) : List DV := [.b (p41 (dget ds 0).toI (dget ds 1).toI), .b (r41_0 (dget ds 0).toI (dget ds 1).toI)]
def S41 : Sigs := ⟨[(89, s89), (90, s90), (39, s39)], [], [], 0⟩
theorem ev41 : evFn Try.prog S41 2000 Try.f41 s41 = some o41 := by kernel_rfl

/-! tandem/tandemref01.Inf -/
def s56 : Sig := ⟨[.s (.one (.i .i64 (.h 0))), .s (.one (.i .u64 (.h 1)))], [], [.i, .i], .s (.one (.b (.h 0))), [], [.b], true⟩
def o56 : Out := ⟨[(2, .call 89 [.r 0] 0), (3, .call 89 [.r 0] 1)] ++ callsAt 4 90 [.r 0, .r 1] 0 4 ++ [(8, .geq (.r 3) (.z 0)), (9, .shl .i64 (.z 1) (.r 3)), (10, .sub .i64 (.r 9) (.z 1)), (11, .eql (.r 6) (.r 10)), (12, .eql (.r 7) (.z 0)), (13, .and (.r 11) (.r 12))],
  [⟨[], .r 4⟩, ⟨[], .r 8⟩],
  [],
  [.r 13]⟩
noncomputable def p56 (x0 : Int) : Bool :=
  let x3 := r89_1 x0
  let x4 := p90 x0
  let x8 := decide (x3 ≥ 0)
  [ow [] x4, ow [] x8].all id
noncomputable def r56_0 (x0 : Int) (x1 : Int) : Bool :=
  let x3 := r89_1 x0
  let x6 := r90_1 x0 x1
  let x7 := r90_2 x0 x1
  let x9 := ishl .i64 1 x3
  let x10 := IntKind.wrap .i64 (x9 - 1)
  let x11 := x6 == x10
  let x12 := x7 == 0
  let x13 := x11 && x12
  x13
noncomputable def g56 (ds : List DV) : List DV := [.b (p56 (dget ds 0).toI), .b (r56_0 (dget ds 0).toI (dget ds 1).toI)]
def S56 : Sigs := ⟨[(89, s89), (90, s90)], [], [], 0⟩
theorem ev56 : evFn Try.prog S56 2000 Try.f56 s56 = some o56 := by kernel_rfl

/-! tandem/tandemref01.Zero -/
def s61 : Sig := ⟨[.s (.one (.i .i64 (.h 0))), .s (.one (.i .u64 (.h 1)))], [], [.i, .i], .s (.one (.b (.h 0))), [], [.b], true⟩
def o61 : Out := ⟨callsAt 2 90 [.r 0, .r 1] 0 4 ++ [(6, .eql (.r 4) (.z 0)), (7, .eql (.r 5) (.z 0)), (8, .and (.r 6) (.r 7))],
  [⟨[], .r 2⟩],
  [],
  [.r 8]⟩
noncomputable def p61 (x0 : Int) : Bool :=
  let x2 := p90 x0
  [ow [] x2].all id
noncomputable def r61_0 (x0 : Int) (x1 : Int) : Bool :=
  let x4 := r90_1 x0 x1
  let x5 := r90_2 x0 x1
  let x6 := x4 == 0
  let x7 := x5 == 0
  let x8 := x6 && x7
  x8
noncomputable def g61 (ds : List DV) : List DV := [.b (p61 (dget ds 0).toI), .b (r61_0 (dget ds 0).toI (dget ds 1).toI)]
def S61 : Sigs := ⟨[(90, s90)], [], [], 0⟩
theorem ev61 : evFn Try.prog S61 2000 Try.f61 s61 = some o61 := by kernel_rfl

/-! tandem/tandemref01.Minused -/
def s74 : Sig := ⟨[.s (.one (.i .i64 (.h 0))), .s (.one (.i .u64 (.h 1)))], [], [.i, .i], .s (.one (.b (.h 0))), [], [.b], true⟩
def o74 : Out := ⟨callsAt 2 90 [.r 0, .r 1] 0 4,
  [⟨[], .r 2⟩],
  [],
  [.r 3]⟩
noncomputable def p74 (x0 : Int) : Bool :=
  let x2 := p90 x0
  [ow [] x2].all id
noncomputable def r74_0 (x0 : Int) (x1 : Int) : Bool :=
  let x3 := r90_0 x0 x1
  x3
noncomputable def g74 (ds : List DV) : List DV := [.b (p74 (dget ds 0).toI), .b (r74_0 (dget ds 0).toI (dget ds 1).toI)]
def S74 : Sigs := ⟨[(90, s90)], [], [], 0⟩
theorem ev74 : evFn Try.prog S74 2000 Try.f74 s74 = some o74 := by kernel_rfl

/-! tandem/tandemref01.Nought -/
def s85 : Sig := ⟨[.s (.one (.i .i64 (.h 0))), .s (.one (.b (.h 1)))], [], [.i, .b], .s (.one (.i .u64 (.h 0))), [], [.i], true⟩
def o85 : Out := ⟨[(2, .mul .i64 (.z 8) (.r 0)), (3, .sub .i64 (.r 2) (.z 1)), (4, .geq (.r 3) (.z 0)), (5, .shl .u64 (.z 1) (.r 3)), (6, .not (.r 1)), (7, .itei (.r 6) (.z 0) (.r 5))],
  [⟨[(.r 1, true)], .r 4⟩],
  [],
  [.r 7]⟩
noncomputable def p85 (x0 : Int) (x1 : Bool) : Bool :=
  let x2 := IntKind.wrap .i64 (8 * x0)
  let x3 := IntKind.wrap .i64 (x2 - 1)
  let x4 := decide (x3 ≥ 0)
  [ow [(x1, true)] x4].all id
noncomputable def r85_0 (x0 : Int) (x1 : Bool) : Int :=
  let x2 := IntKind.wrap .i64 (8 * x0)
  let x3 := IntKind.wrap .i64 (x2 - 1)
  let x5 := ishl .u64 1 x3
  let x6 := !x1
  let x7 := bif x6 then 0 else x5
  x7
noncomputable def g85 (ds : List DV) : List DV := [.b (p85 (dget ds 0).toI (dget ds 1).toB), .i (r85_0 (dget ds 0).toI (dget ds 1).toB)]
def S85 : Sigs := ⟨[], [], [], 0⟩
theorem ev85 : evFn Try.prog S85 2000 Try.f85 s85 = some o85 := by kernel_rfl

/-! tandem/tandemref01.Infinity -/
def s84 : Sig := ⟨[.s (.one (.i .i64 (.h 0))), .s (.one (.b (.h 1)))], [], [.i, .b], .s (.one (.i .u64 (.h 0))), [], [.i], true⟩
def o84 : Out := ⟨[(2, .call 89 [.r 0] 0), (3, .call 89 [.r 0] 1), (4, .call 85 [.r 0, .r 1] 0), (5, .call 85 [.r 0, .r 1] 1), (6, .geq (.r 3) (.z 0)), (7, .shl .u64 (.z 1) (.r 3)), (8, .sub .u64 (.r 7) (.z 1)), (9, .geq (.r 2) (.z 0)), (10, .shl .u64 (.r 8) (.r 2)), (11, .lor .u64 (.r 5) (.r 10))],
  [⟨[], .r 4⟩, ⟨[], .r 6⟩, ⟨[], .r 9⟩],
  [],
  [.r 11]⟩
noncomputable def p84 (x0 : Int) (x1 : Bool) : Bool :=
  let x2 := r89_0 x0
  let x3 := r89_1 x0
  let x4 := p85 x0 x1
  let x6 := decide (x3 ≥ 0)
  let x9 := decide (x2 ≥ 0)
  [ow [] x4, ow [] x6, ow [] x9].all id
noncomputable def r84_0 (x0 : Int) (x1 : Bool) : Int :=
  let x2 := r89_0 x0
  let x3 := r89_1 x0
  let x5 := r85_0 x0 x1
  let x7 := ishl .u64 1 x3
  let x8 := IntKind.wrap .u64 (x7 - 1)
  let x10 := ishl .u64 x8 x2
  let x11 := ilor .u64 x5 x10
  x11
noncomputable def g84 (ds : List DV) : List DV := [.b (p84 (dget ds 0).toI (dget ds 1).toB), .i (r84_0 (dget ds 0).toI (dget ds 1).toB)]
def S84 : Sigs := ⟨[(89, s89), (85, s85)], [], [], 0⟩
theorem ev84 : evFn Try.prog S84 2000 Try.f84 s84 = some o84 := by kernel_rfl

/-! tandem/tandemref02.right -/
def s71 : Sig := ⟨[.s (.one (.i .i64 (.h 0))), .s (.one (.i .i64 (.h 1)))], [], [.i, .i], .s (.one (.b (.h 0))), [], [.b], false⟩
def o71 : Out := ⟨[(2, .eql (.r 0) (.z 4)), (3, .eql (.r 0) (.z 8)), (4, .or (.r 2) (.r 3)), (5, .geq (.r 1) (.z 0)), (6, .and (.r 4) (.r 5)), (7, .leq (.r 1) (.z 4)), (8, .and (.r 6) (.r 7))],
  [],
  [],
  [.r 8]⟩
noncomputable def r71_0 (x0 : Int) (x1 : Int) : Bool :=
  let x2 := x0 == 4
  let x3 := x0 == 8
  let x4 := x2 || x3
  let x5 := decide (x1 ≥ 0)
  let x6 := x4 && x5
  let x7 := decide (x1 ≤ 4)
  let x8 := x6 && x7
  x8
noncomputable def g71 (ds : List DV) : List DV := [.b (r71_0 (dget ds 0).toI (dget ds 1).toI)]
def S71 : Sigs := ⟨[], [], [], 0⟩
theorem ev71 : evFn Try.prog S71 2000 Try.f71 s71 = some o71 := by kernel_rfl

/-! tandem/tandemref02.order -/
def s88 : Sig := ⟨[.s (.one (.i .i64 (.h 0))), .s (.one (.i .u64 (.h 1)))], [], [.i, .i], .s (.one (.i .i64 (.h 0))), [], [.i], true⟩
def o88 : Out := ⟨[(2, .call 42 [.r 0, .r 1] 0), (3, .call 85 [.r 0, .t true] 0), (4, .call 85 [.r 0, .t true] 1), (5, .landNot .u64 (.r 2) (.r 4)), (6, .conv .i64 (.r 5)), (7, .call 74 [.r 0, .r 1] 0), (8, .call 74 [.r 0, .r 1] 1), (9, .sub .i64 (.z 0) (.r 6)), (10, .sub .i64 (.r 9) (.z 1)), (11, .not (.r 8)), (12, .itei (.r 11) (.r 6) (.r 10))],
  [⟨[], .r 3⟩, ⟨[], .r 7⟩],
  [],
  [.r 12]⟩
noncomputable def p88 (x0 : Int) : Bool :=
  let x3 := p85 x0 true
  let x7 := p74 x0
  [ow [] x3, ow [] x7].all id
noncomputable def r88_0 (x0 : Int) (x1 : Int) : Int :=
  let x2 := r42_0 x0 x1
  let x4 := r85_0 x0 true
  let x5 := ilandNot .u64 x2 x4
  let x6 := IntKind.wrap .i64 x5
  let x8 := r74_0 x0 x1
  let x9 := IntKind.wrap .i64 (0 - x6)
  let x10 := IntKind.wrap .i64 (x9 - 1)
  let x11 := !x8
  let x12 := bif x11 then x6 else x10
  x12
noncomputable def g88 (ds : List DV) : List DV := [.b (p88 (dget ds 0).toI), .i (r88_0 (dget ds 0).toI (dget ds 1).toI)]
def S88 : Sigs := ⟨[(42, s42), (85, s85), (74, s74)], [], [], 0⟩
theorem ev88 : evFn Try.prog S88 2000 Try.f88 s88 = some o88 := by kernel_rfl

/-! tandem/tandemref02.Box -/
def s22 : Sig := ⟨[.s (.one (.i .u64 (.h 0)))], [], [.i], .s (.one (.i .u64 (.h 0))), [], [.i], false⟩
def o22 : Out := ⟨[(1, .land .u64 (.r 0) (.z 4294967295)), (2, .lor .u64 (.r 1) (.z 18446744069414584320))],
  [],
  [],
  [.r 2]⟩
noncomputable def r22_0 (x0 : Int) : Int :=
  let x1 := iland .u64 x0 4294967295
  let x2 := ilor .u64 x1 18446744069414584320
  x2
noncomputable def g22 (ds : List DV) : List DV := [.i (r22_0 (dget ds 0).toI)]
def S22 : Sigs := ⟨[], [], [], 0⟩
theorem ev22 : evFn Try.prog S22 2000 Try.f22 s22 = some o22 := by kernel_rfl

/-! tandem/tandemref02.Unbox -/
def s24 : Sig := ⟨[.s (.one (.i .u64 (.h 0)))], [], [.i], .s (.one (.i .u64 (.h 0))), [], [.i], false⟩
def o24 : Out := ⟨[(1, .shr .u64 (.r 0) (.z 32)), (2, .eql (.r 1) (.z 4294967295)), (3, .land .u64 (.r 0) (.z 4294967295)), (4, .not (.r 2)), (5, .call 40 [.z 4] 0), (6, .itei (.r 4) (.r 5) (.r 3))],
  [],
  [],
  [.r 6]⟩
noncomputable def r24_0 (x0 : Int) : Int :=
  let x1 := ishr .u64 x0 32
  let x2 := x1 == 4294967295
  let x3 := iland .u64 x0 4294967295
  let x4 := !x2
  let x5 := r40_0 4
  let x6 := bif x4 then x5 else x3
  x6
noncomputable def g24 (ds : List DV) : List DV := [.i (r24_0 (dget ds 0).toI)]
def S24 : Sigs := ⟨[(40, s40)], [], [], 0⟩
theorem ev24 : evFn Try.prog S24 2000 Try.f24 s24 = some o24 := by kernel_rfl

/-! tandem/tandemref02.Sign -/
def s32 : Sig := ⟨[.s (.one (.i .i64 (.h 0))), .s (.one (.i .i64 (.h 1))), .s (.one (.i .u64 (.h 2))), .s (.one (.i .u64 (.h 3)))], [], [.i, .i, .i, .i], .s (.one (.i .u64 (.h 0))), [], [.i], true⟩
def o32 : Out := ⟨[(4, .call 71 [.r 1, .z 0] 0), (5, .not (.r 4)), (6, .lss (.r 0) (.z 64)), (7, .or (.r 5) (.r 6)), (8, .gtr (.r 0) (.z 66)), (9, .or (.r 7) (.r 8)), (10, .not (.r 9)), (11, .call 74 [.r 1, .r 3] 0), (12, .call 74 [.r 1, .r 3] 1), (13, .eql (.r 0) (.z 65)), (14, .not (.r 12)), (15, .iteb (.r 13) (.r 14) (.r 12)), (16, .eql (.r 0) (.z 66)), (17, .call 74 [.r 1, .r 2] 0), (18, .call 74 [.r 1, .r 2] 1), (19, .bne (.r 15) (.r 18)), (20, .iteb (.r 16) (.r 19) (.r 15)), (21, .call 42 [.r 1, .r 2] 0), (22, .call 85 [.r 1, .t true] 0), (23, .call 85 [.r 1, .t true] 1), (24, .landNot .u64 (.r 21) (.r 23)), (25, .call 85 [.r 1, .r 20] 0), (26, .call 85 [.r 1, .r 20] 1), (27, .lor .u64 (.r 24) (.r 26)), (28, .itei (.r 10) (.r 27) (.z 0))],
  [⟨[(.r 10, true)], .r 11⟩, ⟨[(.r 10, true), (.r 16, true)], .r 17⟩, ⟨[(.r 10, true)], .r 22⟩, ⟨[(.r 10, true)], .r 25⟩],
  [],
  [.r 28]⟩
noncomputable def p32 (x0 : Int) (x1 : Int) (x2 : Int) (x3 : Int) : Bool :=
  let x4 := r71_0 x1 0
  let x5 := !x4
  let x6 := decide (x0 < 64)
  let x7 := x5 || x6
  let x8 := decide (x0 > 66)
  let x9 := x7 || x8
  let x10 := !x9
  let x11 := p74 x1
  let x12 := r74_0 x1 x3
  let x13 := x0 == 65
  let x14 := !x12
  let x15 := bif x13 then x14 else x12
  let x16 := x0 == 66
  let x17 := p74 x1
  let x18 := r74_0 x1 x2
  let x19 := x15 != x18
  let x20 := bif x16 then x19 else x15
  let x22 := p85 x1 true
  let x25 := p85 x1 x20
  [ow [(x10, true)] x11, ow [(x10, true), (x16, true)] x17, ow [(x10, true)] x22, ow [(x10, true)] x25].all id
noncomputable def r32_0 (x0 : Int) (x1 : Int) (x2 : Int) (x3 : Int) : Int :=
  let x4 := r71_0 x1 0
  let x5 := !x4
  let x6 := decide (x0 < 64)
  let x7 := x5 || x6
  let x8 := decide (x0 > 66)
  let x9 := x7 || x8
  let x10 := !x9
  let x12 := r74_0 x1 x3
  let x13 := x0 == 65
  let x14 := !x12
  let x15 := bif x13 then x14 else x12
  let x16 := x0 == 66
  let x18 := r74_0 x1 x2
  let x19 := x15 != x18
  let x20 := bif x16 then x19 else x15
  let x21 := r42_0 x1 x2
  let x23 := r85_0 x1 true
  let x24 := ilandNot .u64 x21 x23
  let x26 := r85_0 x1 x20
  let x27 := ilor .u64 x24 x26
  let x28 := bif x10 then x27 else 0
  x28
noncomputable def g32 (ds : List DV) : List DV := [.b (p32 (dget ds 0).toI (dget ds 1).toI (dget ds 2).toI (dget ds 3).toI), .i (r32_0 (dget ds 0).toI (dget ds 1).toI (dget ds 2).toI (dget ds 3).toI)]
def S32 : Sigs := ⟨[(71, s71), (74, s74), (42, s42), (85, s85)], [], [], 0⟩
theorem ev32 : evFn Try.prog S32 2000 Try.f32 s32 = some o32 := by kernel_rfl

/-! tandem/tandemref02.Class -/
def s34 : Sig := ⟨[.s (.one (.i .i64 (.h 0))), .s (.one (.i .u64 (.h 1)))], [], [.i, .i], .s (.one (.i .u64 (.h 0))), [], [.i], true⟩
def o34 : Out := ⟨[(2, .call 71 [.r 0, .z 0] 0), (3, .not (.r 2)), (4, .not (.r 3)), (5, .call 41 [.r 0, .r 1] 0), (6, .call 41 [.r 0, .r 1] 1), (7, .not (.r 6)), (8, .call 39 [.r 0, .r 1] 0), (9, .call 39 [.r 0, .r 1] 1), (10, .not (.r 9)), (11, .eql (.r 0) (.z 8)), (12, .itei (.r 11) (.z 52) (.z 23)), (13, .call 42 [.r 0, .r 1] 0), (14, .call 85 [.r 0, .t true] 0), (15, .call 85 [.r 0, .t true] 1), (16, .landNot .u64 (.r 13) (.r 15)), (17, .call 56 [.r 0, .r 1] 0), (18, .call 56 [.r 0, .r 1] 1), (19, .call 61 [.r 0, .r 1] 0), (20, .call 61 [.r 0, .r 1] 1), (21, .geq (.r 12) (.z 0)), (22, .shr .u64 (.r 16) (.r 12)), (23, .eql (.r 22) (.z 0)), (24, .itei (.r 23) (.z 5) (.z 6)), (25, .itei (.r 20) (.z 4) (.r 24)), (26, .itei (.r 18) (.z 7) (.r 25)), (27, .call 74 [.r 0, .r 1] 0), (28, .call 74 [.r 0, .r 1] 1), (29, .sub .i64 (.z 7) (.r 26)), (30, .itei (.r 28) (.r 29) (.r 26)), (31, .geq (.r 30) (.z 0)), (32, .shl .u64 (.z 1) (.r 30)), (33, .itei (.r 10) (.r 32) (.z 512)), (34, .itei (.r 7) (.r 33) (.z 256)), (35, .itei (.r 4) (.r 34) (.z 0))],
  [⟨[(.r 4, true)], .r 5⟩, ⟨[(.r 4, true), (.r 7, true)], .r 8⟩, ⟨[(.r 4, true), (.r 7, true), (.r 10, true)], .r 14⟩, ⟨[(.r 4, true), (.r 7, true), (.r 10, true)], .r 17⟩, ⟨[(.r 4, true), (.r 7, true), (.r 10, true), (.r 18, false)], .r 19⟩, ⟨[(.r 4, true), (.r 7, true), (.r 10, true), (.r 18, false), (.r 20, false)], .r 21⟩, ⟨[(.r 4, true), (.r 7, true), (.r 10, true)], .r 27⟩, ⟨[(.r 4, true), (.r 7, true), (.r 10, true)], .r 31⟩],
  [],
  [.r 35]⟩
noncomputable def p34 (x0 : Int) (x1 : Int) : Bool :=
  let x2 := r71_0 x0 0
  let x3 := !x2
  let x4 := !x3
  let x5 := p41 x0 x1
  let x6 := r41_0 x0 x1
  let x7 := !x6
  let x8 := p39 x0
  let x9 := r39_0 x0 x1
  let x10 := !x9
  let x11 := x0 == 8
  let x12 := bif x11 then 52 else 23
  let x13 := r42_0 x0 x1
  let x14 := p85 x0 true
  let x15 := r85_0 x0 true
  let x16 := ilandNot .u64 x13 x15
  let x17 := p56 x0
  let x18 := r56_0 x0 x1
  let x19 := p61 x0
  let x20 := r61_0 x0 x1
  let x21 := decide (x12 ≥ 0)
  let x22 := ishr .u64 x16 x12
  let x23 := x22 == 0
  let x24 := bif x23 then 5 else 6
  let x25 := bif x20 then 4 else x24
  let x26 := bif x18 then 7 else x25
  let x27 := p74 x0
  let x28 := r74_0 x0 x1
  let x29 := IntKind.wrap .i64 (7 - x26)
  let x30 := bif x28 then x29 else x26
  let x31 := decide (x30 ≥ 0)
  [ow [(x4, true)] x5, ow [(x4, true), (x7, true)] x8, ow [(x4, true), (x7, true), (x10, true)] x14, ow [(x4, true), (x7, true), (x10, true)] x17, ow [(x4, true), (x7, true), (x10, true), (x18, false)] x19, ow [(x4, true), (x7, true), (x10, true), (x18, false), (x20, false)] x21, ow [(x4, true), (x7, true), (x10, true)] x27, ow [(x4, true), (x7, true), (x10, true)] x31].all id
noncomputable def r34_0 (x0 : Int) (x1 : Int) : Int :=
  let x2 := r71_0 x0 0
  let x3 := !x2
  let x4 := !x3
  let x6 := r41_0 x0 x1
  let x7 := !x6
  let x9 := r39_0 x0 x1
  let x10 := !x9
  let x11 := x0 == 8
  let x12 := bif x11 then 52 else 23
  let x13 := r42_0 x0 x1
  let x15 := r85_0 x0 true
  let x16 := ilandNot .u64 x13 x15
  let x18 := r56_0 x0 x1
  let x20 := r61_0 x0 x1
  let x22 := ishr .u64 x16 x12
  let x23 := x22 == 0
  let x24 := bif x23 then 5 else 6
  let x25 := bif x20 then 4 else x24
  let x26 := bif x18 then 7 else x25
  let x28 := r74_0 x0 x1
  let x29 := IntKind.wrap .i64 (7 - x26)
  let x30 := bif x28 then x29 else x26
  let x32 := ishl .u64 1 x30
  let x33 := bif x10 then x32 else 512
  let x34 := bif x7 then x33 else 256
  let x35 := bif x4 then x34 else 0
  x35
noncomputable def g34 (ds : List DV) : List DV := [.b (p34 (dget ds 0).toI (dget ds 1).toI), .i (r34_0 (dget ds 0).toI (dget ds 1).toI)]
def S34 : Sigs := ⟨[(71, s71), (41, s41), (39, s39), (42, s42), (85, s85), (56, s56), (61, s61), (74, s74)], [], [], 0⟩
theorem ev34 : evFn Try.prog S34 2000 Try.f34 s34 = some o34 := by kernel_rfl

/-! tandem/tandemref02.Pick -/
def s36 : Sig := ⟨[.s (.one (.i .i64 (.h 0))), .s (.one (.i .i64 (.h 1))), .s (.one (.i .u64 (.h 2))), .s (.one (.i .u64 (.h 3)))], [], [.i, .i, .i, .i], .t [.one (.i .u64 (.h 0)), .one (.i .i64 (.h 1))], [], [.i, .i], true⟩
def o36 : Out := ⟨[(4, .call 71 [.r 1, .z 0] 0), (5, .not (.r 4)), (6, .neq (.r 0) (.z 67)), (7, .neq (.r 0) (.z 68)), (8, .and (.r 6) (.r 7)), (9, .or (.r 5) (.r 8)), (10, .not (.r 9)), (11, .call 41 [.r 1, .r 2] 0), (12, .call 41 [.r 1, .r 2] 1), (13, .call 41 [.r 1, .r 3] 0), (14, .call 41 [.r 1, .r 3] 1), (15, .or (.r 12) (.r 14)), (16, .itei (.r 15) (.z 16) (.z 0)), (17, .call 39 [.r 1, .r 2] 0), (18, .call 39 [.r 1, .r 2] 1), (19, .call 39 [.r 1, .r 3] 0), (20, .call 39 [.r 1, .r 3] 1), (21, .and (.r 18) (.r 20)), (22, .call 40 [.r 1] 0), (23, .call 42 [.r 1, .r 3] 0), (24, .call 42 [.r 1, .r 2] 0), (25, .not (.r 20)), (26, .iteb (.r 18) (.t false) (.r 25)), (27, .iteb (.r 21) (.t false) (.r 26)), (28, .call 88 [.r 1, .r 2] 0), (29, .call 88 [.r 1, .r 2] 1), (30, .call 88 [.r 1, .r 3] 0), (31, .call 88 [.r 1, .r 3] 1), (32, .lss (.r 29) (.r 31)), (33, .eql (.r 0) (.z 67)), (34, .beq (.r 32) (.r 33)), (35, .call 42 [.r 1, .r 2] 0), (36, .not (.r 34)), (37, .call 42 [.r 1, .r 3] 0), (38, .itei (.r 36) (.r 37) (.r 35)), (39, .itei (.r 18) (.r 23) (.r 24)), (40, .itei (.r 21) (.r 22) (.r 39)), (41, .itei (.r 27) (.r 38) (.r 40)), (42, .itei (.r 10) (.r 41) (.z 0)), (43, .itei (.r 10) (.r 16) (.z 0))],
  [⟨[(.r 10, true)], .r 11⟩, ⟨[(.r 10, true), (.r 12, false)], .r 13⟩, ⟨[(.r 10, true)], .r 17⟩, ⟨[(.r 10, true)], .r 19⟩, ⟨[(.r 10, true), (.r 27, true)], .r 28⟩, ⟨[(.r 10, true), (.r 27, true)], .r 30⟩],
  [],
  [.r 42, .r 43]⟩
noncomputable def p36 (x0 : Int) (x1 : Int) (x2 : Int) (x3 : Int) : Bool :=
  let x4 := r71_0 x1 0
  let x5 := !x4
  let x6 := x0 != 67
  let x7 := x0 != 68
  let x8 := x6 && x7
  let x9 := x5 || x8
  let x10 := !x9
  let x11 := p41 x1 x2
  let x12 := r41_0 x1 x2
  let x13 := p41 x1 x3
  let x17 := p39 x1
  let x18 := r39_0 x1 x2
  let x19 := p39 x1
  let x20 := r39_0 x1 x3
  let x21 := x18 && x20
  let x25 := !x20
  let x26 := bif x18 then false else x25
  let x27 := bif x21 then false else x26
  let x28 := p88 x1
  let x30 := p88 x1
  [ow [(x10, true)] x11, ow [(x10, true), (x12, false)] x13, ow [(x10, true)] x17, ow [(x10, true)] x19, ow [(x10, true), (x27, true)] x28, ow [(x10, true), (x27, true)] x30].all id
noncomputable def r36_0 (x0 : Int) (x1 : Int) (x2 : Int) (x3 : Int) : Int :=
  let x4 := r71_0 x1 0
  let x5 := !x4
  let x6 := x0 != 67
  let x7 := x0 != 68
  let x8 := x6 && x7
  let x9 := x5 || x8
  let x10 := !x9
  let x18 := r39_0 x1 x2
  let x20 := r39_0 x1 x3
  let x21 := x18 && x20
  let x22 := r40_0 x1
  let x23 := r42_0 x1 x3
  let x24 := r42_0 x1 x2
  let x25 := !x20
  let x26 := bif x18 then false else x25
  let x27 := bif x21 then false else x26
  let x29 := r88_0 x1 x2
  let x31 := r88_0 x1 x3
  let x32 := decide (x29 < x31)
  let x33 := x0 == 67
  let x34 := x32 == x33
  let x35 := r42_0 x1 x2
  let x36 := !x34
  let x37 := r42_0 x1 x3
  let x38 := bif x36 then x37 else x35
  let x39 := bif x18 then x23 else x24
  let x40 := bif x21 then x22 else x39
  let x41 := bif x27 then x38 else x40
  let x42 := bif x10 then x41 else 0
  x42
noncomputable def r36_1 (x0 : Int) (x1 : Int) (x2 : Int) (x3 : Int) : Int :=
  let x4 := r71_0 x1 0
  let x5 := !x4
  let x6 := x0 != 67
  let x7 := x0 != 68
  let x8 := x6 && x7
  let x9 := x5 || x8
  let x10 := !x9
  let x12 := r41_0 x1 x2
  let x14 := r41_0 x1 x3
  let x15 := x12 || x14
  let x16 := bif x15 then 16 else 0
  let x43 := bif x10 then x16 else 0
  x43
noncomputable def g36 (ds : List DV) : List DV := [.b (p36 (dget ds 0).toI (dget ds 1).toI (dget ds 2).toI (dget ds 3).toI), .i (r36_0 (dget ds 0).toI (dget ds 1).toI (dget ds 2).toI (dget ds 3).toI), .i (r36_1 (dget ds 0).toI (dget ds 1).toI (dget ds 2).toI (dget ds 3).toI)]
def S36 : Sigs := ⟨[(71, s71), (41, s41), (39, s39), (40, s40), (42, s42), (88, s88)], [], [], 0⟩
theorem ev36 : evFn Try.prog S36 2000 Try.f36 s36 = some o36 := by kernel_rfl

/-! tandem/tandemref02.Compare -/
def s38 : Sig := ⟨[.s (.one (.i .i64 (.h 0))), .s (.one (.i .i64 (.h 1))), .s (.one (.i .u64 (.h 2))), .s (.one (.i .u64 (.h 3)))], [], [.i, .i, .i, .i], .t [.one (.i .u64 (.h 0)), .one (.i .i64 (.h 1))], [], [.i, .i], true⟩
def o38 : Out := ⟨[(4, .call 71 [.r 1, .z 0] 0), (5, .not (.r 4)), (6, .lss (.r 0) (.z 69)), (7, .or (.r 5) (.r 6)), (8, .gtr (.r 0) (.z 71)), (9, .or (.r 7) (.r 8)), (10, .not (.r 9)), (11, .call 39 [.r 1, .r 2] 0), (12, .call 39 [.r 1, .r 2] 1), (13, .call 39 [.r 1, .r 3] 0), (14, .call 39 [.r 1, .r 3] 1), (15, .or (.r 12) (.r 14)), (16, .neq (.r 0) (.z 69)), (17, .call 41 [.r 1, .r 2] 0), (18, .call 41 [.r 1, .r 2] 1), (19, .or (.r 16) (.r 18)), (20, .call 41 [.r 1, .r 3] 0), (21, .call 41 [.r 1, .r 3] 1), (22, .or (.r 19) (.r 21)), (23, .not (.r 22)), (24, .not (.r 15)), (25, .call 42 [.r 1, .r 2] 0), (26, .call 42 [.r 1, .r 3] 0), (27, .eql (.r 25) (.r 26)), (28, .call 61 [.r 1, .r 2] 0), (29, .call 61 [.r 1, .r 2] 1), (30, .call 61 [.r 1, .r 3] 0), (31, .call 61 [.r 1, .r 3] 1), (32, .and (.r 29) (.r 31)), (33, .or (.r 27) (.r 32)), (34, .not (.r 33)), (35, .call 88 [.r 1, .r 2] 0), (36, .call 88 [.r 1, .r 2] 1), (37, .call 88 [.r 1, .r 3] 0), (38, .call 88 [.r 1, .r 3] 1), (39, .lss (.r 36) (.r 38)), (40, .and (.r 34) (.r 39)), (41, .eql (.r 0) (.z 69)), (42, .and (.r 41) (.r 33)), (43, .eql (.r 0) (.z 70)), (44, .and (.r 43) (.r 40)), (45, .or (.r 42) (.r 44)), (46, .eql (.r 0) (.z 71)), (47, .or (.r 40) (.r 33)), (48, .and (.r 46) (.r 47)), (49, .or (.r 45) (.r 48)), (50, .not (.r 49)), (51, .itei (.r 50) (.z 0) (.z 1)), (52, .itei (.r 23) (.z 0) (.z 16)), (53, .itei (.r 24) (.r 51) (.z 0)), (54, .itei (.r 24) (.z 0) (.r 52)), (55, .itei (.r 10) (.r 53) (.z 0)), (56, .itei (.r 10) (.r 54) (.z 0))],
  [⟨[(.r 10, true)], .r 11⟩, ⟨[(.r 10, true), (.r 12, false)], .r 13⟩, ⟨[(.r 10, true), (.r 15, true), (.r 16, false)], .r 17⟩, ⟨[(.r 10, true), (.r 15, true), (.r 19, false)], .r 20⟩, ⟨[(.r 10, true), (.r 24, true), (.r 27, false)], .r 28⟩, ⟨[(.r 10, true), (.r 24, true), (.r 29, true), (.r 27, false)], .r 30⟩, ⟨[(.r 10, true), (.r 24, true), (.r 34, true)], .r 35⟩, ⟨[(.r 10, true), (.r 24, true), (.r 34, true)], .r 37⟩],
  [],
  [.r 55, .r 56]⟩
noncomputable def p38 (x0 : Int) (x1 : Int) (x2 : Int) (x3 : Int) : Bool :=
  let x4 := r71_0 x1 0
  let x5 := !x4
  let x6 := decide (x0 < 69)
  let x7 := x5 || x6
  let x8 := decide (x0 > 71)
  let x9 := x7 || x8
  let x10 := !x9
  let x11 := p39 x1
  let x12 := r39_0 x1 x2
  let x13 := p39 x1
  let x14 := r39_0 x1 x3
  let x15 := x12 || x14
  let x16 := x0 != 69
  let x17 := p41 x1 x2
  let x18 := r41_0 x1 x2
  let x19 := x16 || x18
  let x20 := p41 x1 x3
  let x24 := !x15
  let x25 := r42_0 x1 x2
  let x26 := r42_0 x1 x3
  let x27 := x25 == x26
  let x28 := p61 x1
  let x29 := r61_0 x1 x2
  let x30 := p61 x1
  let x31 := r61_0 x1 x3
  let x32 := x29 && x31
  let x33 := x27 || x32
  let x34 := !x33
  let x35 := p88 x1
  let x37 := p88 x1
  [ow [(x10, true)] x11, ow [(x10, true), (x12, false)] x13, ow [(x10, true), (x15, true), (x16, false)] x17, ow [(x10, true), (x15, true), (x19, false)] x20, ow [(x10, true), (x24, true), (x27, false)] x28, ow [(x10, true), (x24, true), (x29, true), (x27, false)] x30, ow [(x10, true), (x24, true), (x34, true)] x35, ow [(x10, true), (x24, true), (x34, true)] x37].all id
noncomputable def r38_0 (x0 : Int) (x1 : Int) (x2 : Int) (x3 : Int) : Int :=
  let x4 := r71_0 x1 0
  let x5 := !x4
  let x6 := decide (x0 < 69)
  let x7 := x5 || x6
  let x8 := decide (x0 > 71)
  let x9 := x7 || x8
  let x10 := !x9
  let x12 := r39_0 x1 x2
  let x14 := r39_0 x1 x3
  let x15 := x12 || x14
  let x24 := !x15
  let x25 := r42_0 x1 x2
  let x26 := r42_0 x1 x3
  let x27 := x25 == x26
  let x29 := r61_0 x1 x2
  let x31 := r61_0 x1 x3
  let x32 := x29 && x31
  let x33 := x27 || x32
  let x34 := !x33
  let x36 := r88_0 x1 x2
  let x38 := r88_0 x1 x3
  let x39 := decide (x36 < x38)
  let x40 := x34 && x39
  let x41 := x0 == 69
  let x42 := x41 && x33
  let x43 := x0 == 70
  let x44 := x43 && x40
  let x45 := x42 || x44
  let x46 := x0 == 71
  let x47 := x40 || x33
  let x48 := x46 && x47
  let x49 := x45 || x48
  let x50 := !x49
  let x51 := bif x50 then 0 else 1
  let x53 := bif x24 then x51 else 0
  let x55 := bif x10 then x53 else 0
  x55
noncomputable def r38_1 (x0 : Int) (x1 : Int) (x2 : Int) (x3 : Int) : Int :=
  let x4 := r71_0 x1 0
  let x5 := !x4
  let x6 := decide (x0 < 69)
  let x7 := x5 || x6
  let x8 := decide (x0 > 71)
  let x9 := x7 || x8
  let x10 := !x9
  let x12 := r39_0 x1 x2
  let x14 := r39_0 x1 x3
  let x15 := x12 || x14
  let x16 := x0 != 69
  let x18 := r41_0 x1 x2
  let x19 := x16 || x18
  let x21 := r41_0 x1 x3
  let x22 := x19 || x21
  let x23 := !x22
  let x24 := !x15
  let x52 := bif x23 then 0 else 16
  let x54 := bif x24 then 0 else x52
  let x56 := bif x10 then x54 else 0
  x56
noncomputable def g38 (ds : List DV) : List DV := [.b (p38 (dget ds 0).toI (dget ds 1).toI (dget ds 2).toI (dget ds 3).toI), .i (r38_0 (dget ds 0).toI (dget ds 1).toI (dget ds 2).toI (dget ds 3).toI), .i (r38_1 (dget ds 0).toI (dget ds 1).toI (dget ds 2).toI (dget ds 3).toI)]
def S38 : Sigs := ⟨[(71, s71), (39, s39), (41, s41), (42, s42), (61, s61), (88, s88)], [], [], 0⟩
theorem ev38 : evFn Try.prog S38 2000 Try.f38 s38 = some o38 := by kernel_rfl

end Go.Proofs.Ytacciadcmiiimaa
