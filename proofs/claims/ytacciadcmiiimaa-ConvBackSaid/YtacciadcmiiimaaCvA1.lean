/- The functions of the statements, as lists of plain steps, each tied to the program's own text by the kernel (part 1). Written by the generator. -/
import Derived.Test.YtacciadcmiiimaaCvA0
namespace Go.Proofs.Ytacciadcmiiimaa
open Go Go.Sx
set_option maxRecDepth 100000

/-! tandem/tandemlaw02.awake -/
def s20 : Sig := ⟨[], [], [], .s (.one (.b (.h 0))), [], [.b], true⟩
def o20 : Out := ⟨callsAt 0 25 [.z 8, .z 0, .t true, .t false, .z 4612811918334230528] 0 3 ++ callsAt 3 25 [.z 4, .z 1, .t true, .t true, .z 3212836864] 0 3 ++ callsAt 6 27 [.z 4, .z 0, .t false, .t false, .z 18446744073709551615] 0 3 ++ callsAt 9 29 [.z 4, .z 0, .z 4607182418800017409] 0 3 ++ callsAt 12 37 [.z 70, .z 4, .z 2143289344, .z 0] 0 3 ++ callsAt 15 35 [.z 67, .z 4, .z 2147483648, .z 0] 0 3 ++ [(18, .call 21 [.z 1065353216] 0), (19, .eql (.r 18) (.z 18446744070479937536)), (20, .call 23 [.z 1065353216] 0), (21, .call 23 [.z 1065353216] 1), (22, .eql (.r 21) (.z 2143289344)), (23, .and (.r 19) (.r 22)), (24, .eql (.r 1) (.z 2)), (25, .and (.r 23) (.r 24)), (26, .eql (.r 2) (.z 1)), (27, .and (.r 25) (.r 26)), (28, .eql (.r 4) (.z 0)), (29, .and (.r 27) (.r 28)), (30, .eql (.r 5) (.z 16)), (31, .and (.r 29) (.r 30)), (32, .eql (.r 7) (.z 3212836864)), (33, .and (.r 31) (.r 32)), (34, .eql (.r 8) (.z 0)), (35, .and (.r 33) (.r 34)), (36, .eql (.r 10) (.z 1065353216)), (37, .and (.r 35) (.r 36)), (38, .eql (.r 11) (.z 1)), (39, .and (.r 37) (.r 38)), (40, .eql (.r 13) (.z 0)), (41, .and (.r 39) (.r 40)), (42, .eql (.r 14) (.z 16)), (43, .and (.r 41) (.r 42)), (44, .eql (.r 16) (.z 2147483648)), (45, .and (.r 43) (.r 44)), (46, .eql (.r 17) (.z 0)), (47, .and (.r 45) (.r 46)), (48, .call 33 [.z 4, .z 1] 0), (49, .call 33 [.z 4, .z 1] 1), (50, .eql (.r 49) (.z 32)), (51, .and (.r 47) (.r 50)), (52, .call 31 [.z 64, .z 4, .z 1, .z 2147483648] 0), (53, .eql (.r 52) (.z 2147483649)), (54, .and (.r 51) (.r 53))],
  [⟨[], .r 0⟩, ⟨[], .r 3⟩, ⟨[], .r 6⟩, ⟨[], .r 9⟩, ⟨[], .r 12⟩, ⟨[], .r 15⟩, ⟨[(.r 19, true)], .r 20⟩, ⟨[(.r 47, true)], .r 48⟩],
  [],
  [.r 54]⟩
noncomputable def p20  : Bool :=
  let x0 := p25 8 0 4612811918334230528
  let x1 := r25_0 8 0 true false 4612811918334230528
  let x2 := r25_1 8 0 true false 4612811918334230528
  let x3 := p25 4 1 3212836864
  let x4 := r25_0 4 1 true true 3212836864
  let x5 := r25_1 4 1 true true 3212836864
  let x6 := p27 4 0 false false 18446744073709551615
  let x7 := r27_0 4 0 false false 18446744073709551615
  let x8 := r27_1 4 0 false false 18446744073709551615
  let x9 := p29 4 0 4607182418800017409
  let x10 := r29_0 4 0 4607182418800017409
  let x11 := r29_1 4 0 4607182418800017409
  let x12 := p37 70 4 2143289344 0
  let x13 := r37_0 70 4 2143289344 0
  let x14 := r37_1 70 4 2143289344 0
  let x15 := p35 67 4 2147483648 0
  let x16 := r35_0 67 4 2147483648 0
  let x17 := r35_1 67 4 2147483648 0
  let x18 := r21_0 1065353216
  let x19 := x18 == 18446744070479937536
  let x20 := p23 1065353216
  let x21 := r23_0 1065353216
  let x22 := x21 == 2143289344
  let x23 := x19 && x22
  let x24 := x1 == 2
  let x25 := x23 && x24
  let x26 := x2 == 1
  let x27 := x25 && x26
  let x28 := x4 == 0
  let x29 := x27 && x28
  let x30 := x5 == 16
  let x31 := x29 && x30
  let x32 := x7 == 3212836864
  let x33 := x31 && x32
  let x34 := x8 == 0
  let x35 := x33 && x34
  let x36 := x10 == 1065353216
  let x37 := x35 && x36
  let x38 := x11 == 1
  let x39 := x37 && x38
  let x40 := x13 == 0
  let x41 := x39 && x40
  let x42 := x14 == 16
  let x43 := x41 && x42
  let x44 := x16 == 2147483648
  let x45 := x43 && x44
  let x46 := x17 == 0
  let x47 := x45 && x46
  let x48 := p33 4 1
  [ow [] x0, ow [] x3, ow [] x6, ow [] x9, ow [] x12, ow [] x15, ow [(x19, true)] x20, ow [(x47, true)] x48].all id
noncomputable def r20_0  : Bool :=
  let x1 := r25_0 8 0 true false 4612811918334230528
  let x2 := r25_1 8 0 true false 4612811918334230528
  let x4 := r25_0 4 1 true true 3212836864
  let x5 := r25_1 4 1 true true 3212836864
  let x7 := r27_0 4 0 false false 18446744073709551615
  let x8 := r27_1 4 0 false false 18446744073709551615
  let x10 := r29_0 4 0 4607182418800017409
  let x11 := r29_1 4 0 4607182418800017409
  let x13 := r37_0 70 4 2143289344 0
  let x14 := r37_1 70 4 2143289344 0
  let x16 := r35_0 67 4 2147483648 0
  let x17 := r35_1 67 4 2147483648 0
  let x18 := r21_0 1065353216
  let x19 := x18 == 18446744070479937536
  let x21 := r23_0 1065353216
  let x22 := x21 == 2143289344
  let x23 := x19 && x22
  let x24 := x1 == 2
  let x25 := x23 && x24
  let x26 := x2 == 1
  let x27 := x25 && x26
  let x28 := x4 == 0
  let x29 := x27 && x28
  let x30 := x5 == 16
  let x31 := x29 && x30
  let x32 := x7 == 3212836864
  let x33 := x31 && x32
  let x34 := x8 == 0
  let x35 := x33 && x34
  let x36 := x10 == 1065353216
  let x37 := x35 && x36
  let x38 := x11 == 1
  let x39 := x37 && x38
  let x40 := x13 == 0
  let x41 := x39 && x40
  let x42 := x14 == 16
  let x43 := x41 && x42
  let x44 := x16 == 2147483648
  let x45 := x43 && x44
  let x46 := x17 == 0
  let x47 := x45 && x46
  let x49 := r33_0 4 1
  let x50 := x49 == 32
  let x51 := x47 && x50
  let x52 := r31_0 64 4 1 2147483648
  let x53 := x52 == 2147483649
  let x54 := x51 && x53
  x54
noncomputable def g20 (_ds : List DV) : List DV := [.b (p20 ), .b (r20_0 )]
def S20 : Sigs := ⟨[(25, s25), (27, s27), (29, s29), (37, s37), (35, s35), (21, s21), (23, s23), (33, s33), (31, s31)], [], [], 0⟩
theorem ev20 : evFn Try.prog S20 2000 Try.f20 s20 = some o20 := by kernel_rfl

/-! tandem/tandemlaw02.ConvBoxes -/
def s3 : Sig := ⟨[.s (.one (.i .u64 (.h 0)))], [], [.i], .s (.one (.b (.h 0))), [], [.b], true⟩
def o3 : Out := ⟨[(1, .call 20 [] 0), (2, .call 20 [] 1), (3, .call 21 [.r 0] 0), (4, .call 22 [.r 0] 0), (5, .eql (.r 3) (.r 4)), (6, .and (.r 2) (.r 5)), (7, .call 23 [.r 0] 0), (8, .call 23 [.r 0] 1), (9, .call 24 [.r 0] 0), (10, .eql (.r 8) (.r 9)), (11, .and (.r 6) (.r 10)), (12, .call 21 [.r 0] 0), (13, .call 23 [.r 12] 0), (14, .call 23 [.r 12] 1), (15, .land .u64 (.r 0) (.z 4294967295)), (16, .eql (.r 14) (.r 15)), (17, .and (.r 11) (.r 16))],
  [⟨[], .r 1⟩, ⟨[(.r 6, true)], .r 7⟩, ⟨[(.r 11, true)], .r 13⟩],
  [],
  [.r 17]⟩
noncomputable def p3 (x0 : Int) : Bool :=
  let x1 := p20 
  let x2 := r20_0 
  let x3 := r21_0 x0
  let x4 := r22_0 x0
  let x5 := x3 == x4
  let x6 := x2 && x5
  let x7 := p23 x0
  let x8 := r23_0 x0
  let x9 := r24_0 x0
  let x10 := x8 == x9
  let x11 := x6 && x10
  let x12 := r21_0 x0
  let x13 := p23 x12
  [ow [] x1, ow [(x6, true)] x7, ow [(x11, true)] x13].all id
noncomputable def r3_0 (x0 : Int) : Bool :=
  let x2 := r20_0 
  let x3 := r21_0 x0
  let x4 := r22_0 x0
  let x5 := x3 == x4
  let x6 := x2 && x5
  let x8 := r23_0 x0
  let x9 := r24_0 x0
  let x10 := x8 == x9
  let x11 := x6 && x10
  let x12 := r21_0 x0
  let x14 := r23_0 x12
  let x15 := iland .u64 x0 4294967295
  let x16 := x14 == x15
  let x17 := x11 && x16
  x17
noncomputable def g3 (ds : List DV) : List DV := [.b (p3 (dget ds 0).toI), .b (r3_0 (dget ds 0).toI)]
def S3 : Sigs := ⟨[(20, s20), (21, s21), (22, s22), (23, s23), (24, s24)], [], [], 0⟩
theorem ev3 : evFn Try.prog S3 2000 Try.f3 s3 = some o3 := by kernel_rfl

/-! tandem/tandemlaw02.ConvSigns -/
def s6 : Sig := ⟨[.s (.one (.i .i64 (.h 0))), .s (.one (.i .i64 (.h 1))), .s (.one (.i .u64 (.h 2))), .s (.one (.i .u64 (.h 3)))], [], [.i, .i, .i, .i], .s (.one (.b (.h 0))), [], [.b], true⟩
def o6 : Out := ⟨[(4, .call 20 [] 0), (5, .call 20 [] 1), (6, .call 31 [.r 0, .r 1, .r 2, .r 3] 0), (7, .call 32 [.r 0, .r 1, .r 2, .r 3] 0), (8, .call 32 [.r 0, .r 1, .r 2, .r 3] 1), (9, .eql (.r 6) (.r 8)), (10, .and (.r 5) (.r 9)), (11, .call 33 [.r 1, .r 2] 0), (12, .call 33 [.r 1, .r 2] 1), (13, .call 34 [.r 1, .r 2] 0), (14, .call 34 [.r 1, .r 2] 1), (15, .eql (.r 12) (.r 14)), (16, .and (.r 10) (.r 15))],
  [⟨[], .r 4⟩, ⟨[(.r 5, true)], .r 7⟩, ⟨[(.r 10, true)], .r 11⟩, ⟨[(.r 10, true)], .r 13⟩],
  [],
  [.r 16]⟩
noncomputable def p6 (x0 : Int) (x1 : Int) (x2 : Int) (x3 : Int) : Bool :=
  let x4 := p20 
  let x5 := r20_0 
  let x6 := r31_0 x0 x1 x2 x3
  let x7 := p32 x0 x1 x2 x3
  let x8 := r32_0 x0 x1 x2 x3
  let x9 := x6 == x8
  let x10 := x5 && x9
  let x11 := p33 x1 x2
  let x13 := p34 x1 x2
  [ow [] x4, ow [(x5, true)] x7, ow [(x10, true)] x11, ow [(x10, true)] x13].all id
noncomputable def r6_0 (x0 : Int) (x1 : Int) (x2 : Int) (x3 : Int) : Bool :=
  let x5 := r20_0 
  let x6 := r31_0 x0 x1 x2 x3
  let x8 := r32_0 x0 x1 x2 x3
  let x9 := x6 == x8
  let x10 := x5 && x9
  let x12 := r33_0 x1 x2
  let x14 := r34_0 x1 x2
  let x15 := x12 == x14
  let x16 := x10 && x15
  x16
noncomputable def g6 (ds : List DV) : List DV := [.b (p6 (dget ds 0).toI (dget ds 1).toI (dget ds 2).toI (dget ds 3).toI), .b (r6_0 (dget ds 0).toI (dget ds 1).toI (dget ds 2).toI (dget ds 3).toI)]
def S6 : Sigs := ⟨[(20, s20), (31, s31), (32, s32), (33, s33), (34, s34)], [], [], 0⟩
theorem ev6 : evFn Try.prog S6 2000 Try.f6 s6 = some o6 := by kernel_rfl

/-! tandem/tandemlaw02.ConvPicks -/
def s7 : Sig := ⟨[.s (.one (.i .i64 (.h 0))), .s (.one (.i .i64 (.h 1))), .s (.one (.i .u64 (.h 2))), .s (.one (.i .u64 (.h 3)))], [], [.i, .i, .i, .i], .s (.one (.b (.h 0))), [], [.b], true⟩
def o7 : Out := ⟨[(4, .call 20 [] 0), (5, .call 20 [] 1), (6, .not (.r 5)), (7, .not (.r 6))] ++ callsAt 8 35 [.r 0, .r 1, .r 2, .r 3] 0 3 ++ callsAt 11 36 [.r 0, .r 1, .r 2, .r 3] 0 3 ++ callsAt 14 37 [.r 0, .r 1, .r 2, .r 3] 0 3 ++ callsAt 17 38 [.r 0, .r 1, .r 2, .r 3] 0 3 ++ [(20, .eql (.r 9) (.r 12)), (21, .eql (.r 10) (.r 13)), (22, .and (.r 20) (.r 21)), (23, .eql (.r 15) (.r 18)), (24, .and (.r 22) (.r 23)), (25, .eql (.r 16) (.r 19)), (26, .and (.r 24) (.r 25)), (27, .and (.r 7) (.r 26))],
  [⟨[], .r 4⟩, ⟨[(.r 7, true)], .r 8⟩, ⟨[(.r 7, true)], .r 11⟩, ⟨[(.r 7, true)], .r 14⟩, ⟨[(.r 7, true)], .r 17⟩],
  [],
  [.r 27]⟩
noncomputable def p7 (x0 : Int) (x1 : Int) (x2 : Int) (x3 : Int) : Bool :=
  let x4 := p20 
  let x5 := r20_0 
  let x6 := !x5
  let x7 := !x6
  let x8 := p35 x0 x1 x2 x3
  let x11 := p36 x0 x1 x2 x3
  let x14 := p37 x0 x1 x2 x3
  let x17 := p38 x0 x1 x2 x3
  [ow [] x4, ow [(x7, true)] x8, ow [(x7, true)] x11, ow [(x7, true)] x14, ow [(x7, true)] x17].all id
noncomputable def r7_0 (x0 : Int) (x1 : Int) (x2 : Int) (x3 : Int) : Bool :=
  let x5 := r20_0 
  let x6 := !x5
  let x7 := !x6
  let x9 := r35_0 x0 x1 x2 x3
  let x10 := r35_1 x0 x1 x2 x3
  let x12 := r36_0 x0 x1 x2 x3
  let x13 := r36_1 x0 x1 x2 x3
  let x15 := r37_0 x0 x1 x2 x3
  let x16 := r37_1 x0 x1 x2 x3
  let x18 := r38_0 x0 x1 x2 x3
  let x19 := r38_1 x0 x1 x2 x3
  let x20 := x9 == x12
  let x21 := x10 == x13
  let x22 := x20 && x21
  let x23 := x15 == x18
  let x24 := x22 && x23
  let x25 := x16 == x19
  let x26 := x24 && x25
  let x27 := x7 && x26
  x27
noncomputable def g7 (ds : List DV) : List DV := [.b (p7 (dget ds 0).toI (dget ds 1).toI (dget ds 2).toI (dget ds 3).toI), .b (r7_0 (dget ds 0).toI (dget ds 1).toI (dget ds 2).toI (dget ds 3).toI)]
def S7 : Sigs := ⟨[(20, s20), (35, s35), (36, s36), (37, s37), (38, s38)], [], [], 0⟩
theorem ev7 : evFn Try.prog S7 2000 Try.f7 s7 = some o7 := by kernel_rfl

/-! tandem/tandemlaw02.ConvBack -/
def s8 : Sig := ⟨[.s (.one (.i .i64 (.h 0))), .s (.one (.b (.h 1))), .s (.one (.b (.h 2))), .s (.one (.i .u64 (.h 3))), .s (.one (.i .u64 (.h 4)))], [], [.i, .b, .b, .i, .i], .s (.one (.b (.h 0))), [], [.b], true⟩
def o8 : Out := ⟨[(5, .call 20 [] 0), (6, .call 20 [] 1), (7, .not (.r 6)), (8, .not (.r 7)), (9, .conv .u64 (.r 0)), (10, .rem .u64 (.r 9) (.z 5)), (11, .conv .i64 (.r 10))] ++ callsAt 12 27 [.z 8, .r 11, .r 1, .r 2, .r 3] 0 3 ++ callsAt 15 25 [.z 8, .r 11, .r 1, .r 2, .r 13] 0 3 ++ [(18, .conv .u32 (.r 3)), (19, .conv .i32 (.r 18)), (20, .conv .i64 (.r 19)), (21, .conv .u64 (.r 20)), (22, .itei (.r 1) (.r 21) (.r 3)), (23, .neq (.r 14) (.z 0)), (24, .and (.r 1) (.r 23)), (25, .eql (.r 14) (.z 0)), (26, .neq (.r 17) (.z 0)), (27, .neq (.r 16) (.r 22)), (28, .or (.r 26) (.r 27)), (29, .and (.r 25) (.r 28)), (30, .or (.r 24) (.r 29)), (31, .not (.r 30))] ++ callsAt 32 29 [.z 8, .r 11, .r 4] 0 3 ++ callsAt 35 29 [.z 4, .r 11, .r 33] 0 3 ++ [(38, .call 39 [.z 4, .r 4] 0), (39, .call 39 [.z 4, .r 4] 1), (40, .call 40 [.z 8] 0), (41, .eql (.r 33) (.r 40)), (42, .call 40 [.z 4] 0), (43, .eql (.r 36) (.r 42)), (44, .and (.r 41) (.r 43)), (45, .eql (.r 37) (.z 0)), (46, .and (.r 44) (.r 45)), (47, .eql (.r 34) (.z 16)), (48, .call 41 [.z 4, .r 4] 0), (49, .call 41 [.z 4, .r 4] 1), (50, .beq (.r 47) (.r 49)), (51, .and (.r 46) (.r 50)), (52, .not (.r 39)), (53, .eql (.r 34) (.z 0)), (54, .eql (.r 37) (.z 0)), (55, .and (.r 53) (.r 54)), (56, .land .u64 (.r 4) (.z 4294967295)), (57, .eql (.r 36) (.r 56)), (58, .and (.r 55) (.r 57)), (59, .iteb (.r 52) (.r 58) (.r 51)), (60, .and (.r 31) (.r 59)), (61, .and (.r 8) (.r 60))],
  [⟨[], .r 5⟩, ⟨[(.r 8, true)], .r 12⟩, ⟨[(.r 8, true)], .r 15⟩, ⟨[(.r 8, true), (.r 31, true)], .r 32⟩, ⟨[(.r 8, true), (.r 31, true)], .r 35⟩, ⟨[(.r 8, true), (.r 31, true)], .r 38⟩, ⟨[(.r 8, true), (.r 31, true), (.r 39, true), (.r 46, true)], .r 48⟩],
  [],
  [.r 61]⟩
noncomputable def p8 (x0 : Int) (x1 : Bool) (x2 : Bool) (x3 : Int) (x4 : Int) : Bool :=
  let x5 := p20 
  let x6 := r20_0 
  let x7 := !x6
  let x8 := !x7
  let x9 := IntKind.wrap .u64 x0
  let x10 := Int.tmod x9 5
  let x11 := IntKind.wrap .i64 x10
  let x12 := p27 8 x11 x1 x2 x3
  let x13 := r27_0 8 x11 x1 x2 x3
  let x14 := r27_1 8 x11 x1 x2 x3
  let x15 := p25 8 x11 x13
  let x16 := r25_0 8 x11 x1 x2 x13
  let x17 := r25_1 8 x11 x1 x2 x13
  let x18 := IntKind.wrap .u32 x3
  let x19 := IntKind.wrap .i32 x18
  let x20 := IntKind.wrap .i64 x19
  let x21 := IntKind.wrap .u64 x20
  let x22 := bif x1 then x21 else x3
  let x23 := x14 != 0
  let x24 := x1 && x23
  let x25 := x14 == 0
  let x26 := x17 != 0
  let x27 := x16 != x22
  let x28 := x26 || x27
  let x29 := x25 && x28
  let x30 := x24 || x29
  let x31 := !x30
  let x32 := p29 8 x11 x4
  let x33 := r29_0 8 x11 x4
  let x35 := p29 4 x11 x33
  let x36 := r29_0 4 x11 x33
  let x37 := r29_1 4 x11 x33
  let x38 := p39 4
  let x39 := r39_0 4 x4
  let x40 := r40_0 8
  let x41 := x33 == x40
  let x42 := r40_0 4
  let x43 := x36 == x42
  let x44 := x41 && x43
  let x45 := x37 == 0
  let x46 := x44 && x45
  let x48 := p41 4 x4
  [ow [] x5, ow [(x8, true)] x12, ow [(x8, true)] x15, ow [(x8, true), (x31, true)] x32, ow [(x8, true), (x31, true)] x35, ow [(x8, true), (x31, true)] x38, ow [(x8, true), (x31, true), (x39, true), (x46, true)] x48].all id
noncomputable def r8_0 (x0 : Int) (x1 : Bool) (x2 : Bool) (x3 : Int) (x4 : Int) : Bool :=
  let x6 := r20_0 
  let x7 := !x6
  let x8 := !x7
  let x9 := IntKind.wrap .u64 x0
  let x10 := Int.tmod x9 5
  let x11 := IntKind.wrap .i64 x10
  let x13 := r27_0 8 x11 x1 x2 x3
  let x14 := r27_1 8 x11 x1 x2 x3
  let x16 := r25_0 8 x11 x1 x2 x13
  let x17 := r25_1 8 x11 x1 x2 x13
  let x18 := IntKind.wrap .u32 x3
  let x19 := IntKind.wrap .i32 x18
  let x20 := IntKind.wrap .i64 x19
  let x21 := IntKind.wrap .u64 x20
  let x22 := bif x1 then x21 else x3
  let x23 := x14 != 0
  let x24 := x1 && x23
  let x25 := x14 == 0
  let x26 := x17 != 0
  let x27 := x16 != x22
  let x28 := x26 || x27
  let x29 := x25 && x28
  let x30 := x24 || x29
  let x31 := !x30
  let x33 := r29_0 8 x11 x4
  let x34 := r29_1 8 x11 x4
  let x36 := r29_0 4 x11 x33
  let x37 := r29_1 4 x11 x33
  let x39 := r39_0 4 x4
  let x40 := r40_0 8
  let x41 := x33 == x40
  let x42 := r40_0 4
  let x43 := x36 == x42
  let x44 := x41 && x43
  let x45 := x37 == 0
  let x46 := x44 && x45
  let x47 := x34 == 16
  let x49 := r41_0 4 x4
  let x50 := x47 == x49
  let x51 := x46 && x50
  let x52 := !x39
  let x53 := x34 == 0
  let x54 := x37 == 0
  let x55 := x53 && x54
  let x56 := iland .u64 x4 4294967295
  let x57 := x36 == x56
  let x58 := x55 && x57
  let x59 := bif x52 then x58 else x51
  let x60 := x31 && x59
  let x61 := x8 && x60
  x61
noncomputable def g8 (ds : List DV) : List DV := [.b (p8 (dget ds 0).toI (dget ds 1).toB (dget ds 2).toB (dget ds 3).toI (dget ds 4).toI), .b (r8_0 (dget ds 0).toI (dget ds 1).toB (dget ds 2).toB (dget ds 3).toI (dget ds 4).toI)]
def S8 : Sigs := ⟨[(20, s20), (27, s27), (25, s25), (29, s29), (39, s39), (40, s40), (41, s41)], [], [], 0⟩
theorem ev8 : evFn Try.prog S8 2000 Try.f8 s8 = some o8 := by kernel_rfl

/-! tandem/tandemlaw02.ConvOrders -/
def s9 : Sig := ⟨[.s (.one (.i .i64 (.h 0))), .s (.one (.i .u64 (.h 1))), .s (.one (.i .u64 (.h 2)))], [], [.i, .i, .i], .s (.one (.b (.h 0))), [], [.b], true⟩
def o9 : Out := ⟨[(3, .call 20 [] 0), (4, .call 20 [] 1), (5, .not (.r 4)), (6, .not (.r 5)), (7, .land .i64 (.r 0) (.z 1)), (8, .mul .i64 (.z 4) (.r 7)), (9, .add .i64 (.z 4) (.r 8)), (10, .mul .i64 (.z 8) (.r 9)), (11, .sub .i64 (.r 10) (.z 1)), (12, .geq (.r 11) (.z 0)), (13, .shl .u64 (.z 1) (.r 11)), (14, .call 42 [.r 9, .r 1] 0), (15, .call 42 [.r 9, .r 2] 0)] ++ callsAt 16 37 [.z 70, .r 9, .r 14, .r 15] 0 3 ++ callsAt 19 37 [.z 70, .r 9, .r 15, .r 14] 0 3 ++ callsAt 22 37 [.z 69, .r 9, .r 14, .r 15] 0 3 ++ callsAt 25 37 [.z 71, .r 9, .r 14, .r 15] 0 3 ++ callsAt 28 35 [.z 67, .r 9, .r 14, .r 15] 0 3 ++ callsAt 31 35 [.z 68, .r 9, .r 14, .r 15] 0 3 ++ [(34, .call 33 [.r 9, .r 14] 0), (35, .call 33 [.r 9, .r 14] 1), (36, .call 33 [.r 9, .r 15] 0), (37, .call 33 [.r 9, .r 15] 1), (38, .lor .u64 (.r 35) (.r 37)), (39, .geq (.r 38) (.z 256)), (40, .call 33 [.r 9, .r 14] 0), (41, .call 33 [.r 9, .r 14] 1), (42, .call 33 [.r 9, .r 15] 0), (43, .call 33 [.r 9, .r 15] 1), (44, .lor .u64 (.r 41) (.r 43)), (45, .land .u64 (.r 44) (.z 256)), (46, .neq (.r 45) (.z 0)), (47, .add .u64 (.r 17) (.r 20)), (48, .add .u64 (.r 47) (.r 23)), (49, .add .u64 (.r 48) (.r 26)), (50, .eql (.r 49) (.z 0)), (51, .eql (.r 24) (.z 16)), (52, .beq (.r 51) (.r 46)), (53, .and (.r 50) (.r 52)), (54, .eql (.r 30) (.z 16)), (55, .beq (.r 54) (.r 46)), (56, .and (.r 53) (.r 55)), (57, .eql (.r 30) (.r 33)), (58, .and (.r 56) (.r 57)), (59, .eql (.r 29) (.r 32)), (60, .and (.r 58) (.r 59)), (61, .not (.r 39)), (62, .lxor .u64 (.r 15) (.r 13)), (63, .lxor .u64 (.r 14) (.r 13))] ++ callsAt 64 37 [.z 70, .r 9, .r 62, .r 63] 0 3 ++ [(67, .add .u64 (.r 17) (.r 20)), (68, .add .u64 (.r 67) (.r 23)), (69, .neq (.r 68) (.z 1)), (70, .add .u64 (.r 17) (.r 23)), (71, .neq (.r 26) (.r 70)), (72, .or (.r 69) (.r 71)), (73, .neq (.r 65) (.r 17)), (74, .or (.r 72) (.r 73)), (75, .neq (.r 24) (.z 0)), (76, .or (.r 74) (.r 75)), (77, .neq (.r 30) (.z 0)), (78, .or (.r 76) (.r 77)), (79, .neq (.r 33) (.z 0)), (80, .or (.r 78) (.r 79)), (81, .not (.r 80)), (82, .neq (.r 29) (.r 14)), (83, .neq (.r 29) (.r 15)), (84, .and (.r 82) (.r 83)), (85, .neq (.r 32) (.r 14)), (86, .neq (.r 32) (.r 15)), (87, .and (.r 85) (.r 86)), (88, .or (.r 84) (.r 87)), (89, .lxor .u64 (.r 29) (.r 32)), (90, .lxor .u64 (.r 14) (.r 15)), (91, .neq (.r 89) (.r 90)), (92, .or (.r 88) (.r 91)), (93, .not (.r 92))] ++ callsAt 94 37 [.z 70, .r 9, .r 32, .r 29] 0 3 ++ [(97, .eql (.r 95) (.z 0)), (98, .and (.r 93) (.r 97)), (99, .and (.r 81) (.r 98)), (100, .iteb (.r 61) (.r 99) (.r 60)), (101, .and (.r 6) (.r 100))],
  [⟨[], .r 3⟩, ⟨[(.r 6, true)], .r 12⟩, ⟨[(.r 6, true)], .r 16⟩, ⟨[(.r 6, true)], .r 19⟩, ⟨[(.r 6, true)], .r 22⟩, ⟨[(.r 6, true)], .r 25⟩, ⟨[(.r 6, true)], .r 28⟩, ⟨[(.r 6, true)], .r 31⟩, ⟨[(.r 6, true)], .r 34⟩, ⟨[(.r 6, true)], .r 36⟩, ⟨[(.r 6, true), (.r 39, true)], .r 40⟩, ⟨[(.r 6, true), (.r 39, true)], .r 42⟩, ⟨[(.r 6, true), (.r 61, true)], .r 64⟩, ⟨[(.r 6, true), (.r 61, true), (.r 81, true), (.r 93, true)], .r 94⟩],
  [],
  [.r 101]⟩
noncomputable def p9 (x0 : Int) (x1 : Int) (x2 : Int) : Bool :=
  let x3 := p20 
  let x4 := r20_0 
  let x5 := !x4
  let x6 := !x5
  let x7 := iland .i64 x0 1
  let x8 := IntKind.wrap .i64 (4 * x7)
  let x9 := IntKind.wrap .i64 (4 + x8)
  let x10 := IntKind.wrap .i64 (8 * x9)
  let x11 := IntKind.wrap .i64 (x10 - 1)
  let x12 := decide (x11 ≥ 0)
  let x13 := ishl .u64 1 x11
  let x14 := r42_0 x9 x1
  let x15 := r42_0 x9 x2
  let x16 := p37 70 x9 x14 x15
  let x17 := r37_0 70 x9 x14 x15
  let x19 := p37 70 x9 x15 x14
  let x20 := r37_0 70 x9 x15 x14
  let x22 := p37 69 x9 x14 x15
  let x23 := r37_0 69 x9 x14 x15
  let x24 := r37_1 69 x9 x14 x15
  let x25 := p37 71 x9 x14 x15
  let x26 := r37_0 71 x9 x14 x15
  let x28 := p35 67 x9 x14 x15
  let x29 := r35_0 67 x9 x14 x15
  let x30 := r35_1 67 x9 x14 x15
  let x31 := p35 68 x9 x14 x15
  let x32 := r35_0 68 x9 x14 x15
  let x33 := r35_1 68 x9 x14 x15
  let x34 := p33 x9 x14
  let x35 := r33_0 x9 x14
  let x36 := p33 x9 x15
  let x37 := r33_0 x9 x15
  let x38 := ilor .u64 x35 x37
  let x39 := decide (x38 ≥ 256)
  let x40 := p33 x9 x14
  let x42 := p33 x9 x15
  let x61 := !x39
  let x62 := ilxor .u64 x15 x13
  let x63 := ilxor .u64 x14 x13
  let x64 := p37 70 x9 x62 x63
  let x65 := r37_0 70 x9 x62 x63
  let x67 := IntKind.wrap .u64 (x17 + x20)
  let x68 := IntKind.wrap .u64 (x67 + x23)
  let x69 := x68 != 1
  let x70 := IntKind.wrap .u64 (x17 + x23)
  let x71 := x26 != x70
  let x72 := x69 || x71
  let x73 := x65 != x17
  let x74 := x72 || x73
  let x75 := x24 != 0
  let x76 := x74 || x75
  let x77 := x30 != 0
  let x78 := x76 || x77
  let x79 := x33 != 0
  let x80 := x78 || x79
  let x81 := !x80
  let x82 := x29 != x14
  let x83 := x29 != x15
  let x84 := x82 && x83
  let x85 := x32 != x14
  let x86 := x32 != x15
  let x87 := x85 && x86
  let x88 := x84 || x87
  let x89 := ilxor .u64 x29 x32
  let x90 := ilxor .u64 x14 x15
  let x91 := x89 != x90
  let x92 := x88 || x91
  let x93 := !x92
  let x94 := p37 70 x9 x32 x29
  [ow [] x3, ow [(x6, true)] x12, ow [(x6, true)] x16, ow [(x6, true)] x19, ow [(x6, true)] x22, ow [(x6, true)] x25, ow [(x6, true)] x28, ow [(x6, true)] x31, ow [(x6, true)] x34, ow [(x6, true)] x36, ow [(x6, true), (x39, true)] x40, ow [(x6, true), (x39, true)] x42, ow [(x6, true), (x61, true)] x64, ow [(x6, true), (x61, true), (x81, true), (x93, true)] x94].all id
noncomputable def r9_0 (x0 : Int) (x1 : Int) (x2 : Int) : Bool :=
  let x4 := r20_0 
  let x5 := !x4
  let x6 := !x5
  let x7 := iland .i64 x0 1
  let x8 := IntKind.wrap .i64 (4 * x7)
  let x9 := IntKind.wrap .i64 (4 + x8)
  let x10 := IntKind.wrap .i64 (8 * x9)
  let x11 := IntKind.wrap .i64 (x10 - 1)
  let x13 := ishl .u64 1 x11
  let x14 := r42_0 x9 x1
  let x15 := r42_0 x9 x2
  let x17 := r37_0 70 x9 x14 x15
  let x20 := r37_0 70 x9 x15 x14
  let x23 := r37_0 69 x9 x14 x15
  let x24 := r37_1 69 x9 x14 x15
  let x26 := r37_0 71 x9 x14 x15
  let x29 := r35_0 67 x9 x14 x15
  let x30 := r35_1 67 x9 x14 x15
  let x32 := r35_0 68 x9 x14 x15
  let x33 := r35_1 68 x9 x14 x15
  let x35 := r33_0 x9 x14
  let x37 := r33_0 x9 x15
  let x38 := ilor .u64 x35 x37
  let x39 := decide (x38 ≥ 256)
  let x41 := r33_0 x9 x14
  let x43 := r33_0 x9 x15
  let x44 := ilor .u64 x41 x43
  let x45 := iland .u64 x44 256
  let x46 := x45 != 0
  let x47 := IntKind.wrap .u64 (x17 + x20)
  let x48 := IntKind.wrap .u64 (x47 + x23)
  let x49 := IntKind.wrap .u64 (x48 + x26)
  let x50 := x49 == 0
  let x51 := x24 == 16
  let x52 := x51 == x46
  let x53 := x50 && x52
  let x54 := x30 == 16
  let x55 := x54 == x46
  let x56 := x53 && x55
  let x57 := x30 == x33
  let x58 := x56 && x57
  let x59 := x29 == x32
  let x60 := x58 && x59
  let x61 := !x39
  let x62 := ilxor .u64 x15 x13
  let x63 := ilxor .u64 x14 x13
  let x65 := r37_0 70 x9 x62 x63
  let x67 := IntKind.wrap .u64 (x17 + x20)
  let x68 := IntKind.wrap .u64 (x67 + x23)
  let x69 := x68 != 1
  let x70 := IntKind.wrap .u64 (x17 + x23)
  let x71 := x26 != x70
  let x72 := x69 || x71
  let x73 := x65 != x17
  let x74 := x72 || x73
  let x75 := x24 != 0
  let x76 := x74 || x75
  let x77 := x30 != 0
  let x78 := x76 || x77
  let x79 := x33 != 0
  let x80 := x78 || x79
  let x81 := !x80
  let x82 := x29 != x14
  let x83 := x29 != x15
  let x84 := x82 && x83
  let x85 := x32 != x14
  let x86 := x32 != x15
  let x87 := x85 && x86
  let x88 := x84 || x87
  let x89 := ilxor .u64 x29 x32
  let x90 := ilxor .u64 x14 x15
  let x91 := x89 != x90
  let x92 := x88 || x91
  let x93 := !x92
  let x95 := r37_0 70 x9 x32 x29
  let x97 := x95 == 0
  let x98 := x93 && x97
  let x99 := x81 && x98
  let x100 := bif x61 then x99 else x60
  let x101 := x6 && x100
  x101
noncomputable def g9 (ds : List DV) : List DV := [.b (p9 (dget ds 0).toI (dget ds 1).toI (dget ds 2).toI), .b (r9_0 (dget ds 0).toI (dget ds 1).toI (dget ds 2).toI)]
def S9 : Sigs := ⟨[(20, s20), (42, s42), (37, s37), (35, s35), (33, s33)], [], [], 0⟩
theorem ev9 : evFn Try.prog S9 2000 Try.f9 s9 = some o9 := by kernel_rfl



end Go.Proofs.Ytacciadcmiiimaa
