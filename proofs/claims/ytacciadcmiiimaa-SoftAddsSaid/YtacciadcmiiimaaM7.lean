/- The functions of the statements, as lists of plain steps (part 2). Written by the generator. -/
import Derived.Test.YtacciadcmiiimaaM6
import Derived.Test.YtacciadcmiiimaaM0
import Derived.Test.YtacciadcmiiimaaM4
namespace Go.Proofs.Ytacciadcmiiimaa
open Go Go.Sx
set_option maxRecDepth 100000
set_option maxHeartbeats 4000000

noncomputable def w110000 (x1 : List DV) (x0 : Int) (x3 : Bool) (x4 : Bool) (x5 : Int) : Bool :=
  let x6 := ((x1.length / 1 : Nat) : Int)
  let x7 := decide (x5 < x6)
  let x8 := decide (x5 ≥ 0)
  let x9 := ((x1.length / 1 : Nat) : Int)
  let x10 := decide (x5 < x9)
  let x12 := p39 x0
  let x15 := decide (x5 ≥ 0)
  let x16 := ((x1.length / 1 : Nat) : Int)
  let x17 := decide (x5 < x16)
  let x18 : Int := (x1.getD (Int.toNat x5 * (1 : Nat) + (0 : Nat)) default).toI
  let x19 := p41 x0 x18
  [ow [(x7, true), (x4, false)] x8, ow [(x7, true), (x4, false)] x10, ow [(x7, true), (x4, false)] x12, ow [(x7, true), (x3, false)] x15, ow [(x7, true), (x3, false)] x17, ow [(x7, true), (x3, false)] x19].all id
noncomputable def c110000 (x1 : List DV) (_x0 : Int) (_x3 : Bool) (_x4 : Bool) (x5 : Int) : Bool :=
  let x6 := ((x1.length / 1 : Nat) : Int)
  let x7 := decide (x5 < x6)
  x7
noncomputable def n110000_0 (x1 : List DV) (x0 : Int) (x3 : Bool) (_x4 : Bool) (x5 : Int) : Bool :=
  let x18 : Int := (x1.getD (Int.toNat x5 * (1 : Nat) + (0 : Nat)) default).toI
  let x20 := r41_0 x0 x18
  let x21 := x3 || x20
  x21
noncomputable def n110000_1 (x1 : List DV) (x0 : Int) (_x3 : Bool) (x4 : Bool) (x5 : Int) : Bool :=
  let x11 : Int := (x1.getD (Int.toNat x5 * (1 : Nat) + (0 : Nat)) default).toI
  let x13 := r39_0 x0 x11
  let x14 := x4 || x13
  x14
noncomputable def n110000_2 (_x1 : List DV) (_x0 : Int) (_x3 : Bool) (_x4 : Bool) (x5 : Int) : Int :=
  let x22 := IntKind.wrap .i64 (x5 + 1)
  x22
noncomputable def t110000_0 (_x1 : List DV) (_x0 : Int) (_x3 : Bool) (_x4 : Bool) (_x5 : Int) : Int :=
  0
noncomputable def t110000_1 (_x1 : List DV) (_x0 : Int) (x3 : Bool) (_x4 : Bool) (_x5 : Int) : Bool :=
  x3
noncomputable def t110000_2 (_x1 : List DV) (_x0 : Int) (_x3 : Bool) (x4 : Bool) (_x5 : Int) : Bool :=
  x4
noncomputable def t110000_3 (_x1 : List DV) (_x0 : Int) (_x3 : Bool) (_x4 : Bool) (x5 : Int) : Int :=
  x5
noncomputable def W110000 (ds : List DV) : Bool := w110000 (dget ds 0).toL (dget ds 1).toI (dget ds 2).toB (dget ds 3).toB (dget ds 4).toI
noncomputable def C110000 (ds : List DV) : Bool := c110000 (dget ds 0).toL (dget ds 1).toI (dget ds 2).toB (dget ds 3).toB (dget ds 4).toI
noncomputable def N110000 (ds : List DV) : List DV := [.l (dget ds 0).toL, .i (dget ds 1).toI, .b (n110000_0 (dget ds 0).toL (dget ds 1).toI (dget ds 2).toB (dget ds 3).toB (dget ds 4).toI), .b (n110000_1 (dget ds 0).toL (dget ds 1).toI (dget ds 2).toB (dget ds 3).toB (dget ds 4).toI), .i (n110000_2 (dget ds 0).toL (dget ds 1).toI (dget ds 2).toB (dget ds 3).toB (dget ds 4).toI)]
noncomputable def T110000 (ds : List DV) : List DV := [.i (t110000_0 (dget ds 0).toL (dget ds 1).toI (dget ds 2).toB (dget ds 3).toB (dget ds 4).toI), .b (t110000_1 (dget ds 0).toL (dget ds 1).toI (dget ds 2).toB (dget ds 3).toB (dget ds 4).toI), .b (t110000_2 (dget ds 0).toL (dget ds 1).toI (dget ds 2).toB (dget ds 3).toB (dget ds 4).toI), .i (t110000_3 (dget ds 0).toL (dget ds 1).toI (dget ds 2).toB (dget ds 3).toB (dget ds 4).toI)]
noncomputable def L110000 (x0 : List DV) (x1 : Int) (x2 : Bool) (x3 : Bool) (x4 : Int) : Option (List DV) := loopG W110000 C110000 N110000 T110000 [.l x0, .i x1, .b x2, .b x3, .i x4]
noncomputable def p110000 (x0 : List DV) (x1 : Int) (x2 : Bool) (x3 : Bool) (x4 : Int) : Bool := (L110000 x0 x1 x2 x3 x4).isSome
noncomputable def r110000_0 (x0 : List DV) (x1 : Int) (x2 : Bool) (x3 : Bool) (x4 : Int) : Int := (dget ((L110000 x0 x1 x2 x3 x4).getD []) 0).toI
noncomputable def r110000_1 (x0 : List DV) (x1 : Int) (x2 : Bool) (x3 : Bool) (x4 : Int) : Bool := (dget ((L110000 x0 x1 x2 x3 x4).getD []) 1).toB
noncomputable def r110000_2 (x0 : List DV) (x1 : Int) (x2 : Bool) (x3 : Bool) (x4 : Int) : Bool := (dget ((L110000 x0 x1 x2 x3 x4).getD []) 2).toB
noncomputable def r110000_3 (x0 : List DV) (x1 : Int) (x2 : Bool) (x3 : Bool) (x4 : Int) : Int := (dget ((L110000 x0 x1 x2 x3 x4).getD []) 3).toI
noncomputable def g110000 (ds : List DV) : List DV := [.b (p110000 (dget ds 0).toL (dget ds 1).toI (dget ds 2).toB (dget ds 3).toB (dget ds 4).toI), .i (r110000_0 (dget ds 0).toL (dget ds 1).toI (dget ds 2).toB (dget ds 3).toB (dget ds 4).toI), .b (r110000_1 (dget ds 0).toL (dget ds 1).toI (dget ds 2).toB (dget ds 3).toB (dget ds 4).toI), .b (r110000_2 (dget ds 0).toL (dget ds 1).toI (dget ds 2).toB (dget ds 3).toB (dget ds 4).toI), .i (r110000_3 (dget ds 0).toL (dget ds 1).toI (dget ds 2).toB (dget ds 3).toB (dget ds 4).toI)]
def l100_0 : LR := ⟨110000, 3, 3, [1, 0], [(6, .llen 1 (.r 1)), (7, .lss (.r 5) (.r 6)), (8, .geq (.r 5) (.z 0)), (9, .llen 1 (.r 1)), (10, .lss (.r 5) (.r 9)), (11, .lgeti 1 0 (.r 1) (.r 5)), (12, .call 39 [.r 0, .r 11] 0), (13, .call 39 [.r 0, .r 11] 1), (14, .or (.r 4) (.r 13)), (15, .geq (.r 5) (.z 0)), (16, .llen 1 (.r 1)), (17, .lss (.r 5) (.r 16)), (18, .lgeti 1 0 (.r 1) (.r 5)), (19, .call 41 [.r 0, .r 18] 0), (20, .call 41 [.r 0, .r 18] 1), (21, .or (.r 3) (.r 20)), (22, .add .i64 (.r 5) (.z 1))], [⟨[(.r 7, true), (.r 4, false)], .r 8⟩, ⟨[(.r 7, true), (.r 4, false)], .r 10⟩, ⟨[(.r 7, true), (.r 4, false)], .r 12⟩, ⟨[(.r 7, true), (.r 3, false)], .r 15⟩, ⟨[(.r 7, true), (.r 3, false)], .r 17⟩, ⟨[(.r 7, true), (.r 3, false)], .r 19⟩], .r 7, [.r 21, .r 14, .r 22], [.z 0, .r 3, .r 4, .r 5], [.b, .b, .i]⟩
def s100 : Sig := ⟨[.s (.one (.i .i64 (.h 0))), .s (.one (.vec 0)), .s (.one (.b (.h 2)))], [some (.v false [.int .u64] (.h 1))], [.i, .l, .b], .t [.one (.i .u64 (.h 0)), .one (.i .i64 (.h 1)), .one (.b (.h 2))], [], [.i, .i, .b], true⟩
def o100 : Out := ⟨List.append (callsAt 3 110000 [.r 1, .r 0, .r 2, .t false, .z 0] 0 5) ([(8, .call 40 [.r 0] 0), (9, .not (.r 5)), (10, .call 40 [.r 0] 0), (11, .itei (.r 9) (.r 10) (.r 8)), (12, .itei (.r 9) (.z 0) (.z 16)), (13, .iteb (.r 9) (.r 6) (.t true))]),
  [⟨[], .r 3⟩],
  [l100_0],
  [.r 11, .r 12, .r 13]⟩
noncomputable def p100 (x0 : Int) (x1 : List DV) (x2 : Bool) : Bool :=
  let y3 : List DV := g110000 [.l x1, .i x0, .b x2, .b false, .i 0]
  let x3 : Bool := (dget y3 0).toB
  [ow [] x3].all id
noncomputable def r100_0 (x0 : Int) (x1 : List DV) (x2 : Bool) : Int :=
  let y5 : List DV := g110000 [.l x1, .i x0, .b x2, .b false, .i 0]
  let x5 : Bool := (dget y5 2).toB
  let x8 := r40_0 x0
  let x9 := !x5
  let x10 := r40_0 x0
  let x11 := bif x9 then x10 else x8
  x11
noncomputable def r100_1 (x0 : Int) (x1 : List DV) (x2 : Bool) : Int :=
  let y5 : List DV := g110000 [.l x1, .i x0, .b x2, .b false, .i 0]
  let x5 : Bool := (dget y5 2).toB
  let x9 := !x5
  let x12 : Int := bif x9 then 0 else 16
  x12
noncomputable def r100_2 (x0 : Int) (x1 : List DV) (x2 : Bool) : Bool :=
  let y5 : List DV := g110000 [.l x1, .i x0, .b x2, .b false, .i 0]
  let x5 : Bool := (dget y5 2).toB
  let x6 : Bool := (dget y5 3).toB
  let x9 := !x5
  let x13 := bif x9 then x6 else true
  x13
noncomputable def g100 (ds : List DV) : List DV := [.b (p100 (dget ds 0).toI (dget ds 1).toL (dget ds 2).toB), .i (r100_0 (dget ds 0).toI (dget ds 1).toL (dget ds 2).toB), .i (r100_1 (dget ds 0).toI (dget ds 1).toL (dget ds 2).toB), .b (r100_2 (dget ds 0).toI (dget ds 1).toL (dget ds 2).toB)]
def S100 : Sigs := ⟨[(40, s40), (39, s39), (41, s41)], [], [(0, 110000)], 1⟩

noncomputable def w110102 (x0 : List DV) (x1 : List DV) (x9 : Int) (x13 : Int) (x14 : Int) (x15 : List DV) : Bool :=
  let x16 := ((x1.length / 1 : Nat) : Int)
  let x17 := decide (x14 < x16)
  let x18 := decide (x13 > 0)
  let x19 := x17 || x18
  let x20 := IntKind.wrap .i64 (x9 + x14)
  let x21 := decide (x20 ≥ 0)
  let x22 := ((x15.length / 1 : Nat) : Int)
  let x23 := decide (x20 < x22)
  let x27 := ((x1.length / 1 : Nat) : Int)
  let x28 := decide (x14 < x27)
  let x29 := decide (x9 ≥ 0)
  let x30 := ((x0.length / 1 : Nat) : Int)
  let x31 := decide (x9 < x30)
  let x34 := decide (x14 ≥ 0)
  let x35 := ((x1.length / 1 : Nat) : Int)
  let x36 := decide (x14 < x35)
  let x42 := IntKind.wrap .i64 (x9 + x14)
  let x44 := decide (x42 ≥ 0)
  let x45 := ((x15.length / 1 : Nat) : Int)
  let x46 := decide (x42 < x45)
  [ow [(x19, true)] x21, ow [(x19, true)] x23, ow [(x19, true), (x28, true)] x29, ow [(x19, true), (x28, true)] x31, ow [(x19, true), (x28, true)] x34, ow [(x19, true), (x28, true)] x36, ow [(x19, true)] x44, ow [(x19, true)] x46].all id
noncomputable def c110102 (_x0 : List DV) (x1 : List DV) (_x9 : Int) (x13 : Int) (x14 : Int) (_x15 : List DV) : Bool :=
  let x16 := ((x1.length / 1 : Nat) : Int)
  let x17 := decide (x14 < x16)
  let x18 := decide (x13 > 0)
  let x19 := x17 || x18
  x19
noncomputable def n110102_0 (x0 : List DV) (x1 : List DV) (x9 : Int) (x13 : Int) (x14 : Int) (x15 : List DV) : Int :=
  let x20 := IntKind.wrap .i64 (x9 + x14)
  let x24 : Int := (x15.getD (Int.toNat x20 * (1 : Nat) + (0 : Nat)) default).toI
  let x25 := IntKind.wrap .u64 x24
  let x26 := IntKind.wrap .u64 (x25 + x13)
  let x27 := ((x1.length / 1 : Nat) : Int)
  let x28 := decide (x14 < x27)
  let x32 : Int := (x0.getD (Int.toNat x9 * (1 : Nat) + (0 : Nat)) default).toI
  let x33 := IntKind.wrap .u64 x32
  let x37 : Int := (x1.getD (Int.toNat x14 * (1 : Nat) + (0 : Nat)) default).toI
  let x38 := IntKind.wrap .u64 x37
  let x39 := IntKind.wrap .u64 (x33 * x38)
  let x40 := IntKind.wrap .u64 (x26 + x39)
  let x41 := bif x28 then x40 else x26
  let x48 := ishr .u64 x41 32
  x48
noncomputable def n110102_1 (_x0 : List DV) (_x1 : List DV) (_x9 : Int) (_x13 : Int) (x14 : Int) (_x15 : List DV) : Int :=
  let x49 := IntKind.wrap .i64 (x14 + 1)
  x49
noncomputable def n110102_2 (x0 : List DV) (x1 : List DV) (x9 : Int) (x13 : Int) (x14 : Int) (x15 : List DV) : List DV :=
  let x20 := IntKind.wrap .i64 (x9 + x14)
  let x24 : Int := (x15.getD (Int.toNat x20 * (1 : Nat) + (0 : Nat)) default).toI
  let x25 := IntKind.wrap .u64 x24
  let x26 := IntKind.wrap .u64 (x25 + x13)
  let x27 := ((x1.length / 1 : Nat) : Int)
  let x28 := decide (x14 < x27)
  let x32 : Int := (x0.getD (Int.toNat x9 * (1 : Nat) + (0 : Nat)) default).toI
  let x33 := IntKind.wrap .u64 x32
  let x37 : Int := (x1.getD (Int.toNat x14 * (1 : Nat) + (0 : Nat)) default).toI
  let x38 := IntKind.wrap .u64 x37
  let x39 := IntKind.wrap .u64 (x33 * x38)
  let x40 := IntKind.wrap .u64 (x26 + x39)
  let x41 := bif x28 then x40 else x26
  let x42 := IntKind.wrap .i64 (x9 + x14)
  let x43 := IntKind.wrap .u32 x41
  let x47 : List DV := x15.set (Int.toNat x42 * (1 : Nat) + (0 : Nat)) (.i x43)
  x47
noncomputable def t110102_0 (_x0 : List DV) (_x1 : List DV) (_x9 : Int) (_x13 : Int) (_x14 : Int) (_x15 : List DV) : Int :=
  0
noncomputable def t110102_1 (_x0 : List DV) (_x1 : List DV) (_x9 : Int) (x13 : Int) (_x14 : Int) (_x15 : List DV) : Int :=
  x13
noncomputable def t110102_2 (_x0 : List DV) (_x1 : List DV) (_x9 : Int) (_x13 : Int) (x14 : Int) (_x15 : List DV) : Int :=
  x14
noncomputable def t110102_3 (_x0 : List DV) (_x1 : List DV) (_x9 : Int) (_x13 : Int) (_x14 : Int) (x15 : List DV) : List DV :=
  x15
noncomputable def W110102 (ds : List DV) : Bool := w110102 (dget ds 0).toL (dget ds 1).toL (dget ds 2).toI (dget ds 3).toI (dget ds 4).toI (dget ds 5).toL
noncomputable def C110102 (ds : List DV) : Bool := c110102 (dget ds 0).toL (dget ds 1).toL (dget ds 2).toI (dget ds 3).toI (dget ds 4).toI (dget ds 5).toL
noncomputable def N110102 (ds : List DV) : List DV := [.l (dget ds 0).toL, .l (dget ds 1).toL, .i (dget ds 2).toI, .i (n110102_0 (dget ds 0).toL (dget ds 1).toL (dget ds 2).toI (dget ds 3).toI (dget ds 4).toI (dget ds 5).toL), .i (n110102_1 (dget ds 0).toL (dget ds 1).toL (dget ds 2).toI (dget ds 3).toI (dget ds 4).toI (dget ds 5).toL), .l (n110102_2 (dget ds 0).toL (dget ds 1).toL (dget ds 2).toI (dget ds 3).toI (dget ds 4).toI (dget ds 5).toL)]
noncomputable def T110102 (ds : List DV) : List DV := [.i (t110102_0 (dget ds 0).toL (dget ds 1).toL (dget ds 2).toI (dget ds 3).toI (dget ds 4).toI (dget ds 5).toL), .i (t110102_1 (dget ds 0).toL (dget ds 1).toL (dget ds 2).toI (dget ds 3).toI (dget ds 4).toI (dget ds 5).toL), .i (t110102_2 (dget ds 0).toL (dget ds 1).toL (dget ds 2).toI (dget ds 3).toI (dget ds 4).toI (dget ds 5).toL), .l (t110102_3 (dget ds 0).toL (dget ds 1).toL (dget ds 2).toI (dget ds 3).toI (dget ds 4).toI (dget ds 5).toL)]
noncomputable def L110102 (x0 : List DV) (x1 : List DV) (x2 : Int) (x3 : Int) (x4 : Int) (x5 : List DV) : Option (List DV) := loopG W110102 C110102 N110102 T110102 [.l x0, .l x1, .i x2, .i x3, .i x4, .l x5]
noncomputable def p110102 (x0 : List DV) (x1 : List DV) (x2 : Int) (x3 : Int) (x4 : Int) (x5 : List DV) : Bool := (L110102 x0 x1 x2 x3 x4 x5).isSome
noncomputable def r110102_0 (x0 : List DV) (x1 : List DV) (x2 : Int) (x3 : Int) (x4 : Int) (x5 : List DV) : Int := (dget ((L110102 x0 x1 x2 x3 x4 x5).getD []) 0).toI
noncomputable def r110102_1 (x0 : List DV) (x1 : List DV) (x2 : Int) (x3 : Int) (x4 : Int) (x5 : List DV) : Int := (dget ((L110102 x0 x1 x2 x3 x4 x5).getD []) 1).toI
noncomputable def r110102_2 (x0 : List DV) (x1 : List DV) (x2 : Int) (x3 : Int) (x4 : Int) (x5 : List DV) : Int := (dget ((L110102 x0 x1 x2 x3 x4 x5).getD []) 2).toI
noncomputable def r110102_3 (x0 : List DV) (x1 : List DV) (x2 : Int) (x3 : Int) (x4 : Int) (x5 : List DV) : List DV := (dget ((L110102 x0 x1 x2 x3 x4 x5).getD []) 3).toL
noncomputable def g110102 (ds : List DV) : List DV := [.b (p110102 (dget ds 0).toL (dget ds 1).toL (dget ds 2).toI (dget ds 3).toI (dget ds 4).toI (dget ds 5).toL), .i (r110102_0 (dget ds 0).toL (dget ds 1).toL (dget ds 2).toI (dget ds 3).toI (dget ds 4).toI (dget ds 5).toL), .i (r110102_1 (dget ds 0).toL (dget ds 1).toL (dget ds 2).toI (dget ds 3).toI (dget ds 4).toI (dget ds 5).toL), .i (r110102_2 (dget ds 0).toL (dget ds 1).toL (dget ds 2).toI (dget ds 3).toI (dget ds 4).toI (dget ds 5).toL), .l (r110102_3 (dget ds 0).toL (dget ds 1).toL (dget ds 2).toI (dget ds 3).toI (dget ds 4).toI (dget ds 5).toL)]
noncomputable def w110100 (x0 : List DV) (x1 : List DV) (x9 : Int) (x10 : List DV) : Bool :=
  let x11 := ((x0.length / 1 : Nat) : Int)
  let x12 := decide (x9 < x11)
  let y13 : List DV := g110102 [.l x0, .l x1, .i x9, .i 0, .i 0, .l x10]
  let x13 : Bool := (dget y13 0).toB
  [ow [(x12, true)] x13].all id
noncomputable def c110100 (x0 : List DV) (_x1 : List DV) (x9 : Int) (_x10 : List DV) : Bool :=
  let x11 := ((x0.length / 1 : Nat) : Int)
  let x12 := decide (x9 < x11)
  x12
noncomputable def n110100_0 (_x0 : List DV) (_x1 : List DV) (x9 : Int) (_x10 : List DV) : Int :=
  let x18 := IntKind.wrap .i64 (x9 + 1)
  x18
noncomputable def n110100_1 (x0 : List DV) (x1 : List DV) (x9 : Int) (x10 : List DV) : List DV :=
  let y17 : List DV := g110102 [.l x0, .l x1, .i x9, .i 0, .i 0, .l x10]
  let x17 : List DV := (dget y17 4).toL
  x17
noncomputable def t110100_0 (_x0 : List DV) (_x1 : List DV) (_x9 : Int) (_x10 : List DV) : Int :=
  0
noncomputable def t110100_1 (_x0 : List DV) (_x1 : List DV) (x9 : Int) (_x10 : List DV) : Int :=
  x9
noncomputable def t110100_2 (_x0 : List DV) (_x1 : List DV) (_x9 : Int) (x10 : List DV) : List DV :=
  x10
noncomputable def W110100 (ds : List DV) : Bool := w110100 (dget ds 0).toL (dget ds 1).toL (dget ds 2).toI (dget ds 3).toL
noncomputable def C110100 (ds : List DV) : Bool := c110100 (dget ds 0).toL (dget ds 1).toL (dget ds 2).toI (dget ds 3).toL
noncomputable def N110100 (ds : List DV) : List DV := [.l (dget ds 0).toL, .l (dget ds 1).toL, .i (n110100_0 (dget ds 0).toL (dget ds 1).toL (dget ds 2).toI (dget ds 3).toL), .l (n110100_1 (dget ds 0).toL (dget ds 1).toL (dget ds 2).toI (dget ds 3).toL)]
noncomputable def T110100 (ds : List DV) : List DV := [.i (t110100_0 (dget ds 0).toL (dget ds 1).toL (dget ds 2).toI (dget ds 3).toL), .i (t110100_1 (dget ds 0).toL (dget ds 1).toL (dget ds 2).toI (dget ds 3).toL), .l (t110100_2 (dget ds 0).toL (dget ds 1).toL (dget ds 2).toI (dget ds 3).toL)]
noncomputable def L110100 (x0 : List DV) (x1 : List DV) (x2 : Int) (x3 : List DV) : Option (List DV) := loopG W110100 C110100 N110100 T110100 [.l x0, .l x1, .i x2, .l x3]
noncomputable def p110100 (x0 : List DV) (x1 : List DV) (x2 : Int) (x3 : List DV) : Bool := (L110100 x0 x1 x2 x3).isSome
noncomputable def r110100_0 (x0 : List DV) (x1 : List DV) (x2 : Int) (x3 : List DV) : Int := (dget ((L110100 x0 x1 x2 x3).getD []) 0).toI
noncomputable def r110100_1 (x0 : List DV) (x1 : List DV) (x2 : Int) (x3 : List DV) : Int := (dget ((L110100 x0 x1 x2 x3).getD []) 1).toI
noncomputable def r110100_2 (x0 : List DV) (x1 : List DV) (x2 : Int) (x3 : List DV) : List DV := (dget ((L110100 x0 x1 x2 x3).getD []) 2).toL
noncomputable def g110100 (ds : List DV) : List DV := [.b (p110100 (dget ds 0).toL (dget ds 1).toL (dget ds 2).toI (dget ds 3).toL), .i (r110100_0 (dget ds 0).toL (dget ds 1).toL (dget ds 2).toI (dget ds 3).toL), .i (r110100_1 (dget ds 0).toL (dget ds 1).toL (dget ds 2).toI (dget ds 3).toL), .l (r110100_2 (dget ds 0).toL (dget ds 1).toL (dget ds 2).toI (dget ds 3).toL)]
def l101_0 : LR := ⟨110102, 13, 3, [0, 1, 9], [(16, .llen 1 (.r 1)), (17, .lss (.r 14) (.r 16)), (18, .gtr (.r 13) (.z 0)), (19, .or (.r 17) (.r 18)), (20, .add .i64 (.r 9) (.r 14)), (21, .geq (.r 20) (.z 0)), (22, .llen 1 (.r 15)), (23, .lss (.r 20) (.r 22)), (24, .lgeti 1 0 (.r 15) (.r 20)), (25, .conv .u64 (.r 24)), (26, .add .u64 (.r 25) (.r 13)), (27, .llen 1 (.r 1)), (28, .lss (.r 14) (.r 27)), (29, .geq (.r 9) (.z 0)), (30, .llen 1 (.r 0)), (31, .lss (.r 9) (.r 30)), (32, .lgeti 1 0 (.r 0) (.r 9)), (33, .conv .u64 (.r 32)), (34, .geq (.r 14) (.z 0)), (35, .llen 1 (.r 1)), (36, .lss (.r 14) (.r 35)), (37, .lgeti 1 0 (.r 1) (.r 14)), (38, .conv .u64 (.r 37)), (39, .mul .u64 (.r 33) (.r 38)), (40, .add .u64 (.r 26) (.r 39)), (41, .itei (.r 28) (.r 40) (.r 26)), (42, .add .i64 (.r 9) (.r 14)), (43, .conv .u32 (.r 41)), (44, .geq (.r 42) (.z 0)), (45, .llen 1 (.r 15)), (46, .lss (.r 42) (.r 45)), (47, .lset 1 0 .i (.r 15) (.r 42) (.r 43)), (48, .shr .u64 (.r 41) (.z 32)), (49, .add .i64 (.r 14) (.z 1))], [⟨[(.r 19, true)], .r 21⟩, ⟨[(.r 19, true)], .r 23⟩, ⟨[(.r 19, true), (.r 28, true)], .r 29⟩, ⟨[(.r 19, true), (.r 28, true)], .r 31⟩, ⟨[(.r 19, true), (.r 28, true)], .r 34⟩, ⟨[(.r 19, true), (.r 28, true)], .r 36⟩, ⟨[(.r 19, true)], .r 44⟩, ⟨[(.r 19, true)], .r 46⟩], .r 19, [.r 48, .r 49, .r 47], [.z 0, .r 13, .r 14, .r 15], [.i, .i, .l]⟩
def l101_1 : LR := ⟨110100, 9, 2, [0, 1], List.append (List.append ([(11, .llen 1 (.r 0)), (12, .lss (.r 9) (.r 11))]) (callsAt 13 110102 [.r 0, .r 1, .r 9, .z 0, .z 0, .r 10] 0 5)) ([(18, .add .i64 (.r 9) (.z 1))]), [⟨[(.r 12, true)], .r 13⟩], .r 12, [.r 18, .r 17], [.z 0, .r 9, .r 10], [.i, .l]⟩
def s101 : Sig := ⟨[.s (.one (.vec 0)), .s (.one (.vec 1))], [some (.v false [.int .u32] (.h 0)), some (.v false [.int .u32] (.h 1))], [.l, .l], .s (.one (.vec 2)), [none, none, some (.v false [.int .u32] (.h 0))], [.l], true⟩
def o101 : Out := ⟨List.append (List.append ([(2, .llen 1 (.r 0)), (3, .llen 1 (.r 1)), (4, .add .i64 (.r 2) (.r 3)), (5, .geq (.r 4) (.z 0)), (6, .leq (.r 4) (.r 4)), (7, .leq (.r 4) (.z 14073748835532)), (8, .lrep (.r 4) [.i] [.z 0])]) (callsAt 9 110100 [.r 0, .r 1, .z 0, .r 8] 0 4)) ([(13, .call 116 [.r 12] 0), (14, .call 116 [.r 12] 1)]),
  [⟨[], .r 5⟩, ⟨[], .r 6⟩, ⟨[], .r 7⟩, ⟨[], .r 9⟩, ⟨[], .r 13⟩],
  [l101_0, l101_1],
  [.r 14]⟩
noncomputable def p101 (x0 : List DV) (x1 : List DV) : Bool :=
  let x2 := ((x0.length / 1 : Nat) : Int)
  let x3 := ((x1.length / 1 : Nat) : Int)
  let x4 := IntKind.wrap .i64 (x2 + x3)
  let x5 := decide (x4 ≥ 0)
  let x6 := decide (x4 ≤ x4)
  let x7 := decide (x4 ≤ 14073748835532)
  let x8 : List DV := (List.replicate (Int.toNat x4) ([.i 0] : List DV)).flatten
  let x9 := p110100 x0 x1 0 x8
  let x12 := r110100_2 x0 x1 0 x8
  let x13 := p116 x12
  [ow [] x5, ow [] x6, ow [] x7, ow [] x9, ow [] x13].all id
noncomputable def r101_0 (x0 : List DV) (x1 : List DV) : List DV :=
  let x2 := ((x0.length / 1 : Nat) : Int)
  let x3 := ((x1.length / 1 : Nat) : Int)
  let x4 := IntKind.wrap .i64 (x2 + x3)
  let x8 : List DV := (List.replicate (Int.toNat x4) ([.i 0] : List DV)).flatten
  let x12 := r110100_2 x0 x1 0 x8
  let x14 := r116_0 x12
  x14
noncomputable def g101 (ds : List DV) : List DV := [.b (p101 (dget ds 0).toL (dget ds 1).toL), .l (r101_0 (dget ds 0).toL (dget ds 1).toL)]
def S101 : Sigs := ⟨[(116, s116)], [], [(0, 110100), (2, 110102)], 2⟩

noncomputable def w110300 (x1 : List DV) (x0 : List DV) (x7 : List DV) (x8 : List DV) (x9 : Int) (_x10 : List DV) (_x11 : List DV) : Bool :=
  let x12 := decide (x9 ≥ 0)
  let x13 := p104 x8 1
  let x14 := r104_0 x8 1
  let x15 := p113 x0 x9
  let x16 := r113_0 x0 x9
  let x17 := x16 == 1
  let x18 : List DV := [.i 1]
  let x19 := p114 x14 x18
  let x20 := r114_0 x14 x18
  let x21 := bif x17 then x20 else x14
  let x22 := p104 x7 1
  let x23 := r104_0 x7 1
  let x24 := p77 x21 x1
  let x25 := r77_0 x21 x1
  let x26 := !x25
  let x27 := p110 x21 x1
  let x29 : List DV := [.i 1]
  let x30 := p114 x23 x29
  [ow [(x12, true)] x13, ow [(x12, true)] x15, ow [(x12, true), (x17, true)] x19, ow [(x12, true)] x22, ow [(x12, true)] x24, ow [(x12, true), (x26, true)] x27, ow [(x12, true), (x26, true)] x30].all id
noncomputable def c110300 (_x1 : List DV) (_x0 : List DV) (_x7 : List DV) (_x8 : List DV) (x9 : Int) (_x10 : List DV) (_x11 : List DV) : Bool :=
  let x12 := decide (x9 ≥ 0)
  x12
noncomputable def n110300_0 (x1 : List DV) (x0 : List DV) (x7 : List DV) (x8 : List DV) (x9 : Int) (_x10 : List DV) (_x11 : List DV) : List DV :=
  let x14 := r104_0 x8 1
  let x16 := r113_0 x0 x9
  let x17 := x16 == 1
  let x18 : List DV := [.i 1]
  let x20 := r114_0 x14 x18
  let x21 := bif x17 then x20 else x14
  let x23 := r104_0 x7 1
  let x25 := r77_0 x21 x1
  let x26 := !x25
  let x29 : List DV := [.i 1]
  let x31 := r114_0 x23 x29
  let x32 := bif x26 then x31 else x23
  x32
noncomputable def n110300_1 (x1 : List DV) (x0 : List DV) (_x7 : List DV) (x8 : List DV) (x9 : Int) (_x10 : List DV) (_x11 : List DV) : List DV :=
  let x14 := r104_0 x8 1
  let x16 := r113_0 x0 x9
  let x17 := x16 == 1
  let x18 : List DV := [.i 1]
  let x20 := r114_0 x14 x18
  let x21 := bif x17 then x20 else x14
  let x25 := r77_0 x21 x1
  let x26 := !x25
  let x28 := r110_0 x21 x1
  let x33 := bif x26 then x28 else x21
  x33
noncomputable def n110300_2 (_x1 : List DV) (_x0 : List DV) (_x7 : List DV) (_x8 : List DV) (x9 : Int) (_x10 : List DV) (_x11 : List DV) : Int :=
  let x34 := IntKind.wrap .i64 (x9 - 1)
  x34
noncomputable def n110300_3 (_x1 : List DV) (x0 : List DV) (_x7 : List DV) (_x8 : List DV) (_x9 : Int) (_x10 : List DV) (_x11 : List DV) : List DV :=
  x0
noncomputable def n110300_4 (_x1 : List DV) (x0 : List DV) (_x7 : List DV) (_x8 : List DV) (_x9 : Int) (_x10 : List DV) (_x11 : List DV) : List DV :=
  x0
noncomputable def t110300_0 (_x1 : List DV) (_x0 : List DV) (_x7 : List DV) (_x8 : List DV) (_x9 : Int) (_x10 : List DV) (_x11 : List DV) : Int :=
  0
noncomputable def t110300_1 (_x1 : List DV) (_x0 : List DV) (x7 : List DV) (_x8 : List DV) (_x9 : Int) (_x10 : List DV) (_x11 : List DV) : List DV :=
  x7
noncomputable def t110300_2 (_x1 : List DV) (_x0 : List DV) (_x7 : List DV) (x8 : List DV) (_x9 : Int) (_x10 : List DV) (_x11 : List DV) : List DV :=
  x8
noncomputable def t110300_3 (_x1 : List DV) (_x0 : List DV) (_x7 : List DV) (_x8 : List DV) (x9 : Int) (_x10 : List DV) (_x11 : List DV) : Int :=
  x9
noncomputable def t110300_4 (_x1 : List DV) (x0 : List DV) (_x7 : List DV) (_x8 : List DV) (_x9 : Int) (_x10 : List DV) (_x11 : List DV) : List DV :=
  x0
noncomputable def t110300_5 (_x1 : List DV) (x0 : List DV) (_x7 : List DV) (_x8 : List DV) (_x9 : Int) (_x10 : List DV) (_x11 : List DV) : List DV :=
  x0
noncomputable def W110300 (ds : List DV) : Bool := w110300 (dget ds 0).toL (dget ds 1).toL (dget ds 2).toL (dget ds 3).toL (dget ds 4).toI (dget ds 5).toL (dget ds 6).toL
noncomputable def C110300 (ds : List DV) : Bool := c110300 (dget ds 0).toL (dget ds 1).toL (dget ds 2).toL (dget ds 3).toL (dget ds 4).toI (dget ds 5).toL (dget ds 6).toL
noncomputable def N110300 (ds : List DV) : List DV := [.l (dget ds 0).toL, .l (dget ds 1).toL, .l (n110300_0 (dget ds 0).toL (dget ds 1).toL (dget ds 2).toL (dget ds 3).toL (dget ds 4).toI (dget ds 5).toL (dget ds 6).toL), .l (n110300_1 (dget ds 0).toL (dget ds 1).toL (dget ds 2).toL (dget ds 3).toL (dget ds 4).toI (dget ds 5).toL (dget ds 6).toL), .i (n110300_2 (dget ds 0).toL (dget ds 1).toL (dget ds 2).toL (dget ds 3).toL (dget ds 4).toI (dget ds 5).toL (dget ds 6).toL), .l (n110300_3 (dget ds 0).toL (dget ds 1).toL (dget ds 2).toL (dget ds 3).toL (dget ds 4).toI (dget ds 5).toL (dget ds 6).toL), .l (n110300_4 (dget ds 0).toL (dget ds 1).toL (dget ds 2).toL (dget ds 3).toL (dget ds 4).toI (dget ds 5).toL (dget ds 6).toL)]
noncomputable def T110300 (ds : List DV) : List DV := [.i (t110300_0 (dget ds 0).toL (dget ds 1).toL (dget ds 2).toL (dget ds 3).toL (dget ds 4).toI (dget ds 5).toL (dget ds 6).toL), .l (t110300_1 (dget ds 0).toL (dget ds 1).toL (dget ds 2).toL (dget ds 3).toL (dget ds 4).toI (dget ds 5).toL (dget ds 6).toL), .l (t110300_2 (dget ds 0).toL (dget ds 1).toL (dget ds 2).toL (dget ds 3).toL (dget ds 4).toI (dget ds 5).toL (dget ds 6).toL), .i (t110300_3 (dget ds 0).toL (dget ds 1).toL (dget ds 2).toL (dget ds 3).toL (dget ds 4).toI (dget ds 5).toL (dget ds 6).toL), .l (t110300_4 (dget ds 0).toL (dget ds 1).toL (dget ds 2).toL (dget ds 3).toL (dget ds 4).toI (dget ds 5).toL (dget ds 6).toL), .l (t110300_5 (dget ds 0).toL (dget ds 1).toL (dget ds 2).toL (dget ds 3).toL (dget ds 4).toI (dget ds 5).toL (dget ds 6).toL)]
noncomputable def L110300 (x0 : List DV) (x1 : List DV) (x2 : List DV) (x3 : List DV) (x4 : Int) (x5 : List DV) (x6 : List DV) : Option (List DV) := loopG W110300 C110300 N110300 T110300 [.l x0, .l x1, .l x2, .l x3, .i x4, .l x5, .l x6]
noncomputable def p110300 (x0 : List DV) (x1 : List DV) (x2 : List DV) (x3 : List DV) (x4 : Int) (x5 : List DV) (x6 : List DV) : Bool := (L110300 x0 x1 x2 x3 x4 x5 x6).isSome
noncomputable def r110300_0 (x0 : List DV) (x1 : List DV) (x2 : List DV) (x3 : List DV) (x4 : Int) (x5 : List DV) (x6 : List DV) : Int := (dget ((L110300 x0 x1 x2 x3 x4 x5 x6).getD []) 0).toI
noncomputable def r110300_1 (x0 : List DV) (x1 : List DV) (x2 : List DV) (x3 : List DV) (x4 : Int) (x5 : List DV) (x6 : List DV) : List DV := (dget ((L110300 x0 x1 x2 x3 x4 x5 x6).getD []) 1).toL
noncomputable def r110300_2 (x0 : List DV) (x1 : List DV) (x2 : List DV) (x3 : List DV) (x4 : Int) (x5 : List DV) (x6 : List DV) : List DV := (dget ((L110300 x0 x1 x2 x3 x4 x5 x6).getD []) 2).toL
noncomputable def r110300_3 (x0 : List DV) (x1 : List DV) (x2 : List DV) (x3 : List DV) (x4 : Int) (x5 : List DV) (x6 : List DV) : Int := (dget ((L110300 x0 x1 x2 x3 x4 x5 x6).getD []) 3).toI
noncomputable def r110300_4 (x0 : List DV) (x1 : List DV) (x2 : List DV) (x3 : List DV) (x4 : Int) (x5 : List DV) (x6 : List DV) : List DV := (dget ((L110300 x0 x1 x2 x3 x4 x5 x6).getD []) 4).toL
noncomputable def r110300_5 (x0 : List DV) (x1 : List DV) (x2 : List DV) (x3 : List DV) (x4 : Int) (x5 : List DV) (x6 : List DV) : List DV := (dget ((L110300 x0 x1 x2 x3 x4 x5 x6).getD []) 5).toL
noncomputable def g110300 (ds : List DV) : List DV := [.b (p110300 (dget ds 0).toL (dget ds 1).toL (dget ds 2).toL (dget ds 3).toL (dget ds 4).toI (dget ds 5).toL (dget ds 6).toL), .i (r110300_0 (dget ds 0).toL (dget ds 1).toL (dget ds 2).toL (dget ds 3).toL (dget ds 4).toI (dget ds 5).toL (dget ds 6).toL), .l (r110300_1 (dget ds 0).toL (dget ds 1).toL (dget ds 2).toL (dget ds 3).toL (dget ds 4).toI (dget ds 5).toL (dget ds 6).toL), .l (r110300_2 (dget ds 0).toL (dget ds 1).toL (dget ds 2).toL (dget ds 3).toL (dget ds 4).toI (dget ds 5).toL (dget ds 6).toL), .i (r110300_3 (dget ds 0).toL (dget ds 1).toL (dget ds 2).toL (dget ds 3).toL (dget ds 4).toI (dget ds 5).toL (dget ds 6).toL), .l (r110300_4 (dget ds 0).toL (dget ds 1).toL (dget ds 2).toL (dget ds 3).toL (dget ds 4).toI (dget ds 5).toL (dget ds 6).toL), .l (r110300_5 (dget ds 0).toL (dget ds 1).toL (dget ds 2).toL (dget ds 3).toL (dget ds 4).toI (dget ds 5).toL (dget ds 6).toL)]
def l103_0 : LR := ⟨110300, 7, 5, [1, 0], [(12, .geq (.r 9) (.z 0)), (13, .call 104 [.r 8, .z 1] 0), (14, .call 104 [.r 8, .z 1] 1), (15, .call 113 [.r 0, .r 9] 0), (16, .call 113 [.r 0, .r 9] 1), (17, .eql (.r 16) (.z 1)), (18, .lmk [.i] [.z 1]), (19, .call 114 [.r 14, .r 18] 0), (20, .call 114 [.r 14, .r 18] 1), (21, .itel (.r 17) (.r 20) (.r 14)), (22, .call 104 [.r 7, .z 1] 0), (23, .call 104 [.r 7, .z 1] 1), (24, .call 77 [.r 21, .r 1] 0), (25, .call 77 [.r 21, .r 1] 1), (26, .not (.r 25)), (27, .call 110 [.r 21, .r 1] 0), (28, .call 110 [.r 21, .r 1] 1), (29, .lmk [.i] [.z 1]), (30, .call 114 [.r 23, .r 29] 0), (31, .call 114 [.r 23, .r 29] 1), (32, .itel (.r 26) (.r 31) (.r 23)), (33, .itel (.r 26) (.r 28) (.r 21)), (34, .sub .i64 (.r 9) (.z 1))], [⟨[(.r 12, true)], .r 13⟩, ⟨[(.r 12, true)], .r 15⟩, ⟨[(.r 12, true), (.r 17, true)], .r 19⟩, ⟨[(.r 12, true)], .r 22⟩, ⟨[(.r 12, true)], .r 24⟩, ⟨[(.r 12, true), (.r 26, true)], .r 27⟩, ⟨[(.r 12, true), (.r 26, true)], .r 30⟩], .r 12, [.r 32, .r 33, .r 34, .r 0, .r 0], [.z 0, .r 7, .r 8, .r 9, .r 0, .r 0], [.l, .l, .i, .l, .l]⟩
def s103 : Sig := ⟨[.s (.one (.vec 0)), .s (.one (.vec 1))], [some (.v false [.int .u32] (.h 0)), some (.v false [.int .u32] (.h 1))], [.l, .l], .t [.one (.vec 2), .one (.b (.h 0))], [none, none, some (.v false [.int .u32] (.h 1))], [.b, .l], true⟩
def o103 : Out := ⟨List.append (List.append ([(2, .lmk [] []), (3, .lmk [] []), (4, .call 117 [.r 0] 0), (5, .call 117 [.r 0] 1), (6, .sub .i64 (.r 5) (.z 1))]) (callsAt 7 110300 [.r 1, .r 0, .r 2, .r 3, .r 6, .r 0, .r 0] 0 7)) ([(14, .llen 1 (.r 10)), (15, .gtr (.r 14) (.z 0))]),
  [⟨[], .r 4⟩, ⟨[], .r 7⟩],
  [l103_0],
  [.r 15, .r 9]⟩
noncomputable def p103 (x0 : List DV) (x1 : List DV) : Bool :=
  let x2 : List DV := []
  let x3 : List DV := []
  let x4 := p117 x0
  let x5 := r117_0 x0
  let x6 := IntKind.wrap .i64 (x5 - 1)
  let y7 : List DV := g110300 [.l x1, .l x0, .l x2, .l x3, .i x6, .l x0, .l x0]
  let x7 : Bool := (dget y7 0).toB
  [ow [] x4, ow [] x7].all id
noncomputable def r103_0 (x0 : List DV) (x1 : List DV) : Bool :=
  let x2 : List DV := []
  let x3 : List DV := []
  let x5 := r117_0 x0
  let x6 := IntKind.wrap .i64 (x5 - 1)
  let y10 : List DV := g110300 [.l x1, .l x0, .l x2, .l x3, .i x6, .l x0, .l x0]
  let x10 : List DV := (dget y10 3).toL
  let x14 := ((x10.length / 1 : Nat) : Int)
  let x15 := decide (x14 > 0)
  x15
noncomputable def r103_1 (x0 : List DV) (x1 : List DV) : List DV :=
  let x2 : List DV := []
  let x3 : List DV := []
  let x5 := r117_0 x0
  let x6 := IntKind.wrap .i64 (x5 - 1)
  let y9 : List DV := g110300 [.l x1, .l x0, .l x2, .l x3, .i x6, .l x0, .l x0]
  let x9 : List DV := (dget y9 2).toL
  x9
noncomputable def g103 (ds : List DV) : List DV := [.b (p103 (dget ds 0).toL (dget ds 1).toL), .b (r103_0 (dget ds 0).toL (dget ds 1).toL), .l (r103_1 (dget ds 0).toL (dget ds 1).toL)]
def S103 : Sigs := ⟨[(117, s117), (104, s104), (113, s113), (114, s114), (77, s77), (110, s110)], [], [(0, 110300)], 2⟩

noncomputable def w110500 (x0 : List DV) (x6 : List DV) (x7 : Int) (_x8 : List DV) : Bool :=
  let x9 := decide (x7 ≥ 0)
  let x10 : List DV := [.i 1]
  let x11 := p104 x10 x7
  let x12 := r104_0 x10 x7
  let x13 := p114 x6 x12
  let x14 := r114_0 x6 x12
  let x15 := p101 x14 x14
  let x16 := r101_0 x14 x14
  let x17 := p77 x0 x16
  [ow [(x9, true)] x11, ow [(x9, true)] x13, ow [(x9, true)] x15, ow [(x9, true)] x17].all id
noncomputable def c110500 (_x0 : List DV) (_x6 : List DV) (x7 : Int) (_x8 : List DV) : Bool :=
  let x9 := decide (x7 ≥ 0)
  x9
noncomputable def n110500_0 (x0 : List DV) (x6 : List DV) (x7 : Int) (_x8 : List DV) : List DV :=
  let x10 : List DV := [.i 1]
  let x12 := r104_0 x10 x7
  let x14 := r114_0 x6 x12
  let x16 := r101_0 x14 x14
  let x18 := r77_0 x0 x16
  let x19 := !x18
  let x20 := bif x19 then x14 else x6
  x20
noncomputable def n110500_1 (_x0 : List DV) (_x6 : List DV) (x7 : Int) (_x8 : List DV) : Int :=
  let x21 := IntKind.wrap .i64 (x7 - 1)
  x21
noncomputable def n110500_2 (x0 : List DV) (_x6 : List DV) (_x7 : Int) (_x8 : List DV) : List DV :=
  x0
noncomputable def t110500_0 (_x0 : List DV) (_x6 : List DV) (_x7 : Int) (_x8 : List DV) : Int :=
  0
noncomputable def t110500_1 (_x0 : List DV) (x6 : List DV) (_x7 : Int) (_x8 : List DV) : List DV :=
  x6
noncomputable def t110500_2 (_x0 : List DV) (_x6 : List DV) (x7 : Int) (_x8 : List DV) : Int :=
  x7
noncomputable def t110500_3 (x0 : List DV) (_x6 : List DV) (_x7 : Int) (_x8 : List DV) : List DV :=
  x0
noncomputable def W110500 (ds : List DV) : Bool := w110500 (dget ds 0).toL (dget ds 1).toL (dget ds 2).toI (dget ds 3).toL
noncomputable def C110500 (ds : List DV) : Bool := c110500 (dget ds 0).toL (dget ds 1).toL (dget ds 2).toI (dget ds 3).toL
noncomputable def N110500 (ds : List DV) : List DV := [.l (dget ds 0).toL, .l (n110500_0 (dget ds 0).toL (dget ds 1).toL (dget ds 2).toI (dget ds 3).toL), .i (n110500_1 (dget ds 0).toL (dget ds 1).toL (dget ds 2).toI (dget ds 3).toL), .l (n110500_2 (dget ds 0).toL (dget ds 1).toL (dget ds 2).toI (dget ds 3).toL)]
noncomputable def T110500 (ds : List DV) : List DV := [.i (t110500_0 (dget ds 0).toL (dget ds 1).toL (dget ds 2).toI (dget ds 3).toL), .l (t110500_1 (dget ds 0).toL (dget ds 1).toL (dget ds 2).toI (dget ds 3).toL), .i (t110500_2 (dget ds 0).toL (dget ds 1).toL (dget ds 2).toI (dget ds 3).toL), .l (t110500_3 (dget ds 0).toL (dget ds 1).toL (dget ds 2).toI (dget ds 3).toL)]
noncomputable def L110500 (x0 : List DV) (x1 : List DV) (x2 : Int) (x3 : List DV) : Option (List DV) := loopG W110500 C110500 N110500 T110500 [.l x0, .l x1, .i x2, .l x3]
noncomputable def p110500 (x0 : List DV) (x1 : List DV) (x2 : Int) (x3 : List DV) : Bool := (L110500 x0 x1 x2 x3).isSome
noncomputable def r110500_0 (x0 : List DV) (x1 : List DV) (x2 : Int) (x3 : List DV) : Int := (dget ((L110500 x0 x1 x2 x3).getD []) 0).toI
noncomputable def r110500_1 (x0 : List DV) (x1 : List DV) (x2 : Int) (x3 : List DV) : List DV := (dget ((L110500 x0 x1 x2 x3).getD []) 1).toL
noncomputable def r110500_2 (x0 : List DV) (x1 : List DV) (x2 : Int) (x3 : List DV) : Int := (dget ((L110500 x0 x1 x2 x3).getD []) 2).toI
noncomputable def r110500_3 (x0 : List DV) (x1 : List DV) (x2 : Int) (x3 : List DV) : List DV := (dget ((L110500 x0 x1 x2 x3).getD []) 3).toL
noncomputable def g110500 (ds : List DV) : List DV := [.b (p110500 (dget ds 0).toL (dget ds 1).toL (dget ds 2).toI (dget ds 3).toL), .i (r110500_0 (dget ds 0).toL (dget ds 1).toL (dget ds 2).toI (dget ds 3).toL), .l (r110500_1 (dget ds 0).toL (dget ds 1).toL (dget ds 2).toI (dget ds 3).toL), .i (r110500_2 (dget ds 0).toL (dget ds 1).toL (dget ds 2).toI (dget ds 3).toL), .l (r110500_3 (dget ds 0).toL (dget ds 1).toL (dget ds 2).toI (dget ds 3).toL)]
def l105_0 : LR := ⟨110500, 6, 3, [0], [(9, .geq (.r 7) (.z 0)), (10, .lmk [.i] [.z 1]), (11, .call 104 [.r 10, .r 7] 0), (12, .call 104 [.r 10, .r 7] 1), (13, .call 114 [.r 6, .r 12] 0), (14, .call 114 [.r 6, .r 12] 1), (15, .call 101 [.r 14, .r 14] 0), (16, .call 101 [.r 14, .r 14] 1), (17, .call 77 [.r 0, .r 16] 0), (18, .call 77 [.r 0, .r 16] 1), (19, .not (.r 18)), (20, .itel (.r 19) (.r 14) (.r 6)), (21, .sub .i64 (.r 7) (.z 1))], [⟨[(.r 9, true)], .r 11⟩, ⟨[(.r 9, true)], .r 13⟩, ⟨[(.r 9, true)], .r 15⟩, ⟨[(.r 9, true)], .r 17⟩], .r 9, [.r 20, .r 21, .r 0], [.z 0, .r 6, .r 7, .r 0], [.l, .i, .l]⟩
def s105 : Sig := ⟨[.s (.one (.vec 0))], [some (.v false [.int .u32] (.h 0))], [.l], .t [.one (.vec 1), .one (.b (.h 0))], [none, some (.v false [.int .u32] (.h 1))], [.b, .l], true⟩
def o105 : Out := ⟨List.append (List.append ([(1, .lmk [] []), (2, .call 117 [.r 0] 0), (3, .call 117 [.r 0] 1), (4, .quo .i64 (.r 3) (.z 2)), (5, .add .i64 (.r 4) (.z 1))]) (callsAt 6 110500 [.r 0, .r 1, .r 5, .r 0] 0 5)) ([(11, .call 101 [.r 8, .r 8] 0), (12, .call 101 [.r 8, .r 8] 1), (13, .call 77 [.r 12, .r 0] 0), (14, .call 77 [.r 12, .r 0] 1)]),
  [⟨[], .r 2⟩, ⟨[], .r 6⟩, ⟨[], .r 11⟩, ⟨[], .r 13⟩],
  [l105_0],
  [.r 14, .r 8]⟩
noncomputable def p105 (x0 : List DV) : Bool :=
  let x1 : List DV := []
  let x2 := p117 x0
  let x3 := r117_0 x0
  let x4 := IntKind.wrap .i64 (Int.tdiv x3 2)
  let x5 := IntKind.wrap .i64 (x4 + 1)
  let y6 : List DV := g110500 [.l x0, .l x1, .i x5, .l x0]
  let x6 : Bool := (dget y6 0).toB
  let x8 : List DV := (dget y6 2).toL
  let x11 := p101 x8 x8
  let x12 := r101_0 x8 x8
  let x13 := p77 x12 x0
  [ow [] x2, ow [] x6, ow [] x11, ow [] x13].all id
noncomputable def r105_0 (x0 : List DV) : Bool :=
  let x1 : List DV := []
  let x3 := r117_0 x0
  let x4 := IntKind.wrap .i64 (Int.tdiv x3 2)
  let x5 := IntKind.wrap .i64 (x4 + 1)
  let y8 : List DV := g110500 [.l x0, .l x1, .i x5, .l x0]
  let x8 : List DV := (dget y8 2).toL
  let x12 := r101_0 x8 x8
  let x14 := r77_0 x12 x0
  x14
noncomputable def r105_1 (x0 : List DV) : List DV :=
  let x1 : List DV := []
  let x3 := r117_0 x0
  let x4 := IntKind.wrap .i64 (Int.tdiv x3 2)
  let x5 := IntKind.wrap .i64 (x4 + 1)
  let y8 : List DV := g110500 [.l x0, .l x1, .i x5, .l x0]
  let x8 : List DV := (dget y8 2).toL
  x8
noncomputable def g105 (ds : List DV) : List DV := [.b (p105 (dget ds 0).toL), .b (r105_0 (dget ds 0).toL), .l (r105_1 (dget ds 0).toL)]
def S105 : Sigs := ⟨[(117, s117), (101, s101), (77, s77), (104, s104), (114, s114)], [], [(0, 110500)], 1⟩

def s109 : Sig := ⟨[.s (.one (.i .i64 (.h 0))), .s (.one (.i .i64 (.h 1))), .s (.agg [.b (.h 2), .vec 0, .i .i64 (.h 4)]), .s (.agg [.b (.h 5), .vec 1, .i .i64 (.h 7)])], [some (.v false [.int .u32] (.h 3)), some (.v false [.int .u32] (.h 6))], [.i, .i, .b, .l, .i, .b, .l, .i], .t [.one (.i .u64 (.h 0)), .one (.i .i64 (.h 1))], [], [.i, .i], true⟩
def o109 : Out := ⟨List.append (List.append ([(8, .lss (.r 7) (.r 4)), (9, .itei (.r 8) (.r 7) (.r 4)), (10, .sub .i64 (.r 4) (.r 9)), (11, .call 104 [.r 3, .r 10] 0), (12, .call 104 [.r 3, .r 10] 1), (13, .sub .i64 (.r 7) (.r 9)), (14, .call 104 [.r 6, .r 13] 0), (15, .call 104 [.r 6, .r 13] 1), (16, .lmk [] []), (17, .beq (.r 2) (.r 5)), (18, .call 114 [.r 12, .r 15] 0), (19, .call 114 [.r 12, .r 15] 1), (20, .call 77 [.r 12, .r 15] 0), (21, .call 77 [.r 12, .r 15] 1), (22, .call 110 [.r 15, .r 12] 0), (23, .call 110 [.r 15, .r 12] 1), (24, .call 110 [.r 12, .r 15] 0), (25, .call 110 [.r 12, .r 15] 1), (26, .iteb (.r 21) (.r 5) (.r 2)), (27, .itel (.r 21) (.r 23) (.r 25)), (28, .iteb (.r 17) (.r 2) (.r 26)), (29, .itel (.r 17) (.r 19) (.r 27)), (30, .llen 1 (.r 29)), (31, .eql (.r 30) (.z 0)), (32, .beq (.r 2) (.r 5)), (33, .llen 1 (.r 12)), (34, .eql (.r 33) (.z 0)), (35, .and (.r 32) (.r 34)), (36, .call 85 [.r 0, .r 2] 0), (37, .call 85 [.r 0, .r 2] 1), (38, .not (.r 35)), (39, .eql (.r 1) (.z 2)), (40, .call 85 [.r 0, .r 39] 0), (41, .call 85 [.r 0, .r 39] 1), (42, .not (.r 31))]) (callsAt 43 81 [.r 0, .r 1, .r 28, .r 29, .r 9, .t false] 0 3)) ([(46, .itei (.r 38) (.r 41) (.r 37)), (47, .itei (.r 42) (.r 44) (.r 46)), (48, .itei (.r 42) (.r 45) (.z 0))]),
  [⟨[], .r 11⟩, ⟨[], .r 14⟩, ⟨[(.r 17, true)], .r 18⟩, ⟨[(.r 17, false)], .r 20⟩, ⟨[(.r 17, false), (.r 21, true)], .r 22⟩, ⟨[(.r 17, false), (.r 21, false)], .r 24⟩, ⟨[(.r 31, true), (.r 35, true)], .r 36⟩, ⟨[(.r 31, true), (.r 38, true)], .r 40⟩, ⟨[(.r 42, true)], .r 43⟩],
  [],
  [.r 47, .r 48]⟩
noncomputable def p109 (x0 : Int) (x1 : Int) (x2 : Bool) (x3 : List DV) (x4 : Int) (x5 : Bool) (x6 : List DV) (x7 : Int) : Bool :=
  let x8 := decide (x7 < x4)
  let x9 := bif x8 then x7 else x4
  let x10 := IntKind.wrap .i64 (x4 - x9)
  let x11 := p104 x3 x10
  let x12 := r104_0 x3 x10
  let x13 := IntKind.wrap .i64 (x7 - x9)
  let x14 := p104 x6 x13
  let x15 := r104_0 x6 x13
  let x17 := x2 == x5
  let x18 := p114 x12 x15
  let x19 := r114_0 x12 x15
  let x20 := p77 x12 x15
  let x21 := r77_0 x12 x15
  let x22 := p110 x15 x12
  let x23 := r110_0 x15 x12
  let x24 := p110 x12 x15
  let x25 := r110_0 x12 x15
  let x26 := bif x21 then x5 else x2
  let x27 := bif x21 then x23 else x25
  let x28 := bif x17 then x2 else x26
  let x29 := bif x17 then x19 else x27
  let x30 := ((x29.length / 1 : Nat) : Int)
  let x31 := x30 == 0
  let x32 := x2 == x5
  let x33 := ((x12.length / 1 : Nat) : Int)
  let x34 := x33 == 0
  let x35 := x32 && x34
  let x36 := p85 x0 x2
  let x38 := !x35
  let x39 := x1 == 2
  let x40 := p85 x0 x39
  let x42 := !x31
  let x43 := p81 x0 x1 x28 x29 x9 false
  [ow [] x11, ow [] x14, ow [(x17, true)] x18, ow [(x17, false)] x20, ow [(x17, false), (x21, true)] x22, ow [(x17, false), (x21, false)] x24, ow [(x31, true), (x35, true)] x36, ow [(x31, true), (x38, true)] x40, ow [(x42, true)] x43].all id
noncomputable def r109_0 (x0 : Int) (x1 : Int) (x2 : Bool) (x3 : List DV) (x4 : Int) (x5 : Bool) (x6 : List DV) (x7 : Int) : Int :=
  let x8 := decide (x7 < x4)
  let x9 := bif x8 then x7 else x4
  let x10 := IntKind.wrap .i64 (x4 - x9)
  let x12 := r104_0 x3 x10
  let x13 := IntKind.wrap .i64 (x7 - x9)
  let x15 := r104_0 x6 x13
  let x17 := x2 == x5
  let x19 := r114_0 x12 x15
  let x21 := r77_0 x12 x15
  let x23 := r110_0 x15 x12
  let x25 := r110_0 x12 x15
  let x26 := bif x21 then x5 else x2
  let x27 := bif x21 then x23 else x25
  let x28 := bif x17 then x2 else x26
  let x29 := bif x17 then x19 else x27
  let x30 := ((x29.length / 1 : Nat) : Int)
  let x31 := x30 == 0
  let x32 := x2 == x5
  let x33 := ((x12.length / 1 : Nat) : Int)
  let x34 := x33 == 0
  let x35 := x32 && x34
  let x37 := r85_0 x0 x2
  let x38 := !x35
  let x39 := x1 == 2
  let x41 := r85_0 x0 x39
  let x42 := !x31
  let x44 := r81_0 x0 x1 x28 x29 x9 false
  let x46 := bif x38 then x41 else x37
  let x47 := bif x42 then x44 else x46
  x47
noncomputable def r109_1 (x0 : Int) (x1 : Int) (x2 : Bool) (x3 : List DV) (x4 : Int) (x5 : Bool) (x6 : List DV) (x7 : Int) : Int :=
  let x8 := decide (x7 < x4)
  let x9 := bif x8 then x7 else x4
  let x10 := IntKind.wrap .i64 (x4 - x9)
  let x12 := r104_0 x3 x10
  let x13 := IntKind.wrap .i64 (x7 - x9)
  let x15 := r104_0 x6 x13
  let x17 := x2 == x5
  let x19 := r114_0 x12 x15
  let x21 := r77_0 x12 x15
  let x23 := r110_0 x15 x12
  let x25 := r110_0 x12 x15
  let x26 := bif x21 then x5 else x2
  let x27 := bif x21 then x23 else x25
  let x28 := bif x17 then x2 else x26
  let x29 := bif x17 then x19 else x27
  let x30 := ((x29.length / 1 : Nat) : Int)
  let x31 := x30 == 0
  let x42 := !x31
  let x45 := r81_1 x0 x1 x28 x29 x9 false
  let x48 := bif x42 then x45 else 0
  x48
noncomputable def g109 (ds : List DV) : List DV := [.b (p109 (dget ds 0).toI (dget ds 1).toI (dget ds 2).toB (dget ds 3).toL (dget ds 4).toI (dget ds 5).toB (dget ds 6).toL (dget ds 7).toI), .i (r109_0 (dget ds 0).toI (dget ds 1).toI (dget ds 2).toB (dget ds 3).toL (dget ds 4).toI (dget ds 5).toB (dget ds 6).toL (dget ds 7).toI), .i (r109_1 (dget ds 0).toI (dget ds 1).toI (dget ds 2).toB (dget ds 3).toL (dget ds 4).toI (dget ds 5).toB (dget ds 6).toL (dget ds 7).toI)]
def S109 : Sigs := ⟨[(104, s104), (114, s114), (77, s77), (110, s110), (85, s85), (81, s81)], [], [], 2⟩

def s45 : Sig := ⟨[.s (.one (.i .i64 (.h 0))), .s (.one (.i .i64 (.h 1))), .s (.one (.i .u64 (.h 2))), .s (.one (.i .u64 (.h 3)))], [], [.i, .i, .i, .i], .t [.one (.i .u64 (.h 0)), .one (.i .i64 (.h 1))], [], [.i, .i], true⟩
def o45 : Out := ⟨List.append (List.append (List.append (List.append (List.append (List.append (List.append (List.append ([(4, .call 99 [.r 0, .r 1] 0), (5, .not (.r 4)), (6, .not (.r 5)), (7, .call 74 [.r 0, .r 2] 0), (8, .call 74 [.r 0, .r 2] 1), (9, .call 74 [.r 0, .r 3] 0), (10, .call 74 [.r 0, .r 3] 1), (11, .bne (.r 8) (.r 10)), (12, .lmk [.i, .i] [.r 2, .r 3]), (13, .call 56 [.r 0, .r 2] 0), (14, .call 56 [.r 0, .r 2] 1), (15, .call 61 [.r 0, .r 3] 0), (16, .call 61 [.r 0, .r 3] 1), (17, .and (.r 14) (.r 16)), (18, .call 61 [.r 0, .r 2] 0), (19, .call 61 [.r 0, .r 2] 1), (20, .call 56 [.r 0, .r 3] 0), (21, .call 56 [.r 0, .r 3] 1), (22, .and (.r 19) (.r 21)), (23, .or (.r 17) (.r 22))]) (callsAt 24 100 [.r 0, .r 12, .r 23] 0 4)) ([(28, .call 56 [.r 0, .r 2] 0), (29, .call 56 [.r 0, .r 2] 1), (30, .call 56 [.r 0, .r 3] 0), (31, .call 56 [.r 0, .r 3] 1), (32, .or (.r 29) (.r 31)), (33, .call 84 [.r 0, .r 11] 0), (34, .call 84 [.r 0, .r 11] 1), (35, .call 61 [.r 0, .r 2] 0), (36, .call 61 [.r 0, .r 2] 1), (37, .call 61 [.r 0, .r 3] 0), (38, .call 61 [.r 0, .r 3] 1), (39, .or (.r 36) (.r 38)), (40, .call 85 [.r 0, .r 11] 0), (41, .call 85 [.r 0, .r 11] 1), (42, .not (.r 39)), (43, .iteb (.r 32) (.t false) (.r 42)), (44, .iteb (.r 27) (.t false) (.r 43))])) (callsAt 45 76 [.r 0, .r 2] 0 4)) ([(49, .lmk [] [])])) (callsAt 50 76 [.r 0, .r 3] 0 4)) ([(54, .lmk [] []), (55, .call 101 [.r 48, .r 53] 0), (56, .call 101 [.r 48, .r 53] 1), (57, .add .i64 (.r 47) (.r 52))])) (callsAt 58 81 [.r 0, .r 1, .r 11, .r 56, .r 57, .t false] 0 3)) ([(61, .itei (.r 32) (.r 34) (.r 41)), (62, .itei (.r 27) (.r 25) (.r 61)), (63, .itei (.r 27) (.r 26) (.z 0)), (64, .itei (.r 44) (.r 59) (.r 62)), (65, .itei (.r 44) (.r 60) (.r 63)), (66, .itei (.r 6) (.r 64) (.z 0)), (67, .itei (.r 6) (.r 65) (.z 0))]),
  [⟨[(.r 6, true)], .r 7⟩, ⟨[(.r 6, true)], .r 9⟩, ⟨[(.r 6, true)], .r 13⟩, ⟨[(.r 6, true), (.r 14, true)], .r 15⟩, ⟨[(.r 6, true), (.r 17, false)], .r 18⟩, ⟨[(.r 6, true), (.r 19, true), (.r 17, false)], .r 20⟩, ⟨[(.r 6, true)], .r 24⟩, ⟨[(.r 6, true), (.r 27, false)], .r 28⟩, ⟨[(.r 6, true), (.r 27, false), (.r 29, false)], .r 30⟩, ⟨[(.r 6, true), (.r 27, false), (.r 32, true)], .r 33⟩, ⟨[(.r 6, true), (.r 27, false), (.r 32, false)], .r 35⟩, ⟨[(.r 6, true), (.r 27, false), (.r 32, false), (.r 36, false)], .r 37⟩, ⟨[(.r 6, true), (.r 27, false), (.r 32, false), (.r 39, true)], .r 40⟩, ⟨[(.r 6, true), (.r 44, true)], .r 45⟩, ⟨[(.r 6, true), (.r 44, true)], .r 50⟩, ⟨[(.r 6, true), (.r 44, true)], .r 55⟩, ⟨[(.r 6, true), (.r 44, true)], .r 58⟩],
  [],
  [.r 66, .r 67]⟩
noncomputable def p45 (x0 : Int) (x1 : Int) (x2 : Int) (x3 : Int) : Bool :=
  let x4 := r99_0 x0 x1
  let x5 := !x4
  let x6 := !x5
  let x7 := p74 x0
  let x8 := r74_0 x0 x2
  let x9 := p74 x0
  let x10 := r74_0 x0 x3
  let x11 := x8 != x10
  let x12 : List DV := [.i x2, .i x3]
  let x13 := p56 x0
  let x14 := r56_0 x0 x2
  let x15 := p61 x0
  let x16 := r61_0 x0 x3
  let x17 := x14 && x16
  let x18 := p61 x0
  let x19 := r61_0 x0 x2
  let x20 := p56 x0
  let x21 := r56_0 x0 x3
  let x22 := x19 && x21
  let x23 := x17 || x22
  let x24 := p100 x0 x12 x23
  let x27 := r100_2 x0 x12 x23
  let x28 := p56 x0
  let x29 := r56_0 x0 x2
  let x30 := p56 x0
  let x31 := r56_0 x0 x3
  let x32 := x29 || x31
  let x33 := p84 x0 x11
  let x35 := p61 x0
  let x36 := r61_0 x0 x2
  let x37 := p61 x0
  let x38 := r61_0 x0 x3
  let x39 := x36 || x38
  let x40 := p85 x0 x11
  let x42 := !x39
  let x43 := bif x32 then false else x42
  let x44 := bif x27 then false else x43
  let x45 := p76 x0 x2
  let x47 := r76_1 x0 x2
  let x48 := r76_2 x0 x2
  let x50 := p76 x0 x3
  let x52 := r76_1 x0 x3
  let x53 := r76_2 x0 x3
  let x55 := p101 x48 x53
  let x56 := r101_0 x48 x53
  let x57 := IntKind.wrap .i64 (x47 + x52)
  let x58 := p81 x0 x1 x11 x56 x57 false
  [ow [(x6, true)] x7, ow [(x6, true)] x9, ow [(x6, true)] x13, ow [(x6, true), (x14, true)] x15, ow [(x6, true), (x17, false)] x18, ow [(x6, true), (x19, true), (x17, false)] x20, ow [(x6, true)] x24, ow [(x6, true), (x27, false)] x28, ow [(x6, true), (x27, false), (x29, false)] x30, ow [(x6, true), (x27, false), (x32, true)] x33, ow [(x6, true), (x27, false), (x32, false)] x35, ow [(x6, true), (x27, false), (x32, false), (x36, false)] x37, ow [(x6, true), (x27, false), (x32, false), (x39, true)] x40, ow [(x6, true), (x44, true)] x45, ow [(x6, true), (x44, true)] x50, ow [(x6, true), (x44, true)] x55, ow [(x6, true), (x44, true)] x58].all id
noncomputable def r45_0 (x0 : Int) (x1 : Int) (x2 : Int) (x3 : Int) : Int :=
  let x4 := r99_0 x0 x1
  let x5 := !x4
  let x6 := !x5
  let x8 := r74_0 x0 x2
  let x10 := r74_0 x0 x3
  let x11 := x8 != x10
  let x12 : List DV := [.i x2, .i x3]
  let x14 := r56_0 x0 x2
  let x16 := r61_0 x0 x3
  let x17 := x14 && x16
  let x19 := r61_0 x0 x2
  let x21 := r56_0 x0 x3
  let x22 := x19 && x21
  let x23 := x17 || x22
  let x25 := r100_0 x0 x12 x23
  let x27 := r100_2 x0 x12 x23
  let x29 := r56_0 x0 x2
  let x31 := r56_0 x0 x3
  let x32 := x29 || x31
  let x34 := r84_0 x0 x11
  let x36 := r61_0 x0 x2
  let x38 := r61_0 x0 x3
  let x39 := x36 || x38
  let x41 := r85_0 x0 x11
  let x42 := !x39
  let x43 := bif x32 then false else x42
  let x44 := bif x27 then false else x43
  let x47 := r76_1 x0 x2
  let x48 := r76_2 x0 x2
  let x52 := r76_1 x0 x3
  let x53 := r76_2 x0 x3
  let x56 := r101_0 x48 x53
  let x57 := IntKind.wrap .i64 (x47 + x52)
  let x59 := r81_0 x0 x1 x11 x56 x57 false
  let x61 := bif x32 then x34 else x41
  let x62 := bif x27 then x25 else x61
  let x64 := bif x44 then x59 else x62
  let x66 := bif x6 then x64 else 0
  x66
noncomputable def r45_1 (x0 : Int) (x1 : Int) (x2 : Int) (x3 : Int) : Int :=
  let x4 := r99_0 x0 x1
  let x5 := !x4
  let x6 := !x5
  let x8 := r74_0 x0 x2
  let x10 := r74_0 x0 x3
  let x11 := x8 != x10
  let x12 : List DV := [.i x2, .i x3]
  let x14 := r56_0 x0 x2
  let x16 := r61_0 x0 x3
  let x17 := x14 && x16
  let x19 := r61_0 x0 x2
  let x21 := r56_0 x0 x3
  let x22 := x19 && x21
  let x23 := x17 || x22
  let x26 := r100_1 x0 x12 x23
  let x27 := r100_2 x0 x12 x23
  let x29 := r56_0 x0 x2
  let x31 := r56_0 x0 x3
  let x32 := x29 || x31
  let x36 := r61_0 x0 x2
  let x38 := r61_0 x0 x3
  let x39 := x36 || x38
  let x42 := !x39
  let x43 := bif x32 then false else x42
  let x44 := bif x27 then false else x43
  let x47 := r76_1 x0 x2
  let x48 := r76_2 x0 x2
  let x52 := r76_1 x0 x3
  let x53 := r76_2 x0 x3
  let x56 := r101_0 x48 x53
  let x57 := IntKind.wrap .i64 (x47 + x52)
  let x60 := r81_1 x0 x1 x11 x56 x57 false
  let x63 := bif x27 then x26 else 0
  let x65 := bif x44 then x60 else x63
  let x67 := bif x6 then x65 else 0
  x67
noncomputable def g45 (ds : List DV) : List DV := [.b (p45 (dget ds 0).toI (dget ds 1).toI (dget ds 2).toI (dget ds 3).toI), .i (r45_0 (dget ds 0).toI (dget ds 1).toI (dget ds 2).toI (dget ds 3).toI), .i (r45_1 (dget ds 0).toI (dget ds 1).toI (dget ds 2).toI (dget ds 3).toI)]
def S45 : Sigs := ⟨[(99, s99), (74, s74), (56, s56), (61, s61), (100, s100), (84, s84), (85, s85), (76, s76), (101, s101), (81, s81)], [], [], 0⟩

def s47 : Sig := ⟨[.s (.one (.i .i64 (.h 0))), .s (.one (.i .i64 (.h 1))), .s (.one (.i .u64 (.h 2))), .s (.one (.i .u64 (.h 3)))], [], [.i, .i, .i, .i], .t [.one (.i .u64 (.h 0)), .one (.i .i64 (.h 1))], [], [.i, .i], true⟩
def o47 : Out := ⟨List.append (List.append (List.append (List.append (List.append (List.append (List.append (List.append (List.append (List.append ([(4, .call 99 [.r 0, .r 1] 0), (5, .not (.r 4)), (6, .not (.r 5)), (7, .call 74 [.r 0, .r 2] 0), (8, .call 74 [.r 0, .r 2] 1), (9, .call 74 [.r 0, .r 3] 0), (10, .call 74 [.r 0, .r 3] 1), (11, .bne (.r 8) (.r 10)), (12, .lmk [.i, .i] [.r 2, .r 3]), (13, .call 56 [.r 0, .r 2] 0), (14, .call 56 [.r 0, .r 2] 1), (15, .call 56 [.r 0, .r 3] 0), (16, .call 56 [.r 0, .r 3] 1), (17, .and (.r 14) (.r 16)), (18, .call 61 [.r 0, .r 2] 0), (19, .call 61 [.r 0, .r 2] 1), (20, .call 61 [.r 0, .r 3] 0), (21, .call 61 [.r 0, .r 3] 1), (22, .and (.r 19) (.r 21)), (23, .or (.r 17) (.r 22))]) (callsAt 24 100 [.r 0, .r 12, .r 23] 0 4)) ([(28, .call 56 [.r 0, .r 2] 0), (29, .call 56 [.r 0, .r 2] 1), (30, .call 84 [.r 0, .r 11] 0), (31, .call 84 [.r 0, .r 11] 1), (32, .call 56 [.r 0, .r 3] 0), (33, .call 56 [.r 0, .r 3] 1), (34, .call 61 [.r 0, .r 2] 0), (35, .call 61 [.r 0, .r 2] 1), (36, .or (.r 33) (.r 35)), (37, .call 85 [.r 0, .r 11] 0), (38, .call 85 [.r 0, .r 11] 1), (39, .call 61 [.r 0, .r 3] 0), (40, .call 61 [.r 0, .r 3] 1), (41, .call 84 [.r 0, .r 11] 0), (42, .call 84 [.r 0, .r 11] 1), (43, .not (.r 40)), (44, .iteb (.r 36) (.t false) (.r 43)), (45, .iteb (.r 29) (.t false) (.r 44)), (46, .iteb (.r 27) (.t false) (.r 45))])) (callsAt 47 76 [.r 0, .r 2] 0 4)) ([(51, .lmk [] [])])) (callsAt 52 76 [.r 0, .r 3] 0 4)) ([(56, .lmk [] []), (57, .call 104 [.r 50, .z 130] 0), (58, .call 104 [.r 50, .z 130] 1)])) (callsAt 59 103 [.r 58, .r 55] 0 3)) ([(62, .sub .i64 (.r 49) (.r 54)), (63, .sub .i64 (.r 62) (.z 130))])) (callsAt 64 81 [.r 0, .r 1, .r 11, .r 61, .r 63, .r 60] 0 3)) ([(67, .itei (.r 36) (.r 38) (.r 42)), (68, .itei (.r 36) (.z 0) (.z 8)), (69, .itei (.r 29) (.r 31) (.r 67)), (70, .itei (.r 29) (.z 0) (.r 68)), (71, .itei (.r 27) (.r 25) (.r 69)), (72, .itei (.r 27) (.r 26) (.r 70)), (73, .itei (.r 46) (.r 65) (.r 71)), (74, .itei (.r 46) (.r 66) (.r 72)), (75, .itei (.r 6) (.r 73) (.z 0)), (76, .itei (.r 6) (.r 74) (.z 0))]),
  [⟨[(.r 6, true)], .r 7⟩, ⟨[(.r 6, true)], .r 9⟩, ⟨[(.r 6, true)], .r 13⟩, ⟨[(.r 6, true), (.r 14, true)], .r 15⟩, ⟨[(.r 6, true), (.r 17, false)], .r 18⟩, ⟨[(.r 6, true), (.r 19, true), (.r 17, false)], .r 20⟩, ⟨[(.r 6, true)], .r 24⟩, ⟨[(.r 6, true), (.r 27, false)], .r 28⟩, ⟨[(.r 6, true), (.r 27, false), (.r 29, true)], .r 30⟩, ⟨[(.r 6, true), (.r 27, false), (.r 29, false)], .r 32⟩, ⟨[(.r 6, true), (.r 27, false), (.r 29, false), (.r 33, false)], .r 34⟩, ⟨[(.r 6, true), (.r 27, false), (.r 29, false), (.r 36, true)], .r 37⟩, ⟨[(.r 6, true), (.r 27, false), (.r 29, false), (.r 36, false)], .r 39⟩, ⟨[(.r 6, true), (.r 27, false), (.r 29, false), (.r 36, false), (.r 40, true)], .r 41⟩, ⟨[(.r 6, true), (.r 46, true)], .r 47⟩, ⟨[(.r 6, true), (.r 46, true)], .r 52⟩, ⟨[(.r 6, true), (.r 46, true)], .r 57⟩, ⟨[(.r 6, true), (.r 46, true)], .r 59⟩, ⟨[(.r 6, true), (.r 46, true)], .r 64⟩],
  [],
  [.r 75, .r 76]⟩
noncomputable def p47 (x0 : Int) (x1 : Int) (x2 : Int) (x3 : Int) : Bool :=
  let x4 := r99_0 x0 x1
  let x5 := !x4
  let x6 := !x5
  let x7 := p74 x0
  let x8 := r74_0 x0 x2
  let x9 := p74 x0
  let x10 := r74_0 x0 x3
  let x11 := x8 != x10
  let x12 : List DV := [.i x2, .i x3]
  let x13 := p56 x0
  let x14 := r56_0 x0 x2
  let x15 := p56 x0
  let x16 := r56_0 x0 x3
  let x17 := x14 && x16
  let x18 := p61 x0
  let x19 := r61_0 x0 x2
  let x20 := p61 x0
  let x21 := r61_0 x0 x3
  let x22 := x19 && x21
  let x23 := x17 || x22
  let x24 := p100 x0 x12 x23
  let x27 := r100_2 x0 x12 x23
  let x28 := p56 x0
  let x29 := r56_0 x0 x2
  let x30 := p84 x0 x11
  let x32 := p56 x0
  let x33 := r56_0 x0 x3
  let x34 := p61 x0
  let x35 := r61_0 x0 x2
  let x36 := x33 || x35
  let x37 := p85 x0 x11
  let x39 := p61 x0
  let x40 := r61_0 x0 x3
  let x41 := p84 x0 x11
  let x43 := !x40
  let x44 := bif x36 then false else x43
  let x45 := bif x29 then false else x44
  let x46 := bif x27 then false else x45
  let x47 := p76 x0 x2
  let x49 := r76_1 x0 x2
  let x50 := r76_2 x0 x2
  let x52 := p76 x0 x3
  let x54 := r76_1 x0 x3
  let x55 := r76_2 x0 x3
  let x57 := p104 x50 130
  let x58 := r104_0 x50 130
  let x59 := p103 x58 x55
  let x60 := r103_0 x58 x55
  let x61 := r103_1 x58 x55
  let x62 := IntKind.wrap .i64 (x49 - x54)
  let x63 := IntKind.wrap .i64 (x62 - 130)
  let x64 := p81 x0 x1 x11 x61 x63 x60
  [ow [(x6, true)] x7, ow [(x6, true)] x9, ow [(x6, true)] x13, ow [(x6, true), (x14, true)] x15, ow [(x6, true), (x17, false)] x18, ow [(x6, true), (x19, true), (x17, false)] x20, ow [(x6, true)] x24, ow [(x6, true), (x27, false)] x28, ow [(x6, true), (x27, false), (x29, true)] x30, ow [(x6, true), (x27, false), (x29, false)] x32, ow [(x6, true), (x27, false), (x29, false), (x33, false)] x34, ow [(x6, true), (x27, false), (x29, false), (x36, true)] x37, ow [(x6, true), (x27, false), (x29, false), (x36, false)] x39, ow [(x6, true), (x27, false), (x29, false), (x36, false), (x40, true)] x41, ow [(x6, true), (x46, true)] x47, ow [(x6, true), (x46, true)] x52, ow [(x6, true), (x46, true)] x57, ow [(x6, true), (x46, true)] x59, ow [(x6, true), (x46, true)] x64].all id
noncomputable def r47_0 (x0 : Int) (x1 : Int) (x2 : Int) (x3 : Int) : Int :=
  let x4 := r99_0 x0 x1
  let x5 := !x4
  let x6 := !x5
  let x8 := r74_0 x0 x2
  let x10 := r74_0 x0 x3
  let x11 := x8 != x10
  let x12 : List DV := [.i x2, .i x3]
  let x14 := r56_0 x0 x2
  let x16 := r56_0 x0 x3
  let x17 := x14 && x16
  let x19 := r61_0 x0 x2
  let x21 := r61_0 x0 x3
  let x22 := x19 && x21
  let x23 := x17 || x22
  let x25 := r100_0 x0 x12 x23
  let x27 := r100_2 x0 x12 x23
  let x29 := r56_0 x0 x2
  let x31 := r84_0 x0 x11
  let x33 := r56_0 x0 x3
  let x35 := r61_0 x0 x2
  let x36 := x33 || x35
  let x38 := r85_0 x0 x11
  let x40 := r61_0 x0 x3
  let x42 := r84_0 x0 x11
  let x43 := !x40
  let x44 := bif x36 then false else x43
  let x45 := bif x29 then false else x44
  let x46 := bif x27 then false else x45
  let x49 := r76_1 x0 x2
  let x50 := r76_2 x0 x2
  let x54 := r76_1 x0 x3
  let x55 := r76_2 x0 x3
  let x58 := r104_0 x50 130
  let x60 := r103_0 x58 x55
  let x61 := r103_1 x58 x55
  let x62 := IntKind.wrap .i64 (x49 - x54)
  let x63 := IntKind.wrap .i64 (x62 - 130)
  let x65 := r81_0 x0 x1 x11 x61 x63 x60
  let x67 := bif x36 then x38 else x42
  let x69 := bif x29 then x31 else x67
  let x71 := bif x27 then x25 else x69
  let x73 := bif x46 then x65 else x71
  let x75 := bif x6 then x73 else 0
  x75
noncomputable def r47_1 (x0 : Int) (x1 : Int) (x2 : Int) (x3 : Int) : Int :=
  let x4 := r99_0 x0 x1
  let x5 := !x4
  let x6 := !x5
  let x8 := r74_0 x0 x2
  let x10 := r74_0 x0 x3
  let x11 := x8 != x10
  let x12 : List DV := [.i x2, .i x3]
  let x14 := r56_0 x0 x2
  let x16 := r56_0 x0 x3
  let x17 := x14 && x16
  let x19 := r61_0 x0 x2
  let x21 := r61_0 x0 x3
  let x22 := x19 && x21
  let x23 := x17 || x22
  let x26 := r100_1 x0 x12 x23
  let x27 := r100_2 x0 x12 x23
  let x29 := r56_0 x0 x2
  let x33 := r56_0 x0 x3
  let x35 := r61_0 x0 x2
  let x36 := x33 || x35
  let x40 := r61_0 x0 x3
  let x43 := !x40
  let x44 := bif x36 then false else x43
  let x45 := bif x29 then false else x44
  let x46 := bif x27 then false else x45
  let x49 := r76_1 x0 x2
  let x50 := r76_2 x0 x2
  let x54 := r76_1 x0 x3
  let x55 := r76_2 x0 x3
  let x58 := r104_0 x50 130
  let x60 := r103_0 x58 x55
  let x61 := r103_1 x58 x55
  let x62 := IntKind.wrap .i64 (x49 - x54)
  let x63 := IntKind.wrap .i64 (x62 - 130)
  let x66 := r81_1 x0 x1 x11 x61 x63 x60
  let x68 : Int := bif x36 then 0 else 8
  let x70 := bif x29 then 0 else x68
  let x72 := bif x27 then x26 else x70
  let x74 := bif x46 then x66 else x72
  let x76 := bif x6 then x74 else 0
  x76
noncomputable def g47 (ds : List DV) : List DV := [.b (p47 (dget ds 0).toI (dget ds 1).toI (dget ds 2).toI (dget ds 3).toI), .i (r47_0 (dget ds 0).toI (dget ds 1).toI (dget ds 2).toI (dget ds 3).toI), .i (r47_1 (dget ds 0).toI (dget ds 1).toI (dget ds 2).toI (dget ds 3).toI)]
def S47 : Sigs := ⟨[(99, s99), (74, s74), (56, s56), (61, s61), (100, s100), (84, s84), (85, s85), (76, s76), (104, s104), (103, s103), (81, s81)], [], [], 0⟩

def s49 : Sig := ⟨[.s (.one (.i .i64 (.h 0))), .s (.one (.i .i64 (.h 1))), .s (.one (.i .u64 (.h 2)))], [], [.i, .i, .i], .t [.one (.i .u64 (.h 0)), .one (.i .i64 (.h 1))], [], [.i, .i], true⟩
def o49 : Out := ⟨List.append (List.append (List.append (List.append (List.append (List.append (List.append (List.append ([(3, .call 99 [.r 0, .r 1] 0), (4, .not (.r 3)), (5, .not (.r 4)), (6, .lmk [.i] [.r 2]), (7, .call 39 [.r 0, .r 2] 0), (8, .call 39 [.r 0, .r 2] 1), (9, .not (.r 8)), (10, .call 74 [.r 0, .r 2] 0), (11, .call 74 [.r 0, .r 2] 1), (12, .and (.r 9) (.r 11)), (13, .call 61 [.r 0, .r 2] 0), (14, .call 61 [.r 0, .r 2] 1), (15, .not (.r 14)), (16, .and (.r 12) (.r 15))]) (callsAt 17 100 [.r 0, .r 6, .r 16] 0 4)) ([(21, .not (.r 20)), (22, .call 56 [.r 0, .r 2] 0), (23, .call 56 [.r 0, .r 2] 1), (24, .call 61 [.r 0, .r 2] 0), (25, .call 61 [.r 0, .r 2] 1), (26, .or (.r 23) (.r 25)), (27, .call 42 [.r 0, .r 2] 0), (28, .not (.r 26))])) (callsAt 29 76 [.r 0, .r 2] 0 4)) ([(33, .lmk [] []), (34, .rem .i64 (.r 31) (.z 2)), (35, .neq (.r 34) (.z 0)), (36, .itei (.r 35) (.z 161) (.z 160)), (37, .call 104 [.r 32, .r 36] 0), (38, .call 104 [.r 32, .r 36] 1)])) (callsAt 39 105 [.r 38] 0 3)) ([(42, .sub .i64 (.r 31) (.r 36)), (43, .quo .i64 (.r 42) (.z 2))])) (callsAt 44 81 [.r 0, .r 1, .t false, .r 41, .r 43, .r 40] 0 3)) ([(47, .itei (.r 28) (.r 45) (.r 27)), (48, .itei (.r 28) (.r 46) (.z 0)), (49, .itei (.r 21) (.r 47) (.r 18)), (50, .itei (.r 21) (.r 48) (.r 19)), (51, .itei (.r 5) (.r 49) (.z 0)), (52, .itei (.r 5) (.r 50) (.z 0))]),
  [⟨[(.r 5, true)], .r 7⟩, ⟨[(.r 5, true), (.r 9, true)], .r 10⟩, ⟨[(.r 5, true), (.r 12, true)], .r 13⟩, ⟨[(.r 5, true)], .r 17⟩, ⟨[(.r 5, true), (.r 21, true)], .r 22⟩, ⟨[(.r 5, true), (.r 21, true), (.r 23, false)], .r 24⟩, ⟨[(.r 5, true), (.r 21, true), (.r 28, true)], .r 29⟩, ⟨[(.r 5, true), (.r 21, true), (.r 28, true)], .r 37⟩, ⟨[(.r 5, true), (.r 21, true), (.r 28, true)], .r 39⟩, ⟨[(.r 5, true), (.r 21, true), (.r 28, true)], .r 44⟩],
  [],
  [.r 51, .r 52]⟩
noncomputable def p49 (x0 : Int) (x1 : Int) (x2 : Int) : Bool :=
  let x3 := r99_0 x0 x1
  let x4 := !x3
  let x5 := !x4
  let x6 : List DV := [.i x2]
  let x7 := p39 x0
  let x8 := r39_0 x0 x2
  let x9 := !x8
  let x10 := p74 x0
  let x11 := r74_0 x0 x2
  let x12 := x9 && x11
  let x13 := p61 x0
  let x14 := r61_0 x0 x2
  let x15 := !x14
  let x16 := x12 && x15
  let x17 := p100 x0 x6 x16
  let x20 := r100_2 x0 x6 x16
  let x21 := !x20
  let x22 := p56 x0
  let x23 := r56_0 x0 x2
  let x24 := p61 x0
  let x25 := r61_0 x0 x2
  let x26 := x23 || x25
  let x28 := !x26
  let x29 := p76 x0 x2
  let x31 := r76_1 x0 x2
  let x32 := r76_2 x0 x2
  let x34 := Int.tmod x31 2
  let x35 := x34 != 0
  let x36 : Int := bif x35 then 161 else 160
  let x37 := p104 x32 x36
  let x38 := r104_0 x32 x36
  let x39 := p105 x38
  let x40 := r105_0 x38
  let x41 := r105_1 x38
  let x42 := IntKind.wrap .i64 (x31 - x36)
  let x43 := IntKind.wrap .i64 (Int.tdiv x42 2)
  let x44 := p81 x0 x1 false x41 x43 x40
  [ow [(x5, true)] x7, ow [(x5, true), (x9, true)] x10, ow [(x5, true), (x12, true)] x13, ow [(x5, true)] x17, ow [(x5, true), (x21, true)] x22, ow [(x5, true), (x21, true), (x23, false)] x24, ow [(x5, true), (x21, true), (x28, true)] x29, ow [(x5, true), (x21, true), (x28, true)] x37, ow [(x5, true), (x21, true), (x28, true)] x39, ow [(x5, true), (x21, true), (x28, true)] x44].all id
noncomputable def r49_0 (x0 : Int) (x1 : Int) (x2 : Int) : Int :=
  let x3 := r99_0 x0 x1
  let x4 := !x3
  let x5 := !x4
  let x6 : List DV := [.i x2]
  let x8 := r39_0 x0 x2
  let x9 := !x8
  let x11 := r74_0 x0 x2
  let x12 := x9 && x11
  let x14 := r61_0 x0 x2
  let x15 := !x14
  let x16 := x12 && x15
  let x18 := r100_0 x0 x6 x16
  let x20 := r100_2 x0 x6 x16
  let x21 := !x20
  let x23 := r56_0 x0 x2
  let x25 := r61_0 x0 x2
  let x26 := x23 || x25
  let x27 := r42_0 x0 x2
  let x28 := !x26
  let x31 := r76_1 x0 x2
  let x32 := r76_2 x0 x2
  let x34 := Int.tmod x31 2
  let x35 := x34 != 0
  let x36 : Int := bif x35 then 161 else 160
  let x38 := r104_0 x32 x36
  let x40 := r105_0 x38
  let x41 := r105_1 x38
  let x42 := IntKind.wrap .i64 (x31 - x36)
  let x43 := IntKind.wrap .i64 (Int.tdiv x42 2)
  let x45 := r81_0 x0 x1 false x41 x43 x40
  let x47 := bif x28 then x45 else x27
  let x49 := bif x21 then x47 else x18
  let x51 := bif x5 then x49 else 0
  x51
noncomputable def r49_1 (x0 : Int) (x1 : Int) (x2 : Int) : Int :=
  let x3 := r99_0 x0 x1
  let x4 := !x3
  let x5 := !x4
  let x6 : List DV := [.i x2]
  let x8 := r39_0 x0 x2
  let x9 := !x8
  let x11 := r74_0 x0 x2
  let x12 := x9 && x11
  let x14 := r61_0 x0 x2
  let x15 := !x14
  let x16 := x12 && x15
  let x19 := r100_1 x0 x6 x16
  let x20 := r100_2 x0 x6 x16
  let x21 := !x20
  let x23 := r56_0 x0 x2
  let x25 := r61_0 x0 x2
  let x26 := x23 || x25
  let x28 := !x26
  let x31 := r76_1 x0 x2
  let x32 := r76_2 x0 x2
  let x34 := Int.tmod x31 2
  let x35 := x34 != 0
  let x36 : Int := bif x35 then 161 else 160
  let x38 := r104_0 x32 x36
  let x40 := r105_0 x38
  let x41 := r105_1 x38
  let x42 := IntKind.wrap .i64 (x31 - x36)
  let x43 := IntKind.wrap .i64 (Int.tdiv x42 2)
  let x46 := r81_1 x0 x1 false x41 x43 x40
  let x48 := bif x28 then x46 else 0
  let x50 := bif x21 then x48 else x19
  let x52 := bif x5 then x50 else 0
  x52
noncomputable def g49 (ds : List DV) : List DV := [.b (p49 (dget ds 0).toI (dget ds 1).toI (dget ds 2).toI), .i (r49_0 (dget ds 0).toI (dget ds 1).toI (dget ds 2).toI), .i (r49_1 (dget ds 0).toI (dget ds 1).toI (dget ds 2).toI)]
def S49 : Sigs := ⟨[(99, s99), (39, s39), (74, s74), (61, s61), (100, s100), (56, s56), (42, s42), (76, s76), (104, s104), (105, s105), (81, s81)], [], [], 0⟩

def s51 : Sig := ⟨[.s (.one (.i .i64 (.h 0))), .s (.one (.i .i64 (.h 1))), .s (.one (.i .u64 (.h 2))), .s (.one (.i .u64 (.h 3))), .s (.one (.i .u64 (.h 4)))], [], [.i, .i, .i, .i, .i], .t [.one (.i .u64 (.h 0)), .one (.i .i64 (.h 1))], [], [.i, .i], true⟩
def o51 : Out := ⟨List.append (List.append (List.append (List.append (List.append (List.append (List.append (List.append (List.append ([(5, .call 99 [.r 0, .r 1] 0), (6, .not (.r 5)), (7, .not (.r 6)), (8, .call 74 [.r 0, .r 2] 0), (9, .call 74 [.r 0, .r 2] 1), (10, .call 74 [.r 0, .r 3] 0), (11, .call 74 [.r 0, .r 3] 1), (12, .bne (.r 9) (.r 11)), (13, .call 56 [.r 0, .r 2] 0), (14, .call 56 [.r 0, .r 2] 1), (15, .call 61 [.r 0, .r 3] 0), (16, .call 61 [.r 0, .r 3] 1), (17, .and (.r 14) (.r 16)), (18, .call 61 [.r 0, .r 2] 0), (19, .call 61 [.r 0, .r 2] 1), (20, .call 56 [.r 0, .r 3] 0), (21, .call 56 [.r 0, .r 3] 1), (22, .and (.r 19) (.r 21)), (23, .or (.r 17) (.r 22)), (24, .call 56 [.r 0, .r 2] 0), (25, .call 56 [.r 0, .r 2] 1), (26, .call 56 [.r 0, .r 3] 0), (27, .call 56 [.r 0, .r 3] 1), (28, .or (.r 25) (.r 27)), (29, .call 39 [.r 0, .r 2] 0), (30, .call 39 [.r 0, .r 2] 1), (31, .not (.r 30)), (32, .and (.r 28) (.r 31)), (33, .call 39 [.r 0, .r 3] 0), (34, .call 39 [.r 0, .r 3] 1), (35, .not (.r 34)), (36, .and (.r 32) (.r 35)), (37, .lmk [.i, .i, .i] [.r 2, .r 3, .r 4]), (38, .call 56 [.r 0, .r 4] 0), (39, .call 56 [.r 0, .r 4] 1), (40, .and (.r 36) (.r 39)), (41, .call 74 [.r 0, .r 4] 0), (42, .call 74 [.r 0, .r 4] 1), (43, .bne (.r 42) (.r 12)), (44, .and (.r 40) (.r 43)), (45, .or (.r 23) (.r 44))]) (callsAt 46 100 [.r 0, .r 37, .r 45] 0 4)) ([(50, .call 84 [.r 0, .r 12] 0), (51, .call 84 [.r 0, .r 12] 1), (52, .call 56 [.r 0, .r 4] 0), (53, .call 56 [.r 0, .r 4] 1), (54, .call 42 [.r 0, .r 4] 0), (55, .not (.r 53)), (56, .iteb (.r 36) (.t false) (.r 55)), (57, .iteb (.r 49) (.t false) (.r 56))])) (callsAt 58 76 [.r 0, .r 2] 0 4)) ([(62, .lmk [] [])])) (callsAt 63 76 [.r 0, .r 3] 0 4)) ([(67, .lmk [] []), (68, .call 101 [.r 61, .r 66] 0), (69, .call 101 [.r 61, .r 66] 1), (70, .add .i64 (.r 60) (.r 65))])) (callsAt 71 76 [.r 0, .r 4] 0 4)) (callsAt 75 109 [.r 0, .r 1, .r 12, .r 69, .r 70, .r 72, .r 74, .r 73] 0 3)) ([(78, .itei (.r 36) (.r 51) (.r 54)), (79, .itei (.r 49) (.r 47) (.r 78)), (80, .itei (.r 49) (.r 48) (.z 0)), (81, .itei (.r 57) (.r 76) (.r 79)), (82, .itei (.r 57) (.r 77) (.r 80)), (83, .itei (.r 7) (.r 81) (.z 0)), (84, .itei (.r 7) (.r 82) (.z 0))]),
  [⟨[(.r 7, true)], .r 8⟩, ⟨[(.r 7, true)], .r 10⟩, ⟨[(.r 7, true)], .r 13⟩, ⟨[(.r 7, true), (.r 14, true)], .r 15⟩, ⟨[(.r 7, true), (.r 17, false)], .r 18⟩, ⟨[(.r 7, true), (.r 19, true), (.r 17, false)], .r 20⟩, ⟨[(.r 7, true)], .r 24⟩, ⟨[(.r 7, true), (.r 25, false)], .r 26⟩, ⟨[(.r 7, true), (.r 28, true)], .r 29⟩, ⟨[(.r 7, true), (.r 32, true)], .r 33⟩, ⟨[(.r 7, true), (.r 36, true), (.r 23, false)], .r 38⟩, ⟨[(.r 7, true), (.r 40, true), (.r 23, false)], .r 41⟩, ⟨[(.r 7, true)], .r 46⟩, ⟨[(.r 7, true), (.r 49, false), (.r 36, true)], .r 50⟩, ⟨[(.r 7, true), (.r 49, false), (.r 36, false)], .r 52⟩, ⟨[(.r 7, true), (.r 57, true)], .r 58⟩, ⟨[(.r 7, true), (.r 57, true)], .r 63⟩, ⟨[(.r 7, true), (.r 57, true)], .r 68⟩, ⟨[(.r 7, true), (.r 57, true)], .r 71⟩, ⟨[(.r 7, true), (.r 57, true)], .r 75⟩],
  [],
  [.r 83, .r 84]⟩
noncomputable def p51 (x0 : Int) (x1 : Int) (x2 : Int) (x3 : Int) (x4 : Int) : Bool :=
  let x5 := r99_0 x0 x1
  let x6 := !x5
  let x7 := !x6
  let x8 := p74 x0
  let x9 := r74_0 x0 x2
  let x10 := p74 x0
  let x11 := r74_0 x0 x3
  let x12 := x9 != x11
  let x13 := p56 x0
  let x14 := r56_0 x0 x2
  let x15 := p61 x0
  let x16 := r61_0 x0 x3
  let x17 := x14 && x16
  let x18 := p61 x0
  let x19 := r61_0 x0 x2
  let x20 := p56 x0
  let x21 := r56_0 x0 x3
  let x22 := x19 && x21
  let x23 := x17 || x22
  let x24 := p56 x0
  let x25 := r56_0 x0 x2
  let x26 := p56 x0
  let x27 := r56_0 x0 x3
  let x28 := x25 || x27
  let x29 := p39 x0
  let x30 := r39_0 x0 x2
  let x31 := !x30
  let x32 := x28 && x31
  let x33 := p39 x0
  let x34 := r39_0 x0 x3
  let x35 := !x34
  let x36 := x32 && x35
  let x37 : List DV := [.i x2, .i x3, .i x4]
  let x38 := p56 x0
  let x39 := r56_0 x0 x4
  let x40 := x36 && x39
  let x41 := p74 x0
  let x42 := r74_0 x0 x4
  let x43 := x42 != x12
  let x44 := x40 && x43
  let x45 := x23 || x44
  let x46 := p100 x0 x37 x45
  let x49 := r100_2 x0 x37 x45
  let x50 := p84 x0 x12
  let x52 := p56 x0
  let x53 := r56_0 x0 x4
  let x55 := !x53
  let x56 := bif x36 then false else x55
  let x57 := bif x49 then false else x56
  let x58 := p76 x0 x2
  let x60 := r76_1 x0 x2
  let x61 := r76_2 x0 x2
  let x63 := p76 x0 x3
  let x65 := r76_1 x0 x3
  let x66 := r76_2 x0 x3
  let x68 := p101 x61 x66
  let x69 := r101_0 x61 x66
  let x70 := IntKind.wrap .i64 (x60 + x65)
  let x71 := p76 x0 x4
  let x72 := r76_0 x0 x4
  let x73 := r76_1 x0 x4
  let x74 := r76_2 x0 x4
  let x75 := p109 x0 x1 x12 x69 x70 x72 x74 x73
  [ow [(x7, true)] x8, ow [(x7, true)] x10, ow [(x7, true)] x13, ow [(x7, true), (x14, true)] x15, ow [(x7, true), (x17, false)] x18, ow [(x7, true), (x19, true), (x17, false)] x20, ow [(x7, true)] x24, ow [(x7, true), (x25, false)] x26, ow [(x7, true), (x28, true)] x29, ow [(x7, true), (x32, true)] x33, ow [(x7, true), (x36, true), (x23, false)] x38, ow [(x7, true), (x40, true), (x23, false)] x41, ow [(x7, true)] x46, ow [(x7, true), (x49, false), (x36, true)] x50, ow [(x7, true), (x49, false), (x36, false)] x52, ow [(x7, true), (x57, true)] x58, ow [(x7, true), (x57, true)] x63, ow [(x7, true), (x57, true)] x68, ow [(x7, true), (x57, true)] x71, ow [(x7, true), (x57, true)] x75].all id
noncomputable def r51_0 (x0 : Int) (x1 : Int) (x2 : Int) (x3 : Int) (x4 : Int) : Int :=
  let x5 := r99_0 x0 x1
  let x6 := !x5
  let x7 := !x6
  let x9 := r74_0 x0 x2
  let x11 := r74_0 x0 x3
  let x12 := x9 != x11
  let x14 := r56_0 x0 x2
  let x16 := r61_0 x0 x3
  let x17 := x14 && x16
  let x19 := r61_0 x0 x2
  let x21 := r56_0 x0 x3
  let x22 := x19 && x21
  let x23 := x17 || x22
  let x25 := r56_0 x0 x2
  let x27 := r56_0 x0 x3
  let x28 := x25 || x27
  let x30 := r39_0 x0 x2
  let x31 := !x30
  let x32 := x28 && x31
  let x34 := r39_0 x0 x3
  let x35 := !x34
  let x36 := x32 && x35
  let x37 : List DV := [.i x2, .i x3, .i x4]
  let x39 := r56_0 x0 x4
  let x40 := x36 && x39
  let x42 := r74_0 x0 x4
  let x43 := x42 != x12
  let x44 := x40 && x43
  let x45 := x23 || x44
  let x47 := r100_0 x0 x37 x45
  let x49 := r100_2 x0 x37 x45
  let x51 := r84_0 x0 x12
  let x53 := r56_0 x0 x4
  let x54 := r42_0 x0 x4
  let x55 := !x53
  let x56 := bif x36 then false else x55
  let x57 := bif x49 then false else x56
  let x60 := r76_1 x0 x2
  let x61 := r76_2 x0 x2
  let x65 := r76_1 x0 x3
  let x66 := r76_2 x0 x3
  let x69 := r101_0 x61 x66
  let x70 := IntKind.wrap .i64 (x60 + x65)
  let x72 := r76_0 x0 x4
  let x73 := r76_1 x0 x4
  let x74 := r76_2 x0 x4
  let x76 := r109_0 x0 x1 x12 x69 x70 x72 x74 x73
  let x78 := bif x36 then x51 else x54
  let x79 := bif x49 then x47 else x78
  let x81 := bif x57 then x76 else x79
  let x83 := bif x7 then x81 else 0
  x83
noncomputable def r51_1 (x0 : Int) (x1 : Int) (x2 : Int) (x3 : Int) (x4 : Int) : Int :=
  let x5 := r99_0 x0 x1
  let x6 := !x5
  let x7 := !x6
  let x9 := r74_0 x0 x2
  let x11 := r74_0 x0 x3
  let x12 := x9 != x11
  let x14 := r56_0 x0 x2
  let x16 := r61_0 x0 x3
  let x17 := x14 && x16
  let x19 := r61_0 x0 x2
  let x21 := r56_0 x0 x3
  let x22 := x19 && x21
  let x23 := x17 || x22
  let x25 := r56_0 x0 x2
  let x27 := r56_0 x0 x3
  let x28 := x25 || x27
  let x30 := r39_0 x0 x2
  let x31 := !x30
  let x32 := x28 && x31
  let x34 := r39_0 x0 x3
  let x35 := !x34
  let x36 := x32 && x35
  let x37 : List DV := [.i x2, .i x3, .i x4]
  let x39 := r56_0 x0 x4
  let x40 := x36 && x39
  let x42 := r74_0 x0 x4
  let x43 := x42 != x12
  let x44 := x40 && x43
  let x45 := x23 || x44
  let x48 := r100_1 x0 x37 x45
  let x49 := r100_2 x0 x37 x45
  let x53 := r56_0 x0 x4
  let x55 := !x53
  let x56 := bif x36 then false else x55
  let x57 := bif x49 then false else x56
  let x60 := r76_1 x0 x2
  let x61 := r76_2 x0 x2
  let x65 := r76_1 x0 x3
  let x66 := r76_2 x0 x3
  let x69 := r101_0 x61 x66
  let x70 := IntKind.wrap .i64 (x60 + x65)
  let x72 := r76_0 x0 x4
  let x73 := r76_1 x0 x4
  let x74 := r76_2 x0 x4
  let x77 := r109_1 x0 x1 x12 x69 x70 x72 x74 x73
  let x80 := bif x49 then x48 else 0
  let x82 := bif x57 then x77 else x80
  let x84 := bif x7 then x82 else 0
  x84
noncomputable def g51 (ds : List DV) : List DV := [.b (p51 (dget ds 0).toI (dget ds 1).toI (dget ds 2).toI (dget ds 3).toI (dget ds 4).toI), .i (r51_0 (dget ds 0).toI (dget ds 1).toI (dget ds 2).toI (dget ds 3).toI (dget ds 4).toI), .i (r51_1 (dget ds 0).toI (dget ds 1).toI (dget ds 2).toI (dget ds 3).toI (dget ds 4).toI)]
def S51 : Sigs := ⟨[(99, s99), (74, s74), (56, s56), (61, s61), (39, s39), (100, s100), (84, s84), (42, s42), (76, s76), (101, s101), (109, s109)], [], [], 0⟩

def s58 : Sig := ⟨[.s (.one (.i .i64 (.h 0))), .s (.one (.i .i64 (.h 1))), .s (.one (.i .u64 (.h 2))), .s (.one (.i .u64 (.h 3)))], [], [.i, .i, .i, .i], .t [.one (.i .u64 (.h 0)), .one (.i .i64 (.h 1))], [], [.i, .i], true⟩
def o58 : Out := ⟨List.append (List.append (List.append (List.append (List.append (List.append ([(4, .call 99 [.r 0, .r 1] 0), (5, .not (.r 4)), (6, .not (.r 5)), (7, .lmk [.i, .i] [.r 2, .r 3]), (8, .call 56 [.r 0, .r 2] 0), (9, .call 56 [.r 0, .r 2] 1), (10, .call 56 [.r 0, .r 3] 0), (11, .call 56 [.r 0, .r 3] 1), (12, .and (.r 9) (.r 11)), (13, .call 74 [.r 0, .r 2] 0), (14, .call 74 [.r 0, .r 2] 1), (15, .call 74 [.r 0, .r 3] 0), (16, .call 74 [.r 0, .r 3] 1), (17, .bne (.r 14) (.r 16)), (18, .and (.r 12) (.r 17))]) (callsAt 19 100 [.r 0, .r 7, .r 18] 0 4)) ([(23, .call 56 [.r 0, .r 2] 0), (24, .call 56 [.r 0, .r 2] 1), (25, .call 42 [.r 0, .r 2] 0), (26, .call 56 [.r 0, .r 3] 0), (27, .call 56 [.r 0, .r 3] 1), (28, .call 42 [.r 0, .r 3] 0), (29, .not (.r 27)), (30, .iteb (.r 24) (.t false) (.r 29)), (31, .iteb (.r 22) (.t false) (.r 30))])) (callsAt 32 76 [.r 0, .r 2] 0 4)) (callsAt 36 76 [.r 0, .r 3] 0 4)) (callsAt 40 109 [.r 0, .r 1, .r 33, .r 35, .r 34, .r 37, .r 39, .r 38] 0 3)) ([(43, .itei (.r 24) (.r 25) (.r 28)), (44, .itei (.r 22) (.r 20) (.r 43)), (45, .itei (.r 22) (.r 21) (.z 0)), (46, .itei (.r 31) (.r 41) (.r 44)), (47, .itei (.r 31) (.r 42) (.r 45)), (48, .itei (.r 6) (.r 46) (.z 0)), (49, .itei (.r 6) (.r 47) (.z 0))]),
  [⟨[(.r 6, true)], .r 8⟩, ⟨[(.r 6, true), (.r 9, true)], .r 10⟩, ⟨[(.r 6, true), (.r 12, true)], .r 13⟩, ⟨[(.r 6, true), (.r 12, true)], .r 15⟩, ⟨[(.r 6, true)], .r 19⟩, ⟨[(.r 6, true), (.r 22, false)], .r 23⟩, ⟨[(.r 6, true), (.r 22, false), (.r 24, false)], .r 26⟩, ⟨[(.r 6, true), (.r 31, true)], .r 32⟩, ⟨[(.r 6, true), (.r 31, true)], .r 36⟩, ⟨[(.r 6, true), (.r 31, true)], .r 40⟩],
  [],
  [.r 48, .r 49]⟩
noncomputable def p58 (x0 : Int) (x1 : Int) (x2 : Int) (x3 : Int) : Bool :=
  let x4 := r99_0 x0 x1
  let x5 := !x4
  let x6 := !x5
  let x7 : List DV := [.i x2, .i x3]
  let x8 := p56 x0
  let x9 := r56_0 x0 x2
  let x10 := p56 x0
  let x11 := r56_0 x0 x3
  let x12 := x9 && x11
  let x13 := p74 x0
  let x14 := r74_0 x0 x2
  let x15 := p74 x0
  let x16 := r74_0 x0 x3
  let x17 := x14 != x16
  let x18 := x12 && x17
  let x19 := p100 x0 x7 x18
  let x22 := r100_2 x0 x7 x18
  let x23 := p56 x0
  let x24 := r56_0 x0 x2
  let x26 := p56 x0
  let x27 := r56_0 x0 x3
  let x29 := !x27
  let x30 := bif x24 then false else x29
  let x31 := bif x22 then false else x30
  let x32 := p76 x0 x2
  let x33 := r76_0 x0 x2
  let x34 := r76_1 x0 x2
  let x35 := r76_2 x0 x2
  let x36 := p76 x0 x3
  let x37 := r76_0 x0 x3
  let x38 := r76_1 x0 x3
  let x39 := r76_2 x0 x3
  let x40 := p109 x0 x1 x33 x35 x34 x37 x39 x38
  [ow [(x6, true)] x8, ow [(x6, true), (x9, true)] x10, ow [(x6, true), (x12, true)] x13, ow [(x6, true), (x12, true)] x15, ow [(x6, true)] x19, ow [(x6, true), (x22, false)] x23, ow [(x6, true), (x22, false), (x24, false)] x26, ow [(x6, true), (x31, true)] x32, ow [(x6, true), (x31, true)] x36, ow [(x6, true), (x31, true)] x40].all id
noncomputable def r58_0 (x0 : Int) (x1 : Int) (x2 : Int) (x3 : Int) : Int :=
  let x4 := r99_0 x0 x1
  let x5 := !x4
  let x6 := !x5
  let x7 : List DV := [.i x2, .i x3]
  let x9 := r56_0 x0 x2
  let x11 := r56_0 x0 x3
  let x12 := x9 && x11
  let x14 := r74_0 x0 x2
  let x16 := r74_0 x0 x3
  let x17 := x14 != x16
  let x18 := x12 && x17
  let x20 := r100_0 x0 x7 x18
  let x22 := r100_2 x0 x7 x18
  let x24 := r56_0 x0 x2
  let x25 := r42_0 x0 x2
  let x27 := r56_0 x0 x3
  let x28 := r42_0 x0 x3
  let x29 := !x27
  let x30 := bif x24 then false else x29
  let x31 := bif x22 then false else x30
  let x33 := r76_0 x0 x2
  let x34 := r76_1 x0 x2
  let x35 := r76_2 x0 x2
  let x37 := r76_0 x0 x3
  let x38 := r76_1 x0 x3
  let x39 := r76_2 x0 x3
  let x41 := r109_0 x0 x1 x33 x35 x34 x37 x39 x38
  let x43 := bif x24 then x25 else x28
  let x44 := bif x22 then x20 else x43
  let x46 := bif x31 then x41 else x44
  let x48 := bif x6 then x46 else 0
  x48
noncomputable def r58_1 (x0 : Int) (x1 : Int) (x2 : Int) (x3 : Int) : Int :=
  let x4 := r99_0 x0 x1
  let x5 := !x4
  let x6 := !x5
  let x7 : List DV := [.i x2, .i x3]
  let x9 := r56_0 x0 x2
  let x11 := r56_0 x0 x3
  let x12 := x9 && x11
  let x14 := r74_0 x0 x2
  let x16 := r74_0 x0 x3
  let x17 := x14 != x16
  let x18 := x12 && x17
  let x21 := r100_1 x0 x7 x18
  let x22 := r100_2 x0 x7 x18
  let x24 := r56_0 x0 x2
  let x27 := r56_0 x0 x3
  let x29 := !x27
  let x30 := bif x24 then false else x29
  let x31 := bif x22 then false else x30
  let x33 := r76_0 x0 x2
  let x34 := r76_1 x0 x2
  let x35 := r76_2 x0 x2
  let x37 := r76_0 x0 x3
  let x38 := r76_1 x0 x3
  let x39 := r76_2 x0 x3
  let x42 := r109_1 x0 x1 x33 x35 x34 x37 x39 x38
  let x45 := bif x22 then x21 else 0
  let x47 := bif x31 then x42 else x45
  let x49 := bif x6 then x47 else 0
  x49
noncomputable def g58 (ds : List DV) : List DV := [.b (p58 (dget ds 0).toI (dget ds 1).toI (dget ds 2).toI (dget ds 3).toI), .i (r58_0 (dget ds 0).toI (dget ds 1).toI (dget ds 2).toI (dget ds 3).toI), .i (r58_1 (dget ds 0).toI (dget ds 1).toI (dget ds 2).toI (dget ds 3).toI)]
def S58 : Sigs := ⟨[(99, s99), (56, s56), (74, s74), (100, s100), (42, s42), (76, s76), (109, s109)], [], [], 0⟩

def s60 : Sig := ⟨[.s (.one (.i .i64 (.h 0))), .s (.one (.i .i64 (.h 1))), .s (.one (.i .u64 (.h 2))), .s (.one (.i .u64 (.h 3)))], [], [.i, .i, .i, .i], .t [.one (.i .u64 (.h 0)), .one (.i .i64 (.h 1))], [], [.i, .i], true⟩
def o60 : Out := ⟨List.append (List.append ([(4, .call 99 [.r 0, .r 1] 0), (5, .not (.r 4)), (6, .not (.r 5)), (7, .call 85 [.r 0, .t true] 0), (8, .call 85 [.r 0, .t true] 1), (9, .lxor .u64 (.r 3) (.r 8))]) (callsAt 10 58 [.r 0, .r 1, .r 2, .r 9] 0 3)) ([(13, .itei (.r 6) (.r 11) (.z 0)), (14, .itei (.r 6) (.r 12) (.z 0))]),
  [⟨[(.r 6, true)], .r 7⟩, ⟨[(.r 6, true)], .r 10⟩],
  [],
  [.r 13, .r 14]⟩
noncomputable def p60 (x0 : Int) (x1 : Int) (x2 : Int) (x3 : Int) : Bool :=
  let x4 := r99_0 x0 x1
  let x5 := !x4
  let x6 := !x5
  let x7 := p85 x0 true
  let x8 := r85_0 x0 true
  let x9 := ilxor .u64 x3 x8
  let x10 := p58 x0 x1 x2 x9
  [ow [(x6, true)] x7, ow [(x6, true)] x10].all id
noncomputable def r60_0 (x0 : Int) (x1 : Int) (x2 : Int) (x3 : Int) : Int :=
  let x4 := r99_0 x0 x1
  let x5 := !x4
  let x6 := !x5
  let x8 := r85_0 x0 true
  let x9 := ilxor .u64 x3 x8
  let x11 := r58_0 x0 x1 x2 x9
  let x13 := bif x6 then x11 else 0
  x13
noncomputable def r60_1 (x0 : Int) (x1 : Int) (x2 : Int) (x3 : Int) : Int :=
  let x4 := r99_0 x0 x1
  let x5 := !x4
  let x6 := !x5
  let x8 := r85_0 x0 true
  let x9 := ilxor .u64 x3 x8
  let x12 := r58_1 x0 x1 x2 x9
  let x14 := bif x6 then x12 else 0
  x14
noncomputable def g60 (ds : List DV) : List DV := [.b (p60 (dget ds 0).toI (dget ds 1).toI (dget ds 2).toI (dget ds 3).toI), .i (r60_0 (dget ds 0).toI (dget ds 1).toI (dget ds 2).toI (dget ds 3).toI), .i (r60_1 (dget ds 0).toI (dget ds 1).toI (dget ds 2).toI (dget ds 3).toI)]
def S60 : Sigs := ⟨[(99, s99), (85, s85), (58, s58)], [], [], 0⟩

def s43 : Sig := ⟨[], [], [], .s (.one (.b (.h 0))), [], [.b], true⟩
def o43 : Out := ⟨List.append (List.append (List.append (List.append (List.append (callsAt 0 54 [.z 4, .z 0, .z 1065353216, .z 1065353216] 0 3) (callsAt 3 46 [.z 4, .z 0, .z 1065353216, .z 1077936128] 0 3)) (callsAt 6 48 [.z 4, .z 0, .z 3212836864] 0 3)) (callsAt 9 50 [.z 4, .z 0, .z 1065353217, .z 1065353217, .z 3212836866] 0 3)) (callsAt 12 44 [.z 4, .z 3, .z 1, .z 1056964608] 0 3)) ([(15, .eql (.r 1) (.z 1073741824)), (16, .eql (.r 2) (.z 0)), (17, .and (.r 15) (.r 16)), (18, .eql (.r 4) (.z 1051372203)), (19, .and (.r 17) (.r 18)), (20, .eql (.r 5) (.z 1)), (21, .and (.r 19) (.r 20)), (22, .eql (.r 7) (.z 2143289344)), (23, .and (.r 21) (.r 22)), (24, .eql (.r 8) (.z 16)), (25, .and (.r 23) (.r 24)), (26, .eql (.r 10) (.z 679477248)), (27, .and (.r 25) (.r 26)), (28, .eql (.r 11) (.z 0)), (29, .and (.r 27) (.r 28)), (30, .eql (.r 13) (.z 1)), (31, .and (.r 29) (.r 30)), (32, .eql (.r 14) (.z 3)), (33, .and (.r 31) (.r 32))]),
  [⟨[], .r 0⟩, ⟨[], .r 3⟩, ⟨[], .r 6⟩, ⟨[], .r 9⟩, ⟨[], .r 12⟩],
  [],
  [.r 33]⟩
noncomputable def p43  : Bool :=
  let x0 := p54 4 0 1065353216 1065353216
  let x3 := p46 4 0 1065353216 1077936128
  let x6 := p48 4 0 3212836864
  let x9 := p50 4 0 1065353217 1065353217 3212836866
  let x12 := p44 4 3 1 1056964608
  [ow [] x0, ow [] x3, ow [] x6, ow [] x9, ow [] x12].all id
noncomputable def r43_0  : Bool :=
  let x1 := r54_0 4 0 1065353216 1065353216
  let x2 := r54_1 4 0 1065353216 1065353216
  let x4 := r46_0 4 0 1065353216 1077936128
  let x5 := r46_1 4 0 1065353216 1077936128
  let x7 := r48_0 4 0 3212836864
  let x8 := r48_1 4 0 3212836864
  let x10 := r50_0 4 0 1065353217 1065353217 3212836866
  let x11 := r50_1 4 0 1065353217 1065353217 3212836866
  let x13 := r44_0 4 3 1 1056964608
  let x14 := r44_1 4 3 1 1056964608
  let x15 := x1 == 1073741824
  let x16 := x2 == 0
  let x17 := x15 && x16
  let x18 := x4 == 1051372203
  let x19 := x17 && x18
  let x20 := x5 == 1
  let x21 := x19 && x20
  let x22 := x7 == 2143289344
  let x23 := x21 && x22
  let x24 := x8 == 16
  let x25 := x23 && x24
  let x26 := x10 == 679477248
  let x27 := x25 && x26
  let x28 := x11 == 0
  let x29 := x27 && x28
  let x30 := x13 == 1
  let x31 := x29 && x30
  let x32 := x14 == 3
  let x33 := x31 && x32
  x33
noncomputable def g43 (_ds : List DV) : List DV := [.b (p43 ), .b (r43_0 )]
def S43 : Sigs := ⟨[(54, s54), (46, s46), (48, s48), (50, s50), (44, s44)], [], [], 0⟩

def s10 : Sig := ⟨[.s (.one (.i .i64 (.h 0))), .s (.one (.i .i64 (.h 1))), .s (.one (.i .u64 (.h 2))), .s (.one (.i .u64 (.h 3)))], [], [.i, .i, .i, .i], .s (.one (.b (.h 0))), [], [.b], true⟩
def o10 : Out := ⟨List.append (List.append (List.append ([(4, .call 43 [] 0), (5, .call 43 [] 1), (6, .not (.r 5)), (7, .not (.r 6))]) (callsAt 8 44 [.r 0, .r 1, .r 2, .r 3] 0 3)) (callsAt 11 45 [.r 0, .r 1, .r 2, .r 3] 0 3)) ([(14, .eql (.r 9) (.r 12)), (15, .eql (.r 10) (.r 13)), (16, .and (.r 14) (.r 15)), (17, .and (.r 7) (.r 16))]),
  [⟨[], .r 4⟩, ⟨[(.r 7, true)], .r 8⟩, ⟨[(.r 7, true)], .r 11⟩],
  [],
  [.r 17]⟩
noncomputable def p10 (x0 : Int) (x1 : Int) (x2 : Int) (x3 : Int) : Bool :=
  let x4 := p43 
  let x5 := r43_0 
  let x6 := !x5
  let x7 := !x6
  let x8 := p44 x0 x1 x2 x3
  let x11 := p45 x0 x1 x2 x3
  [ow [] x4, ow [(x7, true)] x8, ow [(x7, true)] x11].all id
noncomputable def r10_0 (x0 : Int) (x1 : Int) (x2 : Int) (x3 : Int) : Bool :=
  let x5 := r43_0 
  let x6 := !x5
  let x7 := !x6
  let x9 := r44_0 x0 x1 x2 x3
  let x10 := r44_1 x0 x1 x2 x3
  let x12 := r45_0 x0 x1 x2 x3
  let x13 := r45_1 x0 x1 x2 x3
  let x14 := x9 == x12
  let x15 := x10 == x13
  let x16 := x14 && x15
  let x17 := x7 && x16
  x17
noncomputable def g10 (ds : List DV) : List DV := [.b (p10 (dget ds 0).toI (dget ds 1).toI (dget ds 2).toI (dget ds 3).toI), .b (r10_0 (dget ds 0).toI (dget ds 1).toI (dget ds 2).toI (dget ds 3).toI)]
def S10 : Sigs := ⟨[(43, s43), (44, s44), (45, s45)], [], [], 0⟩

def s11 : Sig := ⟨[.s (.one (.i .i64 (.h 0))), .s (.one (.i .i64 (.h 1))), .s (.one (.i .u64 (.h 2))), .s (.one (.i .u64 (.h 3)))], [], [.i, .i, .i, .i], .s (.one (.b (.h 0))), [], [.b], true⟩
def o11 : Out := ⟨List.append (List.append (List.append ([(4, .call 43 [] 0), (5, .call 43 [] 1), (6, .not (.r 5)), (7, .not (.r 6))]) (callsAt 8 46 [.r 0, .r 1, .r 2, .r 3] 0 3)) (callsAt 11 47 [.r 0, .r 1, .r 2, .r 3] 0 3)) ([(14, .eql (.r 9) (.r 12)), (15, .eql (.r 10) (.r 13)), (16, .and (.r 14) (.r 15)), (17, .and (.r 7) (.r 16))]),
  [⟨[], .r 4⟩, ⟨[(.r 7, true)], .r 8⟩, ⟨[(.r 7, true)], .r 11⟩],
  [],
  [.r 17]⟩
noncomputable def p11 (x0 : Int) (x1 : Int) (x2 : Int) (x3 : Int) : Bool :=
  let x4 := p43 
  let x5 := r43_0 
  let x6 := !x5
  let x7 := !x6
  let x8 := p46 x0 x1 x2 x3
  let x11 := p47 x0 x1 x2 x3
  [ow [] x4, ow [(x7, true)] x8, ow [(x7, true)] x11].all id
noncomputable def r11_0 (x0 : Int) (x1 : Int) (x2 : Int) (x3 : Int) : Bool :=
  let x5 := r43_0 
  let x6 := !x5
  let x7 := !x6
  let x9 := r46_0 x0 x1 x2 x3
  let x10 := r46_1 x0 x1 x2 x3
  let x12 := r47_0 x0 x1 x2 x3
  let x13 := r47_1 x0 x1 x2 x3
  let x14 := x9 == x12
  let x15 := x10 == x13
  let x16 := x14 && x15
  let x17 := x7 && x16
  x17
noncomputable def g11 (ds : List DV) : List DV := [.b (p11 (dget ds 0).toI (dget ds 1).toI (dget ds 2).toI (dget ds 3).toI), .b (r11_0 (dget ds 0).toI (dget ds 1).toI (dget ds 2).toI (dget ds 3).toI)]
def S11 : Sigs := ⟨[(43, s43), (46, s46), (47, s47)], [], [], 0⟩

def s12 : Sig := ⟨[.s (.one (.i .i64 (.h 0))), .s (.one (.i .i64 (.h 1))), .s (.one (.i .u64 (.h 2)))], [], [.i, .i, .i], .s (.one (.b (.h 0))), [], [.b], true⟩
def o12 : Out := ⟨List.append (List.append (List.append ([(3, .call 43 [] 0), (4, .call 43 [] 1), (5, .not (.r 4)), (6, .not (.r 5))]) (callsAt 7 48 [.r 0, .r 1, .r 2] 0 3)) (callsAt 10 49 [.r 0, .r 1, .r 2] 0 3)) ([(13, .eql (.r 8) (.r 11)), (14, .eql (.r 9) (.r 12)), (15, .and (.r 13) (.r 14)), (16, .and (.r 6) (.r 15))]),
  [⟨[], .r 3⟩, ⟨[(.r 6, true)], .r 7⟩, ⟨[(.r 6, true)], .r 10⟩],
  [],
  [.r 16]⟩
noncomputable def p12 (x0 : Int) (x1 : Int) (x2 : Int) : Bool :=
  let x3 := p43 
  let x4 := r43_0 
  let x5 := !x4
  let x6 := !x5
  let x7 := p48 x0 x1 x2
  let x10 := p49 x0 x1 x2
  [ow [] x3, ow [(x6, true)] x7, ow [(x6, true)] x10].all id
noncomputable def r12_0 (x0 : Int) (x1 : Int) (x2 : Int) : Bool :=
  let x4 := r43_0 
  let x5 := !x4
  let x6 := !x5
  let x8 := r48_0 x0 x1 x2
  let x9 := r48_1 x0 x1 x2
  let x11 := r49_0 x0 x1 x2
  let x12 := r49_1 x0 x1 x2
  let x13 := x8 == x11
  let x14 := x9 == x12
  let x15 := x13 && x14
  let x16 := x6 && x15
  x16
noncomputable def g12 (ds : List DV) : List DV := [.b (p12 (dget ds 0).toI (dget ds 1).toI (dget ds 2).toI), .b (r12_0 (dget ds 0).toI (dget ds 1).toI (dget ds 2).toI)]
def S12 : Sigs := ⟨[(43, s43), (48, s48), (49, s49)], [], [], 0⟩

def s13 : Sig := ⟨[.s (.one (.i .i64 (.h 0))), .s (.one (.i .i64 (.h 1))), .s (.one (.i .u64 (.h 2))), .s (.one (.i .u64 (.h 3))), .s (.one (.i .u64 (.h 4)))], [], [.i, .i, .i, .i, .i], .s (.one (.b (.h 0))), [], [.b], true⟩
def o13 : Out := ⟨List.append (List.append (List.append ([(5, .call 43 [] 0), (6, .call 43 [] 1), (7, .not (.r 6)), (8, .not (.r 7))]) (callsAt 9 50 [.r 0, .r 1, .r 2, .r 3, .r 4] 0 3)) (callsAt 12 51 [.r 0, .r 1, .r 2, .r 3, .r 4] 0 3)) ([(15, .eql (.r 10) (.r 13)), (16, .eql (.r 11) (.r 14)), (17, .and (.r 15) (.r 16)), (18, .and (.r 8) (.r 17))]),
  [⟨[], .r 5⟩, ⟨[(.r 8, true)], .r 9⟩, ⟨[(.r 8, true)], .r 12⟩],
  [],
  [.r 18]⟩
noncomputable def p13 (x0 : Int) (x1 : Int) (x2 : Int) (x3 : Int) (x4 : Int) : Bool :=
  let x5 := p43 
  let x6 := r43_0 
  let x7 := !x6
  let x8 := !x7
  let x9 := p50 x0 x1 x2 x3 x4
  let x12 := p51 x0 x1 x2 x3 x4
  [ow [] x5, ow [(x8, true)] x9, ow [(x8, true)] x12].all id
noncomputable def r13_0 (x0 : Int) (x1 : Int) (x2 : Int) (x3 : Int) (x4 : Int) : Bool :=
  let x6 := r43_0 
  let x7 := !x6
  let x8 := !x7
  let x10 := r50_0 x0 x1 x2 x3 x4
  let x11 := r50_1 x0 x1 x2 x3 x4
  let x13 := r51_0 x0 x1 x2 x3 x4
  let x14 := r51_1 x0 x1 x2 x3 x4
  let x15 := x10 == x13
  let x16 := x11 == x14
  let x17 := x15 && x16
  let x18 := x8 && x17
  x18
noncomputable def g13 (ds : List DV) : List DV := [.b (p13 (dget ds 0).toI (dget ds 1).toI (dget ds 2).toI (dget ds 3).toI (dget ds 4).toI), .b (r13_0 (dget ds 0).toI (dget ds 1).toI (dget ds 2).toI (dget ds 3).toI (dget ds 4).toI)]
def S13 : Sigs := ⟨[(43, s43), (50, s50), (51, s51)], [], [], 0⟩

def s17 : Sig := ⟨[.s (.one (.i .i64 (.h 0))), .s (.one (.i .i64 (.h 1))), .s (.one (.i .u64 (.h 2))), .s (.one (.i .u64 (.h 3)))], [], [.i, .i, .i, .i], .s (.one (.b (.h 0))), [], [.b], true⟩
def o17 : Out := ⟨List.append (List.append (List.append (List.append (List.append ([(4, .call 43 [] 0), (5, .call 43 [] 1), (6, .not (.r 5)), (7, .not (.r 6))]) (callsAt 8 54 [.r 0, .r 1, .r 2, .r 3] 0 3)) (callsAt 11 58 [.r 0, .r 1, .r 2, .r 3] 0 3)) (callsAt 14 59 [.r 0, .r 1, .r 2, .r 3] 0 3)) (callsAt 17 60 [.r 0, .r 1, .r 2, .r 3] 0 3)) ([(20, .eql (.r 9) (.r 12)), (21, .eql (.r 10) (.r 13)), (22, .and (.r 20) (.r 21)), (23, .eql (.r 15) (.r 18)), (24, .and (.r 22) (.r 23)), (25, .eql (.r 16) (.r 19)), (26, .and (.r 24) (.r 25)), (27, .and (.r 7) (.r 26))]),
  [⟨[], .r 4⟩, ⟨[(.r 7, true)], .r 8⟩, ⟨[(.r 7, true)], .r 11⟩, ⟨[(.r 7, true)], .r 14⟩, ⟨[(.r 7, true)], .r 17⟩],
  [],
  [.r 27]⟩
noncomputable def p17 (x0 : Int) (x1 : Int) (x2 : Int) (x3 : Int) : Bool :=
  let x4 := p43 
  let x5 := r43_0 
  let x6 := !x5
  let x7 := !x6
  let x8 := p54 x0 x1 x2 x3
  let x11 := p58 x0 x1 x2 x3
  let x14 := p59 x0 x1 x2 x3
  let x17 := p60 x0 x1 x2 x3
  [ow [] x4, ow [(x7, true)] x8, ow [(x7, true)] x11, ow [(x7, true)] x14, ow [(x7, true)] x17].all id
noncomputable def r17_0 (x0 : Int) (x1 : Int) (x2 : Int) (x3 : Int) : Bool :=
  let x5 := r43_0 
  let x6 := !x5
  let x7 := !x6
  let x9 := r54_0 x0 x1 x2 x3
  let x10 := r54_1 x0 x1 x2 x3
  let x12 := r58_0 x0 x1 x2 x3
  let x13 := r58_1 x0 x1 x2 x3
  let x15 := r59_0 x0 x1 x2 x3
  let x16 := r59_1 x0 x1 x2 x3
  let x18 := r60_0 x0 x1 x2 x3
  let x19 := r60_1 x0 x1 x2 x3
  let x20 := x9 == x12
  let x21 := x10 == x13
  let x22 := x20 && x21
  let x23 := x15 == x18
  let x24 := x22 && x23
  let x25 := x16 == x19
  let x26 := x24 && x25
  let x27 := x7 && x26
  x27
noncomputable def g17 (ds : List DV) : List DV := [.b (p17 (dget ds 0).toI (dget ds 1).toI (dget ds 2).toI (dget ds 3).toI), .b (r17_0 (dget ds 0).toI (dget ds 1).toI (dget ds 2).toI (dget ds 3).toI)]
def S17 : Sigs := ⟨[(43, s43), (54, s54), (58, s58), (59, s59), (60, s60)], [], [], 0⟩

end Go.Proofs.Ytacciadcmiiimaa

namespace Go.Proofs.Ytacciadcmiiimaa
open Go Go.Sx
set_option maxRecDepth 100000
set_option maxHeartbeats 4000000

end Go.Proofs.Ytacciadcmiiimaa

namespace Go.Proofs.Ytacciadcmiiimaa
open Go Go.Sx
set_option maxRecDepth 100000
set_option maxHeartbeats 4000000

end Go.Proofs.Ytacciadcmiiimaa

namespace Go.Rnd

def blen (n : Nat) : Nat := if n = 0 then 0 else n.log2 + 1
theorem blen_le {n k : Nat} : blen n ≤ k ↔ n < 2 ^ k := by
  unfold blen
  split
  · rename_i h; subst h; simp [Nat.two_pow_pos]
  · rename_i h; rw [← Nat.log2_lt h]; omega
theorem lt_blen {n k : Nat} : k < blen n ↔ 2 ^ k ≤ n := by
  rw [← Nat.not_le, blen_le, Nat.not_lt]
theorem blen_eq {n k : Nat} (h1 : 2 ^ k ≤ n) (h2 : n < 2 ^ (k + 1)) : blen n = k + 1 := by
  have a := lt_blen.2 h1; have b := blen_le.2 h2; omega
theorem blen_pos {n : Nat} (h : 0 < n) : 0 < blen n := lt_blen.2 (by rw [Nat.pow_zero]; exact h)
theorem blen_self {n : Nat} : n < 2 ^ blen n := blen_le.1 (Nat.le_refl _)
theorem blen_low {n : Nat} (h : 0 < n) : 2 ^ (blen n - 1) ≤ n := lt_blen.1 (by have := blen_pos h; omega)
theorem blen_shift {h j l : Nat} (hh : 0 < h) (hl : l < 2 ^ j) : blen (h * 2 ^ j + l) = blen h + j := by
  have h1 := blen_low hh
  have h2 := blen_self (n := h)
  have h0 := blen_pos hh
  have e : blen h + j = (blen h - 1 + j) + 1 := by omega
  rw [e]
  refine blen_eq ?_ ?_
  · rw [Nat.pow_add]
    exact Nat.le_trans (Nat.mul_le_mul_right _ h1) (Nat.le_add_right _ _)
  · have : (h + 1) * 2 ^ j ≤ 2 ^ blen h * 2 ^ j := Nat.mul_le_mul_right _ h2
    rw [← Nat.pow_add] at this
    have e2 : blen h - 1 + j + 1 = blen h + j := by omega
    rw [e2]
    rw [Nat.add_mul] at this
    omega

def upB (rm : Int) (minus odd half rest : Bool) : Bool :=
  if rm = 0 then half && (rest || odd) else if rm = 2 then minus && (half || rest) else if rm = 3 then !minus && (half || rest) else if rm = 4 then half else false

def cutP (rm : Int) (minus : Bool) (M n : Nat) (more : Bool) : Nat × Bool :=
  (M / 2 ^ n + (if upB rm minus (M / 2 ^ n % 2 == 1) (M / 2 ^ (n - 1) % 2 == 1) (M % 2 ^ (n - 1) != 0 || more) then 1 else 0), M % 2 ^ n == 0 && !more)
def cutN (rm : Int) (minus : Bool) (M : Nat) (b : Int) (more : Bool) : Nat × Bool :=
  if b ≤ 0 then (M * 2 ^ (-b).toNat, !more) else cutP rm minus M b.toNat more

theorem upB_none (rm : Int) (minus odd : Bool) : upB rm minus odd false false = false := by
  unfold upB; simp

theorem cutP_exact {rm : Int} {minus : Bool} {q n : Nat} (hn : 0 < n) : cutP rm minus (q * 2 ^ n) n false = (q, true) := by
  unfold cutP
  have h1 : q * 2 ^ n / 2 ^ n = q := Nat.mul_div_cancel _ (Nat.two_pow_pos n)
  have h2 : q * 2 ^ n % 2 ^ n = 0 := Nat.mul_mod_left _ _
  obtain ⟨m, rfl⟩ : ∃ m, n = m + 1 := ⟨n - 1, by omega⟩
  have h3 : q * 2 ^ (m + 1) / 2 ^ (m + 1 - 1) % 2 = 0 := by
    rw [Nat.add_sub_cancel, Nat.pow_succ, ← Nat.mul_assoc, Nat.mul_right_comm, Nat.mul_div_cancel _ (Nat.two_pow_pos m), Nat.mul_mod_left]
  have h4 : q * 2 ^ (m + 1) % 2 ^ (m + 1 - 1) = 0 := by
    rw [Nat.add_sub_cancel, Nat.pow_succ, ← Nat.mul_assoc, Nat.mul_right_comm, Nat.mul_mod_left]
  rw [h1, h2, h3, h4]
  simp [upB_none]

theorem cutP_near {rm : Int} {minus : Bool} {h j l n : Nat} {more : Bool} (hl : l < 2 ^ j) (hn : 2 ≤ n) :
    cutP rm minus (h * 2 ^ j + l) (n + j) more = cutP rm minus (if l ≠ 0 ∨ more = true then h ||| 1 else h) n false := by
  obtain ⟨m, rfl⟩ : ∃ m, n = m + 2 := ⟨n - 2, by omega⟩
  have hp := Nat.two_pow_pos j
  have d0 : (h * 2 ^ j + l) / 2 ^ j = h := by
    rw [Nat.mul_comm, Nat.mul_add_div hp, Nat.div_eq_of_lt hl, Nat.add_zero]
  have m0 : (h * 2 ^ j + l) % 2 ^ j = l := by
    rw [Nat.mul_comm, Nat.mul_add_mod, Nat.mod_eq_of_lt hl]
  have dv : ∀ k, (h * 2 ^ j + l) / 2 ^ (k + j) = h / 2 ^ k := fun k => by
    rw [Nat.add_comm k j, Nat.pow_add, ← Nat.div_div_eq_div_mul, d0]
  have md : ∀ k, (h * 2 ^ j + l) % 2 ^ (k + j) = 2 ^ j * (h % 2 ^ k) + l := fun k => by
    rw [Nat.add_comm k j, Nat.pow_add, Nat.mod_mul, d0, m0, Nat.add_comm]
  have e1 : m + 2 + j - 1 = (m + 1) + j := by omega
  have dodd : ∀ k, (h ||| 1) / 2 ^ (k + 1) = h / 2 ^ (k + 1) := fun k => by
    rw [← Nat.shiftRight_eq_div_pow, ← Nat.shiftRight_eq_div_pow, Nat.shiftRight_or_distrib]
    have : 1 >>> (k + 1) = 0 := by rw [Nat.shiftRight_eq_div_pow]; exact Nat.div_eq_of_lt (Nat.one_lt_two_pow (by omega))
    rw [this, Nat.or_zero]
  have modd : ∀ k, (h ||| 1) % 2 ^ (k + 1) ≠ 0 := fun k hk => by
    have h1 := congrArg (· % 2) hk
    rw [Nat.pow_succ, Nat.mul_comm, Nat.mod_mul_right_mod] at h1
    have := (Nat.or_mod_two_eq_one (a := h) (b := 1)).2 (Or.inr rfl)
    omega
  have key : ∀ s : Bool, s = decide (l ≠ 0 ∨ more = true) → cutP rm minus (h * 2 ^ j + l) (m + 2 + j) more = cutP rm minus (if s = true then h ||| 1 else h) (m + 2) false := by
    intro s hs
    unfold cutP
    rw [e1, dv (m + 2), dv (m + 1), md (m + 1), md (m + 2)]
    have e2 : m + 2 - 1 = m + 1 := by omega
    rw [e2]
    have a1 : (if s = true then h ||| 1 else h) / 2 ^ (m + 2) = h / 2 ^ (m + 2) := by split; exact dodd (m + 1); rfl
    have a2 : (if s = true then h ||| 1 else h) / 2 ^ (m + 1) = h / 2 ^ (m + 1) := by split; exact dodd m; rfl
    have a3 : ∀ k, ((if s = true then h ||| 1 else h) % 2 ^ (k + 1) = 0) ↔ (2 ^ j * (h % 2 ^ (k + 1)) + l = 0 ∧ more = false) := fun k => by
      have hz : 2 ^ j * (h % 2 ^ (k + 1)) = 0 ↔ h % 2 ^ (k + 1) = 0 := by rw [Nat.mul_eq_zero]; omega
      by_cases hc : l ≠ 0 ∨ more = true
      · rw [hs, if_pos (by simpa using hc)]
        constructor
        · intro h5; exact absurd h5 (modd k)
        · rintro ⟨h5, h6⟩
          rcases hc with hc | hc
          · omega
          · rw [h6] at hc; cases hc
      · rw [hs, if_neg (by simpa using hc)]
        have hl0 : l = 0 := by have := not_or.1 hc; omega
        have hm0 : more = false := by have := (not_or.1 hc).2; simpa using this
        rw [hl0, hm0, Nat.add_zero]; simp [hz]
    have b3 : ∀ k, ((2 ^ j * (h % 2 ^ (k + 1)) + l != 0) || more) = ((if s = true then h ||| 1 else h) % 2 ^ (k + 1) != 0) := fun k => by
      rw [Bool.eq_iff_iff]
      simp only [Bool.or_eq_true, bne_iff_ne, ne_eq]
      rw [a3 k]
      cases more <;> simp
    have b4 : ((2 ^ j * (h % 2 ^ (m + 2)) + l == 0) && !more) = ((if s = true then h ||| 1 else h) % 2 ^ (m + 2) == 0) := by
      rw [Bool.eq_iff_iff]
      simp only [Bool.and_eq_true, beq_iff_eq]
      rw [a3 (m + 1)]
      cases more <;> simp
    rw [a1, a2, b3 m, b4]
    simp
  have := key (decide (l ≠ 0 ∨ more = true)) rfl
  simpa using this

theorem or_one_ge {h : Nat} : h ≤ h ||| 1 := Nat.left_le_or
theorem blen_or_one {h : Nat} (hh : 0 < h) : blen (h ||| 1) = blen h := by
  obtain ⟨k, hk⟩ : ∃ k, blen h = k + 1 := ⟨blen h - 1, by have := blen_pos hh; omega⟩
  rw [hk]
  refine blen_eq (Nat.le_trans (lt_blen.1 (by omega)) or_one_ge) ?_
  exact Nat.or_lt_two_pow (blen_le.1 (by omega)) (Nat.one_lt_two_pow (by omega))

def least (f b : Nat) : Int := 1 - b - f
def lastOf (f b : Nat) (top : Int) : Int := if top - f - 1 < least f b then least f b else top - f - 1
def tinyOf (f b : Nat) (top : Int) (q : Nat) : Bool := decide (top - f - 1 < least f b) && decide ((blen q : Int) + top - f - 1 < least f b + f + 1)
def told (f b : Nat) (rm : Int) (minus : Bool) (last : Int) (c : Nat × Bool) (tiny : Bool) : Nat × Nat :=
  let m := if blen c.1 > f + 1 then c.1 / 2 else c.1
  let la := if blen c.1 > f + 1 then last + 1 else last
  if la + f > b ∧ blen m = f + 1 then ((2 * b + 1) * 2 ^ f - (if rm = 1 ∨ (rm = 2 ∧ minus = false) ∨ (rm = 3 ∧ minus = true) then 1 else 0), 5)
  else ((if blen m = f + 1 then m - 2 ^ f + (la - least f b + 1).toNat * 2 ^ f else m), if c.2 then 0 else if tiny then 3 else 1)
def rnd (f b : Nat) (rm : Int) (minus : Bool) (M : Nat) (E : Int) (more : Bool) : Nat × Nat :=
  told f b rm minus (lastOf f b (blen M + E)) (cutN rm minus M (lastOf f b (blen M + E) - E) more)
    (tinyOf f b (blen M + E) (cutN rm minus M (blen M + E - f - 1 - E) more).1)

theorem cutN_scale {rm : Int} {minus : Bool} {M k : Nat} {b : Int} : cutN rm minus (M * 2 ^ k) (b + k) false = cutN rm minus M b false := by
  unfold cutN
  by_cases h1 : b ≤ 0
  · rw [if_pos h1]
    by_cases h2 : b + k ≤ 0
    · rw [if_pos h2, Nat.mul_assoc, ← Nat.pow_add]
      congr 3; omega
    · rw [if_neg h2]
      obtain ⟨d, rfl⟩ : ∃ d, k = (-b).toNat + d := ⟨k - (-b).toNat, by omega⟩
      have e : (b + ((-b).toNat + d : Nat)).toNat = d := by omega
      rw [e, Nat.pow_add, ← Nat.mul_assoc, cutP_exact (by omega)]
      rfl
  · rw [if_neg h1, if_neg (by omega)]
    have e : (b + k).toNat = b.toNat + k := by omega
    rw [e]
    obtain ⟨n, hn⟩ : ∃ n, b.toNat = n + 1 := ⟨b.toNat - 1, by omega⟩
    rw [hn]
    unfold cutP
    have hp := Nat.two_pow_pos k
    have dv : ∀ x, M * 2 ^ k / 2 ^ (x + k) = M / 2 ^ x := fun x => by rw [Nat.pow_add, Nat.mul_div_mul_right _ _ hp]
    have md : ∀ x, M * 2 ^ k % 2 ^ (x + k) = M % 2 ^ x * 2 ^ k := fun x => by rw [Nat.pow_add, Nat.mul_mod_mul_right]
    have mz : ∀ x, (M % 2 ^ x * 2 ^ k = 0) ↔ M % 2 ^ x = 0 := fun x => by rw [Nat.mul_eq_zero]; omega
    have e2 : n + 1 + k - 1 = n + k := by omega
    rw [e2, dv, dv, md, md, Nat.add_sub_cancel]
    have z1 : ∀ x, (M % 2 ^ x * 2 ^ k != 0) = (M % 2 ^ x != 0) := fun x => by rw [Bool.eq_iff_iff]; simp only [bne_iff_ne, ne_eq, mz]
    have z2 : ∀ x, (M % 2 ^ x * 2 ^ k == 0) = (M % 2 ^ x == 0) := fun x => by rw [Bool.eq_iff_iff]; simp only [beq_iff_eq, mz]
    rw [z1, z2]

theorem rnd_scale {f b : Nat} {rm : Int} {minus : Bool} {M k : Nat} {E : Int} (hM : 0 < M) : rnd f b rm minus (M * 2 ^ k) (E - k) false = rnd f b rm minus M E false := by
  have h1 : (blen (M * 2 ^ k) : Int) + (E - k) = blen M + E := by
    have := blen_shift (h := M) (j := k) (l := 0) hM (Nat.two_pow_pos k)
    rw [Nat.add_zero] at this
    rw [this]; omega
  unfold rnd
  rw [h1]
  have h2 : ∀ x : Int, x - (E - k) = x - E + k := fun x => by omega
  rw [h2, h2, cutN_scale, cutN_scale]

theorem rnd_near {f b : Nat} {rm : Int} {minus : Bool} {h j l : Nat} {e : Int} {more : Bool} (hh : 2 ^ (f + 2) ≤ h) (hl : l < 2 ^ j) :
    rnd f b rm minus (h * 2 ^ j + l) (e - j) more = rnd f b rm minus (if l ≠ 0 ∨ more = true then h ||| 1 else h) e false := by
  have h0 : 0 < h := Nat.lt_of_lt_of_le (Nat.two_pow_pos _) hh
  have hb : f + 2 < blen h := lt_blen.2 hh
  have h1 : (blen (h * 2 ^ j + l) : Int) + (e - j) = blen h + e := by rw [blen_shift h0 hl]; omega
  have h3 : blen (if l ≠ 0 ∨ more = true then h ||| 1 else h) = blen h := by split; exact blen_or_one h0; rfl
  have hc : ∀ x : Int, 2 ≤ x → cutN rm minus (h * 2 ^ j + l) (x + j) more = cutN rm minus (if l ≠ 0 ∨ more = true then h ||| 1 else h) x false := fun x hx => by
    unfold cutN
    rw [if_neg (by omega), if_neg (by omega)]
    have e1 : (x + j).toNat = x.toNat + j := by omega
    rw [e1, cutP_near hl (by omega)]
  unfold rnd
  rw [h1, h3]
  have h2 : ∀ x : Int, x - (e - j) = x - e + j := fun x => by omega
  rw [h2, h2, hc _ (by unfold lastOf; split <;> omega), hc _ (by omega)]
end Go.Rnd

namespace Go.Sx

theorem wrap_u64 (n : Int) : IntKind.wrap .u64 n = n % 18446744073709551616 := by simp [IntKind.wrap, IntKind.signed, IntKind.bits]
theorem wrap_u32 (n : Int) : IntKind.wrap .u32 n = n % 4294967296 := by simp [IntKind.wrap, IntKind.signed, IntKind.bits]
theorem wrap_u8 (n : Int) : IntKind.wrap .u8 n = n % 256 := by simp [IntKind.wrap, IntKind.signed, IntKind.bits]
theorem wrap_i64 (n : Int) : IntKind.wrap .i64 n = if n % 18446744073709551616 ≥ 9223372036854775808 then n % 18446744073709551616 - 18446744073709551616 else n % 18446744073709551616 := by
  simp [IntKind.wrap, IntKind.signed, IntKind.bits]
theorem wrap_i64_of {n : Int} (h0 : -9223372036854775808 ≤ n) (h1 : n < 9223372036854775808) : IntKind.wrap .i64 n = n := by rw [wrap_i64]; split <;> omega
theorem wrap_u64_of {n : Int} (h0 : 0 ≤ n) (h1 : n < 18446744073709551616) : IntKind.wrap .u64 n = n := by rw [wrap_u64]; omega

theorem ofInt_nat {a : Nat} (ha : a < 18446744073709551616) : (BitVec.ofInt 64 (a : Int)).toNat = a := by
  rw [BitVec.ofInt_natCast, BitVec.toNat_ofNat]; exact Nat.mod_eq_of_lt (by omega)
theorem land_nn {a b : Nat} (ha : a < 18446744073709551616) (hb : b < 18446744073709551616) : iland .u64 (a : Int) (b : Int) = ((a &&& b : Nat) : Int) := by
  show IntKind.wrap .u64 ((BitVec.ofInt 64 (a : Int) &&& BitVec.ofInt 64 (b : Int)).toNat : Int) = _
  rw [BitVec.toNat_and, ofInt_nat ha, ofInt_nat hb, wrap_u64]
  have : a &&& b ≤ a := Nat.and_le_left
  omega
theorem lor_nn {a b : Nat} (ha : a < 18446744073709551616) (hb : b < 18446744073709551616) : ilor .u64 (a : Int) (b : Int) = ((a ||| b : Nat) : Int) := by
  show IntKind.wrap .u64 ((BitVec.ofInt 64 (a : Int) ||| BitVec.ofInt 64 (b : Int)).toNat : Int) = _
  rw [BitVec.toNat_or, ofInt_nat ha, ofInt_nat hb, wrap_u64]
  have : a ||| b < 2 ^ 64 := Nat.or_lt_two_pow (by omega) (by omega)
  omega
theorem lxor_nn {a b : Nat} (ha : a < 18446744073709551616) (hb : b < 18446744073709551616) : ilxor .u64 (a : Int) (b : Int) = ((a ^^^ b : Nat) : Int) := by
  show IntKind.wrap .u64 ((BitVec.ofInt 64 (a : Int) ^^^ BitVec.ofInt 64 (b : Int)).toNat : Int) = _
  rw [BitVec.toNat_xor, ofInt_nat ha, ofInt_nat hb, wrap_u64]
  have : a ^^^ b < 2 ^ 64 := Nat.xor_lt_two_pow (by omega) (by omega)
  omega
theorem landNot_nn {a b : Nat} (ha : a < 18446744073709551616) (hb : b < 18446744073709551616) : ilandNot .u64 (a : Int) (b : Int) = ((a &&& (18446744073709551615 - b) : Nat) : Int) := by
  show IntKind.wrap .u64 ((BitVec.ofInt 64 (a : Int) &&& ~~~ BitVec.ofInt 64 (b : Int)).toNat : Int) = _
  rw [BitVec.toNat_and, ofInt_nat ha, BitVec.toNat_not, ofInt_nat hb, wrap_u64]
  have e : 2 ^ 64 - 1 - b = 18446744073709551615 - b := by omega
  rw [e]
  have : a &&& (18446744073709551615 - b) ≤ a := Nat.and_le_left
  omega

theorem int_nat {a : Int} (h0 : 0 ≤ a) : ∃ n : Nat, a = n := ⟨a.toNat, by omega⟩

theorem testBit_parts {k r : Nat} (hr : r < 2 ^ k) (q j : Nat) : (2 ^ k * q + r).testBit j = if j < k then r.testBit j else q.testBit (j - k) := Nat.testBit_two_pow_mul_add q hr j
theorem and_parts {k r s : Nat} (hr : r < 2 ^ k) (hs : s < 2 ^ k) (q q' : Nat) : (2 ^ k * q + r) &&& (2 ^ k * q' + s) = 2 ^ k * (q &&& q') + (r &&& s) := by
  apply Nat.eq_of_testBit_eq
  intro j
  rw [Nat.testBit_and, testBit_parts hr, testBit_parts hs, testBit_parts (Nat.and_lt_two_pow r hs), Nat.testBit_and, Nat.testBit_and]
  split <;> rfl
theorem or_parts {k r s : Nat} (hr : r < 2 ^ k) (hs : s < 2 ^ k) (q q' : Nat) : (2 ^ k * q + r) ||| (2 ^ k * q' + s) = 2 ^ k * (q ||| q') + (r ||| s) := by
  apply Nat.eq_of_testBit_eq
  intro j
  rw [Nat.testBit_or, testBit_parts hr, testBit_parts hs, testBit_parts (Nat.or_lt_two_pow hr hs), Nat.testBit_or, Nat.testBit_or]
  split <;> rfl
theorem xor_parts {k r s : Nat} (hr : r < 2 ^ k) (hs : s < 2 ^ k) (q q' : Nat) : (2 ^ k * q + r) ^^^ (2 ^ k * q' + s) = 2 ^ k * (q ^^^ q') + (r ^^^ s) := by
  apply Nat.eq_of_testBit_eq
  intro j
  rw [Nat.testBit_xor, testBit_parts hr, testBit_parts hs, testBit_parts (Nat.xor_lt_two_pow hr hs), Nat.testBit_xor, Nat.testBit_xor]
  split <;> rfl
theorem split_at (n k : Nat) : 2 ^ k * (n / 2 ^ k) + n % 2 ^ k = n := Nat.div_add_mod n (2 ^ k)
theorem mod_lt (n k : Nat) : n % 2 ^ k < 2 ^ k := Nat.mod_lt _ (Nat.two_pow_pos k)
theorem one_parts (q : Nat) : q &&& 1 = q % 2 ∧ q ||| 1 = q / 2 * 2 + 1 ∧ q ^^^ 1 = q / 2 * 2 + (1 - q % 2) := by
  have h2 : q % 2 < 2 ^ 1 := by omega
  have e : q = 2 ^ 1 * (q / 2) + q % 2 := by omega
  have h1 : (1 : Nat) = 2 ^ 1 * 0 + 1 := rfl
  refine ⟨Nat.and_one_is_mod q, ?_, ?_⟩
  · conv => lhs; rw [e, h1, or_parts h2 (by decide)]
    rw [Nat.or_zero]
    rcases Nat.mod_two_eq_zero_or_one q with h | h <;> rw [h] <;> simp <;> omega
  · conv => lhs; rw [e, h1, xor_parts h2 (by decide)]
    rw [Nat.xor_zero]
    rcases Nat.mod_two_eq_zero_or_one q with h | h <;> rw [h] <;> simp <;> omega
theorem and_bit (n k : Nat) : n &&& 2 ^ k = 2 ^ k * (n / 2 ^ k % 2) := by
  conv => lhs; rw [← split_at n k, show (2 : Nat) ^ k = 2 ^ k * 1 + 0 from by omega, show 2 ^ k * 1 + 0 = 2 ^ k from by omega]
  have := and_parts (mod_lt n k) (Nat.two_pow_pos k) (n / 2 ^ k) 1
  rw [Nat.mul_one, Nat.add_zero] at this
  rw [this, (one_parts _).1, Nat.and_zero, Nat.add_zero]
theorem xor_bit (n k : Nat) : n ^^^ 2 ^ k = if n / 2 ^ k % 2 = 1 then n - 2 ^ k else n + 2 ^ k := by
  have := xor_parts (mod_lt n k) (Nat.two_pow_pos k) (n / 2 ^ k) 1
  rw [Nat.mul_one, Nat.add_zero, split_at, (one_parts _).2.2, Nat.xor_zero] at this
  rw [this]
  have h := split_at n k
  generalize n / 2 ^ k = q at *
  generalize n % 2 ^ k = r at *
  rcases Nat.mod_two_eq_zero_or_one q with hq | hq
  · rw [hq, show q / 2 * 2 + (1 - 0) = q + 1 from by omega, Nat.mul_add]; simp; omega
  · rw [hq, show q / 2 * 2 + (1 - 1) = q - 1 from by omega]
    simp
    have : q = (q - 1) + 1 := by omega
    rw [this, Nat.mul_add] at h
    omega
theorem andNot_bit (n k w : Nat) (hn : n < 2 ^ w) (hk : k < w) : n &&& (2 ^ w - 1 - 2 ^ k) = n - 2 ^ k * (n / 2 ^ k % 2) := by
  have hlt : 2 ^ k < 2 ^ w := Nat.pow_lt_pow_right (by decide) hk
  have h1 : 2 ^ w - 1 - 2 ^ k = (2 ^ w - 1) ^^^ 2 ^ k := by
    rw [xor_bit]
    have : (2 ^ w - 1) / 2 ^ k % 2 = 1 := by
      have := Nat.testBit_two_pow_sub_one w k
      rw [Nat.testBit_eq_decide_div_mod_eq] at this
      simpa [hk] using this
    rw [if_pos this]
  have h2 : n &&& ((2 ^ w - 1) ^^^ 2 ^ k) = n ^^^ (n &&& 2 ^ k) := by
    apply Nat.eq_of_testBit_eq
    intro j
    rw [Nat.testBit_and, Nat.testBit_xor, Nat.testBit_xor, Nat.testBit_and, Nat.testBit_two_pow_sub_one]
    by_cases hj : j < w
    · simp [hj]; cases n.testBit j <;> cases (2 ^ k).testBit j <;> rfl
    · have : n.testBit j = false := Nat.testBit_lt_two_pow (Nat.lt_of_lt_of_le hn (Nat.pow_le_pow_right (by decide) (by omega)))
      simp [this]
  rw [h1, h2, and_bit]
  rcases Nat.mod_two_eq_zero_or_one (n / 2 ^ k) with h | h
  · rw [h]; simp
  · rw [h, Nat.mul_one, xor_bit, if_pos h]

section
variable {a m p : Int}
theorem land_bit (h0 : 0 ≤ a) (h1 : a < 18446744073709551616) (k : Nat) (hk : k < 64) (hm : m = ((2 ^ k : Nat) : Int)) : iland .u64 a m = m * (a / m % 2) := by
  obtain ⟨n, rfl⟩ := int_nat h0
  have : 2 ^ k < 2 ^ 64 := Nat.pow_lt_pow_right (by decide) hk
  rw [hm, land_nn (by omega) (by omega), and_bit]
  simp
theorem landNot_bit (h0 : 0 ≤ a) (h1 : a < 18446744073709551616) (k : Nat) (hk : k < 64) (hm : m = ((2 ^ k : Nat) : Int)) : ilandNot .u64 a m = a - m * (a / m % 2) := by
  obtain ⟨n, rfl⟩ := int_nat h0
  have : 2 ^ k < 2 ^ 64 := Nat.pow_lt_pow_right (by decide) hk
  rw [hm, landNot_nn (by omega) (by omega), show 18446744073709551615 - 2 ^ k = 2 ^ 64 - 1 - 2 ^ k from by omega, andNot_bit n k 64 (by omega) hk]
  have : 2 ^ k * (n / 2 ^ k % 2) ≤ n := by
    have h := split_at n k
    have : 2 ^ k * (n / 2 ^ k % 2) ≤ 2 ^ k * (n / 2 ^ k) := Nat.mul_le_mul_left _ (Nat.mod_le _ _)
    omega
  have e : ((2 ^ k * (n / 2 ^ k % 2) : Nat) : Int) = ((2 ^ k : Nat) : Int) * ((n : Int) / ((2 ^ k : Nat) : Int) % 2) := by simp
  rw [← e]
  omega
theorem shr_of (k : Nat) (hk : k ≤ 64) (hp : p = ((2 ^ k : Nat) : Int)) : ishr .u64 a (k : Int) = a / p := by
  show Int.fdiv a (2 ^ min (k : Int).toNat 64) = _
  have e : min (k : Int).toNat 64 = k := by simp; omega
  rw [e, hp, Int.fdiv_eq_ediv_of_nonneg _ (by exact Int.le_of_lt (Int.pow_pos (by decide)))]
  simp
end
theorem ibeq (x y : Int) : (x == y) = decide (x = y) := by by_cases h : x = y <;> simp [h]
end Go.Sx

namespace Go.Rnd
open Go Go.Sx

theorem ow_t (l : List (Bool × Bool)) : ow l true = true := by simp [ow]
theorem ow_1 (a x b : Bool) : (ow [(a, x)] b = true) = (a = x → b = true) := by
  cases a <;> cases x <;> cases b <;> simp [ow]
theorem ow_2 (a x a' x' b : Bool) : (ow [(a, x), (a', x')] b = true) = (a = x → a' = x' → b = true) := by
  cases a <;> cases x <;> cases a' <;> cases x' <;> cases b <;> simp [ow]
theorem dec (p : Prop) [Decidable p] : (decide p = true) = p := by simp

def dg (k n : Nat) : List DV := (List.range k).map fun i => DV.i ((n / 4294967296 ^ i % 4294967296 : Nat) : Int)
def dlen (n : Nat) : Nat := (blen n + 31) / 32
def big (n : Nat) : List DV := dg (dlen n) n

theorem pow32 (k : Nat) : 4294967296 ^ k = 2 ^ (32 * k) := by rw [Nat.pow_mul]
theorem pw_pos (k : Nat) : 0 < 4294967296 ^ k := Nat.pow_pos (by decide)
theorem dlen_le {n k : Nat} : dlen n ≤ k ↔ n < 4294967296 ^ k := by
  rw [pow32, ← blen_le]; unfold dlen; omega
theorem lt_dlen {n k : Nat} : k < dlen n ↔ 4294967296 ^ k ≤ n := by rw [← Nat.not_le, dlen_le, Nat.not_lt]
theorem dlen_eq {n k : Nat} (h1 : 4294967296 ^ k ≤ n) (h2 : n < 4294967296 ^ (k + 1)) : dlen n = k + 1 := by
  have := lt_dlen.2 h1; have := dlen_le.2 h2; omega
theorem dlen_one : dlen 1 = 1 := dlen_eq (by decide) (by decide)
theorem dlen_mono {a b : Nat} (h : a ≤ b) : dlen a ≤ dlen b := dlen_le.2 (Nat.lt_of_le_of_lt h (dlen_le.1 (Nat.le_refl _)))
theorem dlen_self (n : Nat) : n < 4294967296 ^ dlen n := dlen_le.1 (Nat.le_refl _)
theorem dlen_pos {n : Nat} (h : 0 < n) : 0 < dlen n := lt_dlen.2 (by rw [Nat.pow_zero]; exact h)
theorem dlen_zero_iff {n : Nat} : dlen n = 0 ↔ n = 0 := by
  constructor
  · intro h
    rcases Nat.eq_zero_or_pos n with h0 | h0
    · exact h0
    · have := dlen_pos h0; omega
  · rintro rfl; rfl

theorem dg_zero (n : Nat) : dg 0 n = [] := rfl
theorem dg_len (k n : Nat) : (dg k n).length = k := by simp [dg]
theorem big_len (n : Nat) : (big n).length = dlen n := dg_len _ _
theorem dg_at (k n i : Nat) : (dg k n).getD i default = if i < k then DV.i ((n / 4294967296 ^ i % 4294967296 : Nat) : Int) else .i 0 := by
  unfold dg
  rw [List.getD_eq_getElem?_getD, List.getElem?_map]
  split
  · rename_i h; rw [List.getElem?_range h]; rfl
  · rename_i h; rw [List.getElem?_eq_none (by simpa using h)]; rfl
theorem dg_get {k n : Nat} (h : n < 4294967296 ^ k) (i : Nat) : (dg k n).getD i default = DV.i ((n / 4294967296 ^ i % 4294967296 : Nat) : Int) := by
  rw [dg_at]
  split
  · rfl
  · rename_i hi
    have : n < 4294967296 ^ i := Nat.lt_of_lt_of_le h (Nat.pow_le_pow_right (by decide) (by omega))
    rw [Nat.div_eq_of_lt this]; rfl
theorem big_get (n i : Nat) : (big n).getD i default = DV.i ((n / 4294967296 ^ i % 4294967296 : Nat) : Int) := dg_get (dlen_self n) i
theorem big_at (n i : Nat) : ((big n).getD (Int.toNat (i : Int) * 1 + 0) default).toI = ((n / 4294967296 ^ i % 4294967296 : Nat) : Int) := by
  rw [Int.toNat_natCast, Nat.mul_one, Nat.add_zero, big_get]
theorem dg_take {k m n : Nat} (h : m ≤ k) : (dg k n).take m = dg m n := by
  unfold dg
  rw [← List.map_take, List.take_range, Nat.min_eq_left h]
theorem dig_snoc {k o d i : Nat} (ho : o < 4294967296 ^ k) (hd : d < 4294967296) : (o + d * 4294967296 ^ k) / 4294967296 ^ i % 4294967296 = if i < k then o / 4294967296 ^ i % 4294967296 else if i = k then d else 0 := by
  have hp := pw_pos k
  split
  · rename_i h
    obtain ⟨j, rfl⟩ : ∃ j, k = i + (j + 1) := ⟨k - i - 1, by omega⟩
    have hi := pw_pos i
    rw [Nat.pow_add, Nat.mul_left_comm d, Nat.add_mul_div_left _ _ hi, Nat.pow_succ, ← Nat.mul_assoc, Nat.add_mul_mod_self_right]
  · split
    · rename_i h; subst h
      rw [Nat.add_mul_div_right _ _ hp, Nat.div_eq_of_lt ho, Nat.zero_add, Nat.mod_eq_of_lt hd]
    · have : o + d * 4294967296 ^ k < 4294967296 ^ (k + 1) := by
        rw [Nat.pow_succ]
        have : (d + 1) * 4294967296 ^ k ≤ 4294967296 * 4294967296 ^ k := Nat.mul_le_mul_right _ hd
        rw [Nat.add_mul] at this
        omega
      have h2 : o + d * 4294967296 ^ k < 4294967296 ^ i := Nat.lt_of_lt_of_le this (Nat.pow_le_pow_right (by decide) (by omega))
      rw [Nat.div_eq_of_lt h2, Nat.zero_mod]
theorem dg_snoc {k o d : Nat} (ho : o < 4294967296 ^ k) (hd : d < 4294967296) : dg k o ++ [DV.i (d : Int)] = dg (k + 1) (o + d * 4294967296 ^ k) := by
  unfold dg
  rw [List.range_succ, List.map_append]
  congr 1
  · refine List.map_congr_left fun i hi => ?_
    rw [dig_snoc ho hd, if_pos (List.mem_range.1 hi)]
  · rw [List.map_singleton, dig_snoc ho hd, if_neg (Nat.lt_irrefl _), if_pos rfl]
theorem snoc_lt {k o d : Nat} (ho : o < 4294967296 ^ k) (hd : d < 4294967296) : o + d * 4294967296 ^ k < 4294967296 ^ (k + 1) := by
  have : (d + 1) * 4294967296 ^ k ≤ 4294967296 * 4294967296 ^ k := Nat.mul_le_mul_right _ hd
  rw [Nat.add_mul] at this
  rw [Nat.pow_succ]; omega
theorem dig_lt (n i : Nat) : n / 4294967296 ^ i % 4294967296 < 4294967296 := Nat.mod_lt _ (by decide)
theorem mod_succ (n i : Nat) : n % 4294967296 ^ (i + 1) = n % 4294967296 ^ i + (n / 4294967296 ^ i % 4294967296) * 4294967296 ^ i := by
  rw [Nat.pow_succ, Nat.mod_mul, Nat.mul_comm (4294967296 ^ i) (n / 4294967296 ^ i % 4294967296)]
theorem mod_self {n i : Nat} (h : dlen n ≤ i) : n % 4294967296 ^ i = n := Nat.mod_eq_of_lt (dlen_le.1 h)
theorem dig_zero {n i : Nat} (h : dlen n ≤ i) : n / 4294967296 ^ i % 4294967296 = 0 := by rw [Nat.div_eq_of_lt (dlen_le.1 h)]
theorem dg_one (d : Nat) (hd : d < 4294967296) : dg 1 d = [DV.i (d : Int)] := by
  have := dg_snoc (k := 0) (o := 0) (d := d) (by decide) hd
  rw [dg_zero] at this
  simpa using this.symm
theorem big_one : big 1 = [DV.i 1] := by unfold big; rw [dlen_one]; exact dg_one 1 (by decide)
theorem dg_zeros (k : Nat) : (List.replicate k ([.i 0] : List DV)).flatten = dg k 0 := by
  induction k with
  | zero => rfl
  | succ k ih =>
    rw [List.replicate_succ', List.flatten_concat, ih]
    have := dg_snoc (k := k) (o := 0) (d := 0) (pw_pos k) (by decide)
    simpa using this
theorem wr64 {n : Nat} (h : n < 18446744073709551616) : IntKind.wrap .u64 (n : Int) = n := wrap_u64_of (by omega) (by omega)
theorem wr32 (n : Nat) : IntKind.wrap .u32 (n : Int) = ((n % 4294967296 : Nat) : Int) := by rw [wrap_u32]; rfl
theorem wri {n : Nat} (h : n < 9223372036854775808) : IntKind.wrap .i64 (n : Int) = n := wrap_i64_of (by omega) (by omega)
theorem wri1 {n : Nat} (h : n + 1 < 9223372036854775808) : IntKind.wrap .i64 ((n : Int) + 1) = ((n + 1 : Nat) : Int) := by rw [wrap_i64_of (by omega) (by omega)]; rfl
theorem shr32 (n : Nat) : ishr .u64 (n : Int) 32 = ((n / 4294967296 : Nat) : Int) := by
  rw [show ishr .u64 (n : Int) 32 = (n : Int) / 4294967296 from shr_of 32 (by decide) (by decide)]; omega
end Go.Rnd

namespace Go.Proofs.Ytacciadcmiiimaa
open Go Go.Sx Go.Rnd
set_option maxRecDepth 100000
set_option maxHeartbeats 1000000

theorem trim_w {x : List DV} {k : Int} (_ : 0 ≤ k) (h1 : k ≤ x.length) (hl : (x.length : Int) < 9223372036854775808) : w111600 x k = true := by
  show [ow [(decide (k > 0), true)] (decide (IntKind.wrap .i64 (k - 1) ≥ 0)), ow [(decide (k > 0), true)] (decide (IntKind.wrap .i64 (k - 1) < ((x.length / 1 : Nat) : Int)))].all id = true
  by_cases hk : k > 0
  · rw [wrap_i64_of (by omega) (by omega), decide_eq_true hk, decide_eq_true (show k - 1 ≥ 0 by omega), decide_eq_true (show k - 1 < ((x.length / 1 : Nat) : Int) by rw [Nat.div_one]; omega)]
    rfl
  · rw [decide_eq_false hk]
    simp [ow]
theorem trim_loop {K n : Nat} (hl : K < 9223372036854775808) : ∀ k : Nat, k ≤ K → n < 4294967296 ^ k → L111600 (dg K n) k = some [.i 0, .i (dlen n : Int)]
  | 0, _, hn => by
    have h0 : n = 0 := by simpa using hn
    subst h0
    exact loopG_last (w := W111600) (c := C111600) (nx := N111600) (out := T111600) (s := [.l (dg K 0), .i ((0 : Nat) : Int)]) (show w111600 (dg K 0) ((0 : Nat) : Int) = true from trim_w (by omega) (by omega) (by rw [dg_len]; omega)) rfl
  | k + 1, hk, hn => by
    have hw : w111600 (dg K n) ((k + 1 : Nat) : Int) = true := trim_w (by omega) (by rw [dg_len]; omega) (by rw [dg_len]; omega)
    have e1 : IntKind.wrap .i64 (((k + 1 : Nat) : Int) - 1) = (k : Int) := by rw [wrap_i64_of (by omega) (by omega)]; omega
    have hd : n / 4294967296 ^ k % 4294967296 = n / 4294967296 ^ k := Nat.mod_eq_of_lt (by rw [Nat.div_lt_iff_lt_mul (pw_pos k), Nat.mul_comm, ← Nat.pow_succ]; exact hn)
    have hc : c111600 (dg K n) ((k + 1 : Nat) : Int) = (((n / 4294967296 ^ k : Nat) : Int) == 0) := by
      show (decide (((k + 1 : Nat) : Int) > 0) && (((dg K n).getD (Int.toNat (IntKind.wrap .i64 (((k + 1 : Nat) : Int) - 1)) * 1 + 0) default).toI == 0)) = _
      rw [e1, decide_eq_true (show ((k + 1 : Nat) : Int) > 0 by omega), Int.toNat_natCast, Nat.mul_one, Nat.add_zero, Bool.true_and, dg_at, if_pos (by omega), hd]
    by_cases hz : n < 4294967296 ^ k
    · have hn2 := loopG_next (w := W111600) (c := C111600) (nx := N111600) (out := T111600) (s := [.l (dg K n), .i ((k + 1 : Nat) : Int)]) hw (show c111600 (dg K n) ((k + 1 : Nat) : Int) = true from by rw [hc, Nat.div_eq_of_lt hz]; rfl)
      have he : N111600 [.l (dg K n), .i ((k + 1 : Nat) : Int)] = [.l (dg K n), .i (k : Int)] := by
        show [DV.l (dg K n), .i (IntKind.wrap .i64 (((k + 1 : Nat) : Int) - 1))] = _
        rw [e1]
      rw [he] at hn2
      exact hn2.trans (trim_loop hl k (by omega) hz)
    · have hge : 4294967296 ^ k ≤ n := Nat.le_of_not_lt hz
      have h1 : n / 4294967296 ^ k ≠ 0 := by rw [Nat.ne_zero_iff_zero_lt]; exact Nat.div_pos hge (pw_pos k)
      rw [dlen_eq hge hn]
      exact loopG_last (w := W111600) (c := C111600) (nx := N111600) (out := T111600) (s := [.l (dg K n), .i ((k + 1 : Nat) : Int)]) hw (show c111600 (dg K n) ((k + 1 : Nat) : Int) = false from by rw [hc]; exact beq_eq_false_iff_ne.2 fun h => h1 (Int.natCast_eq_zero.1 h))
theorem trim_ok {K n : Nat} (hl : K < 9223372036854775808) (hn : n < 4294967296 ^ K) : p116 (dg K n) = true ∧ r116_0 (dg K n) = big n := by
  have h2 := trim_loop hl K (Nat.le_refl _) hn
  have hm : dlen n ≤ K := dlen_le.2 hn
  have hr : r111600_1 (dg K n) (((dg K n).length / 1 : Nat) : Int) = (dlen n : Int) := by
    unfold r111600_1
    rw [Nat.div_one, dg_len, h2]; rfl
  have hp : p111600 (dg K n) (((dg K n).length / 1 : Nat) : Int) = true := by
    unfold p111600
    rw [Nat.div_one, dg_len, h2]; rfl
  constructor
  · show [ow [] (p111600 (dg K n) (((dg K n).length / 1 : Nat) : Int)), ow [] (decide (r111600_1 (dg K n) (((dg K n).length / 1 : Nat) : Int) ≥ 0)), ow [] (decide (r111600_1 (dg K n) (((dg K n).length / 1 : Nat) : Int) ≤ (((dg K n).length / 1 : Nat) : Int)))].all id = true
    rw [hp, hr, decide_eq_true (show (dlen n : Int) ≥ 0 by omega), decide_eq_true (show (dlen n : Int) ≤ (((dg K n).length / 1 : Nat) : Int) by rw [Nat.div_one, dg_len]; omega)]
    rfl
  · show (dg K n).take (Int.toNat (r111600_1 (dg K n) (((dg K n).length / 1 : Nat) : Int)) * 1) = _
    rw [hr, Int.toNat_natCast, Nat.mul_one, dg_take hm]; rfl

theorem ofInt_ok {n : Nat} (hn : n < 18446744073709551616) : p80 n = true ∧ r80_0 n = big n := by
  have e : ([.i (IntKind.wrap .u32 (n : Int)), .i (IntKind.wrap .u32 (ishr .u64 (n : Int) 32))] : List DV) = dg 2 n := by
    rw [shr32, wr32, wr32]
    have h1 := dg_one (n % 4294967296) (Nat.mod_lt _ (by decide))
    have h2 := dg_snoc (k := 1) (o := n % 4294967296) (d := n / 4294967296 % 4294967296) (Nat.mod_lt _ (by decide)) (Nat.mod_lt _ (by decide))
    rw [h1] at h2
    have h3 : n % 4294967296 + n / 4294967296 % 4294967296 * 4294967296 ^ 1 = n := by omega
    rw [h3] at h2
    exact h2
  have ht := trim_ok (K := 2) (n := n) (by decide) (by omega)
  constructor
  · show [ow [] (p116 [.i (IntKind.wrap .u32 (n : Int)), .i (IntKind.wrap .u32 (ishr .u64 (n : Int) 32))])].all id = true
    rw [e, ht.1]; rfl
  · show r116_0 [.i (IntKind.wrap .u32 (n : Int)), .i (IntKind.wrap .u32 (ishr .u64 (n : Int) 32))] = _
    rw [e, ht.2]

section
variable {a b : Nat} (ha : dlen a ≤ 1048576) (hb : dlen b ≤ 1048576)
def plusS (a b i o c : Nat) : List DV := [.l (big b), .l (big a), .l (dg i o), .i (c : Int), .i (i : Int), .l (big a)]
include ha hb
theorem plus_step {i o c : Nat} (hi : i ≤ 2000000) (hc : c ≤ 1) (ho : o < 4294967296 ^ i) :
    W111400 (plusS a b i o c) = true ∧ C111400 (plusS a b i o c) = decide (i < dlen a ∨ i < dlen b ∨ 0 < c) ∧
    N111400 (plusS a b i o c) = plusS a b (i + 1) (o + (c + a / 4294967296 ^ i % 4294967296 + b / 4294967296 ^ i % 4294967296) % 4294967296 * 4294967296 ^ i) ((c + a / 4294967296 ^ i % 4294967296 + b / 4294967296 ^ i % 4294967296) / 4294967296) := by
  have _ := ha; have _ := hb
  have da := dig_lt a i
  have db := dig_lt b i
  have za : ¬ i < dlen a → a / 4294967296 ^ i % 4294967296 = 0 := fun h => dig_zero (by omega)
  have zb : ¬ i < dlen b → b / 4294967296 ^ i % 4294967296 = 0 := fun h => dig_zero (by omega)
  have eA := big_at a i
  have eB := big_at b i
  generalize a / 4294967296 ^ i % 4294967296 = x at *
  generalize b / 4294967296 ^ i % 4294967296 = y at *
  have g1 : (bif decide ((i : Int) < ((big a).length / 1 : Nat)) then IntKind.wrap .u64 ((c : Int) + IntKind.wrap .u64 (x : Int)) else (c : Int)) = ((c + x : Nat) : Int) := by
    rw [Nat.div_one, big_len]
    by_cases h : i < dlen a
    · rw [decide_eq_true (by omega), cond_true, wr64 (by omega), ← Int.natCast_add, wr64 (by omega)]
    · rw [decide_eq_false (by omega), cond_false, za h]; rfl
  have g2 : (bif decide ((i : Int) < ((big b).length / 1 : Nat)) then IntKind.wrap .u64 (((c + x : Nat) : Int) + IntKind.wrap .u64 (y : Int)) else ((c + x : Nat) : Int)) = ((c + x + y : Nat) : Int) := by
    rw [Nat.div_one, big_len]
    by_cases h : i < dlen b
    · rw [decide_eq_true (by omega), cond_true, wr64 (n := y) (by omega), ← Int.natCast_add, wr64 (by omega)]
    · rw [decide_eq_false (by omega), cond_false, zb h]; rfl
  refine ⟨?_, ?_, ?_⟩
  · show w111400 (big b) (big a) (dg i o) (c : Int) (i : Int) (big a) = true
    simp only [w111400, List.all_cons, List.all_nil, id, Bool.and_true, Bool.and_eq_true, ow_2, ow_1, dec, Nat.div_one, List.length_append, dg_len, big_len, List.length_cons, List.length_nil]
    refine ⟨?_, ?_, ?_, ?_, ?_⟩ <;> (intros; omega)
  · show c111400 (big b) (big a) (dg i o) (c : Int) (i : Int) (big a) = _
    simp only [c111400, Nat.div_one, big_len]
    rw [Bool.eq_iff_iff]
    simp only [Bool.or_eq_true, dec]
    omega
  · show [DV.l (big b), .l (big a), .l (n111400_0 (big b) (big a) (dg i o) (c : Int) (i : Int) (big a)), .i (n111400_1 (big b) (big a) (dg i o) (c : Int) (i : Int) (big a)), .i (n111400_2 (big b) (big a) (dg i o) (c : Int) (i : Int) (big a)), .l (big a)] = _
    have q0 : n111400_0 (big b) (big a) (dg i o) (c : Int) (i : Int) (big a) = dg (i + 1) (o + (c + x + y) % 4294967296 * 4294967296 ^ i) := by
      simp only [n111400_0]
      rw [eA, eB, g1, g2, wr32, dg_snoc ho (Nat.mod_lt _ (by decide))]
    have q1 : n111400_1 (big b) (big a) (dg i o) (c : Int) (i : Int) (big a) = (((c + x + y) / 4294967296 : Nat) : Int) := by
      simp only [n111400_1]
      rw [eA, eB, g1, g2, shr32]
    have q2 : n111400_2 (big b) (big a) (dg i o) (c : Int) (i : Int) (big a) = ((i + 1 : Nat) : Int) := by
      simp only [n111400_2]
      rw [wri1 (by omega)]
    rw [q0, q1, q2]; rfl
theorem plus_loop : ∀ (t i o c : Nat), dlen a ≤ i + t → dlen b ≤ i + t → i + t ≤ 1048576 → c ≤ 1 → o < 4294967296 ^ i → a % 4294967296 ^ i + b % 4294967296 ^ i = o + c * 4294967296 ^ i →
    ∃ k r2 r3 r4, k ≤ 1048577 ∧ a + b < 4294967296 ^ k ∧ loopG W111400 C111400 N111400 T111400 (plusS a b i o c) = some [.i 0, .l (dg k (a + b)), r2, r3, r4] := by
  have last : ∀ i o : Nat, dlen a ≤ i → dlen b ≤ i → i ≤ 1048577 → o < 4294967296 ^ i → a % 4294967296 ^ i + b % 4294967296 ^ i = o →
      ∃ k r2 r3 r4, k ≤ 1048577 ∧ a + b < 4294967296 ^ k ∧ loopG W111400 C111400 N111400 T111400 (plusS a b i o 0) = some [.i 0, .l (dg k (a + b)), r2, r3, r4] := by
    intro i o h1 h2 h3 ho he
    obtain ⟨hw, hc, _⟩ := plus_step ha hb (i := i) (o := o) (c := 0) (by omega) (by omega) ho
    rw [decide_eq_false (by omega)] at hc
    rw [mod_self h1, mod_self h2] at he
    refine ⟨i, .i 0, .i i, .l (big a), h3, by omega, ?_⟩
    rw [loopG_last hw hc, he]
    rfl
  intro t
  induction t with
  | zero =>
    intro i o c h1 h2 h3 hc ho he
    rcases Nat.eq_zero_or_pos c with h0 | h0
    · subst h0; exact last i o (by omega) (by omega) (by omega) ho (by omega)
    · have h0 : c = 1 := by omega
      subst h0
      obtain ⟨hw, hcc, hn⟩ := plus_step ha hb (i := i) (o := o) (c := 1) (by omega) (by omega) ho
      rw [decide_eq_true (by omega)] at hcc
      rw [loopG_next hw hcc, hn, dig_zero (n := a) (by omega), dig_zero (n := b) (by omega)]
      refine last (i + 1) _ (by omega) (by omega) (by omega) (snoc_lt ho (by decide)) ?_
      rw [mod_succ, mod_succ, dig_zero (n := a) (by omega), dig_zero (n := b) (by omega)]
      omega
  | succ t ih =>
    intro i o c h1 h2 h3 hc ho he
    obtain ⟨hw, hcc, hn⟩ := plus_step ha hb (i := i) (o := o) (c := c) (by omega) hc ho
    by_cases hgo : i < dlen a ∨ i < dlen b ∨ 0 < c
    · rw [decide_eq_true hgo] at hcc
      rw [loopG_next hw hcc, hn]
      have da := dig_lt a i
      have db := dig_lt b i
      refine ih (i + 1) _ _ (by omega) (by omega) (by omega) (by omega) (snoc_lt ho (Nat.mod_lt _ (by decide))) ?_
      rw [mod_succ, mod_succ]
      generalize a / 4294967296 ^ i % 4294967296 = x at *
      generalize b / 4294967296 ^ i % 4294967296 = y at *
      rw [Nat.pow_succ]
      generalize 4294967296 ^ i = P at *
      have e1 : (c + x + y) * P = ((c + x + y) % 4294967296 + (c + x + y) / 4294967296 * 4294967296) * P := by rw [Nat.mod_add_div' ]
      rw [Nat.add_mul, Nat.add_mul, Nat.add_mul, Nat.mul_assoc ((c + x + y) / 4294967296), Nat.mul_comm 4294967296 P] at e1
      omega
    · have hc0 : c = 0 := by omega
      subst hc0
      exact last i o (by omega) (by omega) (by omega) ho (by omega)
theorem plus_ok : p114 (big a) (big b) = true ∧ r114_0 (big a) (big b) = big (a + b) := by
  obtain ⟨k, r2, r3, r4, hk, hlt, hL⟩ := plus_loop ha hb 1048576 0 0 0 (by omega) (by omega) (by omega) (by omega) (by decide) (by simp [Nat.mod_one])
  have hg : g111400 [.l (big b), .l (big a), .l [], .i 0, .i 0, .l (big a)] = [.b true, .i 0, .l (dg k (a + b)), .i (r2.toI), .i (r3.toI), .l r4.toL] := by
    have hL' : L111400 (big b) (big a) [] 0 0 (big a) = some [.i 0, .l (dg k (a + b)), r2, r3, r4] := hL
    show [DV.b (p111400 (big b) (big a) [] 0 0 (big a)), .i (r111400_0 (big b) (big a) [] 0 0 (big a)), .l (r111400_1 (big b) (big a) [] 0 0 (big a)), .i (r111400_2 (big b) (big a) [] 0 0 (big a)), .i (r111400_3 (big b) (big a) [] 0 0 (big a)), .l (r111400_4 (big b) (big a) [] 0 0 (big a))] = _
    simp only [p111400, r111400_0, r111400_1, r111400_2, r111400_3, r111400_4, hL']
    rfl
  have ht := trim_ok (K := k) (n := a + b) (by omega) hlt
  constructor
  · simp only [p114, hg]
    show [ow [] true, ow [] (p116 (dg k (a + b)))].all id = true
    rw [ht.1]; rfl
  · simp only [r114_0, hg]
    exact ht.2
end
end Go.Proofs.Ytacciadcmiiimaa

namespace Go.Rnd
open Go Go.Sx
set_option maxRecDepth 100000

theorem shl_nat (x s : Nat) : ishl .u64 (x : Int) (s : Int) = ((x * 2 ^ s % 18446744073709551616 : Nat) : Int) := by
  unfold ishl
  rw [wrap_u64, Int.toNat_natCast]
  show ((x : Int) * 2 ^ min s 64) % 18446744073709551616 = _
  by_cases h : s ≤ 64
  · rw [Nat.min_eq_left h, Int.natCast_emod, Int.natCast_mul, Int.natCast_pow]; rfl
  · rw [Nat.min_eq_right (by omega)]
    obtain ⟨d, rfl⟩ : ∃ d, s = 64 + d := ⟨s - 64, by omega⟩
    have : x * 2 ^ (64 + d) % 18446744073709551616 = 0 := by
      rw [Nat.pow_add, Nat.mul_left_comm]; exact Nat.mul_mod_right _ _
    rw [this]; omega
theorem shl_lt {x s : Nat} (h : x * 2 ^ s < 18446744073709551616) : ishl .u64 (x : Int) (s : Int) = ((x * 2 ^ s : Nat) : Int) := by
  rw [shl_nat, Nat.mod_eq_of_lt h]
theorem shr_nat {x : Nat} (h : x < 18446744073709551616) (s : Nat) : ishr .u64 (x : Int) (s : Int) = ((x / 2 ^ s : Nat) : Int) := by
  unfold ishr
  rw [Int.toNat_natCast]
  show (x : Int).fdiv (2 ^ min s 64) = _
  have e : ((2 : Int) ^ min s 64) = ((2 ^ min s 64 : Nat) : Int) := by rw [Int.natCast_pow]; rfl
  rw [e, Int.fdiv_eq_ediv_of_nonneg _ (Int.natCast_nonneg _), ← Int.natCast_ediv]
  congr 1
  by_cases hs : s ≤ 64
  · rw [Nat.min_eq_left hs]
  · rw [Nat.min_eq_right (by omega), Nat.div_eq_of_lt h, Nat.div_eq_of_lt]
    have : 2 ^ 64 ≤ 2 ^ s := Nat.pow_le_pow_right (by decide) (by omega)
    exact Nat.lt_of_lt_of_le h this
theorem shr32_nat {x : Nat} (h : x < 4294967296) (s : Nat) : ishr .u32 (x : Int) (s : Int) = ((x / 2 ^ s : Nat) : Int) := by
  unfold ishr
  rw [Int.toNat_natCast]
  show (x : Int).fdiv (2 ^ min s 32) = _
  have e : ((2 : Int) ^ min s 32) = ((2 ^ min s 32 : Nat) : Int) := by rw [Int.natCast_pow]; rfl
  rw [e, Int.fdiv_eq_ediv_of_nonneg _ (Int.natCast_nonneg _), ← Int.natCast_ediv]
  congr 1
  by_cases hs : s ≤ 32
  · rw [Nat.min_eq_left hs]
  · rw [Nat.min_eq_right (by omega), Nat.div_eq_of_lt h, Nat.div_eq_of_lt]
    have : 2 ^ 32 ≤ 2 ^ s := Nat.pow_le_pow_right (by decide) (by omega)
    exact Nat.lt_of_lt_of_le h this
theorem shl32_nat (x s : Nat) : ishl .u32 (x : Int) (s : Int) = ((x * 2 ^ s % 4294967296 : Nat) : Int) := by
  unfold ishl
  rw [wrap_u32, Int.toNat_natCast]
  show ((x : Int) * 2 ^ min s 32) % 4294967296 = _
  by_cases h : s ≤ 32
  · rw [Nat.min_eq_left h, Int.natCast_emod, Int.natCast_mul, Int.natCast_pow]; rfl
  · rw [Nat.min_eq_right (by omega)]
    obtain ⟨d, rfl⟩ : ∃ d, s = 32 + d := ⟨s - 32, by omega⟩
    have : x * 2 ^ (32 + d) % 4294967296 = 0 := by
      rw [Nat.pow_add, Nat.mul_left_comm]; exact Nat.mul_mod_right _ _
    rw [this]; omega
theorem ofInt32_nat {a : Nat} (ha : a < 4294967296) : (BitVec.ofInt 32 (a : Int)).toNat = a := by
  rw [BitVec.toNat_ofInt]; omega
theorem land32_nn {a b : Nat} (ha : a < 4294967296) (hb : b < 4294967296) : iland .u32 (a : Int) (b : Int) = ((a &&& b : Nat) : Int) := by
  show IntKind.wrap .u32 ((BitVec.ofInt 32 (a : Int) &&& BitVec.ofInt 32 (b : Int)).toNat : Int) = _
  rw [BitVec.toNat_and, ofInt32_nat ha, ofInt32_nat hb, wrap_u32]
  have : a &&& b < 2 ^ 32 := Nat.and_lt_two_pow a hb
  omega
theorem lor32_nn {a b : Nat} (ha : a < 4294967296) (hb : b < 4294967296) : ilor .u32 (a : Int) (b : Int) = ((a ||| b : Nat) : Int) := by
  show IntKind.wrap .u32 ((BitVec.ofInt 32 (a : Int) ||| BitVec.ofInt 32 (b : Int)).toNat : Int) = _
  rw [BitVec.toNat_or, ofInt32_nat ha, ofInt32_nat hb, wrap_u32]
  have : a ||| b < 2 ^ 32 := Nat.or_lt_two_pow ha hb
  omega
theorem or_high {c x s : Nat} (hc : c < 2 ^ s) : c ||| x * 2 ^ s = c + x * 2 ^ s := by
  rw [Nat.or_comm, Nat.mul_comm, ← Nat.two_pow_add_eq_or_of_lt hc]; omega
theorem tmod32 (n : Nat) : Int.tmod (n : Int) 32 = ((n % 32 : Nat) : Int) := by rw [Int.tmod_eq_emod_of_nonneg (by omega)]; omega
theorem tdiv32 (n : Nat) : Int.tdiv (n : Int) 32 = ((n / 32 : Nat) : Int) := by rw [Int.tdiv_eq_ediv_of_nonneg (by omega)]; omega

theorem dig_split {K p o : Nat} (_hp : p < K) (_ho : o < 4294967296 ^ K) : ∃ h l, l < 4294967296 ^ p ∧ o = (h * 4294967296 + o / 4294967296 ^ p % 4294967296) * 4294967296 ^ p + l := by
  refine ⟨o / 4294967296 ^ (p + 1), o % 4294967296 ^ p, Nat.mod_lt _ (pw_pos p), ?_⟩
  rw [Nat.pow_succ, ← Nat.div_div_eq_div_mul]
  have h1 := Nat.div_add_mod' o (4294967296 ^ p)
  have h2 := Nat.div_add_mod' (o / 4294967296 ^ p) 4294967296
  rw [h2, h1]
theorem dig_parts {h d l p j : Nat} (hl : l < 4294967296 ^ p) (hd : d < 4294967296) : ((h * 4294967296 + d) * 4294967296 ^ p + l) / 4294967296 ^ j % 4294967296 =
    if j < p then l / 4294967296 ^ j % 4294967296 else if j = p then d else h / 4294967296 ^ (j - p - 1) % 4294967296 := by
  split
  · rename_i hj
    obtain ⟨e, rfl⟩ : ∃ e, p = j + (e + 1) := ⟨p - j - 1, by omega⟩
    have hi := pw_pos j
    rw [Nat.pow_add, Nat.mul_left_comm, Nat.mul_comm (4294967296 ^ j), Nat.add_comm, Nat.mul_comm, Nat.add_mul_div_left _ _ hi, Nat.pow_succ, ← Nat.mul_assoc, Nat.add_mul_mod_self_right]
  · split
    · rename_i hj; subst hj
      rw [Nat.mul_comm, Nat.mul_add_div (pw_pos j), Nat.div_eq_of_lt hl]; omega
    · obtain ⟨e, rfl⟩ : ∃ e, j = p + 1 + e := ⟨j - p - 1, by omega⟩
      have e1 : p + 1 + e - p - 1 = e := by omega
      rw [e1, Nat.pow_add, ← Nat.div_div_eq_div_mul, Nat.pow_succ, ← Nat.div_div_eq_div_mul, Nat.mul_comm (h * 4294967296 + d), Nat.mul_add_div (pw_pos p), Nat.div_eq_of_lt hl]
      congr 2
      omega
theorem dg_set {K p o o' d : Nat} (hp : p < K) (ho : o < 4294967296 ^ K) (hd : d < 4294967296) (he : o' + o / 4294967296 ^ p % 4294967296 * 4294967296 ^ p = o + d * 4294967296 ^ p) :
    (dg K o).set p (.i (d : Int)) = dg K o' ∧ o' < 4294967296 ^ K := by
  obtain ⟨h, l, hl, hs⟩ := dig_split hp ho
  have hx := dig_lt o p
  generalize o / 4294967296 ^ p % 4294967296 = x at *
  have ho' : o' = (h * 4294967296 + d) * 4294967296 ^ p + l := by
    rw [Nat.add_mul] at hs ⊢
    omega
  have hK : h < 4294967296 ^ (K - p - 1) := by
    refine Nat.lt_of_not_le fun hc => ?_
    have h1 : 4294967296 ^ (K - p - 1) * (4294967296 * 4294967296 ^ p) ≤ h * (4294967296 * 4294967296 ^ p) := Nat.mul_le_mul_right _ hc
    have h2 : 4294967296 ^ (K - p - 1) * (4294967296 * 4294967296 ^ p) = 4294967296 ^ K := by
      rw [Nat.mul_comm 4294967296 (4294967296 ^ p), ← Nat.pow_succ, ← Nat.pow_add]; congr 1; omega
    rw [h2, ← Nat.mul_assoc] at h1
    rw [Nat.add_mul] at hs
    omega
  constructor
  · apply List.ext_getElem?
    intro j
    rw [List.getElem?_set]
    unfold dg
    rw [List.length_map, List.length_range, List.getElem?_map, List.getElem?_map]
    by_cases hj : p = j
    · subst hj
      rw [if_pos rfl, if_pos hp, List.getElem?_range hp, ho']
      simp only [Option.map_some]
      rw [dig_parts hl hd, if_neg (Nat.lt_irrefl _), if_pos rfl]
    · rw [if_neg hj]
      by_cases hjK : j < K
      · rw [List.getElem?_range hjK]
        simp only [Option.map_some]
        rw [ho', dig_parts hl hd, hs, dig_parts hl hx]
        split
        · rfl
        · rw [if_neg (fun h => hj h.symm), if_neg (fun h => hj h.symm)]
      · rw [List.getElem?_eq_none (by simpa using hjK)]; rfl
  · rw [ho']
    have h1 : (h + 1) * (4294967296 * 4294967296 ^ p) ≤ 4294967296 ^ (K - p - 1) * (4294967296 * 4294967296 ^ p) := Nat.mul_le_mul_right _ hK
    have h2 : 4294967296 ^ (K - p - 1) * (4294967296 * 4294967296 ^ p) = 4294967296 ^ K := by
      rw [Nat.mul_comm 4294967296 (4294967296 ^ p), ← Nat.pow_succ, ← Nat.pow_add]; congr 1; omega
    rw [h2] at h1
    have h3 : (d + 1) * 4294967296 ^ p ≤ 4294967296 * 4294967296 ^ p := Nat.mul_le_mul_right _ hd
    rw [Nat.add_mul, ← Nat.mul_assoc] at h1
    rw [Nat.add_mul] at h3 ⊢
    omega
theorem dlen_ofK {n k K : Nat} (h : n < 2 ^ k) (hk : k ≤ 32 * K) : dlen n ≤ K := by
  rw [dlen_le, pow32]; exact Nat.lt_of_lt_of_le h (Nat.pow_le_pow_right (by decide) hk)
theorem dlen_of {n k : Nat} (h : n < 2 ^ k) (hk : k ≤ 33554432) : dlen n ≤ 1048576 := dlen_ofK h (by omega)
theorem dlen_blen {n : Nat} (h : blen n ≤ 33554432) : dlen n ≤ 1048576 := dlen_of (blen_self) h
end Go.Rnd

