/- The functions of the statements, as lists of plain steps (part 1). Written by the generator. -/
import Derived.Test.YtkpbkanbpjfadaaB4
import Derived.Shelf.Slices.Clone
import Derived.Shelf.Spec.SlicesInsertGrow
import Derived.Test.YtkpbkanbpjfadaaProg
namespace Go.Proofs.Ytkpbkanbpjfadaa
open Go Go.Sx
set_option maxRecDepth 100000
set_option maxHeartbeats 4000000

noncomputable def w102700 (x4 : Int) (x5 : Int) (x6 : Int) (x0 : List DV) (x18 : Int) (_x19 : Int) (_x20 : Int) (_x21 : Int) : Bool :=
  let x22 := decide (x18 < 3)
  let x23 := decide (x18 ≥ 0)
  let x24 := decide (x18 < 3)
  let x31 := decide (x18 ≥ 0)
  let x32 := decide (x18 < 3)
  let x33 := [x4, x5, x6].getD (Int.toNat x18) 0
  let x34 := decide (x33 ≥ 0)
  let x35 := decide (x18 ≥ 0)
  let x36 := decide (x18 < 3)
  let x37 := [x4, x5, x6].getD (Int.toNat x18) 0
  let x38 := decide (x37 ≤ 63)
  let x39 := x34 && x38
  let x40 := decide (x18 ≥ 0)
  let x41 := decide (x18 < 3)
  let x42 := [x4, x5, x6].getD (Int.toNat x18) 0
  let x43 := decide (x42 ≥ 0)
  let x44 := ((x0.length / 1 : Nat) : Int)
  let x45 := decide (x42 < x44)
  let x47 := decide (x18 ≥ 0)
  let x48 := decide (x18 < 3)
  [ow [(x22, true)] x23, ow [(x22, true)] x24, ow [(x22, true)] x31, ow [(x22, true)] x32, ow [(x22, true), (x34, true)] x35, ow [(x22, true), (x34, true)] x36, ow [(x22, true), (x39, true)] x40, ow [(x22, true), (x39, true)] x41, ow [(x22, true), (x39, true)] x43, ow [(x22, true), (x39, true)] x45, ow [(x22, true), (x39, true)] x47, ow [(x22, true), (x39, true)] x48].all id
noncomputable def c102700 (_x4 : Int) (_x5 : Int) (_x6 : Int) (_x0 : List DV) (x18 : Int) (_x19 : Int) (_x20 : Int) (_x21 : Int) : Bool :=
  let x22 := decide (x18 < 3)
  x22
noncomputable def n102700_0 (_x4 : Int) (_x5 : Int) (_x6 : Int) (_x0 : List DV) (x18 : Int) (_x19 : Int) (_x20 : Int) (_x21 : Int) : Int :=
  let x58 := IntKind.wrap .i64 (x18 + 1)
  x58
noncomputable def n102700_1 (x4 : Int) (x5 : Int) (x6 : Int) (x0 : List DV) (x18 : Int) (x19 : Int) (_x20 : Int) (_x21 : Int) : Int :=
  let x25 := x18 == 0
  let x26 := bif x25 then (-1) else x19
  let x33 := [x4, x5, x6].getD (Int.toNat x18) 0
  let x34 := decide (x33 ≥ 0)
  let x37 := [x4, x5, x6].getD (Int.toNat x18) 0
  let x38 := decide (x37 ≤ 63)
  let x39 := x34 && x38
  let x42 := [x4, x5, x6].getD (Int.toNat x18) 0
  let x46 : Int := (x0.getD (Int.toNat x42 * (1 : Nat) + (0 : Nat)) default).toI
  let x49 := x18 == 0
  let x50 := bif x49 then x46 else x26
  let x55 := bif x39 then x50 else x26
  x55
noncomputable def n102700_2 (x4 : Int) (x5 : Int) (x6 : Int) (x0 : List DV) (x18 : Int) (_x19 : Int) (x20 : Int) (_x21 : Int) : Int :=
  let x27 := x18 == 1
  let x28 := bif x27 then (-1) else x20
  let x33 := [x4, x5, x6].getD (Int.toNat x18) 0
  let x34 := decide (x33 ≥ 0)
  let x37 := [x4, x5, x6].getD (Int.toNat x18) 0
  let x38 := decide (x37 ≤ 63)
  let x39 := x34 && x38
  let x42 := [x4, x5, x6].getD (Int.toNat x18) 0
  let x46 : Int := (x0.getD (Int.toNat x42 * (1 : Nat) + (0 : Nat)) default).toI
  let x51 := x18 == 1
  let x52 := bif x51 then x46 else x28
  let x56 := bif x39 then x52 else x28
  x56
noncomputable def n102700_3 (x4 : Int) (x5 : Int) (x6 : Int) (x0 : List DV) (x18 : Int) (_x19 : Int) (_x20 : Int) (x21 : Int) : Int :=
  let x29 := x18 == 2
  let x30 := bif x29 then (-1) else x21
  let x33 := [x4, x5, x6].getD (Int.toNat x18) 0
  let x34 := decide (x33 ≥ 0)
  let x37 := [x4, x5, x6].getD (Int.toNat x18) 0
  let x38 := decide (x37 ≤ 63)
  let x39 := x34 && x38
  let x42 := [x4, x5, x6].getD (Int.toNat x18) 0
  let x46 : Int := (x0.getD (Int.toNat x42 * (1 : Nat) + (0 : Nat)) default).toI
  let x53 := x18 == 2
  let x54 := bif x53 then x46 else x30
  let x57 := bif x39 then x54 else x30
  x57
noncomputable def t102700_0 (_x4 : Int) (_x5 : Int) (_x6 : Int) (_x0 : List DV) (_x18 : Int) (_x19 : Int) (_x20 : Int) (_x21 : Int) : Int :=
  0
noncomputable def t102700_1 (_x4 : Int) (_x5 : Int) (_x6 : Int) (_x0 : List DV) (x18 : Int) (_x19 : Int) (_x20 : Int) (_x21 : Int) : Int :=
  x18
noncomputable def t102700_2 (_x4 : Int) (_x5 : Int) (_x6 : Int) (_x0 : List DV) (_x18 : Int) (x19 : Int) (_x20 : Int) (_x21 : Int) : Int :=
  x19
noncomputable def t102700_3 (_x4 : Int) (_x5 : Int) (_x6 : Int) (_x0 : List DV) (_x18 : Int) (_x19 : Int) (x20 : Int) (_x21 : Int) : Int :=
  x20
noncomputable def t102700_4 (_x4 : Int) (_x5 : Int) (_x6 : Int) (_x0 : List DV) (_x18 : Int) (_x19 : Int) (_x20 : Int) (x21 : Int) : Int :=
  x21
noncomputable def W102700 (ds : List DV) : Bool := w102700 (dget ds 0).toI (dget ds 1).toI (dget ds 2).toI (dget ds 3).toL (dget ds 4).toI (dget ds 5).toI (dget ds 6).toI (dget ds 7).toI
noncomputable def C102700 (ds : List DV) : Bool := c102700 (dget ds 0).toI (dget ds 1).toI (dget ds 2).toI (dget ds 3).toL (dget ds 4).toI (dget ds 5).toI (dget ds 6).toI (dget ds 7).toI
noncomputable def N102700 (ds : List DV) : List DV := [.i (dget ds 0).toI, .i (dget ds 1).toI, .i (dget ds 2).toI, .l (dget ds 3).toL, .i (n102700_0 (dget ds 0).toI (dget ds 1).toI (dget ds 2).toI (dget ds 3).toL (dget ds 4).toI (dget ds 5).toI (dget ds 6).toI (dget ds 7).toI), .i (n102700_1 (dget ds 0).toI (dget ds 1).toI (dget ds 2).toI (dget ds 3).toL (dget ds 4).toI (dget ds 5).toI (dget ds 6).toI (dget ds 7).toI), .i (n102700_2 (dget ds 0).toI (dget ds 1).toI (dget ds 2).toI (dget ds 3).toL (dget ds 4).toI (dget ds 5).toI (dget ds 6).toI (dget ds 7).toI), .i (n102700_3 (dget ds 0).toI (dget ds 1).toI (dget ds 2).toI (dget ds 3).toL (dget ds 4).toI (dget ds 5).toI (dget ds 6).toI (dget ds 7).toI)]
noncomputable def T102700 (ds : List DV) : List DV := [.i (t102700_0 (dget ds 0).toI (dget ds 1).toI (dget ds 2).toI (dget ds 3).toL (dget ds 4).toI (dget ds 5).toI (dget ds 6).toI (dget ds 7).toI), .i (t102700_1 (dget ds 0).toI (dget ds 1).toI (dget ds 2).toI (dget ds 3).toL (dget ds 4).toI (dget ds 5).toI (dget ds 6).toI (dget ds 7).toI), .i (t102700_2 (dget ds 0).toI (dget ds 1).toI (dget ds 2).toI (dget ds 3).toL (dget ds 4).toI (dget ds 5).toI (dget ds 6).toI (dget ds 7).toI), .i (t102700_3 (dget ds 0).toI (dget ds 1).toI (dget ds 2).toI (dget ds 3).toL (dget ds 4).toI (dget ds 5).toI (dget ds 6).toI (dget ds 7).toI), .i (t102700_4 (dget ds 0).toI (dget ds 1).toI (dget ds 2).toI (dget ds 3).toL (dget ds 4).toI (dget ds 5).toI (dget ds 6).toI (dget ds 7).toI)]
noncomputable def L102700 (x0 : Int) (x1 : Int) (x2 : Int) (x3 : List DV) (x4 : Int) (x5 : Int) (x6 : Int) (x7 : Int) : Option (List DV) := loopG W102700 C102700 N102700 T102700 [.i x0, .i x1, .i x2, .l x3, .i x4, .i x5, .i x6, .i x7]
noncomputable def p102700 (x0 : Int) (x1 : Int) (x2 : Int) (x3 : List DV) (x4 : Int) (x5 : Int) (x6 : Int) (x7 : Int) : Bool := (L102700 x0 x1 x2 x3 x4 x5 x6 x7).isSome
noncomputable def r102700_0 (x0 : Int) (x1 : Int) (x2 : Int) (x3 : List DV) (x4 : Int) (x5 : Int) (x6 : Int) (x7 : Int) : Int := (dget ((L102700 x0 x1 x2 x3 x4 x5 x6 x7).getD []) 0).toI
noncomputable def r102700_1 (x0 : Int) (x1 : Int) (x2 : Int) (x3 : List DV) (x4 : Int) (x5 : Int) (x6 : Int) (x7 : Int) : Int := (dget ((L102700 x0 x1 x2 x3 x4 x5 x6 x7).getD []) 1).toI
noncomputable def r102700_2 (x0 : Int) (x1 : Int) (x2 : Int) (x3 : List DV) (x4 : Int) (x5 : Int) (x6 : Int) (x7 : Int) : Int := (dget ((L102700 x0 x1 x2 x3 x4 x5 x6 x7).getD []) 2).toI
noncomputable def r102700_3 (x0 : Int) (x1 : Int) (x2 : Int) (x3 : List DV) (x4 : Int) (x5 : Int) (x6 : Int) (x7 : Int) : Int := (dget ((L102700 x0 x1 x2 x3 x4 x5 x6 x7).getD []) 3).toI
noncomputable def r102700_4 (x0 : Int) (x1 : Int) (x2 : Int) (x3 : List DV) (x4 : Int) (x5 : Int) (x6 : Int) (x7 : Int) : Int := (dget ((L102700 x0 x1 x2 x3 x4 x5 x6 x7).getD []) 4).toI
noncomputable def g102700 (ds : List DV) : List DV := [.b (p102700 (dget ds 0).toI (dget ds 1).toI (dget ds 2).toI (dget ds 3).toL (dget ds 4).toI (dget ds 5).toI (dget ds 6).toI (dget ds 7).toI), .i (r102700_0 (dget ds 0).toI (dget ds 1).toI (dget ds 2).toI (dget ds 3).toL (dget ds 4).toI (dget ds 5).toI (dget ds 6).toI (dget ds 7).toI), .i (r102700_1 (dget ds 0).toI (dget ds 1).toI (dget ds 2).toI (dget ds 3).toL (dget ds 4).toI (dget ds 5).toI (dget ds 6).toI (dget ds 7).toI), .i (r102700_2 (dget ds 0).toI (dget ds 1).toI (dget ds 2).toI (dget ds 3).toL (dget ds 4).toI (dget ds 5).toI (dget ds 6).toI (dget ds 7).toI), .i (r102700_3 (dget ds 0).toI (dget ds 1).toI (dget ds 2).toI (dget ds 3).toL (dget ds 4).toI (dget ds 5).toI (dget ds 6).toI (dget ds 7).toI), .i (r102700_4 (dget ds 0).toI (dget ds 1).toI (dget ds 2).toI (dget ds 3).toL (dget ds 4).toI (dget ds 5).toI (dget ds 6).toI (dget ds 7).toI)]
def l27_0 : LR := ⟨102700, 18, 4, [4, 5, 6, 0], [(22, .lss (.r 18) (.z 3)), (23, .geq (.r 18) (.z 0)), (24, .lss (.r 18) (.z 3)), (25, .eql (.r 18) (.z 0)), (26, .itei (.r 25) (.z (-1)) (.r 19)), (27, .eql (.r 18) (.z 1)), (28, .itei (.r 27) (.z (-1)) (.r 20)), (29, .eql (.r 18) (.z 2)), (30, .itei (.r 29) (.z (-1)) (.r 21)), (31, .geq (.r 18) (.z 0)), (32, .lss (.r 18) (.z 3)), (33, .seli [.r 4, .r 5, .r 6] (.r 18)), (34, .geq (.r 33) (.z 0)), (35, .geq (.r 18) (.z 0)), (36, .lss (.r 18) (.z 3)), (37, .seli [.r 4, .r 5, .r 6] (.r 18)), (38, .leq (.r 37) (.z 63)), (39, .and (.r 34) (.r 38)), (40, .geq (.r 18) (.z 0)), (41, .lss (.r 18) (.z 3)), (42, .seli [.r 4, .r 5, .r 6] (.r 18)), (43, .geq (.r 42) (.z 0)), (44, .llen 1 (.r 0)), (45, .lss (.r 42) (.r 44)), (46, .lgeti 1 0 (.r 0) (.r 42)), (47, .geq (.r 18) (.z 0)), (48, .lss (.r 18) (.z 3)), (49, .eql (.r 18) (.z 0)), (50, .itei (.r 49) (.r 46) (.r 26)), (51, .eql (.r 18) (.z 1)), (52, .itei (.r 51) (.r 46) (.r 28)), (53, .eql (.r 18) (.z 2)), (54, .itei (.r 53) (.r 46) (.r 30)), (55, .itei (.r 39) (.r 50) (.r 26)), (56, .itei (.r 39) (.r 52) (.r 28)), (57, .itei (.r 39) (.r 54) (.r 30)), (58, .add .i64 (.r 18) (.z 1))], [⟨[(.r 22, true)], .r 23⟩, ⟨[(.r 22, true)], .r 24⟩, ⟨[(.r 22, true)], .r 31⟩, ⟨[(.r 22, true)], .r 32⟩, ⟨[(.r 22, true), (.r 34, true)], .r 35⟩, ⟨[(.r 22, true), (.r 34, true)], .r 36⟩, ⟨[(.r 22, true), (.r 39, true)], .r 40⟩, ⟨[(.r 22, true), (.r 39, true)], .r 41⟩, ⟨[(.r 22, true), (.r 39, true)], .r 43⟩, ⟨[(.r 22, true), (.r 39, true)], .r 45⟩, ⟨[(.r 22, true), (.r 39, true)], .r 47⟩, ⟨[(.r 22, true), (.r 39, true)], .r 48⟩], .r 22, [.r 58, .r 55, .r 56, .r 57], [.z 0, .r 18, .r 19, .r 20, .r 21], [.i, .i, .i, .i]⟩
def s27 : Sig := ⟨[.s (.one (.p 3 (.c 0))), .s (.agg [.i .i64 (.h 4), .i .i64 (.h 5), .i .i64 (.h 6), .i .i64 (.h 7)])], [some (.v true [.int .i64] (.h 0)), some (.v true [.int .i64] (.h 1)), some (.v true [.int .i64, .int .i64, .int .i64, .int .i64, .bool] (.h 2)), some (.c true [some (.vec 0), some (.vec 1), some (.vec 2), some (.i .i64 (.h 3))])], [.l, .l, .l, .i, .i, .i, .i, .i], .t [.agg [.i .i64 (.h 0), .i .i64 (.h 1), .i .i64 (.h 2), .i .i64 (.h 3), .i .i64 (.h 4), .i .i64 (.h 5)], .one (.b (.h 6))], [some (.v true [.int .i64] (.h 7)), none, none, some (.c true [some (.vec 0), some (.vec 4), some (.vec 5), some (.i .i64 (.h 8))]), some (.v true [.int .i64] (.h 9)), some (.v true [.int .i64, .int .i64, .int .i64, .int .i64, .bool] (.h 10))], [.i, .i, .i, .i, .i, .i, .b, .l, .i, .l, .l], true⟩
def o27 : Out := ⟨List.append (List.append ([(8, .geq (.r 7) (.z 1)), (9, .leq (.r 7) (.z 63)), (10, .and (.r 8) (.r 9)), (11, .llen 5 (.r 2)), (12, .eql (.r 11) (.z 16)), (13, .llen 1 (.r 1)), (14, .eql (.r 13) (.z 0)), (15, .and (.r 10) (.r 14)), (16, .or (.r 12) (.r 15)), (17, .not (.r 16))]) (callsAt 18 102700 [.r 4, .r 5, .r 6, .r 0, .z 0, .z 0, .z 0, .z 0] 0 6)) ([(24, .llen 1 (.r 1)), (25, .lss (.z 0) (.r 24)), (26, .lgeti 1 0 (.r 1) (.z 0)), (27, .geq (.r 7) (.z 0)), (28, .llen 1 (.r 0)), (29, .lss (.r 7) (.r 28)), (30, .lgeti 1 0 (.r 0) (.r 7)), (31, .geq (.r 7) (.z 0)), (32, .llen 1 (.r 0)), (33, .lss (.r 7) (.r 32)), (34, .lset 1 0 .i (.r 0) (.r 7) (.r 26)), (35, .lmk [] []), (36, .llen 1 (.r 1)), (37, .leq (.z 1) (.r 36)), (38, .ldrop 1 (.r 1) (.z 1)), (39, .lcat (.r 35) (.r 38)), (40, .llen 1 (.r 39)), (41, .leq (.r 40) (.z 7818749353073)), (42, .itel (.r 10) (.r 34) (.r 0)), (43, .itel (.r 10) (.r 39) (.r 1)), (44, .itei (.r 10) (.r 26) (.z (-1))), (45, .itei (.r 10) (.r 30) (.z (-1))), (46, .itei (.r 10) (.r 7) (.z 0)), (47, .itei (.r 10) (.r 26) (.z 0)), (48, .itei (.r 10) (.r 30) (.z 0)), (49, .lmk [] []), (50, .lcat (.r 49) (.r 2)), (51, .llen 5 (.r 50)), (52, .leq (.r 51) (.z 1716310833601)), (53, .lmk [.i, .i, .i, .i, .b] [.r 3, .r 46, .r 47, .r 48, .t false]), (54, .lcat (.r 50) (.r 53)), (55, .llen 5 (.r 54)), (56, .leq (.r 55) (.z 1716310833601)), (57, .add .i64 (.r 3) (.z 1)), (58, .rem .i64 (.r 57) (.z 16)), (59, .itei (.r 17) (.r 21) (.z 0)), (60, .itei (.r 17) (.r 22) (.z 0)), (61, .itei (.r 17) (.r 23) (.z 0)), (62, .itei (.r 17) (.r 44) (.z 0)), (63, .itei (.r 17) (.r 45) (.z 0)), (64, .itei (.r 17) (.r 3) (.z 0)), (65, .itel (.r 17) (.r 42) (.r 0)), (66, .itel (.r 17) (.r 43) (.r 1)), (67, .itel (.r 17) (.r 54) (.r 2)), (68, .itei (.r 17) (.r 58) (.r 3)), (69, .itei (.r 17) (.r 21) (.z 0)), (70, .itei (.r 17) (.r 22) (.z 0)), (71, .itei (.r 17) (.r 23) (.z 0)), (72, .itei (.r 17) (.r 44) (.z 0)), (73, .itei (.r 17) (.r 45) (.z 0)), (74, .itei (.r 17) (.r 3) (.z 0))]),
  [⟨[(.r 17, true)], .r 18⟩, ⟨[(.r 17, true), (.r 10, true)], .r 25⟩, ⟨[(.r 17, true), (.r 10, true)], .r 27⟩, ⟨[(.r 17, true), (.r 10, true)], .r 29⟩, ⟨[(.r 17, true), (.r 10, true)], .r 31⟩, ⟨[(.r 17, true), (.r 10, true)], .r 33⟩, ⟨[(.r 17, true), (.r 10, true)], .r 37⟩, ⟨[(.r 17, true), (.r 10, true)], .r 41⟩, ⟨[(.r 17, true)], .r 52⟩, ⟨[(.r 17, true)], .r 56⟩],
  [l27_0],
  (idsFrom 59 6 ++ [.r 17, .r 65, .r 68, .r 66, .r 67])⟩
noncomputable def g27 (ds : List DV) : List DV :=
  let x0 : List DV := (dget ds 0).toL
  let x1 : List DV := (dget ds 1).toL
  let x2 : List DV := (dget ds 2).toL
  let x3 : Int := (dget ds 3).toI
  let x4 : Int := (dget ds 4).toI
  let x5 : Int := (dget ds 5).toI
  let x6 : Int := (dget ds 6).toI
  let x7 : Int := (dget ds 7).toI
  let x8 := ige x7 1
  let x9 := ile x7 63
  let x10 := x8 && x9
  let x11 := ((x2.length / 5 : Nat) : Int)
  let x12 := x11 == 16
  let x13 := ((x1.length / 1 : Nat) : Int)
  let x14 := x13 == 0
  let x15 := x10 && x14
  let x16 := x12 || x15
  let x17 := !x16
  let y18 : List DV := g102700 [.i x4, .i x5, .i x6, .l x0, .i 0, .i 0, .i 0, .i 0]
  let x18 : Bool := (dget y18 0).toB
  let x21 : Int := (dget y18 3).toI
  let x22 : Int := (dget y18 4).toI
  let x23 : Int := (dget y18 5).toI
  let x24 := ((x1.length / 1 : Nat) : Int)
  let x25 := decide (0 < x24)
  let x26 : Int := (x1.getD (Int.toNat 0 * (1 : Nat) + (0 : Nat)) default).toI
  let x27 := ige x7 0
  let x28 := ((x0.length / 1 : Nat) : Int)
  let x29 := ilt x7 x28
  let x30 : Int := (x0.getD (Int.toNat x7 * (1 : Nat) + (0 : Nat)) default).toI
  let x31 := ige x7 0
  let x32 := ((x0.length / 1 : Nat) : Int)
  let x33 := ilt x7 x32
  let x34 : List DV := x0.set (Int.toNat x7 * (1 : Nat) + (0 : Nat)) (.i x26)
  let x35 : List DV := []
  let x36 := ((x1.length / 1 : Nat) : Int)
  let x37 := decide (1 ≤ x36)
  let x38 := x1.drop (Int.toNat 1 * 1)
  let x39 := x35 ++ x38
  let x40 := ((x39.length / 1 : Nat) : Int)
  let x41 := decide (x40 ≤ 7818749353073)
  let x42 := bif x10 then x34 else x0
  let x43 := bif x10 then x39 else x1
  let x44 := bif x10 then x26 else (-1)
  let x45 := bif x10 then x30 else (-1)
  let x46 := bif x10 then x7 else 0
  let x47 := bif x10 then x26 else 0
  let x48 := bif x10 then x30 else 0
  let x49 : List DV := []
  let x50 := x49 ++ x2
  let x51 := ((x50.length / 5 : Nat) : Int)
  let x52 := decide (x51 ≤ 1716310833601)
  let x53 : List DV := [.i x3, .i x46, .i x47, .i x48, .b false]
  let x54 := x50 ++ x53
  let x55 := ((x54.length / 5 : Nat) : Int)
  let x56 := decide (x55 ≤ 1716310833601)
  let x57 := IntKind.wrap .i64 (x3 + 1)
  let x58 := Int.tmod x57 16
  let x59 := bif x17 then x21 else 0
  let x60 := bif x17 then x22 else 0
  let x61 := bif x17 then x23 else 0
  let x62 := bif x17 then x44 else 0
  let x63 := bif x17 then x45 else 0
  let x64 := bif x17 then x3 else 0
  let x65 := bif x17 then x42 else x0
  let x66 := bif x17 then x43 else x1
  let x67 := bif x17 then x54 else x2
  let x68 := bif x17 then x58 else x3
  [.b ([ow [(x17, true)] x18, ow [(x17, true), (x10, true)] x25, ow [(x17, true), (x10, true)] x27, ow [(x17, true), (x10, true)] x29, ow [(x17, true), (x10, true)] x31, ow [(x17, true), (x10, true)] x33, ow [(x17, true), (x10, true)] x37, ow [(x17, true), (x10, true)] x41, ow [(x17, true)] x52, ow [(x17, true)] x56].all id), .i x59, .i x60, .i x61, .i x62, .i x63, .i x64, .b x17, .l x65, .i x68, .l x66, .l x67]
def S27 : Sigs := ⟨[], [], [(0, 102700)], 4⟩

noncomputable def W101200 (ds : List DV) : Bool :=
  let x4 : List DV := (dget ds 0).toL
  let x6 : List DV := (dget ds 2).toL
  let x7 : Int := (dget ds 3).toI
  let x11 : List DV := (dget ds 7).toL
  let x12 : List DV := (dget ds 8).toL
  let x13 : List DV := (dget ds 9).toL
  let x14 : Int := (dget ds 10).toI
  let x16 := ((x4.length / 4 : Nat) : Int)
  let x17 := ilt x7 x16
  let x18 := ige x7 0
  let x19 := ((x4.length / 4 : Nat) : Int)
  let x20 := ilt x7 x19
  let x21 : Int := (x4.getD (Int.toNat x7 * (4 : Nat) + (0 : Nat)) default).toI
  let x22 : Int := (x4.getD (Int.toNat x7 * (4 : Nat) + (1 : Nat)) default).toI
  let x23 : Int := (x4.getD (Int.toNat x7 * (4 : Nat) + (2 : Nat)) default).toI
  let x24 : Int := (x4.getD (Int.toNat x7 * (4 : Nat) + (3 : Nat)) default).toI
  let y25 : List DV := g27 [.l x11, .l x12, .l x13, .i x14, .i x21, .i x22, .i x23, .i x24]
  let x25 : Bool := (dget y25 0).toB
  let x26 : Int := (dget y25 1).toI
  let x27 : Int := (dget y25 2).toI
  let x28 : Int := (dget y25 3).toI
  let x29 : Int := (dget y25 4).toI
  let x30 : Int := (dget y25 5).toI
  let x31 : Int := (dget y25 6).toI
  let x32 : Bool := (dget y25 7).toB
  let x37 := !x32
  let x38 := !x37
  let x39 : List DV := [.i x26, .i x27, .i x28, .i x29, .i x30, .i x31]
  let x40 := x6 ++ x39
  let x41 := ((x40.length / 6 : Nat) : Int)
  let x42 := decide (x41 ≤ 1436096819952)
  [ow [(x17, true)] x18, ow [(x17, true)] x20, ow [(x17, true)] x25, ow [(x17, true), (x38, true)] x42].all id
noncomputable def C101200 (ds : List DV) : Bool :=
  let x4 : List DV := (dget ds 0).toL
  let x7 : Int := (dget ds 3).toI
  let x11 : List DV := (dget ds 7).toL
  let x12 : List DV := (dget ds 8).toL
  let x13 : List DV := (dget ds 9).toL
  let x14 : Int := (dget ds 10).toI
  let x16 := ((x4.length / 4 : Nat) : Int)
  let x17 := ilt x7 x16
  let x21 : Int := (x4.getD (Int.toNat x7 * (4 : Nat) + (0 : Nat)) default).toI
  let x22 : Int := (x4.getD (Int.toNat x7 * (4 : Nat) + (1 : Nat)) default).toI
  let x23 : Int := (x4.getD (Int.toNat x7 * (4 : Nat) + (2 : Nat)) default).toI
  let x24 : Int := (x4.getD (Int.toNat x7 * (4 : Nat) + (3 : Nat)) default).toI
  let y32 : List DV := g27 [.l x11, .l x12, .l x13, .i x14, .i x21, .i x22, .i x23, .i x24]
  let x32 : Bool := (dget y32 7).toB
  let x37 := !x32
  let x38 := !x37
  let x44 := x17 && x38
  x44
noncomputable def N101200 (ds : List DV) : List DV :=
  let x4 : List DV := (dget ds 0).toL
  let x0 : List DV := (dget ds 1).toL
  let x6 : List DV := (dget ds 2).toL
  let x7 : Int := (dget ds 3).toI
  let x11 : List DV := (dget ds 7).toL
  let x12 : List DV := (dget ds 8).toL
  let x13 : List DV := (dget ds 9).toL
  let x14 : Int := (dget ds 10).toI
  let x21 : Int := (x4.getD (Int.toNat x7 * (4 : Nat) + (0 : Nat)) default).toI
  let x22 : Int := (x4.getD (Int.toNat x7 * (4 : Nat) + (1 : Nat)) default).toI
  let x23 : Int := (x4.getD (Int.toNat x7 * (4 : Nat) + (2 : Nat)) default).toI
  let x24 : Int := (x4.getD (Int.toNat x7 * (4 : Nat) + (3 : Nat)) default).toI
  let y26 : List DV := g27 [.l x11, .l x12, .l x13, .i x14, .i x21, .i x22, .i x23, .i x24]
  let x26 : Int := (dget y26 1).toI
  let x27 : Int := (dget y26 2).toI
  let x28 : Int := (dget y26 3).toI
  let x29 : Int := (dget y26 4).toI
  let x30 : Int := (dget y26 5).toI
  let x31 : Int := (dget y26 6).toI
  let x33 : List DV := (dget y26 8).toL
  let x34 : Int := (dget y26 9).toI
  let x35 : List DV := (dget y26 10).toL
  let x36 : List DV := (dget y26 11).toL
  let x39 : List DV := [.i x26, .i x27, .i x28, .i x29, .i x30, .i x31]
  let x40 := x6 ++ x39
  let x43 := IntKind.wrap .i64 (x7 + 1)
  [.l (dget ds 0).toL, .l (dget ds 1).toL, .l x40, .i x43, .l x0, .l x0, .l x0, .l x33, .l x35, .l x36, .i x34, .l x0]
noncomputable def T101200 (ds : List DV) : List DV :=
  let x4 : List DV := (dget ds 0).toL
  let x0 : List DV := (dget ds 1).toL
  let x6 : List DV := (dget ds 2).toL
  let x7 : Int := (dget ds 3).toI
  let x11 : List DV := (dget ds 7).toL
  let x12 : List DV := (dget ds 8).toL
  let x13 : List DV := (dget ds 9).toL
  let x14 : Int := (dget ds 10).toI
  let x16 := ((x4.length / 4 : Nat) : Int)
  let x17 := ilt x7 x16
  let x21 : Int := (x4.getD (Int.toNat x7 * (4 : Nat) + (0 : Nat)) default).toI
  let x22 : Int := (x4.getD (Int.toNat x7 * (4 : Nat) + (1 : Nat)) default).toI
  let x23 : Int := (x4.getD (Int.toNat x7 * (4 : Nat) + (2 : Nat)) default).toI
  let x24 : Int := (x4.getD (Int.toNat x7 * (4 : Nat) + (3 : Nat)) default).toI
  let y33 : List DV := g27 [.l x11, .l x12, .l x13, .i x14, .i x21, .i x22, .i x23, .i x24]
  let x33 : List DV := (dget y33 8).toL
  let x34 : Int := (dget y33 9).toI
  let x35 : List DV := (dget y33 10).toL
  let x36 : List DV := (dget y33 11).toL
  let x45 : Int := bif x17 then 0 else 1
  let x46 := bif x17 then x33 else x11
  let x47 := bif x17 then x35 else x12
  let x48 := bif x17 then x36 else x13
  let x49 := bif x17 then x34 else x14
  [.i x45, .l x6, .i x7, .l x0, .l x0, .l x0, .l x46, .l x47, .l x48, .i x49, .l x0]
noncomputable def g101200 (ds : List DV) : List DV := wrapG [.i, .l, .i, .l, .l, .l, .l, .l, .l, .i, .l] (loopG W101200 C101200 N101200 T101200 (nrms [.l, .l, .l, .i, .l, .l, .l, .l, .l, .l, .i, .l] ds))
def l12_0 : LR := ⟨101200, 6, 10, [4, 0], List.append (List.append ([(16, .llen 4 (.r 4)), (17, .lss (.r 7) (.r 16)), (18, .geq (.r 7) (.z 0)), (19, .llen 4 (.r 4)), (20, .lss (.r 7) (.r 19)), (21, .lgeti 4 0 (.r 4) (.r 7)), (22, .lgeti 4 1 (.r 4) (.r 7)), (23, .lgeti 4 2 (.r 4) (.r 7)), (24, .lgeti 4 3 (.r 4) (.r 7))]) (callsAt 25 27 [.r 11, .r 12, .r 13, .r 14, .r 21, .r 22, .r 23, .r 24] 0 12)) ([(37, .not (.r 32)), (38, .not (.r 37)), (39, .lmk [.i, .i, .i, .i, .i, .i] (idsFrom 26 6)), (40, .lcat (.r 6) (.r 39)), (41, .llen 6 (.r 40)), (42, .leq (.r 41) (.z 1436096819952)), (43, .add .i64 (.r 7) (.z 1)), (44, .and (.r 17) (.r 38)), (45, .itei (.r 17) (.z 0) (.z 1)), (46, .itel (.r 17) (.r 33) (.r 11)), (47, .itel (.r 17) (.r 35) (.r 12)), (48, .itel (.r 17) (.r 36) (.r 13)), (49, .itei (.r 17) (.r 34) (.r 14))]), [⟨[(.r 17, true)], .r 18⟩, ⟨[(.r 17, true)], .r 20⟩, ⟨[(.r 17, true)], .r 25⟩, ⟨[(.r 17, true), (.r 38, true)], .r 42⟩], .r 44, [.r 40, .r 43, .r 0, .r 0, .r 0, .r 33, .r 35, .r 36, .r 34, .r 0], [.r 45, .r 6, .r 7, .r 0, .r 0, .r 0, .r 46, .r 47, .r 48, .r 49, .r 0], [.l, .i, .l, .l, .l, .l, .l, .l, .i, .l]⟩
def s12 : Sig := ⟨[.s (.one (.p 3 (.c 0))), .s (.one (.vec 4))], [some (.v true [.int .i64] (.h 0)), some (.v true [.int .i64] (.h 1)), some (.v true [.int .i64, .int .i64, .int .i64, .int .i64, .bool] (.h 2)), some (.c true [some (.vec 0), some (.vec 1), some (.vec 2), some (.i .i64 (.h 3))]), some (.v false [.int .i64, .int .i64, .int .i64, .int .i64] (.h 4))], [.l, .l, .l, .i, .l], .s (.one (.vec 5)), [none, none, none, some (.c true [some (.vec 6), some (.vec 7), some (.vec 8), some (.i .i64 (.h 0))]), none, some (.v true [.int .i64, .int .i64, .int .i64, .int .i64, .int .i64, .int .i64] (.h 1)), some (.v true [.int .i64] (.h 2)), some (.v true [.int .i64] (.h 3)), some (.v true [.int .i64, .int .i64, .int .i64, .int .i64, .bool] (.h 4))], [.i, .l, .l, .l, .l], true⟩
def o12 : Out := ⟨List.append (List.append ([(5, .lmk [] [])]) (callsAt 6 101200 [.r 4, .r 0, .r 5, .z 0, .r 0, .r 0, .r 0, .r 0, .r 1, .r 2, .r 3, .r 0] 0 12)) ([(18, .eql (.r 7) (.z 0)), (19, .not (.r 18))]),
  [⟨[], .r 6⟩],
  [l12_0],
  [.r 16, .r 8, .r 13, .r 14, .r 15]⟩
noncomputable def p12 (x0 : List DV) (x1 : List DV) (x2 : List DV) (x3 : Int) (x4 : List DV) : Bool :=
  let x5 : List DV := []
  let y6 : List DV := g101200 [.l x4, .l x0, .l x5, .i 0, .l x0, .l x0, .l x0, .l x0, .l x1, .l x2, .i x3, .l x0]
  let x6 : Bool := (dget y6 0).toB
  [ow [] x6].all id
noncomputable def r12_0 (x0 : List DV) (x1 : List DV) (x2 : List DV) (x3 : Int) (x4 : List DV) : Int :=
  let x5 : List DV := []
  let y16 : List DV := g101200 [.l x4, .l x0, .l x5, .i 0, .l x0, .l x0, .l x0, .l x0, .l x1, .l x2, .i x3, .l x0]
  let x16 : Int := (dget y16 10).toI
  x16
noncomputable def r12_1 (x0 : List DV) (x1 : List DV) (x2 : List DV) (x3 : Int) (x4 : List DV) : List DV :=
  let x5 : List DV := []
  let y8 : List DV := g101200 [.l x4, .l x0, .l x5, .i 0, .l x0, .l x0, .l x0, .l x0, .l x1, .l x2, .i x3, .l x0]
  let x8 : List DV := (dget y8 2).toL
  x8
noncomputable def r12_2 (x0 : List DV) (x1 : List DV) (x2 : List DV) (x3 : Int) (x4 : List DV) : List DV :=
  let x5 : List DV := []
  let y13 : List DV := g101200 [.l x4, .l x0, .l x5, .i 0, .l x0, .l x0, .l x0, .l x0, .l x1, .l x2, .i x3, .l x0]
  let x13 : List DV := (dget y13 7).toL
  x13
noncomputable def r12_3 (x0 : List DV) (x1 : List DV) (x2 : List DV) (x3 : Int) (x4 : List DV) : List DV :=
  let x5 : List DV := []
  let y14 : List DV := g101200 [.l x4, .l x0, .l x5, .i 0, .l x0, .l x0, .l x0, .l x0, .l x1, .l x2, .i x3, .l x0]
  let x14 : List DV := (dget y14 8).toL
  x14
noncomputable def r12_4 (x0 : List DV) (x1 : List DV) (x2 : List DV) (x3 : Int) (x4 : List DV) : List DV :=
  let x5 : List DV := []
  let y15 : List DV := g101200 [.l x4, .l x0, .l x5, .i 0, .l x0, .l x0, .l x0, .l x0, .l x1, .l x2, .i x3, .l x0]
  let x15 : List DV := (dget y15 9).toL
  x15
noncomputable def g12 (ds : List DV) : List DV := [.b (p12 (dget ds 0).toL (dget ds 1).toL (dget ds 2).toL (dget ds 3).toI (dget ds 4).toL), .i (r12_0 (dget ds 0).toL (dget ds 1).toL (dget ds 2).toL (dget ds 3).toI (dget ds 4).toL), .l (r12_1 (dget ds 0).toL (dget ds 1).toL (dget ds 2).toL (dget ds 3).toI (dget ds 4).toL), .l (r12_2 (dget ds 0).toL (dget ds 1).toL (dget ds 2).toL (dget ds 3).toI (dget ds 4).toL), .l (r12_3 (dget ds 0).toL (dget ds 1).toL (dget ds 2).toL (dget ds 3).toI (dget ds 4).toL), .l (r12_4 (dget ds 0).toL (dget ds 1).toL (dget ds 2).toL (dget ds 3).toI (dget ds 4).toL)]
def S12 : Sigs := ⟨[(27, s27)], [], [(0, 101200)], 5⟩

def s15 : Sig := ⟨[.s (.one (.p 3 (.c 0))), .s (.one (.i .i64 (.h 4)))], [some (.v true [.int .i64] (.h 0)), some (.v true [.int .i64] (.h 1)), some (.v true [.int .i64, .int .i64, .int .i64, .int .i64, .bool] (.h 2)), some (.c true [some (.vec 0), some (.vec 1), some (.vec 2), some (.i .i64 (.h 3))])], [.l, .l, .l, .i, .i], .s (.one (.b (.h 0))), [some (.v true [.int .i64] (.h 1)), some (.v true [.int .i64] (.h 2)), some (.v true [.int .i64, .int .i64, .int .i64, .int .i64, .bool] (.h 3)), some (.c true [some (.vec 0), some (.vec 1), some (.vec 2), some (.i .i64 (.h 4))])], [.b, .l, .l, .l, .i], true⟩
def o15 : Out := ⟨[(5, .call 29 [.r 0, .r 1, .r 2, .r 3, .r 4] 0), (6, .call 29 [.r 0, .r 1, .r 2, .r 3, .r 4] 1), (7, .lss (.r 6) (.z 0)), (8, .geq (.r 6) (.z 0)), (9, .llen 5 (.r 2)), (10, .lss (.r 6) (.r 9)), (11, .lgetb 5 4 (.r 2) (.r 6)), (12, .or (.r 7) (.r 11)), (13, .not (.r 12)), (14, .geq (.r 6) (.z 0)), (15, .llen 5 (.r 2)), (16, .lss (.r 6) (.r 15)), (17, .lset 5 4 .b (.r 2) (.r 6) (.t true)), (18, .itel (.r 13) (.r 17) (.r 2))],
  [⟨[], .r 5⟩, ⟨[(.r 7, false)], .r 8⟩, ⟨[(.r 7, false)], .r 10⟩, ⟨[(.r 13, true)], .r 14⟩, ⟨[(.r 13, true)], .r 16⟩],
  [],
  [.r 13, .r 0, .r 1, .r 18, .r 3]⟩
noncomputable def p15 (x2 : List DV) (x4 : Int) : Bool :=
  let x5 := p29 x2 x4
  let x6 := r29_0 x2 x4
  let x7 := decide (x6 < 0)
  let x8 := decide (x6 ≥ 0)
  let x9 := ((x2.length / 5 : Nat) : Int)
  let x10 := decide (x6 < x9)
  let x11 : Bool := (x2.getD (Int.toNat x6 * (5 : Nat) + (4 : Nat)) default).toB
  let x12 := x7 || x11
  let x13 := !x12
  let x14 := decide (x6 ≥ 0)
  let x15 := ((x2.length / 5 : Nat) : Int)
  let x16 := decide (x6 < x15)
  [ow [] x5, ow [(x7, false)] x8, ow [(x7, false)] x10, ow [(x13, true)] x14, ow [(x13, true)] x16].all id
noncomputable def r15_0 (x2 : List DV) (x4 : Int) : Bool :=
  let x6 := r29_0 x2 x4
  let x7 := decide (x6 < 0)
  let x11 : Bool := (x2.getD (Int.toNat x6 * (5 : Nat) + (4 : Nat)) default).toB
  let x12 := x7 || x11
  let x13 := !x12
  x13
noncomputable def r15_1 (x0 : List DV) : List DV :=
  x0
noncomputable def r15_2 (x1 : List DV) : List DV :=
  x1
noncomputable def r15_3 (x2 : List DV) (x4 : Int) : List DV :=
  let x6 := r29_0 x2 x4
  let x7 := decide (x6 < 0)
  let x11 : Bool := (x2.getD (Int.toNat x6 * (5 : Nat) + (4 : Nat)) default).toB
  let x12 := x7 || x11
  let x13 := !x12
  let x17 : List DV := x2.set (Int.toNat x6 * (5 : Nat) + (4 : Nat)) (.b true)
  let x18 := bif x13 then x17 else x2
  x18
noncomputable def r15_4 (x3 : Int) : Int :=
  x3
noncomputable def g15 (ds : List DV) : List DV := [.b (p15 (dget ds 2).toL (dget ds 4).toI), .b (r15_0 (dget ds 2).toL (dget ds 4).toI), .l (r15_1 (dget ds 0).toL), .l (r15_2 (dget ds 1).toL), .l (r15_3 (dget ds 2).toL (dget ds 4).toI), .i (r15_4 (dget ds 3).toI)]
def S15 : Sigs := ⟨[(29, s29)], [], [], 4⟩

noncomputable def w101700 (x4 : Int) (_x0 : List DV) (x6 : List DV) (_x7 : List DV) (_x8 : List DV) (x9 : List DV) (x10 : List DV) (_x11 : List DV) : Bool :=
  let x12 := ((x6.length / 1 : Nat) : Int)
  let x13 := decide (x12 < x4)
  let x14 := ((x10.length / 5 : Nat) : Int)
  let x15 := decide (x14 > 0)
  let x16 := x13 && x15
  let x17 := ((x10.length / 5 : Nat) : Int)
  let x18 := decide (0 < x17)
  let x19 : Bool := (x10.getD (Int.toNat 0 * (5 : Nat) + (4 : Nat)) default).toB
  let x20 := x16 && x19
  let x21 := ((x10.length / 5 : Nat) : Int)
  let x22 := decide (0 < x21)
  let x23 : Int := (x10.getD (Int.toNat 0 * (5 : Nat) + (0 : Nat)) default).toI
  let x24 : Int := (x10.getD (Int.toNat 0 * (5 : Nat) + (1 : Nat)) default).toI
  let x26 : Int := (x10.getD (Int.toNat 0 * (5 : Nat) + (3 : Nat)) default).toI
  let x28 := igt x24 0
  let x29 : List DV := []
  let x30 := x29 ++ x9
  let x31 := ((x30.length / 1 : Nat) : Int)
  let x32 := decide (x31 ≤ 7818749353073)
  let x33 : List DV := [.i x26]
  let x34 := x30 ++ x33
  let x35 := ((x34.length / 1 : Nat) : Int)
  let x36 := decide (x35 ≤ 7818749353073)
  let x38 : List DV := [.i x23]
  let x39 := x6 ++ x38
  let x40 := ((x39.length / 1 : Nat) : Int)
  let x41 := decide (x40 ≤ 7818749353073)
  let x42 : List DV := []
  let x43 := ((x10.length / 5 : Nat) : Int)
  let x44 := decide (1 ≤ x43)
  let x45 := x10.drop (Int.toNat 1 * 5)
  let x46 := x42 ++ x45
  let x47 := ((x46.length / 5 : Nat) : Int)
  let x48 := decide (x47 ≤ 1716310833601)
  [ow [(x16, true)] x18, ow [(x20, true)] x22, ow [(x20, true), (x28, true)] x32, ow [(x20, true), (x28, true)] x36, ow [(x20, true)] x41, ow [(x20, true)] x44, ow [(x20, true)] x48].all id
noncomputable def c101700 (x4 : Int) (_x0 : List DV) (x6 : List DV) (_x7 : List DV) (_x8 : List DV) (_x9 : List DV) (x10 : List DV) (_x11 : List DV) : Bool :=
  let x12 := ((x6.length / 1 : Nat) : Int)
  let x13 := decide (x12 < x4)
  let x14 := ((x10.length / 5 : Nat) : Int)
  let x15 := decide (x14 > 0)
  let x16 := x13 && x15
  let x19 : Bool := (x10.getD (Int.toNat 0 * (5 : Nat) + (4 : Nat)) default).toB
  let x20 := x16 && x19
  x20
noncomputable def n101700_0 (_x4 : Int) (_x0 : List DV) (x6 : List DV) (_x7 : List DV) (_x8 : List DV) (_x9 : List DV) (x10 : List DV) (_x11 : List DV) : List DV :=
  let x23 : Int := (x10.getD (Int.toNat 0 * (5 : Nat) + (0 : Nat)) default).toI
  let x38 : List DV := [.i x23]
  let x39 := x6 ++ x38
  x39
noncomputable def n101700_1 (_x4 : Int) (x0 : List DV) (_x6 : List DV) (_x7 : List DV) (_x8 : List DV) (_x9 : List DV) (_x10 : List DV) (_x11 : List DV) : List DV :=
  x0
noncomputable def n101700_2 (_x4 : Int) (x0 : List DV) (_x6 : List DV) (_x7 : List DV) (_x8 : List DV) (_x9 : List DV) (_x10 : List DV) (_x11 : List DV) : List DV :=
  x0
noncomputable def n101700_3 (_x4 : Int) (_x0 : List DV) (_x6 : List DV) (_x7 : List DV) (_x8 : List DV) (x9 : List DV) (x10 : List DV) (_x11 : List DV) : List DV :=
  let x24 : Int := (x10.getD (Int.toNat 0 * (5 : Nat) + (1 : Nat)) default).toI
  let x26 : Int := (x10.getD (Int.toNat 0 * (5 : Nat) + (3 : Nat)) default).toI
  let x28 := igt x24 0
  let x29 : List DV := []
  let x30 := x29 ++ x9
  let x33 : List DV := [.i x26]
  let x34 := x30 ++ x33
  let x37 := bif x28 then x34 else x9
  x37
noncomputable def n101700_4 (_x4 : Int) (_x0 : List DV) (_x6 : List DV) (_x7 : List DV) (_x8 : List DV) (_x9 : List DV) (x10 : List DV) (_x11 : List DV) : List DV :=
  let x42 : List DV := []
  let x45 := x10.drop (Int.toNat 1 * 5)
  let x46 := x42 ++ x45
  x46
noncomputable def n101700_5 (_x4 : Int) (x0 : List DV) (_x6 : List DV) (_x7 : List DV) (_x8 : List DV) (_x9 : List DV) (_x10 : List DV) (_x11 : List DV) : List DV :=
  x0
noncomputable def t101700_0 (_x4 : Int) (_x0 : List DV) (_x6 : List DV) (_x7 : List DV) (_x8 : List DV) (_x9 : List DV) (_x10 : List DV) (_x11 : List DV) : Int :=
  0
noncomputable def t101700_1 (_x4 : Int) (_x0 : List DV) (x6 : List DV) (_x7 : List DV) (_x8 : List DV) (_x9 : List DV) (_x10 : List DV) (_x11 : List DV) : List DV :=
  x6
noncomputable def t101700_2 (_x4 : Int) (x0 : List DV) (_x6 : List DV) (_x7 : List DV) (_x8 : List DV) (_x9 : List DV) (_x10 : List DV) (_x11 : List DV) : List DV :=
  x0
noncomputable def t101700_3 (_x4 : Int) (x0 : List DV) (_x6 : List DV) (_x7 : List DV) (_x8 : List DV) (_x9 : List DV) (_x10 : List DV) (_x11 : List DV) : List DV :=
  x0
noncomputable def t101700_4 (_x4 : Int) (_x0 : List DV) (_x6 : List DV) (_x7 : List DV) (_x8 : List DV) (x9 : List DV) (_x10 : List DV) (_x11 : List DV) : List DV :=
  x9
noncomputable def t101700_5 (_x4 : Int) (_x0 : List DV) (_x6 : List DV) (_x7 : List DV) (_x8 : List DV) (_x9 : List DV) (x10 : List DV) (_x11 : List DV) : List DV :=
  x10
noncomputable def t101700_6 (_x4 : Int) (x0 : List DV) (_x6 : List DV) (_x7 : List DV) (_x8 : List DV) (_x9 : List DV) (_x10 : List DV) (_x11 : List DV) : List DV :=
  x0
noncomputable def W101700 (ds : List DV) : Bool := w101700 (dget ds 0).toI (dget ds 1).toL (dget ds 2).toL (dget ds 3).toL (dget ds 4).toL (dget ds 5).toL (dget ds 6).toL (dget ds 7).toL
noncomputable def C101700 (ds : List DV) : Bool := c101700 (dget ds 0).toI (dget ds 1).toL (dget ds 2).toL (dget ds 3).toL (dget ds 4).toL (dget ds 5).toL (dget ds 6).toL (dget ds 7).toL
noncomputable def N101700 (ds : List DV) : List DV := [.i (dget ds 0).toI, .l (dget ds 1).toL, .l (n101700_0 (dget ds 0).toI (dget ds 1).toL (dget ds 2).toL (dget ds 3).toL (dget ds 4).toL (dget ds 5).toL (dget ds 6).toL (dget ds 7).toL), .l (n101700_1 (dget ds 0).toI (dget ds 1).toL (dget ds 2).toL (dget ds 3).toL (dget ds 4).toL (dget ds 5).toL (dget ds 6).toL (dget ds 7).toL), .l (n101700_2 (dget ds 0).toI (dget ds 1).toL (dget ds 2).toL (dget ds 3).toL (dget ds 4).toL (dget ds 5).toL (dget ds 6).toL (dget ds 7).toL), .l (n101700_3 (dget ds 0).toI (dget ds 1).toL (dget ds 2).toL (dget ds 3).toL (dget ds 4).toL (dget ds 5).toL (dget ds 6).toL (dget ds 7).toL), .l (n101700_4 (dget ds 0).toI (dget ds 1).toL (dget ds 2).toL (dget ds 3).toL (dget ds 4).toL (dget ds 5).toL (dget ds 6).toL (dget ds 7).toL), .l (n101700_5 (dget ds 0).toI (dget ds 1).toL (dget ds 2).toL (dget ds 3).toL (dget ds 4).toL (dget ds 5).toL (dget ds 6).toL (dget ds 7).toL)]
noncomputable def T101700 (ds : List DV) : List DV := [.i (t101700_0 (dget ds 0).toI (dget ds 1).toL (dget ds 2).toL (dget ds 3).toL (dget ds 4).toL (dget ds 5).toL (dget ds 6).toL (dget ds 7).toL), .l (t101700_1 (dget ds 0).toI (dget ds 1).toL (dget ds 2).toL (dget ds 3).toL (dget ds 4).toL (dget ds 5).toL (dget ds 6).toL (dget ds 7).toL), .l (t101700_2 (dget ds 0).toI (dget ds 1).toL (dget ds 2).toL (dget ds 3).toL (dget ds 4).toL (dget ds 5).toL (dget ds 6).toL (dget ds 7).toL), .l (t101700_3 (dget ds 0).toI (dget ds 1).toL (dget ds 2).toL (dget ds 3).toL (dget ds 4).toL (dget ds 5).toL (dget ds 6).toL (dget ds 7).toL), .l (t101700_4 (dget ds 0).toI (dget ds 1).toL (dget ds 2).toL (dget ds 3).toL (dget ds 4).toL (dget ds 5).toL (dget ds 6).toL (dget ds 7).toL), .l (t101700_5 (dget ds 0).toI (dget ds 1).toL (dget ds 2).toL (dget ds 3).toL (dget ds 4).toL (dget ds 5).toL (dget ds 6).toL (dget ds 7).toL), .l (t101700_6 (dget ds 0).toI (dget ds 1).toL (dget ds 2).toL (dget ds 3).toL (dget ds 4).toL (dget ds 5).toL (dget ds 6).toL (dget ds 7).toL)]
noncomputable def L101700 (x0 : Int) (x1 : List DV) (x2 : List DV) (x3 : List DV) (x4 : List DV) (x5 : List DV) (x6 : List DV) (x7 : List DV) : Option (List DV) := loopG W101700 C101700 N101700 T101700 [.i x0, .l x1, .l x2, .l x3, .l x4, .l x5, .l x6, .l x7]
noncomputable def p101700 (x0 : Int) (x1 : List DV) (x2 : List DV) (x3 : List DV) (x4 : List DV) (x5 : List DV) (x6 : List DV) (x7 : List DV) : Bool := (L101700 x0 x1 x2 x3 x4 x5 x6 x7).isSome
noncomputable def r101700_0 (x0 : Int) (x1 : List DV) (x2 : List DV) (x3 : List DV) (x4 : List DV) (x5 : List DV) (x6 : List DV) (x7 : List DV) : Int := (dget ((L101700 x0 x1 x2 x3 x4 x5 x6 x7).getD []) 0).toI
noncomputable def r101700_1 (x0 : Int) (x1 : List DV) (x2 : List DV) (x3 : List DV) (x4 : List DV) (x5 : List DV) (x6 : List DV) (x7 : List DV) : List DV := (dget ((L101700 x0 x1 x2 x3 x4 x5 x6 x7).getD []) 1).toL
noncomputable def r101700_2 (x0 : Int) (x1 : List DV) (x2 : List DV) (x3 : List DV) (x4 : List DV) (x5 : List DV) (x6 : List DV) (x7 : List DV) : List DV := (dget ((L101700 x0 x1 x2 x3 x4 x5 x6 x7).getD []) 2).toL
noncomputable def r101700_3 (x0 : Int) (x1 : List DV) (x2 : List DV) (x3 : List DV) (x4 : List DV) (x5 : List DV) (x6 : List DV) (x7 : List DV) : List DV := (dget ((L101700 x0 x1 x2 x3 x4 x5 x6 x7).getD []) 3).toL
noncomputable def r101700_4 (x0 : Int) (x1 : List DV) (x2 : List DV) (x3 : List DV) (x4 : List DV) (x5 : List DV) (x6 : List DV) (x7 : List DV) : List DV := (dget ((L101700 x0 x1 x2 x3 x4 x5 x6 x7).getD []) 4).toL
noncomputable def r101700_5 (x0 : Int) (x1 : List DV) (x2 : List DV) (x3 : List DV) (x4 : List DV) (x5 : List DV) (x6 : List DV) (x7 : List DV) : List DV := (dget ((L101700 x0 x1 x2 x3 x4 x5 x6 x7).getD []) 5).toL
noncomputable def r101700_6 (x0 : Int) (x1 : List DV) (x2 : List DV) (x3 : List DV) (x4 : List DV) (x5 : List DV) (x6 : List DV) (x7 : List DV) : List DV := (dget ((L101700 x0 x1 x2 x3 x4 x5 x6 x7).getD []) 6).toL
noncomputable def g101700 (ds : List DV) : List DV := [.b (p101700 (dget ds 0).toI (dget ds 1).toL (dget ds 2).toL (dget ds 3).toL (dget ds 4).toL (dget ds 5).toL (dget ds 6).toL (dget ds 7).toL), .i (r101700_0 (dget ds 0).toI (dget ds 1).toL (dget ds 2).toL (dget ds 3).toL (dget ds 4).toL (dget ds 5).toL (dget ds 6).toL (dget ds 7).toL), .l (r101700_1 (dget ds 0).toI (dget ds 1).toL (dget ds 2).toL (dget ds 3).toL (dget ds 4).toL (dget ds 5).toL (dget ds 6).toL (dget ds 7).toL), .l (r101700_2 (dget ds 0).toI (dget ds 1).toL (dget ds 2).toL (dget ds 3).toL (dget ds 4).toL (dget ds 5).toL (dget ds 6).toL (dget ds 7).toL), .l (r101700_3 (dget ds 0).toI (dget ds 1).toL (dget ds 2).toL (dget ds 3).toL (dget ds 4).toL (dget ds 5).toL (dget ds 6).toL (dget ds 7).toL), .l (r101700_4 (dget ds 0).toI (dget ds 1).toL (dget ds 2).toL (dget ds 3).toL (dget ds 4).toL (dget ds 5).toL (dget ds 6).toL (dget ds 7).toL), .l (r101700_5 (dget ds 0).toI (dget ds 1).toL (dget ds 2).toL (dget ds 3).toL (dget ds 4).toL (dget ds 5).toL (dget ds 6).toL (dget ds 7).toL), .l (r101700_6 (dget ds 0).toI (dget ds 1).toL (dget ds 2).toL (dget ds 3).toL (dget ds 4).toL (dget ds 5).toL (dget ds 6).toL (dget ds 7).toL)]
def l17_0 : LR := ⟨101700, 6, 6, [4, 0], [(12, .llen 1 (.r 6)), (13, .lss (.r 12) (.r 4)), (14, .llen 5 (.r 10)), (15, .gtr (.r 14) (.z 0)), (16, .and (.r 13) (.r 15)), (17, .llen 5 (.r 10)), (18, .lss (.z 0) (.r 17)), (19, .lgetb 5 4 (.r 10) (.z 0)), (20, .and (.r 16) (.r 19)), (21, .llen 5 (.r 10)), (22, .lss (.z 0) (.r 21)), (23, .lgeti 5 0 (.r 10) (.z 0)), (24, .lgeti 5 1 (.r 10) (.z 0)), (25, .lgeti 5 2 (.r 10) (.z 0)), (26, .lgeti 5 3 (.r 10) (.z 0)), (27, .lgetb 5 4 (.r 10) (.z 0)), (28, .gtr (.r 24) (.z 0)), (29, .lmk [] []), (30, .lcat (.r 29) (.r 9)), (31, .llen 1 (.r 30)), (32, .leq (.r 31) (.z 7818749353073)), (33, .lmk [.i] [.r 26]), (34, .lcat (.r 30) (.r 33)), (35, .llen 1 (.r 34)), (36, .leq (.r 35) (.z 7818749353073)), (37, .itel (.r 28) (.r 34) (.r 9)), (38, .lmk [.i] [.r 23]), (39, .lcat (.r 6) (.r 38)), (40, .llen 1 (.r 39)), (41, .leq (.r 40) (.z 7818749353073)), (42, .lmk [] []), (43, .llen 5 (.r 10)), (44, .leq (.z 1) (.r 43)), (45, .ldrop 5 (.r 10) (.z 1)), (46, .lcat (.r 42) (.r 45)), (47, .llen 5 (.r 46)), (48, .leq (.r 47) (.z 1716310833601))], [⟨[(.r 16, true)], .r 18⟩, ⟨[(.r 20, true)], .r 22⟩, ⟨[(.r 20, true), (.r 28, true)], .r 32⟩, ⟨[(.r 20, true), (.r 28, true)], .r 36⟩, ⟨[(.r 20, true)], .r 41⟩, ⟨[(.r 20, true)], .r 44⟩, ⟨[(.r 20, true)], .r 48⟩], .r 20, [.r 39, .r 0, .r 0, .r 37, .r 46, .r 0], [.z 0, .r 6, .r 0, .r 0, .r 9, .r 10, .r 0], [.l, .l, .l, .l, .l, .l]⟩
def s17 : Sig := ⟨[.s (.one (.p 3 (.c 0))), .s (.one (.i .i64 (.h 4)))], [some (.v true [.int .i64] (.h 0)), some (.v true [.int .i64] (.h 1)), some (.v true [.int .i64, .int .i64, .int .i64, .int .i64, .bool] (.h 2)), some (.c true [some (.vec 0), some (.vec 1), some (.vec 2), some (.i .i64 (.h 3))])], [.l, .l, .l, .i, .i], .s (.one (.vec 4)), [some (.v true [.int .i64] (.h 0)), none, none, some (.c true [some (.vec 0), some (.vec 5), some (.vec 6), some (.i .i64 (.h 1))]), some (.v true [.int .i64] (.h 2)), some (.v true [.int .i64] (.h 3)), some (.v true [.int .i64, .int .i64, .int .i64, .int .i64, .bool] (.h 4))], [.l, .i, .l, .l, .l], true⟩
def o17 : Out := ⟨List.append ([(5, .lmk [] [])]) (callsAt 6 101700 [.r 4, .r 0, .r 5, .r 0, .r 0, .r 1, .r 2, .r 0] 0 8),
  [⟨[], .r 6⟩],
  [l17_0],
  [.r 0, .r 3, .r 8, .r 11, .r 12]⟩
noncomputable def p17 (x0 : List DV) (x1 : List DV) (x2 : List DV) (x4 : Int) : Bool :=
  let x5 : List DV := []
  let y6 : List DV := g101700 [.i x4, .l x0, .l x5, .l x0, .l x0, .l x1, .l x2, .l x0]
  let x6 : Bool := (dget y6 0).toB
  [ow [] x6].all id
noncomputable def r17_0 (x0 : List DV) : List DV :=
  x0
noncomputable def r17_1 (x3 : Int) : Int :=
  x3
noncomputable def r17_2 (x0 : List DV) (x1 : List DV) (x2 : List DV) (x4 : Int) : List DV :=
  let x5 : List DV := []
  let y8 : List DV := g101700 [.i x4, .l x0, .l x5, .l x0, .l x0, .l x1, .l x2, .l x0]
  let x8 : List DV := (dget y8 2).toL
  x8
noncomputable def r17_3 (x0 : List DV) (x1 : List DV) (x2 : List DV) (x4 : Int) : List DV :=
  let x5 : List DV := []
  let y11 : List DV := g101700 [.i x4, .l x0, .l x5, .l x0, .l x0, .l x1, .l x2, .l x0]
  let x11 : List DV := (dget y11 5).toL
  x11
noncomputable def r17_4 (x0 : List DV) (x1 : List DV) (x2 : List DV) (x4 : Int) : List DV :=
  let x5 : List DV := []
  let y12 : List DV := g101700 [.i x4, .l x0, .l x5, .l x0, .l x0, .l x1, .l x2, .l x0]
  let x12 : List DV := (dget y12 6).toL
  x12
noncomputable def g17 (ds : List DV) : List DV := [.b (p17 (dget ds 0).toL (dget ds 1).toL (dget ds 2).toL (dget ds 4).toI), .l (r17_0 (dget ds 0).toL), .i (r17_1 (dget ds 3).toI), .l (r17_2 (dget ds 0).toL (dget ds 1).toL (dget ds 2).toL (dget ds 4).toI), .l (r17_3 (dget ds 0).toL (dget ds 1).toL (dget ds 2).toL (dget ds 4).toI), .l (r17_4 (dget ds 0).toL (dget ds 1).toL (dget ds 2).toL (dget ds 4).toI)]
def S17 : Sigs := ⟨[], [], [(0, 101700)], 4⟩

noncomputable def w102000 (x6 : Int) (_x0 : List DV) (_x11 : Int) (x12 : List DV) (_x13 : List DV) (_x14 : List DV) (x15 : List DV) (x16 : List DV) (_x17 : Int) : Bool :=
  let x18 := ((x16.length / 5 : Nat) : Int)
  let x19 := IntKind.wrap .i64 (x6 + 1)
  let x20 := decide (x18 > x19)
  let x21 := ((x16.length / 5 : Nat) : Int)
  let x22 := IntKind.wrap .i64 (x21 - 1)
  let x23 := decide (x22 ≥ 0)
  let x24 := ((x16.length / 5 : Nat) : Int)
  let x25 := decide (x22 < x24)
  let x27 : Int := (x16.getD (Int.toNat x22 * (5 : Nat) + (1 : Nat)) default).toI
  let x28 : Int := (x16.getD (Int.toNat x22 * (5 : Nat) + (2 : Nat)) default).toI
  let x31 : List DV := []
  let x32 := ((x16.length / 5 : Nat) : Int)
  let x33 := IntKind.wrap .i64 (x32 - 1)
  let x34 := decide (x33 ≥ 0)
  let x35 := ((x16.length / 5 : Nat) : Int)
  let x36 := decide (x33 ≤ x35)
  let x37 := x16.take (Int.toNat x33 * 5)
  let x38 := x31 ++ x37
  let x39 := ((x38.length / 5 : Nat) : Int)
  let x40 := decide (x39 ≤ 1716310833601)
  let x41 := igt x27 0
  let x42 := ige x27 0
  let x43 := ((x12.length / 1 : Nat) : Int)
  let x44 := ilt x27 x43
  let x46 : List DV := [.i x28]
  let x47 := x46 ++ x15
  let x48 := ((x47.length / 1 : Nat) : Int)
  let x49 := decide (x48 ≤ 7818749353073)
  [ow [(x20, true)] x23, ow [(x20, true)] x25, ow [(x20, true)] x34, ow [(x20, true)] x36, ow [(x20, true)] x40, ow [(x20, true), (x41, true)] x42, ow [(x20, true), (x41, true)] x44, ow [(x20, true), (x41, true)] x49].all id
noncomputable def c102000 (x6 : Int) (_x0 : List DV) (_x11 : Int) (_x12 : List DV) (_x13 : List DV) (_x14 : List DV) (_x15 : List DV) (x16 : List DV) (_x17 : Int) : Bool :=
  let x18 := ((x16.length / 5 : Nat) : Int)
  let x19 := IntKind.wrap .i64 (x6 + 1)
  let x20 := decide (x18 > x19)
  x20
noncomputable def n102000_0 (_x6 : Int) (_x0 : List DV) (x11 : Int) (_x12 : List DV) (_x13 : List DV) (_x14 : List DV) (_x15 : List DV) (_x16 : List DV) (_x17 : Int) : Int :=
  let x52 := IntKind.wrap .i64 (x11 + 1)
  x52
noncomputable def n102000_1 (_x6 : Int) (_x0 : List DV) (_x11 : Int) (x12 : List DV) (_x13 : List DV) (_x14 : List DV) (_x15 : List DV) (x16 : List DV) (_x17 : Int) : List DV :=
  let x21 := ((x16.length / 5 : Nat) : Int)
  let x22 := IntKind.wrap .i64 (x21 - 1)
  let x27 : Int := (x16.getD (Int.toNat x22 * (5 : Nat) + (1 : Nat)) default).toI
  let x29 : Int := (x16.getD (Int.toNat x22 * (5 : Nat) + (3 : Nat)) default).toI
  let x41 := igt x27 0
  let x45 : List DV := x12.set (Int.toNat x27 * (1 : Nat) + (0 : Nat)) (.i x29)
  let x50 := bif x41 then x45 else x12
  x50
noncomputable def n102000_2 (_x6 : Int) (x0 : List DV) (_x11 : Int) (_x12 : List DV) (_x13 : List DV) (_x14 : List DV) (_x15 : List DV) (_x16 : List DV) (_x17 : Int) : List DV :=
  x0
noncomputable def n102000_3 (_x6 : Int) (x0 : List DV) (_x11 : Int) (_x12 : List DV) (_x13 : List DV) (_x14 : List DV) (_x15 : List DV) (_x16 : List DV) (_x17 : Int) : List DV :=
  x0
noncomputable def n102000_4 (_x6 : Int) (_x0 : List DV) (_x11 : Int) (_x12 : List DV) (_x13 : List DV) (_x14 : List DV) (x15 : List DV) (x16 : List DV) (_x17 : Int) : List DV :=
  let x21 := ((x16.length / 5 : Nat) : Int)
  let x22 := IntKind.wrap .i64 (x21 - 1)
  let x27 : Int := (x16.getD (Int.toNat x22 * (5 : Nat) + (1 : Nat)) default).toI
  let x28 : Int := (x16.getD (Int.toNat x22 * (5 : Nat) + (2 : Nat)) default).toI
  let x41 := igt x27 0
  let x46 : List DV := [.i x28]
  let x47 := x46 ++ x15
  let x51 := bif x41 then x47 else x15
  x51
noncomputable def n102000_5 (_x6 : Int) (_x0 : List DV) (_x11 : Int) (_x12 : List DV) (_x13 : List DV) (_x14 : List DV) (_x15 : List DV) (x16 : List DV) (_x17 : Int) : List DV :=
  let x31 : List DV := []
  let x32 := ((x16.length / 5 : Nat) : Int)
  let x33 := IntKind.wrap .i64 (x32 - 1)
  let x37 := x16.take (Int.toNat x33 * 5)
  let x38 := x31 ++ x37
  x38
noncomputable def n102000_6 (_x6 : Int) (_x0 : List DV) (_x11 : Int) (_x12 : List DV) (_x13 : List DV) (_x14 : List DV) (_x15 : List DV) (x16 : List DV) (_x17 : Int) : Int :=
  let x21 := ((x16.length / 5 : Nat) : Int)
  let x22 := IntKind.wrap .i64 (x21 - 1)
  let x26 : Int := (x16.getD (Int.toNat x22 * (5 : Nat) + (0 : Nat)) default).toI
  x26
noncomputable def t102000_0 (_x6 : Int) (_x0 : List DV) (_x11 : Int) (_x12 : List DV) (_x13 : List DV) (_x14 : List DV) (_x15 : List DV) (_x16 : List DV) (_x17 : Int) : Int :=
  0
noncomputable def t102000_1 (_x6 : Int) (_x0 : List DV) (x11 : Int) (_x12 : List DV) (_x13 : List DV) (_x14 : List DV) (_x15 : List DV) (_x16 : List DV) (_x17 : Int) : Int :=
  x11
noncomputable def t102000_2 (_x6 : Int) (_x0 : List DV) (_x11 : Int) (x12 : List DV) (_x13 : List DV) (_x14 : List DV) (_x15 : List DV) (_x16 : List DV) (_x17 : Int) : List DV :=
  x12
noncomputable def t102000_3 (_x6 : Int) (x0 : List DV) (_x11 : Int) (_x12 : List DV) (_x13 : List DV) (_x14 : List DV) (_x15 : List DV) (_x16 : List DV) (_x17 : Int) : List DV :=
  x0
noncomputable def t102000_4 (_x6 : Int) (x0 : List DV) (_x11 : Int) (_x12 : List DV) (_x13 : List DV) (_x14 : List DV) (_x15 : List DV) (_x16 : List DV) (_x17 : Int) : List DV :=
  x0
noncomputable def t102000_5 (_x6 : Int) (_x0 : List DV) (_x11 : Int) (_x12 : List DV) (_x13 : List DV) (_x14 : List DV) (x15 : List DV) (_x16 : List DV) (_x17 : Int) : List DV :=
  x15
noncomputable def t102000_6 (_x6 : Int) (_x0 : List DV) (_x11 : Int) (_x12 : List DV) (_x13 : List DV) (_x14 : List DV) (_x15 : List DV) (x16 : List DV) (_x17 : Int) : List DV :=
  x16
noncomputable def t102000_7 (_x6 : Int) (_x0 : List DV) (_x11 : Int) (_x12 : List DV) (_x13 : List DV) (_x14 : List DV) (_x15 : List DV) (_x16 : List DV) (x17 : Int) : Int :=
  x17
noncomputable def W102000 (ds : List DV) : Bool := w102000 (dget ds 0).toI (dget ds 1).toL (dget ds 2).toI (dget ds 3).toL (dget ds 4).toL (dget ds 5).toL (dget ds 6).toL (dget ds 7).toL (dget ds 8).toI
noncomputable def C102000 (ds : List DV) : Bool := c102000 (dget ds 0).toI (dget ds 1).toL (dget ds 2).toI (dget ds 3).toL (dget ds 4).toL (dget ds 5).toL (dget ds 6).toL (dget ds 7).toL (dget ds 8).toI
noncomputable def N102000 (ds : List DV) : List DV := [.i (dget ds 0).toI, .l (dget ds 1).toL, .i (n102000_0 (dget ds 0).toI (dget ds 1).toL (dget ds 2).toI (dget ds 3).toL (dget ds 4).toL (dget ds 5).toL (dget ds 6).toL (dget ds 7).toL (dget ds 8).toI), .l (n102000_1 (dget ds 0).toI (dget ds 1).toL (dget ds 2).toI (dget ds 3).toL (dget ds 4).toL (dget ds 5).toL (dget ds 6).toL (dget ds 7).toL (dget ds 8).toI), .l (n102000_2 (dget ds 0).toI (dget ds 1).toL (dget ds 2).toI (dget ds 3).toL (dget ds 4).toL (dget ds 5).toL (dget ds 6).toL (dget ds 7).toL (dget ds 8).toI), .l (n102000_3 (dget ds 0).toI (dget ds 1).toL (dget ds 2).toI (dget ds 3).toL (dget ds 4).toL (dget ds 5).toL (dget ds 6).toL (dget ds 7).toL (dget ds 8).toI), .l (n102000_4 (dget ds 0).toI (dget ds 1).toL (dget ds 2).toI (dget ds 3).toL (dget ds 4).toL (dget ds 5).toL (dget ds 6).toL (dget ds 7).toL (dget ds 8).toI), .l (n102000_5 (dget ds 0).toI (dget ds 1).toL (dget ds 2).toI (dget ds 3).toL (dget ds 4).toL (dget ds 5).toL (dget ds 6).toL (dget ds 7).toL (dget ds 8).toI), .i (n102000_6 (dget ds 0).toI (dget ds 1).toL (dget ds 2).toI (dget ds 3).toL (dget ds 4).toL (dget ds 5).toL (dget ds 6).toL (dget ds 7).toL (dget ds 8).toI)]
noncomputable def T102000 (ds : List DV) : List DV := [.i (t102000_0 (dget ds 0).toI (dget ds 1).toL (dget ds 2).toI (dget ds 3).toL (dget ds 4).toL (dget ds 5).toL (dget ds 6).toL (dget ds 7).toL (dget ds 8).toI), .i (t102000_1 (dget ds 0).toI (dget ds 1).toL (dget ds 2).toI (dget ds 3).toL (dget ds 4).toL (dget ds 5).toL (dget ds 6).toL (dget ds 7).toL (dget ds 8).toI), .l (t102000_2 (dget ds 0).toI (dget ds 1).toL (dget ds 2).toI (dget ds 3).toL (dget ds 4).toL (dget ds 5).toL (dget ds 6).toL (dget ds 7).toL (dget ds 8).toI), .l (t102000_3 (dget ds 0).toI (dget ds 1).toL (dget ds 2).toI (dget ds 3).toL (dget ds 4).toL (dget ds 5).toL (dget ds 6).toL (dget ds 7).toL (dget ds 8).toI), .l (t102000_4 (dget ds 0).toI (dget ds 1).toL (dget ds 2).toI (dget ds 3).toL (dget ds 4).toL (dget ds 5).toL (dget ds 6).toL (dget ds 7).toL (dget ds 8).toI), .l (t102000_5 (dget ds 0).toI (dget ds 1).toL (dget ds 2).toI (dget ds 3).toL (dget ds 4).toL (dget ds 5).toL (dget ds 6).toL (dget ds 7).toL (dget ds 8).toI), .l (t102000_6 (dget ds 0).toI (dget ds 1).toL (dget ds 2).toI (dget ds 3).toL (dget ds 4).toL (dget ds 5).toL (dget ds 6).toL (dget ds 7).toL (dget ds 8).toI), .i (t102000_7 (dget ds 0).toI (dget ds 1).toL (dget ds 2).toI (dget ds 3).toL (dget ds 4).toL (dget ds 5).toL (dget ds 6).toL (dget ds 7).toL (dget ds 8).toI)]
noncomputable def L102000 (x0 : Int) (x1 : List DV) (x2 : Int) (x3 : List DV) (x4 : List DV) (x5 : List DV) (x6 : List DV) (x7 : List DV) (x8 : Int) : Option (List DV) := loopG W102000 C102000 N102000 T102000 [.i x0, .l x1, .i x2, .l x3, .l x4, .l x5, .l x6, .l x7, .i x8]
noncomputable def p102000 (x0 : Int) (x1 : List DV) (x2 : Int) (x3 : List DV) (x4 : List DV) (x5 : List DV) (x6 : List DV) (x7 : List DV) (x8 : Int) : Bool := (L102000 x0 x1 x2 x3 x4 x5 x6 x7 x8).isSome
noncomputable def r102000_0 (x0 : Int) (x1 : List DV) (x2 : Int) (x3 : List DV) (x4 : List DV) (x5 : List DV) (x6 : List DV) (x7 : List DV) (x8 : Int) : Int := (dget ((L102000 x0 x1 x2 x3 x4 x5 x6 x7 x8).getD []) 0).toI
noncomputable def r102000_1 (x0 : Int) (x1 : List DV) (x2 : Int) (x3 : List DV) (x4 : List DV) (x5 : List DV) (x6 : List DV) (x7 : List DV) (x8 : Int) : Int := (dget ((L102000 x0 x1 x2 x3 x4 x5 x6 x7 x8).getD []) 1).toI
noncomputable def r102000_2 (x0 : Int) (x1 : List DV) (x2 : Int) (x3 : List DV) (x4 : List DV) (x5 : List DV) (x6 : List DV) (x7 : List DV) (x8 : Int) : List DV := (dget ((L102000 x0 x1 x2 x3 x4 x5 x6 x7 x8).getD []) 2).toL
noncomputable def r102000_3 (x0 : Int) (x1 : List DV) (x2 : Int) (x3 : List DV) (x4 : List DV) (x5 : List DV) (x6 : List DV) (x7 : List DV) (x8 : Int) : List DV := (dget ((L102000 x0 x1 x2 x3 x4 x5 x6 x7 x8).getD []) 3).toL
noncomputable def r102000_4 (x0 : Int) (x1 : List DV) (x2 : Int) (x3 : List DV) (x4 : List DV) (x5 : List DV) (x6 : List DV) (x7 : List DV) (x8 : Int) : List DV := (dget ((L102000 x0 x1 x2 x3 x4 x5 x6 x7 x8).getD []) 4).toL
noncomputable def r102000_5 (x0 : Int) (x1 : List DV) (x2 : Int) (x3 : List DV) (x4 : List DV) (x5 : List DV) (x6 : List DV) (x7 : List DV) (x8 : Int) : List DV := (dget ((L102000 x0 x1 x2 x3 x4 x5 x6 x7 x8).getD []) 5).toL
noncomputable def r102000_6 (x0 : Int) (x1 : List DV) (x2 : Int) (x3 : List DV) (x4 : List DV) (x5 : List DV) (x6 : List DV) (x7 : List DV) (x8 : Int) : List DV := (dget ((L102000 x0 x1 x2 x3 x4 x5 x6 x7 x8).getD []) 6).toL
noncomputable def r102000_7 (x0 : Int) (x1 : List DV) (x2 : Int) (x3 : List DV) (x4 : List DV) (x5 : List DV) (x6 : List DV) (x7 : List DV) (x8 : Int) : Int := (dget ((L102000 x0 x1 x2 x3 x4 x5 x6 x7 x8).getD []) 7).toI
noncomputable def g102000 (ds : List DV) : List DV := [.b (p102000 (dget ds 0).toI (dget ds 1).toL (dget ds 2).toI (dget ds 3).toL (dget ds 4).toL (dget ds 5).toL (dget ds 6).toL (dget ds 7).toL (dget ds 8).toI), .i (r102000_0 (dget ds 0).toI (dget ds 1).toL (dget ds 2).toI (dget ds 3).toL (dget ds 4).toL (dget ds 5).toL (dget ds 6).toL (dget ds 7).toL (dget ds 8).toI), .i (r102000_1 (dget ds 0).toI (dget ds 1).toL (dget ds 2).toI (dget ds 3).toL (dget ds 4).toL (dget ds 5).toL (dget ds 6).toL (dget ds 7).toL (dget ds 8).toI), .l (r102000_2 (dget ds 0).toI (dget ds 1).toL (dget ds 2).toI (dget ds 3).toL (dget ds 4).toL (dget ds 5).toL (dget ds 6).toL (dget ds 7).toL (dget ds 8).toI), .l (r102000_3 (dget ds 0).toI (dget ds 1).toL (dget ds 2).toI (dget ds 3).toL (dget ds 4).toL (dget ds 5).toL (dget ds 6).toL (dget ds 7).toL (dget ds 8).toI), .l (r102000_4 (dget ds 0).toI (dget ds 1).toL (dget ds 2).toI (dget ds 3).toL (dget ds 4).toL (dget ds 5).toL (dget ds 6).toL (dget ds 7).toL (dget ds 8).toI), .l (r102000_5 (dget ds 0).toI (dget ds 1).toL (dget ds 2).toI (dget ds 3).toL (dget ds 4).toL (dget ds 5).toL (dget ds 6).toL (dget ds 7).toL (dget ds 8).toI), .l (r102000_6 (dget ds 0).toI (dget ds 1).toL (dget ds 2).toI (dget ds 3).toL (dget ds 4).toL (dget ds 5).toL (dget ds 6).toL (dget ds 7).toL (dget ds 8).toI), .i (r102000_7 (dget ds 0).toI (dget ds 1).toL (dget ds 2).toI (dget ds 3).toL (dget ds 4).toL (dget ds 5).toL (dget ds 6).toL (dget ds 7).toL (dget ds 8).toI)]
def l20_0 : LR := ⟨102000, 11, 7, [6, 0], [(18, .llen 5 (.r 16)), (19, .add .i64 (.r 6) (.z 1)), (20, .gtr (.r 18) (.r 19)), (21, .llen 5 (.r 16)), (22, .sub .i64 (.r 21) (.z 1)), (23, .geq (.r 22) (.z 0)), (24, .llen 5 (.r 16)), (25, .lss (.r 22) (.r 24)), (26, .lgeti 5 0 (.r 16) (.r 22)), (27, .lgeti 5 1 (.r 16) (.r 22)), (28, .lgeti 5 2 (.r 16) (.r 22)), (29, .lgeti 5 3 (.r 16) (.r 22)), (30, .lgetb 5 4 (.r 16) (.r 22)), (31, .lmk [] []), (32, .llen 5 (.r 16)), (33, .sub .i64 (.r 32) (.z 1)), (34, .geq (.r 33) (.z 0)), (35, .llen 5 (.r 16)), (36, .leq (.r 33) (.r 35)), (37, .ltake 5 (.r 16) (.r 33)), (38, .lcat (.r 31) (.r 37)), (39, .llen 5 (.r 38)), (40, .leq (.r 39) (.z 1716310833601)), (41, .gtr (.r 27) (.z 0)), (42, .geq (.r 27) (.z 0)), (43, .llen 1 (.r 12)), (44, .lss (.r 27) (.r 43)), (45, .lset 1 0 .i (.r 12) (.r 27) (.r 29)), (46, .lmk [.i] [.r 28]), (47, .lcat (.r 46) (.r 15)), (48, .llen 1 (.r 47)), (49, .leq (.r 48) (.z 7818749353073)), (50, .itel (.r 41) (.r 45) (.r 12)), (51, .itel (.r 41) (.r 47) (.r 15)), (52, .add .i64 (.r 11) (.z 1))], [⟨[(.r 20, true)], .r 23⟩, ⟨[(.r 20, true)], .r 25⟩, ⟨[(.r 20, true)], .r 34⟩, ⟨[(.r 20, true)], .r 36⟩, ⟨[(.r 20, true)], .r 40⟩, ⟨[(.r 20, true), (.r 41, true)], .r 42⟩, ⟨[(.r 20, true), (.r 41, true)], .r 44⟩, ⟨[(.r 20, true), (.r 41, true)], .r 49⟩], .r 20, [.r 52, .r 50, .r 0, .r 0, .r 51, .r 38, .r 26], [.z 0, .r 11, .r 12, .r 0, .r 0, .r 15, .r 16, .r 17], [.i, .l, .l, .l, .l, .l, .i]⟩
def s20 : Sig := ⟨[.s (.one (.p 3 (.c 0))), .s (.one (.i .i64 (.h 4)))], [some (.v true [.int .i64] (.h 0)), some (.v true [.int .i64] (.h 1)), some (.v true [.int .i64, .int .i64, .int .i64, .int .i64, .bool] (.h 2)), some (.c true [some (.vec 0), some (.vec 1), some (.vec 2), some (.i .i64 (.h 3))])], [.l, .l, .l, .i, .i], .s (.one (.i .i64 (.h 0))), [some (.v true [.int .i64] (.h 1)), none, none, some (.c true [some (.vec 0), some (.vec 4), some (.vec 5), some (.i .i64 (.h 2))]), some (.v true [.int .i64] (.h 3)), some (.v true [.int .i64, .int .i64, .int .i64, .int .i64, .bool] (.h 4))], [.i, .l, .i, .l, .l], true⟩
def o20 : Out := ⟨List.append (List.append ([(5, .call 29 [.r 0, .r 1, .r 2, .r 3, .r 4] 0), (6, .call 29 [.r 0, .r 1, .r 2, .r 3, .r 4] 1), (7, .lss (.r 6) (.z 0)), (8, .neq (.r 4) (.z (-1))), (9, .and (.r 7) (.r 8)), (10, .not (.r 9))]) (callsAt 11 102000 [.r 6, .r 0, .z 0, .r 0, .r 0, .r 0, .r 1, .r 2, .r 3] 0 9)) ([(20, .itei (.r 10) (.r 13) (.z 0)), (21, .itel (.r 10) (.r 14) (.r 0)), (22, .itel (.r 10) (.r 17) (.r 1)), (23, .itel (.r 10) (.r 18) (.r 2)), (24, .itei (.r 10) (.r 19) (.r 3))]),
  [⟨[], .r 5⟩, ⟨[(.r 10, true)], .r 11⟩],
  [l20_0],
  [.r 20, .r 21, .r 24, .r 22, .r 23]⟩
noncomputable def p20 (x0 : List DV) (x1 : List DV) (x2 : List DV) (x3 : Int) (x4 : Int) : Bool :=
  let x5 := p29 x2 x4
  let x6 := r29_0 x2 x4
  let x7 := decide (x6 < 0)
  let x8 := x4 != (-1)
  let x9 := x7 && x8
  let x10 := !x9
  let y11 : List DV := g102000 [.i x6, .l x0, .i 0, .l x0, .l x0, .l x0, .l x1, .l x2, .i x3]
  let x11 : Bool := (dget y11 0).toB
  [ow [] x5, ow [(x10, true)] x11].all id
noncomputable def r20_0 (x0 : List DV) (x1 : List DV) (x2 : List DV) (x3 : Int) (x4 : Int) : Int :=
  let x6 := r29_0 x2 x4
  let x7 := decide (x6 < 0)
  let x8 := x4 != (-1)
  let x9 := x7 && x8
  let x10 := !x9
  let y13 : List DV := g102000 [.i x6, .l x0, .i 0, .l x0, .l x0, .l x0, .l x1, .l x2, .i x3]
  let x13 : Int := (dget y13 2).toI
  let x20 := bif x10 then x13 else 0
  x20
noncomputable def r20_1 (x0 : List DV) (x1 : List DV) (x2 : List DV) (x3 : Int) (x4 : Int) : List DV :=
  let x6 := r29_0 x2 x4
  let x7 := decide (x6 < 0)
  let x8 := x4 != (-1)
  let x9 := x7 && x8
  let x10 := !x9
  let y14 : List DV := g102000 [.i x6, .l x0, .i 0, .l x0, .l x0, .l x0, .l x1, .l x2, .i x3]
  let x14 : List DV := (dget y14 3).toL
  let x21 := bif x10 then x14 else x0
  x21
noncomputable def r20_2 (x0 : List DV) (x1 : List DV) (x2 : List DV) (x3 : Int) (x4 : Int) : Int :=
  let x6 := r29_0 x2 x4
  let x7 := decide (x6 < 0)
  let x8 := x4 != (-1)
  let x9 := x7 && x8
  let x10 := !x9
  let y19 : List DV := g102000 [.i x6, .l x0, .i 0, .l x0, .l x0, .l x0, .l x1, .l x2, .i x3]
  let x19 : Int := (dget y19 8).toI
  let x24 := bif x10 then x19 else x3
  x24
noncomputable def r20_3 (x0 : List DV) (x1 : List DV) (x2 : List DV) (x3 : Int) (x4 : Int) : List DV :=
  let x6 := r29_0 x2 x4
  let x7 := decide (x6 < 0)
  let x8 := x4 != (-1)
  let x9 := x7 && x8
  let x10 := !x9
  let y17 : List DV := g102000 [.i x6, .l x0, .i 0, .l x0, .l x0, .l x0, .l x1, .l x2, .i x3]
  let x17 : List DV := (dget y17 6).toL
  let x22 := bif x10 then x17 else x1
  x22
noncomputable def r20_4 (x0 : List DV) (x1 : List DV) (x2 : List DV) (x3 : Int) (x4 : Int) : List DV :=
  let x6 := r29_0 x2 x4
  let x7 := decide (x6 < 0)
  let x8 := x4 != (-1)
  let x9 := x7 && x8
  let x10 := !x9
  let y18 : List DV := g102000 [.i x6, .l x0, .i 0, .l x0, .l x0, .l x0, .l x1, .l x2, .i x3]
  let x18 : List DV := (dget y18 7).toL
  let x23 := bif x10 then x18 else x2
  x23
noncomputable def g20 (ds : List DV) : List DV := [.b (p20 (dget ds 0).toL (dget ds 1).toL (dget ds 2).toL (dget ds 3).toI (dget ds 4).toI), .i (r20_0 (dget ds 0).toL (dget ds 1).toL (dget ds 2).toL (dget ds 3).toI (dget ds 4).toI), .l (r20_1 (dget ds 0).toL (dget ds 1).toL (dget ds 2).toL (dget ds 3).toI (dget ds 4).toI), .i (r20_2 (dget ds 0).toL (dget ds 1).toL (dget ds 2).toL (dget ds 3).toI (dget ds 4).toI), .l (r20_3 (dget ds 0).toL (dget ds 1).toL (dget ds 2).toL (dget ds 3).toI (dget ds 4).toI), .l (r20_4 (dget ds 0).toL (dget ds 1).toL (dget ds 2).toL (dget ds 3).toI (dget ds 4).toI)]
def S20 : Sigs := ⟨[(29, s29)], [], [(0, 102000)], 4⟩

noncomputable def w100303 (x372 : Int) (x373 : List DV) : Bool :=
  let x374 := ((x373.length / 1 : Nat) : Int)
  let x375 := decide (x372 < x374)
  let x376 := decide (x372 ≥ 0)
  let x377 := ((x373.length / 1 : Nat) : Int)
  let x378 := decide (x372 < x377)
  [ow [(x375, true)] x376, ow [(x375, true)] x378].all id
noncomputable def c100303 (x372 : Int) (x373 : List DV) : Bool :=
  let x374 := ((x373.length / 1 : Nat) : Int)
  let x375 := decide (x372 < x374)
  x375
noncomputable def n100303_0 (x372 : Int) (_x373 : List DV) : Int :=
  let x380 := IntKind.wrap .i64 (x372 + 1)
  x380
noncomputable def n100303_1 (x372 : Int) (x373 : List DV) : List DV :=
  let x379 : List DV := x373.set (Int.toNat x372 * (1 : Nat) + (0 : Nat)) (.i (-5))
  x379
noncomputable def t100303_0 (_x372 : Int) (_x373 : List DV) : Int :=
  0
noncomputable def t100303_1 (x372 : Int) (_x373 : List DV) : Int :=
  x372
noncomputable def t100303_2 (_x372 : Int) (x373 : List DV) : List DV :=
  x373
noncomputable def W100303 (ds : List DV) : Bool := w100303 (dget ds 0).toI (dget ds 1).toL
noncomputable def C100303 (ds : List DV) : Bool := c100303 (dget ds 0).toI (dget ds 1).toL
noncomputable def N100303 (ds : List DV) : List DV := [.i (n100303_0 (dget ds 0).toI (dget ds 1).toL), .l (n100303_1 (dget ds 0).toI (dget ds 1).toL)]
noncomputable def T100303 (ds : List DV) : List DV := [.i (t100303_0 (dget ds 0).toI (dget ds 1).toL), .i (t100303_1 (dget ds 0).toI (dget ds 1).toL), .l (t100303_2 (dget ds 0).toI (dget ds 1).toL)]
noncomputable def L100303 (x0 : Int) (x1 : List DV) : Option (List DV) := loopG W100303 C100303 N100303 T100303 [.i x0, .l x1]
noncomputable def p100303 (x0 : Int) (x1 : List DV) : Bool := (L100303 x0 x1).isSome
noncomputable def r100303_0 (x0 : Int) (x1 : List DV) : Int := (dget ((L100303 x0 x1).getD []) 0).toI
noncomputable def r100303_1 (x0 : Int) (x1 : List DV) : Int := (dget ((L100303 x0 x1).getD []) 1).toI
noncomputable def r100303_2 (x0 : Int) (x1 : List DV) : List DV := (dget ((L100303 x0 x1).getD []) 2).toL
noncomputable def g100303 (ds : List DV) : List DV := [.b (p100303 (dget ds 0).toI (dget ds 1).toL), .i (r100303_0 (dget ds 0).toI (dget ds 1).toL), .i (r100303_1 (dget ds 0).toI (dget ds 1).toL), .l (r100303_2 (dget ds 0).toI (dget ds 1).toL)]
noncomputable def W100300 (ds : List DV) : Bool :=
  let x0 : List DV := (dget ds 0).toL
  let x17 : Int := (dget ds 2).toI
  let x18 : List DV := (dget ds 3).toL
  let x19 : List DV := (dget ds 4).toL
  let x20 : List DV := (dget ds 5).toL
  let x21 : Int := (dget ds 6).toI
  let x22 : Int := (dget ds 7).toI
  let x24 : List DV := (dget ds 9).toL
  let x25 : List DV := (dget ds 10).toL
  let x26 : List DV := (dget ds 11).toL
  let x27 : Int := (dget ds 12).toI
  let x31 := ((x0.length / 3 : Nat) : Int)
  let x32 := ilt x17 x31
  let x33 := ige x17 0
  let x34 := ((x0.length / 3 : Nat) : Int)
  let x35 := ilt x17 x34
  let x36 : Int := (x0.getD (Int.toNat x17 * (3 : Nat) + (0 : Nat)) default).toI
  let x37 : Int := (x0.getD (Int.toNat x17 * (3 : Nat) + (1 : Nat)) default).toI
  let x38 : List DV := (x0.getD (Int.toNat x17 * (3 : Nat) + (2 : Nat)) default).toL
  let x40 := x36 == 0
  let y41 : List DV := g11 [.l x18, .l x19, .l x20, .i x21, .i x22, .l x38]
  let x41 : Bool := (dget y41 0).toB
  let x46 : List DV := (dget y41 5).toL
  let y48 : List DV := g12 [.l x24, .l x25, .l x26, .i x27, .l x38]
  let x48 : Bool := (dget y48 0).toB
  let x50 : List DV := (dget y48 2).toL
  let x54 := p13 x46 x50
  let x57 := x36 == 1
  let y58 : List DV := g14 [.l x18, .l x19, .l x20, .i x21, .i x22, .i x37]
  let x58 : Bool := (dget y58 0).toB
  let y65 : List DV := g15 [.l x24, .l x25, .l x26, .i x27, .i x37]
  let x65 : Bool := (dget y65 0).toB
  let x72 := x36 == 2
  let y73 : List DV := g16 [.l x18, .l x19, .l x20, .i x21, .i x22, .i x37]
  let x73 : Bool := (dget y73 0).toB
  let x78 : List DV := (dget y73 5).toL
  let y80 : List DV := g17 [.l x24, .l x25, .l x26, .i x27, .i x37]
  let x80 : Bool := (dget y80 0).toB
  let x83 : List DV := (dget y80 3).toL
  let x86 := p18 x78 x83
  let x89 := x36 == 3
  let y90 : List DV := g19 [.l x18, .l x19, .l x20, .i x21, .i x22, .i x37]
  let x90 : Bool := (dget y90 0).toB
  let y97 : List DV := g20 [.l x24, .l x25, .l x26, .i x27, .i x37]
  let x97 : Bool := (dget y97 0).toB
  let x104 := p21 x19
  let x105 := r21_0 x19
  let x106 := p22 x25
  let x107 := r22_0 x25
  let x108 := p18 x105 x107
  let x109 := r18_0 x105 x107
  let x110 := !x109
  let x111 := r23_0 x18
  let x112 := p24 x24
  let x113 := r24_0 x24
  let x114 : Int := (x111.getD (Int.toNat 0 * (1 : Nat) + (0 : Nat)) default).toI
  let x115 : Int := (x113.getD (Int.toNat 0 * (1 : Nat) + (0 : Nat)) default).toI
  let x116 := x114 == x115
  let x117 : Int := (x111.getD (Int.toNat 0 * (1 : Nat) + (1 : Nat)) default).toI
  let x118 : Int := (x113.getD (Int.toNat 0 * (1 : Nat) + (1 : Nat)) default).toI
  let x119 := x117 == x118
  let x120 : Int := (x111.getD (Int.toNat 0 * (1 : Nat) + (2 : Nat)) default).toI
  let x121 : Int := (x113.getD (Int.toNat 0 * (1 : Nat) + (2 : Nat)) default).toI
  let x122 := x120 == x121
  let x123 : Int := (x111.getD (Int.toNat 0 * (1 : Nat) + (3 : Nat)) default).toI
  let x124 : Int := (x113.getD (Int.toNat 0 * (1 : Nat) + (3 : Nat)) default).toI
  let x125 := x123 == x124
  let x126 : Int := (x111.getD (Int.toNat 0 * (1 : Nat) + (4 : Nat)) default).toI
  let x127 : Int := (x113.getD (Int.toNat 0 * (1 : Nat) + (4 : Nat)) default).toI
  let x128 := x126 == x127
  let x129 : Int := (x111.getD (Int.toNat 0 * (1 : Nat) + (5 : Nat)) default).toI
  let x130 : Int := (x113.getD (Int.toNat 0 * (1 : Nat) + (5 : Nat)) default).toI
  let x131 := x129 == x130
  let x132 : Int := (x111.getD (Int.toNat 0 * (1 : Nat) + (6 : Nat)) default).toI
  let x133 : Int := (x113.getD (Int.toNat 0 * (1 : Nat) + (6 : Nat)) default).toI
  let x134 := x132 == x133
  let x135 : Int := (x111.getD (Int.toNat 0 * (1 : Nat) + (7 : Nat)) default).toI
  let x136 : Int := (x113.getD (Int.toNat 0 * (1 : Nat) + (7 : Nat)) default).toI
  let x137 := x135 == x136
  let x138 : Int := (x111.getD (Int.toNat 0 * (1 : Nat) + (8 : Nat)) default).toI
  let x139 : Int := (x113.getD (Int.toNat 0 * (1 : Nat) + (8 : Nat)) default).toI
  let x140 := x138 == x139
  let x141 : Int := (x111.getD (Int.toNat 0 * (1 : Nat) + (9 : Nat)) default).toI
  let x142 : Int := (x113.getD (Int.toNat 0 * (1 : Nat) + (9 : Nat)) default).toI
  let x143 := x141 == x142
  let x144 : Int := (x111.getD (Int.toNat 0 * (1 : Nat) + (10 : Nat)) default).toI
  let x145 : Int := (x113.getD (Int.toNat 0 * (1 : Nat) + (10 : Nat)) default).toI
  let x146 := x144 == x145
  let x147 : Int := (x111.getD (Int.toNat 0 * (1 : Nat) + (11 : Nat)) default).toI
  let x148 : Int := (x113.getD (Int.toNat 0 * (1 : Nat) + (11 : Nat)) default).toI
  let x149 := x147 == x148
  let x150 : Int := (x111.getD (Int.toNat 0 * (1 : Nat) + (12 : Nat)) default).toI
  let x151 : Int := (x113.getD (Int.toNat 0 * (1 : Nat) + (12 : Nat)) default).toI
  let x152 := x150 == x151
  let x153 : Int := (x111.getD (Int.toNat 0 * (1 : Nat) + (13 : Nat)) default).toI
  let x154 : Int := (x113.getD (Int.toNat 0 * (1 : Nat) + (13 : Nat)) default).toI
  let x155 := x153 == x154
  let x156 : Int := (x111.getD (Int.toNat 0 * (1 : Nat) + (14 : Nat)) default).toI
  let x157 : Int := (x113.getD (Int.toNat 0 * (1 : Nat) + (14 : Nat)) default).toI
  let x158 := x156 == x157
  let x159 : Int := (x111.getD (Int.toNat 0 * (1 : Nat) + (15 : Nat)) default).toI
  let x160 : Int := (x113.getD (Int.toNat 0 * (1 : Nat) + (15 : Nat)) default).toI
  let x161 := x159 == x160
  let x162 : Int := (x111.getD (Int.toNat 0 * (1 : Nat) + (16 : Nat)) default).toI
  let x163 : Int := (x113.getD (Int.toNat 0 * (1 : Nat) + (16 : Nat)) default).toI
  let x164 := x162 == x163
  let x165 : Int := (x111.getD (Int.toNat 0 * (1 : Nat) + (17 : Nat)) default).toI
  let x166 : Int := (x113.getD (Int.toNat 0 * (1 : Nat) + (17 : Nat)) default).toI
  let x167 := x165 == x166
  let x168 : Int := (x111.getD (Int.toNat 0 * (1 : Nat) + (18 : Nat)) default).toI
  let x169 : Int := (x113.getD (Int.toNat 0 * (1 : Nat) + (18 : Nat)) default).toI
  let x170 := x168 == x169
  let x171 : Int := (x111.getD (Int.toNat 0 * (1 : Nat) + (19 : Nat)) default).toI
  let x172 : Int := (x113.getD (Int.toNat 0 * (1 : Nat) + (19 : Nat)) default).toI
  let x173 := x171 == x172
  let x174 : Int := (x111.getD (Int.toNat 0 * (1 : Nat) + (20 : Nat)) default).toI
  let x175 : Int := (x113.getD (Int.toNat 0 * (1 : Nat) + (20 : Nat)) default).toI
  let x176 := x174 == x175
  let x177 : Int := (x111.getD (Int.toNat 0 * (1 : Nat) + (21 : Nat)) default).toI
  let x178 : Int := (x113.getD (Int.toNat 0 * (1 : Nat) + (21 : Nat)) default).toI
  let x179 := x177 == x178
  let x180 : Int := (x111.getD (Int.toNat 0 * (1 : Nat) + (22 : Nat)) default).toI
  let x181 : Int := (x113.getD (Int.toNat 0 * (1 : Nat) + (22 : Nat)) default).toI
  let x182 := x180 == x181
  let x183 : Int := (x111.getD (Int.toNat 0 * (1 : Nat) + (23 : Nat)) default).toI
  let x184 : Int := (x113.getD (Int.toNat 0 * (1 : Nat) + (23 : Nat)) default).toI
  let x185 := x183 == x184
  let x186 : Int := (x111.getD (Int.toNat 0 * (1 : Nat) + (24 : Nat)) default).toI
  let x187 : Int := (x113.getD (Int.toNat 0 * (1 : Nat) + (24 : Nat)) default).toI
  let x188 := x186 == x187
  let x189 : Int := (x111.getD (Int.toNat 0 * (1 : Nat) + (25 : Nat)) default).toI
  let x190 : Int := (x113.getD (Int.toNat 0 * (1 : Nat) + (25 : Nat)) default).toI
  let x191 := x189 == x190
  let x192 : Int := (x111.getD (Int.toNat 0 * (1 : Nat) + (26 : Nat)) default).toI
  let x193 : Int := (x113.getD (Int.toNat 0 * (1 : Nat) + (26 : Nat)) default).toI
  let x194 := x192 == x193
  let x195 : Int := (x111.getD (Int.toNat 0 * (1 : Nat) + (27 : Nat)) default).toI
  let x196 : Int := (x113.getD (Int.toNat 0 * (1 : Nat) + (27 : Nat)) default).toI
  let x197 := x195 == x196
  let x198 : Int := (x111.getD (Int.toNat 0 * (1 : Nat) + (28 : Nat)) default).toI
  let x199 : Int := (x113.getD (Int.toNat 0 * (1 : Nat) + (28 : Nat)) default).toI
  let x200 := x198 == x199
  let x201 : Int := (x111.getD (Int.toNat 0 * (1 : Nat) + (29 : Nat)) default).toI
  let x202 : Int := (x113.getD (Int.toNat 0 * (1 : Nat) + (29 : Nat)) default).toI
  let x203 := x201 == x202
  let x204 : Int := (x111.getD (Int.toNat 0 * (1 : Nat) + (30 : Nat)) default).toI
  let x205 : Int := (x113.getD (Int.toNat 0 * (1 : Nat) + (30 : Nat)) default).toI
  let x206 := x204 == x205
  let x207 : Int := (x111.getD (Int.toNat 0 * (1 : Nat) + (31 : Nat)) default).toI
  let x208 : Int := (x113.getD (Int.toNat 0 * (1 : Nat) + (31 : Nat)) default).toI
  let x209 := x207 == x208
  let x210 : Int := (x111.getD (Int.toNat 0 * (1 : Nat) + (32 : Nat)) default).toI
  let x211 : Int := (x113.getD (Int.toNat 0 * (1 : Nat) + (32 : Nat)) default).toI
  let x212 := x210 == x211
  let x213 : Int := (x111.getD (Int.toNat 0 * (1 : Nat) + (33 : Nat)) default).toI
  let x214 : Int := (x113.getD (Int.toNat 0 * (1 : Nat) + (33 : Nat)) default).toI
  let x215 := x213 == x214
  let x216 : Int := (x111.getD (Int.toNat 0 * (1 : Nat) + (34 : Nat)) default).toI
  let x217 : Int := (x113.getD (Int.toNat 0 * (1 : Nat) + (34 : Nat)) default).toI
  let x218 := x216 == x217
  let x219 : Int := (x111.getD (Int.toNat 0 * (1 : Nat) + (35 : Nat)) default).toI
  let x220 : Int := (x113.getD (Int.toNat 0 * (1 : Nat) + (35 : Nat)) default).toI
  let x221 := x219 == x220
  let x222 : Int := (x111.getD (Int.toNat 0 * (1 : Nat) + (36 : Nat)) default).toI
  let x223 : Int := (x113.getD (Int.toNat 0 * (1 : Nat) + (36 : Nat)) default).toI
  let x224 := x222 == x223
  let x225 : Int := (x111.getD (Int.toNat 0 * (1 : Nat) + (37 : Nat)) default).toI
  let x226 : Int := (x113.getD (Int.toNat 0 * (1 : Nat) + (37 : Nat)) default).toI
  let x227 := x225 == x226
  let x228 : Int := (x111.getD (Int.toNat 0 * (1 : Nat) + (38 : Nat)) default).toI
  let x229 : Int := (x113.getD (Int.toNat 0 * (1 : Nat) + (38 : Nat)) default).toI
  let x230 := x228 == x229
  let x231 : Int := (x111.getD (Int.toNat 0 * (1 : Nat) + (39 : Nat)) default).toI
  let x232 : Int := (x113.getD (Int.toNat 0 * (1 : Nat) + (39 : Nat)) default).toI
  let x233 := x231 == x232
  let x234 : Int := (x111.getD (Int.toNat 0 * (1 : Nat) + (40 : Nat)) default).toI
  let x235 : Int := (x113.getD (Int.toNat 0 * (1 : Nat) + (40 : Nat)) default).toI
  let x236 := x234 == x235
  let x237 : Int := (x111.getD (Int.toNat 0 * (1 : Nat) + (41 : Nat)) default).toI
  let x238 : Int := (x113.getD (Int.toNat 0 * (1 : Nat) + (41 : Nat)) default).toI
  let x239 := x237 == x238
  let x240 : Int := (x111.getD (Int.toNat 0 * (1 : Nat) + (42 : Nat)) default).toI
  let x241 : Int := (x113.getD (Int.toNat 0 * (1 : Nat) + (42 : Nat)) default).toI
  let x242 := x240 == x241
  let x243 : Int := (x111.getD (Int.toNat 0 * (1 : Nat) + (43 : Nat)) default).toI
  let x244 : Int := (x113.getD (Int.toNat 0 * (1 : Nat) + (43 : Nat)) default).toI
  let x245 := x243 == x244
  let x246 : Int := (x111.getD (Int.toNat 0 * (1 : Nat) + (44 : Nat)) default).toI
  let x247 : Int := (x113.getD (Int.toNat 0 * (1 : Nat) + (44 : Nat)) default).toI
  let x248 := x246 == x247
  let x249 : Int := (x111.getD (Int.toNat 0 * (1 : Nat) + (45 : Nat)) default).toI
  let x250 : Int := (x113.getD (Int.toNat 0 * (1 : Nat) + (45 : Nat)) default).toI
  let x251 := x249 == x250
  let x252 : Int := (x111.getD (Int.toNat 0 * (1 : Nat) + (46 : Nat)) default).toI
  let x253 : Int := (x113.getD (Int.toNat 0 * (1 : Nat) + (46 : Nat)) default).toI
  let x254 := x252 == x253
  let x255 : Int := (x111.getD (Int.toNat 0 * (1 : Nat) + (47 : Nat)) default).toI
  let x256 : Int := (x113.getD (Int.toNat 0 * (1 : Nat) + (47 : Nat)) default).toI
  let x257 := x255 == x256
  let x258 : Int := (x111.getD (Int.toNat 0 * (1 : Nat) + (48 : Nat)) default).toI
  let x259 : Int := (x113.getD (Int.toNat 0 * (1 : Nat) + (48 : Nat)) default).toI
  let x260 := x258 == x259
  let x261 : Int := (x111.getD (Int.toNat 0 * (1 : Nat) + (49 : Nat)) default).toI
  let x262 : Int := (x113.getD (Int.toNat 0 * (1 : Nat) + (49 : Nat)) default).toI
  let x263 := x261 == x262
  let x264 : Int := (x111.getD (Int.toNat 0 * (1 : Nat) + (50 : Nat)) default).toI
  let x265 : Int := (x113.getD (Int.toNat 0 * (1 : Nat) + (50 : Nat)) default).toI
  let x266 := x264 == x265
  let x267 : Int := (x111.getD (Int.toNat 0 * (1 : Nat) + (51 : Nat)) default).toI
  let x268 : Int := (x113.getD (Int.toNat 0 * (1 : Nat) + (51 : Nat)) default).toI
  let x269 := x267 == x268
  let x270 : Int := (x111.getD (Int.toNat 0 * (1 : Nat) + (52 : Nat)) default).toI
  let x271 : Int := (x113.getD (Int.toNat 0 * (1 : Nat) + (52 : Nat)) default).toI
  let x272 := x270 == x271
  let x273 : Int := (x111.getD (Int.toNat 0 * (1 : Nat) + (53 : Nat)) default).toI
  let x274 : Int := (x113.getD (Int.toNat 0 * (1 : Nat) + (53 : Nat)) default).toI
  let x275 := x273 == x274
  let x276 : Int := (x111.getD (Int.toNat 0 * (1 : Nat) + (54 : Nat)) default).toI
  let x277 : Int := (x113.getD (Int.toNat 0 * (1 : Nat) + (54 : Nat)) default).toI
  let x278 := x276 == x277
  let x279 : Int := (x111.getD (Int.toNat 0 * (1 : Nat) + (55 : Nat)) default).toI
  let x280 : Int := (x113.getD (Int.toNat 0 * (1 : Nat) + (55 : Nat)) default).toI
  let x281 := x279 == x280
  let x282 : Int := (x111.getD (Int.toNat 0 * (1 : Nat) + (56 : Nat)) default).toI
  let x283 : Int := (x113.getD (Int.toNat 0 * (1 : Nat) + (56 : Nat)) default).toI
  let x284 := x282 == x283
  let x285 : Int := (x111.getD (Int.toNat 0 * (1 : Nat) + (57 : Nat)) default).toI
  let x286 : Int := (x113.getD (Int.toNat 0 * (1 : Nat) + (57 : Nat)) default).toI
  let x287 := x285 == x286
  let x288 : Int := (x111.getD (Int.toNat 0 * (1 : Nat) + (58 : Nat)) default).toI
  let x289 : Int := (x113.getD (Int.toNat 0 * (1 : Nat) + (58 : Nat)) default).toI
  let x290 := x288 == x289
  let x291 : Int := (x111.getD (Int.toNat 0 * (1 : Nat) + (59 : Nat)) default).toI
  let x292 : Int := (x113.getD (Int.toNat 0 * (1 : Nat) + (59 : Nat)) default).toI
  let x293 := x291 == x292
  let x294 : Int := (x111.getD (Int.toNat 0 * (1 : Nat) + (60 : Nat)) default).toI
  let x295 : Int := (x113.getD (Int.toNat 0 * (1 : Nat) + (60 : Nat)) default).toI
  let x296 := x294 == x295
  let x297 : Int := (x111.getD (Int.toNat 0 * (1 : Nat) + (61 : Nat)) default).toI
  let x298 : Int := (x113.getD (Int.toNat 0 * (1 : Nat) + (61 : Nat)) default).toI
  let x299 := x297 == x298
  let x300 : Int := (x111.getD (Int.toNat 0 * (1 : Nat) + (62 : Nat)) default).toI
  let x301 : Int := (x113.getD (Int.toNat 0 * (1 : Nat) + (62 : Nat)) default).toI
  let x302 := x300 == x301
  let x303 : Int := (x111.getD (Int.toNat 0 * (1 : Nat) + (63 : Nat)) default).toI
  let x304 : Int := (x113.getD (Int.toNat 0 * (1 : Nat) + (63 : Nat)) default).toI
  let x305 := x303 == x304
  let x306 := x302 && x305
  let x307 := x299 && x306
  let x308 := x296 && x307
  let x309 := x293 && x308
  let x310 := x290 && x309
  let x311 := x287 && x310
  let x312 := x284 && x311
  let x313 := x281 && x312
  let x314 := x278 && x313
  let x315 := x275 && x314
  let x316 := x272 && x315
  let x317 := x269 && x316
  let x318 := x266 && x317
  let x319 := x263 && x318
  let x320 := x260 && x319
  let x321 := x257 && x320
  let x322 := x254 && x321
  let x323 := x251 && x322
  let x324 := x248 && x323
  let x325 := x245 && x324
  let x326 := x242 && x325
  let x327 := x239 && x326
  let x328 := x236 && x327
  let x329 := x233 && x328
  let x330 := x230 && x329
  let x331 := x227 && x330
  let x332 := x224 && x331
  let x333 := x221 && x332
  let x334 := x218 && x333
  let x335 := x215 && x334
  let x336 := x212 && x335
  let x337 := x209 && x336
  let x338 := x206 && x337
  let x339 := x203 && x338
  let x340 := x200 && x339
  let x341 := x197 && x340
  let x342 := x194 && x341
  let x343 := x191 && x342
  let x344 := x188 && x343
  let x345 := x185 && x344
  let x346 := x182 && x345
  let x347 := x179 && x346
  let x348 := x176 && x347
  let x349 := x173 && x348
  let x350 := x170 && x349
  let x351 := x167 && x350
  let x352 := x164 && x351
  let x353 := x161 && x352
  let x354 := x158 && x353
  let x355 := x155 && x354
  let x356 := x152 && x355
  let x357 := x149 && x356
  let x358 := x146 && x357
  let x359 := x143 && x358
  let x360 := x140 && x359
  let x361 := x137 && x360
  let x362 := x134 && x361
  let x363 := x131 && x362
  let x364 := x128 && x363
  let x365 := x125 && x364
  let x366 := x122 && x365
  let x367 := x119 && x366
  let x368 := x116 && x367
  let x369 := !x368
  let x370 := x110 || x369
  let x371 := !x370
  let x372 := p100303 0 x105
  let x375 := r100303_2 0 x105
  let x376 : List DV := [.i 1]
  let x377 := x375 ++ x376
  let x378 := ((x377.length / 1 : Nat) : Int)
  let x379 := decide (x378 ≤ 7818749353073)
  [ow [(x32, true)] x33, ow [(x32, true)] x35, ow [(x32, true), (x40, true)] x41, ow [(x32, true), (x40, true)] x48, ow [(x32, true), (x40, true)] x54, ow [(x32, true), (x40, false), (x57, true)] x58, ow [(x32, true), (x40, false), (x57, true)] x65, ow [(x32, true), (x40, false), (x57, false), (x72, true)] x73, ow [(x32, true), (x40, false), (x57, false), (x72, true)] x80, ow [(x32, true), (x40, false), (x57, false), (x72, true)] x86, ow [(x32, true), (x40, false), (x57, false), (x72, false), (x89, true)] x90, ow [(x32, true), (x40, false), (x57, false), (x72, false), (x89, true)] x97, ow [(x32, true), (x40, false), (x57, false), (x72, false), (x89, false)] x104, ow [(x32, true), (x40, false), (x57, false), (x72, false), (x89, false)] x106, ow [(x32, true), (x40, false), (x57, false), (x72, false), (x89, false)] x108, ow [(x32, true), (x40, false), (x57, false), (x72, false), (x89, false), (x110, false)] x112, ow [(x32, true), (x40, false), (x57, false), (x72, false), (x89, false), (x371, true)] x372, ow [(x32, true), (x40, false), (x57, false), (x72, false), (x89, false), (x371, true)] x379].all id
noncomputable def C100300 (ds : List DV) : Bool :=
  let x0 : List DV := (dget ds 0).toL
  let x17 : Int := (dget ds 2).toI
  let x18 : List DV := (dget ds 3).toL
  let x19 : List DV := (dget ds 4).toL
  let x20 : List DV := (dget ds 5).toL
  let x21 : Int := (dget ds 6).toI
  let x22 : Int := (dget ds 7).toI
  let x24 : List DV := (dget ds 9).toL
  let x25 : List DV := (dget ds 10).toL
  let x26 : List DV := (dget ds 11).toL
  let x27 : Int := (dget ds 12).toI
  let x31 := ((x0.length / 3 : Nat) : Int)
  let x32 := ilt x17 x31
  let x36 : Int := (x0.getD (Int.toNat x17 * (3 : Nat) + (0 : Nat)) default).toI
  let x37 : Int := (x0.getD (Int.toNat x17 * (3 : Nat) + (1 : Nat)) default).toI
  let x38 : List DV := (x0.getD (Int.toNat x17 * (3 : Nat) + (2 : Nat)) default).toL
  let x40 := x36 == 0
  let y42 : List DV := g11 [.l x18, .l x19, .l x20, .i x21, .i x22, .l x38]
  let x45 : Int := (dget y42 4).toI
  let x46 : List DV := (dget y42 5).toL
  let y50 : List DV := g12 [.l x24, .l x25, .l x26, .i x27, .l x38]
  let x50 : List DV := (dget y50 2).toL
  let x53 : List DV := (dget y50 5).toL
  let x55 := r13_0 x46 x50
  let x56 := !x55
  let x57 := x36 == 1
  let y59 : List DV := g14 [.l x18, .l x19, .l x20, .i x21, .i x22, .i x37]
  let x59 : Bool := (dget y59 1).toB
  let x64 : Int := (dget y59 6).toI
  let y66 : List DV := g15 [.l x24, .l x25, .l x26, .i x27, .i x37]
  let x66 : Bool := (dget y66 1).toB
  let x69 : List DV := (dget y66 4).toL
  let x71 := x59 != x66
  let x72 := x36 == 2
  let y74 : List DV := g16 [.l x18, .l x19, .l x20, .i x21, .i x22, .i x37]
  let x77 : Int := (dget y74 4).toI
  let x78 : List DV := (dget y74 5).toL
  let y83 : List DV := g17 [.l x24, .l x25, .l x26, .i x27, .i x37]
  let x83 : List DV := (dget y83 3).toL
  let x85 : List DV := (dget y83 5).toL
  let x87 := r18_0 x78 x83
  let x88 := !x87
  let x89 := x36 == 3
  let y91 : List DV := g19 [.l x18, .l x19, .l x20, .i x21, .i x22, .i x37]
  let x91 : Int := (dget y91 1).toI
  let x95 : Int := (dget y91 5).toI
  let y98 : List DV := g20 [.l x24, .l x25, .l x26, .i x27, .i x37]
  let x98 : Int := (dget y98 1).toI
  let x102 : List DV := (dget y98 5).toL
  let x103 := x91 != x98
  let x105 := r21_0 x19
  let x107 := r22_0 x25
  let x109 := r18_0 x105 x107
  let x110 := !x109
  let x111 := r23_0 x18
  let x113 := r24_0 x24
  let x114 : Int := (x111.getD (Int.toNat 0 * (1 : Nat) + (0 : Nat)) default).toI
  let x115 : Int := (x113.getD (Int.toNat 0 * (1 : Nat) + (0 : Nat)) default).toI
  let x116 := x114 == x115
  let x117 : Int := (x111.getD (Int.toNat 0 * (1 : Nat) + (1 : Nat)) default).toI
  let x118 : Int := (x113.getD (Int.toNat 0 * (1 : Nat) + (1 : Nat)) default).toI
  let x119 := x117 == x118
  let x120 : Int := (x111.getD (Int.toNat 0 * (1 : Nat) + (2 : Nat)) default).toI
  let x121 : Int := (x113.getD (Int.toNat 0 * (1 : Nat) + (2 : Nat)) default).toI
  let x122 := x120 == x121
  let x123 : Int := (x111.getD (Int.toNat 0 * (1 : Nat) + (3 : Nat)) default).toI
  let x124 : Int := (x113.getD (Int.toNat 0 * (1 : Nat) + (3 : Nat)) default).toI
  let x125 := x123 == x124
  let x126 : Int := (x111.getD (Int.toNat 0 * (1 : Nat) + (4 : Nat)) default).toI
  let x127 : Int := (x113.getD (Int.toNat 0 * (1 : Nat) + (4 : Nat)) default).toI
  let x128 := x126 == x127
  let x129 : Int := (x111.getD (Int.toNat 0 * (1 : Nat) + (5 : Nat)) default).toI
  let x130 : Int := (x113.getD (Int.toNat 0 * (1 : Nat) + (5 : Nat)) default).toI
  let x131 := x129 == x130
  let x132 : Int := (x111.getD (Int.toNat 0 * (1 : Nat) + (6 : Nat)) default).toI
  let x133 : Int := (x113.getD (Int.toNat 0 * (1 : Nat) + (6 : Nat)) default).toI
  let x134 := x132 == x133
  let x135 : Int := (x111.getD (Int.toNat 0 * (1 : Nat) + (7 : Nat)) default).toI
  let x136 : Int := (x113.getD (Int.toNat 0 * (1 : Nat) + (7 : Nat)) default).toI
  let x137 := x135 == x136
  let x138 : Int := (x111.getD (Int.toNat 0 * (1 : Nat) + (8 : Nat)) default).toI
  let x139 : Int := (x113.getD (Int.toNat 0 * (1 : Nat) + (8 : Nat)) default).toI
  let x140 := x138 == x139
  let x141 : Int := (x111.getD (Int.toNat 0 * (1 : Nat) + (9 : Nat)) default).toI
  let x142 : Int := (x113.getD (Int.toNat 0 * (1 : Nat) + (9 : Nat)) default).toI
  let x143 := x141 == x142
  let x144 : Int := (x111.getD (Int.toNat 0 * (1 : Nat) + (10 : Nat)) default).toI
  let x145 : Int := (x113.getD (Int.toNat 0 * (1 : Nat) + (10 : Nat)) default).toI
  let x146 := x144 == x145
  let x147 : Int := (x111.getD (Int.toNat 0 * (1 : Nat) + (11 : Nat)) default).toI
  let x148 : Int := (x113.getD (Int.toNat 0 * (1 : Nat) + (11 : Nat)) default).toI
  let x149 := x147 == x148
  let x150 : Int := (x111.getD (Int.toNat 0 * (1 : Nat) + (12 : Nat)) default).toI
  let x151 : Int := (x113.getD (Int.toNat 0 * (1 : Nat) + (12 : Nat)) default).toI
  let x152 := x150 == x151
  let x153 : Int := (x111.getD (Int.toNat 0 * (1 : Nat) + (13 : Nat)) default).toI
  let x154 : Int := (x113.getD (Int.toNat 0 * (1 : Nat) + (13 : Nat)) default).toI
  let x155 := x153 == x154
  let x156 : Int := (x111.getD (Int.toNat 0 * (1 : Nat) + (14 : Nat)) default).toI
  let x157 : Int := (x113.getD (Int.toNat 0 * (1 : Nat) + (14 : Nat)) default).toI
  let x158 := x156 == x157
  let x159 : Int := (x111.getD (Int.toNat 0 * (1 : Nat) + (15 : Nat)) default).toI
  let x160 : Int := (x113.getD (Int.toNat 0 * (1 : Nat) + (15 : Nat)) default).toI
  let x161 := x159 == x160
  let x162 : Int := (x111.getD (Int.toNat 0 * (1 : Nat) + (16 : Nat)) default).toI
  let x163 : Int := (x113.getD (Int.toNat 0 * (1 : Nat) + (16 : Nat)) default).toI
  let x164 := x162 == x163
  let x165 : Int := (x111.getD (Int.toNat 0 * (1 : Nat) + (17 : Nat)) default).toI
  let x166 : Int := (x113.getD (Int.toNat 0 * (1 : Nat) + (17 : Nat)) default).toI
  let x167 := x165 == x166
  let x168 : Int := (x111.getD (Int.toNat 0 * (1 : Nat) + (18 : Nat)) default).toI
  let x169 : Int := (x113.getD (Int.toNat 0 * (1 : Nat) + (18 : Nat)) default).toI
  let x170 := x168 == x169
  let x171 : Int := (x111.getD (Int.toNat 0 * (1 : Nat) + (19 : Nat)) default).toI
  let x172 : Int := (x113.getD (Int.toNat 0 * (1 : Nat) + (19 : Nat)) default).toI
  let x173 := x171 == x172
  let x174 : Int := (x111.getD (Int.toNat 0 * (1 : Nat) + (20 : Nat)) default).toI
  let x175 : Int := (x113.getD (Int.toNat 0 * (1 : Nat) + (20 : Nat)) default).toI
  let x176 := x174 == x175
  let x177 : Int := (x111.getD (Int.toNat 0 * (1 : Nat) + (21 : Nat)) default).toI
  let x178 : Int := (x113.getD (Int.toNat 0 * (1 : Nat) + (21 : Nat)) default).toI
  let x179 := x177 == x178
  let x180 : Int := (x111.getD (Int.toNat 0 * (1 : Nat) + (22 : Nat)) default).toI
  let x181 : Int := (x113.getD (Int.toNat 0 * (1 : Nat) + (22 : Nat)) default).toI
  let x182 := x180 == x181
  let x183 : Int := (x111.getD (Int.toNat 0 * (1 : Nat) + (23 : Nat)) default).toI
  let x184 : Int := (x113.getD (Int.toNat 0 * (1 : Nat) + (23 : Nat)) default).toI
  let x185 := x183 == x184
  let x186 : Int := (x111.getD (Int.toNat 0 * (1 : Nat) + (24 : Nat)) default).toI
  let x187 : Int := (x113.getD (Int.toNat 0 * (1 : Nat) + (24 : Nat)) default).toI
  let x188 := x186 == x187
  let x189 : Int := (x111.getD (Int.toNat 0 * (1 : Nat) + (25 : Nat)) default).toI
  let x190 : Int := (x113.getD (Int.toNat 0 * (1 : Nat) + (25 : Nat)) default).toI
  let x191 := x189 == x190
  let x192 : Int := (x111.getD (Int.toNat 0 * (1 : Nat) + (26 : Nat)) default).toI
  let x193 : Int := (x113.getD (Int.toNat 0 * (1 : Nat) + (26 : Nat)) default).toI
  let x194 := x192 == x193
  let x195 : Int := (x111.getD (Int.toNat 0 * (1 : Nat) + (27 : Nat)) default).toI
  let x196 : Int := (x113.getD (Int.toNat 0 * (1 : Nat) + (27 : Nat)) default).toI
  let x197 := x195 == x196
  let x198 : Int := (x111.getD (Int.toNat 0 * (1 : Nat) + (28 : Nat)) default).toI
  let x199 : Int := (x113.getD (Int.toNat 0 * (1 : Nat) + (28 : Nat)) default).toI
  let x200 := x198 == x199
  let x201 : Int := (x111.getD (Int.toNat 0 * (1 : Nat) + (29 : Nat)) default).toI
  let x202 : Int := (x113.getD (Int.toNat 0 * (1 : Nat) + (29 : Nat)) default).toI
  let x203 := x201 == x202
  let x204 : Int := (x111.getD (Int.toNat 0 * (1 : Nat) + (30 : Nat)) default).toI
  let x205 : Int := (x113.getD (Int.toNat 0 * (1 : Nat) + (30 : Nat)) default).toI
  let x206 := x204 == x205
  let x207 : Int := (x111.getD (Int.toNat 0 * (1 : Nat) + (31 : Nat)) default).toI
  let x208 : Int := (x113.getD (Int.toNat 0 * (1 : Nat) + (31 : Nat)) default).toI
  let x209 := x207 == x208
  let x210 : Int := (x111.getD (Int.toNat 0 * (1 : Nat) + (32 : Nat)) default).toI
  let x211 : Int := (x113.getD (Int.toNat 0 * (1 : Nat) + (32 : Nat)) default).toI
  let x212 := x210 == x211
  let x213 : Int := (x111.getD (Int.toNat 0 * (1 : Nat) + (33 : Nat)) default).toI
  let x214 : Int := (x113.getD (Int.toNat 0 * (1 : Nat) + (33 : Nat)) default).toI
  let x215 := x213 == x214
  let x216 : Int := (x111.getD (Int.toNat 0 * (1 : Nat) + (34 : Nat)) default).toI
  let x217 : Int := (x113.getD (Int.toNat 0 * (1 : Nat) + (34 : Nat)) default).toI
  let x218 := x216 == x217
  let x219 : Int := (x111.getD (Int.toNat 0 * (1 : Nat) + (35 : Nat)) default).toI
  let x220 : Int := (x113.getD (Int.toNat 0 * (1 : Nat) + (35 : Nat)) default).toI
  let x221 := x219 == x220
  let x222 : Int := (x111.getD (Int.toNat 0 * (1 : Nat) + (36 : Nat)) default).toI
  let x223 : Int := (x113.getD (Int.toNat 0 * (1 : Nat) + (36 : Nat)) default).toI
  let x224 := x222 == x223
  let x225 : Int := (x111.getD (Int.toNat 0 * (1 : Nat) + (37 : Nat)) default).toI
  let x226 : Int := (x113.getD (Int.toNat 0 * (1 : Nat) + (37 : Nat)) default).toI
  let x227 := x225 == x226
  let x228 : Int := (x111.getD (Int.toNat 0 * (1 : Nat) + (38 : Nat)) default).toI
  let x229 : Int := (x113.getD (Int.toNat 0 * (1 : Nat) + (38 : Nat)) default).toI
  let x230 := x228 == x229
  let x231 : Int := (x111.getD (Int.toNat 0 * (1 : Nat) + (39 : Nat)) default).toI
  let x232 : Int := (x113.getD (Int.toNat 0 * (1 : Nat) + (39 : Nat)) default).toI
  let x233 := x231 == x232
  let x234 : Int := (x111.getD (Int.toNat 0 * (1 : Nat) + (40 : Nat)) default).toI
  let x235 : Int := (x113.getD (Int.toNat 0 * (1 : Nat) + (40 : Nat)) default).toI
  let x236 := x234 == x235
  let x237 : Int := (x111.getD (Int.toNat 0 * (1 : Nat) + (41 : Nat)) default).toI
  let x238 : Int := (x113.getD (Int.toNat 0 * (1 : Nat) + (41 : Nat)) default).toI
  let x239 := x237 == x238
  let x240 : Int := (x111.getD (Int.toNat 0 * (1 : Nat) + (42 : Nat)) default).toI
  let x241 : Int := (x113.getD (Int.toNat 0 * (1 : Nat) + (42 : Nat)) default).toI
  let x242 := x240 == x241
  let x243 : Int := (x111.getD (Int.toNat 0 * (1 : Nat) + (43 : Nat)) default).toI
  let x244 : Int := (x113.getD (Int.toNat 0 * (1 : Nat) + (43 : Nat)) default).toI
  let x245 := x243 == x244
  let x246 : Int := (x111.getD (Int.toNat 0 * (1 : Nat) + (44 : Nat)) default).toI
  let x247 : Int := (x113.getD (Int.toNat 0 * (1 : Nat) + (44 : Nat)) default).toI
  let x248 := x246 == x247
  let x249 : Int := (x111.getD (Int.toNat 0 * (1 : Nat) + (45 : Nat)) default).toI
  let x250 : Int := (x113.getD (Int.toNat 0 * (1 : Nat) + (45 : Nat)) default).toI
  let x251 := x249 == x250
  let x252 : Int := (x111.getD (Int.toNat 0 * (1 : Nat) + (46 : Nat)) default).toI
  let x253 : Int := (x113.getD (Int.toNat 0 * (1 : Nat) + (46 : Nat)) default).toI
  let x254 := x252 == x253
  let x255 : Int := (x111.getD (Int.toNat 0 * (1 : Nat) + (47 : Nat)) default).toI
  let x256 : Int := (x113.getD (Int.toNat 0 * (1 : Nat) + (47 : Nat)) default).toI
  let x257 := x255 == x256
  let x258 : Int := (x111.getD (Int.toNat 0 * (1 : Nat) + (48 : Nat)) default).toI
  let x259 : Int := (x113.getD (Int.toNat 0 * (1 : Nat) + (48 : Nat)) default).toI
  let x260 := x258 == x259
  let x261 : Int := (x111.getD (Int.toNat 0 * (1 : Nat) + (49 : Nat)) default).toI
  let x262 : Int := (x113.getD (Int.toNat 0 * (1 : Nat) + (49 : Nat)) default).toI
  let x263 := x261 == x262
  let x264 : Int := (x111.getD (Int.toNat 0 * (1 : Nat) + (50 : Nat)) default).toI
  let x265 : Int := (x113.getD (Int.toNat 0 * (1 : Nat) + (50 : Nat)) default).toI
  let x266 := x264 == x265
  let x267 : Int := (x111.getD (Int.toNat 0 * (1 : Nat) + (51 : Nat)) default).toI
  let x268 : Int := (x113.getD (Int.toNat 0 * (1 : Nat) + (51 : Nat)) default).toI
  let x269 := x267 == x268
  let x270 : Int := (x111.getD (Int.toNat 0 * (1 : Nat) + (52 : Nat)) default).toI
  let x271 : Int := (x113.getD (Int.toNat 0 * (1 : Nat) + (52 : Nat)) default).toI
  let x272 := x270 == x271
  let x273 : Int := (x111.getD (Int.toNat 0 * (1 : Nat) + (53 : Nat)) default).toI
  let x274 : Int := (x113.getD (Int.toNat 0 * (1 : Nat) + (53 : Nat)) default).toI
  let x275 := x273 == x274
  let x276 : Int := (x111.getD (Int.toNat 0 * (1 : Nat) + (54 : Nat)) default).toI
  let x277 : Int := (x113.getD (Int.toNat 0 * (1 : Nat) + (54 : Nat)) default).toI
  let x278 := x276 == x277
  let x279 : Int := (x111.getD (Int.toNat 0 * (1 : Nat) + (55 : Nat)) default).toI
  let x280 : Int := (x113.getD (Int.toNat 0 * (1 : Nat) + (55 : Nat)) default).toI
  let x281 := x279 == x280
  let x282 : Int := (x111.getD (Int.toNat 0 * (1 : Nat) + (56 : Nat)) default).toI
  let x283 : Int := (x113.getD (Int.toNat 0 * (1 : Nat) + (56 : Nat)) default).toI
  let x284 := x282 == x283
  let x285 : Int := (x111.getD (Int.toNat 0 * (1 : Nat) + (57 : Nat)) default).toI
  let x286 : Int := (x113.getD (Int.toNat 0 * (1 : Nat) + (57 : Nat)) default).toI
  let x287 := x285 == x286
  let x288 : Int := (x111.getD (Int.toNat 0 * (1 : Nat) + (58 : Nat)) default).toI
  let x289 : Int := (x113.getD (Int.toNat 0 * (1 : Nat) + (58 : Nat)) default).toI
  let x290 := x288 == x289
  let x291 : Int := (x111.getD (Int.toNat 0 * (1 : Nat) + (59 : Nat)) default).toI
  let x292 : Int := (x113.getD (Int.toNat 0 * (1 : Nat) + (59 : Nat)) default).toI
  let x293 := x291 == x292
  let x294 : Int := (x111.getD (Int.toNat 0 * (1 : Nat) + (60 : Nat)) default).toI
  let x295 : Int := (x113.getD (Int.toNat 0 * (1 : Nat) + (60 : Nat)) default).toI
  let x296 := x294 == x295
  let x297 : Int := (x111.getD (Int.toNat 0 * (1 : Nat) + (61 : Nat)) default).toI
  let x298 : Int := (x113.getD (Int.toNat 0 * (1 : Nat) + (61 : Nat)) default).toI
  let x299 := x297 == x298
  let x300 : Int := (x111.getD (Int.toNat 0 * (1 : Nat) + (62 : Nat)) default).toI
  let x301 : Int := (x113.getD (Int.toNat 0 * (1 : Nat) + (62 : Nat)) default).toI
  let x302 := x300 == x301
  let x303 : Int := (x111.getD (Int.toNat 0 * (1 : Nat) + (63 : Nat)) default).toI
  let x304 : Int := (x113.getD (Int.toNat 0 * (1 : Nat) + (63 : Nat)) default).toI
  let x305 := x303 == x304
  let x306 := x302 && x305
  let x307 := x299 && x306
  let x308 := x296 && x307
  let x309 := x293 && x308
  let x310 := x290 && x309
  let x311 := x287 && x310
  let x312 := x284 && x311
  let x313 := x281 && x312
  let x314 := x278 && x313
  let x315 := x275 && x314
  let x316 := x272 && x315
  let x317 := x269 && x316
  let x318 := x266 && x317
  let x319 := x263 && x318
  let x320 := x260 && x319
  let x321 := x257 && x320
  let x322 := x254 && x321
  let x323 := x251 && x322
  let x324 := x248 && x323
  let x325 := x245 && x324
  let x326 := x242 && x325
  let x327 := x239 && x326
  let x328 := x236 && x327
  let x329 := x233 && x328
  let x330 := x230 && x329
  let x331 := x227 && x330
  let x332 := x224 && x331
  let x333 := x221 && x332
  let x334 := x218 && x333
  let x335 := x215 && x334
  let x336 := x212 && x335
  let x337 := x209 && x336
  let x338 := x206 && x337
  let x339 := x203 && x338
  let x340 := x200 && x339
  let x341 := x197 && x340
  let x342 := x194 && x341
  let x343 := x191 && x342
  let x344 := x188 && x343
  let x345 := x185 && x344
  let x346 := x182 && x345
  let x347 := x179 && x346
  let x348 := x176 && x347
  let x349 := x173 && x348
  let x350 := x170 && x349
  let x351 := x167 && x350
  let x352 := x164 && x351
  let x353 := x161 && x352
  let x354 := x158 && x353
  let x355 := x155 && x354
  let x356 := x152 && x355
  let x357 := x149 && x356
  let x358 := x146 && x357
  let x359 := x143 && x358
  let x360 := x140 && x359
  let x361 := x137 && x360
  let x362 := x134 && x361
  let x363 := x131 && x362
  let x364 := x128 && x363
  let x365 := x125 && x364
  let x366 := x122 && x365
  let x367 := x119 && x366
  let x368 := x116 && x367
  let x369 := !x368
  let x370 := x110 || x369
  let x371 := !x370
  let x380 := !x56
  let x381 := !x71
  let x382 := !x88
  let x383 := !x103
  let x384 := bif x89 then x383 else x371
  let x385 := bif x72 then x382 else x384
  let x386 := bif x57 then x381 else x385
  let x387 := bif x40 then x380 else x386
  let x392 := bif x89 then x95 else x22
  let x395 := bif x89 then x102 else x26
  let x401 := bif x72 then x77 else x392
  let x404 := bif x72 then x85 else x395
  let x410 := bif x57 then x64 else x401
  let x413 := bif x57 then x69 else x404
  let x419 := bif x40 then x45 else x410
  let x422 := bif x40 then x53 else x413
  let x424 := r25_0 x419
  let x425 := ((x422.length / 5 : Nat) : Int)
  let x426 := x424 != x425
  let x427 := !x426
  let x428 := x387 && x427
  let x430 := x32 && x428
  x430
noncomputable def N100300 (ds : List DV) : List DV :=
  let x0 : List DV := (dget ds 0).toL
  let x16 : Bool := (dget ds 1).toB
  let x17 : Int := (dget ds 2).toI
  let x18 : List DV := (dget ds 3).toL
  let x19 : List DV := (dget ds 4).toL
  let x20 : List DV := (dget ds 5).toL
  let x21 : Int := (dget ds 6).toI
  let x22 : Int := (dget ds 7).toI
  let x24 : List DV := (dget ds 9).toL
  let x25 : List DV := (dget ds 10).toL
  let x26 : List DV := (dget ds 11).toL
  let x27 : Int := (dget ds 12).toI
  let x36 : Int := (x0.getD (Int.toNat x17 * (3 : Nat) + (0 : Nat)) default).toI
  let x37 : Int := (x0.getD (Int.toNat x17 * (3 : Nat) + (1 : Nat)) default).toI
  let x38 : List DV := (x0.getD (Int.toNat x17 * (3 : Nat) + (2 : Nat)) default).toL
  let x40 := x36 == 0
  let y42 : List DV := g11 [.l x18, .l x19, .l x20, .i x21, .i x22, .l x38]
  let x42 : List DV := (dget y42 1).toL
  let x43 : List DV := (dget y42 2).toL
  let x44 : Int := (dget y42 3).toI
  let x45 : Int := (dget y42 4).toI
  let x47 : List DV := (dget y42 6).toL
  let y49 : List DV := g12 [.l x24, .l x25, .l x26, .i x27, .l x38]
  let x49 : Int := (dget y49 1).toI
  let x51 : List DV := (dget y49 3).toL
  let x52 : List DV := (dget y49 4).toL
  let x53 : List DV := (dget y49 5).toL
  let x57 := x36 == 1
  let y60 : List DV := g14 [.l x18, .l x19, .l x20, .i x21, .i x22, .i x37]
  let x60 : List DV := (dget y60 2).toL
  let x61 : List DV := (dget y60 3).toL
  let x62 : List DV := (dget y60 4).toL
  let x63 : Int := (dget y60 5).toI
  let x64 : Int := (dget y60 6).toI
  let y67 : List DV := g15 [.l x24, .l x25, .l x26, .i x27, .i x37]
  let x67 : List DV := (dget y67 2).toL
  let x68 : List DV := (dget y67 3).toL
  let x69 : List DV := (dget y67 4).toL
  let x70 : Int := (dget y67 5).toI
  let x72 := x36 == 2
  let y74 : List DV := g16 [.l x18, .l x19, .l x20, .i x21, .i x22, .i x37]
  let x74 : List DV := (dget y74 1).toL
  let x75 : List DV := (dget y74 2).toL
  let x76 : Int := (dget y74 3).toI
  let x77 : Int := (dget y74 4).toI
  let x79 : List DV := (dget y74 6).toL
  let y81 : List DV := g17 [.l x24, .l x25, .l x26, .i x27, .i x37]
  let x81 : List DV := (dget y81 1).toL
  let x82 : Int := (dget y81 2).toI
  let x84 : List DV := (dget y81 4).toL
  let x85 : List DV := (dget y81 5).toL
  let x89 := x36 == 3
  let y92 : List DV := g19 [.l x18, .l x19, .l x20, .i x21, .i x22, .i x37]
  let x92 : List DV := (dget y92 2).toL
  let x93 : List DV := (dget y92 3).toL
  let x94 : Int := (dget y92 4).toI
  let x95 : Int := (dget y92 5).toI
  let x96 : List DV := (dget y92 6).toL
  let y99 : List DV := g20 [.l x24, .l x25, .l x26, .i x27, .i x37]
  let x99 : List DV := (dget y99 2).toL
  let x100 : Int := (dget y99 3).toI
  let x101 : List DV := (dget y99 4).toL
  let x102 : List DV := (dget y99 5).toL
  let x388 := bif x89 then x92 else x18
  let x389 := bif x89 then x96 else x19
  let x390 := bif x89 then x93 else x20
  let x391 := bif x89 then x94 else x21
  let x392 := bif x89 then x95 else x22
  let x393 := bif x89 then x99 else x24
  let x394 := bif x89 then x101 else x25
  let x395 := bif x89 then x102 else x26
  let x396 := bif x89 then x100 else x27
  let x397 := bif x72 then x74 else x388
  let x398 := bif x72 then x79 else x389
  let x399 := bif x72 then x75 else x390
  let x400 := bif x72 then x76 else x391
  let x401 := bif x72 then x77 else x392
  let x402 := bif x72 then x81 else x393
  let x403 := bif x72 then x84 else x394
  let x404 := bif x72 then x85 else x395
  let x405 := bif x72 then x82 else x396
  let x406 := bif x57 then x61 else x397
  let x407 := bif x57 then x60 else x398
  let x408 := bif x57 then x62 else x399
  let x409 := bif x57 then x63 else x400
  let x410 := bif x57 then x64 else x401
  let x411 := bif x57 then x67 else x402
  let x412 := bif x57 then x68 else x403
  let x413 := bif x57 then x69 else x404
  let x414 := bif x57 then x70 else x405
  let x415 := bif x40 then x42 else x406
  let x416 := bif x40 then x47 else x407
  let x417 := bif x40 then x43 else x408
  let x418 := bif x40 then x44 else x409
  let x419 := bif x40 then x45 else x410
  let x420 := bif x40 then x51 else x411
  let x421 := bif x40 then x52 else x412
  let x422 := bif x40 then x53 else x413
  let x423 := bif x40 then x49 else x414
  let x429 := IntKind.wrap .i64 (x17 + 1)
  [.l (dget ds 0).toL, .b x16, .i x429, .l x415, .l x416, .l x417, .i x418, .i x419, .l x0, .l x420, .l x421, .l x422, .i x423, .l x0, .l x0, .l x0]
noncomputable def T100300 (ds : List DV) : List DV :=
  let x0 : List DV := (dget ds 0).toL
  let x16 : Bool := (dget ds 1).toB
  let x17 : Int := (dget ds 2).toI
  let x18 : List DV := (dget ds 3).toL
  let x19 : List DV := (dget ds 4).toL
  let x20 : List DV := (dget ds 5).toL
  let x21 : Int := (dget ds 6).toI
  let x22 : Int := (dget ds 7).toI
  let x24 : List DV := (dget ds 9).toL
  let x25 : List DV := (dget ds 10).toL
  let x26 : List DV := (dget ds 11).toL
  let x27 : Int := (dget ds 12).toI
  let x31 := ((x0.length / 3 : Nat) : Int)
  let x32 := ilt x17 x31
  let x36 : Int := (x0.getD (Int.toNat x17 * (3 : Nat) + (0 : Nat)) default).toI
  let x37 : Int := (x0.getD (Int.toNat x17 * (3 : Nat) + (1 : Nat)) default).toI
  let x38 : List DV := (x0.getD (Int.toNat x17 * (3 : Nat) + (2 : Nat)) default).toL
  let x40 := x36 == 0
  let y42 : List DV := g11 [.l x18, .l x19, .l x20, .i x21, .i x22, .l x38]
  let x42 : List DV := (dget y42 1).toL
  let x43 : List DV := (dget y42 2).toL
  let x44 : Int := (dget y42 3).toI
  let x45 : Int := (dget y42 4).toI
  let x46 : List DV := (dget y42 5).toL
  let x47 : List DV := (dget y42 6).toL
  let y49 : List DV := g12 [.l x24, .l x25, .l x26, .i x27, .l x38]
  let x49 : Int := (dget y49 1).toI
  let x50 : List DV := (dget y49 2).toL
  let x51 : List DV := (dget y49 3).toL
  let x52 : List DV := (dget y49 4).toL
  let x53 : List DV := (dget y49 5).toL
  let x55 := r13_0 x46 x50
  let x56 := !x55
  let x57 := x36 == 1
  let y59 : List DV := g14 [.l x18, .l x19, .l x20, .i x21, .i x22, .i x37]
  let x59 : Bool := (dget y59 1).toB
  let x60 : List DV := (dget y59 2).toL
  let x61 : List DV := (dget y59 3).toL
  let x62 : List DV := (dget y59 4).toL
  let x63 : Int := (dget y59 5).toI
  let x64 : Int := (dget y59 6).toI
  let y66 : List DV := g15 [.l x24, .l x25, .l x26, .i x27, .i x37]
  let x66 : Bool := (dget y66 1).toB
  let x67 : List DV := (dget y66 2).toL
  let x68 : List DV := (dget y66 3).toL
  let x69 : List DV := (dget y66 4).toL
  let x70 : Int := (dget y66 5).toI
  let x71 := x59 != x66
  let x72 := x36 == 2
  let y74 : List DV := g16 [.l x18, .l x19, .l x20, .i x21, .i x22, .i x37]
  let x74 : List DV := (dget y74 1).toL
  let x75 : List DV := (dget y74 2).toL
  let x76 : Int := (dget y74 3).toI
  let x77 : Int := (dget y74 4).toI
  let x78 : List DV := (dget y74 5).toL
  let x79 : List DV := (dget y74 6).toL
  let y81 : List DV := g17 [.l x24, .l x25, .l x26, .i x27, .i x37]
  let x81 : List DV := (dget y81 1).toL
  let x82 : Int := (dget y81 2).toI
  let x83 : List DV := (dget y81 3).toL
  let x84 : List DV := (dget y81 4).toL
  let x85 : List DV := (dget y81 5).toL
  let x87 := r18_0 x78 x83
  let x88 := !x87
  let x89 := x36 == 3
  let y91 : List DV := g19 [.l x18, .l x19, .l x20, .i x21, .i x22, .i x37]
  let x91 : Int := (dget y91 1).toI
  let x92 : List DV := (dget y91 2).toL
  let x93 : List DV := (dget y91 3).toL
  let x94 : Int := (dget y91 4).toI
  let x95 : Int := (dget y91 5).toI
  let x96 : List DV := (dget y91 6).toL
  let y98 : List DV := g20 [.l x24, .l x25, .l x26, .i x27, .i x37]
  let x98 : Int := (dget y98 1).toI
  let x99 : List DV := (dget y98 2).toL
  let x100 : Int := (dget y98 3).toI
  let x101 : List DV := (dget y98 4).toL
  let x102 : List DV := (dget y98 5).toL
  let x103 := x91 != x98
  let x105 := r21_0 x19
  let x107 := r22_0 x25
  let x109 := r18_0 x105 x107
  let x110 := !x109
  let x111 := r23_0 x18
  let x113 := r24_0 x24
  let x114 : Int := (x111.getD (Int.toNat 0 * (1 : Nat) + (0 : Nat)) default).toI
  let x115 : Int := (x113.getD (Int.toNat 0 * (1 : Nat) + (0 : Nat)) default).toI
  let x116 := x114 == x115
  let x117 : Int := (x111.getD (Int.toNat 0 * (1 : Nat) + (1 : Nat)) default).toI
  let x118 : Int := (x113.getD (Int.toNat 0 * (1 : Nat) + (1 : Nat)) default).toI
  let x119 := x117 == x118
  let x120 : Int := (x111.getD (Int.toNat 0 * (1 : Nat) + (2 : Nat)) default).toI
  let x121 : Int := (x113.getD (Int.toNat 0 * (1 : Nat) + (2 : Nat)) default).toI
  let x122 := x120 == x121
  let x123 : Int := (x111.getD (Int.toNat 0 * (1 : Nat) + (3 : Nat)) default).toI
  let x124 : Int := (x113.getD (Int.toNat 0 * (1 : Nat) + (3 : Nat)) default).toI
  let x125 := x123 == x124
  let x126 : Int := (x111.getD (Int.toNat 0 * (1 : Nat) + (4 : Nat)) default).toI
  let x127 : Int := (x113.getD (Int.toNat 0 * (1 : Nat) + (4 : Nat)) default).toI
  let x128 := x126 == x127
  let x129 : Int := (x111.getD (Int.toNat 0 * (1 : Nat) + (5 : Nat)) default).toI
  let x130 : Int := (x113.getD (Int.toNat 0 * (1 : Nat) + (5 : Nat)) default).toI
  let x131 := x129 == x130
  let x132 : Int := (x111.getD (Int.toNat 0 * (1 : Nat) + (6 : Nat)) default).toI
  let x133 : Int := (x113.getD (Int.toNat 0 * (1 : Nat) + (6 : Nat)) default).toI
  let x134 := x132 == x133
  let x135 : Int := (x111.getD (Int.toNat 0 * (1 : Nat) + (7 : Nat)) default).toI
  let x136 : Int := (x113.getD (Int.toNat 0 * (1 : Nat) + (7 : Nat)) default).toI
  let x137 := x135 == x136
  let x138 : Int := (x111.getD (Int.toNat 0 * (1 : Nat) + (8 : Nat)) default).toI
  let x139 : Int := (x113.getD (Int.toNat 0 * (1 : Nat) + (8 : Nat)) default).toI
  let x140 := x138 == x139
  let x141 : Int := (x111.getD (Int.toNat 0 * (1 : Nat) + (9 : Nat)) default).toI
  let x142 : Int := (x113.getD (Int.toNat 0 * (1 : Nat) + (9 : Nat)) default).toI
  let x143 := x141 == x142
  let x144 : Int := (x111.getD (Int.toNat 0 * (1 : Nat) + (10 : Nat)) default).toI
  let x145 : Int := (x113.getD (Int.toNat 0 * (1 : Nat) + (10 : Nat)) default).toI
  let x146 := x144 == x145
  let x147 : Int := (x111.getD (Int.toNat 0 * (1 : Nat) + (11 : Nat)) default).toI
  let x148 : Int := (x113.getD (Int.toNat 0 * (1 : Nat) + (11 : Nat)) default).toI
  let x149 := x147 == x148
  let x150 : Int := (x111.getD (Int.toNat 0 * (1 : Nat) + (12 : Nat)) default).toI
  let x151 : Int := (x113.getD (Int.toNat 0 * (1 : Nat) + (12 : Nat)) default).toI
  let x152 := x150 == x151
  let x153 : Int := (x111.getD (Int.toNat 0 * (1 : Nat) + (13 : Nat)) default).toI
  let x154 : Int := (x113.getD (Int.toNat 0 * (1 : Nat) + (13 : Nat)) default).toI
  let x155 := x153 == x154
  let x156 : Int := (x111.getD (Int.toNat 0 * (1 : Nat) + (14 : Nat)) default).toI
  let x157 : Int := (x113.getD (Int.toNat 0 * (1 : Nat) + (14 : Nat)) default).toI
  let x158 := x156 == x157
  let x159 : Int := (x111.getD (Int.toNat 0 * (1 : Nat) + (15 : Nat)) default).toI
  let x160 : Int := (x113.getD (Int.toNat 0 * (1 : Nat) + (15 : Nat)) default).toI
  let x161 := x159 == x160
  let x162 : Int := (x111.getD (Int.toNat 0 * (1 : Nat) + (16 : Nat)) default).toI
  let x163 : Int := (x113.getD (Int.toNat 0 * (1 : Nat) + (16 : Nat)) default).toI
  let x164 := x162 == x163
  let x165 : Int := (x111.getD (Int.toNat 0 * (1 : Nat) + (17 : Nat)) default).toI
  let x166 : Int := (x113.getD (Int.toNat 0 * (1 : Nat) + (17 : Nat)) default).toI
  let x167 := x165 == x166
  let x168 : Int := (x111.getD (Int.toNat 0 * (1 : Nat) + (18 : Nat)) default).toI
  let x169 : Int := (x113.getD (Int.toNat 0 * (1 : Nat) + (18 : Nat)) default).toI
  let x170 := x168 == x169
  let x171 : Int := (x111.getD (Int.toNat 0 * (1 : Nat) + (19 : Nat)) default).toI
  let x172 : Int := (x113.getD (Int.toNat 0 * (1 : Nat) + (19 : Nat)) default).toI
  let x173 := x171 == x172
  let x174 : Int := (x111.getD (Int.toNat 0 * (1 : Nat) + (20 : Nat)) default).toI
  let x175 : Int := (x113.getD (Int.toNat 0 * (1 : Nat) + (20 : Nat)) default).toI
  let x176 := x174 == x175
  let x177 : Int := (x111.getD (Int.toNat 0 * (1 : Nat) + (21 : Nat)) default).toI
  let x178 : Int := (x113.getD (Int.toNat 0 * (1 : Nat) + (21 : Nat)) default).toI
  let x179 := x177 == x178
  let x180 : Int := (x111.getD (Int.toNat 0 * (1 : Nat) + (22 : Nat)) default).toI
  let x181 : Int := (x113.getD (Int.toNat 0 * (1 : Nat) + (22 : Nat)) default).toI
  let x182 := x180 == x181
  let x183 : Int := (x111.getD (Int.toNat 0 * (1 : Nat) + (23 : Nat)) default).toI
  let x184 : Int := (x113.getD (Int.toNat 0 * (1 : Nat) + (23 : Nat)) default).toI
  let x185 := x183 == x184
  let x186 : Int := (x111.getD (Int.toNat 0 * (1 : Nat) + (24 : Nat)) default).toI
  let x187 : Int := (x113.getD (Int.toNat 0 * (1 : Nat) + (24 : Nat)) default).toI
  let x188 := x186 == x187
  let x189 : Int := (x111.getD (Int.toNat 0 * (1 : Nat) + (25 : Nat)) default).toI
  let x190 : Int := (x113.getD (Int.toNat 0 * (1 : Nat) + (25 : Nat)) default).toI
  let x191 := x189 == x190
  let x192 : Int := (x111.getD (Int.toNat 0 * (1 : Nat) + (26 : Nat)) default).toI
  let x193 : Int := (x113.getD (Int.toNat 0 * (1 : Nat) + (26 : Nat)) default).toI
  let x194 := x192 == x193
  let x195 : Int := (x111.getD (Int.toNat 0 * (1 : Nat) + (27 : Nat)) default).toI
  let x196 : Int := (x113.getD (Int.toNat 0 * (1 : Nat) + (27 : Nat)) default).toI
  let x197 := x195 == x196
  let x198 : Int := (x111.getD (Int.toNat 0 * (1 : Nat) + (28 : Nat)) default).toI
  let x199 : Int := (x113.getD (Int.toNat 0 * (1 : Nat) + (28 : Nat)) default).toI
  let x200 := x198 == x199
  let x201 : Int := (x111.getD (Int.toNat 0 * (1 : Nat) + (29 : Nat)) default).toI
  let x202 : Int := (x113.getD (Int.toNat 0 * (1 : Nat) + (29 : Nat)) default).toI
  let x203 := x201 == x202
  let x204 : Int := (x111.getD (Int.toNat 0 * (1 : Nat) + (30 : Nat)) default).toI
  let x205 : Int := (x113.getD (Int.toNat 0 * (1 : Nat) + (30 : Nat)) default).toI
  let x206 := x204 == x205
  let x207 : Int := (x111.getD (Int.toNat 0 * (1 : Nat) + (31 : Nat)) default).toI
  let x208 : Int := (x113.getD (Int.toNat 0 * (1 : Nat) + (31 : Nat)) default).toI
  let x209 := x207 == x208
  let x210 : Int := (x111.getD (Int.toNat 0 * (1 : Nat) + (32 : Nat)) default).toI
  let x211 : Int := (x113.getD (Int.toNat 0 * (1 : Nat) + (32 : Nat)) default).toI
  let x212 := x210 == x211
  let x213 : Int := (x111.getD (Int.toNat 0 * (1 : Nat) + (33 : Nat)) default).toI
  let x214 : Int := (x113.getD (Int.toNat 0 * (1 : Nat) + (33 : Nat)) default).toI
  let x215 := x213 == x214
  let x216 : Int := (x111.getD (Int.toNat 0 * (1 : Nat) + (34 : Nat)) default).toI
  let x217 : Int := (x113.getD (Int.toNat 0 * (1 : Nat) + (34 : Nat)) default).toI
  let x218 := x216 == x217
  let x219 : Int := (x111.getD (Int.toNat 0 * (1 : Nat) + (35 : Nat)) default).toI
  let x220 : Int := (x113.getD (Int.toNat 0 * (1 : Nat) + (35 : Nat)) default).toI
  let x221 := x219 == x220
  let x222 : Int := (x111.getD (Int.toNat 0 * (1 : Nat) + (36 : Nat)) default).toI
  let x223 : Int := (x113.getD (Int.toNat 0 * (1 : Nat) + (36 : Nat)) default).toI
  let x224 := x222 == x223
  let x225 : Int := (x111.getD (Int.toNat 0 * (1 : Nat) + (37 : Nat)) default).toI
  let x226 : Int := (x113.getD (Int.toNat 0 * (1 : Nat) + (37 : Nat)) default).toI
  let x227 := x225 == x226
  let x228 : Int := (x111.getD (Int.toNat 0 * (1 : Nat) + (38 : Nat)) default).toI
  let x229 : Int := (x113.getD (Int.toNat 0 * (1 : Nat) + (38 : Nat)) default).toI
  let x230 := x228 == x229
  let x231 : Int := (x111.getD (Int.toNat 0 * (1 : Nat) + (39 : Nat)) default).toI
  let x232 : Int := (x113.getD (Int.toNat 0 * (1 : Nat) + (39 : Nat)) default).toI
  let x233 := x231 == x232
  let x234 : Int := (x111.getD (Int.toNat 0 * (1 : Nat) + (40 : Nat)) default).toI
  let x235 : Int := (x113.getD (Int.toNat 0 * (1 : Nat) + (40 : Nat)) default).toI
  let x236 := x234 == x235
  let x237 : Int := (x111.getD (Int.toNat 0 * (1 : Nat) + (41 : Nat)) default).toI
  let x238 : Int := (x113.getD (Int.toNat 0 * (1 : Nat) + (41 : Nat)) default).toI
  let x239 := x237 == x238
  let x240 : Int := (x111.getD (Int.toNat 0 * (1 : Nat) + (42 : Nat)) default).toI
  let x241 : Int := (x113.getD (Int.toNat 0 * (1 : Nat) + (42 : Nat)) default).toI
  let x242 := x240 == x241
  let x243 : Int := (x111.getD (Int.toNat 0 * (1 : Nat) + (43 : Nat)) default).toI
  let x244 : Int := (x113.getD (Int.toNat 0 * (1 : Nat) + (43 : Nat)) default).toI
  let x245 := x243 == x244
  let x246 : Int := (x111.getD (Int.toNat 0 * (1 : Nat) + (44 : Nat)) default).toI
  let x247 : Int := (x113.getD (Int.toNat 0 * (1 : Nat) + (44 : Nat)) default).toI
  let x248 := x246 == x247
  let x249 : Int := (x111.getD (Int.toNat 0 * (1 : Nat) + (45 : Nat)) default).toI
  let x250 : Int := (x113.getD (Int.toNat 0 * (1 : Nat) + (45 : Nat)) default).toI
  let x251 := x249 == x250
  let x252 : Int := (x111.getD (Int.toNat 0 * (1 : Nat) + (46 : Nat)) default).toI
  let x253 : Int := (x113.getD (Int.toNat 0 * (1 : Nat) + (46 : Nat)) default).toI
  let x254 := x252 == x253
  let x255 : Int := (x111.getD (Int.toNat 0 * (1 : Nat) + (47 : Nat)) default).toI
  let x256 : Int := (x113.getD (Int.toNat 0 * (1 : Nat) + (47 : Nat)) default).toI
  let x257 := x255 == x256
  let x258 : Int := (x111.getD (Int.toNat 0 * (1 : Nat) + (48 : Nat)) default).toI
  let x259 : Int := (x113.getD (Int.toNat 0 * (1 : Nat) + (48 : Nat)) default).toI
  let x260 := x258 == x259
  let x261 : Int := (x111.getD (Int.toNat 0 * (1 : Nat) + (49 : Nat)) default).toI
  let x262 : Int := (x113.getD (Int.toNat 0 * (1 : Nat) + (49 : Nat)) default).toI
  let x263 := x261 == x262
  let x264 : Int := (x111.getD (Int.toNat 0 * (1 : Nat) + (50 : Nat)) default).toI
  let x265 : Int := (x113.getD (Int.toNat 0 * (1 : Nat) + (50 : Nat)) default).toI
  let x266 := x264 == x265
  let x267 : Int := (x111.getD (Int.toNat 0 * (1 : Nat) + (51 : Nat)) default).toI
  let x268 : Int := (x113.getD (Int.toNat 0 * (1 : Nat) + (51 : Nat)) default).toI
  let x269 := x267 == x268
  let x270 : Int := (x111.getD (Int.toNat 0 * (1 : Nat) + (52 : Nat)) default).toI
  let x271 : Int := (x113.getD (Int.toNat 0 * (1 : Nat) + (52 : Nat)) default).toI
  let x272 := x270 == x271
  let x273 : Int := (x111.getD (Int.toNat 0 * (1 : Nat) + (53 : Nat)) default).toI
  let x274 : Int := (x113.getD (Int.toNat 0 * (1 : Nat) + (53 : Nat)) default).toI
  let x275 := x273 == x274
  let x276 : Int := (x111.getD (Int.toNat 0 * (1 : Nat) + (54 : Nat)) default).toI
  let x277 : Int := (x113.getD (Int.toNat 0 * (1 : Nat) + (54 : Nat)) default).toI
  let x278 := x276 == x277
  let x279 : Int := (x111.getD (Int.toNat 0 * (1 : Nat) + (55 : Nat)) default).toI
  let x280 : Int := (x113.getD (Int.toNat 0 * (1 : Nat) + (55 : Nat)) default).toI
  let x281 := x279 == x280
  let x282 : Int := (x111.getD (Int.toNat 0 * (1 : Nat) + (56 : Nat)) default).toI
  let x283 : Int := (x113.getD (Int.toNat 0 * (1 : Nat) + (56 : Nat)) default).toI
  let x284 := x282 == x283
  let x285 : Int := (x111.getD (Int.toNat 0 * (1 : Nat) + (57 : Nat)) default).toI
  let x286 : Int := (x113.getD (Int.toNat 0 * (1 : Nat) + (57 : Nat)) default).toI
  let x287 := x285 == x286
  let x288 : Int := (x111.getD (Int.toNat 0 * (1 : Nat) + (58 : Nat)) default).toI
  let x289 : Int := (x113.getD (Int.toNat 0 * (1 : Nat) + (58 : Nat)) default).toI
  let x290 := x288 == x289
  let x291 : Int := (x111.getD (Int.toNat 0 * (1 : Nat) + (59 : Nat)) default).toI
  let x292 : Int := (x113.getD (Int.toNat 0 * (1 : Nat) + (59 : Nat)) default).toI
  let x293 := x291 == x292
  let x294 : Int := (x111.getD (Int.toNat 0 * (1 : Nat) + (60 : Nat)) default).toI
  let x295 : Int := (x113.getD (Int.toNat 0 * (1 : Nat) + (60 : Nat)) default).toI
  let x296 := x294 == x295
  let x297 : Int := (x111.getD (Int.toNat 0 * (1 : Nat) + (61 : Nat)) default).toI
  let x298 : Int := (x113.getD (Int.toNat 0 * (1 : Nat) + (61 : Nat)) default).toI
  let x299 := x297 == x298
  let x300 : Int := (x111.getD (Int.toNat 0 * (1 : Nat) + (62 : Nat)) default).toI
  let x301 : Int := (x113.getD (Int.toNat 0 * (1 : Nat) + (62 : Nat)) default).toI
  let x302 := x300 == x301
  let x303 : Int := (x111.getD (Int.toNat 0 * (1 : Nat) + (63 : Nat)) default).toI
  let x304 : Int := (x113.getD (Int.toNat 0 * (1 : Nat) + (63 : Nat)) default).toI
  let x305 := x303 == x304
  let x306 := x302 && x305
  let x307 := x299 && x306
  let x308 := x296 && x307
  let x309 := x293 && x308
  let x310 := x290 && x309
  let x311 := x287 && x310
  let x312 := x284 && x311
  let x313 := x281 && x312
  let x314 := x278 && x313
  let x315 := x275 && x314
  let x316 := x272 && x315
  let x317 := x269 && x316
  let x318 := x266 && x317
  let x319 := x263 && x318
  let x320 := x260 && x319
  let x321 := x257 && x320
  let x322 := x254 && x321
  let x323 := x251 && x322
  let x324 := x248 && x323
  let x325 := x245 && x324
  let x326 := x242 && x325
  let x327 := x239 && x326
  let x328 := x236 && x327
  let x329 := x233 && x328
  let x330 := x230 && x329
  let x331 := x227 && x330
  let x332 := x224 && x331
  let x333 := x221 && x332
  let x334 := x218 && x333
  let x335 := x215 && x334
  let x336 := x212 && x335
  let x337 := x209 && x336
  let x338 := x206 && x337
  let x339 := x203 && x338
  let x340 := x200 && x339
  let x341 := x197 && x340
  let x342 := x194 && x341
  let x343 := x191 && x342
  let x344 := x188 && x343
  let x345 := x185 && x344
  let x346 := x182 && x345
  let x347 := x179 && x346
  let x348 := x176 && x347
  let x349 := x173 && x348
  let x350 := x170 && x349
  let x351 := x167 && x350
  let x352 := x164 && x351
  let x353 := x161 && x352
  let x354 := x158 && x353
  let x355 := x155 && x354
  let x356 := x152 && x355
  let x357 := x149 && x356
  let x358 := x146 && x357
  let x359 := x143 && x358
  let x360 := x140 && x359
  let x361 := x137 && x360
  let x362 := x134 && x361
  let x363 := x131 && x362
  let x364 := x128 && x363
  let x365 := x125 && x364
  let x366 := x122 && x365
  let x367 := x119 && x366
  let x368 := x116 && x367
  let x369 := !x368
  let x370 := x110 || x369
  let x371 := !x370
  let x380 := !x56
  let x381 := !x71
  let x382 := !x88
  let x383 := !x103
  let x384 := bif x89 then x383 else x371
  let x385 := bif x72 then x382 else x384
  let x386 := bif x57 then x381 else x385
  let x387 := bif x40 then x380 else x386
  let x388 := bif x89 then x92 else x18
  let x389 := bif x89 then x96 else x19
  let x390 := bif x89 then x93 else x20
  let x391 := bif x89 then x94 else x21
  let x392 := bif x89 then x95 else x22
  let x393 := bif x89 then x99 else x24
  let x394 := bif x89 then x101 else x25
  let x395 := bif x89 then x102 else x26
  let x396 := bif x89 then x100 else x27
  let x397 := bif x72 then x74 else x388
  let x398 := bif x72 then x79 else x389
  let x399 := bif x72 then x75 else x390
  let x400 := bif x72 then x76 else x391
  let x401 := bif x72 then x77 else x392
  let x402 := bif x72 then x81 else x393
  let x403 := bif x72 then x84 else x394
  let x404 := bif x72 then x85 else x395
  let x405 := bif x72 then x82 else x396
  let x406 := bif x57 then x61 else x397
  let x407 := bif x57 then x60 else x398
  let x408 := bif x57 then x62 else x399
  let x409 := bif x57 then x63 else x400
  let x410 := bif x57 then x64 else x401
  let x411 := bif x57 then x67 else x402
  let x412 := bif x57 then x68 else x403
  let x413 := bif x57 then x69 else x404
  let x414 := bif x57 then x70 else x405
  let x415 := bif x40 then x42 else x406
  let x416 := bif x40 then x47 else x407
  let x417 := bif x40 then x43 else x408
  let x418 := bif x40 then x44 else x409
  let x419 := bif x40 then x45 else x410
  let x420 := bif x40 then x51 else x411
  let x421 := bif x40 then x52 else x412
  let x422 := bif x40 then x53 else x413
  let x423 := bif x40 then x49 else x414
  let x431 := bif x89 then x92 else x18
  let x432 := bif x89 then x96 else x19
  let x433 := bif x89 then x93 else x20
  let x434 := bif x89 then x94 else x21
  let x435 := bif x89 then x95 else x22
  let x436 := bif x89 then x99 else x24
  let x437 := bif x89 then x101 else x25
  let x438 := bif x89 then x102 else x26
  let x439 := bif x89 then x100 else x27
  let x440 := bif x72 then x74 else x431
  let x441 := bif x72 then x79 else x432
  let x442 := bif x72 then x75 else x433
  let x443 := bif x72 then x76 else x434
  let x444 := bif x72 then x77 else x435
  let x445 := bif x72 then x81 else x436
  let x446 := bif x72 then x84 else x437
  let x447 := bif x72 then x85 else x438
  let x448 := bif x72 then x82 else x439
  let x449 := bif x57 then x61 else x440
  let x450 := bif x57 then x60 else x441
  let x451 := bif x57 then x62 else x442
  let x452 := bif x57 then x63 else x443
  let x453 := bif x57 then x64 else x444
  let x454 := bif x57 then x67 else x445
  let x455 := bif x57 then x68 else x446
  let x456 := bif x57 then x69 else x447
  let x457 := bif x57 then x70 else x448
  let x458 := bif x40 then x42 else x449
  let x459 := bif x40 then x47 else x450
  let x460 := bif x40 then x43 else x451
  let x461 := bif x40 then x44 else x452
  let x462 := bif x40 then x45 else x453
  let x463 := bif x40 then x51 else x454
  let x464 := bif x40 then x52 else x455
  let x465 := bif x40 then x53 else x456
  let x466 := bif x40 then x49 else x457
  let x467 := bif x387 then x415 else x458
  let x468 := bif x387 then x416 else x459
  let x469 := bif x387 then x417 else x460
  let x470 := bif x387 then x418 else x461
  let x471 := bif x387 then x419 else x462
  let x472 := bif x387 then x420 else x463
  let x473 := bif x387 then x421 else x464
  let x474 := bif x387 then x422 else x465
  let x475 := bif x387 then x423 else x466
  let x476 : Int := bif x32 then 0 else 1
  let x477 := bif x32 then false else x16
  let x478 := bif x32 then x467 else x18
  let x479 := bif x32 then x468 else x19
  let x480 := bif x32 then x469 else x20
  let x481 := bif x32 then x470 else x21
  let x482 := bif x32 then x471 else x22
  let x483 := bif x32 then x472 else x24
  let x484 := bif x32 then x473 else x25
  let x485 := bif x32 then x474 else x26
  let x486 := bif x32 then x475 else x27
  [.i x476, .b x477, .i x17, .l x478, .l x479, .l x480, .i x481, .i x482, .l x0, .l x483, .l x484, .l x485, .i x486, .l x0, .l x0, .l x0]
noncomputable def g100300 (ds : List DV) : List DV := wrapG [.i, .b, .i, .l, .l, .l, .i, .i, .l, .l, .l, .l, .i, .l, .l, .l] (loopG W100300 C100300 N100300 T100300 (nrms [.l, .b, .i, .l, .l, .l, .i, .i, .l, .l, .l, .l, .i, .l, .l, .l] ds))
def l3_0 : LR := ⟨100303, 372, 2, [], [(374, .llen 1 (.r 373)), (375, .lss (.r 372) (.r 374)), (376, .geq (.r 372) (.z 0)), (377, .llen 1 (.r 373)), (378, .lss (.r 372) (.r 377)), (379, .lset 1 0 .i (.r 373) (.r 372) (.z (-5))), (380, .add .i64 (.r 372) (.z 1))], [⟨[(.r 375, true)], .r 376⟩, ⟨[(.r 375, true)], .r 378⟩], .r 375, [.r 380, .r 379], [.z 0, .r 372, .r 373], [.i, .l]⟩
def l3_1 : LR := ⟨100300, 16, 15, [0], List.append (List.append (List.append (List.append (List.append (List.append (List.append (List.append (List.append (List.append (List.append (List.append (List.append (List.append ([(31, .llen 3 (.r 0)), (32, .lss (.r 17) (.r 31)), (33, .geq (.r 17) (.z 0)), (34, .llen 3 (.r 0)), (35, .lss (.r 17) (.r 34)), (36, .lgeti 3 0 (.r 0) (.r 17)), (37, .lgeti 3 1 (.r 0) (.r 17)), (38, .lgetl 3 2 (.r 0) (.r 17)), (39, .lmk [] []), (40, .eql (.r 36) (.z 0))]) (callsAt 41 11 [.r 18, .r 19, .r 20, .r 21, .r 22, .r 38] 0 7)) (callsAt 48 12 [.r 24, .r 25, .r 26, .r 27, .r 38] 0 6)) ([(54, .call 13 [.r 46, .r 50] 0), (55, .call 13 [.r 46, .r 50] 1), (56, .not (.r 55)), (57, .eql (.r 36) (.z 1))])) (callsAt 58 14 [.r 18, .r 19, .r 20, .r 21, .r 22, .r 37] 0 7)) (callsAt 65 15 [.r 24, .r 25, .r 26, .r 27, .r 37] 0 6)) ([(71, .bne (.r 59) (.r 66)), (72, .eql (.r 36) (.z 2))])) (callsAt 73 16 [.r 18, .r 19, .r 20, .r 21, .r 22, .r 37] 0 7)) (callsAt 80 17 [.r 24, .r 25, .r 26, .r 27, .r 37] 0 6)) ([(86, .call 18 [.r 78, .r 83] 0), (87, .call 18 [.r 78, .r 83] 1), (88, .not (.r 87)), (89, .eql (.r 36) (.z 3))])) (callsAt 90 19 [.r 18, .r 19, .r 20, .r 21, .r 22, .r 37] 0 7)) (callsAt 97 20 [.r 24, .r 25, .r 26, .r 27, .r 37] 0 6)) ([(103, .neq (.r 91) (.r 98)), (104, .call 21 [.r 18, .r 19, .r 20, .r 21, .r 22] 0), (105, .call 21 [.r 18, .r 19, .r 20, .r 21, .r 22] 1), (106, .call 22 [.r 24, .r 25, .r 26, .r 27] 0), (107, .call 22 [.r 24, .r 25, .r 26, .r 27] 1), (108, .call 18 [.r 105, .r 107] 0), (109, .call 18 [.r 105, .r 107] 1), (110, .not (.r 109)), (111, .call 23 [.r 18, .r 19, .r 20, .r 21, .r 22] 0), (112, .call 24 [.r 24, .r 25, .r 26, .r 27] 0), (113, .call 24 [.r 24, .r 25, .r 26, .r 27] 1), (114, .lgeti 1 0 (.r 111) (.z 0)), (115, .lgeti 1 0 (.r 113) (.z 0)), (116, .eql (.r 114) (.r 115)), (117, .lgeti 1 1 (.r 111) (.z 0)), (118, .lgeti 1 1 (.r 113) (.z 0)), (119, .eql (.r 117) (.r 118)), (120, .lgeti 1 2 (.r 111) (.z 0)), (121, .lgeti 1 2 (.r 113) (.z 0)), (122, .eql (.r 120) (.r 121)), (123, .lgeti 1 3 (.r 111) (.z 0)), (124, .lgeti 1 3 (.r 113) (.z 0)), (125, .eql (.r 123) (.r 124)), (126, .lgeti 1 4 (.r 111) (.z 0)), (127, .lgeti 1 4 (.r 113) (.z 0)), (128, .eql (.r 126) (.r 127)), (129, .lgeti 1 5 (.r 111) (.z 0)), (130, .lgeti 1 5 (.r 113) (.z 0)), (131, .eql (.r 129) (.r 130)), (132, .lgeti 1 6 (.r 111) (.z 0)), (133, .lgeti 1 6 (.r 113) (.z 0)), (134, .eql (.r 132) (.r 133)), (135, .lgeti 1 7 (.r 111) (.z 0)), (136, .lgeti 1 7 (.r 113) (.z 0)), (137, .eql (.r 135) (.r 136)), (138, .lgeti 1 8 (.r 111) (.z 0)), (139, .lgeti 1 8 (.r 113) (.z 0)), (140, .eql (.r 138) (.r 139)), (141, .lgeti 1 9 (.r 111) (.z 0)), (142, .lgeti 1 9 (.r 113) (.z 0)), (143, .eql (.r 141) (.r 142)), (144, .lgeti 1 10 (.r 111) (.z 0)), (145, .lgeti 1 10 (.r 113) (.z 0)), (146, .eql (.r 144) (.r 145)), (147, .lgeti 1 11 (.r 111) (.z 0)), (148, .lgeti 1 11 (.r 113) (.z 0)), (149, .eql (.r 147) (.r 148)), (150, .lgeti 1 12 (.r 111) (.z 0)), (151, .lgeti 1 12 (.r 113) (.z 0)), (152, .eql (.r 150) (.r 151)), (153, .lgeti 1 13 (.r 111) (.z 0)), (154, .lgeti 1 13 (.r 113) (.z 0)), (155, .eql (.r 153) (.r 154)), (156, .lgeti 1 14 (.r 111) (.z 0)), (157, .lgeti 1 14 (.r 113) (.z 0)), (158, .eql (.r 156) (.r 157)), (159, .lgeti 1 15 (.r 111) (.z 0)), (160, .lgeti 1 15 (.r 113) (.z 0)), (161, .eql (.r 159) (.r 160)), (162, .lgeti 1 16 (.r 111) (.z 0)), (163, .lgeti 1 16 (.r 113) (.z 0)), (164, .eql (.r 162) (.r 163)), (165, .lgeti 1 17 (.r 111) (.z 0)), (166, .lgeti 1 17 (.r 113) (.z 0)), (167, .eql (.r 165) (.r 166)), (168, .lgeti 1 18 (.r 111) (.z 0)), (169, .lgeti 1 18 (.r 113) (.z 0)), (170, .eql (.r 168) (.r 169)), (171, .lgeti 1 19 (.r 111) (.z 0)), (172, .lgeti 1 19 (.r 113) (.z 0)), (173, .eql (.r 171) (.r 172)), (174, .lgeti 1 20 (.r 111) (.z 0)), (175, .lgeti 1 20 (.r 113) (.z 0)), (176, .eql (.r 174) (.r 175)), (177, .lgeti 1 21 (.r 111) (.z 0)), (178, .lgeti 1 21 (.r 113) (.z 0)), (179, .eql (.r 177) (.r 178)), (180, .lgeti 1 22 (.r 111) (.z 0)), (181, .lgeti 1 22 (.r 113) (.z 0)), (182, .eql (.r 180) (.r 181)), (183, .lgeti 1 23 (.r 111) (.z 0)), (184, .lgeti 1 23 (.r 113) (.z 0)), (185, .eql (.r 183) (.r 184)), (186, .lgeti 1 24 (.r 111) (.z 0)), (187, .lgeti 1 24 (.r 113) (.z 0)), (188, .eql (.r 186) (.r 187)), (189, .lgeti 1 25 (.r 111) (.z 0)), (190, .lgeti 1 25 (.r 113) (.z 0)), (191, .eql (.r 189) (.r 190)), (192, .lgeti 1 26 (.r 111) (.z 0)), (193, .lgeti 1 26 (.r 113) (.z 0)), (194, .eql (.r 192) (.r 193)), (195, .lgeti 1 27 (.r 111) (.z 0)), (196, .lgeti 1 27 (.r 113) (.z 0)), (197, .eql (.r 195) (.r 196)), (198, .lgeti 1 28 (.r 111) (.z 0)), (199, .lgeti 1 28 (.r 113) (.z 0)), (200, .eql (.r 198) (.r 199)), (201, .lgeti 1 29 (.r 111) (.z 0)), (202, .lgeti 1 29 (.r 113) (.z 0)), (203, .eql (.r 201) (.r 202)), (204, .lgeti 1 30 (.r 111) (.z 0)), (205, .lgeti 1 30 (.r 113) (.z 0)), (206, .eql (.r 204) (.r 205)), (207, .lgeti 1 31 (.r 111) (.z 0)), (208, .lgeti 1 31 (.r 113) (.z 0)), (209, .eql (.r 207) (.r 208)), (210, .lgeti 1 32 (.r 111) (.z 0)), (211, .lgeti 1 32 (.r 113) (.z 0)), (212, .eql (.r 210) (.r 211)), (213, .lgeti 1 33 (.r 111) (.z 0)), (214, .lgeti 1 33 (.r 113) (.z 0)), (215, .eql (.r 213) (.r 214)), (216, .lgeti 1 34 (.r 111) (.z 0)), (217, .lgeti 1 34 (.r 113) (.z 0)), (218, .eql (.r 216) (.r 217)), (219, .lgeti 1 35 (.r 111) (.z 0)), (220, .lgeti 1 35 (.r 113) (.z 0)), (221, .eql (.r 219) (.r 220)), (222, .lgeti 1 36 (.r 111) (.z 0)), (223, .lgeti 1 36 (.r 113) (.z 0)), (224, .eql (.r 222) (.r 223)), (225, .lgeti 1 37 (.r 111) (.z 0)), (226, .lgeti 1 37 (.r 113) (.z 0)), (227, .eql (.r 225) (.r 226)), (228, .lgeti 1 38 (.r 111) (.z 0)), (229, .lgeti 1 38 (.r 113) (.z 0)), (230, .eql (.r 228) (.r 229)), (231, .lgeti 1 39 (.r 111) (.z 0)), (232, .lgeti 1 39 (.r 113) (.z 0)), (233, .eql (.r 231) (.r 232)), (234, .lgeti 1 40 (.r 111) (.z 0)), (235, .lgeti 1 40 (.r 113) (.z 0)), (236, .eql (.r 234) (.r 235)), (237, .lgeti 1 41 (.r 111) (.z 0)), (238, .lgeti 1 41 (.r 113) (.z 0)), (239, .eql (.r 237) (.r 238)), (240, .lgeti 1 42 (.r 111) (.z 0)), (241, .lgeti 1 42 (.r 113) (.z 0)), (242, .eql (.r 240) (.r 241)), (243, .lgeti 1 43 (.r 111) (.z 0)), (244, .lgeti 1 43 (.r 113) (.z 0)), (245, .eql (.r 243) (.r 244)), (246, .lgeti 1 44 (.r 111) (.z 0)), (247, .lgeti 1 44 (.r 113) (.z 0)), (248, .eql (.r 246) (.r 247)), (249, .lgeti 1 45 (.r 111) (.z 0)), (250, .lgeti 1 45 (.r 113) (.z 0)), (251, .eql (.r 249) (.r 250)), (252, .lgeti 1 46 (.r 111) (.z 0)), (253, .lgeti 1 46 (.r 113) (.z 0)), (254, .eql (.r 252) (.r 253)), (255, .lgeti 1 47 (.r 111) (.z 0)), (256, .lgeti 1 47 (.r 113) (.z 0)), (257, .eql (.r 255) (.r 256)), (258, .lgeti 1 48 (.r 111) (.z 0)), (259, .lgeti 1 48 (.r 113) (.z 0)), (260, .eql (.r 258) (.r 259)), (261, .lgeti 1 49 (.r 111) (.z 0)), (262, .lgeti 1 49 (.r 113) (.z 0)), (263, .eql (.r 261) (.r 262)), (264, .lgeti 1 50 (.r 111) (.z 0)), (265, .lgeti 1 50 (.r 113) (.z 0)), (266, .eql (.r 264) (.r 265)), (267, .lgeti 1 51 (.r 111) (.z 0)), (268, .lgeti 1 51 (.r 113) (.z 0)), (269, .eql (.r 267) (.r 268)), (270, .lgeti 1 52 (.r 111) (.z 0)), (271, .lgeti 1 52 (.r 113) (.z 0)), (272, .eql (.r 270) (.r 271)), (273, .lgeti 1 53 (.r 111) (.z 0)), (274, .lgeti 1 53 (.r 113) (.z 0)), (275, .eql (.r 273) (.r 274)), (276, .lgeti 1 54 (.r 111) (.z 0)), (277, .lgeti 1 54 (.r 113) (.z 0)), (278, .eql (.r 276) (.r 277)), (279, .lgeti 1 55 (.r 111) (.z 0)), (280, .lgeti 1 55 (.r 113) (.z 0)), (281, .eql (.r 279) (.r 280)), (282, .lgeti 1 56 (.r 111) (.z 0)), (283, .lgeti 1 56 (.r 113) (.z 0)), (284, .eql (.r 282) (.r 283)), (285, .lgeti 1 57 (.r 111) (.z 0)), (286, .lgeti 1 57 (.r 113) (.z 0)), (287, .eql (.r 285) (.r 286)), (288, .lgeti 1 58 (.r 111) (.z 0)), (289, .lgeti 1 58 (.r 113) (.z 0)), (290, .eql (.r 288) (.r 289)), (291, .lgeti 1 59 (.r 111) (.z 0)), (292, .lgeti 1 59 (.r 113) (.z 0)), (293, .eql (.r 291) (.r 292)), (294, .lgeti 1 60 (.r 111) (.z 0)), (295, .lgeti 1 60 (.r 113) (.z 0)), (296, .eql (.r 294) (.r 295)), (297, .lgeti 1 61 (.r 111) (.z 0)), (298, .lgeti 1 61 (.r 113) (.z 0)), (299, .eql (.r 297) (.r 298)), (300, .lgeti 1 62 (.r 111) (.z 0)), (301, .lgeti 1 62 (.r 113) (.z 0)), (302, .eql (.r 300) (.r 301)), (303, .lgeti 1 63 (.r 111) (.z 0)), (304, .lgeti 1 63 (.r 113) (.z 0)), (305, .eql (.r 303) (.r 304)), (306, .and (.r 302) (.r 305)), (307, .and (.r 299) (.r 306)), (308, .and (.r 296) (.r 307)), (309, .and (.r 293) (.r 308)), (310, .and (.r 290) (.r 309)), (311, .and (.r 287) (.r 310)), (312, .and (.r 284) (.r 311)), (313, .and (.r 281) (.r 312)), (314, .and (.r 278) (.r 313)), (315, .and (.r 275) (.r 314)), (316, .and (.r 272) (.r 315)), (317, .and (.r 269) (.r 316)), (318, .and (.r 266) (.r 317)), (319, .and (.r 263) (.r 318)), (320, .and (.r 260) (.r 319)), (321, .and (.r 257) (.r 320)), (322, .and (.r 254) (.r 321)), (323, .and (.r 251) (.r 322)), (324, .and (.r 248) (.r 323)), (325, .and (.r 245) (.r 324)), (326, .and (.r 242) (.r 325)), (327, .and (.r 239) (.r 326)), (328, .and (.r 236) (.r 327)), (329, .and (.r 233) (.r 328)), (330, .and (.r 230) (.r 329)), (331, .and (.r 227) (.r 330)), (332, .and (.r 224) (.r 331)), (333, .and (.r 221) (.r 332)), (334, .and (.r 218) (.r 333)), (335, .and (.r 215) (.r 334)), (336, .and (.r 212) (.r 335)), (337, .and (.r 209) (.r 336)), (338, .and (.r 206) (.r 337)), (339, .and (.r 203) (.r 338)), (340, .and (.r 200) (.r 339)), (341, .and (.r 197) (.r 340)), (342, .and (.r 194) (.r 341)), (343, .and (.r 191) (.r 342)), (344, .and (.r 188) (.r 343)), (345, .and (.r 185) (.r 344)), (346, .and (.r 182) (.r 345)), (347, .and (.r 179) (.r 346)), (348, .and (.r 176) (.r 347)), (349, .and (.r 173) (.r 348)), (350, .and (.r 170) (.r 349)), (351, .and (.r 167) (.r 350)), (352, .and (.r 164) (.r 351)), (353, .and (.r 161) (.r 352)), (354, .and (.r 158) (.r 353)), (355, .and (.r 155) (.r 354)), (356, .and (.r 152) (.r 355)), (357, .and (.r 149) (.r 356)), (358, .and (.r 146) (.r 357)), (359, .and (.r 143) (.r 358)), (360, .and (.r 140) (.r 359)), (361, .and (.r 137) (.r 360)), (362, .and (.r 134) (.r 361)), (363, .and (.r 131) (.r 362)), (364, .and (.r 128) (.r 363)), (365, .and (.r 125) (.r 364)), (366, .and (.r 122) (.r 365)), (367, .and (.r 119) (.r 366)), (368, .and (.r 116) (.r 367)), (369, .not (.r 368)), (370, .or (.r 110) (.r 369)), (371, .not (.r 370))])) (callsAt 372 100303 [.z 0, .r 105] 0 4)) ([(376, .lmk [.i] [.z 1]), (377, .lcat (.r 375) (.r 376)), (378, .llen 1 (.r 377)), (379, .leq (.r 378) (.z 7818749353073)), (380, .not (.r 56)), (381, .not (.r 71)), (382, .not (.r 88)), (383, .not (.r 103)), (384, .iteb (.r 89) (.r 383) (.r 371)), (385, .iteb (.r 72) (.r 382) (.r 384)), (386, .iteb (.r 57) (.r 381) (.r 385)), (387, .iteb (.r 40) (.r 380) (.r 386)), (388, .itel (.r 89) (.r 92) (.r 18)), (389, .itel (.r 89) (.r 96) (.r 19)), (390, .itel (.r 89) (.r 93) (.r 20)), (391, .itei (.r 89) (.r 94) (.r 21)), (392, .itei (.r 89) (.r 95) (.r 22)), (393, .itel (.r 89) (.r 99) (.r 24)), (394, .itel (.r 89) (.r 101) (.r 25)), (395, .itel (.r 89) (.r 102) (.r 26)), (396, .itei (.r 89) (.r 100) (.r 27)), (397, .itel (.r 72) (.r 74) (.r 388)), (398, .itel (.r 72) (.r 79) (.r 389)), (399, .itel (.r 72) (.r 75) (.r 390)), (400, .itei (.r 72) (.r 76) (.r 391)), (401, .itei (.r 72) (.r 77) (.r 392)), (402, .itel (.r 72) (.r 81) (.r 393)), (403, .itel (.r 72) (.r 84) (.r 394)), (404, .itel (.r 72) (.r 85) (.r 395)), (405, .itei (.r 72) (.r 82) (.r 396)), (406, .itel (.r 57) (.r 61) (.r 397)), (407, .itel (.r 57) (.r 60) (.r 398)), (408, .itel (.r 57) (.r 62) (.r 399)), (409, .itei (.r 57) (.r 63) (.r 400)), (410, .itei (.r 57) (.r 64) (.r 401)), (411, .itel (.r 57) (.r 67) (.r 402)), (412, .itel (.r 57) (.r 68) (.r 403)), (413, .itel (.r 57) (.r 69) (.r 404)), (414, .itei (.r 57) (.r 70) (.r 405)), (415, .itel (.r 40) (.r 42) (.r 406)), (416, .itel (.r 40) (.r 47) (.r 407)), (417, .itel (.r 40) (.r 43) (.r 408)), (418, .itei (.r 40) (.r 44) (.r 409)), (419, .itei (.r 40) (.r 45) (.r 410)), (420, .itel (.r 40) (.r 51) (.r 411)), (421, .itel (.r 40) (.r 52) (.r 412)), (422, .itel (.r 40) (.r 53) (.r 413)), (423, .itei (.r 40) (.r 49) (.r 414)), (424, .call 25 [.r 415, .r 416, .r 417, .r 418, .r 419] 0), (425, .llen 5 (.r 422)), (426, .neq (.r 424) (.r 425)), (427, .not (.r 426)), (428, .and (.r 387) (.r 427)), (429, .add .i64 (.r 17) (.z 1)), (430, .and (.r 32) (.r 428)), (431, .itel (.r 89) (.r 92) (.r 18)), (432, .itel (.r 89) (.r 96) (.r 19)), (433, .itel (.r 89) (.r 93) (.r 20)), (434, .itei (.r 89) (.r 94) (.r 21)), (435, .itei (.r 89) (.r 95) (.r 22)), (436, .itel (.r 89) (.r 99) (.r 24)), (437, .itel (.r 89) (.r 101) (.r 25)), (438, .itel (.r 89) (.r 102) (.r 26)), (439, .itei (.r 89) (.r 100) (.r 27)), (440, .itel (.r 72) (.r 74) (.r 431)), (441, .itel (.r 72) (.r 79) (.r 432)), (442, .itel (.r 72) (.r 75) (.r 433)), (443, .itei (.r 72) (.r 76) (.r 434)), (444, .itei (.r 72) (.r 77) (.r 435)), (445, .itel (.r 72) (.r 81) (.r 436)), (446, .itel (.r 72) (.r 84) (.r 437)), (447, .itel (.r 72) (.r 85) (.r 438)), (448, .itei (.r 72) (.r 82) (.r 439)), (449, .itel (.r 57) (.r 61) (.r 440)), (450, .itel (.r 57) (.r 60) (.r 441)), (451, .itel (.r 57) (.r 62) (.r 442)), (452, .itei (.r 57) (.r 63) (.r 443)), (453, .itei (.r 57) (.r 64) (.r 444)), (454, .itel (.r 57) (.r 67) (.r 445)), (455, .itel (.r 57) (.r 68) (.r 446)), (456, .itel (.r 57) (.r 69) (.r 447)), (457, .itei (.r 57) (.r 70) (.r 448)), (458, .itel (.r 40) (.r 42) (.r 449)), (459, .itel (.r 40) (.r 47) (.r 450)), (460, .itel (.r 40) (.r 43) (.r 451)), (461, .itei (.r 40) (.r 44) (.r 452)), (462, .itei (.r 40) (.r 45) (.r 453)), (463, .itel (.r 40) (.r 51) (.r 454)), (464, .itel (.r 40) (.r 52) (.r 455)), (465, .itel (.r 40) (.r 53) (.r 456)), (466, .itei (.r 40) (.r 49) (.r 457)), (467, .itel (.r 387) (.r 415) (.r 458)), (468, .itel (.r 387) (.r 416) (.r 459)), (469, .itel (.r 387) (.r 417) (.r 460)), (470, .itei (.r 387) (.r 418) (.r 461)), (471, .itei (.r 387) (.r 419) (.r 462)), (472, .itel (.r 387) (.r 420) (.r 463)), (473, .itel (.r 387) (.r 421) (.r 464)), (474, .itel (.r 387) (.r 422) (.r 465)), (475, .itei (.r 387) (.r 423) (.r 466)), (476, .itei (.r 32) (.z 0) (.z 1)), (477, .iteb (.r 32) (.t false) (.r 16)), (478, .itel (.r 32) (.r 467) (.r 18)), (479, .itel (.r 32) (.r 468) (.r 19)), (480, .itel (.r 32) (.r 469) (.r 20)), (481, .itei (.r 32) (.r 470) (.r 21)), (482, .itei (.r 32) (.r 471) (.r 22)), (483, .itel (.r 32) (.r 472) (.r 24)), (484, .itel (.r 32) (.r 473) (.r 25)), (485, .itel (.r 32) (.r 474) (.r 26)), (486, .itei (.r 32) (.r 475) (.r 27))]), [⟨[(.r 32, true)], .r 33⟩, ⟨[(.r 32, true)], .r 35⟩, ⟨[(.r 32, true), (.r 40, true)], .r 41⟩, ⟨[(.r 32, true), (.r 40, true)], .r 48⟩, ⟨[(.r 32, true), (.r 40, true)], .r 54⟩, ⟨[(.r 32, true), (.r 40, false), (.r 57, true)], .r 58⟩, ⟨[(.r 32, true), (.r 40, false), (.r 57, true)], .r 65⟩, ⟨[(.r 32, true), (.r 40, false), (.r 57, false), (.r 72, true)], .r 73⟩, ⟨[(.r 32, true), (.r 40, false), (.r 57, false), (.r 72, true)], .r 80⟩, ⟨[(.r 32, true), (.r 40, false), (.r 57, false), (.r 72, true)], .r 86⟩, ⟨[(.r 32, true), (.r 40, false), (.r 57, false), (.r 72, false), (.r 89, true)], .r 90⟩, ⟨[(.r 32, true), (.r 40, false), (.r 57, false), (.r 72, false), (.r 89, true)], .r 97⟩, ⟨[(.r 32, true), (.r 40, false), (.r 57, false), (.r 72, false), (.r 89, false)], .r 104⟩, ⟨[(.r 32, true), (.r 40, false), (.r 57, false), (.r 72, false), (.r 89, false)], .r 106⟩, ⟨[(.r 32, true), (.r 40, false), (.r 57, false), (.r 72, false), (.r 89, false)], .r 108⟩, ⟨[(.r 32, true), (.r 40, false), (.r 57, false), (.r 72, false), (.r 89, false), (.r 110, false)], .r 112⟩, ⟨[(.r 32, true), (.r 40, false), (.r 57, false), (.r 72, false), (.r 89, false), (.r 371, true)], .r 372⟩, ⟨[(.r 32, true), (.r 40, false), (.r 57, false), (.r 72, false), (.r 89, false), (.r 371, true)], .r 379⟩], .r 430, [.r 16, .r 429, .r 415, .r 416, .r 417, .r 418, .r 419, .r 0, .r 420, .r 421, .r 422, .r 423, .r 0, .r 0, .r 0], [.r 476, .r 477, .r 17, .r 478, .r 479, .r 480, .r 481, .r 482, .r 0, .r 483, .r 484, .r 485, .r 486, .r 0, .r 0, .r 0], [.b, .i, .l, .l, .l, .i, .i, .l, .l, .l, .l, .i, .l, .l, .l]⟩
def s3 : Sig := ⟨[.s (.one (.vec 0))], [some (.v false [.int .i64, .int .i64, .vec [.int .i64, .int .i64, .int .i64, .int .i64]] (.h 0))], [.l], .s (.one (.b (.h 0))), [], [.b], true⟩
def o3 : Out := ⟨List.append (List.append (List.append (List.append ([(1, .call 8 [] 0), (2, .call 8 [] 1), (3, .not (.r 2)), (4, .not (.r 3))]) (callsAt 5 9 [] 0 6)) (callsAt 11 10 [] 0 5)) (callsAt 16 100300 [.r 0, .t false, .z 0, .r 6, .r 10, .r 7, .r 8, .r 9, .r 0, .r 13, .r 14, .r 15, .r 12, .r 0, .r 0, .r 0] 0 17)) ([(33, .eql (.r 17) (.z 0)), (34, .not (.r 33)), (35, .call 21 [.r 20, .r 21, .r 22, .r 23, .r 24] 0), (36, .call 21 [.r 20, .r 21, .r 22, .r 23, .r 24] 1), (37, .call 22 [.r 26, .r 27, .r 28, .r 29] 0), (38, .call 22 [.r 26, .r 27, .r 28, .r 29] 1), (39, .call 18 [.r 36, .r 38] 0), (40, .call 18 [.r 36, .r 38] 1), (41, .call 23 [.r 20, .r 21, .r 22, .r 23, .r 24] 0), (42, .call 24 [.r 26, .r 27, .r 28, .r 29] 0), (43, .call 24 [.r 26, .r 27, .r 28, .r 29] 1), (44, .lgeti 1 0 (.r 41) (.z 0)), (45, .lgeti 1 0 (.r 43) (.z 0)), (46, .eql (.r 44) (.r 45)), (47, .lgeti 1 1 (.r 41) (.z 0)), (48, .lgeti 1 1 (.r 43) (.z 0)), (49, .eql (.r 47) (.r 48)), (50, .lgeti 1 2 (.r 41) (.z 0)), (51, .lgeti 1 2 (.r 43) (.z 0)), (52, .eql (.r 50) (.r 51)), (53, .lgeti 1 3 (.r 41) (.z 0)), (54, .lgeti 1 3 (.r 43) (.z 0)), (55, .eql (.r 53) (.r 54)), (56, .lgeti 1 4 (.r 41) (.z 0)), (57, .lgeti 1 4 (.r 43) (.z 0)), (58, .eql (.r 56) (.r 57)), (59, .lgeti 1 5 (.r 41) (.z 0)), (60, .lgeti 1 5 (.r 43) (.z 0)), (61, .eql (.r 59) (.r 60)), (62, .lgeti 1 6 (.r 41) (.z 0)), (63, .lgeti 1 6 (.r 43) (.z 0)), (64, .eql (.r 62) (.r 63)), (65, .lgeti 1 7 (.r 41) (.z 0)), (66, .lgeti 1 7 (.r 43) (.z 0)), (67, .eql (.r 65) (.r 66)), (68, .lgeti 1 8 (.r 41) (.z 0)), (69, .lgeti 1 8 (.r 43) (.z 0)), (70, .eql (.r 68) (.r 69)), (71, .lgeti 1 9 (.r 41) (.z 0)), (72, .lgeti 1 9 (.r 43) (.z 0)), (73, .eql (.r 71) (.r 72)), (74, .lgeti 1 10 (.r 41) (.z 0)), (75, .lgeti 1 10 (.r 43) (.z 0)), (76, .eql (.r 74) (.r 75)), (77, .lgeti 1 11 (.r 41) (.z 0)), (78, .lgeti 1 11 (.r 43) (.z 0)), (79, .eql (.r 77) (.r 78)), (80, .lgeti 1 12 (.r 41) (.z 0)), (81, .lgeti 1 12 (.r 43) (.z 0)), (82, .eql (.r 80) (.r 81)), (83, .lgeti 1 13 (.r 41) (.z 0)), (84, .lgeti 1 13 (.r 43) (.z 0)), (85, .eql (.r 83) (.r 84)), (86, .lgeti 1 14 (.r 41) (.z 0)), (87, .lgeti 1 14 (.r 43) (.z 0)), (88, .eql (.r 86) (.r 87)), (89, .lgeti 1 15 (.r 41) (.z 0)), (90, .lgeti 1 15 (.r 43) (.z 0)), (91, .eql (.r 89) (.r 90)), (92, .lgeti 1 16 (.r 41) (.z 0)), (93, .lgeti 1 16 (.r 43) (.z 0)), (94, .eql (.r 92) (.r 93)), (95, .lgeti 1 17 (.r 41) (.z 0)), (96, .lgeti 1 17 (.r 43) (.z 0)), (97, .eql (.r 95) (.r 96)), (98, .lgeti 1 18 (.r 41) (.z 0)), (99, .lgeti 1 18 (.r 43) (.z 0)), (100, .eql (.r 98) (.r 99)), (101, .lgeti 1 19 (.r 41) (.z 0)), (102, .lgeti 1 19 (.r 43) (.z 0)), (103, .eql (.r 101) (.r 102)), (104, .lgeti 1 20 (.r 41) (.z 0)), (105, .lgeti 1 20 (.r 43) (.z 0)), (106, .eql (.r 104) (.r 105)), (107, .lgeti 1 21 (.r 41) (.z 0)), (108, .lgeti 1 21 (.r 43) (.z 0)), (109, .eql (.r 107) (.r 108)), (110, .lgeti 1 22 (.r 41) (.z 0)), (111, .lgeti 1 22 (.r 43) (.z 0)), (112, .eql (.r 110) (.r 111)), (113, .lgeti 1 23 (.r 41) (.z 0)), (114, .lgeti 1 23 (.r 43) (.z 0)), (115, .eql (.r 113) (.r 114)), (116, .lgeti 1 24 (.r 41) (.z 0)), (117, .lgeti 1 24 (.r 43) (.z 0)), (118, .eql (.r 116) (.r 117)), (119, .lgeti 1 25 (.r 41) (.z 0)), (120, .lgeti 1 25 (.r 43) (.z 0)), (121, .eql (.r 119) (.r 120)), (122, .lgeti 1 26 (.r 41) (.z 0)), (123, .lgeti 1 26 (.r 43) (.z 0)), (124, .eql (.r 122) (.r 123)), (125, .lgeti 1 27 (.r 41) (.z 0)), (126, .lgeti 1 27 (.r 43) (.z 0)), (127, .eql (.r 125) (.r 126)), (128, .lgeti 1 28 (.r 41) (.z 0)), (129, .lgeti 1 28 (.r 43) (.z 0)), (130, .eql (.r 128) (.r 129)), (131, .lgeti 1 29 (.r 41) (.z 0)), (132, .lgeti 1 29 (.r 43) (.z 0)), (133, .eql (.r 131) (.r 132)), (134, .lgeti 1 30 (.r 41) (.z 0)), (135, .lgeti 1 30 (.r 43) (.z 0)), (136, .eql (.r 134) (.r 135)), (137, .lgeti 1 31 (.r 41) (.z 0)), (138, .lgeti 1 31 (.r 43) (.z 0)), (139, .eql (.r 137) (.r 138)), (140, .lgeti 1 32 (.r 41) (.z 0)), (141, .lgeti 1 32 (.r 43) (.z 0)), (142, .eql (.r 140) (.r 141)), (143, .lgeti 1 33 (.r 41) (.z 0)), (144, .lgeti 1 33 (.r 43) (.z 0)), (145, .eql (.r 143) (.r 144)), (146, .lgeti 1 34 (.r 41) (.z 0)), (147, .lgeti 1 34 (.r 43) (.z 0)), (148, .eql (.r 146) (.r 147)), (149, .lgeti 1 35 (.r 41) (.z 0)), (150, .lgeti 1 35 (.r 43) (.z 0)), (151, .eql (.r 149) (.r 150)), (152, .lgeti 1 36 (.r 41) (.z 0)), (153, .lgeti 1 36 (.r 43) (.z 0)), (154, .eql (.r 152) (.r 153)), (155, .lgeti 1 37 (.r 41) (.z 0)), (156, .lgeti 1 37 (.r 43) (.z 0)), (157, .eql (.r 155) (.r 156)), (158, .lgeti 1 38 (.r 41) (.z 0)), (159, .lgeti 1 38 (.r 43) (.z 0)), (160, .eql (.r 158) (.r 159)), (161, .lgeti 1 39 (.r 41) (.z 0)), (162, .lgeti 1 39 (.r 43) (.z 0)), (163, .eql (.r 161) (.r 162)), (164, .lgeti 1 40 (.r 41) (.z 0)), (165, .lgeti 1 40 (.r 43) (.z 0)), (166, .eql (.r 164) (.r 165)), (167, .lgeti 1 41 (.r 41) (.z 0)), (168, .lgeti 1 41 (.r 43) (.z 0)), (169, .eql (.r 167) (.r 168)), (170, .lgeti 1 42 (.r 41) (.z 0)), (171, .lgeti 1 42 (.r 43) (.z 0)), (172, .eql (.r 170) (.r 171)), (173, .lgeti 1 43 (.r 41) (.z 0)), (174, .lgeti 1 43 (.r 43) (.z 0)), (175, .eql (.r 173) (.r 174)), (176, .lgeti 1 44 (.r 41) (.z 0)), (177, .lgeti 1 44 (.r 43) (.z 0)), (178, .eql (.r 176) (.r 177)), (179, .lgeti 1 45 (.r 41) (.z 0)), (180, .lgeti 1 45 (.r 43) (.z 0)), (181, .eql (.r 179) (.r 180)), (182, .lgeti 1 46 (.r 41) (.z 0)), (183, .lgeti 1 46 (.r 43) (.z 0)), (184, .eql (.r 182) (.r 183)), (185, .lgeti 1 47 (.r 41) (.z 0)), (186, .lgeti 1 47 (.r 43) (.z 0)), (187, .eql (.r 185) (.r 186)), (188, .lgeti 1 48 (.r 41) (.z 0)), (189, .lgeti 1 48 (.r 43) (.z 0)), (190, .eql (.r 188) (.r 189)), (191, .lgeti 1 49 (.r 41) (.z 0)), (192, .lgeti 1 49 (.r 43) (.z 0)), (193, .eql (.r 191) (.r 192)), (194, .lgeti 1 50 (.r 41) (.z 0)), (195, .lgeti 1 50 (.r 43) (.z 0)), (196, .eql (.r 194) (.r 195)), (197, .lgeti 1 51 (.r 41) (.z 0)), (198, .lgeti 1 51 (.r 43) (.z 0)), (199, .eql (.r 197) (.r 198)), (200, .lgeti 1 52 (.r 41) (.z 0)), (201, .lgeti 1 52 (.r 43) (.z 0)), (202, .eql (.r 200) (.r 201)), (203, .lgeti 1 53 (.r 41) (.z 0)), (204, .lgeti 1 53 (.r 43) (.z 0)), (205, .eql (.r 203) (.r 204)), (206, .lgeti 1 54 (.r 41) (.z 0)), (207, .lgeti 1 54 (.r 43) (.z 0)), (208, .eql (.r 206) (.r 207)), (209, .lgeti 1 55 (.r 41) (.z 0)), (210, .lgeti 1 55 (.r 43) (.z 0)), (211, .eql (.r 209) (.r 210)), (212, .lgeti 1 56 (.r 41) (.z 0)), (213, .lgeti 1 56 (.r 43) (.z 0)), (214, .eql (.r 212) (.r 213)), (215, .lgeti 1 57 (.r 41) (.z 0)), (216, .lgeti 1 57 (.r 43) (.z 0)), (217, .eql (.r 215) (.r 216)), (218, .lgeti 1 58 (.r 41) (.z 0)), (219, .lgeti 1 58 (.r 43) (.z 0)), (220, .eql (.r 218) (.r 219)), (221, .lgeti 1 59 (.r 41) (.z 0)), (222, .lgeti 1 59 (.r 43) (.z 0)), (223, .eql (.r 221) (.r 222)), (224, .lgeti 1 60 (.r 41) (.z 0)), (225, .lgeti 1 60 (.r 43) (.z 0)), (226, .eql (.r 224) (.r 225)), (227, .lgeti 1 61 (.r 41) (.z 0)), (228, .lgeti 1 61 (.r 43) (.z 0)), (229, .eql (.r 227) (.r 228)), (230, .lgeti 1 62 (.r 41) (.z 0)), (231, .lgeti 1 62 (.r 43) (.z 0)), (232, .eql (.r 230) (.r 231)), (233, .lgeti 1 63 (.r 41) (.z 0)), (234, .lgeti 1 63 (.r 43) (.z 0)), (235, .eql (.r 233) (.r 234)), (236, .and (.r 232) (.r 235)), (237, .and (.r 229) (.r 236)), (238, .and (.r 226) (.r 237)), (239, .and (.r 223) (.r 238)), (240, .and (.r 220) (.r 239)), (241, .and (.r 217) (.r 240)), (242, .and (.r 214) (.r 241)), (243, .and (.r 211) (.r 242)), (244, .and (.r 208) (.r 243)), (245, .and (.r 205) (.r 244)), (246, .and (.r 202) (.r 245)), (247, .and (.r 199) (.r 246)), (248, .and (.r 196) (.r 247)), (249, .and (.r 193) (.r 248)), (250, .and (.r 190) (.r 249)), (251, .and (.r 187) (.r 250)), (252, .and (.r 184) (.r 251)), (253, .and (.r 181) (.r 252)), (254, .and (.r 178) (.r 253)), (255, .and (.r 175) (.r 254)), (256, .and (.r 172) (.r 255)), (257, .and (.r 169) (.r 256)), (258, .and (.r 166) (.r 257)), (259, .and (.r 163) (.r 258)), (260, .and (.r 160) (.r 259)), (261, .and (.r 157) (.r 260)), (262, .and (.r 154) (.r 261)), (263, .and (.r 151) (.r 262)), (264, .and (.r 148) (.r 263)), (265, .and (.r 145) (.r 264)), (266, .and (.r 142) (.r 265)), (267, .and (.r 139) (.r 266)), (268, .and (.r 136) (.r 267)), (269, .and (.r 133) (.r 268)), (270, .and (.r 130) (.r 269)), (271, .and (.r 127) (.r 270)), (272, .and (.r 124) (.r 271)), (273, .and (.r 121) (.r 272)), (274, .and (.r 118) (.r 273)), (275, .and (.r 115) (.r 274)), (276, .and (.r 112) (.r 275)), (277, .and (.r 109) (.r 276)), (278, .and (.r 106) (.r 277)), (279, .and (.r 103) (.r 278)), (280, .and (.r 100) (.r 279)), (281, .and (.r 97) (.r 280)), (282, .and (.r 94) (.r 281)), (283, .and (.r 91) (.r 282)), (284, .and (.r 88) (.r 283)), (285, .and (.r 85) (.r 284)), (286, .and (.r 82) (.r 285)), (287, .and (.r 79) (.r 286)), (288, .and (.r 76) (.r 287)), (289, .and (.r 73) (.r 288)), (290, .and (.r 70) (.r 289)), (291, .and (.r 67) (.r 290)), (292, .and (.r 64) (.r 291)), (293, .and (.r 61) (.r 292)), (294, .and (.r 58) (.r 293)), (295, .and (.r 55) (.r 294)), (296, .and (.r 52) (.r 295)), (297, .and (.r 49) (.r 296)), (298, .and (.r 46) (.r 297)), (299, .and (.r 40) (.r 298)), (300, .iteb (.r 34) (.r 299) (.r 18)), (301, .and (.r 4) (.r 300))]),
  [⟨[], .r 1⟩, ⟨[(.r 4, true)], .r 5⟩, ⟨[(.r 4, true)], .r 11⟩, ⟨[(.r 4, true)], .r 16⟩, ⟨[(.r 4, true), (.r 34, true)], .r 35⟩, ⟨[(.r 4, true), (.r 34, true)], .r 37⟩, ⟨[(.r 4, true), (.r 34, true)], .r 39⟩, ⟨[(.r 4, true), (.r 34, true), (.r 40, true)], .r 42⟩],
  [l3_0, l3_1],
  [.r 301]⟩
noncomputable def p3 (x0 : List DV) : Bool :=
  let x1 := p8 
  let x2 := r8_0 
  let x3 := !x2
  let x4 := !x3
  let y5 : List DV := g9 []
  let x5 : Bool := (dget y5 0).toB
  let y11 : List DV := g10 []
  let x11 : Bool := (dget y11 0).toB
  let y16 : List DV := g100300 [.l x0, .b false, .i 0, dget y5 1, dget y5 5, dget y5 2, dget y5 3, dget y5 4, .l x0, dget y11 2, dget y11 3, dget y11 4, dget y11 1, .l x0, .l x0, .l x0]
  let x16 : Bool := (dget y16 0).toB
  let x17 : Int := (dget y16 1).toI
  let x21 : List DV := (dget y16 5).toL
  let x26 : List DV := (dget y16 10).toL
  let x27 : List DV := (dget y16 11).toL
  let x33 := x17 == 0
  let x34 := !x33
  let x35 := p21 x21
  let x36 := r21_0 x21
  let x37 := p22 x27
  let x38 := r22_0 x27
  let x39 := p18 x36 x38
  let x40 := r18_0 x36 x38
  let x42 := p24 x26
  [ow [] x1, ow [(x4, true)] x5, ow [(x4, true)] x11, ow [(x4, true)] x16, ow [(x4, true), (x34, true)] x35, ow [(x4, true), (x34, true)] x37, ow [(x4, true), (x34, true)] x39, ow [(x4, true), (x34, true), (x40, true)] x42].all id
noncomputable def r3_0 (x0 : List DV) : Bool :=
  let x2 := r8_0 
  let x3 := !x2
  let x4 := !x3
  let y6 : List DV := g9 []
  let y12 : List DV := g10 []
  let y17 : List DV := g100300 [.l x0, .b false, .i 0, dget y6 1, dget y6 5, dget y6 2, dget y6 3, dget y6 4, .l x0, dget y12 2, dget y12 3, dget y12 4, dget y12 1, .l x0, .l x0, .l x0]
  let x17 : Int := (dget y17 1).toI
  let x18 : Bool := (dget y17 2).toB
  let x20 : List DV := (dget y17 4).toL
  let x21 : List DV := (dget y17 5).toL
  let x26 : List DV := (dget y17 10).toL
  let x27 : List DV := (dget y17 11).toL
  let x33 := x17 == 0
  let x34 := !x33
  let x36 := r21_0 x21
  let x38 := r22_0 x27
  let x40 := r18_0 x36 x38
  let x41 := r23_0 x20
  let x43 := r24_0 x26
  let x44 : Int := (x41.getD (Int.toNat 0 * (1 : Nat) + (0 : Nat)) default).toI
  let x45 : Int := (x43.getD (Int.toNat 0 * (1 : Nat) + (0 : Nat)) default).toI
  let x46 := x44 == x45
  let x47 : Int := (x41.getD (Int.toNat 0 * (1 : Nat) + (1 : Nat)) default).toI
  let x48 : Int := (x43.getD (Int.toNat 0 * (1 : Nat) + (1 : Nat)) default).toI
  let x49 := x47 == x48
  let x50 : Int := (x41.getD (Int.toNat 0 * (1 : Nat) + (2 : Nat)) default).toI
  let x51 : Int := (x43.getD (Int.toNat 0 * (1 : Nat) + (2 : Nat)) default).toI
  let x52 := x50 == x51
  let x53 : Int := (x41.getD (Int.toNat 0 * (1 : Nat) + (3 : Nat)) default).toI
  let x54 : Int := (x43.getD (Int.toNat 0 * (1 : Nat) + (3 : Nat)) default).toI
  let x55 := x53 == x54
  let x56 : Int := (x41.getD (Int.toNat 0 * (1 : Nat) + (4 : Nat)) default).toI
  let x57 : Int := (x43.getD (Int.toNat 0 * (1 : Nat) + (4 : Nat)) default).toI
  let x58 := x56 == x57
  let x59 : Int := (x41.getD (Int.toNat 0 * (1 : Nat) + (5 : Nat)) default).toI
  let x60 : Int := (x43.getD (Int.toNat 0 * (1 : Nat) + (5 : Nat)) default).toI
  let x61 := x59 == x60
  let x62 : Int := (x41.getD (Int.toNat 0 * (1 : Nat) + (6 : Nat)) default).toI
  let x63 : Int := (x43.getD (Int.toNat 0 * (1 : Nat) + (6 : Nat)) default).toI
  let x64 := x62 == x63
  let x65 : Int := (x41.getD (Int.toNat 0 * (1 : Nat) + (7 : Nat)) default).toI
  let x66 : Int := (x43.getD (Int.toNat 0 * (1 : Nat) + (7 : Nat)) default).toI
  let x67 := x65 == x66
  let x68 : Int := (x41.getD (Int.toNat 0 * (1 : Nat) + (8 : Nat)) default).toI
  let x69 : Int := (x43.getD (Int.toNat 0 * (1 : Nat) + (8 : Nat)) default).toI
  let x70 := x68 == x69
  let x71 : Int := (x41.getD (Int.toNat 0 * (1 : Nat) + (9 : Nat)) default).toI
  let x72 : Int := (x43.getD (Int.toNat 0 * (1 : Nat) + (9 : Nat)) default).toI
  let x73 := x71 == x72
  let x74 : Int := (x41.getD (Int.toNat 0 * (1 : Nat) + (10 : Nat)) default).toI
  let x75 : Int := (x43.getD (Int.toNat 0 * (1 : Nat) + (10 : Nat)) default).toI
  let x76 := x74 == x75
  let x77 : Int := (x41.getD (Int.toNat 0 * (1 : Nat) + (11 : Nat)) default).toI
  let x78 : Int := (x43.getD (Int.toNat 0 * (1 : Nat) + (11 : Nat)) default).toI
  let x79 := x77 == x78
  let x80 : Int := (x41.getD (Int.toNat 0 * (1 : Nat) + (12 : Nat)) default).toI
  let x81 : Int := (x43.getD (Int.toNat 0 * (1 : Nat) + (12 : Nat)) default).toI
  let x82 := x80 == x81
  let x83 : Int := (x41.getD (Int.toNat 0 * (1 : Nat) + (13 : Nat)) default).toI
  let x84 : Int := (x43.getD (Int.toNat 0 * (1 : Nat) + (13 : Nat)) default).toI
  let x85 := x83 == x84
  let x86 : Int := (x41.getD (Int.toNat 0 * (1 : Nat) + (14 : Nat)) default).toI
  let x87 : Int := (x43.getD (Int.toNat 0 * (1 : Nat) + (14 : Nat)) default).toI
  let x88 := x86 == x87
  let x89 : Int := (x41.getD (Int.toNat 0 * (1 : Nat) + (15 : Nat)) default).toI
  let x90 : Int := (x43.getD (Int.toNat 0 * (1 : Nat) + (15 : Nat)) default).toI
  let x91 := x89 == x90
  let x92 : Int := (x41.getD (Int.toNat 0 * (1 : Nat) + (16 : Nat)) default).toI
  let x93 : Int := (x43.getD (Int.toNat 0 * (1 : Nat) + (16 : Nat)) default).toI
  let x94 := x92 == x93
  let x95 : Int := (x41.getD (Int.toNat 0 * (1 : Nat) + (17 : Nat)) default).toI
  let x96 : Int := (x43.getD (Int.toNat 0 * (1 : Nat) + (17 : Nat)) default).toI
  let x97 := x95 == x96
  let x98 : Int := (x41.getD (Int.toNat 0 * (1 : Nat) + (18 : Nat)) default).toI
  let x99 : Int := (x43.getD (Int.toNat 0 * (1 : Nat) + (18 : Nat)) default).toI
  let x100 := x98 == x99
  let x101 : Int := (x41.getD (Int.toNat 0 * (1 : Nat) + (19 : Nat)) default).toI
  let x102 : Int := (x43.getD (Int.toNat 0 * (1 : Nat) + (19 : Nat)) default).toI
  let x103 := x101 == x102
  let x104 : Int := (x41.getD (Int.toNat 0 * (1 : Nat) + (20 : Nat)) default).toI
  let x105 : Int := (x43.getD (Int.toNat 0 * (1 : Nat) + (20 : Nat)) default).toI
  let x106 := x104 == x105
  let x107 : Int := (x41.getD (Int.toNat 0 * (1 : Nat) + (21 : Nat)) default).toI
  let x108 : Int := (x43.getD (Int.toNat 0 * (1 : Nat) + (21 : Nat)) default).toI
  let x109 := x107 == x108
  let x110 : Int := (x41.getD (Int.toNat 0 * (1 : Nat) + (22 : Nat)) default).toI
  let x111 : Int := (x43.getD (Int.toNat 0 * (1 : Nat) + (22 : Nat)) default).toI
  let x112 := x110 == x111
  let x113 : Int := (x41.getD (Int.toNat 0 * (1 : Nat) + (23 : Nat)) default).toI
  let x114 : Int := (x43.getD (Int.toNat 0 * (1 : Nat) + (23 : Nat)) default).toI
  let x115 := x113 == x114
  let x116 : Int := (x41.getD (Int.toNat 0 * (1 : Nat) + (24 : Nat)) default).toI
  let x117 : Int := (x43.getD (Int.toNat 0 * (1 : Nat) + (24 : Nat)) default).toI
  let x118 := x116 == x117
  let x119 : Int := (x41.getD (Int.toNat 0 * (1 : Nat) + (25 : Nat)) default).toI
  let x120 : Int := (x43.getD (Int.toNat 0 * (1 : Nat) + (25 : Nat)) default).toI
  let x121 := x119 == x120
  let x122 : Int := (x41.getD (Int.toNat 0 * (1 : Nat) + (26 : Nat)) default).toI
  let x123 : Int := (x43.getD (Int.toNat 0 * (1 : Nat) + (26 : Nat)) default).toI
  let x124 := x122 == x123
  let x125 : Int := (x41.getD (Int.toNat 0 * (1 : Nat) + (27 : Nat)) default).toI
  let x126 : Int := (x43.getD (Int.toNat 0 * (1 : Nat) + (27 : Nat)) default).toI
  let x127 := x125 == x126
  let x128 : Int := (x41.getD (Int.toNat 0 * (1 : Nat) + (28 : Nat)) default).toI
  let x129 : Int := (x43.getD (Int.toNat 0 * (1 : Nat) + (28 : Nat)) default).toI
  let x130 := x128 == x129
  let x131 : Int := (x41.getD (Int.toNat 0 * (1 : Nat) + (29 : Nat)) default).toI
  let x132 : Int := (x43.getD (Int.toNat 0 * (1 : Nat) + (29 : Nat)) default).toI
  let x133 := x131 == x132
  let x134 : Int := (x41.getD (Int.toNat 0 * (1 : Nat) + (30 : Nat)) default).toI
  let x135 : Int := (x43.getD (Int.toNat 0 * (1 : Nat) + (30 : Nat)) default).toI
  let x136 := x134 == x135
  let x137 : Int := (x41.getD (Int.toNat 0 * (1 : Nat) + (31 : Nat)) default).toI
  let x138 : Int := (x43.getD (Int.toNat 0 * (1 : Nat) + (31 : Nat)) default).toI
  let x139 := x137 == x138
  let x140 : Int := (x41.getD (Int.toNat 0 * (1 : Nat) + (32 : Nat)) default).toI
  let x141 : Int := (x43.getD (Int.toNat 0 * (1 : Nat) + (32 : Nat)) default).toI
  let x142 := x140 == x141
  let x143 : Int := (x41.getD (Int.toNat 0 * (1 : Nat) + (33 : Nat)) default).toI
  let x144 : Int := (x43.getD (Int.toNat 0 * (1 : Nat) + (33 : Nat)) default).toI
  let x145 := x143 == x144
  let x146 : Int := (x41.getD (Int.toNat 0 * (1 : Nat) + (34 : Nat)) default).toI
  let x147 : Int := (x43.getD (Int.toNat 0 * (1 : Nat) + (34 : Nat)) default).toI
  let x148 := x146 == x147
  let x149 : Int := (x41.getD (Int.toNat 0 * (1 : Nat) + (35 : Nat)) default).toI
  let x150 : Int := (x43.getD (Int.toNat 0 * (1 : Nat) + (35 : Nat)) default).toI
  let x151 := x149 == x150
  let x152 : Int := (x41.getD (Int.toNat 0 * (1 : Nat) + (36 : Nat)) default).toI
  let x153 : Int := (x43.getD (Int.toNat 0 * (1 : Nat) + (36 : Nat)) default).toI
  let x154 := x152 == x153
  let x155 : Int := (x41.getD (Int.toNat 0 * (1 : Nat) + (37 : Nat)) default).toI
  let x156 : Int := (x43.getD (Int.toNat 0 * (1 : Nat) + (37 : Nat)) default).toI
  let x157 := x155 == x156
  let x158 : Int := (x41.getD (Int.toNat 0 * (1 : Nat) + (38 : Nat)) default).toI
  let x159 : Int := (x43.getD (Int.toNat 0 * (1 : Nat) + (38 : Nat)) default).toI
  let x160 := x158 == x159
  let x161 : Int := (x41.getD (Int.toNat 0 * (1 : Nat) + (39 : Nat)) default).toI
  let x162 : Int := (x43.getD (Int.toNat 0 * (1 : Nat) + (39 : Nat)) default).toI
  let x163 := x161 == x162
  let x164 : Int := (x41.getD (Int.toNat 0 * (1 : Nat) + (40 : Nat)) default).toI
  let x165 : Int := (x43.getD (Int.toNat 0 * (1 : Nat) + (40 : Nat)) default).toI
  let x166 := x164 == x165
  let x167 : Int := (x41.getD (Int.toNat 0 * (1 : Nat) + (41 : Nat)) default).toI
  let x168 : Int := (x43.getD (Int.toNat 0 * (1 : Nat) + (41 : Nat)) default).toI
  let x169 := x167 == x168
  let x170 : Int := (x41.getD (Int.toNat 0 * (1 : Nat) + (42 : Nat)) default).toI
  let x171 : Int := (x43.getD (Int.toNat 0 * (1 : Nat) + (42 : Nat)) default).toI
  let x172 := x170 == x171
  let x173 : Int := (x41.getD (Int.toNat 0 * (1 : Nat) + (43 : Nat)) default).toI
  let x174 : Int := (x43.getD (Int.toNat 0 * (1 : Nat) + (43 : Nat)) default).toI
  let x175 := x173 == x174
  let x176 : Int := (x41.getD (Int.toNat 0 * (1 : Nat) + (44 : Nat)) default).toI
  let x177 : Int := (x43.getD (Int.toNat 0 * (1 : Nat) + (44 : Nat)) default).toI
  let x178 := x176 == x177
  let x179 : Int := (x41.getD (Int.toNat 0 * (1 : Nat) + (45 : Nat)) default).toI
  let x180 : Int := (x43.getD (Int.toNat 0 * (1 : Nat) + (45 : Nat)) default).toI
  let x181 := x179 == x180
  let x182 : Int := (x41.getD (Int.toNat 0 * (1 : Nat) + (46 : Nat)) default).toI
  let x183 : Int := (x43.getD (Int.toNat 0 * (1 : Nat) + (46 : Nat)) default).toI
  let x184 := x182 == x183
  let x185 : Int := (x41.getD (Int.toNat 0 * (1 : Nat) + (47 : Nat)) default).toI
  let x186 : Int := (x43.getD (Int.toNat 0 * (1 : Nat) + (47 : Nat)) default).toI
  let x187 := x185 == x186
  let x188 : Int := (x41.getD (Int.toNat 0 * (1 : Nat) + (48 : Nat)) default).toI
  let x189 : Int := (x43.getD (Int.toNat 0 * (1 : Nat) + (48 : Nat)) default).toI
  let x190 := x188 == x189
  let x191 : Int := (x41.getD (Int.toNat 0 * (1 : Nat) + (49 : Nat)) default).toI
  let x192 : Int := (x43.getD (Int.toNat 0 * (1 : Nat) + (49 : Nat)) default).toI
  let x193 := x191 == x192
  let x194 : Int := (x41.getD (Int.toNat 0 * (1 : Nat) + (50 : Nat)) default).toI
  let x195 : Int := (x43.getD (Int.toNat 0 * (1 : Nat) + (50 : Nat)) default).toI
  let x196 := x194 == x195
  let x197 : Int := (x41.getD (Int.toNat 0 * (1 : Nat) + (51 : Nat)) default).toI
  let x198 : Int := (x43.getD (Int.toNat 0 * (1 : Nat) + (51 : Nat)) default).toI
  let x199 := x197 == x198
  let x200 : Int := (x41.getD (Int.toNat 0 * (1 : Nat) + (52 : Nat)) default).toI
  let x201 : Int := (x43.getD (Int.toNat 0 * (1 : Nat) + (52 : Nat)) default).toI
  let x202 := x200 == x201
  let x203 : Int := (x41.getD (Int.toNat 0 * (1 : Nat) + (53 : Nat)) default).toI
  let x204 : Int := (x43.getD (Int.toNat 0 * (1 : Nat) + (53 : Nat)) default).toI
  let x205 := x203 == x204
  let x206 : Int := (x41.getD (Int.toNat 0 * (1 : Nat) + (54 : Nat)) default).toI
  let x207 : Int := (x43.getD (Int.toNat 0 * (1 : Nat) + (54 : Nat)) default).toI
  let x208 := x206 == x207
  let x209 : Int := (x41.getD (Int.toNat 0 * (1 : Nat) + (55 : Nat)) default).toI
  let x210 : Int := (x43.getD (Int.toNat 0 * (1 : Nat) + (55 : Nat)) default).toI
  let x211 := x209 == x210
  let x212 : Int := (x41.getD (Int.toNat 0 * (1 : Nat) + (56 : Nat)) default).toI
  let x213 : Int := (x43.getD (Int.toNat 0 * (1 : Nat) + (56 : Nat)) default).toI
  let x214 := x212 == x213
  let x215 : Int := (x41.getD (Int.toNat 0 * (1 : Nat) + (57 : Nat)) default).toI
  let x216 : Int := (x43.getD (Int.toNat 0 * (1 : Nat) + (57 : Nat)) default).toI
  let x217 := x215 == x216
  let x218 : Int := (x41.getD (Int.toNat 0 * (1 : Nat) + (58 : Nat)) default).toI
  let x219 : Int := (x43.getD (Int.toNat 0 * (1 : Nat) + (58 : Nat)) default).toI
  let x220 := x218 == x219
  let x221 : Int := (x41.getD (Int.toNat 0 * (1 : Nat) + (59 : Nat)) default).toI
  let x222 : Int := (x43.getD (Int.toNat 0 * (1 : Nat) + (59 : Nat)) default).toI
  let x223 := x221 == x222
  let x224 : Int := (x41.getD (Int.toNat 0 * (1 : Nat) + (60 : Nat)) default).toI
  let x225 : Int := (x43.getD (Int.toNat 0 * (1 : Nat) + (60 : Nat)) default).toI
  let x226 := x224 == x225
  let x227 : Int := (x41.getD (Int.toNat 0 * (1 : Nat) + (61 : Nat)) default).toI
  let x228 : Int := (x43.getD (Int.toNat 0 * (1 : Nat) + (61 : Nat)) default).toI
  let x229 := x227 == x228
  let x230 : Int := (x41.getD (Int.toNat 0 * (1 : Nat) + (62 : Nat)) default).toI
  let x231 : Int := (x43.getD (Int.toNat 0 * (1 : Nat) + (62 : Nat)) default).toI
  let x232 := x230 == x231
  let x233 : Int := (x41.getD (Int.toNat 0 * (1 : Nat) + (63 : Nat)) default).toI
  let x234 : Int := (x43.getD (Int.toNat 0 * (1 : Nat) + (63 : Nat)) default).toI
  let x235 := x233 == x234
  let x236 := x232 && x235
  let x237 := x229 && x236
  let x238 := x226 && x237
  let x239 := x223 && x238
  let x240 := x220 && x239
  let x241 := x217 && x240
  let x242 := x214 && x241
  let x243 := x211 && x242
  let x244 := x208 && x243
  let x245 := x205 && x244
  let x246 := x202 && x245
  let x247 := x199 && x246
  let x248 := x196 && x247
  let x249 := x193 && x248
  let x250 := x190 && x249
  let x251 := x187 && x250
  let x252 := x184 && x251
  let x253 := x181 && x252
  let x254 := x178 && x253
  let x255 := x175 && x254
  let x256 := x172 && x255
  let x257 := x169 && x256
  let x258 := x166 && x257
  let x259 := x163 && x258
  let x260 := x160 && x259
  let x261 := x157 && x260
  let x262 := x154 && x261
  let x263 := x151 && x262
  let x264 := x148 && x263
  let x265 := x145 && x264
  let x266 := x142 && x265
  let x267 := x139 && x266
  let x268 := x136 && x267
  let x269 := x133 && x268
  let x270 := x130 && x269
  let x271 := x127 && x270
  let x272 := x124 && x271
  let x273 := x121 && x272
  let x274 := x118 && x273
  let x275 := x115 && x274
  let x276 := x112 && x275
  let x277 := x109 && x276
  let x278 := x106 && x277
  let x279 := x103 && x278
  let x280 := x100 && x279
  let x281 := x97 && x280
  let x282 := x94 && x281
  let x283 := x91 && x282
  let x284 := x88 && x283
  let x285 := x85 && x284
  let x286 := x82 && x285
  let x287 := x79 && x286
  let x288 := x76 && x287
  let x289 := x73 && x288
  let x290 := x70 && x289
  let x291 := x67 && x290
  let x292 := x64 && x291
  let x293 := x61 && x292
  let x294 := x58 && x293
  let x295 := x55 && x294
  let x296 := x52 && x295
  let x297 := x49 && x296
  let x298 := x46 && x297
  let x299 := x40 && x298
  let x300 := bif x34 then x299 else x18
  let x301 := x4 && x300
  x301
noncomputable def g3 (ds : List DV) : List DV := [.b (p3 (dget ds 0).toL), .b (r3_0 (dget ds 0).toL)]
def S3 : Sigs := ⟨[(8, s8), (9, s9), (10, s10), (21, s21), (22, s22), (18, s18), (23, s23), (24, s24), (11, s11), (12, s12), (13, s13), (14, s14), (15, s15), (16, s16), (17, s17), (19, s19), (20, s20), (25, s25)], [], [(0, 100300), (3, 100303)], 1⟩



end Go.Proofs.Ytkpbkanbpjfadaa

namespace Go.Proofs.Ytkpbkanbpjfadaa
open Go Go.Sx

theorem toI_i (x : Int) : (DV.i x).toI = x := rfl
theorem toB_b (x : Bool) : (DV.b x).toB = x := rfl
theorem toL_l (x : List DV) : (DV.l x).toL = x := rfl
theorem ow_true (l : List (Bool × Bool)) : ow l true = true := by simp [ow]

structure Fresh (a : List Na) (i : Nat) (u : U) : Prop where
  ok : u.Ok
  ma : i + u.ma = a.length
  un : ∀ e ∈ u.under, e.f = false
  at_ : ∀ j, j < u.ma → ∃ n, a[i + j]? = some n ∧ n.r = ((u.fi + j) % 16 : Nat)
variable {a : List Na} {w0 : List DV} {ok : Bool} {i : Nat} {u : U}
def U.fin (u : U) : U := { u with rob := u.rob.set u.fi { u.at u.fi with f := true } }
theorem Fresh.step (h : Fresh a i u) (hm : 0 < u.ma) : u.commit 1 = (u, []) ∧ u.finish u.fi = (u.fin, true) ∧ u.fin.commit 1 = (u.fin.commit1, [(u.fi : Int)]) ∧ u.fin.WF ∧ Fresh a (i + 1) u.fin.commit1 := by
  have hfi := h.ok.wf.fi
  have h0 : u.under[0]? = some (u.at u.fi) := by rw [under_get hm]; congr 2; omega
  have hf : (u.at u.fi).f = false := h.un _ (List.mem_of_getElem? h0)
  have e0 : (u.fi + 0) % 16 = u.fi := by omega
  have hfin := finish_at h.ok.wf hm (by rw [e0]; exact hf)
  rw [e0] at hfin
  have hok : u.fin.Ok := by have := h.ok.finish u.fi; rw [hfin] at this; exact this
  have hat : u.fin.at u.fi = { u.at u.fi with f := true } := by
    show (u.rob.set u.fi _).getD u.fi En.nil = _
    rw [getD_set _ _ _ _ _ (by rw [h.ok.wf.rob]; exact hfi), if_pos rfl]
  have hun : u.fin.under = u.under.set 0 { u.at u.fi with f := true } := by
    have := under_finish h.ok.wf hm { u.at u.fi with f := true }
    rw [e0] at this
    exact this
  have hc := under_commit1 hok.wf.w2 (u := u.fin) hm
  have htl : u.fin.commit1.under = u.under.tail := by
    rw [hc] at hun
    cases hu : u.under with
    | nil => rw [hu] at h0; simp at h0
    | cons x l => rw [hu, List.set_cons_zero] at hun; exact (List.cons.inj hun).2
  refine ⟨?_, hfin, ?_, hok.wf, ⟨hok.commit1 hm, ?_, ?_, ?_⟩⟩
  · have : u.ready = false := by simp [U.ready, hf]
    exact commit_zero this 1
  · have : u.fin.ready = true := by
      show (decide (u.ma > 0) && (u.fin.at u.fi).f) = true
      rw [hat]; simpa using hm
    simp only [U.commit, this, cond_true]
    rfl
  · show i + 1 + (u.ma - 1) = _
    have := h.ma; omega
  · rw [htl]
    intro e he
    exact h.un e (List.mem_of_mem_tail he)
  · intro j hj
    have hj : j < u.ma - 1 := hj
    obtain ⟨n, h1, h2⟩ := h.at_ (j + 1) (by omega)
    refine ⟨n, by rw [show i + 1 + j = i + (j + 1) from by omega]; exact h1, ?_⟩
    rw [h2]
    show (((u.fi + (j + 1)) % 16 : Nat) : Int) = (((u.fi + 1) % 16 + j) % 16 : Nat)
    congr 1; omega
end Go.Proofs.Ytkpbkanbpjfadaa

namespace Go.Proofs.Ytkpbkanbpjfadaa
open Go Go.Sx

theorem bt3 (s0 s1 s2 : Int) (na : List Int) (hna : na.length = 64) : g102700 [.i s0, .i s1, .i s2, .l (encI na), .i 0, .i 0, .i 0, .i 0] = [.b true, .i 0, .i 3, .i (src na s0), .i (src na s1), .i (src na s2)] := by
  have hL : loopG W102700 C102700 N102700 T102700 [.i s0, .i s1, .i s2, .l (encI na), .i 0, .i 0, .i 0, .i 0] = some [.i 0, .i 3, .i (src na s0), .i (src na s1), .i (src na s2)] := by
    have hw : ∀ k a b c : Int, 0 ≤ k → W102700 [.i s0, .i s1, .i s2, .l (encI na), .i k, .i a, .i b, .i c] = true := fun k a b c hk => by
      show w102700 s0 s1 s2 (encI na) k a b c = true
      unfold w102700
      have h1 : decide (k ≥ 0) = true := by simpa using hk
      simp only [encI_len, hna, h1]
      simp [ow]
      omega
    have hs : ∀ x : Int, (bif decide (x ≥ 0) && decide (x ≤ 63) then ((encI na).getD (Int.toNat x * (1 : Nat) + (0 : Nat)) default).toI else -1) = src na x := fun x => by
      rw [Nat.mul_one, Nat.add_zero, encI_get]
      unfold src
      by_cases hx : 0 ≤ x ∧ x < 64
      · rw [if_pos hx]; have : (decide (x ≥ 0) && decide (x ≤ 63)) = true := by simp; omega
        rw [this]; rfl
      · rw [if_neg hx]; have : (decide (x ≥ 0) && decide (x ≤ 63)) = false := by simp; omega
        rw [this]; rfl
    have c1 : ∀ (c : Bool) (x : Int), (bif c then x else x) = x := fun c x => by cases c <;> rfl
    have n0 : N102700 [.i s0, .i s1, .i s2, .l (encI na), .i 0, .i 0, .i 0, .i 0] = [.i s0, .i s1, .i s2, .l (encI na), .i 1, .i (src na s0), .i 0, .i 0] := by
      have h0 : n102700_1 s0 s1 s2 (encI na) 0 0 0 0 = src na s0 := hs s0
      have h1 : n102700_2 s0 s1 s2 (encI na) 0 0 0 0 = 0 := c1 _ 0
      have h2 : n102700_3 s0 s1 s2 (encI na) 0 0 0 0 = 0 := c1 _ 0
      show [DV.i s0, .i s1, .i s2, .l (encI na), .i 1, .i (n102700_1 s0 s1 s2 (encI na) 0 0 0 0), .i (n102700_2 s0 s1 s2 (encI na) 0 0 0 0), .i (n102700_3 s0 s1 s2 (encI na) 0 0 0 0)] = _
      rw [h0, h1, h2]
    have n1 : ∀ a, N102700 [.i s0, .i s1, .i s2, .l (encI na), .i 1, .i a, .i 0, .i 0] = [.i s0, .i s1, .i s2, .l (encI na), .i 2, .i a, .i (src na s1), .i 0] := fun a => by
      have h0 : n102700_1 s0 s1 s2 (encI na) 1 a 0 0 = a := c1 _ a
      have h1 : n102700_2 s0 s1 s2 (encI na) 1 a 0 0 = src na s1 := hs s1
      have h2 : n102700_3 s0 s1 s2 (encI na) 1 a 0 0 = 0 := c1 _ 0
      show [DV.i s0, .i s1, .i s2, .l (encI na), .i 2, .i (n102700_1 s0 s1 s2 (encI na) 1 a 0 0), .i (n102700_2 s0 s1 s2 (encI na) 1 a 0 0), .i (n102700_3 s0 s1 s2 (encI na) 1 a 0 0)] = _
      rw [h0, h1, h2]
    have n2 : ∀ a b, N102700 [.i s0, .i s1, .i s2, .l (encI na), .i 2, .i a, .i b, .i 0] = [.i s0, .i s1, .i s2, .l (encI na), .i 3, .i a, .i b, .i (src na s2)] := fun a b => by
      have h0 : n102700_1 s0 s1 s2 (encI na) 2 a b 0 = a := c1 _ a
      have h1 : n102700_2 s0 s1 s2 (encI na) 2 a b 0 = b := c1 _ b
      have h2 : n102700_3 s0 s1 s2 (encI na) 2 a b 0 = src na s2 := hs s2
      show [DV.i s0, .i s1, .i s2, .l (encI na), .i 3, .i (n102700_1 s0 s1 s2 (encI na) 2 a b 0), .i (n102700_2 s0 s1 s2 (encI na) 2 a b 0), .i (n102700_3 s0 s1 s2 (encI na) 2 a b 0)] = _
      rw [h0, h1, h2]
    rw [loopG_next (hw 0 0 0 0 (by decide)) rfl, n0, loopG_next (hw 1 _ _ _ (by decide)) rfl, n1, loopG_next (hw 2 _ _ _ (by decide)) rfl, n2, loopG_last (hw 3 _ _ _ (by decide)) rfl]
    rfl
  have e : ∀ o : Option (List DV), o = some [.i 0, .i 3, .i (src na s0), .i (src na s1), .i (src na s2)] → [DV.b o.isSome, .i (dget (o.getD []) 0).toI, .i (dget (o.getD []) 1).toI, .i (dget (o.getD []) 2).toI, .i (dget (o.getD []) 3).toI, .i (dget (o.getD []) 4).toI] = [.b true, .i 0, .i 3, .i (src na s0), .i (src na s1), .i (src na s2)] := fun o h => by rw [h]; rfl
  exact e _ hL

def oneOut (u : U) (o : Option (U × Na)) : List DV :=
  match o with
  | some (u', n) => [.b true, .i n.s0, .i n.s1, .i n.s2, .i n.d, .i n.o, .i n.r, .b true, .l (encI u'.na), .i u'.nx, .l (encI u'.fr), .l (encR u'.refL)]
  | none => [.b true, .i 0, .i 0, .i 0, .i 0, .i 0, .i 0, .b false, .l (encI u.na), .i u.nx, .l (encI u.fr), .l (encR u.refL)]
theorem g27_eq {u : U} (hu : u.WF) (w : Wa) : g27 [.l (encI u.na), .l (encI u.fr), .l (encR u.refL), .i u.nx, .i w.s0, .i w.s1, .i w.s2, .i w.d] = oneOut u (u.alloc1 w) := by
  have hma := hu.ma
  have hfi := hu.fi
  have hfr := hu.fr
  have hW : (ige w.d 1 && ile w.d 63) = w.wr := by
    unfold Wa.wr ige ile
    rw [Bool.eq_iff_iff]; simp; omega
  have el : ((encR u.refL).length / 5 : Nat) = u.ma := by rw [encR_len, refL_len]; omega
  have eN : ([] : List DV) ++ encR u.refL = encR u.refL := rfl
  have hst : (((u.ma : Int) == 16) || (w.wr && ((u.fr.length : Int) == 0))) = stops u w := by
    unfold stops
    have e2 : ((u.ma : Int) == 16) = decide (u.ma = 16) := by rw [Bool.eq_iff_iff]; simp; omega
    have e3 : ((u.fr.length : Int) == 0) = decide (u.fr.length = 0) := by rw [Bool.eq_iff_iff]; simp
    rw [e2, e3]
  have e52 : decide ((u.ma : Int) ≤ 1716310833601) = true := by simp; omega
  have e56 : ∀ (a b c d : Int) (x : Bool), decide ((((encR u.refL ++ [DV.i a, .i b, .i c, .i d, .b x]).length / 5 : Nat) : Int) ≤ 1716310833601) = true := fun a b c d x => by
    rw [List.length_append, encR_len, refL_len]; simp; omega
  have h26 : ((encI u.fr).getD (Int.toNat 0 * (1 : Nat) + (0 : Nat)) default).toI = u.fr.getD 0 0 := encI_get u.fr 0
  have h30 : ((encI u.na).getD (Int.toNat w.d * (1 : Nat) + (0 : Nat)) default).toI = u.na.getD w.d.toNat 0 := by rw [Nat.mul_one, Nat.add_zero, encI_get]
  have h34 : ∀ x : Int, (encI u.na).set (Int.toNat w.d * (1 : Nat) + (0 : Nat)) (.i x) = encI (u.na.set w.d.toNat x) := fun x => by rw [Nat.mul_one, Nat.add_zero, encI_set]
  have h38 : ([] : List DV) ++ (encI u.fr).drop (Int.toNat 1 * 1) = encI (u.fr.drop 1) := encI_drop u.fr 1
  have e41 : decide ((((u.fr.drop 1).length : Nat) : Int) ≤ 7818749353073) = true := by
    simp; omega
  unfold g27
  simp only [dget, List.getD_cons_zero, List.getD_cons_succ, toI_i, toB_b, toL_l, hW, el, h26, h30, h34, h38, e41, encI_len, Nat.div_one, hst, bt3 _ _ _ _ hu.na, eN, e52, e56, hu.na, ow_true]
  cases hs : stops u w with
  | true =>
    rw [alloc1_stops hs]
    simp only [Bool.not_true, cond_false]
    simp [ow, oneOut]
  | false =>
    have ha := alloc1_goes hs
    obtain ⟨hwf', hf', hm', hma'⟩ := hu.alloc1 ha
    have hL := refL_alloc1 hu ha
    rw [ha]
    have hnx : Int.tmod (IntKind.wrap .i64 ((u.nx : Int) + 1)) 16 = (((u.fi + (u.ma + 1)) % 16 : Nat) : Int) := by
      unfold U.nx
      rw [wrap_i64_of (by omega) (by omega), Int.tmod_eq_emod_of_nonneg (by omega)]
      omega
    simp only [Bool.not_false, cond_true, hnx]
    unfold oneOut
    simp only [hL]
    rw [← encR_append]
    cases hw : w.wr with
    | false =>
      simp only [cond_false]
      have e9 : ∀ x : Bool, ow [(true, true), (false, true)] x = true := fun x => rfl
      simp only [e9]
      rfl
    | true =>
      have hd : 0 < w.d ∧ w.d < 64 := by simpa [Wa.wr] using hw
      have hfl : 0 < u.fr.length := by
        unfold stops at hs
        rw [hw] at hs
        simp at hs
        have := hs.2
        rcases Nat.eq_zero_or_pos u.fr.length with h | h
        · exact absurd (List.length_eq_zero_iff.1 h) this
        · exact h
      have c1 : decide ((0 : Int) < (u.fr.length : Int)) = true := by simp; omega
      have c2 : ige w.d 0 = true := by simp [ige]; omega
      have c3 : ilt w.d ((64 : Nat) : Int) = true := by simp [ilt]; omega
      have c4 : decide ((1 : Int) ≤ (u.fr.length : Int)) = true := by simp; omega
      simp only [cond_true, c1, c2, c3, c4, ow_true]
      have er : refEn (u.place u.ma) ⟨w.d, u.fr.getD 0 0, u.na.getD w.d.toNat 0, false⟩ = ⟨(u.place u.ma : Nat), w.d, u.fr.getD 0 0, u.na.getD w.d.toNat 0, false⟩ := by
        unfold refEn
        have : decide (w.d < 0) = false := by simp; omega
        simp only [this, cond_false]
      rw [er]
      rfl

abbrev AR (ws : List Wa) (x0 : List DV) (out : List Na) (k : Nat) (u : U) : List DV :=
  [.l (encW ws), .l x0, .l (encN out), .i k, .l x0, .l x0, .l x0, .l (encI u.na), .l (encI u.fr), .l (encR u.refL), .i u.nx, .l x0]
section
variable {w : Wa} {ws : List Wa} {x0 : List DV} {out : List Na} {k : Nat} {u : U}
theorem rAend (hk : ws.length ≤ k) : W101200 (AR ws x0 out k u) = true ∧ C101200 (AR ws x0 out k u) = false ∧ T101200 (AR ws x0 out k u) = [.i 1, .l (encN out), .i k, .l x0, .l x0, .l x0, .l (encI u.na), .l (encI u.fr), .l (encR u.refL), .i u.nx, .l x0] := by
  have el : ((encW ws).length / 4 : Nat) = ws.length := by rw [encW_len]; omega
  have c1 : ilt (k : Int) (ws.length : Int) = false := by simp [ilt]; omega
  refine ⟨?_, ?_, ?_⟩
  · unfold W101200
    simp only [dget, List.getD_cons_zero, List.getD_cons_succ, toI_i, toB_b, toL_l, el, c1]
    simp [ow]
  · unfold C101200
    simp only [dget, List.getD_cons_zero, List.getD_cons_succ, toI_i, toB_b, toL_l, el, c1, Bool.false_and]
  · unfold T101200
    simp only [dget, List.getD_cons_zero, List.getD_cons_succ, toI_i, toB_b, toL_l, el, c1, cond_false]
theorem rA (hk : ws[k]? = some w) (hu : u.WF) (ho : out.length ≤ 100) (hb : ws.length < 9223372036854775808) :
    W101200 (AR ws x0 out k u) = true ∧ (u.alloc1 w = none → C101200 (AR ws x0 out k u) = false ∧ T101200 (AR ws x0 out k u) = [.i 0, .l (encN out), .i k, .l x0, .l x0, .l x0, .l (encI u.na), .l (encI u.fr), .l (encR u.refL), .i u.nx, .l x0]) ∧
    ∀ u' n, u.alloc1 w = some (u', n) → C101200 (AR ws x0 out k u) = true ∧ N101200 (AR ws x0 out k u) = AR ws x0 (out ++ [n]) (k + 1) u' := by
  have hlt : k < ws.length := (List.getElem?_eq_some_iff.1 hk).1
  have el : ((encW ws).length / 4 : Nat) = ws.length := by rw [encW_len]; omega
  have c1 : ilt (k : Int) (ws.length : Int) = true := by simp [ilt]; omega
  have c2 : ige (k : Int) 0 = true := by simp [ige]
  have w0 : ((encW ws).getD (Int.toNat (k : Int) * (4 : Nat) + (0 : Nat)) default).toI = w.s0 := by rw [encW_get hk 0 (by decide)]; rfl
  have w1 : ((encW ws).getD (Int.toNat (k : Int) * (4 : Nat) + (1 : Nat)) default).toI = w.s1 := by rw [encW_get hk 1 (by decide)]; rfl
  have w2 : ((encW ws).getD (Int.toNat (k : Int) * (4 : Nat) + (2 : Nat)) default).toI = w.s2 := by rw [encW_get hk 2 (by decide)]; rfl
  have w3 : ((encW ws).getD (Int.toNat (k : Int) * (4 : Nat) + (3 : Nat)) default).toI = w.d := by rw [encW_get hk 3 (by decide)]; rfl
  have e8 : ∀ (a b c d e f : Int), decide ((((encN out ++ [DV.i a, .i b, .i c, .i d, .i e, .i f]).length / 6 : Nat) : Int) ≤ 1436096819952) = true := fun a b c d e f => by
    rw [List.length_append, encN_len]; simp; omega
  have wk : IntKind.wrap .i64 ((k : Int) + 1) = ((k + 1 : Nat) : Int) := by rw [wrap_i64_of (by omega) (by omega)]; omega
  have G := g27_eq hu w
  cases ha : u.alloc1 w with
  | none =>
    rw [ha] at G
    unfold oneOut at G
    simp only at G
    refine ⟨?_, fun _ => ⟨?_, ?_⟩, fun u' n h => by cases h⟩
    · unfold W101200
      simp only [dget, List.getD_cons_zero, List.getD_cons_succ, toI_i, toB_b, toL_l, el, c1, c2, w0, w1, w2, w3, G, e8, ow_true]
      rfl
    · unfold C101200
      simp only [dget, List.getD_cons_zero, List.getD_cons_succ, toI_i, toB_b, toL_l, el, c1, c2, w0, w1, w2, w3, G]
      rfl
    · unfold T101200
      simp only [dget, List.getD_cons_zero, List.getD_cons_succ, toI_i, toB_b, toL_l, el, c1, c2, w0, w1, w2, w3, G, cond_true]
  | some r =>
    obtain ⟨u', n⟩ := r
    rw [ha] at G
    unfold oneOut at G
    simp only at G
    refine ⟨?_, fun h => (by cases h), fun u'' n' h => ?_⟩
    · unfold W101200
      simp only [dget, List.getD_cons_zero, List.getD_cons_succ, toI_i, toB_b, toL_l, el, c1, c2, w0, w1, w2, w3, G, e8, ow_true]
      rfl
    · obtain ⟨rfl, rfl⟩ := Prod.mk.inj (Option.some.inj h)
      refine ⟨?_, ?_⟩
      · unfold C101200
        simp only [dget, List.getD_cons_zero, List.getD_cons_succ, toI_i, toB_b, toL_l, el, c1, c2, w0, w1, w2, w3, G]
        rfl
      · unfold N101200
        simp only [dget, List.getD_cons_zero, List.getD_cons_succ, toI_i, toB_b, toL_l, el, c1, c2, w0, w1, w2, w3, G, wk]
        unfold AR
        rw [← encN_append]
        rfl
theorem rAloop (hb : ws.length < 9223372036854775808) : ∀ (n k : Nat) (out : List Na) (u : U), ws.length - k = n → u.WF → out.length ≤ u.ma →
    ∃ c k' : Int, loopG W101200 C101200 N101200 T101200 (AR ws x0 out k u) = some [.i c, .l (encN (out ++ (u.alloc (ws.drop k)).2)), .i k', .l x0, .l x0, .l x0, .l (encI (u.alloc (ws.drop k)).1.na), .l (encI (u.alloc (ws.drop k)).1.fr), .l (encR (u.alloc (ws.drop k)).1.refL), .i (u.alloc (ws.drop k)).1.nx, .l x0]
  | 0, k, out, u, hn, hu, ho => by
    obtain ⟨h1, h2, h3⟩ := rAend (ws := ws) (x0 := x0) (out := out) (k := k) (u := u) (by omega)
    rw [loopG_last h1 h2, h3, List.drop_eq_nil_of_le (by omega)]
    refine ⟨1, k, ?_⟩
    simp only [U.alloc, List.append_nil]
  | n + 1, k, out, u, hn, hu, ho => by
    obtain ⟨w, hk⟩ : ∃ w, ws[k]? = some w := ⟨ws[k]'(by omega), List.getElem?_eq_getElem _⟩
    have hm := hu.ma
    obtain ⟨h1, h2, h3⟩ := rA (x0 := x0) hk hu (by omega : out.length ≤ 100) hb
    have hd : ws.drop k = w :: ws.drop (k + 1) := by
      rw [List.drop_eq_getElem_cons (by omega)]
      congr 1
      exact (List.getElem?_eq_some_iff.1 hk).2
    rw [hd]
    unfold U.alloc
    cases ha : u.alloc1 w with
    | none =>
      obtain ⟨h4, h5⟩ := h2 ha
      rw [loopG_last h1 h4, h5]
      refine ⟨0, k, ?_⟩
      simp only [List.append_nil]
    | some r =>
      obtain ⟨h4, h5⟩ := h3 r.1 r.2 ha
      obtain ⟨g1, g2, g3, g4⟩ := hu.alloc1 (u' := r.1) (n := r.2) ha
      rw [loopG_next h1 h4, h5]
      obtain ⟨c, k', ih⟩ := rAloop hb n (k + 1) (out ++ [r.2]) r.1 (by omega) g1 (by simp; omega)
      refine ⟨c, k', ?_⟩
      rw [ih]
      simp only [List.append_assoc, List.singleton_append]
end
theorem g12_eq {u : U} {ws : List Wa} (hb : ws.length < 9223372036854775808) (hu : u.WF) : g12 [.l (encI u.na), .l (encI u.fr), .l (encR u.refL), .i u.nx, .l (encW ws)] =
    [.b true, .i (u.alloc ws).1.nx, .l (encN (u.alloc ws).2), .l (encI (u.alloc ws).1.na), .l (encI (u.alloc ws).1.fr), .l (encR (u.alloc ws).1.refL)] := by
  obtain ⟨c, k', hL⟩ := rAloop (x0 := encI u.na) hb ws.length 0 [] u (by omega) hu (by simp)
  have hG : g101200 [.l (encW ws), .l (encI u.na), .l [], .i 0, .l (encI u.na), .l (encI u.na), .l (encI u.na), .l (encI u.na), .l (encI u.fr), .l (encR u.refL), .i u.nx, .l (encI u.na)] =
      [.b true, .i c, .l (encN (u.alloc ws).2), .i k', .l (encI u.na), .l (encI u.na), .l (encI u.na), .l (encI (u.alloc ws).1.na), .l (encI (u.alloc ws).1.fr), .l (encR (u.alloc ws).1.refL), .i (u.alloc ws).1.nx, .l (encI u.na)] := by
    have e : ∀ (o : Option (List DV)) (a b c d f g h i j l m : DV), o = some [.i a.toI, .l b.toL, .i c.toI, .l d.toL, .l f.toL, .l g.toL, .l h.toL, .l i.toL, .l j.toL, .i l.toI, .l m.toL] →
        wrapG [.i, .l, .i, .l, .l, .l, .l, .l, .l, .i, .l] o = [.b true, .i a.toI, .l b.toL, .i c.toI, .l d.toL, .l f.toL, .l g.toL, .l h.toL, .l i.toL, .l j.toL, .i l.toI, .l m.toL] := fun o a b c d f g h i j l m ho => by rw [ho]; rfl
    exact e _ (.i c) (.l (encN (u.alloc ws).2)) (.i k') (.l (encI u.na)) (.l (encI u.na)) (.l (encI u.na)) (.l (encI (u.alloc ws).1.na)) (.l (encI (u.alloc ws).1.fr)) (.l (encR (u.alloc ws).1.refL)) (.i (u.alloc ws).1.nx) (.l (encI u.na)) hL
  show [DV.b (p12 (encI u.na) (encI u.fr) (encR u.refL) u.nx (encW ws)), .i (r12_0 (encI u.na) (encI u.fr) (encR u.refL) u.nx (encW ws)), .l (r12_1 (encI u.na) (encI u.fr) (encR u.refL) u.nx (encW ws)), .l (r12_2 (encI u.na) (encI u.fr) (encR u.refL) u.nx (encW ws)), .l (r12_3 (encI u.na) (encI u.fr) (encR u.refL) u.nx (encW ws)), .l (r12_4 (encI u.na) (encI u.fr) (encR u.refL) u.nx (encW ws))] = _
  unfold p12 r12_0 r12_1 r12_2 r12_3 r12_4
  simp only [hG]
  rfl

theorem g15_eq {u : U} (hu : u.WF) (r : Int) : g15 [.l (encI u.na), .l (encI u.fr), .l (encR u.refL), .i u.nx, .i r] =
    [.b true, .b (u.finish r).2, .l (encI (u.finish r).1.na), .l (encI (u.finish r).1.fr), .l (encR (u.finish r).1.refL), .i (u.finish r).1.nx] := by
  obtain ⟨f1, f2⟩ := find_eq hu r
  show [DV.b (p15 (encR u.refL) r), .b (r15_0 (encR u.refL) r), .l (encI u.na), .l (encI u.fr), .l (r15_3 (encR u.refL) r), .i u.nx] = _
  unfold p15 r15_0 r15_3
  simp only [f1, f2]
  by_cases hn : u.number r < 0
  · have e : decide (u.number r < 0) = true := by simpa using hn
    unfold U.finish
    simp only [e, Bool.true_or, cond_true, Bool.not_true, cond_false]
    simp [ow]
  · have e : decide (u.number r < 0) = false := by simpa using hn
    obtain ⟨h0, h1, h2⟩ := number_range hn
    obtain ⟨k, hk⟩ : ∃ k : Nat, u.number r = k := ⟨(u.number r).toNat, by omega⟩
    have hkm : k < u.ma := by rw [hk] at h2; omega
    have hr : r = (((u.fi + k) % 16 : Nat) : Int) := ((place_ne hu hkm).2 hk).symm
    have el : ((encR u.refL).length / 5 : Nat) = u.ma := by rw [encR_len, refL_len]; omega
    have hg := encR_get (refL_get hkm) 4 (by decide)
    have hf : ((refEn ((u.fi + k) % 16) (u.at ((u.fi + k) % 16))).dv.getD 4 default).toB = (u.at ((u.fi + k) % 16)).f := refEn_f _ _
    rw [hk] at e
    rw [hk, hg, hf, el]
    have e1 : decide ((k : Int) ≥ 0) = true := by simp
    have e2 : decide ((k : Int) < (u.ma : Int)) = true := by simp; omega
    have hd := encR_done u.refL k _ (refL_get hkm)
    have hd' : (encR u.refL).set (Int.toNat (k : Int) * (5 : Nat) + (4 : Nat)) (.b true) = encR (u.refL.set k { refEn ((u.fi + k) % 16) (u.at ((u.fi + k) % 16)) with f := true }) := hd
    simp only [e, e1, e2, hd', ow_true, Bool.false_or]
    cases hff : (u.at ((u.fi + k) % 16)).f with
    | true =>
      have hfin : u.finish r = (u, false) := by
        unfold U.finish
        rw [hr, Int.toNat_natCast, hff, Bool.or_true]; rfl
      rw [hfin]
      rfl
    | false =>
      have hfin := finish_at hu hkm hff
      rw [hr, hfin]
      have hl := refL_finish hu hkm
      simp only [hl]
      rfl
end Go.Proofs.Ytkpbkanbpjfadaa

namespace Go.Proofs.Ytkpbkanbpjfadaa
open Go Go.Sx

structure U.Gd (u : U) : Prop where
  w2 : u.W2
  ge : ∀ e ∈ u.under, e.Good
theorem U.Ok.gd {u : U} (h : u.Ok) : u.Gd := ⟨h.wf.w2, h.ge⟩
theorem U.Gd.commit1 {u : U} (h : u.Gd) (hr : u.ready = true) : u.commit1.Gd := by
  have hm : 0 < u.ma := by
    simp only [U.ready, Bool.and_eq_true, decide_eq_true_eq] at hr
    exact hr.1
  refine ⟨h.w2.commit1 hr, fun e he => h.ge e ?_⟩
  rw [under_commit1 h.w2 hm]
  exact List.mem_cons_of_mem _ he
theorem U.Gd.squash1 {u : U} (h : u.Gd) (hm : 0 < u.ma) : u.squash1.Gd := by
  refine ⟨h.w2.squash1 hm, fun e he => h.ge e ?_⟩
  rw [under_squash1 hm]
  exact List.mem_append_left _ he
theorem refEn_good {e : En} (h : e.Good) (p : Nat) : igt (refEn p e).d 0 = decide (e.o ≥ 0) ∧ igt (refEn p e).d 0 = decide (e.d ≥ 0) ∧ (0 ≤ e.d → (refEn p e).d = e.d ∧ (refEn p e).n = e.n ∧ (refEn p e).o = e.o) := by
  unfold refEn igt
  rcases h with ⟨h1, h2, h3⟩ | ⟨h1, h2, h3, h4⟩
  · have : decide (e.d < 0) = true := by simp; omega
    simp only [this, cond_true]
    refine ⟨?_, ?_, fun h => by omega⟩
    · rw [h3]; decide
    · rw [h1]; decide
  · have : decide (e.d < 0) = false := by simp; omega
    simp only [this, cond_false]
    refine ⟨?_, ?_, fun _ => by simp⟩
    · rw [Bool.eq_iff_iff]; simp; omega
    · rw [Bool.eq_iff_iff]; simp; omega
theorem encR_get0 {l : List Re} {e : Re} (h : l[0]? = some e) (j : Nat) (hj : j < 5) : (encR l).getD (Int.toNat 0 * (5 : Nat) + j) default = e.dv.getD j default := encR_get (k := 0) h j hj

abbrev CR (most : Int) (x0 : List DV) (out : List Int) (u : U) : List DV :=
  [.i most, .l x0, .l (encI out), .l x0, .l x0, .l (encI u.fr), .l (encR u.refL), .l x0]
section
variable {most : Int} {x0 : List DV} {out : List Int} {u : U}
theorem refL_head (hu : u.W2) (hm : 0 < u.ma) : u.refL[0]? = some (refEn u.fi (u.at u.fi)) := by
  rw [refL_commit1 hu hm]; rfl
theorem good_head (h : u.Gd) (hm : 0 < u.ma) : (u.at u.fi).Good := h.ge _ (by rw [under_commit1 h.w2 hm]; simp)
theorem dC (h : u.Gd) : C101700 (CR most x0 out u) = (decide ((out.length : Int) < most) && u.ready) := by
  show c101700 most x0 (encI out) x0 x0 (encI u.fr) (encR u.refL) x0 = _
  unfold c101700
  have el : ((encR u.refL).length / 5 : Nat) = u.ma := by rw [encR_len, refL_len]; omega
  have e : decide ((u.ma : Int) > 0) = decide (u.ma > 0) := by rw [Bool.eq_iff_iff]; simp
  simp only [encI_len, Nat.div_one, el, e]
  unfold U.ready
  rcases Nat.eq_zero_or_pos u.ma with hm | hm
  · have : decide (u.ma > 0) = false := by simp; omega
    rw [this]; simp
  · rw [encR_get0 (refL_head h.w2 hm) 4 (by decide)]
    have hf : ((refEn u.fi (u.at u.fi)).dv.getD 4 default).toB = (u.at u.fi).f := refEn_f _ _
    rw [hf, Bool.and_assoc]
theorem dW (h : u.Gd) (ho : out.length ≤ 16) : W101700 (CR most x0 out u) = true := by
  show w101700 most x0 (encI out) x0 x0 (encI u.fr) (encR u.refL) x0 = _
  unfold w101700
  have el : ((encR u.refL).length / 5 : Nat) = u.ma := by rw [encR_len, refL_len]; omega
  have h2 := h.w2.fr
  have hma := h.w2.ma
  have e3 : decide ((((([] : List DV) ++ encI u.fr).length / 1 : Nat) : Int) ≤ 7818749353073) = true := by simp [encI_len]; omega
  have e4 : ∀ x : Int, decide ((((([] : List DV) ++ encI u.fr ++ [DV.i x]).length / 1 : Nat) : Int) ≤ 7818749353073) = true := fun x => by simp [encI_len]; omega
  have e5 : ∀ x : Int, decide ((((encI out ++ [DV.i x]).length / 1 : Nat) : Int) ≤ 7818749353073) = true := fun x => by simp [encI_len]; omega
  have e6 : decide ((((([] : List DV) ++ (encR u.refL).drop (Int.toNat 1 * 5)).length / 5 : Nat) : Int) ≤ 1716310833601) = true := by simp [encR_len, refL_len]; omega
  have e9 : ∀ l, ow l true = true := fun y => by simp [ow]
  have e7 : decide ((u.ma : Int) > 0) = decide ((0 : Int) < (u.ma : Int)) := rfl
  have e8 : decide ((1 : Int) ≤ (u.ma : Int)) = decide ((0 : Int) < (u.ma : Int)) := by rw [Bool.eq_iff_iff]; simp; omega
  simp only [el, e3, e4, e5, e6, e7, e8, e9]
  have e10 : ∀ a b c : Bool, ow [(a && b, true)] b = true := fun a b c => by cases a <;> cases b <;> rfl
  have e11 : ∀ a b c : Bool, ow [(a && b && c, true)] b = true := fun a b c => by cases a <;> cases b <;> cases c <;> rfl
  rw [e10 _ _ true, e11]
  rfl
theorem dN (h : u.Gd) (hr : u.ready = true) : N101700 (CR most x0 out u) = CR most x0 (out ++ [(u.fi : Int)]) u.commit1 := by
  have hm : 0 < u.ma := by
    simp only [U.ready, Bool.and_eq_true, decide_eq_true_eq] at hr
    exact hr.1
  have hh := refL_head h.w2 hm
  obtain ⟨g1, g2, g3⟩ := refEn_good (good_head h hm) u.fi
  have q0 : n101700_0 most x0 (encI out) x0 x0 (encI u.fr) (encR u.refL) x0 = encI (out ++ [(u.fi : Int)]) := by
    unfold n101700_0
    rw [encR_get0 hh 0 (by decide), ← encI_append]
    have : ((refEn u.fi (u.at u.fi)).dv.getD 0 default).toI = (u.fi : Int) := refEn_p _ _
    simp only [this]
    rfl
  have q3 : n101700_3 most x0 (encI out) x0 x0 (encI u.fr) (encR u.refL) x0 = encI u.commit1.fr := by
    unfold n101700_3
    rw [encR_get0 hh 1 (by decide), encR_get0 hh 3 (by decide)]
    have e1 : igt ((refEn u.fi (u.at u.fi)).dv.getD 1 default).toI 0 = decide ((u.at u.fi).o ≥ 0) := g1
    have e3 : ((refEn u.fi (u.at u.fi)).dv.getD 3 default).toI = (refEn u.fi (u.at u.fi)).o := rfl
    simp only [e1, e3]
    unfold U.commit1
    cases hd : decide ((u.at u.fi).o ≥ 0) with
    | false => simp only [cond_false]
    | true =>
      simp only [cond_true]
      have hdd : 0 ≤ (u.at u.fi).d := by rw [← g1, g2] at hd; simpa using hd
      rw [(g3 hdd).2.2, ← encI_append]
      rfl
  have q4 : n101700_4 most x0 (encI out) x0 x0 (encI u.fr) (encR u.refL) x0 = encR u.commit1.refL := by
    unfold n101700_4
    show (encR u.refL).drop (1 * 5) = _
    rw [encR_drop, refL_commit1 h.w2 hm]
    rfl
  show [DV.i most, .l x0, .l (n101700_0 most x0 (encI out) x0 x0 (encI u.fr) (encR u.refL) x0), .l x0, .l x0, .l (n101700_3 most x0 (encI out) x0 x0 (encI u.fr) (encR u.refL) x0), .l (n101700_4 most x0 (encI out) x0 x0 (encI u.fr) (encR u.refL) x0), .l x0] = _
  rw [q0, q3, q4]
theorem dLoop : ∀ (n : Nat) (out : List Int) (u : U), (most - out.length).toNat = n → u.Gd → out.length + u.ma ≤ 16 →
    loopG W101700 C101700 N101700 T101700 (CR most x0 out u) = some [.i 0, .l (encI (out ++ (u.commit n).2)), .l x0, .l x0, .l (encI (u.commit n).1.fr), .l (encR (u.commit n).1.refL), .l x0]
  | 0, out, u, hn, hu, ho => by
    have : decide ((out.length : Int) < most) = false := by simp; omega
    rw [loopG_last (dW hu (by omega)) (by rw [dC hu, this]; rfl)]
    simp only [U.commit, List.append_nil]
    rfl
  | n + 1, out, u, hn, hu, ho => by
    have hlt : decide ((out.length : Int) < most) = true := by simp; omega
    cases hr : u.ready with
    | false =>
      rw [loopG_last (dW hu (by omega)) (by rw [dC hu, hr, Bool.and_false]), commit_zero hr]
      simp only [List.append_nil]
      rfl
    | true =>
      have hma : u.ma > 0 := by
        simp only [U.ready, Bool.and_eq_true, decide_eq_true_eq] at hr
        exact hr.1
      rw [loopG_next (dW hu (by omega)) (by rw [dC hu, hr, hlt]; rfl), dN hu hr]
      have e : u.commit1.ma = u.ma - 1 := rfl
      rw [dLoop n _ u.commit1 (by simp; omega) (hu.commit1 hr) (by simp [e]; omega)]
      simp only [U.commit, hr, cond_true, List.append_assoc, List.singleton_append]
end
theorem commit_nx : ∀ (n : Nat) (u : U), (u.commit n).1.nx = u.nx
  | 0, u => rfl
  | n + 1, u => by
    simp only [U.commit]
    cases hr : u.ready with
    | false => rfl
    | true =>
      have hm : 0 < u.ma := by
        simp only [U.ready, Bool.and_eq_true, decide_eq_true_eq] at hr
        exact hr.1
      show (u.commit1.commit n).1.nx = u.nx
      rw [commit_nx n u.commit1]
      show ((u.fi + 1) % 16 + (u.ma - 1)) % 16 = (u.fi + u.ma) % 16
      omega
theorem g17_eq {u : U} (h : u.Ok) (most : Int) : g17 [.l (encI u.na), .l (encI u.fr), .l (encR u.refL), .i u.nx, .i most] =
    [.b true, .l (encI (u.commit most.toNat).1.na), .i (u.commit most.toNat).1.nx, .l (encI (u.commit most.toNat).2), .l (encI (u.commit most.toNat).1.fr), .l (encR (u.commit most.toNat).1.refL)] := by
  have hL := dLoop (most := most) (x0 := encI u.na) most.toNat [] u (by simp) h.gd (by have := h.wf.ma; simp; omega)
  have hG : g101700 [.i most, .l (encI u.na), .l [], .l (encI u.na), .l (encI u.na), .l (encI u.fr), .l (encR u.refL), .l (encI u.na)] =
      [.b true, .i 0, .l (encI (u.commit most.toNat).2), .l (encI u.na), .l (encI u.na), .l (encI (u.commit most.toNat).1.fr), .l (encR (u.commit most.toNat).1.refL), .l (encI u.na)] := by
    have e : ∀ (o : Option (List DV)) (a b c d f g h : DV), o = some [.i a.toI, .l b.toL, .l c.toL, .l d.toL, .l f.toL, .l g.toL, .l h.toL] →
        [DV.b o.isSome, .i (dget (o.getD []) 0).toI, .l (dget (o.getD []) 1).toL, .l (dget (o.getD []) 2).toL, .l (dget (o.getD []) 3).toL, .l (dget (o.getD []) 4).toL, .l (dget (o.getD []) 5).toL, .l (dget (o.getD []) 6).toL] = [.b true, .i a.toI, .l b.toL, .l c.toL, .l d.toL, .l f.toL, .l g.toL, .l h.toL] := fun o a b c d f g h ho => by rw [ho]; rfl
    exact e _ (.i 0) (.l (encI (u.commit most.toNat).2)) (.l (encI u.na)) (.l (encI u.na)) (.l (encI (u.commit most.toNat).1.fr)) (.l (encR (u.commit most.toNat).1.refL)) (.l (encI u.na)) hL
  show [DV.b (p17 (encI u.na) (encI u.fr) (encR u.refL) most), .l (encI u.na), .i u.nx, .l (r17_2 (encI u.na) (encI u.fr) (encR u.refL) most), .l (r17_3 (encI u.na) (encI u.fr) (encR u.refL) most), .l (r17_4 (encI u.na) (encI u.fr) (encR u.refL) most)] = _
  unfold p17 r17_2 r17_3 r17_4
  simp only [hG]
  rw [commit_nx, (commit_rob _ u).2]
  rfl

abbrev SR (n : Int) (x0 : List DV) (i : Nat) (u : U) : List DV :=
  [.i n, .l x0, .i i, .l (encI u.na), .l x0, .l x0, .l (encI u.fr), .l (encR u.refL), .i u.nx]
section
variable {n : Int} {x0 : List DV} {i : Nat} {u : U}
theorem refL_last {u : U} (hm : 0 < u.ma) : u.refL[u.ma - 1]? = some (refEn ((u.fi + (u.ma - 1)) % 16) u.last) := refL_get (i := u.ma - 1) (by omega)
theorem good_last (h : u.Gd) (hm : 0 < u.ma) : u.last.Good := h.ge _ (by rw [under_squash1 hm]; simp)
theorem eC (hn : -1 ≤ n) (hn2 : n < 1000) : C102000 (SR n x0 i u) = decide (n + 1 < (u.ma : Int)) := by
  show c102000 n x0 i (encI u.na) x0 x0 (encI u.fr) (encR u.refL) u.nx = _
  unfold c102000
  have el : ((encR u.refL).length / 5 : Nat) = u.ma := by rw [encR_len, refL_len]; omega
  simp only [el]
  rw [wrap_i64_of (by omega) (by omega)]
theorem eWend (hn : -1 ≤ n) (hn2 : n < 1000) (h : ¬ n + 1 < (u.ma : Int)) : W102000 (SR n x0 i u) = true := by
  show w102000 n x0 i (encI u.na) x0 x0 (encI u.fr) (encR u.refL) u.nx = true
  unfold w102000
  have el : ((encR u.refL).length / 5 : Nat) = u.ma := by rw [encR_len, refL_len]; omega
  simp only [el]
  rw [wrap_i64_of (n := n + 1) (by omega) (by omega)]
  have : decide ((u.ma : Int) > n + 1) = false := by simp; omega
  simp only [this]
  simp [ow]
theorem wlast (h : u.Gd) (hm : 0 < u.ma) : IntKind.wrap .i64 ((u.ma : Int) - 1) = ((u.ma - 1 : Nat) : Int) := by
  have := h.w2.ma
  rw [wrap_i64_of (by omega) (by omega)]; omega
theorem eW (h : u.Gd) (hm : 0 < u.ma) : W102000 (SR n x0 i u) = true := by
  show w102000 n x0 i (encI u.na) x0 x0 (encI u.fr) (encR u.refL) u.nx = true
  unfold w102000
  have el : ((encR u.refL).length / 5 : Nat) = u.ma := by rw [encR_len, refL_len]; omega
  have hl := refL_last hm
  have hg := good_last h hm
  have hlt : u.last.d < 64 := h.w2.rd _ (List.mem_of_getElem? (h.w2.at (k := (u.fi + (u.ma - 1)) % 16) (Nat.mod_lt _ (by decide))))
  have hfr := h.w2.fr
  have hma := h.w2.ma
  obtain ⟨g1, g2, g3⟩ := refEn_good hg ((u.fi + (u.ma - 1)) % 16)
  have e9 : ∀ l, ow l true = true := fun y => by simp [ow]
  have e1 : decide (((u.ma - 1 : Nat) : Int) ≥ 0) = true := by simp
  have e2 : decide (((u.ma - 1 : Nat) : Int) < (u.ma : Int)) = true := by simp; omega
  have e3 : decide (((u.ma - 1 : Nat) : Int) ≤ (u.ma : Int)) = true := by rw [decide_eq_true_iff]; omega
  have e4 : decide ((((([] : List DV) ++ (encR u.refL).take (Int.toNat ((u.ma - 1 : Nat) : Int) * 5)).length / 5 : Nat) : Int) ≤ 1716310833601) = true := by
    rw [List.nil_append, List.length_take, encR_len, refL_len]; simp; omega
  have e5 : ∀ x : Int, decide (((([DV.i x] ++ encI u.fr).length : Nat) : Int) ≤ 7818749353073) = true := fun x => by simp [encI_len]; omega
  have hd1 : ((refEn ((u.fi + (u.ma - 1)) % 16) u.last).dv.getD 1 default).toI = (refEn ((u.fi + (u.ma - 1)) % 16) u.last).d := rfl
  simp only [el, wlast h hm, encR_get hl 1 (by decide), hd1, e1, e2, e3, e4, e5, e9, encI_len, Nat.div_one, h.w2.na]
  have e6 : ∀ a, ow [(a, true), (igt (refEn ((u.fi + (u.ma - 1)) % 16) u.last).d 0, true)] (ige (refEn ((u.fi + (u.ma - 1)) % 16) u.last).d 0) = true := fun a => by
    refine ow_cons fun _ => ow_cons fun h2 => ow_nil ?_
    simp [igt] at h2
    simp [ige]; omega
  have e7 : ∀ a, ow [(a, true), (igt (refEn ((u.fi + (u.ma - 1)) % 16) u.last).d 0, true)] (ilt (refEn ((u.fi + (u.ma - 1)) % 16) u.last).d ((64 : Nat) : Int)) = true := fun a => by
    refine ow_cons fun _ => ow_cons fun h2 => ow_nil ?_
    have h0 : 0 ≤ u.last.d := by rw [g2] at h2; simpa using h2
    rw [(g3 h0).1]
    simp [ilt]; omega
  rw [e6, e7]
  rfl
theorem eN (h : u.Gd) (hm : 0 < u.ma) (hi : i < 1000) : N102000 (SR n x0 i u) = SR n x0 (i + 1) u.squash1 := by
  have el : ((encR u.refL).length / 5 : Nat) = u.ma := by rw [encR_len, refL_len]; omega
  have hl := refL_last hm
  have hg := good_last h hm
  obtain ⟨g1, g2, g3⟩ := refEn_good hg ((u.fi + (u.ma - 1)) % 16)
  have q0 : n102000_0 n x0 i (encI u.na) x0 x0 (encI u.fr) (encR u.refL) u.nx = ((i + 1 : Nat) : Int) := by
    show IntKind.wrap .i64 ((i : Int) + 1) = _
    rw [wrap_i64_of (by omega) (by omega)]; omega
  have q1 : n102000_1 n x0 i (encI u.na) x0 x0 (encI u.fr) (encR u.refL) u.nx = encI u.squash1.na := by
    unfold n102000_1
    have hd1 : ((refEn ((u.fi + (u.ma - 1)) % 16) u.last).dv.getD 1 default).toI = (refEn ((u.fi + (u.ma - 1)) % 16) u.last).d := rfl
    have hd3 : ((refEn ((u.fi + (u.ma - 1)) % 16) u.last).dv.getD 3 default).toI = (refEn ((u.fi + (u.ma - 1)) % 16) u.last).o := rfl
    simp only [el, wlast h hm, encR_get hl 1 (by decide), encR_get hl 3 (by decide), hd1, hd3, g2]
    rw [Nat.mul_one, Nat.add_zero]
    unfold U.squash1
    cases hd : decide (u.last.d ≥ 0) with
    | false => simp only [cond_false]
    | true =>
      simp only [cond_true]
      have h0 : 0 ≤ u.last.d := by simpa using hd
      rw [(g3 h0).1, (g3 h0).2.2, encI_set]
  have q4 : n102000_4 n x0 i (encI u.na) x0 x0 (encI u.fr) (encR u.refL) u.nx = encI u.squash1.fr := by
    unfold n102000_4
    have hd1 : ((refEn ((u.fi + (u.ma - 1)) % 16) u.last).dv.getD 1 default).toI = (refEn ((u.fi + (u.ma - 1)) % 16) u.last).d := rfl
    have hd2 : ((refEn ((u.fi + (u.ma - 1)) % 16) u.last).dv.getD 2 default).toI = (refEn ((u.fi + (u.ma - 1)) % 16) u.last).n := rfl
    simp only [el, wlast h hm, encR_get hl 1 (by decide), encR_get hl 2 (by decide), hd1, hd2, g2]
    unfold U.squash1
    cases hd : decide (u.last.d ≥ 0) with
    | false => simp only [cond_false]
    | true =>
      simp only [cond_true]
      have h0 : 0 ≤ u.last.d := by simpa using hd
      rw [(g3 h0).2.1]
      rfl
  have q5 : n102000_5 n x0 i (encI u.na) x0 x0 (encI u.fr) (encR u.refL) u.nx = encR u.squash1.refL := by
    unfold n102000_5
    simp only [el, wlast h hm, Int.toNat_natCast]
    show (encR u.refL).take ((u.ma - 1) * 5) = _
    rw [encR_take, refL_squash1 hm, List.take_left' (by rw [refL_len]; rfl)]
  have q6 : n102000_6 n x0 i (encI u.na) x0 x0 (encI u.fr) (encR u.refL) u.nx = (u.squash1.nx : Nat) := by
    unfold n102000_6
    simp only [el, wlast h hm, encR_get hl 0 (by decide)]
    exact refEn_p _ _
  show [DV.i n, .l x0, .i (n102000_0 n x0 i (encI u.na) x0 x0 (encI u.fr) (encR u.refL) u.nx), .l (n102000_1 n x0 i (encI u.na) x0 x0 (encI u.fr) (encR u.refL) u.nx), .l x0, .l x0, .l (n102000_4 n x0 i (encI u.na) x0 x0 (encI u.fr) (encR u.refL) u.nx), .l (n102000_5 n x0 i (encI u.na) x0 x0 (encI u.fr) (encR u.refL) u.nx), .i (n102000_6 n x0 i (encI u.na) x0 x0 (encI u.fr) (encR u.refL) u.nx)] = _
  rw [q0, q1, q4, q5, q6]
theorem eLoop (hn : -1 ≤ n) (hn2 : n < 1000) : ∀ (m i : Nat) (u : U), ((u.ma : Int) - 1 - n).toNat = m → u.Gd → i + u.ma ≤ 32 →
    loopG W102000 C102000 N102000 T102000 (SR n x0 i u) = some [.i 0, .i ((i + m : Nat) : Int), .l (encI (u.squashN m).na), .l x0, .l x0, .l (encI (u.squashN m).fr), .l (encR (u.squashN m).refL), .i (u.squashN m).nx]
  | 0, i, u, hm, hu, hi => by
    have h : ¬ n + 1 < (u.ma : Int) := by omega
    rw [loopG_last (eWend hn hn2 h) (by rw [eC hn hn2]; simpa using h)]
    rfl
  | m + 1, i, u, hm, hu, hi => by
    have h : n + 1 < (u.ma : Int) := by omega
    have h0 : 0 < u.ma := by omega
    rw [loopG_next (eW hu h0) (by rw [eC hn hn2]; simpa using h), eN hu h0 (by omega)]
    have e : u.squash1.ma = u.ma - 1 := rfl
    rw [eLoop hn hn2 m (i + 1) u.squash1 (by rw [e]; omega) (hu.squash1 h0) (by rw [e]; omega)]
    have e2 : ((i + 1 + m : Nat) : Int) = ((i + (m + 1) : Nat) : Int) := by congr 1; omega
    rw [e2]
    rfl
end
theorem g20_eq {u : U} (h : u.Ok) (r : Int) : g20 [.l (encI u.na), .l (encI u.fr), .l (encR u.refL), .i u.nx, .i r] =
    [.b true, .i (u.squash r).2, .l (encI (u.squash r).1.na), .i (u.squash r).1.nx, .l (encI (u.squash r).1.fr), .l (encR (u.squash r).1.refL)] := by
  obtain ⟨f1, f2⟩ := find_eq h.wf r
  have hge := number_ge u r
  have hlt := number_lt (u := u) r
  have hma := h.wf.ma
  have hL := eLoop (n := u.number r) (x0 := encI u.na) hge (by omega) ((u.ma : Int) - 1 - u.number r).toNat 0 u rfl h.gd (by omega)
  have eb : (((0 + ((u.ma : Int) - 1 - u.number r).toNat : Nat)) : Int) = (u.ma : Int) - 1 - u.number r := by omega
  rw [eb] at hL
  have hG : g102000 [.i (u.number r), .l (encI u.na), .i 0, .l (encI u.na), .l (encI u.na), .l (encI u.na), .l (encI u.fr), .l (encR u.refL), .i u.nx] =
      [.b true, .i 0, .i ((u.ma : Int) - 1 - u.number r), .l (encI (u.squashN ((u.ma : Int) - 1 - u.number r).toNat).na), .l (encI u.na), .l (encI u.na), .l (encI (u.squashN ((u.ma : Int) - 1 - u.number r).toNat).fr), .l (encR (u.squashN ((u.ma : Int) - 1 - u.number r).toNat).refL), .i (u.squashN ((u.ma : Int) - 1 - u.number r).toNat).nx] := by
    have e : ∀ (o : Option (List DV)) (a b c d f g h i : DV), o = some [.i a.toI, .i b.toI, .l c.toL, .l d.toL, .l f.toL, .l g.toL, .l h.toL, .i i.toI] →
        [DV.b o.isSome, .i (dget (o.getD []) 0).toI, .i (dget (o.getD []) 1).toI, .l (dget (o.getD []) 2).toL, .l (dget (o.getD []) 3).toL, .l (dget (o.getD []) 4).toL, .l (dget (o.getD []) 5).toL, .l (dget (o.getD []) 6).toL, .i (dget (o.getD []) 7).toI] = [.b true, .i a.toI, .i b.toI, .l c.toL, .l d.toL, .l f.toL, .l g.toL, .l h.toL, .i i.toI] := fun o a b c d f g h i ho => by rw [ho]; rfl
    exact e _ (.i 0) (.i ((u.ma : Int) - 1 - u.number r)) (.l (encI (u.squashN ((u.ma : Int) - 1 - u.number r).toNat).na)) (.l (encI u.na)) (.l (encI u.na)) (.l (encI (u.squashN ((u.ma : Int) - 1 - u.number r).toNat).fr)) (.l (encR (u.squashN ((u.ma : Int) - 1 - u.number r).toNat).refL)) (.i (u.squashN ((u.ma : Int) - 1 - u.number r).toNat).nx) hL
  show [DV.b (p20 (encI u.na) (encI u.fr) (encR u.refL) u.nx r), .i (r20_0 (encI u.na) (encI u.fr) (encR u.refL) u.nx r), .l (r20_1 (encI u.na) (encI u.fr) (encR u.refL) u.nx r), .i (r20_2 (encI u.na) (encI u.fr) (encR u.refL) u.nx r), .l (r20_3 (encI u.na) (encI u.fr) (encR u.refL) u.nx r), .l (r20_4 (encI u.na) (encI u.fr) (encR u.refL) u.nx r)] = _
  unfold p20 r20_0 r20_1 r20_2 r20_3 r20_4 U.squash
  simp only [f1, f2, hG]
  cases hc : (decide (u.number r < 0) && (r != -1)) with
  | true => simp [ow]
  | false => rfl
end Go.Proofs.Ytkpbkanbpjfadaa

namespace Go.Proofs.Ytkpbkanbpjfadaa
open Go Go.Sx

def Chain : List Int → List En → Prop
  | _, [] => True
  | na, e :: l => (0 ≤ e.d → na.getD e.d.toNat 0 = e.n ∧ Chain (na.set e.d.toNat e.o) l) ∧ (e.d < 0 → Chain na l)
theorem Chain.init : ∀ {l : List En} {na : List Int} {m : List En}, Chain na (l ++ m) → Chain na l
  | [], _, _, _ => trivial
  | e :: l, na, m, h => ⟨fun h0 => ⟨(h.1 h0).1, Chain.init (h.1 h0).2⟩, fun h0 => Chain.init (h.2 h0)⟩
theorem Chain.congr : ∀ {l m : List En} {na : List Int}, l.map (fun e => (e.d, e.n, e.o)) = m.map (fun e => (e.d, e.n, e.o)) → Chain na l → Chain na m
  | [], [], _, _, h => h
  | [], _ :: _, _, h, _ => by simp at h
  | _ :: _, [], _, h, _ => by simp at h
  | e :: l, e' :: m, na, h, hc => by
    simp only [List.map_cons, List.cons.injEq, Prod.mk.injEq] at h
    obtain ⟨⟨h1, h2, h3⟩, h4⟩ := h
    refine ⟨fun h0 => ?_, fun h0 => Chain.congr h4 (hc.2 (by rw [h1]; exact h0))⟩
    obtain ⟨k1, k2⟩ := hc.1 (by rw [h1]; exact h0)
    rw [h1, h2] at k1
    rw [h1, h3] at k2
    exact ⟨k1, Chain.congr h4 k2⟩
structure U.Ok2 (u : U) : Prop where
  ok : u.Ok
  ch : Chain u.na u.under.reverse
theorem u0_ok2 : u0.Ok2 := ⟨u0_ok, trivial⟩
theorem set_back (l : List Int) (k : Nat) (x : Int) (h : k < l.length) : (l.set k x).set k (l.getD k 0) = l := by
  rw [List.set_set]
  apply List.ext_getElem?
  intro i
  rw [List.getElem?_set]
  by_cases hi : k = i
  · subst hi
    rw [if_pos rfl, if_pos h, List.getD_eq_getElem?_getD, List.getElem?_eq_getElem h]
    rfl
  · rw [if_neg hi]
theorem U.Ok2.alloc1 {u u' : U} {w : Wa} {n : Na} (h : u.Ok2) (ha : u.alloc1 w = some (u', n)) : u'.Ok2 := by
  refine ⟨h.ok.alloc1 ha, ?_⟩
  have hun := under_alloc1 h.ok.wf ha
  obtain ⟨hwf, _, _, hm⟩ := h.ok.wf.alloc1 ha
  have hs : stops u w = false := by
    cases hh : stops u w with
    | false => rfl
    | true => rw [alloc1_stops hh] at ha; cases ha
  rw [alloc1_goes hs] at ha
  simp only [Option.some.injEq, Prod.mk.injEq] at ha
  obtain ⟨e1, _⟩ := ha
  rw [hun, List.reverse_append]
  have e2 : u'.na = bif w.wr then u.na.set w.d.toNat (u.fr.getD 0 0) else u.na := by rw [← e1]
  rw [e2]
  show Chain _ (_ :: u.under.reverse)
  cases hw : w.wr with
  | false => exact ⟨fun h0 => absurd (show (0 : Int) ≤ -1 from h0) (by decide), fun _ => h.ch⟩
  | true =>
    obtain ⟨d0, d1, _⟩ := h.ok.wr hm hw
    have hlt : w.d.toNat < u.na.length := by rw [h.ok.wf.na]; omega
    refine ⟨fun h0 => ⟨?_, ?_⟩, fun h0 => ?_⟩
    · show (u.na.set w.d.toNat (u.fr.getD 0 0)).getD w.d.toNat 0 = u.fr.getD 0 0
      rw [List.getD_eq_getElem?_getD, List.getElem?_set, if_pos rfl, if_pos hlt]
      rfl
    · show Chain ((u.na.set w.d.toNat (u.fr.getD 0 0)).set w.d.toNat (u.na.getD w.d.toNat 0)) u.under.reverse
      rw [set_back _ _ _ hlt]
      exact h.ch
    · have h0 : w.d < 0 := h0
      omega
theorem U.Ok2.alloc {u : U} (h : u.Ok2) : ∀ ws : List Wa, (u.alloc ws).1.Ok2
  | [] => h
  | w :: ws => by
    unfold U.alloc
    cases ha : u.alloc1 w with
    | none => exact h
    | some r => exact U.Ok2.alloc (h.alloc1 (u' := r.1) (n := r.2) ha) ws
theorem U.Ok2.finish {u : U} (h : u.Ok2) (r : Int) : (u.finish r).1.Ok2 := by
  refine ⟨h.ok.finish r, ?_⟩
  by_cases hc : (decide (u.number r < 0) || (u.at r.toNat).f) = true
  · have : u.finish r = (u, false) := by unfold U.finish; rw [hc]; rfl
    rw [this]; exact h.ch
  · have hc : (decide (u.number r < 0) || (u.at r.toNat).f) = false := by simpa using hc
    simp only [Bool.or_eq_false_iff, decide_eq_false_iff_not] at hc
    obtain ⟨h0, h1, h2⟩ := number_range hc.1
    have hfi := h.ok.wf.fi
    have hma := h.ok.wf.ma
    obtain ⟨k, hk⟩ : ∃ k : Nat, u.number r = k := ⟨(u.number r).toNat, by omega⟩
    have hr : r = (((u.fi + k) % 16 : Nat) : Int) := by
      unfold U.number at hk
      rw [if_pos ⟨h0, h1⟩] at hk
      split at hk <;> omega
    subst hr
    have hkm : k < u.ma := by rw [hk] at h2; omega
    have hf : (u.at ((u.fi + k) % 16)).f = false := hc.2
    rw [finish_at h.ok.wf hkm hf]
    show Chain u.na (U.under _).reverse
    rw [under_finish h.ok.wf hkm]
    refine Chain.congr ?_ h.ch
    rw [List.map_reverse, List.map_reverse]
    congr 1
    apply List.ext_getElem?
    intro i
    rw [List.getElem?_map, List.getElem?_map, List.getElem?_set]
    by_cases hi : k = i
    · subst hi
      rw [if_pos rfl, if_pos (by rw [under_len]; exact hkm), under_get hkm]
      rfl
    · rw [if_neg hi]
theorem U.Ok2.commit1 {u : U} (h : u.Ok2) (hm : 0 < u.ma) : u.commit1.Ok2 := by
  refine ⟨h.ok.commit1 hm, ?_⟩
  have := h.ch
  rw [under_commit1 h.ok.wf.w2 hm, List.reverse_cons] at this
  exact this.init
theorem U.Ok2.commit {u : U} (h : u.Ok2) : ∀ n : Nat, (u.commit n).1.Ok2
  | 0 => h
  | n + 1 => by
    simp only [U.commit]
    cases hr : u.ready with
    | false => exact h
    | true =>
      have hm : 0 < u.ma := by
        simp only [U.ready, Bool.and_eq_true, decide_eq_true_eq] at hr
        exact hr.1
      exact U.Ok2.commit (h.commit1 hm) n
theorem U.Ok2.squash1 {u : U} (h : u.Ok2) (hm : 0 < u.ma) : u.squash1.Ok2 := by
  have hun := under_squash1 hm
  have hch := h.ch
  rw [hun, List.reverse_append] at hch
  have hch : Chain u.na (u.last :: u.squash1.under.reverse) := hch
  have hg := h.ok.ge u.last (by rw [hun]; simp)
  have hge : ∀ e ∈ u.squash1.under, e.Good := fun e he => h.ok.ge e (by rw [hun]; exact List.mem_append_left _ he)
  have hw2 := h.ok.wf.w2.squash1 hm
  have hma := h.ok.wf.ma
  have hpm : (u.squash1.na ++ u.squash1.fr ++ olds u.squash1.under).Perm all96 := by
    refine List.Perm.trans ?_ h.ok.pm
    rw [hun, olds_append]
    show ((bif decide (u.last.d ≥ 0) then u.na.set u.last.d.toNat u.last.o else u.na : List Int) ++ (bif decide (u.last.d ≥ 0) then u.last.n :: u.fr else u.fr : List Int) ++ _).Perm _
    rcases hg with ⟨h1, h2, h3⟩ | ⟨h1, h2, h3, h4⟩
    · have e : decide (u.last.d ≥ 0) = false := by rw [h1]; decide
      have eo : olds [u.last] = [] := by
        rw [olds_cons, h3]; rfl
      rw [e, eo, List.append_nil]
      exact List.Perm.refl _
    · have e : decide (u.last.d ≥ 0) = true := by simp; omega
      have eo : olds [u.last] = [u.last.o] := by
        rw [olds_cons]
        have : decide (u.last.o ≥ 0) = true := by simpa using h4
        rw [this]; rfl
      rw [e, eo]
      simp only [cond_true]
      have hlt : u.last.d.toNat < u.na.length := by rw [h.ok.wf.na]; omega
      have p := set_perm u.na u.last.d.toNat u.last.o hlt
      rw [(hch.1 (by omega)).1] at p
      rw [List.perm_iff_count]
      intro a
      have := p.count_eq a
      simp only [List.count_append, List.count_cons, List.count_nil] at this ⊢
      omega
  refine ⟨⟨⟨hw2.na, hw2.rob, hw2.fi, hw2.ma, ?_, hw2.rd⟩, hpm, hge⟩, ?_⟩
  · have := hpm.length_eq
    simp only [List.length_append, hw2.na, all96, List.length_map, List.length_range] at this
    omega
  · show Chain (bif decide (u.last.d ≥ 0) then u.na.set u.last.d.toNat u.last.o else u.na) u.squash1.under.reverse
    cases hd : decide (u.last.d ≥ 0) with
    | true => exact (hch.1 (by simpa using hd)).2
    | false => exact hch.2 (by simpa using hd)
theorem U.Ok2.squashN {u : U} (h : u.Ok2) : ∀ n : Nat, n ≤ u.ma → (u.squashN n).Ok2
  | 0, _ => h
  | n + 1, hn => U.Ok2.squashN (h.squash1 (by omega)) n (by show n ≤ u.ma - 1; omega)
theorem U.Ok2.squash {u : U} (h : u.Ok2) (r : Int) : (u.squash r).1.Ok2 := by
  unfold U.squash
  have hge := number_ge u r
  cases hc : (decide (u.number r < 0) && (r != -1)) with
  | true => exact h
  | false => exact h.squashN _ (by omega)
end Go.Proofs.Ytkpbkanbpjfadaa

namespace Go.Proofs.Ytkpbkanbpjfadaa
open Go Go.Sx

theorem sC18 (x : List DV) (i : Nat) : C101800 [.l x, .l x, .b false, .i i] = decide (i < x.length) := by
  show c101800 x x false i = _
  unfold c101800
  have e : decide ((i : Int) < (((x.length / 1 : Nat)) : Int)) = decide (i < x.length) := by rw [Nat.div_one, Bool.eq_iff_iff]; simp
  simp only [e, bne_self_eq_false, Bool.not_false, Bool.and_true]
theorem sW18 (x : List DV) (i : Nat) : W101800 [.l x, .l x, .b false, .i i] = true := by
  show w101800 x x false i = true
  unfold w101800
  have e : decide ((i : Int) ≥ 0) = true := by simp
  simp only [e]
  cases decide ((i : Int) < (((x.length / 1 : Nat)) : Int)) <;> rfl
theorem sL18 (x : List DV) (hx : x.length < 9223372036854775808) : ∀ (n i : Nat), x.length - i = n → ∃ k : Int, loopG W101800 C101800 N101800 T101800 [.l x, .l x, .b false, .i i] = some [.i 1, .b false, .i k]
  | 0, i, hn => by
    have e : decide ((i : Int) < (((x.length / 1 : Nat)) : Int)) = false := by rw [Nat.div_one]; simp; omega
    rw [loopG_last (sW18 x i) (by rw [sC18]; simp; omega)]
    refine ⟨i, ?_⟩
    show some [DV.i (t101800_0 x x false i), .b (t101800_1 x x false i), .i i] = _
    unfold t101800_0 t101800_1
    simp only [e, cond_false]
  | n + 1, i, hn => by
    rw [loopG_next (sW18 x i) (by rw [sC18]; simp; omega)]
    have e : N101800 [.l x, .l x, .b false, .i (i : Int)] = [.l x, .l x, .b false, .i ((i + 1 : Nat) : Int)] := by
      show [DV.l x, .l x, .b false, .i (IntKind.wrap .i64 ((i : Int) + 1))] = _
      rw [wrap_i64_of (by omega) (by omega)]
      congr 4
    rw [e]
    exact sL18 x hx n (i + 1) (by omega)
theorem same18 (x : List DV) (hx : x.length < 9223372036854775808) : p18 x x = true ∧ r18_0 x x = true := by
  obtain ⟨k, h⟩ := sL18 x hx x.length 0 (by omega)
  have hL : L101800 x x false 0 = some [.i 1, .b false, .i k] := h
  refine ⟨?_, ?_⟩
  · unfold p18 p101800
    simp only [hL, bne_self_eq_false, Bool.not_false]
    rfl
  · unfold r18_0 r101800_0 r101800_1
    simp only [hL, bne_self_eq_false, Bool.not_false]
    rfl
theorem sC13 (x : List DV) (i : Nat) : C101300 [.l x, .l x, .b false, .i i] = decide (i < x.length / 6) := by
  show c101300 x x false i = _
  unfold c101300
  have e : decide ((i : Int) < (((x.length / 6 : Nat)) : Int)) = decide (i < x.length / 6) := by rw [Bool.eq_iff_iff, decide_eq_true_iff, decide_eq_true_iff]; omega
  simp only [e, beq_self_eq_true, Bool.and_self, Bool.not_true, Bool.not_false, Bool.and_true]
theorem sW13 (x : List DV) (i : Nat) : W101300 [.l x, .l x, .b false, .i i] = true := by
  show w101300 x x false i = true
  unfold w101300
  have e : decide ((i : Int) ≥ 0) = true := by simp
  simp only [e]
  cases decide ((i : Int) < (((x.length / 6 : Nat)) : Int)) <;> rfl
theorem sL13 (x : List DV) (hx : x.length < 9223372036854775808) : ∀ (n i : Nat), x.length / 6 - i = n → ∃ k : Int, loopG W101300 C101300 N101300 T101300 [.l x, .l x, .b false, .i i] = some [.i 1, .b false, .i k]
  | 0, i, hn => by
    have e : decide ((i : Int) < (((x.length / 6 : Nat)) : Int)) = false := by simp; omega
    rw [loopG_last (sW13 x i) (by rw [sC13]; simp; omega)]
    refine ⟨i, ?_⟩
    show some [DV.i (t101300_0 x x false i), .b (t101300_1 x x false i), .i i] = _
    unfold t101300_0 t101300_1
    simp only [e, cond_false]
  | n + 1, i, hn => by
    rw [loopG_next (sW13 x i) (by rw [sC13]; simp; omega)]
    have e : N101300 [.l x, .l x, .b false, .i (i : Int)] = [.l x, .l x, .b false, .i ((i + 1 : Nat) : Int)] := by
      show [DV.l x, .l x, .b false, .i (IntKind.wrap .i64 ((i : Int) + 1))] = _
      rw [wrap_i64_of (by omega) (by omega)]
      congr 4
    rw [e]
    exact sL13 x hx n (i + 1) (by omega)
theorem same13 (x : List DV) (hx : x.length < 9223372036854775808) : p13 x x = true ∧ r13_0 x x = true := by
  obtain ⟨k, h⟩ := sL13 x hx (x.length / 6) 0 (by omega)
  have hL : L101300 x x false 0 = some [.i 1, .b false, .i k] := h
  refine ⟨?_, ?_⟩
  · unfold p13 p101300
    simp only [hL, bne_self_eq_false, Bool.not_false]
    rfl
  · unfold r13_0 r101300_0 r101300_1
    simp only [hL, bne_self_eq_false, Bool.not_false]
    rfl
end Go.Proofs.Ytkpbkanbpjfadaa

namespace Go.Proofs.Ytkpbkanbpjfadaa
open Go Go.Sx

theorem L10a : loopG W101000 C101000 N101000 T101000 [.l [], .i 0, .l [], .l []] = some [.i 0, .i 64, .l [], .l (encI u0.na)] := loopG_of (n := 65) (by kernel_rfl)
theorem L10b : loopG W101002 C101002 N101002 T101002 [.l [], .i 64, .l [], .l []] = some [.i 0, .i 96, .l [], .l (encI u0.fr)] := loopG_of (n := 33) (by kernel_rfl)
theorem G10a : g101000 [.l [], .i 0, .l [], .l []] = [.b true, .i 0, .i 64, .l [], .l (encI u0.na)] := by
  have e : ∀ o : Option (List DV), o = some [.i 0, .i 64, .l [], .l (encI u0.na)] → [DV.b o.isSome, .i (dget (o.getD []) 0).toI, .i (dget (o.getD []) 1).toI, .l (dget (o.getD []) 2).toL, .l (dget (o.getD []) 3).toL] = [.b true, .i 0, .i 64, .l [], .l (encI u0.na)] := fun o h => by rw [h]; rfl
  exact e _ L10a
theorem G10b : g101002 [.l [], .i 64, .l [], .l []] = [.b true, .i 0, .i 96, .l [], .l (encI u0.fr)] := by
  have e : ∀ o : Option (List DV), o = some [.i 0, .i 96, .l [], .l (encI u0.fr)] → [DV.b o.isSome, .i (dget (o.getD []) 0).toI, .i (dget (o.getD []) 1).toI, .l (dget (o.getD []) 2).toL, .l (dget (o.getD []) 3).toL] = [.b true, .i 0, .i 96, .l [], .l (encI u0.fr)] := fun o h => by rw [h]; rfl
  exact e _ L10b
theorem g10_eq (ds : List DV) : g10 ds = [.b true, .i u0.nx, .l (encI u0.na), .l (encI u0.fr), .l (encR u0.refL)] := by
  show [DV.b p10, .i 0, .l r10_1, .l r10_2, .l r10_3] = _
  unfold p10 r10_1 r10_2 r10_3
  simp only [G10a, G10b]
  rfl

theorem mW (x : List DV) (hx : x.length = 64) (k : Nat) (o : List DV) : W102400 [.l x, .i k, .l o] = true := by
  show w102400 x k o = true
  unfold w102400
  have e : decide ((k : Int) ≥ 0) = true := by simp
  simp only [e, hx, Nat.div_one]
  have e2 : decide ((k : Int) < ((64 : Nat) : Int)) = decide ((k : Int) < 64) := rfl
  rw [e2]
  cases decide ((k : Int) < 64) <;> rfl
theorem mLoop (na : List Int) (hna : na.length = 64) : ∀ (n k : Nat) (o : List DV), 64 - k = n → k ≤ 64 → o.length = 64 → (∀ j, j < k → o[j]? = (encI na)[j]?) → loopG W102400 C102400 N102400 T102400 [.l (encI na), .i k, .l o] = some [.i 0, .i 64, .l (encI na)]
  | 0, k, o, hn, hk, ho, hj => by
    have h64 : k = 64 := by omega
    subst h64
    rw [loopG_last (mW _ (by rw [encI_len, hna]) _ _) rfl]
    have : o = encI na := by
      apply List.ext_getElem?
      intro j
      by_cases h : j < 64
      · exact hj j h
      · rw [List.getElem?_eq_none (by omega), List.getElem?_eq_none (by rw [encI_len, hna]; omega)]
    rw [this]
    rfl
  | n + 1, k, o, hn, hk, ho, hj => by
    have hk2 : k < 64 := by omega
    have hc : C102400 [.l (encI na), .i k, .l o] = true := by
      show decide ((k : Int) < 64) = true
      simp; omega
    have hN : N102400 [.l (encI na), .i k, .l o] = [.l (encI na), .i ((k + 1 : Nat) : Int), .l (o.set k (.i (na.getD k 0)))] := by
      show [DV.l (encI na), .i (IntKind.wrap .i64 ((k : Int) + 1)), .l (n102400_1 (encI na) k o)] = _
      have e1 : n102400_1 (encI na) k o = o.set k (.i (na.getD k 0)) := by
        unfold n102400_1
        simp only [Int.toNat_natCast, Nat.mul_one, Nat.add_zero, encI_get]
        rw [padN_id ho]
      rw [e1, wrap_i64_of (by omega) (by omega)]
      congr 2
    rw [loopG_next (mW _ (by rw [encI_len, hna]) _ _) hc, hN]
    refine mLoop na hna n (k + 1) _ (by omega) (by omega) (by simp [ho]) (fun j hjk => ?_)
    rw [List.getElem?_set]
    by_cases h : k = j
    · subst h
      rw [if_pos rfl, if_pos (by omega)]
      unfold encI
      rw [List.getElem?_map, List.getD_eq_getElem?_getD, List.getElem?_eq_getElem (by omega)]
      rfl
    · rw [if_neg h]
      exact hj j (by omega)
def zs64 : List DV := List.replicate 64 (.i 0)
theorem map_eq (na : List Int) (hna : na.length = 64) : p24 (encI na) = true ∧ r24_0 (encI na) = encI na := by
  have hL : L102400 (encI na) 0 zs64 = some [.i 0, .i 64, .l (encI na)] := mLoop na hna 64 0 zs64 rfl (by omega) rfl (fun j hj => by omega)
  have e1 : p24 (encI na) = ow [] (p102400 (encI na) 0 zs64) := by
    have : ∀ x : List DV, p24 x = ([ow [] (p102400 x 0 zs64)].all id) := fun x => by kernel_rfl
    rw [this]; simp
  have e2 : r24_0 (encI na) = r102400_2 (encI na) 0 zs64 := by
    have : ∀ x : List DV, r24_0 x = r102400_2 x 0 zs64 := fun x => by kernel_rfl
    exact this _
  refine ⟨?_, ?_⟩
  · rw [e1]
    unfold p102400
    rw [hL]; rfl
  · rw [e2]
    unfold r102400_2
    rw [hL]; rfl
end Go.Proofs.Ytkpbkanbpjfadaa

namespace Go.Proofs.Ytkpbkanbpjfadaa
open Go Go.Sx

theorem oW (k : Nat) (x : List DV) : W100303 [.i k, .l x] = true := by
  show w100303 k x = true
  unfold w100303
  have e : decide ((k : Int) ≥ 0) = true := by simp
  simp only [e]
  cases decide ((k : Int) < (((x.length / 1 : Nat)) : Int)) <;> rfl
theorem oLoop : ∀ (n k : Nat) (x : List DV), x.length - k = n → x.length < 9223372036854775808 → ∃ (i : Int) (y : List DV), y.length = x.length ∧ loopG W100303 C100303 N100303 T100303 [.i k, .l x] = some [.i 0, .i i, .l y]
  | 0, k, x, hn, hx => by
    have hc : C100303 [.i k, .l x] = false := by
      show decide ((k : Int) < (((x.length / 1 : Nat)) : Int)) = false
      rw [Nat.div_one]; simp; omega
    exact ⟨k, x, rfl, by rw [loopG_last (oW k x) hc]; rfl⟩
  | n + 1, k, x, hn, hx => by
    have hc : C100303 [.i k, .l x] = true := by
      show decide ((k : Int) < (((x.length / 1 : Nat)) : Int)) = true
      rw [Nat.div_one]; simp; omega
    have hN : N100303 [.i k, .l x] = [.i ((k + 1 : Nat) : Int), .l (x.set (Int.toNat (k : Int) * (1 : Nat) + (0 : Nat)) (.i (-5)))] := by
      show [DV.i (IntKind.wrap .i64 ((k : Int) + 1)), .l (x.set (Int.toNat (k : Int) * (1 : Nat) + (0 : Nat)) (.i (-5)))] = _
      rw [wrap_i64_of (by omega) (by omega)]
      congr 2
    obtain ⟨i, y, h1, h2⟩ := oLoop n (k + 1) (x.set (Int.toNat (k : Int) * (1 : Nat) + (0 : Nat)) (.i (-5))) (by simp; omega) (by simpa using hx)
    exact ⟨i, y, by rw [h1]; simp, by rw [loopG_next (oW k x) hc, hN, h2]⟩
theorem over_eq (x : List DV) (hx : x.length < 9223372036854775808) : p100303 0 x = true ∧ (r100303_2 0 x).length = x.length := by
  obtain ⟨i, y, h1, h2⟩ := oLoop x.length 0 x (by omega) hx
  have hL : L100303 0 x = some [.i 0, .i i, .l y] := h2
  refine ⟨?_, ?_⟩
  · unfold p100303; rw [hL]; rfl
  · unfold r100303_2; rw [hL]; exact h1

theorem commit_len : ∀ (n : Nat) (u : U), (u.commit n).2.length ≤ u.ma
  | 0, u => Nat.zero_le _
  | n + 1, u => by
    simp only [U.commit]
    cases hr : u.ready with
    | false => exact Nat.zero_le _
    | true =>
      have hm : 0 < u.ma := by
        simp only [U.ready, Bool.and_eq_true, decide_eq_true_eq] at hr
        exact hr.1
      have := commit_len n u.commit1
      have e : u.commit1.ma = u.ma - 1 := rfl
      simp only [cond_true, List.length_cons]
      omega
structure St where
  kind : Int
  n : Int
  ws : List Wa
abbrev St.dv (s : St) : List DV := [.i s.kind, .i s.n, .l (encW s.ws)]
def encS (l : List St) : List DV := l.flatMap St.dv
theorem encS_len (l : List St) : (encS l).length = l.length * 3 := fm_len (f := St.dv) (fun _ => rfl) l
theorem encS_get {l : List St} {k : Nat} {e : St} (h : l[k]? = some e) (j : Nat) (hj : j < 3) : (encS l).getD (Int.toNat (k : Int) * (3 : Nat) + j) default = e.dv.getD j default := by
  rw [Int.toNat_natCast]
  exact fm_get (f := St.dv) (fun _ => rfl) l k j e h hj
abbrev DS (l : List St) (k : Nat) (u : U) : List DV :=
  [.l (encS l), .b false, .i k, .l (encI u.na), .l (encI u.fr), .l (encE u.rob), .i u.fi, .i u.ma, .l (encS l), .l (encI u.na), .l (encI u.fr), .l (encR u.refL), .i u.nx, .l (encS l), .l (encS l), .l (encS l)]
theorem doesW {l : List St} {k : Nat} {u : U} {s : St} (hk : l[k]? = some s) (h : u.Ok2) (hb : s.ws.length < 9223372036854775808) : W100300 (DS l k u) = true := by
  have hlt : k < l.length := (List.getElem?_eq_some_iff.1 hk).1
  have hu := h.ok.wf
  have el : ((encS l).length / 3 : Nat) = l.length := by rw [encS_len]; omega
  have c1 : ilt (k : Int) (l.length : Int) = true := by simp [ilt]; omega
  have c2 : ige (k : Int) 0 = true := by simp [ige]
  have s0 : ((encS l).getD (Int.toNat (k : Int) * (3 : Nat) + (0 : Nat)) default).toI = s.kind := by rw [encS_get hk 0 (by decide)]; rfl
  have s1 : ((encS l).getD (Int.toNat (k : Int) * (3 : Nat) + (1 : Nat)) default).toI = s.n := by rw [encS_get hk 1 (by decide)]; rfl
  have s2 : ((encS l).getD (Int.toNat (k : Int) * (3 : Nat) + (2 : Nat)) default).toL = encW s.ws := by rw [encS_get hk 2 (by decide)]; rfl
  have hfr := hu.fr
  have a1 := h.ok.alloc s.ws
  have b1 := (same13 (encN (u.alloc s.ws).2) (by rw [encN_len]; have := a1.2.1; omega)).1
  have a2 : (u.commit s.n.toNat).2.length ≤ 4096 := by
    have := commit_len s.n.toNat u
    have := hu.ma
    omega
  have b2 := (same18 (encI (u.commit s.n.toNat).2) (by rw [encI_len]; omega)).1
  have b3 := (same18 (encI u.fr) (by rw [encI_len]; omega)).1
  have b4 : p21 (encI u.fr) = true := by unfold p21 p31; rw [encI_len]; simp [ow]; omega
  have b5 : p22 (encI u.fr) = true := by unfold p22; simp [ow, encI_len]; omega
  have b6 : r21_0 (encI u.fr) = encI u.fr := rfl
  have b7 : r22_0 (encI u.fr) = encI u.fr := rfl
  obtain ⟨m1, m2⟩ := map_eq u.na hu.na
  obtain ⟨o1, o2⟩ := over_eq (encI u.fr) (by rw [encI_len]; omega)
  have o3 : decide ((((r100303_2 0 (encI u.fr) ++ [DV.i 1]).length / 1 : Nat) : Int) ≤ 7818749353073) = true := by
    rw [List.length_append, o2, encI_len]; simp; omega
  unfold W100300
  simp only [dget, List.getD_cons_zero, List.getD_cons_succ, toI_i, toB_b, toL_l, el, c1, c2, s0, s1, s2, g11_eq hb hu, g12_eq hb hu, b1, g14_eq hu, g15_eq hu, g16_eq hu, g17_eq h.ok, b2, g19_eq hu, g20_eq h.ok, b3, b4, b5, b6, b7, m1, o1, o3, ow_true]
  rfl

def U.step (u : U) (s : St) : U :=
  bif s.kind == 0 then (u.alloc s.ws).1 else bif s.kind == 1 then (u.finish s.n).1 else bif s.kind == 2 then (u.commit s.n.toNat).1 else bif s.kind == 3 then (u.squash s.n).1 else u
theorem U.Ok2.step {u : U} (h : u.Ok2) (s : St) : (u.step s).Ok2 := by
  unfold U.step
  cases s.kind == 0 with
  | true => exact h.alloc s.ws
  | false =>
    cases s.kind == 1 with
    | true => exact h.finish s.n
    | false =>
      cases s.kind == 2 with
      | true => exact h.commit s.n.toNat
      | false =>
        cases s.kind == 3 with
        | true => exact h.squash s.n
        | false => exact h
theorem doesN {l : List St} {k : Nat} {u : U} {s : St} (hk : l[k]? = some s) (h : u.Ok2) (hb : s.ws.length < 9223372036854775808) (hl : l.length < 9223372036854775808) : N100300 (DS l k u) = DS l (k + 1) (u.step s) := by
  have hlt : k < l.length := (List.getElem?_eq_some_iff.1 hk).1
  have hu := h.ok.wf
  have s0 : ((encS l).getD (Int.toNat (k : Int) * (3 : Nat) + (0 : Nat)) default).toI = s.kind := by rw [encS_get hk 0 (by decide)]; rfl
  have s1 : ((encS l).getD (Int.toNat (k : Int) * (3 : Nat) + (1 : Nat)) default).toI = s.n := by rw [encS_get hk 1 (by decide)]; rfl
  have s2 : ((encS l).getD (Int.toNat (k : Int) * (3 : Nat) + (2 : Nat)) default).toL = encW s.ws := by rw [encS_get hk 2 (by decide)]; rfl
  have wk : IntKind.wrap .i64 ((k : Int) + 1) = ((k + 1 : Nat) : Int) := by rw [wrap_i64_of (by omega) (by omega)]; omega
  have f1 := (hu.alloc s.ws).2.1
  have f2 : (u.finish s.n).1.fi = u.fi ∧ (u.finish s.n).1.ma = u.ma := by
    unfold U.finish
    cases (decide (u.number s.n < 0) || (u.at s.n.toNat).f) <;> exact ⟨rfl, rfl⟩
  have f3 : (u.squash s.n).1.fi = u.fi := by
    unfold U.squash
    cases (decide (u.number s.n < 0) && (s.n != -1)) with
    | true => rfl
    | false => exact (squashN_rob _ u).2.1
  have f4 := commit_rob s.n.toNat u
  unfold N100300
  simp only [dget, List.getD_cons_zero, List.getD_cons_succ, toI_i, toB_b, toL_l, s0, s1, s2, g11_eq hb hu, g12_eq hb hu, g14_eq hu, g15_eq hu, g16_eq hu, g17_eq h.ok, g19_eq hu, g20_eq h.ok, wk]
  unfold U.step
  cases s.kind == 0 with
  | true =>
    simp only [cond_true]
    dsimp only [DS]
    rw [f1]
  | false =>
    cases s.kind == 1 with
    | true =>
      simp only [cond_true, cond_false]
      dsimp only [DS]
      rw [f2.1, f2.2]
    | false =>
      cases s.kind == 2 with
      | true =>
        simp only [cond_true, cond_false]
        dsimp only [DS]
        rw [f4.1, f4.2]
      | false =>
        cases s.kind == 3 with
        | true =>
          simp only [cond_true, cond_false]
          dsimp only [DS]
          rw [f3]
        | false => simp only [cond_false]

theorem doesC {l : List St} {k : Nat} {u : U} {s : St} (hk : l[k]? = some s) (h : u.Ok2) (hb : s.ws.length < 9223372036854775808) : C100300 (DS l k u) = true := by
  have hlt : k < l.length := (List.getElem?_eq_some_iff.1 hk).1
  have hu := h.ok.wf
  have el : ((encS l).length / 3 : Nat) = l.length := by rw [encS_len]; omega
  have c1 : ilt (k : Int) (l.length : Int) = true := by simp [ilt]; omega
  have s0 : ((encS l).getD (Int.toNat (k : Int) * (3 : Nat) + (0 : Nat)) default).toI = s.kind := by rw [encS_get hk 0 (by decide)]; rfl
  have s1 : ((encS l).getD (Int.toNat (k : Int) * (3 : Nat) + (1 : Nat)) default).toI = s.n := by rw [encS_get hk 1 (by decide)]; rfl
  have s2 : ((encS l).getD (Int.toNat (k : Int) * (3 : Nat) + (2 : Nat)) default).toL = encW s.ws := by rw [encS_get hk 2 (by decide)]; rfl
  have hfr := hu.fr
  have a1 := h.ok.alloc s.ws
  have b1 := (same13 (encN (u.alloc s.ws).2) (by rw [encN_len]; have := a1.2.1; omega)).2
  have a2 : (u.commit s.n.toNat).2.length ≤ 4096 := by
    have := commit_len s.n.toNat u
    have := hu.ma
    omega
  have b2 := (same18 (encI (u.commit s.n.toNat).2) (by rw [encI_len]; omega)).2
  have b3 := (same18 (encI u.fr) (by rw [encI_len]; omega)).2
  have b6 : r21_0 (encI u.fr) = encI u.fr := rfl
  have b7 : r22_0 (encI u.fr) = encI u.fr := rfl
  have b8 : r23_0 (encI u.na) = encI u.na := rfl
  obtain ⟨m1, m2⟩ := map_eq u.na hu.na
  have hr : ∀ v : U, ((encR v.refL).length / 5 : Nat) = v.ma := fun v => by rw [encR_len, refL_len]; omega
  have h25 : ∀ x : Int, r25_0 x = x := fun _ => rfl
  have f2 : (u.finish s.n).1.ma = u.ma := by
    unfold U.finish
    cases (decide (u.number s.n < 0) || (u.at s.n.toNat).f) <;> rfl
  unfold C100300
  simp only [dget, List.getD_cons_zero, List.getD_cons_succ, toI_i, toB_b, toL_l, el, c1, s0, s1, s2, g11_eq hb hu, g12_eq hb hu, b1, g14_eq hu, g15_eq hu, g16_eq hu, g17_eq h.ok, b2, g19_eq hu, g20_eq h.ok, b3, b6, b7, b8, m2, beq_self_eq_true, bne_self_eq_false, Bool.and_self, Bool.not_true, Bool.not_false, Bool.or_self, h25]
  cases s.kind == 0 with
  | true => simp only [cond_true, hr, bne_self_eq_false, Bool.not_false, Bool.and_self]
  | false =>
    cases s.kind == 1 with
    | true => simp only [cond_true, cond_false, hr, f2, bne_self_eq_false, Bool.not_false, Bool.and_self]
    | false =>
      cases s.kind == 2 with
      | true => simp only [cond_true, cond_false, hr, bne_self_eq_false, Bool.not_false, Bool.and_self]
      | false =>
        cases s.kind == 3 with
        | true => simp only [cond_true, cond_false, hr, bne_self_eq_false, Bool.not_false, Bool.and_self]
        | false => simp only [cond_false, hr, bne_self_eq_false, Bool.not_false, Bool.and_self]

theorem doesEnd {l : List St} {k : Nat} {u : U} (hk : l.length ≤ k) : W100300 (DS l k u) = true ∧ C100300 (DS l k u) = false ∧ T100300 (DS l k u) =
    [.i 1, .b false, .i k, .l (encI u.na), .l (encI u.fr), .l (encE u.rob), .i u.fi, .i u.ma, .l (encS l), .l (encI u.na), .l (encI u.fr), .l (encR u.refL), .i u.nx, .l (encS l), .l (encS l), .l (encS l)] := by
  have el : ((encS l).length / 3 : Nat) = l.length := by rw [encS_len]; omega
  have c1 : ilt (k : Int) (l.length : Int) = false := by simp [ilt]; omega
  refine ⟨?_, ?_, ?_⟩
  · unfold W100300
    simp only [dget, List.getD_cons_zero, List.getD_cons_succ, toI_i, toB_b, toL_l, el, c1]
    simp [ow]
  · unfold C100300
    simp only [dget, List.getD_cons_zero, List.getD_cons_succ, toI_i, toB_b, toL_l, el, c1, Bool.false_and]
  · unfold T100300
    simp only [dget, List.getD_cons_zero, List.getD_cons_succ, toI_i, toB_b, toL_l, el, c1, cond_false]
theorem doesLoop {l : List St} (hl : l.length < 9223372036854775808) (hb : ∀ s ∈ l, s.ws.length < 9223372036854775808) : ∀ (n k : Nat) (u : U), l.length - k = n → u.Ok2 → ∃ (k' : Nat) (u' : U), u'.Ok2 ∧ loopG W100300 C100300 N100300 T100300 (DS l k u) =
    some [.i 1, .b false, .i k', .l (encI u'.na), .l (encI u'.fr), .l (encE u'.rob), .i u'.fi, .i u'.ma, .l (encS l), .l (encI u'.na), .l (encI u'.fr), .l (encR u'.refL), .i u'.nx, .l (encS l), .l (encS l), .l (encS l)]
  | 0, k, u, hn, hu => by
    obtain ⟨h1, h2, h3⟩ := doesEnd (l := l) (k := k) (u := u) (by omega)
    exact ⟨k, u, hu, by rw [loopG_last h1 h2, h3]⟩
  | n + 1, k, u, hn, hu => by
    obtain ⟨s, hk⟩ : ∃ s, l[k]? = some s := ⟨l[k]'(by omega), List.getElem?_eq_getElem _⟩
    have hs := hb s (List.mem_of_getElem? hk)
    obtain ⟨k', u', h1, h2⟩ := doesLoop hl hb n (k + 1) (u.step s) (by omega) (hu.step s)
    exact ⟨k', u', h1, by rw [loopG_next (doesW hk hu hs) (doesC hk hu hs), doesN hk hu hs hl, h2]⟩

theorem does {l : List St} (hl : l.length < 9223372036854775808) (hb : ∀ s ∈ l, s.ws.length < 9223372036854775808) : p3 (encS l) = true ∧ r3_0 (encS l) = true := by
  obtain ⟨k', u', h1, h2⟩ := doesLoop hl hb l.length 0 u0 (by omega) u0_ok2
  have G5 : g100300 [.l (encS l), .b false, .i 0, .l (encI u0.na), .l (encI u0.fr), .l (encE u0.rob), .i u0.fi, .i u0.ma, .l (encS l), .l (encI u0.na), .l (encI u0.fr), .l (encR u0.refL), .i u0.nx, .l (encS l), .l (encS l), .l (encS l)] =
      [.b true, .i 1, .b false, .i k', .l (encI u'.na), .l (encI u'.fr), .l (encE u'.rob), .i u'.fi, .i u'.ma, .l (encS l), .l (encI u'.na), .l (encI u'.fr), .l (encR u'.refL), .i u'.nx, .l (encS l), .l (encS l), .l (encS l)] := by
    have e : ∀ (o : Option (List DV)) (a b c d f g h i j m n q r s t v : DV), o = some [.i a.toI, .b b.toB, .i c.toI, .l d.toL, .l f.toL, .l g.toL, .i h.toI, .i i.toI, .l j.toL, .l m.toL, .l n.toL, .l q.toL, .i r.toI, .l s.toL, .l t.toL, .l v.toL] →
        wrapG [.i, .b, .i, .l, .l, .l, .i, .i, .l, .l, .l, .l, .i, .l, .l, .l] o = [.b true, .i a.toI, .b b.toB, .i c.toI, .l d.toL, .l f.toL, .l g.toL, .i h.toI, .i i.toI, .l j.toL, .l m.toL, .l n.toL, .l q.toL, .i r.toI, .l s.toL, .l t.toL, .l v.toL] := fun o a b c d f g h i j m n q r s t v ho => by rw [ho]; rfl
    exact e _ (.i 1) (.b false) (.i k') (.l (encI u'.na)) (.l (encI u'.fr)) (.l (encE u'.rob)) (.i u'.fi) (.i u'.ma) (.l (encS l)) (.l (encI u'.na)) (.l (encI u'.fr)) (.l (encR u'.refL)) (.i u'.nx) (.l (encS l)) (.l (encS l)) (.l (encS l)) h2
  have hu := h1.ok.wf
  have hfr := hu.fr
  obtain ⟨b3, b3'⟩ := same18 (encI u'.fr) (by rw [encI_len]; omega)
  have b4 : p21 (encI u'.fr) = true := by unfold p21 p31; rw [encI_len]; simp [ow]; omega
  have b5 : p22 (encI u'.fr) = true := by unfold p22; simp [ow, encI_len]; omega
  have b6 : r21_0 (encI u'.fr) = encI u'.fr := rfl
  have b7 : r22_0 (encI u'.fr) = encI u'.fr := rfl
  have b8 : r23_0 (encI u'.na) = encI u'.na := rfl
  obtain ⟨m1, m2⟩ := map_eq u'.na hu.na
  have c84 : ((1 : Int) == 0) = false := rfl
  refine ⟨?_, ?_⟩
  · unfold p3
    simp only [g9_eq, g10_eq, dget, List.getD_cons_zero, List.getD_cons_succ, toI_i, toB_b, toL_l, p8_eq, r8_eq, G5, c84, b3, b3', b4, b5, b6, b7, m1, ow_true]
    rfl
  · unfold r3_0
    simp only [g9_eq, g10_eq, dget, List.getD_cons_zero, List.getD_cons_succ, toI_i, toB_b, toL_l, p8_eq, r8_eq, G5, c84, b3, b3', b6, b7, b8, m2, beq_self_eq_true, Bool.and_self]
    rfl
end Go.Proofs.Ytkpbkanbpjfadaa

namespace Go.Proofs.Ytkpbkanbpjfadaa
open Go Go.Sx
set_option maxRecDepth 100000
set_option maxHeartbeats 4000000
theorem ev3 : evFn Try.prog S3 2000 Try.f3 s3 = some o3 := by kernel_rfl
end Go.Proofs.Ytkpbkanbpjfadaa

namespace Go.Proofs.Ytkpbkanbpjfadaa
open Go Go.Sx
set_option maxRecDepth 100000
set_option maxHeartbeats 4000000
theorem ev11 : evFn Try.prog S11 2000 Try.f11 s11 = some o11 := by kernel_rfl
theorem ev27 : evFn Try.prog S27 2000 Try.f27 s27 = some o27 := by kernel_rfl
theorem ev17 : evFn Try.prog S17 2000 Try.f17 s17 = some o17 := by kernel_rfl
theorem ev10 : evFn Try.prog S10 2000 Try.f10 s10 = some o10 := by kernel_rfl
theorem ev29 : evFn Try.prog S29 2000 Try.f29 s29 = some o29 := by kernel_rfl
theorem ev28 : evFn Try.prog S28 2000 Try.f28 s28 = some o28 := by kernel_rfl
theorem ev23 : evFn Try.prog S23 2000 Try.f23 s23 = some o23 := by kernel_rfl
theorem ev26 : evFn Try.prog S26 2000 Try.f26 s26 = some o26 := by kernel_rfl
end Go.Proofs.Ytkpbkanbpjfadaa

namespace Go.Proofs.Ytkpbkanbpjfadaa
open Go Go.Sx
set_option maxRecDepth 100000
set_option maxHeartbeats 4000000
theorem ev20 : evFn Try.prog S20 2000 Try.f20 s20 = some o20 := by kernel_rfl
theorem ev16 : evFn Try.prog S16 2000 Try.f16 s16 = some o16 := by kernel_rfl
theorem ev12 : evFn Try.prog S12 2000 Try.f12 s12 = some o12 := by kernel_rfl
theorem ev18 : evFn Try.prog S18 2000 Try.f18 s18 = some o18 := by kernel_rfl
theorem ev14 : evFn Try.prog S14 2000 Try.f14 s14 = some o14 := by kernel_rfl
theorem ev21 : evFn Try.prog S21 2000 Try.f21 s21 = some o21 := by kernel_rfl
theorem ev25 : evFn Try.prog S25 2000 Try.f25 s25 = some o25 := by kernel_rfl
end Go.Proofs.Ytkpbkanbpjfadaa

namespace Go.Proofs.Ytkpbkanbpjfadaa
open Go Go.Sx
set_option maxRecDepth 100000
set_option maxHeartbeats 4000000
theorem ev9 : evFn Try.prog S9 2000 Try.f9 s9 = some o9 := by kernel_rfl
theorem ev24 : evFn Try.prog S24 2000 Try.f24 s24 = some o24 := by kernel_rfl
theorem ev19 : evFn Try.prog S19 2000 Try.f19 s19 = some o19 := by kernel_rfl
theorem ev8 : evFn Try.prog S8 2000 Try.f8 s8 = some o8 := by kernel_rfl
theorem ev13 : evFn Try.prog S13 2000 Try.f13 s13 = some o13 := by kernel_rfl
theorem ev15 : evFn Try.prog S15 2000 Try.f15 s15 = some o15 := by kernel_rfl
theorem ev22 : evFn Try.prog S22 2000 Try.f22 s22 = some o22 := by kernel_rfl
end Go.Proofs.Ytkpbkanbpjfadaa

namespace Go.Proofs.Ytkpbkanbpjfadaa
open Go Go.Shelf
def cloneRen : Go.Shelf.Ren := ⟨fun | 15 => 31 | n => n, fun | 22 => 35 | 3 => 3 | 4 => 4 | n => n, fun | n => n⟩
theorem laysClone : Go.Proofs.Lays2.n15 Try.prog cloneRen := {
  mixed := by kernel_rfl
  f15 := Try.func31.trans (congrArg some (by kernel_rfl))
  t3 := Try.underlying3
  a3 := Try.isAgg3
  z3 := Try.sizeOf3
  v3 := Try.zeroValue3
  t4 := Try.underlying4
  a4 := Try.isAgg4
  z4 := Try.sizeOf4
  v4 := Try.zeroValue4
  t22 := Try.underlying35
  a22 := Try.isAgg35
  z22 := Try.sizeOf35
  v22 := Try.zeroValue35
  i3 := by kernel_rfl }
def insRen : Go.Shelf.Ren := ⟨fun | 21 => 30 | 27 => 32 | 28 => 33 | 35 => 34 | 39 => 35 | n => n, fun | 22 => 35 | 3 => 3 | 4 => 4 | 0 => 0 | n => n, fun | n => n⟩
theorem laysIns : Go.Proofs.Lays2.n21 Try.prog insRen := {
  mixed := by kernel_rfl
  f21 := Try.func30.trans (congrArg some (by kernel_rfl))
  f27 := Try.func32.trans (congrArg some (by kernel_rfl))
  f28 := Try.func33.trans (congrArg some (by kernel_rfl))
  f35 := Try.func34.trans (congrArg some (by kernel_rfl))
  f39 := Try.func35.trans (congrArg some (by kernel_rfl))
  t0 := Try.underlying0
  a0 := Try.isAgg0
  z0 := Try.sizeOf0
  v0 := Try.zeroValue0
  t3 := Try.underlying3
  a3 := Try.isAgg3
  z3 := Try.sizeOf3
  v3 := Try.zeroValue3
  t4 := Try.underlying4
  a4 := Try.isAgg4
  z4 := Try.sizeOf4
  v4 := Try.zeroValue4
  t22 := Try.underlying35
  a22 := Try.isAgg35
  z22 := Try.sizeOf35
  v22 := Try.zeroValue35
  i3 := by kernel_rfl }
end Go.Proofs.Ytkpbkanbpjfadaa

namespace Go.Proofs.Ytkpbkanbpjfadaa
open Go Go.Sx Go.RowKit

abbrev iv (d : DV) : Value := .int .i64 d.toI
theorem cell_of {w : World} {g : Nat} {cur : Array Value} {e : TypeId} {z : Nat × Nat} (h : w.heap[g]? = some (.cells cur e z)) (i : Nat) : w.cell? ⟨g, i, none⟩ = cur[i]? := by
  simp [World.cell?, h]
theorem own_row {E : Env} {w' : World} {base n : Nat} {v' : Value} {xs : List DV} (h : w'.ownsRow base 3 1 v' n (xs.map iv)) : ∃ r : Sx.Loc, v' = r.slice ∧ VRel E w' r true [.int .i64] xs ∧ (r.nil = true ∨ base ≤ r.blk) := by
  obtain ⟨hl, h⟩ := h
  rw [List.length_map, Nat.mul_one] at hl
  rcases h with ⟨rfl, h0⟩ | ⟨g, cap, cur, rfl, hb, hg, hn, hm, hs, ht⟩
  · refine ⟨⟨0, 0, true, 0, 0, none⟩, rfl, ⟨fun _ => ⟨rfl, rfl⟩, fun e => (by cases e), (by decide), (by show xs.length = 0 * 1; omega), Nat.le_refl _, fun i hi => by omega, fun _ e => (by cases e), fun _ e => (by cases e)⟩, .inl rfl⟩
  · have hlt : g < w'.heap.size := by
      rcases Nat.lt_or_ge g w'.heap.size with h | h
      · exact h
      · rw [Array.getElem?_eq_none h] at hg; cases hg
    refine ⟨⟨g, 0, false, n, cap, none⟩, rfl, ⟨fun e => (by cases e), fun _ => hlt, (by decide), (by show xs.length = n * 1; omega), hn, fun i hi => ?_, fun _ _ i hi => ?_, fun _ _ => ⟨hm, fun o => by simp [World.frozen?, hg]⟩⟩, .inr hb⟩
    · refine ⟨iv (xs.getD i default), ?_, ?_⟩
      · rw [cell_of hg, Nat.zero_add]
        have h1 : (cur.toList.take (n * 1))[i]? = cur[i]? := by rw [List.getElem?_take, if_pos (by omega)]; simp
        rw [← h1, ht, List.getElem?_map, List.getElem?_eq_getElem hi]
        simp [List.getD_eq_getElem?_getD, List.getElem?_eq_getElem hi]
      · have : i % [LT.int .i64].length = 0 := Nat.mod_one i
        rw [this]
        exact .int .i64 _
    · have hi : i < cap * 1 := hi
      refine ⟨?_, by simp [World.frozen?, hg]⟩
      rw [cell_of hg, Nat.zero_add, Array.getElem?_eq_getElem (by omega)]
      rfl
theorem row_cells {E : Env} {w : World} {r : Sx.Loc} {o : Bool} {xs : List DV} (h : VRel E w r o [.int .i64] xs) : xs.length = r.len ∧ ∀ i, i < xs.length → w.cell? ⟨r.blk, r.off + i, none⟩ = some (iv (xs.getD i default)) := by
  refine ⟨by have := h.len; simpa using this, fun i hi => ?_⟩
  obtain ⟨v, h1, h2⟩ := h.cell i hi
  have : i % [LT.int .i64].length = 0 := Nat.mod_one i
  rw [this] at h2
  rw [h1]
  cases h2
  rfl

theorem k31 : FnOK Try.prog (fun _ => True) 0 31 s31 g31 := by
  intro ds ρ w _ hlen hneed _ _ _ hrel
  have hv : VRel (callEnv s31.hinI ρ w) w (ρ 0) false [.int .i64] (dget ds 0).toL := hrel.blk 0 _ rfl
  have hlim : (dget ds 0).toL.length ≤ 17592186044416 := of_decide_eq_true (hneed rfl)
  show Calls Try.prog 31 #[(ρ 0).slice] w _
  generalize hxs : (dget ds 0).toL = xs at *
  obtain ⟨hl, hc⟩ := row_cells hv
  have out : ∀ (v' : Value) (w' : World), w'.ownsRow w.heap.size 3 1 v' xs.length (xs.map iv) → Below w.heap.size w w' → ∃ v ρ', Ending.returned v' = .returned v ∧ CallOut s31 (g31 ds) ρ w v ρ' w' := by
    intro v' w' ho hb
    obtain ⟨r, hr, hvr, hbl⟩ := own_row (E := callEnv s31.hinI ρ w) ho
    refine ⟨v', fun j => if j = 1 then r else ρ j, rfl, ?_, V.good_s.2 (V1.good_one.2 (show True from trivial)), ⟨fun j bk hj => ?_, fun j j' bk bk' hj _ hj' hne _ _ => ?_⟩, fun j bk hj => ?_, (Fr.of_below hb), fun j hj _ => ?_⟩
    · rw [hr]; rfl
    · match j, hj with
      | 0, hj => cases hj
      | 1, hj =>
        cases hj
        show VRel _ w' r true [.int .i64] (r31_0 (dget ds 0).toL)
        rw [hxs]
        exact hvr
      | j + 2, hj => cases j <;> cases hj
    · match j, j', hj, hj' with
      | 0, _, hj, _ => cases hj
      | 1, 0, _, hj => cases hj
      | 1, 1, _, _ => exact absurd rfl hne
      | 1, j + 2, _, hj => cases j <;> cases hj
      | j + 2, _, hj, _ => cases j <;> cases hj
    · match j, hj with
      | 0, hj => cases hj
      | 1, hj =>
        rcases hbl with h | h
        · exact .inl h
        · exact .inr (.inl h)
      | j + 2, hj => cases j <;> cases hj
    · match j, hj with
      | 0, hj => cases hj
      | j + 1, hj => cases j <;> cases hj
  cases hn : (ρ 0).nil with
  | true =>
    have h0 := hv.nil hn
    have hx0 : xs = [] := List.eq_nil_of_length_eq_zero (by omega)
    cases hraw : (ρ 0).raw with
    | none =>
      have hs : (ρ 0).slice = .slice none 0 0 := by unfold Loc.slice; rw [hn, h0.1, h0.2, hraw]; rfl
      rw [hs]
      refine (Any.slices_Clone_int_nil laysClone 0 0 w).mono fun e w' ⟨he, hw⟩ => ?_
      subst he; subst hw
      refine out _ _ ⟨by simp, .inl ⟨rfl, by rw [hx0]; rfl⟩⟩ (Below.refl _ _)
    | some a =>
      have hs : (ρ 0).slice = .slice (some a) 0 0 := by unfold Loc.slice; rw [hn, h0.1, h0.2, hraw]; rfl
      rw [hs]
      refine (Any.slices_Clone_int_zero laysClone a 0 w).mono fun e w' ⟨v', he, ho, _, hb⟩ => ?_
      subst he
      refine out _ _ ?_ hb
      rw [hx0]; exact ho
  | false =>
    have hs : (ρ 0).slice = .slice (some ⟨(ρ 0).blk, (ρ 0).off, none⟩) (ρ 0).len (ρ 0).cap := by unfold Loc.slice; rw [hn]; rfl
    rw [hs]
    cases h0 : (ρ 0).len with
    | zero =>
      refine (Any.slices_Clone_int_zero laysClone ⟨(ρ 0).blk, (ρ 0).off, none⟩ (ρ 0).cap w).mono fun e w' ⟨v', he, ho, _, hb⟩ => ?_
      subst he
      have hx0 : xs = [] := List.eq_nil_of_length_eq_zero (by omega)
      refine out _ _ ?_ hb
      rw [hx0]; exact ho
    | succ n =>
      have hzl : (xs.map DV.toI).length = n + 1 := by rw [List.length_map, hl, h0]
      refine (Any.slices_Clone_int laysClone (ρ 0).blk (ρ 0).off (n + 1) (ρ 0).cap (xs.map DV.toI) w (by omega) (by omega) (fun j hj => ?_)).mono fun e w' ⟨v', he, ho, _, hb⟩ => ?_
      · rw [hc j (by simpa using hj)]
        have hj' : j < xs.length := by simpa using hj
        simp [List.getD_eq_getElem?_getD, List.getElem?_eq_getElem hj']
      · subst he
        refine out _ _ ?_ hb
        have e1 : ((xs.map DV.toI).take (n + 1)).map (Value.int .i64) = xs.map iv := by
          rw [List.take_of_length_le (by omega), List.map_map]; rfl
        rw [e1] at ho
        rw [show xs.length = n + 1 from by omega]
        exact ho
end Go.Proofs.Ytkpbkanbpjfadaa

namespace Go.Proofs.Ytkpbkanbpjfadaa
open Go Go.Sx Go.RowKit

theorem shape_of {w : World} {b o : Nat} (h : (w.cell? ⟨b, o, none⟩).isSome = true) : ∃ e k, w.shape? b = some (e, k) ∧ o < k := by
  unfold World.cell? at h
  cases hb : w.heap[b]? with
  | none => simp [hb] at h
  | some x =>
    cases x with
    | cells c e z =>
      refine ⟨e, c.size, by simp [World.shape?, hb], ?_⟩
      simp [hb] at h
      exact h
    | _ => simp [hb] at h

theorem mk_row {E : Env} {w' : World} {b o c : Nat} {y : DV} {xs : List DV} (hlt : b < w'.heap.size) (h0 : w'.cell? ⟨b, o, none⟩ = some (iv y)) (h1 : ∀ k, k < xs.length → w'.cell? ⟨b, o + 1 + k, none⟩ = some (iv (xs.getD k default)))
    (hc : xs.length + 1 ≤ c) (hm : c ≤ 9223372036854775807) (hr : ∀ i, i < c → (w'.cell? ⟨b, o + i, none⟩).isSome = true) (hf : ∀ i, w'.frozen? ⟨b, i, none⟩ = false) :
    VRel E w' ⟨b, o, false, xs.length + 1, c, none⟩ true [.int .i64] ([y] ++ xs) := by
  refine ⟨fun e => (by cases e), fun _ => hlt, by decide, by show ([y] ++ xs).length = (xs.length + 1) * 1; simp, hc, fun i hi => ?_, fun _ _ i hi => ⟨hr i (by simpa using hi), hf _⟩, fun _ _ => ⟨hm, hf⟩⟩
  have hmod : i % [LT.int .i64].length = 0 := Nat.mod_one i
  rw [hmod]
  refine ⟨iv (([y] ++ xs).getD i default), ?_, .int .i64 _⟩
  cases i with
  | zero => exact h0
  | succ k =>
    have hk : k < xs.length := by simpa using hi
    show w'.cell? ⟨b, o + (k + 1), none⟩ = _
    rw [show o + (k + 1) = o + 1 + k from by omega, h1 k hk]
    rfl

theorem fr_set {W : Nat → Prop} {w : World} {b o : Nat} {vs : List Value} (hb : W b) : Fr W w (w.setCells b o vs) :=
  ⟨(setCells_os b vs o w).1, (setCells_os b vs o w).2.1, (setCells_os b vs o w).2.2, by rw [setCells_size]; exact Nat.le_refl _, fun k _ hW => setCells_block b vs o w k fun e => hW (e ▸ hb)⟩
theorem fr_drew {W : Nat → Prop} {w : World} : Fr W w w.drew := ⟨rfl, rfl, rfl, Nat.le_refl _, fun _ _ _ => rfl⟩

theorem k30 : FnOK Try.prog (fun _ => True) 0 30 s30 g30 := by
  intro ds ρ w _ hlen hneed _ _ _ hrel
  have hv : VRel (callEnv s30.hinI ρ w) w (ρ 0) true [.int .i64] (dget ds 0).toL := hrel.blk 0 _ rfl
  have hu : VRel (callEnv s30.hinI ρ w) w (ρ 1) true [.int .i64] (dget ds 2).toL := hrel.blk 1 _ rfl
  have hp : p30 (dget ds 0).toL (dget ds 1).toI (dget ds 2).toL = true := hneed rfl
  unfold p30 at hp
  simp only [Bool.and_eq_true, decide_eq_true_eq] at hp
  obtain ⟨⟨hlim, hx1⟩, hy1⟩ := hp
  show Calls Try.prog 30 #[(ρ 0).slice, .int .i64 (dget ds 1).toI, (ρ 1).slice] w _
  rw [hx1]
  have hres : (g30 ds) = [.b true, .l ((dget ds 2).toL ++ (dget ds 0).toL)] := by
    show [DV.b (p30 (dget ds 0).toL (dget ds 1).toI (dget ds 2).toL), DV.l (r30_0 (dget ds 0).toL (dget ds 1).toI (dget ds 2).toL)] = _
    rw [show p30 (dget ds 0).toL (dget ds 1).toI (dget ds 2).toL = true from hneed rfl]
    rfl
  rw [hres]
  generalize hxs : (dget ds 0).toL = xs at *
  generalize hys : (dget ds 2).toL = ys at *
  obtain ⟨y, rfl⟩ : ∃ y, ys = [y] := by
    match ys, hy1 with
    | [y], _ => exact ⟨y, rfl⟩
  obtain ⟨hl, hc⟩ := row_cells hv
  obtain ⟨hl1, hc1⟩ := row_cells hu
  have hn1 : (ρ 1).nil = false := by
    cases h : (ρ 1).nil with
    | false => rfl
    | true => have := (hu.nil h).1; rw [this] at hl1; simp at hl1
  have hs1 : (ρ 1).slice = .slice (some ⟨(ρ 1).blk, (ρ 1).off, none⟩) 1 (ρ 1).cap := by
    unfold Loc.slice
    have : (ρ 1).len = 1 := by simpa using hl1.symm
    rw [hn1, this]; rfl
  have hW0 : (ρ 0).nil = false → (callEnv s30.hinI ρ w).W (ρ 0).blk := fun h => ⟨0, .v true [.int .i64] (.r 0), rfl, rfl, h, rfl⟩
  have out : ∀ (r : Sx.Loc) (w' : World), VRel (callEnv s30.hinI ρ w) w' r true [.int .i64] ([y] ++ xs) → (w.heap.size ≤ r.blk ∨ (callEnv s30.hinI ρ w).W r.blk) → Fr (callEnv s30.hinI ρ w).W w w' →
      ∃ v ρ', Ending.returned r.slice = .returned v ∧ CallOut s30 [.b true, .l ([y] ++ xs)] ρ w v ρ' w' := by
    intro r w' hvr hbl hfr
    refine ⟨r.slice, fun j => if j = 2 then r else ρ j, rfl, rfl, V.good_s.2 (V1.good_one.2 (show True from trivial)), ⟨fun j bk hj => ?_, fun j j' bk bk' hj _ hj' hne _ _ => ?_⟩, fun j bk hj => ?_, hfr, fun j hj _ => ?_⟩
    · match j, hj with
      | 0, hj => cases hj
      | 1, hj => cases hj
      | 2, hj => cases hj; exact hvr
      | j + 3, hj => cases j <;> cases hj
    · match j, j', hj, hj' with
      | 0, _, hj, _ => cases hj
      | 1, _, hj, _ => cases hj
      | 2, 0, _, hj => cases hj
      | 2, 1, _, hj => cases hj
      | 2, 2, _, _ => exact absurd rfl hne
      | 2, j + 3, _, hj => cases j <;> cases hj
      | j + 3, _, hj, _ => cases j <;> cases hj
    · match j, hj with
      | 0, hj => cases hj
      | 1, hj => cases hj
      | 2, hj =>
        rcases hbl with h | h
        · exact .inr (.inl h)
        · exact .inr (.inr (.inl h))
      | j + 3, hj => cases j <;> cases hj
    · match j, hj with
      | 0, hj => cases hj
      | 1, hj => cases hj
      | j + 2, hj => cases j <;> cases hj
  have hvs : ∀ (j : Nat) (v : Value), [iv y][j]? = some v → w.cell? ⟨(ρ 1).blk, (ρ 1).off + j, none⟩ = some v := fun j v hj => by
    cases j with
    | zero =>
      simp at hj
      subst hj
      exact hc1 0 (by simp)
    | succ j => simp at hj
  have h1v : ∀ v ∈ [iv y], v.oneCell' = true := fun v hv => by simp at hv; subst hv; rfl
  have hcs : ∀ (j : Nat) (v : Value), (xs.map iv)[j]? = some v → w.cell? ⟨(ρ 0).blk, (ρ 0).off + j, none⟩ = some v := fun j v hj => by
    rw [List.getElem?_map] at hj
    obtain ⟨d, hd, rfl⟩ := Option.map_eq_some_iff.1 hj
    have hjl := (List.getElem?_eq_some_iff.1 hd).1
    rw [hc j hjl]
    simp [List.getD_eq_getElem?_getD, hd]
  have h1c : ∀ v ∈ xs.map iv, v.oneCell' = true := fun v hv => by
    obtain ⟨d, _, rfl⟩ := List.mem_map.1 hv
    rfl
  have hgrow : ∀ (G : Nat) (tl : Array Value) (w' : World), xs.length + 1 ≤ G → G ≤ 9223372036854775807 → tl.size + xs.length + 1 = G → w'.heap[w.heap.size]? = some (.cells (([iv y] ++ xs.map iv).toArray ++ tl) 3 (0, 0)) → Fr (fun _ => False) w w' →
      ∃ v ρ', Ending.returned (Value.slice (some ⟨w.heap.size, 0, none⟩) (xs.length + 1) G) = .returned v ∧ CallOut s30 [.b true, .l ([y] ++ xs)] ρ w v ρ' w' := by
    intro G tl w' h1 h2 h3 h4 h5
    have hlt : w.heap.size < w'.heap.size := by
      rcases Nat.lt_or_ge w.heap.size w'.heap.size with h | h
      · exact h
      · rw [Array.getElem?_eq_none h] at h4; cases h4
    have hcell : ∀ i, w'.cell? ⟨w.heap.size, i, none⟩ = (([iv y] ++ xs.map iv).toArray ++ tl)[i]? := cell_of h4
    refine out ⟨w.heap.size, 0, false, xs.length + 1, G, none⟩ w' (mk_row hlt ?_ (fun k hk => ?_) h1 h2 (fun i hi => ?_) (fun i => by simp [World.frozen?, h4])) (.inl (Nat.le_refl _)) (h5.weaken fun b hb => hb.elim)
    · rw [hcell, Array.getElem?_append_left (by simp)]; simp
    · rw [hcell, Array.getElem?_append_left (by simp; omega)]
      simp [Nat.add_comm 1 k, List.getD_eq_getElem?_getD, hk]
    · rw [hcell, Array.getElem?_eq_getElem (by simp; omega)]
      rfl
  have hcl : (xs.map iv).length = (ρ 0).len := by rw [List.length_map, hl]
  by_cases hroom : (ρ 0).len + 1 ≤ (ρ 0).cap
  · have hn0 : (ρ 0).nil = false := by
      cases h : (ρ 0).nil with
      | false => rfl
      | true => have := hv.nil h; omega
    have hs0 : (ρ 0).slice = .slice (some ⟨(ρ 0).blk, (ρ 0).off, none⟩) (ρ 0).len (ρ 0).cap := by unfold Loc.slice; rw [hn0]; rfl
    rw [hs0, hs1]
    have hown : ∀ i, i < (ρ 0).cap → (w.cell? ⟨(ρ 0).blk, (ρ 0).off + i, none⟩).isSome = true ∧ w.frozen? ⟨(ρ 0).blk, (ρ 0).off + i, none⟩ = false := fun i hi => hv.own rfl hn0 i (by simpa using hi)
    obtain ⟨hm, hfz⟩ := hv.fz rfl hn0
    have hlt := hv.lt hn0
    by_cases h0 : (ρ 0).len = 0
    · have hx0 : xs = [] := List.eq_nil_of_length_eq_zero (by omega)
      have hrun := Any2.slices_Insert_int_end_room laysIns (ρ 0).blk (ρ 0).off (ρ 0).len (ρ 0).cap (ρ 1).blk (ρ 1).off 1 (ρ 1).cap [iv y] w (by decide) hroom hm rfl
        (fun j hj => by have := (hown ((ρ 0).len + j) (by omega)).1; rwa [← Nat.add_assoc] at this) (fun j hj => hfz _) hvs h1v
      have hz : ((ρ 0).len : Int) = 0 := by omega
      rw [hz] at hrun
      refine hrun.mono fun e w' ⟨he, hw⟩ => ?_
      subst he; subst hw
      have hsl : Value.slice (some ⟨(ρ 0).blk, (ρ 0).off, none⟩) ((ρ 0).len + 1) (ρ 0).cap = Sx.Loc.slice ⟨(ρ 0).blk, (ρ 0).off, false, xs.length + 1, (ρ 0).cap, none⟩ := by rw [hl]; rfl
      rw [hsl, h0, Nat.add_zero]
      have hin := World.cell?_setCells_in (ρ 0).blk [iv y] (ρ 0).off w (fun j hj => (hown j (by simp at hj; omega)).1) 0 (by simp)
      refine out _ _ (mk_row (by rw [setCells_size]; exact hlt) (by simpa using hin) (fun k hk => by rw [hx0] at hk; simp at hk) (by omega) hm (fun i hi => ?_) (fun i => by rw [World.frozen?_setCells]; exact hfz _)) (.inr (hW0 hn0)) (fr_set (hW0 hn0))
      exact isSome_setCells _ _ _ _ (fun t ht => (hown t (by simp at ht; omega)).1) _ (hown i hi).1
    · obtain ⟨tB, kB, hsb, hkb⟩ := shape_of (hown 0 (by omega)).1
      have hc10 := hc1 0 (by simp)
      obtain ⟨tA, kA, hsa, _⟩ := shape_of (w := w) (b := (ρ 1).blk) (o := (ρ 1).off + 0) (by rw [hc10]; rfl)
      have hap : (ρ 1).blk ≠ (ρ 0).blk := hrel.apart 1 0 (.v true [.int .i64] (.r 2)) (.v true [.int .i64] (.r 0)) rfl rfl rfl (by decide) hn1 hn0
      have hfz1 := (hu.fz rfl hn1).2
      have hrun := Any2.slices_Insert_int_shift laysIns (ρ 0).blk (ρ 0).off (ρ 0).len (ρ 0).cap 0 (ρ 1).blk (ρ 1).off 1 (ρ 1).cap (xs.map iv) [iv y] w (by omega) (by decide) hroom hm hap hcl rfl hcs
        (fun j hj => (hown j (by omega)).1) (fun j hj => hfz _) hvs h1c h1v tA tB kA kB hsa hsb (by omega) (hfz1 _) (hfz1 _)
      refine hrun.mono fun e w' ⟨he, hw⟩ => ?_
      subst he; subst hw
      have hsl : Value.slice (some ⟨(ρ 0).blk, (ρ 0).off, none⟩) ((ρ 0).len + 1) (ρ 0).cap = Sx.Loc.slice ⟨(ρ 0).blk, (ρ 0).off, false, xs.length + 1, (ρ 0).cap, none⟩ := by rw [hl]; rfl
      rw [hsl, List.drop_zero, Nat.add_zero, show (ρ 0).off + (0 + 1) = (ρ 0).off + 1 from rfl]
      have hex1 : ∀ j, j < (xs.map iv).length → (w.drew.cell? ⟨(ρ 0).blk, (ρ 0).off + 1 + j, none⟩).isSome = true := fun j hj => by
        have := (hown (1 + j) (by omega)).1
        rw [← Nat.add_assoc] at this
        exact this
      have hsome1 : ∀ i, i < (ρ 0).cap → ((w.drew.setCells (ρ 0).blk ((ρ 0).off + 1) (xs.map iv)).cell? ⟨(ρ 0).blk, (ρ 0).off + i, none⟩).isSome = true := fun i hi =>
        isSome_setCells _ _ _ _ hex1 _ (hown i hi).1
      have hin1 := World.cell?_setCells_in (ρ 0).blk (xs.map iv) ((ρ 0).off + 1) w.drew hex1
      have hin2 := World.cell?_setCells_in (ρ 0).blk [iv y] (ρ 0).off (w.drew.setCells (ρ 0).blk ((ρ 0).off + 1) (xs.map iv)) (fun j hj => hsome1 j (by simp at hj; omega)) 0 (by simp)
      refine out _ _ (mk_row (by rw [setCells_size, setCells_size]; exact hlt) (by simpa using hin2) (fun k hk => ?_) (by omega) hm (fun i hi => ?_) (fun i => by rw [World.frozen?_setCells, World.frozen?_setCells]; exact hfz _)) (.inr (hW0 hn0)) ((fr_drew.trans (fr_set (hW0 hn0))).trans (fr_set (hW0 hn0)))
      · rw [World.cell?_setCells_out _ _ _ _ _ (fun _ _ => .inr (by simp)), hin1 k (by simpa using hk)]
        simp [List.getD_eq_getElem?_getD, hk]
      · exact isSome_setCells _ _ _ _ (fun t ht => hsome1 t (by simp at ht; omega)) _ (hsome1 i hi)
  · have hcap : (ρ 0).len ≤ (ρ 0).cap := hv.cap
    have hge := grownCap_ge w ((ρ 0).len + 1) (ρ 0).cap 3
    have hle := grownCap_le_maxLen w ((ρ 0).len + 1) (ρ 0).cap 3 (by unfold maxLen; omega)
    unfold maxLen at hle
    by_cases h0 : (ρ 0).len = 0
    · have hx0 : xs = [] := List.eq_nil_of_length_eq_zero (by omega)
      have hs0 : (ρ 0).slice = .slice (if (ρ 0).nil then (ρ 0).raw else some ⟨(ρ 0).blk, (ρ 0).off, none⟩) (ρ 0).len (ρ 0).cap := by
        unfold Loc.slice
        cases (ρ 0).nil <;> rfl
      rw [hs0, hs1]
      have hrun := Any2.slices_Insert_int_end_grow laysIns (if (ρ 0).nil then (ρ 0).raw else some ⟨(ρ 0).blk, (ρ 0).off, none⟩) (ρ 0).len (ρ 0).cap (ρ 1).blk (ρ 1).off 1 (ρ 1).cap [] [iv y] w (by decide) hcap (by omega) (by omega) h0.symm rfl (fun _ => h0)
        (fun a _ j v hj => by simp at hj) hvs h1v
      have hz : ((ρ 0).len : Int) = 0 := by omega
      rw [hz] at hrun
      refine hrun.mono fun e w' ⟨he, hw⟩ => ?_
      subst he; subst hw
      rw [show insRen.t 3 = 3 from rfl]
      have hll : (ρ 0).len + 1 = xs.length + 1 := by omega
      rw [hll] at hge hle ⊢
      generalize hG : grownCap w (xs.length + 1) (ρ 0).cap 3 = G at *
      refine hgrow G (Builtin.zeroCells (Value.int .i64 0).cells (G - (xs.length + 1))) _ hge hle (by rw [size_zeroCells]; show (G - (xs.length + 1)) * 1 + xs.length + 1 = G; omega) ?_ ⟨rfl, rfl, rfl, by simp, fun k hk _ => Below.heap_alloc w.drew _ _ hk⟩
      rw [hx0]
      show (w.heap.push _)[w.heap.size]? = _
      simp
    · have hn0 : (ρ 0).nil = false := by
        cases h : (ρ 0).nil with
        | false => rfl
        | true => have := hv.nil h; omega
      have hs0 : (ρ 0).slice = .slice (some ⟨(ρ 0).blk, (ρ 0).off, none⟩) (ρ 0).len (ρ 0).cap := by unfold Loc.slice; rw [hn0]; rfl
      rw [hs0, hs1]
      have hrun := Any2.slices_Insert_int_grow laysIns (ρ 0).blk (ρ 0).off (ρ 0).len (ρ 0).cap 0 (ρ 1).blk (ρ 1).off 1 (ρ 1).cap (xs.map iv) [iv y] w (by omega) (by decide) hcap (by omega) (by omega) hcl rfl hcs hvs h1c h1v
      refine hrun.mono fun e w' ⟨he, hw⟩ => ?_
      subst he; subst hw
      rw [show insRen.t 3 = 3 from rfl]
      have hll : (ρ 0).len + 1 = xs.length + 1 := by omega
      rw [hll] at hge hle ⊢
      generalize hG : grownCap w (xs.length + 1) (ρ 0).cap 3 = G at *
      rw [List.drop_zero]
      generalize hROW : (((xs.map iv).take 0).toArray ++ Builtin.zeroCells (Value.int .i64 0).cells (xs.length + 1 - 0) ++ Builtin.zeroCells (Value.int .i64 0).cells (G - (xs.length + 1))) = ROW
      have hRs : ROW.size = G := by
        rw [← hROW, Array.size_append, Array.size_append, size_zeroCells, size_zeroCells]
        show 0 + (xs.length + 1 - 0) * 1 + (G - (xs.length + 1)) * 1 = G
        omega
      have hex0 : ∀ i, i < G → ((w.alloc (.cells ROW 3)).drew.cell? ⟨w.heap.size, i, none⟩).isSome = true := fun i hi => by
        show ((w.alloc (.cells ROW 3)).cell? ⟨w.heap.size, i, none⟩).isSome = true
        rw [World.cell?_alloc_new, Array.getElem?_eq_getElem (by omega)]
        rfl
      have hin1 := World.cell?_setCells_in w.heap.size [iv y] 0 (w.alloc (.cells ROW 3)).drew (fun j hj => by rw [Nat.zero_add]; exact hex0 j (by simp at hj; omega)) 0 (by simp)
      have hex1 : ∀ i, i < G → (((w.alloc (.cells ROW 3)).drew.setCells w.heap.size 0 [iv y]).drew.cell? ⟨w.heap.size, i, none⟩).isSome = true := fun i hi =>
        isSome_setCells w.heap.size [iv y] 0 (w.alloc (.cells ROW 3)).drew (fun t ht => by rw [Nat.zero_add]; exact hex0 t (by simp at ht; omega)) i (hex0 i hi)
      have hexs : ∀ j, j < (xs.map iv).length → (((w.alloc (.cells ROW 3)).drew.setCells w.heap.size 0 [iv y]).drew.cell? ⟨w.heap.size, 0 + 1 + j, none⟩).isSome = true := fun j hj => hex1 _ (by simp at hj; omega)
      have hin2 := World.cell?_setCells_in w.heap.size (xs.map iv) (0 + 1) ((w.alloc (.cells ROW 3)).drew.setCells w.heap.size 0 [iv y]).drew hexs
      have hfr : Fr (fun b => b = w.heap.size) w ((((w.alloc (.cells ROW 3)).drew.setCells w.heap.size 0 [iv y]).drew).setCells w.heap.size (0 + 1) (xs.map iv)) := by
        refine Fr.trans (Fr.trans (Fr.trans (Fr.trans (b := w.alloc (.cells ROW 3)) ?_ fr_drew) (fr_set rfl)) fr_drew) (fr_set rfl)
        exact ⟨rfl, rfl, rfl, by simp, fun k hk _ => Below.heap_alloc w _ _ hk⟩
      refine out ⟨w.heap.size, 0, false, xs.length + 1, G, none⟩ _ (mk_row ?_ ?_ (fun k hk => ?_) hge hle (fun i hi => ?_) (fun i => ?_)) (.inl (Nat.le_refl _)) ⟨hfr.os, hfr.tape, hfr.output, hfr.size, fun b hb _ => hfr.block b hb (by omega)⟩
      · rw [setCells_size]
        show w.heap.size < ((w.alloc (.cells ROW 3)).drew.setCells w.heap.size 0 [iv y]).heap.size
        rw [setCells_size]
        show w.heap.size < (w.alloc (.cells ROW 3)).heap.size
        simp
      · rw [World.cell?_setCells_out _ _ _ _ _ (fun _ _ => .inl (by simp))]
        simpa using hin1
      · rw [hin2 k (by simpa using hk)]
        simp [List.getD_eq_getElem?_getD, hk]
      · exact isSome_setCells _ _ _ _ hexs _ (hex1 (0 + i) (by omega))
      · rw [World.frozen?_setCells]
        show ((w.alloc (.cells ROW 3)).drew.setCells w.heap.size 0 [iv y]).frozen? _ = false
        rw [World.frozen?_setCells]
        exact World.frozen?_alloc_new w _ _ _
end Go.Proofs.Ytkpbkanbpjfadaa

