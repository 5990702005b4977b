/- The functions of the statements, as lists of plain steps (part 1). Written by the generator. -/
import Derived.Test.YtkpbkanbpjfadaaC4
import Derived.Shelf.Slices.Clone
import Derived.Shelf.Spec.SlicesInsertGrow
import Derived.Test.YtkpbkanbpjfadaaProg
namespace Go.Proofs.Ytkpbkanbpjfadaa
open Go Go.Sx
set_option maxRecDepth 100000
set_option maxHeartbeats 4000000

noncomputable def w102700 (x4 : Int) (x5 : Int) (x6 : Int) (x0 : List DV) (x18 : Int) (_x19 : Int) (_x20 : Int) (_x21 : Int) : Bool :=
  let x22 := decide (x18 < 3)
  let x23 := decide (x18 ≥ 0)
  let x24 := decide (x18 < 3)
  let x31 := decide (x18 ≥ 0)
  let x32 := decide (x18 < 3)
  let x33 := [x4, x5, x6].getD (Int.toNat x18) 0
  let x34 := decide (x33 ≥ 0)
  let x35 := decide (x18 ≥ 0)
  let x36 := decide (x18 < 3)
  let x37 := [x4, x5, x6].getD (Int.toNat x18) 0
  let x38 := decide (x37 ≤ 63)
  let x39 := x34 && x38
  let x40 := decide (x18 ≥ 0)
  let x41 := decide (x18 < 3)
  let x42 := [x4, x5, x6].getD (Int.toNat x18) 0
  let x43 := decide (x42 ≥ 0)
  let x44 := ((x0.length / 1 : Nat) : Int)
  let x45 := decide (x42 < x44)
  let x47 := decide (x18 ≥ 0)
  let x48 := decide (x18 < 3)
  [ow [(x22, true)] x23, ow [(x22, true)] x24, ow [(x22, true)] x31, ow [(x22, true)] x32, ow [(x22, true), (x34, true)] x35, ow [(x22, true), (x34, true)] x36, ow [(x22, true), (x39, true)] x40, ow [(x22, true), (x39, true)] x41, ow [(x22, true), (x39, true)] x43, ow [(x22, true), (x39, true)] x45, ow [(x22, true), (x39, true)] x47, ow [(x22, true), (x39, true)] x48].all id
noncomputable def c102700 (_x4 : Int) (_x5 : Int) (_x6 : Int) (_x0 : List DV) (x18 : Int) (_x19 : Int) (_x20 : Int) (_x21 : Int) : Bool :=
  let x22 := decide (x18 < 3)
  x22
noncomputable def n102700_0 (_x4 : Int) (_x5 : Int) (_x6 : Int) (_x0 : List DV) (x18 : Int) (_x19 : Int) (_x20 : Int) (_x21 : Int) : Int :=
  let x58 := IntKind.wrap .i64 (x18 + 1)
  x58
noncomputable def n102700_1 (x4 : Int) (x5 : Int) (x6 : Int) (x0 : List DV) (x18 : Int) (x19 : Int) (_x20 : Int) (_x21 : Int) : Int :=
  let x25 := x18 == 0
  let x26 := bif x25 then (-1) else x19
  let x33 := [x4, x5, x6].getD (Int.toNat x18) 0
  let x34 := decide (x33 ≥ 0)
  let x37 := [x4, x5, x6].getD (Int.toNat x18) 0
  let x38 := decide (x37 ≤ 63)
  let x39 := x34 && x38
  let x42 := [x4, x5, x6].getD (Int.toNat x18) 0
  let x46 : Int := (x0.getD (Int.toNat x42 * (1 : Nat) + (0 : Nat)) default).toI
  let x49 := x18 == 0
  let x50 := bif x49 then x46 else x26
  let x55 := bif x39 then x50 else x26
  x55
noncomputable def n102700_2 (x4 : Int) (x5 : Int) (x6 : Int) (x0 : List DV) (x18 : Int) (_x19 : Int) (x20 : Int) (_x21 : Int) : Int :=
  let x27 := x18 == 1
  let x28 := bif x27 then (-1) else x20
  let x33 := [x4, x5, x6].getD (Int.toNat x18) 0
  let x34 := decide (x33 ≥ 0)
  let x37 := [x4, x5, x6].getD (Int.toNat x18) 0
  let x38 := decide (x37 ≤ 63)
  let x39 := x34 && x38
  let x42 := [x4, x5, x6].getD (Int.toNat x18) 0
  let x46 : Int := (x0.getD (Int.toNat x42 * (1 : Nat) + (0 : Nat)) default).toI
  let x51 := x18 == 1
  let x52 := bif x51 then x46 else x28
  let x56 := bif x39 then x52 else x28
  x56
noncomputable def n102700_3 (x4 : Int) (x5 : Int) (x6 : Int) (x0 : List DV) (x18 : Int) (_x19 : Int) (_x20 : Int) (x21 : Int) : Int :=
  let x29 := x18 == 2
  let x30 := bif x29 then (-1) else x21
  let x33 := [x4, x5, x6].getD (Int.toNat x18) 0
  let x34 := decide (x33 ≥ 0)
  let x37 := [x4, x5, x6].getD (Int.toNat x18) 0
  let x38 := decide (x37 ≤ 63)
  let x39 := x34 && x38
  let x42 := [x4, x5, x6].getD (Int.toNat x18) 0
  let x46 : Int := (x0.getD (Int.toNat x42 * (1 : Nat) + (0 : Nat)) default).toI
  let x53 := x18 == 2
  let x54 := bif x53 then x46 else x30
  let x57 := bif x39 then x54 else x30
  x57
noncomputable def t102700_0 (_x4 : Int) (_x5 : Int) (_x6 : Int) (_x0 : List DV) (_x18 : Int) (_x19 : Int) (_x20 : Int) (_x21 : Int) : Int :=
  0
noncomputable def t102700_1 (_x4 : Int) (_x5 : Int) (_x6 : Int) (_x0 : List DV) (x18 : Int) (_x19 : Int) (_x20 : Int) (_x21 : Int) : Int :=
  x18
noncomputable def t102700_2 (_x4 : Int) (_x5 : Int) (_x6 : Int) (_x0 : List DV) (_x18 : Int) (x19 : Int) (_x20 : Int) (_x21 : Int) : Int :=
  x19
noncomputable def t102700_3 (_x4 : Int) (_x5 : Int) (_x6 : Int) (_x0 : List DV) (_x18 : Int) (_x19 : Int) (x20 : Int) (_x21 : Int) : Int :=
  x20
noncomputable def t102700_4 (_x4 : Int) (_x5 : Int) (_x6 : Int) (_x0 : List DV) (_x18 : Int) (_x19 : Int) (_x20 : Int) (x21 : Int) : Int :=
  x21
noncomputable def W102700 (ds : List DV) : Bool := w102700 (dget ds 0).toI (dget ds 1).toI (dget ds 2).toI (dget ds 3).toL (dget ds 4).toI (dget ds 5).toI (dget ds 6).toI (dget ds 7).toI
noncomputable def C102700 (ds : List DV) : Bool := c102700 (dget ds 0).toI (dget ds 1).toI (dget ds 2).toI (dget ds 3).toL (dget ds 4).toI (dget ds 5).toI (dget ds 6).toI (dget ds 7).toI
noncomputable def N102700 (ds : List DV) : List DV := [.i (dget ds 0).toI, .i (dget ds 1).toI, .i (dget ds 2).toI, .l (dget ds 3).toL, .i (n102700_0 (dget ds 0).toI (dget ds 1).toI (dget ds 2).toI (dget ds 3).toL (dget ds 4).toI (dget ds 5).toI (dget ds 6).toI (dget ds 7).toI), .i (n102700_1 (dget ds 0).toI (dget ds 1).toI (dget ds 2).toI (dget ds 3).toL (dget ds 4).toI (dget ds 5).toI (dget ds 6).toI (dget ds 7).toI), .i (n102700_2 (dget ds 0).toI (dget ds 1).toI (dget ds 2).toI (dget ds 3).toL (dget ds 4).toI (dget ds 5).toI (dget ds 6).toI (dget ds 7).toI), .i (n102700_3 (dget ds 0).toI (dget ds 1).toI (dget ds 2).toI (dget ds 3).toL (dget ds 4).toI (dget ds 5).toI (dget ds 6).toI (dget ds 7).toI)]
noncomputable def T102700 (ds : List DV) : List DV := [.i (t102700_0 (dget ds 0).toI (dget ds 1).toI (dget ds 2).toI (dget ds 3).toL (dget ds 4).toI (dget ds 5).toI (dget ds 6).toI (dget ds 7).toI), .i (t102700_1 (dget ds 0).toI (dget ds 1).toI (dget ds 2).toI (dget ds 3).toL (dget ds 4).toI (dget ds 5).toI (dget ds 6).toI (dget ds 7).toI), .i (t102700_2 (dget ds 0).toI (dget ds 1).toI (dget ds 2).toI (dget ds 3).toL (dget ds 4).toI (dget ds 5).toI (dget ds 6).toI (dget ds 7).toI), .i (t102700_3 (dget ds 0).toI (dget ds 1).toI (dget ds 2).toI (dget ds 3).toL (dget ds 4).toI (dget ds 5).toI (dget ds 6).toI (dget ds 7).toI), .i (t102700_4 (dget ds 0).toI (dget ds 1).toI (dget ds 2).toI (dget ds 3).toL (dget ds 4).toI (dget ds 5).toI (dget ds 6).toI (dget ds 7).toI)]
noncomputable def L102700 (x0 : Int) (x1 : Int) (x2 : Int) (x3 : List DV) (x4 : Int) (x5 : Int) (x6 : Int) (x7 : Int) : Option (List DV) := loopG W102700 C102700 N102700 T102700 [.i x0, .i x1, .i x2, .l x3, .i x4, .i x5, .i x6, .i x7]
noncomputable def p102700 (x0 : Int) (x1 : Int) (x2 : Int) (x3 : List DV) (x4 : Int) (x5 : Int) (x6 : Int) (x7 : Int) : Bool := (L102700 x0 x1 x2 x3 x4 x5 x6 x7).isSome
noncomputable def r102700_0 (x0 : Int) (x1 : Int) (x2 : Int) (x3 : List DV) (x4 : Int) (x5 : Int) (x6 : Int) (x7 : Int) : Int := (dget ((L102700 x0 x1 x2 x3 x4 x5 x6 x7).getD []) 0).toI
noncomputable def r102700_1 (x0 : Int) (x1 : Int) (x2 : Int) (x3 : List DV) (x4 : Int) (x5 : Int) (x6 : Int) (x7 : Int) : Int := (dget ((L102700 x0 x1 x2 x3 x4 x5 x6 x7).getD []) 1).toI
noncomputable def r102700_2 (x0 : Int) (x1 : Int) (x2 : Int) (x3 : List DV) (x4 : Int) (x5 : Int) (x6 : Int) (x7 : Int) : Int := (dget ((L102700 x0 x1 x2 x3 x4 x5 x6 x7).getD []) 2).toI
noncomputable def r102700_3 (x0 : Int) (x1 : Int) (x2 : Int) (x3 : List DV) (x4 : Int) (x5 : Int) (x6 : Int) (x7 : Int) : Int := (dget ((L102700 x0 x1 x2 x3 x4 x5 x6 x7).getD []) 3).toI
noncomputable def r102700_4 (x0 : Int) (x1 : Int) (x2 : Int) (x3 : List DV) (x4 : Int) (x5 : Int) (x6 : Int) (x7 : Int) : Int := (dget ((L102700 x0 x1 x2 x3 x4 x5 x6 x7).getD []) 4).toI
noncomputable def g102700 (ds : List DV) : List DV := [.b (p102700 (dget ds 0).toI (dget ds 1).toI (dget ds 2).toI (dget ds 3).toL (dget ds 4).toI (dget ds 5).toI (dget ds 6).toI (dget ds 7).toI), .i (r102700_0 (dget ds 0).toI (dget ds 1).toI (dget ds 2).toI (dget ds 3).toL (dget ds 4).toI (dget ds 5).toI (dget ds 6).toI (dget ds 7).toI), .i (r102700_1 (dget ds 0).toI (dget ds 1).toI (dget ds 2).toI (dget ds 3).toL (dget ds 4).toI (dget ds 5).toI (dget ds 6).toI (dget ds 7).toI), .i (r102700_2 (dget ds 0).toI (dget ds 1).toI (dget ds 2).toI (dget ds 3).toL (dget ds 4).toI (dget ds 5).toI (dget ds 6).toI (dget ds 7).toI), .i (r102700_3 (dget ds 0).toI (dget ds 1).toI (dget ds 2).toI (dget ds 3).toL (dget ds 4).toI (dget ds 5).toI (dget ds 6).toI (dget ds 7).toI), .i (r102700_4 (dget ds 0).toI (dget ds 1).toI (dget ds 2).toI (dget ds 3).toL (dget ds 4).toI (dget ds 5).toI (dget ds 6).toI (dget ds 7).toI)]
noncomputable def g27 (ds : List DV) : List DV :=
  let x0 : List DV := (dget ds 0).toL
  let x1 : List DV := (dget ds 1).toL
  let x2 : List DV := (dget ds 2).toL
  let x3 : Int := (dget ds 3).toI
  let x4 : Int := (dget ds 4).toI
  let x5 : Int := (dget ds 5).toI
  let x6 : Int := (dget ds 6).toI
  let x7 : Int := (dget ds 7).toI
  let x8 := ige x7 1
  let x9 := ile x7 63
  let x10 := x8 && x9
  let x11 := ((x2.length / 5 : Nat) : Int)
  let x12 := x11 == 16
  let x13 := ((x1.length / 1 : Nat) : Int)
  let x14 := x13 == 0
  let x15 := x10 && x14
  let x16 := x12 || x15
  let x17 := !x16
  let y18 : List DV := g102700 [.i x4, .i x5, .i x6, .l x0, .i 0, .i 0, .i 0, .i 0]
  let x18 : Bool := (dget y18 0).toB
  let x21 : Int := (dget y18 3).toI
  let x22 : Int := (dget y18 4).toI
  let x23 : Int := (dget y18 5).toI
  let x24 := ((x1.length / 1 : Nat) : Int)
  let x25 := decide (0 < x24)
  let x26 : Int := (x1.getD (Int.toNat 0 * (1 : Nat) + (0 : Nat)) default).toI
  let x27 := ige x7 0
  let x28 := ((x0.length / 1 : Nat) : Int)
  let x29 := ilt x7 x28
  let x30 : Int := (x0.getD (Int.toNat x7 * (1 : Nat) + (0 : Nat)) default).toI
  let x31 := ige x7 0
  let x32 := ((x0.length / 1 : Nat) : Int)
  let x33 := ilt x7 x32
  let x34 : List DV := x0.set (Int.toNat x7 * (1 : Nat) + (0 : Nat)) (.i x26)
  let x35 : List DV := []
  let x36 := ((x1.length / 1 : Nat) : Int)
  let x37 := decide (1 ≤ x36)
  let x38 := x1.drop (Int.toNat 1 * 1)
  let x39 := x35 ++ x38
  let x40 := ((x39.length / 1 : Nat) : Int)
  let x41 := decide (x40 ≤ 7818749353073)
  let x42 := bif x10 then x34 else x0
  let x43 := bif x10 then x39 else x1
  let x44 := bif x10 then x26 else (-1)
  let x45 := bif x10 then x30 else (-1)
  let x46 := bif x10 then x7 else 0
  let x47 := bif x10 then x26 else 0
  let x48 := bif x10 then x30 else 0
  let x49 : List DV := []
  let x50 := x49 ++ x2
  let x51 := ((x50.length / 5 : Nat) : Int)
  let x52 := decide (x51 ≤ 1716310833601)
  let x53 : List DV := [.i x3, .i x46, .i x47, .i x48, .b false]
  let x54 := x50 ++ x53
  let x55 := ((x54.length / 5 : Nat) : Int)
  let x56 := decide (x55 ≤ 1716310833601)
  let x57 := IntKind.wrap .i64 (x3 + 1)
  let x58 := Int.tmod x57 16
  let x59 := bif x17 then x21 else 0
  let x60 := bif x17 then x22 else 0
  let x61 := bif x17 then x23 else 0
  let x62 := bif x17 then x44 else 0
  let x63 := bif x17 then x45 else 0
  let x64 := bif x17 then x3 else 0
  let x65 := bif x17 then x42 else x0
  let x66 := bif x17 then x43 else x1
  let x67 := bif x17 then x54 else x2
  let x68 := bif x17 then x58 else x3
  [.b ([ow [(x17, true)] x18, ow [(x17, true), (x10, true)] x25, ow [(x17, true), (x10, true)] x27, ow [(x17, true), (x10, true)] x29, ow [(x17, true), (x10, true)] x31, ow [(x17, true), (x10, true)] x33, ow [(x17, true), (x10, true)] x37, ow [(x17, true), (x10, true)] x41, ow [(x17, true)] x52, ow [(x17, true)] x56].all id), .i x59, .i x60, .i x61, .i x62, .i x63, .i x64, .b x17, .l x65, .i x68, .l x66, .l x67]
noncomputable def W101200 (ds : List DV) : Bool :=
  let x4 : List DV := (dget ds 0).toL
  let x6 : List DV := (dget ds 2).toL
  let x7 : Int := (dget ds 3).toI
  let x11 : List DV := (dget ds 7).toL
  let x12 : List DV := (dget ds 8).toL
  let x13 : List DV := (dget ds 9).toL
  let x14 : Int := (dget ds 10).toI
  let x16 := ((x4.length / 4 : Nat) : Int)
  let x17 := ilt x7 x16
  let x18 := ige x7 0
  let x19 := ((x4.length / 4 : Nat) : Int)
  let x20 := ilt x7 x19
  let x21 : Int := (x4.getD (Int.toNat x7 * (4 : Nat) + (0 : Nat)) default).toI
  let x22 : Int := (x4.getD (Int.toNat x7 * (4 : Nat) + (1 : Nat)) default).toI
  let x23 : Int := (x4.getD (Int.toNat x7 * (4 : Nat) + (2 : Nat)) default).toI
  let x24 : Int := (x4.getD (Int.toNat x7 * (4 : Nat) + (3 : Nat)) default).toI
  let y25 : List DV := g27 [.l x11, .l x12, .l x13, .i x14, .i x21, .i x22, .i x23, .i x24]
  let x25 : Bool := (dget y25 0).toB
  let x26 : Int := (dget y25 1).toI
  let x27 : Int := (dget y25 2).toI
  let x28 : Int := (dget y25 3).toI
  let x29 : Int := (dget y25 4).toI
  let x30 : Int := (dget y25 5).toI
  let x31 : Int := (dget y25 6).toI
  let x32 : Bool := (dget y25 7).toB
  let x37 := !x32
  let x38 := !x37
  let x39 : List DV := [.i x26, .i x27, .i x28, .i x29, .i x30, .i x31]
  let x40 := x6 ++ x39
  let x41 := ((x40.length / 6 : Nat) : Int)
  let x42 := decide (x41 ≤ 1436096819952)
  [ow [(x17, true)] x18, ow [(x17, true)] x20, ow [(x17, true)] x25, ow [(x17, true), (x38, true)] x42].all id
noncomputable def C101200 (ds : List DV) : Bool :=
  let x4 : List DV := (dget ds 0).toL
  let x7 : Int := (dget ds 3).toI
  let x11 : List DV := (dget ds 7).toL
  let x12 : List DV := (dget ds 8).toL
  let x13 : List DV := (dget ds 9).toL
  let x14 : Int := (dget ds 10).toI
  let x16 := ((x4.length / 4 : Nat) : Int)
  let x17 := ilt x7 x16
  let x21 : Int := (x4.getD (Int.toNat x7 * (4 : Nat) + (0 : Nat)) default).toI
  let x22 : Int := (x4.getD (Int.toNat x7 * (4 : Nat) + (1 : Nat)) default).toI
  let x23 : Int := (x4.getD (Int.toNat x7 * (4 : Nat) + (2 : Nat)) default).toI
  let x24 : Int := (x4.getD (Int.toNat x7 * (4 : Nat) + (3 : Nat)) default).toI
  let y32 : List DV := g27 [.l x11, .l x12, .l x13, .i x14, .i x21, .i x22, .i x23, .i x24]
  let x32 : Bool := (dget y32 7).toB
  let x37 := !x32
  let x38 := !x37
  let x44 := x17 && x38
  x44
noncomputable def N101200 (ds : List DV) : List DV :=
  let x4 : List DV := (dget ds 0).toL
  let x0 : List DV := (dget ds 1).toL
  let x6 : List DV := (dget ds 2).toL
  let x7 : Int := (dget ds 3).toI
  let x11 : List DV := (dget ds 7).toL
  let x12 : List DV := (dget ds 8).toL
  let x13 : List DV := (dget ds 9).toL
  let x14 : Int := (dget ds 10).toI
  let x21 : Int := (x4.getD (Int.toNat x7 * (4 : Nat) + (0 : Nat)) default).toI
  let x22 : Int := (x4.getD (Int.toNat x7 * (4 : Nat) + (1 : Nat)) default).toI
  let x23 : Int := (x4.getD (Int.toNat x7 * (4 : Nat) + (2 : Nat)) default).toI
  let x24 : Int := (x4.getD (Int.toNat x7 * (4 : Nat) + (3 : Nat)) default).toI
  let y26 : List DV := g27 [.l x11, .l x12, .l x13, .i x14, .i x21, .i x22, .i x23, .i x24]
  let x26 : Int := (dget y26 1).toI
  let x27 : Int := (dget y26 2).toI
  let x28 : Int := (dget y26 3).toI
  let x29 : Int := (dget y26 4).toI
  let x30 : Int := (dget y26 5).toI
  let x31 : Int := (dget y26 6).toI
  let x33 : List DV := (dget y26 8).toL
  let x34 : Int := (dget y26 9).toI
  let x35 : List DV := (dget y26 10).toL
  let x36 : List DV := (dget y26 11).toL
  let x39 : List DV := [.i x26, .i x27, .i x28, .i x29, .i x30, .i x31]
  let x40 := x6 ++ x39
  let x43 := IntKind.wrap .i64 (x7 + 1)
  [.l (dget ds 0).toL, .l (dget ds 1).toL, .l x40, .i x43, .l x0, .l x0, .l x0, .l x33, .l x35, .l x36, .i x34, .l x0]
noncomputable def T101200 (ds : List DV) : List DV :=
  let x4 : List DV := (dget ds 0).toL
  let x0 : List DV := (dget ds 1).toL
  let x6 : List DV := (dget ds 2).toL
  let x7 : Int := (dget ds 3).toI
  let x11 : List DV := (dget ds 7).toL
  let x12 : List DV := (dget ds 8).toL
  let x13 : List DV := (dget ds 9).toL
  let x14 : Int := (dget ds 10).toI
  let x16 := ((x4.length / 4 : Nat) : Int)
  let x17 := ilt x7 x16
  let x21 : Int := (x4.getD (Int.toNat x7 * (4 : Nat) + (0 : Nat)) default).toI
  let x22 : Int := (x4.getD (Int.toNat x7 * (4 : Nat) + (1 : Nat)) default).toI
  let x23 : Int := (x4.getD (Int.toNat x7 * (4 : Nat) + (2 : Nat)) default).toI
  let x24 : Int := (x4.getD (Int.toNat x7 * (4 : Nat) + (3 : Nat)) default).toI
  let y33 : List DV := g27 [.l x11, .l x12, .l x13, .i x14, .i x21, .i x22, .i x23, .i x24]
  let x33 : List DV := (dget y33 8).toL
  let x34 : Int := (dget y33 9).toI
  let x35 : List DV := (dget y33 10).toL
  let x36 : List DV := (dget y33 11).toL
  let x45 : Int := bif x17 then 0 else 1
  let x46 := bif x17 then x33 else x11
  let x47 := bif x17 then x35 else x12
  let x48 := bif x17 then x36 else x13
  let x49 := bif x17 then x34 else x14
  [.i x45, .l x6, .i x7, .l x0, .l x0, .l x0, .l x46, .l x47, .l x48, .i x49, .l x0]
noncomputable def g101200 (ds : List DV) : List DV := wrapG [.i, .l, .i, .l, .l, .l, .l, .l, .l, .i, .l] (loopG W101200 C101200 N101200 T101200 (nrms [.l, .l, .l, .i, .l, .l, .l, .l, .l, .l, .i, .l] ds))
noncomputable def p12 (x0 : List DV) (x1 : List DV) (x2 : List DV) (x3 : Int) (x4 : List DV) : Bool :=
  let x5 : List DV := []
  let y6 : List DV := g101200 [.l x4, .l x0, .l x5, .i 0, .l x0, .l x0, .l x0, .l x0, .l x1, .l x2, .i x3, .l x0]
  let x6 : Bool := (dget y6 0).toB
  [ow [] x6].all id
noncomputable def r12_0 (x0 : List DV) (x1 : List DV) (x2 : List DV) (x3 : Int) (x4 : List DV) : Int :=
  let x5 : List DV := []
  let y16 : List DV := g101200 [.l x4, .l x0, .l x5, .i 0, .l x0, .l x0, .l x0, .l x0, .l x1, .l x2, .i x3, .l x0]
  let x16 : Int := (dget y16 10).toI
  x16
noncomputable def r12_1 (x0 : List DV) (x1 : List DV) (x2 : List DV) (x3 : Int) (x4 : List DV) : List DV :=
  let x5 : List DV := []
  let y8 : List DV := g101200 [.l x4, .l x0, .l x5, .i 0, .l x0, .l x0, .l x0, .l x0, .l x1, .l x2, .i x3, .l x0]
  let x8 : List DV := (dget y8 2).toL
  x8
noncomputable def r12_2 (x0 : List DV) (x1 : List DV) (x2 : List DV) (x3 : Int) (x4 : List DV) : List DV :=
  let x5 : List DV := []
  let y13 : List DV := g101200 [.l x4, .l x0, .l x5, .i 0, .l x0, .l x0, .l x0, .l x0, .l x1, .l x2, .i x3, .l x0]
  let x13 : List DV := (dget y13 7).toL
  x13
noncomputable def r12_3 (x0 : List DV) (x1 : List DV) (x2 : List DV) (x3 : Int) (x4 : List DV) : List DV :=
  let x5 : List DV := []
  let y14 : List DV := g101200 [.l x4, .l x0, .l x5, .i 0, .l x0, .l x0, .l x0, .l x0, .l x1, .l x2, .i x3, .l x0]
  let x14 : List DV := (dget y14 8).toL
  x14
noncomputable def r12_4 (x0 : List DV) (x1 : List DV) (x2 : List DV) (x3 : Int) (x4 : List DV) : List DV :=
  let x5 : List DV := []
  let y15 : List DV := g101200 [.l x4, .l x0, .l x5, .i 0, .l x0, .l x0, .l x0, .l x0, .l x1, .l x2, .i x3, .l x0]
  let x15 : List DV := (dget y15 9).toL
  x15
noncomputable def g12 (ds : List DV) : List DV := [.b (p12 (dget ds 0).toL (dget ds 1).toL (dget ds 2).toL (dget ds 3).toI (dget ds 4).toL), .i (r12_0 (dget ds 0).toL (dget ds 1).toL (dget ds 2).toL (dget ds 3).toI (dget ds 4).toL), .l (r12_1 (dget ds 0).toL (dget ds 1).toL (dget ds 2).toL (dget ds 3).toI (dget ds 4).toL), .l (r12_2 (dget ds 0).toL (dget ds 1).toL (dget ds 2).toL (dget ds 3).toI (dget ds 4).toL), .l (r12_3 (dget ds 0).toL (dget ds 1).toL (dget ds 2).toL (dget ds 3).toI (dget ds 4).toL), .l (r12_4 (dget ds 0).toL (dget ds 1).toL (dget ds 2).toL (dget ds 3).toI (dget ds 4).toL)]
noncomputable def p15 (x2 : List DV) (x4 : Int) : Bool :=
  let x5 := p29 x2 x4
  let x6 := r29_0 x2 x4
  let x7 := decide (x6 < 0)
  let x8 := decide (x6 ≥ 0)
  let x9 := ((x2.length / 5 : Nat) : Int)
  let x10 := decide (x6 < x9)
  let x11 : Bool := (x2.getD (Int.toNat x6 * (5 : Nat) + (4 : Nat)) default).toB
  let x12 := x7 || x11
  let x13 := !x12
  let x14 := decide (x6 ≥ 0)
  let x15 := ((x2.length / 5 : Nat) : Int)
  let x16 := decide (x6 < x15)
  [ow [] x5, ow [(x7, false)] x8, ow [(x7, false)] x10, ow [(x13, true)] x14, ow [(x13, true)] x16].all id
noncomputable def r15_0 (x2 : List DV) (x4 : Int) : Bool :=
  let x6 := r29_0 x2 x4
  let x7 := decide (x6 < 0)
  let x11 : Bool := (x2.getD (Int.toNat x6 * (5 : Nat) + (4 : Nat)) default).toB
  let x12 := x7 || x11
  let x13 := !x12
  x13
noncomputable def r15_1 (x0 : List DV) : List DV :=
  x0
noncomputable def r15_2 (x1 : List DV) : List DV :=
  x1
noncomputable def r15_3 (x2 : List DV) (x4 : Int) : List DV :=
  let x6 := r29_0 x2 x4
  let x7 := decide (x6 < 0)
  let x11 : Bool := (x2.getD (Int.toNat x6 * (5 : Nat) + (4 : Nat)) default).toB
  let x12 := x7 || x11
  let x13 := !x12
  let x17 : List DV := x2.set (Int.toNat x6 * (5 : Nat) + (4 : Nat)) (.b true)
  let x18 := bif x13 then x17 else x2
  x18
noncomputable def r15_4 (x3 : Int) : Int :=
  x3
noncomputable def g15 (ds : List DV) : List DV := [.b (p15 (dget ds 2).toL (dget ds 4).toI), .b (r15_0 (dget ds 2).toL (dget ds 4).toI), .l (r15_1 (dget ds 0).toL), .l (r15_2 (dget ds 1).toL), .l (r15_3 (dget ds 2).toL (dget ds 4).toI), .i (r15_4 (dget ds 3).toI)]
noncomputable def w101700 (x4 : Int) (_x0 : List DV) (x6 : List DV) (_x7 : List DV) (_x8 : List DV) (x9 : List DV) (x10 : List DV) (_x11 : List DV) : Bool :=
  let x12 := ((x6.length / 1 : Nat) : Int)
  let x13 := decide (x12 < x4)
  let x14 := ((x10.length / 5 : Nat) : Int)
  let x15 := decide (x14 > 0)
  let x16 := x13 && x15
  let x17 := ((x10.length / 5 : Nat) : Int)
  let x18 := decide (0 < x17)
  let x19 : Bool := (x10.getD (Int.toNat 0 * (5 : Nat) + (4 : Nat)) default).toB
  let x20 := x16 && x19
  let x21 := ((x10.length / 5 : Nat) : Int)
  let x22 := decide (0 < x21)
  let x23 : Int := (x10.getD (Int.toNat 0 * (5 : Nat) + (0 : Nat)) default).toI
  let x24 : Int := (x10.getD (Int.toNat 0 * (5 : Nat) + (1 : Nat)) default).toI
  let x26 : Int := (x10.getD (Int.toNat 0 * (5 : Nat) + (3 : Nat)) default).toI
  let x28 := igt x24 0
  let x29 : List DV := []
  let x30 := x29 ++ x9
  let x31 := ((x30.length / 1 : Nat) : Int)
  let x32 := decide (x31 ≤ 7818749353073)
  let x33 : List DV := [.i x26]
  let x34 := x30 ++ x33
  let x35 := ((x34.length / 1 : Nat) : Int)
  let x36 := decide (x35 ≤ 7818749353073)
  let x38 : List DV := [.i x23]
  let x39 := x6 ++ x38
  let x40 := ((x39.length / 1 : Nat) : Int)
  let x41 := decide (x40 ≤ 7818749353073)
  let x42 : List DV := []
  let x43 := ((x10.length / 5 : Nat) : Int)
  let x44 := decide (1 ≤ x43)
  let x45 := x10.drop (Int.toNat 1 * 5)
  let x46 := x42 ++ x45
  let x47 := ((x46.length / 5 : Nat) : Int)
  let x48 := decide (x47 ≤ 1716310833601)
  [ow [(x16, true)] x18, ow [(x20, true)] x22, ow [(x20, true), (x28, true)] x32, ow [(x20, true), (x28, true)] x36, ow [(x20, true)] x41, ow [(x20, true)] x44, ow [(x20, true)] x48].all id
noncomputable def c101700 (x4 : Int) (_x0 : List DV) (x6 : List DV) (_x7 : List DV) (_x8 : List DV) (_x9 : List DV) (x10 : List DV) (_x11 : List DV) : Bool :=
  let x12 := ((x6.length / 1 : Nat) : Int)
  let x13 := decide (x12 < x4)
  let x14 := ((x10.length / 5 : Nat) : Int)
  let x15 := decide (x14 > 0)
  let x16 := x13 && x15
  let x19 : Bool := (x10.getD (Int.toNat 0 * (5 : Nat) + (4 : Nat)) default).toB
  let x20 := x16 && x19
  x20
noncomputable def n101700_0 (_x4 : Int) (_x0 : List DV) (x6 : List DV) (_x7 : List DV) (_x8 : List DV) (_x9 : List DV) (x10 : List DV) (_x11 : List DV) : List DV :=
  let x23 : Int := (x10.getD (Int.toNat 0 * (5 : Nat) + (0 : Nat)) default).toI
  let x38 : List DV := [.i x23]
  let x39 := x6 ++ x38
  x39
noncomputable def n101700_1 (_x4 : Int) (x0 : List DV) (_x6 : List DV) (_x7 : List DV) (_x8 : List DV) (_x9 : List DV) (_x10 : List DV) (_x11 : List DV) : List DV :=
  x0
noncomputable def n101700_2 (_x4 : Int) (x0 : List DV) (_x6 : List DV) (_x7 : List DV) (_x8 : List DV) (_x9 : List DV) (_x10 : List DV) (_x11 : List DV) : List DV :=
  x0
noncomputable def n101700_3 (_x4 : Int) (_x0 : List DV) (_x6 : List DV) (_x7 : List DV) (_x8 : List DV) (x9 : List DV) (x10 : List DV) (_x11 : List DV) : List DV :=
  let x24 : Int := (x10.getD (Int.toNat 0 * (5 : Nat) + (1 : Nat)) default).toI
  let x26 : Int := (x10.getD (Int.toNat 0 * (5 : Nat) + (3 : Nat)) default).toI
  let x28 := igt x24 0
  let x29 : List DV := []
  let x30 := x29 ++ x9
  let x33 : List DV := [.i x26]
  let x34 := x30 ++ x33
  let x37 := bif x28 then x34 else x9
  x37
noncomputable def n101700_4 (_x4 : Int) (_x0 : List DV) (_x6 : List DV) (_x7 : List DV) (_x8 : List DV) (_x9 : List DV) (x10 : List DV) (_x11 : List DV) : List DV :=
  let x42 : List DV := []
  let x45 := x10.drop (Int.toNat 1 * 5)
  let x46 := x42 ++ x45
  x46
noncomputable def n101700_5 (_x4 : Int) (x0 : List DV) (_x6 : List DV) (_x7 : List DV) (_x8 : List DV) (_x9 : List DV) (_x10 : List DV) (_x11 : List DV) : List DV :=
  x0
noncomputable def t101700_0 (_x4 : Int) (_x0 : List DV) (_x6 : List DV) (_x7 : List DV) (_x8 : List DV) (_x9 : List DV) (_x10 : List DV) (_x11 : List DV) : Int :=
  0
noncomputable def t101700_1 (_x4 : Int) (_x0 : List DV) (x6 : List DV) (_x7 : List DV) (_x8 : List DV) (_x9 : List DV) (_x10 : List DV) (_x11 : List DV) : List DV :=
  x6
noncomputable def t101700_2 (_x4 : Int) (x0 : List DV) (_x6 : List DV) (_x7 : List DV) (_x8 : List DV) (_x9 : List DV) (_x10 : List DV) (_x11 : List DV) : List DV :=
  x0
noncomputable def t101700_3 (_x4 : Int) (x0 : List DV) (_x6 : List DV) (_x7 : List DV) (_x8 : List DV) (_x9 : List DV) (_x10 : List DV) (_x11 : List DV) : List DV :=
  x0
noncomputable def t101700_4 (_x4 : Int) (_x0 : List DV) (_x6 : List DV) (_x7 : List DV) (_x8 : List DV) (x9 : List DV) (_x10 : List DV) (_x11 : List DV) : List DV :=
  x9
noncomputable def t101700_5 (_x4 : Int) (_x0 : List DV) (_x6 : List DV) (_x7 : List DV) (_x8 : List DV) (_x9 : List DV) (x10 : List DV) (_x11 : List DV) : List DV :=
  x10
noncomputable def t101700_6 (_x4 : Int) (x0 : List DV) (_x6 : List DV) (_x7 : List DV) (_x8 : List DV) (_x9 : List DV) (_x10 : List DV) (_x11 : List DV) : List DV :=
  x0
noncomputable def W101700 (ds : List DV) : Bool := w101700 (dget ds 0).toI (dget ds 1).toL (dget ds 2).toL (dget ds 3).toL (dget ds 4).toL (dget ds 5).toL (dget ds 6).toL (dget ds 7).toL
noncomputable def C101700 (ds : List DV) : Bool := c101700 (dget ds 0).toI (dget ds 1).toL (dget ds 2).toL (dget ds 3).toL (dget ds 4).toL (dget ds 5).toL (dget ds 6).toL (dget ds 7).toL
noncomputable def N101700 (ds : List DV) : List DV := [.i (dget ds 0).toI, .l (dget ds 1).toL, .l (n101700_0 (dget ds 0).toI (dget ds 1).toL (dget ds 2).toL (dget ds 3).toL (dget ds 4).toL (dget ds 5).toL (dget ds 6).toL (dget ds 7).toL), .l (n101700_1 (dget ds 0).toI (dget ds 1).toL (dget ds 2).toL (dget ds 3).toL (dget ds 4).toL (dget ds 5).toL (dget ds 6).toL (dget ds 7).toL), .l (n101700_2 (dget ds 0).toI (dget ds 1).toL (dget ds 2).toL (dget ds 3).toL (dget ds 4).toL (dget ds 5).toL (dget ds 6).toL (dget ds 7).toL), .l (n101700_3 (dget ds 0).toI (dget ds 1).toL (dget ds 2).toL (dget ds 3).toL (dget ds 4).toL (dget ds 5).toL (dget ds 6).toL (dget ds 7).toL), .l (n101700_4 (dget ds 0).toI (dget ds 1).toL (dget ds 2).toL (dget ds 3).toL (dget ds 4).toL (dget ds 5).toL (dget ds 6).toL (dget ds 7).toL), .l (n101700_5 (dget ds 0).toI (dget ds 1).toL (dget ds 2).toL (dget ds 3).toL (dget ds 4).toL (dget ds 5).toL (dget ds 6).toL (dget ds 7).toL)]
noncomputable def T101700 (ds : List DV) : List DV := [.i (t101700_0 (dget ds 0).toI (dget ds 1).toL (dget ds 2).toL (dget ds 3).toL (dget ds 4).toL (dget ds 5).toL (dget ds 6).toL (dget ds 7).toL), .l (t101700_1 (dget ds 0).toI (dget ds 1).toL (dget ds 2).toL (dget ds 3).toL (dget ds 4).toL (dget ds 5).toL (dget ds 6).toL (dget ds 7).toL), .l (t101700_2 (dget ds 0).toI (dget ds 1).toL (dget ds 2).toL (dget ds 3).toL (dget ds 4).toL (dget ds 5).toL (dget ds 6).toL (dget ds 7).toL), .l (t101700_3 (dget ds 0).toI (dget ds 1).toL (dget ds 2).toL (dget ds 3).toL (dget ds 4).toL (dget ds 5).toL (dget ds 6).toL (dget ds 7).toL), .l (t101700_4 (dget ds 0).toI (dget ds 1).toL (dget ds 2).toL (dget ds 3).toL (dget ds 4).toL (dget ds 5).toL (dget ds 6).toL (dget ds 7).toL), .l (t101700_5 (dget ds 0).toI (dget ds 1).toL (dget ds 2).toL (dget ds 3).toL (dget ds 4).toL (dget ds 5).toL (dget ds 6).toL (dget ds 7).toL), .l (t101700_6 (dget ds 0).toI (dget ds 1).toL (dget ds 2).toL (dget ds 3).toL (dget ds 4).toL (dget ds 5).toL (dget ds 6).toL (dget ds 7).toL)]
noncomputable def L101700 (x0 : Int) (x1 : List DV) (x2 : List DV) (x3 : List DV) (x4 : List DV) (x5 : List DV) (x6 : List DV) (x7 : List DV) : Option (List DV) := loopG W101700 C101700 N101700 T101700 [.i x0, .l x1, .l x2, .l x3, .l x4, .l x5, .l x6, .l x7]
noncomputable def p101700 (x0 : Int) (x1 : List DV) (x2 : List DV) (x3 : List DV) (x4 : List DV) (x5 : List DV) (x6 : List DV) (x7 : List DV) : Bool := (L101700 x0 x1 x2 x3 x4 x5 x6 x7).isSome
noncomputable def r101700_0 (x0 : Int) (x1 : List DV) (x2 : List DV) (x3 : List DV) (x4 : List DV) (x5 : List DV) (x6 : List DV) (x7 : List DV) : Int := (dget ((L101700 x0 x1 x2 x3 x4 x5 x6 x7).getD []) 0).toI
noncomputable def r101700_1 (x0 : Int) (x1 : List DV) (x2 : List DV) (x3 : List DV) (x4 : List DV) (x5 : List DV) (x6 : List DV) (x7 : List DV) : List DV := (dget ((L101700 x0 x1 x2 x3 x4 x5 x6 x7).getD []) 1).toL
noncomputable def r101700_2 (x0 : Int) (x1 : List DV) (x2 : List DV) (x3 : List DV) (x4 : List DV) (x5 : List DV) (x6 : List DV) (x7 : List DV) : List DV := (dget ((L101700 x0 x1 x2 x3 x4 x5 x6 x7).getD []) 2).toL
noncomputable def r101700_3 (x0 : Int) (x1 : List DV) (x2 : List DV) (x3 : List DV) (x4 : List DV) (x5 : List DV) (x6 : List DV) (x7 : List DV) : List DV := (dget ((L101700 x0 x1 x2 x3 x4 x5 x6 x7).getD []) 3).toL
noncomputable def r101700_4 (x0 : Int) (x1 : List DV) (x2 : List DV) (x3 : List DV) (x4 : List DV) (x5 : List DV) (x6 : List DV) (x7 : List DV) : List DV := (dget ((L101700 x0 x1 x2 x3 x4 x5 x6 x7).getD []) 4).toL
noncomputable def r101700_5 (x0 : Int) (x1 : List DV) (x2 : List DV) (x3 : List DV) (x4 : List DV) (x5 : List DV) (x6 : List DV) (x7 : List DV) : List DV := (dget ((L101700 x0 x1 x2 x3 x4 x5 x6 x7).getD []) 5).toL
noncomputable def r101700_6 (x0 : Int) (x1 : List DV) (x2 : List DV) (x3 : List DV) (x4 : List DV) (x5 : List DV) (x6 : List DV) (x7 : List DV) : List DV := (dget ((L101700 x0 x1 x2 x3 x4 x5 x6 x7).getD []) 6).toL
noncomputable def g101700 (ds : List DV) : List DV := [.b (p101700 (dget ds 0).toI (dget ds 1).toL (dget ds 2).toL (dget ds 3).toL (dget ds 4).toL (dget ds 5).toL (dget ds 6).toL (dget ds 7).toL), .i (r101700_0 (dget ds 0).toI (dget ds 1).toL (dget ds 2).toL (dget ds 3).toL (dget ds 4).toL (dget ds 5).toL (dget ds 6).toL (dget ds 7).toL), .l (r101700_1 (dget ds 0).toI (dget ds 1).toL (dget ds 2).toL (dget ds 3).toL (dget ds 4).toL (dget ds 5).toL (dget ds 6).toL (dget ds 7).toL), .l (r101700_2 (dget ds 0).toI (dget ds 1).toL (dget ds 2).toL (dget ds 3).toL (dget ds 4).toL (dget ds 5).toL (dget ds 6).toL (dget ds 7).toL), .l (r101700_3 (dget ds 0).toI (dget ds 1).toL (dget ds 2).toL (dget ds 3).toL (dget ds 4).toL (dget ds 5).toL (dget ds 6).toL (dget ds 7).toL), .l (r101700_4 (dget ds 0).toI (dget ds 1).toL (dget ds 2).toL (dget ds 3).toL (dget ds 4).toL (dget ds 5).toL (dget ds 6).toL (dget ds 7).toL), .l (r101700_5 (dget ds 0).toI (dget ds 1).toL (dget ds 2).toL (dget ds 3).toL (dget ds 4).toL (dget ds 5).toL (dget ds 6).toL (dget ds 7).toL), .l (r101700_6 (dget ds 0).toI (dget ds 1).toL (dget ds 2).toL (dget ds 3).toL (dget ds 4).toL (dget ds 5).toL (dget ds 6).toL (dget ds 7).toL)]
noncomputable def p17 (x0 : List DV) (x1 : List DV) (x2 : List DV) (x4 : Int) : Bool :=
  let x5 : List DV := []
  let y6 : List DV := g101700 [.i x4, .l x0, .l x5, .l x0, .l x0, .l x1, .l x2, .l x0]
  let x6 : Bool := (dget y6 0).toB
  [ow [] x6].all id
noncomputable def r17_0 (x0 : List DV) : List DV :=
  x0
noncomputable def r17_1 (x3 : Int) : Int :=
  x3
noncomputable def r17_2 (x0 : List DV) (x1 : List DV) (x2 : List DV) (x4 : Int) : List DV :=
  let x5 : List DV := []
  let y8 : List DV := g101700 [.i x4, .l x0, .l x5, .l x0, .l x0, .l x1, .l x2, .l x0]
  let x8 : List DV := (dget y8 2).toL
  x8
noncomputable def r17_3 (x0 : List DV) (x1 : List DV) (x2 : List DV) (x4 : Int) : List DV :=
  let x5 : List DV := []
  let y11 : List DV := g101700 [.i x4, .l x0, .l x5, .l x0, .l x0, .l x1, .l x2, .l x0]
  let x11 : List DV := (dget y11 5).toL
  x11
noncomputable def r17_4 (x0 : List DV) (x1 : List DV) (x2 : List DV) (x4 : Int) : List DV :=
  let x5 : List DV := []
  let y12 : List DV := g101700 [.i x4, .l x0, .l x5, .l x0, .l x0, .l x1, .l x2, .l x0]
  let x12 : List DV := (dget y12 6).toL
  x12
noncomputable def g17 (ds : List DV) : List DV := [.b (p17 (dget ds 0).toL (dget ds 1).toL (dget ds 2).toL (dget ds 4).toI), .l (r17_0 (dget ds 0).toL), .i (r17_1 (dget ds 3).toI), .l (r17_2 (dget ds 0).toL (dget ds 1).toL (dget ds 2).toL (dget ds 4).toI), .l (r17_3 (dget ds 0).toL (dget ds 1).toL (dget ds 2).toL (dget ds 4).toI), .l (r17_4 (dget ds 0).toL (dget ds 1).toL (dget ds 2).toL (dget ds 4).toI)]
noncomputable def w102000 (x6 : Int) (_x0 : List DV) (_x11 : Int) (x12 : List DV) (_x13 : List DV) (_x14 : List DV) (x15 : List DV) (x16 : List DV) (_x17 : Int) : Bool :=
  let x18 := ((x16.length / 5 : Nat) : Int)
  let x19 := IntKind.wrap .i64 (x6 + 1)
  let x20 := decide (x18 > x19)
  let x21 := ((x16.length / 5 : Nat) : Int)
  let x22 := IntKind.wrap .i64 (x21 - 1)
  let x23 := decide (x22 ≥ 0)
  let x24 := ((x16.length / 5 : Nat) : Int)
  let x25 := decide (x22 < x24)
  let x27 : Int := (x16.getD (Int.toNat x22 * (5 : Nat) + (1 : Nat)) default).toI
  let x28 : Int := (x16.getD (Int.toNat x22 * (5 : Nat) + (2 : Nat)) default).toI
  let x31 : List DV := []
  let x32 := ((x16.length / 5 : Nat) : Int)
  let x33 := IntKind.wrap .i64 (x32 - 1)
  let x34 := decide (x33 ≥ 0)
  let x35 := ((x16.length / 5 : Nat) : Int)
  let x36 := decide (x33 ≤ x35)
  let x37 := x16.take (Int.toNat x33 * 5)
  let x38 := x31 ++ x37
  let x39 := ((x38.length / 5 : Nat) : Int)
  let x40 := decide (x39 ≤ 1716310833601)
  let x41 := igt x27 0
  let x42 := ige x27 0
  let x43 := ((x12.length / 1 : Nat) : Int)
  let x44 := ilt x27 x43
  let x46 : List DV := [.i x28]
  let x47 := x46 ++ x15
  let x48 := ((x47.length / 1 : Nat) : Int)
  let x49 := decide (x48 ≤ 7818749353073)
  [ow [(x20, true)] x23, ow [(x20, true)] x25, ow [(x20, true)] x34, ow [(x20, true)] x36, ow [(x20, true)] x40, ow [(x20, true), (x41, true)] x42, ow [(x20, true), (x41, true)] x44, ow [(x20, true), (x41, true)] x49].all id
noncomputable def c102000 (x6 : Int) (_x0 : List DV) (_x11 : Int) (_x12 : List DV) (_x13 : List DV) (_x14 : List DV) (_x15 : List DV) (x16 : List DV) (_x17 : Int) : Bool :=
  let x18 := ((x16.length / 5 : Nat) : Int)
  let x19 := IntKind.wrap .i64 (x6 + 1)
  let x20 := decide (x18 > x19)
  x20
noncomputable def n102000_0 (_x6 : Int) (_x0 : List DV) (x11 : Int) (_x12 : List DV) (_x13 : List DV) (_x14 : List DV) (_x15 : List DV) (_x16 : List DV) (_x17 : Int) : Int :=
  let x52 := IntKind.wrap .i64 (x11 + 1)
  x52
noncomputable def n102000_1 (_x6 : Int) (_x0 : List DV) (_x11 : Int) (x12 : List DV) (_x13 : List DV) (_x14 : List DV) (_x15 : List DV) (x16 : List DV) (_x17 : Int) : List DV :=
  let x21 := ((x16.length / 5 : Nat) : Int)
  let x22 := IntKind.wrap .i64 (x21 - 1)
  let x27 : Int := (x16.getD (Int.toNat x22 * (5 : Nat) + (1 : Nat)) default).toI
  let x29 : Int := (x16.getD (Int.toNat x22 * (5 : Nat) + (3 : Nat)) default).toI
  let x41 := igt x27 0
  let x45 : List DV := x12.set (Int.toNat x27 * (1 : Nat) + (0 : Nat)) (.i x29)
  let x50 := bif x41 then x45 else x12
  x50
noncomputable def n102000_2 (_x6 : Int) (x0 : List DV) (_x11 : Int) (_x12 : List DV) (_x13 : List DV) (_x14 : List DV) (_x15 : List DV) (_x16 : List DV) (_x17 : Int) : List DV :=
  x0
noncomputable def n102000_3 (_x6 : Int) (x0 : List DV) (_x11 : Int) (_x12 : List DV) (_x13 : List DV) (_x14 : List DV) (_x15 : List DV) (_x16 : List DV) (_x17 : Int) : List DV :=
  x0
noncomputable def n102000_4 (_x6 : Int) (_x0 : List DV) (_x11 : Int) (_x12 : List DV) (_x13 : List DV) (_x14 : List DV) (x15 : List DV) (x16 : List DV) (_x17 : Int) : List DV :=
  let x21 := ((x16.length / 5 : Nat) : Int)
  let x22 := IntKind.wrap .i64 (x21 - 1)
  let x27 : Int := (x16.getD (Int.toNat x22 * (5 : Nat) + (1 : Nat)) default).toI
  let x28 : Int := (x16.getD (Int.toNat x22 * (5 : Nat) + (2 : Nat)) default).toI
  let x41 := igt x27 0
  let x46 : List DV := [.i x28]
  let x47 := x46 ++ x15
  let x51 := bif x41 then x47 else x15
  x51
noncomputable def n102000_5 (_x6 : Int) (_x0 : List DV) (_x11 : Int) (_x12 : List DV) (_x13 : List DV) (_x14 : List DV) (_x15 : List DV) (x16 : List DV) (_x17 : Int) : List DV :=
  let x31 : List DV := []
  let x32 := ((x16.length / 5 : Nat) : Int)
  let x33 := IntKind.wrap .i64 (x32 - 1)
  let x37 := x16.take (Int.toNat x33 * 5)
  let x38 := x31 ++ x37
  x38
noncomputable def n102000_6 (_x6 : Int) (_x0 : List DV) (_x11 : Int) (_x12 : List DV) (_x13 : List DV) (_x14 : List DV) (_x15 : List DV) (x16 : List DV) (_x17 : Int) : Int :=
  let x21 := ((x16.length / 5 : Nat) : Int)
  let x22 := IntKind.wrap .i64 (x21 - 1)
  let x26 : Int := (x16.getD (Int.toNat x22 * (5 : Nat) + (0 : Nat)) default).toI
  x26
noncomputable def t102000_0 (_x6 : Int) (_x0 : List DV) (_x11 : Int) (_x12 : List DV) (_x13 : List DV) (_x14 : List DV) (_x15 : List DV) (_x16 : List DV) (_x17 : Int) : Int :=
  0
noncomputable def t102000_1 (_x6 : Int) (_x0 : List DV) (x11 : Int) (_x12 : List DV) (_x13 : List DV) (_x14 : List DV) (_x15 : List DV) (_x16 : List DV) (_x17 : Int) : Int :=
  x11
noncomputable def t102000_2 (_x6 : Int) (_x0 : List DV) (_x11 : Int) (x12 : List DV) (_x13 : List DV) (_x14 : List DV) (_x15 : List DV) (_x16 : List DV) (_x17 : Int) : List DV :=
  x12
noncomputable def t102000_3 (_x6 : Int) (x0 : List DV) (_x11 : Int) (_x12 : List DV) (_x13 : List DV) (_x14 : List DV) (_x15 : List DV) (_x16 : List DV) (_x17 : Int) : List DV :=
  x0
noncomputable def t102000_4 (_x6 : Int) (x0 : List DV) (_x11 : Int) (_x12 : List DV) (_x13 : List DV) (_x14 : List DV) (_x15 : List DV) (_x16 : List DV) (_x17 : Int) : List DV :=
  x0
noncomputable def t102000_5 (_x6 : Int) (_x0 : List DV) (_x11 : Int) (_x12 : List DV) (_x13 : List DV) (_x14 : List DV) (x15 : List DV) (_x16 : List DV) (_x17 : Int) : List DV :=
  x15
noncomputable def t102000_6 (_x6 : Int) (_x0 : List DV) (_x11 : Int) (_x12 : List DV) (_x13 : List DV) (_x14 : List DV) (_x15 : List DV) (x16 : List DV) (_x17 : Int) : List DV :=
  x16
noncomputable def t102000_7 (_x6 : Int) (_x0 : List DV) (_x11 : Int) (_x12 : List DV) (_x13 : List DV) (_x14 : List DV) (_x15 : List DV) (_x16 : List DV) (x17 : Int) : Int :=
  x17
noncomputable def W102000 (ds : List DV) : Bool := w102000 (dget ds 0).toI (dget ds 1).toL (dget ds 2).toI (dget ds 3).toL (dget ds 4).toL (dget ds 5).toL (dget ds 6).toL (dget ds 7).toL (dget ds 8).toI
noncomputable def C102000 (ds : List DV) : Bool := c102000 (dget ds 0).toI (dget ds 1).toL (dget ds 2).toI (dget ds 3).toL (dget ds 4).toL (dget ds 5).toL (dget ds 6).toL (dget ds 7).toL (dget ds 8).toI
noncomputable def N102000 (ds : List DV) : List DV := [.i (dget ds 0).toI, .l (dget ds 1).toL, .i (n102000_0 (dget ds 0).toI (dget ds 1).toL (dget ds 2).toI (dget ds 3).toL (dget ds 4).toL (dget ds 5).toL (dget ds 6).toL (dget ds 7).toL (dget ds 8).toI), .l (n102000_1 (dget ds 0).toI (dget ds 1).toL (dget ds 2).toI (dget ds 3).toL (dget ds 4).toL (dget ds 5).toL (dget ds 6).toL (dget ds 7).toL (dget ds 8).toI), .l (n102000_2 (dget ds 0).toI (dget ds 1).toL (dget ds 2).toI (dget ds 3).toL (dget ds 4).toL (dget ds 5).toL (dget ds 6).toL (dget ds 7).toL (dget ds 8).toI), .l (n102000_3 (dget ds 0).toI (dget ds 1).toL (dget ds 2).toI (dget ds 3).toL (dget ds 4).toL (dget ds 5).toL (dget ds 6).toL (dget ds 7).toL (dget ds 8).toI), .l (n102000_4 (dget ds 0).toI (dget ds 1).toL (dget ds 2).toI (dget ds 3).toL (dget ds 4).toL (dget ds 5).toL (dget ds 6).toL (dget ds 7).toL (dget ds 8).toI), .l (n102000_5 (dget ds 0).toI (dget ds 1).toL (dget ds 2).toI (dget ds 3).toL (dget ds 4).toL (dget ds 5).toL (dget ds 6).toL (dget ds 7).toL (dget ds 8).toI), .i (n102000_6 (dget ds 0).toI (dget ds 1).toL (dget ds 2).toI (dget ds 3).toL (dget ds 4).toL (dget ds 5).toL (dget ds 6).toL (dget ds 7).toL (dget ds 8).toI)]
noncomputable def T102000 (ds : List DV) : List DV := [.i (t102000_0 (dget ds 0).toI (dget ds 1).toL (dget ds 2).toI (dget ds 3).toL (dget ds 4).toL (dget ds 5).toL (dget ds 6).toL (dget ds 7).toL (dget ds 8).toI), .i (t102000_1 (dget ds 0).toI (dget ds 1).toL (dget ds 2).toI (dget ds 3).toL (dget ds 4).toL (dget ds 5).toL (dget ds 6).toL (dget ds 7).toL (dget ds 8).toI), .l (t102000_2 (dget ds 0).toI (dget ds 1).toL (dget ds 2).toI (dget ds 3).toL (dget ds 4).toL (dget ds 5).toL (dget ds 6).toL (dget ds 7).toL (dget ds 8).toI), .l (t102000_3 (dget ds 0).toI (dget ds 1).toL (dget ds 2).toI (dget ds 3).toL (dget ds 4).toL (dget ds 5).toL (dget ds 6).toL (dget ds 7).toL (dget ds 8).toI), .l (t102000_4 (dget ds 0).toI (dget ds 1).toL (dget ds 2).toI (dget ds 3).toL (dget ds 4).toL (dget ds 5).toL (dget ds 6).toL (dget ds 7).toL (dget ds 8).toI), .l (t102000_5 (dget ds 0).toI (dget ds 1).toL (dget ds 2).toI (dget ds 3).toL (dget ds 4).toL (dget ds 5).toL (dget ds 6).toL (dget ds 7).toL (dget ds 8).toI), .l (t102000_6 (dget ds 0).toI (dget ds 1).toL (dget ds 2).toI (dget ds 3).toL (dget ds 4).toL (dget ds 5).toL (dget ds 6).toL (dget ds 7).toL (dget ds 8).toI), .i (t102000_7 (dget ds 0).toI (dget ds 1).toL (dget ds 2).toI (dget ds 3).toL (dget ds 4).toL (dget ds 5).toL (dget ds 6).toL (dget ds 7).toL (dget ds 8).toI)]
noncomputable def L102000 (x0 : Int) (x1 : List DV) (x2 : Int) (x3 : List DV) (x4 : List DV) (x5 : List DV) (x6 : List DV) (x7 : List DV) (x8 : Int) : Option (List DV) := loopG W102000 C102000 N102000 T102000 [.i x0, .l x1, .i x2, .l x3, .l x4, .l x5, .l x6, .l x7, .i x8]
noncomputable def p102000 (x0 : Int) (x1 : List DV) (x2 : Int) (x3 : List DV) (x4 : List DV) (x5 : List DV) (x6 : List DV) (x7 : List DV) (x8 : Int) : Bool := (L102000 x0 x1 x2 x3 x4 x5 x6 x7 x8).isSome
noncomputable def r102000_0 (x0 : Int) (x1 : List DV) (x2 : Int) (x3 : List DV) (x4 : List DV) (x5 : List DV) (x6 : List DV) (x7 : List DV) (x8 : Int) : Int := (dget ((L102000 x0 x1 x2 x3 x4 x5 x6 x7 x8).getD []) 0).toI
noncomputable def r102000_1 (x0 : Int) (x1 : List DV) (x2 : Int) (x3 : List DV) (x4 : List DV) (x5 : List DV) (x6 : List DV) (x7 : List DV) (x8 : Int) : Int := (dget ((L102000 x0 x1 x2 x3 x4 x5 x6 x7 x8).getD []) 1).toI
noncomputable def r102000_2 (x0 : Int) (x1 : List DV) (x2 : Int) (x3 : List DV) (x4 : List DV) (x5 : List DV) (x6 : List DV) (x7 : List DV) (x8 : Int) : List DV := (dget ((L102000 x0 x1 x2 x3 x4 x5 x6 x7 x8).getD []) 2).toL
noncomputable def r102000_3 (x0 : Int) (x1 : List DV) (x2 : Int) (x3 : List DV) (x4 : List DV) (x5 : List DV) (x6 : List DV) (x7 : List DV) (x8 : Int) : List DV := (dget ((L102000 x0 x1 x2 x3 x4 x5 x6 x7 x8).getD []) 3).toL
noncomputable def r102000_4 (x0 : Int) (x1 : List DV) (x2 : Int) (x3 : List DV) (x4 : List DV) (x5 : List DV) (x6 : List DV) (x7 : List DV) (x8 : Int) : List DV := (dget ((L102000 x0 x1 x2 x3 x4 x5 x6 x7 x8).getD []) 4).toL
noncomputable def r102000_5 (x0 : Int) (x1 : List DV) (x2 : Int) (x3 : List DV) (x4 : List DV) (x5 : List DV) (x6 : List DV) (x7 : List DV) (x8 : Int) : List DV := (dget ((L102000 x0 x1 x2 x3 x4 x5 x6 x7 x8).getD []) 5).toL
noncomputable def r102000_6 (x0 : Int) (x1 : List DV) (x2 : Int) (x3 : List DV) (x4 : List DV) (x5 : List DV) (x6 : List DV) (x7 : List DV) (x8 : Int) : List DV := (dget ((L102000 x0 x1 x2 x3 x4 x5 x6 x7 x8).getD []) 6).toL
noncomputable def r102000_7 (x0 : Int) (x1 : List DV) (x2 : Int) (x3 : List DV) (x4 : List DV) (x5 : List DV) (x6 : List DV) (x7 : List DV) (x8 : Int) : Int := (dget ((L102000 x0 x1 x2 x3 x4 x5 x6 x7 x8).getD []) 7).toI
noncomputable def g102000 (ds : List DV) : List DV := [.b (p102000 (dget ds 0).toI (dget ds 1).toL (dget ds 2).toI (dget ds 3).toL (dget ds 4).toL (dget ds 5).toL (dget ds 6).toL (dget ds 7).toL (dget ds 8).toI), .i (r102000_0 (dget ds 0).toI (dget ds 1).toL (dget ds 2).toI (dget ds 3).toL (dget ds 4).toL (dget ds 5).toL (dget ds 6).toL (dget ds 7).toL (dget ds 8).toI), .i (r102000_1 (dget ds 0).toI (dget ds 1).toL (dget ds 2).toI (dget ds 3).toL (dget ds 4).toL (dget ds 5).toL (dget ds 6).toL (dget ds 7).toL (dget ds 8).toI), .l (r102000_2 (dget ds 0).toI (dget ds 1).toL (dget ds 2).toI (dget ds 3).toL (dget ds 4).toL (dget ds 5).toL (dget ds 6).toL (dget ds 7).toL (dget ds 8).toI), .l (r102000_3 (dget ds 0).toI (dget ds 1).toL (dget ds 2).toI (dget ds 3).toL (dget ds 4).toL (dget ds 5).toL (dget ds 6).toL (dget ds 7).toL (dget ds 8).toI), .l (r102000_4 (dget ds 0).toI (dget ds 1).toL (dget ds 2).toI (dget ds 3).toL (dget ds 4).toL (dget ds 5).toL (dget ds 6).toL (dget ds 7).toL (dget ds 8).toI), .l (r102000_5 (dget ds 0).toI (dget ds 1).toL (dget ds 2).toI (dget ds 3).toL (dget ds 4).toL (dget ds 5).toL (dget ds 6).toL (dget ds 7).toL (dget ds 8).toI), .l (r102000_6 (dget ds 0).toI (dget ds 1).toL (dget ds 2).toI (dget ds 3).toL (dget ds 4).toL (dget ds 5).toL (dget ds 6).toL (dget ds 7).toL (dget ds 8).toI), .i (r102000_7 (dget ds 0).toI (dget ds 1).toL (dget ds 2).toI (dget ds 3).toL (dget ds 4).toL (dget ds 5).toL (dget ds 6).toL (dget ds 7).toL (dget ds 8).toI)]
noncomputable def p20 (x0 : List DV) (x1 : List DV) (x2 : List DV) (x3 : Int) (x4 : Int) : Bool :=
  let x5 := p29 x2 x4
  let x6 := r29_0 x2 x4
  let x7 := decide (x6 < 0)
  let x8 := x4 != (-1)
  let x9 := x7 && x8
  let x10 := !x9
  let y11 : List DV := g102000 [.i x6, .l x0, .i 0, .l x0, .l x0, .l x0, .l x1, .l x2, .i x3]
  let x11 : Bool := (dget y11 0).toB
  [ow [] x5, ow [(x10, true)] x11].all id
noncomputable def r20_0 (x0 : List DV) (x1 : List DV) (x2 : List DV) (x3 : Int) (x4 : Int) : Int :=
  let x6 := r29_0 x2 x4
  let x7 := decide (x6 < 0)
  let x8 := x4 != (-1)
  let x9 := x7 && x8
  let x10 := !x9
  let y13 : List DV := g102000 [.i x6, .l x0, .i 0, .l x0, .l x0, .l x0, .l x1, .l x2, .i x3]
  let x13 : Int := (dget y13 2).toI
  let x20 := bif x10 then x13 else 0
  x20
noncomputable def r20_1 (x0 : List DV) (x1 : List DV) (x2 : List DV) (x3 : Int) (x4 : Int) : List DV :=
  let x6 := r29_0 x2 x4
  let x7 := decide (x6 < 0)
  let x8 := x4 != (-1)
  let x9 := x7 && x8
  let x10 := !x9
  let y14 : List DV := g102000 [.i x6, .l x0, .i 0, .l x0, .l x0, .l x0, .l x1, .l x2, .i x3]
  let x14 : List DV := (dget y14 3).toL
  let x21 := bif x10 then x14 else x0
  x21
noncomputable def r20_2 (x0 : List DV) (x1 : List DV) (x2 : List DV) (x3 : Int) (x4 : Int) : Int :=
  let x6 := r29_0 x2 x4
  let x7 := decide (x6 < 0)
  let x8 := x4 != (-1)
  let x9 := x7 && x8
  let x10 := !x9
  let y19 : List DV := g102000 [.i x6, .l x0, .i 0, .l x0, .l x0, .l x0, .l x1, .l x2, .i x3]
  let x19 : Int := (dget y19 8).toI
  let x24 := bif x10 then x19 else x3
  x24
noncomputable def r20_3 (x0 : List DV) (x1 : List DV) (x2 : List DV) (x3 : Int) (x4 : Int) : List DV :=
  let x6 := r29_0 x2 x4
  let x7 := decide (x6 < 0)
  let x8 := x4 != (-1)
  let x9 := x7 && x8
  let x10 := !x9
  let y17 : List DV := g102000 [.i x6, .l x0, .i 0, .l x0, .l x0, .l x0, .l x1, .l x2, .i x3]
  let x17 : List DV := (dget y17 6).toL
  let x22 := bif x10 then x17 else x1
  x22
noncomputable def r20_4 (x0 : List DV) (x1 : List DV) (x2 : List DV) (x3 : Int) (x4 : Int) : List DV :=
  let x6 := r29_0 x2 x4
  let x7 := decide (x6 < 0)
  let x8 := x4 != (-1)
  let x9 := x7 && x8
  let x10 := !x9
  let y18 : List DV := g102000 [.i x6, .l x0, .i 0, .l x0, .l x0, .l x0, .l x1, .l x2, .i x3]
  let x18 : List DV := (dget y18 7).toL
  let x23 := bif x10 then x18 else x2
  x23
noncomputable def g20 (ds : List DV) : List DV := [.b (p20 (dget ds 0).toL (dget ds 1).toL (dget ds 2).toL (dget ds 3).toI (dget ds 4).toI), .i (r20_0 (dget ds 0).toL (dget ds 1).toL (dget ds 2).toL (dget ds 3).toI (dget ds 4).toI), .l (r20_1 (dget ds 0).toL (dget ds 1).toL (dget ds 2).toL (dget ds 3).toI (dget ds 4).toI), .i (r20_2 (dget ds 0).toL (dget ds 1).toL (dget ds 2).toL (dget ds 3).toI (dget ds 4).toI), .l (r20_3 (dget ds 0).toL (dget ds 1).toL (dget ds 2).toL (dget ds 3).toI (dget ds 4).toI), .l (r20_4 (dget ds 0).toL (dget ds 1).toL (dget ds 2).toL (dget ds 3).toI (dget ds 4).toI)]
noncomputable def w100303 (x372 : Int) (x373 : List DV) : Bool :=
  let x374 := ((x373.length / 1 : Nat) : Int)
  let x375 := decide (x372 < x374)
  let x376 := decide (x372 ≥ 0)
  let x377 := ((x373.length / 1 : Nat) : Int)
  let x378 := decide (x372 < x377)
  [ow [(x375, true)] x376, ow [(x375, true)] x378].all id
noncomputable def c100303 (x372 : Int) (x373 : List DV) : Bool :=
  let x374 := ((x373.length / 1 : Nat) : Int)
  let x375 := decide (x372 < x374)
  x375
noncomputable def n100303_0 (x372 : Int) (_x373 : List DV) : Int :=
  let x380 := IntKind.wrap .i64 (x372 + 1)
  x380
noncomputable def n100303_1 (x372 : Int) (x373 : List DV) : List DV :=
  let x379 : List DV := x373.set (Int.toNat x372 * (1 : Nat) + (0 : Nat)) (.i (-5))
  x379
noncomputable def t100303_0 (_x372 : Int) (_x373 : List DV) : Int :=
  0
noncomputable def t100303_1 (x372 : Int) (_x373 : List DV) : Int :=
  x372
noncomputable def t100303_2 (_x372 : Int) (x373 : List DV) : List DV :=
  x373
noncomputable def W100303 (ds : List DV) : Bool := w100303 (dget ds 0).toI (dget ds 1).toL
noncomputable def C100303 (ds : List DV) : Bool := c100303 (dget ds 0).toI (dget ds 1).toL
noncomputable def N100303 (ds : List DV) : List DV := [.i (n100303_0 (dget ds 0).toI (dget ds 1).toL), .l (n100303_1 (dget ds 0).toI (dget ds 1).toL)]
noncomputable def T100303 (ds : List DV) : List DV := [.i (t100303_0 (dget ds 0).toI (dget ds 1).toL), .i (t100303_1 (dget ds 0).toI (dget ds 1).toL), .l (t100303_2 (dget ds 0).toI (dget ds 1).toL)]
noncomputable def L100303 (x0 : Int) (x1 : List DV) : Option (List DV) := loopG W100303 C100303 N100303 T100303 [.i x0, .l x1]
noncomputable def p100303 (x0 : Int) (x1 : List DV) : Bool := (L100303 x0 x1).isSome
noncomputable def r100303_2 (x0 : Int) (x1 : List DV) : List DV := (dget ((L100303 x0 x1).getD []) 2).toL
noncomputable def W100300 (ds : List DV) : Bool :=
  let x0 : List DV := (dget ds 0).toL
  let x17 : Int := (dget ds 2).toI
  let x18 : List DV := (dget ds 3).toL
  let x19 : List DV := (dget ds 4).toL
  let x20 : List DV := (dget ds 5).toL
  let x21 : Int := (dget ds 6).toI
  let x22 : Int := (dget ds 7).toI
  let x24 : List DV := (dget ds 9).toL
  let x25 : List DV := (dget ds 10).toL
  let x26 : List DV := (dget ds 11).toL
  let x27 : Int := (dget ds 12).toI
  let x31 := ((x0.length / 3 : Nat) : Int)
  let x32 := ilt x17 x31
  let x33 := ige x17 0
  let x34 := ((x0.length / 3 : Nat) : Int)
  let x35 := ilt x17 x34
  let x36 : Int := (x0.getD (Int.toNat x17 * (3 : Nat) + (0 : Nat)) default).toI
  let x37 : Int := (x0.getD (Int.toNat x17 * (3 : Nat) + (1 : Nat)) default).toI
  let x38 : List DV := (x0.getD (Int.toNat x17 * (3 : Nat) + (2 : Nat)) default).toL
  let x40 := x36 == 0
  let y41 : List DV := g11 [.l x18, .l x19, .l x20, .i x21, .i x22, .l x38]
  let x41 : Bool := (dget y41 0).toB
  let x46 : List DV := (dget y41 5).toL
  let y48 : List DV := g12 [.l x24, .l x25, .l x26, .i x27, .l x38]
  let x48 : Bool := (dget y48 0).toB
  let x50 : List DV := (dget y48 2).toL
  let x54 := p13 x46 x50
  let x57 := x36 == 1
  let y58 : List DV := g14 [.l x18, .l x19, .l x20, .i x21, .i x22, .i x37]
  let x58 : Bool := (dget y58 0).toB
  let y65 : List DV := g15 [.l x24, .l x25, .l x26, .i x27, .i x37]
  let x65 : Bool := (dget y65 0).toB
  let x72 := x36 == 2
  let y73 : List DV := g16 [.l x18, .l x19, .l x20, .i x21, .i x22, .i x37]
  let x73 : Bool := (dget y73 0).toB
  let x78 : List DV := (dget y73 5).toL
  let y80 : List DV := g17 [.l x24, .l x25, .l x26, .i x27, .i x37]
  let x80 : Bool := (dget y80 0).toB
  let x83 : List DV := (dget y80 3).toL
  let x86 := p18 x78 x83
  let x89 := x36 == 3
  let y90 : List DV := g19 [.l x18, .l x19, .l x20, .i x21, .i x22, .i x37]
  let x90 : Bool := (dget y90 0).toB
  let y97 : List DV := g20 [.l x24, .l x25, .l x26, .i x27, .i x37]
  let x97 : Bool := (dget y97 0).toB
  let x104 := p21 x19
  let x105 := r21_0 x19
  let x106 := p22 x25
  let x107 := r22_0 x25
  let x108 := p18 x105 x107
  let x109 := r18_0 x105 x107
  let x110 := !x109
  let x111 := r23_0 x18
  let x112 := p24 x24
  let x113 := r24_0 x24
  let x114 : Int := (x111.getD (Int.toNat 0 * (1 : Nat) + (0 : Nat)) default).toI
  let x115 : Int := (x113.getD (Int.toNat 0 * (1 : Nat) + (0 : Nat)) default).toI
  let x116 := x114 == x115
  let x117 : Int := (x111.getD (Int.toNat 0 * (1 : Nat) + (1 : Nat)) default).toI
  let x118 : Int := (x113.getD (Int.toNat 0 * (1 : Nat) + (1 : Nat)) default).toI
  let x119 := x117 == x118
  let x120 : Int := (x111.getD (Int.toNat 0 * (1 : Nat) + (2 : Nat)) default).toI
  let x121 : Int := (x113.getD (Int.toNat 0 * (1 : Nat) + (2 : Nat)) default).toI
  let x122 := x120 == x121
  let x123 : Int := (x111.getD (Int.toNat 0 * (1 : Nat) + (3 : Nat)) default).toI
  let x124 : Int := (x113.getD (Int.toNat 0 * (1 : Nat) + (3 : Nat)) default).toI
  let x125 := x123 == x124
  let x126 : Int := (x111.getD (Int.toNat 0 * (1 : Nat) + (4 : Nat)) default).toI
  let x127 : Int := (x113.getD (Int.toNat 0 * (1 : Nat) + (4 : Nat)) default).toI
  let x128 := x126 == x127
  let x129 : Int := (x111.getD (Int.toNat 0 * (1 : Nat) + (5 : Nat)) default).toI
  let x130 : Int := (x113.getD (Int.toNat 0 * (1 : Nat) + (5 : Nat)) default).toI
  let x131 := x129 == x130
  let x132 : Int := (x111.getD (Int.toNat 0 * (1 : Nat) + (6 : Nat)) default).toI
  let x133 : Int := (x113.getD (Int.toNat 0 * (1 : Nat) + (6 : Nat)) default).toI
  let x134 := x132 == x133
  let x135 : Int := (x111.getD (Int.toNat 0 * (1 : Nat) + (7 : Nat)) default).toI
  let x136 : Int := (x113.getD (Int.toNat 0 * (1 : Nat) + (7 : Nat)) default).toI
  let x137 := x135 == x136
  let x138 : Int := (x111.getD (Int.toNat 0 * (1 : Nat) + (8 : Nat)) default).toI
  let x139 : Int := (x113.getD (Int.toNat 0 * (1 : Nat) + (8 : Nat)) default).toI
  let x140 := x138 == x139
  let x141 : Int := (x111.getD (Int.toNat 0 * (1 : Nat) + (9 : Nat)) default).toI
  let x142 : Int := (x113.getD (Int.toNat 0 * (1 : Nat) + (9 : Nat)) default).toI
  let x143 := x141 == x142
  let x144 : Int := (x111.getD (Int.toNat 0 * (1 : Nat) + (10 : Nat)) default).toI
  let x145 : Int := (x113.getD (Int.toNat 0 * (1 : Nat) + (10 : Nat)) default).toI
  let x146 := x144 == x145
  let x147 : Int := (x111.getD (Int.toNat 0 * (1 : Nat) + (11 : Nat)) default).toI
  let x148 : Int := (x113.getD (Int.toNat 0 * (1 : Nat) + (11 : Nat)) default).toI
  let x149 := x147 == x148
  let x150 : Int := (x111.getD (Int.toNat 0 * (1 : Nat) + (12 : Nat)) default).toI
  let x151 : Int := (x113.getD (Int.toNat 0 * (1 : Nat) + (12 : Nat)) default).toI
  let x152 := x150 == x151
  let x153 : Int := (x111.getD (Int.toNat 0 * (1 : Nat) + (13 : Nat)) default).toI
  let x154 : Int := (x113.getD (Int.toNat 0 * (1 : Nat) + (13 : Nat)) default).toI
  let x155 := x153 == x154
  let x156 : Int := (x111.getD (Int.toNat 0 * (1 : Nat) + (14 : Nat)) default).toI
  let x157 : Int := (x113.getD (Int.toNat 0 * (1 : Nat) + (14 : Nat)) default).toI
  let x158 := x156 == x157
  let x159 : Int := (x111.getD (Int.toNat 0 * (1 : Nat) + (15 : Nat)) default).toI
  let x160 : Int := (x113.getD (Int.toNat 0 * (1 : Nat) + (15 : Nat)) default).toI
  let x161 := x159 == x160
  let x162 : Int := (x111.getD (Int.toNat 0 * (1 : Nat) + (16 : Nat)) default).toI
  let x163 : Int := (x113.getD (Int.toNat 0 * (1 : Nat) + (16 : Nat)) default).toI
  let x164 := x162 == x163
  let x165 : Int := (x111.getD (Int.toNat 0 * (1 : Nat) + (17 : Nat)) default).toI
  let x166 : Int := (x113.getD (Int.toNat 0 * (1 : Nat) + (17 : Nat)) default).toI
  let x167 := x165 == x166
  let x168 : Int := (x111.getD (Int.toNat 0 * (1 : Nat) + (18 : Nat)) default).toI
  let x169 : Int := (x113.getD (Int.toNat 0 * (1 : Nat) + (18 : Nat)) default).toI
  let x170 := x168 == x169
  let x171 : Int := (x111.getD (Int.toNat 0 * (1 : Nat) + (19 : Nat)) default).toI
  let x172 : Int := (x113.getD (Int.toNat 0 * (1 : Nat) + (19 : Nat)) default).toI
  let x173 := x171 == x172
  let x174 : Int := (x111.getD (Int.toNat 0 * (1 : Nat) + (20 : Nat)) default).toI
  let x175 : Int := (x113.getD (Int.toNat 0 * (1 : Nat) + (20 : Nat)) default).toI
  let x176 := x174 == x175
  let x177 : Int := (x111.getD (Int.toNat 0 * (1 : Nat) + (21 : Nat)) default).toI
  let x178 : Int := (x113.getD (Int.toNat 0 * (1 : Nat) + (21 : Nat)) default).toI
  let x179 := x177 == x178
  let x180 : Int := (x111.getD (Int.toNat 0 * (1 : Nat) + (22 : Nat)) default).toI
  let x181 : Int := (x113.getD (Int.toNat 0 * (1 : Nat) + (22 : Nat)) default).toI
  let x182 := x180 == x181
  let x183 : Int := (x111.getD (Int.toNat 0 * (1 : Nat) + (23 : Nat)) default).toI
  let x184 : Int := (x113.getD (Int.toNat 0 * (1 : Nat) + (23 : Nat)) default).toI
  let x185 := x183 == x184
  let x186 : Int := (x111.getD (Int.toNat 0 * (1 : Nat) + (24 : Nat)) default).toI
  let x187 : Int := (x113.getD (Int.toNat 0 * (1 : Nat) + (24 : Nat)) default).toI
  let x188 := x186 == x187
  let x189 : Int := (x111.getD (Int.toNat 0 * (1 : Nat) + (25 : Nat)) default).toI
  let x190 : Int := (x113.getD (Int.toNat 0 * (1 : Nat) + (25 : Nat)) default).toI
  let x191 := x189 == x190
  let x192 : Int := (x111.getD (Int.toNat 0 * (1 : Nat) + (26 : Nat)) default).toI
  let x193 : Int := (x113.getD (Int.toNat 0 * (1 : Nat) + (26 : Nat)) default).toI
  let x194 := x192 == x193
  let x195 : Int := (x111.getD (Int.toNat 0 * (1 : Nat) + (27 : Nat)) default).toI
  let x196 : Int := (x113.getD (Int.toNat 0 * (1 : Nat) + (27 : Nat)) default).toI
  let x197 := x195 == x196
  let x198 : Int := (x111.getD (Int.toNat 0 * (1 : Nat) + (28 : Nat)) default).toI
  let x199 : Int := (x113.getD (Int.toNat 0 * (1 : Nat) + (28 : Nat)) default).toI
  let x200 := x198 == x199
  let x201 : Int := (x111.getD (Int.toNat 0 * (1 : Nat) + (29 : Nat)) default).toI
  let x202 : Int := (x113.getD (Int.toNat 0 * (1 : Nat) + (29 : Nat)) default).toI
  let x203 := x201 == x202
  let x204 : Int := (x111.getD (Int.toNat 0 * (1 : Nat) + (30 : Nat)) default).toI
  let x205 : Int := (x113.getD (Int.toNat 0 * (1 : Nat) + (30 : Nat)) default).toI
  let x206 := x204 == x205
  let x207 : Int := (x111.getD (Int.toNat 0 * (1 : Nat) + (31 : Nat)) default).toI
  let x208 : Int := (x113.getD (Int.toNat 0 * (1 : Nat) + (31 : Nat)) default).toI
  let x209 := x207 == x208
  let x210 : Int := (x111.getD (Int.toNat 0 * (1 : Nat) + (32 : Nat)) default).toI
  let x211 : Int := (x113.getD (Int.toNat 0 * (1 : Nat) + (32 : Nat)) default).toI
  let x212 := x210 == x211
  let x213 : Int := (x111.getD (Int.toNat 0 * (1 : Nat) + (33 : Nat)) default).toI
  let x214 : Int := (x113.getD (Int.toNat 0 * (1 : Nat) + (33 : Nat)) default).toI
  let x215 := x213 == x214
  let x216 : Int := (x111.getD (Int.toNat 0 * (1 : Nat) + (34 : Nat)) default).toI
  let x217 : Int := (x113.getD (Int.toNat 0 * (1 : Nat) + (34 : Nat)) default).toI
  let x218 := x216 == x217
  let x219 : Int := (x111.getD (Int.toNat 0 * (1 : Nat) + (35 : Nat)) default).toI
  let x220 : Int := (x113.getD (Int.toNat 0 * (1 : Nat) + (35 : Nat)) default).toI
  let x221 := x219 == x220
  let x222 : Int := (x111.getD (Int.toNat 0 * (1 : Nat) + (36 : Nat)) default).toI
  let x223 : Int := (x113.getD (Int.toNat 0 * (1 : Nat) + (36 : Nat)) default).toI
  let x224 := x222 == x223
  let x225 : Int := (x111.getD (Int.toNat 0 * (1 : Nat) + (37 : Nat)) default).toI
  let x226 : Int := (x113.getD (Int.toNat 0 * (1 : Nat) + (37 : Nat)) default).toI
  let x227 := x225 == x226
  let x228 : Int := (x111.getD (Int.toNat 0 * (1 : Nat) + (38 : Nat)) default).toI
  let x229 : Int := (x113.getD (Int.toNat 0 * (1 : Nat) + (38 : Nat)) default).toI
  let x230 := x228 == x229
  let x231 : Int := (x111.getD (Int.toNat 0 * (1 : Nat) + (39 : Nat)) default).toI
  let x232 : Int := (x113.getD (Int.toNat 0 * (1 : Nat) + (39 : Nat)) default).toI
  let x233 := x231 == x232
  let x234 : Int := (x111.getD (Int.toNat 0 * (1 : Nat) + (40 : Nat)) default).toI
  let x235 : Int := (x113.getD (Int.toNat 0 * (1 : Nat) + (40 : Nat)) default).toI
  let x236 := x234 == x235
  let x237 : Int := (x111.getD (Int.toNat 0 * (1 : Nat) + (41 : Nat)) default).toI
  let x238 : Int := (x113.getD (Int.toNat 0 * (1 : Nat) + (41 : Nat)) default).toI
  let x239 := x237 == x238
  let x240 : Int := (x111.getD (Int.toNat 0 * (1 : Nat) + (42 : Nat)) default).toI
  let x241 : Int := (x113.getD (Int.toNat 0 * (1 : Nat) + (42 : Nat)) default).toI
  let x242 := x240 == x241
  let x243 : Int := (x111.getD (Int.toNat 0 * (1 : Nat) + (43 : Nat)) default).toI
  let x244 : Int := (x113.getD (Int.toNat 0 * (1 : Nat) + (43 : Nat)) default).toI
  let x245 := x243 == x244
  let x246 : Int := (x111.getD (Int.toNat 0 * (1 : Nat) + (44 : Nat)) default).toI
  let x247 : Int := (x113.getD (Int.toNat 0 * (1 : Nat) + (44 : Nat)) default).toI
  let x248 := x246 == x247
  let x249 : Int := (x111.getD (Int.toNat 0 * (1 : Nat) + (45 : Nat)) default).toI
  let x250 : Int := (x113.getD (Int.toNat 0 * (1 : Nat) + (45 : Nat)) default).toI
  let x251 := x249 == x250
  let x252 : Int := (x111.getD (Int.toNat 0 * (1 : Nat) + (46 : Nat)) default).toI
  let x253 : Int := (x113.getD (Int.toNat 0 * (1 : Nat) + (46 : Nat)) default).toI
  let x254 := x252 == x253
  let x255 : Int := (x111.getD (Int.toNat 0 * (1 : Nat) + (47 : Nat)) default).toI
  let x256 : Int := (x113.getD (Int.toNat 0 * (1 : Nat) + (47 : Nat)) default).toI
  let x257 := x255 == x256
  let x258 : Int := (x111.getD (Int.toNat 0 * (1 : Nat) + (48 : Nat)) default).toI
  let x259 : Int := (x113.getD (Int.toNat 0 * (1 : Nat) + (48 : Nat)) default).toI
  let x260 := x258 == x259
  let x261 : Int := (x111.getD (Int.toNat 0 * (1 : Nat) + (49 : Nat)) default).toI
  let x262 : Int := (x113.getD (Int.toNat 0 * (1 : Nat) + (49 : Nat)) default).toI
  let x263 := x261 == x262
  let x264 : Int := (x111.getD (Int.toNat 0 * (1 : Nat) + (50 : Nat)) default).toI
  let x265 : Int := (x113.getD (Int.toNat 0 * (1 : Nat) + (50 : Nat)) default).toI
  let x266 := x264 == x265
  let x267 : Int := (x111.getD (Int.toNat 0 * (1 : Nat) + (51 : Nat)) default).toI
  let x268 : Int := (x113.getD (Int.toNat 0 * (1 : Nat) + (51 : Nat)) default).toI
  let x269 := x267 == x268
  let x270 : Int := (x111.getD (Int.toNat 0 * (1 : Nat) + (52 : Nat)) default).toI
  let x271 : Int := (x113.getD (Int.toNat 0 * (1 : Nat) + (52 : Nat)) default).toI
  let x272 := x270 == x271
  let x273 : Int := (x111.getD (Int.toNat 0 * (1 : Nat) + (53 : Nat)) default).toI
  let x274 : Int := (x113.getD (Int.toNat 0 * (1 : Nat) + (53 : Nat)) default).toI
  let x275 := x273 == x274
  let x276 : Int := (x111.getD (Int.toNat 0 * (1 : Nat) + (54 : Nat)) default).toI
  let x277 : Int := (x113.getD (Int.toNat 0 * (1 : Nat) + (54 : Nat)) default).toI
  let x278 := x276 == x277
  let x279 : Int := (x111.getD (Int.toNat 0 * (1 : Nat) + (55 : Nat)) default).toI
  let x280 : Int := (x113.getD (Int.toNat 0 * (1 : Nat) + (55 : Nat)) default).toI
  let x281 := x279 == x280
  let x282 : Int := (x111.getD (Int.toNat 0 * (1 : Nat) + (56 : Nat)) default).toI
  let x283 : Int := (x113.getD (Int.toNat 0 * (1 : Nat) + (56 : Nat)) default).toI
  let x284 := x282 == x283
  let x285 : Int := (x111.getD (Int.toNat 0 * (1 : Nat) + (57 : Nat)) default).toI
  let x286 : Int := (x113.getD (Int.toNat 0 * (1 : Nat) + (57 : Nat)) default).toI
  let x287 := x285 == x286
  let x288 : Int := (x111.getD (Int.toNat 0 * (1 : Nat) + (58 : Nat)) default).toI
  let x289 : Int := (x113.getD (Int.toNat 0 * (1 : Nat) + (58 : Nat)) default).toI
  let x290 := x288 == x289
  let x291 : Int := (x111.getD (Int.toNat 0 * (1 : Nat) + (59 : Nat)) default).toI
  let x292 : Int := (x113.getD (Int.toNat 0 * (1 : Nat) + (59 : Nat)) default).toI
  let x293 := x291 == x292
  let x294 : Int := (x111.getD (Int.toNat 0 * (1 : Nat) + (60 : Nat)) default).toI
  let x295 : Int := (x113.getD (Int.toNat 0 * (1 : Nat) + (60 : Nat)) default).toI
  let x296 := x294 == x295
  let x297 : Int := (x111.getD (Int.toNat 0 * (1 : Nat) + (61 : Nat)) default).toI
  let x298 : Int := (x113.getD (Int.toNat 0 * (1 : Nat) + (61 : Nat)) default).toI
  let x299 := x297 == x298
  let x300 : Int := (x111.getD (Int.toNat 0 * (1 : Nat) + (62 : Nat)) default).toI
  let x301 : Int := (x113.getD (Int.toNat 0 * (1 : Nat) + (62 : Nat)) default).toI
  let x302 := x300 == x301
  let x303 : Int := (x111.getD (Int.toNat 0 * (1 : Nat) + (63 : Nat)) default).toI
  let x304 : Int := (x113.getD (Int.toNat 0 * (1 : Nat) + (63 : Nat)) default).toI
  let x305 := x303 == x304
  let x306 := x302 && x305
  let x307 := x299 && x306
  let x308 := x296 && x307
  let x309 := x293 && x308
  let x310 := x290 && x309
  let x311 := x287 && x310
  let x312 := x284 && x311
  let x313 := x281 && x312
  let x314 := x278 && x313
  let x315 := x275 && x314
  let x316 := x272 && x315
  let x317 := x269 && x316
  let x318 := x266 && x317
  let x319 := x263 && x318
  let x320 := x260 && x319
  let x321 := x257 && x320
  let x322 := x254 && x321
  let x323 := x251 && x322
  let x324 := x248 && x323
  let x325 := x245 && x324
  let x326 := x242 && x325
  let x327 := x239 && x326
  let x328 := x236 && x327
  let x329 := x233 && x328
  let x330 := x230 && x329
  let x331 := x227 && x330
  let x332 := x224 && x331
  let x333 := x221 && x332
  let x334 := x218 && x333
  let x335 := x215 && x334
  let x336 := x212 && x335
  let x337 := x209 && x336
  let x338 := x206 && x337
  let x339 := x203 && x338
  let x340 := x200 && x339
  let x341 := x197 && x340
  let x342 := x194 && x341
  let x343 := x191 && x342
  let x344 := x188 && x343
  let x345 := x185 && x344
  let x346 := x182 && x345
  let x347 := x179 && x346
  let x348 := x176 && x347
  let x349 := x173 && x348
  let x350 := x170 && x349
  let x351 := x167 && x350
  let x352 := x164 && x351
  let x353 := x161 && x352
  let x354 := x158 && x353
  let x355 := x155 && x354
  let x356 := x152 && x355
  let x357 := x149 && x356
  let x358 := x146 && x357
  let x359 := x143 && x358
  let x360 := x140 && x359
  let x361 := x137 && x360
  let x362 := x134 && x361
  let x363 := x131 && x362
  let x364 := x128 && x363
  let x365 := x125 && x364
  let x366 := x122 && x365
  let x367 := x119 && x366
  let x368 := x116 && x367
  let x369 := !x368
  let x370 := x110 || x369
  let x371 := !x370
  let x372 := p100303 0 x105
  let x375 := r100303_2 0 x105
  let x376 : List DV := [.i 1]
  let x377 := x375 ++ x376
  let x378 := ((x377.length / 1 : Nat) : Int)
  let x379 := decide (x378 ≤ 7818749353073)
  [ow [(x32, true)] x33, ow [(x32, true)] x35, ow [(x32, true), (x40, true)] x41, ow [(x32, true), (x40, true)] x48, ow [(x32, true), (x40, true)] x54, ow [(x32, true), (x40, false), (x57, true)] x58, ow [(x32, true), (x40, false), (x57, true)] x65, ow [(x32, true), (x40, false), (x57, false), (x72, true)] x73, ow [(x32, true), (x40, false), (x57, false), (x72, true)] x80, ow [(x32, true), (x40, false), (x57, false), (x72, true)] x86, ow [(x32, true), (x40, false), (x57, false), (x72, false), (x89, true)] x90, ow [(x32, true), (x40, false), (x57, false), (x72, false), (x89, true)] x97, ow [(x32, true), (x40, false), (x57, false), (x72, false), (x89, false)] x104, ow [(x32, true), (x40, false), (x57, false), (x72, false), (x89, false)] x106, ow [(x32, true), (x40, false), (x57, false), (x72, false), (x89, false)] x108, ow [(x32, true), (x40, false), (x57, false), (x72, false), (x89, false), (x110, false)] x112, ow [(x32, true), (x40, false), (x57, false), (x72, false), (x89, false), (x371, true)] x372, ow [(x32, true), (x40, false), (x57, false), (x72, false), (x89, false), (x371, true)] x379].all id
noncomputable def C100300 (ds : List DV) : Bool :=
  let x0 : List DV := (dget ds 0).toL
  let x17 : Int := (dget ds 2).toI
  let x18 : List DV := (dget ds 3).toL
  let x19 : List DV := (dget ds 4).toL
  let x20 : List DV := (dget ds 5).toL
  let x21 : Int := (dget ds 6).toI
  let x22 : Int := (dget ds 7).toI
  let x24 : List DV := (dget ds 9).toL
  let x25 : List DV := (dget ds 10).toL
  let x26 : List DV := (dget ds 11).toL
  let x27 : Int := (dget ds 12).toI
  let x31 := ((x0.length / 3 : Nat) : Int)
  let x32 := ilt x17 x31
  let x36 : Int := (x0.getD (Int.toNat x17 * (3 : Nat) + (0 : Nat)) default).toI
  let x37 : Int := (x0.getD (Int.toNat x17 * (3 : Nat) + (1 : Nat)) default).toI
  let x38 : List DV := (x0.getD (Int.toNat x17 * (3 : Nat) + (2 : Nat)) default).toL
  let x40 := x36 == 0
  let y42 : List DV := g11 [.l x18, .l x19, .l x20, .i x21, .i x22, .l x38]
  let x45 : Int := (dget y42 4).toI
  let x46 : List DV := (dget y42 5).toL
  let y50 : List DV := g12 [.l x24, .l x25, .l x26, .i x27, .l x38]
  let x50 : List DV := (dget y50 2).toL
  let x53 : List DV := (dget y50 5).toL
  let x55 := r13_0 x46 x50
  let x56 := !x55
  let x57 := x36 == 1
  let y59 : List DV := g14 [.l x18, .l x19, .l x20, .i x21, .i x22, .i x37]
  let x59 : Bool := (dget y59 1).toB
  let x64 : Int := (dget y59 6).toI
  let y66 : List DV := g15 [.l x24, .l x25, .l x26, .i x27, .i x37]
  let x66 : Bool := (dget y66 1).toB
  let x69 : List DV := (dget y66 4).toL
  let x71 := x59 != x66
  let x72 := x36 == 2
  let y74 : List DV := g16 [.l x18, .l x19, .l x20, .i x21, .i x22, .i x37]
  let x77 : Int := (dget y74 4).toI
  let x78 : List DV := (dget y74 5).toL
  let y83 : List DV := g17 [.l x24, .l x25, .l x26, .i x27, .i x37]
  let x83 : List DV := (dget y83 3).toL
  let x85 : List DV := (dget y83 5).toL
  let x87 := r18_0 x78 x83
  let x88 := !x87
  let x89 := x36 == 3
  let y91 : List DV := g19 [.l x18, .l x19, .l x20, .i x21, .i x22, .i x37]
  let x91 : Int := (dget y91 1).toI
  let x95 : Int := (dget y91 5).toI
  let y98 : List DV := g20 [.l x24, .l x25, .l x26, .i x27, .i x37]
  let x98 : Int := (dget y98 1).toI
  let x102 : List DV := (dget y98 5).toL
  let x103 := x91 != x98
  let x105 := r21_0 x19
  let x107 := r22_0 x25
  let x109 := r18_0 x105 x107
  let x110 := !x109
  let x111 := r23_0 x18
  let x113 := r24_0 x24
  let x114 : Int := (x111.getD (Int.toNat 0 * (1 : Nat) + (0 : Nat)) default).toI
  let x115 : Int := (x113.getD (Int.toNat 0 * (1 : Nat) + (0 : Nat)) default).toI
  let x116 := x114 == x115
  let x117 : Int := (x111.getD (Int.toNat 0 * (1 : Nat) + (1 : Nat)) default).toI
  let x118 : Int := (x113.getD (Int.toNat 0 * (1 : Nat) + (1 : Nat)) default).toI
  let x119 := x117 == x118
  let x120 : Int := (x111.getD (Int.toNat 0 * (1 : Nat) + (2 : Nat)) default).toI
  let x121 : Int := (x113.getD (Int.toNat 0 * (1 : Nat) + (2 : Nat)) default).toI
  let x122 := x120 == x121
  let x123 : Int := (x111.getD (Int.toNat 0 * (1 : Nat) + (3 : Nat)) default).toI
  let x124 : Int := (x113.getD (Int.toNat 0 * (1 : Nat) + (3 : Nat)) default).toI
  let x125 := x123 == x124
  let x126 : Int := (x111.getD (Int.toNat 0 * (1 : Nat) + (4 : Nat)) default).toI
  let x127 : Int := (x113.getD (Int.toNat 0 * (1 : Nat) + (4 : Nat)) default).toI
  let x128 := x126 == x127
  let x129 : Int := (x111.getD (Int.toNat 0 * (1 : Nat) + (5 : Nat)) default).toI
  let x130 : Int := (x113.getD (Int.toNat 0 * (1 : Nat) + (5 : Nat)) default).toI
  let x131 := x129 == x130
  let x132 : Int := (x111.getD (Int.toNat 0 * (1 : Nat) + (6 : Nat)) default).toI
  let x133 : Int := (x113.getD (Int.toNat 0 * (1 : Nat) + (6 : Nat)) default).toI
  let x134 := x132 == x133
  let x135 : Int := (x111.getD (Int.toNat 0 * (1 : Nat) + (7 : Nat)) default).toI
  let x136 : Int := (x113.getD (Int.toNat 0 * (1 : Nat) + (7 : Nat)) default).toI
  let x137 := x135 == x136
  let x138 : Int := (x111.getD (Int.toNat 0 * (1 : Nat) + (8 : Nat)) default).toI
  let x139 : Int := (x113.getD (Int.toNat 0 * (1 : Nat) + (8 : Nat)) default).toI
  let x140 := x138 == x139
  let x141 : Int := (x111.getD (Int.toNat 0 * (1 : Nat) + (9 : Nat)) default).toI
  let x142 : Int := (x113.getD (Int.toNat 0 * (1 : Nat) + (9 : Nat)) default).toI
  let x143 := x141 == x142
  let x144 : Int := (x111.getD (Int.toNat 0 * (1 : Nat) + (10 : Nat)) default).toI
  let x145 : Int := (x113.getD (Int.toNat 0 * (1 : Nat) + (10 : Nat)) default).toI
  let x146 := x144 == x145
  let x147 : Int := (x111.getD (Int.toNat 0 * (1 : Nat) + (11 : Nat)) default).toI
  let x148 : Int := (x113.getD (Int.toNat 0 * (1 : Nat) + (11 : Nat)) default).toI
  let x149 := x147 == x148
  let x150 : Int := (x111.getD (Int.toNat 0 * (1 : Nat) + (12 : Nat)) default).toI
  let x151 : Int := (x113.getD (Int.toNat 0 * (1 : Nat) + (12 : Nat)) default).toI
  let x152 := x150 == x151
  let x153 : Int := (x111.getD (Int.toNat 0 * (1 : Nat) + (13 : Nat)) default).toI
  let x154 : Int := (x113.getD (Int.toNat 0 * (1 : Nat) + (13 : Nat)) default).toI
  let x155 := x153 == x154
  let x156 : Int := (x111.getD (Int.toNat 0 * (1 : Nat) + (14 : Nat)) default).toI
  let x157 : Int := (x113.getD (Int.toNat 0 * (1 : Nat) + (14 : Nat)) default).toI
  let x158 := x156 == x157
  let x159 : Int := (x111.getD (Int.toNat 0 * (1 : Nat) + (15 : Nat)) default).toI
  let x160 : Int := (x113.getD (Int.toNat 0 * (1 : Nat) + (15 : Nat)) default).toI
  let x161 := x159 == x160
  let x162 : Int := (x111.getD (Int.toNat 0 * (1 : Nat) + (16 : Nat)) default).toI
  let x163 : Int := (x113.getD (Int.toNat 0 * (1 : Nat) + (16 : Nat)) default).toI
  let x164 := x162 == x163
  let x165 : Int := (x111.getD (Int.toNat 0 * (1 : Nat) + (17 : Nat)) default).toI
  let x166 : Int := (x113.getD (Int.toNat 0 * (1 : Nat) + (17 : Nat)) default).toI
  let x167 := x165 == x166
  let x168 : Int := (x111.getD (Int.toNat 0 * (1 : Nat) + (18 : Nat)) default).toI
  let x169 : Int := (x113.getD (Int.toNat 0 * (1 : Nat) + (18 : Nat)) default).toI
  let x170 := x168 == x169
  let x171 : Int := (x111.getD (Int.toNat 0 * (1 : Nat) + (19 : Nat)) default).toI
  let x172 : Int := (x113.getD (Int.toNat 0 * (1 : Nat) + (19 : Nat)) default).toI
  let x173 := x171 == x172
  let x174 : Int := (x111.getD (Int.toNat 0 * (1 : Nat) + (20 : Nat)) default).toI
  let x175 : Int := (x113.getD (Int.toNat 0 * (1 : Nat) + (20 : Nat)) default).toI
  let x176 := x174 == x175
  let x177 : Int := (x111.getD (Int.toNat 0 * (1 : Nat) + (21 : Nat)) default).toI
  let x178 : Int := (x113.getD (Int.toNat 0 * (1 : Nat) + (21 : Nat)) default).toI
  let x179 := x177 == x178
  let x180 : Int := (x111.getD (Int.toNat 0 * (1 : Nat) + (22 : Nat)) default).toI
  let x181 : Int := (x113.getD (Int.toNat 0 * (1 : Nat) + (22 : Nat)) default).toI
  let x182 := x180 == x181
  let x183 : Int := (x111.getD (Int.toNat 0 * (1 : Nat) + (23 : Nat)) default).toI
  let x184 : Int := (x113.getD (Int.toNat 0 * (1 : Nat) + (23 : Nat)) default).toI
  let x185 := x183 == x184
  let x186 : Int := (x111.getD (Int.toNat 0 * (1 : Nat) + (24 : Nat)) default).toI
  let x187 : Int := (x113.getD (Int.toNat 0 * (1 : Nat) + (24 : Nat)) default).toI
  let x188 := x186 == x187
  let x189 : Int := (x111.getD (Int.toNat 0 * (1 : Nat) + (25 : Nat)) default).toI
  let x190 : Int := (x113.getD (Int.toNat 0 * (1 : Nat) + (25 : Nat)) default).toI
  let x191 := x189 == x190
  let x192 : Int := (x111.getD (Int.toNat 0 * (1 : Nat) + (26 : Nat)) default).toI
  let x193 : Int := (x113.getD (Int.toNat 0 * (1 : Nat) + (26 : Nat)) default).toI
  let x194 := x192 == x193
  let x195 : Int := (x111.getD (Int.toNat 0 * (1 : Nat) + (27 : Nat)) default).toI
  let x196 : Int := (x113.getD (Int.toNat 0 * (1 : Nat) + (27 : Nat)) default).toI
  let x197 := x195 == x196
  let x198 : Int := (x111.getD (Int.toNat 0 * (1 : Nat) + (28 : Nat)) default).toI
  let x199 : Int := (x113.getD (Int.toNat 0 * (1 : Nat) + (28 : Nat)) default).toI
  let x200 := x198 == x199
  let x201 : Int := (x111.getD (Int.toNat 0 * (1 : Nat) + (29 : Nat)) default).toI
  let x202 : Int := (x113.getD (Int.toNat 0 * (1 : Nat) + (29 : Nat)) default).toI
  let x203 := x201 == x202
  let x204 : Int := (x111.getD (Int.toNat 0 * (1 : Nat) + (30 : Nat)) default).toI
  let x205 : Int := (x113.getD (Int.toNat 0 * (1 : Nat) + (30 : Nat)) default).toI
  let x206 := x204 == x205
  let x207 : Int := (x111.getD (Int.toNat 0 * (1 : Nat) + (31 : Nat)) default).toI
  let x208 : Int := (x113.getD (Int.toNat 0 * (1 : Nat) + (31 : Nat)) default).toI
  let x209 := x207 == x208
  let x210 : Int := (x111.getD (Int.toNat 0 * (1 : Nat) + (32 : Nat)) default).toI
  let x211 : Int := (x113.getD (Int.toNat 0 * (1 : Nat) + (32 : Nat)) default).toI
  let x212 := x210 == x211
  let x213 : Int := (x111.getD (Int.toNat 0 * (1 : Nat) + (33 : Nat)) default).toI
  let x214 : Int := (x113.getD (Int.toNat 0 * (1 : Nat) + (33 : Nat)) default).toI
  let x215 := x213 == x214
  let x216 : Int := (x111.getD (Int.toNat 0 * (1 : Nat) + (34 : Nat)) default).toI
  let x217 : Int := (x113.getD (Int.toNat 0 * (1 : Nat) + (34 : Nat)) default).toI
  let x218 := x216 == x217
  let x219 : Int := (x111.getD (Int.toNat 0 * (1 : Nat) + (35 : Nat)) default).toI
  let x220 : Int := (x113.getD (Int.toNat 0 * (1 : Nat) + (35 : Nat)) default).toI
  let x221 := x219 == x220
  let x222 : Int := (x111.getD (Int.toNat 0 * (1 : Nat) + (36 : Nat)) default).toI
  let x223 : Int := (x113.getD (Int.toNat 0 * (1 : Nat) + (36 : Nat)) default).toI
  let x224 := x222 == x223
  let x225 : Int := (x111.getD (Int.toNat 0 * (1 : Nat) + (37 : Nat)) default).toI
  let x226 : Int := (x113.getD (Int.toNat 0 * (1 : Nat) + (37 : Nat)) default).toI
  let x227 := x225 == x226
  let x228 : Int := (x111.getD (Int.toNat 0 * (1 : Nat) + (38 : Nat)) default).toI
  let x229 : Int := (x113.getD (Int.toNat 0 * (1 : Nat) + (38 : Nat)) default).toI
  let x230 := x228 == x229
  let x231 : Int := (x111.getD (Int.toNat 0 * (1 : Nat) + (39 : Nat)) default).toI
  let x232 : Int := (x113.getD (Int.toNat 0 * (1 : Nat) + (39 : Nat)) default).toI
  let x233 := x231 == x232
  let x234 : Int := (x111.getD (Int.toNat 0 * (1 : Nat) + (40 : Nat)) default).toI
  let x235 : Int := (x113.getD (Int.toNat 0 * (1 : Nat) + (40 : Nat)) default).toI
  let x236 := x234 == x235
  let x237 : Int := (x111.getD (Int.toNat 0 * (1 : Nat) + (41 : Nat)) default).toI
  let x238 : Int := (x113.getD (Int.toNat 0 * (1 : Nat) + (41 : Nat)) default).toI
  let x239 := x237 == x238
  let x240 : Int := (x111.getD (Int.toNat 0 * (1 : Nat) + (42 : Nat)) default).toI
  let x241 : Int := (x113.getD (Int.toNat 0 * (1 : Nat) + (42 : Nat)) default).toI
  let x242 := x240 == x241
  let x243 : Int := (x111.getD (Int.toNat 0 * (1 : Nat) + (43 : Nat)) default).toI
  let x244 : Int := (x113.getD (Int.toNat 0 * (1 : Nat) + (43 : Nat)) default).toI
  let x245 := x243 == x244
  let x246 : Int := (x111.getD (Int.toNat 0 * (1 : Nat) + (44 : Nat)) default).toI
  let x247 : Int := (x113.getD (Int.toNat 0 * (1 : Nat) + (44 : Nat)) default).toI
  let x248 := x246 == x247
  let x249 : Int := (x111.getD (Int.toNat 0 * (1 : Nat) + (45 : Nat)) default).toI
  let x250 : Int := (x113.getD (Int.toNat 0 * (1 : Nat) + (45 : Nat)) default).toI
  let x251 := x249 == x250
  let x252 : Int := (x111.getD (Int.toNat 0 * (1 : Nat) + (46 : Nat)) default).toI
  let x253 : Int := (x113.getD (Int.toNat 0 * (1 : Nat) + (46 : Nat)) default).toI
  let x254 := x252 == x253
  let x255 : Int := (x111.getD (Int.toNat 0 * (1 : Nat) + (47 : Nat)) default).toI
  let x256 : Int := (x113.getD (Int.toNat 0 * (1 : Nat) + (47 : Nat)) default).toI
  let x257 := x255 == x256
  let x258 : Int := (x111.getD (Int.toNat 0 * (1 : Nat) + (48 : Nat)) default).toI
  let x259 : Int := (x113.getD (Int.toNat 0 * (1 : Nat) + (48 : Nat)) default).toI
  let x260 := x258 == x259
  let x261 : Int := (x111.getD (Int.toNat 0 * (1 : Nat) + (49 : Nat)) default).toI
  let x262 : Int := (x113.getD (Int.toNat 0 * (1 : Nat) + (49 : Nat)) default).toI
  let x263 := x261 == x262
  let x264 : Int := (x111.getD (Int.toNat 0 * (1 : Nat) + (50 : Nat)) default).toI
  let x265 : Int := (x113.getD (Int.toNat 0 * (1 : Nat) + (50 : Nat)) default).toI
  let x266 := x264 == x265
  let x267 : Int := (x111.getD (Int.toNat 0 * (1 : Nat) + (51 : Nat)) default).toI
  let x268 : Int := (x113.getD (Int.toNat 0 * (1 : Nat) + (51 : Nat)) default).toI
  let x269 := x267 == x268
  let x270 : Int := (x111.getD (Int.toNat 0 * (1 : Nat) + (52 : Nat)) default).toI
  let x271 : Int := (x113.getD (Int.toNat 0 * (1 : Nat) + (52 : Nat)) default).toI
  let x272 := x270 == x271
  let x273 : Int := (x111.getD (Int.toNat 0 * (1 : Nat) + (53 : Nat)) default).toI
  let x274 : Int := (x113.getD (Int.toNat 0 * (1 : Nat) + (53 : Nat)) default).toI
  let x275 := x273 == x274
  let x276 : Int := (x111.getD (Int.toNat 0 * (1 : Nat) + (54 : Nat)) default).toI
  let x277 : Int := (x113.getD (Int.toNat 0 * (1 : Nat) + (54 : Nat)) default).toI
  let x278 := x276 == x277
  let x279 : Int := (x111.getD (Int.toNat 0 * (1 : Nat) + (55 : Nat)) default).toI
  let x280 : Int := (x113.getD (Int.toNat 0 * (1 : Nat) + (55 : Nat)) default).toI
  let x281 := x279 == x280
  let x282 : Int := (x111.getD (Int.toNat 0 * (1 : Nat) + (56 : Nat)) default).toI
  let x283 : Int := (x113.getD (Int.toNat 0 * (1 : Nat) + (56 : Nat)) default).toI
  let x284 := x282 == x283
  let x285 : Int := (x111.getD (Int.toNat 0 * (1 : Nat) + (57 : Nat)) default).toI
  let x286 : Int := (x113.getD (Int.toNat 0 * (1 : Nat) + (57 : Nat)) default).toI
  let x287 := x285 == x286
  let x288 : Int := (x111.getD (Int.toNat 0 * (1 : Nat) + (58 : Nat)) default).toI
  let x289 : Int := (x113.getD (Int.toNat 0 * (1 : Nat) + (58 : Nat)) default).toI
  let x290 := x288 == x289
  let x291 : Int := (x111.getD (Int.toNat 0 * (1 : Nat) + (59 : Nat)) default).toI
  let x292 : Int := (x113.getD (Int.toNat 0 * (1 : Nat) + (59 : Nat)) default).toI
  let x293 := x291 == x292
  let x294 : Int := (x111.getD (Int.toNat 0 * (1 : Nat) + (60 : Nat)) default).toI
  let x295 : Int := (x113.getD (Int.toNat 0 * (1 : Nat) + (60 : Nat)) default).toI
  let x296 := x294 == x295
  let x297 : Int := (x111.getD (Int.toNat 0 * (1 : Nat) + (61 : Nat)) default).toI
  let x298 : Int := (x113.getD (Int.toNat 0 * (1 : Nat) + (61 : Nat)) default).toI
  let x299 := x297 == x298
  let x300 : Int := (x111.getD (Int.toNat 0 * (1 : Nat) + (62 : Nat)) default).toI
  let x301 : Int := (x113.getD (Int.toNat 0 * (1 : Nat) + (62 : Nat)) default).toI
  let x302 := x300 == x301
  let x303 : Int := (x111.getD (Int.toNat 0 * (1 : Nat) + (63 : Nat)) default).toI
  let x304 : Int := (x113.getD (Int.toNat 0 * (1 : Nat) + (63 : Nat)) default).toI
  let x305 := x303 == x304
  let x306 := x302 && x305
  let x307 := x299 && x306
  let x308 := x296 && x307
  let x309 := x293 && x308
  let x310 := x290 && x309
  let x311 := x287 && x310
  let x312 := x284 && x311
  let x313 := x281 && x312
  let x314 := x278 && x313
  let x315 := x275 && x314
  let x316 := x272 && x315
  let x317 := x269 && x316
  let x318 := x266 && x317
  let x319 := x263 && x318
  let x320 := x260 && x319
  let x321 := x257 && x320
  let x322 := x254 && x321
  let x323 := x251 && x322
  let x324 := x248 && x323
  let x325 := x245 && x324
  let x326 := x242 && x325
  let x327 := x239 && x326
  let x328 := x236 && x327
  let x329 := x233 && x328
  let x330 := x230 && x329
  let x331 := x227 && x330
  let x332 := x224 && x331
  let x333 := x221 && x332
  let x334 := x218 && x333
  let x335 := x215 && x334
  let x336 := x212 && x335
  let x337 := x209 && x336
  let x338 := x206 && x337
  let x339 := x203 && x338
  let x340 := x200 && x339
  let x341 := x197 && x340
  let x342 := x194 && x341
  let x343 := x191 && x342
  let x344 := x188 && x343
  let x345 := x185 && x344
  let x346 := x182 && x345
  let x347 := x179 && x346
  let x348 := x176 && x347
  let x349 := x173 && x348
  let x350 := x170 && x349
  let x351 := x167 && x350
  let x352 := x164 && x351
  let x353 := x161 && x352
  let x354 := x158 && x353
  let x355 := x155 && x354
  let x356 := x152 && x355
  let x357 := x149 && x356
  let x358 := x146 && x357
  let x359 := x143 && x358
  let x360 := x140 && x359
  let x361 := x137 && x360
  let x362 := x134 && x361
  let x363 := x131 && x362
  let x364 := x128 && x363
  let x365 := x125 && x364
  let x366 := x122 && x365
  let x367 := x119 && x366
  let x368 := x116 && x367
  let x369 := !x368
  let x370 := x110 || x369
  let x371 := !x370
  let x380 := !x56
  let x381 := !x71
  let x382 := !x88
  let x383 := !x103
  let x384 := bif x89 then x383 else x371
  let x385 := bif x72 then x382 else x384
  let x386 := bif x57 then x381 else x385
  let x387 := bif x40 then x380 else x386
  let x392 := bif x89 then x95 else x22
  let x395 := bif x89 then x102 else x26
  let x401 := bif x72 then x77 else x392
  let x404 := bif x72 then x85 else x395
  let x410 := bif x57 then x64 else x401
  let x413 := bif x57 then x69 else x404
  let x419 := bif x40 then x45 else x410
  let x422 := bif x40 then x53 else x413
  let x424 := r25_0 x419
  let x425 := ((x422.length / 5 : Nat) : Int)
  let x426 := x424 != x425
  let x427 := !x426
  let x428 := x387 && x427
  let x430 := x32 && x428
  x430
noncomputable def N100300 (ds : List DV) : List DV :=
  let x0 : List DV := (dget ds 0).toL
  let x16 : Bool := (dget ds 1).toB
  let x17 : Int := (dget ds 2).toI
  let x18 : List DV := (dget ds 3).toL
  let x19 : List DV := (dget ds 4).toL
  let x20 : List DV := (dget ds 5).toL
  let x21 : Int := (dget ds 6).toI
  let x22 : Int := (dget ds 7).toI
  let x24 : List DV := (dget ds 9).toL
  let x25 : List DV := (dget ds 10).toL
  let x26 : List DV := (dget ds 11).toL
  let x27 : Int := (dget ds 12).toI
  let x36 : Int := (x0.getD (Int.toNat x17 * (3 : Nat) + (0 : Nat)) default).toI
  let x37 : Int := (x0.getD (Int.toNat x17 * (3 : Nat) + (1 : Nat)) default).toI
  let x38 : List DV := (x0.getD (Int.toNat x17 * (3 : Nat) + (2 : Nat)) default).toL
  let x40 := x36 == 0
  let y42 : List DV := g11 [.l x18, .l x19, .l x20, .i x21, .i x22, .l x38]
  let x42 : List DV := (dget y42 1).toL
  let x43 : List DV := (dget y42 2).toL
  let x44 : Int := (dget y42 3).toI
  let x45 : Int := (dget y42 4).toI
  let x47 : List DV := (dget y42 6).toL
  let y49 : List DV := g12 [.l x24, .l x25, .l x26, .i x27, .l x38]
  let x49 : Int := (dget y49 1).toI
  let x51 : List DV := (dget y49 3).toL
  let x52 : List DV := (dget y49 4).toL
  let x53 : List DV := (dget y49 5).toL
  let x57 := x36 == 1
  let y60 : List DV := g14 [.l x18, .l x19, .l x20, .i x21, .i x22, .i x37]
  let x60 : List DV := (dget y60 2).toL
  let x61 : List DV := (dget y60 3).toL
  let x62 : List DV := (dget y60 4).toL
  let x63 : Int := (dget y60 5).toI
  let x64 : Int := (dget y60 6).toI
  let y67 : List DV := g15 [.l x24, .l x25, .l x26, .i x27, .i x37]
  let x67 : List DV := (dget y67 2).toL
  let x68 : List DV := (dget y67 3).toL
  let x69 : List DV := (dget y67 4).toL
  let x70 : Int := (dget y67 5).toI
  let x72 := x36 == 2
  let y74 : List DV := g16 [.l x18, .l x19, .l x20, .i x21, .i x22, .i x37]
  let x74 : List DV := (dget y74 1).toL
  let x75 : List DV := (dget y74 2).toL
  let x76 : Int := (dget y74 3).toI
  let x77 : Int := (dget y74 4).toI
  let x79 : List DV := (dget y74 6).toL
  let y81 : List DV := g17 [.l x24, .l x25, .l x26, .i x27, .i x37]
  let x81 : List DV := (dget y81 1).toL
  let x82 : Int := (dget y81 2).toI
  let x84 : List DV := (dget y81 4).toL
  let x85 : List DV := (dget y81 5).toL
  let x89 := x36 == 3
  let y92 : List DV := g19 [.l x18, .l x19, .l x20, .i x21, .i x22, .i x37]
  let x92 : List DV := (dget y92 2).toL
  let x93 : List DV := (dget y92 3).toL
  let x94 : Int := (dget y92 4).toI
  let x95 : Int := (dget y92 5).toI
  let x96 : List DV := (dget y92 6).toL
  let y99 : List DV := g20 [.l x24, .l x25, .l x26, .i x27, .i x37]
  let x99 : List DV := (dget y99 2).toL
  let x100 : Int := (dget y99 3).toI
  let x101 : List DV := (dget y99 4).toL
  let x102 : List DV := (dget y99 5).toL
  let x388 := bif x89 then x92 else x18
  let x389 := bif x89 then x96 else x19
  let x390 := bif x89 then x93 else x20
  let x391 := bif x89 then x94 else x21
  let x392 := bif x89 then x95 else x22
  let x393 := bif x89 then x99 else x24
  let x394 := bif x89 then x101 else x25
  let x395 := bif x89 then x102 else x26
  let x396 := bif x89 then x100 else x27
  let x397 := bif x72 then x74 else x388
  let x398 := bif x72 then x79 else x389
  let x399 := bif x72 then x75 else x390
  let x400 := bif x72 then x76 else x391
  let x401 := bif x72 then x77 else x392
  let x402 := bif x72 then x81 else x393
  let x403 := bif x72 then x84 else x394
  let x404 := bif x72 then x85 else x395
  let x405 := bif x72 then x82 else x396
  let x406 := bif x57 then x61 else x397
  let x407 := bif x57 then x60 else x398
  let x408 := bif x57 then x62 else x399
  let x409 := bif x57 then x63 else x400
  let x410 := bif x57 then x64 else x401
  let x411 := bif x57 then x67 else x402
  let x412 := bif x57 then x68 else x403
  let x413 := bif x57 then x69 else x404
  let x414 := bif x57 then x70 else x405
  let x415 := bif x40 then x42 else x406
  let x416 := bif x40 then x47 else x407
  let x417 := bif x40 then x43 else x408
  let x418 := bif x40 then x44 else x409
  let x419 := bif x40 then x45 else x410
  let x420 := bif x40 then x51 else x411
  let x421 := bif x40 then x52 else x412
  let x422 := bif x40 then x53 else x413
  let x423 := bif x40 then x49 else x414
  let x429 := IntKind.wrap .i64 (x17 + 1)
  [.l (dget ds 0).toL, .b x16, .i x429, .l x415, .l x416, .l x417, .i x418, .i x419, .l x0, .l x420, .l x421, .l x422, .i x423, .l x0, .l x0, .l x0]
noncomputable def T100300 (ds : List DV) : List DV :=
  let x0 : List DV := (dget ds 0).toL
  let x16 : Bool := (dget ds 1).toB
  let x17 : Int := (dget ds 2).toI
  let x18 : List DV := (dget ds 3).toL
  let x19 : List DV := (dget ds 4).toL
  let x20 : List DV := (dget ds 5).toL
  let x21 : Int := (dget ds 6).toI
  let x22 : Int := (dget ds 7).toI
  let x24 : List DV := (dget ds 9).toL
  let x25 : List DV := (dget ds 10).toL
  let x26 : List DV := (dget ds 11).toL
  let x27 : Int := (dget ds 12).toI
  let x31 := ((x0.length / 3 : Nat) : Int)
  let x32 := ilt x17 x31
  let x36 : Int := (x0.getD (Int.toNat x17 * (3 : Nat) + (0 : Nat)) default).toI
  let x37 : Int := (x0.getD (Int.toNat x17 * (3 : Nat) + (1 : Nat)) default).toI
  let x38 : List DV := (x0.getD (Int.toNat x17 * (3 : Nat) + (2 : Nat)) default).toL
  let x40 := x36 == 0
  let y42 : List DV := g11 [.l x18, .l x19, .l x20, .i x21, .i x22, .l x38]
  let x42 : List DV := (dget y42 1).toL
  let x43 : List DV := (dget y42 2).toL
  let x44 : Int := (dget y42 3).toI
  let x45 : Int := (dget y42 4).toI
  let x46 : List DV := (dget y42 5).toL
  let x47 : List DV := (dget y42 6).toL
  let y49 : List DV := g12 [.l x24, .l x25, .l x26, .i x27, .l x38]
  let x49 : Int := (dget y49 1).toI
  let x50 : List DV := (dget y49 2).toL
  let x51 : List DV := (dget y49 3).toL
  let x52 : List DV := (dget y49 4).toL
  let x53 : List DV := (dget y49 5).toL
  let x55 := r13_0 x46 x50
  let x56 := !x55
  let x57 := x36 == 1
  let y59 : List DV := g14 [.l x18, .l x19, .l x20, .i x21, .i x22, .i x37]
  let x59 : Bool := (dget y59 1).toB
  let x60 : List DV := (dget y59 2).toL
  let x61 : List DV := (dget y59 3).toL
  let x62 : List DV := (dget y59 4).toL
  let x63 : Int := (dget y59 5).toI
  let x64 : Int := (dget y59 6).toI
  let y66 : List DV := g15 [.l x24, .l x25, .l x26, .i x27, .i x37]
  let x66 : Bool := (dget y66 1).toB
  let x67 : List DV := (dget y66 2).toL
  let x68 : List DV := (dget y66 3).toL
  let x69 : List DV := (dget y66 4).toL
  let x70 : Int := (dget y66 5).toI
  let x71 := x59 != x66
  let x72 := x36 == 2
  let y74 : List DV := g16 [.l x18, .l x19, .l x20, .i x21, .i x22, .i x37]
  let x74 : List DV := (dget y74 1).toL
  let x75 : List DV := (dget y74 2).toL
  let x76 : Int := (dget y74 3).toI
  let x77 : Int := (dget y74 4).toI
  let x78 : List DV := (dget y74 5).toL
  let x79 : List DV := (dget y74 6).toL
  let y81 : List DV := g17 [.l x24, .l x25, .l x26, .i x27, .i x37]
  let x81 : List DV := (dget y81 1).toL
  let x82 : Int := (dget y81 2).toI
  let x83 : List DV := (dget y81 3).toL
  let x84 : List DV := (dget y81 4).toL
  let x85 : List DV := (dget y81 5).toL
  let x87 := r18_0 x78 x83
  let x88 := !x87
  let x89 := x36 == 3
  let y91 : List DV := g19 [.l x18, .l x19, .l x20, .i x21, .i x22, .i x37]
  let x91 : Int := (dget y91 1).toI
  let x92 : List DV := (dget y91 2).toL
  let x93 : List DV := (dget y91 3).toL
  let x94 : Int := (dget y91 4).toI
  let x95 : Int := (dget y91 5).toI
  let x96 : List DV := (dget y91 6).toL
  let y98 : List DV := g20 [.l x24, .l x25, .l x26, .i x27, .i x37]
  let x98 : Int := (dget y98 1).toI
  let x99 : List DV := (dget y98 2).toL
  let x100 : Int := (dget y98 3).toI
  let x101 : List DV := (dget y98 4).toL
  let x102 : List DV := (dget y98 5).toL
  let x103 := x91 != x98
  let x105 := r21_0 x19
  let x107 := r22_0 x25
  let x109 := r18_0 x105 x107
  let x110 := !x109
  let x111 := r23_0 x18
  let x113 := r24_0 x24
  let x114 : Int := (x111.getD (Int.toNat 0 * (1 : Nat) + (0 : Nat)) default).toI
  let x115 : Int := (x113.getD (Int.toNat 0 * (1 : Nat) + (0 : Nat)) default).toI
  let x116 := x114 == x115
  let x117 : Int := (x111.getD (Int.toNat 0 * (1 : Nat) + (1 : Nat)) default).toI
  let x118 : Int := (x113.getD (Int.toNat 0 * (1 : Nat) + (1 : Nat)) default).toI
  let x119 := x117 == x118
  let x120 : Int := (x111.getD (Int.toNat 0 * (1 : Nat) + (2 : Nat)) default).toI
  let x121 : Int := (x113.getD (Int.toNat 0 * (1 : Nat) + (2 : Nat)) default).toI
  let x122 := x120 == x121
  let x123 : Int := (x111.getD (Int.toNat 0 * (1 : Nat) + (3 : Nat)) default).toI
  let x124 : Int := (x113.getD (Int.toNat 0 * (1 : Nat) + (3 : Nat)) default).toI
  let x125 := x123 == x124
  let x126 : Int := (x111.getD (Int.toNat 0 * (1 : Nat) + (4 : Nat)) default).toI
  let x127 : Int := (x113.getD (Int.toNat 0 * (1 : Nat) + (4 : Nat)) default).toI
  let x128 := x126 == x127
  let x129 : Int := (x111.getD (Int.toNat 0 * (1 : Nat) + (5 : Nat)) default).toI
  let x130 : Int := (x113.getD (Int.toNat 0 * (1 : Nat) + (5 : Nat)) default).toI
  let x131 := x129 == x130
  let x132 : Int := (x111.getD (Int.toNat 0 * (1 : Nat) + (6 : Nat)) default).toI
  let x133 : Int := (x113.getD (Int.toNat 0 * (1 : Nat) + (6 : Nat)) default).toI
  let x134 := x132 == x133
  let x135 : Int := (x111.getD (Int.toNat 0 * (1 : Nat) + (7 : Nat)) default).toI
  let x136 : Int := (x113.getD (Int.toNat 0 * (1 : Nat) + (7 : Nat)) default).toI
  let x137 := x135 == x136
  let x138 : Int := (x111.getD (Int.toNat 0 * (1 : Nat) + (8 : Nat)) default).toI
  let x139 : Int := (x113.getD (Int.toNat 0 * (1 : Nat) + (8 : Nat)) default).toI
  let x140 := x138 == x139
  let x141 : Int := (x111.getD (Int.toNat 0 * (1 : Nat) + (9 : Nat)) default).toI
  let x142 : Int := (x113.getD (Int.toNat 0 * (1 : Nat) + (9 : Nat)) default).toI
  let x143 := x141 == x142
  let x144 : Int := (x111.getD (Int.toNat 0 * (1 : Nat) + (10 : Nat)) default).toI
  let x145 : Int := (x113.getD (Int.toNat 0 * (1 : Nat) + (10 : Nat)) default).toI
  let x146 := x144 == x145
  let x147 : Int := (x111.getD (Int.toNat 0 * (1 : Nat) + (11 : Nat)) default).toI
  let x148 : Int := (x113.getD (Int.toNat 0 * (1 : Nat) + (11 : Nat)) default).toI
  let x149 := x147 == x148
  let x150 : Int := (x111.getD (Int.toNat 0 * (1 : Nat) + (12 : Nat)) default).toI
  let x151 : Int := (x113.getD (Int.toNat 0 * (1 : Nat) + (12 : Nat)) default).toI
  let x152 := x150 == x151
  let x153 : Int := (x111.getD (Int.toNat 0 * (1 : Nat) + (13 : Nat)) default).toI
  let x154 : Int := (x113.getD (Int.toNat 0 * (1 : Nat) + (13 : Nat)) default).toI
  let x155 := x153 == x154
  let x156 : Int := (x111.getD (Int.toNat 0 * (1 : Nat) + (14 : Nat)) default).toI
  let x157 : Int := (x113.getD (Int.toNat 0 * (1 : Nat) + (14 : Nat)) default).toI
  let x158 := x156 == x157
  let x159 : Int := (x111.getD (Int.toNat 0 * (1 : Nat) + (15 : Nat)) default).toI
  let x160 : Int := (x113.getD (Int.toNat 0 * (1 : Nat) + (15 : Nat)) default).toI
  let x161 := x159 == x160
  let x162 : Int := (x111.getD (Int.toNat 0 * (1 : Nat) + (16 : Nat)) default).toI
  let x163 : Int := (x113.getD (Int.toNat 0 * (1 : Nat) + (16 : Nat)) default).toI
  let x164 := x162 == x163
  let x165 : Int := (x111.getD (Int.toNat 0 * (1 : Nat) + (17 : Nat)) default).toI
  let x166 : Int := (x113.getD (Int.toNat 0 * (1 : Nat) + (17 : Nat)) default).toI
  let x167 := x165 == x166
  let x168 : Int := (x111.getD (Int.toNat 0 * (1 : Nat) + (18 : Nat)) default).toI
  let x169 : Int := (x113.getD (Int.toNat 0 * (1 : Nat) + (18 : Nat)) default).toI
  let x170 := x168 == x169
  let x171 : Int := (x111.getD (Int.toNat 0 * (1 : Nat) + (19 : Nat)) default).toI
  let x172 : Int := (x113.getD (Int.toNat 0 * (1 : Nat) + (19 : Nat)) default).toI
  let x173 := x171 == x172
  let x174 : Int := (x111.getD (Int.toNat 0 * (1 : Nat) + (20 : Nat)) default).toI
  let x175 : Int := (x113.getD (Int.toNat 0 * (1 : Nat) + (20 : Nat)) default).toI
  let x176 := x174 == x175
  let x177 : Int := (x111.getD (Int.toNat 0 * (1 : Nat) + (21 : Nat)) default).toI
  let x178 : Int := (x113.getD (Int.toNat 0 * (1 : Nat) + (21 : Nat)) default).toI
  let x179 := x177 == x178
  let x180 : Int := (x111.getD (Int.toNat 0 * (1 : Nat) + (22 : Nat)) default).toI
  let x181 : Int := (x113.getD (Int.toNat 0 * (1 : Nat) + (22 : Nat)) default).toI
  let x182 := x180 == x181
  let x183 : Int := (x111.getD (Int.toNat 0 * (1 : Nat) + (23 : Nat)) default).toI
  let x184 : Int := (x113.getD (Int.toNat 0 * (1 : Nat) + (23 : Nat)) default).toI
  let x185 := x183 == x184
  let x186 : Int := (x111.getD (Int.toNat 0 * (1 : Nat) + (24 : Nat)) default).toI
  let x187 : Int := (x113.getD (Int.toNat 0 * (1 : Nat) + (24 : Nat)) default).toI
  let x188 := x186 == x187
  let x189 : Int := (x111.getD (Int.toNat 0 * (1 : Nat) + (25 : Nat)) default).toI
  let x190 : Int := (x113.getD (Int.toNat 0 * (1 : Nat) + (25 : Nat)) default).toI
  let x191 := x189 == x190
  let x192 : Int := (x111.getD (Int.toNat 0 * (1 : Nat) + (26 : Nat)) default).toI
  let x193 : Int := (x113.getD (Int.toNat 0 * (1 : Nat) + (26 : Nat)) default).toI
  let x194 := x192 == x193
  let x195 : Int := (x111.getD (Int.toNat 0 * (1 : Nat) + (27 : Nat)) default).toI
  let x196 : Int := (x113.getD (Int.toNat 0 * (1 : Nat) + (27 : Nat)) default).toI
  let x197 := x195 == x196
  let x198 : Int := (x111.getD (Int.toNat 0 * (1 : Nat) + (28 : Nat)) default).toI
  let x199 : Int := (x113.getD (Int.toNat 0 * (1 : Nat) + (28 : Nat)) default).toI
  let x200 := x198 == x199
  let x201 : Int := (x111.getD (Int.toNat 0 * (1 : Nat) + (29 : Nat)) default).toI
  let x202 : Int := (x113.getD (Int.toNat 0 * (1 : Nat) + (29 : Nat)) default).toI
  let x203 := x201 == x202
  let x204 : Int := (x111.getD (Int.toNat 0 * (1 : Nat) + (30 : Nat)) default).toI
  let x205 : Int := (x113.getD (Int.toNat 0 * (1 : Nat) + (30 : Nat)) default).toI
  let x206 := x204 == x205
  let x207 : Int := (x111.getD (Int.toNat 0 * (1 : Nat) + (31 : Nat)) default).toI
  let x208 : Int := (x113.getD (Int.toNat 0 * (1 : Nat) + (31 : Nat)) default).toI
  let x209 := x207 == x208
  let x210 : Int := (x111.getD (Int.toNat 0 * (1 : Nat) + (32 : Nat)) default).toI
  let x211 : Int := (x113.getD (Int.toNat 0 * (1 : Nat) + (32 : Nat)) default).toI
  let x212 := x210 == x211
  let x213 : Int := (x111.getD (Int.toNat 0 * (1 : Nat) + (33 : Nat)) default).toI
  let x214 : Int := (x113.getD (Int.toNat 0 * (1 : Nat) + (33 : Nat)) default).toI
  let x215 := x213 == x214
  let x216 : Int := (x111.getD (Int.toNat 0 * (1 : Nat) + (34 : Nat)) default).toI
  let x217 : Int := (x113.getD (Int.toNat 0 * (1 : Nat) + (34 : Nat)) default).toI
  let x218 := x216 == x217
  let x219 : Int := (x111.getD (Int.toNat 0 * (1 : Nat) + (35 : Nat)) default).toI
  let x220 : Int := (x113.getD (Int.toNat 0 * (1 : Nat) + (35 : Nat)) default).toI
  let x221 := x219 == x220
  let x222 : Int := (x111.getD (Int.toNat 0 * (1 : Nat) + (36 : Nat)) default).toI
  let x223 : Int := (x113.getD (Int.toNat 0 * (1 : Nat) + (36 : Nat)) default).toI
  let x224 := x222 == x223
  let x225 : Int := (x111.getD (Int.toNat 0 * (1 : Nat) + (37 : Nat)) default).toI
  let x226 : Int := (x113.getD (Int.toNat 0 * (1 : Nat) + (37 : Nat)) default).toI
  let x227 := x225 == x226
  let x228 : Int := (x111.getD (Int.toNat 0 * (1 : Nat) + (38 : Nat)) default).toI
  let x229 : Int := (x113.getD (Int.toNat 0 * (1 : Nat) + (38 : Nat)) default).toI
  let x230 := x228 == x229
  let x231 : Int := (x111.getD (Int.toNat 0 * (1 : Nat) + (39 : Nat)) default).toI
  let x232 : Int := (x113.getD (Int.toNat 0 * (1 : Nat) + (39 : Nat)) default).toI
  let x233 := x231 == x232
  let x234 : Int := (x111.getD (Int.toNat 0 * (1 : Nat) + (40 : Nat)) default).toI
  let x235 : Int := (x113.getD (Int.toNat 0 * (1 : Nat) + (40 : Nat)) default).toI
  let x236 := x234 == x235
  let x237 : Int := (x111.getD (Int.toNat 0 * (1 : Nat) + (41 : Nat)) default).toI
  let x238 : Int := (x113.getD (Int.toNat 0 * (1 : Nat) + (41 : Nat)) default).toI
  let x239 := x237 == x238
  let x240 : Int := (x111.getD (Int.toNat 0 * (1 : Nat) + (42 : Nat)) default).toI
  let x241 : Int := (x113.getD (Int.toNat 0 * (1 : Nat) + (42 : Nat)) default).toI
  let x242 := x240 == x241
  let x243 : Int := (x111.getD (Int.toNat 0 * (1 : Nat) + (43 : Nat)) default).toI
  let x244 : Int := (x113.getD (Int.toNat 0 * (1 : Nat) + (43 : Nat)) default).toI
  let x245 := x243 == x244
  let x246 : Int := (x111.getD (Int.toNat 0 * (1 : Nat) + (44 : Nat)) default).toI
  let x247 : Int := (x113.getD (Int.toNat 0 * (1 : Nat) + (44 : Nat)) default).toI
  let x248 := x246 == x247
  let x249 : Int := (x111.getD (Int.toNat 0 * (1 : Nat) + (45 : Nat)) default).toI
  let x250 : Int := (x113.getD (Int.toNat 0 * (1 : Nat) + (45 : Nat)) default).toI
  let x251 := x249 == x250
  let x252 : Int := (x111.getD (Int.toNat 0 * (1 : Nat) + (46 : Nat)) default).toI
  let x253 : Int := (x113.getD (Int.toNat 0 * (1 : Nat) + (46 : Nat)) default).toI
  let x254 := x252 == x253
  let x255 : Int := (x111.getD (Int.toNat 0 * (1 : Nat) + (47 : Nat)) default).toI
  let x256 : Int := (x113.getD (Int.toNat 0 * (1 : Nat) + (47 : Nat)) default).toI
  let x257 := x255 == x256
  let x258 : Int := (x111.getD (Int.toNat 0 * (1 : Nat) + (48 : Nat)) default).toI
  let x259 : Int := (x113.getD (Int.toNat 0 * (1 : Nat) + (48 : Nat)) default).toI
  let x260 := x258 == x259
  let x261 : Int := (x111.getD (Int.toNat 0 * (1 : Nat) + (49 : Nat)) default).toI
  let x262 : Int := (x113.getD (Int.toNat 0 * (1 : Nat) + (49 : Nat)) default).toI
  let x263 := x261 == x262
  let x264 : Int := (x111.getD (Int.toNat 0 * (1 : Nat) + (50 : Nat)) default).toI
  let x265 : Int := (x113.getD (Int.toNat 0 * (1 : Nat) + (50 : Nat)) default).toI
  let x266 := x264 == x265
  let x267 : Int := (x111.getD (Int.toNat 0 * (1 : Nat) + (51 : Nat)) default).toI
  let x268 : Int := (x113.getD (Int.toNat 0 * (1 : Nat) + (51 : Nat)) default).toI
  let x269 := x267 == x268
  let x270 : Int := (x111.getD (Int.toNat 0 * (1 : Nat) + (52 : Nat)) default).toI
  let x271 : Int := (x113.getD (Int.toNat 0 * (1 : Nat) + (52 : Nat)) default).toI
  let x272 := x270 == x271
  let x273 : Int := (x111.getD (Int.toNat 0 * (1 : Nat) + (53 : Nat)) default).toI
  let x274 : Int := (x113.getD (Int.toNat 0 * (1 : Nat) + (53 : Nat)) default).toI
  let x275 := x273 == x274
  let x276 : Int := (x111.getD (Int.toNat 0 * (1 : Nat) + (54 : Nat)) default).toI
  let x277 : Int := (x113.getD (Int.toNat 0 * (1 : Nat) + (54 : Nat)) default).toI
  let x278 := x276 == x277
  let x279 : Int := (x111.getD (Int.toNat 0 * (1 : Nat) + (55 : Nat)) default).toI
  let x280 : Int := (x113.getD (Int.toNat 0 * (1 : Nat) + (55 : Nat)) default).toI
  let x281 := x279 == x280
  let x282 : Int := (x111.getD (Int.toNat 0 * (1 : Nat) + (56 : Nat)) default).toI
  let x283 : Int := (x113.getD (Int.toNat 0 * (1 : Nat) + (56 : Nat)) default).toI
  let x284 := x282 == x283
  let x285 : Int := (x111.getD (Int.toNat 0 * (1 : Nat) + (57 : Nat)) default).toI
  let x286 : Int := (x113.getD (Int.toNat 0 * (1 : Nat) + (57 : Nat)) default).toI
  let x287 := x285 == x286
  let x288 : Int := (x111.getD (Int.toNat 0 * (1 : Nat) + (58 : Nat)) default).toI
  let x289 : Int := (x113.getD (Int.toNat 0 * (1 : Nat) + (58 : Nat)) default).toI
  let x290 := x288 == x289
  let x291 : Int := (x111.getD (Int.toNat 0 * (1 : Nat) + (59 : Nat)) default).toI
  let x292 : Int := (x113.getD (Int.toNat 0 * (1 : Nat) + (59 : Nat)) default).toI
  let x293 := x291 == x292
  let x294 : Int := (x111.getD (Int.toNat 0 * (1 : Nat) + (60 : Nat)) default).toI
  let x295 : Int := (x113.getD (Int.toNat 0 * (1 : Nat) + (60 : Nat)) default).toI
  let x296 := x294 == x295
  let x297 : Int := (x111.getD (Int.toNat 0 * (1 : Nat) + (61 : Nat)) default).toI
  let x298 : Int := (x113.getD (Int.toNat 0 * (1 : Nat) + (61 : Nat)) default).toI
  let x299 := x297 == x298
  let x300 : Int := (x111.getD (Int.toNat 0 * (1 : Nat) + (62 : Nat)) default).toI
  let x301 : Int := (x113.getD (Int.toNat 0 * (1 : Nat) + (62 : Nat)) default).toI
  let x302 := x300 == x301
  let x303 : Int := (x111.getD (Int.toNat 0 * (1 : Nat) + (63 : Nat)) default).toI
  let x304 : Int := (x113.getD (Int.toNat 0 * (1 : Nat) + (63 : Nat)) default).toI
  let x305 := x303 == x304
  let x306 := x302 && x305
  let x307 := x299 && x306
  let x308 := x296 && x307
  let x309 := x293 && x308
  let x310 := x290 && x309
  let x311 := x287 && x310
  let x312 := x284 && x311
  let x313 := x281 && x312
  let x314 := x278 && x313
  let x315 := x275 && x314
  let x316 := x272 && x315
  let x317 := x269 && x316
  let x318 := x266 && x317
  let x319 := x263 && x318
  let x320 := x260 && x319
  let x321 := x257 && x320
  let x322 := x254 && x321
  let x323 := x251 && x322
  let x324 := x248 && x323
  let x325 := x245 && x324
  let x326 := x242 && x325
  let x327 := x239 && x326
  let x328 := x236 && x327
  let x329 := x233 && x328
  let x330 := x230 && x329
  let x331 := x227 && x330
  let x332 := x224 && x331
  let x333 := x221 && x332
  let x334 := x218 && x333
  let x335 := x215 && x334
  let x336 := x212 && x335
  let x337 := x209 && x336
  let x338 := x206 && x337
  let x339 := x203 && x338
  let x340 := x200 && x339
  let x341 := x197 && x340
  let x342 := x194 && x341
  let x343 := x191 && x342
  let x344 := x188 && x343
  let x345 := x185 && x344
  let x346 := x182 && x345
  let x347 := x179 && x346
  let x348 := x176 && x347
  let x349 := x173 && x348
  let x350 := x170 && x349
  let x351 := x167 && x350
  let x352 := x164 && x351
  let x353 := x161 && x352
  let x354 := x158 && x353
  let x355 := x155 && x354
  let x356 := x152 && x355
  let x357 := x149 && x356
  let x358 := x146 && x357
  let x359 := x143 && x358
  let x360 := x140 && x359
  let x361 := x137 && x360
  let x362 := x134 && x361
  let x363 := x131 && x362
  let x364 := x128 && x363
  let x365 := x125 && x364
  let x366 := x122 && x365
  let x367 := x119 && x366
  let x368 := x116 && x367
  let x369 := !x368
  let x370 := x110 || x369
  let x371 := !x370
  let x380 := !x56
  let x381 := !x71
  let x382 := !x88
  let x383 := !x103
  let x384 := bif x89 then x383 else x371
  let x385 := bif x72 then x382 else x384
  let x386 := bif x57 then x381 else x385
  let x387 := bif x40 then x380 else x386
  let x388 := bif x89 then x92 else x18
  let x389 := bif x89 then x96 else x19
  let x390 := bif x89 then x93 else x20
  let x391 := bif x89 then x94 else x21
  let x392 := bif x89 then x95 else x22
  let x393 := bif x89 then x99 else x24
  let x394 := bif x89 then x101 else x25
  let x395 := bif x89 then x102 else x26
  let x396 := bif x89 then x100 else x27
  let x397 := bif x72 then x74 else x388
  let x398 := bif x72 then x79 else x389
  let x399 := bif x72 then x75 else x390
  let x400 := bif x72 then x76 else x391
  let x401 := bif x72 then x77 else x392
  let x402 := bif x72 then x81 else x393
  let x403 := bif x72 then x84 else x394
  let x404 := bif x72 then x85 else x395
  let x405 := bif x72 then x82 else x396
  let x406 := bif x57 then x61 else x397
  let x407 := bif x57 then x60 else x398
  let x408 := bif x57 then x62 else x399
  let x409 := bif x57 then x63 else x400
  let x410 := bif x57 then x64 else x401
  let x411 := bif x57 then x67 else x402
  let x412 := bif x57 then x68 else x403
  let x413 := bif x57 then x69 else x404
  let x414 := bif x57 then x70 else x405
  let x415 := bif x40 then x42 else x406
  let x416 := bif x40 then x47 else x407
  let x417 := bif x40 then x43 else x408
  let x418 := bif x40 then x44 else x409
  let x419 := bif x40 then x45 else x410
  let x420 := bif x40 then x51 else x411
  let x421 := bif x40 then x52 else x412
  let x422 := bif x40 then x53 else x413
  let x423 := bif x40 then x49 else x414
  let x431 := bif x89 then x92 else x18
  let x432 := bif x89 then x96 else x19
  let x433 := bif x89 then x93 else x20
  let x434 := bif x89 then x94 else x21
  let x435 := bif x89 then x95 else x22
  let x436 := bif x89 then x99 else x24
  let x437 := bif x89 then x101 else x25
  let x438 := bif x89 then x102 else x26
  let x439 := bif x89 then x100 else x27
  let x440 := bif x72 then x74 else x431
  let x441 := bif x72 then x79 else x432
  let x442 := bif x72 then x75 else x433
  let x443 := bif x72 then x76 else x434
  let x444 := bif x72 then x77 else x435
  let x445 := bif x72 then x81 else x436
  let x446 := bif x72 then x84 else x437
  let x447 := bif x72 then x85 else x438
  let x448 := bif x72 then x82 else x439
  let x449 := bif x57 then x61 else x440
  let x450 := bif x57 then x60 else x441
  let x451 := bif x57 then x62 else x442
  let x452 := bif x57 then x63 else x443
  let x453 := bif x57 then x64 else x444
  let x454 := bif x57 then x67 else x445
  let x455 := bif x57 then x68 else x446
  let x456 := bif x57 then x69 else x447
  let x457 := bif x57 then x70 else x448
  let x458 := bif x40 then x42 else x449
  let x459 := bif x40 then x47 else x450
  let x460 := bif x40 then x43 else x451
  let x461 := bif x40 then x44 else x452
  let x462 := bif x40 then x45 else x453
  let x463 := bif x40 then x51 else x454
  let x464 := bif x40 then x52 else x455
  let x465 := bif x40 then x53 else x456
  let x466 := bif x40 then x49 else x457
  let x467 := bif x387 then x415 else x458
  let x468 := bif x387 then x416 else x459
  let x469 := bif x387 then x417 else x460
  let x470 := bif x387 then x418 else x461
  let x471 := bif x387 then x419 else x462
  let x472 := bif x387 then x420 else x463
  let x473 := bif x387 then x421 else x464
  let x474 := bif x387 then x422 else x465
  let x475 := bif x387 then x423 else x466
  let x476 : Int := bif x32 then 0 else 1
  let x477 := bif x32 then false else x16
  let x478 := bif x32 then x467 else x18
  let x479 := bif x32 then x468 else x19
  let x480 := bif x32 then x469 else x20
  let x481 := bif x32 then x470 else x21
  let x482 := bif x32 then x471 else x22
  let x483 := bif x32 then x472 else x24
  let x484 := bif x32 then x473 else x25
  let x485 := bif x32 then x474 else x26
  let x486 := bif x32 then x475 else x27
  [.i x476, .b x477, .i x17, .l x478, .l x479, .l x480, .i x481, .i x482, .l x0, .l x483, .l x484, .l x485, .i x486, .l x0, .l x0, .l x0]
noncomputable def g100300 (ds : List DV) : List DV := wrapG [.i, .b, .i, .l, .l, .l, .i, .i, .l, .l, .l, .l, .i, .l, .l, .l] (loopG W100300 C100300 N100300 T100300 (nrms [.l, .b, .i, .l, .l, .l, .i, .i, .l, .l, .l, .l, .i, .l, .l, .l] ds))
noncomputable def p3 (x0 : List DV) : Bool :=
  let x1 := p8 
  let x2 := r8_0 
  let x3 := !x2
  let x4 := !x3
  let y5 : List DV := g9 []
  let x5 : Bool := (dget y5 0).toB
  let y11 : List DV := g10 []
  let x11 : Bool := (dget y11 0).toB
  let y16 : List DV := g100300 [.l x0, .b false, .i 0, dget y5 1, dget y5 5, dget y5 2, dget y5 3, dget y5 4, .l x0, dget y11 2, dget y11 3, dget y11 4, dget y11 1, .l x0, .l x0, .l x0]
  let x16 : Bool := (dget y16 0).toB
  let x17 : Int := (dget y16 1).toI
  let x21 : List DV := (dget y16 5).toL
  let x26 : List DV := (dget y16 10).toL
  let x27 : List DV := (dget y16 11).toL
  let x33 := x17 == 0
  let x34 := !x33
  let x35 := p21 x21
  let x36 := r21_0 x21
  let x37 := p22 x27
  let x38 := r22_0 x27
  let x39 := p18 x36 x38
  let x40 := r18_0 x36 x38
  let x42 := p24 x26
  [ow [] x1, ow [(x4, true)] x5, ow [(x4, true)] x11, ow [(x4, true)] x16, ow [(x4, true), (x34, true)] x35, ow [(x4, true), (x34, true)] x37, ow [(x4, true), (x34, true)] x39, ow [(x4, true), (x34, true), (x40, true)] x42].all id
end Go.Proofs.Ytkpbkanbpjfadaa

namespace Go.Proofs.Ytkpbkanbpjfadaa
open Go Go.Sx

theorem ow_true (l : List (Bool × Bool)) : ow l true = true := by simp [ow]

structure Fresh (a : List Na) (i : Nat) (u : U) : Prop where
  ok : u.Ok
  ma : i + u.ma = a.length
  un : ∀ e ∈ u.under, e.f = false
  at_ : ∀ j, j < u.ma → ∃ n, a[i + j]? = some n ∧ n.r = ((u.fi + j) % 16 : Nat)
variable {a : List Na} {w0 : List DV} {ok : Bool} {i : Nat} {u : U}
def U.fin (u : U) : U := { u with rob := u.rob.set u.fi { u.at u.fi with f := true } }
theorem Fresh.step (h : Fresh a i u) (hm : 0 < u.ma) : u.commit 1 = (u, []) ∧ u.finish u.fi = (u.fin, true) ∧ u.fin.commit 1 = (u.fin.commit1, [(u.fi : Int)]) ∧ u.fin.WF ∧ Fresh a (i + 1) u.fin.commit1 := by
  have hfi := h.ok.wf.fi
  have h0 : u.under[0]? = some (u.at u.fi) := by rw [under_get hm]; congr 2; omega
  have hf : (u.at u.fi).f = false := h.un _ (List.mem_of_getElem? h0)
  have e0 : (u.fi + 0) % 16 = u.fi := by omega
  have hfin := finish_at h.ok.wf hm (by rw [e0]; exact hf)
  rw [e0] at hfin
  have hok : u.fin.Ok := by have := h.ok.finish u.fi; rw [hfin] at this; exact this
  have hat : u.fin.at u.fi = { u.at u.fi with f := true } := by
    show (u.rob.set u.fi _).getD u.fi En.nil = _
    rw [getD_set _ _ _ _ _ (by rw [h.ok.wf.rob]; exact hfi), if_pos rfl]
  have hun : u.fin.under = u.under.set 0 { u.at u.fi with f := true } := by
    have := under_finish h.ok.wf hm { u.at u.fi with f := true }
    rw [e0] at this
    exact this
  have hc := under_commit1 hok.wf.w2 (u := u.fin) hm
  have htl : u.fin.commit1.under = u.under.tail := by
    rw [hc] at hun
    cases hu : u.under with
    | nil => rw [hu] at h0; simp at h0
    | cons x l => rw [hu, List.set_cons_zero] at hun; exact (List.cons.inj hun).2
  refine ⟨?_, hfin, ?_, hok.wf, ⟨hok.commit1 hm, ?_, ?_, ?_⟩⟩
  · have : u.ready = false := by simp [U.ready, hf]
    exact commit_zero this 1
  · have : u.fin.ready = true := by
      show (decide (u.ma > 0) && (u.fin.at u.fi).f) = true
      rw [hat]; simpa using hm
    simp only [U.commit, this, cond_true]
    rfl
  · show i + 1 + (u.ma - 1) = _
    have := h.ma; omega
  · rw [htl]
    intro e he
    exact h.un e (List.mem_of_mem_tail he)
  · intro j hj
    have hj : j < u.ma - 1 := hj
    obtain ⟨n, h1, h2⟩ := h.at_ (j + 1) (by omega)
    refine ⟨n, by rw [show i + 1 + j = i + (j + 1) from by omega]; exact h1, ?_⟩
    rw [h2]
    show (((u.fi + (j + 1)) % 16 : Nat) : Int) = (((u.fi + 1) % 16 + j) % 16 : Nat)
    congr 1; omega
end Go.Proofs.Ytkpbkanbpjfadaa

namespace Go.Proofs.Ytkpbkanbpjfadaa
open Go Go.Sx

section
variable {w : Wa} {ws : List Wa} {x0 : List DV} {out : List Na} {k : Nat} {u : U}
end
end Go.Proofs.Ytkpbkanbpjfadaa

namespace Go.Proofs.Ytkpbkanbpjfadaa
open Go Go.Sx

structure U.Gd (u : U) : Prop where
  w2 : u.W2
  ge : ∀ e ∈ u.under, e.Good
theorem U.Gd.commit1 {u : U} (h : u.Gd) (hr : u.ready = true) : u.commit1.Gd := by
  have hm : 0 < u.ma := by
    simp only [U.ready, Bool.and_eq_true, decide_eq_true_eq] at hr
    exact hr.1
  refine ⟨h.w2.commit1 hr, fun e he => h.ge e ?_⟩
  rw [under_commit1 h.w2 hm]
  exact List.mem_cons_of_mem _ he
theorem U.Gd.squash1 {u : U} (h : u.Gd) (hm : 0 < u.ma) : u.squash1.Gd := by
  refine ⟨h.w2.squash1 hm, fun e he => h.ge e ?_⟩
  rw [under_squash1 hm]
  exact List.mem_append_left _ he
section
variable {most : Int} {x0 : List DV} {out : List Int} {u : U}
end
section
variable {n : Int} {x0 : List DV} {i : Nat} {u : U}
end
end Go.Proofs.Ytkpbkanbpjfadaa

namespace Go.Proofs.Ytkpbkanbpjfadaa
open Go Go.Sx

def Chain : List Int → List En → Prop
  | _, [] => True
  | na, e :: l => (0 ≤ e.d → na.getD e.d.toNat 0 = e.n ∧ Chain (na.set e.d.toNat e.o) l) ∧ (e.d < 0 → Chain na l)
theorem Chain.init : ∀ {l : List En} {na : List Int} {m : List En}, Chain na (l ++ m) → Chain na l
  | [], _, _, _ => trivial
  | _e :: _l, _na, _m, h => ⟨fun h0 => ⟨(h.1 h0).1, Chain.init (h.1 h0).2⟩, fun h0 => Chain.init (h.2 h0)⟩
theorem Chain.congr : ∀ {l m : List En} {na : List Int}, l.map (fun e => (e.d, e.n, e.o)) = m.map (fun e => (e.d, e.n, e.o)) → Chain na l → Chain na m
  | [], [], _, _, h => h
  | [], _ :: _, _, h, _ => by simp at h
  | _ :: _, [], _, h, _ => by simp at h
  | e :: l, e' :: m, na, h, hc => by
    simp only [List.map_cons, List.cons.injEq, Prod.mk.injEq] at h
    obtain ⟨⟨h1, h2, h3⟩, h4⟩ := h
    refine ⟨fun h0 => ?_, fun h0 => Chain.congr h4 (hc.2 (by rw [h1]; exact h0))⟩
    obtain ⟨k1, k2⟩ := hc.1 (by rw [h1]; exact h0)
    rw [h1, h2] at k1
    rw [h1, h3] at k2
    exact ⟨k1, Chain.congr h4 k2⟩
structure U.Ok2 (u : U) : Prop where
  ok : u.Ok
  ch : Chain u.na u.under.reverse
theorem u0_ok2 : u0.Ok2 := ⟨u0_ok, trivial⟩
theorem set_back (l : List Int) (k : Nat) (x : Int) (h : k < l.length) : (l.set k x).set k (l.getD k 0) = l := by
  rw [List.set_set]
  apply List.ext_getElem?
  intro i
  rw [List.getElem?_set]
  by_cases hi : k = i
  · subst hi
    rw [if_pos rfl, if_pos h, List.getD_eq_getElem?_getD, List.getElem?_eq_getElem h]
    rfl
  · rw [if_neg hi]
theorem U.Ok2.alloc1 {u u' : U} {w : Wa} {n : Na} (h : u.Ok2) (ha : u.alloc1 w = some (u', n)) : u'.Ok2 := by
  refine ⟨h.ok.alloc1 ha, ?_⟩
  have hun := under_alloc1 h.ok.wf ha
  obtain ⟨hwf, _, _, hm⟩ := h.ok.wf.alloc1 ha
  have hs : stops u w = false := by
    cases hh : stops u w with
    | false => rfl
    | true => rw [alloc1_stops hh] at ha; cases ha
  rw [alloc1_goes hs] at ha
  simp only [Option.some.injEq, Prod.mk.injEq] at ha
  obtain ⟨e1, _⟩ := ha
  rw [hun, List.reverse_append]
  have e2 : u'.na = bif w.wr then u.na.set w.d.toNat (u.fr.getD 0 0) else u.na := by rw [← e1]
  rw [e2]
  show Chain _ (_ :: u.under.reverse)
  cases hw : w.wr with
  | false => exact ⟨fun h0 => absurd (show (0 : Int) ≤ -1 from h0) (by decide), fun _ => h.ch⟩
  | true =>
    obtain ⟨d0, d1, _⟩ := h.ok.wr hm hw
    have hlt : w.d.toNat < u.na.length := by rw [h.ok.wf.na]; omega
    refine ⟨fun h0 => ⟨?_, ?_⟩, fun h0 => ?_⟩
    · show (u.na.set w.d.toNat (u.fr.getD 0 0)).getD w.d.toNat 0 = u.fr.getD 0 0
      rw [List.getD_eq_getElem?_getD, List.getElem?_set, if_pos rfl, if_pos hlt]
      rfl
    · show Chain ((u.na.set w.d.toNat (u.fr.getD 0 0)).set w.d.toNat (u.na.getD w.d.toNat 0)) u.under.reverse
      rw [set_back _ _ _ hlt]
      exact h.ch
    · have h0 : w.d < 0 := h0
      omega
theorem U.Ok2.alloc {u : U} (h : u.Ok2) : ∀ ws : List Wa, (u.alloc ws).1.Ok2
  | [] => h
  | w :: ws => by
    unfold U.alloc
    cases ha : u.alloc1 w with
    | none => exact h
    | some r => exact U.Ok2.alloc (h.alloc1 (u' := r.1) (n := r.2) ha) ws
theorem U.Ok2.finish {u : U} (h : u.Ok2) (r : Int) : (u.finish r).1.Ok2 := by
  refine ⟨h.ok.finish r, ?_⟩
  by_cases hc : (decide (u.number r < 0) || (u.at r.toNat).f) = true
  · have : u.finish r = (u, false) := by unfold U.finish; rw [hc]; rfl
    rw [this]; exact h.ch
  · have hc : (decide (u.number r < 0) || (u.at r.toNat).f) = false := by simpa using hc
    simp only [Bool.or_eq_false_iff, decide_eq_false_iff_not] at hc
    obtain ⟨h0, h1, h2⟩ := number_range hc.1
    have hfi := h.ok.wf.fi
    have hma := h.ok.wf.ma
    obtain ⟨k, hk⟩ : ∃ k : Nat, u.number r = k := ⟨(u.number r).toNat, by omega⟩
    have hr : r = (((u.fi + k) % 16 : Nat) : Int) := by
      unfold U.number at hk
      rw [if_pos ⟨h0, h1⟩] at hk
      split at hk <;> omega
    subst hr
    have hkm : k < u.ma := by rw [hk] at h2; omega
    have hf : (u.at ((u.fi + k) % 16)).f = false := hc.2
    rw [finish_at h.ok.wf hkm hf]
    show Chain u.na (U.under _).reverse
    rw [under_finish h.ok.wf hkm]
    refine Chain.congr ?_ h.ch
    rw [List.map_reverse, List.map_reverse]
    congr 1
    apply List.ext_getElem?
    intro i
    rw [List.getElem?_map, List.getElem?_map, List.getElem?_set]
    by_cases hi : k = i
    · subst hi
      rw [if_pos rfl, if_pos (by rw [under_len]; exact hkm), under_get hkm]
      rfl
    · rw [if_neg hi]
theorem U.Ok2.commit1 {u : U} (h : u.Ok2) (hm : 0 < u.ma) : u.commit1.Ok2 := by
  refine ⟨h.ok.commit1 hm, ?_⟩
  have := h.ch
  rw [under_commit1 h.ok.wf.w2 hm, List.reverse_cons] at this
  exact this.init
theorem U.Ok2.commit {u : U} (h : u.Ok2) : ∀ n : Nat, (u.commit n).1.Ok2
  | 0 => h
  | n + 1 => by
    simp only [U.commit]
    cases hr : u.ready with
    | false => exact h
    | true =>
      have hm : 0 < u.ma := by
        simp only [U.ready, Bool.and_eq_true, decide_eq_true_eq] at hr
        exact hr.1
      exact U.Ok2.commit (h.commit1 hm) n
theorem U.Ok2.squash1 {u : U} (h : u.Ok2) (hm : 0 < u.ma) : u.squash1.Ok2 := by
  have hun := under_squash1 hm
  have hch := h.ch
  rw [hun, List.reverse_append] at hch
  have hch : Chain u.na (u.last :: u.squash1.under.reverse) := hch
  have hg := h.ok.ge u.last (by rw [hun]; simp)
  have hge : ∀ e ∈ u.squash1.under, e.Good := fun e he => h.ok.ge e (by rw [hun]; exact List.mem_append_left _ he)
  have hw2 := h.ok.wf.w2.squash1 hm
  have hma := h.ok.wf.ma
  have hpm : (u.squash1.na ++ u.squash1.fr ++ olds u.squash1.under).Perm all96 := by
    refine List.Perm.trans ?_ h.ok.pm
    rw [hun, olds_append]
    show ((bif decide (u.last.d ≥ 0) then u.na.set u.last.d.toNat u.last.o else u.na : List Int) ++ (bif decide (u.last.d ≥ 0) then u.last.n :: u.fr else u.fr : List Int) ++ _).Perm _
    rcases hg with ⟨h1, h2, h3⟩ | ⟨h1, h2, h3, h4⟩
    · have e : decide (u.last.d ≥ 0) = false := by rw [h1]; decide
      have eo : olds [u.last] = [] := by
        rw [olds_cons, h3]; rfl
      rw [e, eo, List.append_nil]
      exact List.Perm.refl _
    · have e : decide (u.last.d ≥ 0) = true := by simp; omega
      have eo : olds [u.last] = [u.last.o] := by
        rw [olds_cons]
        have : decide (u.last.o ≥ 0) = true := by simpa using h4
        rw [this]; rfl
      rw [e, eo]
      simp only [cond_true]
      have hlt : u.last.d.toNat < u.na.length := by rw [h.ok.wf.na]; omega
      have p := set_perm u.na u.last.d.toNat u.last.o hlt
      rw [(hch.1 (by omega)).1] at p
      rw [List.perm_iff_count]
      intro a
      have := p.count_eq a
      simp only [List.count_append, List.count_cons, List.count_nil] at this ⊢
      omega
  refine ⟨⟨⟨hw2.na, hw2.rob, hw2.fi, hw2.ma, ?_, hw2.rd⟩, hpm, hge⟩, ?_⟩
  · have := hpm.length_eq
    simp only [List.length_append, hw2.na, all96, List.length_map, List.length_range] at this
    omega
  · show Chain (bif decide (u.last.d ≥ 0) then u.na.set u.last.d.toNat u.last.o else u.na) u.squash1.under.reverse
    cases hd : decide (u.last.d ≥ 0) with
    | true => exact (hch.1 (by simpa using hd)).2
    | false => exact hch.2 (by simpa using hd)
theorem U.Ok2.squashN {u : U} (h : u.Ok2) : ∀ n : Nat, n ≤ u.ma → (u.squashN n).Ok2
  | 0, _ => h
  | n + 1, hn => U.Ok2.squashN (h.squash1 (by omega)) n (by show n ≤ u.ma - 1; omega)
theorem U.Ok2.squash {u : U} (h : u.Ok2) (r : Int) : (u.squash r).1.Ok2 := by
  unfold U.squash
  have hge := number_ge u r
  cases hc : (decide (u.number r < 0) && (r != -1)) with
  | true => exact h
  | false => exact h.squashN _ (by omega)
end Go.Proofs.Ytkpbkanbpjfadaa

namespace Go.Proofs.Ytkpbkanbpjfadaa
open Go Go.Sx

end Go.Proofs.Ytkpbkanbpjfadaa

namespace Go.Proofs.Ytkpbkanbpjfadaa
open Go Go.Sx

end Go.Proofs.Ytkpbkanbpjfadaa

namespace Go.Proofs.Ytkpbkanbpjfadaa
open Go Go.Sx

structure St where
  kind : Int
  n : Int
  ws : List Wa
abbrev St.dv (s : St) : List DV := [.i s.kind, .i s.n, .l (encW s.ws)]
def encS (l : List St) : List DV := l.flatMap St.dv
theorem encS_len (l : List St) : (encS l).length = l.length * 3 := fm_len (f := St.dv) (fun _ => rfl) l
theorem encS_get {l : List St} {k : Nat} {e : St} (h : l[k]? = some e) (j : Nat) (hj : j < 3) : (encS l).getD (Int.toNat (k : Int) * (3 : Nat) + j) default = e.dv.getD j default := by
  rw [Int.toNat_natCast]
  exact fm_get (f := St.dv) (fun _ => rfl) l k j e h hj
def U.step (u : U) (s : St) : U :=
  bif s.kind == 0 then (u.alloc s.ws).1 else bif s.kind == 1 then (u.finish s.n).1 else bif s.kind == 2 then (u.commit s.n.toNat).1 else bif s.kind == 3 then (u.squash s.n).1 else u
theorem U.Ok2.step {u : U} (h : u.Ok2) (s : St) : (u.step s).Ok2 := by
  unfold U.step
  cases s.kind == 0 with
  | true => exact h.alloc s.ws
  | false =>
    cases s.kind == 1 with
    | true => exact h.finish s.n
    | false =>
      cases s.kind == 2 with
      | true => exact h.commit s.n.toNat
      | false =>
        cases s.kind == 3 with
        | true => exact h.squash s.n
        | false => exact h
end Go.Proofs.Ytkpbkanbpjfadaa

namespace Go.Proofs.Ytkpbkanbpjfadaa
open Go Go.Sx
set_option maxRecDepth 100000
set_option maxHeartbeats 4000000

noncomputable def w100409 (x140 : List DV) (_x156 : Bool) (x157 : Int) (x158 : List DV) : Bool :=
  let x159 := ((x140.length / 1 : Nat) : Int)
  let x160 := decide (x157 < x159)
  let x161 := decide (x157 ≥ 0)
  let x162 := ((x140.length / 1 : Nat) : Int)
  let x163 := decide (x157 < x162)
  let x164 : Int := (x140.getD (Int.toNat x157 * (1 : Nat) + (0 : Nat)) default).toI
  let x165 := ilt x164 0
  let x166 := decide (x157 ≥ 0)
  let x167 := ((x140.length / 1 : Nat) : Int)
  let x168 := decide (x157 < x167)
  let x169 : Int := (x140.getD (Int.toNat x157 * (1 : Nat) + (0 : Nat)) default).toI
  let x170 := igt x169 95
  let x171 := x165 || x170
  let x172 := decide (x157 ≥ 0)
  let x173 := ((x140.length / 1 : Nat) : Int)
  let x174 := decide (x157 < x173)
  let x175 : Int := (x140.getD (Int.toNat x157 * (1 : Nat) + (0 : Nat)) default).toI
  let x176 := ige x175 0
  let x177 := ((x158.length / 1 : Nat) : Int)
  let x178 := ilt x175 x177
  let x179 : Int := (x158.getD (Int.toNat x175 * (1 : Nat) + (0 : Nat)) default).toI
  let x180 := igt x179 0
  let x181 := x171 || x180
  let x182 := !x181
  let x183 := decide (x157 ≥ 0)
  let x184 := ((x140.length / 1 : Nat) : Int)
  let x185 := decide (x157 < x184)
  let x186 : Int := (x140.getD (Int.toNat x157 * (1 : Nat) + (0 : Nat)) default).toI
  let x187 := ige x186 0
  let x188 := ((x158.length / 1 : Nat) : Int)
  let x189 := ilt x186 x188
  [ow [(x160, true)] x161, ow [(x160, true)] x163, ow [(x160, true), (x165, false)] x166, ow [(x160, true), (x165, false)] x168, ow [(x160, true), (x171, false)] x172, ow [(x160, true), (x171, false)] x174, ow [(x160, true), (x171, false)] x176, ow [(x160, true), (x171, false)] x178, ow [(x160, true), (x182, true)] x183, ow [(x160, true), (x182, true)] x185, ow [(x160, true), (x182, true)] x187, ow [(x160, true), (x182, true)] x189].all id
noncomputable def c100409 (x140 : List DV) (_x156 : Bool) (x157 : Int) (x158 : List DV) : Bool :=
  let x159 := ((x140.length / 1 : Nat) : Int)
  let x160 := decide (x157 < x159)
  let x164 : Int := (x140.getD (Int.toNat x157 * (1 : Nat) + (0 : Nat)) default).toI
  let x165 := ilt x164 0
  let x169 : Int := (x140.getD (Int.toNat x157 * (1 : Nat) + (0 : Nat)) default).toI
  let x170 := igt x169 95
  let x171 := x165 || x170
  let x175 : Int := (x140.getD (Int.toNat x157 * (1 : Nat) + (0 : Nat)) default).toI
  let x179 : Int := (x158.getD (Int.toNat x175 * (1 : Nat) + (0 : Nat)) default).toI
  let x180 := igt x179 0
  let x181 := x171 || x180
  let x182 := !x181
  let x192 := x160 && x182
  x192
noncomputable def n100409_0 (_x140 : List DV) (x156 : Bool) (_x157 : Int) (_x158 : List DV) : Bool :=
  x156
noncomputable def n100409_1 (_x140 : List DV) (_x156 : Bool) (x157 : Int) (_x158 : List DV) : Int :=
  let x191 := IntKind.wrap .i64 (x157 + 1)
  x191
noncomputable def n100409_2 (x140 : List DV) (_x156 : Bool) (x157 : Int) (x158 : List DV) : List DV :=
  let x186 : Int := (x140.getD (Int.toNat x157 * (1 : Nat) + (0 : Nat)) default).toI
  let x190 : List DV := x158.set (Int.toNat x186 * (1 : Nat) + (0 : Nat)) (.i 1)
  x190
noncomputable def t100409_0 (x140 : List DV) (_x156 : Bool) (x157 : Int) (_x158 : List DV) : Int :=
  let x159 := ((x140.length / 1 : Nat) : Int)
  let x160 := decide (x157 < x159)
  let x193 : Int := bif x160 then 0 else 1
  x193
noncomputable def t100409_1 (x140 : List DV) (x156 : Bool) (x157 : Int) (_x158 : List DV) : Bool :=
  let x159 := ((x140.length / 1 : Nat) : Int)
  let x160 := decide (x157 < x159)
  let x194 := bif x160 then false else x156
  x194
noncomputable def t100409_2 (_x140 : List DV) (_x156 : Bool) (x157 : Int) (_x158 : List DV) : Int :=
  x157
noncomputable def t100409_3 (_x140 : List DV) (_x156 : Bool) (_x157 : Int) (x158 : List DV) : List DV :=
  x158
noncomputable def W100409 (ds : List DV) : Bool := w100409 (dget ds 0).toL (dget ds 1).toB (dget ds 2).toI (dget ds 3).toL
noncomputable def C100409 (ds : List DV) : Bool := c100409 (dget ds 0).toL (dget ds 1).toB (dget ds 2).toI (dget ds 3).toL
noncomputable def N100409 (ds : List DV) : List DV := [.l (dget ds 0).toL, .b (n100409_0 (dget ds 0).toL (dget ds 1).toB (dget ds 2).toI (dget ds 3).toL), .i (n100409_1 (dget ds 0).toL (dget ds 1).toB (dget ds 2).toI (dget ds 3).toL), .l (n100409_2 (dget ds 0).toL (dget ds 1).toB (dget ds 2).toI (dget ds 3).toL)]
noncomputable def T100409 (ds : List DV) : List DV := [.i (t100409_0 (dget ds 0).toL (dget ds 1).toB (dget ds 2).toI (dget ds 3).toL), .b (t100409_1 (dget ds 0).toL (dget ds 1).toB (dget ds 2).toI (dget ds 3).toL), .i (t100409_2 (dget ds 0).toL (dget ds 1).toB (dget ds 2).toI (dget ds 3).toL), .l (t100409_3 (dget ds 0).toL (dget ds 1).toB (dget ds 2).toI (dget ds 3).toL)]
noncomputable def L100409 (x0 : List DV) (x1 : Bool) (x2 : Int) (x3 : List DV) : Option (List DV) := loopG W100409 C100409 N100409 T100409 [.l x0, .b x1, .i x2, .l x3]
noncomputable def p100409 (x0 : List DV) (x1 : Bool) (x2 : Int) (x3 : List DV) : Bool := (L100409 x0 x1 x2 x3).isSome
noncomputable def r100409_0 (x0 : List DV) (x1 : Bool) (x2 : Int) (x3 : List DV) : Int := (dget ((L100409 x0 x1 x2 x3).getD []) 0).toI
noncomputable def r100409_1 (x0 : List DV) (x1 : Bool) (x2 : Int) (x3 : List DV) : Bool := (dget ((L100409 x0 x1 x2 x3).getD []) 1).toB
noncomputable def r100409_2 (x0 : List DV) (x1 : Bool) (x2 : Int) (x3 : List DV) : Int := (dget ((L100409 x0 x1 x2 x3).getD []) 2).toI
noncomputable def r100409_3 (x0 : List DV) (x1 : Bool) (x2 : Int) (x3 : List DV) : List DV := (dget ((L100409 x0 x1 x2 x3).getD []) 3).toL
noncomputable def g100409 (ds : List DV) : List DV := [.b (p100409 (dget ds 0).toL (dget ds 1).toB (dget ds 2).toI (dget ds 3).toL), .i (r100409_0 (dget ds 0).toL (dget ds 1).toB (dget ds 2).toI (dget ds 3).toL), .b (r100409_1 (dget ds 0).toL (dget ds 1).toB (dget ds 2).toI (dget ds 3).toL), .i (r100409_2 (dget ds 0).toL (dget ds 1).toB (dget ds 2).toI (dget ds 3).toL), .l (r100409_3 (dget ds 0).toL (dget ds 1).toB (dget ds 2).toI (dget ds 3).toL)]
noncomputable def w100407 (x118 : List DV) (_x0 : List DV) (x138 : List DV) (x139 : Int) (_x140 : List DV) : Bool :=
  let x141 := ((x118.length / 6 : Nat) : Int)
  let x142 := decide (x139 < x141)
  let x143 := decide (x139 ≥ 0)
  let x144 := ((x118.length / 6 : Nat) : Int)
  let x145 := decide (x139 < x144)
  let x146 : Int := (x118.getD (Int.toNat x139 * (6 : Nat) + (3 : Nat)) default).toI
  let x147 := ige x146 0
  let x148 := decide (x139 ≥ 0)
  let x149 := ((x118.length / 6 : Nat) : Int)
  let x150 := decide (x139 < x149)
  let x151 : Int := (x118.getD (Int.toNat x139 * (6 : Nat) + (4 : Nat)) default).toI
  let x152 : List DV := [.i x151]
  let x153 := x138 ++ x152
  let x154 := ((x153.length / 1 : Nat) : Int)
  let x155 := decide (x154 ≤ 7818749353073)
  [ow [(x142, true)] x143, ow [(x142, true)] x145, ow [(x142, true), (x147, true)] x148, ow [(x142, true), (x147, true)] x150, ow [(x142, true), (x147, true)] x155].all id
noncomputable def c100407 (x118 : List DV) (_x0 : List DV) (_x138 : List DV) (x139 : Int) (_x140 : List DV) : Bool :=
  let x141 := ((x118.length / 6 : Nat) : Int)
  let x142 := decide (x139 < x141)
  x142
noncomputable def n100407_0 (x118 : List DV) (_x0 : List DV) (x138 : List DV) (x139 : Int) (_x140 : List DV) : List DV :=
  let x146 : Int := (x118.getD (Int.toNat x139 * (6 : Nat) + (3 : Nat)) default).toI
  let x147 := ige x146 0
  let x151 : Int := (x118.getD (Int.toNat x139 * (6 : Nat) + (4 : Nat)) default).toI
  let x152 : List DV := [.i x151]
  let x153 := x138 ++ x152
  let x156 := bif x147 then x153 else x138
  x156
noncomputable def n100407_1 (_x118 : List DV) (_x0 : List DV) (_x138 : List DV) (x139 : Int) (_x140 : List DV) : Int :=
  let x157 := IntKind.wrap .i64 (x139 + 1)
  x157
noncomputable def n100407_2 (_x118 : List DV) (x0 : List DV) (_x138 : List DV) (_x139 : Int) (_x140 : List DV) : List DV :=
  x0
noncomputable def t100407_0 (_x118 : List DV) (_x0 : List DV) (_x138 : List DV) (_x139 : Int) (_x140 : List DV) : Int :=
  0
noncomputable def t100407_1 (_x118 : List DV) (_x0 : List DV) (x138 : List DV) (_x139 : Int) (_x140 : List DV) : List DV :=
  x138
noncomputable def t100407_2 (_x118 : List DV) (_x0 : List DV) (_x138 : List DV) (x139 : Int) (_x140 : List DV) : Int :=
  x139
noncomputable def t100407_3 (_x118 : List DV) (x0 : List DV) (_x138 : List DV) (_x139 : Int) (_x140 : List DV) : List DV :=
  x0
noncomputable def W100407 (ds : List DV) : Bool := w100407 (dget ds 0).toL (dget ds 1).toL (dget ds 2).toL (dget ds 3).toI (dget ds 4).toL
noncomputable def C100407 (ds : List DV) : Bool := c100407 (dget ds 0).toL (dget ds 1).toL (dget ds 2).toL (dget ds 3).toI (dget ds 4).toL
noncomputable def N100407 (ds : List DV) : List DV := [.l (dget ds 0).toL, .l (dget ds 1).toL, .l (n100407_0 (dget ds 0).toL (dget ds 1).toL (dget ds 2).toL (dget ds 3).toI (dget ds 4).toL), .i (n100407_1 (dget ds 0).toL (dget ds 1).toL (dget ds 2).toL (dget ds 3).toI (dget ds 4).toL), .l (n100407_2 (dget ds 0).toL (dget ds 1).toL (dget ds 2).toL (dget ds 3).toI (dget ds 4).toL)]
noncomputable def T100407 (ds : List DV) : List DV := [.i (t100407_0 (dget ds 0).toL (dget ds 1).toL (dget ds 2).toL (dget ds 3).toI (dget ds 4).toL), .l (t100407_1 (dget ds 0).toL (dget ds 1).toL (dget ds 2).toL (dget ds 3).toI (dget ds 4).toL), .i (t100407_2 (dget ds 0).toL (dget ds 1).toL (dget ds 2).toL (dget ds 3).toI (dget ds 4).toL), .l (t100407_3 (dget ds 0).toL (dget ds 1).toL (dget ds 2).toL (dget ds 3).toI (dget ds 4).toL)]
noncomputable def L100407 (x0 : List DV) (x1 : List DV) (x2 : List DV) (x3 : Int) (x4 : List DV) : Option (List DV) := loopG W100407 C100407 N100407 T100407 [.l x0, .l x1, .l x2, .i x3, .l x4]
noncomputable def p100407 (x0 : List DV) (x1 : List DV) (x2 : List DV) (x3 : Int) (x4 : List DV) : Bool := (L100407 x0 x1 x2 x3 x4).isSome
noncomputable def r100407_0 (x0 : List DV) (x1 : List DV) (x2 : List DV) (x3 : Int) (x4 : List DV) : Int := (dget ((L100407 x0 x1 x2 x3 x4).getD []) 0).toI
noncomputable def r100407_1 (x0 : List DV) (x1 : List DV) (x2 : List DV) (x3 : Int) (x4 : List DV) : List DV := (dget ((L100407 x0 x1 x2 x3 x4).getD []) 1).toL
noncomputable def r100407_2 (x0 : List DV) (x1 : List DV) (x2 : List DV) (x3 : Int) (x4 : List DV) : Int := (dget ((L100407 x0 x1 x2 x3 x4).getD []) 2).toI
noncomputable def r100407_3 (x0 : List DV) (x1 : List DV) (x2 : List DV) (x3 : Int) (x4 : List DV) : List DV := (dget ((L100407 x0 x1 x2 x3 x4).getD []) 3).toL
noncomputable def g100407 (ds : List DV) : List DV := [.b (p100407 (dget ds 0).toL (dget ds 1).toL (dget ds 2).toL (dget ds 3).toI (dget ds 4).toL), .i (r100407_0 (dget ds 0).toL (dget ds 1).toL (dget ds 2).toL (dget ds 3).toI (dget ds 4).toL), .l (r100407_1 (dget ds 0).toL (dget ds 1).toL (dget ds 2).toL (dget ds 3).toI (dget ds 4).toL), .i (r100407_2 (dget ds 0).toL (dget ds 1).toL (dget ds 2).toL (dget ds 3).toI (dget ds 4).toL), .l (r100407_3 (dget ds 0).toL (dget ds 1).toL (dget ds 2).toL (dget ds 3).toI (dget ds 4).toL)]
noncomputable def w100405 (x125 : List DV) (_x0 : List DV) (x133 : List DV) (x134 : Int) (_x135 : List DV) : Bool :=
  let x136 := decide (x134 < 64)
  let x137 := decide (x134 ≥ 0)
  let x138 := decide (x134 < 64)
  let x139 : Int := (x125.getD (Int.toNat x134 * (1 : Nat) + (0 : Nat)) default).toI
  let x140 : List DV := [.i x139]
  let x141 := x133 ++ x140
  let x142 := ((x141.length / 1 : Nat) : Int)
  let x143 := decide (x142 ≤ 7818749353073)
  [ow [(x136, true)] x137, ow [(x136, true)] x138, ow [(x136, true)] x143].all id
noncomputable def c100405 (_x125 : List DV) (_x0 : List DV) (_x133 : List DV) (x134 : Int) (_x135 : List DV) : Bool :=
  let x136 := decide (x134 < 64)
  x136
noncomputable def n100405_0 (x125 : List DV) (_x0 : List DV) (x133 : List DV) (x134 : Int) (_x135 : List DV) : List DV :=
  let x139 : Int := (x125.getD (Int.toNat x134 * (1 : Nat) + (0 : Nat)) default).toI
  let x140 : List DV := [.i x139]
  let x141 := x133 ++ x140
  x141
noncomputable def n100405_1 (_x125 : List DV) (_x0 : List DV) (_x133 : List DV) (x134 : Int) (_x135 : List DV) : Int :=
  let x144 := IntKind.wrap .i64 (x134 + 1)
  x144
noncomputable def n100405_2 (_x125 : List DV) (x0 : List DV) (_x133 : List DV) (_x134 : Int) (_x135 : List DV) : List DV :=
  x0
noncomputable def t100405_0 (_x125 : List DV) (_x0 : List DV) (_x133 : List DV) (_x134 : Int) (_x135 : List DV) : Int :=
  0
noncomputable def t100405_1 (_x125 : List DV) (_x0 : List DV) (x133 : List DV) (_x134 : Int) (_x135 : List DV) : List DV :=
  x133
noncomputable def t100405_2 (_x125 : List DV) (_x0 : List DV) (_x133 : List DV) (x134 : Int) (_x135 : List DV) : Int :=
  x134
noncomputable def t100405_3 (_x125 : List DV) (x0 : List DV) (_x133 : List DV) (_x134 : Int) (_x135 : List DV) : List DV :=
  x0
noncomputable def W100405 (ds : List DV) : Bool := w100405 (dget ds 0).toL (dget ds 1).toL (dget ds 2).toL (dget ds 3).toI (dget ds 4).toL
noncomputable def C100405 (ds : List DV) : Bool := c100405 (dget ds 0).toL (dget ds 1).toL (dget ds 2).toL (dget ds 3).toI (dget ds 4).toL
noncomputable def N100405 (ds : List DV) : List DV := [.l (dget ds 0).toL, .l (dget ds 1).toL, .l (n100405_0 (dget ds 0).toL (dget ds 1).toL (dget ds 2).toL (dget ds 3).toI (dget ds 4).toL), .i (n100405_1 (dget ds 0).toL (dget ds 1).toL (dget ds 2).toL (dget ds 3).toI (dget ds 4).toL), .l (n100405_2 (dget ds 0).toL (dget ds 1).toL (dget ds 2).toL (dget ds 3).toI (dget ds 4).toL)]
noncomputable def T100405 (ds : List DV) : List DV := [.i (t100405_0 (dget ds 0).toL (dget ds 1).toL (dget ds 2).toL (dget ds 3).toI (dget ds 4).toL), .l (t100405_1 (dget ds 0).toL (dget ds 1).toL (dget ds 2).toL (dget ds 3).toI (dget ds 4).toL), .i (t100405_2 (dget ds 0).toL (dget ds 1).toL (dget ds 2).toL (dget ds 3).toI (dget ds 4).toL), .l (t100405_3 (dget ds 0).toL (dget ds 1).toL (dget ds 2).toL (dget ds 3).toI (dget ds 4).toL)]
noncomputable def L100405 (x0 : List DV) (x1 : List DV) (x2 : List DV) (x3 : Int) (x4 : List DV) : Option (List DV) := loopG W100405 C100405 N100405 T100405 [.l x0, .l x1, .l x2, .i x3, .l x4]
noncomputable def p100405 (x0 : List DV) (x1 : List DV) (x2 : List DV) (x3 : Int) (x4 : List DV) : Bool := (L100405 x0 x1 x2 x3 x4).isSome
noncomputable def r100405_0 (x0 : List DV) (x1 : List DV) (x2 : List DV) (x3 : Int) (x4 : List DV) : Int := (dget ((L100405 x0 x1 x2 x3 x4).getD []) 0).toI
noncomputable def r100405_1 (x0 : List DV) (x1 : List DV) (x2 : List DV) (x3 : Int) (x4 : List DV) : List DV := (dget ((L100405 x0 x1 x2 x3 x4).getD []) 1).toL
noncomputable def r100405_2 (x0 : List DV) (x1 : List DV) (x2 : List DV) (x3 : Int) (x4 : List DV) : Int := (dget ((L100405 x0 x1 x2 x3 x4).getD []) 2).toI
noncomputable def r100405_3 (x0 : List DV) (x1 : List DV) (x2 : List DV) (x3 : Int) (x4 : List DV) : List DV := (dget ((L100405 x0 x1 x2 x3 x4).getD []) 3).toL
noncomputable def g100405 (ds : List DV) : List DV := [.b (p100405 (dget ds 0).toL (dget ds 1).toL (dget ds 2).toL (dget ds 3).toI (dget ds 4).toL), .i (r100405_0 (dget ds 0).toL (dget ds 1).toL (dget ds 2).toL (dget ds 3).toI (dget ds 4).toL), .l (r100405_1 (dget ds 0).toL (dget ds 1).toL (dget ds 2).toL (dget ds 3).toI (dget ds 4).toL), .i (r100405_2 (dget ds 0).toL (dget ds 1).toL (dget ds 2).toL (dget ds 3).toI (dget ds 4).toL), .l (r100405_3 (dget ds 0).toL (dget ds 1).toL (dget ds 2).toL (dget ds 3).toI (dget ds 4).toL)]
noncomputable def w100403 (x13 : List DV) (x56 : List DV) (_x62 : Bool) (x63 : Int) : Bool :=
  let x64 := ((x56.length / 1 : Nat) : Int)
  let x65 := decide (x63 < x64)
  let x66 := decide (x63 ≥ 0)
  let x67 := ((x13.length / 6 : Nat) : Int)
  let x68 := decide (x63 < x67)
  let x70 := decide (x63 ≥ 0)
  let x71 := ((x56.length / 1 : Nat) : Int)
  let x72 := decide (x63 < x71)
  [ow [(x65, true)] x66, ow [(x65, true)] x68, ow [(x65, true)] x70, ow [(x65, true)] x72].all id
noncomputable def c100403 (x13 : List DV) (x56 : List DV) (_x62 : Bool) (x63 : Int) : Bool :=
  let x64 := ((x56.length / 1 : Nat) : Int)
  let x65 := decide (x63 < x64)
  let x69 : Int := (x13.getD (Int.toNat x63 * (6 : Nat) + (5 : Nat)) default).toI
  let x73 : Int := (x56.getD (Int.toNat x63 * (1 : Nat) + (0 : Nat)) default).toI
  let x74 := x69 != x73
  let x75 := !x74
  let x77 := x65 && x75
  x77
noncomputable def n100403_0 (_x13 : List DV) (_x56 : List DV) (x62 : Bool) (_x63 : Int) : Bool :=
  x62
noncomputable def n100403_1 (_x13 : List DV) (_x56 : List DV) (_x62 : Bool) (x63 : Int) : Int :=
  let x76 := IntKind.wrap .i64 (x63 + 1)
  x76
noncomputable def t100403_0 (_x13 : List DV) (x56 : List DV) (_x62 : Bool) (x63 : Int) : Int :=
  let x64 := ((x56.length / 1 : Nat) : Int)
  let x65 := decide (x63 < x64)
  let x78 : Int := bif x65 then 0 else 1
  x78
noncomputable def t100403_1 (_x13 : List DV) (x56 : List DV) (x62 : Bool) (x63 : Int) : Bool :=
  let x64 := ((x56.length / 1 : Nat) : Int)
  let x65 := decide (x63 < x64)
  let x79 := bif x65 then false else x62
  x79
noncomputable def t100403_2 (_x13 : List DV) (_x56 : List DV) (_x62 : Bool) (x63 : Int) : Int :=
  x63
noncomputable def W100403 (ds : List DV) : Bool := w100403 (dget ds 0).toL (dget ds 1).toL (dget ds 2).toB (dget ds 3).toI
noncomputable def C100403 (ds : List DV) : Bool := c100403 (dget ds 0).toL (dget ds 1).toL (dget ds 2).toB (dget ds 3).toI
noncomputable def N100403 (ds : List DV) : List DV := [.l (dget ds 0).toL, .l (dget ds 1).toL, .b (n100403_0 (dget ds 0).toL (dget ds 1).toL (dget ds 2).toB (dget ds 3).toI), .i (n100403_1 (dget ds 0).toL (dget ds 1).toL (dget ds 2).toB (dget ds 3).toI)]
noncomputable def T100403 (ds : List DV) : List DV := [.i (t100403_0 (dget ds 0).toL (dget ds 1).toL (dget ds 2).toB (dget ds 3).toI), .b (t100403_1 (dget ds 0).toL (dget ds 1).toL (dget ds 2).toB (dget ds 3).toI), .i (t100403_2 (dget ds 0).toL (dget ds 1).toL (dget ds 2).toB (dget ds 3).toI)]
noncomputable def L100403 (x0 : List DV) (x1 : List DV) (x2 : Bool) (x3 : Int) : Option (List DV) := loopG W100403 C100403 N100403 T100403 [.l x0, .l x1, .b x2, .i x3]
noncomputable def p100403 (x0 : List DV) (x1 : List DV) (x2 : Bool) (x3 : Int) : Bool := (L100403 x0 x1 x2 x3).isSome
noncomputable def r100403_0 (x0 : List DV) (x1 : List DV) (x2 : Bool) (x3 : Int) : Int := (dget ((L100403 x0 x1 x2 x3).getD []) 0).toI
noncomputable def r100403_1 (x0 : List DV) (x1 : List DV) (x2 : Bool) (x3 : Int) : Bool := (dget ((L100403 x0 x1 x2 x3).getD []) 1).toB
noncomputable def r100403_2 (x0 : List DV) (x1 : List DV) (x2 : Bool) (x3 : Int) : Int := (dget ((L100403 x0 x1 x2 x3).getD []) 2).toI
noncomputable def g100403 (ds : List DV) : List DV := [.b (p100403 (dget ds 0).toL (dget ds 1).toL (dget ds 2).toB (dget ds 3).toI), .i (r100403_0 (dget ds 0).toL (dget ds 1).toL (dget ds 2).toB (dget ds 3).toI), .b (r100403_1 (dget ds 0).toL (dget ds 1).toL (dget ds 2).toB (dget ds 3).toI), .i (r100403_2 (dget ds 0).toL (dget ds 1).toL (dget ds 2).toB (dget ds 3).toI)]
noncomputable def W100400 (ds : List DV) : Bool :=
  let x0 : List DV := (dget ds 0).toL
  let x12 : Bool := (dget ds 1).toB
  let x13 : List DV := (dget ds 2).toL
  let x14 : Int := (dget ds 3).toI
  let x15 : List DV := (dget ds 4).toL
  let x16 : List DV := (dget ds 5).toL
  let x17 : List DV := (dget ds 6).toL
  let x18 : Int := (dget ds 7).toI
  let x19 : Int := (dget ds 8).toI
  let x22 := ((x0.length / 3 : Nat) : Int)
  let x23 := ilt x14 x22
  let x24 := ige x14 0
  let x25 := ((x0.length / 3 : Nat) : Int)
  let x26 := ilt x14 x25
  let x27 : Int := (x0.getD (Int.toNat x14 * (3 : Nat) + (0 : Nat)) default).toI
  let x28 : Int := (x0.getD (Int.toNat x14 * (3 : Nat) + (1 : Nat)) default).toI
  let x29 : List DV := (x0.getD (Int.toNat x14 * (3 : Nat) + (2 : Nat)) default).toL
  let x31 := x27 == 0
  let y32 : List DV := g11 [.l x15, .l x16, .l x17, .i x18, .i x19, .l x29]
  let x32 : Bool := (dget y32 0).toB
  let x33 : List DV := (dget y32 1).toL
  let x36 : Int := (dget y32 4).toI
  let x37 : List DV := (dget y32 5).toL
  let x38 : List DV := (dget y32 6).toL
  let x39 := x13 ++ x37
  let x40 := ((x39.length / 6 : Nat) : Int)
  let x41 := decide (x40 ≤ 1436096819952)
  let x42 := x27 == 1
  let y43 : List DV := g14 [.l x15, .l x16, .l x17, .i x18, .i x19, .i x28]
  let x43 : Bool := (dget y43 0).toB
  let x45 : List DV := (dget y43 2).toL
  let x46 : List DV := (dget y43 3).toL
  let x49 : Int := (dget y43 6).toI
  let x50 := x27 == 2
  let y51 : List DV := g16 [.l x15, .l x16, .l x17, .i x18, .i x19, .i x28]
  let x51 : Bool := (dget y51 0).toB
  let x52 : List DV := (dget y51 1).toL
  let x55 : Int := (dget y51 4).toI
  let x56 : List DV := (dget y51 5).toL
  let x57 : List DV := (dget y51 6).toL
  let x58 := ((x56.length / 1 : Nat) : Int)
  let x59 := ((x13.length / 6 : Nat) : Int)
  let x60 := decide (x58 > x59)
  let x61 := !x60
  let x62 := p100403 x13 x56 x12 0
  let x63 := r100403_0 x13 x56 x12 0
  let x64 := r100403_1 x13 x56 x12 0
  let x66 := x63 == 0
  let x67 := !x66
  let x68 := ((x56.length / 1 : Nat) : Int)
  let x69 := ((x13.length / 6 : Nat) : Int)
  let x70 := decide (x68 ≥ 0)
  let x71 := decide (x68 ≤ x69)
  let x72 := x13.drop (Int.toNat x68 * 6)
  let x73 := x27 == 3
  let y74 : List DV := g19 [.l x15, .l x16, .l x17, .i x18, .i x19, .i x28]
  let x74 : Bool := (dget y74 0).toB
  let x75 : Int := (dget y74 1).toI
  let x76 : List DV := (dget y74 2).toL
  let x79 : Int := (dget y74 5).toI
  let x80 : List DV := (dget y74 6).toL
  let x81 := ilt x75 0
  let x82 := ((x13.length / 6 : Nat) : Int)
  let x83 := igt x75 x82
  let x84 := x81 || x83
  let x85 := !x84
  let x86 := ((x13.length / 6 : Nat) : Int)
  let x87 := IntKind.wrap .i64 (x86 - x75)
  let x88 := decide (x87 ≥ 0)
  let x89 := ((x13.length / 6 : Nat) : Int)
  let x90 := decide (x87 ≤ x89)
  let x91 := x13.take (Int.toNat x87 * 6)
  let x92 := x61 && x67
  let x93 := bif x73 then x85 else true
  let x94 := bif x50 then x92 else x93
  let x95 := x42 || x94
  let x96 := x31 || x95
  let x97 := bif x73 then x91 else x13
  let x98 := bif x73 then x76 else x15
  let x99 := bif x73 then x80 else x16
  let x102 := bif x73 then x79 else x19
  let x103 := bif x50 then x64 else x12
  let x104 := bif x50 then x52 else x98
  let x105 := bif x50 then x57 else x99
  let x108 := bif x50 then x55 else x102
  let x109 := bif x50 then x72 else x97
  let x110 := bif x42 then x12 else x103
  let x111 := bif x42 then x13 else x109
  let x112 := bif x42 then x46 else x104
  let x113 := bif x42 then x45 else x105
  let x116 := bif x42 then x49 else x108
  let x117 := bif x31 then x12 else x110
  let x118 := bif x31 then x39 else x111
  let x119 := bif x31 then x33 else x112
  let x120 := bif x31 then x38 else x113
  let x123 := bif x31 then x36 else x116
  let x124 : List DV := (List.replicate (Int.toNat 96) ([.i 0] : List DV)).flatten
  let x125 := r23_0 x119
  let x127 := p21 x120
  let x128 := r21_0 x120
  let x129 : List DV := []
  let x130 := x129 ++ x128
  let x131 := ((x130.length / 1 : Nat) : Int)
  let x132 := decide (x131 ≤ 7818749353073)
  let y133 : List DV := g100405 [.l x125, .l x0, .l x130, .i 0, .l x0]
  let x133 : Bool := (dget y133 0).toB
  let y138 : List DV := g100407 [.l x118, .l x0, dget y133 2, .i 0, .l x0]
  let x138 : Bool := (dget y138 0).toB
  let x140 : List DV := (dget y138 2).toL
  let x143 := ((x140.length / 1 : Nat) : Int)
  let x144 := x143 != 96
  let x145 := r25_0 x123
  let x146 := ((x118.length / 6 : Nat) : Int)
  let x147 := x145 != x146
  let x148 := x144 || x147
  let x149 := ((x118.length / 6 : Nat) : Int)
  let x150 := decide (x149 > 16)
  let x151 := x148 || x150
  let x152 : Int := (x125.getD (Int.toNat 0 * (1 : Nat) + (0 : Nat)) default).toI
  let x153 := x152 != 0
  let x154 := x151 || x153
  let x155 := !x154
  let y156 : List DV := g100409 [dget y138 2, .b x117, .i 0, .l x124]
  let x156 : Bool := (dget y156 0).toB
  [ow [(x23, true)] x24, ow [(x23, true)] x26, ow [(x23, true), (x31, true)] x32, ow [(x23, true), (x31, true)] x41, ow [(x23, true), (x31, false), (x42, true)] x43, ow [(x23, true), (x31, false), (x42, false), (x50, true)] x51, ow [(x23, true), (x31, false), (x42, false), (x50, true), (x61, true)] x62, ow [(x23, true), (x31, false), (x42, false), (x50, true), (x61, true), (x67, true)] x70, ow [(x23, true), (x31, false), (x42, false), (x50, true), (x61, true), (x67, true)] x71, ow [(x23, true), (x31, false), (x42, false), (x50, false), (x73, true)] x74, ow [(x23, true), (x31, false), (x42, false), (x50, false), (x73, true), (x85, true)] x88, ow [(x23, true), (x31, false), (x42, false), (x50, false), (x73, true), (x85, true)] x90, ow [(x23, true), (x96, true)] x127, ow [(x23, true), (x96, true)] x132, ow [(x23, true), (x96, true)] x133, ow [(x23, true), (x96, true)] x138, ow [(x23, true), (x96, true), (x155, true)] x156].all id
noncomputable def C100400 (ds : List DV) : Bool :=
  let x0 : List DV := (dget ds 0).toL
  let x12 : Bool := (dget ds 1).toB
  let x13 : List DV := (dget ds 2).toL
  let x14 : Int := (dget ds 3).toI
  let x15 : List DV := (dget ds 4).toL
  let x16 : List DV := (dget ds 5).toL
  let x17 : List DV := (dget ds 6).toL
  let x18 : Int := (dget ds 7).toI
  let x19 : Int := (dget ds 8).toI
  let x22 := ((x0.length / 3 : Nat) : Int)
  let x23 := ilt x14 x22
  let x27 : Int := (x0.getD (Int.toNat x14 * (3 : Nat) + (0 : Nat)) default).toI
  let x28 : Int := (x0.getD (Int.toNat x14 * (3 : Nat) + (1 : Nat)) default).toI
  let x29 : List DV := (x0.getD (Int.toNat x14 * (3 : Nat) + (2 : Nat)) default).toL
  let x31 := x27 == 0
  let y33 : List DV := g11 [.l x15, .l x16, .l x17, .i x18, .i x19, .l x29]
  let x33 : List DV := (dget y33 1).toL
  let x36 : Int := (dget y33 4).toI
  let x37 : List DV := (dget y33 5).toL
  let x38 : List DV := (dget y33 6).toL
  let x39 := x13 ++ x37
  let x42 := x27 == 1
  let y45 : List DV := g14 [.l x15, .l x16, .l x17, .i x18, .i x19, .i x28]
  let x45 : List DV := (dget y45 2).toL
  let x46 : List DV := (dget y45 3).toL
  let x49 : Int := (dget y45 6).toI
  let x50 := x27 == 2
  let y52 : List DV := g16 [.l x15, .l x16, .l x17, .i x18, .i x19, .i x28]
  let x52 : List DV := (dget y52 1).toL
  let x55 : Int := (dget y52 4).toI
  let x56 : List DV := (dget y52 5).toL
  let x57 : List DV := (dget y52 6).toL
  let x58 := ((x56.length / 1 : Nat) : Int)
  let x59 := ((x13.length / 6 : Nat) : Int)
  let x60 := decide (x58 > x59)
  let x61 := !x60
  let x63 := r100403_0 x13 x56 x12 0
  let x64 := r100403_1 x13 x56 x12 0
  let x66 := x63 == 0
  let x67 := !x66
  let x68 := ((x56.length / 1 : Nat) : Int)
  let x72 := x13.drop (Int.toNat x68 * 6)
  let x73 := x27 == 3
  let y75 : List DV := g19 [.l x15, .l x16, .l x17, .i x18, .i x19, .i x28]
  let x75 : Int := (dget y75 1).toI
  let x76 : List DV := (dget y75 2).toL
  let x79 : Int := (dget y75 5).toI
  let x80 : List DV := (dget y75 6).toL
  let x81 := ilt x75 0
  let x82 := ((x13.length / 6 : Nat) : Int)
  let x83 := igt x75 x82
  let x84 := x81 || x83
  let x85 := !x84
  let x86 := ((x13.length / 6 : Nat) : Int)
  let x87 := IntKind.wrap .i64 (x86 - x75)
  let x91 := x13.take (Int.toNat x87 * 6)
  let x92 := x61 && x67
  let x93 := bif x73 then x85 else true
  let x94 := bif x50 then x92 else x93
  let x95 := x42 || x94
  let x96 := x31 || x95
  let x97 := bif x73 then x91 else x13
  let x98 := bif x73 then x76 else x15
  let x99 := bif x73 then x80 else x16
  let x102 := bif x73 then x79 else x19
  let x103 := bif x50 then x64 else x12
  let x104 := bif x50 then x52 else x98
  let x105 := bif x50 then x57 else x99
  let x108 := bif x50 then x55 else x102
  let x109 := bif x50 then x72 else x97
  let x110 := bif x42 then x12 else x103
  let x111 := bif x42 then x13 else x109
  let x112 := bif x42 then x46 else x104
  let x113 := bif x42 then x45 else x105
  let x116 := bif x42 then x49 else x108
  let x117 := bif x31 then x12 else x110
  let x118 := bif x31 then x39 else x111
  let x119 := bif x31 then x33 else x112
  let x120 := bif x31 then x38 else x113
  let x123 := bif x31 then x36 else x116
  let x124 : List DV := (List.replicate (Int.toNat 96) ([.i 0] : List DV)).flatten
  let x125 := r23_0 x119
  let x128 := r21_0 x120
  let x129 : List DV := []
  let x130 := x129 ++ x128
  let y135 : List DV := g100405 [.l x125, .l x0, .l x130, .i 0, .l x0]
  let y140 : List DV := g100407 [.l x118, .l x0, dget y135 2, .i 0, .l x0]
  let x140 : List DV := (dget y140 2).toL
  let x143 := ((x140.length / 1 : Nat) : Int)
  let x144 := x143 != 96
  let x145 := r25_0 x123
  let x146 := ((x118.length / 6 : Nat) : Int)
  let x147 := x145 != x146
  let x148 := x144 || x147
  let x149 := ((x118.length / 6 : Nat) : Int)
  let x150 := decide (x149 > 16)
  let x151 := x148 || x150
  let x152 : Int := (x125.getD (Int.toNat 0 * (1 : Nat) + (0 : Nat)) default).toI
  let x153 := x152 != 0
  let x154 := x151 || x153
  let x155 := !x154
  let y157 : List DV := g100409 [dget y140 2, .b x117, .i 0, .l x124]
  let x157 : Int := (dget y157 1).toI
  let x161 := x157 == 0
  let x162 := !x161
  let x163 := x155 && x162
  let x164 := x96 && x163
  let x166 := x23 && x164
  x166
noncomputable def N100400 (ds : List DV) : List DV :=
  let x0 : List DV := (dget ds 0).toL
  let x12 : Bool := (dget ds 1).toB
  let x13 : List DV := (dget ds 2).toL
  let x14 : Int := (dget ds 3).toI
  let x15 : List DV := (dget ds 4).toL
  let x16 : List DV := (dget ds 5).toL
  let x17 : List DV := (dget ds 6).toL
  let x18 : Int := (dget ds 7).toI
  let x19 : Int := (dget ds 8).toI
  let x27 : Int := (x0.getD (Int.toNat x14 * (3 : Nat) + (0 : Nat)) default).toI
  let x28 : Int := (x0.getD (Int.toNat x14 * (3 : Nat) + (1 : Nat)) default).toI
  let x29 : List DV := (x0.getD (Int.toNat x14 * (3 : Nat) + (2 : Nat)) default).toL
  let x31 := x27 == 0
  let y33 : List DV := g11 [.l x15, .l x16, .l x17, .i x18, .i x19, .l x29]
  let x33 : List DV := (dget y33 1).toL
  let x34 : List DV := (dget y33 2).toL
  let x35 : Int := (dget y33 3).toI
  let x36 : Int := (dget y33 4).toI
  let x37 : List DV := (dget y33 5).toL
  let x38 : List DV := (dget y33 6).toL
  let x39 := x13 ++ x37
  let x42 := x27 == 1
  let y45 : List DV := g14 [.l x15, .l x16, .l x17, .i x18, .i x19, .i x28]
  let x45 : List DV := (dget y45 2).toL
  let x46 : List DV := (dget y45 3).toL
  let x47 : List DV := (dget y45 4).toL
  let x48 : Int := (dget y45 5).toI
  let x49 : Int := (dget y45 6).toI
  let x50 := x27 == 2
  let y52 : List DV := g16 [.l x15, .l x16, .l x17, .i x18, .i x19, .i x28]
  let x52 : List DV := (dget y52 1).toL
  let x53 : List DV := (dget y52 2).toL
  let x54 : Int := (dget y52 3).toI
  let x55 : Int := (dget y52 4).toI
  let x56 : List DV := (dget y52 5).toL
  let x57 : List DV := (dget y52 6).toL
  let x64 := r100403_1 x13 x56 x12 0
  let x68 := ((x56.length / 1 : Nat) : Int)
  let x72 := x13.drop (Int.toNat x68 * 6)
  let x73 := x27 == 3
  let y75 : List DV := g19 [.l x15, .l x16, .l x17, .i x18, .i x19, .i x28]
  let x75 : Int := (dget y75 1).toI
  let x76 : List DV := (dget y75 2).toL
  let x77 : List DV := (dget y75 3).toL
  let x78 : Int := (dget y75 4).toI
  let x79 : Int := (dget y75 5).toI
  let x80 : List DV := (dget y75 6).toL
  let x86 := ((x13.length / 6 : Nat) : Int)
  let x87 := IntKind.wrap .i64 (x86 - x75)
  let x91 := x13.take (Int.toNat x87 * 6)
  let x97 := bif x73 then x91 else x13
  let x98 := bif x73 then x76 else x15
  let x99 := bif x73 then x80 else x16
  let x100 := bif x73 then x77 else x17
  let x101 := bif x73 then x78 else x18
  let x102 := bif x73 then x79 else x19
  let x103 := bif x50 then x64 else x12
  let x104 := bif x50 then x52 else x98
  let x105 := bif x50 then x57 else x99
  let x106 := bif x50 then x53 else x100
  let x107 := bif x50 then x54 else x101
  let x108 := bif x50 then x55 else x102
  let x109 := bif x50 then x72 else x97
  let x110 := bif x42 then x12 else x103
  let x111 := bif x42 then x13 else x109
  let x112 := bif x42 then x46 else x104
  let x113 := bif x42 then x45 else x105
  let x114 := bif x42 then x47 else x106
  let x115 := bif x42 then x48 else x107
  let x116 := bif x42 then x49 else x108
  let x117 := bif x31 then x12 else x110
  let x118 := bif x31 then x39 else x111
  let x119 := bif x31 then x33 else x112
  let x120 := bif x31 then x38 else x113
  let x121 := bif x31 then x34 else x114
  let x122 := bif x31 then x35 else x115
  let x123 := bif x31 then x36 else x116
  let x124 : List DV := (List.replicate (Int.toNat 96) ([.i 0] : List DV)).flatten
  let x125 := r23_0 x119
  let x128 := r21_0 x120
  let x129 : List DV := []
  let x130 := x129 ++ x128
  let y135 : List DV := g100405 [.l x125, .l x0, .l x130, .i 0, .l x0]
  let y140 : List DV := g100407 [.l x118, .l x0, dget y135 2, .i 0, .l x0]
  let y158 : List DV := g100409 [dget y140 2, .b x117, .i 0, .l x124]
  let x158 : Bool := (dget y158 2).toB
  let x165 := IntKind.wrap .i64 (x14 + 1)
  [.l (dget ds 0).toL, .b x158, .l x118, .i x165, .l x119, .l x120, .l x121, .i x122, .i x123, .l x0, .l x0]
noncomputable def T100400 (ds : List DV) : List DV :=
  let x0 : List DV := (dget ds 0).toL
  let x12 : Bool := (dget ds 1).toB
  let x13 : List DV := (dget ds 2).toL
  let x14 : Int := (dget ds 3).toI
  let x15 : List DV := (dget ds 4).toL
  let x16 : List DV := (dget ds 5).toL
  let x17 : List DV := (dget ds 6).toL
  let x18 : Int := (dget ds 7).toI
  let x19 : Int := (dget ds 8).toI
  let x22 := ((x0.length / 3 : Nat) : Int)
  let x23 := ilt x14 x22
  let x27 : Int := (x0.getD (Int.toNat x14 * (3 : Nat) + (0 : Nat)) default).toI
  let x28 : Int := (x0.getD (Int.toNat x14 * (3 : Nat) + (1 : Nat)) default).toI
  let x29 : List DV := (x0.getD (Int.toNat x14 * (3 : Nat) + (2 : Nat)) default).toL
  let x31 := x27 == 0
  let y33 : List DV := g11 [.l x15, .l x16, .l x17, .i x18, .i x19, .l x29]
  let x33 : List DV := (dget y33 1).toL
  let x34 : List DV := (dget y33 2).toL
  let x35 : Int := (dget y33 3).toI
  let x36 : Int := (dget y33 4).toI
  let x37 : List DV := (dget y33 5).toL
  let x38 : List DV := (dget y33 6).toL
  let x39 := x13 ++ x37
  let x42 := x27 == 1
  let y45 : List DV := g14 [.l x15, .l x16, .l x17, .i x18, .i x19, .i x28]
  let x45 : List DV := (dget y45 2).toL
  let x46 : List DV := (dget y45 3).toL
  let x47 : List DV := (dget y45 4).toL
  let x48 : Int := (dget y45 5).toI
  let x49 : Int := (dget y45 6).toI
  let x50 := x27 == 2
  let y52 : List DV := g16 [.l x15, .l x16, .l x17, .i x18, .i x19, .i x28]
  let x52 : List DV := (dget y52 1).toL
  let x53 : List DV := (dget y52 2).toL
  let x54 : Int := (dget y52 3).toI
  let x55 : Int := (dget y52 4).toI
  let x56 : List DV := (dget y52 5).toL
  let x57 : List DV := (dget y52 6).toL
  let x58 := ((x56.length / 1 : Nat) : Int)
  let x59 := ((x13.length / 6 : Nat) : Int)
  let x60 := decide (x58 > x59)
  let x61 := !x60
  let x63 := r100403_0 x13 x56 x12 0
  let x64 := r100403_1 x13 x56 x12 0
  let x66 := x63 == 0
  let x67 := !x66
  let x68 := ((x56.length / 1 : Nat) : Int)
  let x72 := x13.drop (Int.toNat x68 * 6)
  let x73 := x27 == 3
  let y75 : List DV := g19 [.l x15, .l x16, .l x17, .i x18, .i x19, .i x28]
  let x75 : Int := (dget y75 1).toI
  let x76 : List DV := (dget y75 2).toL
  let x77 : List DV := (dget y75 3).toL
  let x78 : Int := (dget y75 4).toI
  let x79 : Int := (dget y75 5).toI
  let x80 : List DV := (dget y75 6).toL
  let x81 := ilt x75 0
  let x82 := ((x13.length / 6 : Nat) : Int)
  let x83 := igt x75 x82
  let x84 := x81 || x83
  let x85 := !x84
  let x86 := ((x13.length / 6 : Nat) : Int)
  let x87 := IntKind.wrap .i64 (x86 - x75)
  let x91 := x13.take (Int.toNat x87 * 6)
  let x92 := x61 && x67
  let x93 := bif x73 then x85 else true
  let x94 := bif x50 then x92 else x93
  let x95 := x42 || x94
  let x96 := x31 || x95
  let x97 := bif x73 then x91 else x13
  let x98 := bif x73 then x76 else x15
  let x99 := bif x73 then x80 else x16
  let x100 := bif x73 then x77 else x17
  let x101 := bif x73 then x78 else x18
  let x102 := bif x73 then x79 else x19
  let x103 := bif x50 then x64 else x12
  let x104 := bif x50 then x52 else x98
  let x105 := bif x50 then x57 else x99
  let x106 := bif x50 then x53 else x100
  let x107 := bif x50 then x54 else x101
  let x108 := bif x50 then x55 else x102
  let x109 := bif x50 then x72 else x97
  let x110 := bif x42 then x12 else x103
  let x111 := bif x42 then x13 else x109
  let x112 := bif x42 then x46 else x104
  let x113 := bif x42 then x45 else x105
  let x114 := bif x42 then x47 else x106
  let x115 := bif x42 then x48 else x107
  let x116 := bif x42 then x49 else x108
  let x117 := bif x31 then x12 else x110
  let x118 := bif x31 then x39 else x111
  let x119 := bif x31 then x33 else x112
  let x120 := bif x31 then x38 else x113
  let x121 := bif x31 then x34 else x114
  let x122 := bif x31 then x35 else x115
  let x123 := bif x31 then x36 else x116
  let x124 : List DV := (List.replicate (Int.toNat 96) ([.i 0] : List DV)).flatten
  let x125 := r23_0 x119
  let x128 := r21_0 x120
  let x129 : List DV := []
  let x130 := x129 ++ x128
  let y135 : List DV := g100405 [.l x125, .l x0, .l x130, .i 0, .l x0]
  let y140 : List DV := g100407 [.l x118, .l x0, dget y135 2, .i 0, .l x0]
  let x140 : List DV := (dget y140 2).toL
  let x143 := ((x140.length / 1 : Nat) : Int)
  let x144 := x143 != 96
  let x145 := r25_0 x123
  let x146 := ((x118.length / 6 : Nat) : Int)
  let x147 := x145 != x146
  let x148 := x144 || x147
  let x149 := ((x118.length / 6 : Nat) : Int)
  let x150 := decide (x149 > 16)
  let x151 := x148 || x150
  let x152 : Int := (x125.getD (Int.toNat 0 * (1 : Nat) + (0 : Nat)) default).toI
  let x153 := x152 != 0
  let x154 := x151 || x153
  let x155 := !x154
  let y158 : List DV := g100409 [dget y140 2, .b x117, .i 0, .l x124]
  let x158 : Bool := (dget y158 2).toB
  let x167 := x155 && x158
  let x168 := x61 && x64
  let x169 := x50 && x168
  let x170 := bif x50 then x52 else x76
  let x171 := bif x50 then x57 else x80
  let x172 := bif x50 then x53 else x77
  let x173 := bif x50 then x54 else x78
  let x174 := bif x50 then x55 else x79
  let x175 := bif x96 then x167 else x169
  let x176 := bif x96 then x118 else x13
  let x177 := bif x96 then x119 else x170
  let x178 := bif x96 then x120 else x171
  let x179 := bif x96 then x121 else x172
  let x180 := bif x96 then x122 else x173
  let x181 := bif x96 then x123 else x174
  let x182 : Int := bif x23 then 0 else 1
  let x183 := bif x23 then x175 else x12
  let x184 := bif x23 then x176 else x13
  let x185 := bif x23 then x177 else x15
  let x186 := bif x23 then x178 else x16
  let x187 := bif x23 then x179 else x17
  let x188 := bif x23 then x180 else x18
  let x189 := bif x23 then x181 else x19
  [.i x182, .b x183, .l x184, .i x14, .l x185, .l x186, .l x187, .i x188, .i x189, .l x0, .l x0]
noncomputable def g100400 (ds : List DV) : List DV := wrapG [.i, .b, .l, .i, .l, .l, .l, .i, .i, .l, .l] (loopG W100400 C100400 N100400 T100400 (nrms [.l, .b, .l, .i, .l, .l, .l, .i, .i, .l, .l] ds))
def h100403 : LH := ⟨[], [], [], []⟩
def l4_0 : LR := ⟨100403, 62, 2, [13, 56], [(64, .llen 1 (.r 56)), (65, .lss (.r 63) (.r 64)), (66, .geq (.r 63) (.z 0)), (67, .llen 6 (.r 13)), (68, .lss (.r 63) (.r 67)), (69, .lgeti 6 5 (.r 13) (.r 63)), (70, .geq (.r 63) (.z 0)), (71, .llen 1 (.r 56)), (72, .lss (.r 63) (.r 71)), (73, .lgeti 1 0 (.r 56) (.r 63)), (74, .neq (.r 69) (.r 73)), (75, .not (.r 74)), (76, .add .i64 (.r 63) (.z 1)), (77, .and (.r 65) (.r 75)), (78, .itei (.r 65) (.z 0) (.z 1)), (79, .iteb (.r 65) (.t false) (.r 62))], [⟨[(.r 65, true)], .r 66⟩, ⟨[(.r 65, true)], .r 68⟩, ⟨[(.r 65, true)], .r 70⟩, ⟨[(.r 65, true)], .r 72⟩], .r 77, [.r 62, .r 76], [.r 78, .r 79, .r 63], [.b, .i], h100403⟩
def h100405 : LH := ⟨[], [], [], [26]⟩
def l4_1 : LR := ⟨100405, 133, 3, [125, 0], [(136, .lss (.r 134) (.z 64)), (137, .geq (.r 134) (.z 0)), (138, .lss (.r 134) (.z 64)), (139, .lgeti 1 0 (.r 125) (.r 134)), (140, .lmk [.i] [.r 139]), (141, .lcat (.r 133) (.r 140)), (142, .llen 1 (.r 141)), (143, .leq (.r 142) (.z 7818749353073)), (144, .add .i64 (.r 134) (.z 1))], [⟨[(.r 136, true)], .r 137⟩, ⟨[(.r 136, true)], .r 138⟩, ⟨[(.r 136, true)], .r 143⟩], .r 136, [.r 141, .r 144, .r 0], [.z 0, .r 133, .r 134, .r 0], [.l, .i, .l], h100405⟩
def h100407 : LH := ⟨[], [], [], [27]⟩
def l4_2 : LR := ⟨100407, 138, 3, [118, 0], [(141, .llen 6 (.r 118)), (142, .lss (.r 139) (.r 141)), (143, .geq (.r 139) (.z 0)), (144, .llen 6 (.r 118)), (145, .lss (.r 139) (.r 144)), (146, .lgeti 6 3 (.r 118) (.r 139)), (147, .geq (.r 146) (.z 0)), (148, .geq (.r 139) (.z 0)), (149, .llen 6 (.r 118)), (150, .lss (.r 139) (.r 149)), (151, .lgeti 6 4 (.r 118) (.r 139)), (152, .lmk [.i] [.r 151]), (153, .lcat (.r 138) (.r 152)), (154, .llen 1 (.r 153)), (155, .leq (.r 154) (.z 7818749353073)), (156, .itel (.r 147) (.r 153) (.r 138)), (157, .add .i64 (.r 139) (.z 1))], [⟨[(.r 142, true)], .r 143⟩, ⟨[(.r 142, true)], .r 145⟩, ⟨[(.r 142, true), (.r 147, true)], .r 148⟩, ⟨[(.r 142, true), (.r 147, true)], .r 150⟩, ⟨[(.r 142, true), (.r 147, true)], .r 155⟩], .r 142, [.r 156, .r 157, .r 0], [.z 0, .r 138, .r 139, .r 0], [.l, .i, .l], h100407⟩
def h100409 : LH := ⟨[], [], [], [20]⟩
def l4_3 : LR := ⟨100409, 156, 3, [140], [(159, .llen 1 (.r 140)), (160, .lss (.r 157) (.r 159)), (161, .geq (.r 157) (.z 0)), (162, .llen 1 (.r 140)), (163, .lss (.r 157) (.r 162)), (164, .lgeti 1 0 (.r 140) (.r 157)), (165, .lss (.r 164) (.z 0)), (166, .geq (.r 157) (.z 0)), (167, .llen 1 (.r 140)), (168, .lss (.r 157) (.r 167)), (169, .lgeti 1 0 (.r 140) (.r 157)), (170, .gtr (.r 169) (.z 95)), (171, .or (.r 165) (.r 170)), (172, .geq (.r 157) (.z 0)), (173, .llen 1 (.r 140)), (174, .lss (.r 157) (.r 173)), (175, .lgeti 1 0 (.r 140) (.r 157)), (176, .geq (.r 175) (.z 0)), (177, .llen 1 (.r 158)), (178, .lss (.r 175) (.r 177)), (179, .lgeti 1 0 (.r 158) (.r 175)), (180, .gtr (.r 179) (.z 0)), (181, .or (.r 171) (.r 180)), (182, .not (.r 181)), (183, .geq (.r 157) (.z 0)), (184, .llen 1 (.r 140)), (185, .lss (.r 157) (.r 184)), (186, .lgeti 1 0 (.r 140) (.r 157)), (187, .geq (.r 186) (.z 0)), (188, .llen 1 (.r 158)), (189, .lss (.r 186) (.r 188)), (190, .lset 1 0 .i (.r 158) (.r 186) (.z 1)), (191, .add .i64 (.r 157) (.z 1)), (192, .and (.r 160) (.r 182)), (193, .itei (.r 160) (.z 0) (.z 1)), (194, .iteb (.r 160) (.t false) (.r 156))], [⟨[(.r 160, true)], .r 161⟩, ⟨[(.r 160, true)], .r 163⟩, ⟨[(.r 160, true), (.r 165, false)], .r 166⟩, ⟨[(.r 160, true), (.r 165, false)], .r 168⟩, ⟨[(.r 160, true), (.r 171, false)], .r 172⟩, ⟨[(.r 160, true), (.r 171, false)], .r 174⟩, ⟨[(.r 160, true), (.r 171, false)], .r 176⟩, ⟨[(.r 160, true), (.r 171, false)], .r 178⟩, ⟨[(.r 160, true), (.r 182, true)], .r 183⟩, ⟨[(.r 160, true), (.r 182, true)], .r 185⟩, ⟨[(.r 160, true), (.r 182, true)], .r 187⟩, ⟨[(.r 160, true), (.r 182, true)], .r 189⟩], .r 192, [.r 156, .r 191, .r 190], [.r 193, .r 194, .r 157, .r 158], [.b, .i, .l], h100409⟩
def h100400 : LH := ⟨[], [22, 27], [(1, [(0, 131)])], [2, 3]⟩
def l4_4 : LR := ⟨100400, 12, 10, [0], List.append (List.append (List.append (List.append (List.append (List.append (List.append (List.append (List.append (List.append (List.append (List.append (List.append (List.append (List.append ([(22, .llen 3 (.r 0)), (23, .lss (.r 14) (.r 22)), (24, .geq (.r 14) (.z 0)), (25, .llen 3 (.r 0)), (26, .lss (.r 14) (.r 25)), (27, .lgeti 3 0 (.r 0) (.r 14)), (28, .lgeti 3 1 (.r 0) (.r 14)), (29, .lgetl 3 2 (.r 0) (.r 14)), (30, .lmk [] []), (31, .eql (.r 27) (.z 0))]) (callsAt 32 11 [.r 15, .r 16, .r 17, .r 18, .r 19, .r 29] 0 7)) ([(39, .lcat (.r 13) (.r 37)), (40, .llen 6 (.r 39)), (41, .leq (.r 40) (.z 1436096819952)), (42, .eql (.r 27) (.z 1))])) (callsAt 43 14 [.r 15, .r 16, .r 17, .r 18, .r 19, .r 28] 0 7)) ([(50, .eql (.r 27) (.z 2))])) (callsAt 51 16 [.r 15, .r 16, .r 17, .r 18, .r 19, .r 28] 0 7)) ([(58, .llen 1 (.r 56)), (59, .llen 6 (.r 13)), (60, .gtr (.r 58) (.r 59)), (61, .not (.r 60))])) (callsAt 62 100403 [.r 13, .r 56, .r 12, .z 0] 0 4)) ([(66, .eql (.r 63) (.z 0)), (67, .not (.r 66)), (68, .llen 1 (.r 56)), (69, .llen 6 (.r 13)), (70, .geq (.r 68) (.z 0)), (71, .leq (.r 68) (.r 69)), (72, .ldrop 6 (.r 13) (.r 68)), (73, .eql (.r 27) (.z 3))])) (callsAt 74 19 [.r 15, .r 16, .r 17, .r 18, .r 19, .r 28] 0 7)) ([(81, .lss (.r 75) (.z 0)), (82, .llen 6 (.r 13)), (83, .gtr (.r 75) (.r 82)), (84, .or (.r 81) (.r 83)), (85, .not (.r 84)), (86, .llen 6 (.r 13)), (87, .sub .i64 (.r 86) (.r 75)), (88, .geq (.r 87) (.z 0)), (89, .llen 6 (.r 13)), (90, .leq (.r 87) (.r 89)), (91, .ltake 6 (.r 13) (.r 87)), (92, .and (.r 61) (.r 67)), (93, .iteb (.r 73) (.r 85) (.t true)), (94, .iteb (.r 50) (.r 92) (.r 93)), (95, .or (.r 42) (.r 94)), (96, .or (.r 31) (.r 95)), (97, .itel (.r 73) (.r 91) (.r 13)), (98, .itel (.r 73) (.r 76) (.r 15)), (99, .itel (.r 73) (.r 80) (.r 16)), (100, .itel (.r 73) (.r 77) (.r 17)), (101, .itei (.r 73) (.r 78) (.r 18)), (102, .itei (.r 73) (.r 79) (.r 19)), (103, .iteb (.r 50) (.r 64) (.r 12)), (104, .itel (.r 50) (.r 52) (.r 98)), (105, .itel (.r 50) (.r 57) (.r 99)), (106, .itel (.r 50) (.r 53) (.r 100)), (107, .itei (.r 50) (.r 54) (.r 101)), (108, .itei (.r 50) (.r 55) (.r 102)), (109, .itel (.r 50) (.r 72) (.r 97)), (110, .iteb (.r 42) (.r 12) (.r 103)), (111, .itel (.r 42) (.r 13) (.r 109)), (112, .itel (.r 42) (.r 46) (.r 104)), (113, .itel (.r 42) (.r 45) (.r 105)), (114, .itel (.r 42) (.r 47) (.r 106)), (115, .itei (.r 42) (.r 48) (.r 107)), (116, .itei (.r 42) (.r 49) (.r 108)), (117, .iteb (.r 31) (.r 12) (.r 110)), (118, .itel (.r 31) (.r 39) (.r 111)), (119, .itel (.r 31) (.r 33) (.r 112)), (120, .itel (.r 31) (.r 38) (.r 113)), (121, .itel (.r 31) (.r 34) (.r 114)), (122, .itei (.r 31) (.r 35) (.r 115)), (123, .itei (.r 31) (.r 36) (.r 116)), (124, .lrep (.z 96) [.i] [.z 0]), (125, .call 23 [.r 119, .r 120, .r 121, .r 122, .r 123] 0), (126, .lmk [.i, .i, .i, .i, .i, .i, .i, .i, .i, .i, .i, .i, .i, .i, .i, .i, .i, .i, .i, .i, .i, .i, .i, .i, .i, .i, .i, .i, .i, .i, .i, .i, .i, .i, .i, .i, .i, .i, .i, .i, .i, .i, .i, .i, .i, .i, .i, .i, .i, .i, .i, .i, .i, .i, .i, .i, .i, .i, .i, .i, .i, .i, .i, .i] [.z 0, .z 0, .z 0, .z 0, .z 0, .z 0, .z 0, .z 0, .z 0, .z 0, .z 0, .z 0, .z 0, .z 0, .z 0, .z 0, .z 0, .z 0, .z 0, .z 0, .z 0, .z 0, .z 0, .z 0, .z 0, .z 0, .z 0, .z 0, .z 0, .z 0, .z 0, .z 0, .z 0, .z 0, .z 0, .z 0, .z 0, .z 0, .z 0, .z 0, .z 0, .z 0, .z 0, .z 0, .z 0, .z 0, .z 0, .z 0, .z 0, .z 0, .z 0, .z 0, .z 0, .z 0, .z 0, .z 0, .z 0, .z 0, .z 0, .z 0, .z 0, .z 0, .z 0, .z 0]), (127, .call 21 [.r 119, .r 120, .r 121, .r 122, .r 123] 0), (128, .call 21 [.r 119, .r 120, .r 121, .r 122, .r 123] 1), (129, .lmk [] []), (130, .lcat (.r 129) (.r 128)), (131, .llen 1 (.r 130)), (132, .leq (.r 131) (.z 7818749353073))])) (callsAt 133 100405 [.r 125, .r 0, .r 130, .z 0, .r 0] 0 5)) (callsAt 138 100407 [.r 118, .r 0, .r 135, .z 0, .r 0] 0 5)) ([(143, .llen 1 (.r 140)), (144, .neq (.r 143) (.z 96)), (145, .call 25 [.r 119, .r 120, .r 121, .r 122, .r 123] 0), (146, .llen 6 (.r 118)), (147, .neq (.r 145) (.r 146)), (148, .or (.r 144) (.r 147)), (149, .llen 6 (.r 118)), (150, .gtr (.r 149) (.z 16)), (151, .or (.r 148) (.r 150)), (152, .lgeti 1 0 (.r 125) (.z 0)), (153, .neq (.r 152) (.z 0)), (154, .or (.r 151) (.r 153)), (155, .not (.r 154))])) (callsAt 156 100409 [.r 140, .r 117, .z 0, .r 124] 0 5)) ([(161, .eql (.r 157) (.z 0)), (162, .not (.r 161)), (163, .and (.r 155) (.r 162)), (164, .and (.r 96) (.r 163)), (165, .add .i64 (.r 14) (.z 1)), (166, .and (.r 23) (.r 164)), (167, .and (.r 155) (.r 158)), (168, .and (.r 61) (.r 64)), (169, .and (.r 50) (.r 168)), (170, .itel (.r 50) (.r 52) (.r 76)), (171, .itel (.r 50) (.r 57) (.r 80)), (172, .itel (.r 50) (.r 53) (.r 77)), (173, .itei (.r 50) (.r 54) (.r 78)), (174, .itei (.r 50) (.r 55) (.r 79)), (175, .iteb (.r 96) (.r 167) (.r 169)), (176, .itel (.r 96) (.r 118) (.r 13)), (177, .itel (.r 96) (.r 119) (.r 170)), (178, .itel (.r 96) (.r 120) (.r 171)), (179, .itel (.r 96) (.r 121) (.r 172)), (180, .itei (.r 96) (.r 122) (.r 173)), (181, .itei (.r 96) (.r 123) (.r 174)), (182, .itei (.r 23) (.z 0) (.z 1)), (183, .iteb (.r 23) (.r 175) (.r 12)), (184, .itel (.r 23) (.r 176) (.r 13)), (185, .itel (.r 23) (.r 177) (.r 15)), (186, .itel (.r 23) (.r 178) (.r 16)), (187, .itel (.r 23) (.r 179) (.r 17)), (188, .itei (.r 23) (.r 180) (.r 18)), (189, .itei (.r 23) (.r 181) (.r 19))]), [⟨[(.r 23, true)], .r 24⟩, ⟨[(.r 23, true)], .r 26⟩, ⟨[(.r 23, true), (.r 31, true)], .r 32⟩, ⟨[(.r 23, true), (.r 31, true)], .r 41⟩, ⟨[(.r 23, true), (.r 31, false), (.r 42, true)], .r 43⟩, ⟨[(.r 23, true), (.r 31, false), (.r 42, false), (.r 50, true)], .r 51⟩, ⟨[(.r 23, true), (.r 31, false), (.r 42, false), (.r 50, true), (.r 61, true)], .r 62⟩, ⟨[(.r 23, true), (.r 31, false), (.r 42, false), (.r 50, true), (.r 61, true), (.r 67, true)], .r 70⟩, ⟨[(.r 23, true), (.r 31, false), (.r 42, false), (.r 50, true), (.r 61, true), (.r 67, true)], .r 71⟩, ⟨[(.r 23, true), (.r 31, false), (.r 42, false), (.r 50, false), (.r 73, true)], .r 74⟩, ⟨[(.r 23, true), (.r 31, false), (.r 42, false), (.r 50, false), (.r 73, true), (.r 85, true)], .r 88⟩, ⟨[(.r 23, true), (.r 31, false), (.r 42, false), (.r 50, false), (.r 73, true), (.r 85, true)], .r 90⟩, ⟨[(.r 23, true), (.r 96, true)], .r 127⟩, ⟨[(.r 23, true), (.r 96, true)], .r 132⟩, ⟨[(.r 23, true), (.r 96, true)], .r 133⟩, ⟨[(.r 23, true), (.r 96, true)], .r 138⟩, ⟨[(.r 23, true), (.r 96, true), (.r 155, true)], .r 156⟩], .r 166, [.r 158, .r 118, .r 165, .r 119, .r 120, .r 121, .r 122, .r 123, .r 0, .r 0], [.r 182, .r 183, .r 184, .r 14, .r 185, .r 186, .r 187, .r 188, .r 189, .r 0, .r 0], [.b, .l, .i, .l, .l, .l, .i, .i, .l, .l], h100400⟩
def s4 : Sig := ⟨[.s (.one (.vec 0))], [some (.v false [.int .i64, .int .i64, .vec [.int .i64, .int .i64, .int .i64, .int .i64]] (.h 0))], [.l], .s (.one (.b (.h 0))), [], [.b], true⟩
def o4 : Out := ⟨List.append (List.append (List.append (List.append ([(1, .call 8 [] 0), (2, .call 8 [] 1), (3, .not (.r 2)), (4, .not (.r 3))]) (callsAt 5 9 [] 0 6)) ([(11, .lmk [] [])])) (callsAt 12 100400 [.r 0, .t false, .r 11, .z 0, .r 6, .r 10, .r 7, .r 8, .r 9, .r 0, .r 0] 0 12)) ([(24, .eql (.r 13) (.z 0)), (25, .not (.r 24)), (26, .or (.r 25) (.r 14)), (27, .and (.r 4) (.r 26))]),
  [⟨[], .r 1⟩, ⟨[(.r 4, true)], .r 5⟩, ⟨[(.r 4, true)], .r 12⟩],
  [l4_0, l4_1, l4_2, l4_3, l4_4],
  [.r 27]⟩
noncomputable def p4 (x0 : List DV) : Bool :=
  let x1 := p8 
  let x2 := r8_0 
  let x3 := !x2
  let x4 := !x3
  let y5 : List DV := g9 []
  let x5 : Bool := (dget y5 0).toB
  let x11 : List DV := []
  let y12 : List DV := g100400 [.l x0, .b false, .l x11, .i 0, dget y5 1, dget y5 5, dget y5 2, dget y5 3, dget y5 4, .l x0, .l x0]
  let x12 : Bool := (dget y12 0).toB
  [ow [] x1, ow [(x4, true)] x5, ow [(x4, true)] x12].all id
noncomputable def r4_0 (x0 : List DV) : Bool :=
  let x2 := r8_0 
  let x3 := !x2
  let x4 := !x3
  let y6 : List DV := g9 []
  let x11 : List DV := []
  let y13 : List DV := g100400 [.l x0, .b false, .l x11, .i 0, dget y6 1, dget y6 5, dget y6 2, dget y6 3, dget y6 4, .l x0, .l x0]
  let x13 : Int := (dget y13 1).toI
  let x14 : Bool := (dget y13 2).toB
  let x24 := x13 == 0
  let x25 := !x24
  let x26 := x25 || x14
  let x27 := x4 && x26
  x27
noncomputable def g4 (ds : List DV) : List DV := [.b (p4 (dget ds 0).toL), .b (r4_0 (dget ds 0).toL)]
def S4 : Sigs := ⟨[(8, s8), (9, s9), (11, s11), (14, s14), (16, s16), (19, s19), (23, s23), (21, s21), (25, s25)], [], [(0, 100400), (3, 100403), (5, 100405), (7, 100407), (9, 100409)], 1, [(100403, h100403), (100405, h100405), (100407, h100407), (100409, h100409), (100400, h100400)]⟩

end Go.Proofs.Ytkpbkanbpjfadaa

namespace Go.Proofs.Ytkpbkanbpjfadaa
open Go Go.Sx

abbrev prN (n : Na) : Int × Int := (n.d, n.o)
abbrev prE (e : En) : Int × Int := (e.n, e.o)
structure Kp (u : U) (od : List Na) : Prop where
  ok : u.Ok2
  z : u.na.getD 0 0 = 0
  pr : od.map prN = u.under.map prE
  r : od.map Na.r = (List.range u.ma).map fun i => (((u.fi + i) % 16 : Nat) : Int)
theorem Kp.len {u : U} {od : List Na} (h : Kp u od) : od.length = u.ma := by
  have := congrArg List.length h.r
  simpa using this
theorem Kp.init : Kp u0 [] := ⟨u0_ok2, rfl, rfl, rfl⟩
theorem Kp.alloc1 {u u' : U} {w : Wa} {n : Na} {od : List Na} (h : Kp u od) (ha : u.alloc1 w = some (u', n)) : Kp u' (od ++ [n]) := by
  have hu := h.ok.ok.wf
  have hun := under_alloc1 hu ha
  obtain ⟨hwf, hfi, hma, hm⟩ := hu.alloc1 ha
  have hok := h.ok.alloc1 ha
  have hs : stops u w = false := by
    cases hh : stops u w with
    | false => rfl
    | true => rw [alloc1_stops hh] at ha; cases ha
  rw [alloc1_goes hs] at ha
  simp only [Option.some.injEq, Prod.mk.injEq] at ha
  obtain ⟨e1, e2⟩ := ha
  refine ⟨hok, ?_, ?_, ?_⟩
  · have e : u'.na = bif w.wr then u.na.set w.d.toNat (u.fr.getD 0 0) else u.na := by rw [← e1]
    rw [e]
    cases hw : w.wr with
    | false => exact h.z
    | true =>
      obtain ⟨d0, _⟩ := h.ok.ok.wr hm hw
      show (u.na.set w.d.toNat (u.fr.getD 0 0)).getD 0 0 = 0
      rw [List.getD_eq_getElem?_getD, List.getElem?_set, if_neg (by omega), ← List.getD_eq_getElem?_getD]
      exact h.z
  · rw [hun, List.map_append, List.map_append, h.pr, ← e2]
    rfl
  · rw [List.map_append, h.r, hma, hfi, List.range_succ, List.map_append, ← e2]
    rfl
theorem Kp.alloc : ∀ (ws : List Wa) {u : U} {od : List Na}, Kp u od → Kp (u.alloc ws).1 (od ++ (u.alloc ws).2)
  | [], u, od, h => by simpa [U.alloc] using h
  | w :: ws, u, od, h => by
    unfold U.alloc
    cases ha : u.alloc1 w with
    | none => simpa using h
    | some r =>
      have := Kp.alloc ws (h.alloc1 (u' := r.1) (n := r.2) ha)
      simpa using this
theorem Kp.finish {u : U} {od : List Na} (h : Kp u od) (x : Int) : Kp (u.finish x).1 od := by
  have hu := h.ok.ok.wf
  by_cases hc : (decide (u.number x < 0) || (u.at x.toNat).f) = true
  · have : u.finish x = (u, false) := by unfold U.finish; rw [hc]; rfl
    rw [this]; exact h
  · have hc : (decide (u.number x < 0) || (u.at x.toNat).f) = false := by simpa using hc
    have hc2 := hc
    simp only [Bool.or_eq_false_iff, decide_eq_false_iff_not] at hc
    obtain ⟨h0, h1, h2⟩ := number_range hc.1
    have hfi := hu.fi
    have hma := hu.ma
    obtain ⟨k, hk⟩ : ∃ k : Nat, u.number x = k := ⟨(u.number x).toNat, by omega⟩
    have hr : x = (((u.fi + k) % 16 : Nat) : Int) := by
      unfold U.number at hk
      rw [if_pos ⟨h0, h1⟩] at hk
      split at hk <;> omega
    subst hr
    have hkm : k < u.ma := by rw [hk] at h2; omega
    have hf : (u.at ((u.fi + k) % 16)).f = false := hc.2
    have hok := h.ok.finish (((u.fi + k) % 16 : Nat) : Int)
    rw [finish_at hu hkm hf] at hok ⊢
    refine ⟨hok, h.z, ?_, h.r⟩
    rw [under_finish hu hkm, h.pr]
    apply List.ext_getElem?
    intro i
    rw [List.getElem?_map, List.getElem?_map, List.getElem?_set]
    by_cases hi : k = i
    · subst hi
      rw [if_pos rfl, if_pos (by rw [under_len]; exact hkm), under_get hkm]
      rfl
    · rw [if_neg hi]
theorem range_cons (n : Nat) : List.range (n + 1) = 0 :: (List.range n).map (· + 1) := List.range_succ_eq_map
theorem Kp.commit1 {u : U} {od : List Na} (h : Kp u od) (hm : 0 < u.ma) : ∃ n od', od = n :: od' ∧ n.r = u.fi ∧ Kp u.commit1 od' := by
  have hu := h.ok.ok.wf
  have hfi := hu.fi
  have hl := h.len
  obtain ⟨n, od', rfl⟩ : ∃ n od', od = n :: od' := by
    cases od with
    | nil => simp at hl; omega
    | cons a b => exact ⟨a, b, rfl⟩
  have hr := h.r
  have hp := h.pr
  rw [under_commit1 hu.w2 hm, List.map_cons, List.map_cons, List.cons.injEq] at hp
  obtain ⟨m, hmm⟩ : ∃ m, u.ma = m + 1 := ⟨u.ma - 1, by omega⟩
  rw [hmm, range_cons, List.map_cons, List.map_cons, List.cons.injEq, List.map_map] at hr
  refine ⟨n, od', rfl, ?_, h.ok.commit1 hm, h.z, hp.2, ?_⟩
  · rw [hr.1]; congr 1; omega
  · have e : u.commit1.ma = m := by show u.ma - 1 = m; omega
    rw [hr.2, e]
    refine List.map_congr_left fun i _ => ?_
    show (((u.fi + (i + 1)) % 16 : Nat) : Int) = ((((u.fi + 1) % 16 + i) % 16 : Nat) : Int)
    congr 1
    omega
theorem Kp.commit : ∀ (n : Nat) {u : U} {od : List Na}, Kp u od → ∃ pre od', od = pre ++ od' ∧ pre.map Na.r = (u.commit n).2 ∧ Kp (u.commit n).1 od'
  | 0, u, od, h => ⟨[], od, rfl, rfl, h⟩
  | n + 1, u, od, h => by
    simp only [U.commit]
    cases hr : u.ready with
    | false => exact ⟨[], od, rfl, rfl, h⟩
    | true =>
      have hm : 0 < u.ma := by
        simp only [U.ready, Bool.and_eq_true, decide_eq_true_eq] at hr
        exact hr.1
      obtain ⟨x, od', rfl, h1, h2⟩ := h.commit1 hm
      obtain ⟨pre, od'', rfl, h3, h4⟩ := Kp.commit n h2
      refine ⟨x :: pre, od'', rfl, ?_, h4⟩
      simp only [cond_true, List.map_cons, h1, h3]
theorem Kp.squash1 {u : U} {od : List Na} (h : Kp u od) (hm : 0 < u.ma) (hsq : u.squash1.Ok2) : Kp u.squash1 (od.take (od.length - 1)) := by
  have hu := h.ok.ok.wf
  have hl := h.len
  have hp := h.pr
  have hun := under_squash1 hm
  have hlast : u.last ∈ u.under := by rw [hun]; simp
  obtain ⟨m, hmm⟩ : ∃ m, u.ma = m + 1 := ⟨u.ma - 1, by omega⟩
  refine ⟨hsq, ?_, ?_, ?_⟩
  · show (bif decide (u.last.d ≥ 0) then u.na.set u.last.d.toNat u.last.o else u.na : List Int).getD 0 0 = 0
    rcases h.ok.ok.ge u.last hlast with ⟨h1, _⟩ | ⟨h1, _⟩
    · rw [h1]; exact h.z
    · have : decide (u.last.d ≥ 0) = true := by simp; omega
      rw [this]
      show (u.na.set u.last.d.toNat u.last.o).getD 0 0 = 0
      rw [List.getD_eq_getElem?_getD, List.getElem?_set, if_neg (by omega), ← List.getD_eq_getElem?_getD]
      exact h.z
  · have e : u.squash1.ma = m := by show u.ma - 1 = m; omega
    have e2 : (u.squash1.under.map prE).length = m := by rw [List.length_map, under_len, e]
    rw [List.map_take, hp, hun, List.map_append, List.take_append_of_le_length (by omega), List.take_of_length_le (by omega)]
  · have e : u.squash1.ma = m := by show u.ma - 1 = m; omega
    rw [List.map_take, h.r, e, hmm, List.range_succ, List.map_append, List.take_append_of_le_length (by simp; omega), List.take_of_length_le (by simp; omega)]
    rfl
theorem Kp.squashN : ∀ (n : Nat) {u : U} {od : List Na}, Kp u od → n ≤ u.ma → Kp (u.squashN n) (od.take (od.length - n))
  | 0, u, od, h, _ => by simpa [U.squashN] using h
  | n + 1, u, od, h, hn => by
    have hl := h.len
    have h1 := h.squash1 (by omega) (h.ok.squash1 (by omega))
    have h2 := Kp.squashN n h1 (by show n ≤ u.ma - 1; omega)
    have e : (od.take (od.length - 1)).take ((od.take (od.length - 1)).length - n) = od.take (od.length - (n + 1)) := by
      rw [List.take_take, List.length_take]
      congr 1
      omega
    rw [e] at h2
    exact h2
theorem squash_range (u : U) (r : Int) : 0 ≤ (u.squash r).2 ∧ (u.squash r).2 ≤ u.ma := by
  unfold U.squash
  have h1 := number_ge u r
  rcases number_lt (u := u) r with h2 | h2
  · cases (decide (u.number r < 0) && (r != -1)) with
    | true => exact ⟨Int.le_refl _, by simp⟩
    | false => constructor <;> (simp only [cond_false]; omega)
  · cases (decide (u.number r < 0) && (r != -1)) with
    | true => exact ⟨Int.le_refl _, by simp⟩
    | false => constructor <;> (simp only [cond_false]; omega)
theorem Kp.squash {u : U} {od : List Na} (h : Kp u od) (r : Int) : Kp (u.squash r).1 (od.take (od.length - (u.squash r).2.toNat)) := by
  have hr := squash_range u r
  have hl := h.len
  unfold U.squash at hr ⊢
  cases hc : (decide (u.number r < 0) && (r != -1)) with
  | true => simpa using h
  | false =>
    rw [hc] at hr
    simp only [cond_false] at hr
    exact h.squashN _ (by omega)

def oldsN (l : List Na) : List Int := (l.filter fun n => decide (n.d ≥ 0)).map Na.o
theorem oldsN_cons (n : Na) (l : List Na) : oldsN (n :: l) = (bif decide (n.d ≥ 0) then [n.o] else []) ++ oldsN l := by
  unfold oldsN
  rw [List.filter_cons]
  cases h : decide (n.d ≥ 0) <;> simp
theorem oldsN_eq : ∀ {l : List Na} {m : List En}, l.map prN = m.map prE → (∀ e ∈ m, e.Good) → oldsN l = olds m
  | [], [], _, _ => rfl
  | [], _ :: _, h, _ => by simp at h
  | _ :: _, [], h, _ => by simp at h
  | n :: l, e :: m, h, hg => by
    simp only [List.map_cons, List.cons.injEq, Prod.mk.injEq] at h
    obtain ⟨⟨h1, h2⟩, h3⟩ := h
    rw [oldsN_cons, olds_cons, oldsN_eq h3 fun e he => hg e (List.mem_cons_of_mem _ he), h1, h2]
    have : decide (e.n ≥ 0) = decide (e.o ≥ 0) := by
      rcases hg e (by simp) with ⟨_, h4, h5⟩ | ⟨_, _, h4, h5⟩
      · rw [h4, h5]
      · rw [decide_eq_true h4, decide_eq_true h5]
    rw [this]
def allOf (u : U) (od : List Na) : List Int := u.fr ++ u.na ++ oldsN od
theorem Kp.perm {u : U} {od : List Na} (h : Kp u od) : (allOf u od).Perm all96 := by
  refine List.Perm.trans ?_ h.ok.ok.pm
  unfold allOf
  rw [oldsN_eq h.pr h.ok.ok.ge]
  exact List.Perm.append_right _ List.perm_append_comm
theorem all96_nodup : all96.Nodup := by
  unfold all96
  rw [List.nodup_iff_pairwise_ne, List.pairwise_map]
  refine List.Pairwise.imp (fun {a b} h e => h ?_) (List.nodup_iff_pairwise_ne.1 List.nodup_range)
  exact Int.ofNat.inj e
end Go.Proofs.Ytkpbkanbpjfadaa

namespace Go.Proofs.Ytkpbkanbpjfadaa
open Go Go.Sx

theorem encI_at {l : List Int} {k : Nat} {x : Int} (h : l[k]? = some x) : ((encI l).getD (Int.toNat (k : Int) * (1 : Nat) + (0 : Nat)) default).toI = x := by
  rw [Int.toNat_natCast, Nat.mul_one, Nat.add_zero, encI_get, List.getD_eq_getElem?_getD, h]; rfl
theorem len1 (x : List DV) : ((x.length / 1 : Nat) : Int) = (x.length : Int) := by rw [Nat.div_one]

section
variable {od : List Na} {a : List Int} {b : Bool}
theorem q3 {k : Nat} (hk : k < a.length) (ha : a.length < 100) (hl : a.length ≤ od.length) (hh : ∃ n, od[k]? = some n ∧ a[k]? = some n.r) :
    W100403 [.l (encN od), .l (encI a), .b b, .i k] = true ∧ C100403 [.l (encN od), .l (encI a), .b b, .i k] = true ∧ N100403 [.l (encN od), .l (encI a), .b b, .i k] = [.l (encN od), .l (encI a), .b b, .i (k + 1 : Nat)] := by
  obtain ⟨n, h1, h2⟩ := hh
  have e1 : (((encI a).length / 1 : Nat) : Int) = a.length := by rw [len1, encI_len]
  have e2 : (((encN od).length / 6 : Nat) : Int) = od.length := by rw [encN_len]; congr 1; omega
  have c1 : decide ((k : Int) < (a.length : Int)) = true := by simpa using hk
  have c2 : decide ((k : Int) ≥ 0) = true := by simp
  have c3 : decide ((k : Int) < (od.length : Int)) = true := by simp; omega
  have g1 : ((encN od).getD (Int.toNat (k : Int) * (6 : Nat) + (5 : Nat)) default).toI = n.r := by rw [encN_get h1 5 (by decide)]; rfl
  have g2 := encI_at h2
  refine ⟨?_, ?_, ?_⟩
  · show w100403 (encN od) (encI a) b k = true
    unfold w100403
    simp only [e1, e2, c1, c2, c3, ow_true]
    rfl
  · show c100403 (encN od) (encI a) b k = true
    unfold c100403
    simp only [e1, c1, g1, g2, bne_self_eq_false, Bool.not_false, Bool.and_self]
  · show [DV.l (encN od), .l (encI a), .b b, .i (IntKind.wrap .i64 ((k : Int) + 1))] = _
    rw [wrap_i64_of (by omega) (by omega)]
    rfl
theorem q3end : W100403 [.l (encN od), .l (encI a), .b b, .i a.length] = true ∧ C100403 [.l (encN od), .l (encI a), .b b, .i a.length] = false ∧ T100403 [.l (encN od), .l (encI a), .b b, .i a.length] = [.i 1, .b b, .i a.length] := by
  have e1 : (((encI a).length / 1 : Nat) : Int) = a.length := by rw [len1, encI_len]
  have c1 : decide ((a.length : Int) < (a.length : Int)) = false := by simp
  refine ⟨?_, ?_, ?_⟩
  · show w100403 (encN od) (encI a) b a.length = true
    unfold w100403
    simp only [e1, c1]
    simp [ow]
  · show c100403 (encN od) (encI a) b a.length = false
    unfold c100403
    simp only [e1, c1, Bool.false_and]
  · show [DV.i (t100403_0 (encN od) (encI a) b a.length), .b (t100403_1 (encN od) (encI a) b a.length), .i a.length] = _
    unfold t100403_0 t100403_1
    simp only [e1, c1, cond_false]
theorem q3loop (ha : a.length < 100) (hl : a.length ≤ od.length) (hh : ∀ k, k < a.length → ∃ n, od[k]? = some n ∧ a[k]? = some n.r) : ∀ (m k : Nat), a.length - k = m → k ≤ a.length →
    loopG W100403 C100403 N100403 T100403 [.l (encN od), .l (encI a), .b b, .i k] = some [.i 1, .b b, .i a.length]
  | 0, k, hm, hk => by
    obtain rfl : k = a.length := by omega
    obtain ⟨h1, h2, h3⟩ := q3end (od := od) (a := a) (b := b)
    rw [loopG_last h1 h2, h3]
  | m + 1, k, hm, hk => by
    obtain ⟨h1, h2, h3⟩ := q3 (od := od) (a := a) (b := b) (show k < a.length by omega) ha hl (hh k (by omega))
    rw [loopG_next h1 h2, h3, q3loop ha hl hh m (k + 1) (by omega) (by omega)]
end

section
variable {na acc : List Int} {x0 x1 : List DV}
theorem q5 {k : Nat} (hk : k < 64) (hn : na.length = 64) (ha : acc.length < 1000) :
    W100405 [.l (encI na), .l x0, .l (encI acc), .i k, .l x1] = true ∧ C100405 [.l (encI na), .l x0, .l (encI acc), .i k, .l x1] = true ∧
    N100405 [.l (encI na), .l x0, .l (encI acc), .i k, .l x1] = [.l (encI na), .l x0, .l (encI (acc ++ [na.getD k 0])), .i (k + 1 : Nat), .l x0] := by
  have g1 : na[k]? = some (na.getD k 0) := by rw [List.getD_eq_getElem?_getD, List.getElem?_eq_getElem (by omega)]; rfl
  have g2 := encI_at g1
  have c1 : decide ((k : Int) < 64) = true := by simp; omega
  have c2 : decide ((k : Int) ≥ 0) = true := by simp
  have a1 : encI acc ++ [DV.i (na.getD k 0)] = encI (acc ++ [na.getD k 0]) := by simp [encI]
  have c3 : decide ((((encI (acc ++ [na.getD k 0])).length / 1 : Nat) : Int) ≤ 7818749353073) = true := by rw [len1, encI_len]; simp; omega
  refine ⟨?_, ?_, ?_⟩
  · show w100405 (encI na) x0 (encI acc) k x1 = true
    unfold w100405
    simp only [c1, c2, g2, a1, c3, ow_true]
    rfl
  · exact c1
  · show [DV.l (encI na), .l x0, .l (encI acc ++ [DV.i ((encI na).getD (Int.toNat (k : Int) * (1 : Nat) + (0 : Nat)) default).toI]), .i (IntKind.wrap .i64 ((k : Int) + 1)), .l x0] = _
    rw [g2, a1, wrap_i64_of (by omega) (by omega)]
    rfl
theorem q5loop (hn : na.length = 64) : ∀ (m k : Nat) (acc : List Int) (x1 : List DV), 64 - k = m → k ≤ 64 → acc.length < 500 + k →
    ∃ y, loopG W100405 C100405 N100405 T100405 [.l (encI na), .l x0, .l (encI acc), .i k, .l x1] = some [.i 0, .l (encI (acc ++ na.drop k)), .i 64, .l y]
  | 0, k, acc, x1, hm, hk, ha => by
    obtain rfl : k = 64 := by omega
    refine ⟨x0, ?_⟩
    rw [loopG_last rfl rfl, List.drop_of_length_le (by omega), List.append_nil]
    rfl
  | m + 1, k, acc, x1, hm, hk, ha => by
    obtain ⟨h1, h2, h3⟩ := q5 (x0 := x0) (x1 := x1) (na := na) (acc := acc) (show k < 64 by omega) hn (by omega)
    obtain ⟨y, h4⟩ := q5loop hn m (k + 1) (acc ++ [na.getD k 0]) x0 (by omega) (by omega) (by simp; omega)
    refine ⟨y, ?_⟩
    rw [loopG_next h1 h2, h3, h4, List.append_assoc]
    congr 5
    rw [List.drop_eq_getElem_cons (show k < na.length by omega), List.getD_eq_getElem?_getD, List.getElem?_eq_getElem (by omega)]
    rfl
theorem g5_eq (hn : na.length = 64) (ha : acc.length < 500) : ∃ y, g100405 [.l (encI na), .l x0, .l (encI acc), .i 0, .l x1] = [.b true, .i 0, .l (encI (acc ++ na)), .i 64, .l y] := by
  obtain ⟨y, hL⟩ := q5loop (x0 := x0) hn 64 0 acc x1 rfl (by omega) (by omega)
  rw [List.drop_zero] at hL
  refine ⟨y, ?_⟩
  have e : ∀ (o : Option (List DV)) (a b c d : DV), o = some [.i a.toI, .l b.toL, .i c.toI, .l d.toL] → [DV.b o.isSome, .i (dget (o.getD []) 0).toI, .l (dget (o.getD []) 1).toL, .i (dget (o.getD []) 2).toI, .l (dget (o.getD []) 3).toL] = [.b true, .i a.toI, .l b.toL, .i c.toI, .l d.toL] := fun o a b c d ho => by rw [ho]; rfl
  exact e _ (.i 0) (.l (encI (acc ++ na))) (.i 64) (.l y) hL
end

section
variable {od : List Na} {acc : List Int} {x0 x1 : List DV}
theorem q7 {k : Nat} {n : Na} (hk : od[k]? = some n) (hl : od.length < 1000) (ha : acc.length < 1000) :
    W100407 [.l (encN od), .l x0, .l (encI acc), .i k, .l x1] = true ∧ C100407 [.l (encN od), .l x0, .l (encI acc), .i k, .l x1] = true ∧
    N100407 [.l (encN od), .l x0, .l (encI acc), .i k, .l x1] = [.l (encN od), .l x0, .l (encI (acc ++ bif decide (n.d ≥ 0) then [n.o] else [])), .i (k + 1 : Nat), .l x0] := by
  have hlt : k < od.length := (List.getElem?_eq_some_iff.1 hk).1
  have e2 : (((encN od).length / 6 : Nat) : Int) = od.length := by rw [encN_len]; congr 1; omega
  have c1 : decide ((k : Int) < (od.length : Int)) = true := by simp; omega
  have c2 : decide ((k : Int) ≥ 0) = true := by simp
  have g1 : ((encN od).getD (Int.toNat (k : Int) * (6 : Nat) + (3 : Nat)) default).toI = n.d := by rw [encN_get hk 3 (by decide)]; rfl
  have g2 : ((encN od).getD (Int.toNat (k : Int) * (6 : Nat) + (4 : Nat)) default).toI = n.o := by rw [encN_get hk 4 (by decide)]; rfl
  have a1 : encI acc ++ [DV.i n.o] = encI (acc ++ [n.o]) := by simp [encI]
  have c3 : decide ((((encI (acc ++ [n.o])).length / 1 : Nat) : Int) ≤ 7818749353073) = true := by rw [len1, encI_len]; simp; omega
  refine ⟨?_, ?_, ?_⟩
  · show w100407 (encN od) x0 (encI acc) k x1 = true
    unfold w100407
    simp only [e2, c1, c2, g1, g2, a1, c3, ow_true]
    rfl
  · show c100407 (encN od) x0 (encI acc) k x1 = true
    unfold c100407
    simp only [e2, c1]
  · show [DV.l (encN od), .l x0, .l (n100407_0 (encN od) x0 (encI acc) k x1), .i (IntKind.wrap .i64 ((k : Int) + 1)), .l x0] = _
    unfold n100407_0
    simp only [g1, g2, a1]
    rw [wrap_i64_of (by omega) (by omega)]
    show [DV.l (encN od), .l x0, .l (bif decide (n.d ≥ 0) then encI (acc ++ [n.o]) else encI acc), .i _, .l x0] = _
    cases decide (n.d ≥ 0) with
    | true => rfl
    | false => simp only [cond_false, List.append_nil]; rfl
theorem q7loop (hl : od.length ≤ 100) : ∀ (m k : Nat) (acc : List Int) (x1 : List DV), od.length - k = m → k ≤ od.length → acc.length < 600 + k →
    ∃ y, loopG W100407 C100407 N100407 T100407 [.l (encN od), .l x0, .l (encI acc), .i k, .l x1] = some [.i 0, .l (encI (acc ++ oldsN (od.drop k))), .i od.length, .l y]
  | 0, k, acc, x1, hm, hk, ha => by
    obtain rfl : k = od.length := by omega
    have e2 : (((encN od).length / 6 : Nat) : Int) = od.length := by rw [encN_len]; congr 1; omega
    have c1 : decide ((od.length : Int) < (od.length : Int)) = false := by simp
    have h1 : W100407 [.l (encN od), .l x0, .l (encI acc), .i od.length, .l x1] = true := by
      show w100407 (encN od) x0 (encI acc) od.length x1 = true
      unfold w100407
      simp only [e2, c1]
      simp [ow]
    have h2 : C100407 [.l (encN od), .l x0, .l (encI acc), .i od.length, .l x1] = false := by
      show c100407 (encN od) x0 (encI acc) od.length x1 = false
      unfold c100407
      simp only [e2, c1]
    refine ⟨x0, ?_⟩
    rw [loopG_last h1 h2, List.drop_of_length_le (by omega)]
    show _ = some [DV.i 0, .l (encI (acc ++ [])), .i od.length, .l x0]
    rw [List.append_nil]
    rfl
  | m + 1, k, acc, x1, hm, hk, ha => by
    obtain ⟨n, hn⟩ : ∃ n, od[k]? = some n := ⟨od[k]'(by omega), List.getElem?_eq_getElem _⟩
    obtain ⟨h1, h2, h3⟩ := q7 (x0 := x0) (x1 := x1) (acc := acc) hn (by omega) (by omega)
    obtain ⟨y, h4⟩ := q7loop hl m (k + 1) (acc ++ bif decide (n.d ≥ 0) then [n.o] else []) x0 (by omega) (by omega) (by cases decide (n.d ≥ 0) <;> simp <;> omega)
    refine ⟨y, ?_⟩
    rw [loopG_next h1 h2, h3, h4, List.append_assoc]
    have hlt : k < od.length := (List.getElem?_eq_some_iff.1 hn).1
    rw [List.drop_eq_getElem_cons hlt, oldsN_cons]
    rw [List.getElem?_eq_getElem hlt, Option.some.injEq] at hn
    rw [hn]
theorem g7_eq (hl : od.length ≤ 100) (ha : acc.length < 600) : ∃ y, g100407 [.l (encN od), .l x0, .l (encI acc), .i 0, .l x1] = [.b true, .i 0, .l (encI (acc ++ oldsN od)), .i od.length, .l y] := by
  obtain ⟨y, hL⟩ := q7loop (x0 := x0) hl od.length 0 acc x1 rfl (by omega) (by omega)
  rw [List.drop_zero] at hL
  refine ⟨y, ?_⟩
  have e : ∀ (o : Option (List DV)) (a b c d : DV), o = some [.i a.toI, .l b.toL, .i c.toI, .l d.toL] → [DV.b o.isSome, .i (dget (o.getD []) 0).toI, .l (dget (o.getD []) 1).toL, .i (dget (o.getD []) 2).toI, .l (dget (o.getD []) 3).toL] = [.b true, .i a.toI, .l b.toL, .i c.toI, .l d.toL] := fun o a b c d ho => by rw [ho]; rfl
  exact e _ (.i 0) (.l (encI (acc ++ oldsN od))) (.i od.length) (.l y) hL
end

section
variable {all mn : List Int} {b : Bool}
theorem q9 {k : Nat} {x : Int} (hk : all[k]? = some x) (hl : all.length < 1000) (h0 : 0 ≤ x) (h1 : x < 96) (hm : mn.length = 96) (hz : mn.getD x.toNat 0 = 0) :
    W100409 [.l (encI all), .b b, .i k, .l (encI mn)] = true ∧ C100409 [.l (encI all), .b b, .i k, .l (encI mn)] = true ∧
    N100409 [.l (encI all), .b b, .i k, .l (encI mn)] = [.l (encI all), .b b, .i (k + 1 : Nat), .l (encI (mn.set x.toNat 1))] := by
  have hlt : k < all.length := (List.getElem?_eq_some_iff.1 hk).1
  have e1 : (((encI all).length / 1 : Nat) : Int) = all.length := by rw [len1, encI_len]
  have e2 : (((encI mn).length / 1 : Nat) : Int) = 96 := by rw [len1, encI_len, hm]; rfl
  have c1 : decide ((k : Int) < (all.length : Int)) = true := by simp; omega
  have c2 : decide ((k : Int) ≥ 0) = true := by simp
  have g1 := encI_at hk
  obtain ⟨j, rfl⟩ : ∃ j : Nat, x = j := ⟨x.toNat, by omega⟩
  have hz' : mn.getD j 0 = 0 := hz
  have g2 : ((encI mn).getD (Int.toNat (j : Int) * (1 : Nat) + (0 : Nat)) default).toI = 0 := by
    rw [Int.toNat_natCast, Nat.mul_one, Nat.add_zero, encI_get, hz']
  have c3 : ilt (j : Int) 0 = false := by simp [ilt]
  have c4 : igt (j : Int) 95 = false := by simp [igt]; omega
  have c5 : igt (0 : Int) 0 = false := rfl
  have c6 : ige (j : Int) 0 = true := by simp [ige]
  have c7 : ilt (j : Int) 96 = true := by simp [ilt]; omega
  refine ⟨?_, ?_, ?_⟩
  · show w100409 (encI all) b k (encI mn) = true
    unfold w100409
    simp only [e1, e2, c1, c2, g1, g2, c3, c4, c5, c6, c7, Bool.or_self, ow_true]
    rfl
  · show c100409 (encI all) b k (encI mn) = true
    unfold c100409
    simp only [e1, c1, g1, g2, c3, c4, c5]
    rfl
  · show [DV.l (encI all), .b b, .i (IntKind.wrap .i64 ((k : Int) + 1)), .l (n100409_2 (encI all) b k (encI mn))] = _
    unfold n100409_2
    simp only [g1]
    rw [wrap_i64_of (by omega) (by omega), Int.toNat_natCast, Nat.mul_one, Nat.add_zero, encI_set]
    rfl
theorem q9loop (hl : all.length < 1000) (hr : ∀ x ∈ all, 0 ≤ x ∧ x < 96) (hd : all.Nodup) : ∀ (m k : Nat) (mn : List Int), all.length - k = m → k ≤ all.length → mn.length = 96 → (∀ x ∈ all.drop k, mn.getD x.toNat 0 = 0) →
    ∃ y, loopG W100409 C100409 N100409 T100409 [.l (encI all), .b b, .i k, .l (encI mn)] = some [.i 1, .b b, .i all.length, .l y]
  | 0, k, mn, hm, hk, h96, hz => by
    obtain rfl : k = all.length := by omega
    have e1 : (((encI all).length / 1 : Nat) : Int) = all.length := by rw [len1, encI_len]
    have c1 : decide ((all.length : Int) < (all.length : Int)) = false := by simp
    have h1 : W100409 [.l (encI all), .b b, .i all.length, .l (encI mn)] = true := by
      show w100409 (encI all) b all.length (encI mn) = true
      unfold w100409
      simp only [e1, c1]
      simp [ow]
    have h2 : C100409 [.l (encI all), .b b, .i all.length, .l (encI mn)] = false := by
      show c100409 (encI all) b all.length (encI mn) = false
      unfold c100409
      simp only [e1, c1, Bool.false_and]
    refine ⟨encI mn, ?_⟩
    rw [loopG_last h1 h2]
    show some [DV.i (t100409_0 (encI all) b all.length (encI mn)), .b (t100409_1 (encI all) b all.length (encI mn)), .i all.length, .l (encI mn)] = _
    unfold t100409_0 t100409_1
    simp only [e1, c1, cond_false]
  | m + 1, k, mn, hm, hk, h96, hz => by
    have hlt : k < all.length := by omega
    obtain ⟨h0, h1⟩ := hr all[k] (List.getElem_mem hlt)
    have hz0 := hz all[k] (by rw [List.drop_eq_getElem_cons hlt]; exact List.mem_cons_self)
    obtain ⟨k1, k2, k3⟩ := q9 (b := b) (List.getElem?_eq_getElem hlt) hl h0 h1 h96 hz0
    obtain ⟨y, h4⟩ := q9loop hl hr hd m (k + 1) (mn.set all[k].toNat 1) (by omega) (by omega) (by simpa using h96) (fun x hx => by
      have hx2 : x ∈ all.drop k := by rw [List.drop_eq_getElem_cons hlt]; exact List.mem_cons_of_mem _ hx
      have hne : all[k] ≠ x := by
        have := hd.sublist (List.drop_sublist k all)
        rw [List.drop_eq_getElem_cons hlt, List.nodup_cons] at this
        intro e
        rw [e] at this
        exact this.1 hx
      obtain ⟨x0, x1⟩ := hr x (List.mem_of_mem_drop hx)
      rw [List.getD_eq_getElem?_getD, List.getElem?_set, if_neg (by omega), ← List.getD_eq_getElem?_getD]
      exact hz x hx2)
    exact ⟨y, by rw [loopG_next k1 k2, k3, h4]⟩
theorem g9_once (hl : all.length < 1000) (hr : ∀ x ∈ all, 0 ≤ x ∧ x < 96) (hd : all.Nodup) :
    ∃ y, g100409 [.l (encI all), .b b, .i 0, .l (List.replicate (Int.toNat 96) ([.i 0] : List DV)).flatten] = [.b true, .i 1, .b b, .i all.length, .l y] := by
  have ez : (List.replicate (Int.toNat 96) ([.i 0] : List DV)).flatten = encI (List.replicate 96 0) := by kernel_rfl
  rw [ez]
  obtain ⟨y, hL⟩ := q9loop (b := b) hl hr hd all.length 0 (List.replicate 96 0) rfl (by omega) (by simp) (fun x _ => by
    rw [List.getD_eq_getElem?_getD, List.getElem?_replicate]
    split <;> rfl)
  refine ⟨y, ?_⟩
  have e : ∀ (o : Option (List DV)) (a b c d : DV), o = some [.i a.toI, .b b.toB, .i c.toI, .l d.toL] → [DV.b o.isSome, .i (dget (o.getD []) 0).toI, .b (dget (o.getD []) 1).toB, .i (dget (o.getD []) 2).toI, .l (dget (o.getD []) 3).toL] = [.b true, .i a.toI, .b b.toB, .i c.toI, .l d.toL] := fun o a b c d ho => by rw [ho]; rfl
  exact e _ (.i 1) (.b b) (.i all.length) (.l y) hL
end
end Go.Proofs.Ytkpbkanbpjfadaa

namespace Go.Proofs.Ytkpbkanbpjfadaa
open Go Go.Sx

theorem p3_eq {od : List Na} {a : List Int} {b : Bool} (ha : a.length < 100) (hl : a.length ≤ od.length) (hh : ∀ k, k < a.length → ∃ n, od[k]? = some n ∧ a[k]? = some n.r) :
    p100403 (encN od) (encI a) b 0 = true ∧ r100403_0 (encN od) (encI a) b 0 = 1 ∧ r100403_1 (encN od) (encI a) b 0 = b := by
  have hL : L100403 (encN od) (encI a) b 0 = some [.i 1, .b b, .i a.length] := q3loop (b := b) ha hl hh a.length 0 (by omega) (by omega)
  refine ⟨?_, ?_, ?_⟩
  · unfold p100403; rw [hL]; rfl
  · unfold r100403_0; rw [hL]; rfl
  · unfold r100403_1; rw [hL]; rfl
def odStep (u : U) (od : List Na) (s : St) : List Na :=
  bif s.kind == 0 then od ++ (u.alloc s.ws).2 else bif s.kind == 1 then od else bif s.kind == 2 then od.drop (u.commit s.n.toNat).2.length else bif s.kind == 3 then od.take (od.length - (u.squash s.n).2.toNat) else od
theorem Kp.commit_drop {u : U} {od : List Na} (h : Kp u od) (n : Nat) : Kp (u.commit n).1 (od.drop (u.commit n).2.length) ∧ (u.commit n).2.length ≤ od.length ∧ ∀ k, k < (u.commit n).2.length → ∃ m, od[k]? = some m ∧ (u.commit n).2[k]? = some m.r := by
  obtain ⟨pre, od', rfl, h1, h2⟩ := h.commit n
  have hl : pre.length = (u.commit n).2.length := by rw [← h1]; simp
  refine ⟨by rw [← hl, List.drop_left]; exact h2, by rw [← hl]; simp, fun k hk => ?_⟩
  have hk2 : k < pre.length := by omega
  refine ⟨pre[k], by rw [List.getElem?_append_left hk2, List.getElem?_eq_getElem hk2], ?_⟩
  rw [← h1, List.getElem?_map, List.getElem?_eq_getElem hk2]
  rfl
theorem Kp.step {u : U} {od : List Na} (h : Kp u od) (s : St) : Kp (u.step s) (odStep u od s) := by
  unfold U.step odStep
  cases s.kind == 0 with
  | true => exact h.alloc s.ws
  | false =>
    cases s.kind == 1 with
    | true => exact h.finish s.n
    | false =>
      cases s.kind == 2 with
      | true => exact (h.commit_drop s.n.toNat).1
      | false =>
        cases s.kind == 3 with
        | true => exact h.squash s.n
        | false => exact h
theorem encN_take (l : List Na) (k : Nat) : (encN l).take (k * 6) = encN (l.take k) := by
  induction l generalizing k with
  | nil => simp [encN]
  | cons a l ih =>
    cases k with
    | zero => simp [encN]
    | succ k =>
      have e : encN (a :: l) = a.dv ++ encN l := by simp [encN]
      rw [e, Nat.succ_mul, Nat.add_comm, List.take_append, List.take_of_length_le (by show 6 ≤ _; omega), show 6 + k * 6 - a.dv.length = k * 6 from by show 6 + k * 6 - 6 = _; omega, ih]
      simp [encN]
theorem encN_drop (l : List Na) (k : Nat) : (encN l).drop (k * 6) = encN (l.drop k) := fm_drop (f := Na.dv) (fun _ => rfl) l k
structure Tl (u : U) (od : List Na) (x0 : List DV) (b : Bool) (y1 y2 y3 : List DV) : Prop where
  p21 : p21 (encI u.fr) = true
  ln : decide ((((encI u.fr).length / 1 : Nat) : Int) ≤ 7818749353073) = true
  g5 : g100405 [.l (encI u.na), .l x0, .l (encI u.fr), .i 0, .l x0] = [.b true, .i 0, .l (encI (u.fr ++ u.na)), .i 64, .l y1]
  g7 : g100407 [.l (encN od), .l x0, .l (encI (u.fr ++ u.na)), .i 0, .l x0] = [.b true, .i 0, .l (encI (allOf u od)), .i od.length, .l y2]
  n96 : (((encI (allOf u od)).length / 1 : Nat) : Int) = 96
  nod : (((encN od).length / 6 : Nat) : Int) = u.ma
  m16 : decide ((u.ma : Int) > 16) = false
  z : ((encI u.na).getD (Int.toNat 0 * (1 : Nat) + (0 : Nat)) default).toI = 0
  g9 : g100409 [.l (encI (allOf u od)), .b b, .i 0, .l (List.replicate (Int.toNat 96) ([.i 0] : List DV)).flatten] = [.b true, .i 1, .b b, .i (allOf u od).length, .l y3]
theorem Kp.tl {u : U} {od : List Na} (h : Kp u od) (x0 : List DV) (b : Bool) : ∃ y1 y2 y3, Tl u od x0 b y1 y2 y3 := by
  have hu := h.ok.ok.wf
  have hfr : u.fr.length ≤ 32 := by have := h.ok.ok.len; omega
  have hl := h.len
  have hma := hu.ma
  have hp := h.perm
  have hpl : (allOf u od).length = 96 := by rw [hp.length_eq]; rfl
  obtain ⟨y1, h5⟩ := g5_eq (na := u.na) (acc := u.fr) (x0 := x0) (x1 := x0) hu.na (by omega)
  obtain ⟨y2, h7⟩ := g7_eq (od := od) (acc := u.fr ++ u.na) (x0 := x0) (x1 := x0) (by omega) (by simp [hu.na]; omega)
  obtain ⟨y3, h9⟩ := g9_once (all := allOf u od) (b := b) (by omega) (fun x hx => mem96 (hp.mem_iff.1 hx)) (hp.nodup_iff.2 all96_nodup)
  refine ⟨y1, y2, y3, ?_, ?_, h5, h7, ?_, ?_, ?_, ?_, h9⟩
  · unfold Go.Proofs.Ytkpbkanbpjfadaa.p21 p31; rw [encI_len]; simp [ow]; omega
  · rw [len1, encI_len]; simp; omega
  · rw [len1, encI_len, hpl]; rfl
  · rw [encN_len, ← hl]; congr 1; omega
  · simp; omega
  · rw [show (0 : Int).toNat = 0 from rfl, Nat.zero_mul, Nat.add_zero, encI_get]; exact h.z
abbrev KS (l : List St) (k : Nat) (u : U) (od : List Na) (b : Bool) : List DV :=
  [.l (encS l), .b b, .l (encN od), .i k, .l (encI u.na), .l (encI u.fr), .l (encE u.rob), .i u.fi, .i u.ma, .l (encS l), .l (encS l)]
section
variable {l : List St} {k : Nat} {u : U} {s : St} {od : List Na} {b : Bool}
structure Fa (l : List St) (k : Nat) (u : U) (s : St) (od : List Na) (b : Bool) : Prop where
  el : ((encS l).length / 3 : Nat) = l.length
  c1 : ilt (k : Int) (l.length : Int) = true
  c2 : ige (k : Int) 0 = true
  s0 : ((encS l).getD (Int.toNat (k : Int) * (3 : Nat) + (0 : Nat)) default).toI = s.kind
  s1 : ((encS l).getD (Int.toNat (k : Int) * (3 : Nat) + (1 : Nat)) default).toI = s.n
  s2 : ((encS l).getD (Int.toNat (k : Int) * (3 : Nat) + (2 : Nat)) default).toL = encW s.ws
  wk : IntKind.wrap .i64 ((k : Int) + 1) = ((k + 1 : Nat) : Int)
  f1 : (u.alloc s.ws).1.fi = u.fi
  f2 : (u.finish s.n).1.fi = u.fi ∧ (u.finish s.n).1.ma = u.ma
  f3 : (u.squash s.n).1.fi = u.fi
  la : decide ((((encN (od ++ (u.alloc s.ws).2)).length / 6 : Nat) : Int) ≤ 1436096819952) = true
  nod : (((encN od).length / 6 : Nat) : Int) = (od.length : Int)
  lc : (((encI (u.commit s.n.toNat).2).length / 1 : Nat) : Int) = ((u.commit s.n.toNat).2.length : Int)
  gt : decide (((u.commit s.n.toNat).2.length : Int) > (od.length : Int)) = false
  le : decide (((u.commit s.n.toNat).2.length : Int) ≤ (od.length : Int)) = true
  ge : decide (((u.commit s.n.toNat).2.length : Int) ≥ 0) = true
  p3 : p100403 (encN od) (encI (u.commit s.n.toNat).2) b 0 = true
  r3 : r100403_0 (encN od) (encI (u.commit s.n.toNat).2) b 0 = 1
  r4 : r100403_1 (encN od) (encI (u.commit s.n.toNat).2) b 0 = b
  dr : (encN od).drop (Int.toNat ((u.commit s.n.toNat).2.length : Int) * 6) = encN (od.drop (u.commit s.n.toNat).2.length)
  q1 : ilt (u.squash s.n).2 0 = false
  q2 : igt (u.squash s.n).2 (od.length : Int) = false
  q3 : decide (IntKind.wrap .i64 ((od.length : Int) - (u.squash s.n).2) ≥ 0) = true
  q4 : decide (IntKind.wrap .i64 ((od.length : Int) - (u.squash s.n).2) ≤ (od.length : Int)) = true
  tk : (encN od).take (Int.toNat (IntKind.wrap .i64 ((od.length : Int) - (u.squash s.n).2)) * 6) = encN (od.take (od.length - (u.squash s.n).2.toNat))
  z1 : ((1 : Int) == 0) = false
theorem fa (hk : l[k]? = some s) (h : Kp u od) (hl : l.length < 9223372036854775808) : Fa l k u s od b := by
  have hlt : k < l.length := (List.getElem?_eq_some_iff.1 hk).1
  have hu := h.ok.ok.wf
  have hma := hu.ma
  have hod := h.len
  obtain ⟨_, hc1, hc2⟩ := h.commit_drop s.n.toNat
  obtain ⟨p1, p2, p3⟩ := p3_eq (b := b) (show (u.commit s.n.toNat).2.length < 100 by omega) hc1 hc2
  have hq := squash_range u s.n
  have hw : IntKind.wrap .i64 ((od.length : Int) - (u.squash s.n).2) = ((od.length - (u.squash s.n).2.toNat : Nat) : Int) := by
    rw [wrap_i64_of (by omega) (by omega)]; omega
  have ha := (h.ok.ok.alloc s.ws).2.1
  refine ⟨by rw [encS_len]; omega, by simp [ilt]; omega, by simp [ige], by rw [encS_get hk 0 (by decide)]; rfl, by rw [encS_get hk 1 (by decide)]; rfl, by rw [encS_get hk 2 (by decide)]; rfl,
    by rw [wrap_i64_of (by omega) (by omega)]; omega, (hu.alloc s.ws).2.1, ?_, ?_, ?_, ?_, ?_, ?_, ?_, ?_, p1, p2, p3, ?_, ?_, ?_, ?_, ?_, ?_, rfl⟩
  · unfold U.finish
    cases (decide (u.number s.n < 0) || (u.at s.n.toNat).f) <;> exact ⟨rfl, rfl⟩
  · unfold U.squash
    cases (decide (u.number s.n < 0) && (s.n != -1)) with
    | true => rfl
    | false => exact (squashN_rob _ u).2.1
  · rw [encN_len]; simp; omega
  · rw [encN_len]; congr 1; omega
  · rw [len1, encI_len]
  · simp; omega
  · simp; omega
  · simp
  · rw [Int.toNat_natCast]; exact encN_drop _ _
  · simp [ilt]; omega
  · simp [igt]; omega
  · rw [hw]; simp
  · rw [hw]; simp
  · rw [hw, Int.toNat_natCast]; exact encN_take _ _
theorem keepW (hk : l[k]? = some s) (h : Kp u od) (hb : s.ws.length < 9223372036854775808) (hl : l.length < 9223372036854775808) : W100400 (KS l k u od b) = true := by
  have hu := h.ok.ok.wf
  have f := fa (b := b) hk h hl
  have b6 : ∀ x, r21_0 (encI x) = encI x := fun _ => rfl
  have b8 : ∀ x, r23_0 (encI x) = encI x := fun _ => rfl
  obtain ⟨y1, y2, y3, t⟩ := (h.step s).tl (encS l) b
  unfold W100400
  simp only [dget, List.getD_cons_zero, List.getD_cons_succ, f.el, f.c1, f.c2, f.s0, f.s1, f.s2, g11_eq hb hu, g14_eq hu, g16_eq hu, g19_eq hu, encN_append, f.la, f.nod, f.lc, f.gt, f.le, f.ge, f.p3, f.r3, f.r4, f.dr, f.q1, f.q2, f.q3, f.q4, f.tk, f.z1, ow_true, Bool.or_self, Bool.not_false, Bool.and_self, List.nil_append]
  have hs := commit_rob s.n.toNat u
  unfold U.step odStep at t
  cases hk0 : s.kind == 0 with
  | true =>
    simp only [hk0, cond_true] at t
    simp only [cond_true, b6, b8, t.p21, t.ln, t.g5, t.g7, t.g9, List.getD_cons_zero, List.getD_cons_succ, ow_true]
    rfl
  | false =>
    simp only [hk0, cond_false] at t
    cases hk1 : s.kind == 1 with
    | true =>
      simp only [hk1, cond_true] at t
      simp only [cond_true, cond_false, b6, b8, t.p21, t.ln, t.g5, t.g7, t.g9, List.getD_cons_zero, List.getD_cons_succ, ow_true]
      rfl
    | false =>
      simp only [hk1, cond_false] at t
      cases hk2 : s.kind == 2 with
      | true =>
        simp only [hk2, cond_true] at t
        have g5 := t.g5
        rw [hs.2] at g5
        have g7 := t.g7
        rw [hs.2] at g7
        simp only [cond_true, cond_false, b6, b8, t.p21, t.ln, g5, g7, t.g9, List.getD_cons_zero, List.getD_cons_succ, ow_true]
        rfl
      | false =>
        simp only [hk2, cond_false] at t
        cases hk3 : s.kind == 3 with
        | true =>
          simp only [hk3, cond_true] at t
          simp only [cond_true, cond_false, b6, b8, t.p21, t.ln, t.g5, t.g7, t.g9, List.getD_cons_zero, List.getD_cons_succ, ow_true]
          rfl
        | false =>
          simp only [hk3, cond_false] at t
          simp only [cond_false, b6, b8, t.p21, t.ln, t.g5, t.g7, t.g9, List.getD_cons_zero, List.getD_cons_succ, ow_true]
          rfl
theorem keepC (hk : l[k]? = some s) (h : Kp u od) (hb : s.ws.length < 9223372036854775808) (hl : l.length < 9223372036854775808) : C100400 (KS l k u od b) = true := by
  have hu := h.ok.ok.wf
  have f := fa (b := b) hk h hl
  have b6 : ∀ x, r21_0 (encI x) = encI x := fun _ => rfl
  have b8 : ∀ x, r23_0 (encI x) = encI x := fun _ => rfl
  have b9 : ∀ x : Int, r25_0 x = x := fun _ => rfl
  obtain ⟨y1, y2, y3, t⟩ := (h.step s).tl (encS l) b
  unfold C100400
  simp only [dget, List.getD_cons_zero, List.getD_cons_succ, f.el, f.c1, f.s0, f.s1, f.s2, g11_eq hb hu, g14_eq hu, g16_eq hu, g19_eq hu, encN_append, f.nod, f.lc, f.gt, f.r3, f.r4, f.dr, f.q1, f.q2, f.tk, f.z1, Bool.or_self, Bool.not_false, Bool.and_self, List.nil_append]
  have hs := commit_rob s.n.toNat u
  unfold U.step odStep at t
  have f2 := f.f2.2
  cases hk0 : s.kind == 0 with
  | true =>
    simp only [hk0, cond_true] at t
    simp only [cond_true, b6, b8, b9, t.g5, t.g7, t.g9, t.n96, t.nod, t.m16, t.z, List.getD_cons_zero, List.getD_cons_succ, bne_self_eq_false, Bool.or_self, Bool.true_or, Bool.not_false, Bool.and_self, f.z1]
  | false =>
    simp only [hk0, cond_false] at t
    cases hk1 : s.kind == 1 with
    | true =>
      simp only [hk1, cond_true] at t
      have t1 := t.nod
      have t2 := t.m16
      rw [f2] at t1 t2
      simp only [cond_true, cond_false, b6, b8, b9, t.g5, t.g7, t.g9, t.n96, t1, t2, t.z, List.getD_cons_zero, List.getD_cons_succ, bne_self_eq_false, Bool.or_self, Bool.or_true, Bool.true_or, Bool.not_false, Bool.and_self, f.z1]
    | false =>
      simp only [hk1, cond_false] at t
      cases hk2 : s.kind == 2 with
      | true =>
        simp only [hk2, cond_true] at t
        have g5 := t.g5
        rw [hs.2] at g5
        have g7 := t.g7
        rw [hs.2] at g7
        have z := t.z
        rw [hs.2] at z
        simp only [cond_true, cond_false, b6, b8, b9, g5, g7, t.g9, t.n96, t.nod, t.m16, z, List.getD_cons_zero, List.getD_cons_succ, bne_self_eq_false, Bool.or_self, Bool.or_true, Bool.not_false, Bool.and_self, f.z1]
      | false =>
        simp only [hk2, cond_false] at t
        cases hk3 : s.kind == 3 with
        | true =>
          simp only [hk3, cond_true] at t
          simp only [cond_true, cond_false, b6, b8, b9, t.g5, t.g7, t.g9, t.n96, t.nod, t.m16, t.z, List.getD_cons_zero, List.getD_cons_succ, bne_self_eq_false, Bool.or_self, Bool.or_true, Bool.not_false, Bool.and_self, f.z1]
        | false =>
          simp only [hk3, cond_false] at t
          have t1 := t.nod
          rw [f.nod] at t1
          simp only [cond_false, b6, b8, b9, t.g5, t.g7, t.g9, t.n96, f.nod, t1, t.m16, t.z, List.getD_cons_zero, List.getD_cons_succ, bne_self_eq_false, Bool.or_self, Bool.or_true, Bool.not_false, Bool.and_self, f.z1]
theorem keepN (hk : l[k]? = some s) (h : Kp u od) (hb : s.ws.length < 9223372036854775808) (hl : l.length < 9223372036854775808) : N100400 (KS l k u od b) = KS l (k + 1) (u.step s) (odStep u od s) b := by
  have hu := h.ok.ok.wf
  have f := fa (b := b) hk h hl
  have b6 : ∀ x, r21_0 (encI x) = encI x := fun _ => rfl
  have b8 : ∀ x, r23_0 (encI x) = encI x := fun _ => rfl
  obtain ⟨y1, y2, y3, t⟩ := (h.step s).tl (encS l) b
  unfold N100400
  simp only [dget, List.getD_cons_zero, List.getD_cons_succ, f.s0, f.s1, f.s2, g11_eq hb hu, g14_eq hu, g16_eq hu, g19_eq hu, encN_append, f.nod, f.lc, f.r4, f.dr, f.tk, f.wk, List.nil_append]
  have hs := commit_rob s.n.toNat u
  have f1 := f.f1
  have f2 := f.f2
  have f3 := f.f3
  unfold KS
  unfold U.step odStep at t ⊢
  cases hk0 : s.kind == 0 with
  | true =>
    simp only [hk0, cond_true] at t ⊢
    simp only [b6, b8, t.g5, t.g7, t.g9, List.getD_cons_zero, List.getD_cons_succ, f1]
  | false =>
    simp only [hk0, cond_false] at t ⊢
    cases hk1 : s.kind == 1 with
    | true =>
      simp only [hk1, cond_true] at t ⊢
      simp only [b6, b8, t.g5, t.g7, t.g9, List.getD_cons_zero, List.getD_cons_succ, f2.1, f2.2]
    | false =>
      simp only [hk1, cond_false] at t ⊢
      cases hk2 : s.kind == 2 with
      | true =>
        simp only [hk2, cond_true] at t ⊢
        have g5 := t.g5
        rw [hs.2] at g5
        have g7 := t.g7
        rw [hs.2] at g7
        simp only [b6, b8, g5, g7, t.g9, List.getD_cons_zero, List.getD_cons_succ, hs.1, hs.2]
      | false =>
        simp only [hk2, cond_false] at t ⊢
        cases hk3 : s.kind == 3 with
        | true =>
          simp only [hk3, cond_true] at t ⊢
          simp only [b6, b8, t.g5, t.g7, t.g9, List.getD_cons_zero, List.getD_cons_succ, f3]
        | false =>
          simp only [hk3, cond_false] at t ⊢
          simp only [b6, b8, t.g5, t.g7, t.g9, List.getD_cons_zero, List.getD_cons_succ]
theorem keepEnd (hk : l.length ≤ k) : W100400 (KS l k u od b) = true ∧ C100400 (KS l k u od b) = false ∧ T100400 (KS l k u od b) =
    [.i 1, .b b, .l (encN od), .i k, .l (encI u.na), .l (encI u.fr), .l (encE u.rob), .i u.fi, .i u.ma, .l (encS l), .l (encS l)] := by
  have el : ((encS l).length / 3 : Nat) = l.length := by rw [encS_len]; omega
  have c1 : ilt (k : Int) (l.length : Int) = false := by simp [ilt]; omega
  refine ⟨?_, ?_, ?_⟩
  · unfold W100400
    simp only [dget, List.getD_cons_zero, List.getD_cons_succ, el, c1]
    simp [ow]
  · unfold C100400
    simp only [dget, List.getD_cons_zero, List.getD_cons_succ, el, c1, Bool.false_and]
  · unfold T100400
    simp only [dget, List.getD_cons_zero, List.getD_cons_succ, el, c1, cond_false]
theorem keepLoop (hl : l.length < 9223372036854775808) (hb : ∀ s ∈ l, s.ws.length < 9223372036854775808) : ∀ (n k : Nat) (u : U) (od : List Na), l.length - k = n → Kp u od → ∃ (k' : Nat) (u' : U) (od' : List Na), loopG W100400 C100400 N100400 T100400 (KS l k u od b) =
    some [.i 1, .b b, .l (encN od'), .i k', .l (encI u'.na), .l (encI u'.fr), .l (encE u'.rob), .i u'.fi, .i u'.ma, .l (encS l), .l (encS l)]
  | 0, k, u, od, hn, hu => by
    obtain ⟨h1, h2, h3⟩ := keepEnd (l := l) (k := k) (u := u) (od := od) (b := b) (by omega)
    exact ⟨k, u, od, by rw [loopG_last h1 h2, h3]⟩
  | n + 1, k, u, od, hn, hu => by
    obtain ⟨s, hk⟩ : ∃ s, l[k]? = some s := ⟨l[k]'(by omega), List.getElem?_eq_getElem _⟩
    have hs := hb s (List.mem_of_getElem? hk)
    obtain ⟨k', u', od', h2⟩ := keepLoop hl hb n (k + 1) (u.step s) (odStep u od s) (by omega) (hu.step s)
    exact ⟨k', u', od', by rw [loopG_next (keepW hk hu hs hl) (keepC hk hu hs hl), keepN hk hu hs hl, h2]⟩
end
theorem keeps_law {l : List St} (hl : l.length < 9223372036854775808) (hb : ∀ s ∈ l, s.ws.length < 9223372036854775808) : p4 (encS l) = true ∧ r4_0 (encS l) = true := by
  obtain ⟨k', u', od', h2⟩ := keepLoop (b := false) hl hb l.length 0 u0 [] (by omega) Kp.init
  have G : g100400 [.l (encS l), .b false, .l [], .i 0, .l (encI u0.na), .l (encI u0.fr), .l (encE u0.rob), .i u0.fi, .i u0.ma, .l (encS l), .l (encS l)] =
      [.b true, .i 1, .b false, .l (encN od'), .i k', .l (encI u'.na), .l (encI u'.fr), .l (encE u'.rob), .i u'.fi, .i u'.ma, .l (encS l), .l (encS l)] := by
    have e : ∀ (o : Option (List DV)) (a b c d f g h i j m n : DV), o = some [.i a.toI, .b b.toB, .l c.toL, .i d.toI, .l f.toL, .l g.toL, .l h.toL, .i i.toI, .i j.toI, .l m.toL, .l n.toL] →
        wrapG [.i, .b, .l, .i, .l, .l, .l, .i, .i, .l, .l] o = [.b true, .i a.toI, .b b.toB, .l c.toL, .i d.toI, .l f.toL, .l g.toL, .l h.toL, .i i.toI, .i j.toI, .l m.toL, .l n.toL] := fun o a b c d f g h i j m n ho => by rw [ho]; rfl
    exact e _ (.i 1) (.b false) (.l (encN od')) (.i k') (.l (encI u'.na)) (.l (encI u'.fr)) (.l (encE u'.rob)) (.i u'.fi) (.i u'.ma) (.l (encS l)) (.l (encS l)) h2
  have c84 : ((1 : Int) == 0) = false := rfl
  refine ⟨?_, ?_⟩
  · unfold p4
    simp only [g9_eq, dget, List.getD_cons_zero, List.getD_cons_succ, p8_eq, r8_eq, G, ow_true]
    rfl
  · unfold r4_0
    simp only [g9_eq, dget, List.getD_cons_zero, List.getD_cons_succ, r8_eq, G, c84]
    rfl
end Go.Proofs.Ytkpbkanbpjfadaa

namespace Go.Proofs.Ytkpbkanbpjfadaa
open Go Go.Sx
set_option maxRecDepth 100000
set_option maxHeartbeats 4000000

end Go.Proofs.Ytkpbkanbpjfadaa

namespace Go.Proofs.Ytkpbkanbpjfadaa
open Go Go.Sx
set_option maxRecDepth 100000
set_option maxHeartbeats 4000000
theorem ev8 : evFn Try.prog S8 2000 Try.f8 s8 = some o8 := by kernel_rfl
theorem ev23 : evFn Try.prog S23 2000 Try.f23 s23 = some o23 := by kernel_rfl
theorem ev26 : evFn Try.prog S26 2000 Try.f26 s26 = some o26 := by kernel_rfl
end Go.Proofs.Ytkpbkanbpjfadaa

namespace Go.Proofs.Ytkpbkanbpjfadaa
open Go Go.Sx
set_option maxRecDepth 100000
set_option maxHeartbeats 4000000
theorem ev16 : evFn Try.prog S16 2000 Try.f16 s16 = some o16 := by kernel_rfl
theorem ev14 : evFn Try.prog S14 2000 Try.f14 s14 = some o14 := by kernel_rfl
theorem ev28 : evFn Try.prog S28 2000 Try.f28 s28 = some o28 := by kernel_rfl
theorem ev25 : evFn Try.prog S25 2000 Try.f25 s25 = some o25 := by kernel_rfl
end Go.Proofs.Ytkpbkanbpjfadaa

namespace Go.Proofs.Ytkpbkanbpjfadaa
open Go Go.Sx
set_option maxRecDepth 100000
set_option maxHeartbeats 4000000
end Go.Proofs.Ytkpbkanbpjfadaa

namespace Go.Proofs.Ytkpbkanbpjfadaa
open Go Go.Sx
set_option maxRecDepth 100000
set_option maxHeartbeats 4000000
theorem ev4 : evFn Try.prog S4 2000 Try.f4 s4 = some o4 := by kernel_rfl
theorem ev11 : evFn Try.prog S11 2000 Try.f11 s11 = some o11 := by kernel_rfl
theorem ev9 : evFn Try.prog S9 2000 Try.f9 s9 = some o9 := by kernel_rfl
theorem ev19 : evFn Try.prog S19 2000 Try.f19 s19 = some o19 := by kernel_rfl
theorem ev21 : evFn Try.prog S21 2000 Try.f21 s21 = some o21 := by kernel_rfl
end Go.Proofs.Ytkpbkanbpjfadaa

namespace Go.Proofs.Ytkpbkanbpjfadaa
open Go Go.Shelf
def cloneRen : Go.Shelf.Ren := ⟨fun | 15 => 31 | n => n, fun | 22 => 35 | 3 => 3 | 4 => 4 | n => n, fun | n => n⟩
theorem laysClone : Go.Proofs.Lays2.n15 Try.prog cloneRen := {
  mixed := by kernel_rfl
  f15 := Try.func31.trans (congrArg some (by kernel_rfl))
  t3 := Try.underlying3
  a3 := Try.isAgg3
  z3 := Try.sizeOf3
  v3 := Try.zeroValue3
  t4 := Try.underlying4
  a4 := Try.isAgg4
  z4 := Try.sizeOf4
  v4 := Try.zeroValue4
  t22 := Try.underlying35
  a22 := Try.isAgg35
  z22 := Try.sizeOf35
  v22 := Try.zeroValue35
  i3 := by kernel_rfl }
def insRen : Go.Shelf.Ren := ⟨fun | 21 => 30 | 27 => 32 | 28 => 33 | 35 => 34 | 39 => 35 | n => n, fun | 22 => 35 | 3 => 3 | 4 => 4 | 0 => 0 | n => n, fun | n => n⟩
theorem laysIns : Go.Proofs.Lays2.n21 Try.prog insRen := {
  mixed := by kernel_rfl
  f21 := Try.func30.trans (congrArg some (by kernel_rfl))
  f27 := Try.func32.trans (congrArg some (by kernel_rfl))
  f28 := Try.func33.trans (congrArg some (by kernel_rfl))
  f35 := Try.func34.trans (congrArg some (by kernel_rfl))
  f39 := Try.func35.trans (congrArg some (by kernel_rfl))
  t0 := Try.underlying0
  a0 := Try.isAgg0
  z0 := Try.sizeOf0
  v0 := Try.zeroValue0
  t3 := Try.underlying3
  a3 := Try.isAgg3
  z3 := Try.sizeOf3
  v3 := Try.zeroValue3
  t4 := Try.underlying4
  a4 := Try.isAgg4
  z4 := Try.sizeOf4
  v4 := Try.zeroValue4
  t22 := Try.underlying35
  a22 := Try.isAgg35
  z22 := Try.sizeOf35
  v22 := Try.zeroValue35
  i3 := by kernel_rfl }
end Go.Proofs.Ytkpbkanbpjfadaa

namespace Go.Proofs.Ytkpbkanbpjfadaa
open Go Go.Sx Go.RowKit

abbrev iv (d : DV) : Value := .int .i64 d.toI
theorem cell_of {w : World} {g : Nat} {cur : Array Value} {e : TypeId} {z : Nat × Nat} (h : w.heap[g]? = some (.cells cur e z)) (i : Nat) : w.cell? ⟨g, i, none⟩ = cur[i]? := by
  simp [World.cell?, h]
theorem own_row {E : Env} {w' : World} {base n : Nat} {v' : Value} {xs : List DV} (h : w'.ownsRow base 3 1 v' n (xs.map iv)) : ∃ r : Sx.Loc, v' = r.slice ∧ VRel E w' r true [.int .i64] xs ∧ (r.nil = true ∨ base ≤ r.blk) := by
  obtain ⟨hl, h⟩ := h
  rw [List.length_map, Nat.mul_one] at hl
  rcases h with ⟨rfl, h0⟩ | ⟨g, cap, cur, rfl, hb, hg, hn, hm, hs, ht⟩
  · refine ⟨⟨0, 0, true, 0, 0, none⟩, rfl, ⟨fun _ => ⟨rfl, rfl⟩, fun e => (by cases e), (by decide), (by show xs.length = 0 * 1; omega), Nat.le_refl _, fun i hi => by omega, fun _ e => (by cases e), fun _ e => (by cases e)⟩, .inl rfl⟩
  · have hlt : g < w'.heap.size := by
      rcases Nat.lt_or_ge g w'.heap.size with h | h
      · exact h
      · rw [Array.getElem?_eq_none h] at hg; cases hg
    refine ⟨⟨g, 0, false, n, cap, none⟩, rfl, ⟨fun e => (by cases e), fun _ => hlt, (by decide), (by show xs.length = n * 1; omega), hn, fun i hi => ?_, fun _ _ i hi => ?_, fun _ _ => ⟨hm, fun o => by simp [World.frozen?, hg]⟩⟩, .inr hb⟩
    · refine ⟨iv (xs.getD i default), ?_, ?_⟩
      · rw [cell_of hg, Nat.zero_add]
        have h1 : (cur.toList.take (n * 1))[i]? = cur[i]? := by rw [List.getElem?_take, if_pos (by omega)]; simp
        rw [← h1, ht, List.getElem?_map, List.getElem?_eq_getElem hi]
        simp [List.getD_eq_getElem?_getD, List.getElem?_eq_getElem hi]
      · have : i % [LT.int .i64].length = 0 := Nat.mod_one i
        rw [this]
        exact .int .i64 _
    · have hi : i < cap * 1 := hi
      refine ⟨?_, by simp [World.frozen?, hg]⟩
      rw [cell_of hg, Nat.zero_add, Array.getElem?_eq_getElem (by omega)]
      rfl
theorem row_cells {E : Env} {w : World} {r : Sx.Loc} {o : Bool} {xs : List DV} (h : VRel E w r o [.int .i64] xs) : xs.length = r.len ∧ ∀ i, i < xs.length → w.cell? ⟨r.blk, r.off + i, none⟩ = some (iv (xs.getD i default)) := by
  refine ⟨by have := h.len; simpa using this, fun i hi => ?_⟩
  obtain ⟨v, h1, h2⟩ := h.cell i hi
  have : i % [LT.int .i64].length = 0 := Nat.mod_one i
  rw [this] at h2
  rw [h1]
  cases h2
  rfl

theorem k31 : FnOK Try.prog (fun _ => True) 0 31 s31 g31 := by
  intro ds ρ w _ hlen hneed _ _ _ hrel
  have hv : VRel (callEnv s31.hinI ρ w) w (ρ 0) false [.int .i64] (dget ds 0).toL := hrel.blk 0 _ rfl
  have hlim : (dget ds 0).toL.length ≤ 17592186044416 := of_decide_eq_true (hneed rfl)
  show Calls Try.prog 31 #[(ρ 0).slice] w _
  generalize hxs : (dget ds 0).toL = xs at *
  obtain ⟨hl, hc⟩ := row_cells hv
  have out : ∀ (v' : Value) (w' : World), w'.ownsRow w.heap.size 3 1 v' xs.length (xs.map iv) → Below w.heap.size w w' → ∃ v ρ', Ending.returned v' = .returned v ∧ CallOut s31 (g31 ds) ρ w v ρ' w' := by
    intro v' w' ho hb
    obtain ⟨r, hr, hvr, hbl⟩ := own_row (E := callEnv s31.hinI ρ w) ho
    refine ⟨v', fun j => if j = 1 then r else ρ j, rfl, ?_, V.good_s.2 (V1.good_one.2 (show True from trivial)), ⟨fun j bk hj => ?_, fun j j' bk bk' hj _ hj' hne _ _ => ?_⟩, fun j bk hj => ?_, (Fr.of_below hb), fun j hj _ => ?_⟩
    · rw [hr]; rfl
    · match j, hj with
      | 0, hj => cases hj
      | 1, hj =>
        cases hj
        show VRel _ w' r true [.int .i64] (r31_0 (dget ds 0).toL)
        rw [hxs]
        exact hvr
      | j + 2, hj => cases j <;> cases hj
    · match j, j', hj, hj' with
      | 0, _, hj, _ => cases hj
      | 1, 0, _, hj => cases hj
      | 1, 1, _, _ => exact absurd rfl hne
      | 1, j + 2, _, hj => cases j <;> cases hj
      | j + 2, _, hj, _ => cases j <;> cases hj
    · match j, hj with
      | 0, hj => cases hj
      | 1, hj =>
        rcases hbl with h | h
        · exact .inl h
        · exact .inr (.inl h)
      | j + 2, hj => cases j <;> cases hj
    · match j, hj with
      | 0, hj => cases hj
      | j + 1, hj => cases j <;> cases hj
  cases hn : (ρ 0).nil with
  | true =>
    have h0 := hv.nil hn
    have hx0 : xs = [] := List.eq_nil_of_length_eq_zero (by omega)
    cases hraw : (ρ 0).raw with
    | none =>
      have hs : (ρ 0).slice = .slice none 0 0 := by unfold Loc.slice; rw [hn, h0.1, h0.2, hraw]; rfl
      rw [hs]
      refine (Any.slices_Clone_int_nil laysClone 0 0 w).mono fun e w' ⟨he, hw⟩ => ?_
      subst he; subst hw
      refine out _ _ ⟨by simp, .inl ⟨rfl, by rw [hx0]; rfl⟩⟩ (Below.refl _ _)
    | some a =>
      have hs : (ρ 0).slice = .slice (some a) 0 0 := by unfold Loc.slice; rw [hn, h0.1, h0.2, hraw]; rfl
      rw [hs]
      refine (Any.slices_Clone_int_zero laysClone a 0 w).mono fun e w' ⟨v', he, ho, _, hb⟩ => ?_
      subst he
      refine out _ _ ?_ hb
      rw [hx0]; exact ho
  | false =>
    have hs : (ρ 0).slice = .slice (some ⟨(ρ 0).blk, (ρ 0).off, none⟩) (ρ 0).len (ρ 0).cap := by unfold Loc.slice; rw [hn]; rfl
    rw [hs]
    cases h0 : (ρ 0).len with
    | zero =>
      refine (Any.slices_Clone_int_zero laysClone ⟨(ρ 0).blk, (ρ 0).off, none⟩ (ρ 0).cap w).mono fun e w' ⟨v', he, ho, _, hb⟩ => ?_
      subst he
      have hx0 : xs = [] := List.eq_nil_of_length_eq_zero (by omega)
      refine out _ _ ?_ hb
      rw [hx0]; exact ho
    | succ n =>
      have hzl : (xs.map DV.toI).length = n + 1 := by rw [List.length_map, hl, h0]
      refine (Any.slices_Clone_int laysClone (ρ 0).blk (ρ 0).off (n + 1) (ρ 0).cap (xs.map DV.toI) w (by omega) (by omega) (fun j hj => ?_)).mono fun e w' ⟨v', he, ho, _, hb⟩ => ?_
      · rw [hc j (by simpa using hj)]
        have hj' : j < xs.length := by simpa using hj
        simp [List.getD_eq_getElem?_getD, List.getElem?_eq_getElem hj']
      · subst he
        refine out _ _ ?_ hb
        have e1 : ((xs.map DV.toI).take (n + 1)).map (Value.int .i64) = xs.map iv := by
          rw [List.take_of_length_le (by omega), List.map_map]; rfl
        rw [e1] at ho
        rw [show xs.length = n + 1 from by omega]
        exact ho
end Go.Proofs.Ytkpbkanbpjfadaa

namespace Go.Proofs.Ytkpbkanbpjfadaa
open Go Go.Sx Go.RowKit

theorem shape_of {w : World} {b o : Nat} (h : (w.cell? ⟨b, o, none⟩).isSome = true) : ∃ e k, w.shape? b = some (e, k) ∧ o < k := by
  unfold World.cell? at h
  cases hb : w.heap[b]? with
  | none => simp [hb] at h
  | some x =>
    cases x with
    | cells c e z =>
      refine ⟨e, c.size, by simp [World.shape?, hb], ?_⟩
      simp [hb] at h
      exact h
    | _ => simp [hb] at h

theorem mk_row {E : Env} {w' : World} {b o c : Nat} {y : DV} {xs : List DV} (hlt : b < w'.heap.size) (h0 : w'.cell? ⟨b, o, none⟩ = some (iv y)) (h1 : ∀ k, k < xs.length → w'.cell? ⟨b, o + 1 + k, none⟩ = some (iv (xs.getD k default)))
    (hc : xs.length + 1 ≤ c) (hm : c ≤ 9223372036854775807) (hr : ∀ i, i < c → (w'.cell? ⟨b, o + i, none⟩).isSome = true) (hf : ∀ i, w'.frozen? ⟨b, i, none⟩ = false) :
    VRel E w' ⟨b, o, false, xs.length + 1, c, none⟩ true [.int .i64] ([y] ++ xs) := by
  refine ⟨fun e => (by cases e), fun _ => hlt, by decide, by show ([y] ++ xs).length = (xs.length + 1) * 1; simp, hc, fun i hi => ?_, fun _ _ i hi => ⟨hr i (by simpa using hi), hf _⟩, fun _ _ => ⟨hm, hf⟩⟩
  have hmod : i % [LT.int .i64].length = 0 := Nat.mod_one i
  rw [hmod]
  refine ⟨iv (([y] ++ xs).getD i default), ?_, .int .i64 _⟩
  cases i with
  | zero => exact h0
  | succ k =>
    have hk : k < xs.length := by simpa using hi
    show w'.cell? ⟨b, o + (k + 1), none⟩ = _
    rw [show o + (k + 1) = o + 1 + k from by omega, h1 k hk]
    rfl

theorem fr_set {W : Nat → Prop} {w : World} {b o : Nat} {vs : List Value} (hb : W b) : Fr W w (w.setCells b o vs) :=
  ⟨(setCells_os b vs o w).1, (setCells_os b vs o w).2.1, (setCells_os b vs o w).2.2, by rw [setCells_size]; exact Nat.le_refl _, fun k _ hW => setCells_block b vs o w k fun e => hW (e ▸ hb)⟩
theorem fr_drew {W : Nat → Prop} {w : World} : Fr W w w.drew := ⟨rfl, rfl, rfl, Nat.le_refl _, fun _ _ _ => rfl⟩

theorem k30 : FnOK Try.prog (fun _ => True) 0 30 s30 g30 := by
  intro ds ρ w _ hlen hneed _ _ _ hrel
  have hv : VRel (callEnv s30.hinI ρ w) w (ρ 0) true [.int .i64] (dget ds 0).toL := hrel.blk 0 _ rfl
  have hu : VRel (callEnv s30.hinI ρ w) w (ρ 1) true [.int .i64] (dget ds 2).toL := hrel.blk 1 _ rfl
  have hp : p30 (dget ds 0).toL (dget ds 1).toI (dget ds 2).toL = true := hneed rfl
  unfold p30 at hp
  simp only [Bool.and_eq_true, decide_eq_true_eq] at hp
  obtain ⟨⟨hlim, hx1⟩, hy1⟩ := hp
  show Calls Try.prog 30 #[(ρ 0).slice, .int .i64 (dget ds 1).toI, (ρ 1).slice] w _
  rw [hx1]
  have hres : (g30 ds) = [.b true, .l ((dget ds 2).toL ++ (dget ds 0).toL)] := by
    show [DV.b (p30 (dget ds 0).toL (dget ds 1).toI (dget ds 2).toL), DV.l (r30_0 (dget ds 0).toL (dget ds 1).toI (dget ds 2).toL)] = _
    rw [show p30 (dget ds 0).toL (dget ds 1).toI (dget ds 2).toL = true from hneed rfl]
    rfl
  rw [hres]
  generalize hxs : (dget ds 0).toL = xs at *
  generalize hys : (dget ds 2).toL = ys at *
  obtain ⟨y, rfl⟩ : ∃ y, ys = [y] := by
    match ys, hy1 with
    | [y], _ => exact ⟨y, rfl⟩
  obtain ⟨hl, hc⟩ := row_cells hv
  obtain ⟨hl1, hc1⟩ := row_cells hu
  have hn1 : (ρ 1).nil = false := by
    cases h : (ρ 1).nil with
    | false => rfl
    | true => have := (hu.nil h).1; rw [this] at hl1; simp at hl1
  have hs1 : (ρ 1).slice = .slice (some ⟨(ρ 1).blk, (ρ 1).off, none⟩) 1 (ρ 1).cap := by
    unfold Loc.slice
    have : (ρ 1).len = 1 := by simpa using hl1.symm
    rw [hn1, this]; rfl
  have hW0 : (ρ 0).nil = false → (callEnv s30.hinI ρ w).W (ρ 0).blk := fun h => ⟨0, .v true [.int .i64] (.r 0), rfl, rfl, h, rfl⟩
  have out : ∀ (r : Sx.Loc) (w' : World), VRel (callEnv s30.hinI ρ w) w' r true [.int .i64] ([y] ++ xs) → (w.heap.size ≤ r.blk ∨ (callEnv s30.hinI ρ w).W r.blk) → Fr (callEnv s30.hinI ρ w).W w w' →
      ∃ v ρ', Ending.returned r.slice = .returned v ∧ CallOut s30 [.b true, .l ([y] ++ xs)] ρ w v ρ' w' := by
    intro r w' hvr hbl hfr
    refine ⟨r.slice, fun j => if j = 2 then r else ρ j, rfl, rfl, V.good_s.2 (V1.good_one.2 (show True from trivial)), ⟨fun j bk hj => ?_, fun j j' bk bk' hj _ hj' hne _ _ => ?_⟩, fun j bk hj => ?_, hfr, fun j hj _ => ?_⟩
    · match j, hj with
      | 0, hj => cases hj
      | 1, hj => cases hj
      | 2, hj => cases hj; exact hvr
      | j + 3, hj => cases j <;> cases hj
    · match j, j', hj, hj' with
      | 0, _, hj, _ => cases hj
      | 1, _, hj, _ => cases hj
      | 2, 0, _, hj => cases hj
      | 2, 1, _, hj => cases hj
      | 2, 2, _, _ => exact absurd rfl hne
      | 2, j + 3, _, hj => cases j <;> cases hj
      | j + 3, _, hj, _ => cases j <;> cases hj
    · match j, hj with
      | 0, hj => cases hj
      | 1, hj => cases hj
      | 2, hj =>
        rcases hbl with h | h
        · exact .inr (.inl h)
        · exact .inr (.inr (.inl h))
      | j + 3, hj => cases j <;> cases hj
    · match j, hj with
      | 0, hj => cases hj
      | 1, hj => cases hj
      | j + 2, hj => cases j <;> cases hj
  have hvs : ∀ (j : Nat) (v : Value), [iv y][j]? = some v → w.cell? ⟨(ρ 1).blk, (ρ 1).off + j, none⟩ = some v := fun j v hj => by
    cases j with
    | zero =>
      simp at hj
      subst hj
      exact hc1 0 (by simp)
    | succ j => simp at hj
  have h1v : ∀ v ∈ [iv y], v.oneCell' = true := fun v hv => by simp at hv; subst hv; rfl
  have hcs : ∀ (j : Nat) (v : Value), (xs.map iv)[j]? = some v → w.cell? ⟨(ρ 0).blk, (ρ 0).off + j, none⟩ = some v := fun j v hj => by
    rw [List.getElem?_map] at hj
    obtain ⟨d, hd, rfl⟩ := Option.map_eq_some_iff.1 hj
    have hjl := (List.getElem?_eq_some_iff.1 hd).1
    rw [hc j hjl]
    simp [List.getD_eq_getElem?_getD, hd]
  have h1c : ∀ v ∈ xs.map iv, v.oneCell' = true := fun v hv => by
    obtain ⟨d, _, rfl⟩ := List.mem_map.1 hv
    rfl
  have hgrow : ∀ (G : Nat) (tl : Array Value) (w' : World), xs.length + 1 ≤ G → G ≤ 9223372036854775807 → tl.size + xs.length + 1 = G → w'.heap[w.heap.size]? = some (.cells (([iv y] ++ xs.map iv).toArray ++ tl) 3 (0, 0)) → Fr (fun _ => False) w w' →
      ∃ v ρ', Ending.returned (Value.slice (some ⟨w.heap.size, 0, none⟩) (xs.length + 1) G) = .returned v ∧ CallOut s30 [.b true, .l ([y] ++ xs)] ρ w v ρ' w' := by
    intro G tl w' h1 h2 h3 h4 h5
    have hlt : w.heap.size < w'.heap.size := by
      rcases Nat.lt_or_ge w.heap.size w'.heap.size with h | h
      · exact h
      · rw [Array.getElem?_eq_none h] at h4; cases h4
    have hcell : ∀ i, w'.cell? ⟨w.heap.size, i, none⟩ = (([iv y] ++ xs.map iv).toArray ++ tl)[i]? := cell_of h4
    refine out ⟨w.heap.size, 0, false, xs.length + 1, G, none⟩ w' (mk_row hlt ?_ (fun k hk => ?_) h1 h2 (fun i hi => ?_) (fun i => by simp [World.frozen?, h4])) (.inl (Nat.le_refl _)) (h5.weaken fun b hb => hb.elim)
    · rw [hcell, Array.getElem?_append_left (by simp)]; simp
    · rw [hcell, Array.getElem?_append_left (by simp; omega)]
      simp [Nat.add_comm 1 k, List.getD_eq_getElem?_getD, hk]
    · rw [hcell, Array.getElem?_eq_getElem (by simp; omega)]
      rfl
  have hcl : (xs.map iv).length = (ρ 0).len := by rw [List.length_map, hl]
  by_cases hroom : (ρ 0).len + 1 ≤ (ρ 0).cap
  · have hn0 : (ρ 0).nil = false := by
      cases h : (ρ 0).nil with
      | false => rfl
      | true => have := hv.nil h; omega
    have hs0 : (ρ 0).slice = .slice (some ⟨(ρ 0).blk, (ρ 0).off, none⟩) (ρ 0).len (ρ 0).cap := by unfold Loc.slice; rw [hn0]; rfl
    rw [hs0, hs1]
    have hown : ∀ i, i < (ρ 0).cap → (w.cell? ⟨(ρ 0).blk, (ρ 0).off + i, none⟩).isSome = true ∧ w.frozen? ⟨(ρ 0).blk, (ρ 0).off + i, none⟩ = false := fun i hi => hv.own rfl hn0 i (by simpa using hi)
    obtain ⟨hm, hfz⟩ := hv.fz rfl hn0
    have hlt := hv.lt hn0
    by_cases h0 : (ρ 0).len = 0
    · have hx0 : xs = [] := List.eq_nil_of_length_eq_zero (by omega)
      have hrun := Any2.slices_Insert_int_end_room laysIns (ρ 0).blk (ρ 0).off (ρ 0).len (ρ 0).cap (ρ 1).blk (ρ 1).off 1 (ρ 1).cap [iv y] w (by decide) hroom hm rfl
        (fun j hj => by have := (hown ((ρ 0).len + j) (by omega)).1; rwa [← Nat.add_assoc] at this) (fun j hj => hfz _) hvs h1v
      have hz : ((ρ 0).len : Int) = 0 := by omega
      rw [hz] at hrun
      refine hrun.mono fun e w' ⟨he, hw⟩ => ?_
      subst he; subst hw
      have hsl : Value.slice (some ⟨(ρ 0).blk, (ρ 0).off, none⟩) ((ρ 0).len + 1) (ρ 0).cap = Sx.Loc.slice ⟨(ρ 0).blk, (ρ 0).off, false, xs.length + 1, (ρ 0).cap, none⟩ := by rw [hl]; rfl
      rw [hsl, h0, Nat.add_zero]
      have hin := World.cell?_setCells_in (ρ 0).blk [iv y] (ρ 0).off w (fun j hj => (hown j (by simp at hj; omega)).1) 0 (by simp)
      refine out _ _ (mk_row (by rw [setCells_size]; exact hlt) (by simpa using hin) (fun k hk => by rw [hx0] at hk; simp at hk) (by omega) hm (fun i hi => ?_) (fun i => by rw [World.frozen?_setCells]; exact hfz _)) (.inr (hW0 hn0)) (fr_set (hW0 hn0))
      exact isSome_setCells _ _ _ _ (fun t ht => (hown t (by simp at ht; omega)).1) _ (hown i hi).1
    · obtain ⟨tB, kB, hsb, hkb⟩ := shape_of (hown 0 (by omega)).1
      have hc10 := hc1 0 (by simp)
      obtain ⟨tA, kA, hsa, _⟩ := shape_of (w := w) (b := (ρ 1).blk) (o := (ρ 1).off + 0) (by rw [hc10]; rfl)
      have hap : (ρ 1).blk ≠ (ρ 0).blk := hrel.apart 1 0 (.v true [.int .i64] (.r 2)) (.v true [.int .i64] (.r 0)) rfl rfl rfl (by decide) hn1 hn0
      have hfz1 := (hu.fz rfl hn1).2
      have hrun := Any2.slices_Insert_int_shift laysIns (ρ 0).blk (ρ 0).off (ρ 0).len (ρ 0).cap 0 (ρ 1).blk (ρ 1).off 1 (ρ 1).cap (xs.map iv) [iv y] w (by omega) (by decide) hroom hm hap hcl rfl hcs
        (fun j hj => (hown j (by omega)).1) (fun j hj => hfz _) hvs h1c h1v tA tB kA kB hsa hsb (by omega) (hfz1 _) (hfz1 _)
      refine hrun.mono fun e w' ⟨he, hw⟩ => ?_
      subst he; subst hw
      have hsl : Value.slice (some ⟨(ρ 0).blk, (ρ 0).off, none⟩) ((ρ 0).len + 1) (ρ 0).cap = Sx.Loc.slice ⟨(ρ 0).blk, (ρ 0).off, false, xs.length + 1, (ρ 0).cap, none⟩ := by rw [hl]; rfl
      rw [hsl, List.drop_zero, Nat.add_zero, show (ρ 0).off + (0 + 1) = (ρ 0).off + 1 from rfl]
      have hex1 : ∀ j, j < (xs.map iv).length → (w.drew.cell? ⟨(ρ 0).blk, (ρ 0).off + 1 + j, none⟩).isSome = true := fun j hj => by
        have := (hown (1 + j) (by omega)).1
        rw [← Nat.add_assoc] at this
        exact this
      have hsome1 : ∀ i, i < (ρ 0).cap → ((w.drew.setCells (ρ 0).blk ((ρ 0).off + 1) (xs.map iv)).cell? ⟨(ρ 0).blk, (ρ 0).off + i, none⟩).isSome = true := fun i hi =>
        isSome_setCells _ _ _ _ hex1 _ (hown i hi).1
      have hin1 := World.cell?_setCells_in (ρ 0).blk (xs.map iv) ((ρ 0).off + 1) w.drew hex1
      have hin2 := World.cell?_setCells_in (ρ 0).blk [iv y] (ρ 0).off (w.drew.setCells (ρ 0).blk ((ρ 0).off + 1) (xs.map iv)) (fun j hj => hsome1 j (by simp at hj; omega)) 0 (by simp)
      refine out _ _ (mk_row (by rw [setCells_size, setCells_size]; exact hlt) (by simpa using hin2) (fun k hk => ?_) (by omega) hm (fun i hi => ?_) (fun i => by rw [World.frozen?_setCells, World.frozen?_setCells]; exact hfz _)) (.inr (hW0 hn0)) ((fr_drew.trans (fr_set (hW0 hn0))).trans (fr_set (hW0 hn0)))
      · rw [World.cell?_setCells_out _ _ _ _ _ (fun _ _ => .inr (by simp)), hin1 k (by simpa using hk)]
        simp [List.getD_eq_getElem?_getD, hk]
      · exact isSome_setCells _ _ _ _ (fun t ht => hsome1 t (by simp at ht; omega)) _ (hsome1 i hi)
  · have hcap : (ρ 0).len ≤ (ρ 0).cap := hv.cap
    have hge := grownCap_ge w ((ρ 0).len + 1) (ρ 0).cap 3
    have hle := grownCap_le_maxLen w ((ρ 0).len + 1) (ρ 0).cap 3 (by unfold maxLen; omega)
    unfold maxLen at hle
    by_cases h0 : (ρ 0).len = 0
    · have hx0 : xs = [] := List.eq_nil_of_length_eq_zero (by omega)
      have hs0 : (ρ 0).slice = .slice (if (ρ 0).nil then (ρ 0).raw else some ⟨(ρ 0).blk, (ρ 0).off, none⟩) (ρ 0).len (ρ 0).cap := by
        unfold Loc.slice
        cases (ρ 0).nil <;> rfl
      rw [hs0, hs1]
      have hrun := Any2.slices_Insert_int_end_grow laysIns (if (ρ 0).nil then (ρ 0).raw else some ⟨(ρ 0).blk, (ρ 0).off, none⟩) (ρ 0).len (ρ 0).cap (ρ 1).blk (ρ 1).off 1 (ρ 1).cap [] [iv y] w (by decide) hcap (by omega) (by omega) h0.symm rfl (fun _ => h0)
        (fun a _ j v hj => by simp at hj) hvs h1v
      have hz : ((ρ 0).len : Int) = 0 := by omega
      rw [hz] at hrun
      refine hrun.mono fun e w' ⟨he, hw⟩ => ?_
      subst he; subst hw
      rw [show insRen.t 3 = 3 from rfl]
      have hll : (ρ 0).len + 1 = xs.length + 1 := by omega
      rw [hll] at hge hle ⊢
      generalize hG : grownCap w (xs.length + 1) (ρ 0).cap 3 = G at *
      refine hgrow G (Builtin.zeroCells (Value.int .i64 0).cells (G - (xs.length + 1))) _ hge hle (by rw [size_zeroCells]; show (G - (xs.length + 1)) * 1 + xs.length + 1 = G; omega) ?_ ⟨rfl, rfl, rfl, by simp, fun k hk _ => Below.heap_alloc w.drew _ _ hk⟩
      rw [hx0]
      show (w.heap.push _)[w.heap.size]? = _
      simp
    · have hn0 : (ρ 0).nil = false := by
        cases h : (ρ 0).nil with
        | false => rfl
        | true => have := hv.nil h; omega
      have hs0 : (ρ 0).slice = .slice (some ⟨(ρ 0).blk, (ρ 0).off, none⟩) (ρ 0).len (ρ 0).cap := by unfold Loc.slice; rw [hn0]; rfl
      rw [hs0, hs1]
      have hrun := Any2.slices_Insert_int_grow laysIns (ρ 0).blk (ρ 0).off (ρ 0).len (ρ 0).cap 0 (ρ 1).blk (ρ 1).off 1 (ρ 1).cap (xs.map iv) [iv y] w (by omega) (by decide) hcap (by omega) (by omega) hcl rfl hcs hvs h1c h1v
      refine hrun.mono fun e w' ⟨he, hw⟩ => ?_
      subst he; subst hw
      rw [show insRen.t 3 = 3 from rfl]
      have hll : (ρ 0).len + 1 = xs.length + 1 := by omega
      rw [hll] at hge hle ⊢
      generalize hG : grownCap w (xs.length + 1) (ρ 0).cap 3 = G at *
      rw [List.drop_zero]
      generalize hROW : (((xs.map iv).take 0).toArray ++ Builtin.zeroCells (Value.int .i64 0).cells (xs.length + 1 - 0) ++ Builtin.zeroCells (Value.int .i64 0).cells (G - (xs.length + 1))) = ROW
      have hRs : ROW.size = G := by
        rw [← hROW, Array.size_append, Array.size_append, size_zeroCells, size_zeroCells]
        show 0 + (xs.length + 1 - 0) * 1 + (G - (xs.length + 1)) * 1 = G
        omega
      have hex0 : ∀ i, i < G → ((w.alloc (.cells ROW 3)).drew.cell? ⟨w.heap.size, i, none⟩).isSome = true := fun i hi => by
        show ((w.alloc (.cells ROW 3)).cell? ⟨w.heap.size, i, none⟩).isSome = true
        rw [World.cell?_alloc_new, Array.getElem?_eq_getElem (by omega)]
        rfl
      have hin1 := World.cell?_setCells_in w.heap.size [iv y] 0 (w.alloc (.cells ROW 3)).drew (fun j hj => by rw [Nat.zero_add]; exact hex0 j (by simp at hj; omega)) 0 (by simp)
      have hex1 : ∀ i, i < G → (((w.alloc (.cells ROW 3)).drew.setCells w.heap.size 0 [iv y]).drew.cell? ⟨w.heap.size, i, none⟩).isSome = true := fun i hi =>
        isSome_setCells w.heap.size [iv y] 0 (w.alloc (.cells ROW 3)).drew (fun t ht => by rw [Nat.zero_add]; exact hex0 t (by simp at ht; omega)) i (hex0 i hi)
      have hexs : ∀ j, j < (xs.map iv).length → (((w.alloc (.cells ROW 3)).drew.setCells w.heap.size 0 [iv y]).drew.cell? ⟨w.heap.size, 0 + 1 + j, none⟩).isSome = true := fun j hj => hex1 _ (by simp at hj; omega)
      have hin2 := World.cell?_setCells_in w.heap.size (xs.map iv) (0 + 1) ((w.alloc (.cells ROW 3)).drew.setCells w.heap.size 0 [iv y]).drew hexs
      have hfr : Fr (fun b => b = w.heap.size) w ((((w.alloc (.cells ROW 3)).drew.setCells w.heap.size 0 [iv y]).drew).setCells w.heap.size (0 + 1) (xs.map iv)) := by
        refine Fr.trans (Fr.trans (Fr.trans (Fr.trans (b := w.alloc (.cells ROW 3)) ?_ fr_drew) (fr_set rfl)) fr_drew) (fr_set rfl)
        exact ⟨rfl, rfl, rfl, by simp, fun k hk _ => Below.heap_alloc w _ _ hk⟩
      refine out ⟨w.heap.size, 0, false, xs.length + 1, G, none⟩ _ (mk_row ?_ ?_ (fun k hk => ?_) hge hle (fun i hi => ?_) (fun i => ?_)) (.inl (Nat.le_refl _)) ⟨hfr.os, hfr.tape, hfr.output, hfr.size, fun b hb _ => hfr.block b hb (by omega)⟩
      · rw [setCells_size]
        show w.heap.size < ((w.alloc (.cells ROW 3)).drew.setCells w.heap.size 0 [iv y]).heap.size
        rw [setCells_size]
        show w.heap.size < (w.alloc (.cells ROW 3)).heap.size
        simp
      · rw [World.cell?_setCells_out _ _ _ _ _ (fun _ _ => .inl (by simp))]
        simpa using hin1
      · rw [hin2 k (by simpa using hk)]
        simp [List.getD_eq_getElem?_getD, hk]
      · exact isSome_setCells _ _ _ _ hexs _ (hex1 (0 + i) (by omega))
      · rw [World.frozen?_setCells]
        show ((w.alloc (.cells ROW 3)).drew.setCells w.heap.size 0 [iv y]).frozen? _ = false
        rw [World.frozen?_setCells]
        exact World.frozen?_alloc_new w _ _ _
end Go.Proofs.Ytkpbkanbpjfadaa

namespace Go.Proofs.Ytkpbkanbpjfadaa
open Go Go.Sx
set_option maxRecDepth 100000
set_option maxHeartbeats 4000000
def WI (_ : World) : Prop := True
def gK : Nat := 0
theorem wiStable : Stable WI gK := fun _ _ _ _ h => h


noncomputable def FE : FEnv := fun f => match f with
  | 26 => g26
  | 28 => g28
  | 25 => g25
  | 23 => g23
  | 9 => g9
  | 14 => g14
  | 101600 => g101600
  | 16 => g16
  | 101100 => g101100
  | 101102 => g101102
  | 11 => g11
  | 31 => g31
  | 30 => g30
  | 21 => g21
  | 101900 => g101900
  | 19 => g19
  | 8 => g8
  | 100700 => g100700
  | 100702 => g100702
  | 7 => g7
  | 101002 => g101002
  | 101000 => g101000
  | 10 => g10
  | 102700 => g102700
  | 27 => g27
  | 101200 => g101200
  | 12 => g12
  | 15 => g15
  | 101700 => g101700
  | 17 => g17
  | 102000 => g102000
  | 20 => g20
  | 100300 => g100300
  | 100400 => g100400
  | 100409 => g100409
  | 100407 => g100407
  | 100405 => g100405
  | 100403 => g100403
  | 4 => g4
  | _ => fun _ => []



theorem k26 : FnOK Try.prog WI gK 26 s26 g26 :=
  fn_ok (F := FE) wiStable (⟨fun _ _ h => (by cases h), (fun _ _ h => (by cases h))⟩) Try.func26 ev26 (by kernel_rfl) (fun _ h => (by cases h)) fun ds h hp => match ds, h, hp with
    | [d0, d1, d2, d3, d4, d5], _, _ => ⟨by kernel_rfl, nrms_teq (by kernel_rfl) (by kernel_rfl) (by kernel_rfl)⟩
theorem k28 : FnOK Try.prog WI gK 28 s28 g28 :=
  fn_ok (F := FE) wiStable (⟨fun _ _ h => (by cases h), (fun _ _ h => (by cases h))⟩) Try.func28 ev28 (by kernel_rfl) (fun _ h => (by cases h)) fun ds h hp => match ds, h, hp with
    | [d0, d1, d2, d3, d4, d5], _, _ => ⟨by kernel_rfl, nrms_teq (by kernel_rfl) (by kernel_rfl) (by kernel_rfl)⟩
theorem k25 : FnOK Try.prog WI gK 25 s25 g25 :=
  fn_ok (F := FE) wiStable (⟨fun _ _ h => (by cases h), (fun _ _ h => (by cases h))⟩) Try.func25 ev25 (by kernel_rfl) (fun _ h => (by cases h)) fun ds h hp => match ds, h, hp with
    | [d0, d1, d2, d3, d4], _, _ => ⟨by kernel_rfl, nrms_teq (by kernel_rfl) (by kernel_rfl) (by kernel_rfl)⟩
theorem k23 : FnOK Try.prog WI gK 23 s23 g23 :=
  fn_ok (F := FE) wiStable (⟨fun _ _ h => (by cases h), (fun _ _ h => (by cases h))⟩) Try.func23 ev23 (by kernel_rfl) (fun _ h => (by cases h)) fun ds h hp => match ds, h, hp with
    | [d0, d1, d2, d3, d4], _, _ => ⟨by kernel_rfl, nrms_teq (by kernel_rfl) (by kernel_rfl) (by kernel_rfl)⟩
theorem k9 : FnOK Try.prog WI gK 9 s9 g9 :=
  fn_ok (F := FE) wiStable (⟨fun _ _ h => (by cases h), (fun _ _ h => (by cases h))⟩) Try.func9 ev9 (by kernel_rfl) (fun _ h => (by cases h)) fun ds h hp => match ds, h, hp with
    | [], _, hp => ⟨(by kernel_rfl : owesB (outEnv FE s9 o9 []) o9.owes = (dget (g9 []) 0).toB).trans (hp rfl), nrms_teq (by kernel_rfl) (by kernel_rfl) (by kernel_rfl)⟩
theorem k14 : FnOK Try.prog WI gK 14 s14 g14 :=
  fn_ok (F := FE) wiStable (⟨(fun f s h => assoc_all (Q := fun f s => FnOK Try.prog WI gK f s (FE f)) (l := S14.fs)
    (show ∀ p ∈ [(28, s28)], FnOK Try.prog WI gK p.1 p.2 (FE p.1) from
    List.forall_mem_cons.2 ⟨k28, fun _ h => (by cases h)⟩) h), (fun _ _ h => (by cases h))⟩) Try.func14 ev14 (by kernel_rfl) (fun _ h => (by cases h)) fun ds h hp => match ds, h, hp with
    | [d0, d1, d2, d3, d4, d5], _, hp => ⟨(by kernel_rfl : owesB (outEnv FE s14 o14 [d0, d1, d2, d3, d4, d5]) o14.owes = (dget (g14 [d0, d1, d2, d3, d4, d5]) 0).toB).trans (hp rfl), nrms_teq (by kernel_rfl) (by kernel_rfl) (by kernel_rfl)⟩
theorem hl16_0 : LoopSound FE l16_0 := loop_ok (w := W101600) (c := C101600) (nx := N101600) (out := T101600) [.i, .l, .l, .l, .l, .l, .i, .i, .l] (fun ds => by kernel_rfl) rfl (fun ν xs h => match xs, h with | [x0, x1, x2, x3, x4, x5], _ => by kernel_rfl)
  (fun ν xs h => match xs, h with | [x0, x1, x2, x3, x4, x5], _ => by kernel_rfl)
  (fun ν xs h => match xs, h with | [x0, x1, x2, x3, x4, x5], _ => by kernel_rfl)
  (fun ν xs h => match xs, h with | [x0, x1, x2, x3, x4, x5], _ => by kernel_rfl)
theorem hl16 : ∀ l ∈ o16.loops, LoopSound FE l := show ∀ l ∈ [l16_0], LoopSound FE l from
  List.forall_mem_cons.2 ⟨hl16_0, fun _ h => (by cases h)⟩
theorem k16 : FnOK Try.prog WI gK 16 s16 g16 :=
  fn_ok (F := FE) wiStable (⟨(fun f s h => assoc_all (Q := fun f s => FnOK Try.prog WI gK f s (FE f)) (l := S16.fs)
    (show ∀ p ∈ [(26, s26)], FnOK Try.prog WI gK p.1 p.2 (FE p.1) from
    List.forall_mem_cons.2 ⟨k26, fun _ h => (by cases h)⟩) h), (fun _ _ h => (by cases h))⟩) Try.func16 ev16 (by kernel_rfl) hl16 fun ds h hp => match ds, h, hp with
    | [d0, d1, d2, d3, d4, d5], _, hp => ⟨(by kernel_rfl : owesB (outEnv FE s16 o16 [d0, d1, d2, d3, d4, d5]) o16.owes = (dget (g16 [d0, d1, d2, d3, d4, d5]) 0).toB).trans (hp rfl), nrms_teq (by kernel_rfl) (by kernel_rfl) (by kernel_rfl)⟩
theorem hl11_0 : LoopSound FE l11_0 := loop_ok (w := W101102) (c := C101102) (nx := N101102) (out := T101102) [.i, .i, .i, .l, .i, .i, .i, .i] (fun ds => by kernel_rfl) rfl (fun ν xs h => match xs, h with | [x0, x1, x2, x3], _ => by kernel_rfl)
  (fun ν xs h => match xs, h with | [x0, x1, x2, x3], _ => by kernel_rfl)
  (fun ν xs h => match xs, h with | [x0, x1, x2, x3], _ => by kernel_rfl)
  (fun ν xs h => match xs, h with | [x0, x1, x2, x3], _ => by kernel_rfl)
theorem hl11_1 : LoopSound FE l11_1 := loop_ok (w := W101100) (c := C101100) (nx := N101100) (out := T101100) [.i, .l, .i, .l, .l, .i, .l, .l, .l, .l, .i, .l] (fun ds => by kernel_rfl) rfl (fun ν xs h => match xs, h with | [x0, x1, x2, x3, x4, x5, x6, x7], _ => by kernel_rfl)
  (fun ν xs h => match xs, h with | [x0, x1, x2, x3, x4, x5, x6, x7], _ => by kernel_rfl)
  (fun ν xs h => match xs, h with | [x0, x1, x2, x3, x4, x5, x6, x7], _ => by kernel_rfl)
  (fun ν xs h => match xs, h with | [x0, x1, x2, x3, x4, x5, x6, x7], _ => by kernel_rfl)
theorem hl11 : ∀ l ∈ o11.loops, LoopSound FE l := show ∀ l ∈ [l11_0, l11_1], LoopSound FE l from
  List.forall_mem_cons.2 ⟨hl11_0, List.forall_mem_cons.2 ⟨hl11_1, fun _ h => (by cases h)⟩⟩
theorem k11 : FnOK Try.prog WI gK 11 s11 g11 :=
  fn_ok (F := FE) wiStable (⟨(fun f s h => assoc_all (Q := fun f s => FnOK Try.prog WI gK f s (FE f)) (l := S11.fs)
    (show ∀ p ∈ [(26, s26)], FnOK Try.prog WI gK p.1 p.2 (FE p.1) from
    List.forall_mem_cons.2 ⟨k26, fun _ h => (by cases h)⟩) h), (fun _ _ h => (by cases h))⟩) Try.func11 ev11 (by kernel_rfl) hl11 fun ds h hp => match ds, h, hp with
    | [d0, d1, d2, d3, d4, d5], _, hp => ⟨(by kernel_rfl : owesB (outEnv FE s11 o11 [d0, d1, d2, d3, d4, d5]) o11.owes = (dget (g11 [d0, d1, d2, d3, d4, d5]) 0).toB).trans (hp rfl), nrms_teq (by kernel_rfl) (by kernel_rfl) (by kernel_rfl)⟩
theorem k21 : FnOK Try.prog WI gK 21 s21 g21 :=
  fn_ok (F := FE) wiStable (⟨(fun f s h => assoc_all (Q := fun f s => FnOK Try.prog WI gK f s (FE f)) (l := S21.fs)
    (show ∀ p ∈ [(31, s31)], FnOK Try.prog WI gK p.1 p.2 (FE p.1) from
    List.forall_mem_cons.2 ⟨k31, fun _ h => (by cases h)⟩) h), (fun _ _ h => (by cases h))⟩) Try.func21 ev21 (by kernel_rfl) (fun _ h => (by cases h)) fun ds h hp => match ds, h, hp with
    | [d0, d1, d2, d3, d4], _, hp => ⟨(by kernel_rfl : owesB (outEnv FE s21 o21 [d0, d1, d2, d3, d4]) o21.owes = (dget (g21 [d0, d1, d2, d3, d4]) 0).toB).trans (hp rfl), nrms_teq (by kernel_rfl) (by kernel_rfl) (by kernel_rfl)⟩
theorem hl19_0 : LoopSound FE l19_0 := loop_ok (w := W101900) (c := C101900) (nx := N101900) (out := T101900) [.i, .i, .l, .l, .i, .l, .l, .l, .i] (fun ds => by kernel_rfl) rfl (fun ν xs h => match xs, h with | [x0, x1, x2, x3, x4], _ => by kernel_rfl)
  (fun ν xs h => match xs, h with | [x0, x1, x2, x3, x4], _ => by kernel_rfl)
  (fun ν xs h => match xs, h with | [x0, x1, x2, x3, x4], _ => by kernel_rfl)
  (fun ν xs h => match xs, h with | [x0, x1, x2, x3, x4], _ => by kernel_rfl)
theorem hl19 : ∀ l ∈ o19.loops, LoopSound FE l := show ∀ l ∈ [l19_0], LoopSound FE l from
  List.forall_mem_cons.2 ⟨hl19_0, fun _ h => (by cases h)⟩
theorem k19 : FnOK Try.prog WI gK 19 s19 g19 :=
  fn_ok (F := FE) wiStable (⟨(fun f s h => assoc_all (Q := fun f s => FnOK Try.prog WI gK f s (FE f)) (l := S19.fs)
    (show ∀ p ∈ [(28, s28), (26, s26), (31, s31), (30, s30)], FnOK Try.prog WI gK p.1 p.2 (FE p.1) from
    List.forall_mem_cons.2 ⟨k28, List.forall_mem_cons.2 ⟨k26, List.forall_mem_cons.2 ⟨k31, List.forall_mem_cons.2 ⟨k30, fun _ h => (by cases h)⟩⟩⟩⟩) h), (fun _ _ h => (by cases h))⟩) Try.func19 ev19 (by kernel_rfl) hl19 fun ds h hp => match ds, h, hp with
    | [d0, d1, d2, d3, d4, d5], _, hp => ⟨(by kernel_rfl : owesB (outEnv FE s19 o19 [d0, d1, d2, d3, d4, d5]) o19.owes = (dget (g19 [d0, d1, d2, d3, d4, d5]) 0).toB).trans (hp rfl), nrms_teq (by kernel_rfl) (by kernel_rfl) (by kernel_rfl)⟩
theorem k8 : FnOK Try.prog WI gK 8 s8 g8 :=
  fn_ok (F := FE) wiStable (⟨(fun f s h => assoc_all (Q := fun f s => FnOK Try.prog WI gK f s (FE f)) (l := S8.fs)
    (show ∀ p ∈ [(9, s9), (11, s11), (23, s23), (14, s14), (16, s16), (21, s21), (19, s19), (25, s25)], FnOK Try.prog WI gK p.1 p.2 (FE p.1) from
    List.forall_mem_cons.2 ⟨k9, List.forall_mem_cons.2 ⟨k11, List.forall_mem_cons.2 ⟨k23, List.forall_mem_cons.2 ⟨k14, List.forall_mem_cons.2 ⟨k16, List.forall_mem_cons.2 ⟨k21, List.forall_mem_cons.2 ⟨k19, List.forall_mem_cons.2 ⟨k25, fun _ h => (by cases h)⟩⟩⟩⟩⟩⟩⟩⟩) h), (fun _ _ h => (by cases h))⟩) Try.func8 ev8 (by kernel_rfl) (fun _ h => (by cases h)) fun ds h hp => match ds, h, hp with
    | [], _, hp => ⟨(by kernel_rfl : owesB (outEnv FE s8 o8 []) o8.owes = (dget (g8 []) 0).toB).trans (hp rfl), nrms_teq (by kernel_rfl) (by kernel_rfl) (by kernel_rfl)⟩
theorem hl4_0 : LoopSound FE l4_0 := loop_ok (w := W100403) (c := C100403) (nx := N100403) (out := T100403) [.l, .l, .b, .i] (fun ds => by kernel_rfl) rfl (fun ν xs h => match xs, h with | [x0, x1], _ => by kernel_rfl)
  (fun ν xs h => match xs, h with | [x0, x1], _ => by kernel_rfl)
  (fun ν xs h => match xs, h with | [x0, x1], _ => by kernel_rfl)
  (fun ν xs h => match xs, h with | [x0, x1], _ => by kernel_rfl)
theorem hl4_1 : LoopSound FE l4_1 := loop_ok (w := W100405) (c := C100405) (nx := N100405) (out := T100405) [.l, .l, .l, .i, .l] (fun ds => by kernel_rfl) rfl (fun ν xs h => match xs, h with | [x0, x1, x2], _ => by kernel_rfl)
  (fun ν xs h => match xs, h with | [x0, x1, x2], _ => by kernel_rfl)
  (fun ν xs h => match xs, h with | [x0, x1, x2], _ => by kernel_rfl)
  (fun ν xs h => match xs, h with | [x0, x1, x2], _ => by kernel_rfl)
theorem hl4_2 : LoopSound FE l4_2 := loop_ok (w := W100407) (c := C100407) (nx := N100407) (out := T100407) [.l, .l, .l, .i, .l] (fun ds => by kernel_rfl) rfl (fun ν xs h => match xs, h with | [x0, x1, x2], _ => by kernel_rfl)
  (fun ν xs h => match xs, h with | [x0, x1, x2], _ => by kernel_rfl)
  (fun ν xs h => match xs, h with | [x0, x1, x2], _ => by kernel_rfl)
  (fun ν xs h => match xs, h with | [x0, x1, x2], _ => by kernel_rfl)
theorem hl4_3 : LoopSound FE l4_3 := loop_ok (w := W100409) (c := C100409) (nx := N100409) (out := T100409) [.l, .b, .i, .l] (fun ds => by kernel_rfl) rfl (fun ν xs h => match xs, h with | [x0, x1, x2], _ => by kernel_rfl)
  (fun ν xs h => match xs, h with | [x0, x1, x2], _ => by kernel_rfl)
  (fun ν xs h => match xs, h with | [x0, x1, x2], _ => by kernel_rfl)
  (fun ν xs h => match xs, h with | [x0, x1, x2], _ => by kernel_rfl)
theorem hl4_4 : LoopSound FE l4_4 := loop_ok (w := W100400) (c := C100400) (nx := N100400) (out := T100400) [.l, .b, .l, .i, .l, .l, .l, .i, .i, .l, .l] (fun ds => by kernel_rfl) rfl (fun ν xs h => match xs, h with | [x0, x1, x2, x3, x4, x5, x6, x7, x8, x9], _ => by kernel_rfl)
  (fun ν xs h => match xs, h with | [x0, x1, x2, x3, x4, x5, x6, x7, x8, x9], _ => by kernel_rfl)
  (fun ν xs h => match xs, h with | [x0, x1, x2, x3, x4, x5, x6, x7, x8, x9], _ => by kernel_rfl)
  (fun ν xs h => match xs, h with | [x0, x1, x2, x3, x4, x5, x6, x7, x8, x9], _ => by kernel_rfl)
theorem hl4 : ∀ l ∈ o4.loops, LoopSound FE l := show ∀ l ∈ [l4_0, l4_1, l4_2, l4_3, l4_4], LoopSound FE l from
  List.forall_mem_cons.2 ⟨hl4_0, List.forall_mem_cons.2 ⟨hl4_1, List.forall_mem_cons.2 ⟨hl4_2, List.forall_mem_cons.2 ⟨hl4_3, List.forall_mem_cons.2 ⟨hl4_4, fun _ h => (by cases h)⟩⟩⟩⟩⟩
theorem k4 : FnOK Try.prog WI gK 4 s4 g4 :=
  fn_ok (F := FE) wiStable (⟨(fun f s h => assoc_all (Q := fun f s => FnOK Try.prog WI gK f s (FE f)) (l := S4.fs)
    (show ∀ p ∈ [(8, s8), (9, s9), (11, s11), (14, s14), (16, s16), (19, s19), (23, s23), (21, s21), (25, s25)], FnOK Try.prog WI gK p.1 p.2 (FE p.1) from
    List.forall_mem_cons.2 ⟨k8, List.forall_mem_cons.2 ⟨k9, List.forall_mem_cons.2 ⟨k11, List.forall_mem_cons.2 ⟨k14, List.forall_mem_cons.2 ⟨k16, List.forall_mem_cons.2 ⟨k19, List.forall_mem_cons.2 ⟨k23, List.forall_mem_cons.2 ⟨k21, List.forall_mem_cons.2 ⟨k25, fun _ h => (by cases h)⟩⟩⟩⟩⟩⟩⟩⟩⟩) h), (fun _ _ h => (by cases h))⟩) Try.func4 ev4 (by kernel_rfl) hl4 fun ds h hp => match ds, h, hp with
    | [d0], _, hp => ⟨(by kernel_rfl : owesB (outEnv FE s4 o4 [d0]) o4.owes = (dget (g4 [d0]) 0).toB).trans (hp rfl), nrms_teq (by kernel_rfl) (by kernel_rfl) (by kernel_rfl)⟩
end Go.Proofs.Ytkpbkanbpjfadaa

