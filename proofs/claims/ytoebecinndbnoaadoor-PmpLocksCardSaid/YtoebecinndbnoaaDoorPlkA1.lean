/- The functions of the statements, as lists of plain steps, each tied to the program's own text by the kernel (part 1). Written by the generator. -/
import Derived.Test.YtoebecinndbnoaaDoorPlkA0
namespace Go.Proofs.YtoebecinndbnoaaDoor
open Go Go.Sx
set_option maxRecDepth 100000

/-! tandem/tandemlaw11.PmpLocks -/
-- the loop 100700: asks for [16], goes round with [56, 57, 58, 59, 60, 61, 62, 63, 64, 65, 66, 67, 68, 69, 70, 71, 72]
noncomputable def w100700 (x16 : List DV) (x56 : Int) (x57 : Int) (x58 : Int) (x59 : Int) (x60 : Int) (x61 : Int) (x62 : Int) (x63 : Int) (x64 : Int) (x65 : Int) (x66 : Int) (x67 : Int) (x68 : Int) (x69 : Int) (x70 : Int) (x71 : Int) (x72 : Int) : Bool :=
  let x73 := ((x16.length / 1 : Nat) : Int)
  let x74 := decide (x56 < x73)
  let x75 := Int.tmod x56 3
  let x76 := x75 == 0
  let x77 := decide (x56 ≥ 0)
  let x78 := ((x16.length / 1 : Nat) : Int)
  let x79 := decide (x56 < x78)
  let x89 := decide (x56 ≥ 0)
  let x90 := ((x16.length / 1 : Nat) : Int)
  let x91 := decide (x56 < x90)
  let x92 := (x16.getD (Int.toNat x56 * 1 + 0) default).toI
  let x93 := ishr .u64 x92 60
  let x94 := IntKind.wrap .i64 x93
  let x95 := decide (x56 ≥ 0)
  let x96 := ((x16.length / 1 : Nat) : Int)
  let x97 := decide (x56 < x96)
  let x98 := (x16.getD (Int.toNat x56 * 1 + 0) default).toI
  let y99 := g15 [.i x57, .i x58, .i x59, .i x60, .i x61, .i x62, .i x63, .i x64, .i x65, .i x66, .i x67, .i x68, .i x69, .i x70, .i x71, .i x72, .i x94, .i x98]
  let x99 := (dget y99 0).toB
  [ow [(x74, true), (x76, true)] x77, ow [(x74, true), (x76, true)] x79, ow [(x74, true), (x76, false)] x89, ow [(x74, true), (x76, false)] x91, ow [(x74, true), (x76, false)] x95, ow [(x74, true), (x76, false)] x97, ow [(x74, true), (x76, false)] x99].all id
noncomputable def c100700 (x16 : List DV) (x56 : Int) (_x57 : Int) (_x58 : Int) (_x59 : Int) (_x60 : Int) (_x61 : Int) (_x62 : Int) (_x63 : Int) (_x64 : Int) (_x65 : Int) (_x66 : Int) (_x67 : Int) (_x68 : Int) (_x69 : Int) (_x70 : Int) (_x71 : Int) (_x72 : Int) : Bool :=
  let x73 := ((x16.length / 1 : Nat) : Int)
  let x74 := decide (x56 < x73)
  x74
noncomputable def n100700_0 (_x16 : List DV) (x56 : Int) (_x57 : Int) (_x58 : Int) (_x59 : Int) (_x60 : Int) (_x61 : Int) (_x62 : Int) (_x63 : Int) (_x64 : Int) (_x65 : Int) (_x66 : Int) (_x67 : Int) (_x68 : Int) (_x69 : Int) (_x70 : Int) (_x71 : Int) (_x72 : Int) : Int :=
  let x124 := IntKind.wrap .i64 (x56 + 1)
  x124
noncomputable def n100700_1 (x16 : List DV) (x56 : Int) (x57 : Int) (x58 : Int) (x59 : Int) (x60 : Int) (x61 : Int) (x62 : Int) (x63 : Int) (x64 : Int) (_x65 : Int) (_x66 : Int) (_x67 : Int) (_x68 : Int) (_x69 : Int) (_x70 : Int) (_x71 : Int) (_x72 : Int) : Int :=
  let x75 := Int.tmod x56 3
  let x76 := x75 == 0
  let x80 := (x16.getD (Int.toNat x56 * 1 + 0) default).toI
  let y81 := g13 [.i x57, .i x58, .i x59, .i x60, .i x61, .i x62, .i x63, .i x64, .i x80]
  let x81 := (dget y81 0).toI
  let x108 := bif x76 then x81 else x57
  x108
noncomputable def n100700_2 (x16 : List DV) (x56 : Int) (x57 : Int) (x58 : Int) (x59 : Int) (x60 : Int) (x61 : Int) (x62 : Int) (x63 : Int) (x64 : Int) (_x65 : Int) (_x66 : Int) (_x67 : Int) (_x68 : Int) (_x69 : Int) (_x70 : Int) (_x71 : Int) (_x72 : Int) : Int :=
  let x75 := Int.tmod x56 3
  let x76 := x75 == 0
  let x80 := (x16.getD (Int.toNat x56 * 1 + 0) default).toI
  let y82 := g13 [.i x57, .i x58, .i x59, .i x60, .i x61, .i x62, .i x63, .i x64, .i x80]
  let x82 := (dget y82 1).toI
  let x109 := bif x76 then x82 else x58
  x109
noncomputable def n100700_3 (x16 : List DV) (x56 : Int) (x57 : Int) (x58 : Int) (x59 : Int) (x60 : Int) (x61 : Int) (x62 : Int) (x63 : Int) (x64 : Int) (_x65 : Int) (_x66 : Int) (_x67 : Int) (_x68 : Int) (_x69 : Int) (_x70 : Int) (_x71 : Int) (_x72 : Int) : Int :=
  let x75 := Int.tmod x56 3
  let x76 := x75 == 0
  let x80 := (x16.getD (Int.toNat x56 * 1 + 0) default).toI
  let y83 := g13 [.i x57, .i x58, .i x59, .i x60, .i x61, .i x62, .i x63, .i x64, .i x80]
  let x83 := (dget y83 2).toI
  let x110 := bif x76 then x83 else x59
  x110
noncomputable def n100700_4 (x16 : List DV) (x56 : Int) (x57 : Int) (x58 : Int) (x59 : Int) (x60 : Int) (x61 : Int) (x62 : Int) (x63 : Int) (x64 : Int) (_x65 : Int) (_x66 : Int) (_x67 : Int) (_x68 : Int) (_x69 : Int) (_x70 : Int) (_x71 : Int) (_x72 : Int) : Int :=
  let x75 := Int.tmod x56 3
  let x76 := x75 == 0
  let x80 := (x16.getD (Int.toNat x56 * 1 + 0) default).toI
  let y84 := g13 [.i x57, .i x58, .i x59, .i x60, .i x61, .i x62, .i x63, .i x64, .i x80]
  let x84 := (dget y84 3).toI
  let x111 := bif x76 then x84 else x60
  x111
noncomputable def n100700_5 (x16 : List DV) (x56 : Int) (x57 : Int) (x58 : Int) (x59 : Int) (x60 : Int) (x61 : Int) (x62 : Int) (x63 : Int) (x64 : Int) (_x65 : Int) (_x66 : Int) (_x67 : Int) (_x68 : Int) (_x69 : Int) (_x70 : Int) (_x71 : Int) (_x72 : Int) : Int :=
  let x75 := Int.tmod x56 3
  let x76 := x75 == 0
  let x80 := (x16.getD (Int.toNat x56 * 1 + 0) default).toI
  let y85 := g13 [.i x57, .i x58, .i x59, .i x60, .i x61, .i x62, .i x63, .i x64, .i x80]
  let x85 := (dget y85 4).toI
  let x112 := bif x76 then x85 else x61
  x112
noncomputable def n100700_6 (x16 : List DV) (x56 : Int) (x57 : Int) (x58 : Int) (x59 : Int) (x60 : Int) (x61 : Int) (x62 : Int) (x63 : Int) (x64 : Int) (_x65 : Int) (_x66 : Int) (_x67 : Int) (_x68 : Int) (_x69 : Int) (_x70 : Int) (_x71 : Int) (_x72 : Int) : Int :=
  let x75 := Int.tmod x56 3
  let x76 := x75 == 0
  let x80 := (x16.getD (Int.toNat x56 * 1 + 0) default).toI
  let y86 := g13 [.i x57, .i x58, .i x59, .i x60, .i x61, .i x62, .i x63, .i x64, .i x80]
  let x86 := (dget y86 5).toI
  let x113 := bif x76 then x86 else x62
  x113
noncomputable def n100700_7 (x16 : List DV) (x56 : Int) (x57 : Int) (x58 : Int) (x59 : Int) (x60 : Int) (x61 : Int) (x62 : Int) (x63 : Int) (x64 : Int) (_x65 : Int) (_x66 : Int) (_x67 : Int) (_x68 : Int) (_x69 : Int) (_x70 : Int) (_x71 : Int) (_x72 : Int) : Int :=
  let x75 := Int.tmod x56 3
  let x76 := x75 == 0
  let x80 := (x16.getD (Int.toNat x56 * 1 + 0) default).toI
  let y87 := g13 [.i x57, .i x58, .i x59, .i x60, .i x61, .i x62, .i x63, .i x64, .i x80]
  let x87 := (dget y87 6).toI
  let x114 := bif x76 then x87 else x63
  x114
noncomputable def n100700_8 (x16 : List DV) (x56 : Int) (x57 : Int) (x58 : Int) (x59 : Int) (x60 : Int) (x61 : Int) (x62 : Int) (x63 : Int) (x64 : Int) (_x65 : Int) (_x66 : Int) (_x67 : Int) (_x68 : Int) (_x69 : Int) (_x70 : Int) (_x71 : Int) (_x72 : Int) : Int :=
  let x75 := Int.tmod x56 3
  let x76 := x75 == 0
  let x80 := (x16.getD (Int.toNat x56 * 1 + 0) default).toI
  let y88 := g13 [.i x57, .i x58, .i x59, .i x60, .i x61, .i x62, .i x63, .i x64, .i x80]
  let x88 := (dget y88 7).toI
  let x115 := bif x76 then x88 else x64
  x115
noncomputable def n100700_9 (x16 : List DV) (x56 : Int) (x57 : Int) (x58 : Int) (x59 : Int) (x60 : Int) (x61 : Int) (x62 : Int) (x63 : Int) (x64 : Int) (x65 : Int) (x66 : Int) (x67 : Int) (x68 : Int) (x69 : Int) (x70 : Int) (x71 : Int) (x72 : Int) : Int :=
  let x75 := Int.tmod x56 3
  let x76 := x75 == 0
  let x92 := (x16.getD (Int.toNat x56 * 1 + 0) default).toI
  let x93 := ishr .u64 x92 60
  let x94 := IntKind.wrap .i64 x93
  let x98 := (x16.getD (Int.toNat x56 * 1 + 0) default).toI
  let y100 := g15 [.i x57, .i x58, .i x59, .i x60, .i x61, .i x62, .i x63, .i x64, .i x65, .i x66, .i x67, .i x68, .i x69, .i x70, .i x71, .i x72, .i x94, .i x98]
  let x100 := (dget y100 1).toI
  let x116 := bif x76 then x65 else x100
  x116
noncomputable def n100700_10 (x16 : List DV) (x56 : Int) (x57 : Int) (x58 : Int) (x59 : Int) (x60 : Int) (x61 : Int) (x62 : Int) (x63 : Int) (x64 : Int) (x65 : Int) (x66 : Int) (x67 : Int) (x68 : Int) (x69 : Int) (x70 : Int) (x71 : Int) (x72 : Int) : Int :=
  let x75 := Int.tmod x56 3
  let x76 := x75 == 0
  let x92 := (x16.getD (Int.toNat x56 * 1 + 0) default).toI
  let x93 := ishr .u64 x92 60
  let x94 := IntKind.wrap .i64 x93
  let x98 := (x16.getD (Int.toNat x56 * 1 + 0) default).toI
  let y101 := g15 [.i x57, .i x58, .i x59, .i x60, .i x61, .i x62, .i x63, .i x64, .i x65, .i x66, .i x67, .i x68, .i x69, .i x70, .i x71, .i x72, .i x94, .i x98]
  let x101 := (dget y101 2).toI
  let x117 := bif x76 then x66 else x101
  x117
noncomputable def n100700_11 (x16 : List DV) (x56 : Int) (x57 : Int) (x58 : Int) (x59 : Int) (x60 : Int) (x61 : Int) (x62 : Int) (x63 : Int) (x64 : Int) (x65 : Int) (x66 : Int) (x67 : Int) (x68 : Int) (x69 : Int) (x70 : Int) (x71 : Int) (x72 : Int) : Int :=
  let x75 := Int.tmod x56 3
  let x76 := x75 == 0
  let x92 := (x16.getD (Int.toNat x56 * 1 + 0) default).toI
  let x93 := ishr .u64 x92 60
  let x94 := IntKind.wrap .i64 x93
  let x98 := (x16.getD (Int.toNat x56 * 1 + 0) default).toI
  let y102 := g15 [.i x57, .i x58, .i x59, .i x60, .i x61, .i x62, .i x63, .i x64, .i x65, .i x66, .i x67, .i x68, .i x69, .i x70, .i x71, .i x72, .i x94, .i x98]
  let x102 := (dget y102 3).toI
  let x118 := bif x76 then x67 else x102
  x118
noncomputable def n100700_12 (x16 : List DV) (x56 : Int) (x57 : Int) (x58 : Int) (x59 : Int) (x60 : Int) (x61 : Int) (x62 : Int) (x63 : Int) (x64 : Int) (x65 : Int) (x66 : Int) (x67 : Int) (x68 : Int) (x69 : Int) (x70 : Int) (x71 : Int) (x72 : Int) : Int :=
  let x75 := Int.tmod x56 3
  let x76 := x75 == 0
  let x92 := (x16.getD (Int.toNat x56 * 1 + 0) default).toI
  let x93 := ishr .u64 x92 60
  let x94 := IntKind.wrap .i64 x93
  let x98 := (x16.getD (Int.toNat x56 * 1 + 0) default).toI
  let y103 := g15 [.i x57, .i x58, .i x59, .i x60, .i x61, .i x62, .i x63, .i x64, .i x65, .i x66, .i x67, .i x68, .i x69, .i x70, .i x71, .i x72, .i x94, .i x98]
  let x103 := (dget y103 4).toI
  let x119 := bif x76 then x68 else x103
  x119
noncomputable def n100700_13 (x16 : List DV) (x56 : Int) (x57 : Int) (x58 : Int) (x59 : Int) (x60 : Int) (x61 : Int) (x62 : Int) (x63 : Int) (x64 : Int) (x65 : Int) (x66 : Int) (x67 : Int) (x68 : Int) (x69 : Int) (x70 : Int) (x71 : Int) (x72 : Int) : Int :=
  let x75 := Int.tmod x56 3
  let x76 := x75 == 0
  let x92 := (x16.getD (Int.toNat x56 * 1 + 0) default).toI
  let x93 := ishr .u64 x92 60
  let x94 := IntKind.wrap .i64 x93
  let x98 := (x16.getD (Int.toNat x56 * 1 + 0) default).toI
  let y104 := g15 [.i x57, .i x58, .i x59, .i x60, .i x61, .i x62, .i x63, .i x64, .i x65, .i x66, .i x67, .i x68, .i x69, .i x70, .i x71, .i x72, .i x94, .i x98]
  let x104 := (dget y104 5).toI
  let x120 := bif x76 then x69 else x104
  x120
noncomputable def n100700_14 (x16 : List DV) (x56 : Int) (x57 : Int) (x58 : Int) (x59 : Int) (x60 : Int) (x61 : Int) (x62 : Int) (x63 : Int) (x64 : Int) (x65 : Int) (x66 : Int) (x67 : Int) (x68 : Int) (x69 : Int) (x70 : Int) (x71 : Int) (x72 : Int) : Int :=
  let x75 := Int.tmod x56 3
  let x76 := x75 == 0
  let x92 := (x16.getD (Int.toNat x56 * 1 + 0) default).toI
  let x93 := ishr .u64 x92 60
  let x94 := IntKind.wrap .i64 x93
  let x98 := (x16.getD (Int.toNat x56 * 1 + 0) default).toI
  let y105 := g15 [.i x57, .i x58, .i x59, .i x60, .i x61, .i x62, .i x63, .i x64, .i x65, .i x66, .i x67, .i x68, .i x69, .i x70, .i x71, .i x72, .i x94, .i x98]
  let x105 := (dget y105 6).toI
  let x121 := bif x76 then x70 else x105
  x121
noncomputable def n100700_15 (x16 : List DV) (x56 : Int) (x57 : Int) (x58 : Int) (x59 : Int) (x60 : Int) (x61 : Int) (x62 : Int) (x63 : Int) (x64 : Int) (x65 : Int) (x66 : Int) (x67 : Int) (x68 : Int) (x69 : Int) (x70 : Int) (x71 : Int) (x72 : Int) : Int :=
  let x75 := Int.tmod x56 3
  let x76 := x75 == 0
  let x92 := (x16.getD (Int.toNat x56 * 1 + 0) default).toI
  let x93 := ishr .u64 x92 60
  let x94 := IntKind.wrap .i64 x93
  let x98 := (x16.getD (Int.toNat x56 * 1 + 0) default).toI
  let y106 := g15 [.i x57, .i x58, .i x59, .i x60, .i x61, .i x62, .i x63, .i x64, .i x65, .i x66, .i x67, .i x68, .i x69, .i x70, .i x71, .i x72, .i x94, .i x98]
  let x106 := (dget y106 7).toI
  let x122 := bif x76 then x71 else x106
  x122
noncomputable def n100700_16 (x16 : List DV) (x56 : Int) (x57 : Int) (x58 : Int) (x59 : Int) (x60 : Int) (x61 : Int) (x62 : Int) (x63 : Int) (x64 : Int) (x65 : Int) (x66 : Int) (x67 : Int) (x68 : Int) (x69 : Int) (x70 : Int) (x71 : Int) (x72 : Int) : Int :=
  let x75 := Int.tmod x56 3
  let x76 := x75 == 0
  let x92 := (x16.getD (Int.toNat x56 * 1 + 0) default).toI
  let x93 := ishr .u64 x92 60
  let x94 := IntKind.wrap .i64 x93
  let x98 := (x16.getD (Int.toNat x56 * 1 + 0) default).toI
  let y107 := g15 [.i x57, .i x58, .i x59, .i x60, .i x61, .i x62, .i x63, .i x64, .i x65, .i x66, .i x67, .i x68, .i x69, .i x70, .i x71, .i x72, .i x94, .i x98]
  let x107 := (dget y107 8).toI
  let x123 := bif x76 then x72 else x107
  x123
noncomputable def t100700_0 (_x16 : List DV) (_x56 : Int) (_x57 : Int) (_x58 : Int) (_x59 : Int) (_x60 : Int) (_x61 : Int) (_x62 : Int) (_x63 : Int) (_x64 : Int) (_x65 : Int) (_x66 : Int) (_x67 : Int) (_x68 : Int) (_x69 : Int) (_x70 : Int) (_x71 : Int) (_x72 : Int) : Int :=
  0
noncomputable def t100700_1 (_x16 : List DV) (x56 : Int) (_x57 : Int) (_x58 : Int) (_x59 : Int) (_x60 : Int) (_x61 : Int) (_x62 : Int) (_x63 : Int) (_x64 : Int) (_x65 : Int) (_x66 : Int) (_x67 : Int) (_x68 : Int) (_x69 : Int) (_x70 : Int) (_x71 : Int) (_x72 : Int) : Int :=
  x56
noncomputable def t100700_2 (_x16 : List DV) (_x56 : Int) (x57 : Int) (_x58 : Int) (_x59 : Int) (_x60 : Int) (_x61 : Int) (_x62 : Int) (_x63 : Int) (_x64 : Int) (_x65 : Int) (_x66 : Int) (_x67 : Int) (_x68 : Int) (_x69 : Int) (_x70 : Int) (_x71 : Int) (_x72 : Int) : Int :=
  x57
noncomputable def t100700_3 (_x16 : List DV) (_x56 : Int) (_x57 : Int) (x58 : Int) (_x59 : Int) (_x60 : Int) (_x61 : Int) (_x62 : Int) (_x63 : Int) (_x64 : Int) (_x65 : Int) (_x66 : Int) (_x67 : Int) (_x68 : Int) (_x69 : Int) (_x70 : Int) (_x71 : Int) (_x72 : Int) : Int :=
  x58
noncomputable def t100700_4 (_x16 : List DV) (_x56 : Int) (_x57 : Int) (_x58 : Int) (x59 : Int) (_x60 : Int) (_x61 : Int) (_x62 : Int) (_x63 : Int) (_x64 : Int) (_x65 : Int) (_x66 : Int) (_x67 : Int) (_x68 : Int) (_x69 : Int) (_x70 : Int) (_x71 : Int) (_x72 : Int) : Int :=
  x59
noncomputable def t100700_5 (_x16 : List DV) (_x56 : Int) (_x57 : Int) (_x58 : Int) (_x59 : Int) (x60 : Int) (_x61 : Int) (_x62 : Int) (_x63 : Int) (_x64 : Int) (_x65 : Int) (_x66 : Int) (_x67 : Int) (_x68 : Int) (_x69 : Int) (_x70 : Int) (_x71 : Int) (_x72 : Int) : Int :=
  x60
noncomputable def t100700_6 (_x16 : List DV) (_x56 : Int) (_x57 : Int) (_x58 : Int) (_x59 : Int) (_x60 : Int) (x61 : Int) (_x62 : Int) (_x63 : Int) (_x64 : Int) (_x65 : Int) (_x66 : Int) (_x67 : Int) (_x68 : Int) (_x69 : Int) (_x70 : Int) (_x71 : Int) (_x72 : Int) : Int :=
  x61
noncomputable def t100700_7 (_x16 : List DV) (_x56 : Int) (_x57 : Int) (_x58 : Int) (_x59 : Int) (_x60 : Int) (_x61 : Int) (x62 : Int) (_x63 : Int) (_x64 : Int) (_x65 : Int) (_x66 : Int) (_x67 : Int) (_x68 : Int) (_x69 : Int) (_x70 : Int) (_x71 : Int) (_x72 : Int) : Int :=
  x62
noncomputable def t100700_8 (_x16 : List DV) (_x56 : Int) (_x57 : Int) (_x58 : Int) (_x59 : Int) (_x60 : Int) (_x61 : Int) (_x62 : Int) (x63 : Int) (_x64 : Int) (_x65 : Int) (_x66 : Int) (_x67 : Int) (_x68 : Int) (_x69 : Int) (_x70 : Int) (_x71 : Int) (_x72 : Int) : Int :=
  x63
noncomputable def t100700_9 (_x16 : List DV) (_x56 : Int) (_x57 : Int) (_x58 : Int) (_x59 : Int) (_x60 : Int) (_x61 : Int) (_x62 : Int) (_x63 : Int) (x64 : Int) (_x65 : Int) (_x66 : Int) (_x67 : Int) (_x68 : Int) (_x69 : Int) (_x70 : Int) (_x71 : Int) (_x72 : Int) : Int :=
  x64
noncomputable def t100700_10 (_x16 : List DV) (_x56 : Int) (_x57 : Int) (_x58 : Int) (_x59 : Int) (_x60 : Int) (_x61 : Int) (_x62 : Int) (_x63 : Int) (_x64 : Int) (x65 : Int) (_x66 : Int) (_x67 : Int) (_x68 : Int) (_x69 : Int) (_x70 : Int) (_x71 : Int) (_x72 : Int) : Int :=
  x65
noncomputable def t100700_11 (_x16 : List DV) (_x56 : Int) (_x57 : Int) (_x58 : Int) (_x59 : Int) (_x60 : Int) (_x61 : Int) (_x62 : Int) (_x63 : Int) (_x64 : Int) (_x65 : Int) (x66 : Int) (_x67 : Int) (_x68 : Int) (_x69 : Int) (_x70 : Int) (_x71 : Int) (_x72 : Int) : Int :=
  x66
noncomputable def t100700_12 (_x16 : List DV) (_x56 : Int) (_x57 : Int) (_x58 : Int) (_x59 : Int) (_x60 : Int) (_x61 : Int) (_x62 : Int) (_x63 : Int) (_x64 : Int) (_x65 : Int) (_x66 : Int) (x67 : Int) (_x68 : Int) (_x69 : Int) (_x70 : Int) (_x71 : Int) (_x72 : Int) : Int :=
  x67
noncomputable def t100700_13 (_x16 : List DV) (_x56 : Int) (_x57 : Int) (_x58 : Int) (_x59 : Int) (_x60 : Int) (_x61 : Int) (_x62 : Int) (_x63 : Int) (_x64 : Int) (_x65 : Int) (_x66 : Int) (_x67 : Int) (x68 : Int) (_x69 : Int) (_x70 : Int) (_x71 : Int) (_x72 : Int) : Int :=
  x68
noncomputable def t100700_14 (_x16 : List DV) (_x56 : Int) (_x57 : Int) (_x58 : Int) (_x59 : Int) (_x60 : Int) (_x61 : Int) (_x62 : Int) (_x63 : Int) (_x64 : Int) (_x65 : Int) (_x66 : Int) (_x67 : Int) (_x68 : Int) (x69 : Int) (_x70 : Int) (_x71 : Int) (_x72 : Int) : Int :=
  x69
noncomputable def t100700_15 (_x16 : List DV) (_x56 : Int) (_x57 : Int) (_x58 : Int) (_x59 : Int) (_x60 : Int) (_x61 : Int) (_x62 : Int) (_x63 : Int) (_x64 : Int) (_x65 : Int) (_x66 : Int) (_x67 : Int) (_x68 : Int) (_x69 : Int) (x70 : Int) (_x71 : Int) (_x72 : Int) : Int :=
  x70
noncomputable def t100700_16 (_x16 : List DV) (_x56 : Int) (_x57 : Int) (_x58 : Int) (_x59 : Int) (_x60 : Int) (_x61 : Int) (_x62 : Int) (_x63 : Int) (_x64 : Int) (_x65 : Int) (_x66 : Int) (_x67 : Int) (_x68 : Int) (_x69 : Int) (_x70 : Int) (x71 : Int) (_x72 : Int) : Int :=
  x71
noncomputable def t100700_17 (_x16 : List DV) (_x56 : Int) (_x57 : Int) (_x58 : Int) (_x59 : Int) (_x60 : Int) (_x61 : Int) (_x62 : Int) (_x63 : Int) (_x64 : Int) (_x65 : Int) (_x66 : Int) (_x67 : Int) (_x68 : Int) (_x69 : Int) (_x70 : Int) (_x71 : Int) (x72 : Int) : Int :=
  x72
noncomputable def W100700 (ds : List DV) : Bool := w100700 (dget ds 0).toL (dget ds 1).toI (dget ds 2).toI (dget ds 3).toI (dget ds 4).toI (dget ds 5).toI (dget ds 6).toI (dget ds 7).toI (dget ds 8).toI (dget ds 9).toI (dget ds 10).toI (dget ds 11).toI (dget ds 12).toI (dget ds 13).toI (dget ds 14).toI (dget ds 15).toI (dget ds 16).toI (dget ds 17).toI
noncomputable def C100700 (ds : List DV) : Bool := c100700 (dget ds 0).toL (dget ds 1).toI (dget ds 2).toI (dget ds 3).toI (dget ds 4).toI (dget ds 5).toI (dget ds 6).toI (dget ds 7).toI (dget ds 8).toI (dget ds 9).toI (dget ds 10).toI (dget ds 11).toI (dget ds 12).toI (dget ds 13).toI (dget ds 14).toI (dget ds 15).toI (dget ds 16).toI (dget ds 17).toI
noncomputable def N100700 (ds : List DV) : List DV := [.l (dget ds 0).toL, .i (n100700_0 (dget ds 0).toL (dget ds 1).toI (dget ds 2).toI (dget ds 3).toI (dget ds 4).toI (dget ds 5).toI (dget ds 6).toI (dget ds 7).toI (dget ds 8).toI (dget ds 9).toI (dget ds 10).toI (dget ds 11).toI (dget ds 12).toI (dget ds 13).toI (dget ds 14).toI (dget ds 15).toI (dget ds 16).toI (dget ds 17).toI), .i (n100700_1 (dget ds 0).toL (dget ds 1).toI (dget ds 2).toI (dget ds 3).toI (dget ds 4).toI (dget ds 5).toI (dget ds 6).toI (dget ds 7).toI (dget ds 8).toI (dget ds 9).toI (dget ds 10).toI (dget ds 11).toI (dget ds 12).toI (dget ds 13).toI (dget ds 14).toI (dget ds 15).toI (dget ds 16).toI (dget ds 17).toI), .i (n100700_2 (dget ds 0).toL (dget ds 1).toI (dget ds 2).toI (dget ds 3).toI (dget ds 4).toI (dget ds 5).toI (dget ds 6).toI (dget ds 7).toI (dget ds 8).toI (dget ds 9).toI (dget ds 10).toI (dget ds 11).toI (dget ds 12).toI (dget ds 13).toI (dget ds 14).toI (dget ds 15).toI (dget ds 16).toI (dget ds 17).toI), .i (n100700_3 (dget ds 0).toL (dget ds 1).toI (dget ds 2).toI (dget ds 3).toI (dget ds 4).toI (dget ds 5).toI (dget ds 6).toI (dget ds 7).toI (dget ds 8).toI (dget ds 9).toI (dget ds 10).toI (dget ds 11).toI (dget ds 12).toI (dget ds 13).toI (dget ds 14).toI (dget ds 15).toI (dget ds 16).toI (dget ds 17).toI), .i (n100700_4 (dget ds 0).toL (dget ds 1).toI (dget ds 2).toI (dget ds 3).toI (dget ds 4).toI (dget ds 5).toI (dget ds 6).toI (dget ds 7).toI (dget ds 8).toI (dget ds 9).toI (dget ds 10).toI (dget ds 11).toI (dget ds 12).toI (dget ds 13).toI (dget ds 14).toI (dget ds 15).toI (dget ds 16).toI (dget ds 17).toI), .i (n100700_5 (dget ds 0).toL (dget ds 1).toI (dget ds 2).toI (dget ds 3).toI (dget ds 4).toI (dget ds 5).toI (dget ds 6).toI (dget ds 7).toI (dget ds 8).toI (dget ds 9).toI (dget ds 10).toI (dget ds 11).toI (dget ds 12).toI (dget ds 13).toI (dget ds 14).toI (dget ds 15).toI (dget ds 16).toI (dget ds 17).toI), .i (n100700_6 (dget ds 0).toL (dget ds 1).toI (dget ds 2).toI (dget ds 3).toI (dget ds 4).toI (dget ds 5).toI (dget ds 6).toI (dget ds 7).toI (dget ds 8).toI (dget ds 9).toI (dget ds 10).toI (dget ds 11).toI (dget ds 12).toI (dget ds 13).toI (dget ds 14).toI (dget ds 15).toI (dget ds 16).toI (dget ds 17).toI), .i (n100700_7 (dget ds 0).toL (dget ds 1).toI (dget ds 2).toI (dget ds 3).toI (dget ds 4).toI (dget ds 5).toI (dget ds 6).toI (dget ds 7).toI (dget ds 8).toI (dget ds 9).toI (dget ds 10).toI (dget ds 11).toI (dget ds 12).toI (dget ds 13).toI (dget ds 14).toI (dget ds 15).toI (dget ds 16).toI (dget ds 17).toI), .i (n100700_8 (dget ds 0).toL (dget ds 1).toI (dget ds 2).toI (dget ds 3).toI (dget ds 4).toI (dget ds 5).toI (dget ds 6).toI (dget ds 7).toI (dget ds 8).toI (dget ds 9).toI (dget ds 10).toI (dget ds 11).toI (dget ds 12).toI (dget ds 13).toI (dget ds 14).toI (dget ds 15).toI (dget ds 16).toI (dget ds 17).toI), .i (n100700_9 (dget ds 0).toL (dget ds 1).toI (dget ds 2).toI (dget ds 3).toI (dget ds 4).toI (dget ds 5).toI (dget ds 6).toI (dget ds 7).toI (dget ds 8).toI (dget ds 9).toI (dget ds 10).toI (dget ds 11).toI (dget ds 12).toI (dget ds 13).toI (dget ds 14).toI (dget ds 15).toI (dget ds 16).toI (dget ds 17).toI), .i (n100700_10 (dget ds 0).toL (dget ds 1).toI (dget ds 2).toI (dget ds 3).toI (dget ds 4).toI (dget ds 5).toI (dget ds 6).toI (dget ds 7).toI (dget ds 8).toI (dget ds 9).toI (dget ds 10).toI (dget ds 11).toI (dget ds 12).toI (dget ds 13).toI (dget ds 14).toI (dget ds 15).toI (dget ds 16).toI (dget ds 17).toI), .i (n100700_11 (dget ds 0).toL (dget ds 1).toI (dget ds 2).toI (dget ds 3).toI (dget ds 4).toI (dget ds 5).toI (dget ds 6).toI (dget ds 7).toI (dget ds 8).toI (dget ds 9).toI (dget ds 10).toI (dget ds 11).toI (dget ds 12).toI (dget ds 13).toI (dget ds 14).toI (dget ds 15).toI (dget ds 16).toI (dget ds 17).toI), .i (n100700_12 (dget ds 0).toL (dget ds 1).toI (dget ds 2).toI (dget ds 3).toI (dget ds 4).toI (dget ds 5).toI (dget ds 6).toI (dget ds 7).toI (dget ds 8).toI (dget ds 9).toI (dget ds 10).toI (dget ds 11).toI (dget ds 12).toI (dget ds 13).toI (dget ds 14).toI (dget ds 15).toI (dget ds 16).toI (dget ds 17).toI), .i (n100700_13 (dget ds 0).toL (dget ds 1).toI (dget ds 2).toI (dget ds 3).toI (dget ds 4).toI (dget ds 5).toI (dget ds 6).toI (dget ds 7).toI (dget ds 8).toI (dget ds 9).toI (dget ds 10).toI (dget ds 11).toI (dget ds 12).toI (dget ds 13).toI (dget ds 14).toI (dget ds 15).toI (dget ds 16).toI (dget ds 17).toI), .i (n100700_14 (dget ds 0).toL (dget ds 1).toI (dget ds 2).toI (dget ds 3).toI (dget ds 4).toI (dget ds 5).toI (dget ds 6).toI (dget ds 7).toI (dget ds 8).toI (dget ds 9).toI (dget ds 10).toI (dget ds 11).toI (dget ds 12).toI (dget ds 13).toI (dget ds 14).toI (dget ds 15).toI (dget ds 16).toI (dget ds 17).toI), .i (n100700_15 (dget ds 0).toL (dget ds 1).toI (dget ds 2).toI (dget ds 3).toI (dget ds 4).toI (dget ds 5).toI (dget ds 6).toI (dget ds 7).toI (dget ds 8).toI (dget ds 9).toI (dget ds 10).toI (dget ds 11).toI (dget ds 12).toI (dget ds 13).toI (dget ds 14).toI (dget ds 15).toI (dget ds 16).toI (dget ds 17).toI), .i (n100700_16 (dget ds 0).toL (dget ds 1).toI (dget ds 2).toI (dget ds 3).toI (dget ds 4).toI (dget ds 5).toI (dget ds 6).toI (dget ds 7).toI (dget ds 8).toI (dget ds 9).toI (dget ds 10).toI (dget ds 11).toI (dget ds 12).toI (dget ds 13).toI (dget ds 14).toI (dget ds 15).toI (dget ds 16).toI (dget ds 17).toI)]
noncomputable def T100700 (ds : List DV) : List DV := [.i (t100700_0 (dget ds 0).toL (dget ds 1).toI (dget ds 2).toI (dget ds 3).toI (dget ds 4).toI (dget ds 5).toI (dget ds 6).toI (dget ds 7).toI (dget ds 8).toI (dget ds 9).toI (dget ds 10).toI (dget ds 11).toI (dget ds 12).toI (dget ds 13).toI (dget ds 14).toI (dget ds 15).toI (dget ds 16).toI (dget ds 17).toI), .i (t100700_1 (dget ds 0).toL (dget ds 1).toI (dget ds 2).toI (dget ds 3).toI (dget ds 4).toI (dget ds 5).toI (dget ds 6).toI (dget ds 7).toI (dget ds 8).toI (dget ds 9).toI (dget ds 10).toI (dget ds 11).toI (dget ds 12).toI (dget ds 13).toI (dget ds 14).toI (dget ds 15).toI (dget ds 16).toI (dget ds 17).toI), .i (t100700_2 (dget ds 0).toL (dget ds 1).toI (dget ds 2).toI (dget ds 3).toI (dget ds 4).toI (dget ds 5).toI (dget ds 6).toI (dget ds 7).toI (dget ds 8).toI (dget ds 9).toI (dget ds 10).toI (dget ds 11).toI (dget ds 12).toI (dget ds 13).toI (dget ds 14).toI (dget ds 15).toI (dget ds 16).toI (dget ds 17).toI), .i (t100700_3 (dget ds 0).toL (dget ds 1).toI (dget ds 2).toI (dget ds 3).toI (dget ds 4).toI (dget ds 5).toI (dget ds 6).toI (dget ds 7).toI (dget ds 8).toI (dget ds 9).toI (dget ds 10).toI (dget ds 11).toI (dget ds 12).toI (dget ds 13).toI (dget ds 14).toI (dget ds 15).toI (dget ds 16).toI (dget ds 17).toI), .i (t100700_4 (dget ds 0).toL (dget ds 1).toI (dget ds 2).toI (dget ds 3).toI (dget ds 4).toI (dget ds 5).toI (dget ds 6).toI (dget ds 7).toI (dget ds 8).toI (dget ds 9).toI (dget ds 10).toI (dget ds 11).toI (dget ds 12).toI (dget ds 13).toI (dget ds 14).toI (dget ds 15).toI (dget ds 16).toI (dget ds 17).toI), .i (t100700_5 (dget ds 0).toL (dget ds 1).toI (dget ds 2).toI (dget ds 3).toI (dget ds 4).toI (dget ds 5).toI (dget ds 6).toI (dget ds 7).toI (dget ds 8).toI (dget ds 9).toI (dget ds 10).toI (dget ds 11).toI (dget ds 12).toI (dget ds 13).toI (dget ds 14).toI (dget ds 15).toI (dget ds 16).toI (dget ds 17).toI), .i (t100700_6 (dget ds 0).toL (dget ds 1).toI (dget ds 2).toI (dget ds 3).toI (dget ds 4).toI (dget ds 5).toI (dget ds 6).toI (dget ds 7).toI (dget ds 8).toI (dget ds 9).toI (dget ds 10).toI (dget ds 11).toI (dget ds 12).toI (dget ds 13).toI (dget ds 14).toI (dget ds 15).toI (dget ds 16).toI (dget ds 17).toI), .i (t100700_7 (dget ds 0).toL (dget ds 1).toI (dget ds 2).toI (dget ds 3).toI (dget ds 4).toI (dget ds 5).toI (dget ds 6).toI (dget ds 7).toI (dget ds 8).toI (dget ds 9).toI (dget ds 10).toI (dget ds 11).toI (dget ds 12).toI (dget ds 13).toI (dget ds 14).toI (dget ds 15).toI (dget ds 16).toI (dget ds 17).toI), .i (t100700_8 (dget ds 0).toL (dget ds 1).toI (dget ds 2).toI (dget ds 3).toI (dget ds 4).toI (dget ds 5).toI (dget ds 6).toI (dget ds 7).toI (dget ds 8).toI (dget ds 9).toI (dget ds 10).toI (dget ds 11).toI (dget ds 12).toI (dget ds 13).toI (dget ds 14).toI (dget ds 15).toI (dget ds 16).toI (dget ds 17).toI), .i (t100700_9 (dget ds 0).toL (dget ds 1).toI (dget ds 2).toI (dget ds 3).toI (dget ds 4).toI (dget ds 5).toI (dget ds 6).toI (dget ds 7).toI (dget ds 8).toI (dget ds 9).toI (dget ds 10).toI (dget ds 11).toI (dget ds 12).toI (dget ds 13).toI (dget ds 14).toI (dget ds 15).toI (dget ds 16).toI (dget ds 17).toI), .i (t100700_10 (dget ds 0).toL (dget ds 1).toI (dget ds 2).toI (dget ds 3).toI (dget ds 4).toI (dget ds 5).toI (dget ds 6).toI (dget ds 7).toI (dget ds 8).toI (dget ds 9).toI (dget ds 10).toI (dget ds 11).toI (dget ds 12).toI (dget ds 13).toI (dget ds 14).toI (dget ds 15).toI (dget ds 16).toI (dget ds 17).toI), .i (t100700_11 (dget ds 0).toL (dget ds 1).toI (dget ds 2).toI (dget ds 3).toI (dget ds 4).toI (dget ds 5).toI (dget ds 6).toI (dget ds 7).toI (dget ds 8).toI (dget ds 9).toI (dget ds 10).toI (dget ds 11).toI (dget ds 12).toI (dget ds 13).toI (dget ds 14).toI (dget ds 15).toI (dget ds 16).toI (dget ds 17).toI), .i (t100700_12 (dget ds 0).toL (dget ds 1).toI (dget ds 2).toI (dget ds 3).toI (dget ds 4).toI (dget ds 5).toI (dget ds 6).toI (dget ds 7).toI (dget ds 8).toI (dget ds 9).toI (dget ds 10).toI (dget ds 11).toI (dget ds 12).toI (dget ds 13).toI (dget ds 14).toI (dget ds 15).toI (dget ds 16).toI (dget ds 17).toI), .i (t100700_13 (dget ds 0).toL (dget ds 1).toI (dget ds 2).toI (dget ds 3).toI (dget ds 4).toI (dget ds 5).toI (dget ds 6).toI (dget ds 7).toI (dget ds 8).toI (dget ds 9).toI (dget ds 10).toI (dget ds 11).toI (dget ds 12).toI (dget ds 13).toI (dget ds 14).toI (dget ds 15).toI (dget ds 16).toI (dget ds 17).toI), .i (t100700_14 (dget ds 0).toL (dget ds 1).toI (dget ds 2).toI (dget ds 3).toI (dget ds 4).toI (dget ds 5).toI (dget ds 6).toI (dget ds 7).toI (dget ds 8).toI (dget ds 9).toI (dget ds 10).toI (dget ds 11).toI (dget ds 12).toI (dget ds 13).toI (dget ds 14).toI (dget ds 15).toI (dget ds 16).toI (dget ds 17).toI), .i (t100700_15 (dget ds 0).toL (dget ds 1).toI (dget ds 2).toI (dget ds 3).toI (dget ds 4).toI (dget ds 5).toI (dget ds 6).toI (dget ds 7).toI (dget ds 8).toI (dget ds 9).toI (dget ds 10).toI (dget ds 11).toI (dget ds 12).toI (dget ds 13).toI (dget ds 14).toI (dget ds 15).toI (dget ds 16).toI (dget ds 17).toI), .i (t100700_16 (dget ds 0).toL (dget ds 1).toI (dget ds 2).toI (dget ds 3).toI (dget ds 4).toI (dget ds 5).toI (dget ds 6).toI (dget ds 7).toI (dget ds 8).toI (dget ds 9).toI (dget ds 10).toI (dget ds 11).toI (dget ds 12).toI (dget ds 13).toI (dget ds 14).toI (dget ds 15).toI (dget ds 16).toI (dget ds 17).toI), .i (t100700_17 (dget ds 0).toL (dget ds 1).toI (dget ds 2).toI (dget ds 3).toI (dget ds 4).toI (dget ds 5).toI (dget ds 6).toI (dget ds 7).toI (dget ds 8).toI (dget ds 9).toI (dget ds 10).toI (dget ds 11).toI (dget ds 12).toI (dget ds 13).toI (dget ds 14).toI (dget ds 15).toI (dget ds 16).toI (dget ds 17).toI)]
noncomputable def L100700 (x0 : List DV) (x1 : Int) (x2 : Int) (x3 : Int) (x4 : Int) (x5 : Int) (x6 : Int) (x7 : Int) (x8 : Int) (x9 : Int) (x10 : Int) (x11 : Int) (x12 : Int) (x13 : Int) (x14 : Int) (x15 : Int) (x16 : Int) (x17 : Int) : Option (List DV) := loopG W100700 C100700 N100700 T100700 [.l x0, .i x1, .i x2, .i x3, .i x4, .i x5, .i x6, .i x7, .i x8, .i x9, .i x10, .i x11, .i x12, .i x13, .i x14, .i x15, .i x16, .i x17]
noncomputable def p100700 (x0 : List DV) (x1 : Int) (x2 : Int) (x3 : Int) (x4 : Int) (x5 : Int) (x6 : Int) (x7 : Int) (x8 : Int) (x9 : Int) (x10 : Int) (x11 : Int) (x12 : Int) (x13 : Int) (x14 : Int) (x15 : Int) (x16 : Int) (x17 : Int) : Bool := (L100700 x0 x1 x2 x3 x4 x5 x6 x7 x8 x9 x10 x11 x12 x13 x14 x15 x16 x17).isSome
noncomputable def r100700_0 (x0 : List DV) (x1 : Int) (x2 : Int) (x3 : Int) (x4 : Int) (x5 : Int) (x6 : Int) (x7 : Int) (x8 : Int) (x9 : Int) (x10 : Int) (x11 : Int) (x12 : Int) (x13 : Int) (x14 : Int) (x15 : Int) (x16 : Int) (x17 : Int) : Int := (dget ((L100700 x0 x1 x2 x3 x4 x5 x6 x7 x8 x9 x10 x11 x12 x13 x14 x15 x16 x17).getD []) 0).toI
noncomputable def r100700_1 (x0 : List DV) (x1 : Int) (x2 : Int) (x3 : Int) (x4 : Int) (x5 : Int) (x6 : Int) (x7 : Int) (x8 : Int) (x9 : Int) (x10 : Int) (x11 : Int) (x12 : Int) (x13 : Int) (x14 : Int) (x15 : Int) (x16 : Int) (x17 : Int) : Int := (dget ((L100700 x0 x1 x2 x3 x4 x5 x6 x7 x8 x9 x10 x11 x12 x13 x14 x15 x16 x17).getD []) 1).toI
noncomputable def r100700_2 (x0 : List DV) (x1 : Int) (x2 : Int) (x3 : Int) (x4 : Int) (x5 : Int) (x6 : Int) (x7 : Int) (x8 : Int) (x9 : Int) (x10 : Int) (x11 : Int) (x12 : Int) (x13 : Int) (x14 : Int) (x15 : Int) (x16 : Int) (x17 : Int) : Int := (dget ((L100700 x0 x1 x2 x3 x4 x5 x6 x7 x8 x9 x10 x11 x12 x13 x14 x15 x16 x17).getD []) 2).toI
noncomputable def r100700_3 (x0 : List DV) (x1 : Int) (x2 : Int) (x3 : Int) (x4 : Int) (x5 : Int) (x6 : Int) (x7 : Int) (x8 : Int) (x9 : Int) (x10 : Int) (x11 : Int) (x12 : Int) (x13 : Int) (x14 : Int) (x15 : Int) (x16 : Int) (x17 : Int) : Int := (dget ((L100700 x0 x1 x2 x3 x4 x5 x6 x7 x8 x9 x10 x11 x12 x13 x14 x15 x16 x17).getD []) 3).toI
noncomputable def r100700_4 (x0 : List DV) (x1 : Int) (x2 : Int) (x3 : Int) (x4 : Int) (x5 : Int) (x6 : Int) (x7 : Int) (x8 : Int) (x9 : Int) (x10 : Int) (x11 : Int) (x12 : Int) (x13 : Int) (x14 : Int) (x15 : Int) (x16 : Int) (x17 : Int) : Int := (dget ((L100700 x0 x1 x2 x3 x4 x5 x6 x7 x8 x9 x10 x11 x12 x13 x14 x15 x16 x17).getD []) 4).toI
noncomputable def r100700_5 (x0 : List DV) (x1 : Int) (x2 : Int) (x3 : Int) (x4 : Int) (x5 : Int) (x6 : Int) (x7 : Int) (x8 : Int) (x9 : Int) (x10 : Int) (x11 : Int) (x12 : Int) (x13 : Int) (x14 : Int) (x15 : Int) (x16 : Int) (x17 : Int) : Int := (dget ((L100700 x0 x1 x2 x3 x4 x5 x6 x7 x8 x9 x10 x11 x12 x13 x14 x15 x16 x17).getD []) 5).toI
noncomputable def r100700_6 (x0 : List DV) (x1 : Int) (x2 : Int) (x3 : Int) (x4 : Int) (x5 : Int) (x6 : Int) (x7 : Int) (x8 : Int) (x9 : Int) (x10 : Int) (x11 : Int) (x12 : Int) (x13 : Int) (x14 : Int) (x15 : Int) (x16 : Int) (x17 : Int) : Int := (dget ((L100700 x0 x1 x2 x3 x4 x5 x6 x7 x8 x9 x10 x11 x12 x13 x14 x15 x16 x17).getD []) 6).toI
noncomputable def r100700_7 (x0 : List DV) (x1 : Int) (x2 : Int) (x3 : Int) (x4 : Int) (x5 : Int) (x6 : Int) (x7 : Int) (x8 : Int) (x9 : Int) (x10 : Int) (x11 : Int) (x12 : Int) (x13 : Int) (x14 : Int) (x15 : Int) (x16 : Int) (x17 : Int) : Int := (dget ((L100700 x0 x1 x2 x3 x4 x5 x6 x7 x8 x9 x10 x11 x12 x13 x14 x15 x16 x17).getD []) 7).toI
noncomputable def r100700_8 (x0 : List DV) (x1 : Int) (x2 : Int) (x3 : Int) (x4 : Int) (x5 : Int) (x6 : Int) (x7 : Int) (x8 : Int) (x9 : Int) (x10 : Int) (x11 : Int) (x12 : Int) (x13 : Int) (x14 : Int) (x15 : Int) (x16 : Int) (x17 : Int) : Int := (dget ((L100700 x0 x1 x2 x3 x4 x5 x6 x7 x8 x9 x10 x11 x12 x13 x14 x15 x16 x17).getD []) 8).toI
noncomputable def r100700_9 (x0 : List DV) (x1 : Int) (x2 : Int) (x3 : Int) (x4 : Int) (x5 : Int) (x6 : Int) (x7 : Int) (x8 : Int) (x9 : Int) (x10 : Int) (x11 : Int) (x12 : Int) (x13 : Int) (x14 : Int) (x15 : Int) (x16 : Int) (x17 : Int) : Int := (dget ((L100700 x0 x1 x2 x3 x4 x5 x6 x7 x8 x9 x10 x11 x12 x13 x14 x15 x16 x17).getD []) 9).toI
noncomputable def r100700_10 (x0 : List DV) (x1 : Int) (x2 : Int) (x3 : Int) (x4 : Int) (x5 : Int) (x6 : Int) (x7 : Int) (x8 : Int) (x9 : Int) (x10 : Int) (x11 : Int) (x12 : Int) (x13 : Int) (x14 : Int) (x15 : Int) (x16 : Int) (x17 : Int) : Int := (dget ((L100700 x0 x1 x2 x3 x4 x5 x6 x7 x8 x9 x10 x11 x12 x13 x14 x15 x16 x17).getD []) 10).toI
noncomputable def r100700_11 (x0 : List DV) (x1 : Int) (x2 : Int) (x3 : Int) (x4 : Int) (x5 : Int) (x6 : Int) (x7 : Int) (x8 : Int) (x9 : Int) (x10 : Int) (x11 : Int) (x12 : Int) (x13 : Int) (x14 : Int) (x15 : Int) (x16 : Int) (x17 : Int) : Int := (dget ((L100700 x0 x1 x2 x3 x4 x5 x6 x7 x8 x9 x10 x11 x12 x13 x14 x15 x16 x17).getD []) 11).toI
noncomputable def r100700_12 (x0 : List DV) (x1 : Int) (x2 : Int) (x3 : Int) (x4 : Int) (x5 : Int) (x6 : Int) (x7 : Int) (x8 : Int) (x9 : Int) (x10 : Int) (x11 : Int) (x12 : Int) (x13 : Int) (x14 : Int) (x15 : Int) (x16 : Int) (x17 : Int) : Int := (dget ((L100700 x0 x1 x2 x3 x4 x5 x6 x7 x8 x9 x10 x11 x12 x13 x14 x15 x16 x17).getD []) 12).toI
noncomputable def r100700_13 (x0 : List DV) (x1 : Int) (x2 : Int) (x3 : Int) (x4 : Int) (x5 : Int) (x6 : Int) (x7 : Int) (x8 : Int) (x9 : Int) (x10 : Int) (x11 : Int) (x12 : Int) (x13 : Int) (x14 : Int) (x15 : Int) (x16 : Int) (x17 : Int) : Int := (dget ((L100700 x0 x1 x2 x3 x4 x5 x6 x7 x8 x9 x10 x11 x12 x13 x14 x15 x16 x17).getD []) 13).toI
noncomputable def r100700_14 (x0 : List DV) (x1 : Int) (x2 : Int) (x3 : Int) (x4 : Int) (x5 : Int) (x6 : Int) (x7 : Int) (x8 : Int) (x9 : Int) (x10 : Int) (x11 : Int) (x12 : Int) (x13 : Int) (x14 : Int) (x15 : Int) (x16 : Int) (x17 : Int) : Int := (dget ((L100700 x0 x1 x2 x3 x4 x5 x6 x7 x8 x9 x10 x11 x12 x13 x14 x15 x16 x17).getD []) 14).toI
noncomputable def r100700_15 (x0 : List DV) (x1 : Int) (x2 : Int) (x3 : Int) (x4 : Int) (x5 : Int) (x6 : Int) (x7 : Int) (x8 : Int) (x9 : Int) (x10 : Int) (x11 : Int) (x12 : Int) (x13 : Int) (x14 : Int) (x15 : Int) (x16 : Int) (x17 : Int) : Int := (dget ((L100700 x0 x1 x2 x3 x4 x5 x6 x7 x8 x9 x10 x11 x12 x13 x14 x15 x16 x17).getD []) 15).toI
noncomputable def r100700_16 (x0 : List DV) (x1 : Int) (x2 : Int) (x3 : Int) (x4 : Int) (x5 : Int) (x6 : Int) (x7 : Int) (x8 : Int) (x9 : Int) (x10 : Int) (x11 : Int) (x12 : Int) (x13 : Int) (x14 : Int) (x15 : Int) (x16 : Int) (x17 : Int) : Int := (dget ((L100700 x0 x1 x2 x3 x4 x5 x6 x7 x8 x9 x10 x11 x12 x13 x14 x15 x16 x17).getD []) 16).toI
noncomputable def r100700_17 (x0 : List DV) (x1 : Int) (x2 : Int) (x3 : Int) (x4 : Int) (x5 : Int) (x6 : Int) (x7 : Int) (x8 : Int) (x9 : Int) (x10 : Int) (x11 : Int) (x12 : Int) (x13 : Int) (x14 : Int) (x15 : Int) (x16 : Int) (x17 : Int) : Int := (dget ((L100700 x0 x1 x2 x3 x4 x5 x6 x7 x8 x9 x10 x11 x12 x13 x14 x15 x16 x17).getD []) 17).toI
noncomputable def g100700 (ds : List DV) : List DV := [.b (p100700 (dget ds 0).toL (dget ds 1).toI (dget ds 2).toI (dget ds 3).toI (dget ds 4).toI (dget ds 5).toI (dget ds 6).toI (dget ds 7).toI (dget ds 8).toI (dget ds 9).toI (dget ds 10).toI (dget ds 11).toI (dget ds 12).toI (dget ds 13).toI (dget ds 14).toI (dget ds 15).toI (dget ds 16).toI (dget ds 17).toI), .i (r100700_0 (dget ds 0).toL (dget ds 1).toI (dget ds 2).toI (dget ds 3).toI (dget ds 4).toI (dget ds 5).toI (dget ds 6).toI (dget ds 7).toI (dget ds 8).toI (dget ds 9).toI (dget ds 10).toI (dget ds 11).toI (dget ds 12).toI (dget ds 13).toI (dget ds 14).toI (dget ds 15).toI (dget ds 16).toI (dget ds 17).toI), .i (r100700_1 (dget ds 0).toL (dget ds 1).toI (dget ds 2).toI (dget ds 3).toI (dget ds 4).toI (dget ds 5).toI (dget ds 6).toI (dget ds 7).toI (dget ds 8).toI (dget ds 9).toI (dget ds 10).toI (dget ds 11).toI (dget ds 12).toI (dget ds 13).toI (dget ds 14).toI (dget ds 15).toI (dget ds 16).toI (dget ds 17).toI), .i (r100700_2 (dget ds 0).toL (dget ds 1).toI (dget ds 2).toI (dget ds 3).toI (dget ds 4).toI (dget ds 5).toI (dget ds 6).toI (dget ds 7).toI (dget ds 8).toI (dget ds 9).toI (dget ds 10).toI (dget ds 11).toI (dget ds 12).toI (dget ds 13).toI (dget ds 14).toI (dget ds 15).toI (dget ds 16).toI (dget ds 17).toI), .i (r100700_3 (dget ds 0).toL (dget ds 1).toI (dget ds 2).toI (dget ds 3).toI (dget ds 4).toI (dget ds 5).toI (dget ds 6).toI (dget ds 7).toI (dget ds 8).toI (dget ds 9).toI (dget ds 10).toI (dget ds 11).toI (dget ds 12).toI (dget ds 13).toI (dget ds 14).toI (dget ds 15).toI (dget ds 16).toI (dget ds 17).toI), .i (r100700_4 (dget ds 0).toL (dget ds 1).toI (dget ds 2).toI (dget ds 3).toI (dget ds 4).toI (dget ds 5).toI (dget ds 6).toI (dget ds 7).toI (dget ds 8).toI (dget ds 9).toI (dget ds 10).toI (dget ds 11).toI (dget ds 12).toI (dget ds 13).toI (dget ds 14).toI (dget ds 15).toI (dget ds 16).toI (dget ds 17).toI), .i (r100700_5 (dget ds 0).toL (dget ds 1).toI (dget ds 2).toI (dget ds 3).toI (dget ds 4).toI (dget ds 5).toI (dget ds 6).toI (dget ds 7).toI (dget ds 8).toI (dget ds 9).toI (dget ds 10).toI (dget ds 11).toI (dget ds 12).toI (dget ds 13).toI (dget ds 14).toI (dget ds 15).toI (dget ds 16).toI (dget ds 17).toI), .i (r100700_6 (dget ds 0).toL (dget ds 1).toI (dget ds 2).toI (dget ds 3).toI (dget ds 4).toI (dget ds 5).toI (dget ds 6).toI (dget ds 7).toI (dget ds 8).toI (dget ds 9).toI (dget ds 10).toI (dget ds 11).toI (dget ds 12).toI (dget ds 13).toI (dget ds 14).toI (dget ds 15).toI (dget ds 16).toI (dget ds 17).toI), .i (r100700_7 (dget ds 0).toL (dget ds 1).toI (dget ds 2).toI (dget ds 3).toI (dget ds 4).toI (dget ds 5).toI (dget ds 6).toI (dget ds 7).toI (dget ds 8).toI (dget ds 9).toI (dget ds 10).toI (dget ds 11).toI (dget ds 12).toI (dget ds 13).toI (dget ds 14).toI (dget ds 15).toI (dget ds 16).toI (dget ds 17).toI), .i (r100700_8 (dget ds 0).toL (dget ds 1).toI (dget ds 2).toI (dget ds 3).toI (dget ds 4).toI (dget ds 5).toI (dget ds 6).toI (dget ds 7).toI (dget ds 8).toI (dget ds 9).toI (dget ds 10).toI (dget ds 11).toI (dget ds 12).toI (dget ds 13).toI (dget ds 14).toI (dget ds 15).toI (dget ds 16).toI (dget ds 17).toI), .i (r100700_9 (dget ds 0).toL (dget ds 1).toI (dget ds 2).toI (dget ds 3).toI (dget ds 4).toI (dget ds 5).toI (dget ds 6).toI (dget ds 7).toI (dget ds 8).toI (dget ds 9).toI (dget ds 10).toI (dget ds 11).toI (dget ds 12).toI (dget ds 13).toI (dget ds 14).toI (dget ds 15).toI (dget ds 16).toI (dget ds 17).toI), .i (r100700_10 (dget ds 0).toL (dget ds 1).toI (dget ds 2).toI (dget ds 3).toI (dget ds 4).toI (dget ds 5).toI (dget ds 6).toI (dget ds 7).toI (dget ds 8).toI (dget ds 9).toI (dget ds 10).toI (dget ds 11).toI (dget ds 12).toI (dget ds 13).toI (dget ds 14).toI (dget ds 15).toI (dget ds 16).toI (dget ds 17).toI), .i (r100700_11 (dget ds 0).toL (dget ds 1).toI (dget ds 2).toI (dget ds 3).toI (dget ds 4).toI (dget ds 5).toI (dget ds 6).toI (dget ds 7).toI (dget ds 8).toI (dget ds 9).toI (dget ds 10).toI (dget ds 11).toI (dget ds 12).toI (dget ds 13).toI (dget ds 14).toI (dget ds 15).toI (dget ds 16).toI (dget ds 17).toI), .i (r100700_12 (dget ds 0).toL (dget ds 1).toI (dget ds 2).toI (dget ds 3).toI (dget ds 4).toI (dget ds 5).toI (dget ds 6).toI (dget ds 7).toI (dget ds 8).toI (dget ds 9).toI (dget ds 10).toI (dget ds 11).toI (dget ds 12).toI (dget ds 13).toI (dget ds 14).toI (dget ds 15).toI (dget ds 16).toI (dget ds 17).toI), .i (r100700_13 (dget ds 0).toL (dget ds 1).toI (dget ds 2).toI (dget ds 3).toI (dget ds 4).toI (dget ds 5).toI (dget ds 6).toI (dget ds 7).toI (dget ds 8).toI (dget ds 9).toI (dget ds 10).toI (dget ds 11).toI (dget ds 12).toI (dget ds 13).toI (dget ds 14).toI (dget ds 15).toI (dget ds 16).toI (dget ds 17).toI), .i (r100700_14 (dget ds 0).toL (dget ds 1).toI (dget ds 2).toI (dget ds 3).toI (dget ds 4).toI (dget ds 5).toI (dget ds 6).toI (dget ds 7).toI (dget ds 8).toI (dget ds 9).toI (dget ds 10).toI (dget ds 11).toI (dget ds 12).toI (dget ds 13).toI (dget ds 14).toI (dget ds 15).toI (dget ds 16).toI (dget ds 17).toI), .i (r100700_15 (dget ds 0).toL (dget ds 1).toI (dget ds 2).toI (dget ds 3).toI (dget ds 4).toI (dget ds 5).toI (dget ds 6).toI (dget ds 7).toI (dget ds 8).toI (dget ds 9).toI (dget ds 10).toI (dget ds 11).toI (dget ds 12).toI (dget ds 13).toI (dget ds 14).toI (dget ds 15).toI (dget ds 16).toI (dget ds 17).toI), .i (r100700_16 (dget ds 0).toL (dget ds 1).toI (dget ds 2).toI (dget ds 3).toI (dget ds 4).toI (dget ds 5).toI (dget ds 6).toI (dget ds 7).toI (dget ds 8).toI (dget ds 9).toI (dget ds 10).toI (dget ds 11).toI (dget ds 12).toI (dget ds 13).toI (dget ds 14).toI (dget ds 15).toI (dget ds 16).toI (dget ds 17).toI), .i (r100700_17 (dget ds 0).toL (dget ds 1).toI (dget ds 2).toI (dget ds 3).toI (dget ds 4).toI (dget ds 5).toI (dget ds 6).toI (dget ds 7).toI (dget ds 8).toI (dget ds 9).toI (dget ds 10).toI (dget ds 11).toI (dget ds 12).toI (dget ds 13).toI (dget ds 14).toI (dget ds 15).toI (dget ds 16).toI (dget ds 17).toI)]
def l7_0 : LR := ⟨100700, 56, 17, [16], [(73, .llen 1 (.r 16)), (74, .lss (.r 56) (.r 73)), (75, .rem .i64 (.r 56) (.z 3)), (76, .eql (.r 75) (.z 0)), (77, .geq (.r 56) (.z 0)), (78, .llen 1 (.r 16)), (79, .lss (.r 56) (.r 78)), (80, .lgeti 1 0 (.r 16) (.r 56))] ++ callsAt 81 13 (idsFrom 57 8 ++ [.r 80]) 0 8 ++ [(89, .geq (.r 56) (.z 0)), (90, .llen 1 (.r 16)), (91, .lss (.r 56) (.r 90)), (92, .lgeti 1 0 (.r 16) (.r 56)), (93, .shr .u64 (.r 92) (.z 60)), (94, .conv .i64 (.r 93)), (95, .geq (.r 56) (.z 0)), (96, .llen 1 (.r 16)), (97, .lss (.r 56) (.r 96)), (98, .lgeti 1 0 (.r 16) (.r 56))] ++ callsAt 99 15 (idsFrom 57 16 ++ [.r 94, .r 98]) 0 9 ++ [(108, .itei (.r 76) (.r 81) (.r 57)), (109, .itei (.r 76) (.r 82) (.r 58)), (110, .itei (.r 76) (.r 83) (.r 59)), (111, .itei (.r 76) (.r 84) (.r 60)), (112, .itei (.r 76) (.r 85) (.r 61)), (113, .itei (.r 76) (.r 86) (.r 62)), (114, .itei (.r 76) (.r 87) (.r 63)), (115, .itei (.r 76) (.r 88) (.r 64)), (116, .itei (.r 76) (.r 65) (.r 100)), (117, .itei (.r 76) (.r 66) (.r 101)), (118, .itei (.r 76) (.r 67) (.r 102)), (119, .itei (.r 76) (.r 68) (.r 103)), (120, .itei (.r 76) (.r 69) (.r 104)), (121, .itei (.r 76) (.r 70) (.r 105)), (122, .itei (.r 76) (.r 71) (.r 106)), (123, .itei (.r 76) (.r 72) (.r 107)), (124, .add .i64 (.r 56) (.z 1))], [⟨[(.r 74, true), (.r 76, true)], .r 77⟩, ⟨[(.r 74, true), (.r 76, true)], .r 79⟩, ⟨[(.r 74, true), (.r 76, false)], .r 89⟩, ⟨[(.r 74, true), (.r 76, false)], .r 91⟩, ⟨[(.r 74, true), (.r 76, false)], .r 95⟩, ⟨[(.r 74, true), (.r 76, false)], .r 97⟩, ⟨[(.r 74, true), (.r 76, false)], .r 99⟩], .r 74, ([.r 124] ++ idsFrom 108 16), ([.z 0] ++ idsFrom 56 17), [.i, .i, .i, .i, .i, .i, .i, .i, .i, .i, .i, .i, .i, .i, .i, .i, .i]⟩
def s7 : Sig := ⟨[.s (.agg [.i .u8 (.h 0), .i .u8 (.h 1), .i .u8 (.h 2), .i .u8 (.h 3), .i .u8 (.h 4), .i .u8 (.h 5), .i .u8 (.h 6), .i .u8 (.h 7)]), .s (.agg [.i .u64 (.h 8), .i .u64 (.h 9), .i .u64 (.h 10), .i .u64 (.h 11), .i .u64 (.h 12), .i .u64 (.h 13), .i .u64 (.h 14), .i .u64 (.h 15)]), .s (.one (.vec 0)), .s (.one (.i .i64 (.h 17))), .s (.one (.i .i64 (.h 18))), .s (.one (.i .i64 (.h 19))), .s (.one (.i .u64 (.h 20))), .s (.one (.i .i64 (.h 21)))], [some (.v false [.int .u64] (.h 16))], [.i, .i, .i, .i, .i, .i, .i, .i, .i, .i, .i, .i, .i, .i, .i, .i, .l, .i, .i, .i, .i, .i], .s (.one (.b (.h 0))), [], [.b], true⟩
def o7 : Out := ⟨[(22, .call 10 [] 0), (23, .call 10 [] 1), (24, .not (.r 23)), (25, .not (.r 24)), (26, .lss (.r 17) (.z 0)), (27, .geq (.r 17) (.z 8)), (28, .or (.r 26) (.r 27)), (29, .itei (.r 28) (.z 0) (.r 17)), (30, .geq (.r 29) (.z 0)), (31, .lss (.r 29) (.z 8)), (32, .seli (idsFrom 0 8) (.r 29)), (33, .lor .u8 (.r 32) (.z 128)), (34, .geq (.r 29) (.z 0)), (35, .lss (.r 29) (.z 8)), (36, .eql (.r 29) (.z 0)), (37, .itei (.r 36) (.r 33) (.r 0)), (38, .eql (.r 29) (.z 1)), (39, .itei (.r 38) (.r 33) (.r 1)), (40, .eql (.r 29) (.z 2)), (41, .itei (.r 40) (.r 33) (.r 2)), (42, .eql (.r 29) (.z 3)), (43, .itei (.r 42) (.r 33) (.r 3)), (44, .eql (.r 29) (.z 4)), (45, .itei (.r 44) (.r 33) (.r 4)), (46, .eql (.r 29) (.z 5)), (47, .itei (.r 46) (.r 33) (.r 5)), (48, .eql (.r 29) (.z 6)), (49, .itei (.r 48) (.r 33) (.r 6)), (50, .eql (.r 29) (.z 7)), (51, .itei (.r 50) (.r 33) (.r 7))] ++ callsAt 52 8 ([.r 37, .r 39, .r 41, .r 43, .r 45, .r 47, .r 49, .r 51] ++ idsFrom 8 8 ++ [.r 29]) 0 4 ++ callsAt 56 100700 ([.r 16, .z 0, .r 37, .r 39, .r 41, .r 43, .r 45, .r 47, .r 49, .r 51] ++ idsFrom 8 8) 0 19 ++ callsAt 75 8 (idsFrom 59 16 ++ [.r 29]) 0 4 ++ [(79, .geq (.r 29) (.z 0)), (80, .lss (.r 29) (.z 8)), (81, .seli (idsFrom 59 8) (.r 29)), (82, .geq (.r 29) (.z 0)), (83, .lss (.r 29) (.z 8)), (84, .seli [.r 37, .r 39, .r 41, .r 43, .r 45, .r 47, .r 49, .r 51] (.r 29)), (85, .neq (.r 81) (.r 84)), (86, .neq (.r 76) (.r 53)), (87, .or (.r 85) (.r 86)), (88, .neq (.r 77) (.r 54)), (89, .or (.r 87) (.r 88)), (90, .bne (.r 78) (.r 55)), (91, .or (.r 89) (.r 90)), (92, .not (.r 91)), (93, .gtr (.r 29) (.z 0)), (94, .not (.r 55)), (95, .or (.r 93) (.r 94)), (96, .lss (.r 21) (.z 1)), (97, .or (.r 95) (.r 96)), (98, .gtr (.r 21) (.z 8)), (99, .or (.r 97) (.r 98)), (100, .lss (.r 20) (.r 53)), (101, .or (.r 99) (.r 100)), (102, .gtr (.r 20) (.r 54)), (103, .or (.r 101) (.r 102)), (104, .not (.r 103)), (105, .call 11 (idsFrom 59 16 ++ [.r 18, .r 19, .r 20, .r 21]) 0), (106, .call 11 (idsFrom 59 16 ++ [.r 18, .r 19, .r 20, .r 21]) 1), (107, .call 11 ([.r 37, .r 39, .r 41, .r 43, .r 45, .r 47, .r 49, .r 51] ++ idsFrom 8 8 ++ [.r 18, .r 19, .r 20, .r 21]) 0), (108, .call 11 ([.r 37, .r 39, .r 41, .r 43, .r 45, .r 47, .r 49, .r 51] ++ idsFrom 8 8 ++ [.r 18, .r 19, .r 20, .r 21]) 1), (109, .beq (.r 106) (.r 108)), (110, .iteb (.r 104) (.r 109) (.t true)), (111, .and (.r 92) (.r 110)), (112, .and (.r 25) (.r 111)), (113, .itei (.r 25) (.r 37) (.r 0)), (114, .itei (.r 25) (.r 39) (.r 1)), (115, .itei (.r 25) (.r 41) (.r 2)), (116, .itei (.r 25) (.r 43) (.r 3)), (117, .itei (.r 25) (.r 45) (.r 4)), (118, .itei (.r 25) (.r 47) (.r 5)), (119, .itei (.r 25) (.r 49) (.r 6)), (120, .itei (.r 25) (.r 51) (.r 7))],
  [⟨[], .r 22⟩, ⟨[(.r 25, true)], .r 30⟩, ⟨[(.r 25, true)], .r 31⟩, ⟨[(.r 25, true)], .r 34⟩, ⟨[(.r 25, true)], .r 35⟩, ⟨[(.r 25, true)], .r 52⟩, ⟨[(.r 25, true)], .r 56⟩, ⟨[(.r 25, true)], .r 75⟩, ⟨[(.r 25, true)], .r 79⟩, ⟨[(.r 25, true)], .r 80⟩, ⟨[(.r 25, true)], .r 82⟩, ⟨[(.r 25, true)], .r 83⟩, ⟨[(.r 25, true), (.r 92, true), (.r 104, true)], .r 105⟩, ⟨[(.r 25, true), (.r 92, true), (.r 104, true)], .r 107⟩],
  [l7_0],
  [.r 112]⟩
noncomputable def p7 (x0 : Int) (x1 : Int) (x2 : Int) (x3 : Int) (x4 : Int) (x5 : Int) (x6 : Int) (x7 : Int) (x8 : Int) (x9 : Int) (x10 : Int) (x11 : Int) (x12 : Int) (x13 : Int) (x14 : Int) (x15 : Int) (x16 : List DV) (x17 : Int) (x19 : Int) (x20 : Int) (x21 : Int) : Bool :=
  let x22 := p10 
  let x23 := r10_0 
  let x24 := !x23
  let x25 := !x24
  let x26 := decide (x17 < 0)
  let x27 := decide (x17 ≥ 8)
  let x28 := x26 || x27
  let x29 := bif x28 then 0 else x17
  let x30 := decide (x29 ≥ 0)
  let x31 := decide (x29 < 8)
  let x32 := [x0, x1, x2, x3, x4, x5, x6, x7].getD (Int.toNat x29) 0
  let x33 := ilor .u8 x32 128
  let x34 := decide (x29 ≥ 0)
  let x35 := decide (x29 < 8)
  let x36 := x29 == 0
  let x37 := bif x36 then x33 else x0
  let x38 := x29 == 1
  let x39 := bif x38 then x33 else x1
  let x40 := x29 == 2
  let x41 := bif x40 then x33 else x2
  let x42 := x29 == 3
  let x43 := bif x42 then x33 else x3
  let x44 := x29 == 4
  let x45 := bif x44 then x33 else x4
  let x46 := x29 == 5
  let x47 := bif x46 then x33 else x5
  let x48 := x29 == 6
  let x49 := bif x48 then x33 else x6
  let x50 := x29 == 7
  let x51 := bif x50 then x33 else x7
  let x52 := p8 x37 x39 x41 x43 x45 x47 x49 x51 x8 x9 x10 x11 x12 x13 x14 x15 x29
  let x53 := r8_0 x37 x39 x41 x43 x45 x47 x49 x51 x8 x9 x10 x11 x12 x13 x14 x15 x29
  let x54 := r8_1 x37 x39 x41 x43 x45 x47 x49 x51 x8 x9 x10 x11 x12 x13 x14 x15 x29
  let x55 := r8_2 x37 x39 x41 x43 x45 x47 x49 x51 x8 x9 x10 x11 x12 x13 x14 x15 x29
  let y56 := g100700 [.l x16, .i 0, .i x37, .i x39, .i x41, .i x43, .i x45, .i x47, .i x49, .i x51, .i x8, .i x9, .i x10, .i x11, .i x12, .i x13, .i x14, .i x15]
  let x56 := (dget y56 0).toB
  let x59 := (dget y56 3).toI
  let x60 := (dget y56 4).toI
  let x61 := (dget y56 5).toI
  let x62 := (dget y56 6).toI
  let x63 := (dget y56 7).toI
  let x64 := (dget y56 8).toI
  let x65 := (dget y56 9).toI
  let x66 := (dget y56 10).toI
  let x67 := (dget y56 11).toI
  let x68 := (dget y56 12).toI
  let x69 := (dget y56 13).toI
  let x70 := (dget y56 14).toI
  let x71 := (dget y56 15).toI
  let x72 := (dget y56 16).toI
  let x73 := (dget y56 17).toI
  let x74 := (dget y56 18).toI
  let x75 := p8 x59 x60 x61 x62 x63 x64 x65 x66 x67 x68 x69 x70 x71 x72 x73 x74 x29
  let x76 := r8_0 x59 x60 x61 x62 x63 x64 x65 x66 x67 x68 x69 x70 x71 x72 x73 x74 x29
  let x77 := r8_1 x59 x60 x61 x62 x63 x64 x65 x66 x67 x68 x69 x70 x71 x72 x73 x74 x29
  let x78 := r8_2 x59 x60 x61 x62 x63 x64 x65 x66 x67 x68 x69 x70 x71 x72 x73 x74 x29
  let x79 := decide (x29 ≥ 0)
  let x80 := decide (x29 < 8)
  let x81 := [x59, x60, x61, x62, x63, x64, x65, x66].getD (Int.toNat x29) 0
  let x82 := decide (x29 ≥ 0)
  let x83 := decide (x29 < 8)
  let x84 := [x37, x39, x41, x43, x45, x47, x49, x51].getD (Int.toNat x29) 0
  let x85 := x81 != x84
  let x86 := x76 != x53
  let x87 := x85 || x86
  let x88 := x77 != x54
  let x89 := x87 || x88
  let x90 := x78 != x55
  let x91 := x89 || x90
  let x92 := !x91
  let x93 := decide (x29 > 0)
  let x94 := !x55
  let x95 := x93 || x94
  let x96 := decide (x21 < 1)
  let x97 := x95 || x96
  let x98 := decide (x21 > 8)
  let x99 := x97 || x98
  let x100 := decide (x20 < x53)
  let x101 := x99 || x100
  let x102 := decide (x20 > x54)
  let x103 := x101 || x102
  let x104 := !x103
  let x105 := p11 x59 x60 x61 x62 x63 x64 x65 x66 x67 x68 x69 x70 x71 x72 x73 x74 x19 x20 x21
  let x107 := p11 x37 x39 x41 x43 x45 x47 x49 x51 x8 x9 x10 x11 x12 x13 x14 x15 x19 x20 x21
  [ow [] x22, ow [(x25, true)] x30, ow [(x25, true)] x31, ow [(x25, true)] x34, ow [(x25, true)] x35, ow [(x25, true)] x52, ow [(x25, true)] x56, ow [(x25, true)] x75, ow [(x25, true)] x79, ow [(x25, true)] x80, ow [(x25, true)] x82, ow [(x25, true)] x83, ow [(x25, true), (x92, true), (x104, true)] x105, ow [(x25, true), (x92, true), (x104, true)] x107].all id
noncomputable def r7_0 (x0 : Int) (x1 : Int) (x2 : Int) (x3 : Int) (x4 : Int) (x5 : Int) (x6 : Int) (x7 : Int) (x8 : Int) (x9 : Int) (x10 : Int) (x11 : Int) (x12 : Int) (x13 : Int) (x14 : Int) (x15 : Int) (x16 : List DV) (x17 : Int) (x18 : Int) (x19 : Int) (x20 : Int) (x21 : Int) : Bool :=
  let x23 := r10_0 
  let x24 := !x23
  let x25 := !x24
  let x26 := decide (x17 < 0)
  let x27 := decide (x17 ≥ 8)
  let x28 := x26 || x27
  let x29 := bif x28 then 0 else x17
  let x32 := [x0, x1, x2, x3, x4, x5, x6, x7].getD (Int.toNat x29) 0
  let x33 := ilor .u8 x32 128
  let x36 := x29 == 0
  let x37 := bif x36 then x33 else x0
  let x38 := x29 == 1
  let x39 := bif x38 then x33 else x1
  let x40 := x29 == 2
  let x41 := bif x40 then x33 else x2
  let x42 := x29 == 3
  let x43 := bif x42 then x33 else x3
  let x44 := x29 == 4
  let x45 := bif x44 then x33 else x4
  let x46 := x29 == 5
  let x47 := bif x46 then x33 else x5
  let x48 := x29 == 6
  let x49 := bif x48 then x33 else x6
  let x50 := x29 == 7
  let x51 := bif x50 then x33 else x7
  let x53 := r8_0 x37 x39 x41 x43 x45 x47 x49 x51 x8 x9 x10 x11 x12 x13 x14 x15 x29
  let x54 := r8_1 x37 x39 x41 x43 x45 x47 x49 x51 x8 x9 x10 x11 x12 x13 x14 x15 x29
  let x55 := r8_2 x37 x39 x41 x43 x45 x47 x49 x51 x8 x9 x10 x11 x12 x13 x14 x15 x29
  let y59 := g100700 [.l x16, .i 0, .i x37, .i x39, .i x41, .i x43, .i x45, .i x47, .i x49, .i x51, .i x8, .i x9, .i x10, .i x11, .i x12, .i x13, .i x14, .i x15]
  let x59 := (dget y59 3).toI
  let x60 := (dget y59 4).toI
  let x61 := (dget y59 5).toI
  let x62 := (dget y59 6).toI
  let x63 := (dget y59 7).toI
  let x64 := (dget y59 8).toI
  let x65 := (dget y59 9).toI
  let x66 := (dget y59 10).toI
  let x67 := (dget y59 11).toI
  let x68 := (dget y59 12).toI
  let x69 := (dget y59 13).toI
  let x70 := (dget y59 14).toI
  let x71 := (dget y59 15).toI
  let x72 := (dget y59 16).toI
  let x73 := (dget y59 17).toI
  let x74 := (dget y59 18).toI
  let x76 := r8_0 x59 x60 x61 x62 x63 x64 x65 x66 x67 x68 x69 x70 x71 x72 x73 x74 x29
  let x77 := r8_1 x59 x60 x61 x62 x63 x64 x65 x66 x67 x68 x69 x70 x71 x72 x73 x74 x29
  let x78 := r8_2 x59 x60 x61 x62 x63 x64 x65 x66 x67 x68 x69 x70 x71 x72 x73 x74 x29
  let x81 := [x59, x60, x61, x62, x63, x64, x65, x66].getD (Int.toNat x29) 0
  let x84 := [x37, x39, x41, x43, x45, x47, x49, x51].getD (Int.toNat x29) 0
  let x85 := x81 != x84
  let x86 := x76 != x53
  let x87 := x85 || x86
  let x88 := x77 != x54
  let x89 := x87 || x88
  let x90 := x78 != x55
  let x91 := x89 || x90
  let x92 := !x91
  let x93 := decide (x29 > 0)
  let x94 := !x55
  let x95 := x93 || x94
  let x96 := decide (x21 < 1)
  let x97 := x95 || x96
  let x98 := decide (x21 > 8)
  let x99 := x97 || x98
  let x100 := decide (x20 < x53)
  let x101 := x99 || x100
  let x102 := decide (x20 > x54)
  let x103 := x101 || x102
  let x104 := !x103
  let x106 := r11_0 x59 x60 x61 x62 x63 x64 x65 x66 x67 x68 x69 x70 x71 x72 x73 x74 x18 x19 x20 x21
  let x108 := r11_0 x37 x39 x41 x43 x45 x47 x49 x51 x8 x9 x10 x11 x12 x13 x14 x15 x18 x19 x20 x21
  let x109 := x106 == x108
  let x110 := bif x104 then x109 else true
  let x111 := x92 && x110
  let x112 := x25 && x111
  x112
noncomputable def g7 (ds : List DV) : List DV := [.b (p7 (dget ds 0).toI (dget ds 1).toI (dget ds 2).toI (dget ds 3).toI (dget ds 4).toI (dget ds 5).toI (dget ds 6).toI (dget ds 7).toI (dget ds 8).toI (dget ds 9).toI (dget ds 10).toI (dget ds 11).toI (dget ds 12).toI (dget ds 13).toI (dget ds 14).toI (dget ds 15).toI (dget ds 16).toL (dget ds 17).toI (dget ds 19).toI (dget ds 20).toI (dget ds 21).toI), .b (r7_0 (dget ds 0).toI (dget ds 1).toI (dget ds 2).toI (dget ds 3).toI (dget ds 4).toI (dget ds 5).toI (dget ds 6).toI (dget ds 7).toI (dget ds 8).toI (dget ds 9).toI (dget ds 10).toI (dget ds 11).toI (dget ds 12).toI (dget ds 13).toI (dget ds 14).toI (dget ds 15).toI (dget ds 16).toL (dget ds 17).toI (dget ds 18).toI (dget ds 19).toI (dget ds 20).toI (dget ds 21).toI)]
def S7 : Sigs := ⟨[(10, s10), (8, s8), (11, s11), (13, s13), (15, s15)], [], [(0, 100700)], 1⟩
theorem ev7 : evFn Tryd.prog S7 2000 Tryd.f7 s7 = some o7 := by kernel_rfl



end Go.Proofs.YtoebecinndbnoaaDoor
