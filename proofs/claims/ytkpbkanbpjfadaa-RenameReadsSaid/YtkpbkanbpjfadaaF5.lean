/- The functions of the statements, as lists of plain steps (part 3). Written by the generator. -/
import Derived.Test.YtkpbkanbpjfadaaF4
import Derived.Shelf.Slices.Clone
import Derived.Shelf.Spec.SlicesInsertGrow
import Derived.Test.YtkpbkanbpjfadaaProg
import Derived.Test.YtkpbkanbpjfadaaF3
import Derived.ProofKit
import Derived.LaidMore
import Derived.Stop.Joined
import Derived.ReadAgain
namespace Go.Proofs.Ytkpbkanbpjfadaa
open Go Go.Sx
set_option maxRecDepth 100000
set_option maxHeartbeats 4000000

noncomputable def w100513 (x103 : List DV) (x97 : List DV) (_x98 : List DV) (_x105 : Bool) (x106 : Int) : Bool :=
  let x107 := decide (x106 < 64)
  let x108 := decide (x106 ≥ 0)
  let x109 := decide (x106 < 64)
  let x110 : Int := (x103.getD (Int.toNat x106 * (1 : Nat) + (0 : Nat)) default).toI
  let x111 := ilt x110 0
  let x112 := decide (x106 ≥ 0)
  let x113 := decide (x106 < 64)
  let x114 : Int := (x103.getD (Int.toNat x106 * (1 : Nat) + (0 : Nat)) default).toI
  let x115 := igt x114 95
  let x116 := x111 || x115
  let x117 := decide (x106 ≥ 0)
  let x118 := decide (x106 < 64)
  let x119 : Int := (x103.getD (Int.toNat x106 * (1 : Nat) + (0 : Nat)) default).toI
  let x120 := ige x119 0
  let x121 := ((x97.length / 1 : Nat) : Int)
  let x122 := ilt x119 x121
  let x124 := decide (x106 ≥ 0)
  let x125 := decide (x106 < 64)
  [ow [(x107, true)] x108, ow [(x107, true)] x109, ow [(x107, true), (x111, false)] x112, ow [(x107, true), (x111, false)] x113, ow [(x107, true), (x116, false)] x117, ow [(x107, true), (x116, false)] x118, ow [(x107, true), (x116, false)] x120, ow [(x107, true), (x116, false)] x122, ow [(x107, true), (x116, false)] x124, ow [(x107, true), (x116, false)] x125].all id
noncomputable def c100513 (x103 : List DV) (x97 : List DV) (x98 : List DV) (_x105 : Bool) (x106 : Int) : Bool :=
  let x107 := decide (x106 < 64)
  let x110 : Int := (x103.getD (Int.toNat x106 * (1 : Nat) + (0 : Nat)) default).toI
  let x111 := ilt x110 0
  let x114 : Int := (x103.getD (Int.toNat x106 * (1 : Nat) + (0 : Nat)) default).toI
  let x115 := igt x114 95
  let x116 := x111 || x115
  let x119 : Int := (x103.getD (Int.toNat x106 * (1 : Nat) + (0 : Nat)) default).toI
  let x123 : Int := (x97.getD (Int.toNat x119 * (1 : Nat) + (0 : Nat)) default).toI
  let x126 : Int := (x98.getD (Int.toNat x106 * (1 : Nat) + (0 : Nat)) default).toI
  let x127 := x123 != x126
  let x128 := x116 || x127
  let x129 := !x128
  let x131 := x107 && x129
  x131
noncomputable def n100513_0 (_x103 : List DV) (_x97 : List DV) (_x98 : List DV) (x105 : Bool) (_x106 : Int) : Bool :=
  x105
noncomputable def n100513_1 (_x103 : List DV) (_x97 : List DV) (_x98 : List DV) (_x105 : Bool) (x106 : Int) : Int :=
  let x130 := IntKind.wrap .i64 (x106 + 1)
  x130
noncomputable def t100513_0 (_x103 : List DV) (_x97 : List DV) (_x98 : List DV) (_x105 : Bool) (x106 : Int) : Int :=
  let x107 := decide (x106 < 64)
  let x132 : Int := bif x107 then 0 else 1
  x132
noncomputable def t100513_1 (_x103 : List DV) (_x97 : List DV) (_x98 : List DV) (x105 : Bool) (x106 : Int) : Bool :=
  let x107 := decide (x106 < 64)
  let x133 := bif x107 then false else x105
  x133
noncomputable def t100513_2 (_x103 : List DV) (_x97 : List DV) (_x98 : List DV) (_x105 : Bool) (x106 : Int) : Int :=
  x106
noncomputable def W100513 (ds : List DV) : Bool := w100513 (dget ds 0).toL (dget ds 1).toL (dget ds 2).toL (dget ds 3).toB (dget ds 4).toI
noncomputable def C100513 (ds : List DV) : Bool := c100513 (dget ds 0).toL (dget ds 1).toL (dget ds 2).toL (dget ds 3).toB (dget ds 4).toI
noncomputable def N100513 (ds : List DV) : List DV := [.l (dget ds 0).toL, .l (dget ds 1).toL, .l (dget ds 2).toL, .b (n100513_0 (dget ds 0).toL (dget ds 1).toL (dget ds 2).toL (dget ds 3).toB (dget ds 4).toI), .i (n100513_1 (dget ds 0).toL (dget ds 1).toL (dget ds 2).toL (dget ds 3).toB (dget ds 4).toI)]
noncomputable def T100513 (ds : List DV) : List DV := [.i (t100513_0 (dget ds 0).toL (dget ds 1).toL (dget ds 2).toL (dget ds 3).toB (dget ds 4).toI), .b (t100513_1 (dget ds 0).toL (dget ds 1).toL (dget ds 2).toL (dget ds 3).toB (dget ds 4).toI), .i (t100513_2 (dget ds 0).toL (dget ds 1).toL (dget ds 2).toL (dget ds 3).toB (dget ds 4).toI)]
noncomputable def L100513 (x0 : List DV) (x1 : List DV) (x2 : List DV) (x3 : Bool) (x4 : Int) : Option (List DV) := loopG W100513 C100513 N100513 T100513 [.l x0, .l x1, .l x2, .b x3, .i x4]
noncomputable def p100513 (x0 : List DV) (x1 : List DV) (x2 : List DV) (x3 : Bool) (x4 : Int) : Bool := (L100513 x0 x1 x2 x3 x4).isSome
noncomputable def r100513_0 (x0 : List DV) (x1 : List DV) (x2 : List DV) (x3 : Bool) (x4 : Int) : Int := (dget ((L100513 x0 x1 x2 x3 x4).getD []) 0).toI
noncomputable def r100513_1 (x0 : List DV) (x1 : List DV) (x2 : List DV) (x3 : Bool) (x4 : Int) : Bool := (dget ((L100513 x0 x1 x2 x3 x4).getD []) 1).toB
noncomputable def r100513_2 (x0 : List DV) (x1 : List DV) (x2 : List DV) (x3 : Bool) (x4 : Int) : Int := (dget ((L100513 x0 x1 x2 x3 x4).getD []) 2).toI
noncomputable def g100513 (ds : List DV) : List DV := [.b (p100513 (dget ds 0).toL (dget ds 1).toL (dget ds 2).toL (dget ds 3).toB (dget ds 4).toI), .i (r100513_0 (dget ds 0).toL (dget ds 1).toL (dget ds 2).toL (dget ds 3).toB (dget ds 4).toI), .b (r100513_1 (dget ds 0).toL (dget ds 1).toL (dget ds 2).toL (dget ds 3).toB (dget ds 4).toI), .i (r100513_2 (dget ds 0).toL (dget ds 1).toL (dget ds 2).toL (dget ds 3).toB (dget ds 4).toI)]
noncomputable def w100511 (x151 : List DV) (x188 : Int) (x114 : List DV) (x124 : Int) (_x192 : Bool) (x193 : Int) : Bool :=
  let x194 := decide (x193 < 3)
  let x195 := decide (x188 ≥ 0)
  let x196 := ((x151.length / 6 : Nat) : Int)
  let x197 := decide (x188 < x196)
  let x198 := decide (x193 ≥ 0)
  let x199 := decide (x193 < 3)
  let x204 := decide (x124 ≥ 0)
  let x205 := ((x114.length / 6 : Nat) : Int)
  let x206 := decide (x124 < x205)
  [ow [(x194, true)] x195, ow [(x194, true)] x197, ow [(x194, true)] x198, ow [(x194, true)] x199, ow [(x194, true)] x204, ow [(x194, true)] x206].all id
noncomputable def c100511 (x151 : List DV) (x188 : Int) (x114 : List DV) (x124 : Int) (_x192 : Bool) (x193 : Int) : Bool :=
  let x194 := decide (x193 < 3)
  let x200 : Int := (x151.getD (Int.toNat x188 * (6 : Nat) + (0 : Nat)) default).toI
  let x201 : Int := (x151.getD (Int.toNat x188 * (6 : Nat) + (1 : Nat)) default).toI
  let x202 : Int := (x151.getD (Int.toNat x188 * (6 : Nat) + (2 : Nat)) default).toI
  let x203 := [x200, x201, x202].getD (Int.toNat x193) 0
  let x207 : Int := (x114.getD (Int.toNat x124 * (6 : Nat) + (3 : Nat)) default).toI
  let x208 := x203 == x207
  let x209 := !x208
  let x211 := x194 && x209
  x211
noncomputable def n100511_0 (_x151 : List DV) (_x188 : Int) (_x114 : List DV) (_x124 : Int) (x192 : Bool) (_x193 : Int) : Bool :=
  x192
noncomputable def n100511_1 (_x151 : List DV) (_x188 : Int) (_x114 : List DV) (_x124 : Int) (_x192 : Bool) (x193 : Int) : Int :=
  let x210 := IntKind.wrap .i64 (x193 + 1)
  x210
noncomputable def t100511_0 (_x151 : List DV) (_x188 : Int) (_x114 : List DV) (_x124 : Int) (_x192 : Bool) (x193 : Int) : Int :=
  let x194 := decide (x193 < 3)
  let x212 : Int := bif x194 then 0 else 1
  x212
noncomputable def t100511_1 (_x151 : List DV) (_x188 : Int) (_x114 : List DV) (_x124 : Int) (x192 : Bool) (x193 : Int) : Bool :=
  let x194 := decide (x193 < 3)
  let x213 := bif x194 then false else x192
  x213
noncomputable def t100511_2 (_x151 : List DV) (_x188 : Int) (_x114 : List DV) (_x124 : Int) (_x192 : Bool) (x193 : Int) : Int :=
  x193
noncomputable def W100511 (ds : List DV) : Bool := w100511 (dget ds 0).toL (dget ds 1).toI (dget ds 2).toL (dget ds 3).toI (dget ds 4).toB (dget ds 5).toI
noncomputable def C100511 (ds : List DV) : Bool := c100511 (dget ds 0).toL (dget ds 1).toI (dget ds 2).toL (dget ds 3).toI (dget ds 4).toB (dget ds 5).toI
noncomputable def N100511 (ds : List DV) : List DV := [.l (dget ds 0).toL, .i (dget ds 1).toI, .l (dget ds 2).toL, .i (dget ds 3).toI, .b (n100511_0 (dget ds 0).toL (dget ds 1).toI (dget ds 2).toL (dget ds 3).toI (dget ds 4).toB (dget ds 5).toI), .i (n100511_1 (dget ds 0).toL (dget ds 1).toI (dget ds 2).toL (dget ds 3).toI (dget ds 4).toB (dget ds 5).toI)]
noncomputable def T100511 (ds : List DV) : List DV := [.i (t100511_0 (dget ds 0).toL (dget ds 1).toI (dget ds 2).toL (dget ds 3).toI (dget ds 4).toB (dget ds 5).toI), .b (t100511_1 (dget ds 0).toL (dget ds 1).toI (dget ds 2).toL (dget ds 3).toI (dget ds 4).toB (dget ds 5).toI), .i (t100511_2 (dget ds 0).toL (dget ds 1).toI (dget ds 2).toL (dget ds 3).toI (dget ds 4).toB (dget ds 5).toI)]
noncomputable def L100511 (x0 : List DV) (x1 : Int) (x2 : List DV) (x3 : Int) (x4 : Bool) (x5 : Int) : Option (List DV) := loopG W100511 C100511 N100511 T100511 [.l x0, .i x1, .l x2, .i x3, .b x4, .i x5]
noncomputable def p100511 (x0 : List DV) (x1 : Int) (x2 : List DV) (x3 : Int) (x4 : Bool) (x5 : Int) : Bool := (L100511 x0 x1 x2 x3 x4 x5).isSome
noncomputable def r100511_0 (x0 : List DV) (x1 : Int) (x2 : List DV) (x3 : Int) (x4 : Bool) (x5 : Int) : Int := (dget ((L100511 x0 x1 x2 x3 x4 x5).getD []) 0).toI
noncomputable def r100511_1 (x0 : List DV) (x1 : Int) (x2 : List DV) (x3 : Int) (x4 : Bool) (x5 : Int) : Bool := (dget ((L100511 x0 x1 x2 x3 x4 x5).getD []) 1).toB
noncomputable def r100511_2 (x0 : List DV) (x1 : Int) (x2 : List DV) (x3 : Int) (x4 : Bool) (x5 : Int) : Int := (dget ((L100511 x0 x1 x2 x3 x4 x5).getD []) 2).toI
noncomputable def g100511 (ds : List DV) : List DV := [.b (p100511 (dget ds 0).toL (dget ds 1).toI (dget ds 2).toL (dget ds 3).toI (dget ds 4).toB (dget ds 5).toI), .i (r100511_0 (dget ds 0).toL (dget ds 1).toI (dget ds 2).toL (dget ds 3).toI (dget ds 4).toB (dget ds 5).toI), .b (r100511_1 (dget ds 0).toL (dget ds 1).toI (dget ds 2).toL (dget ds 3).toI (dget ds 4).toB (dget ds 5).toI), .i (r100511_2 (dget ds 0).toL (dget ds 1).toI (dget ds 2).toL (dget ds 3).toI (dget ds 4).toB (dget ds 5).toI)]
noncomputable def w100509 (x151 : List DV) (x114 : List DV) (x124 : Int) (x187 : Bool) (x188 : Int) : Bool :=
  let x189 := ((x151.length / 6 : Nat) : Int)
  let x190 := IntKind.wrap .i64 (x189 - 1)
  let x191 := decide (x188 < x190)
  let x192 := p100511 x151 x188 x114 x124 x187 0
  [ow [(x191, true)] x192].all id
noncomputable def c100509 (x151 : List DV) (x114 : List DV) (x124 : Int) (x187 : Bool) (x188 : Int) : Bool :=
  let x189 := ((x151.length / 6 : Nat) : Int)
  let x190 := IntKind.wrap .i64 (x189 - 1)
  let x191 := decide (x188 < x190)
  let x193 := r100511_0 x151 x188 x114 x124 x187 0
  let x196 := x193 == 0
  let x197 := !x196
  let x199 := x191 && x197
  x199
noncomputable def n100509_0 (x151 : List DV) (x114 : List DV) (x124 : Int) (x187 : Bool) (x188 : Int) : Bool :=
  let x194 := r100511_1 x151 x188 x114 x124 x187 0
  x194
noncomputable def n100509_1 (_x151 : List DV) (_x114 : List DV) (_x124 : Int) (_x187 : Bool) (x188 : Int) : Int :=
  let x198 := IntKind.wrap .i64 (x188 + 1)
  x198
noncomputable def t100509_0 (x151 : List DV) (_x114 : List DV) (_x124 : Int) (_x187 : Bool) (x188 : Int) : Int :=
  let x189 := ((x151.length / 6 : Nat) : Int)
  let x190 := IntKind.wrap .i64 (x189 - 1)
  let x191 := decide (x188 < x190)
  let x200 : Int := bif x191 then 0 else 1
  x200
noncomputable def t100509_1 (x151 : List DV) (x114 : List DV) (x124 : Int) (x187 : Bool) (x188 : Int) : Bool :=
  let x189 := ((x151.length / 6 : Nat) : Int)
  let x190 := IntKind.wrap .i64 (x189 - 1)
  let x191 := decide (x188 < x190)
  let x194 := r100511_1 x151 x188 x114 x124 x187 0
  let x201 := bif x191 then x194 else x187
  x201
noncomputable def t100509_2 (_x151 : List DV) (_x114 : List DV) (_x124 : Int) (_x187 : Bool) (x188 : Int) : Int :=
  x188
noncomputable def W100509 (ds : List DV) : Bool := w100509 (dget ds 0).toL (dget ds 1).toL (dget ds 2).toI (dget ds 3).toB (dget ds 4).toI
noncomputable def C100509 (ds : List DV) : Bool := c100509 (dget ds 0).toL (dget ds 1).toL (dget ds 2).toI (dget ds 3).toB (dget ds 4).toI
noncomputable def N100509 (ds : List DV) : List DV := [.l (dget ds 0).toL, .l (dget ds 1).toL, .i (dget ds 2).toI, .b (n100509_0 (dget ds 0).toL (dget ds 1).toL (dget ds 2).toI (dget ds 3).toB (dget ds 4).toI), .i (n100509_1 (dget ds 0).toL (dget ds 1).toL (dget ds 2).toI (dget ds 3).toB (dget ds 4).toI)]
noncomputable def T100509 (ds : List DV) : List DV := [.i (t100509_0 (dget ds 0).toL (dget ds 1).toL (dget ds 2).toI (dget ds 3).toB (dget ds 4).toI), .b (t100509_1 (dget ds 0).toL (dget ds 1).toL (dget ds 2).toI (dget ds 3).toB (dget ds 4).toI), .i (t100509_2 (dget ds 0).toL (dget ds 1).toL (dget ds 2).toI (dget ds 3).toB (dget ds 4).toI)]
noncomputable def L100509 (x0 : List DV) (x1 : List DV) (x2 : Int) (x3 : Bool) (x4 : Int) : Option (List DV) := loopG W100509 C100509 N100509 T100509 [.l x0, .l x1, .i x2, .b x3, .i x4]
noncomputable def p100509 (x0 : List DV) (x1 : List DV) (x2 : Int) (x3 : Bool) (x4 : Int) : Bool := (L100509 x0 x1 x2 x3 x4).isSome
noncomputable def r100509_0 (x0 : List DV) (x1 : List DV) (x2 : Int) (x3 : Bool) (x4 : Int) : Int := (dget ((L100509 x0 x1 x2 x3 x4).getD []) 0).toI
noncomputable def r100509_1 (x0 : List DV) (x1 : List DV) (x2 : Int) (x3 : Bool) (x4 : Int) : Bool := (dget ((L100509 x0 x1 x2 x3 x4).getD []) 1).toB
noncomputable def r100509_2 (x0 : List DV) (x1 : List DV) (x2 : Int) (x3 : Bool) (x4 : Int) : Int := (dget ((L100509 x0 x1 x2 x3 x4).getD []) 2).toI
noncomputable def g100509 (ds : List DV) : List DV := [.b (p100509 (dget ds 0).toL (dget ds 1).toL (dget ds 2).toI (dget ds 3).toB (dget ds 4).toI), .i (r100509_0 (dget ds 0).toL (dget ds 1).toL (dget ds 2).toI (dget ds 3).toB (dget ds 4).toI), .b (r100509_1 (dget ds 0).toL (dget ds 1).toL (dget ds 2).toI (dget ds 3).toB (dget ds 4).toI), .i (r100509_2 (dget ds 0).toL (dget ds 1).toL (dget ds 2).toI (dget ds 3).toB (dget ds 4).toI)]
noncomputable def w100507 (x106 : List DV) (x114 : List DV) (x124 : Int) (x125 : List DV) (_x126 : List DV) (_x131 : Bool) (x132 : Int) : Bool :=
  let x133 := decide (x132 < 3)
  let x134 := decide (x124 ≥ 0)
  let x135 := ((x106.length / 4 : Nat) : Int)
  let x136 := decide (x124 < x135)
  let x137 := decide (x132 ≥ 0)
  let x138 := decide (x132 < 3)
  let x139 : Int := (x106.getD (Int.toNat x124 * (4 : Nat) + (0 : Nat)) default).toI
  let x140 : Int := (x106.getD (Int.toNat x124 * (4 : Nat) + (1 : Nat)) default).toI
  let x141 : Int := (x106.getD (Int.toNat x124 * (4 : Nat) + (2 : Nat)) default).toI
  let x142 := [x139, x140, x141].getD (Int.toNat x132) 0
  let x143 := decide (x142 < 0)
  let x144 := decide (x142 > 63)
  let x145 := x143 || x144
  let x146 := decide (x124 ≥ 0)
  let x147 := ((x114.length / 6 : Nat) : Int)
  let x148 := decide (x124 < x147)
  let x149 := decide (x132 ≥ 0)
  let x150 := decide (x132 < 3)
  let x157 := !x145
  let x158 := decide (x124 ≥ 0)
  let x159 := ((x114.length / 6 : Nat) : Int)
  let x160 := decide (x124 < x159)
  let x161 := decide (x132 ≥ 0)
  let x162 := decide (x132 < 3)
  let x163 : Int := (x114.getD (Int.toNat x124 * (6 : Nat) + (0 : Nat)) default).toI
  let x164 : Int := (x114.getD (Int.toNat x124 * (6 : Nat) + (1 : Nat)) default).toI
  let x165 : Int := (x114.getD (Int.toNat x124 * (6 : Nat) + (2 : Nat)) default).toI
  let x166 := [x163, x164, x165].getD (Int.toNat x132) 0
  let x167 := decide (x166 < 0)
  let x168 := decide (x124 ≥ 0)
  let x169 := ((x114.length / 6 : Nat) : Int)
  let x170 := decide (x124 < x169)
  let x171 := decide (x132 ≥ 0)
  let x172 := decide (x132 < 3)
  let x173 : Int := (x114.getD (Int.toNat x124 * (6 : Nat) + (0 : Nat)) default).toI
  let x174 : Int := (x114.getD (Int.toNat x124 * (6 : Nat) + (1 : Nat)) default).toI
  let x175 : Int := (x114.getD (Int.toNat x124 * (6 : Nat) + (2 : Nat)) default).toI
  let x176 := [x173, x174, x175].getD (Int.toNat x132) 0
  let x177 := decide (x176 > 95)
  let x178 := x167 || x177
  let x179 := decide (x124 ≥ 0)
  let x180 := ((x114.length / 6 : Nat) : Int)
  let x181 := decide (x124 < x180)
  let x182 := decide (x132 ≥ 0)
  let x183 := decide (x132 < 3)
  let x184 : Int := (x114.getD (Int.toNat x124 * (6 : Nat) + (0 : Nat)) default).toI
  let x185 : Int := (x114.getD (Int.toNat x124 * (6 : Nat) + (1 : Nat)) default).toI
  let x186 : Int := (x114.getD (Int.toNat x124 * (6 : Nat) + (2 : Nat)) default).toI
  let x187 := [x184, x185, x186].getD (Int.toNat x132) 0
  let x188 := decide (x187 ≥ 0)
  let x189 := ((x125.length / 1 : Nat) : Int)
  let x190 := decide (x187 < x189)
  let x192 := decide (x142 ≥ 0)
  let x193 := decide (x142 < 64)
  [ow [(x133, true)] x134, ow [(x133, true)] x136, ow [(x133, true)] x137, ow [(x133, true)] x138, ow [(x133, true), (x145, true)] x146, ow [(x133, true), (x145, true)] x148, ow [(x133, true), (x145, true)] x149, ow [(x133, true), (x145, true)] x150, ow [(x133, true), (x157, true)] x158, ow [(x133, true), (x157, true)] x160, ow [(x133, true), (x157, true)] x161, ow [(x133, true), (x157, true)] x162, ow [(x133, true), (x157, true), (x167, false)] x168, ow [(x133, true), (x157, true), (x167, false)] x170, ow [(x133, true), (x157, true), (x167, false)] x171, ow [(x133, true), (x157, true), (x167, false)] x172, ow [(x133, true), (x157, true), (x178, false)] x179, ow [(x133, true), (x157, true), (x178, false)] x181, ow [(x133, true), (x157, true), (x178, false)] x182, ow [(x133, true), (x157, true), (x178, false)] x183, ow [(x133, true), (x157, true), (x178, false)] x188, ow [(x133, true), (x157, true), (x178, false)] x190, ow [(x133, true), (x157, true), (x178, false)] x192, ow [(x133, true), (x157, true), (x178, false)] x193].all id
noncomputable def c100507 (x106 : List DV) (x114 : List DV) (x124 : Int) (x125 : List DV) (x126 : List DV) (_x131 : Bool) (x132 : Int) : Bool :=
  let x133 := decide (x132 < 3)
  let x139 : Int := (x106.getD (Int.toNat x124 * (4 : Nat) + (0 : Nat)) default).toI
  let x140 : Int := (x106.getD (Int.toNat x124 * (4 : Nat) + (1 : Nat)) default).toI
  let x141 : Int := (x106.getD (Int.toNat x124 * (4 : Nat) + (2 : Nat)) default).toI
  let x142 := [x139, x140, x141].getD (Int.toNat x132) 0
  let x143 := decide (x142 < 0)
  let x144 := decide (x142 > 63)
  let x145 := x143 || x144
  let x151 : Int := (x114.getD (Int.toNat x124 * (6 : Nat) + (0 : Nat)) default).toI
  let x152 : Int := (x114.getD (Int.toNat x124 * (6 : Nat) + (1 : Nat)) default).toI
  let x153 : Int := (x114.getD (Int.toNat x124 * (6 : Nat) + (2 : Nat)) default).toI
  let x154 := [x151, x152, x153].getD (Int.toNat x132) 0
  let x155 := x154 != (-1)
  let x156 := !x155
  let x157 := !x145
  let x163 : Int := (x114.getD (Int.toNat x124 * (6 : Nat) + (0 : Nat)) default).toI
  let x164 : Int := (x114.getD (Int.toNat x124 * (6 : Nat) + (1 : Nat)) default).toI
  let x165 : Int := (x114.getD (Int.toNat x124 * (6 : Nat) + (2 : Nat)) default).toI
  let x166 := [x163, x164, x165].getD (Int.toNat x132) 0
  let x167 := decide (x166 < 0)
  let x173 : Int := (x114.getD (Int.toNat x124 * (6 : Nat) + (0 : Nat)) default).toI
  let x174 : Int := (x114.getD (Int.toNat x124 * (6 : Nat) + (1 : Nat)) default).toI
  let x175 : Int := (x114.getD (Int.toNat x124 * (6 : Nat) + (2 : Nat)) default).toI
  let x176 := [x173, x174, x175].getD (Int.toNat x132) 0
  let x177 := decide (x176 > 95)
  let x178 := x167 || x177
  let x184 : Int := (x114.getD (Int.toNat x124 * (6 : Nat) + (0 : Nat)) default).toI
  let x185 : Int := (x114.getD (Int.toNat x124 * (6 : Nat) + (1 : Nat)) default).toI
  let x186 : Int := (x114.getD (Int.toNat x124 * (6 : Nat) + (2 : Nat)) default).toI
  let x187 := [x184, x185, x186].getD (Int.toNat x132) 0
  let x191 : Int := (x125.getD (Int.toNat x187 * (1 : Nat) + (0 : Nat)) default).toI
  let x194 : Int := (x126.getD (Int.toNat x142 * (1 : Nat) + (0 : Nat)) default).toI
  let x195 := x191 != x194
  let x196 := x178 || x195
  let x197 := !x196
  let x198 := bif x157 then x197 else x156
  let x200 := x133 && x198
  x200
noncomputable def n100507_0 (_x106 : List DV) (_x114 : List DV) (_x124 : Int) (_x125 : List DV) (_x126 : List DV) (x131 : Bool) (_x132 : Int) : Bool :=
  x131
noncomputable def n100507_1 (_x106 : List DV) (_x114 : List DV) (_x124 : Int) (_x125 : List DV) (_x126 : List DV) (_x131 : Bool) (x132 : Int) : Int :=
  let x199 := IntKind.wrap .i64 (x132 + 1)
  x199
noncomputable def t100507_0 (_x106 : List DV) (_x114 : List DV) (_x124 : Int) (_x125 : List DV) (_x126 : List DV) (_x131 : Bool) (x132 : Int) : Int :=
  let x133 := decide (x132 < 3)
  let x201 : Int := bif x133 then 0 else 1
  x201
noncomputable def t100507_1 (_x106 : List DV) (_x114 : List DV) (_x124 : Int) (_x125 : List DV) (_x126 : List DV) (x131 : Bool) (x132 : Int) : Bool :=
  let x133 := decide (x132 < 3)
  let x202 := bif x133 then false else x131
  x202
noncomputable def t100507_2 (_x106 : List DV) (_x114 : List DV) (_x124 : Int) (_x125 : List DV) (_x126 : List DV) (_x131 : Bool) (x132 : Int) : Int :=
  x132
noncomputable def W100507 (ds : List DV) : Bool := w100507 (dget ds 0).toL (dget ds 1).toL (dget ds 2).toI (dget ds 3).toL (dget ds 4).toL (dget ds 5).toB (dget ds 6).toI
noncomputable def C100507 (ds : List DV) : Bool := c100507 (dget ds 0).toL (dget ds 1).toL (dget ds 2).toI (dget ds 3).toL (dget ds 4).toL (dget ds 5).toB (dget ds 6).toI
noncomputable def N100507 (ds : List DV) : List DV := [.l (dget ds 0).toL, .l (dget ds 1).toL, .i (dget ds 2).toI, .l (dget ds 3).toL, .l (dget ds 4).toL, .b (n100507_0 (dget ds 0).toL (dget ds 1).toL (dget ds 2).toI (dget ds 3).toL (dget ds 4).toL (dget ds 5).toB (dget ds 6).toI), .i (n100507_1 (dget ds 0).toL (dget ds 1).toL (dget ds 2).toI (dget ds 3).toL (dget ds 4).toL (dget ds 5).toB (dget ds 6).toI)]
noncomputable def T100507 (ds : List DV) : List DV := [.i (t100507_0 (dget ds 0).toL (dget ds 1).toL (dget ds 2).toI (dget ds 3).toL (dget ds 4).toL (dget ds 5).toB (dget ds 6).toI), .b (t100507_1 (dget ds 0).toL (dget ds 1).toL (dget ds 2).toI (dget ds 3).toL (dget ds 4).toL (dget ds 5).toB (dget ds 6).toI), .i (t100507_2 (dget ds 0).toL (dget ds 1).toL (dget ds 2).toI (dget ds 3).toL (dget ds 4).toL (dget ds 5).toB (dget ds 6).toI)]
noncomputable def L100507 (x0 : List DV) (x1 : List DV) (x2 : Int) (x3 : List DV) (x4 : List DV) (x5 : Bool) (x6 : Int) : Option (List DV) := loopG W100507 C100507 N100507 T100507 [.l x0, .l x1, .i x2, .l x3, .l x4, .b x5, .i x6]
noncomputable def p100507 (x0 : List DV) (x1 : List DV) (x2 : Int) (x3 : List DV) (x4 : List DV) (x5 : Bool) (x6 : Int) : Bool := (L100507 x0 x1 x2 x3 x4 x5 x6).isSome
noncomputable def r100507_0 (x0 : List DV) (x1 : List DV) (x2 : Int) (x3 : List DV) (x4 : List DV) (x5 : Bool) (x6 : Int) : Int := (dget ((L100507 x0 x1 x2 x3 x4 x5 x6).getD []) 0).toI
noncomputable def r100507_1 (x0 : List DV) (x1 : List DV) (x2 : Int) (x3 : List DV) (x4 : List DV) (x5 : Bool) (x6 : Int) : Bool := (dget ((L100507 x0 x1 x2 x3 x4 x5 x6).getD []) 1).toB
noncomputable def r100507_2 (x0 : List DV) (x1 : List DV) (x2 : Int) (x3 : List DV) (x4 : List DV) (x5 : Bool) (x6 : Int) : Int := (dget ((L100507 x0 x1 x2 x3 x4 x5 x6).getD []) 2).toI
noncomputable def g100507 (ds : List DV) : List DV := [.b (p100507 (dget ds 0).toL (dget ds 1).toL (dget ds 2).toI (dget ds 3).toL (dget ds 4).toL (dget ds 5).toB (dget ds 6).toI), .i (r100507_0 (dget ds 0).toL (dget ds 1).toL (dget ds 2).toI (dget ds 3).toL (dget ds 4).toL (dget ds 5).toB (dget ds 6).toI), .b (r100507_1 (dget ds 0).toL (dget ds 1).toL (dget ds 2).toI (dget ds 3).toL (dget ds 4).toL (dget ds 5).toB (dget ds 6).toI), .i (r100507_2 (dget ds 0).toL (dget ds 1).toL (dget ds 2).toI (dget ds 3).toL (dget ds 4).toL (dget ds 5).toB (dget ds 6).toI)]
noncomputable def W100505 (ds : List DV) : Bool :=
  let x106 : List DV := (dget ds 0).toL
  let x114 : List DV := (dget ds 1).toL
  let x120 : Bool := (dget ds 3).toB
  let x121 : List DV := (dget ds 4).toL
  let x122 : List DV := (dget ds 5).toL
  let x124 : Int := (dget ds 7).toI
  let x125 : List DV := (dget ds 8).toL
  let x126 : List DV := (dget ds 9).toL
  let x129 := ((x114.length / 6 : Nat) : Int)
  let x130 := ilt x124 x129
  let x131 := p100507 x106 x114 x124 x125 x126 x120 0
  let x132 := r100507_0 x106 x114 x124 x125 x126 x120 0
  let x133 := r100507_1 x106 x114 x124 x125 x126 x120 0
  let x135 := x132 == 0
  let x136 := !x135
  let x137 := (List.range 64).map fun k => x126.getD (Int.toNat 0 * 1 + 0 + k) default
  let x138 := x121 ++ x137
  let x139 := ((x138.length / 64 : Nat) : Int)
  let x140 := decide (x139 ≤ 137171041281)
  let x141 := ige x124 0
  let x142 := ((x114.length / 6 : Nat) : Int)
  let x143 := ilt x124 x142
  let x144 : Int := (x114.getD (Int.toNat x124 * (6 : Nat) + (0 : Nat)) default).toI
  let x145 : Int := (x114.getD (Int.toNat x124 * (6 : Nat) + (1 : Nat)) default).toI
  let x146 : Int := (x114.getD (Int.toNat x124 * (6 : Nat) + (2 : Nat)) default).toI
  let x147 : Int := (x114.getD (Int.toNat x124 * (6 : Nat) + (3 : Nat)) default).toI
  let x148 : Int := (x114.getD (Int.toNat x124 * (6 : Nat) + (4 : Nat)) default).toI
  let x149 : Int := (x114.getD (Int.toNat x124 * (6 : Nat) + (5 : Nat)) default).toI
  let x150 : List DV := [.i x144, .i x145, .i x146, .i x147, .i x148, .i x149]
  let x151 := x122 ++ x150
  let x152 := ((x151.length / 6 : Nat) : Int)
  let x153 := decide (x152 ≤ 1436096819952)
  let x155 := ige x124 0
  let x156 := ((x106.length / 4 : Nat) : Int)
  let x157 := ilt x124 x156
  let x158 : Int := (x106.getD (Int.toNat x124 * (4 : Nat) + (3 : Nat)) default).toI
  let x159 := ilt x158 1
  let x160 := igt x158 63
  let x161 := x159 || x160
  let x162 := ige x124 0
  let x163 := ((x114.length / 6 : Nat) : Int)
  let x164 := ilt x124 x163
  let x165 : Int := (x114.getD (Int.toNat x124 * (6 : Nat) + (3 : Nat)) default).toI
  let x166 := x165 != (-1)
  let x167 := ige x124 0
  let x168 := ((x114.length / 6 : Nat) : Int)
  let x169 := ilt x124 x168
  let x174 := !x161
  let x175 := ige x124 0
  let x176 := ((x114.length / 6 : Nat) : Int)
  let x177 := ilt x124 x176
  let x178 : Int := (x114.getD (Int.toNat x124 * (6 : Nat) + (3 : Nat)) default).toI
  let x179 := ilt x178 0
  let x180 := ige x124 0
  let x181 := ((x114.length / 6 : Nat) : Int)
  let x182 := ilt x124 x181
  let x183 : Int := (x114.getD (Int.toNat x124 * (6 : Nat) + (3 : Nat)) default).toI
  let x184 := igt x183 95
  let x185 := x179 || x184
  let x186 := !x185
  let x187 := p100509 x151 x114 x124 x133 0
  let x188 := r100509_0 x151 x114 x124 x133 0
  let x191 := x188 == 0
  let x192 := !x191
  let x193 := ige x124 0
  let x194 := ((x114.length / 6 : Nat) : Int)
  let x195 := ilt x124 x194
  let x196 : Int := (x114.getD (Int.toNat x124 * (6 : Nat) + (3 : Nat)) default).toI
  let x197 := ige x196 0
  let x198 := ((x125.length / 1 : Nat) : Int)
  let x199 := ilt x196 x198
  let x201 := ige x158 0
  let x202 := ilt x158 64
  [ow [(x130, true)] x131, ow [(x130, true), (x136, true)] x140, ow [(x130, true), (x136, true)] x141, ow [(x130, true), (x136, true)] x143, ow [(x130, true), (x136, true)] x153, ow [(x130, true), (x136, true)] x155, ow [(x130, true), (x136, true)] x157, ow [(x130, true), (x136, true), (x161, true)] x162, ow [(x130, true), (x136, true), (x161, true)] x164, ow [(x130, true), (x136, true), (x161, true), (x166, false)] x167, ow [(x130, true), (x136, true), (x161, true), (x166, false)] x169, ow [(x130, true), (x136, true), (x174, true)] x175, ow [(x130, true), (x136, true), (x174, true)] x177, ow [(x130, true), (x136, true), (x174, true), (x179, false)] x180, ow [(x130, true), (x136, true), (x174, true), (x179, false)] x182, ow [(x130, true), (x136, true), (x174, true), (x186, true)] x187, ow [(x130, true), (x136, true), (x174, true), (x186, true), (x192, true)] x193, ow [(x130, true), (x136, true), (x174, true), (x186, true), (x192, true)] x195, ow [(x130, true), (x136, true), (x174, true), (x186, true), (x192, true)] x197, ow [(x130, true), (x136, true), (x174, true), (x186, true), (x192, true)] x199, ow [(x130, true), (x136, true), (x174, true), (x186, true), (x192, true)] x201, ow [(x130, true), (x136, true), (x174, true), (x186, true), (x192, true)] x202].all id
noncomputable def C100505 (ds : List DV) : Bool :=
  let x106 : List DV := (dget ds 0).toL
  let x114 : List DV := (dget ds 1).toL
  let x120 : Bool := (dget ds 3).toB
  let x122 : List DV := (dget ds 5).toL
  let x124 : Int := (dget ds 7).toI
  let x125 : List DV := (dget ds 8).toL
  let x126 : List DV := (dget ds 9).toL
  let x129 := ((x114.length / 6 : Nat) : Int)
  let x130 := ilt x124 x129
  let x132 := r100507_0 x106 x114 x124 x125 x126 x120 0
  let x133 := r100507_1 x106 x114 x124 x125 x126 x120 0
  let x135 := x132 == 0
  let x136 := !x135
  let x144 : Int := (x114.getD (Int.toNat x124 * (6 : Nat) + (0 : Nat)) default).toI
  let x145 : Int := (x114.getD (Int.toNat x124 * (6 : Nat) + (1 : Nat)) default).toI
  let x146 : Int := (x114.getD (Int.toNat x124 * (6 : Nat) + (2 : Nat)) default).toI
  let x147 : Int := (x114.getD (Int.toNat x124 * (6 : Nat) + (3 : Nat)) default).toI
  let x148 : Int := (x114.getD (Int.toNat x124 * (6 : Nat) + (4 : Nat)) default).toI
  let x149 : Int := (x114.getD (Int.toNat x124 * (6 : Nat) + (5 : Nat)) default).toI
  let x150 : List DV := [.i x144, .i x145, .i x146, .i x147, .i x148, .i x149]
  let x151 := x122 ++ x150
  let x158 : Int := (x106.getD (Int.toNat x124 * (4 : Nat) + (3 : Nat)) default).toI
  let x159 := ilt x158 1
  let x160 := igt x158 63
  let x161 := x159 || x160
  let x165 : Int := (x114.getD (Int.toNat x124 * (6 : Nat) + (3 : Nat)) default).toI
  let x166 := x165 != (-1)
  let x170 : Int := (x114.getD (Int.toNat x124 * (6 : Nat) + (4 : Nat)) default).toI
  let x171 := x170 != (-1)
  let x172 := x166 || x171
  let x173 := !x172
  let x174 := !x161
  let x178 : Int := (x114.getD (Int.toNat x124 * (6 : Nat) + (3 : Nat)) default).toI
  let x179 := ilt x178 0
  let x183 : Int := (x114.getD (Int.toNat x124 * (6 : Nat) + (3 : Nat)) default).toI
  let x184 := igt x183 95
  let x185 := x179 || x184
  let x186 := !x185
  let x188 := r100509_0 x151 x114 x124 x133 0
  let x191 := x188 == 0
  let x192 := !x191
  let x204 := x186 && x192
  let x205 := bif x174 then x204 else x173
  let x206 := x136 && x205
  let x211 := x130 && x206
  x211
noncomputable def N100505 (ds : List DV) : List DV :=
  let x106 : List DV := (dget ds 0).toL
  let x114 : List DV := (dget ds 1).toL
  let x0 : List DV := (dget ds 2).toL
  let x120 : Bool := (dget ds 3).toB
  let x121 : List DV := (dget ds 4).toL
  let x122 : List DV := (dget ds 5).toL
  let x123 : Int := (dget ds 6).toI
  let x124 : Int := (dget ds 7).toI
  let x125 : List DV := (dget ds 8).toL
  let x126 : List DV := (dget ds 9).toL
  let x133 := r100507_1 x106 x114 x124 x125 x126 x120 0
  let x137 := (List.range 64).map fun k => x126.getD (Int.toNat 0 * 1 + 0 + k) default
  let x138 := x121 ++ x137
  let x144 : Int := (x114.getD (Int.toNat x124 * (6 : Nat) + (0 : Nat)) default).toI
  let x145 : Int := (x114.getD (Int.toNat x124 * (6 : Nat) + (1 : Nat)) default).toI
  let x146 : Int := (x114.getD (Int.toNat x124 * (6 : Nat) + (2 : Nat)) default).toI
  let x147 : Int := (x114.getD (Int.toNat x124 * (6 : Nat) + (3 : Nat)) default).toI
  let x148 : Int := (x114.getD (Int.toNat x124 * (6 : Nat) + (4 : Nat)) default).toI
  let x149 : Int := (x114.getD (Int.toNat x124 * (6 : Nat) + (5 : Nat)) default).toI
  let x150 : List DV := [.i x144, .i x145, .i x146, .i x147, .i x148, .i x149]
  let x151 := x122 ++ x150
  let x154 := IntKind.wrap .i64 (x123 + 1)
  let x158 : Int := (x106.getD (Int.toNat x124 * (4 : Nat) + (3 : Nat)) default).toI
  let x159 := ilt x158 1
  let x160 := igt x158 63
  let x161 := x159 || x160
  let x174 := !x161
  let x189 := r100509_1 x151 x114 x124 x133 0
  let x196 : Int := (x114.getD (Int.toNat x124 * (6 : Nat) + (3 : Nat)) default).toI
  let x200 : List DV := x125.set (Int.toNat x196 * (1 : Nat) + (0 : Nat)) (.i x154)
  let x203 : List DV := (padN 64 x126).set (Int.toNat x158 * (1 : Nat) + (0 : Nat)) (.i x154)
  let x207 := bif x174 then x189 else x133
  let x208 := bif x174 then x200 else x125
  let x209 := bif x174 then x203 else x126
  let x210 := IntKind.wrap .i64 (x124 + 1)
  [.l (dget ds 0).toL, .l (dget ds 1).toL, .l (dget ds 2).toL, .b x207, .l x138, .l x151, .i x154, .i x210, .l x208, .l x209, .l x0, .l x0]
noncomputable def T100505 (ds : List DV) : List DV :=
  let x106 : List DV := (dget ds 0).toL
  let x114 : List DV := (dget ds 1).toL
  let x0 : List DV := (dget ds 2).toL
  let x120 : Bool := (dget ds 3).toB
  let x121 : List DV := (dget ds 4).toL
  let x122 : List DV := (dget ds 5).toL
  let x123 : Int := (dget ds 6).toI
  let x124 : Int := (dget ds 7).toI
  let x125 : List DV := (dget ds 8).toL
  let x126 : List DV := (dget ds 9).toL
  let x129 := ((x114.length / 6 : Nat) : Int)
  let x130 := ilt x124 x129
  let x132 := r100507_0 x106 x114 x124 x125 x126 x120 0
  let x133 := r100507_1 x106 x114 x124 x125 x126 x120 0
  let x135 := x132 == 0
  let x136 := !x135
  let x137 := (List.range 64).map fun k => x126.getD (Int.toNat 0 * 1 + 0 + k) default
  let x138 := x121 ++ x137
  let x144 : Int := (x114.getD (Int.toNat x124 * (6 : Nat) + (0 : Nat)) default).toI
  let x145 : Int := (x114.getD (Int.toNat x124 * (6 : Nat) + (1 : Nat)) default).toI
  let x146 : Int := (x114.getD (Int.toNat x124 * (6 : Nat) + (2 : Nat)) default).toI
  let x147 : Int := (x114.getD (Int.toNat x124 * (6 : Nat) + (3 : Nat)) default).toI
  let x148 : Int := (x114.getD (Int.toNat x124 * (6 : Nat) + (4 : Nat)) default).toI
  let x149 : Int := (x114.getD (Int.toNat x124 * (6 : Nat) + (5 : Nat)) default).toI
  let x150 : List DV := [.i x144, .i x145, .i x146, .i x147, .i x148, .i x149]
  let x151 := x122 ++ x150
  let x154 := IntKind.wrap .i64 (x123 + 1)
  let x158 : Int := (x106.getD (Int.toNat x124 * (4 : Nat) + (3 : Nat)) default).toI
  let x159 := ilt x158 1
  let x160 := igt x158 63
  let x161 := x159 || x160
  let x174 := !x161
  let x178 : Int := (x114.getD (Int.toNat x124 * (6 : Nat) + (3 : Nat)) default).toI
  let x179 := ilt x178 0
  let x183 : Int := (x114.getD (Int.toNat x124 * (6 : Nat) + (3 : Nat)) default).toI
  let x184 := igt x183 95
  let x185 := x179 || x184
  let x186 := !x185
  let x189 := r100509_1 x151 x114 x124 x133 0
  let x212 := x186 && x189
  let x213 := x174 && x212
  let x214 := bif x136 then x213 else x133
  let x215 := bif x136 then x138 else x121
  let x216 := bif x136 then x151 else x122
  let x217 := bif x136 then x154 else x123
  let x218 : Int := bif x130 then 0 else 1
  let x219 := bif x130 then x214 else x120
  let x220 := bif x130 then x215 else x121
  let x221 := bif x130 then x216 else x122
  let x222 := bif x130 then x217 else x123
  [.i x218, .b x219, .l x220, .l x221, .i x222, .i x124, .l x125, .l x126, .l x0, .l x0]
noncomputable def g100505 (ds : List DV) : List DV := wrapG [.i, .b, .l, .l, .i, .i, .l, .l, .l, .l] (loopG W100505 C100505 N100505 T100505 (nrms [.l, .l, .l, .b, .l, .l, .i, .i, .l, .l, .l, .l] ds))
noncomputable def W100502 (ds : List DV) : Bool :=
  let x0 : List DV := (dget ds 0).toL
  let x84 : Bool := (dget ds 1).toB
  let x85 : List DV := (dget ds 2).toL
  let x86 : List DV := (dget ds 3).toL
  let x87 : Int := (dget ds 4).toI
  let x88 : Int := (dget ds 5).toI
  let x89 : List DV := (dget ds 6).toL
  let x90 : List DV := (dget ds 7).toL
  let x91 : List DV := (dget ds 8).toL
  let x92 : Int := (dget ds 9).toI
  let x93 : Int := (dget ds 10).toI
  let x95 : List DV := (dget ds 12).toL
  let x96 : List DV := (dget ds 13).toL
  let x99 := ((x0.length / 3 : Nat) : Int)
  let x100 := ilt x88 x99
  let x101 := ige x88 0
  let x102 := ((x0.length / 3 : Nat) : Int)
  let x103 := ilt x88 x102
  let x104 : Int := (x0.getD (Int.toNat x88 * (3 : Nat) + (0 : Nat)) default).toI
  let x105 : Int := (x0.getD (Int.toNat x88 * (3 : Nat) + (1 : Nat)) default).toI
  let x106 : List DV := (x0.getD (Int.toNat x88 * (3 : Nat) + (2 : Nat)) default).toL
  let x108 := x104 == 0
  let y109 : List DV := g11 [.l x89, .l x90, .l x91, .i x92, .i x93, .l x106]
  let x109 : Bool := (dget y109 0).toB
  let x114 : List DV := (dget y109 5).toL
  let x116 := ((x114.length / 6 : Nat) : Int)
  let x117 := ((x106.length / 4 : Nat) : Int)
  let x118 := decide (x116 > x117)
  let x119 := !x118
  let y120 : List DV := g100505 [.l x106, dget y109 5, .l x0, .b x84, .l x85, .l x86, .i x87, .i 0, .l x95, .l x96, .l x0, .l x0]
  let x120 : Bool := (dget y120 0).toB
  let x132 := x104 == 1
  let y133 : List DV := g14 [.l x89, .l x90, .l x91, .i x92, .i x93, .i x105]
  let x133 : Bool := (dget y133 0).toB
  let x140 := x104 == 2
  let y141 : List DV := g16 [.l x89, .l x90, .l x91, .i x92, .i x93, .i x105]
  let x141 : Bool := (dget y141 0).toB
  let x146 : List DV := (dget y141 5).toL
  let x148 := ((x146.length / 1 : Nat) : Int)
  let x149 := ((x86.length / 6 : Nat) : Int)
  let x150 := decide (x148 > x149)
  let x151 := !x150
  let x152 := ((x86.length / 6 : Nat) : Int)
  let x153 := decide (x148 ≥ 0)
  let x154 := decide (x148 ≤ x152)
  let x156 := ((x85.length / 64 : Nat) : Int)
  let x157 := decide (x148 ≥ 0)
  let x158 := decide (x148 ≤ x156)
  let x160 := x104 == 3
  let y161 : List DV := g19 [.l x89, .l x90, .l x91, .i x92, .i x93, .i x105]
  let x161 : Bool := (dget y161 0).toB
  let x162 : Int := (dget y161 1).toI
  let x168 := ilt x162 0
  let x169 := ((x86.length / 6 : Nat) : Int)
  let x170 := igt x162 x169
  let x171 := x168 || x170
  let x172 := !x171
  let x173 := igt x162 0
  let x174 := ((x85.length / 64 : Nat) : Int)
  let x175 := IntKind.wrap .i64 (x174 - x162)
  let x176 := decide (x175 ≥ 0)
  let x177 := ((x85.length / 64 : Nat) : Int)
  let x178 := decide (x175 < x177)
  let x181 := ((x86.length / 6 : Nat) : Int)
  let x182 := IntKind.wrap .i64 (x181 - x162)
  let x183 := decide (x182 ≥ 0)
  let x184 := ((x86.length / 6 : Nat) : Int)
  let x185 := decide (x182 ≤ x184)
  let x187 := ((x85.length / 64 : Nat) : Int)
  let x188 := IntKind.wrap .i64 (x187 - x162)
  let x189 := decide (x188 ≥ 0)
  let x190 := ((x85.length / 64 : Nat) : Int)
  let x191 := decide (x188 ≤ x190)
  [ow [(x100, true)] x101, ow [(x100, true)] x103, ow [(x100, true), (x108, true)] x109, ow [(x100, true), (x108, true), (x119, true)] x120, ow [(x100, true), (x108, false), (x132, true)] x133, ow [(x100, true), (x108, false), (x132, false), (x140, true)] x141, ow [(x100, true), (x108, false), (x132, false), (x140, true), (x151, true)] x153, ow [(x100, true), (x108, false), (x132, false), (x140, true), (x151, true)] x154, ow [(x100, true), (x108, false), (x132, false), (x140, true), (x151, true)] x157, ow [(x100, true), (x108, false), (x132, false), (x140, true), (x151, true)] x158, ow [(x100, true), (x108, false), (x132, false), (x140, false), (x160, true)] x161, ow [(x100, true), (x108, false), (x132, false), (x140, false), (x160, true), (x172, true), (x173, true)] x176, ow [(x100, true), (x108, false), (x132, false), (x140, false), (x160, true), (x172, true), (x173, true)] x178, ow [(x100, true), (x108, false), (x132, false), (x140, false), (x160, true), (x172, true)] x183, ow [(x100, true), (x108, false), (x132, false), (x140, false), (x160, true), (x172, true)] x185, ow [(x100, true), (x108, false), (x132, false), (x140, false), (x160, true), (x172, true)] x189, ow [(x100, true), (x108, false), (x132, false), (x140, false), (x160, true), (x172, true)] x191].all id
noncomputable def C100502 (ds : List DV) : Bool :=
  let x0 : List DV := (dget ds 0).toL
  let x84 : Bool := (dget ds 1).toB
  let x85 : List DV := (dget ds 2).toL
  let x86 : List DV := (dget ds 3).toL
  let x87 : Int := (dget ds 4).toI
  let x88 : Int := (dget ds 5).toI
  let x89 : List DV := (dget ds 6).toL
  let x90 : List DV := (dget ds 7).toL
  let x91 : List DV := (dget ds 8).toL
  let x92 : Int := (dget ds 9).toI
  let x93 : Int := (dget ds 10).toI
  let x95 : List DV := (dget ds 12).toL
  let x96 : List DV := (dget ds 13).toL
  let x99 := ((x0.length / 3 : Nat) : Int)
  let x100 := ilt x88 x99
  let x104 : Int := (x0.getD (Int.toNat x88 * (3 : Nat) + (0 : Nat)) default).toI
  let x105 : Int := (x0.getD (Int.toNat x88 * (3 : Nat) + (1 : Nat)) default).toI
  let x106 : List DV := (x0.getD (Int.toNat x88 * (3 : Nat) + (2 : Nat)) default).toL
  let x108 := x104 == 0
  let y114 : List DV := g11 [.l x89, .l x90, .l x91, .i x92, .i x93, .l x106]
  let x114 : List DV := (dget y114 5).toL
  let x116 := ((x114.length / 6 : Nat) : Int)
  let x117 := ((x106.length / 4 : Nat) : Int)
  let x118 := decide (x116 > x117)
  let x119 := !x118
  let y121 : List DV := g100505 [.l x106, dget y114 5, .l x0, .b x84, .l x85, .l x86, .i x87, .i 0, .l x95, .l x96, .l x0, .l x0]
  let x121 : Int := (dget y121 1).toI
  let x131 := x121 == 0
  let x132 := x104 == 1
  let x140 := x104 == 2
  let y146 : List DV := g16 [.l x89, .l x90, .l x91, .i x92, .i x93, .i x105]
  let x146 : List DV := (dget y146 5).toL
  let x148 := ((x146.length / 1 : Nat) : Int)
  let x149 := ((x86.length / 6 : Nat) : Int)
  let x150 := decide (x148 > x149)
  let x151 := !x150
  let x160 := x104 == 3
  let y162 : List DV := g19 [.l x89, .l x90, .l x91, .i x92, .i x93, .i x105]
  let x162 : Int := (dget y162 1).toI
  let x168 := ilt x162 0
  let x169 := ((x86.length / 6 : Nat) : Int)
  let x170 := igt x162 x169
  let x171 := x168 || x170
  let x172 := !x171
  let x193 := !x131
  let x194 := x119 && x193
  let x195 := bif x160 then x172 else true
  let x196 := bif x140 then x151 else x195
  let x197 := x132 || x196
  let x198 := bif x108 then x194 else x197
  let x235 := x100 && x198
  x235
noncomputable def N100502 (ds : List DV) : List DV :=
  let x0 : List DV := (dget ds 0).toL
  let x84 : Bool := (dget ds 1).toB
  let x85 : List DV := (dget ds 2).toL
  let x86 : List DV := (dget ds 3).toL
  let x87 : Int := (dget ds 4).toI
  let x88 : Int := (dget ds 5).toI
  let x89 : List DV := (dget ds 6).toL
  let x90 : List DV := (dget ds 7).toL
  let x91 : List DV := (dget ds 8).toL
  let x92 : Int := (dget ds 9).toI
  let x93 : Int := (dget ds 10).toI
  let x95 : List DV := (dget ds 12).toL
  let x96 : List DV := (dget ds 13).toL
  let x104 : Int := (x0.getD (Int.toNat x88 * (3 : Nat) + (0 : Nat)) default).toI
  let x105 : Int := (x0.getD (Int.toNat x88 * (3 : Nat) + (1 : Nat)) default).toI
  let x106 : List DV := (x0.getD (Int.toNat x88 * (3 : Nat) + (2 : Nat)) default).toL
  let x108 := x104 == 0
  let y110 : List DV := g11 [.l x89, .l x90, .l x91, .i x92, .i x93, .l x106]
  let x110 : List DV := (dget y110 1).toL
  let x111 : List DV := (dget y110 2).toL
  let x112 : Int := (dget y110 3).toI
  let x113 : Int := (dget y110 4).toI
  let x115 : List DV := (dget y110 6).toL
  let y122 : List DV := g100505 [.l x106, dget y110 5, .l x0, .b x84, .l x85, .l x86, .i x87, .i 0, .l x95, .l x96, .l x0, .l x0]
  let x122 : Bool := (dget y122 2).toB
  let x123 : List DV := (dget y122 3).toL
  let x124 : List DV := (dget y122 4).toL
  let x125 : Int := (dget y122 5).toI
  let x127 : List DV := (dget y122 7).toL
  let x128 : List DV := (dget y122 8).toL
  let x132 := x104 == 1
  let y135 : List DV := g14 [.l x89, .l x90, .l x91, .i x92, .i x93, .i x105]
  let x135 : List DV := (dget y135 2).toL
  let x136 : List DV := (dget y135 3).toL
  let x137 : List DV := (dget y135 4).toL
  let x138 : Int := (dget y135 5).toI
  let x139 : Int := (dget y135 6).toI
  let x140 := x104 == 2
  let y142 : List DV := g16 [.l x89, .l x90, .l x91, .i x92, .i x93, .i x105]
  let x142 : List DV := (dget y142 1).toL
  let x143 : List DV := (dget y142 2).toL
  let x144 : Int := (dget y142 3).toI
  let x145 : Int := (dget y142 4).toI
  let x146 : List DV := (dget y142 5).toL
  let x147 : List DV := (dget y142 6).toL
  let x148 := ((x146.length / 1 : Nat) : Int)
  let x155 := x86.drop (Int.toNat x148 * 6)
  let x159 := x85.drop (Int.toNat x148 * 64)
  let x160 := x104 == 3
  let y162 : List DV := g19 [.l x89, .l x90, .l x91, .i x92, .i x93, .i x105]
  let x162 : Int := (dget y162 1).toI
  let x163 : List DV := (dget y162 2).toL
  let x164 : List DV := (dget y162 3).toL
  let x165 : Int := (dget y162 4).toI
  let x166 : Int := (dget y162 5).toI
  let x167 : List DV := (dget y162 6).toL
  let x173 := igt x162 0
  let x174 := ((x85.length / 64 : Nat) : Int)
  let x175 := IntKind.wrap .i64 (x174 - x162)
  let x179 := (List.range 64).map fun k => x85.getD (Int.toNat x175 * 64 + 0 + k) default
  let x180 := bif x173 then x179 else x96
  let x181 := ((x86.length / 6 : Nat) : Int)
  let x182 := IntKind.wrap .i64 (x181 - x162)
  let x186 := x86.take (Int.toNat x182 * 6)
  let x187 := ((x85.length / 64 : Nat) : Int)
  let x188 := IntKind.wrap .i64 (x187 - x162)
  let x192 := x85.take (Int.toNat x188 * 64)
  let x199 := bif x160 then x192 else x85
  let x200 := bif x160 then x186 else x86
  let x201 := bif x160 then x163 else x89
  let x202 := bif x160 then x167 else x90
  let x203 := bif x160 then x164 else x91
  let x204 := bif x160 then x165 else x92
  let x205 := bif x160 then x166 else x93
  let x206 := bif x160 then x180 else x96
  let x207 := bif x140 then x155 else x200
  let x208 := bif x140 then x142 else x201
  let x209 := bif x140 then x147 else x202
  let x210 := bif x140 then x143 else x203
  let x211 := bif x140 then x144 else x204
  let x212 := bif x140 then x145 else x205
  let x213 := bif x140 then x96 else x206
  let x214 := bif x140 then x159 else x199
  let x215 := bif x132 then x85 else x214
  let x216 := bif x132 then x86 else x207
  let x217 := bif x132 then x136 else x208
  let x218 := bif x132 then x135 else x209
  let x219 := bif x132 then x137 else x210
  let x220 := bif x132 then x138 else x211
  let x221 := bif x132 then x139 else x212
  let x222 := bif x132 then x96 else x213
  let x223 := bif x108 then x122 else x84
  let x224 := bif x108 then x123 else x215
  let x225 := bif x108 then x124 else x216
  let x226 := bif x108 then x125 else x87
  let x227 := bif x108 then x110 else x217
  let x228 := bif x108 then x115 else x218
  let x229 := bif x108 then x111 else x219
  let x230 := bif x108 then x112 else x220
  let x231 := bif x108 then x113 else x221
  let x232 := bif x108 then x127 else x95
  let x233 := bif x108 then x128 else x222
  let x234 := IntKind.wrap .i64 (x88 + 1)
  [.l (dget ds 0).toL, .b x223, .l x224, .l x225, .i x226, .i x234, .l x227, .l x228, .l x229, .i x230, .i x231, .l x0, .l x232, .l x233, .l x0, .l x0]
noncomputable def T100502 (ds : List DV) : List DV :=
  let x0 : List DV := (dget ds 0).toL
  let x84 : Bool := (dget ds 1).toB
  let x85 : List DV := (dget ds 2).toL
  let x86 : List DV := (dget ds 3).toL
  let x87 : Int := (dget ds 4).toI
  let x88 : Int := (dget ds 5).toI
  let x89 : List DV := (dget ds 6).toL
  let x90 : List DV := (dget ds 7).toL
  let x91 : List DV := (dget ds 8).toL
  let x92 : Int := (dget ds 9).toI
  let x93 : Int := (dget ds 10).toI
  let x95 : List DV := (dget ds 12).toL
  let x96 : List DV := (dget ds 13).toL
  let x99 := ((x0.length / 3 : Nat) : Int)
  let x100 := ilt x88 x99
  let x104 : Int := (x0.getD (Int.toNat x88 * (3 : Nat) + (0 : Nat)) default).toI
  let x105 : Int := (x0.getD (Int.toNat x88 * (3 : Nat) + (1 : Nat)) default).toI
  let x106 : List DV := (x0.getD (Int.toNat x88 * (3 : Nat) + (2 : Nat)) default).toL
  let x108 := x104 == 0
  let y110 : List DV := g11 [.l x89, .l x90, .l x91, .i x92, .i x93, .l x106]
  let x110 : List DV := (dget y110 1).toL
  let x111 : List DV := (dget y110 2).toL
  let x112 : Int := (dget y110 3).toI
  let x113 : Int := (dget y110 4).toI
  let x114 : List DV := (dget y110 5).toL
  let x115 : List DV := (dget y110 6).toL
  let x116 := ((x114.length / 6 : Nat) : Int)
  let x117 := ((x106.length / 4 : Nat) : Int)
  let x118 := decide (x116 > x117)
  let x119 := !x118
  let y122 : List DV := g100505 [.l x106, dget y110 5, .l x0, .b x84, .l x85, .l x86, .i x87, .i 0, .l x95, .l x96, .l x0, .l x0]
  let x122 : Bool := (dget y122 2).toB
  let x123 : List DV := (dget y122 3).toL
  let x124 : List DV := (dget y122 4).toL
  let x125 : Int := (dget y122 5).toI
  let x127 : List DV := (dget y122 7).toL
  let x128 : List DV := (dget y122 8).toL
  let x140 := x104 == 2
  let y142 : List DV := g16 [.l x89, .l x90, .l x91, .i x92, .i x93, .i x105]
  let x142 : List DV := (dget y142 1).toL
  let x143 : List DV := (dget y142 2).toL
  let x144 : Int := (dget y142 3).toI
  let x145 : Int := (dget y142 4).toI
  let x147 : List DV := (dget y142 6).toL
  let y163 : List DV := g19 [.l x89, .l x90, .l x91, .i x92, .i x93, .i x105]
  let x163 : List DV := (dget y163 2).toL
  let x164 : List DV := (dget y163 3).toL
  let x165 : Int := (dget y163 4).toI
  let x166 : Int := (dget y163 5).toI
  let x167 : List DV := (dget y163 6).toL
  let x236 := x119 && x122
  let x237 := bif x119 then x123 else x85
  let x238 := bif x119 then x124 else x86
  let x239 := bif x119 then x125 else x87
  let x240 := bif x119 then x127 else x95
  let x241 := bif x119 then x128 else x96
  let x242 := bif x140 then x142 else x163
  let x243 := bif x140 then x147 else x167
  let x244 := bif x140 then x143 else x164
  let x245 := bif x140 then x144 else x165
  let x246 := bif x140 then x145 else x166
  let x247 := x108 && x236
  let x248 := bif x108 then x237 else x85
  let x249 := bif x108 then x238 else x86
  let x250 := bif x108 then x239 else x87
  let x251 := bif x108 then x110 else x242
  let x252 := bif x108 then x115 else x243
  let x253 := bif x108 then x111 else x244
  let x254 := bif x108 then x112 else x245
  let x255 := bif x108 then x113 else x246
  let x256 := bif x108 then x240 else x95
  let x257 := bif x108 then x241 else x96
  let x258 : Int := bif x100 then 0 else 1
  let x259 := bif x100 then x247 else x84
  let x260 := bif x100 then x248 else x85
  let x261 := bif x100 then x249 else x86
  let x262 := bif x100 then x250 else x87
  let x263 := bif x100 then x251 else x89
  let x264 := bif x100 then x252 else x90
  let x265 := bif x100 then x253 else x91
  let x266 := bif x100 then x254 else x92
  let x267 := bif x100 then x255 else x93
  let x268 := bif x100 then x256 else x95
  let x269 := bif x100 then x257 else x96
  [.i x258, .b x259, .l x260, .l x261, .i x262, .i x88, .l x263, .l x264, .l x265, .i x266, .i x267, .l x0, .l x268, .l x269, .l x0, .l x0]
noncomputable def g100502 (ds : List DV) : List DV := wrapG [.i, .b, .l, .l, .i, .i, .l, .l, .l, .i, .i, .l, .l, .l, .l, .l] (loopG W100502 C100502 N100502 T100502 (nrms [.l, .b, .l, .l, .i, .i, .l, .l, .l, .i, .i, .l, .l, .l, .l, .l] ds))
noncomputable def w100500 (x79 : Int) (x80 : List DV) (_x81 : List DV) : Bool :=
  let x82 := decide (x79 < 64)
  let x84 := decide (x79 ≥ 0)
  let x85 := ((x80.length / 1 : Nat) : Int)
  let x86 := decide (x79 < x85)
  let x89 := decide (x79 ≥ 0)
  let x90 := decide (x79 < 64)
  [ow [(x82, true)] x84, ow [(x82, true)] x86, ow [(x82, true)] x89, ow [(x82, true)] x90].all id
noncomputable def c100500 (x79 : Int) (_x80 : List DV) (_x81 : List DV) : Bool :=
  let x82 := decide (x79 < 64)
  x82
noncomputable def n100500_0 (x79 : Int) (_x80 : List DV) (_x81 : List DV) : Int :=
  let x92 := IntKind.wrap .i64 (x79 + 1)
  x92
noncomputable def n100500_1 (x79 : Int) (x80 : List DV) (_x81 : List DV) : List DV :=
  let x83 := IntKind.wrap .i64 (0 - x79)
  let x87 : List DV := x80.set (Int.toNat x79 * (1 : Nat) + (0 : Nat)) (.i x83)
  x87
noncomputable def n100500_2 (x79 : Int) (_x80 : List DV) (x81 : List DV) : List DV :=
  let x88 := IntKind.wrap .i64 (0 - x79)
  let x91 : List DV := (padN 64 x81).set (Int.toNat x79 * (1 : Nat) + (0 : Nat)) (.i x88)
  x91
noncomputable def t100500_0 (_x79 : Int) (_x80 : List DV) (_x81 : List DV) : Int :=
  0
noncomputable def t100500_1 (x79 : Int) (_x80 : List DV) (_x81 : List DV) : Int :=
  x79
noncomputable def t100500_2 (_x79 : Int) (x80 : List DV) (_x81 : List DV) : List DV :=
  x80
noncomputable def t100500_3 (_x79 : Int) (_x80 : List DV) (x81 : List DV) : List DV :=
  x81
noncomputable def W100500 (ds : List DV) : Bool := w100500 (dget ds 0).toI (dget ds 1).toL (dget ds 2).toL
noncomputable def C100500 (ds : List DV) : Bool := c100500 (dget ds 0).toI (dget ds 1).toL (dget ds 2).toL
noncomputable def N100500 (ds : List DV) : List DV := [.i (n100500_0 (dget ds 0).toI (dget ds 1).toL (dget ds 2).toL), .l (n100500_1 (dget ds 0).toI (dget ds 1).toL (dget ds 2).toL), .l (n100500_2 (dget ds 0).toI (dget ds 1).toL (dget ds 2).toL)]
noncomputable def T100500 (ds : List DV) : List DV := [.i (t100500_0 (dget ds 0).toI (dget ds 1).toL (dget ds 2).toL), .i (t100500_1 (dget ds 0).toI (dget ds 1).toL (dget ds 2).toL), .l (t100500_2 (dget ds 0).toI (dget ds 1).toL (dget ds 2).toL), .l (t100500_3 (dget ds 0).toI (dget ds 1).toL (dget ds 2).toL)]
noncomputable def L100500 (x0 : Int) (x1 : List DV) (x2 : List DV) : Option (List DV) := loopG W100500 C100500 N100500 T100500 [.i x0, .l x1, .l x2]
noncomputable def p100500 (x0 : Int) (x1 : List DV) (x2 : List DV) : Bool := (L100500 x0 x1 x2).isSome
noncomputable def r100500_0 (x0 : Int) (x1 : List DV) (x2 : List DV) : Int := (dget ((L100500 x0 x1 x2).getD []) 0).toI
noncomputable def r100500_1 (x0 : Int) (x1 : List DV) (x2 : List DV) : Int := (dget ((L100500 x0 x1 x2).getD []) 1).toI
noncomputable def r100500_2 (x0 : Int) (x1 : List DV) (x2 : List DV) : List DV := (dget ((L100500 x0 x1 x2).getD []) 2).toL
noncomputable def r100500_3 (x0 : Int) (x1 : List DV) (x2 : List DV) : List DV := (dget ((L100500 x0 x1 x2).getD []) 3).toL
noncomputable def g100500 (ds : List DV) : List DV := [.b (p100500 (dget ds 0).toI (dget ds 1).toL (dget ds 2).toL), .i (r100500_0 (dget ds 0).toI (dget ds 1).toL (dget ds 2).toL), .i (r100500_1 (dget ds 0).toI (dget ds 1).toL (dget ds 2).toL), .l (r100500_2 (dget ds 0).toI (dget ds 1).toL (dget ds 2).toL), .l (r100500_3 (dget ds 0).toI (dget ds 1).toL (dget ds 2).toL)]
def h100500 : LH := ⟨[], [], [(4, [(0, 64)])], [3]⟩
def l5_0 : LR := ⟨100500, 79, 3, [], [(82, .lss (.r 79) (.z 64)), (83, .sub .i64 (.z 0) (.r 79)), (84, .geq (.r 79) (.z 0)), (85, .llen 1 (.r 80)), (86, .lss (.r 79) (.r 85)), (87, .lset 1 0 .i (.r 80) (.r 79) (.r 83)), (88, .sub .i64 (.z 0) (.r 79)), (89, .geq (.r 79) (.z 0)), (90, .lss (.r 79) (.z 64)), (91, .aset 64 1 0 .i (.r 81) (.r 79) (.r 88)), (92, .add .i64 (.r 79) (.z 1))], [⟨[(.r 82, true)], .r 84⟩, ⟨[(.r 82, true)], .r 86⟩, ⟨[(.r 82, true)], .r 89⟩, ⟨[(.r 82, true)], .r 90⟩], .r 82, [.r 92, .r 87, .r 91], [.z 0, .r 79, .r 80, .r 81], [.i, .l, .l], h100500⟩
def h100507 : LH := ⟨[], [78], [], []⟩
def l5_1 : LR := ⟨100507, 131, 2, [106, 114, 124, 125, 126], [(133, .lss (.r 132) (.z 3)), (134, .geq (.r 124) (.z 0)), (135, .llen 4 (.r 106)), (136, .lss (.r 124) (.r 135)), (137, .geq (.r 132) (.z 0)), (138, .lss (.r 132) (.z 3)), (139, .lgeti 4 0 (.r 106) (.r 124)), (140, .lgeti 4 1 (.r 106) (.r 124)), (141, .lgeti 4 2 (.r 106) (.r 124)), (142, .seli [.r 139, .r 140, .r 141] (.r 132)), (143, .lss (.r 142) (.z 0)), (144, .gtr (.r 142) (.z 63)), (145, .or (.r 143) (.r 144)), (146, .geq (.r 124) (.z 0)), (147, .llen 6 (.r 114)), (148, .lss (.r 124) (.r 147)), (149, .geq (.r 132) (.z 0)), (150, .lss (.r 132) (.z 3)), (151, .lgeti 6 0 (.r 114) (.r 124)), (152, .lgeti 6 1 (.r 114) (.r 124)), (153, .lgeti 6 2 (.r 114) (.r 124)), (154, .seli [.r 151, .r 152, .r 153] (.r 132)), (155, .neq (.r 154) (.z (-1))), (156, .not (.r 155)), (157, .not (.r 145)), (158, .geq (.r 124) (.z 0)), (159, .llen 6 (.r 114)), (160, .lss (.r 124) (.r 159)), (161, .geq (.r 132) (.z 0)), (162, .lss (.r 132) (.z 3)), (163, .lgeti 6 0 (.r 114) (.r 124)), (164, .lgeti 6 1 (.r 114) (.r 124)), (165, .lgeti 6 2 (.r 114) (.r 124)), (166, .seli [.r 163, .r 164, .r 165] (.r 132)), (167, .lss (.r 166) (.z 0)), (168, .geq (.r 124) (.z 0)), (169, .llen 6 (.r 114)), (170, .lss (.r 124) (.r 169)), (171, .geq (.r 132) (.z 0)), (172, .lss (.r 132) (.z 3)), (173, .lgeti 6 0 (.r 114) (.r 124)), (174, .lgeti 6 1 (.r 114) (.r 124)), (175, .lgeti 6 2 (.r 114) (.r 124)), (176, .seli [.r 173, .r 174, .r 175] (.r 132)), (177, .gtr (.r 176) (.z 95)), (178, .or (.r 167) (.r 177)), (179, .geq (.r 124) (.z 0)), (180, .llen 6 (.r 114)), (181, .lss (.r 124) (.r 180)), (182, .geq (.r 132) (.z 0)), (183, .lss (.r 132) (.z 3)), (184, .lgeti 6 0 (.r 114) (.r 124)), (185, .lgeti 6 1 (.r 114) (.r 124)), (186, .lgeti 6 2 (.r 114) (.r 124)), (187, .seli [.r 184, .r 185, .r 186] (.r 132)), (188, .geq (.r 187) (.z 0)), (189, .llen 1 (.r 125)), (190, .lss (.r 187) (.r 189)), (191, .lgeti 1 0 (.r 125) (.r 187)), (192, .geq (.r 142) (.z 0)), (193, .lss (.r 142) (.z 64)), (194, .lgeti 1 0 (.r 126) (.r 142)), (195, .neq (.r 191) (.r 194)), (196, .or (.r 178) (.r 195)), (197, .not (.r 196)), (198, .iteb (.r 157) (.r 197) (.r 156)), (199, .add .i64 (.r 132) (.z 1)), (200, .and (.r 133) (.r 198)), (201, .itei (.r 133) (.z 0) (.z 1)), (202, .iteb (.r 133) (.t false) (.r 131))], [⟨[(.r 133, true)], .r 134⟩, ⟨[(.r 133, true)], .r 136⟩, ⟨[(.r 133, true)], .r 137⟩, ⟨[(.r 133, true)], .r 138⟩, ⟨[(.r 133, true), (.r 145, true)], .r 146⟩, ⟨[(.r 133, true), (.r 145, true)], .r 148⟩, ⟨[(.r 133, true), (.r 145, true)], .r 149⟩, ⟨[(.r 133, true), (.r 145, true)], .r 150⟩, ⟨[(.r 133, true), (.r 157, true)], .r 158⟩, ⟨[(.r 133, true), (.r 157, true)], .r 160⟩, ⟨[(.r 133, true), (.r 157, true)], .r 161⟩, ⟨[(.r 133, true), (.r 157, true)], .r 162⟩, ⟨[(.r 133, true), (.r 157, true), (.r 167, false)], .r 168⟩, ⟨[(.r 133, true), (.r 157, true), (.r 167, false)], .r 170⟩, ⟨[(.r 133, true), (.r 157, true), (.r 167, false)], .r 171⟩, ⟨[(.r 133, true), (.r 157, true), (.r 167, false)], .r 172⟩, ⟨[(.r 133, true), (.r 157, true), (.r 178, false)], .r 179⟩, ⟨[(.r 133, true), (.r 157, true), (.r 178, false)], .r 181⟩, ⟨[(.r 133, true), (.r 157, true), (.r 178, false)], .r 182⟩, ⟨[(.r 133, true), (.r 157, true), (.r 178, false)], .r 183⟩, ⟨[(.r 133, true), (.r 157, true), (.r 178, false)], .r 188⟩, ⟨[(.r 133, true), (.r 157, true), (.r 178, false)], .r 190⟩, ⟨[(.r 133, true), (.r 157, true), (.r 178, false)], .r 192⟩, ⟨[(.r 133, true), (.r 157, true), (.r 178, false)], .r 193⟩], .r 200, [.r 131, .r 199], [.r 201, .r 202, .r 132], [.b, .i], h100507⟩
def h100511 : LH := ⟨[], [], [], []⟩
def l5_2 : LR := ⟨100511, 192, 2, [151, 188, 114, 124], [(194, .lss (.r 193) (.z 3)), (195, .geq (.r 188) (.z 0)), (196, .llen 6 (.r 151)), (197, .lss (.r 188) (.r 196)), (198, .geq (.r 193) (.z 0)), (199, .lss (.r 193) (.z 3)), (200, .lgeti 6 0 (.r 151) (.r 188)), (201, .lgeti 6 1 (.r 151) (.r 188)), (202, .lgeti 6 2 (.r 151) (.r 188)), (203, .seli [.r 200, .r 201, .r 202] (.r 193)), (204, .geq (.r 124) (.z 0)), (205, .llen 6 (.r 114)), (206, .lss (.r 124) (.r 205)), (207, .lgeti 6 3 (.r 114) (.r 124)), (208, .eql (.r 203) (.r 207)), (209, .not (.r 208)), (210, .add .i64 (.r 193) (.z 1)), (211, .and (.r 194) (.r 209)), (212, .itei (.r 194) (.z 0) (.z 1)), (213, .iteb (.r 194) (.t false) (.r 192))], [⟨[(.r 194, true)], .r 195⟩, ⟨[(.r 194, true)], .r 197⟩, ⟨[(.r 194, true)], .r 198⟩, ⟨[(.r 194, true)], .r 199⟩, ⟨[(.r 194, true)], .r 204⟩, ⟨[(.r 194, true)], .r 206⟩], .r 211, [.r 192, .r 210], [.r 212, .r 213, .r 193], [.b, .i], h100511⟩
def h100509 : LH := ⟨[], [], [], []⟩
def l5_3 : LR := ⟨100509, 187, 2, [151, 114, 124], List.append (List.append ([(189, .llen 6 (.r 151)), (190, .sub .i64 (.r 189) (.z 1)), (191, .lss (.r 188) (.r 190))]) (callsAt 192 100511 [.r 151, .r 188, .r 114, .r 124, .r 187, .z 0] 0 4)) ([(196, .eql (.r 193) (.z 0)), (197, .not (.r 196)), (198, .add .i64 (.r 188) (.z 1)), (199, .and (.r 191) (.r 197)), (200, .itei (.r 191) (.z 0) (.z 1)), (201, .iteb (.r 191) (.r 194) (.r 187))]), [⟨[(.r 191, true)], .r 192⟩], .r 199, [.r 194, .r 198], [.r 200, .r 201, .r 188], [.b, .i], h100509⟩
def h100505 : LH := ⟨[], [78, 147], [(4, [(0, 64)])], [3, 7, 8]⟩
def l5_4 : LR := ⟨100505, 120, 9, [106, 114, 0], List.append (List.append (List.append (List.append ([(129, .llen 6 (.r 114)), (130, .lss (.r 124) (.r 129))]) (callsAt 131 100507 [.r 106, .r 114, .r 124, .r 125, .r 126, .r 120, .z 0] 0 4)) ([(135, .eql (.r 132) (.z 0)), (136, .not (.r 135)), (137, .lsub 64 1 0 (.r 126) (.z 0)), (138, .lcat (.r 121) (.r 137)), (139, .llen 64 (.r 138)), (140, .leq (.r 139) (.z 137171041281)), (141, .geq (.r 124) (.z 0)), (142, .llen 6 (.r 114)), (143, .lss (.r 124) (.r 142)), (144, .lgeti 6 0 (.r 114) (.r 124)), (145, .lgeti 6 1 (.r 114) (.r 124)), (146, .lgeti 6 2 (.r 114) (.r 124)), (147, .lgeti 6 3 (.r 114) (.r 124)), (148, .lgeti 6 4 (.r 114) (.r 124)), (149, .lgeti 6 5 (.r 114) (.r 124)), (150, .lmk [.i, .i, .i, .i, .i, .i] (idsFrom 144 6)), (151, .lcat (.r 122) (.r 150)), (152, .llen 6 (.r 151)), (153, .leq (.r 152) (.z 1436096819952)), (154, .add .i64 (.r 123) (.z 1)), (155, .geq (.r 124) (.z 0)), (156, .llen 4 (.r 106)), (157, .lss (.r 124) (.r 156)), (158, .lgeti 4 3 (.r 106) (.r 124)), (159, .lss (.r 158) (.z 1)), (160, .gtr (.r 158) (.z 63)), (161, .or (.r 159) (.r 160)), (162, .geq (.r 124) (.z 0)), (163, .llen 6 (.r 114)), (164, .lss (.r 124) (.r 163)), (165, .lgeti 6 3 (.r 114) (.r 124)), (166, .neq (.r 165) (.z (-1))), (167, .geq (.r 124) (.z 0)), (168, .llen 6 (.r 114)), (169, .lss (.r 124) (.r 168)), (170, .lgeti 6 4 (.r 114) (.r 124)), (171, .neq (.r 170) (.z (-1))), (172, .or (.r 166) (.r 171)), (173, .not (.r 172)), (174, .not (.r 161)), (175, .geq (.r 124) (.z 0)), (176, .llen 6 (.r 114)), (177, .lss (.r 124) (.r 176)), (178, .lgeti 6 3 (.r 114) (.r 124)), (179, .lss (.r 178) (.z 0)), (180, .geq (.r 124) (.z 0)), (181, .llen 6 (.r 114)), (182, .lss (.r 124) (.r 181)), (183, .lgeti 6 3 (.r 114) (.r 124)), (184, .gtr (.r 183) (.z 95)), (185, .or (.r 179) (.r 184)), (186, .not (.r 185))])) (callsAt 187 100509 [.r 151, .r 114, .r 124, .r 133, .z 0] 0 4)) ([(191, .eql (.r 188) (.z 0)), (192, .not (.r 191)), (193, .geq (.r 124) (.z 0)), (194, .llen 6 (.r 114)), (195, .lss (.r 124) (.r 194)), (196, .lgeti 6 3 (.r 114) (.r 124)), (197, .geq (.r 196) (.z 0)), (198, .llen 1 (.r 125)), (199, .lss (.r 196) (.r 198)), (200, .lset 1 0 .i (.r 125) (.r 196) (.r 154)), (201, .geq (.r 158) (.z 0)), (202, .lss (.r 158) (.z 64)), (203, .aset 64 1 0 .i (.r 126) (.r 158) (.r 154)), (204, .and (.r 186) (.r 192)), (205, .iteb (.r 174) (.r 204) (.r 173)), (206, .and (.r 136) (.r 205)), (207, .iteb (.r 174) (.r 189) (.r 133)), (208, .itel (.r 174) (.r 200) (.r 125)), (209, .itel (.r 174) (.r 203) (.r 126)), (210, .add .i64 (.r 124) (.z 1)), (211, .and (.r 130) (.r 206)), (212, .and (.r 186) (.r 189)), (213, .and (.r 174) (.r 212)), (214, .iteb (.r 136) (.r 213) (.r 133)), (215, .itel (.r 136) (.r 138) (.r 121)), (216, .itel (.r 136) (.r 151) (.r 122)), (217, .itei (.r 136) (.r 154) (.r 123)), (218, .itei (.r 130) (.z 0) (.z 1)), (219, .iteb (.r 130) (.r 214) (.r 120)), (220, .itel (.r 130) (.r 215) (.r 121)), (221, .itel (.r 130) (.r 216) (.r 122)), (222, .itei (.r 130) (.r 217) (.r 123))]), [⟨[(.r 130, true)], .r 131⟩, ⟨[(.r 130, true), (.r 136, true)], .r 140⟩, ⟨[(.r 130, true), (.r 136, true)], .r 141⟩, ⟨[(.r 130, true), (.r 136, true)], .r 143⟩, ⟨[(.r 130, true), (.r 136, true)], .r 153⟩, ⟨[(.r 130, true), (.r 136, true)], .r 155⟩, ⟨[(.r 130, true), (.r 136, true)], .r 157⟩, ⟨[(.r 130, true), (.r 136, true), (.r 161, true)], .r 162⟩, ⟨[(.r 130, true), (.r 136, true), (.r 161, true)], .r 164⟩, ⟨[(.r 130, true), (.r 136, true), (.r 161, true), (.r 166, false)], .r 167⟩, ⟨[(.r 130, true), (.r 136, true), (.r 161, true), (.r 166, false)], .r 169⟩, ⟨[(.r 130, true), (.r 136, true), (.r 174, true)], .r 175⟩, ⟨[(.r 130, true), (.r 136, true), (.r 174, true)], .r 177⟩, ⟨[(.r 130, true), (.r 136, true), (.r 174, true), (.r 179, false)], .r 180⟩, ⟨[(.r 130, true), (.r 136, true), (.r 174, true), (.r 179, false)], .r 182⟩, ⟨[(.r 130, true), (.r 136, true), (.r 174, true), (.r 186, true)], .r 187⟩, ⟨[(.r 130, true), (.r 136, true), (.r 174, true), (.r 186, true), (.r 192, true)], .r 193⟩, ⟨[(.r 130, true), (.r 136, true), (.r 174, true), (.r 186, true), (.r 192, true)], .r 195⟩, ⟨[(.r 130, true), (.r 136, true), (.r 174, true), (.r 186, true), (.r 192, true)], .r 197⟩, ⟨[(.r 130, true), (.r 136, true), (.r 174, true), (.r 186, true), (.r 192, true)], .r 199⟩, ⟨[(.r 130, true), (.r 136, true), (.r 174, true), (.r 186, true), (.r 192, true)], .r 201⟩, ⟨[(.r 130, true), (.r 136, true), (.r 174, true), (.r 186, true), (.r 192, true)], .r 202⟩], .r 211, [.r 207, .r 138, .r 151, .r 154, .r 210, .r 208, .r 209, .r 0, .r 0], [.r 218, .r 219, .r 220, .r 221, .r 222, .r 124, .r 125, .r 126, .r 0, .r 0], [.b, .l, .l, .i, .i, .l, .l, .l, .l], h100505⟩
def h100502 : LH := ⟨[], [44, 49, 59, 64], [(1, [(0, 131)]), (4, [(0, 64)])], [2, 3, 5, 6]⟩
def l5_5 : LR := ⟨100502, 84, 15, [0], List.append (List.append (List.append (List.append (List.append (List.append (List.append (List.append (List.append (List.append ([(99, .llen 3 (.r 0)), (100, .lss (.r 88) (.r 99)), (101, .geq (.r 88) (.z 0)), (102, .llen 3 (.r 0)), (103, .lss (.r 88) (.r 102)), (104, .lgeti 3 0 (.r 0) (.r 88)), (105, .lgeti 3 1 (.r 0) (.r 88)), (106, .lgetl 3 2 (.r 0) (.r 88)), (107, .lmk [] []), (108, .eql (.r 104) (.z 0))]) (callsAt 109 11 [.r 89, .r 90, .r 91, .r 92, .r 93, .r 106] 0 7)) ([(116, .llen 6 (.r 114)), (117, .llen 4 (.r 106)), (118, .gtr (.r 116) (.r 117)), (119, .not (.r 118))])) (callsAt 120 100505 [.r 106, .r 114, .r 0, .r 84, .r 85, .r 86, .r 87, .z 0, .r 95, .r 96, .r 0, .r 0] 0 11)) ([(131, .eql (.r 121) (.z 0)), (132, .eql (.r 104) (.z 1))])) (callsAt 133 14 [.r 89, .r 90, .r 91, .r 92, .r 93, .r 105] 0 7)) ([(140, .eql (.r 104) (.z 2))])) (callsAt 141 16 [.r 89, .r 90, .r 91, .r 92, .r 93, .r 105] 0 7)) ([(148, .llen 1 (.r 146)), (149, .llen 6 (.r 86)), (150, .gtr (.r 148) (.r 149)), (151, .not (.r 150)), (152, .llen 6 (.r 86)), (153, .geq (.r 148) (.z 0)), (154, .leq (.r 148) (.r 152)), (155, .ldrop 6 (.r 86) (.r 148)), (156, .llen 64 (.r 85)), (157, .geq (.r 148) (.z 0)), (158, .leq (.r 148) (.r 156)), (159, .ldrop 64 (.r 85) (.r 148)), (160, .eql (.r 104) (.z 3))])) (callsAt 161 19 [.r 89, .r 90, .r 91, .r 92, .r 93, .r 105] 0 7)) ([(168, .lss (.r 162) (.z 0)), (169, .llen 6 (.r 86)), (170, .gtr (.r 162) (.r 169)), (171, .or (.r 168) (.r 170)), (172, .not (.r 171)), (173, .gtr (.r 162) (.z 0)), (174, .llen 64 (.r 85)), (175, .sub .i64 (.r 174) (.r 162)), (176, .geq (.r 175) (.z 0)), (177, .llen 64 (.r 85)), (178, .lss (.r 175) (.r 177)), (179, .lsub 64 64 0 (.r 85) (.r 175)), (180, .itel (.r 173) (.r 179) (.r 96)), (181, .llen 6 (.r 86)), (182, .sub .i64 (.r 181) (.r 162)), (183, .geq (.r 182) (.z 0)), (184, .llen 6 (.r 86)), (185, .leq (.r 182) (.r 184)), (186, .ltake 6 (.r 86) (.r 182)), (187, .llen 64 (.r 85)), (188, .sub .i64 (.r 187) (.r 162)), (189, .geq (.r 188) (.z 0)), (190, .llen 64 (.r 85)), (191, .leq (.r 188) (.r 190)), (192, .ltake 64 (.r 85) (.r 188)), (193, .not (.r 131)), (194, .and (.r 119) (.r 193)), (195, .iteb (.r 160) (.r 172) (.t true)), (196, .iteb (.r 140) (.r 151) (.r 195)), (197, .or (.r 132) (.r 196)), (198, .iteb (.r 108) (.r 194) (.r 197)), (199, .itel (.r 160) (.r 192) (.r 85)), (200, .itel (.r 160) (.r 186) (.r 86)), (201, .itel (.r 160) (.r 163) (.r 89)), (202, .itel (.r 160) (.r 167) (.r 90)), (203, .itel (.r 160) (.r 164) (.r 91)), (204, .itei (.r 160) (.r 165) (.r 92)), (205, .itei (.r 160) (.r 166) (.r 93)), (206, .itel (.r 160) (.r 180) (.r 96)), (207, .itel (.r 140) (.r 155) (.r 200)), (208, .itel (.r 140) (.r 142) (.r 201)), (209, .itel (.r 140) (.r 147) (.r 202)), (210, .itel (.r 140) (.r 143) (.r 203)), (211, .itei (.r 140) (.r 144) (.r 204)), (212, .itei (.r 140) (.r 145) (.r 205)), (213, .itel (.r 140) (.r 96) (.r 206)), (214, .itel (.r 140) (.r 159) (.r 199)), (215, .itel (.r 132) (.r 85) (.r 214)), (216, .itel (.r 132) (.r 86) (.r 207)), (217, .itel (.r 132) (.r 136) (.r 208)), (218, .itel (.r 132) (.r 135) (.r 209)), (219, .itel (.r 132) (.r 137) (.r 210)), (220, .itei (.r 132) (.r 138) (.r 211)), (221, .itei (.r 132) (.r 139) (.r 212)), (222, .itel (.r 132) (.r 96) (.r 213)), (223, .iteb (.r 108) (.r 122) (.r 84)), (224, .itel (.r 108) (.r 123) (.r 215)), (225, .itel (.r 108) (.r 124) (.r 216)), (226, .itei (.r 108) (.r 125) (.r 87)), (227, .itel (.r 108) (.r 110) (.r 217)), (228, .itel (.r 108) (.r 115) (.r 218)), (229, .itel (.r 108) (.r 111) (.r 219)), (230, .itei (.r 108) (.r 112) (.r 220)), (231, .itei (.r 108) (.r 113) (.r 221)), (232, .itel (.r 108) (.r 127) (.r 95)), (233, .itel (.r 108) (.r 128) (.r 222)), (234, .add .i64 (.r 88) (.z 1)), (235, .and (.r 100) (.r 198)), (236, .and (.r 119) (.r 122)), (237, .itel (.r 119) (.r 123) (.r 85)), (238, .itel (.r 119) (.r 124) (.r 86)), (239, .itei (.r 119) (.r 125) (.r 87)), (240, .itel (.r 119) (.r 127) (.r 95)), (241, .itel (.r 119) (.r 128) (.r 96)), (242, .itel (.r 140) (.r 142) (.r 163)), (243, .itel (.r 140) (.r 147) (.r 167)), (244, .itel (.r 140) (.r 143) (.r 164)), (245, .itei (.r 140) (.r 144) (.r 165)), (246, .itei (.r 140) (.r 145) (.r 166)), (247, .and (.r 108) (.r 236)), (248, .itel (.r 108) (.r 237) (.r 85)), (249, .itel (.r 108) (.r 238) (.r 86)), (250, .itei (.r 108) (.r 239) (.r 87)), (251, .itel (.r 108) (.r 110) (.r 242)), (252, .itel (.r 108) (.r 115) (.r 243)), (253, .itel (.r 108) (.r 111) (.r 244)), (254, .itei (.r 108) (.r 112) (.r 245)), (255, .itei (.r 108) (.r 113) (.r 246)), (256, .itel (.r 108) (.r 240) (.r 95)), (257, .itel (.r 108) (.r 241) (.r 96)), (258, .itei (.r 100) (.z 0) (.z 1)), (259, .iteb (.r 100) (.r 247) (.r 84)), (260, .itel (.r 100) (.r 248) (.r 85)), (261, .itel (.r 100) (.r 249) (.r 86)), (262, .itei (.r 100) (.r 250) (.r 87)), (263, .itel (.r 100) (.r 251) (.r 89)), (264, .itel (.r 100) (.r 252) (.r 90)), (265, .itel (.r 100) (.r 253) (.r 91)), (266, .itei (.r 100) (.r 254) (.r 92)), (267, .itei (.r 100) (.r 255) (.r 93)), (268, .itel (.r 100) (.r 256) (.r 95)), (269, .itel (.r 100) (.r 257) (.r 96))]), [⟨[(.r 100, true)], .r 101⟩, ⟨[(.r 100, true)], .r 103⟩, ⟨[(.r 100, true), (.r 108, true)], .r 109⟩, ⟨[(.r 100, true), (.r 108, true), (.r 119, true)], .r 120⟩, ⟨[(.r 100, true), (.r 108, false), (.r 132, true)], .r 133⟩, ⟨[(.r 100, true), (.r 108, false), (.r 132, false), (.r 140, true)], .r 141⟩, ⟨[(.r 100, true), (.r 108, false), (.r 132, false), (.r 140, true), (.r 151, true)], .r 153⟩, ⟨[(.r 100, true), (.r 108, false), (.r 132, false), (.r 140, true), (.r 151, true)], .r 154⟩, ⟨[(.r 100, true), (.r 108, false), (.r 132, false), (.r 140, true), (.r 151, true)], .r 157⟩, ⟨[(.r 100, true), (.r 108, false), (.r 132, false), (.r 140, true), (.r 151, true)], .r 158⟩, ⟨[(.r 100, true), (.r 108, false), (.r 132, false), (.r 140, false), (.r 160, true)], .r 161⟩, ⟨[(.r 100, true), (.r 108, false), (.r 132, false), (.r 140, false), (.r 160, true), (.r 172, true), (.r 173, true)], .r 176⟩, ⟨[(.r 100, true), (.r 108, false), (.r 132, false), (.r 140, false), (.r 160, true), (.r 172, true), (.r 173, true)], .r 178⟩, ⟨[(.r 100, true), (.r 108, false), (.r 132, false), (.r 140, false), (.r 160, true), (.r 172, true)], .r 183⟩, ⟨[(.r 100, true), (.r 108, false), (.r 132, false), (.r 140, false), (.r 160, true), (.r 172, true)], .r 185⟩, ⟨[(.r 100, true), (.r 108, false), (.r 132, false), (.r 140, false), (.r 160, true), (.r 172, true)], .r 189⟩, ⟨[(.r 100, true), (.r 108, false), (.r 132, false), (.r 140, false), (.r 160, true), (.r 172, true)], .r 191⟩], .r 235, [.r 223, .r 224, .r 225, .r 226, .r 234, .r 227, .r 228, .r 229, .r 230, .r 231, .r 0, .r 232, .r 233, .r 0, .r 0], [.r 258, .r 259, .r 260, .r 261, .r 262, .r 88, .r 263, .r 264, .r 265, .r 266, .r 267, .r 0, .r 268, .r 269, .r 0, .r 0], [.b, .l, .l, .i, .i, .l, .l, .l, .i, .i, .l, .l, .l, .l, .l], h100502⟩
def h100513 : LH := ⟨[], [], [], []⟩
def l5_6 : LR := ⟨100513, 105, 2, [103, 97, 98], [(107, .lss (.r 106) (.z 64)), (108, .geq (.r 106) (.z 0)), (109, .lss (.r 106) (.z 64)), (110, .lgeti 1 0 (.r 103) (.r 106)), (111, .lss (.r 110) (.z 0)), (112, .geq (.r 106) (.z 0)), (113, .lss (.r 106) (.z 64)), (114, .lgeti 1 0 (.r 103) (.r 106)), (115, .gtr (.r 114) (.z 95)), (116, .or (.r 111) (.r 115)), (117, .geq (.r 106) (.z 0)), (118, .lss (.r 106) (.z 64)), (119, .lgeti 1 0 (.r 103) (.r 106)), (120, .geq (.r 119) (.z 0)), (121, .llen 1 (.r 97)), (122, .lss (.r 119) (.r 121)), (123, .lgeti 1 0 (.r 97) (.r 119)), (124, .geq (.r 106) (.z 0)), (125, .lss (.r 106) (.z 64)), (126, .lgeti 1 0 (.r 98) (.r 106)), (127, .neq (.r 123) (.r 126)), (128, .or (.r 116) (.r 127)), (129, .not (.r 128)), (130, .add .i64 (.r 106) (.z 1)), (131, .and (.r 107) (.r 129)), (132, .itei (.r 107) (.z 0) (.z 1)), (133, .iteb (.r 107) (.t false) (.r 105))], [⟨[(.r 107, true)], .r 108⟩, ⟨[(.r 107, true)], .r 109⟩, ⟨[(.r 107, true), (.r 111, false)], .r 112⟩, ⟨[(.r 107, true), (.r 111, false)], .r 113⟩, ⟨[(.r 107, true), (.r 116, false)], .r 117⟩, ⟨[(.r 107, true), (.r 116, false)], .r 118⟩, ⟨[(.r 107, true), (.r 116, false)], .r 120⟩, ⟨[(.r 107, true), (.r 116, false)], .r 122⟩, ⟨[(.r 107, true), (.r 116, false)], .r 124⟩, ⟨[(.r 107, true), (.r 116, false)], .r 125⟩], .r 131, [.r 105, .r 130], [.r 132, .r 133, .r 106], [.b, .i], h100513⟩
def s5 : Sig := ⟨[.s (.one (.vec 0))], [some (.v false [.int .i64, .int .i64, .vec [.int .i64, .int .i64, .int .i64, .int .i64]] (.h 0))], [.l], .s (.one (.b (.h 0))), [], [.b], true⟩
def o5 : Out := ⟨List.append (List.append (List.append (List.append (List.append (List.append (List.append ([(1, .call 8 [] 0), (2, .call 8 [] 1), (3, .not (.r 2)), (4, .not (.r 3))]) (callsAt 5 9 [] 0 6)) ([(11, .lrep (.z 96) [.i] [.z 0]), (12, .lmk [.i, .i, .i, .i, .i, .i, .i, .i, .i, .i, .i, .i, .i, .i, .i, .i, .i, .i, .i, .i, .i, .i, .i, .i, .i, .i, .i, .i, .i, .i, .i, .i, .i, .i, .i, .i, .i, .i, .i, .i, .i, .i, .i, .i, .i, .i, .i, .i, .i, .i, .i, .i, .i, .i, .i, .i, .i, .i, .i, .i, .i, .i, .i, .i] [.z 0, .z 0, .z 0, .z 0, .z 0, .z 0, .z 0, .z 0, .z 0, .z 0, .z 0, .z 0, .z 0, .z 0, .z 0, .z 0, .z 0, .z 0, .z 0, .z 0, .z 0, .z 0, .z 0, .z 0, .z 0, .z 0, .z 0, .z 0, .z 0, .z 0, .z 0, .z 0, .z 0, .z 0, .z 0, .z 0, .z 0, .z 0, .z 0, .z 0, .z 0, .z 0, .z 0, .z 0, .z 0, .z 0, .z 0, .z 0, .z 0, .z 0, .z 0, .z 0, .z 0, .z 0, .z 0, .z 0, .z 0, .z 0, .z 0, .z 0, .z 0, .z 0, .z 0, .z 0]), (13, .aset 64 1 0 .i (.r 12) (.z 0) (.z 0)), (14, .aset 64 1 1 .i (.r 13) (.z 0) (.z 0)), (15, .aset 64 1 2 .i (.r 14) (.z 0) (.z 0)), (16, .aset 64 1 3 .i (.r 15) (.z 0) (.z 0)), (17, .aset 64 1 4 .i (.r 16) (.z 0) (.z 0)), (18, .aset 64 1 5 .i (.r 17) (.z 0) (.z 0)), (19, .aset 64 1 6 .i (.r 18) (.z 0) (.z 0)), (20, .aset 64 1 7 .i (.r 19) (.z 0) (.z 0)), (21, .aset 64 1 8 .i (.r 20) (.z 0) (.z 0)), (22, .aset 64 1 9 .i (.r 21) (.z 0) (.z 0)), (23, .aset 64 1 10 .i (.r 22) (.z 0) (.z 0)), (24, .aset 64 1 11 .i (.r 23) (.z 0) (.z 0)), (25, .aset 64 1 12 .i (.r 24) (.z 0) (.z 0)), (26, .aset 64 1 13 .i (.r 25) (.z 0) (.z 0)), (27, .aset 64 1 14 .i (.r 26) (.z 0) (.z 0)), (28, .aset 64 1 15 .i (.r 27) (.z 0) (.z 0)), (29, .aset 64 1 16 .i (.r 28) (.z 0) (.z 0)), (30, .aset 64 1 17 .i (.r 29) (.z 0) (.z 0)), (31, .aset 64 1 18 .i (.r 30) (.z 0) (.z 0)), (32, .aset 64 1 19 .i (.r 31) (.z 0) (.z 0)), (33, .aset 64 1 20 .i (.r 32) (.z 0) (.z 0)), (34, .aset 64 1 21 .i (.r 33) (.z 0) (.z 0)), (35, .aset 64 1 22 .i (.r 34) (.z 0) (.z 0)), (36, .aset 64 1 23 .i (.r 35) (.z 0) (.z 0)), (37, .aset 64 1 24 .i (.r 36) (.z 0) (.z 0)), (38, .aset 64 1 25 .i (.r 37) (.z 0) (.z 0)), (39, .aset 64 1 26 .i (.r 38) (.z 0) (.z 0)), (40, .aset 64 1 27 .i (.r 39) (.z 0) (.z 0)), (41, .aset 64 1 28 .i (.r 40) (.z 0) (.z 0)), (42, .aset 64 1 29 .i (.r 41) (.z 0) (.z 0)), (43, .aset 64 1 30 .i (.r 42) (.z 0) (.z 0)), (44, .aset 64 1 31 .i (.r 43) (.z 0) (.z 0)), (45, .aset 64 1 32 .i (.r 44) (.z 0) (.z 0)), (46, .aset 64 1 33 .i (.r 45) (.z 0) (.z 0)), (47, .aset 64 1 34 .i (.r 46) (.z 0) (.z 0)), (48, .aset 64 1 35 .i (.r 47) (.z 0) (.z 0)), (49, .aset 64 1 36 .i (.r 48) (.z 0) (.z 0)), (50, .aset 64 1 37 .i (.r 49) (.z 0) (.z 0)), (51, .aset 64 1 38 .i (.r 50) (.z 0) (.z 0)), (52, .aset 64 1 39 .i (.r 51) (.z 0) (.z 0)), (53, .aset 64 1 40 .i (.r 52) (.z 0) (.z 0)), (54, .aset 64 1 41 .i (.r 53) (.z 0) (.z 0)), (55, .aset 64 1 42 .i (.r 54) (.z 0) (.z 0)), (56, .aset 64 1 43 .i (.r 55) (.z 0) (.z 0)), (57, .aset 64 1 44 .i (.r 56) (.z 0) (.z 0)), (58, .aset 64 1 45 .i (.r 57) (.z 0) (.z 0)), (59, .aset 64 1 46 .i (.r 58) (.z 0) (.z 0)), (60, .aset 64 1 47 .i (.r 59) (.z 0) (.z 0)), (61, .aset 64 1 48 .i (.r 60) (.z 0) (.z 0)), (62, .aset 64 1 49 .i (.r 61) (.z 0) (.z 0)), (63, .aset 64 1 50 .i (.r 62) (.z 0) (.z 0)), (64, .aset 64 1 51 .i (.r 63) (.z 0) (.z 0)), (65, .aset 64 1 52 .i (.r 64) (.z 0) (.z 0)), (66, .aset 64 1 53 .i (.r 65) (.z 0) (.z 0)), (67, .aset 64 1 54 .i (.r 66) (.z 0) (.z 0)), (68, .aset 64 1 55 .i (.r 67) (.z 0) (.z 0)), (69, .aset 64 1 56 .i (.r 68) (.z 0) (.z 0)), (70, .aset 64 1 57 .i (.r 69) (.z 0) (.z 0)), (71, .aset 64 1 58 .i (.r 70) (.z 0) (.z 0)), (72, .aset 64 1 59 .i (.r 71) (.z 0) (.z 0)), (73, .aset 64 1 60 .i (.r 72) (.z 0) (.z 0)), (74, .aset 64 1 61 .i (.r 73) (.z 0) (.z 0)), (75, .aset 64 1 62 .i (.r 74) (.z 0) (.z 0)), (76, .aset 64 1 63 .i (.r 75) (.z 0) (.z 0)), (77, .lmk [] []), (78, .lmk [] [])])) (callsAt 79 100500 [.z 0, .r 11, .r 76] 0 5)) (callsAt 84 100502 [.r 0, .t false, .r 77, .r 78, .z 0, .z 0, .r 6, .r 10, .r 7, .r 8, .r 9, .r 0, .r 82, .r 83, .r 0, .r 0] 0 17)) ([(101, .eql (.r 85) (.z 0)), (102, .not (.r 101)), (103, .call 23 [.r 91, .r 92, .r 93, .r 94, .r 95] 0), (104, .lmk [.i, .i, .i, .i, .i, .i, .i, .i, .i, .i, .i, .i, .i, .i, .i, .i, .i, .i, .i, .i, .i, .i, .i, .i, .i, .i, .i, .i, .i, .i, .i, .i, .i, .i, .i, .i, .i, .i, .i, .i, .i, .i, .i, .i, .i, .i, .i, .i, .i, .i, .i, .i, .i, .i, .i, .i, .i, .i, .i, .i, .i, .i, .i, .i] [.z 0, .z 0, .z 0, .z 0, .z 0, .z 0, .z 0, .z 0, .z 0, .z 0, .z 0, .z 0, .z 0, .z 0, .z 0, .z 0, .z 0, .z 0, .z 0, .z 0, .z 0, .z 0, .z 0, .z 0, .z 0, .z 0, .z 0, .z 0, .z 0, .z 0, .z 0, .z 0, .z 0, .z 0, .z 0, .z 0, .z 0, .z 0, .z 0, .z 0, .z 0, .z 0, .z 0, .z 0, .z 0, .z 0, .z 0, .z 0, .z 0, .z 0, .z 0, .z 0, .z 0, .z 0, .z 0, .z 0, .z 0, .z 0, .z 0, .z 0, .z 0, .z 0, .z 0, .z 0])])) (callsAt 105 100513 [.r 103, .r 97, .r 98, .r 86, .z 0] 0 4)) ([(109, .eql (.r 106) (.z 0)), (110, .not (.r 109)), (111, .or (.r 110) (.r 107)), (112, .iteb (.r 102) (.r 111) (.r 86)), (113, .and (.r 4) (.r 112))]),
  [⟨[], .r 1⟩, ⟨[(.r 4, true)], .r 5⟩, ⟨[(.r 4, true)], .r 79⟩, ⟨[(.r 4, true)], .r 84⟩, ⟨[(.r 4, true), (.r 102, true)], .r 105⟩],
  [l5_0, l5_1, l5_2, l5_3, l5_4, l5_5, l5_6],
  [.r 113]⟩
noncomputable def p5 (x0 : List DV) : Bool :=
  let x1 := p8 
  let x2 := r8_0 
  let x3 := !x2
  let x4 := !x3
  let y5 : List DV := g9 []
  let x5 : Bool := (dget y5 0).toB
  let x11 : List DV := (List.replicate (Int.toNat 96) ([.i 0] : List DV)).flatten
  let x12 : List DV := [.i 0, .i 0, .i 0, .i 0, .i 0, .i 0, .i 0, .i 0, .i 0, .i 0, .i 0, .i 0, .i 0, .i 0, .i 0, .i 0, .i 0, .i 0, .i 0, .i 0, .i 0, .i 0, .i 0, .i 0, .i 0, .i 0, .i 0, .i 0, .i 0, .i 0, .i 0, .i 0, .i 0, .i 0, .i 0, .i 0, .i 0, .i 0, .i 0, .i 0, .i 0, .i 0, .i 0, .i 0, .i 0, .i 0, .i 0, .i 0, .i 0, .i 0, .i 0, .i 0, .i 0, .i 0, .i 0, .i 0, .i 0, .i 0, .i 0, .i 0, .i 0, .i 0, .i 0, .i 0]
  let x13 : List DV := (padN 64 x12).set (Int.toNat 0 * (1 : Nat) + (0 : Nat)) (.i 0)
  let x14 : List DV := (padN 64 x13).set (Int.toNat 0 * (1 : Nat) + (1 : Nat)) (.i 0)
  let x15 : List DV := (padN 64 x14).set (Int.toNat 0 * (1 : Nat) + (2 : Nat)) (.i 0)
  let x16 : List DV := (padN 64 x15).set (Int.toNat 0 * (1 : Nat) + (3 : Nat)) (.i 0)
  let x17 : List DV := (padN 64 x16).set (Int.toNat 0 * (1 : Nat) + (4 : Nat)) (.i 0)
  let x18 : List DV := (padN 64 x17).set (Int.toNat 0 * (1 : Nat) + (5 : Nat)) (.i 0)
  let x19 : List DV := (padN 64 x18).set (Int.toNat 0 * (1 : Nat) + (6 : Nat)) (.i 0)
  let x20 : List DV := (padN 64 x19).set (Int.toNat 0 * (1 : Nat) + (7 : Nat)) (.i 0)
  let x21 : List DV := (padN 64 x20).set (Int.toNat 0 * (1 : Nat) + (8 : Nat)) (.i 0)
  let x22 : List DV := (padN 64 x21).set (Int.toNat 0 * (1 : Nat) + (9 : Nat)) (.i 0)
  let x23 : List DV := (padN 64 x22).set (Int.toNat 0 * (1 : Nat) + (10 : Nat)) (.i 0)
  let x24 : List DV := (padN 64 x23).set (Int.toNat 0 * (1 : Nat) + (11 : Nat)) (.i 0)
  let x25 : List DV := (padN 64 x24).set (Int.toNat 0 * (1 : Nat) + (12 : Nat)) (.i 0)
  let x26 : List DV := (padN 64 x25).set (Int.toNat 0 * (1 : Nat) + (13 : Nat)) (.i 0)
  let x27 : List DV := (padN 64 x26).set (Int.toNat 0 * (1 : Nat) + (14 : Nat)) (.i 0)
  let x28 : List DV := (padN 64 x27).set (Int.toNat 0 * (1 : Nat) + (15 : Nat)) (.i 0)
  let x29 : List DV := (padN 64 x28).set (Int.toNat 0 * (1 : Nat) + (16 : Nat)) (.i 0)
  let x30 : List DV := (padN 64 x29).set (Int.toNat 0 * (1 : Nat) + (17 : Nat)) (.i 0)
  let x31 : List DV := (padN 64 x30).set (Int.toNat 0 * (1 : Nat) + (18 : Nat)) (.i 0)
  let x32 : List DV := (padN 64 x31).set (Int.toNat 0 * (1 : Nat) + (19 : Nat)) (.i 0)
  let x33 : List DV := (padN 64 x32).set (Int.toNat 0 * (1 : Nat) + (20 : Nat)) (.i 0)
  let x34 : List DV := (padN 64 x33).set (Int.toNat 0 * (1 : Nat) + (21 : Nat)) (.i 0)
  let x35 : List DV := (padN 64 x34).set (Int.toNat 0 * (1 : Nat) + (22 : Nat)) (.i 0)
  let x36 : List DV := (padN 64 x35).set (Int.toNat 0 * (1 : Nat) + (23 : Nat)) (.i 0)
  let x37 : List DV := (padN 64 x36).set (Int.toNat 0 * (1 : Nat) + (24 : Nat)) (.i 0)
  let x38 : List DV := (padN 64 x37).set (Int.toNat 0 * (1 : Nat) + (25 : Nat)) (.i 0)
  let x39 : List DV := (padN 64 x38).set (Int.toNat 0 * (1 : Nat) + (26 : Nat)) (.i 0)
  let x40 : List DV := (padN 64 x39).set (Int.toNat 0 * (1 : Nat) + (27 : Nat)) (.i 0)
  let x41 : List DV := (padN 64 x40).set (Int.toNat 0 * (1 : Nat) + (28 : Nat)) (.i 0)
  let x42 : List DV := (padN 64 x41).set (Int.toNat 0 * (1 : Nat) + (29 : Nat)) (.i 0)
  let x43 : List DV := (padN 64 x42).set (Int.toNat 0 * (1 : Nat) + (30 : Nat)) (.i 0)
  let x44 : List DV := (padN 64 x43).set (Int.toNat 0 * (1 : Nat) + (31 : Nat)) (.i 0)
  let x45 : List DV := (padN 64 x44).set (Int.toNat 0 * (1 : Nat) + (32 : Nat)) (.i 0)
  let x46 : List DV := (padN 64 x45).set (Int.toNat 0 * (1 : Nat) + (33 : Nat)) (.i 0)
  let x47 : List DV := (padN 64 x46).set (Int.toNat 0 * (1 : Nat) + (34 : Nat)) (.i 0)
  let x48 : List DV := (padN 64 x47).set (Int.toNat 0 * (1 : Nat) + (35 : Nat)) (.i 0)
  let x49 : List DV := (padN 64 x48).set (Int.toNat 0 * (1 : Nat) + (36 : Nat)) (.i 0)
  let x50 : List DV := (padN 64 x49).set (Int.toNat 0 * (1 : Nat) + (37 : Nat)) (.i 0)
  let x51 : List DV := (padN 64 x50).set (Int.toNat 0 * (1 : Nat) + (38 : Nat)) (.i 0)
  let x52 : List DV := (padN 64 x51).set (Int.toNat 0 * (1 : Nat) + (39 : Nat)) (.i 0)
  let x53 : List DV := (padN 64 x52).set (Int.toNat 0 * (1 : Nat) + (40 : Nat)) (.i 0)
  let x54 : List DV := (padN 64 x53).set (Int.toNat 0 * (1 : Nat) + (41 : Nat)) (.i 0)
  let x55 : List DV := (padN 64 x54).set (Int.toNat 0 * (1 : Nat) + (42 : Nat)) (.i 0)
  let x56 : List DV := (padN 64 x55).set (Int.toNat 0 * (1 : Nat) + (43 : Nat)) (.i 0)
  let x57 : List DV := (padN 64 x56).set (Int.toNat 0 * (1 : Nat) + (44 : Nat)) (.i 0)
  let x58 : List DV := (padN 64 x57).set (Int.toNat 0 * (1 : Nat) + (45 : Nat)) (.i 0)
  let x59 : List DV := (padN 64 x58).set (Int.toNat 0 * (1 : Nat) + (46 : Nat)) (.i 0)
  let x60 : List DV := (padN 64 x59).set (Int.toNat 0 * (1 : Nat) + (47 : Nat)) (.i 0)
  let x61 : List DV := (padN 64 x60).set (Int.toNat 0 * (1 : Nat) + (48 : Nat)) (.i 0)
  let x62 : List DV := (padN 64 x61).set (Int.toNat 0 * (1 : Nat) + (49 : Nat)) (.i 0)
  let x63 : List DV := (padN 64 x62).set (Int.toNat 0 * (1 : Nat) + (50 : Nat)) (.i 0)
  let x64 : List DV := (padN 64 x63).set (Int.toNat 0 * (1 : Nat) + (51 : Nat)) (.i 0)
  let x65 : List DV := (padN 64 x64).set (Int.toNat 0 * (1 : Nat) + (52 : Nat)) (.i 0)
  let x66 : List DV := (padN 64 x65).set (Int.toNat 0 * (1 : Nat) + (53 : Nat)) (.i 0)
  let x67 : List DV := (padN 64 x66).set (Int.toNat 0 * (1 : Nat) + (54 : Nat)) (.i 0)
  let x68 : List DV := (padN 64 x67).set (Int.toNat 0 * (1 : Nat) + (55 : Nat)) (.i 0)
  let x69 : List DV := (padN 64 x68).set (Int.toNat 0 * (1 : Nat) + (56 : Nat)) (.i 0)
  let x70 : List DV := (padN 64 x69).set (Int.toNat 0 * (1 : Nat) + (57 : Nat)) (.i 0)
  let x71 : List DV := (padN 64 x70).set (Int.toNat 0 * (1 : Nat) + (58 : Nat)) (.i 0)
  let x72 : List DV := (padN 64 x71).set (Int.toNat 0 * (1 : Nat) + (59 : Nat)) (.i 0)
  let x73 : List DV := (padN 64 x72).set (Int.toNat 0 * (1 : Nat) + (60 : Nat)) (.i 0)
  let x74 : List DV := (padN 64 x73).set (Int.toNat 0 * (1 : Nat) + (61 : Nat)) (.i 0)
  let x75 : List DV := (padN 64 x74).set (Int.toNat 0 * (1 : Nat) + (62 : Nat)) (.i 0)
  let x76 : List DV := (padN 64 x75).set (Int.toNat 0 * (1 : Nat) + (63 : Nat)) (.i 0)
  let x77 : List DV := []
  let x78 : List DV := []
  let y79 : List DV := g100500 [.i 0, .l x11, .l x76]
  let x79 : Bool := (dget y79 0).toB
  let y84 : List DV := g100502 [.l x0, .b false, .l x77, .l x78, .i 0, .i 0, dget y5 1, dget y5 5, dget y5 2, dget y5 3, dget y5 4, .l x0, dget y79 3, dget y79 4, .l x0, .l x0]
  let x84 : Bool := (dget y84 0).toB
  let x85 : Int := (dget y84 1).toI
  let x86 : Bool := (dget y84 2).toB
  let x91 : List DV := (dget y84 7).toL
  let x97 : List DV := (dget y84 13).toL
  let x98 : List DV := (dget y84 14).toL
  let x101 := x85 == 0
  let x102 := !x101
  let x103 := r23_0 x91
  let x105 := p100513 x103 x97 x98 x86 0
  [ow [] x1, ow [(x4, true)] x5, ow [(x4, true)] x79, ow [(x4, true)] x84, ow [(x4, true), (x102, true)] x105].all id
noncomputable def r5_0 (x0 : List DV) : Bool :=
  let x2 := r8_0 
  let x3 := !x2
  let x4 := !x3
  let y6 : List DV := g9 []
  let x11 : List DV := (List.replicate (Int.toNat 96) ([.i 0] : List DV)).flatten
  let x12 : List DV := [.i 0, .i 0, .i 0, .i 0, .i 0, .i 0, .i 0, .i 0, .i 0, .i 0, .i 0, .i 0, .i 0, .i 0, .i 0, .i 0, .i 0, .i 0, .i 0, .i 0, .i 0, .i 0, .i 0, .i 0, .i 0, .i 0, .i 0, .i 0, .i 0, .i 0, .i 0, .i 0, .i 0, .i 0, .i 0, .i 0, .i 0, .i 0, .i 0, .i 0, .i 0, .i 0, .i 0, .i 0, .i 0, .i 0, .i 0, .i 0, .i 0, .i 0, .i 0, .i 0, .i 0, .i 0, .i 0, .i 0, .i 0, .i 0, .i 0, .i 0, .i 0, .i 0, .i 0, .i 0]
  let x13 : List DV := (padN 64 x12).set (Int.toNat 0 * (1 : Nat) + (0 : Nat)) (.i 0)
  let x14 : List DV := (padN 64 x13).set (Int.toNat 0 * (1 : Nat) + (1 : Nat)) (.i 0)
  let x15 : List DV := (padN 64 x14).set (Int.toNat 0 * (1 : Nat) + (2 : Nat)) (.i 0)
  let x16 : List DV := (padN 64 x15).set (Int.toNat 0 * (1 : Nat) + (3 : Nat)) (.i 0)
  let x17 : List DV := (padN 64 x16).set (Int.toNat 0 * (1 : Nat) + (4 : Nat)) (.i 0)
  let x18 : List DV := (padN 64 x17).set (Int.toNat 0 * (1 : Nat) + (5 : Nat)) (.i 0)
  let x19 : List DV := (padN 64 x18).set (Int.toNat 0 * (1 : Nat) + (6 : Nat)) (.i 0)
  let x20 : List DV := (padN 64 x19).set (Int.toNat 0 * (1 : Nat) + (7 : Nat)) (.i 0)
  let x21 : List DV := (padN 64 x20).set (Int.toNat 0 * (1 : Nat) + (8 : Nat)) (.i 0)
  let x22 : List DV := (padN 64 x21).set (Int.toNat 0 * (1 : Nat) + (9 : Nat)) (.i 0)
  let x23 : List DV := (padN 64 x22).set (Int.toNat 0 * (1 : Nat) + (10 : Nat)) (.i 0)
  let x24 : List DV := (padN 64 x23).set (Int.toNat 0 * (1 : Nat) + (11 : Nat)) (.i 0)
  let x25 : List DV := (padN 64 x24).set (Int.toNat 0 * (1 : Nat) + (12 : Nat)) (.i 0)
  let x26 : List DV := (padN 64 x25).set (Int.toNat 0 * (1 : Nat) + (13 : Nat)) (.i 0)
  let x27 : List DV := (padN 64 x26).set (Int.toNat 0 * (1 : Nat) + (14 : Nat)) (.i 0)
  let x28 : List DV := (padN 64 x27).set (Int.toNat 0 * (1 : Nat) + (15 : Nat)) (.i 0)
  let x29 : List DV := (padN 64 x28).set (Int.toNat 0 * (1 : Nat) + (16 : Nat)) (.i 0)
  let x30 : List DV := (padN 64 x29).set (Int.toNat 0 * (1 : Nat) + (17 : Nat)) (.i 0)
  let x31 : List DV := (padN 64 x30).set (Int.toNat 0 * (1 : Nat) + (18 : Nat)) (.i 0)
  let x32 : List DV := (padN 64 x31).set (Int.toNat 0 * (1 : Nat) + (19 : Nat)) (.i 0)
  let x33 : List DV := (padN 64 x32).set (Int.toNat 0 * (1 : Nat) + (20 : Nat)) (.i 0)
  let x34 : List DV := (padN 64 x33).set (Int.toNat 0 * (1 : Nat) + (21 : Nat)) (.i 0)
  let x35 : List DV := (padN 64 x34).set (Int.toNat 0 * (1 : Nat) + (22 : Nat)) (.i 0)
  let x36 : List DV := (padN 64 x35).set (Int.toNat 0 * (1 : Nat) + (23 : Nat)) (.i 0)
  let x37 : List DV := (padN 64 x36).set (Int.toNat 0 * (1 : Nat) + (24 : Nat)) (.i 0)
  let x38 : List DV := (padN 64 x37).set (Int.toNat 0 * (1 : Nat) + (25 : Nat)) (.i 0)
  let x39 : List DV := (padN 64 x38).set (Int.toNat 0 * (1 : Nat) + (26 : Nat)) (.i 0)
  let x40 : List DV := (padN 64 x39).set (Int.toNat 0 * (1 : Nat) + (27 : Nat)) (.i 0)
  let x41 : List DV := (padN 64 x40).set (Int.toNat 0 * (1 : Nat) + (28 : Nat)) (.i 0)
  let x42 : List DV := (padN 64 x41).set (Int.toNat 0 * (1 : Nat) + (29 : Nat)) (.i 0)
  let x43 : List DV := (padN 64 x42).set (Int.toNat 0 * (1 : Nat) + (30 : Nat)) (.i 0)
  let x44 : List DV := (padN 64 x43).set (Int.toNat 0 * (1 : Nat) + (31 : Nat)) (.i 0)
  let x45 : List DV := (padN 64 x44).set (Int.toNat 0 * (1 : Nat) + (32 : Nat)) (.i 0)
  let x46 : List DV := (padN 64 x45).set (Int.toNat 0 * (1 : Nat) + (33 : Nat)) (.i 0)
  let x47 : List DV := (padN 64 x46).set (Int.toNat 0 * (1 : Nat) + (34 : Nat)) (.i 0)
  let x48 : List DV := (padN 64 x47).set (Int.toNat 0 * (1 : Nat) + (35 : Nat)) (.i 0)
  let x49 : List DV := (padN 64 x48).set (Int.toNat 0 * (1 : Nat) + (36 : Nat)) (.i 0)
  let x50 : List DV := (padN 64 x49).set (Int.toNat 0 * (1 : Nat) + (37 : Nat)) (.i 0)
  let x51 : List DV := (padN 64 x50).set (Int.toNat 0 * (1 : Nat) + (38 : Nat)) (.i 0)
  let x52 : List DV := (padN 64 x51).set (Int.toNat 0 * (1 : Nat) + (39 : Nat)) (.i 0)
  let x53 : List DV := (padN 64 x52).set (Int.toNat 0 * (1 : Nat) + (40 : Nat)) (.i 0)
  let x54 : List DV := (padN 64 x53).set (Int.toNat 0 * (1 : Nat) + (41 : Nat)) (.i 0)
  let x55 : List DV := (padN 64 x54).set (Int.toNat 0 * (1 : Nat) + (42 : Nat)) (.i 0)
  let x56 : List DV := (padN 64 x55).set (Int.toNat 0 * (1 : Nat) + (43 : Nat)) (.i 0)
  let x57 : List DV := (padN 64 x56).set (Int.toNat 0 * (1 : Nat) + (44 : Nat)) (.i 0)
  let x58 : List DV := (padN 64 x57).set (Int.toNat 0 * (1 : Nat) + (45 : Nat)) (.i 0)
  let x59 : List DV := (padN 64 x58).set (Int.toNat 0 * (1 : Nat) + (46 : Nat)) (.i 0)
  let x60 : List DV := (padN 64 x59).set (Int.toNat 0 * (1 : Nat) + (47 : Nat)) (.i 0)
  let x61 : List DV := (padN 64 x60).set (Int.toNat 0 * (1 : Nat) + (48 : Nat)) (.i 0)
  let x62 : List DV := (padN 64 x61).set (Int.toNat 0 * (1 : Nat) + (49 : Nat)) (.i 0)
  let x63 : List DV := (padN 64 x62).set (Int.toNat 0 * (1 : Nat) + (50 : Nat)) (.i 0)
  let x64 : List DV := (padN 64 x63).set (Int.toNat 0 * (1 : Nat) + (51 : Nat)) (.i 0)
  let x65 : List DV := (padN 64 x64).set (Int.toNat 0 * (1 : Nat) + (52 : Nat)) (.i 0)
  let x66 : List DV := (padN 64 x65).set (Int.toNat 0 * (1 : Nat) + (53 : Nat)) (.i 0)
  let x67 : List DV := (padN 64 x66).set (Int.toNat 0 * (1 : Nat) + (54 : Nat)) (.i 0)
  let x68 : List DV := (padN 64 x67).set (Int.toNat 0 * (1 : Nat) + (55 : Nat)) (.i 0)
  let x69 : List DV := (padN 64 x68).set (Int.toNat 0 * (1 : Nat) + (56 : Nat)) (.i 0)
  let x70 : List DV := (padN 64 x69).set (Int.toNat 0 * (1 : Nat) + (57 : Nat)) (.i 0)
  let x71 : List DV := (padN 64 x70).set (Int.toNat 0 * (1 : Nat) + (58 : Nat)) (.i 0)
  let x72 : List DV := (padN 64 x71).set (Int.toNat 0 * (1 : Nat) + (59 : Nat)) (.i 0)
  let x73 : List DV := (padN 64 x72).set (Int.toNat 0 * (1 : Nat) + (60 : Nat)) (.i 0)
  let x74 : List DV := (padN 64 x73).set (Int.toNat 0 * (1 : Nat) + (61 : Nat)) (.i 0)
  let x75 : List DV := (padN 64 x74).set (Int.toNat 0 * (1 : Nat) + (62 : Nat)) (.i 0)
  let x76 : List DV := (padN 64 x75).set (Int.toNat 0 * (1 : Nat) + (63 : Nat)) (.i 0)
  let x77 : List DV := []
  let x78 : List DV := []
  let y82 : List DV := g100500 [.i 0, .l x11, .l x76]
  let y85 : List DV := g100502 [.l x0, .b false, .l x77, .l x78, .i 0, .i 0, dget y6 1, dget y6 5, dget y6 2, dget y6 3, dget y6 4, .l x0, dget y82 3, dget y82 4, .l x0, .l x0]
  let x85 : Int := (dget y85 1).toI
  let x86 : Bool := (dget y85 2).toB
  let x91 : List DV := (dget y85 7).toL
  let x97 : List DV := (dget y85 13).toL
  let x98 : List DV := (dget y85 14).toL
  let x101 := x85 == 0
  let x102 := !x101
  let x103 := r23_0 x91
  let x106 := r100513_0 x103 x97 x98 x86 0
  let x107 := r100513_1 x103 x97 x98 x86 0
  let x109 := x106 == 0
  let x110 := !x109
  let x111 := x110 || x107
  let x112 := bif x102 then x111 else x86
  let x113 := x4 && x112
  x113
noncomputable def g5 (ds : List DV) : List DV := [.b (p5 (dget ds 0).toL), .b (r5_0 (dget ds 0).toL)]
def S5 : Sigs := ⟨[(8, s8), (9, s9), (23, s23), (11, s11), (14, s14), (16, s16), (19, s19)], [], [(0, 100500), (2, 100502), (5, 100505), (7, 100507), (9, 100509), (11, 100511), (13, 100513)], 1, [(100500, h100500), (100507, h100507), (100511, h100511), (100509, h100509), (100505, h100505), (100502, h100502), (100513, h100513)]⟩



end Go.Proofs.Ytkpbkanbpjfadaa

namespace Go.Proofs.Ytkpbkanbpjfadaa
open Go Go.Sx

theorem len1 (x : List DV) : ((x.length / 1 : Nat) : Int) = (x.length : Int) := by rw [Nat.div_one]
theorem len4 (l : List Wa) : (((encW l).length / 4 : Nat) : Int) = (l.length : Int) := by rw [encW_len]; congr 1; omega
def encB (l : List (List Int)) : List DV := l.flatMap encI
theorem encB_len {l : List (List Int)} (h : ∀ x ∈ l, x.length = 64) : (encB l).length = l.length * 64 := by
  induction l with
  | nil => rfl
  | cons a l ih =>
    have e : encB (a :: l) = encI a ++ encB l := rfl
    rw [e, List.length_append, encI_len, h a (by simp), ih fun x hx => h x (List.mem_cons_of_mem _ hx), List.length_cons]
    omega
theorem encB_append (l m : List (List Int)) : encB l ++ encB m = encB (l ++ m) := by unfold encB; rw [List.flatMap_append]
theorem encB_one (x : List Int) : encB [x] = encI x := by unfold encB; simp
theorem encB_drop : ∀ {l : List (List Int)} (_ : ∀ x ∈ l, x.length = 64) (k : Nat), (encB l).drop (k * 64) = encB (l.drop k)
  | [], _, k => by simp [encB]
  | a :: l, h, 0 => by simp
  | a :: l, h, k + 1 => by
    have e : encB (a :: l) = encI a ++ encB l := rfl
    have ha : (encI a).length = 64 := by rw [encI_len]; exact h a (by simp)
    rw [e, List.drop_succ_cons, ← encB_drop (fun x hx => h x (List.mem_cons_of_mem _ hx)) k, List.drop_append, List.drop_of_length_le (by omega), List.nil_append, ha]
    congr 1
    omega
theorem encB_take : ∀ {l : List (List Int)} (_ : ∀ x ∈ l, x.length = 64) (k : Nat), (encB l).take (k * 64) = encB (l.take k)
  | [], _, k => by simp [encB]
  | a :: l, h, 0 => by simp [encB]
  | a :: l, h, k + 1 => by
    have e : encB (a :: l) = encI a ++ encB l := rfl
    have ha : (encI a).length = 64 := by rw [encI_len]; exact h a (by simp)
    rw [e, List.take_succ_cons, List.take_append, List.take_of_length_le (by omega), ha, show (k + 1) * 64 - 64 = k * 64 from by omega, encB_take (fun x hx => h x (List.mem_cons_of_mem _ hx)) k]
    rfl
theorem encB_get : ∀ {l : List (List Int)} (_ : ∀ x ∈ l, x.length = 64) {k j : Nat} {x : List Int}, l[k]? = some x → j < 64 → (encB l).getD (k * 64 + j) default = (encI x).getD j default
  | [], _, k, j, x, h, _ => by simp at h
  | a :: l, h, 0, j, x, hk, hj => by
    simp at hk; subst hk
    have e : encB (a :: l) = encI a ++ encB l := rfl
    have ha : (encI a).length = 64 := by rw [encI_len]; exact h a (by simp)
    rw [e, List.getD_eq_getElem?_getD, List.getElem?_append_left (by omega), List.getD_eq_getElem?_getD, Nat.zero_mul, Nat.zero_add]
  | a :: l, h, k + 1, j, x, hk, hj => by
    have e : encB (a :: l) = encI a ++ encB l := rfl
    have ha : (encI a).length = 64 := by rw [encI_len]; exact h a (by simp)
    have ih := encB_get (fun x hx => h x (List.mem_cons_of_mem _ hx)) (k := k) (j := j) (x := x) (by simpa using hk) hj
    rw [e, List.getD_eq_getElem?_getD, List.getElem?_append_right (by omega), ha, ← List.getD_eq_getElem?_getD, show (k + 1) * 64 + j - 64 = k * 64 + j from by omega]
    exact ih
theorem sub64 {x : List DV} (h : x.length = 64) : ((List.range 64).map fun k => x.getD (Int.toNat 0 * 1 + 0 + k) default) = x := by
  have e : ((List.range 64).map fun k => x.getD (Int.toNat 0 * 1 + 0 + k) default) = padN 64 x := by
    unfold padN
    refine List.map_congr_left fun k _ => ?_
    show x.getD (0 * 1 + 0 + k) default = _
    congr 1
    omega
  rw [e, padN_id h]

section
variable {ws : List Wa} {a : List Na} {value now : List Int} {b : Bool} {w : Wa} {n : Na} {k : Nat}
def SrcOk (value now : List Int) (r y : Int) : Prop := (r < 0 ∨ 63 < r → y = -1) ∧ (0 ≤ r ∧ r < 64 → 0 ≤ y ∧ y < 96 ∧ value.getD y.toNat 0 = now.getD r.toNat 0)
theorem q7r {i : Nat} {r y : Int} (hi : i < 3) (hk : ws[k]? = some w) (hn : a[k]? = some n) (hr : [w.s0, w.s1, w.s2].getD i 0 = r) (hy : [n.s0, n.s1, n.s2].getD i 0 = y) (hv : value.length = 96) (h : SrcOk value now r y) :
    W100507 [.l (encW ws), .l (encN a), .i k, .l (encI value), .l (encI now), .b b, .i i] = true ∧ C100507 [.l (encW ws), .l (encN a), .i k, .l (encI value), .l (encI now), .b b, .i i] = true ∧
    N100507 [.l (encW ws), .l (encN a), .i k, .l (encI value), .l (encI now), .b b, .i i] = [.l (encW ws), .l (encN a), .i k, .l (encI value), .l (encI now), .b b, .i (i + 1 : Nat)] := by
  have hlt : k < ws.length := (List.getElem?_eq_some_iff.1 hk).1
  have hlt2 : k < a.length := (List.getElem?_eq_some_iff.1 hn).1
  have w0 : ((encW ws).getD (Int.toNat (k : Int) * (4 : Nat) + (0 : Nat)) default).toI = w.s0 := by rw [encW_get hk 0 (by decide)]; rfl
  have w1 : ((encW ws).getD (Int.toNat (k : Int) * (4 : Nat) + (1 : Nat)) default).toI = w.s1 := by rw [encW_get hk 1 (by decide)]; rfl
  have w2 : ((encW ws).getD (Int.toNat (k : Int) * (4 : Nat) + (2 : Nat)) default).toI = w.s2 := by rw [encW_get hk 2 (by decide)]; rfl
  have n0 : ((encN a).getD (Int.toNat (k : Int) * (6 : Nat) + (0 : Nat)) default).toI = n.s0 := by rw [encN_get hn 0 (by decide)]; rfl
  have n1 : ((encN a).getD (Int.toNat (k : Int) * (6 : Nat) + (1 : Nat)) default).toI = n.s1 := by rw [encN_get hn 1 (by decide)]; rfl
  have n2 : ((encN a).getD (Int.toNat (k : Int) * (6 : Nat) + (2 : Nat)) default).toI = n.s2 := by rw [encN_get hn 2 (by decide)]; rfl
  have c1 : decide ((i : Int) < 3) = true := by simp; omega
  have c2 : decide ((k : Int) ≥ 0) = true := by simp
  have c3 : decide ((k : Int) < (ws.length : Int)) = true := by simp; omega
  have c4 : decide ((i : Int) ≥ 0) = true := by simp
  have c5 : decide ((k : Int) < (a.length : Int)) = true := by simp; omega
  have hr' : [w.s0, w.s1, w.s2].getD (Int.toNat (i : Int)) 0 = r := hr
  have hy' : [n.s0, n.s1, n.s2].getD (Int.toNat (i : Int)) 0 = y := hy
  have e6 : (((encN a).length / 6 : Nat) : Int) = (a.length : Int) := len6 a
  have e1 : (((encI value).length / 1 : Nat) : Int) = 96 := by rw [len1, encI_len, hv]; rfl
  refine ⟨?_, ?_, ?_⟩
  · show w100507 (encW ws) (encN a) k (encI value) (encI now) b i = true
    unfold w100507
    simp only [len4, e6, e1, w0, w1, w2, n0, n1, n2, hr', hy', c1, c2, c3, c4, c5, ow_true]
    by_cases hc : r < 0 ∨ 63 < r
    · have d1 : (decide (r < 0) || decide (r > 63)) = true := by simpa using hc
      rw [d1]
      simp [ow]
    · obtain ⟨h1, h2, _⟩ := h.2 (by omega)
      have d1 : decide (y ≥ 0) = true := by simpa using h1
      have d2 : decide (y < 96) = true := by simpa using h2
      have d3 : decide (r ≥ 0) = true := by simp; omega
      have d4 : decide (r < 64) = true := by simp; omega
      simp only [d1, d2, d3, d4, ow_true]
      rfl
  · show c100507 (encW ws) (encN a) k (encI value) (encI now) b i = true
    unfold c100507
    simp only [w0, w1, w2, n0, n1, n2, hr', hy', c1]
    by_cases hc : r < 0 ∨ 63 < r
    · have d1 : (decide (r < 0) || decide (r > 63)) = true := by simpa using hc
      rw [d1, h.1 hc]
      rfl
    · obtain ⟨h1, h2, h3⟩ := h.2 (by omega)
      have d0 : (decide (r < 0) || decide (r > 63)) = false := by simp; omega
      have d1 : decide (y < 0) = false := by simp; omega
      have d2 : decide (y > 95) = false := by simp; omega
      have d3 : ((encI value).getD (Int.toNat y * (1 : Nat) + (0 : Nat)) default).toI = value.getD y.toNat 0 := by rw [Nat.mul_one, Nat.add_zero, encI_get]
      have d4 : ((encI now).getD (Int.toNat r * (1 : Nat) + (0 : Nat)) default).toI = now.getD r.toNat 0 := by rw [Nat.mul_one, Nat.add_zero, encI_get]
      rw [d0, d1, d2, d3, d4, h3, bne_self_eq_false]
      rfl
  · show [DV.l (encW ws), .l (encN a), .i k, .l (encI value), .l (encI now), .b b, .i (IntKind.wrap .i64 ((i : Int) + 1))] = _
    rw [wrap_i64_of (by omega) (by omega)]
    rfl
theorem g7r (hk : ws[k]? = some w) (hn : a[k]? = some n) (hv : value.length = 96) (h0 : SrcOk value now w.s0 n.s0) (h1 : SrcOk value now w.s1 n.s1) (h2 : SrcOk value now w.s2 n.s2) :
    p100507 (encW ws) (encN a) k (encI value) (encI now) b 0 = true ∧ r100507_0 (encW ws) (encN a) k (encI value) (encI now) b 0 = 1 ∧ r100507_1 (encW ws) (encN a) k (encI value) (encI now) b 0 = b := by
  have hL : L100507 (encW ws) (encN a) k (encI value) (encI now) b 0 = some [.i 1, .b b, .i 3] := by
    obtain ⟨a1, a2, a3⟩ := q7r (b := b) (i := 0) (by decide) hk hn rfl rfl hv h0
    obtain ⟨b1, b2, b3⟩ := q7r (b := b) (i := 1) (by decide) hk hn rfl rfl hv h1
    obtain ⟨c1, c2, c3⟩ := q7r (b := b) (i := 2) (by decide) hk hn rfl rfl hv h2
    have e0 : ((0 : Nat) : Int) = 0 := rfl
    rw [e0] at a1 a2 a3
    show loopG W100507 C100507 N100507 T100507 [.l (encW ws), .l (encN a), .i k, .l (encI value), .l (encI now), .b b, .i 0] = _
    rw [loopG_next a1 a2, a3, loopG_next b1 b2, b3, loopG_next c1 c2, c3]
    have d : decide (((2 + 1 : Nat) : Int) < 3) = false := rfl
    refine (loopG_last ?_ ?_).trans ?_
    · show w100507 (encW ws) (encN a) k (encI value) (encI now) b ((2 + 1 : Nat) : Int) = true
      unfold w100507
      simp only [d]
      simp [ow]
    · show c100507 (encW ws) (encN a) k (encI value) (encI now) b ((2 + 1 : Nat) : Int) = false
      unfold c100507
      simp only [d, Bool.false_and]
    · rfl
  refine ⟨?_, ?_, ?_⟩
  · unfold p100507; rw [hL]; rfl
  · unfold r100507_0; rw [hL]; rfl
  · unfold r100507_1; rw [hL]; rfl
end

section
variable {un a : List Na} {b : Bool} {n m : Na} {k i : Nat}
theorem q11 {s : Nat} (hs : s < 3) (hi : un[i]? = some m) (hk : a[k]? = some n) (h : [m.s0, m.s1, m.s2].getD s 0 ≠ n.d) :
    W100511 [.l (encN un), .i i, .l (encN a), .i k, .b b, .i s] = true ∧ C100511 [.l (encN un), .i i, .l (encN a), .i k, .b b, .i s] = true ∧ N100511 [.l (encN un), .i i, .l (encN a), .i k, .b b, .i s] = [.l (encN un), .i i, .l (encN a), .i k, .b b, .i (s + 1 : Nat)] := by
  have hlt : i < un.length := (List.getElem?_eq_some_iff.1 hi).1
  have hlt2 : k < a.length := (List.getElem?_eq_some_iff.1 hk).1
  have m0 : ((encN un).getD (Int.toNat (i : Int) * (6 : Nat) + (0 : Nat)) default).toI = m.s0 := by rw [encN_get hi 0 (by decide)]; rfl
  have m1 : ((encN un).getD (Int.toNat (i : Int) * (6 : Nat) + (1 : Nat)) default).toI = m.s1 := by rw [encN_get hi 1 (by decide)]; rfl
  have m2 : ((encN un).getD (Int.toNat (i : Int) * (6 : Nat) + (2 : Nat)) default).toI = m.s2 := by rw [encN_get hi 2 (by decide)]; rfl
  have n3 : ((encN a).getD (Int.toNat (k : Int) * (6 : Nat) + (3 : Nat)) default).toI = n.d := by rw [encN_get hk 3 (by decide)]; rfl
  have c1 : decide ((s : Int) < 3) = true := by simp; omega
  have c2 : decide ((i : Int) ≥ 0) = true := by simp
  have c3 : decide ((i : Int) < (un.length : Int)) = true := by simp; omega
  have c4 : decide ((s : Int) ≥ 0) = true := by simp
  have c5 : decide ((k : Int) ≥ 0) = true := by simp
  have c6 : decide ((k : Int) < (a.length : Int)) = true := by simp; omega
  have h' : [m.s0, m.s1, m.s2].getD (Int.toNat (s : Int)) 0 ≠ n.d := h
  refine ⟨?_, ?_, ?_⟩
  · show w100511 (encN un) i (encN a) k b s = true
    unfold w100511
    simp only [len6, c1, c2, c3, c4, c5, c6, ow_true]
    rfl
  · show c100511 (encN un) i (encN a) k b s = true
    unfold c100511
    simp only [m0, m1, m2, n3, c1]
    rw [beq_eq_false_iff_ne.2 h']
    rfl
  · show [DV.l (encN un), .i i, .l (encN a), .i k, .b b, .i (IntKind.wrap .i64 ((s : Int) + 1))] = _
    rw [wrap_i64_of (by omega) (by omega)]
    rfl
theorem g11r (hi : un[i]? = some m) (hk : a[k]? = some n) (h : ∀ x ∈ [m.s0, m.s1, m.s2], x ≠ n.d) :
    p100511 (encN un) i (encN a) k b 0 = true ∧ r100511_0 (encN un) i (encN a) k b 0 = 1 ∧ r100511_1 (encN un) i (encN a) k b 0 = b := by
  have hL : L100511 (encN un) i (encN a) k b 0 = some [.i 1, .b b, .i 3] := by
    obtain ⟨a1, a2, a3⟩ := q11 (b := b) (s := 0) (by decide) hi hk (h _ (by simp))
    obtain ⟨b1, b2, b3⟩ := q11 (b := b) (s := 1) (by decide) hi hk (h _ (by simp))
    obtain ⟨c1, c2, c3⟩ := q11 (b := b) (s := 2) (by decide) hi hk (h _ (by simp))
    have e0 : ((0 : Nat) : Int) = 0 := rfl
    rw [e0] at a1 a2 a3
    show loopG W100511 C100511 N100511 T100511 [.l (encN un), .i i, .l (encN a), .i k, .b b, .i 0] = _
    rw [loopG_next a1 a2, a3, loopG_next b1 b2, b3, loopG_next c1 c2, c3]
    have d : decide (((2 + 1 : Nat) : Int) < 3) = false := rfl
    refine (loopG_last ?_ ?_).trans ?_
    · show w100511 (encN un) i (encN a) k b ((2 + 1 : Nat) : Int) = true
      unfold w100511
      simp only [d]
      simp [ow]
    · show c100511 (encN un) i (encN a) k b ((2 + 1 : Nat) : Int) = false
      unfold c100511
      simp only [d, Bool.false_and]
    · rfl
  refine ⟨?_, ?_, ?_⟩
  · unfold p100511; rw [hL]; rfl
  · unfold r100511_0; rw [hL]; rfl
  · unfold r100511_1; rw [hL]; rfl
theorem q9loop (hl : un.length < 1000) (h1 : 0 < un.length) (hk : a[k]? = some n) (h : ∀ i m, i < un.length - 1 → un[i]? = some m → ∀ x ∈ [m.s0, m.s1, m.s2], x ≠ n.d) : ∀ (d i : Nat), un.length - 1 - i = d → i ≤ un.length - 1 →
    loopG W100509 C100509 N100509 T100509 [.l (encN un), .l (encN a), .i k, .b b, .i i] = some [.i 1, .b b, .i (un.length - 1 : Nat)]
  | 0, i, hd, hi => by
    obtain rfl : i = un.length - 1 := by omega
    have w1 : IntKind.wrap .i64 ((un.length : Int) - 1) = ((un.length - 1 : Nat) : Int) := by rw [wrap_i64_of (by omega) (by omega)]; omega
    have c1 : decide (((un.length - 1 : Nat) : Int) < ((un.length - 1 : Nat) : Int)) = false := by simp
    refine (loopG_last ?_ ?_).trans ?_
    · show w100509 (encN un) (encN a) k b (un.length - 1 : Nat) = true
      unfold w100509
      simp only [len6, w1, c1]
      simp [ow]
    · show c100509 (encN un) (encN a) k b (un.length - 1 : Nat) = false
      unfold c100509
      simp only [len6, w1, c1, Bool.false_and]
    · show some [DV.i (t100509_0 (encN un) (encN a) k b (un.length - 1 : Nat)), .b (t100509_1 (encN un) (encN a) k b (un.length - 1 : Nat)), .i (un.length - 1 : Nat)] = _
      unfold t100509_0 t100509_1
      simp only [len6, w1, c1, cond_false]
  | d + 1, i, hd, hi => by
    have w1 : IntKind.wrap .i64 ((un.length : Int) - 1) = ((un.length - 1 : Nat) : Int) := by rw [wrap_i64_of (by omega) (by omega)]; omega
    have c1 : decide ((i : Int) < ((un.length - 1 : Nat) : Int)) = true := by simp; omega
    have hlt : i < un.length := by omega
    obtain ⟨k1, k2, k3⟩ := g11r (b := b) (List.getElem?_eq_getElem hlt) hk (h i _ (by omega) (List.getElem?_eq_getElem hlt))
    have hW : W100509 [.l (encN un), .l (encN a), .i k, .b b, .i i] = true := by
      show w100509 (encN un) (encN a) k b i = true
      unfold w100509
      simp only [len6, w1, c1, k1, ow_true]
      rfl
    have hC : C100509 [.l (encN un), .l (encN a), .i k, .b b, .i i] = true := by
      show c100509 (encN un) (encN a) k b i = true
      unfold c100509
      simp only [len6, w1, c1, k2]
      rfl
    have hN : N100509 [.l (encN un), .l (encN a), .i k, .b b, .i i] = [.l (encN un), .l (encN a), .i k, .b b, .i (i + 1 : Nat)] := by
      show [DV.l (encN un), .l (encN a), .i k, .b (r100511_1 (encN un) i (encN a) k b 0), .i (IntKind.wrap .i64 ((i : Int) + 1))] = _
      rw [k3, wrap_i64_of (by omega) (by omega)]
      rfl
    rw [loopG_next hW hC, hN, q9loop hl h1 hk h d (i + 1) (by omega) (by omega)]
theorem g9r (hl : un.length < 1000) (h1 : 0 < un.length) (hk : a[k]? = some n) (h : ∀ i m, i < un.length - 1 → un[i]? = some m → ∀ x ∈ [m.s0, m.s1, m.s2], x ≠ n.d) :
    p100509 (encN un) (encN a) k b 0 = true ∧ r100509_0 (encN un) (encN a) k b 0 = 1 ∧ r100509_1 (encN un) (encN a) k b 0 = b := by
  have hL : L100509 (encN un) (encN a) k b 0 = some [.i 1, .b b, .i (un.length - 1 : Nat)] := q9loop (b := b) hl h1 hk h (un.length - 1) 0 (by omega) (by omega)
  refine ⟨?_, ?_, ?_⟩
  · unfold p100509; rw [hL]; rfl
  · unfold r100509_0; rw [hL]; rfl
  · unfold r100509_1; rw [hL]; rfl
end

theorem g0r : g100500 [.i 0, .l (encI (List.replicate 96 0)), .l (encI (List.replicate 64 0))] = [.b true, .i 0, .i 64, .l (encI value0), .l (encI now0)] := by
  have hL : loopG W100500 C100500 N100500 T100500 [.i 0, .l (encI (List.replicate 96 0)), .l (encI (List.replicate 64 0))] = some [.i 0, .i 64, .l (encI value0), .l (encI now0)] := loopG_of (n := 65) (by kernel_rfl)
  have e : ∀ (o : Option (List DV)) (a b c d : DV), o = some [.i a.toI, .i b.toI, .l c.toL, .l d.toL] → [DV.b o.isSome, .i (dget (o.getD []) 0).toI, .i (dget (o.getD []) 1).toI, .l (dget (o.getD []) 2).toL, .l (dget (o.getD []) 3).toL] = [.b true, .i a.toI, .i b.toI, .l c.toL, .l d.toL] := fun o a b c d ho => by rw [ho]; rfl
  exact e _ (.i 0) (.i 64) (.l (encI value0)) (.l (encI now0)) hL
section
variable {u : U} {s : Rs} {b : Bool}
theorem q13loop (h : Rd u s) : ∀ (d i : Nat), 64 - i = d → i ≤ 64 → loopG W100513 C100513 N100513 T100513 [.l (encI u.na), .l (encI s.value), .l (encI s.now), .b b, .i i] = some [.i 1, .b b, .i 64]
  | 0, i, hd, hi => by
    obtain rfl : i = 64 := by omega
    exact (loopG_last rfl rfl).trans rfl
  | d + 1, i, hd, hi => by
    have hi2 : i < 64 := by omega
    have hr := h.ok.ok.na_range (getD_mem (l := u.na) (r := i) (by rw [h.ok.ok.wf.na]; exact hi2))
    have hv := h.v i hi2
    have c1 : decide ((i : Int) < 64) = true := by simp; omega
    have c2 : decide ((i : Int) ≥ 0) = true := by simp
    have g1 : ((encI u.na).getD (Int.toNat (i : Int) * (1 : Nat) + (0 : Nat)) default).toI = u.na.getD i 0 := by rw [Int.toNat_natCast, Nat.mul_one, Nat.add_zero, encI_get]
    have g2 : ((encI s.value).getD (Int.toNat (u.na.getD i 0) * (1 : Nat) + (0 : Nat)) default).toI = s.value.getD (u.na.getD i 0).toNat 0 := by rw [Nat.mul_one, Nat.add_zero, encI_get]
    have g3 : ((encI s.now).getD (Int.toNat (i : Int) * (1 : Nat) + (0 : Nat)) default).toI = s.now.getD i 0 := by rw [Int.toNat_natCast, Nat.mul_one, Nat.add_zero, encI_get]
    have e1 : (((encI s.value).length / 1 : Nat) : Int) = 96 := by rw [len1, encI_len, h.hv]; rfl
    generalize hx : u.na.getD i 0 = x at *
    have d1 : ilt x 0 = false := by simp [ilt]; omega
    have d2 : igt x 95 = false := by simp [igt]; omega
    have d3 : ige x 0 = true := by simp [ige]; omega
    have d4 : ilt x 96 = true := by simp [ilt]; omega
    have hW : W100513 [.l (encI u.na), .l (encI s.value), .l (encI s.now), .b b, .i i] = true := by
      show w100513 (encI u.na) (encI s.value) (encI s.now) b i = true
      unfold w100513
      simp only [c1, c2, g1, e1, d1, d2, d3, d4, ow_true]
      rfl
    have hC : C100513 [.l (encI u.na), .l (encI s.value), .l (encI s.now), .b b, .i i] = true := by
      show c100513 (encI u.na) (encI s.value) (encI s.now) b i = true
      unfold c100513
      simp only [c1, g1, g2, g3, d1, d2, hv, bne_self_eq_false]
      rfl
    have hN : N100513 [.l (encI u.na), .l (encI s.value), .l (encI s.now), .b b, .i i] = [.l (encI u.na), .l (encI s.value), .l (encI s.now), .b b, .i (i + 1 : Nat)] := by
      show [DV.l (encI u.na), .l (encI s.value), .l (encI s.now), .b b, .i (IntKind.wrap .i64 ((i : Int) + 1))] = _
      rw [wrap_i64_of (by omega) (by omega)]
      rfl
    rw [loopG_next hW hC, hN, q13loop h d (i + 1) (by omega) (by omega)]
theorem g13r (h : Rd u s) : p100513 (encI u.na) (encI s.value) (encI s.now) b 0 = true ∧ r100513_0 (encI u.na) (encI s.value) (encI s.now) b 0 = 1 ∧ r100513_1 (encI u.na) (encI s.value) (encI s.now) b 0 = b := by
  have hL : L100513 (encI u.na) (encI s.value) (encI s.now) b 0 = some [.i 1, .b b, .i 64] := q13loop h 64 0 rfl (by omega)
  refine ⟨?_, ?_, ?_⟩
  · unfold p100513; rw [hL]; rfl
  · unfold r100513_0; rw [hL]; rfl
  · unfold r100513_1; rw [hL]; rfl
end
end Go.Proofs.Ytkpbkanbpjfadaa

namespace Go.Proofs.Ytkpbkanbpjfadaa
open Go Go.Sx

theorem Rd.b64 {u : U} {s : Rs} (h : Rd u s) : ∀ x ∈ s.before, x.length = 64 := fun x hx => by
  obtain ⟨j, hj, rfl⟩ := List.mem_iff_getElem.1 hx
  obtain ⟨bj, k1, k2, _⟩ := h.b j (by rw [← h.hb]; exact hj)
  rw [List.getElem?_eq_getElem hj, Option.some.injEq] at k1
  rw [k1]; exact k2
theorem lenB {l : List (List Int)} (h : ∀ x ∈ l, x.length = 64) : (((encB l).length / 64 : Nat) : Int) = (l.length : Int) := by rw [encB_len h]; congr 1; omega
theorem wr_of (w : Wa) : (ilt w.d 1 || igt w.d 63) = !w.wr := by
  unfold Wa.wr ilt igt
  by_cases h1 : w.d < 1 <;> by_cases h2 : w.d > 63
  · omega
  · have a1 : decide (w.d > 0) = false := by simp; omega
    rw [decide_eq_true h1, decide_eq_false h2, a1]; rfl
  · have a2 : decide (w.d < 64) = false := by simp; omega
    rw [decide_eq_false h1, decide_eq_true h2, a2, Bool.and_false]; rfl
  · have a1 : decide (w.d > 0) = true := by simp; omega
    have a2 : decide (w.d < 64) = true := by simp; omega
    rw [decide_eq_false h1, decide_eq_false h2, a1, a2]; rfl
theorem src_ok {u : U} {s : Rs} (h : Rd u s) (r : Int) : SrcOk s.value s.now r (src u.na r) := by
  unfold src
  by_cases hr : 0 ≤ r ∧ r < 64
  · rw [if_pos hr]
    refine ⟨fun h1 => by omega, fun _ => ?_⟩
    have hm := h.ok.ok.na_range (getD_mem (l := u.na) (r := r.toNat) (by rw [h.ok.ok.wf.na]; omega))
    exact ⟨hm.1, hm.2, h.v r.toNat (by omega)⟩
  · rw [if_neg hr]
    exact ⟨fun _ => rfl, fun h1 => absurd h1 hr⟩
abbrev AD (ws : List Wa) (a : List Na) (x0 : List DV) (b : Bool) (s : Rs) (k : Nat) (y1 y2 : List DV) : List DV :=
  [.l (encW ws), .l (encN a), .l x0, .b b, .l (encB s.before), .l (encN s.un), .i s.num, .i k, .l (encI s.value), .l (encI s.now), .l y1, .l y2]
section
variable {ws : List Wa} {a : List Na} {x0 y1 y2 : List DV} {b : Bool} {u u' : U} {s : Rs} {w : Wa} {n : Na} {k : Nat}
theorem rd1_lists (s : Rs) (w : Wa) (n : Na) : encB s.before ++ encI s.now = encB (rd1 s w n).before ∧ encN s.un ++ n.dv = encN (rd1 s w n).un := by
  refine ⟨?_, ?_⟩
  · rw [← encB_one, encB_append]; rfl
  · have : n.dv = encN [n] := by simp [encN]
    rw [this, encN_append]; rfl
theorem q5r (hk : ws[k]? = some w) (hn : a[k]? = some n) (h : Rd u s) (ha : u.alloc1 w = some (u', n)) (hb : a.length < 9223372036854775808) :
    W100505 (AD ws a x0 b s k y1 y2) = true ∧ C100505 (AD ws a x0 b s k y1 y2) = true ∧ N100505 (AD ws a x0 b s k y1 y2) = AD ws a x0 b (rd1 s w n) (k + 1) x0 x0 := by
  have hok := h.ok.ok
  have hlt : k < ws.length := (List.getElem?_eq_some_iff.1 hk).1
  have hlt2 : k < a.length := (List.getElem?_eq_some_iff.1 hn).1
  obtain ⟨_, _, _, hm⟩ := hok.wf.alloc1 ha
  obtain ⟨t0, t1, t2, t3, t4⟩ := alloc1_tells hok ha
  obtain ⟨p1, p2, p3⟩ := g7r (b := b) hk hn h.hv (by rw [t0]; exact src_ok h _) (by rw [t1]; exact src_ok h _) (by rw [t2]; exact src_ok h _)
  have n0 : ((encN a).getD (Int.toNat (k : Int) * (6 : Nat) + (0 : Nat)) default).toI = n.s0 := by rw [encN_get hn 0 (by decide)]; rfl
  have n1 : ((encN a).getD (Int.toNat (k : Int) * (6 : Nat) + (1 : Nat)) default).toI = n.s1 := by rw [encN_get hn 1 (by decide)]; rfl
  have n2 : ((encN a).getD (Int.toNat (k : Int) * (6 : Nat) + (2 : Nat)) default).toI = n.s2 := by rw [encN_get hn 2 (by decide)]; rfl
  have n3 : ((encN a).getD (Int.toNat (k : Int) * (6 : Nat) + (3 : Nat)) default).toI = n.d := by rw [encN_get hn 3 (by decide)]; rfl
  have n4 : ((encN a).getD (Int.toNat (k : Int) * (6 : Nat) + (4 : Nat)) default).toI = n.o := by rw [encN_get hn 4 (by decide)]; rfl
  have n5 : ((encN a).getD (Int.toNat (k : Int) * (6 : Nat) + (5 : Nat)) default).toI = n.r := by rw [encN_get hn 5 (by decide)]; rfl
  have w3 : ((encW ws).getD (Int.toNat (k : Int) * (4 : Nat) + (3 : Nat)) default).toI = w.d := by rw [encW_get hk 3 (by decide)]; rfl
  have c1 : ilt (k : Int) (a.length : Int) = true := by simp [ilt]; omega
  have c2 : ige (k : Int) 0 = true := by simp [ige]
  have c3 : ilt (k : Int) (ws.length : Int) = true := by simp [ilt]; omega
  have z1 : ((1 : Int) == 0) = false := rfl
  have hs := sub64 (x := encI s.now) (by rw [encI_len, h.hn])
  obtain ⟨l1, l2⟩ := rd1_lists s w n
  have hb64 : ∀ x ∈ (rd1 s w n).before, x.length = 64 := fun x hx => by
    rcases List.mem_append.1 (show x ∈ s.before ++ [s.now] from hx) with hx | hx
    · exact h.b64 x hx
    · simp at hx; rw [hx]; exact h.hn
  have lb : (rd1 s w n).before.length = u.ma + 1 := by show (s.before ++ [s.now]).length = _; rw [List.length_append, h.hb]; rfl
  have lu : (rd1 s w n).un.length = u.ma + 1 := by show (s.un ++ [n]).length = _; rw [List.length_append, h.hu]; rfl
  have d1 : decide ((((encB (rd1 s w n).before).length / 64 : Nat) : Int) ≤ 137171041281) = true := by rw [lenB hb64, lb]; simp; omega
  have d2 : decide ((((encN (rd1 s w n).un).length / 6 : Nat) : Int) ≤ 1436096819952) = true := by rw [len6, lu]; simp; omega
  have wk : IntKind.wrap .i64 ((k : Int) + 1) = ((k + 1 : Nat) : Int) := by rw [wrap_i64_of (by omega) (by omega)]; omega
  have e6 : (((encN a).length / 6 : Nat) : Int) = (a.length : Int) := len6 a
  have e1 : (((encI s.value).length / 1 : Nat) : Int) = 96 := by rw [len1, encI_len, h.hv]; rfl
  cases hw : w.wr with
  | true =>
    obtain ⟨k1, k2, k3, k4, k5, _⟩ := t4 hw
    have hwr := wr_of w
    rw [hw] at hwr
    obtain ⟨g1, g2, g3⟩ := g9r (un := (rd1 s w n).un) (a := a) (b := b) (k := k) (by omega) (by omega) hn (fun i m hi hmi x hx => by
      have hi2 : i < u.ma := by omega
      obtain ⟨m', k6, k7⟩ := h.s i hi2
      have hmi : (s.un ++ [n])[i]? = some m := hmi
      rw [List.getElem?_append_left (by rw [h.hu]; exact hi2), k6, Option.some.injEq] at hmi
      subst hmi
      rcases k7 x hx with rfl | k8
      · omega
      · exact free_apart hok k8 k1)
    have f1 : ilt n.d 0 = false := by simp [ilt]; omega
    have f2 : igt n.d 95 = false := by simp [igt]; omega
    have f3 : ige n.d 0 = true := by simp [ige]; omega
    have f4 : ilt n.d 96 = true := by simp [ilt]; omega
    have f5 : ige w.d 0 = true := by simp [ige]; omega
    have f6 : ilt w.d 64 = true := by simp [ilt]; omega
    have v1 : (encI s.value).set (Int.toNat n.d * (1 : Nat) + (0 : Nat)) (.i (num1 s)) = encI (rd1 s w n).value := by
      rw [Nat.mul_one, Nat.add_zero, encI_set]
      show _ = encI (bif w.wr then _ else _)
      rw [hw]; rfl
    have v2 : (padN 64 (encI s.now)).set (Int.toNat w.d * (1 : Nat) + (0 : Nat)) (.i (num1 s)) = encI (rd1 s w n).now := by
      rw [padN_id (by rw [encI_len, h.hn]), Nat.mul_one, Nat.add_zero, encI_set]
      show _ = encI (bif w.wr then _ else _)
      rw [hw]; rfl
    have hnum : IntKind.wrap .i64 (s.num + 1) = num1 s := rfl
    refine ⟨?_, ?_, ?_⟩
    · unfold W100505
      simp only [dget, List.getD_cons_zero, List.getD_cons_succ, e6, len4, e1, c1, c2, c3, p1, p2, p3, z1, hs, n0, n1, n2, n3, n4, n5, w3, l1, l2, d1, d2, hwr, f1, f2, f3, f4, f5, f6, g1, g2, Bool.not_true, Bool.not_false, Bool.or_self, ow_true]
      simp []
    · unfold C100505
      simp only [dget, List.getD_cons_zero, List.getD_cons_succ, e6, c1, p2, p3, z1, n0, n1, n2, n3, n4, n5, w3, l2, hwr, f1, f2, g2, Bool.not_true, Bool.not_false, Bool.or_self, Bool.and_self, cond_true]
    · unfold N100505
      simp only [dget, List.getD_cons_zero, List.getD_cons_succ, p3, hs, n0, n1, n2, n3, n4, n5, w3, l1, l2, hwr, g3, hnum, v1, v2, wk]
      rfl
  | false =>
    obtain ⟨k1, k2, _⟩ := t3 hw
    have hwr := wr_of w
    rw [hw] at hwr
    have f1 : (n.d != -1) = false := by rw [k1]; rfl
    have f2 : (n.o != -1) = false := by rw [k2]; rfl
    have hnum : IntKind.wrap .i64 (s.num + 1) = num1 s := rfl
    refine ⟨?_, ?_, ?_⟩
    · unfold W100505
      simp only [dget, List.getD_cons_zero, List.getD_cons_succ, e6, len4, e1, c1, c2, c3, p1, p2, p3, z1, hs, n0, n1, n2, n3, n4, n5, w3, l1, l2, d1, d2, hwr, Bool.not_true, Bool.not_false, ow_true]
      simp [ow]
    · unfold C100505
      simp only [dget, List.getD_cons_zero, List.getD_cons_succ, e6, c1, p2, p3, z1, n3, n4, w3, hwr, f1, f2, Bool.not_true, Bool.not_false, Bool.or_self, Bool.and_self, cond_false]
    · have v1 : (rd1 s w n).value = s.value := by show (bif w.wr then _ else _ : List Int) = _; rw [hw]; rfl
      have v2 : (rd1 s w n).now = s.now := by show (bif w.wr then _ else _ : List Int) = _; rw [hw]; rfl
      unfold N100505
      simp only [dget, List.getD_cons_zero, List.getD_cons_succ, p3, hs, n0, n1, n2, n3, n4, n5, w3, l1, l2, hwr, hnum, wk, Bool.not_false, Bool.not_true, cond_false]
      dsimp only [AD]
      rw [v1, v2]
      rfl
theorem q5end (hk : k = a.length) : W100505 (AD ws a x0 b s k y1 y2) = true ∧ C100505 (AD ws a x0 b s k y1 y2) = false ∧ T100505 (AD ws a x0 b s k y1 y2) = [.i 1, .b b, .l (encB s.before), .l (encN s.un), .i s.num, .i a.length, .l (encI s.value), .l (encI s.now), .l x0, .l x0] := by
  subst hk
  have e6 : (((encN a).length / 6 : Nat) : Int) = (a.length : Int) := len6 a
  have c1 : ilt (a.length : Int) (a.length : Int) = false := by simp [ilt]
  refine ⟨?_, ?_, ?_⟩
  · unfold W100505
    simp only [dget, List.getD_cons_zero, List.getD_cons_succ, e6, c1]
    simp [ow]
  · unfold C100505
    simp only [dget, List.getD_cons_zero, List.getD_cons_succ, e6, c1, Bool.false_and]
  · unfold T100505
    simp only [dget, List.getD_cons_zero, List.getD_cons_succ, e6, c1, cond_false]
theorem q5loopR (hb : a.length < 9223372036854775808) : ∀ (d k : Nat) (u : U) (s : Rs) (y1 y2 : List DV), a.length - k = d → k ≤ a.length → Rd u s → (u.alloc (ws.drop k)).2 = a.drop k →
    ∃ (s' : Rs), Rd (u.alloc (ws.drop k)).1 s' ∧ loopG W100505 C100505 N100505 T100505 (AD ws a x0 b s k y1 y2) = some [.i 1, .b b, .l (encB s'.before), .l (encN s'.un), .i s'.num, .i a.length, .l (encI s'.value), .l (encI s'.now), .l x0, .l x0]
  | 0, k, u, s, y1, y2, hd, hk, hr, ha => by
    obtain ⟨h1, h2, h3⟩ := q5end (ws := ws) (a := a) (x0 := x0) (y1 := y1) (y2 := y2) (b := b) (s := s) (k := k) (by omega)
    have hnil : a.drop k = [] := List.drop_of_length_le (by omega)
    refine ⟨s, ?_, by rw [loopG_last h1 h2, h3]⟩
    have hu : (u.alloc (ws.drop k)).1 = u := by
      rw [hnil] at ha
      cases hws : ws.drop k with
      | nil => rfl
      | cons w ws' =>
        rw [hws] at ha
        unfold U.alloc at ha ⊢
        cases ha1 : u.alloc1 w with
        | none => rfl
        | some r => rw [ha1] at ha; cases ha
    rw [hu]
    exact hr
  | d + 1, k, u, s, y1, y2, hd, hk, hr, ha => by
    have hlt : k < a.length := by omega
    have hcons := List.drop_eq_getElem_cons hlt
    have hws : k < ws.length := by
      rcases Nat.lt_or_ge k ws.length with h | h
      · exact h
      · rw [List.drop_of_length_le h, hcons] at ha
        cases ha
    have hcw := List.drop_eq_getElem_cons hws
    rw [hcw, hcons] at ha
    unfold U.alloc at ha
    cases ha1 : u.alloc1 ws[k] with
    | none => rw [ha1] at ha; cases ha
    | some r =>
      rw [ha1] at ha
      simp only [List.cons.injEq] at ha
      obtain ⟨e1, e2⟩ := ha
      have ha2 : u.alloc1 ws[k] = some (r.1, a[k]) := by rw [ha1, ← e1]
      obtain ⟨h1, h2, h3⟩ := q5r (x0 := x0) (y1 := y1) (y2 := y2) (b := b) (List.getElem?_eq_getElem hws) (List.getElem?_eq_getElem hlt) hr ha2 hb
      obtain ⟨s', k1, k2⟩ := q5loopR hb d (k + 1) r.1 (rd1 s ws[k] a[k]) x0 x0 (by omega) (by omega) (hr.step1 ha2) e2
      refine ⟨s', ?_, by rw [loopG_next h1 h2, h3, k2]⟩
      rw [hcw]
      unfold U.alloc
      rw [ha1]
      exact k1
theorem g5r (hb : a.length < 9223372036854775808) (hr : Rd u s) (ha : (u.alloc ws).2 = a) : ∃ s' : Rs, Rd (u.alloc ws).1 s' ∧ g100505 [.l (encW ws), .l (encN a), .l x0, .b b, .l (encB s.before), .l (encN s.un), .i s.num, .i 0, .l (encI s.value), .l (encI s.now), .l y1, .l y2] =
    [.b true, .i 1, .b b, .l (encB s'.before), .l (encN s'.un), .i s'.num, .i a.length, .l (encI s'.value), .l (encI s'.now), .l x0, .l x0] := by
  obtain ⟨s', h1, h2⟩ := q5loopR (ws := ws) (a := a) (x0 := x0) (b := b) hb a.length 0 u s y1 y2 rfl (by omega) hr (by simpa using ha)
  refine ⟨s', by simpa using h1, ?_⟩
  have e : ∀ (o : Option (List DV)) (a b c d f g h i j m : DV), o = some [.i a.toI, .b b.toB, .l c.toL, .l d.toL, .i f.toI, .i g.toI, .l h.toL, .l i.toL, .l j.toL, .l m.toL] →
      wrapG [.i, .b, .l, .l, .i, .i, .l, .l, .l, .l] o = [.b true, .i a.toI, .b b.toB, .l c.toL, .l d.toL, .i f.toI, .i g.toI, .l h.toL, .l i.toL, .l j.toL, .l m.toL] := fun o a b c d f g h i j m ho => by rw [ho]; rfl
  exact e _ (.i 1) (.b b) (.l (encB s'.before)) (.l (encN s'.un)) (.i s'.num) (.i a.length) (.l (encI s'.value)) (.l (encI s'.now)) (.l x0) (.l x0) h2
end

abbrev RS (l : List St) (k : Nat) (u : U) (s : Rs) (b : Bool) : List DV :=
  [.l (encS l), .b b, .l (encB s.before), .l (encN s.un), .i s.num, .i k, .l (encI u.na), .l (encI u.fr), .l (encE u.rob), .i u.fi, .i u.ma, .l (encS l), .l (encI s.value), .l (encI s.now), .l (encS l), .l (encS l)]
section
variable {l : List St} {k : Nat} {u : U} {st : St} {s : Rs} {b : Bool}
theorem encN_dropR (l : List Na) (k : Nat) : (encN l).drop (k * 6) = encN (l.drop k) := fm_drop (f := Na.dv) (fun _ => rfl) l k
theorem encN_takeR (l : List Na) (k : Nat) : (encN l).take (k * 6) = encN (l.take k) := by
  induction l generalizing k with
  | nil => simp [encN]
  | cons a l ih =>
    cases k with
    | zero => simp [encN]
    | succ k =>
      have e : encN (a :: l) = a.dv ++ encN l := by simp [encN]
      rw [e, Nat.succ_mul, Nat.add_comm, List.take_append, List.take_of_length_le (by show 6 ≤ _; omega), show 6 + k * 6 - a.dv.length = k * 6 from by show 6 + k * 6 - 6 = _; omega, ih]
      simp [encN]
theorem readRound (hk : l[k]? = some st) (h : Rd u s) (hb : st.ws.length < 9223372036854775808) (hl : l.length < 9223372036854775808) :
    ∃ s' : Rs, Rd (u.step st) s' ∧ W100502 (RS l k u s b) = true ∧ C100502 (RS l k u s b) = true ∧ N100502 (RS l k u s b) = RS l (k + 1) (u.step st) s' b := by
  have hlt : k < l.length := (List.getElem?_eq_some_iff.1 hk).1
  have hu := h.ok.ok.wf
  have hma := hu.ma
  have hbl := h.hb
  have hul := h.hu
  have el : (((encS l).length / 3 : Nat) : Int) = (l.length : Int) := by rw [encS_len]; congr 1; omega
  have c1 : ilt (k : Int) (l.length : Int) = true := by simp [ilt]; omega
  have c2 : ige (k : Int) 0 = true := by simp [ige]
  have s0 : ((encS l).getD (Int.toNat (k : Int) * (3 : Nat) + (0 : Nat)) default).toI = st.kind := by rw [encS_get hk 0 (by decide)]; rfl
  have s1 : ((encS l).getD (Int.toNat (k : Int) * (3 : Nat) + (1 : Nat)) default).toI = st.n := by rw [encS_get hk 1 (by decide)]; rfl
  have s2 : ((encS l).getD (Int.toNat (k : Int) * (3 : Nat) + (2 : Nat)) default).toL = encW st.ws := by rw [encS_get hk 2 (by decide)]; rfl
  have wk : IntKind.wrap .i64 ((k : Int) + 1) = ((k + 1 : Nat) : Int) := by rw [wrap_i64_of (by omega) (by omega)]; omega
  have hal := (hu.alloc st.ws).2.2.2
  obtain ⟨sA, hA, gA⟩ := g5r (ws := st.ws) (a := (u.alloc st.ws).2) (x0 := encS l) (y1 := encS l) (y2 := encS l) (b := b) (by omega) h rfl
  have z1 : ((1 : Int) == 0) = false := rfl
  have dA : decide (((u.alloc st.ws).2.length : Int) > (st.ws.length : Int)) = false := by simp; omega
  -- commit
  obtain ⟨hC, hCl⟩ := Rd.commit st.n.toNat h
  have lc : (((encI (u.commit st.n.toNat).2).length / 1 : Nat) : Int) = ((u.commit st.n.toNat).2.length : Int) := by rw [len1, encI_len]
  have lb : (((encB s.before).length / 64 : Nat) : Int) = (u.ma : Int) := by rw [lenB h.b64, hbl]
  have lu : (((encN s.un).length / 6 : Nat) : Int) = (u.ma : Int) := by rw [len6, hul]
  have c3 : decide (((u.commit st.n.toNat).2.length : Int) > (u.ma : Int)) = false := by simp; omega
  have c4 : decide (((u.commit st.n.toNat).2.length : Int) ≥ 0) = true := by simp
  have c5 : decide (((u.commit st.n.toNat).2.length : Int) ≤ (u.ma : Int)) = true := by simp; omega
  have dr1 : (encN s.un).drop (Int.toNat ((u.commit st.n.toNat).2.length : Int) * 6) = encN (s.un.drop (u.commit st.n.toNat).2.length) := by rw [Int.toNat_natCast]; exact encN_dropR _ _
  have dr2 : (encB s.before).drop (Int.toNat ((u.commit st.n.toNat).2.length : Int) * 64) = encB (s.before.drop (u.commit st.n.toNat).2.length) := by rw [Int.toNat_natCast]; exact encB_drop h.b64 _
  -- squash
  have hS := h.squash st.n
  have hq := squash_rng u st.n
  have q1 : ilt (u.squash st.n).2 0 = false := by simp [ilt]; omega
  have q2 : igt (u.squash st.n).2 (u.ma : Int) = false := by simp [igt]; omega
  have hw : IntKind.wrap .i64 ((u.ma : Int) - (u.squash st.n).2) = ((u.ma - (u.squash st.n).2.toNat : Nat) : Int) := by rw [wrap_i64_of (by omega) (by omega)]; omega
  have q3 : decide (((u.ma - (u.squash st.n).2.toNat : Nat) : Int) ≥ 0) = true := by simp
  have q4 : decide (((u.ma - (u.squash st.n).2.toNat : Nat) : Int) ≤ (u.ma : Int)) = true := by simp
  have q5 : igt (u.squash st.n).2 0 = true → decide (((u.ma - (u.squash st.n).2.toNat : Nat) : Int) < (u.ma : Int)) = true := fun hg => by
    have : (u.squash st.n).2 > 0 := by simpa [igt] using hg
    simp; omega
  have tk1 : (encN s.un).take (Int.toNat ((u.ma - (u.squash st.n).2.toNat : Nat) : Int) * 6) = encN (rdTake s (u.squash st.n).2.toNat).un := by
    rw [Int.toNat_natCast, encN_takeR, ← hul]; rfl
  have tk2 : (encB s.before).take (Int.toNat ((u.ma - (u.squash st.n).2.toNat : Nat) : Int) * 64) = encB (rdTake s (u.squash st.n).2.toNat).before := by
    rw [Int.toNat_natCast, encB_take h.b64, ← hbl]; rfl
  have tk3 : (bif igt (u.squash st.n).2 0 then (List.range 64).map fun j => (encB s.before).getD (Int.toNat ((u.ma - (u.squash st.n).2.toNat : Nat) : Int) * 64 + 0 + j) default else encI s.now) = encI (rdTake s (u.squash st.n).2.toNat).now := by
    show _ = encI (bif decide (((u.squash st.n).2.toNat : Int) > 0) then s.before.getD (s.before.length - (u.squash st.n).2.toNat) [] else s.now)
    cases hg : igt (u.squash st.n).2 0 with
    | false =>
      have : ¬ (u.squash st.n).2 > 0 := by simpa [igt] using hg
      have e : decide (((u.squash st.n).2.toNat : Int) > 0) = false := by simp; omega
      rw [e]; rfl
    | true =>
      have hg : (u.squash st.n).2 > 0 := by simpa [igt] using hg
      have e : decide (((u.squash st.n).2.toNat : Int) > 0) = true := by simp; omega
      obtain ⟨bj, k1, k2, _⟩ := h.b (u.ma - (u.squash st.n).2.toNat) (by omega)
      rw [e, cond_true, cond_true, hbl, List.getD_eq_getElem?_getD (l := s.before), k1]
      show _ = encI bj
      rw [← sub64 (x := encI bj) (by rw [encI_len, k2])]
      refine List.map_congr_left fun j hj => ?_
      have hj := List.mem_range.1 hj
      rw [Int.toNat_natCast, Nat.add_zero, encB_get h.b64 k1 hj]
      congr 1
      show j = 0 * 1 + 0 + j
      omega
  have f2 : (u.finish st.n).1.fi = u.fi ∧ (u.finish st.n).1.ma = u.ma := by
    unfold U.finish
    cases (decide (u.number st.n < 0) || (u.at st.n.toNat).f) <;> exact ⟨rfl, rfl⟩
  have f3 : (u.squash st.n).1.fi = u.fi := by
    unfold U.squash
    cases (decide (u.number st.n < 0) && (st.n != -1)) with
    | true => rfl
    | false => exact (squashN_rob _ u).2.1
  have f1 := (hu.alloc st.ws).2.1
  have f4 := commit_rob st.n.toNat u
  have hW : W100502 (RS l k u s b) = true := by
    unfold W100502
    simp only [dget, List.getD_cons_zero, List.getD_cons_succ, el, c1, c2, s0, s1, s2, g11_eq hb hu, g14_eq hu, g16_eq hu, g19_eq hu, len6, len4, dA, gA, lc, lb, hul, c3, c4, c5, q1, q2, hw, q3, q4, Bool.or_self, Bool.not_false, ow_true]
    cases hg : igt (u.squash st.n).2 0 with
    | false => simp [ow]
    | true =>
      rw [q5 hg]
      simp only [ow_true]
      rfl
  have hC2 : C100502 (RS l k u s b) = true := by
    unfold C100502
    simp only [dget, List.getD_cons_zero, List.getD_cons_succ, el, c1, s0, s1, s2, g11_eq hb hu, g16_eq hu, g19_eq hu, len6, len4, dA, gA, z1, lc, hul, c3, q1, q2, Bool.or_self, Bool.not_false, Bool.and_self]
    cases st.kind == 0 <;> cases st.kind == 1 <;> cases st.kind == 2 <;> cases st.kind == 3 <;> rfl
  have hN : ∀ s' : Rs, (s' = bif st.kind == 0 then sA else bif st.kind == 1 then s else bif st.kind == 2 then rdDrop s (u.commit st.n.toNat).2.length else bif st.kind == 3 then rdTake s (u.squash st.n).2.toNat else s) → N100502 (RS l k u s b) = RS l (k + 1) (u.step st) s' b := by
    rintro s' rfl
    unfold N100502
    simp only [dget, List.getD_cons_zero, List.getD_cons_succ, s0, s1, s2, g11_eq hb hu, g14_eq hu, g16_eq hu, g19_eq hu, gA, lc, dr1, dr2, lb, lu, hw, tk1, tk2, tk3, wk]
    unfold U.step
    cases st.kind == 0 with
    | true =>
      simp only [cond_true]
      dsimp only [RS]
      rw [f1]
    | false =>
      cases st.kind == 1 with
      | true =>
        simp only [cond_true, cond_false]
        dsimp only [RS]
        rw [f2.1, f2.2]
      | false =>
        cases st.kind == 2 with
        | true =>
          simp only [cond_true, cond_false]
          dsimp only [RS]
          rw [f4.1, f4.2]
          rfl
        | false =>
          cases st.kind == 3 with
          | true =>
            simp only [cond_true, cond_false]
            dsimp only [RS]
            rw [f3]
            rfl
          | false => simp only [cond_false]
  refine ⟨_, ?_, hW, hC2, hN _ rfl⟩
  unfold U.step
  cases st.kind == 0 with
  | true => exact hA
  | false =>
    cases st.kind == 1 with
    | true => exact h.finish st.n
    | false =>
      cases st.kind == 2 with
      | true => exact hC
      | false =>
        cases st.kind == 3 with
        | true => exact hS
        | false => exact h
theorem readEnd (hk : l.length ≤ k) : W100502 (RS l k u s b) = true ∧ C100502 (RS l k u s b) = false ∧ T100502 (RS l k u s b) =
    [.i 1, .b b, .l (encB s.before), .l (encN s.un), .i s.num, .i k, .l (encI u.na), .l (encI u.fr), .l (encE u.rob), .i u.fi, .i u.ma, .l (encS l), .l (encI s.value), .l (encI s.now), .l (encS l), .l (encS l)] := by
  have el : (((encS l).length / 3 : Nat) : Int) = (l.length : Int) := by rw [encS_len]; congr 1; omega
  have c1 : ilt (k : Int) (l.length : Int) = false := by simp [ilt]; omega
  refine ⟨?_, ?_, ?_⟩
  · unfold W100502
    simp only [dget, List.getD_cons_zero, List.getD_cons_succ, el, c1]
    simp [ow]
  · unfold C100502
    simp only [dget, List.getD_cons_zero, List.getD_cons_succ, el, c1, Bool.false_and]
  · unfold T100502
    simp only [dget, List.getD_cons_zero, List.getD_cons_succ, el, c1, cond_false]
theorem readLoop (hl : l.length < 9223372036854775808) (hb : ∀ s ∈ l, s.ws.length < 9223372036854775808) : ∀ (n k : Nat) (u : U) (s : Rs), l.length - k = n → Rd u s → ∃ (k' : Nat) (u' : U) (s' : Rs), Rd u' s' ∧ loopG W100502 C100502 N100502 T100502 (RS l k u s b) =
    some [.i 1, .b b, .l (encB s'.before), .l (encN s'.un), .i s'.num, .i k', .l (encI u'.na), .l (encI u'.fr), .l (encE u'.rob), .i u'.fi, .i u'.ma, .l (encS l), .l (encI s'.value), .l (encI s'.now), .l (encS l), .l (encS l)]
  | 0, k, u, s, hn, hu => by
    obtain ⟨h1, h2, h3⟩ := readEnd (l := l) (k := k) (u := u) (s := s) (b := b) (by omega)
    exact ⟨k, u, s, hu, by rw [loopG_last h1 h2, h3]⟩
  | n + 1, k, u, s, hn, hu => by
    obtain ⟨st, hk⟩ : ∃ st, l[k]? = some st := ⟨l[k]'(by omega), List.getElem?_eq_getElem _⟩
    have hs := hb st (List.mem_of_getElem? hk)
    obtain ⟨s1, h1, h2, h3, h4⟩ := readRound (b := b) hk hu hs hl
    obtain ⟨k', u', s', h5, h6⟩ := readLoop hl hb n (k + 1) (u.step st) s1 (by omega) h1
    exact ⟨k', u', s', h5, by rw [loopG_next h2 h3, h4, h6]⟩
end
theorem reads_law {l : List St} (hl : l.length < 9223372036854775808) (hb : ∀ s ∈ l, s.ws.length < 9223372036854775808) : p5 (encS l) = true ∧ r5_0 (encS l) = true := by
  obtain ⟨k', u', s', hR, h2⟩ := readLoop (b := false) hl hb l.length 0 u0 _ (by omega) Rd.init
  have G : g100502 [.l (encS l), .b false, .l [], .l [], .i 0, .i 0, .l (encI u0.na), .l (encI u0.fr), .l (encE u0.rob), .i u0.fi, .i u0.ma, .l (encS l), .l (encI value0), .l (encI now0), .l (encS l), .l (encS l)] =
      [.b true, .i 1, .b false, .l (encB s'.before), .l (encN s'.un), .i s'.num, .i k', .l (encI u'.na), .l (encI u'.fr), .l (encE u'.rob), .i u'.fi, .i u'.ma, .l (encS l), .l (encI s'.value), .l (encI s'.now), .l (encS l), .l (encS l)] := by
    have e : ∀ (o : Option (List DV)) (a b c d f g h i j m n q r t v w : DV), o = some [.i a.toI, .b b.toB, .l c.toL, .l d.toL, .i f.toI, .i g.toI, .l h.toL, .l i.toL, .l j.toL, .i m.toI, .i n.toI, .l q.toL, .l r.toL, .l t.toL, .l v.toL, .l w.toL] →
        wrapG [.i, .b, .l, .l, .i, .i, .l, .l, .l, .i, .i, .l, .l, .l, .l, .l] o = [.b true, .i a.toI, .b b.toB, .l c.toL, .l d.toL, .i f.toI, .i g.toI, .l h.toL, .l i.toL, .l j.toL, .i m.toI, .i n.toI, .l q.toL, .l r.toL, .l t.toL, .l v.toL, .l w.toL] := fun o a b c d f g h i j m n q r t v w ho => by rw [ho]; rfl
    exact e _ (.i 1) (.b false) (.l (encB s'.before)) (.l (encN s'.un)) (.i s'.num) (.i k') (.l (encI u'.na)) (.l (encI u'.fr)) (.l (encE u'.rob)) (.i u'.fi) (.i u'.ma) (.l (encS l)) (.l (encI s'.value)) (.l (encI s'.now)) (.l (encS l)) (.l (encS l)) h2
  obtain ⟨m1, m2, m3⟩ := g13r (b := false) hR
  have b8 : ∀ x, r23_0 (encI x) = encI x := fun _ => rfl
  have z1 : ((1 : Int) == 0) = false := rfl
  have ez : (List.replicate (Int.toNat 96) ([.i 0] : List DV)).flatten = encI (List.replicate 96 0) := by kernel_rfl
  have e64 : ([.i 0, .i 0, .i 0, .i 0, .i 0, .i 0, .i 0, .i 0, .i 0, .i 0, .i 0, .i 0, .i 0, .i 0, .i 0, .i 0, .i 0, .i 0, .i 0, .i 0, .i 0, .i 0, .i 0, .i 0, .i 0, .i 0, .i 0, .i 0, .i 0, .i 0, .i 0, .i 0, .i 0, .i 0, .i 0, .i 0, .i 0, .i 0, .i 0, .i 0, .i 0, .i 0, .i 0, .i 0, .i 0, .i 0, .i 0, .i 0, .i 0, .i 0, .i 0, .i 0, .i 0, .i 0, .i 0, .i 0, .i 0, .i 0, .i 0, .i 0, .i 0, .i 0, .i 0, .i 0] : List DV) = encI (List.replicate 64 0) := by kernel_rfl
  have ep : padN 64 (encI (List.replicate 64 0)) = encI (List.replicate 64 0) := padN_id (by rw [encI_len]; rfl)
  have es : ∀ j, (encI (List.replicate 64 0)).set (Int.toNat 0 * (1 : Nat) + j) (.i 0) = encI (List.replicate 64 0) := fun j => by
    rw [encI_set]
    congr 1
    apply List.ext_getElem?
    intro i
    rw [List.getElem?_set, List.getElem?_replicate]
    by_cases h1 : Int.toNat 0 * 1 + j = i
    · rw [if_pos h1, List.length_replicate]
      by_cases h2 : i < 64
      · rw [if_pos h2, if_pos (by omega)]
      · rw [if_neg h2, if_neg (by omega)]
    · rw [if_neg h1]
  refine ⟨?_, ?_⟩
  · unfold p5
    simp only [ez, e64, ep, es, g9_eq, g0r, dget, List.getD_cons_zero, List.getD_cons_succ, p8_eq, r8_eq, G, z1, b8, m1, ow_true]
    rfl
  · unfold r5_0
    simp only [ez, e64, ep, es, g9_eq, g0r, dget, List.getD_cons_zero, List.getD_cons_succ, r8_eq, G, z1, b8, m2, m3]
    rfl
end Go.Proofs.Ytkpbkanbpjfadaa

namespace Go.Proofs.Ytkpbkanbpjfadaa
open Go Go.Sx
set_option maxRecDepth 100000
set_option maxHeartbeats 4000000
theorem ev8 : evFn Try.prog S8 2000 Try.f8 s8 = some o8 := by kernel_rfl
theorem ev23 : evFn Try.prog S23 2000 Try.f23 s23 = some o23 := by kernel_rfl
theorem ev26 : evFn Try.prog S26 2000 Try.f26 s26 = some o26 := by kernel_rfl
end Go.Proofs.Ytkpbkanbpjfadaa

namespace Go.Proofs.Ytkpbkanbpjfadaa
open Go Go.Sx
set_option maxRecDepth 100000
set_option maxHeartbeats 4000000
theorem ev5 : evFn Try.prog S5 2000 Try.f5 s5 = some o5 := by kernel_rfl
theorem ev16 : evFn Try.prog S16 2000 Try.f16 s16 = some o16 := by kernel_rfl
theorem ev14 : evFn Try.prog S14 2000 Try.f14 s14 = some o14 := by kernel_rfl
theorem ev28 : evFn Try.prog S28 2000 Try.f28 s28 = some o28 := by kernel_rfl
theorem ev25 : evFn Try.prog S25 2000 Try.f25 s25 = some o25 := by kernel_rfl
end Go.Proofs.Ytkpbkanbpjfadaa

namespace Go.Proofs.Ytkpbkanbpjfadaa
open Go Go.Sx
set_option maxRecDepth 100000
set_option maxHeartbeats 4000000
end Go.Proofs.Ytkpbkanbpjfadaa

namespace Go.Proofs.Ytkpbkanbpjfadaa
open Go Go.Sx
set_option maxRecDepth 100000
set_option maxHeartbeats 4000000
theorem ev11 : evFn Try.prog S11 2000 Try.f11 s11 = some o11 := by kernel_rfl
theorem ev9 : evFn Try.prog S9 2000 Try.f9 s9 = some o9 := by kernel_rfl
theorem ev19 : evFn Try.prog S19 2000 Try.f19 s19 = some o19 := by kernel_rfl
theorem ev21 : evFn Try.prog S21 2000 Try.f21 s21 = some o21 := by kernel_rfl
end Go.Proofs.Ytkpbkanbpjfadaa

namespace Go.Proofs.Ytkpbkanbpjfadaa
open Go Go.Shelf
def cloneRen : Go.Shelf.Ren := ⟨fun | 15 => 31 | n => n, fun | 22 => 35 | 3 => 3 | 4 => 4 | n => n, fun | n => n⟩
theorem laysClone : Go.Proofs.Lays2.n15 Try.prog cloneRen := {
  mixed := by kernel_rfl
  f15 := Try.func31.trans (congrArg some (by kernel_rfl))
  t3 := Try.underlying3
  a3 := Try.isAgg3
  z3 := Try.sizeOf3
  v3 := Try.zeroValue3
  t4 := Try.underlying4
  a4 := Try.isAgg4
  z4 := Try.sizeOf4
  v4 := Try.zeroValue4
  t22 := Try.underlying35
  a22 := Try.isAgg35
  z22 := Try.sizeOf35
  v22 := Try.zeroValue35
  i3 := by kernel_rfl }
def insRen : Go.Shelf.Ren := ⟨fun | 21 => 30 | 27 => 32 | 28 => 33 | 35 => 34 | 39 => 35 | n => n, fun | 22 => 35 | 3 => 3 | 4 => 4 | 0 => 0 | n => n, fun | n => n⟩
theorem laysIns : Go.Proofs.Lays2.n21 Try.prog insRen := {
  mixed := by kernel_rfl
  f21 := Try.func30.trans (congrArg some (by kernel_rfl))
  f27 := Try.func32.trans (congrArg some (by kernel_rfl))
  f28 := Try.func33.trans (congrArg some (by kernel_rfl))
  f35 := Try.func34.trans (congrArg some (by kernel_rfl))
  f39 := Try.func35.trans (congrArg some (by kernel_rfl))
  t0 := Try.underlying0
  a0 := Try.isAgg0
  z0 := Try.sizeOf0
  v0 := Try.zeroValue0
  t3 := Try.underlying3
  a3 := Try.isAgg3
  z3 := Try.sizeOf3
  v3 := Try.zeroValue3
  t4 := Try.underlying4
  a4 := Try.isAgg4
  z4 := Try.sizeOf4
  v4 := Try.zeroValue4
  t22 := Try.underlying35
  a22 := Try.isAgg35
  z22 := Try.sizeOf35
  v22 := Try.zeroValue35
  i3 := by kernel_rfl }
end Go.Proofs.Ytkpbkanbpjfadaa

namespace Go.Proofs.Ytkpbkanbpjfadaa
open Go Go.Sx Go.RowKit

abbrev iv (d : DV) : Value := .int .i64 d.toI
theorem cell_of {w : World} {g : Nat} {cur : Array Value} {e : TypeId} {z : Nat × Nat} (h : w.heap[g]? = some (.cells cur e z)) (i : Nat) : w.cell? ⟨g, i, none⟩ = cur[i]? := by
  simp [World.cell?, h]
theorem own_row {E : Env} {w' : World} {base n : Nat} {v' : Value} {xs : List DV} (h : w'.ownsRow base 3 1 v' n (xs.map iv)) : ∃ r : Sx.Loc, v' = r.slice ∧ VRel E w' r true [.int .i64] xs ∧ (r.nil = true ∨ base ≤ r.blk) := by
  obtain ⟨hl, h⟩ := h
  rw [List.length_map, Nat.mul_one] at hl
  rcases h with ⟨rfl, h0⟩ | ⟨g, cap, cur, rfl, hb, hg, hn, hm, hs, ht⟩
  · refine ⟨⟨0, 0, true, 0, 0, none⟩, rfl, ⟨fun _ => ⟨rfl, rfl⟩, fun e => (by cases e), (by decide), (by show xs.length = 0 * 1; omega), Nat.le_refl _, fun i hi => by omega, fun _ e => (by cases e), fun _ e => (by cases e)⟩, .inl rfl⟩
  · have hlt : g < w'.heap.size := by
      rcases Nat.lt_or_ge g w'.heap.size with h | h
      · exact h
      · rw [Array.getElem?_eq_none h] at hg; cases hg
    refine ⟨⟨g, 0, false, n, cap, none⟩, rfl, ⟨fun e => (by cases e), fun _ => hlt, (by decide), (by show xs.length = n * 1; omega), hn, fun i hi => ?_, fun _ _ i hi => ?_, fun _ _ => ⟨hm, fun o => by simp [World.frozen?, hg]⟩⟩, .inr hb⟩
    · refine ⟨iv (xs.getD i default), ?_, ?_⟩
      · rw [cell_of hg, Nat.zero_add]
        have h1 : (cur.toList.take (n * 1))[i]? = cur[i]? := by rw [List.getElem?_take, if_pos (by omega)]; simp
        rw [← h1, ht, List.getElem?_map, List.getElem?_eq_getElem hi]
        simp [List.getD_eq_getElem?_getD, List.getElem?_eq_getElem hi]
      · have : i % [LT.int .i64].length = 0 := Nat.mod_one i
        rw [this]
        exact .int .i64 _
    · have hi : i < cap * 1 := hi
      refine ⟨?_, by simp [World.frozen?, hg]⟩
      rw [cell_of hg, Nat.zero_add, Array.getElem?_eq_getElem (by omega)]
      rfl
theorem row_cells {E : Env} {w : World} {r : Sx.Loc} {o : Bool} {xs : List DV} (h : VRel E w r o [.int .i64] xs) : xs.length = r.len ∧ ∀ i, i < xs.length → w.cell? ⟨r.blk, r.off + i, none⟩ = some (iv (xs.getD i default)) := by
  refine ⟨by have := h.len; simpa using this, fun i hi => ?_⟩
  obtain ⟨v, h1, h2⟩ := h.cell i hi
  have : i % [LT.int .i64].length = 0 := Nat.mod_one i
  rw [this] at h2
  rw [h1]
  cases h2
  rfl

theorem k31 : FnOK Try.prog (fun _ => True) 0 31 s31 g31 := by
  intro ds ρ w _ hlen hneed _ _ _ hrel
  have hv : VRel (callEnv s31.hinI ρ w) w (ρ 0) false [.int .i64] (dget ds 0).toL := hrel.blk 0 _ rfl
  have hlim : (dget ds 0).toL.length ≤ 17592186044416 := of_decide_eq_true (hneed rfl)
  show Calls Try.prog 31 #[(ρ 0).slice] w _
  generalize hxs : (dget ds 0).toL = xs at *
  obtain ⟨hl, hc⟩ := row_cells hv
  have out : ∀ (v' : Value) (w' : World), w'.ownsRow w.heap.size 3 1 v' xs.length (xs.map iv) → Below w.heap.size w w' → ∃ v ρ', Ending.returned v' = .returned v ∧ CallOut s31 (g31 ds) ρ w v ρ' w' := by
    intro v' w' ho hb
    obtain ⟨r, hr, hvr, hbl⟩ := own_row (E := callEnv s31.hinI ρ w) ho
    refine ⟨v', fun j => if j = 1 then r else ρ j, rfl, ?_, V.good_s.2 (V1.good_one.2 (show True from trivial)), ⟨fun j bk hj => ?_, fun j j' bk bk' hj _ hj' hne _ _ => ?_⟩, fun j bk hj => ?_, (Fr.of_below hb), fun j hj _ => ?_⟩
    · rw [hr]; rfl
    · match j, hj with
      | 0, hj => cases hj
      | 1, hj =>
        cases hj
        show VRel _ w' r true [.int .i64] (r31_0 (dget ds 0).toL)
        rw [hxs]
        exact hvr
      | j + 2, hj => cases j <;> cases hj
    · match j, j', hj, hj' with
      | 0, _, hj, _ => cases hj
      | 1, 0, _, hj => cases hj
      | 1, 1, _, _ => exact absurd rfl hne
      | 1, j + 2, _, hj => cases j <;> cases hj
      | j + 2, _, hj, _ => cases j <;> cases hj
    · match j, hj with
      | 0, hj => cases hj
      | 1, hj =>
        rcases hbl with h | h
        · exact .inl h
        · exact .inr (.inl h)
      | j + 2, hj => cases j <;> cases hj
    · match j, hj with
      | 0, hj => cases hj
      | j + 1, hj => cases j <;> cases hj
  cases hn : (ρ 0).nil with
  | true =>
    have h0 := hv.nil hn
    have hx0 : xs = [] := List.eq_nil_of_length_eq_zero (by omega)
    cases hraw : (ρ 0).raw with
    | none =>
      have hs : (ρ 0).slice = .slice none 0 0 := by unfold Loc.slice; rw [hn, h0.1, h0.2, hraw]; rfl
      rw [hs]
      refine (Any.slices_Clone_int_nil laysClone 0 0 w).mono fun e w' ⟨he, hw⟩ => ?_
      subst he; subst hw
      refine out _ _ ⟨by simp, .inl ⟨rfl, by rw [hx0]; rfl⟩⟩ (Below.refl _ _)
    | some a =>
      have hs : (ρ 0).slice = .slice (some a) 0 0 := by unfold Loc.slice; rw [hn, h0.1, h0.2, hraw]; rfl
      rw [hs]
      refine (Any.slices_Clone_int_zero laysClone a 0 w).mono fun e w' ⟨v', he, ho, _, hb⟩ => ?_
      subst he
      refine out _ _ ?_ hb
      rw [hx0]; exact ho
  | false =>
    have hs : (ρ 0).slice = .slice (some ⟨(ρ 0).blk, (ρ 0).off, none⟩) (ρ 0).len (ρ 0).cap := by unfold Loc.slice; rw [hn]; rfl
    rw [hs]
    cases h0 : (ρ 0).len with
    | zero =>
      refine (Any.slices_Clone_int_zero laysClone ⟨(ρ 0).blk, (ρ 0).off, none⟩ (ρ 0).cap w).mono fun e w' ⟨v', he, ho, _, hb⟩ => ?_
      subst he
      have hx0 : xs = [] := List.eq_nil_of_length_eq_zero (by omega)
      refine out _ _ ?_ hb
      rw [hx0]; exact ho
    | succ n =>
      have hzl : (xs.map DV.toI).length = n + 1 := by rw [List.length_map, hl, h0]
      refine (Any.slices_Clone_int laysClone (ρ 0).blk (ρ 0).off (n + 1) (ρ 0).cap (xs.map DV.toI) w (by omega) (by omega) (fun j hj => ?_)).mono fun e w' ⟨v', he, ho, _, hb⟩ => ?_
      · rw [hc j (by simpa using hj)]
        have hj' : j < xs.length := by simpa using hj
        simp [List.getD_eq_getElem?_getD, List.getElem?_eq_getElem hj']
      · subst he
        refine out _ _ ?_ hb
        have e1 : ((xs.map DV.toI).take (n + 1)).map (Value.int .i64) = xs.map iv := by
          rw [List.take_of_length_le (by omega), List.map_map]; rfl
        rw [e1] at ho
        rw [show xs.length = n + 1 from by omega]
        exact ho
end Go.Proofs.Ytkpbkanbpjfadaa

namespace Go.Proofs.Ytkpbkanbpjfadaa
open Go Go.Sx Go.RowKit

theorem shape_of {w : World} {b o : Nat} (h : (w.cell? ⟨b, o, none⟩).isSome = true) : ∃ e k, w.shape? b = some (e, k) ∧ o < k := by
  unfold World.cell? at h
  cases hb : w.heap[b]? with
  | none => simp [hb] at h
  | some x =>
    cases x with
    | cells c e z =>
      refine ⟨e, c.size, by simp [World.shape?, hb], ?_⟩
      simp [hb] at h
      exact h
    | _ => simp [hb] at h

theorem mk_row {E : Env} {w' : World} {b o c : Nat} {y : DV} {xs : List DV} (hlt : b < w'.heap.size) (h0 : w'.cell? ⟨b, o, none⟩ = some (iv y)) (h1 : ∀ k, k < xs.length → w'.cell? ⟨b, o + 1 + k, none⟩ = some (iv (xs.getD k default)))
    (hc : xs.length + 1 ≤ c) (hm : c ≤ 9223372036854775807) (hr : ∀ i, i < c → (w'.cell? ⟨b, o + i, none⟩).isSome = true) (hf : ∀ i, w'.frozen? ⟨b, i, none⟩ = false) :
    VRel E w' ⟨b, o, false, xs.length + 1, c, none⟩ true [.int .i64] ([y] ++ xs) := by
  refine ⟨fun e => (by cases e), fun _ => hlt, by decide, by show ([y] ++ xs).length = (xs.length + 1) * 1; simp, hc, fun i hi => ?_, fun _ _ i hi => ⟨hr i (by simpa using hi), hf _⟩, fun _ _ => ⟨hm, hf⟩⟩
  have hmod : i % [LT.int .i64].length = 0 := Nat.mod_one i
  rw [hmod]
  refine ⟨iv (([y] ++ xs).getD i default), ?_, .int .i64 _⟩
  cases i with
  | zero => exact h0
  | succ k =>
    have hk : k < xs.length := by simpa using hi
    show w'.cell? ⟨b, o + (k + 1), none⟩ = _
    rw [show o + (k + 1) = o + 1 + k from by omega, h1 k hk]
    rfl

theorem fr_set {W : Nat → Prop} {w : World} {b o : Nat} {vs : List Value} (hb : W b) : Fr W w (w.setCells b o vs) :=
  ⟨(setCells_os b vs o w).1, (setCells_os b vs o w).2.1, (setCells_os b vs o w).2.2, by rw [setCells_size]; exact Nat.le_refl _, fun k _ hW => setCells_block b vs o w k fun e => hW (e ▸ hb)⟩
theorem fr_drew {W : Nat → Prop} {w : World} : Fr W w w.drew := ⟨rfl, rfl, rfl, Nat.le_refl _, fun _ _ _ => rfl⟩

theorem k30 : FnOK Try.prog (fun _ => True) 0 30 s30 g30 := by
  intro ds ρ w _ hlen hneed _ _ _ hrel
  have hv : VRel (callEnv s30.hinI ρ w) w (ρ 0) true [.int .i64] (dget ds 0).toL := hrel.blk 0 _ rfl
  have hu : VRel (callEnv s30.hinI ρ w) w (ρ 1) true [.int .i64] (dget ds 2).toL := hrel.blk 1 _ rfl
  have hp : p30 (dget ds 0).toL (dget ds 1).toI (dget ds 2).toL = true := hneed rfl
  unfold p30 at hp
  simp only [Bool.and_eq_true, decide_eq_true_eq] at hp
  obtain ⟨⟨hlim, hx1⟩, hy1⟩ := hp
  show Calls Try.prog 30 #[(ρ 0).slice, .int .i64 (dget ds 1).toI, (ρ 1).slice] w _
  rw [hx1]
  have hres : (g30 ds) = [.b true, .l ((dget ds 2).toL ++ (dget ds 0).toL)] := by
    show [DV.b (p30 (dget ds 0).toL (dget ds 1).toI (dget ds 2).toL), DV.l (r30_0 (dget ds 0).toL (dget ds 1).toI (dget ds 2).toL)] = _
    rw [show p30 (dget ds 0).toL (dget ds 1).toI (dget ds 2).toL = true from hneed rfl]
    rfl
  rw [hres]
  generalize hxs : (dget ds 0).toL = xs at *
  generalize hys : (dget ds 2).toL = ys at *
  obtain ⟨y, rfl⟩ : ∃ y, ys = [y] := by
    match ys, hy1 with
    | [y], _ => exact ⟨y, rfl⟩
  obtain ⟨hl, hc⟩ := row_cells hv
  obtain ⟨hl1, hc1⟩ := row_cells hu
  have hn1 : (ρ 1).nil = false := by
    cases h : (ρ 1).nil with
    | false => rfl
    | true => have := (hu.nil h).1; rw [this] at hl1; simp at hl1
  have hs1 : (ρ 1).slice = .slice (some ⟨(ρ 1).blk, (ρ 1).off, none⟩) 1 (ρ 1).cap := by
    unfold Loc.slice
    have : (ρ 1).len = 1 := by simpa using hl1.symm
    rw [hn1, this]; rfl
  have hW0 : (ρ 0).nil = false → (callEnv s30.hinI ρ w).W (ρ 0).blk := fun h => ⟨0, .v true [.int .i64] (.r 0), rfl, rfl, h, rfl⟩
  have out : ∀ (r : Sx.Loc) (w' : World), VRel (callEnv s30.hinI ρ w) w' r true [.int .i64] ([y] ++ xs) → (w.heap.size ≤ r.blk ∨ (callEnv s30.hinI ρ w).W r.blk) → Fr (callEnv s30.hinI ρ w).W w w' →
      ∃ v ρ', Ending.returned r.slice = .returned v ∧ CallOut s30 [.b true, .l ([y] ++ xs)] ρ w v ρ' w' := by
    intro r w' hvr hbl hfr
    refine ⟨r.slice, fun j => if j = 2 then r else ρ j, rfl, rfl, V.good_s.2 (V1.good_one.2 (show True from trivial)), ⟨fun j bk hj => ?_, fun j j' bk bk' hj _ hj' hne _ _ => ?_⟩, fun j bk hj => ?_, hfr, fun j hj _ => ?_⟩
    · match j, hj with
      | 0, hj => cases hj
      | 1, hj => cases hj
      | 2, hj => cases hj; exact hvr
      | j + 3, hj => cases j <;> cases hj
    · match j, j', hj, hj' with
      | 0, _, hj, _ => cases hj
      | 1, _, hj, _ => cases hj
      | 2, 0, _, hj => cases hj
      | 2, 1, _, hj => cases hj
      | 2, 2, _, _ => exact absurd rfl hne
      | 2, j + 3, _, hj => cases j <;> cases hj
      | j + 3, _, hj, _ => cases j <;> cases hj
    · match j, hj with
      | 0, hj => cases hj
      | 1, hj => cases hj
      | 2, hj =>
        rcases hbl with h | h
        · exact .inr (.inl h)
        · exact .inr (.inr (.inl h))
      | j + 3, hj => cases j <;> cases hj
    · match j, hj with
      | 0, hj => cases hj
      | 1, hj => cases hj
      | j + 2, hj => cases j <;> cases hj
  have hvs : ∀ (j : Nat) (v : Value), [iv y][j]? = some v → w.cell? ⟨(ρ 1).blk, (ρ 1).off + j, none⟩ = some v := fun j v hj => by
    cases j with
    | zero =>
      simp at hj
      subst hj
      exact hc1 0 (by simp)
    | succ j => simp at hj
  have h1v : ∀ v ∈ [iv y], v.oneCell' = true := fun v hv => by simp at hv; subst hv; rfl
  have hcs : ∀ (j : Nat) (v : Value), (xs.map iv)[j]? = some v → w.cell? ⟨(ρ 0).blk, (ρ 0).off + j, none⟩ = some v := fun j v hj => by
    rw [List.getElem?_map] at hj
    obtain ⟨d, hd, rfl⟩ := Option.map_eq_some_iff.1 hj
    have hjl := (List.getElem?_eq_some_iff.1 hd).1
    rw [hc j hjl]
    simp [List.getD_eq_getElem?_getD, hd]
  have h1c : ∀ v ∈ xs.map iv, v.oneCell' = true := fun v hv => by
    obtain ⟨d, _, rfl⟩ := List.mem_map.1 hv
    rfl
  have hgrow : ∀ (G : Nat) (tl : Array Value) (w' : World), xs.length + 1 ≤ G → G ≤ 9223372036854775807 → tl.size + xs.length + 1 = G → w'.heap[w.heap.size]? = some (.cells (([iv y] ++ xs.map iv).toArray ++ tl) 3 (0, 0)) → Fr (fun _ => False) w w' →
      ∃ v ρ', Ending.returned (Value.slice (some ⟨w.heap.size, 0, none⟩) (xs.length + 1) G) = .returned v ∧ CallOut s30 [.b true, .l ([y] ++ xs)] ρ w v ρ' w' := by
    intro G tl w' h1 h2 h3 h4 h5
    have hlt : w.heap.size < w'.heap.size := by
      rcases Nat.lt_or_ge w.heap.size w'.heap.size with h | h
      · exact h
      · rw [Array.getElem?_eq_none h] at h4; cases h4
    have hcell : ∀ i, w'.cell? ⟨w.heap.size, i, none⟩ = (([iv y] ++ xs.map iv).toArray ++ tl)[i]? := cell_of h4
    refine out ⟨w.heap.size, 0, false, xs.length + 1, G, none⟩ w' (mk_row hlt ?_ (fun k hk => ?_) h1 h2 (fun i hi => ?_) (fun i => by simp [World.frozen?, h4])) (.inl (Nat.le_refl _)) (h5.weaken fun b hb => hb.elim)
    · rw [hcell, Array.getElem?_append_left (by simp)]; simp
    · rw [hcell, Array.getElem?_append_left (by simp; omega)]
      simp [Nat.add_comm 1 k, List.getD_eq_getElem?_getD, hk]
    · rw [hcell, Array.getElem?_eq_getElem (by simp; omega)]
      rfl
  have hcl : (xs.map iv).length = (ρ 0).len := by rw [List.length_map, hl]
  by_cases hroom : (ρ 0).len + 1 ≤ (ρ 0).cap
  · have hn0 : (ρ 0).nil = false := by
      cases h : (ρ 0).nil with
      | false => rfl
      | true => have := hv.nil h; omega
    have hs0 : (ρ 0).slice = .slice (some ⟨(ρ 0).blk, (ρ 0).off, none⟩) (ρ 0).len (ρ 0).cap := by unfold Loc.slice; rw [hn0]; rfl
    rw [hs0, hs1]
    have hown : ∀ i, i < (ρ 0).cap → (w.cell? ⟨(ρ 0).blk, (ρ 0).off + i, none⟩).isSome = true ∧ w.frozen? ⟨(ρ 0).blk, (ρ 0).off + i, none⟩ = false := fun i hi => hv.own rfl hn0 i (by simpa using hi)
    obtain ⟨hm, hfz⟩ := hv.fz rfl hn0
    have hlt := hv.lt hn0
    by_cases h0 : (ρ 0).len = 0
    · have hx0 : xs = [] := List.eq_nil_of_length_eq_zero (by omega)
      have hrun := Any2.slices_Insert_int_end_room laysIns (ρ 0).blk (ρ 0).off (ρ 0).len (ρ 0).cap (ρ 1).blk (ρ 1).off 1 (ρ 1).cap [iv y] w (by decide) hroom hm rfl
        (fun j hj => by have := (hown ((ρ 0).len + j) (by omega)).1; rwa [← Nat.add_assoc] at this) (fun j hj => hfz _) hvs h1v
      have hz : ((ρ 0).len : Int) = 0 := by omega
      rw [hz] at hrun
      refine hrun.mono fun e w' ⟨he, hw⟩ => ?_
      subst he; subst hw
      have hsl : Value.slice (some ⟨(ρ 0).blk, (ρ 0).off, none⟩) ((ρ 0).len + 1) (ρ 0).cap = Sx.Loc.slice ⟨(ρ 0).blk, (ρ 0).off, false, xs.length + 1, (ρ 0).cap, none⟩ := by rw [hl]; rfl
      rw [hsl, h0, Nat.add_zero]
      have hin := World.cell?_setCells_in (ρ 0).blk [iv y] (ρ 0).off w (fun j hj => (hown j (by simp at hj; omega)).1) 0 (by simp)
      refine out _ _ (mk_row (by rw [setCells_size]; exact hlt) (by simpa using hin) (fun k hk => by rw [hx0] at hk; simp at hk) (by omega) hm (fun i hi => ?_) (fun i => by rw [World.frozen?_setCells]; exact hfz _)) (.inr (hW0 hn0)) (fr_set (hW0 hn0))
      exact isSome_setCells _ _ _ _ (fun t ht => (hown t (by simp at ht; omega)).1) _ (hown i hi).1
    · obtain ⟨tB, kB, hsb, hkb⟩ := shape_of (hown 0 (by omega)).1
      have hc10 := hc1 0 (by simp)
      obtain ⟨tA, kA, hsa, _⟩ := shape_of (w := w) (b := (ρ 1).blk) (o := (ρ 1).off + 0) (by rw [hc10]; rfl)
      have hap : (ρ 1).blk ≠ (ρ 0).blk := hrel.apart 1 0 (.v true [.int .i64] (.r 2)) (.v true [.int .i64] (.r 0)) rfl rfl rfl (by decide) hn1 hn0
      have hfz1 := (hu.fz rfl hn1).2
      have hrun := Any2.slices_Insert_int_shift laysIns (ρ 0).blk (ρ 0).off (ρ 0).len (ρ 0).cap 0 (ρ 1).blk (ρ 1).off 1 (ρ 1).cap (xs.map iv) [iv y] w (by omega) (by decide) hroom hm hap hcl rfl hcs
        (fun j hj => (hown j (by omega)).1) (fun j hj => hfz _) hvs h1c h1v tA tB kA kB hsa hsb (by omega) (hfz1 _) (hfz1 _)
      refine hrun.mono fun e w' ⟨he, hw⟩ => ?_
      subst he; subst hw
      have hsl : Value.slice (some ⟨(ρ 0).blk, (ρ 0).off, none⟩) ((ρ 0).len + 1) (ρ 0).cap = Sx.Loc.slice ⟨(ρ 0).blk, (ρ 0).off, false, xs.length + 1, (ρ 0).cap, none⟩ := by rw [hl]; rfl
      rw [hsl, List.drop_zero, Nat.add_zero, show (ρ 0).off + (0 + 1) = (ρ 0).off + 1 from rfl]
      have hex1 : ∀ j, j < (xs.map iv).length → (w.drew.cell? ⟨(ρ 0).blk, (ρ 0).off + 1 + j, none⟩).isSome = true := fun j hj => by
        have := (hown (1 + j) (by omega)).1
        rw [← Nat.add_assoc] at this
        exact this
      have hsome1 : ∀ i, i < (ρ 0).cap → ((w.drew.setCells (ρ 0).blk ((ρ 0).off + 1) (xs.map iv)).cell? ⟨(ρ 0).blk, (ρ 0).off + i, none⟩).isSome = true := fun i hi =>
        isSome_setCells _ _ _ _ hex1 _ (hown i hi).1
      have hin1 := World.cell?_setCells_in (ρ 0).blk (xs.map iv) ((ρ 0).off + 1) w.drew hex1
      have hin2 := World.cell?_setCells_in (ρ 0).blk [iv y] (ρ 0).off (w.drew.setCells (ρ 0).blk ((ρ 0).off + 1) (xs.map iv)) (fun j hj => hsome1 j (by simp at hj; omega)) 0 (by simp)
      refine out _ _ (mk_row (by rw [setCells_size, setCells_size]; exact hlt) (by simpa using hin2) (fun k hk => ?_) (by omega) hm (fun i hi => ?_) (fun i => by rw [World.frozen?_setCells, World.frozen?_setCells]; exact hfz _)) (.inr (hW0 hn0)) ((fr_drew.trans (fr_set (hW0 hn0))).trans (fr_set (hW0 hn0)))
      · rw [World.cell?_setCells_out _ _ _ _ _ (fun _ _ => .inr (by simp)), hin1 k (by simpa using hk)]
        simp [List.getD_eq_getElem?_getD, hk]
      · exact isSome_setCells _ _ _ _ (fun t ht => hsome1 t (by simp at ht; omega)) _ (hsome1 i hi)
  · have hcap : (ρ 0).len ≤ (ρ 0).cap := hv.cap
    have hge := grownCap_ge w ((ρ 0).len + 1) (ρ 0).cap 3
    have hle := grownCap_le_maxLen w ((ρ 0).len + 1) (ρ 0).cap 3 (by unfold maxLen; omega)
    unfold maxLen at hle
    by_cases h0 : (ρ 0).len = 0
    · have hx0 : xs = [] := List.eq_nil_of_length_eq_zero (by omega)
      have hs0 : (ρ 0).slice = .slice (if (ρ 0).nil then (ρ 0).raw else some ⟨(ρ 0).blk, (ρ 0).off, none⟩) (ρ 0).len (ρ 0).cap := by
        unfold Loc.slice
        cases (ρ 0).nil <;> rfl
      rw [hs0, hs1]
      have hrun := Any2.slices_Insert_int_end_grow laysIns (if (ρ 0).nil then (ρ 0).raw else some ⟨(ρ 0).blk, (ρ 0).off, none⟩) (ρ 0).len (ρ 0).cap (ρ 1).blk (ρ 1).off 1 (ρ 1).cap [] [iv y] w (by decide) hcap (by omega) (by omega) h0.symm rfl (fun _ => h0)
        (fun a _ j v hj => by simp at hj) hvs h1v
      have hz : ((ρ 0).len : Int) = 0 := by omega
      rw [hz] at hrun
      refine hrun.mono fun e w' ⟨he, hw⟩ => ?_
      subst he; subst hw
      rw [show insRen.t 3 = 3 from rfl]
      have hll : (ρ 0).len + 1 = xs.length + 1 := by omega
      rw [hll] at hge hle ⊢
      generalize hG : grownCap w (xs.length + 1) (ρ 0).cap 3 = G at *
      refine hgrow G (Builtin.zeroCells (Value.int .i64 0).cells (G - (xs.length + 1))) _ hge hle (by rw [size_zeroCells]; show (G - (xs.length + 1)) * 1 + xs.length + 1 = G; omega) ?_ ⟨rfl, rfl, rfl, by simp, fun k hk _ => Below.heap_alloc w.drew _ _ hk⟩
      rw [hx0]
      show (w.heap.push _)[w.heap.size]? = _
      simp
    · have hn0 : (ρ 0).nil = false := by
        cases h : (ρ 0).nil with
        | false => rfl
        | true => have := hv.nil h; omega
      have hs0 : (ρ 0).slice = .slice (some ⟨(ρ 0).blk, (ρ 0).off, none⟩) (ρ 0).len (ρ 0).cap := by unfold Loc.slice; rw [hn0]; rfl
      rw [hs0, hs1]
      have hrun := Any2.slices_Insert_int_grow laysIns (ρ 0).blk (ρ 0).off (ρ 0).len (ρ 0).cap 0 (ρ 1).blk (ρ 1).off 1 (ρ 1).cap (xs.map iv) [iv y] w (by omega) (by decide) hcap (by omega) (by omega) hcl rfl hcs hvs h1c h1v
      refine hrun.mono fun e w' ⟨he, hw⟩ => ?_
      subst he; subst hw
      rw [show insRen.t 3 = 3 from rfl]
      have hll : (ρ 0).len + 1 = xs.length + 1 := by omega
      rw [hll] at hge hle ⊢
      generalize hG : grownCap w (xs.length + 1) (ρ 0).cap 3 = G at *
      rw [List.drop_zero]
      generalize hROW : (((xs.map iv).take 0).toArray ++ Builtin.zeroCells (Value.int .i64 0).cells (xs.length + 1 - 0) ++ Builtin.zeroCells (Value.int .i64 0).cells (G - (xs.length + 1))) = ROW
      have hRs : ROW.size = G := by
        rw [← hROW, Array.size_append, Array.size_append, size_zeroCells, size_zeroCells]
        show 0 + (xs.length + 1 - 0) * 1 + (G - (xs.length + 1)) * 1 = G
        omega
      have hex0 : ∀ i, i < G → ((w.alloc (.cells ROW 3)).drew.cell? ⟨w.heap.size, i, none⟩).isSome = true := fun i hi => by
        show ((w.alloc (.cells ROW 3)).cell? ⟨w.heap.size, i, none⟩).isSome = true
        rw [World.cell?_alloc_new, Array.getElem?_eq_getElem (by omega)]
        rfl
      have hin1 := World.cell?_setCells_in w.heap.size [iv y] 0 (w.alloc (.cells ROW 3)).drew (fun j hj => by rw [Nat.zero_add]; exact hex0 j (by simp at hj; omega)) 0 (by simp)
      have hex1 : ∀ i, i < G → (((w.alloc (.cells ROW 3)).drew.setCells w.heap.size 0 [iv y]).drew.cell? ⟨w.heap.size, i, none⟩).isSome = true := fun i hi =>
        isSome_setCells w.heap.size [iv y] 0 (w.alloc (.cells ROW 3)).drew (fun t ht => by rw [Nat.zero_add]; exact hex0 t (by simp at ht; omega)) i (hex0 i hi)
      have hexs : ∀ j, j < (xs.map iv).length → (((w.alloc (.cells ROW 3)).drew.setCells w.heap.size 0 [iv y]).drew.cell? ⟨w.heap.size, 0 + 1 + j, none⟩).isSome = true := fun j hj => hex1 _ (by simp at hj; omega)
      have hin2 := World.cell?_setCells_in w.heap.size (xs.map iv) (0 + 1) ((w.alloc (.cells ROW 3)).drew.setCells w.heap.size 0 [iv y]).drew hexs
      have hfr : Fr (fun b => b = w.heap.size) w ((((w.alloc (.cells ROW 3)).drew.setCells w.heap.size 0 [iv y]).drew).setCells w.heap.size (0 + 1) (xs.map iv)) := by
        refine Fr.trans (Fr.trans (Fr.trans (Fr.trans (b := w.alloc (.cells ROW 3)) ?_ fr_drew) (fr_set rfl)) fr_drew) (fr_set rfl)
        exact ⟨rfl, rfl, rfl, by simp, fun k hk _ => Below.heap_alloc w _ _ hk⟩
      refine out ⟨w.heap.size, 0, false, xs.length + 1, G, none⟩ _ (mk_row ?_ ?_ (fun k hk => ?_) hge hle (fun i hi => ?_) (fun i => ?_)) (.inl (Nat.le_refl _)) ⟨hfr.os, hfr.tape, hfr.output, hfr.size, fun b hb _ => hfr.block b hb (by omega)⟩
      · rw [setCells_size]
        show w.heap.size < ((w.alloc (.cells ROW 3)).drew.setCells w.heap.size 0 [iv y]).heap.size
        rw [setCells_size]
        show w.heap.size < (w.alloc (.cells ROW 3)).heap.size
        simp
      · rw [World.cell?_setCells_out _ _ _ _ _ (fun _ _ => .inl (by simp))]
        simpa using hin1
      · rw [hin2 k (by simpa using hk)]
        simp [List.getD_eq_getElem?_getD, hk]
      · exact isSome_setCells _ _ _ _ hexs _ (hex1 (0 + i) (by omega))
      · rw [World.frozen?_setCells]
        show ((w.alloc (.cells ROW 3)).drew.setCells w.heap.size 0 [iv y]).frozen? _ = false
        rw [World.frozen?_setCells]
        exact World.frozen?_alloc_new w _ _ _
end Go.Proofs.Ytkpbkanbpjfadaa

namespace Go.Proofs.Ytkpbkanbpjfadaa
open Go Go.Sx
set_option maxRecDepth 100000
set_option maxHeartbeats 4000000
def WI (_ : World) : Prop := True
def gK : Nat := 0
theorem wiStable : Stable WI gK := fun _ _ _ _ h => h


noncomputable def FE : FEnv := fun f => match f with
  | 26 => g26
  | 28 => g28
  | 25 => g25
  | 23 => g23
  | 9 => g9
  | 14 => g14
  | 101600 => g101600
  | 16 => g16
  | 101100 => g101100
  | 101102 => g101102
  | 11 => g11
  | 31 => g31
  | 30 => g30
  | 21 => g21
  | 101900 => g101900
  | 19 => g19
  | 8 => g8
  | 100513 => g100513
  | 100502 => g100502
  | 100505 => g100505
  | 100509 => g100509
  | 100511 => g100511
  | 100507 => g100507
  | 100500 => g100500
  | 5 => g5
  | _ => fun _ => []



theorem k26 : FnOK Try.prog WI gK 26 s26 g26 :=
  fn_ok (F := FE) wiStable (⟨fun _ _ h => (by cases h), (fun _ _ h => (by cases h))⟩) Try.func26 ev26 (by kernel_rfl) (fun _ h => (by cases h)) fun ds h hp => match ds, h, hp with
    | [d0, d1, d2, d3, d4, d5], _, _ => ⟨by kernel_rfl, nrms_teq (by kernel_rfl) (by kernel_rfl) (by kernel_rfl)⟩
theorem k28 : FnOK Try.prog WI gK 28 s28 g28 :=
  fn_ok (F := FE) wiStable (⟨fun _ _ h => (by cases h), (fun _ _ h => (by cases h))⟩) Try.func28 ev28 (by kernel_rfl) (fun _ h => (by cases h)) fun ds h hp => match ds, h, hp with
    | [d0, d1, d2, d3, d4, d5], _, _ => ⟨by kernel_rfl, nrms_teq (by kernel_rfl) (by kernel_rfl) (by kernel_rfl)⟩
theorem k25 : FnOK Try.prog WI gK 25 s25 g25 :=
  fn_ok (F := FE) wiStable (⟨fun _ _ h => (by cases h), (fun _ _ h => (by cases h))⟩) Try.func25 ev25 (by kernel_rfl) (fun _ h => (by cases h)) fun ds h hp => match ds, h, hp with
    | [d0, d1, d2, d3, d4], _, _ => ⟨by kernel_rfl, nrms_teq (by kernel_rfl) (by kernel_rfl) (by kernel_rfl)⟩
theorem k23 : FnOK Try.prog WI gK 23 s23 g23 :=
  fn_ok (F := FE) wiStable (⟨fun _ _ h => (by cases h), (fun _ _ h => (by cases h))⟩) Try.func23 ev23 (by kernel_rfl) (fun _ h => (by cases h)) fun ds h hp => match ds, h, hp with
    | [d0, d1, d2, d3, d4], _, _ => ⟨by kernel_rfl, nrms_teq (by kernel_rfl) (by kernel_rfl) (by kernel_rfl)⟩
theorem k9 : FnOK Try.prog WI gK 9 s9 g9 :=
  fn_ok (F := FE) wiStable (⟨fun _ _ h => (by cases h), (fun _ _ h => (by cases h))⟩) Try.func9 ev9 (by kernel_rfl) (fun _ h => (by cases h)) fun ds h hp => match ds, h, hp with
    | [], _, hp => ⟨(by kernel_rfl : owesB (outEnv FE s9 o9 []) o9.owes = (dget (g9 []) 0).toB).trans (hp rfl), nrms_teq (by kernel_rfl) (by kernel_rfl) (by kernel_rfl)⟩
theorem k14 : FnOK Try.prog WI gK 14 s14 g14 :=
  fn_ok (F := FE) wiStable (⟨(fun f s h => assoc_all (Q := fun f s => FnOK Try.prog WI gK f s (FE f)) (l := S14.fs)
    (show ∀ p ∈ [(28, s28)], FnOK Try.prog WI gK p.1 p.2 (FE p.1) from
    List.forall_mem_cons.2 ⟨k28, fun _ h => (by cases h)⟩) h), (fun _ _ h => (by cases h))⟩) Try.func14 ev14 (by kernel_rfl) (fun _ h => (by cases h)) fun ds h hp => match ds, h, hp with
    | [d0, d1, d2, d3, d4, d5], _, hp => ⟨(by kernel_rfl : owesB (outEnv FE s14 o14 [d0, d1, d2, d3, d4, d5]) o14.owes = (dget (g14 [d0, d1, d2, d3, d4, d5]) 0).toB).trans (hp rfl), nrms_teq (by kernel_rfl) (by kernel_rfl) (by kernel_rfl)⟩
theorem hl16_0 : LoopSound FE l16_0 := loop_ok (w := W101600) (c := C101600) (nx := N101600) (out := T101600) [.i, .l, .l, .l, .l, .l, .i, .i, .l] (fun ds => by kernel_rfl) rfl (fun ν xs h => match xs, h with | [x0, x1, x2, x3, x4, x5], _ => by kernel_rfl)
  (fun ν xs h => match xs, h with | [x0, x1, x2, x3, x4, x5], _ => by kernel_rfl)
  (fun ν xs h => match xs, h with | [x0, x1, x2, x3, x4, x5], _ => by kernel_rfl)
  (fun ν xs h => match xs, h with | [x0, x1, x2, x3, x4, x5], _ => by kernel_rfl)
theorem hl16 : ∀ l ∈ o16.loops, LoopSound FE l := show ∀ l ∈ [l16_0], LoopSound FE l from
  List.forall_mem_cons.2 ⟨hl16_0, fun _ h => (by cases h)⟩
theorem k16 : FnOK Try.prog WI gK 16 s16 g16 :=
  fn_ok (F := FE) wiStable (⟨(fun f s h => assoc_all (Q := fun f s => FnOK Try.prog WI gK f s (FE f)) (l := S16.fs)
    (show ∀ p ∈ [(26, s26)], FnOK Try.prog WI gK p.1 p.2 (FE p.1) from
    List.forall_mem_cons.2 ⟨k26, fun _ h => (by cases h)⟩) h), (fun _ _ h => (by cases h))⟩) Try.func16 ev16 (by kernel_rfl) hl16 fun ds h hp => match ds, h, hp with
    | [d0, d1, d2, d3, d4, d5], _, hp => ⟨(by kernel_rfl : owesB (outEnv FE s16 o16 [d0, d1, d2, d3, d4, d5]) o16.owes = (dget (g16 [d0, d1, d2, d3, d4, d5]) 0).toB).trans (hp rfl), nrms_teq (by kernel_rfl) (by kernel_rfl) (by kernel_rfl)⟩
theorem hl11_0 : LoopSound FE l11_0 := loop_ok (w := W101102) (c := C101102) (nx := N101102) (out := T101102) [.i, .i, .i, .l, .i, .i, .i, .i] (fun ds => by kernel_rfl) rfl (fun ν xs h => match xs, h with | [x0, x1, x2, x3], _ => by kernel_rfl)
  (fun ν xs h => match xs, h with | [x0, x1, x2, x3], _ => by kernel_rfl)
  (fun ν xs h => match xs, h with | [x0, x1, x2, x3], _ => by kernel_rfl)
  (fun ν xs h => match xs, h with | [x0, x1, x2, x3], _ => by kernel_rfl)
theorem hl11_1 : LoopSound FE l11_1 := loop_ok (w := W101100) (c := C101100) (nx := N101100) (out := T101100) [.i, .l, .i, .l, .l, .i, .l, .l, .l, .l, .i, .l] (fun ds => by kernel_rfl) rfl (fun ν xs h => match xs, h with | [x0, x1, x2, x3, x4, x5, x6, x7], _ => by kernel_rfl)
  (fun ν xs h => match xs, h with | [x0, x1, x2, x3, x4, x5, x6, x7], _ => by kernel_rfl)
  (fun ν xs h => match xs, h with | [x0, x1, x2, x3, x4, x5, x6, x7], _ => by kernel_rfl)
  (fun ν xs h => match xs, h with | [x0, x1, x2, x3, x4, x5, x6, x7], _ => by kernel_rfl)
theorem hl11 : ∀ l ∈ o11.loops, LoopSound FE l := show ∀ l ∈ [l11_0, l11_1], LoopSound FE l from
  List.forall_mem_cons.2 ⟨hl11_0, List.forall_mem_cons.2 ⟨hl11_1, fun _ h => (by cases h)⟩⟩
theorem k11 : FnOK Try.prog WI gK 11 s11 g11 :=
  fn_ok (F := FE) wiStable (⟨(fun f s h => assoc_all (Q := fun f s => FnOK Try.prog WI gK f s (FE f)) (l := S11.fs)
    (show ∀ p ∈ [(26, s26)], FnOK Try.prog WI gK p.1 p.2 (FE p.1) from
    List.forall_mem_cons.2 ⟨k26, fun _ h => (by cases h)⟩) h), (fun _ _ h => (by cases h))⟩) Try.func11 ev11 (by kernel_rfl) hl11 fun ds h hp => match ds, h, hp with
    | [d0, d1, d2, d3, d4, d5], _, hp => ⟨(by kernel_rfl : owesB (outEnv FE s11 o11 [d0, d1, d2, d3, d4, d5]) o11.owes = (dget (g11 [d0, d1, d2, d3, d4, d5]) 0).toB).trans (hp rfl), nrms_teq (by kernel_rfl) (by kernel_rfl) (by kernel_rfl)⟩
theorem k21 : FnOK Try.prog WI gK 21 s21 g21 :=
  fn_ok (F := FE) wiStable (⟨(fun f s h => assoc_all (Q := fun f s => FnOK Try.prog WI gK f s (FE f)) (l := S21.fs)
    (show ∀ p ∈ [(31, s31)], FnOK Try.prog WI gK p.1 p.2 (FE p.1) from
    List.forall_mem_cons.2 ⟨k31, fun _ h => (by cases h)⟩) h), (fun _ _ h => (by cases h))⟩) Try.func21 ev21 (by kernel_rfl) (fun _ h => (by cases h)) fun ds h hp => match ds, h, hp with
    | [d0, d1, d2, d3, d4], _, hp => ⟨(by kernel_rfl : owesB (outEnv FE s21 o21 [d0, d1, d2, d3, d4]) o21.owes = (dget (g21 [d0, d1, d2, d3, d4]) 0).toB).trans (hp rfl), nrms_teq (by kernel_rfl) (by kernel_rfl) (by kernel_rfl)⟩
theorem hl19_0 : LoopSound FE l19_0 := loop_ok (w := W101900) (c := C101900) (nx := N101900) (out := T101900) [.i, .i, .l, .l, .i, .l, .l, .l, .i] (fun ds => by kernel_rfl) rfl (fun ν xs h => match xs, h with | [x0, x1, x2, x3, x4], _ => by kernel_rfl)
  (fun ν xs h => match xs, h with | [x0, x1, x2, x3, x4], _ => by kernel_rfl)
  (fun ν xs h => match xs, h with | [x0, x1, x2, x3, x4], _ => by kernel_rfl)
  (fun ν xs h => match xs, h with | [x0, x1, x2, x3, x4], _ => by kernel_rfl)
theorem hl19 : ∀ l ∈ o19.loops, LoopSound FE l := show ∀ l ∈ [l19_0], LoopSound FE l from
  List.forall_mem_cons.2 ⟨hl19_0, fun _ h => (by cases h)⟩
theorem k19 : FnOK Try.prog WI gK 19 s19 g19 :=
  fn_ok (F := FE) wiStable (⟨(fun f s h => assoc_all (Q := fun f s => FnOK Try.prog WI gK f s (FE f)) (l := S19.fs)
    (show ∀ p ∈ [(28, s28), (26, s26), (31, s31), (30, s30)], FnOK Try.prog WI gK p.1 p.2 (FE p.1) from
    List.forall_mem_cons.2 ⟨k28, List.forall_mem_cons.2 ⟨k26, List.forall_mem_cons.2 ⟨k31, List.forall_mem_cons.2 ⟨k30, fun _ h => (by cases h)⟩⟩⟩⟩) h), (fun _ _ h => (by cases h))⟩) Try.func19 ev19 (by kernel_rfl) hl19 fun ds h hp => match ds, h, hp with
    | [d0, d1, d2, d3, d4, d5], _, hp => ⟨(by kernel_rfl : owesB (outEnv FE s19 o19 [d0, d1, d2, d3, d4, d5]) o19.owes = (dget (g19 [d0, d1, d2, d3, d4, d5]) 0).toB).trans (hp rfl), nrms_teq (by kernel_rfl) (by kernel_rfl) (by kernel_rfl)⟩
theorem k8 : FnOK Try.prog WI gK 8 s8 g8 :=
  fn_ok (F := FE) wiStable (⟨(fun f s h => assoc_all (Q := fun f s => FnOK Try.prog WI gK f s (FE f)) (l := S8.fs)
    (show ∀ p ∈ [(9, s9), (11, s11), (23, s23), (14, s14), (16, s16), (21, s21), (19, s19), (25, s25)], FnOK Try.prog WI gK p.1 p.2 (FE p.1) from
    List.forall_mem_cons.2 ⟨k9, List.forall_mem_cons.2 ⟨k11, List.forall_mem_cons.2 ⟨k23, List.forall_mem_cons.2 ⟨k14, List.forall_mem_cons.2 ⟨k16, List.forall_mem_cons.2 ⟨k21, List.forall_mem_cons.2 ⟨k19, List.forall_mem_cons.2 ⟨k25, fun _ h => (by cases h)⟩⟩⟩⟩⟩⟩⟩⟩) h), (fun _ _ h => (by cases h))⟩) Try.func8 ev8 (by kernel_rfl) (fun _ h => (by cases h)) fun ds h hp => match ds, h, hp with
    | [], _, hp => ⟨(by kernel_rfl : owesB (outEnv FE s8 o8 []) o8.owes = (dget (g8 []) 0).toB).trans (hp rfl), nrms_teq (by kernel_rfl) (by kernel_rfl) (by kernel_rfl)⟩
theorem hl5_0 : LoopSound FE l5_0 := loop_ok (w := W100500) (c := C100500) (nx := N100500) (out := T100500) [.i, .l, .l] (fun ds => by kernel_rfl) rfl (fun ν xs h => match xs, h with | [x0, x1, x2], _ => by kernel_rfl)
  (fun ν xs h => match xs, h with | [x0, x1, x2], _ => by kernel_rfl)
  (fun ν xs h => match xs, h with | [x0, x1, x2], _ => by kernel_rfl)
  (fun ν xs h => match xs, h with | [x0, x1, x2], _ => by kernel_rfl)
theorem hl5_1 : LoopSound FE l5_1 := loop_ok (w := W100507) (c := C100507) (nx := N100507) (out := T100507) [.l, .l, .i, .l, .l, .b, .i] (fun ds => by kernel_rfl) rfl (fun ν xs h => match xs, h with | [x0, x1], _ => by kernel_rfl)
  (fun ν xs h => match xs, h with | [x0, x1], _ => by kernel_rfl)
  (fun ν xs h => match xs, h with | [x0, x1], _ => by kernel_rfl)
  (fun ν xs h => match xs, h with | [x0, x1], _ => by kernel_rfl)
theorem hl5_2 : LoopSound FE l5_2 := loop_ok (w := W100511) (c := C100511) (nx := N100511) (out := T100511) [.l, .i, .l, .i, .b, .i] (fun ds => by kernel_rfl) rfl (fun ν xs h => match xs, h with | [x0, x1], _ => by kernel_rfl)
  (fun ν xs h => match xs, h with | [x0, x1], _ => by kernel_rfl)
  (fun ν xs h => match xs, h with | [x0, x1], _ => by kernel_rfl)
  (fun ν xs h => match xs, h with | [x0, x1], _ => by kernel_rfl)
theorem hl5_3 : LoopSound FE l5_3 := loop_ok (w := W100509) (c := C100509) (nx := N100509) (out := T100509) [.l, .l, .i, .b, .i] (fun ds => by kernel_rfl) rfl (fun ν xs h => match xs, h with | [x0, x1], _ => by kernel_rfl)
  (fun ν xs h => match xs, h with | [x0, x1], _ => by kernel_rfl)
  (fun ν xs h => match xs, h with | [x0, x1], _ => by kernel_rfl)
  (fun ν xs h => match xs, h with | [x0, x1], _ => by kernel_rfl)
theorem hl5_4 : LoopSound FE l5_4 := loop_ok (w := W100505) (c := C100505) (nx := N100505) (out := T100505) [.l, .l, .l, .b, .l, .l, .i, .i, .l, .l, .l, .l] (fun ds => by kernel_rfl) rfl (fun ν xs h => match xs, h with | [x0, x1, x2, x3, x4, x5, x6, x7, x8], _ => by kernel_rfl)
  (fun ν xs h => match xs, h with | [x0, x1, x2, x3, x4, x5, x6, x7, x8], _ => by kernel_rfl)
  (fun ν xs h => match xs, h with | [x0, x1, x2, x3, x4, x5, x6, x7, x8], _ => by kernel_rfl)
  (fun ν xs h => match xs, h with | [x0, x1, x2, x3, x4, x5, x6, x7, x8], _ => by kernel_rfl)
theorem hl5_5 : LoopSound FE l5_5 := loop_ok (w := W100502) (c := C100502) (nx := N100502) (out := T100502) [.l, .b, .l, .l, .i, .i, .l, .l, .l, .i, .i, .l, .l, .l, .l, .l] (fun ds => by kernel_rfl) rfl (fun ν xs h => match xs, h with | [x0, x1, x2, x3, x4, x5, x6, x7, x8, x9, x10, x11, x12, x13, x14], _ => by kernel_rfl)
  (fun ν xs h => match xs, h with | [x0, x1, x2, x3, x4, x5, x6, x7, x8, x9, x10, x11, x12, x13, x14], _ => by kernel_rfl)
  (fun ν xs h => match xs, h with | [x0, x1, x2, x3, x4, x5, x6, x7, x8, x9, x10, x11, x12, x13, x14], _ => by kernel_rfl)
  (fun ν xs h => match xs, h with | [x0, x1, x2, x3, x4, x5, x6, x7, x8, x9, x10, x11, x12, x13, x14], _ => by kernel_rfl)
theorem hl5_6 : LoopSound FE l5_6 := loop_ok (w := W100513) (c := C100513) (nx := N100513) (out := T100513) [.l, .l, .l, .b, .i] (fun ds => by kernel_rfl) rfl (fun ν xs h => match xs, h with | [x0, x1], _ => by kernel_rfl)
  (fun ν xs h => match xs, h with | [x0, x1], _ => by kernel_rfl)
  (fun ν xs h => match xs, h with | [x0, x1], _ => by kernel_rfl)
  (fun ν xs h => match xs, h with | [x0, x1], _ => by kernel_rfl)
theorem hl5 : ∀ l ∈ o5.loops, LoopSound FE l := show ∀ l ∈ [l5_0, l5_1, l5_2, l5_3, l5_4, l5_5, l5_6], LoopSound FE l from
  List.forall_mem_cons.2 ⟨hl5_0, List.forall_mem_cons.2 ⟨hl5_1, List.forall_mem_cons.2 ⟨hl5_2, List.forall_mem_cons.2 ⟨hl5_3, List.forall_mem_cons.2 ⟨hl5_4, List.forall_mem_cons.2 ⟨hl5_5, List.forall_mem_cons.2 ⟨hl5_6, fun _ h => (by cases h)⟩⟩⟩⟩⟩⟩⟩
theorem k5 : FnOK Try.prog WI gK 5 s5 g5 :=
  fn_ok (F := FE) wiStable (⟨(fun f s h => assoc_all (Q := fun f s => FnOK Try.prog WI gK f s (FE f)) (l := S5.fs)
    (show ∀ p ∈ [(8, s8), (9, s9), (23, s23), (11, s11), (14, s14), (16, s16), (19, s19)], FnOK Try.prog WI gK p.1 p.2 (FE p.1) from
    List.forall_mem_cons.2 ⟨k8, List.forall_mem_cons.2 ⟨k9, List.forall_mem_cons.2 ⟨k23, List.forall_mem_cons.2 ⟨k11, List.forall_mem_cons.2 ⟨k14, List.forall_mem_cons.2 ⟨k16, List.forall_mem_cons.2 ⟨k19, fun _ h => (by cases h)⟩⟩⟩⟩⟩⟩⟩) h), (fun _ _ h => (by cases h))⟩) Try.func5 ev5 (by kernel_rfl) hl5 fun ds h hp => match ds, h, hp with
    | [d0], _, hp => ⟨(by kernel_rfl : owesB (outEnv FE s5 o5 [d0]) o5.owes = (dget (g5 [d0]) 0).toB).trans (hp rfl), nrms_teq (by kernel_rfl) (by kernel_rfl) (by kernel_rfl)⟩


end Go.Proofs.Ytkpbkanbpjfadaa

namespace Go.Sx
open Go Go.ChangeShapes Go.WideShapes Go.RowKit

inductive Sh where
  | one (t : LT)
  | agg (l : List LT)
  deriving Inhabited
def Sh.lts : Sh → List LT
  | .one t => [t]
  | .agg l => l
def nIn (ss : List Sh) : Nat := (ss.map fun s => s.lts.length).sum
def LT.conc (t : LT) (d : DV) : Value :=
  match t with
  | .int k => .int k d.toI
  | .bool => .bool d.toB
  | .vec _ => .bool false
def leafVals (g : Nat → DV) : Nat → List LT → List Value
  | _, [] => []
  | j, t :: ts => t.conc (g j) :: leafVals g (j + 1) ts
def argVals (g : Nat → DV) : Nat → List Sh → List Value
  | _, [] => []
  | j, .one t :: ss => t.conc (g j) :: argVals g (j + 1) ss
  | j, .agg ts :: ss => .agg (leafVals g j ts).toArray :: argVals g (j + ts.length) ss
def LT.pat (j : Nat) : LT → Lf
  | .int k => .i k (.h j)
  | .bool => .b (.h j)
  | .vec _ => .b (.t false)
def patLeaves : Nat → List LT → List Lf
  | _, [] => []
  | j, t :: ts => t.pat j :: patLeaves (j + 1) ts
def patShapes : Nat → List Sh → List V
  | _, [] => []
  | j, .one t :: ss => .s (.one (t.pat j)) :: patShapes (j + 1) ss
  | j, .agg ts :: ss => .s (.agg (patLeaves j ts)) :: patShapes (j + ts.length) ss

theorem idsFrom_getD : ∀ (k n j : Nat), j < k → (idsFrom n k).getD j default = .r (n + j)
  | 0, _, _, h => by omega
  | k + 1, n, 0, _ => rfl
  | k + 1, n, j + 1, h => by
    have := idsFrom_getD k (n + 1) j (by omega)
    simp only [idsFrom, List.getD_cons_succ, this]
    congr 1
    omega
theorem pat_conc {n : Nat} (g : Nat → DV) (ρ : Nat → Loc) {t : LT} {j : Nat} (h : j < n) : ((t.pat j).inst (idsFrom 0 n)).conc g ρ = t.conc (g j) ∧ ((t.pat j).inst (idsFrom 0 n)).good g := by
  have e : (A.h j).inst (idsFrom 0 n) = .r j := by
    have := idsFrom_getD n 0 j h
    simpa [A.inst] using this
  cases t with
  | int k => exact ⟨by simp only [LT.pat, Lf.inst, e]; rfl, trivial⟩
  | bool => exact ⟨by simp only [LT.pat, Lf.inst, e]; rfl, trivial⟩
  | vec ts => exact ⟨rfl, trivial⟩
theorem patLeaves_conc {n : Nat} (g : Nat → DV) (ρ : Nat → Loc) : ∀ (ts : List LT) (j : Nat), j + ts.length ≤ n → ((patLeaves j ts).map (Lf.inst (idsFrom 0 n))).map (Lf.conc g ρ) = leafVals g j ts ∧ ∀ x ∈ (patLeaves j ts).map (Lf.inst (idsFrom 0 n)), Lf.good g x
  | [], j, _ => ⟨rfl, fun x hx => by cases hx⟩
  | t :: ts, j, h => by
    simp only [List.length_cons] at h
    obtain ⟨h1, h2⟩ := patLeaves_conc (n := n) g ρ ts (j + 1) (by omega)
    obtain ⟨h3, h4⟩ := pat_conc g ρ (t := t) (show j < n by omega)
    refine ⟨by simp only [patLeaves, List.map_cons, leafVals, h1, h3], fun x hx => ?_⟩
    simp only [patLeaves, List.map_cons] at hx
    rcases List.mem_cons.1 hx with rfl | hx
    · exact h4
    · exact h2 x hx
def flatFs (P : Program) (rec : TypeId → Option (List LT)) : Nat → List Field → Option (List LT)
  | _, [] => some []
  | o, f :: fs =>
    if Nat.beq f.offset o then
      match rec f.type with
      | none => none
      | some l =>
        if Nat.beq l.length (P.cellsOf f.type) then
          match flatFs P rec (o + l.length) fs with
          | none => none
          | some r => some (l ++ r)
        else none
    else none
def flatT (P : Program) : Nat → TypeId → Option (List LT)
  | 0, _ => none
  | d + 1, t =>
    match P.underlying t with
    | some .bool => some [.bool]
    | some (.int k) => some [.int k]
    | some (.array n e) =>
      match flatT P d e with
      | none => none
      | some l => if Nat.beq l.length (P.cellsOf e) && Nat.beq (P.cellsOf t) (n * l.length) then some (List.replicate n l).flatten else none
    | some (.struct fs) =>
      match flatFs P (flatT P d) 0 fs.toList with
      | none => none
      | some l => if Nat.beq l.length (P.cellsOf t) then some l else none
    | _ => none
def shapeOf (P : Program) (t : TypeId) : Option Sh :=
  match P.underlying t with
  | some .bool => some (.one .bool)
  | some (.int k) => some (.one (.int k))
  | some (.array _ _) => (flatT P 20 t).map .agg
  | some (.struct _) => (flatT P 20 t).map .agg
  | _ => none
def LeafOk : LT → Value → Prop
  | .int k, .int k' n => k' = k ∧ (Lit.int k n).wf = true
  | .bool, .bool _ => True
  | _, _ => False
def Leaves : List LT → List Value → Prop
  | [], [] => True
  | t :: ts, v :: vs => LeafOk t v ∧ Leaves ts vs
  | _, _ => False
theorem Leaves.len : ∀ {ts : List LT} {vs : List Value}, Leaves ts vs → vs.length = ts.length
  | [], [], _ => rfl
  | _ :: _, _ :: _, h => by simp [Leaves.len h.2]
  | [], _ :: _, h => h.elim
  | _ :: _, [], h => h.elim
theorem Leaves.append : ∀ {a b : List LT} {c d : List Value}, Leaves a c → Leaves b d → Leaves (a ++ b) (c ++ d)
  | [], _, [], _, _, h => h
  | _ :: _, _, _ :: _, _, h, h' => ⟨h.1, Leaves.append h.2 h'⟩
  | [], _, _ :: _, _, h, _ => h.elim
  | _ :: _, _, [], _, h, _ => h.elim

theorem mapM_carry {α β γ : Type} {f g : α → Option (β × List γ)} : ∀ {l : List α} {xs : List (β × List γ)}, l.mapM f = some xs →
    (∀ a ∈ l, ∀ y, f a = some y → g a = some y ∧ y.2 = []) → l.mapM g = some xs ∧ xs.flatMap (·.2) = [] ∧ ∀ a ∈ l, ∃ y, f a = some y
  | [], xs, h, _ => by
    simp at h
    subst h
    exact ⟨by simp, rfl, fun a ha => by cases ha⟩
  | a :: l, xs, h, hc => by
    simp only [List.mapM_cons, Option.bind_eq_bind, Option.bind_eq_some_iff, Option.pure_def, Option.some.injEq] at h
    obtain ⟨y, hy, ys, hys, rfl⟩ := h
    obtain ⟨h1, h2⟩ := hc a (by simp) y hy
    obtain ⟨h3, h4, h5⟩ := mapM_carry hys (fun b hb => hc b (List.mem_cons_of_mem _ hb))
    refine ⟨by simp [List.mapM_cons, h1, h3], by simp only [List.flatMap_cons, h2, h4, List.nil_append], fun b hb => ?_⟩
    rcases List.mem_cons.1 hb with rfl | hb
    · exact ⟨y, hy⟩
    · exact h5 b hb

theorem leaves_rows {l : List LT} {c : Nat} (hl : l.length = c) : ∀ {n : Nat} {cs : List Value}, cs.length = n * c → (∀ i, i < n → Leaves l ((cs.drop (i * c)).take c)) → Leaves (List.replicate n l).flatten cs
  | 0, cs, h, _ => by
    have : cs = [] := List.eq_nil_of_length_eq_zero (by simpa using h)
    subst this
    trivial
  | n + 1, cs, h, hp => by
    have h0 := hp 0 (by omega)
    simp only [Nat.zero_mul, List.drop_zero] at h0
    have h1 := leaves_rows hl (n := n) (cs := cs.drop c) (by rw [List.length_drop, h, Nat.succ_mul]; omega) (fun i hi => by
      have := hp (i + 1) (by omega)
      rw [List.drop_drop]
      rwa [show c + i * c = (i + 1) * c from by rw [Nat.succ_mul]; omega])
    have := Leaves.append h0 h1
    rw [List.take_append_drop] at this
    simpa [List.replicate_succ] using this

section
variable {H : Type} {enc : TypeId × Value → H} {P : Program}

def TrodOk (enc : TypeId × Value → H) (P : Program) (fuel : Nat) (t : TypeId) (lts : List LT) : Prop :=
  ∀ (w : World) (base : Nat) (sp : Nat → Bool) (held : Bool) (cs : List Value) (x : DataW H) (ps : List MemPlace), DataW.trod enc P w base sp held fuel t cs = some (x, ps) →
    Leaves lts cs ∧ ps = [] ∧ ∀ (w' : World) (base' : Nat) (sp' : Nat → Bool) (held' : Bool), DataW.trod enc P w' base' sp' held' fuel t cs = some (x, [])

theorem leaves_fields {rec : TypeId → Option (List LT)} {cs : List Value} : ∀ {fs : List Field} {o : Nat} {l : List LT}, flatFs P rec o fs = some l → cs.length = o + l.length →
    (∀ f ∈ fs, ∀ r, rec f.type = some r → Leaves r ((cs.drop f.offset).take (P.cellsOf f.type))) → Leaves l (cs.drop o)
  | [], o, l, h, hlen, _ => by
    simp [flatFs] at h
    subst h
    rw [List.drop_of_length_le (by simpa using Nat.le_of_eq hlen)]
    trivial
  | f :: fs, o, l, h, hlen, hp => by
    simp only [flatFs] at h
    split at h
    · rename_i ho
      have ho := Nat.eq_of_beq_eq_true ho
      split at h
      · cases h
      · rename_i r hr
        split at h
        · rename_i hc
          have hc := Nat.eq_of_beq_eq_true hc
          split at h
          · cases h
          · rename_i r' hr'
            cases h
            have h0 := hp f (by simp) r hr
            have h1 := leaves_fields hr' (by simp at hlen; omega) (fun g hg => hp g (List.mem_cons_of_mem _ hg))
            rw [ho, ← hc] at h0
            have h2 := Leaves.append h0 h1
            rw [← List.drop_drop, List.take_append_drop] at h2
            exact h2
        · cases h
    · cases h

theorem trod_flat : ∀ (d : Nat) {t : TypeId} {lts : List LT}, flatT P d t = some lts → ∀ fuel, TrodOk enc P fuel t lts
  | 0, _, _, h, _ => by cases h
  | d + 1, t, lts, h, fuel => by
    intro w base sp held cs x ps hx
    cases fuel with
    | zero => simp [DataW.trod] at hx
    | succ fuel =>
      simp only [flatT] at h
      split at h
      · rename_i hu
        cases h
        obtain ⟨b, rfl, he⟩ := DataW.trod_bool hu hx
        cases he
        exact ⟨⟨trivial, trivial⟩, rfl, fun _ _ _ _ => by simp [DataW.trod, hu]⟩
      · rename_i k hu
        cases h
        obtain ⟨n, rfl, he, hw⟩ := DataW.trod_int hu hx
        cases he
        exact ⟨⟨⟨rfl, hw⟩, trivial⟩, rfl, fun _ _ _ _ => by simp [DataW.trod, hu, hw]⟩
      · rename_i n e hu
        split at h
        · cases h
        · rename_i l hl
          split at h
          · rename_i hc
            cases h
            simp only [Bool.and_eq_true] at hc
            have hc1 := Nat.eq_of_beq_eq_true hc.1
            have hc2 := Nat.eq_of_beq_eq_true hc.2
            simp only [DataW.trod, hu] at hx
            split at hx
            · rename_i hlen
              obtain ⟨xs, hxs, he⟩ := Option.map_eq_some_iff.1 hx
              cases he
              have ih := trod_flat d hl fuel
              have hall := fun w' base' sp' held' => mapM_carry (g := fun i => DataW.trod enc P w' base' sp' held' fuel e ((cs.drop (i * P.cellsOf e)).take (P.cellsOf e))) hxs
                (fun i _ y hy => by
                  have := ih _ _ _ _ _ y.1 y.2 hy
                  exact ⟨by rw [this.2.2 w' base' sp' held', ← this.2.1], this.2.1⟩)
              refine ⟨leaves_rows hc1 (by rw [hlen, hc2, hc1]) (fun i hi => ?_), (hall w base sp held).2.1, fun w' base' sp' held' => ?_⟩
              · obtain ⟨y, hy⟩ := (hall w base sp held).2.2 i (List.mem_range.2 hi)
                exact (ih _ _ _ _ _ y.1 y.2 hy).1
              · obtain ⟨h1, h2, _⟩ := hall w' base' sp' held'
                simp only [DataW.trod, hu]
                rw [if_pos hlen, h1, Option.map_some, h2]
            · cases hx
          · cases h
      · rename_i fs hu
        split at h
        · cases h
        · rename_i l hl
          split at h
          · rename_i hc
            cases h
            have hc1 := Nat.eq_of_beq_eq_true hc
            simp only [DataW.trod, hu] at hx
            split at hx
            · rename_i hlen
              obtain ⟨xs, hxs, he⟩ := Option.map_eq_some_iff.1 hx
              cases he
              -- each field's type has leaves
              have hfl : ∀ {gs : List Field} {o : Nat} {r : List LT}, flatFs P (flatT P d) o gs = some r → ∀ f ∈ gs, ∃ r', flatT P d f.type = some r' := by
                intro gs
                induction gs with
                | nil => intro o r _ f hf; cases hf
                | cons g gs ih =>
                  intro o r hr f hf
                  simp only [flatFs] at hr
                  split at hr
                  · split at hr
                    · cases hr
                    · rename_i r1 hr1
                      split at hr
                      · split at hr
                        · cases hr
                        · rename_i r2 hr2
                          rcases List.mem_cons.1 hf with rfl | hf
                          · exact ⟨r1, hr1⟩
                          · exact ih hr2 f hf
                      · cases hr
                  · cases hr
              have hall := fun w' base' sp' held' => mapM_carry (g := fun f : Field => DataW.trod enc P w' base' sp' held' fuel f.type ((cs.drop f.offset).take (P.cellsOf f.type))) hxs
                (fun f hf y hy => by
                  obtain ⟨r', hr'⟩ := hfl hl f hf
                  have := trod_flat d hr' fuel _ _ _ _ _ y.1 y.2 hy
                  exact ⟨by rw [this.2.2 w' base' sp' held', ← this.2.1], this.2.1⟩)
              refine ⟨?_, (hall w base sp held).2.1, fun w' base' sp' held' => ?_⟩
              · have := leaves_fields (P := P) (cs := cs) hl (by rw [hlen, hc1]; omega) (fun f hf r hr => by
                  obtain ⟨y, hy⟩ := (hall w base sp held).2.2 f hf
                  exact (trod_flat d hr fuel _ _ _ _ _ y.1 y.2 hy).1)
                simpa using this
              · obtain ⟨h1, h2, _⟩ := hall w' base' sp' held'
                simp only [DataW.trod, hu]
                rw [if_pos hlen, h1, Option.map_some, h2]
            · cases hx
          · cases h
      · cases h

def RangeOk : List LT → List DV → Prop
  | [], [] => True
  | .int k :: ts, .i n :: ds => (Lit.int k n).wf = true ∧ RangeOk ts ds
  | .bool :: ts, .b _ :: ds => True ∧ RangeOk ts ds
  | _, _ => False
theorem RangeOk.len : ∀ {ts : List LT} {ds : List DV}, RangeOk ts ds → ds.length = ts.length
  | [], [], _ => rfl
  | .int _ :: _, .i _ :: _, h => by simp [RangeOk.len h.2]
  | .bool :: _, .b _ :: _, h => by simp [RangeOk.len h.2]
  | [], _ :: _, h => h.elim
  | .int _ :: _, [], h => h.elim
  | .bool :: _, [], h => h.elim
  | .int _ :: _, .b _ :: _, h => h.elim
  | .bool :: _, .i _ :: _, h => h.elim
  | .int _ :: _, .l _ :: _, h => h.elim
  | .bool :: _, .l _ :: _, h => h.elim
  | .vec _ :: _, [], h => h.elim
  | .vec _ :: _, _ :: _, h => h.elim
theorem RangeOk.append : ∀ {a b : List LT} {c d : List DV}, RangeOk a c → RangeOk b d → RangeOk (a ++ b) (c ++ d)
  | [], _, [], _, _, h => h
  | .int _ :: _, _, .i _ :: _, _, h, h' => ⟨h.1, RangeOk.append h.2 h'⟩
  | .bool :: _, _, .b _ :: _, _, h, h' => ⟨trivial, RangeOk.append h.2 h'⟩
  | [], _, _ :: _, _, h, _ => h.elim
  | .int _ :: _, _, [], _, h, _ => h.elim
  | .bool :: _, _, [], _, h, _ => h.elim
  | .int _ :: _, _, .b _ :: _, _, h, _ => h.elim
  | .bool :: _, _, .i _ :: _, _, h, _ => h.elim
  | .int _ :: _, _, .l _ :: _, _, h, _ => h.elim
  | .bool :: _, _, .l _ :: _, _, h, _ => h.elim
  | .vec _ :: _, _, [], _, h, _ => h.elim
  | .vec _ :: _, _, _ :: _, _, h, _ => h.elim

theorem dget_pre (pre : List DV) (d : DV) (post : List DV) : dget (pre ++ d :: post) pre.length = d := by
  simp [dget, List.getD_eq_getElem?_getD]

theorem leaves_vals : ∀ {ts : List LT} {vs : List Value}, Leaves ts vs → ∃ ds, RangeOk ts ds ∧ ∀ pre post : List DV, leafVals (dget (pre ++ ds ++ post)) pre.length ts = vs
  | [], [], _ => ⟨[], trivial, fun _ _ => rfl⟩
  | .int k :: ts, .int k' n :: vs, h => by
    obtain ⟨ds, h1, h2⟩ := leaves_vals h.2
    obtain ⟨⟨rfl, hw⟩, _⟩ := h
    refine ⟨.i n :: ds, ⟨hw, h1⟩, fun pre post => ?_⟩
    have := h2 (pre ++ [.i n]) post
    simp only [leafVals, List.append_assoc, List.cons_append, List.nil_append, List.length_append, List.length_cons, List.length_nil, Nat.zero_add] at this ⊢
    rw [this, dget_pre]
    rfl
  | .bool :: ts, .bool b :: vs, h => by
    obtain ⟨ds, h1, h2⟩ := leaves_vals h.2
    refine ⟨.b b :: ds, ⟨trivial, h1⟩, fun pre post => ?_⟩
    have := h2 (pre ++ [.b b]) post
    simp only [leafVals, List.append_assoc, List.cons_append, List.nil_append, List.length_append, List.length_cons, List.length_nil, Nat.zero_add] at this ⊢
    rw [this, dget_pre]
    rfl
  | [], _ :: _, h => h.elim
  | _ :: _, [], h => h.elim
  | .int _ :: _, .bool _ :: _, h => h.1.elim
  | .bool :: _, .int _ _ :: _, h => h.1.elim
  | .vec _ :: _, _ :: _, h => h.1.elim

theorem open_plain {w : World} {base b0 : Nat} {sp : Nat → Bool} {held : Bool} {r : Reach} {t : TypeId} {v : Value} {d : DataW H} {ps : List MemPlace} {s : Sh} (hs : shapeOf P t = some s)
    (hval : Value.okWide P w r b0 t v) (hd : DataW.Trod enc P w base sp held t v d ps) :
    ∃ ds : List DV, RangeOk s.lts ds ∧ ps = [] ∧ (∀ (pre post : List DV) (ss : List Sh), argVals (dget (pre ++ ds ++ post)) pre.length (s :: ss) = v :: argVals (dget (pre ++ ds ++ post)) (pre.length + ds.length) ss) ∧
      ∀ (w' : World) (base' : Nat) (sp' : Nat → Bool) (held' : Bool), DataW.Trod enc P w' base' sp' held' t v d [] := by
  obtain ⟨fuel, hf⟩ := hd
  unfold shapeOf at hs
  split at hs
  · rename_i hu
    cases hs
    obtain ⟨b, rfl⟩ := okWide_bool hu hval
    have hfl : flatT P 1 t = some [.bool] := by simp [flatT, hu]
    obtain ⟨_, h2, h3⟩ := trod_flat (enc := enc) 1 hfl fuel _ _ _ _ _ _ _ hf
    refine ⟨[.b b], ⟨trivial, trivial⟩, h2, fun pre post ss => ?_, fun w' base' sp' held' => ⟨fuel, h3 w' base' sp' held'⟩⟩
    simp only [argVals, List.append_assoc, List.cons_append, List.nil_append, dget_pre, List.length_cons, List.length_nil]
    rfl
  · rename_i k hu
    cases hs
    obtain ⟨n, rfl⟩ := okWide_int hu hval
    have hfl : flatT P 1 t = some [.int k] := by simp [flatT, hu]
    obtain ⟨h1, h2, h3⟩ := trod_flat (enc := enc) 1 hfl fuel _ _ _ _ _ _ _ hf
    refine ⟨[.i n], ⟨h1.1.2, trivial⟩, h2, fun pre post ss => ?_, fun w' base' sp' held' => ⟨fuel, h3 w' base' sp' held'⟩⟩
    simp only [argVals, List.append_assoc, List.cons_append, List.nil_append, dget_pre, List.length_cons, List.length_nil]
    rfl
  · rename_i n e hu
    obtain ⟨l, hl, rfl⟩ := Option.map_eq_some_iff.1 hs
    simp only [Value.okWide, hu] at hval
    obtain ⟨cs, rfl, _, _⟩ := hval
    obtain ⟨h1, h2, h3⟩ := trod_flat (enc := enc) 20 hl fuel _ _ _ _ _ _ _ hf
    obtain ⟨ds, h4, h5⟩ := leaves_vals h1
    refine ⟨ds, h4, h2, fun pre post ss => ?_, fun w' base' sp' held' => ⟨fuel, h3 w' base' sp' held'⟩⟩
    simp only [argVals, h5 pre post, ← h4.len]
    rfl
  · rename_i fs hu
    obtain ⟨l, hl, rfl⟩ := Option.map_eq_some_iff.1 hs
    simp only [Value.okWide, hu] at hval
    obtain ⟨cs, rfl, _, _⟩ := hval
    obtain ⟨h1, h2, h3⟩ := trod_flat (enc := enc) 20 hl fuel _ _ _ _ _ _ _ hf
    obtain ⟨ds, h4, h5⟩ := leaves_vals h1
    refine ⟨ds, h4, h2, fun pre post ss => ?_, fun w' base' sp' held' => ⟨fuel, h3 w' base' sp' held'⟩⟩
    simp only [argVals, h5 pre post, ← h4.len]
    rfl
  · cases hs

end

theorem mapM_get {α β : Type} {f : α → Option β} : ∀ {l : List α} {xs : List β}, l.mapM f = some xs → ∀ (i : Nat) (a : α), l[i]? = some a → ∃ y, xs[i]? = some y ∧ f a = some y
  | [], xs, _, i, a, ha => by simp at ha
  | b :: l, xs, h, i, a, ha => by
    simp only [List.mapM_cons, Option.bind_eq_bind, Option.bind_eq_some_iff, Option.pure_def, Option.some.injEq] at h
    obtain ⟨y, hy, ys, hys, rfl⟩ := h
    cases i with
    | zero => simp at ha; subst ha; exact ⟨y, rfl, hy⟩
    | succ i => obtain ⟨z, h1, h2⟩ := mapM_get hys i a (by simpa using ha); exact ⟨z, by simpa using h1, h2⟩

section
variable {C : Checked} {os : Os} {f : FuncId} {fn : Func} {s : ChangeSpec} {H : Type} {enc : TypeId × Value → H} {sg : Sig} {G : List DV → List DV} {I : World → Prop}

structure LawSig (sg : Sig) (ss : List Sh) : Prop where
  ins : sg.ins = patShapes 0 ss
  hin : sg.hin = []
  nin : sg.nin = nIn ss
  out : sg.out = .s (.one (.b (.h 0)))
  hout : sg.hout = []
  ots : sg.ots = [.b]

end
end Go.Sx

namespace Go.Sx
open Go Go.ChangeShapes Go.WideShapes Go.RowKit

inductive ShV where
  | pl (s : Sh)
  | row (ts : List LT)
  deriving Inhabited
def ShV.wd : ShV → Nat
  | .pl s => s.lts.length
  | .row _ => 1
def nInV : List ShV → Nat
  | [] => 0
  | s :: ss => s.wd + nInV ss
def patV : Nat → Nat → List ShV → List V
  | _, _, [] => []
  | j, b, .pl (.one t) :: ss => .s (.one (t.pat j)) :: patV (j + 1) b ss
  | j, b, .pl (.agg ts) :: ss => .s (.agg (patLeaves j ts)) :: patV (j + ts.length) b ss
  | j, b, .row _ :: ss => .s (.one (.vec b)) :: patV (j + 1) (b + 1) ss
def blksV : Nat → List ShV → List (Option Blk)
  | _, [] => []
  | j, .pl s :: ss => blksV (j + s.lts.length) ss
  | j, .row ts :: ss => some (.v false ts (.h j)) :: blksV (j + 1) ss
def argV (g : Nat → DV) (ρ : Nat → Loc) : Nat → Nat → List ShV → List Value
  | _, _, [] => []
  | j, b, .pl (.one t) :: ss => t.conc (g j) :: argV g ρ (j + 1) b ss
  | j, b, .pl (.agg ts) :: ss => .agg (leafVals g j ts).toArray :: argV g ρ (j + ts.length) b ss
  | j, b, .row _ :: ss => (ρ b).slice :: argV g ρ (j + 1) (b + 1) ss

theorem patV_conc {n : Nat} (g : Nat → DV) (ρ : Nat → Loc) : ∀ (ss : List ShV) (j b : Nat), j + nInV ss ≤ n → ((patV j b ss).map (V.inst (idsFrom 0 n))).map (V.conc g ρ) = argV g ρ j b ss ∧ ∀ x ∈ (patV j b ss).map (V.inst (idsFrom 0 n)), V.good g x
  | [], j, b, _ => ⟨rfl, fun x hx => by cases hx⟩
  | .pl (.one t) :: ss, j, b, h => by
    have h : j + (1 + nInV ss) ≤ n := h
    obtain ⟨h1, h2⟩ := patV_conc (n := n) g ρ ss (j + 1) b (by omega)
    obtain ⟨h3, h4⟩ := pat_conc g ρ (t := t) (show j < n by omega)
    refine ⟨by simp only [patV, List.map_cons, argV, h1, V.inst, V1.inst, V.conc, V1.conc, h3], fun x hx => ?_⟩
    simp only [patV, List.map_cons] at hx
    rcases List.mem_cons.1 hx with rfl | hx
    · exact V1.good_one.2 h4
    · exact h2 x hx
  | .pl (.agg ts) :: ss, j, b, h => by
    have h : j + (ts.length + nInV ss) ≤ n := h
    obtain ⟨h1, h2⟩ := patV_conc (n := n) g ρ ss (j + ts.length) b (by omega)
    obtain ⟨h3, h4⟩ := patLeaves_conc (n := n) g ρ ts j (show j + ts.length ≤ n by omega)
    refine ⟨by simp only [patV, List.map_cons, argV, h1, V.inst, V1.inst, V.conc, V1.conc, h3], fun x hx => ?_⟩
    simp only [patV, List.map_cons] at hx
    rcases List.mem_cons.1 hx with rfl | hx
    · exact V1.good_agg.2 h4
    · exact h2 x hx
  | .row ts :: ss, j, b, h => by
    have h : j + (1 + nInV ss) ≤ n := h
    obtain ⟨h1, h2⟩ := patV_conc (n := n) g ρ ss (j + 1) (b + 1) (by omega)
    refine ⟨by simp only [patV, List.map_cons, argV, h1, V.inst, V1.inst, V.conc, V1.conc, Lf.inst, Lf.conc], fun x hx => ?_⟩
    simp only [patV, List.map_cons] at hx
    rcases List.mem_cons.1 hx with rfl | hx
    · exact V1.good_one.2 trivial
    · exact h2 x hx

structure RowIn (ts : List LT) (xs : List DV) : Prop where
  pos : 0 < ts.length
  len : ∃ n, n ≤ maxLen ∧ xs.length = n * ts.length
  cell : ∀ i, i < xs.length → RangeOk [ts.getD (i % ts.length) .bool] [xs.getD i default]
def RowsRel (E : Env) (W : World) : List ShV → List DV → List Loc → Prop
  | [], _, _ => True
  | .pl s :: ss, ds, ls => RowsRel E W ss (ds.drop s.lts.length) ls
  | .row ts :: ss, ds, ls => VRel E W (ls.headD default) false ts (ds.headD default).toL ∧ RowsRel E W ss ds.tail ls.tail

theorem cells_at {w : World} {base : Nat} {a : Addr} {n : Nat} {cs : List Value} (h : w.cells? base a n = some cs) : ∀ i, i < n → ∀ v, cs[i]? = some v → w.cell? (a.add i) = some v := by
  unfold World.cells? at h
  split at h
  · intro i hi v hv
    obtain ⟨y, h1, h2⟩ := mapM_get h i i (List.getElem?_range hi)
    rw [h1] at hv
    cases hv
    exact h2
  · cases h

section
variable {H : Type} {enc : TypeId × Value → H} {P : Program}

end

theorem blksV_own : ∀ (ss : List ShV) (j i : Nat) (b : Blk), nth (blksV j ss) i = some b → b.own = false
  | [], _, i, b, h => by cases i <;> cases h
  | .pl s :: ss, j, i, b, h => blksV_own ss _ i b h
  | .row ts :: ss, j, 0, b, h => by cases h; rfl
  | .row ts :: ss, j, i + 1, b, h => blksV_own ss _ i b h
theorem rows_rel {E : Env} {W : World} {n : Nat} (xs : List DV) (ls0 : List Loc) (hn : xs.length = n) : ∀ (ss : List ShV) (j b : Nat), j + nInV ss ≤ n → RowsRel E W ss (xs.drop j) (ls0.drop b) →
    ∀ i bk, nth ((blksV j ss).map (Option.map (Blk.inst (idsFrom 0 n)))) i = some bk → BlkRel E (dget xs) (fun i => ls0.getD i default) W (ls0.getD (b + i) default) bk
  | [], j, b, _, _, i, bk, h => by cases i <;> cases h
  | .pl s :: ss, j, b, hj, hr, i, bk, h => by
    have hj : j + (s.lts.length + nInV ss) ≤ n := hj
    refine rows_rel xs ls0 hn ss (j + s.lts.length) b (by omega) ?_ i bk h
    have hr : RowsRel E W ss ((xs.drop j).drop s.lts.length) (ls0.drop b) := hr
    rwa [List.drop_drop] at hr
  | .row ts :: ss, j, b, hj, hr, 0, bk, h => by
    have hj : j + (1 + nInV ss) ≤ n := hj
    cases h
    have hid : (A.h j).inst (idsFrom 0 n) = .r j := by
      have := idsFrom_getD n 0 j (by omega)
      simpa [A.inst] using this
    have h1 := hr.1
    show VRel E W (ls0.getD (b + 0) default) false ts (((A.h j).inst (idsFrom 0 n)).cells (dget xs))
    rw [hid]
    have e1 : (ls0.drop b).headD default = ls0.getD (b + 0) default := by
      rw [List.headD_eq_head?_getD, List.head?_drop, List.getD_eq_getElem?_getD, Nat.add_zero]
    have e2 : (xs.drop j).headD default = dget xs j := by
      rw [List.headD_eq_head?_getD, List.head?_drop, dget, List.getD_eq_getElem?_getD]
    rw [e1, e2] at h1
    exact h1
  | .row ts :: ss, j, b, hj, hr, i + 1, bk, h => by
    have hj : j + (1 + nInV ss) ≤ n := hj
    have h2 : RowsRel E W ss ((xs.drop j).tail) ((ls0.drop b).tail) := hr.2
    rw [List.tail_drop, List.tail_drop] at h2
    have := rows_rel xs ls0 hn ss (j + 1) (b + 1) (by omega) h2 i bk h
    rwa [show b + 1 + i = b + (i + 1) from by omega] at this

section
variable {C : Checked} {os : Os} {f : FuncId} {fn : Func} {s : ChangeSpec} {H : Type} {enc : TypeId × Value → H} {sg : Sig} {G : List DV → List DV} {I : World → Prop}

structure LawSigV (sg : Sig) (ss : List ShV) : Prop where
  ins : sg.ins = patV 0 0 ss
  hin : sg.hin = blksV 0 ss
  nin : sg.nin = nInV ss
  out : sg.out = .s (.one (.b (.h 0)))
  hout : sg.hout = []
  ots : sg.ots = [.b]

structure LaidOk (P : Program) (ts : List TypeId) : Prop where
  rows : laidOutB P = true
  maps : mapsRowed P = true
  full : ((List.range P.types.size).all fun t => match P.underlying t with | some (.slice e) => decide (0 < P.cellsOf e) | _ => true) = true
  lt : ts.all (fun t => decide (t < P.types.size)) = true

end
end Go.Sx

namespace Go.Sx
open Go Go.ChangeShapes Go.WideShapes Go.RowKit

def Lv (p : LT → Value → Prop) : List LT → List Value → Prop
  | [], [] => True
  | t :: ts, v :: vs => p t v ∧ Lv p ts vs
  | _, _ => False
theorem Lv.len {p : LT → Value → Prop} : ∀ {a : List LT} {c : List Value}, Lv p a c → c.length = a.length
  | [], [], _ => rfl
  | _ :: _, _ :: _, h => by simp [Lv.len h.2]
  | [], _ :: _, h => h.elim
  | _ :: _, [], h => h.elim
theorem Lv.append {p : LT → Value → Prop} : ∀ {a b : List LT} {c d : List Value}, Lv p a c → Lv p b d → Lv p (a ++ b) (c ++ d)
  | [], _, [], _, _, h => h
  | _ :: _, _, _ :: _, _, h, h' => ⟨h.1, Lv.append h.2 h'⟩
  | [], _, _ :: _, _, h, _ => h.elim
  | _ :: _, _, [], _, h, _ => h.elim
theorem Lv.at {p : LT → Value → Prop} : ∀ {ts : List LT} {vs : List Value}, Lv p ts vs → ∀ i, i < ts.length → ∃ v, vs[i]? = some v ∧ p (ts.getD i .bool) v
  | t :: ts, v :: vs, h, 0, _ => ⟨v, rfl, h.1⟩
  | t :: ts, v :: vs, h, i + 1, hi => by
    obtain ⟨u, h1, h2⟩ := Lv.at h.2 i (by simpa using hi)
    exact ⟨u, by simpa using h1, by simpa using h2⟩
  | [], _, _, i, hi => by simp at hi
  | _ :: _, [], h, _, _ => h.elim
theorem lv_rows {p : LT → Value → Prop} {l : List LT} {c : Nat} (hl : l.length = c) : ∀ {n : Nat} {cs : List Value}, cs.length = n * c → (∀ i, i < n → Lv p l ((cs.drop (i * c)).take c)) → Lv p (List.replicate n l).flatten cs
  | 0, cs, h, _ => by
    have : cs = [] := List.eq_nil_of_length_eq_zero (by simpa using h)
    subst this
    trivial
  | n + 1, cs, h, hp => by
    have h0 := hp 0 (by omega)
    simp only [Nat.zero_mul, List.drop_zero] at h0
    have h1 := lv_rows (p := p) hl (n := n) (cs := cs.drop c) (by rw [List.length_drop, h, Nat.succ_mul]; omega) (fun i hi => by
      have := hp (i + 1) (by omega)
      rw [List.drop_drop]
      rwa [show c + i * c = (i + 1) * c from by rw [Nat.succ_mul]; omega])
    have := Lv.append h0 h1
    rw [List.take_append_drop] at this
    simpa [List.replicate_succ] using this

inductive RangeC : LT → DV → Prop
  | int (k : IntKind) (n : Int) (h : (Lit.int k n).wf = true) : RangeC (.int k) (.i n)
  | bool (b : Bool) : RangeC .bool (.b b)
  | vec (ts : List LT) (xs : List DV) (n : Nat) (hpos : 0 < ts.length) (hn : n ≤ maxLen) (hlen : xs.length = n * ts.length) (hc : ∀ i, i < xs.length → RangeC (ts.getD (i % ts.length) .bool) (xs.getD i default)) : RangeC (.vec ts) (.l xs)
structure RowInN (ts : List LT) (xs : List DV) : Prop where
  pos : 0 < ts.length
  len : ∃ n, n ≤ maxLen ∧ xs.length = n * ts.length
  cell : ∀ i, i < xs.length → RangeC (ts.getD (i % ts.length) .bool) (xs.getD i default)
theorem RangeC.row {ts : List LT} {xs : List DV} (h : RangeC (.vec ts) (.l xs)) : RowInN ts xs := by
  cases h with
  | vec _ _ n hpos hn hlen hc => exact ⟨hpos, ⟨n, hn, hlen⟩, hc⟩
def CellN (E : Env) (t : LT) (v : Value) : Prop := ∃ d, CRel E t d v ∧ RangeC t d
theorem exists_list {α : Type} {Q : Nat → α → Prop} (d : α) : ∀ n : Nat, (∀ i, i < n → ∃ a, Q i a) → ∃ l : List α, l.length = n ∧ ∀ i, i < n → Q i (l.getD i d)
  | 0, _ => ⟨[], rfl, fun i hi => by omega⟩
  | n + 1, h => by
    obtain ⟨l, h1, h2⟩ := exists_list d n (fun i hi => h i (by omega))
    obtain ⟨a, ha⟩ := h n (by omega)
    refine ⟨l ++ [a], by simp [h1], fun i hi => ?_⟩
    rcases Nat.lt_or_ge i n with hlt | hge
    · rw [List.getD_eq_getElem?_getD, List.getElem?_append_left (by omega), ← List.getD_eq_getElem?_getD]
      exact h2 i hlt
    · have : i = n := by omega
      subst this
      rw [List.getD_eq_getElem?_getD, List.getElem?_append_right (by omega), h1]
      simpa using ha
theorem CRel.mono {E E' : Env} (hw : E'.w0 = E.w0) (hW : ∀ b, E.V b → ¬ E.W b → ¬ E'.W b) (hV : ∀ b, E.V b → ¬ E.W b → E'.V b) {t : LT} {d : DV} {v : Value} (h : CRel E t d v) : CRel E' t d v := by
  induction h with
  | int k d => exact .int k d
  | bool d => exact .bool d
  | vec ts d r vs hnil hlt hpos hlen hcap hv hc ih =>
    exact .vec ts d r vs hnil (fun hn => ⟨by rw [hw]; exact (hlt hn).1, hW _ (hlt hn).2.2 (hlt hn).2.1, hV _ (hlt hn).2.2 (hlt hn).2.1⟩) hpos hlen hcap (fun i hi => by rw [hw]; exact hv i hi) ih

def flatN (P : Program) : Nat → TypeId → Option (List LT)
  | 0, _ => none
  | d + 1, t =>
    match P.underlying t with
    | some .bool => some [.bool]
    | some (.int k) => some [.int k]
    | some (.slice e) =>
      match flatN P d e with
      | none => none
      | some l => if Nat.beq l.length (P.cellsOf e) && Nat.blt 0 l.length then some [.vec l] else none
    | some (.array n e) =>
      match flatN P d e with
      | none => none
      | some l => if Nat.beq l.length (P.cellsOf e) && Nat.beq (P.cellsOf t) (n * l.length) then some (List.replicate n l).flatten else none
    | some (.struct fs) =>
      match flatFs P (flatN P d) 0 fs.toList with
      | none => none
      | some l => if Nat.beq l.length (P.cellsOf t) then some l else none
    | _ => none
theorem lv_fields {P : Program} {p : LT → Value → Prop} {rec : TypeId → Option (List LT)} {cs : List Value} : ∀ {fs : List Field} {o : Nat} {l : List LT}, flatFs P rec o fs = some l → cs.length = o + l.length →
    (∀ f ∈ fs, ∀ r, rec f.type = some r → Lv p r ((cs.drop f.offset).take (P.cellsOf f.type))) → Lv p l (cs.drop o)
  | [], o, l, h, hlen, _ => by
    simp [flatFs] at h
    subst h
    rw [List.drop_of_length_le (by simpa using Nat.le_of_eq hlen)]
    trivial
  | f :: fs, o, l, h, hlen, hp => by
    simp only [flatFs] at h
    split at h
    · rename_i ho
      have ho := Nat.eq_of_beq_eq_true ho
      split at h
      · cases h
      · rename_i r hr
        split at h
        · rename_i hc
          have hc := Nat.eq_of_beq_eq_true hc
          split at h
          · cases h
          · rename_i r' hr'
            cases h
            have h0 := hp f (by simp) r hr
            have h1 := lv_fields (p := p) hr' (by simp at hlen; omega) (fun g hg => hp g (List.mem_cons_of_mem _ hg))
            rw [ho, ← hc] at h0
            have h2 := Lv.append h0 h1
            rw [← List.drop_drop, List.take_append_drop] at h2
            exact h2
        · cases h
    · cases h
theorem mapM_some {α β : Type} {f : α → Option β} : ∀ {l : List α} {xs : List β}, l.mapM f = some xs → ∀ a ∈ l, ∃ y, f a = some y
  | [], _, _, a, ha => by cases ha
  | b :: l, xs, h, a, ha => by
    simp only [List.mapM_cons, Option.bind_eq_bind, Option.bind_eq_some_iff, Option.pure_def, Option.some.injEq] at h
    obtain ⟨y, hy, ys, hys, rfl⟩ := h
    rcases List.mem_cons.1 ha with rfl | ha
    · exact ⟨y, hy⟩
    · exact mapM_some hys a ha

section
variable {H : Type} {enc : TypeId × Value → H} {P : Program}
theorem cell_met {β : Type} {w : World} {base : Nat} {a : Addr} {k n : Nat} {f : List Value → Option β} {x : β} (h : (w.cells? base (a.add k) n).bind f = some x) (hk : k = 0) (hn : 0 < n) : a.spot = none ∧ a.block < w.heap.size := by
  obtain ⟨cs, hcs, _⟩ := Option.bind_eq_some_iff.1 h
  unfold World.cells? at hcs
  split at hcs
  · obtain ⟨v, hv⟩ := mapM_some hcs 0 (List.mem_range.2 hn)
    unfold World.cell? at hv
    have e1 : (a.add k).add 0 = a := by subst hk; rfl
    rw [e1] at hv
    split at hv
    · rename_i c el z hb
      refine ⟨?_, ?_⟩
      · cases hs : a.spot with
        | none => rfl
        | some s => rw [hs] at hv; simp at hv
      · rcases Nat.lt_or_ge a.block w.heap.size with h | h
        · exact h
        · rw [Array.getElem?_eq_none h] at hb; cases hb
    · cases hv
  · cases hcs
theorem slice_met {w : World} {base fuel : Nat} {held : Bool} {t e : TypeId} {cs : List Value} {x : DataW H × List MemPlace} {ts : List LT} {E : Env} (_hw0 : E.w0 = w) (_hW : ∀ b, ¬ E.W b) (_hV : ∀ b, b < w.heap.size → E.V b) (hu : P.underlying t = some (.slice e)) (hc : ts.length = P.cellsOf e) (hpos : 0 < ts.length)
    (hrec : ∀ n cs x, DataW.trod enc P w base (fun _ => true) held n e cs = some x → Lv (CellN E) ts cs) (hd : DataW.trod enc P w base (fun _ => true) held fuel t cs = some x) :
    ∃ (r : Loc) (xs : List DV) (vs : Nat → Value), cs = [r.slice] ∧ (r.nil = true → r.len = 0 ∧ r.cap = 0) ∧ (r.nil = false → r.blk < w.heap.size) ∧ xs.length = r.len * ts.length ∧ r.len ≤ r.cap ∧ RowInN ts xs ∧
      ∀ i, i < xs.length → w.cell? ⟨r.blk, r.off + i, none⟩ = some (vs i) ∧ CRel E (ts.getD (i % ts.length) .bool) (xs.getD i default) (vs i) := by
  rcases DataW.trod_slice hu hd with ⟨rfl, _⟩ | ⟨a, len, cap, elems, rest, n, _, rfl, _, _, hlc, hcm, hel, helem, hsp, _⟩
  · exact ⟨⟨0, 0, true, 0, 0, none⟩, [], fun _ => undef, rfl, fun _ => ⟨rfl, rfl⟩, fun e => (by cases e), by simp, Nat.le_refl _, ⟨hpos, ⟨0, Nat.zero_le _, by simp⟩, fun i hi => by simp at hi⟩, fun i hi => by simp at hi⟩
  · rcases Nat.eq_zero_or_pos cap with hc0 | hc0
    · have hl0 : len = 0 := by omega
      subst hc0; subst hl0
      exact ⟨⟨0, 0, true, 0, 0, some a⟩, [], fun _ => undef, rfl, fun _ => ⟨rfl, rfl⟩, fun e => (by cases e), by simp, Nat.le_refl _, ⟨hpos, ⟨0, Nat.zero_le _, by simp⟩, fun i hi => by simp at hi⟩, fun i hi => by simp at hi⟩
    · have hcell : a.spot = none ∧ a.block < w.heap.size := by
        rcases Nat.eq_zero_or_pos len with hl0 | hl0
        · obtain ⟨hr1, hr2⟩ := hsp rfl
          have := hr2 0 (by omega)
          rw [List.getElem?_eq_getElem (by omega)] at this
          exact cell_met this (by rw [hl0]; simp) (by omega)
        · have := helem 0 hl0
          rw [List.getElem?_eq_getElem (by omega)] at this
          exact cell_met this (by simp) (by omega)
      obtain ⟨hspot, hblk⟩ := hcell
      have ha : a = ⟨a.block, a.off, none⟩ := by cases a; simp_all
      have hadd : ∀ i, a.add i = ⟨a.block, a.off + i, none⟩ := fun i => by rw [ha]; exact addr_add _ _ _
      have hkey : ∀ j, j < len * ts.length → ∃ d : DV, ∃ v, w.cell? ⟨a.block, a.off + j, none⟩ = some v ∧ CRel E (ts.getD (j % ts.length) .bool) d v ∧ RangeC (ts.getD (j % ts.length) .bool) d := fun j hj => by
        have hq : j / ts.length < len := (Nat.div_lt_iff_lt_mul hpos).2 hj
        have hr : j % ts.length < ts.length := Nat.mod_lt _ hpos
        have he := helem (j / ts.length) hq
        rw [List.getElem?_eq_getElem (by rw [hel]; exact hq)] at he
        obtain ⟨cs, hcs, htr⟩ := Option.bind_eq_some_iff.1 he
        have hlv := hrec n cs _ htr
        obtain ⟨v, hv1, d, hv2, hv3⟩ := hlv.at (j % ts.length) hr
        refine ⟨d, v, ?_, hv2, hv3⟩
        have := cells_at hcs (j % ts.length) (by rw [← hc]; exact hr) v hv1
        rw [hadd, addr_add, ← hc] at this
        rw [← this]
        congr 2
        have := Nat.div_add_mod j ts.length
        rw [Nat.mul_comm] at this
        omega
      obtain ⟨xs, hx1, hx2⟩ := exists_list default _ hkey
      refine ⟨⟨a.block, a.off, false, len, cap, none⟩, xs, fun i => (w.cell? ⟨a.block, a.off + i, none⟩).getD undef, ?_, fun e => (by cases e), fun _ => hblk, hx1, hlc, ⟨hpos, ⟨len, Nat.le_trans hlc hcm, hx1⟩, fun i hi => ?_⟩, fun i hi => ?_⟩
      · unfold Loc.slice
        rw [ha]
        rfl
      · obtain ⟨v, _, _, h3⟩ := hx2 i (by omega)
        exact h3
      · obtain ⟨v, h1, h2, _⟩ := hx2 i (by omega)
        refine ⟨by simp [h1], ?_⟩
        simp only [h1, Option.getD_some]
        exact h2
theorem trodN {w : World} {base : Nat} {held : Bool} {E : Env} (hw0 : E.w0 = w) (hW : ∀ b, ¬ E.W b) (hV : ∀ b, b < w.heap.size → E.V b) : ∀ (d : Nat) {t : TypeId} {lts : List LT}, flatN P d t = some lts → ∀ fuel cs x, DataW.trod enc P w base (fun _ => true) held fuel t cs = some x → Lv (CellN E) lts cs
  | 0, _, _, h, _ => by cases h
  | d + 1, t, lts, h, fuel => by
    intro cs x hx
    cases fuel with
    | zero => simp [DataW.trod] at hx
    | succ fuel =>
      simp only [flatN] at h
      split at h
      · rename_i hu
        cases h
        obtain ⟨b, rfl, he⟩ := DataW.trod_bool hu hx
        exact ⟨⟨.b b, .bool (.b b), .bool b⟩, trivial⟩
      · rename_i k hu
        cases h
        obtain ⟨n, rfl, he, hw⟩ := DataW.trod_int hu hx
        exact ⟨⟨.i n, .int k (.i n), .int k n hw⟩, trivial⟩
      · rename_i e hu
        split at h
        · cases h
        · rename_i l hl
          split at h
          · rename_i hc
            cases h
            simp only [Bool.and_eq_true] at hc
            obtain ⟨r, xs, vs, rfl, h1, h2, h3, h4, h5, h6⟩ := slice_met hw0 hW hV hu (Nat.eq_of_beq_eq_true hc.1) (Nat.le_of_ble_eq_true hc.2) (fun n cs x hx => trodN hw0 hW hV d hl n cs x hx) hx
            obtain ⟨n, hn1, hn2⟩ := h5.len
            refine ⟨⟨.l xs, .vec l (.l xs) r vs h1 (fun hn => ⟨by rw [hw0]; exact h2 hn, hW _, hV _ (h2 hn)⟩) h5.pos h3 h4 (fun i hi => by rw [hw0]; exact (h6 i hi).1) (fun i hi => (h6 i hi).2), .vec l xs n h5.pos hn1 hn2 h5.cell⟩, trivial⟩
          · cases h
      · rename_i n e hu
        split at h
        · cases h
        · rename_i l hl
          split at h
          · rename_i hc
            cases h
            simp only [Bool.and_eq_true] at hc
            have hc1 := Nat.eq_of_beq_eq_true hc.1
            have hc2 := Nat.eq_of_beq_eq_true hc.2
            simp only [DataW.trod, hu] at hx
            split at hx
            · rename_i hlen
              obtain ⟨xs, hxs, he⟩ := Option.map_eq_some_iff.1 hx
              refine lv_rows hc1 (by rw [hlen, hc2, hc1]) (fun i hi => ?_)
              obtain ⟨y, hy⟩ := mapM_some hxs i (List.mem_range.2 hi)
              exact trodN hw0 hW hV d hl fuel _ y hy
            · cases hx
          · cases h
      · rename_i fs hu
        split at h
        · cases h
        · rename_i l hl
          split at h
          · rename_i hc
            cases h
            have hc1 := Nat.eq_of_beq_eq_true hc
            simp only [DataW.trod, hu] at hx
            split at hx
            · rename_i hlen
              obtain ⟨xs, hxs, he⟩ := Option.map_eq_some_iff.1 hx
              have := lv_fields (P := P) (p := CellN E) (cs := cs) hl (by rw [hlen, hc1]; omega) (fun f hf r hr => by
                obtain ⟨y, hy⟩ := mapM_some hxs f hf
                exact trodN hw0 hW hV d hr fuel _ y hy)
              simpa using this
            · cases hx
          · cases h
      · cases h
end

def RangeN : List ShV → List DV → Prop
  | [], ds => ds = []
  | .pl s :: ss, ds => RangeOk s.lts (ds.take s.lts.length) ∧ RangeN ss (ds.drop s.lts.length)
  | .row ts :: ss, ds => (∃ xs, ds.head? = some (.l xs) ∧ RowInN ts xs) ∧ RangeN ss ds.tail
def shapeN (P : Program) (t : TypeId) : Option ShV :=
  match P.underlying t with
  | some (.slice e) =>
    match flatN P 20 e with
    | some l => if Nat.beq l.length (P.cellsOf e) && Nat.blt 0 l.length then some (.row l) else none
    | none => none
  | _ => (shapeOf P t).map .pl
def shapesN (P : Program) : List TypeId → Option (List ShV)
  | [] => some []
  | t :: ts =>
    match shapeN P t, shapesN P ts with
    | some s, some r => some (s :: r)
    | _, _ => none
section
variable {H : Type} {enc : TypeId × Value → H} {P : Program}
theorem open_rowN {w : World} {base b0 : Nat} {held : Bool} {r : Reach} {E : Env} (hw0 : E.w0 = w) (hW : ∀ b, ¬ E.W b) (hV : ∀ b, b < w.heap.size → E.V b) {t e : TypeId} {v : Value} {d : DataW H} {ps : List MemPlace} {ts : List LT} (hu : P.underlying t = some (.slice e)) (hf : flatN P 20 e = some ts) (hc : ts.length = P.cellsOf e) (hpos : 0 < ts.length)
    (hval : Value.okWide P w r b0 t v) (hd : DataW.Trod enc P w base (fun _ => true) held t v d ps) : ∃ (xs : List DV) (l : Loc), RowInN ts xs ∧ v = l.slice ∧ VRel E w l false ts xs := by
  obtain ⟨fuel, hd⟩ := hd
  obtain ⟨a, len, cap, rfl⟩ := okWide_slice hu hval
  have hcell : (Value.slice a len cap).cells.toList = [Value.slice a len cap] := rfl
  rw [hcell] at hd
  obtain ⟨r, xs, vs, h0, h1, h2, h3, h4, h5, h6⟩ := slice_met hw0 hW hV hu hc hpos (fun n cs x hx => trodN hw0 hW hV 20 hf n cs x hx) hd
  exact ⟨xs, r, h5, (List.cons.inj h0).1, ⟨h1, h2, hpos, h3, h4, fun i hi => ⟨vs i, (h6 i hi).1, (h6 i hi).2⟩, fun e => (by cases e), fun e => (by cases e)⟩⟩

theorem open_allN {w : World} {base b0 : Nat} {held : Bool} {r : Reach} {E : Env} (hw0 : E.w0 = w) (hW : ∀ b, ¬ E.W b) (hV : ∀ b, b < w.heap.size → E.V b) : ∀ {ts : List TypeId} {vs : List Value} {ds : List (DataW H)} {ps : List MemPlace} {ss : List ShV}, shapesN P ts = some ss →
    (∀ (j : Nat) t v, ts[j]? = some t → vs[j]? = some v → Value.okWide P w r b0 t v) → DataW.TrodAll enc P w base (fun _ => true) held ts vs ds ps →
    ∃ (xs : List DV) (ls : List Loc), RangeN ss xs ∧ xs.length = nInV ss ∧ RowsRel E w ss xs ls ∧ (∀ (pre : List DV) (prel : List Loc), argV (dget (pre ++ xs)) (fun i => (prel ++ ls).getD i default) pre.length prel.length ss = vs)
  | [], [], [], ps, ss, hs, _, hd => by
    simp [shapesN] at hs
    subst hs
    exact ⟨[], [], rfl, rfl, trivial, fun _ _ => rfl⟩
  | t :: ts, v :: vs, d :: ds, ps, ss, hs, hval, hd => by
    simp only [shapesN] at hs
    split at hs
    · rename_i s rr hs1 hs2
      cases hs
      obtain ⟨p, q, h1, h2, rfl⟩ := hd
      obtain ⟨ys, ls, b1, b2, b3, b4⟩ := open_allN hw0 hW hV hs2 (fun j t v ht hv => hval (j + 1) t v (by simpa using ht) (by simpa using hv)) h2
      unfold shapeN at hs1
      split at hs1
      · rename_i e hu
        split at hs1
        · rename_i l hl
          split at hs1
          · rename_i hc
            cases hs1
            simp only [Bool.and_eq_true] at hc
            have hc1 := Nat.eq_of_beq_eq_true hc.1
            have hc2 : 0 < l.length := Nat.le_of_ble_eq_true hc.2
            obtain ⟨xs, lo, c1, rfl, c3⟩ := open_rowN hw0 hW hV hu hl hc1 hc2 (hval 0 t v rfl rfl) h1
            refine ⟨.l xs :: ys, lo :: ls, ⟨⟨xs, rfl, c1⟩, b1⟩, by simp [nInV, ShV.wd, b2]; omega, ⟨c3, b3⟩, fun pre prel => ?_⟩
            have := b4 (pre ++ [.l xs]) (prel ++ [lo])
            simp only [List.append_assoc, List.cons_append, List.nil_append, List.length_append, List.length_cons, List.length_nil, Nat.zero_add] at this
            simp only [argV, this]
            congr 1
            simp [List.getD_eq_getElem?_getD]
          · cases hs1
        · cases hs1
      · obtain ⟨s', hs', rfl⟩ := Option.map_eq_some_iff.1 hs1
        obtain ⟨xs, a1, _, a3, _⟩ := open_plain hs' (hval 0 t v rfl rfl) h1
        refine ⟨xs ++ ys, ls, ⟨?_, ?_⟩, by simp [nInV, ShV.wd, b2, a1.len], ?_, fun pre prel => ?_⟩
        · rw [← a1.len, List.take_left]; exact a1
        · rw [← a1.len, List.drop_left]; exact b1
        · show RowsRel E w rr ((xs ++ ys).drop s'.lts.length) ls
          rw [← a1.len, List.drop_left]; exact b3
        · have e1 := a3 pre ys []
          have e2 := b4 (pre ++ xs) prel
          rw [List.append_assoc, List.length_append] at e2
          rw [List.append_assoc] at e1
          cases s' with
          | one t' =>
            have hl1 : xs.length = 1 := a1.len
            simp only [argVals, List.cons.injEq] at e1
            simp only [argV, e1.1]
            rw [hl1] at e2
            rw [e2]
          | agg l =>
            have hl1 : xs.length = l.length := a1.len
            simp only [argVals, List.cons.injEq] at e1
            simp only [argV, e1.1]
            rw [hl1] at e2
            rw [e2]
    · cases hs
  | [], _ :: _, _, _, _, _, _, hd => by cases hd
  | [], [], _ :: _, _, _, _, _, hd => by cases hd
  | _ :: _, [], _, _, _, _, _, hd => by cases hd
  | _ :: _, _ :: _, [], _, _, _, _, hd => by cases hd
end


section
variable {C : Checked} {os : Os} {f : FuncId} {fn : Func} {s : ChangeSpec} {H : Type} {enc : TypeId × Value → H} {sg : Sig} {G : List DV → List DV} {I : World → Prop}
theorem law_contractN {gK : Nat} {ss : List ShV} (k : FnOK C.prog I gK f sg G) (hsh : shapesN C.prog fn.params.toList = some ss) (hl : LawSigV sg ss) (hnf : sg.hinI.all (optAll Blk.flat) = false) {tb : TypeId} (hrt : fn.resultTypes = #[tb])
    (htb : C.prog.underlying tb = some .bool) (hvars : s.vars = []) (hs : ∀ ds : List (DataW H), ds.length = fn.params.size → s.fn H ds = { results := [.lit (.bool true)], args := ds }) (hlo : LaidOk C.prog fn.params.toList)
    (hG : ∀ xs, RangeN ss xs → xs.length = nInV ss → (sg.need = true → (dget (G xs) 0).toB = true) ∧ (dget (G xs) (if sg.need then 1 else 0)).toB = true)
    {W : World} {base : Nat} {args : Array Value} {ds gs : List (DataW H)} {before : List MemPlace}
    (hval : ∀ (j : Nat) t v, fn.params[j]? = some t → args[j]? = some v → Value.okWide C.prog W .any base t v)
    (hW : DataW.Whole enc C.prog fn.params.toList s.vars false W args.toList ds gs before) (hI : I W) (hK : gK ≤ W.heap.size) :
    Calls C.prog f args W fun e W' => ∃ v, e = .returned v ∧ s.post enc C.prog fn false true false false W args v W' := by
  have hW0 := hW
  obtain ⟨p, q, hA, hV, rfl, hfz, _⟩ := hW
  rw [hvars] at hV
  obtain ⟨rfl, rfl⟩ := trodVars_none hV
  have hlen : ∀ {ts : List TypeId} {vs : List Value} {ds : List (DataW H)} {ps : List MemPlace}, DataW.TrodAll enc C.prog W 0 (fun _ => true) true ts vs ds ps → ds.length = ts.length := by
    intro ts
    induction ts with
    | nil => intro vs ds ps h; cases vs <;> cases ds <;> first | rfl | cases h
    | cons t ts ih =>
      intro vs ds ps h
      cases vs with
      | nil => cases h
      | cons v vs =>
        cases ds with
        | nil => cases h
        | cons d ds =>
          obtain ⟨p, q, _, h2, _⟩ := h
          simp [ih h2]
  let E1 : Env := ⟨fun _ => False, fun b => b < W.heap.size, W, 0, fun _ => default⟩
  obtain ⟨xs, ls, h1, hx, h3, h2⟩ := open_allN (E := E1) rfl (fun _ h => h) (fun _ h => h) hsh (fun j t v ht hv => hval j t v (by simpa using ht) (by simpa using hv)) hA
  have hg := hG xs h1 hx
  have hhin : sg.hinI = (blksV 0 ss).map (Option.map (Blk.inst (idsFrom 0 sg.nin))) := by unfold Sig.hinI; rw [hl.hin]
  have hown : ∀ j b, nth sg.hinI j = some b → b.own = false := fun j b hj => by
    rw [hhin, nth_map] at hj
    obtain ⟨y, hy, rfl⟩ := Option.map_eq_some_iff.1 hj
    rw [Blk.inst_own]
    exact blksV_own ss 0 j y hy
  have hnW : ∀ (ρ : Nat → Loc) b, ¬ (callEnv sg.hinI ρ W).W b := fun ρ b ⟨j, bk, hj, ho, _⟩ => by rw [hown j bk hj] at ho; cases ho
  obtain ⟨c1, c2⟩ := patV_conc (n := sg.nin) (dget xs) (fun i => ls.getD i default) ss 0 0 (by rw [hl.nin]; omega)
  have hins : sg.insI = (patV 0 0 ss).map (V.inst (idsFrom 0 sg.nin)) := by unfold Sig.insI; rw [hl.ins]
  have hmono : ∀ {ss : List ShV} {ds : List DV} {ls' : List Loc}, RowsRel E1 W ss ds ls' → RowsRel (callEnv sg.hinI (fun i => ls.getD i default) W) W ss ds ls' := by
    intro ss
    induction ss with
    | nil => intro ds ls' _; trivial
    | cons t ss ih =>
      intro ds ls' h
      cases t with
      | pl s => exact ih (ds := ds.drop s.lts.length) h
      | row ts =>
        refine ⟨?_, ih h.2⟩
        have h := h.1
        refine ⟨h.nil, h.lt, h.pos, h.len, h.cap, fun i hi => ?_, h.own, h.fz⟩
        obtain ⟨v, h1, h2⟩ := h.cell i hi
        refine ⟨v, h1, CRel.mono (E := E1) (E' := callEnv sg.hinI (fun i => ls.getD i default) W) rfl (fun b _ _ => hnW _ b) (fun b hb _ => .inr ⟨hnf, hb, fun ⟨j, bk, hj, ho, _⟩ => ?_⟩) h2⟩
        rw [hown j bk hj] at ho; cases ho
  have hk := k xs (fun i => ls.getD i default) W hI (by rw [hl.nin]; exact hx) hg.1 hK (fun b hb => absurd hb (hnW _ b)) (by rw [hins]; exact c2)
    ⟨fun j bk hj => by
      have h3' := hmono h3
      have := rows_rel xs ls (n := sg.nin) (by rw [hl.nin]; exact hx) ss 0 0 (by rw [hl.nin]; omega) (by simpa using h3') j bk (by rw [← hhin]; exact hj)
      rwa [Nat.zero_add] at this,
     fun j j' bk bk' hj ho => by rw [hown j bk hj] at ho; cases ho⟩
  have ha : (sg.insI.map (V.conc (dget xs) fun i => ls.getD i default)).toArray = args := by
    rw [hins, c1]
    apply Array.ext'
    simpa using h2 [] []
  rw [ha] at hk
  refine hk.mono fun e W' ⟨v, ρ', he, hc⟩ => ⟨.bool true, ?_, ?_⟩
  · rw [he, hc.val]
    have : sg.outI.conc (sg.res (G xs)) ρ' = .bool (dget (G xs) (if sg.need then 1 else 0)).toB := by
      unfold Sig.outI Sig.res
      rw [hl.out, hl.ots]
      show Value.bool (dget (G xs) (0 + _)).toB = _
      rw [Nat.zero_add]
    rw [this, hg.2]
  · have hb : Below W.heap.size W W' := (hc.fr.weaken (W' := fun _ => False) fun b hb => hnW _ b hb).below
    have hsf := hs ds (by have := hlen hA; simpa using this)
    have hkids := kids_rows hlo.rows hlo.maps
    have hT : ∀ t ∈ fn.params.toList, t < C.prog.types.size := fun t ht => by simpa using List.all_eq_true.1 hlo.lt t ht
    have hre := DataW.TrodAll.respare (spare' := fun b => decide (b < W.heap.size)) hkids (slices_full_of C.prog hlo.full) hT hA (fun x hx => by simpa using hA.lt x hx)
    have hcarry : ∀ {ts : List TypeId} {vs : List Value} {ds : List (DataW H)} {ps : List MemPlace}, DataW.TrodAll enc C.prog W 0 (fun b => decide (b < W.heap.size)) true ts vs ds ps → (∀ p ∈ ps, W.sameAt W' p) → DataW.TrodAll enc C.prog W' 0 (fun b => decide (b < W.heap.size)) true ts vs ds ps := by
      intro ts
      induction ts with
      | nil => intro vs ds ps h _; cases vs <;> cases ds <;> first | exact h | cases h
      | cons t ts ih =>
        intro vs ds ps h hsame
        cases vs with
        | nil => cases h
        | cons v vs =>
        cases ds with
        | nil => cases h
        | cons d ds =>
        obtain ⟨p, q, ⟨fu, h1⟩, h2, rfl⟩ := h
        exact ⟨p, q, ⟨fu, DataW.trod_carry fu _ _ _ h1 (fun x hx => hsame x (List.mem_append_left _ hx))⟩, ih h2 (fun x hx => hsame x (List.mem_append_right _ hx)), rfl⟩
    have hre2 := hcarry hre (fun x hx => hb.same (hA.lt x hx))
    refine ⟨ds, [], p ++ [], [], p, [], ⟨p, [], hA, by rw [hvars]; exact rfl, rfl, hfz, fun h => by cases h⟩, ?_, ?_, ?_, hb.frame _, fun h => by cases h⟩
    · rw [List.append_nil, hsf, hrt]
      exact trodAll_mk1 (shut_bool htb true)
    · rw [List.append_nil, hsf]
      exact hre2
    · rw [List.append_nil, hsf, hvars]
      rfl

theorem law_liftedN {gK : Nat} {ss : List ShV} (k : FnOK C.prog I gK f sg G) (hsh : shapesN C.prog fn.params.toList = some ss) (hl : LawSigV sg ss) (hnf : sg.hinI.all (optAll Blk.flat) = false) {tb : TypeId} (hrt : fn.resultTypes = #[tb])
    (htb : C.prog.underlying tb = some .bool) (hvars : s.vars = []) (hs : ∀ ds : List (DataW H), ds.length = fn.params.size → s.fn H ds = { results := [.lit (.bool true)], args := ds }) (hlo : LaidOk C.prog fn.params.toList)
    (hG : ∀ xs, RangeN ss xs → xs.length = nInV ss → (sg.need = true → (dget (G xs) 0).toB = true) ∧ (dget (G xs) (if sg.need then 1 else 0)).toB = true)
    (hI : ∀ W, I W) (hK : gK = 0)
    (own : ownKnob C.prog.godebug = none) (started : os.Started) (noInit : C.prog.inits.idxOf? f = none) (hfn : C.prog.funcs[f]? = some fn)
    (witness : ∃ (w : World) (tape : Tape) (i : Input), w.os = os ∧ (w.forCall tape i).Shaped C.prog ∧ i.vars = [] ∧ Input.okWide C.prog (w.forCall tape i) .any w.heap.size f i ∧
      s.pre6 enc C.prog fn [] false (w.forCall tape i).memory i.args ∧ ({} : Assume).holds C.prog (lone (Frame.enter C.prog f i.args .normal) [] (w.forCall tape i))) :
    ReturnsInHanded {} C os f .any (s.pre6 enc C.prog fn [] false) (s.post enc C.prog fn false true false false) :=
  returnsInHanded_of_change (C := C) own started noInit hfn witness
    fun W _ _ _ _ _ hval hW _ _ => law_contractN k hsh hl hnf hrt htb hvars hs hlo hG hval hW (hI W) (by rw [hK]; exact Nat.zero_le _)
end
end Go.Sx

