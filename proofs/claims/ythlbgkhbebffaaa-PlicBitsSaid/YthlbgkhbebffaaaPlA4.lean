/- The functions of the statements, as lists of plain steps, each tied to the program's own text by the kernel (part 4). Written by the generator. -/
import Derived.Test.YthlbgkhbebffaaaPlA3
namespace Go.Proofs.Ythlbgkhbebffaaa
open Go Go.Sx
set_option maxRecDepth 100000

/-! tandem/plic.New -/
def s6 : Sig := ⟨[], [], [], .s (.one (.p 0 (.c 0))), [some (.c true [some (.i .i64 (.h 0)), some (.b (.h 1)), some (.b (.h 2)), some (.b (.h 3)), some (.b (.h 4)), some (.b (.h 5)), some (.i .i64 (.h 6)), some (.b (.h 7)), some (.b (.h 8)), some (.b (.h 9)), some (.b (.h 10)), some (.b (.h 11)), some (.i .i64 (.h 12)), some (.b (.h 13)), some (.b (.h 14)), some (.b (.h 15)), some (.b (.h 16)), some (.b (.h 17)), some (.i .i64 (.h 18)), some (.b (.h 19)), some (.b (.h 20)), some (.b (.h 21)), some (.b (.h 22)), some (.b (.h 23)), some (.i .i64 (.h 24)), some (.b (.h 25)), some (.b (.h 26)), some (.b (.h 27)), some (.b (.h 28)), some (.b (.h 29)), some (.i .i64 (.h 30)), some (.b (.h 31)), some (.b (.h 32)), some (.b (.h 33)), some (.b (.h 34)), some (.b (.h 35)), some (.i .i64 (.h 36)), some (.b (.h 37)), some (.b (.h 38)), some (.b (.h 39)), some (.b (.h 40)), some (.b (.h 41)), some (.i .i64 (.h 42)), some (.b (.h 43)), some (.b (.h 44)), some (.b (.h 45)), some (.b (.h 46)), some (.b (.h 47)), some (.i .i64 (.h 48)), some (.b (.h 49)), some (.b (.h 50)), some (.b (.h 51)), some (.b (.h 52)), some (.b (.h 53)), some (.i .i64 (.h 54)), some (.i .i64 (.h 55))])], [.i, .b, .b, .b, .b, .b, .i, .b, .b, .b, .b, .b, .i, .b, .b, .b, .b, .b, .i, .b, .b, .b, .b, .b, .i, .b, .b, .b, .b, .b, .i, .b, .b, .b, .b, .b, .i, .b, .b, .b, .b, .b, .i, .b, .b, .b, .b, .b, .i, .b, .b, .b, .b, .b, .i, .i], false⟩
def o6 : Out := ⟨[],
  [],
  [],
  [.z 0, .t false, .t false, .t false, .t false, .t false, .z 0, .t false, .t false, .t false, .t false, .t false, .z 0, .t false, .t false, .t false, .t false, .t false, .z 0, .t false, .t false, .t false, .t false, .t false, .z 0, .t false, .t false, .t false, .t false, .t false, .z 0, .t false, .t false, .t false, .t false, .t false, .z 0, .t false, .t false, .t false, .t false, .t false, .z 0, .t false, .t false, .t false, .t false, .t false, .z 0, .t false, .t false, .t false, .t false, .t false, .z 0, .z 0]⟩
noncomputable def r6_0  : Int :=
  0
noncomputable def r6_1  : Bool :=
  false
noncomputable def r6_2  : Bool :=
  false
noncomputable def r6_3  : Bool :=
  false
noncomputable def r6_4  : Bool :=
  false
noncomputable def r6_5  : Bool :=
  false
noncomputable def r6_6  : Int :=
  0
noncomputable def r6_7  : Bool :=
  false
noncomputable def r6_8  : Bool :=
  false
noncomputable def r6_9  : Bool :=
  false
noncomputable def r6_10  : Bool :=
  false
noncomputable def r6_11  : Bool :=
  false
noncomputable def r6_12  : Int :=
  0
noncomputable def r6_13  : Bool :=
  false
noncomputable def r6_14  : Bool :=
  false
noncomputable def r6_15  : Bool :=
  false
noncomputable def r6_16  : Bool :=
  false
noncomputable def r6_17  : Bool :=
  false
noncomputable def r6_18  : Int :=
  0
noncomputable def r6_19  : Bool :=
  false
noncomputable def r6_20  : Bool :=
  false
noncomputable def r6_21  : Bool :=
  false
noncomputable def r6_22  : Bool :=
  false
noncomputable def r6_23  : Bool :=
  false
noncomputable def r6_24  : Int :=
  0
noncomputable def r6_25  : Bool :=
  false
noncomputable def r6_26  : Bool :=
  false
noncomputable def r6_27  : Bool :=
  false
noncomputable def r6_28  : Bool :=
  false
noncomputable def r6_29  : Bool :=
  false
noncomputable def r6_30  : Int :=
  0
noncomputable def r6_31  : Bool :=
  false
noncomputable def r6_32  : Bool :=
  false
noncomputable def r6_33  : Bool :=
  false
noncomputable def r6_34  : Bool :=
  false
noncomputable def r6_35  : Bool :=
  false
noncomputable def r6_36  : Int :=
  0
noncomputable def r6_37  : Bool :=
  false
noncomputable def r6_38  : Bool :=
  false
noncomputable def r6_39  : Bool :=
  false
noncomputable def r6_40  : Bool :=
  false
noncomputable def r6_41  : Bool :=
  false
noncomputable def r6_42  : Int :=
  0
noncomputable def r6_43  : Bool :=
  false
noncomputable def r6_44  : Bool :=
  false
noncomputable def r6_45  : Bool :=
  false
noncomputable def r6_46  : Bool :=
  false
noncomputable def r6_47  : Bool :=
  false
noncomputable def r6_48  : Int :=
  0
noncomputable def r6_49  : Bool :=
  false
noncomputable def r6_50  : Bool :=
  false
noncomputable def r6_51  : Bool :=
  false
noncomputable def r6_52  : Bool :=
  false
noncomputable def r6_53  : Bool :=
  false
noncomputable def r6_54  : Int :=
  0
noncomputable def r6_55  : Int :=
  0
noncomputable def g6 (_ds : List DV) : List DV := [.i (r6_0 ), .b (r6_1 ), .b (r6_2 ), .b (r6_3 ), .b (r6_4 ), .b (r6_5 ), .i (r6_6 ), .b (r6_7 ), .b (r6_8 ), .b (r6_9 ), .b (r6_10 ), .b (r6_11 ), .i (r6_12 ), .b (r6_13 ), .b (r6_14 ), .b (r6_15 ), .b (r6_16 ), .b (r6_17 ), .i (r6_18 ), .b (r6_19 ), .b (r6_20 ), .b (r6_21 ), .b (r6_22 ), .b (r6_23 ), .i (r6_24 ), .b (r6_25 ), .b (r6_26 ), .b (r6_27 ), .b (r6_28 ), .b (r6_29 ), .i (r6_30 ), .b (r6_31 ), .b (r6_32 ), .b (r6_33 ), .b (r6_34 ), .b (r6_35 ), .i (r6_36 ), .b (r6_37 ), .b (r6_38 ), .b (r6_39 ), .b (r6_40 ), .b (r6_41 ), .i (r6_42 ), .b (r6_43 ), .b (r6_44 ), .b (r6_45 ), .b (r6_46 ), .b (r6_47 ), .i (r6_48 ), .b (r6_49 ), .b (r6_50 ), .b (r6_51 ), .b (r6_52 ), .b (r6_53 ), .i (r6_54 ), .i (r6_55 )]
def S6 : Sigs := ⟨[], [], [], 0⟩
theorem ev6 : evFn Try.prog S6 2000 Try.f6 s6 = some o6 := by kernel_rfl

/-! (*tandem/plic.Plic).Copy -/
def s11 : Sig := ⟨[.s (.one (.p 0 (.c 0)))], [some (.c false [some (.i .i64 (.h 0)), some (.b (.h 1)), some (.b (.h 2)), some (.b (.h 3)), some (.b (.h 4)), some (.b (.h 5)), some (.i .i64 (.h 6)), some (.b (.h 7)), some (.b (.h 8)), some (.b (.h 9)), some (.b (.h 10)), some (.b (.h 11)), some (.i .i64 (.h 12)), some (.b (.h 13)), some (.b (.h 14)), some (.b (.h 15)), some (.b (.h 16)), some (.b (.h 17)), some (.i .i64 (.h 18)), some (.b (.h 19)), some (.b (.h 20)), some (.b (.h 21)), some (.b (.h 22)), some (.b (.h 23)), some (.i .i64 (.h 24)), some (.b (.h 25)), some (.b (.h 26)), some (.b (.h 27)), some (.b (.h 28)), some (.b (.h 29)), some (.i .i64 (.h 30)), some (.b (.h 31)), some (.b (.h 32)), some (.b (.h 33)), some (.b (.h 34)), some (.b (.h 35)), some (.i .i64 (.h 36)), some (.b (.h 37)), some (.b (.h 38)), some (.b (.h 39)), some (.b (.h 40)), some (.b (.h 41)), some (.i .i64 (.h 42)), some (.b (.h 43)), some (.b (.h 44)), some (.b (.h 45)), some (.b (.h 46)), some (.b (.h 47)), some (.i .i64 (.h 48)), some (.b (.h 49)), some (.b (.h 50)), some (.b (.h 51)), some (.b (.h 52)), some (.b (.h 53)), some (.i .i64 (.h 54)), some (.i .i64 (.h 55))])], [.i, .b, .b, .b, .b, .b, .i, .b, .b, .b, .b, .b, .i, .b, .b, .b, .b, .b, .i, .b, .b, .b, .b, .b, .i, .b, .b, .b, .b, .b, .i, .b, .b, .b, .b, .b, .i, .b, .b, .b, .b, .b, .i, .b, .b, .b, .b, .b, .i, .b, .b, .b, .b, .b, .i, .i], .s (.one (.p 1 (.c 0))), [none, some (.c true [some (.i .i64 (.h 0)), some (.b (.h 1)), some (.b (.h 2)), some (.b (.h 3)), some (.b (.h 4)), some (.b (.h 5)), some (.i .i64 (.h 6)), some (.b (.h 7)), some (.b (.h 8)), some (.b (.h 9)), some (.b (.h 10)), some (.b (.h 11)), some (.i .i64 (.h 12)), some (.b (.h 13)), some (.b (.h 14)), some (.b (.h 15)), some (.b (.h 16)), some (.b (.h 17)), some (.i .i64 (.h 18)), some (.b (.h 19)), some (.b (.h 20)), some (.b (.h 21)), some (.b (.h 22)), some (.b (.h 23)), some (.i .i64 (.h 24)), some (.b (.h 25)), some (.b (.h 26)), some (.b (.h 27)), some (.b (.h 28)), some (.b (.h 29)), some (.i .i64 (.h 30)), some (.b (.h 31)), some (.b (.h 32)), some (.b (.h 33)), some (.b (.h 34)), some (.b (.h 35)), some (.i .i64 (.h 36)), some (.b (.h 37)), some (.b (.h 38)), some (.b (.h 39)), some (.b (.h 40)), some (.b (.h 41)), some (.i .i64 (.h 42)), some (.b (.h 43)), some (.b (.h 44)), some (.b (.h 45)), some (.b (.h 46)), some (.b (.h 47)), some (.i .i64 (.h 48)), some (.b (.h 49)), some (.b (.h 50)), some (.b (.h 51)), some (.b (.h 52)), some (.b (.h 53)), some (.i .i64 (.h 54)), some (.i .i64 (.h 55))])], [.i, .b, .b, .b, .b, .b, .i, .b, .b, .b, .b, .b, .i, .b, .b, .b, .b, .b, .i, .b, .b, .b, .b, .b, .i, .b, .b, .b, .b, .b, .i, .b, .b, .b, .b, .b, .i, .b, .b, .b, .b, .b, .i, .b, .b, .b, .b, .b, .i, .b, .b, .b, .b, .b, .i, .i], false⟩
def o11 : Out := ⟨[],
  [],
  [],
  (idsFrom 0 56)⟩
noncomputable def r11_0 (x0 : Int) : Int :=
  x0
noncomputable def r11_1 (x1 : Bool) : Bool :=
  x1
noncomputable def r11_2 (x2 : Bool) : Bool :=
  x2
noncomputable def r11_3 (x3 : Bool) : Bool :=
  x3
noncomputable def r11_4 (x4 : Bool) : Bool :=
  x4
noncomputable def r11_5 (x5 : Bool) : Bool :=
  x5
noncomputable def r11_6 (x6 : Int) : Int :=
  x6
noncomputable def r11_7 (x7 : Bool) : Bool :=
  x7
noncomputable def r11_8 (x8 : Bool) : Bool :=
  x8
noncomputable def r11_9 (x9 : Bool) : Bool :=
  x9
noncomputable def r11_10 (x10 : Bool) : Bool :=
  x10
noncomputable def r11_11 (x11 : Bool) : Bool :=
  x11
noncomputable def r11_12 (x12 : Int) : Int :=
  x12
noncomputable def r11_13 (x13 : Bool) : Bool :=
  x13
noncomputable def r11_14 (x14 : Bool) : Bool :=
  x14
noncomputable def r11_15 (x15 : Bool) : Bool :=
  x15
noncomputable def r11_16 (x16 : Bool) : Bool :=
  x16
noncomputable def r11_17 (x17 : Bool) : Bool :=
  x17
noncomputable def r11_18 (x18 : Int) : Int :=
  x18
noncomputable def r11_19 (x19 : Bool) : Bool :=
  x19
noncomputable def r11_20 (x20 : Bool) : Bool :=
  x20
noncomputable def r11_21 (x21 : Bool) : Bool :=
  x21
noncomputable def r11_22 (x22 : Bool) : Bool :=
  x22
noncomputable def r11_23 (x23 : Bool) : Bool :=
  x23
noncomputable def r11_24 (x24 : Int) : Int :=
  x24
noncomputable def r11_25 (x25 : Bool) : Bool :=
  x25
noncomputable def r11_26 (x26 : Bool) : Bool :=
  x26
noncomputable def r11_27 (x27 : Bool) : Bool :=
  x27
noncomputable def r11_28 (x28 : Bool) : Bool :=
  x28
noncomputable def r11_29 (x29 : Bool) : Bool :=
  x29
noncomputable def r11_30 (x30 : Int) : Int :=
  x30
noncomputable def r11_31 (x31 : Bool) : Bool :=
  x31
noncomputable def r11_32 (x32 : Bool) : Bool :=
  x32
noncomputable def r11_33 (x33 : Bool) : Bool :=
  x33
noncomputable def r11_34 (x34 : Bool) : Bool :=
  x34
noncomputable def r11_35 (x35 : Bool) : Bool :=
  x35
noncomputable def r11_36 (x36 : Int) : Int :=
  x36
noncomputable def r11_37 (x37 : Bool) : Bool :=
  x37
noncomputable def r11_38 (x38 : Bool) : Bool :=
  x38
noncomputable def r11_39 (x39 : Bool) : Bool :=
  x39
noncomputable def r11_40 (x40 : Bool) : Bool :=
  x40
noncomputable def r11_41 (x41 : Bool) : Bool :=
  x41
noncomputable def r11_42 (x42 : Int) : Int :=
  x42
noncomputable def r11_43 (x43 : Bool) : Bool :=
  x43
noncomputable def r11_44 (x44 : Bool) : Bool :=
  x44
noncomputable def r11_45 (x45 : Bool) : Bool :=
  x45
noncomputable def r11_46 (x46 : Bool) : Bool :=
  x46
noncomputable def r11_47 (x47 : Bool) : Bool :=
  x47
noncomputable def r11_48 (x48 : Int) : Int :=
  x48
noncomputable def r11_49 (x49 : Bool) : Bool :=
  x49
noncomputable def r11_50 (x50 : Bool) : Bool :=
  x50
noncomputable def r11_51 (x51 : Bool) : Bool :=
  x51
noncomputable def r11_52 (x52 : Bool) : Bool :=
  x52
noncomputable def r11_53 (x53 : Bool) : Bool :=
  x53
noncomputable def r11_54 (x54 : Int) : Int :=
  x54
noncomputable def r11_55 (x55 : Int) : Int :=
  x55
noncomputable def g11 (ds : List DV) : List DV := [.i (r11_0 (dget ds 0).toI), .b (r11_1 (dget ds 1).toB), .b (r11_2 (dget ds 2).toB), .b (r11_3 (dget ds 3).toB), .b (r11_4 (dget ds 4).toB), .b (r11_5 (dget ds 5).toB), .i (r11_6 (dget ds 6).toI), .b (r11_7 (dget ds 7).toB), .b (r11_8 (dget ds 8).toB), .b (r11_9 (dget ds 9).toB), .b (r11_10 (dget ds 10).toB), .b (r11_11 (dget ds 11).toB), .i (r11_12 (dget ds 12).toI), .b (r11_13 (dget ds 13).toB), .b (r11_14 (dget ds 14).toB), .b (r11_15 (dget ds 15).toB), .b (r11_16 (dget ds 16).toB), .b (r11_17 (dget ds 17).toB), .i (r11_18 (dget ds 18).toI), .b (r11_19 (dget ds 19).toB), .b (r11_20 (dget ds 20).toB), .b (r11_21 (dget ds 21).toB), .b (r11_22 (dget ds 22).toB), .b (r11_23 (dget ds 23).toB), .i (r11_24 (dget ds 24).toI), .b (r11_25 (dget ds 25).toB), .b (r11_26 (dget ds 26).toB), .b (r11_27 (dget ds 27).toB), .b (r11_28 (dget ds 28).toB), .b (r11_29 (dget ds 29).toB), .i (r11_30 (dget ds 30).toI), .b (r11_31 (dget ds 31).toB), .b (r11_32 (dget ds 32).toB), .b (r11_33 (dget ds 33).toB), .b (r11_34 (dget ds 34).toB), .b (r11_35 (dget ds 35).toB), .i (r11_36 (dget ds 36).toI), .b (r11_37 (dget ds 37).toB), .b (r11_38 (dget ds 38).toB), .b (r11_39 (dget ds 39).toB), .b (r11_40 (dget ds 40).toB), .b (r11_41 (dget ds 41).toB), .i (r11_42 (dget ds 42).toI), .b (r11_43 (dget ds 43).toB), .b (r11_44 (dget ds 44).toB), .b (r11_45 (dget ds 45).toB), .b (r11_46 (dget ds 46).toB), .b (r11_47 (dget ds 47).toB), .i (r11_48 (dget ds 48).toI), .b (r11_49 (dget ds 49).toB), .b (r11_50 (dget ds 50).toB), .b (r11_51 (dget ds 51).toB), .b (r11_52 (dget ds 52).toB), .b (r11_53 (dget ds 53).toB), .i (r11_54 (dget ds 54).toI), .i (r11_55 (dget ds 55).toI)]
def S11 : Sigs := ⟨[], [], [], 1⟩
theorem ev11 : evFn Try.prog S11 2000 Try.f11 s11 = some o11 := by kernel_rfl

/-! tandem/tandemlaw08.fixed -/
def s5 : Sig := ⟨[], [], [], .s (.one (.b (.h 0))), [], [.b], true⟩
def o5 : Out := ⟨callsAt 0 6 [] 0 56 ++ callsAt 56 7 (idsFrom 0 56 ++ [.z 12, .z 4, .z 250]) 0 58 ++ callsAt 114 7 (idsFrom 58 56 ++ [.z 8192, .z 4, .z 65535]) 0 58 ++ callsAt 172 10 (idsFrom 116 56 ++ [.z 3, .t true]) 0 58 ++ callsAt 230 8 (idsFrom 174 56 ++ [.z 4096, .z 4]) 0 59 ++ [(289, .call 9 (idsFrom 233 56) 0), (290, .call 9 (idsFrom 233 56) 1)] ++ callsAt 291 11 (idsFrom 233 56) 0 56 ++ callsAt 347 8 (idsFrom 233 56 ++ [.z 2097156, .z 4]) 0 59 ++ [(406, .and (.r 57) (.r 115)), (407, .and (.r 406) (.r 173)), (408, .and (.r 407) (.r 232)), (409, .eql (.r 231) (.z 8)), (410, .and (.r 408) (.r 409)), (411, .eql (.r 290) (.z 2048)), (412, .and (.r 410) (.r 411)), (413, .and (.r 412) (.r 349)), (414, .eql (.r 348) (.z 3)), (415, .and (.r 413) (.r 414)), (416, .call 9 (idsFrom 350 56) 0), (417, .call 9 (idsFrom 350 56) 1), (418, .eql (.r 417) (.z 0)), (419, .and (.r 415) (.r 418)), (420, .call 9 (idsFrom 291 56) 0), (421, .call 9 (idsFrom 291 56) 1), (422, .eql (.r 421) (.z 2048)), (423, .and (.r 419) (.r 422))] ++ callsAt 424 10 (idsFrom 350 56 ++ [.z 9, .t true]) 0 58 ++ [(482, .itei (.r 423) (.r 426) (.r 350)), (483, .iteb (.r 423) (.r 427) (.r 351)), (484, .iteb (.r 423) (.r 428) (.r 352)), (485, .iteb (.r 423) (.r 429) (.r 353)), (486, .iteb (.r 423) (.r 430) (.r 354)), (487, .iteb (.r 423) (.r 431) (.r 355)), (488, .itei (.r 423) (.r 432) (.r 356)), (489, .iteb (.r 423) (.r 433) (.r 357)), (490, .iteb (.r 423) (.r 434) (.r 358)), (491, .iteb (.r 423) (.r 435) (.r 359)), (492, .iteb (.r 423) (.r 436) (.r 360)), (493, .iteb (.r 423) (.r 437) (.r 361)), (494, .itei (.r 423) (.r 438) (.r 362)), (495, .iteb (.r 423) (.r 439) (.r 363)), (496, .iteb (.r 423) (.r 440) (.r 364)), (497, .iteb (.r 423) (.r 441) (.r 365)), (498, .iteb (.r 423) (.r 442) (.r 366)), (499, .iteb (.r 423) (.r 443) (.r 367)), (500, .itei (.r 423) (.r 444) (.r 368)), (501, .iteb (.r 423) (.r 445) (.r 369)), (502, .iteb (.r 423) (.r 446) (.r 370)), (503, .iteb (.r 423) (.r 447) (.r 371)), (504, .iteb (.r 423) (.r 448) (.r 372)), (505, .iteb (.r 423) (.r 449) (.r 373)), (506, .itei (.r 423) (.r 450) (.r 374)), (507, .iteb (.r 423) (.r 451) (.r 375)), (508, .iteb (.r 423) (.r 452) (.r 376)), (509, .iteb (.r 423) (.r 453) (.r 377)), (510, .iteb (.r 423) (.r 454) (.r 378)), (511, .iteb (.r 423) (.r 455) (.r 379)), (512, .itei (.r 423) (.r 456) (.r 380)), (513, .iteb (.r 423) (.r 457) (.r 381)), (514, .iteb (.r 423) (.r 458) (.r 382)), (515, .iteb (.r 423) (.r 459) (.r 383)), (516, .iteb (.r 423) (.r 460) (.r 384)), (517, .iteb (.r 423) (.r 461) (.r 385)), (518, .itei (.r 423) (.r 462) (.r 386)), (519, .iteb (.r 423) (.r 463) (.r 387)), (520, .iteb (.r 423) (.r 464) (.r 388)), (521, .iteb (.r 423) (.r 465) (.r 389)), (522, .iteb (.r 423) (.r 466) (.r 390)), (523, .iteb (.r 423) (.r 467) (.r 391)), (524, .itei (.r 423) (.r 468) (.r 392)), (525, .iteb (.r 423) (.r 469) (.r 393)), (526, .iteb (.r 423) (.r 470) (.r 394)), (527, .iteb (.r 423) (.r 471) (.r 395)), (528, .iteb (.r 423) (.r 472) (.r 396)), (529, .iteb (.r 423) (.r 473) (.r 397)), (530, .itei (.r 423) (.r 474) (.r 398)), (531, .iteb (.r 423) (.r 475) (.r 399)), (532, .iteb (.r 423) (.r 476) (.r 400)), (533, .iteb (.r 423) (.r 477) (.r 401)), (534, .iteb (.r 423) (.r 478) (.r 402)), (535, .iteb (.r 423) (.r 479) (.r 403)), (536, .itei (.r 423) (.r 480) (.r 404)), (537, .itei (.r 423) (.r 481) (.r 405)), (538, .not (.r 425)), (539, .and (.r 423) (.r 538))] ++ callsAt 540 7 (idsFrom 482 56 ++ [.z 2097156, .z 4, .z 3]) 0 58 ++ [(598, .itei (.r 539) (.r 542) (.r 482)), (599, .iteb (.r 539) (.r 543) (.r 483)), (600, .iteb (.r 539) (.r 544) (.r 484)), (601, .iteb (.r 539) (.r 545) (.r 485)), (602, .iteb (.r 539) (.r 546) (.r 486)), (603, .iteb (.r 539) (.r 547) (.r 487)), (604, .itei (.r 539) (.r 548) (.r 488)), (605, .iteb (.r 539) (.r 549) (.r 489)), (606, .iteb (.r 539) (.r 550) (.r 490)), (607, .iteb (.r 539) (.r 551) (.r 491)), (608, .iteb (.r 539) (.r 552) (.r 492)), (609, .iteb (.r 539) (.r 553) (.r 493)), (610, .itei (.r 539) (.r 554) (.r 494)), (611, .iteb (.r 539) (.r 555) (.r 495)), (612, .iteb (.r 539) (.r 556) (.r 496)), (613, .iteb (.r 539) (.r 557) (.r 497)), (614, .iteb (.r 539) (.r 558) (.r 498)), (615, .iteb (.r 539) (.r 559) (.r 499)), (616, .itei (.r 539) (.r 560) (.r 500)), (617, .iteb (.r 539) (.r 561) (.r 501)), (618, .iteb (.r 539) (.r 562) (.r 502)), (619, .iteb (.r 539) (.r 563) (.r 503)), (620, .iteb (.r 539) (.r 564) (.r 504)), (621, .iteb (.r 539) (.r 565) (.r 505)), (622, .itei (.r 539) (.r 566) (.r 506)), (623, .iteb (.r 539) (.r 567) (.r 507)), (624, .iteb (.r 539) (.r 568) (.r 508)), (625, .iteb (.r 539) (.r 569) (.r 509)), (626, .iteb (.r 539) (.r 570) (.r 510)), (627, .iteb (.r 539) (.r 571) (.r 511)), (628, .itei (.r 539) (.r 572) (.r 512)), (629, .iteb (.r 539) (.r 573) (.r 513)), (630, .iteb (.r 539) (.r 574) (.r 514)), (631, .iteb (.r 539) (.r 575) (.r 515)), (632, .iteb (.r 539) (.r 576) (.r 516)), (633, .iteb (.r 539) (.r 577) (.r 517)), (634, .itei (.r 539) (.r 578) (.r 518)), (635, .iteb (.r 539) (.r 579) (.r 519)), (636, .iteb (.r 539) (.r 580) (.r 520)), (637, .iteb (.r 539) (.r 581) (.r 521)), (638, .iteb (.r 539) (.r 582) (.r 522)), (639, .iteb (.r 539) (.r 583) (.r 523)), (640, .itei (.r 539) (.r 584) (.r 524)), (641, .iteb (.r 539) (.r 585) (.r 525)), (642, .iteb (.r 539) (.r 586) (.r 526)), (643, .iteb (.r 539) (.r 587) (.r 527)), (644, .iteb (.r 539) (.r 588) (.r 528)), (645, .iteb (.r 539) (.r 589) (.r 529)), (646, .itei (.r 539) (.r 590) (.r 530)), (647, .iteb (.r 539) (.r 591) (.r 531)), (648, .iteb (.r 539) (.r 592) (.r 532)), (649, .iteb (.r 539) (.r 593) (.r 533)), (650, .iteb (.r 539) (.r 594) (.r 534)), (651, .iteb (.r 539) (.r 595) (.r 535)), (652, .itei (.r 539) (.r 596) (.r 536)), (653, .itei (.r 539) (.r 597) (.r 537)), (654, .and (.r 539) (.r 541)), (655, .call 9 (idsFrom 598 56) 0), (656, .call 9 (idsFrom 598 56) 1), (657, .eql (.r 656) (.z 2048)), (658, .and (.r 654) (.r 657))],
  [⟨[], .r 56⟩, ⟨[], .r 114⟩, ⟨[], .r 172⟩, ⟨[], .r 230⟩, ⟨[], .r 289⟩, ⟨[], .r 347⟩, ⟨[(.r 415, true)], .r 416⟩, ⟨[(.r 419, true)], .r 420⟩, ⟨[(.r 423, true)], .r 424⟩, ⟨[(.r 539, true)], .r 540⟩, ⟨[(.r 654, true)], .r 655⟩],
  [],
  [.r 658]⟩
noncomputable def p5  : Bool :=
  let y0 := g6 []
  let y56 := g7 (segD y0 0 56 ++ [.i 12, .i 4, .i 250])
  let x56 := (dget y56 0).toB
  let x57 := (dget y56 1).toB
  let y114 := g7 (segD y56 2 56 ++ [.i 8192, .i 4, .i 65535])
  let x114 := (dget y114 0).toB
  let x115 := (dget y114 1).toB
  let y172 := g10 (segD y114 2 56 ++ [.i 3, .b true])
  let x172 := (dget y172 0).toB
  let x173 := (dget y172 1).toB
  let y230 := g8 (segD y172 2 56 ++ [.i 4096, .i 4])
  let x230 := (dget y230 0).toB
  let x231 := (dget y230 1).toI
  let x232 := (dget y230 2).toB
  let x233 := (dget y230 3).toI
  let x239 := (dget y230 9).toI
  let x241 := (dget y230 11).toB
  let x243 := (dget y230 13).toB
  let x244 := (dget y230 14).toB
  let x245 := (dget y230 15).toI
  let x247 := (dget y230 17).toB
  let x249 := (dget y230 19).toB
  let x250 := (dget y230 20).toB
  let x251 := (dget y230 21).toI
  let x253 := (dget y230 23).toB
  let x255 := (dget y230 25).toB
  let x256 := (dget y230 26).toB
  let x257 := (dget y230 27).toI
  let x259 := (dget y230 29).toB
  let x261 := (dget y230 31).toB
  let x262 := (dget y230 32).toB
  let x263 := (dget y230 33).toI
  let x265 := (dget y230 35).toB
  let x267 := (dget y230 37).toB
  let x268 := (dget y230 38).toB
  let x269 := (dget y230 39).toI
  let x271 := (dget y230 41).toB
  let x273 := (dget y230 43).toB
  let x274 := (dget y230 44).toB
  let x275 := (dget y230 45).toI
  let x277 := (dget y230 47).toB
  let x279 := (dget y230 49).toB
  let x280 := (dget y230 50).toB
  let x281 := (dget y230 51).toI
  let x283 := (dget y230 53).toB
  let x285 := (dget y230 55).toB
  let x286 := (dget y230 56).toB
  let x287 := (dget y230 57).toI
  let x288 := (dget y230 58).toI
  let x289 := p9 x233 x239 x241 x243 x244 x245 x247 x249 x250 x251 x253 x255 x256 x257 x259 x261 x262 x263 x265 x267 x268 x269 x271 x273 x274 x275 x277 x279 x280 x281 x283 x285 x286
  let x290 := r9_0 x233 x239 x241 x243 x244 x245 x247 x249 x250 x251 x253 x255 x256 x257 x259 x261 x262 x263 x265 x267 x268 x269 x271 x273 x274 x275 x277 x279 x280 x281 x283 x285 x286 x287 x288
  let y291 := g11 (segD y230 3 56)
  let x291 := (dget y291 0).toI
  let x297 := (dget y291 6).toI
  let x299 := (dget y291 8).toB
  let x301 := (dget y291 10).toB
  let x302 := (dget y291 11).toB
  let x303 := (dget y291 12).toI
  let x305 := (dget y291 14).toB
  let x307 := (dget y291 16).toB
  let x308 := (dget y291 17).toB
  let x309 := (dget y291 18).toI
  let x311 := (dget y291 20).toB
  let x313 := (dget y291 22).toB
  let x314 := (dget y291 23).toB
  let x315 := (dget y291 24).toI
  let x317 := (dget y291 26).toB
  let x319 := (dget y291 28).toB
  let x320 := (dget y291 29).toB
  let x321 := (dget y291 30).toI
  let x323 := (dget y291 32).toB
  let x325 := (dget y291 34).toB
  let x326 := (dget y291 35).toB
  let x327 := (dget y291 36).toI
  let x329 := (dget y291 38).toB
  let x331 := (dget y291 40).toB
  let x332 := (dget y291 41).toB
  let x333 := (dget y291 42).toI
  let x335 := (dget y291 44).toB
  let x337 := (dget y291 46).toB
  let x338 := (dget y291 47).toB
  let x339 := (dget y291 48).toI
  let x341 := (dget y291 50).toB
  let x343 := (dget y291 52).toB
  let x344 := (dget y291 53).toB
  let x345 := (dget y291 54).toI
  let x346 := (dget y291 55).toI
  let y347 := g8 (segD y230 3 56 ++ [.i 2097156, .i 4])
  let x347 := (dget y347 0).toB
  let x348 := (dget y347 1).toI
  let x349 := (dget y347 2).toB
  let x350 := (dget y347 3).toI
  let x351 := (dget y347 4).toB
  let x352 := (dget y347 5).toB
  let x353 := (dget y347 6).toB
  let x354 := (dget y347 7).toB
  let x355 := (dget y347 8).toB
  let x356 := (dget y347 9).toI
  let x357 := (dget y347 10).toB
  let x358 := (dget y347 11).toB
  let x359 := (dget y347 12).toB
  let x360 := (dget y347 13).toB
  let x361 := (dget y347 14).toB
  let x362 := (dget y347 15).toI
  let x363 := (dget y347 16).toB
  let x364 := (dget y347 17).toB
  let x365 := (dget y347 18).toB
  let x366 := (dget y347 19).toB
  let x367 := (dget y347 20).toB
  let x368 := (dget y347 21).toI
  let x369 := (dget y347 22).toB
  let x370 := (dget y347 23).toB
  let x371 := (dget y347 24).toB
  let x372 := (dget y347 25).toB
  let x373 := (dget y347 26).toB
  let x374 := (dget y347 27).toI
  let x375 := (dget y347 28).toB
  let x376 := (dget y347 29).toB
  let x377 := (dget y347 30).toB
  let x378 := (dget y347 31).toB
  let x379 := (dget y347 32).toB
  let x380 := (dget y347 33).toI
  let x381 := (dget y347 34).toB
  let x382 := (dget y347 35).toB
  let x383 := (dget y347 36).toB
  let x384 := (dget y347 37).toB
  let x385 := (dget y347 38).toB
  let x386 := (dget y347 39).toI
  let x387 := (dget y347 40).toB
  let x388 := (dget y347 41).toB
  let x389 := (dget y347 42).toB
  let x390 := (dget y347 43).toB
  let x391 := (dget y347 44).toB
  let x392 := (dget y347 45).toI
  let x393 := (dget y347 46).toB
  let x394 := (dget y347 47).toB
  let x395 := (dget y347 48).toB
  let x396 := (dget y347 49).toB
  let x397 := (dget y347 50).toB
  let x398 := (dget y347 51).toI
  let x399 := (dget y347 52).toB
  let x400 := (dget y347 53).toB
  let x401 := (dget y347 54).toB
  let x402 := (dget y347 55).toB
  let x403 := (dget y347 56).toB
  let x404 := (dget y347 57).toI
  let x405 := (dget y347 58).toI
  let x406 := x57 && x115
  let x407 := x406 && x173
  let x408 := x407 && x232
  let x409 := x231 == 8
  let x410 := x408 && x409
  let x411 := x290 == 2048
  let x412 := x410 && x411
  let x413 := x412 && x349
  let x414 := x348 == 3
  let x415 := x413 && x414
  let x416 := p9 x350 x356 x358 x360 x361 x362 x364 x366 x367 x368 x370 x372 x373 x374 x376 x378 x379 x380 x382 x384 x385 x386 x388 x390 x391 x392 x394 x396 x397 x398 x400 x402 x403
  let x417 := r9_0 x350 x356 x358 x360 x361 x362 x364 x366 x367 x368 x370 x372 x373 x374 x376 x378 x379 x380 x382 x384 x385 x386 x388 x390 x391 x392 x394 x396 x397 x398 x400 x402 x403 x404 x405
  let x418 := x417 == 0
  let x419 := x415 && x418
  let x420 := p9 x291 x297 x299 x301 x302 x303 x305 x307 x308 x309 x311 x313 x314 x315 x317 x319 x320 x321 x323 x325 x326 x327 x329 x331 x332 x333 x335 x337 x338 x339 x341 x343 x344
  let x421 := r9_0 x291 x297 x299 x301 x302 x303 x305 x307 x308 x309 x311 x313 x314 x315 x317 x319 x320 x321 x323 x325 x326 x327 x329 x331 x332 x333 x335 x337 x338 x339 x341 x343 x344 x345 x346
  let x422 := x421 == 2048
  let x423 := x419 && x422
  let y424 := g10 (segD y347 3 56 ++ [.i 9, .b true])
  let x424 := (dget y424 0).toB
  let x425 := (dget y424 1).toB
  let x426 := (dget y424 2).toI
  let x427 := (dget y424 3).toB
  let x428 := (dget y424 4).toB
  let x429 := (dget y424 5).toB
  let x430 := (dget y424 6).toB
  let x431 := (dget y424 7).toB
  let x432 := (dget y424 8).toI
  let x433 := (dget y424 9).toB
  let x434 := (dget y424 10).toB
  let x435 := (dget y424 11).toB
  let x436 := (dget y424 12).toB
  let x437 := (dget y424 13).toB
  let x438 := (dget y424 14).toI
  let x439 := (dget y424 15).toB
  let x440 := (dget y424 16).toB
  let x441 := (dget y424 17).toB
  let x442 := (dget y424 18).toB
  let x443 := (dget y424 19).toB
  let x444 := (dget y424 20).toI
  let x445 := (dget y424 21).toB
  let x446 := (dget y424 22).toB
  let x447 := (dget y424 23).toB
  let x448 := (dget y424 24).toB
  let x449 := (dget y424 25).toB
  let x450 := (dget y424 26).toI
  let x451 := (dget y424 27).toB
  let x452 := (dget y424 28).toB
  let x453 := (dget y424 29).toB
  let x454 := (dget y424 30).toB
  let x455 := (dget y424 31).toB
  let x456 := (dget y424 32).toI
  let x457 := (dget y424 33).toB
  let x458 := (dget y424 34).toB
  let x459 := (dget y424 35).toB
  let x460 := (dget y424 36).toB
  let x461 := (dget y424 37).toB
  let x462 := (dget y424 38).toI
  let x463 := (dget y424 39).toB
  let x464 := (dget y424 40).toB
  let x465 := (dget y424 41).toB
  let x466 := (dget y424 42).toB
  let x467 := (dget y424 43).toB
  let x468 := (dget y424 44).toI
  let x469 := (dget y424 45).toB
  let x470 := (dget y424 46).toB
  let x471 := (dget y424 47).toB
  let x472 := (dget y424 48).toB
  let x473 := (dget y424 49).toB
  let x474 := (dget y424 50).toI
  let x475 := (dget y424 51).toB
  let x476 := (dget y424 52).toB
  let x477 := (dget y424 53).toB
  let x478 := (dget y424 54).toB
  let x479 := (dget y424 55).toB
  let x480 := (dget y424 56).toI
  let x481 := (dget y424 57).toI
  let x482 := bif x423 then x426 else x350
  let x483 := bif x423 then x427 else x351
  let x484 := bif x423 then x428 else x352
  let x485 := bif x423 then x429 else x353
  let x486 := bif x423 then x430 else x354
  let x487 := bif x423 then x431 else x355
  let x488 := bif x423 then x432 else x356
  let x489 := bif x423 then x433 else x357
  let x490 := bif x423 then x434 else x358
  let x491 := bif x423 then x435 else x359
  let x492 := bif x423 then x436 else x360
  let x493 := bif x423 then x437 else x361
  let x494 := bif x423 then x438 else x362
  let x495 := bif x423 then x439 else x363
  let x496 := bif x423 then x440 else x364
  let x497 := bif x423 then x441 else x365
  let x498 := bif x423 then x442 else x366
  let x499 := bif x423 then x443 else x367
  let x500 := bif x423 then x444 else x368
  let x501 := bif x423 then x445 else x369
  let x502 := bif x423 then x446 else x370
  let x503 := bif x423 then x447 else x371
  let x504 := bif x423 then x448 else x372
  let x505 := bif x423 then x449 else x373
  let x506 := bif x423 then x450 else x374
  let x507 := bif x423 then x451 else x375
  let x508 := bif x423 then x452 else x376
  let x509 := bif x423 then x453 else x377
  let x510 := bif x423 then x454 else x378
  let x511 := bif x423 then x455 else x379
  let x512 := bif x423 then x456 else x380
  let x513 := bif x423 then x457 else x381
  let x514 := bif x423 then x458 else x382
  let x515 := bif x423 then x459 else x383
  let x516 := bif x423 then x460 else x384
  let x517 := bif x423 then x461 else x385
  let x518 := bif x423 then x462 else x386
  let x519 := bif x423 then x463 else x387
  let x520 := bif x423 then x464 else x388
  let x521 := bif x423 then x465 else x389
  let x522 := bif x423 then x466 else x390
  let x523 := bif x423 then x467 else x391
  let x524 := bif x423 then x468 else x392
  let x525 := bif x423 then x469 else x393
  let x526 := bif x423 then x470 else x394
  let x527 := bif x423 then x471 else x395
  let x528 := bif x423 then x472 else x396
  let x529 := bif x423 then x473 else x397
  let x530 := bif x423 then x474 else x398
  let x531 := bif x423 then x475 else x399
  let x532 := bif x423 then x476 else x400
  let x533 := bif x423 then x477 else x401
  let x534 := bif x423 then x478 else x402
  let x535 := bif x423 then x479 else x403
  let x536 := bif x423 then x480 else x404
  let x537 := bif x423 then x481 else x405
  let x538 := !x425
  let x539 := x423 && x538
  let y540 := g7 [.i x482, .b x483, .b x484, .b x485, .b x486, .b x487, .i x488, .b x489, .b x490, .b x491, .b x492, .b x493, .i x494, .b x495, .b x496, .b x497, .b x498, .b x499, .i x500, .b x501, .b x502, .b x503, .b x504, .b x505, .i x506, .b x507, .b x508, .b x509, .b x510, .b x511, .i x512, .b x513, .b x514, .b x515, .b x516, .b x517, .i x518, .b x519, .b x520, .b x521, .b x522, .b x523, .i x524, .b x525, .b x526, .b x527, .b x528, .b x529, .i x530, .b x531, .b x532, .b x533, .b x534, .b x535, .i x536, .i x537, .i 2097156, .i 4, .i 3]
  let x540 := (dget y540 0).toB
  let x541 := (dget y540 1).toB
  let x542 := (dget y540 2).toI
  let x548 := (dget y540 8).toI
  let x550 := (dget y540 10).toB
  let x552 := (dget y540 12).toB
  let x553 := (dget y540 13).toB
  let x554 := (dget y540 14).toI
  let x556 := (dget y540 16).toB
  let x558 := (dget y540 18).toB
  let x559 := (dget y540 19).toB
  let x560 := (dget y540 20).toI
  let x562 := (dget y540 22).toB
  let x564 := (dget y540 24).toB
  let x565 := (dget y540 25).toB
  let x566 := (dget y540 26).toI
  let x568 := (dget y540 28).toB
  let x570 := (dget y540 30).toB
  let x571 := (dget y540 31).toB
  let x572 := (dget y540 32).toI
  let x574 := (dget y540 34).toB
  let x576 := (dget y540 36).toB
  let x577 := (dget y540 37).toB
  let x578 := (dget y540 38).toI
  let x580 := (dget y540 40).toB
  let x582 := (dget y540 42).toB
  let x583 := (dget y540 43).toB
  let x584 := (dget y540 44).toI
  let x586 := (dget y540 46).toB
  let x588 := (dget y540 48).toB
  let x589 := (dget y540 49).toB
  let x590 := (dget y540 50).toI
  let x592 := (dget y540 52).toB
  let x594 := (dget y540 54).toB
  let x595 := (dget y540 55).toB
  let x598 := bif x539 then x542 else x482
  let x604 := bif x539 then x548 else x488
  let x606 := bif x539 then x550 else x490
  let x608 := bif x539 then x552 else x492
  let x609 := bif x539 then x553 else x493
  let x610 := bif x539 then x554 else x494
  let x612 := bif x539 then x556 else x496
  let x614 := bif x539 then x558 else x498
  let x615 := bif x539 then x559 else x499
  let x616 := bif x539 then x560 else x500
  let x618 := bif x539 then x562 else x502
  let x620 := bif x539 then x564 else x504
  let x621 := bif x539 then x565 else x505
  let x622 := bif x539 then x566 else x506
  let x624 := bif x539 then x568 else x508
  let x626 := bif x539 then x570 else x510
  let x627 := bif x539 then x571 else x511
  let x628 := bif x539 then x572 else x512
  let x630 := bif x539 then x574 else x514
  let x632 := bif x539 then x576 else x516
  let x633 := bif x539 then x577 else x517
  let x634 := bif x539 then x578 else x518
  let x636 := bif x539 then x580 else x520
  let x638 := bif x539 then x582 else x522
  let x639 := bif x539 then x583 else x523
  let x640 := bif x539 then x584 else x524
  let x642 := bif x539 then x586 else x526
  let x644 := bif x539 then x588 else x528
  let x645 := bif x539 then x589 else x529
  let x646 := bif x539 then x590 else x530
  let x648 := bif x539 then x592 else x532
  let x650 := bif x539 then x594 else x534
  let x651 := bif x539 then x595 else x535
  let x654 := x539 && x541
  let x655 := p9 x598 x604 x606 x608 x609 x610 x612 x614 x615 x616 x618 x620 x621 x622 x624 x626 x627 x628 x630 x632 x633 x634 x636 x638 x639 x640 x642 x644 x645 x646 x648 x650 x651
  [ow [] x56, ow [] x114, ow [] x172, ow [] x230, ow [] x289, ow [] x347, ow [(x415, true)] x416, ow [(x419, true)] x420, ow [(x423, true)] x424, ow [(x539, true)] x540, ow [(x654, true)] x655].all id
noncomputable def r5_0  : Bool :=
  let y0 := g6 []
  let y57 := g7 (segD y0 0 56 ++ [.i 12, .i 4, .i 250])
  let x57 := (dget y57 1).toB
  let y115 := g7 (segD y57 2 56 ++ [.i 8192, .i 4, .i 65535])
  let x115 := (dget y115 1).toB
  let y173 := g10 (segD y115 2 56 ++ [.i 3, .b true])
  let x173 := (dget y173 1).toB
  let y231 := g8 (segD y173 2 56 ++ [.i 4096, .i 4])
  let x231 := (dget y231 1).toI
  let x232 := (dget y231 2).toB
  let x233 := (dget y231 3).toI
  let x239 := (dget y231 9).toI
  let x241 := (dget y231 11).toB
  let x243 := (dget y231 13).toB
  let x244 := (dget y231 14).toB
  let x245 := (dget y231 15).toI
  let x247 := (dget y231 17).toB
  let x249 := (dget y231 19).toB
  let x250 := (dget y231 20).toB
  let x251 := (dget y231 21).toI
  let x253 := (dget y231 23).toB
  let x255 := (dget y231 25).toB
  let x256 := (dget y231 26).toB
  let x257 := (dget y231 27).toI
  let x259 := (dget y231 29).toB
  let x261 := (dget y231 31).toB
  let x262 := (dget y231 32).toB
  let x263 := (dget y231 33).toI
  let x265 := (dget y231 35).toB
  let x267 := (dget y231 37).toB
  let x268 := (dget y231 38).toB
  let x269 := (dget y231 39).toI
  let x271 := (dget y231 41).toB
  let x273 := (dget y231 43).toB
  let x274 := (dget y231 44).toB
  let x275 := (dget y231 45).toI
  let x277 := (dget y231 47).toB
  let x279 := (dget y231 49).toB
  let x280 := (dget y231 50).toB
  let x281 := (dget y231 51).toI
  let x283 := (dget y231 53).toB
  let x285 := (dget y231 55).toB
  let x286 := (dget y231 56).toB
  let x287 := (dget y231 57).toI
  let x288 := (dget y231 58).toI
  let x290 := r9_0 x233 x239 x241 x243 x244 x245 x247 x249 x250 x251 x253 x255 x256 x257 x259 x261 x262 x263 x265 x267 x268 x269 x271 x273 x274 x275 x277 x279 x280 x281 x283 x285 x286 x287 x288
  let y291 := g11 (segD y231 3 56)
  let x291 := (dget y291 0).toI
  let x297 := (dget y291 6).toI
  let x299 := (dget y291 8).toB
  let x301 := (dget y291 10).toB
  let x302 := (dget y291 11).toB
  let x303 := (dget y291 12).toI
  let x305 := (dget y291 14).toB
  let x307 := (dget y291 16).toB
  let x308 := (dget y291 17).toB
  let x309 := (dget y291 18).toI
  let x311 := (dget y291 20).toB
  let x313 := (dget y291 22).toB
  let x314 := (dget y291 23).toB
  let x315 := (dget y291 24).toI
  let x317 := (dget y291 26).toB
  let x319 := (dget y291 28).toB
  let x320 := (dget y291 29).toB
  let x321 := (dget y291 30).toI
  let x323 := (dget y291 32).toB
  let x325 := (dget y291 34).toB
  let x326 := (dget y291 35).toB
  let x327 := (dget y291 36).toI
  let x329 := (dget y291 38).toB
  let x331 := (dget y291 40).toB
  let x332 := (dget y291 41).toB
  let x333 := (dget y291 42).toI
  let x335 := (dget y291 44).toB
  let x337 := (dget y291 46).toB
  let x338 := (dget y291 47).toB
  let x339 := (dget y291 48).toI
  let x341 := (dget y291 50).toB
  let x343 := (dget y291 52).toB
  let x344 := (dget y291 53).toB
  let x345 := (dget y291 54).toI
  let x346 := (dget y291 55).toI
  let y348 := g8 (segD y231 3 56 ++ [.i 2097156, .i 4])
  let x348 := (dget y348 1).toI
  let x349 := (dget y348 2).toB
  let x350 := (dget y348 3).toI
  let x351 := (dget y348 4).toB
  let x352 := (dget y348 5).toB
  let x353 := (dget y348 6).toB
  let x354 := (dget y348 7).toB
  let x355 := (dget y348 8).toB
  let x356 := (dget y348 9).toI
  let x357 := (dget y348 10).toB
  let x358 := (dget y348 11).toB
  let x359 := (dget y348 12).toB
  let x360 := (dget y348 13).toB
  let x361 := (dget y348 14).toB
  let x362 := (dget y348 15).toI
  let x363 := (dget y348 16).toB
  let x364 := (dget y348 17).toB
  let x365 := (dget y348 18).toB
  let x366 := (dget y348 19).toB
  let x367 := (dget y348 20).toB
  let x368 := (dget y348 21).toI
  let x369 := (dget y348 22).toB
  let x370 := (dget y348 23).toB
  let x371 := (dget y348 24).toB
  let x372 := (dget y348 25).toB
  let x373 := (dget y348 26).toB
  let x374 := (dget y348 27).toI
  let x375 := (dget y348 28).toB
  let x376 := (dget y348 29).toB
  let x377 := (dget y348 30).toB
  let x378 := (dget y348 31).toB
  let x379 := (dget y348 32).toB
  let x380 := (dget y348 33).toI
  let x381 := (dget y348 34).toB
  let x382 := (dget y348 35).toB
  let x383 := (dget y348 36).toB
  let x384 := (dget y348 37).toB
  let x385 := (dget y348 38).toB
  let x386 := (dget y348 39).toI
  let x387 := (dget y348 40).toB
  let x388 := (dget y348 41).toB
  let x389 := (dget y348 42).toB
  let x390 := (dget y348 43).toB
  let x391 := (dget y348 44).toB
  let x392 := (dget y348 45).toI
  let x393 := (dget y348 46).toB
  let x394 := (dget y348 47).toB
  let x395 := (dget y348 48).toB
  let x396 := (dget y348 49).toB
  let x397 := (dget y348 50).toB
  let x398 := (dget y348 51).toI
  let x399 := (dget y348 52).toB
  let x400 := (dget y348 53).toB
  let x401 := (dget y348 54).toB
  let x402 := (dget y348 55).toB
  let x403 := (dget y348 56).toB
  let x404 := (dget y348 57).toI
  let x405 := (dget y348 58).toI
  let x406 := x57 && x115
  let x407 := x406 && x173
  let x408 := x407 && x232
  let x409 := x231 == 8
  let x410 := x408 && x409
  let x411 := x290 == 2048
  let x412 := x410 && x411
  let x413 := x412 && x349
  let x414 := x348 == 3
  let x415 := x413 && x414
  let x417 := r9_0 x350 x356 x358 x360 x361 x362 x364 x366 x367 x368 x370 x372 x373 x374 x376 x378 x379 x380 x382 x384 x385 x386 x388 x390 x391 x392 x394 x396 x397 x398 x400 x402 x403 x404 x405
  let x418 := x417 == 0
  let x419 := x415 && x418
  let x421 := r9_0 x291 x297 x299 x301 x302 x303 x305 x307 x308 x309 x311 x313 x314 x315 x317 x319 x320 x321 x323 x325 x326 x327 x329 x331 x332 x333 x335 x337 x338 x339 x341 x343 x344 x345 x346
  let x422 := x421 == 2048
  let x423 := x419 && x422
  let y425 := g10 (segD y348 3 56 ++ [.i 9, .b true])
  let x425 := (dget y425 1).toB
  let x426 := (dget y425 2).toI
  let x427 := (dget y425 3).toB
  let x428 := (dget y425 4).toB
  let x429 := (dget y425 5).toB
  let x430 := (dget y425 6).toB
  let x431 := (dget y425 7).toB
  let x432 := (dget y425 8).toI
  let x433 := (dget y425 9).toB
  let x434 := (dget y425 10).toB
  let x435 := (dget y425 11).toB
  let x436 := (dget y425 12).toB
  let x437 := (dget y425 13).toB
  let x438 := (dget y425 14).toI
  let x439 := (dget y425 15).toB
  let x440 := (dget y425 16).toB
  let x441 := (dget y425 17).toB
  let x442 := (dget y425 18).toB
  let x443 := (dget y425 19).toB
  let x444 := (dget y425 20).toI
  let x445 := (dget y425 21).toB
  let x446 := (dget y425 22).toB
  let x447 := (dget y425 23).toB
  let x448 := (dget y425 24).toB
  let x449 := (dget y425 25).toB
  let x450 := (dget y425 26).toI
  let x451 := (dget y425 27).toB
  let x452 := (dget y425 28).toB
  let x453 := (dget y425 29).toB
  let x454 := (dget y425 30).toB
  let x455 := (dget y425 31).toB
  let x456 := (dget y425 32).toI
  let x457 := (dget y425 33).toB
  let x458 := (dget y425 34).toB
  let x459 := (dget y425 35).toB
  let x460 := (dget y425 36).toB
  let x461 := (dget y425 37).toB
  let x462 := (dget y425 38).toI
  let x463 := (dget y425 39).toB
  let x464 := (dget y425 40).toB
  let x465 := (dget y425 41).toB
  let x466 := (dget y425 42).toB
  let x467 := (dget y425 43).toB
  let x468 := (dget y425 44).toI
  let x469 := (dget y425 45).toB
  let x470 := (dget y425 46).toB
  let x471 := (dget y425 47).toB
  let x472 := (dget y425 48).toB
  let x473 := (dget y425 49).toB
  let x474 := (dget y425 50).toI
  let x475 := (dget y425 51).toB
  let x476 := (dget y425 52).toB
  let x477 := (dget y425 53).toB
  let x478 := (dget y425 54).toB
  let x479 := (dget y425 55).toB
  let x480 := (dget y425 56).toI
  let x481 := (dget y425 57).toI
  let x482 := bif x423 then x426 else x350
  let x483 := bif x423 then x427 else x351
  let x484 := bif x423 then x428 else x352
  let x485 := bif x423 then x429 else x353
  let x486 := bif x423 then x430 else x354
  let x487 := bif x423 then x431 else x355
  let x488 := bif x423 then x432 else x356
  let x489 := bif x423 then x433 else x357
  let x490 := bif x423 then x434 else x358
  let x491 := bif x423 then x435 else x359
  let x492 := bif x423 then x436 else x360
  let x493 := bif x423 then x437 else x361
  let x494 := bif x423 then x438 else x362
  let x495 := bif x423 then x439 else x363
  let x496 := bif x423 then x440 else x364
  let x497 := bif x423 then x441 else x365
  let x498 := bif x423 then x442 else x366
  let x499 := bif x423 then x443 else x367
  let x500 := bif x423 then x444 else x368
  let x501 := bif x423 then x445 else x369
  let x502 := bif x423 then x446 else x370
  let x503 := bif x423 then x447 else x371
  let x504 := bif x423 then x448 else x372
  let x505 := bif x423 then x449 else x373
  let x506 := bif x423 then x450 else x374
  let x507 := bif x423 then x451 else x375
  let x508 := bif x423 then x452 else x376
  let x509 := bif x423 then x453 else x377
  let x510 := bif x423 then x454 else x378
  let x511 := bif x423 then x455 else x379
  let x512 := bif x423 then x456 else x380
  let x513 := bif x423 then x457 else x381
  let x514 := bif x423 then x458 else x382
  let x515 := bif x423 then x459 else x383
  let x516 := bif x423 then x460 else x384
  let x517 := bif x423 then x461 else x385
  let x518 := bif x423 then x462 else x386
  let x519 := bif x423 then x463 else x387
  let x520 := bif x423 then x464 else x388
  let x521 := bif x423 then x465 else x389
  let x522 := bif x423 then x466 else x390
  let x523 := bif x423 then x467 else x391
  let x524 := bif x423 then x468 else x392
  let x525 := bif x423 then x469 else x393
  let x526 := bif x423 then x470 else x394
  let x527 := bif x423 then x471 else x395
  let x528 := bif x423 then x472 else x396
  let x529 := bif x423 then x473 else x397
  let x530 := bif x423 then x474 else x398
  let x531 := bif x423 then x475 else x399
  let x532 := bif x423 then x476 else x400
  let x533 := bif x423 then x477 else x401
  let x534 := bif x423 then x478 else x402
  let x535 := bif x423 then x479 else x403
  let x536 := bif x423 then x480 else x404
  let x537 := bif x423 then x481 else x405
  let x538 := !x425
  let x539 := x423 && x538
  let y541 := g7 [.i x482, .b x483, .b x484, .b x485, .b x486, .b x487, .i x488, .b x489, .b x490, .b x491, .b x492, .b x493, .i x494, .b x495, .b x496, .b x497, .b x498, .b x499, .i x500, .b x501, .b x502, .b x503, .b x504, .b x505, .i x506, .b x507, .b x508, .b x509, .b x510, .b x511, .i x512, .b x513, .b x514, .b x515, .b x516, .b x517, .i x518, .b x519, .b x520, .b x521, .b x522, .b x523, .i x524, .b x525, .b x526, .b x527, .b x528, .b x529, .i x530, .b x531, .b x532, .b x533, .b x534, .b x535, .i x536, .i x537, .i 2097156, .i 4, .i 3]
  let x541 := (dget y541 1).toB
  let x542 := (dget y541 2).toI
  let x548 := (dget y541 8).toI
  let x550 := (dget y541 10).toB
  let x552 := (dget y541 12).toB
  let x553 := (dget y541 13).toB
  let x554 := (dget y541 14).toI
  let x556 := (dget y541 16).toB
  let x558 := (dget y541 18).toB
  let x559 := (dget y541 19).toB
  let x560 := (dget y541 20).toI
  let x562 := (dget y541 22).toB
  let x564 := (dget y541 24).toB
  let x565 := (dget y541 25).toB
  let x566 := (dget y541 26).toI
  let x568 := (dget y541 28).toB
  let x570 := (dget y541 30).toB
  let x571 := (dget y541 31).toB
  let x572 := (dget y541 32).toI
  let x574 := (dget y541 34).toB
  let x576 := (dget y541 36).toB
  let x577 := (dget y541 37).toB
  let x578 := (dget y541 38).toI
  let x580 := (dget y541 40).toB
  let x582 := (dget y541 42).toB
  let x583 := (dget y541 43).toB
  let x584 := (dget y541 44).toI
  let x586 := (dget y541 46).toB
  let x588 := (dget y541 48).toB
  let x589 := (dget y541 49).toB
  let x590 := (dget y541 50).toI
  let x592 := (dget y541 52).toB
  let x594 := (dget y541 54).toB
  let x595 := (dget y541 55).toB
  let x596 := (dget y541 56).toI
  let x597 := (dget y541 57).toI
  let x598 := bif x539 then x542 else x482
  let x604 := bif x539 then x548 else x488
  let x606 := bif x539 then x550 else x490
  let x608 := bif x539 then x552 else x492
  let x609 := bif x539 then x553 else x493
  let x610 := bif x539 then x554 else x494
  let x612 := bif x539 then x556 else x496
  let x614 := bif x539 then x558 else x498
  let x615 := bif x539 then x559 else x499
  let x616 := bif x539 then x560 else x500
  let x618 := bif x539 then x562 else x502
  let x620 := bif x539 then x564 else x504
  let x621 := bif x539 then x565 else x505
  let x622 := bif x539 then x566 else x506
  let x624 := bif x539 then x568 else x508
  let x626 := bif x539 then x570 else x510
  let x627 := bif x539 then x571 else x511
  let x628 := bif x539 then x572 else x512
  let x630 := bif x539 then x574 else x514
  let x632 := bif x539 then x576 else x516
  let x633 := bif x539 then x577 else x517
  let x634 := bif x539 then x578 else x518
  let x636 := bif x539 then x580 else x520
  let x638 := bif x539 then x582 else x522
  let x639 := bif x539 then x583 else x523
  let x640 := bif x539 then x584 else x524
  let x642 := bif x539 then x586 else x526
  let x644 := bif x539 then x588 else x528
  let x645 := bif x539 then x589 else x529
  let x646 := bif x539 then x590 else x530
  let x648 := bif x539 then x592 else x532
  let x650 := bif x539 then x594 else x534
  let x651 := bif x539 then x595 else x535
  let x652 := bif x539 then x596 else x536
  let x653 := bif x539 then x597 else x537
  let x654 := x539 && x541
  let x656 := r9_0 x598 x604 x606 x608 x609 x610 x612 x614 x615 x616 x618 x620 x621 x622 x624 x626 x627 x628 x630 x632 x633 x634 x636 x638 x639 x640 x642 x644 x645 x646 x648 x650 x651 x652 x653
  let x657 := x656 == 2048
  let x658 := x654 && x657
  x658
noncomputable def g5 (_ds : List DV) : List DV := [.b (p5 ), .b (r5_0 )]
def S5 : Sigs := ⟨[(6, s6), (7, s7), (10, s10), (8, s8), (9, s9), (11, s11)], [], [], 0⟩
theorem ev5 : evFn Try.prog S5 2000 Try.f5 s5 = some o5 := by kernel_rfl

/-! tandem/tandemlaw08.PlicBits -/
def s3 : Sig := ⟨[.s (.one (.i .u64 (.h 0))), .s (.one (.i .u64 (.h 1))), .s (.one (.i .u64 (.h 2)))], [], [.i, .i, .i], .s (.one (.b (.h 0))), [], [.b], true⟩
def o3 : Out := ⟨[(3, .call 5 [] 0), (4, .call 5 [] 1), (5, .not (.r 4)), (6, .not (.r 5))] ++ callsAt 7 6 [] 0 56 ++ [(63, .rem .u64 (.r 0) (.z 9)), (64, .rem .u64 (.r 1) (.z 2)), (65, .mul .u64 (.z 4) (.r 63))] ++ callsAt 66 7 (idsFrom 7 56 ++ [.r 65, .z 4, .r 2]) 0 58 ++ [(124, .mul .u64 (.z 128) (.r 64)), (125, .add .u64 (.z 8192) (.r 124))] ++ callsAt 126 7 (idsFrom 68 56 ++ [.r 125, .z 4, .r 2]) 0 58 ++ [(184, .mul .u64 (.z 4096) (.r 64)), (185, .add .u64 (.z 2097152) (.r 184))] ++ callsAt 186 7 (idsFrom 128 56 ++ [.r 185, .z 4, .r 2]) 0 58 ++ callsAt 244 7 (idsFrom 188 56 ++ [.z 4096, .z 4, .r 2]) 0 58 ++ [(302, .mul .u64 (.z 4) (.r 63))] ++ callsAt 303 8 (idsFrom 246 57 ++ [.z 4]) 0 59 ++ [(362, .mul .u64 (.z 128) (.r 64)), (363, .add .u64 (.z 8192) (.r 362))] ++ callsAt 364 8 (idsFrom 306 56 ++ [.r 363, .z 4]) 0 59 ++ [(423, .sub .u64 (.z 1) (.r 64)), (424, .mul .u64 (.z 128) (.r 423)), (425, .add .u64 (.z 8192) (.r 424))] ++ callsAt 426 8 (idsFrom 367 56 ++ [.r 425, .z 4]) 0 59 ++ [(485, .mul .u64 (.z 4096) (.r 64)), (486, .add .u64 (.z 2097152) (.r 485))] ++ callsAt 487 8 (idsFrom 429 56 ++ [.r 486, .z 4]) 0 59 ++ [(546, .sub .u64 (.z 1) (.r 64)), (547, .mul .u64 (.z 4096) (.r 546)), (548, .add .u64 (.z 2097152) (.r 547))] ++ callsAt 549 8 (idsFrom 490 56 ++ [.r 548, .z 4]) 0 59 ++ callsAt 608 8 (idsFrom 552 56 ++ [.z 4096, .z 4]) 0 59 ++ [(667, .land .u64 (.r 2) (.z 7)), (668, .eql (.r 63) (.z 0)), (669, .itei (.r 668) (.z 0) (.r 667)), (670, .and (.r 67) (.r 127)), (671, .and (.r 670) (.r 187)), (672, .and (.r 671) (.r 245)), (673, .eql (.r 304) (.r 669)), (674, .and (.r 672) (.r 673)), (675, .land .u64 (.r 2) (.z 510)), (676, .eql (.r 365) (.r 675)), (677, .and (.r 674) (.r 676)), (678, .eql (.r 427) (.z 0)), (679, .and (.r 677) (.r 678)), (680, .land .u64 (.r 2) (.z 7)), (681, .eql (.r 488) (.r 680)), (682, .and (.r 679) (.r 681)), (683, .eql (.r 550) (.z 0)), (684, .and (.r 682) (.r 683)), (685, .eql (.r 609) (.z 0)), (686, .and (.r 684) (.r 685)), (687, .call 9 (idsFrom 611 56) 0), (688, .call 9 (idsFrom 611 56) 1), (689, .eql (.r 688) (.z 0)), (690, .and (.r 686) (.r 689)), (691, .and (.r 6) (.r 690))],
  [⟨[], .r 3⟩, ⟨[(.r 6, true)], .r 66⟩, ⟨[(.r 6, true)], .r 126⟩, ⟨[(.r 6, true)], .r 186⟩, ⟨[(.r 6, true)], .r 244⟩, ⟨[(.r 6, true)], .r 303⟩, ⟨[(.r 6, true)], .r 364⟩, ⟨[(.r 6, true)], .r 426⟩, ⟨[(.r 6, true)], .r 487⟩, ⟨[(.r 6, true)], .r 549⟩, ⟨[(.r 6, true)], .r 608⟩, ⟨[(.r 6, true), (.r 686, true)], .r 687⟩],
  [],
  [.r 691]⟩
noncomputable def p3 (x0 : Int) (x1 : Int) (x2 : Int) : Bool :=
  let x3 := p5 
  let x4 := r5_0 
  let x5 := !x4
  let x6 := !x5
  let y7 := g6 []
  let x63 := Int.tmod x0 9
  let x64 := Int.tmod x1 2
  let x65 := IntKind.wrap .u64 (4 * x63)
  let y66 := g7 (segD y7 0 56 ++ [.i x65, .i 4, .i x2])
  let x66 := (dget y66 0).toB
  let x67 := (dget y66 1).toB
  let x124 := IntKind.wrap .u64 (128 * x64)
  let x125 := IntKind.wrap .u64 (8192 + x124)
  let y126 := g7 (segD y66 2 56 ++ [.i x125, .i 4, .i x2])
  let x126 := (dget y126 0).toB
  let x127 := (dget y126 1).toB
  let x184 := IntKind.wrap .u64 (4096 * x64)
  let x185 := IntKind.wrap .u64 (2097152 + x184)
  let y186 := g7 (segD y126 2 56 ++ [.i x185, .i 4, .i x2])
  let x186 := (dget y186 0).toB
  let x187 := (dget y186 1).toB
  let y244 := g7 (segD y186 2 56 ++ [.i 4096, .i 4, .i x2])
  let x244 := (dget y244 0).toB
  let x245 := (dget y244 1).toB
  let x302 := IntKind.wrap .u64 (4 * x63)
  let y303 := g8 (segD y244 2 56 ++ [.i x302, .i 4])
  let x303 := (dget y303 0).toB
  let x304 := (dget y303 1).toI
  let x362 := IntKind.wrap .u64 (128 * x64)
  let x363 := IntKind.wrap .u64 (8192 + x362)
  let y364 := g8 (segD y303 3 56 ++ [.i x363, .i 4])
  let x364 := (dget y364 0).toB
  let x365 := (dget y364 1).toI
  let x423 := IntKind.wrap .u64 (1 - x64)
  let x424 := IntKind.wrap .u64 (128 * x423)
  let x425 := IntKind.wrap .u64 (8192 + x424)
  let y426 := g8 (segD y364 3 56 ++ [.i x425, .i 4])
  let x426 := (dget y426 0).toB
  let x427 := (dget y426 1).toI
  let x485 := IntKind.wrap .u64 (4096 * x64)
  let x486 := IntKind.wrap .u64 (2097152 + x485)
  let y487 := g8 (segD y426 3 56 ++ [.i x486, .i 4])
  let x487 := (dget y487 0).toB
  let x488 := (dget y487 1).toI
  let x546 := IntKind.wrap .u64 (1 - x64)
  let x547 := IntKind.wrap .u64 (4096 * x546)
  let x548 := IntKind.wrap .u64 (2097152 + x547)
  let y549 := g8 (segD y487 3 56 ++ [.i x548, .i 4])
  let x549 := (dget y549 0).toB
  let x550 := (dget y549 1).toI
  let y608 := g8 (segD y549 3 56 ++ [.i 4096, .i 4])
  let x608 := (dget y608 0).toB
  let x609 := (dget y608 1).toI
  let x611 := (dget y608 3).toI
  let x617 := (dget y608 9).toI
  let x619 := (dget y608 11).toB
  let x621 := (dget y608 13).toB
  let x622 := (dget y608 14).toB
  let x623 := (dget y608 15).toI
  let x625 := (dget y608 17).toB
  let x627 := (dget y608 19).toB
  let x628 := (dget y608 20).toB
  let x629 := (dget y608 21).toI
  let x631 := (dget y608 23).toB
  let x633 := (dget y608 25).toB
  let x634 := (dget y608 26).toB
  let x635 := (dget y608 27).toI
  let x637 := (dget y608 29).toB
  let x639 := (dget y608 31).toB
  let x640 := (dget y608 32).toB
  let x641 := (dget y608 33).toI
  let x643 := (dget y608 35).toB
  let x645 := (dget y608 37).toB
  let x646 := (dget y608 38).toB
  let x647 := (dget y608 39).toI
  let x649 := (dget y608 41).toB
  let x651 := (dget y608 43).toB
  let x652 := (dget y608 44).toB
  let x653 := (dget y608 45).toI
  let x655 := (dget y608 47).toB
  let x657 := (dget y608 49).toB
  let x658 := (dget y608 50).toB
  let x659 := (dget y608 51).toI
  let x661 := (dget y608 53).toB
  let x663 := (dget y608 55).toB
  let x664 := (dget y608 56).toB
  let x667 := iland .u64 x2 7
  let x668 := x63 == 0
  let x669 := bif x668 then 0 else x667
  let x670 := x67 && x127
  let x671 := x670 && x187
  let x672 := x671 && x245
  let x673 := x304 == x669
  let x674 := x672 && x673
  let x675 := iland .u64 x2 510
  let x676 := x365 == x675
  let x677 := x674 && x676
  let x678 := x427 == 0
  let x679 := x677 && x678
  let x680 := iland .u64 x2 7
  let x681 := x488 == x680
  let x682 := x679 && x681
  let x683 := x550 == 0
  let x684 := x682 && x683
  let x685 := x609 == 0
  let x686 := x684 && x685
  let x687 := p9 x611 x617 x619 x621 x622 x623 x625 x627 x628 x629 x631 x633 x634 x635 x637 x639 x640 x641 x643 x645 x646 x647 x649 x651 x652 x653 x655 x657 x658 x659 x661 x663 x664
  [ow [] x3, ow [(x6, true)] x66, ow [(x6, true)] x126, ow [(x6, true)] x186, ow [(x6, true)] x244, ow [(x6, true)] x303, ow [(x6, true)] x364, ow [(x6, true)] x426, ow [(x6, true)] x487, ow [(x6, true)] x549, ow [(x6, true)] x608, ow [(x6, true), (x686, true)] x687].all id
noncomputable def r3_0 (x0 : Int) (x1 : Int) (x2 : Int) : Bool :=
  let x4 := r5_0 
  let x5 := !x4
  let x6 := !x5
  let y7 := g6 []
  let x63 := Int.tmod x0 9
  let x64 := Int.tmod x1 2
  let x65 := IntKind.wrap .u64 (4 * x63)
  let y67 := g7 (segD y7 0 56 ++ [.i x65, .i 4, .i x2])
  let x67 := (dget y67 1).toB
  let x124 := IntKind.wrap .u64 (128 * x64)
  let x125 := IntKind.wrap .u64 (8192 + x124)
  let y127 := g7 (segD y67 2 56 ++ [.i x125, .i 4, .i x2])
  let x127 := (dget y127 1).toB
  let x184 := IntKind.wrap .u64 (4096 * x64)
  let x185 := IntKind.wrap .u64 (2097152 + x184)
  let y187 := g7 (segD y127 2 56 ++ [.i x185, .i 4, .i x2])
  let x187 := (dget y187 1).toB
  let y245 := g7 (segD y187 2 56 ++ [.i 4096, .i 4, .i x2])
  let x245 := (dget y245 1).toB
  let x302 := IntKind.wrap .u64 (4 * x63)
  let y304 := g8 (segD y245 2 56 ++ [.i x302, .i 4])
  let x304 := (dget y304 1).toI
  let x362 := IntKind.wrap .u64 (128 * x64)
  let x363 := IntKind.wrap .u64 (8192 + x362)
  let y365 := g8 (segD y304 3 56 ++ [.i x363, .i 4])
  let x365 := (dget y365 1).toI
  let x423 := IntKind.wrap .u64 (1 - x64)
  let x424 := IntKind.wrap .u64 (128 * x423)
  let x425 := IntKind.wrap .u64 (8192 + x424)
  let y427 := g8 (segD y365 3 56 ++ [.i x425, .i 4])
  let x427 := (dget y427 1).toI
  let x485 := IntKind.wrap .u64 (4096 * x64)
  let x486 := IntKind.wrap .u64 (2097152 + x485)
  let y488 := g8 (segD y427 3 56 ++ [.i x486, .i 4])
  let x488 := (dget y488 1).toI
  let x546 := IntKind.wrap .u64 (1 - x64)
  let x547 := IntKind.wrap .u64 (4096 * x546)
  let x548 := IntKind.wrap .u64 (2097152 + x547)
  let y550 := g8 (segD y488 3 56 ++ [.i x548, .i 4])
  let x550 := (dget y550 1).toI
  let y609 := g8 (segD y550 3 56 ++ [.i 4096, .i 4])
  let x609 := (dget y609 1).toI
  let x611 := (dget y609 3).toI
  let x617 := (dget y609 9).toI
  let x619 := (dget y609 11).toB
  let x621 := (dget y609 13).toB
  let x622 := (dget y609 14).toB
  let x623 := (dget y609 15).toI
  let x625 := (dget y609 17).toB
  let x627 := (dget y609 19).toB
  let x628 := (dget y609 20).toB
  let x629 := (dget y609 21).toI
  let x631 := (dget y609 23).toB
  let x633 := (dget y609 25).toB
  let x634 := (dget y609 26).toB
  let x635 := (dget y609 27).toI
  let x637 := (dget y609 29).toB
  let x639 := (dget y609 31).toB
  let x640 := (dget y609 32).toB
  let x641 := (dget y609 33).toI
  let x643 := (dget y609 35).toB
  let x645 := (dget y609 37).toB
  let x646 := (dget y609 38).toB
  let x647 := (dget y609 39).toI
  let x649 := (dget y609 41).toB
  let x651 := (dget y609 43).toB
  let x652 := (dget y609 44).toB
  let x653 := (dget y609 45).toI
  let x655 := (dget y609 47).toB
  let x657 := (dget y609 49).toB
  let x658 := (dget y609 50).toB
  let x659 := (dget y609 51).toI
  let x661 := (dget y609 53).toB
  let x663 := (dget y609 55).toB
  let x664 := (dget y609 56).toB
  let x665 := (dget y609 57).toI
  let x666 := (dget y609 58).toI
  let x667 := iland .u64 x2 7
  let x668 := x63 == 0
  let x669 := bif x668 then 0 else x667
  let x670 := x67 && x127
  let x671 := x670 && x187
  let x672 := x671 && x245
  let x673 := x304 == x669
  let x674 := x672 && x673
  let x675 := iland .u64 x2 510
  let x676 := x365 == x675
  let x677 := x674 && x676
  let x678 := x427 == 0
  let x679 := x677 && x678
  let x680 := iland .u64 x2 7
  let x681 := x488 == x680
  let x682 := x679 && x681
  let x683 := x550 == 0
  let x684 := x682 && x683
  let x685 := x609 == 0
  let x686 := x684 && x685
  let x688 := r9_0 x611 x617 x619 x621 x622 x623 x625 x627 x628 x629 x631 x633 x634 x635 x637 x639 x640 x641 x643 x645 x646 x647 x649 x651 x652 x653 x655 x657 x658 x659 x661 x663 x664 x665 x666
  let x689 := x688 == 0
  let x690 := x686 && x689
  let x691 := x6 && x690
  x691
noncomputable def g3 (ds : List DV) : List DV := [.b (p3 (dget ds 0).toI (dget ds 1).toI (dget ds 2).toI), .b (r3_0 (dget ds 0).toI (dget ds 1).toI (dget ds 2).toI)]
def S3 : Sigs := ⟨[(5, s5), (6, s6), (7, s7), (8, s8), (9, s9)], [], [], 0⟩
theorem ev3 : evFn Try.prog S3 2000 Try.f3 s3 = some o3 := by kernel_rfl



end Go.Proofs.Ythlbgkhbebffaaa
