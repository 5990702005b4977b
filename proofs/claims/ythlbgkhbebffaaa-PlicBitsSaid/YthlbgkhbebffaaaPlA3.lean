/- The functions of the statements, as lists of plain steps, each tied to the program's own text by the kernel (part 3). Written by the generator. -/
import Derived.Test.YthlbgkhbebffaaaPlA2
namespace Go.Proofs.Ythlbgkhbebffaaa
open Go Go.Sx
set_option maxRecDepth 100000

/-! (*tandem/plic.Plic).Write -/
def s7 : Sig := ⟨[.s (.one (.p 0 (.c 0))), .s (.one (.i .u64 (.h 56))), .s (.one (.i .i64 (.h 57))), .s (.one (.i .u64 (.h 58)))], [some (.c true [some (.i .i64 (.h 0)), some (.b (.h 1)), some (.b (.h 2)), some (.b (.h 3)), some (.b (.h 4)), some (.b (.h 5)), some (.i .i64 (.h 6)), some (.b (.h 7)), some (.b (.h 8)), some (.b (.h 9)), some (.b (.h 10)), some (.b (.h 11)), some (.i .i64 (.h 12)), some (.b (.h 13)), some (.b (.h 14)), some (.b (.h 15)), some (.b (.h 16)), some (.b (.h 17)), some (.i .i64 (.h 18)), some (.b (.h 19)), some (.b (.h 20)), some (.b (.h 21)), some (.b (.h 22)), some (.b (.h 23)), some (.i .i64 (.h 24)), some (.b (.h 25)), some (.b (.h 26)), some (.b (.h 27)), some (.b (.h 28)), some (.b (.h 29)), some (.i .i64 (.h 30)), some (.b (.h 31)), some (.b (.h 32)), some (.b (.h 33)), some (.b (.h 34)), some (.b (.h 35)), some (.i .i64 (.h 36)), some (.b (.h 37)), some (.b (.h 38)), some (.b (.h 39)), some (.b (.h 40)), some (.b (.h 41)), some (.i .i64 (.h 42)), some (.b (.h 43)), some (.b (.h 44)), some (.b (.h 45)), some (.b (.h 46)), some (.b (.h 47)), some (.i .i64 (.h 48)), some (.b (.h 49)), some (.b (.h 50)), some (.b (.h 51)), some (.b (.h 52)), some (.b (.h 53)), some (.i .i64 (.h 54)), some (.i .i64 (.h 55))])], [.i, .b, .b, .b, .b, .b, .i, .b, .b, .b, .b, .b, .i, .b, .b, .b, .b, .b, .i, .b, .b, .b, .b, .b, .i, .b, .b, .b, .b, .b, .i, .b, .b, .b, .b, .b, .i, .b, .b, .b, .b, .b, .i, .b, .b, .b, .b, .b, .i, .b, .b, .b, .b, .b, .i, .i, .i, .i, .i], .s (.one (.b (.h 0))), [some (.c true [some (.i .i64 (.h 1)), some (.b (.h 2)), some (.b (.h 3)), some (.b (.h 4)), some (.b (.h 5)), some (.b (.h 6)), some (.i .i64 (.h 7)), some (.b (.h 8)), some (.b (.h 9)), some (.b (.h 10)), some (.b (.h 11)), some (.b (.h 12)), some (.i .i64 (.h 13)), some (.b (.h 14)), some (.b (.h 15)), some (.b (.h 16)), some (.b (.h 17)), some (.b (.h 18)), some (.i .i64 (.h 19)), some (.b (.h 20)), some (.b (.h 21)), some (.b (.h 22)), some (.b (.h 23)), some (.b (.h 24)), some (.i .i64 (.h 25)), some (.b (.h 26)), some (.b (.h 27)), some (.b (.h 28)), some (.b (.h 29)), some (.b (.h 30)), some (.i .i64 (.h 31)), some (.b (.h 32)), some (.b (.h 33)), some (.b (.h 34)), some (.b (.h 35)), some (.b (.h 36)), some (.i .i64 (.h 37)), some (.b (.h 38)), some (.b (.h 39)), some (.b (.h 40)), some (.b (.h 41)), some (.b (.h 42)), some (.i .i64 (.h 43)), some (.b (.h 44)), some (.b (.h 45)), some (.b (.h 46)), some (.b (.h 47)), some (.b (.h 48)), some (.i .i64 (.h 49)), some (.b (.h 50)), some (.b (.h 51)), some (.b (.h 52)), some (.b (.h 53)), some (.b (.h 54)), some (.i .i64 (.h 55)), some (.i .i64 (.h 56))])], [.b, .i, .b, .b, .b, .b, .b, .i, .b, .b, .b, .b, .b, .i, .b, .b, .b, .b, .b, .i, .b, .b, .b, .b, .b, .i, .b, .b, .b, .b, .b, .i, .b, .b, .b, .b, .b, .i, .b, .b, .b, .b, .b, .i, .b, .b, .b, .b, .b, .i, .b, .b, .b, .b, .b, .i, .i], true⟩
def o7 : Out := ⟨[(59, .call 12 [.r 56, .r 57] 0), (60, .call 12 [.r 56, .r 57] 1), (61, .eql (.r 59) (.z 0)), (62, .eql (.r 59) (.z 1)), (63, .gtr (.r 60) (.z 0)), (64, .land .u64 (.r 58) (.z 7)), (65, .conv .i64 (.r 64)), (66, .geq (.r 60) (.z 0)), (67, .lss (.r 60) (.z 9)), (68, .eql (.r 60) (.z 0)), (69, .itei (.r 68) (.r 65) (.r 0)), (70, .eql (.r 60) (.z 1)), (71, .itei (.r 70) (.r 65) (.r 6)), (72, .eql (.r 60) (.z 2)), (73, .itei (.r 72) (.r 65) (.r 12)), (74, .eql (.r 60) (.z 3)), (75, .itei (.r 74) (.r 65) (.r 18)), (76, .eql (.r 60) (.z 4)), (77, .itei (.r 76) (.r 65) (.r 24)), (78, .eql (.r 60) (.z 5)), (79, .itei (.r 78) (.r 65) (.r 30)), (80, .eql (.r 60) (.z 6)), (81, .itei (.r 80) (.r 65) (.r 36)), (82, .eql (.r 60) (.z 7)), (83, .itei (.r 82) (.r 65) (.r 42)), (84, .eql (.r 60) (.z 8)), (85, .itei (.r 84) (.r 65) (.r 48)), (86, .eql (.r 59) (.z 3)), (87, .shr .u64 (.r 58) (.z 1)), (88, .land .u64 (.r 87) (.z 1)), (89, .eql (.r 88) (.z 1)), (90, .geq (.r 60) (.z 0)), (91, .lss (.r 60) (.z 2)), (92, .eql (.r 60) (.z 0)), (93, .iteb (.r 92) (.r 89) (.r 10)), (94, .eql (.r 60) (.z 1)), (95, .iteb (.r 94) (.r 89) (.r 11)), (96, .shr .u64 (.r 58) (.z 2)), (97, .land .u64 (.r 96) (.z 1)), (98, .eql (.r 97) (.z 1)), (99, .geq (.r 60) (.z 0)), (100, .lss (.r 60) (.z 2)), (101, .eql (.r 60) (.z 0)), (102, .iteb (.r 101) (.r 98) (.r 16)), (103, .eql (.r 60) (.z 1)), (104, .iteb (.r 103) (.r 98) (.r 17)), (105, .shr .u64 (.r 58) (.z 3)), (106, .land .u64 (.r 105) (.z 1)), (107, .eql (.r 106) (.z 1)), (108, .geq (.r 60) (.z 0)), (109, .lss (.r 60) (.z 2)), (110, .eql (.r 60) (.z 0)), (111, .iteb (.r 110) (.r 107) (.r 22)), (112, .eql (.r 60) (.z 1)), (113, .iteb (.r 112) (.r 107) (.r 23)), (114, .shr .u64 (.r 58) (.z 4)), (115, .land .u64 (.r 114) (.z 1)), (116, .eql (.r 115) (.z 1)), (117, .geq (.r 60) (.z 0)), (118, .lss (.r 60) (.z 2)), (119, .eql (.r 60) (.z 0)), (120, .iteb (.r 119) (.r 116) (.r 28)), (121, .eql (.r 60) (.z 1)), (122, .iteb (.r 121) (.r 116) (.r 29)), (123, .shr .u64 (.r 58) (.z 5)), (124, .land .u64 (.r 123) (.z 1)), (125, .eql (.r 124) (.z 1)), (126, .geq (.r 60) (.z 0)), (127, .lss (.r 60) (.z 2)), (128, .eql (.r 60) (.z 0)), (129, .iteb (.r 128) (.r 125) (.r 34)), (130, .eql (.r 60) (.z 1)), (131, .iteb (.r 130) (.r 125) (.r 35)), (132, .shr .u64 (.r 58) (.z 6)), (133, .land .u64 (.r 132) (.z 1)), (134, .eql (.r 133) (.z 1)), (135, .geq (.r 60) (.z 0)), (136, .lss (.r 60) (.z 2)), (137, .eql (.r 60) (.z 0)), (138, .iteb (.r 137) (.r 134) (.r 40)), (139, .eql (.r 60) (.z 1)), (140, .iteb (.r 139) (.r 134) (.r 41)), (141, .shr .u64 (.r 58) (.z 7)), (142, .land .u64 (.r 141) (.z 1)), (143, .eql (.r 142) (.z 1)), (144, .geq (.r 60) (.z 0)), (145, .lss (.r 60) (.z 2)), (146, .eql (.r 60) (.z 0)), (147, .iteb (.r 146) (.r 143) (.r 46)), (148, .eql (.r 60) (.z 1)), (149, .iteb (.r 148) (.r 143) (.r 47)), (150, .shr .u64 (.r 58) (.z 8)), (151, .land .u64 (.r 150) (.z 1)), (152, .eql (.r 151) (.z 1)), (153, .geq (.r 60) (.z 0)), (154, .lss (.r 60) (.z 2)), (155, .eql (.r 60) (.z 0)), (156, .iteb (.r 155) (.r 152) (.r 52)), (157, .eql (.r 60) (.z 1)), (158, .iteb (.r 157) (.r 152) (.r 53)), (159, .eql (.r 59) (.z 4)), (160, .land .u64 (.r 58) (.z 7)), (161, .conv .i64 (.r 160)), (162, .geq (.r 60) (.z 0)), (163, .lss (.r 60) (.z 2)), (164, .eql (.r 60) (.z 0)), (165, .itei (.r 164) (.r 161) (.r 54)), (166, .eql (.r 60) (.z 1)), (167, .itei (.r 166) (.r 161) (.r 55)), (168, .eql (.r 59) (.z 5)), (169, .land .u64 (.r 58) (.z 4294967295)), (170, .geq (.r 169) (.z 1)), (171, .leq (.r 169) (.z 8)), (172, .and (.r 170) (.r 171)), (173, .geq (.r 169) (.z 0)), (174, .lss (.r 169) (.z 9)), (175, .selb [.r 3, .r 9, .r 15, .r 21, .r 27, .r 33, .r 39, .r 45, .r 51] (.r 169)), (176, .and (.r 172) (.r 175)), (177, .geq (.r 169) (.z 0)), (178, .lss (.r 169) (.z 9)), (179, .geq (.r 60) (.z 0)), (180, .lss (.r 60) (.z 2)), (181, .selb [.r 4, .r 10, .r 16, .r 22, .r 28, .r 34, .r 40, .r 46, .r 52] (.r 169)), (182, .selb [.r 5, .r 11, .r 17, .r 23, .r 29, .r 35, .r 41, .r 47, .r 53] (.r 169)), (183, .selb [.r 181, .r 182] (.r 60)), (184, .and (.r 176) (.r 183)), (185, .geq (.r 169) (.z 0)), (186, .lss (.r 169) (.z 9)), (187, .eql (.r 169) (.z 0)), (188, .iteb (.r 187) (.t false) (.r 3)), (189, .eql (.r 169) (.z 1)), (190, .iteb (.r 189) (.t false) (.r 9)), (191, .eql (.r 169) (.z 2)), (192, .iteb (.r 191) (.t false) (.r 15)), (193, .eql (.r 169) (.z 3)), (194, .iteb (.r 193) (.t false) (.r 21)), (195, .eql (.r 169) (.z 4)), (196, .iteb (.r 195) (.t false) (.r 27)), (197, .eql (.r 169) (.z 5)), (198, .iteb (.r 197) (.t false) (.r 33)), (199, .eql (.r 169) (.z 6)), (200, .iteb (.r 199) (.t false) (.r 39)), (201, .eql (.r 169) (.z 7)), (202, .iteb (.r 201) (.t false) (.r 45)), (203, .eql (.r 169) (.z 8)), (204, .iteb (.r 203) (.t false) (.r 51)), (205, .conv .i64 (.r 169))] ++ callsAt 206 13 [.r 0, .r 1, .r 2, .r 188, .r 4, .r 5, .r 6, .r 7, .r 8, .r 190, .r 10, .r 11, .r 12, .r 13, .r 14, .r 192, .r 16, .r 17, .r 18, .r 19, .r 20, .r 194, .r 22, .r 23, .r 24, .r 25, .r 26, .r 196, .r 28, .r 29, .r 30, .r 31, .r 32, .r 198, .r 34, .r 35, .r 36, .r 37, .r 38, .r 200, .r 40, .r 41, .r 42, .r 43, .r 44, .r 202, .r 46, .r 47, .r 48, .r 49, .r 50, .r 204, .r 52, .r 53, .r 54, .r 55, .r 205] 0 57 ++ [(263, .not (.r 61)), (264, .itei (.r 63) (.r 69) (.r 0)), (265, .itei (.r 63) (.r 71) (.r 6)), (266, .itei (.r 63) (.r 73) (.r 12)), (267, .itei (.r 63) (.r 75) (.r 18)), (268, .itei (.r 63) (.r 77) (.r 24)), (269, .itei (.r 63) (.r 79) (.r 30)), (270, .itei (.r 63) (.r 81) (.r 36)), (271, .itei (.r 63) (.r 83) (.r 42)), (272, .itei (.r 63) (.r 85) (.r 48)), (273, .itei (.r 184) (.r 207) (.r 0)), (274, .iteb (.r 184) (.r 208) (.r 1)), (275, .iteb (.r 184) (.r 209) (.r 2)), (276, .iteb (.r 184) (.r 210) (.r 3)), (277, .iteb (.r 184) (.r 211) (.r 4)), (278, .iteb (.r 184) (.r 212) (.r 5)), (279, .itei (.r 184) (.r 213) (.r 6)), (280, .iteb (.r 184) (.r 214) (.r 7)), (281, .iteb (.r 184) (.r 215) (.r 8)), (282, .iteb (.r 184) (.r 216) (.r 9)), (283, .iteb (.r 184) (.r 217) (.r 10)), (284, .iteb (.r 184) (.r 218) (.r 11)), (285, .itei (.r 184) (.r 219) (.r 12)), (286, .iteb (.r 184) (.r 220) (.r 13)), (287, .iteb (.r 184) (.r 221) (.r 14)), (288, .iteb (.r 184) (.r 222) (.r 15)), (289, .iteb (.r 184) (.r 223) (.r 16)), (290, .iteb (.r 184) (.r 224) (.r 17)), (291, .itei (.r 184) (.r 225) (.r 18)), (292, .iteb (.r 184) (.r 226) (.r 19)), (293, .iteb (.r 184) (.r 227) (.r 20)), (294, .iteb (.r 184) (.r 228) (.r 21)), (295, .iteb (.r 184) (.r 229) (.r 22)), (296, .iteb (.r 184) (.r 230) (.r 23)), (297, .itei (.r 184) (.r 231) (.r 24)), (298, .iteb (.r 184) (.r 232) (.r 25)), (299, .iteb (.r 184) (.r 233) (.r 26)), (300, .iteb (.r 184) (.r 234) (.r 27)), (301, .iteb (.r 184) (.r 235) (.r 28)), (302, .iteb (.r 184) (.r 236) (.r 29)), (303, .itei (.r 184) (.r 237) (.r 30)), (304, .iteb (.r 184) (.r 238) (.r 31)), (305, .iteb (.r 184) (.r 239) (.r 32)), (306, .iteb (.r 184) (.r 240) (.r 33)), (307, .iteb (.r 184) (.r 241) (.r 34)), (308, .iteb (.r 184) (.r 242) (.r 35)), (309, .itei (.r 184) (.r 243) (.r 36)), (310, .iteb (.r 184) (.r 244) (.r 37)), (311, .iteb (.r 184) (.r 245) (.r 38)), (312, .iteb (.r 184) (.r 246) (.r 39)), (313, .iteb (.r 184) (.r 247) (.r 40)), (314, .iteb (.r 184) (.r 248) (.r 41)), (315, .itei (.r 184) (.r 249) (.r 42)), (316, .iteb (.r 184) (.r 250) (.r 43)), (317, .iteb (.r 184) (.r 251) (.r 44)), (318, .iteb (.r 184) (.r 252) (.r 45)), (319, .iteb (.r 184) (.r 253) (.r 46)), (320, .iteb (.r 184) (.r 254) (.r 47)), (321, .itei (.r 184) (.r 255) (.r 48)), (322, .iteb (.r 184) (.r 256) (.r 49)), (323, .iteb (.r 184) (.r 257) (.r 50)), (324, .iteb (.r 184) (.r 258) (.r 51)), (325, .iteb (.r 184) (.r 259) (.r 52)), (326, .iteb (.r 184) (.r 260) (.r 53)), (327, .itei (.r 184) (.r 261) (.r 54)), (328, .itei (.r 184) (.r 262) (.r 55)), (329, .itei (.r 168) (.r 273) (.r 0)), (330, .iteb (.r 168) (.r 274) (.r 1)), (331, .iteb (.r 168) (.r 275) (.r 2)), (332, .iteb (.r 168) (.r 276) (.r 3)), (333, .iteb (.r 168) (.r 277) (.r 4)), (334, .iteb (.r 168) (.r 278) (.r 5)), (335, .itei (.r 168) (.r 279) (.r 6)), (336, .iteb (.r 168) (.r 280) (.r 7)), (337, .iteb (.r 168) (.r 281) (.r 8)), (338, .iteb (.r 168) (.r 282) (.r 9)), (339, .iteb (.r 168) (.r 283) (.r 10)), (340, .iteb (.r 168) (.r 284) (.r 11)), (341, .itei (.r 168) (.r 285) (.r 12)), (342, .iteb (.r 168) (.r 286) (.r 13)), (343, .iteb (.r 168) (.r 287) (.r 14)), (344, .iteb (.r 168) (.r 288) (.r 15)), (345, .iteb (.r 168) (.r 289) (.r 16)), (346, .iteb (.r 168) (.r 290) (.r 17)), (347, .itei (.r 168) (.r 291) (.r 18)), (348, .iteb (.r 168) (.r 292) (.r 19)), (349, .iteb (.r 168) (.r 293) (.r 20)), (350, .iteb (.r 168) (.r 294) (.r 21)), (351, .iteb (.r 168) (.r 295) (.r 22)), (352, .iteb (.r 168) (.r 296) (.r 23)), (353, .itei (.r 168) (.r 297) (.r 24)), (354, .iteb (.r 168) (.r 298) (.r 25)), (355, .iteb (.r 168) (.r 299) (.r 26)), (356, .iteb (.r 168) (.r 300) (.r 27)), (357, .iteb (.r 168) (.r 301) (.r 28)), (358, .iteb (.r 168) (.r 302) (.r 29)), (359, .itei (.r 168) (.r 303) (.r 30)), (360, .iteb (.r 168) (.r 304) (.r 31)), (361, .iteb (.r 168) (.r 305) (.r 32)), (362, .iteb (.r 168) (.r 306) (.r 33)), (363, .iteb (.r 168) (.r 307) (.r 34)), (364, .iteb (.r 168) (.r 308) (.r 35)), (365, .itei (.r 168) (.r 309) (.r 36)), (366, .iteb (.r 168) (.r 310) (.r 37)), (367, .iteb (.r 168) (.r 311) (.r 38)), (368, .iteb (.r 168) (.r 312) (.r 39)), (369, .iteb (.r 168) (.r 313) (.r 40)), (370, .iteb (.r 168) (.r 314) (.r 41)), (371, .itei (.r 168) (.r 315) (.r 42)), (372, .iteb (.r 168) (.r 316) (.r 43)), (373, .iteb (.r 168) (.r 317) (.r 44)), (374, .iteb (.r 168) (.r 318) (.r 45)), (375, .iteb (.r 168) (.r 319) (.r 46)), (376, .iteb (.r 168) (.r 320) (.r 47)), (377, .itei (.r 168) (.r 321) (.r 48)), (378, .iteb (.r 168) (.r 322) (.r 49)), (379, .iteb (.r 168) (.r 323) (.r 50)), (380, .iteb (.r 168) (.r 324) (.r 51)), (381, .iteb (.r 168) (.r 325) (.r 52)), (382, .iteb (.r 168) (.r 326) (.r 53)), (383, .itei (.r 168) (.r 327) (.r 54)), (384, .itei (.r 168) (.r 328) (.r 55)), (385, .itei (.r 159) (.r 0) (.r 329)), (386, .iteb (.r 159) (.r 1) (.r 330)), (387, .iteb (.r 159) (.r 2) (.r 331)), (388, .iteb (.r 159) (.r 3) (.r 332)), (389, .iteb (.r 159) (.r 4) (.r 333)), (390, .iteb (.r 159) (.r 5) (.r 334)), (391, .itei (.r 159) (.r 6) (.r 335)), (392, .iteb (.r 159) (.r 7) (.r 336)), (393, .iteb (.r 159) (.r 8) (.r 337)), (394, .iteb (.r 159) (.r 9) (.r 338)), (395, .iteb (.r 159) (.r 10) (.r 339)), (396, .iteb (.r 159) (.r 11) (.r 340)), (397, .itei (.r 159) (.r 12) (.r 341)), (398, .iteb (.r 159) (.r 13) (.r 342)), (399, .iteb (.r 159) (.r 14) (.r 343)), (400, .iteb (.r 159) (.r 15) (.r 344)), (401, .iteb (.r 159) (.r 16) (.r 345)), (402, .iteb (.r 159) (.r 17) (.r 346)), (403, .itei (.r 159) (.r 18) (.r 347)), (404, .iteb (.r 159) (.r 19) (.r 348)), (405, .iteb (.r 159) (.r 20) (.r 349)), (406, .iteb (.r 159) (.r 21) (.r 350)), (407, .iteb (.r 159) (.r 22) (.r 351)), (408, .iteb (.r 159) (.r 23) (.r 352)), (409, .itei (.r 159) (.r 24) (.r 353)), (410, .iteb (.r 159) (.r 25) (.r 354)), (411, .iteb (.r 159) (.r 26) (.r 355)), (412, .iteb (.r 159) (.r 27) (.r 356)), (413, .iteb (.r 159) (.r 28) (.r 357)), (414, .iteb (.r 159) (.r 29) (.r 358)), (415, .itei (.r 159) (.r 30) (.r 359)), (416, .iteb (.r 159) (.r 31) (.r 360)), (417, .iteb (.r 159) (.r 32) (.r 361)), (418, .iteb (.r 159) (.r 33) (.r 362)), (419, .iteb (.r 159) (.r 34) (.r 363)), (420, .iteb (.r 159) (.r 35) (.r 364)), (421, .itei (.r 159) (.r 36) (.r 365)), (422, .iteb (.r 159) (.r 37) (.r 366)), (423, .iteb (.r 159) (.r 38) (.r 367)), (424, .iteb (.r 159) (.r 39) (.r 368)), (425, .iteb (.r 159) (.r 40) (.r 369)), (426, .iteb (.r 159) (.r 41) (.r 370)), (427, .itei (.r 159) (.r 42) (.r 371)), (428, .iteb (.r 159) (.r 43) (.r 372)), (429, .iteb (.r 159) (.r 44) (.r 373)), (430, .iteb (.r 159) (.r 45) (.r 374)), (431, .iteb (.r 159) (.r 46) (.r 375)), (432, .iteb (.r 159) (.r 47) (.r 376)), (433, .itei (.r 159) (.r 48) (.r 377)), (434, .iteb (.r 159) (.r 49) (.r 378)), (435, .iteb (.r 159) (.r 50) (.r 379)), (436, .iteb (.r 159) (.r 51) (.r 380)), (437, .iteb (.r 159) (.r 52) (.r 381)), (438, .iteb (.r 159) (.r 53) (.r 382)), (439, .itei (.r 159) (.r 165) (.r 383)), (440, .itei (.r 159) (.r 167) (.r 384)), (441, .itei (.r 86) (.r 0) (.r 385)), (442, .iteb (.r 86) (.r 1) (.r 386)), (443, .iteb (.r 86) (.r 2) (.r 387)), (444, .iteb (.r 86) (.r 3) (.r 388)), (445, .iteb (.r 86) (.r 4) (.r 389)), (446, .iteb (.r 86) (.r 5) (.r 390)), (447, .itei (.r 86) (.r 6) (.r 391)), (448, .iteb (.r 86) (.r 7) (.r 392)), (449, .iteb (.r 86) (.r 8) (.r 393)), (450, .iteb (.r 86) (.r 9) (.r 394)), (451, .iteb (.r 86) (.r 93) (.r 395)), (452, .iteb (.r 86) (.r 95) (.r 396)), (453, .itei (.r 86) (.r 12) (.r 397)), (454, .iteb (.r 86) (.r 13) (.r 398)), (455, .iteb (.r 86) (.r 14) (.r 399)), (456, .iteb (.r 86) (.r 15) (.r 400)), (457, .iteb (.r 86) (.r 102) (.r 401)), (458, .iteb (.r 86) (.r 104) (.r 402)), (459, .itei (.r 86) (.r 18) (.r 403)), (460, .iteb (.r 86) (.r 19) (.r 404)), (461, .iteb (.r 86) (.r 20) (.r 405)), (462, .iteb (.r 86) (.r 21) (.r 406)), (463, .iteb (.r 86) (.r 111) (.r 407)), (464, .iteb (.r 86) (.r 113) (.r 408)), (465, .itei (.r 86) (.r 24) (.r 409)), (466, .iteb (.r 86) (.r 25) (.r 410)), (467, .iteb (.r 86) (.r 26) (.r 411)), (468, .iteb (.r 86) (.r 27) (.r 412)), (469, .iteb (.r 86) (.r 120) (.r 413)), (470, .iteb (.r 86) (.r 122) (.r 414)), (471, .itei (.r 86) (.r 30) (.r 415)), (472, .iteb (.r 86) (.r 31) (.r 416)), (473, .iteb (.r 86) (.r 32) (.r 417)), (474, .iteb (.r 86) (.r 33) (.r 418)), (475, .iteb (.r 86) (.r 129) (.r 419)), (476, .iteb (.r 86) (.r 131) (.r 420)), (477, .itei (.r 86) (.r 36) (.r 421)), (478, .iteb (.r 86) (.r 37) (.r 422)), (479, .iteb (.r 86) (.r 38) (.r 423)), (480, .iteb (.r 86) (.r 39) (.r 424)), (481, .iteb (.r 86) (.r 138) (.r 425)), (482, .iteb (.r 86) (.r 140) (.r 426)), (483, .itei (.r 86) (.r 42) (.r 427)), (484, .iteb (.r 86) (.r 43) (.r 428)), (485, .iteb (.r 86) (.r 44) (.r 429)), (486, .iteb (.r 86) (.r 45) (.r 430)), (487, .iteb (.r 86) (.r 147) (.r 431)), (488, .iteb (.r 86) (.r 149) (.r 432)), (489, .itei (.r 86) (.r 48) (.r 433)), (490, .iteb (.r 86) (.r 49) (.r 434)), (491, .iteb (.r 86) (.r 50) (.r 435)), (492, .iteb (.r 86) (.r 51) (.r 436)), (493, .iteb (.r 86) (.r 156) (.r 437)), (494, .iteb (.r 86) (.r 158) (.r 438)), (495, .itei (.r 86) (.r 54) (.r 439)), (496, .itei (.r 86) (.r 55) (.r 440)), (497, .itei (.r 62) (.r 264) (.r 441)), (498, .iteb (.r 62) (.r 1) (.r 442)), (499, .iteb (.r 62) (.r 2) (.r 443)), (500, .iteb (.r 62) (.r 3) (.r 444)), (501, .iteb (.r 62) (.r 4) (.r 445)), (502, .iteb (.r 62) (.r 5) (.r 446)), (503, .itei (.r 62) (.r 265) (.r 447)), (504, .iteb (.r 62) (.r 7) (.r 448)), (505, .iteb (.r 62) (.r 8) (.r 449)), (506, .iteb (.r 62) (.r 9) (.r 450)), (507, .iteb (.r 62) (.r 10) (.r 451)), (508, .iteb (.r 62) (.r 11) (.r 452)), (509, .itei (.r 62) (.r 266) (.r 453)), (510, .iteb (.r 62) (.r 13) (.r 454)), (511, .iteb (.r 62) (.r 14) (.r 455)), (512, .iteb (.r 62) (.r 15) (.r 456)), (513, .iteb (.r 62) (.r 16) (.r 457)), (514, .iteb (.r 62) (.r 17) (.r 458)), (515, .itei (.r 62) (.r 267) (.r 459)), (516, .iteb (.r 62) (.r 19) (.r 460)), (517, .iteb (.r 62) (.r 20) (.r 461)), (518, .iteb (.r 62) (.r 21) (.r 462)), (519, .iteb (.r 62) (.r 22) (.r 463)), (520, .iteb (.r 62) (.r 23) (.r 464)), (521, .itei (.r 62) (.r 268) (.r 465)), (522, .iteb (.r 62) (.r 25) (.r 466)), (523, .iteb (.r 62) (.r 26) (.r 467)), (524, .iteb (.r 62) (.r 27) (.r 468)), (525, .iteb (.r 62) (.r 28) (.r 469)), (526, .iteb (.r 62) (.r 29) (.r 470)), (527, .itei (.r 62) (.r 269) (.r 471)), (528, .iteb (.r 62) (.r 31) (.r 472)), (529, .iteb (.r 62) (.r 32) (.r 473)), (530, .iteb (.r 62) (.r 33) (.r 474)), (531, .iteb (.r 62) (.r 34) (.r 475)), (532, .iteb (.r 62) (.r 35) (.r 476)), (533, .itei (.r 62) (.r 270) (.r 477)), (534, .iteb (.r 62) (.r 37) (.r 478)), (535, .iteb (.r 62) (.r 38) (.r 479)), (536, .iteb (.r 62) (.r 39) (.r 480)), (537, .iteb (.r 62) (.r 40) (.r 481)), (538, .iteb (.r 62) (.r 41) (.r 482)), (539, .itei (.r 62) (.r 271) (.r 483)), (540, .iteb (.r 62) (.r 43) (.r 484)), (541, .iteb (.r 62) (.r 44) (.r 485)), (542, .iteb (.r 62) (.r 45) (.r 486)), (543, .iteb (.r 62) (.r 46) (.r 487)), (544, .iteb (.r 62) (.r 47) (.r 488)), (545, .itei (.r 62) (.r 272) (.r 489)), (546, .iteb (.r 62) (.r 49) (.r 490)), (547, .iteb (.r 62) (.r 50) (.r 491)), (548, .iteb (.r 62) (.r 51) (.r 492)), (549, .iteb (.r 62) (.r 52) (.r 493)), (550, .iteb (.r 62) (.r 53) (.r 494)), (551, .itei (.r 62) (.r 54) (.r 495)), (552, .itei (.r 62) (.r 55) (.r 496)), (553, .itei (.r 263) (.r 497) (.r 0)), (554, .iteb (.r 263) (.r 498) (.r 1)), (555, .iteb (.r 263) (.r 499) (.r 2)), (556, .iteb (.r 263) (.r 500) (.r 3)), (557, .iteb (.r 263) (.r 501) (.r 4)), (558, .iteb (.r 263) (.r 502) (.r 5)), (559, .itei (.r 263) (.r 503) (.r 6)), (560, .iteb (.r 263) (.r 504) (.r 7)), (561, .iteb (.r 263) (.r 505) (.r 8)), (562, .iteb (.r 263) (.r 506) (.r 9)), (563, .iteb (.r 263) (.r 507) (.r 10)), (564, .iteb (.r 263) (.r 508) (.r 11)), (565, .itei (.r 263) (.r 509) (.r 12)), (566, .iteb (.r 263) (.r 510) (.r 13)), (567, .iteb (.r 263) (.r 511) (.r 14)), (568, .iteb (.r 263) (.r 512) (.r 15)), (569, .iteb (.r 263) (.r 513) (.r 16)), (570, .iteb (.r 263) (.r 514) (.r 17)), (571, .itei (.r 263) (.r 515) (.r 18)), (572, .iteb (.r 263) (.r 516) (.r 19)), (573, .iteb (.r 263) (.r 517) (.r 20)), (574, .iteb (.r 263) (.r 518) (.r 21)), (575, .iteb (.r 263) (.r 519) (.r 22)), (576, .iteb (.r 263) (.r 520) (.r 23)), (577, .itei (.r 263) (.r 521) (.r 24)), (578, .iteb (.r 263) (.r 522) (.r 25)), (579, .iteb (.r 263) (.r 523) (.r 26)), (580, .iteb (.r 263) (.r 524) (.r 27)), (581, .iteb (.r 263) (.r 525) (.r 28)), (582, .iteb (.r 263) (.r 526) (.r 29)), (583, .itei (.r 263) (.r 527) (.r 30)), (584, .iteb (.r 263) (.r 528) (.r 31)), (585, .iteb (.r 263) (.r 529) (.r 32)), (586, .iteb (.r 263) (.r 530) (.r 33)), (587, .iteb (.r 263) (.r 531) (.r 34)), (588, .iteb (.r 263) (.r 532) (.r 35)), (589, .itei (.r 263) (.r 533) (.r 36)), (590, .iteb (.r 263) (.r 534) (.r 37)), (591, .iteb (.r 263) (.r 535) (.r 38)), (592, .iteb (.r 263) (.r 536) (.r 39)), (593, .iteb (.r 263) (.r 537) (.r 40)), (594, .iteb (.r 263) (.r 538) (.r 41)), (595, .itei (.r 263) (.r 539) (.r 42)), (596, .iteb (.r 263) (.r 540) (.r 43)), (597, .iteb (.r 263) (.r 541) (.r 44)), (598, .iteb (.r 263) (.r 542) (.r 45)), (599, .iteb (.r 263) (.r 543) (.r 46)), (600, .iteb (.r 263) (.r 544) (.r 47)), (601, .itei (.r 263) (.r 545) (.r 48)), (602, .iteb (.r 263) (.r 546) (.r 49)), (603, .iteb (.r 263) (.r 547) (.r 50)), (604, .iteb (.r 263) (.r 548) (.r 51)), (605, .iteb (.r 263) (.r 549) (.r 52)), (606, .iteb (.r 263) (.r 550) (.r 53)), (607, .itei (.r 263) (.r 551) (.r 54)), (608, .itei (.r 263) (.r 552) (.r 55))],
  [⟨[(.r 61, false), (.r 62, true), (.r 63, true)], .r 66⟩, ⟨[(.r 61, false), (.r 62, true), (.r 63, true)], .r 67⟩, ⟨[(.r 61, false), (.r 62, false), (.r 86, true)], .r 90⟩, ⟨[(.r 61, false), (.r 62, false), (.r 86, true)], .r 91⟩, ⟨[(.r 61, false), (.r 62, false), (.r 86, true)], .r 99⟩, ⟨[(.r 61, false), (.r 62, false), (.r 86, true)], .r 100⟩, ⟨[(.r 61, false), (.r 62, false), (.r 86, true)], .r 108⟩, ⟨[(.r 61, false), (.r 62, false), (.r 86, true)], .r 109⟩, ⟨[(.r 61, false), (.r 62, false), (.r 86, true)], .r 117⟩, ⟨[(.r 61, false), (.r 62, false), (.r 86, true)], .r 118⟩, ⟨[(.r 61, false), (.r 62, false), (.r 86, true)], .r 126⟩, ⟨[(.r 61, false), (.r 62, false), (.r 86, true)], .r 127⟩, ⟨[(.r 61, false), (.r 62, false), (.r 86, true)], .r 135⟩, ⟨[(.r 61, false), (.r 62, false), (.r 86, true)], .r 136⟩, ⟨[(.r 61, false), (.r 62, false), (.r 86, true)], .r 144⟩, ⟨[(.r 61, false), (.r 62, false), (.r 86, true)], .r 145⟩, ⟨[(.r 61, false), (.r 62, false), (.r 86, true)], .r 153⟩, ⟨[(.r 61, false), (.r 62, false), (.r 86, true)], .r 154⟩, ⟨[(.r 61, false), (.r 62, false), (.r 86, false), (.r 159, true)], .r 162⟩, ⟨[(.r 61, false), (.r 62, false), (.r 86, false), (.r 159, true)], .r 163⟩, ⟨[(.r 61, false), (.r 62, false), (.r 86, false), (.r 159, false), (.r 168, true), (.r 172, true)], .r 173⟩, ⟨[(.r 61, false), (.r 62, false), (.r 86, false), (.r 159, false), (.r 168, true), (.r 172, true)], .r 174⟩, ⟨[(.r 61, false), (.r 62, false), (.r 86, false), (.r 159, false), (.r 168, true), (.r 176, true)], .r 177⟩, ⟨[(.r 61, false), (.r 62, false), (.r 86, false), (.r 159, false), (.r 168, true), (.r 176, true)], .r 178⟩, ⟨[(.r 61, false), (.r 62, false), (.r 86, false), (.r 159, false), (.r 168, true), (.r 176, true)], .r 179⟩, ⟨[(.r 61, false), (.r 62, false), (.r 86, false), (.r 159, false), (.r 168, true), (.r 176, true)], .r 180⟩, ⟨[(.r 61, false), (.r 62, false), (.r 86, false), (.r 159, false), (.r 168, true), (.r 184, true)], .r 185⟩, ⟨[(.r 61, false), (.r 62, false), (.r 86, false), (.r 159, false), (.r 168, true), (.r 184, true)], .r 186⟩, ⟨[(.r 61, false), (.r 62, false), (.r 86, false), (.r 159, false), (.r 168, true), (.r 184, true)], .r 206⟩],
  [],
  ([.r 263] ++ idsFrom 553 56)⟩
noncomputable def p7 (x0 : Int) (x1 : Bool) (x2 : Bool) (x3 : Bool) (x4 : Bool) (x5 : Bool) (x6 : Int) (x7 : Bool) (x8 : Bool) (x9 : Bool) (x10 : Bool) (x11 : Bool) (x12 : Int) (x13 : Bool) (x14 : Bool) (x15 : Bool) (x16 : Bool) (x17 : Bool) (x18 : Int) (x19 : Bool) (x20 : Bool) (x21 : Bool) (x22 : Bool) (x23 : Bool) (x24 : Int) (x25 : Bool) (x26 : Bool) (x27 : Bool) (x28 : Bool) (x29 : Bool) (x30 : Int) (x31 : Bool) (x32 : Bool) (x33 : Bool) (x34 : Bool) (x35 : Bool) (x36 : Int) (x37 : Bool) (x38 : Bool) (x39 : Bool) (x40 : Bool) (x41 : Bool) (x42 : Int) (x43 : Bool) (x44 : Bool) (x45 : Bool) (x46 : Bool) (x47 : Bool) (x48 : Int) (x49 : Bool) (x50 : Bool) (x51 : Bool) (x52 : Bool) (x53 : Bool) (x54 : Int) (x55 : Int) (x56 : Int) (x57 : Int) (x58 : Int) : Bool :=
  let x59 := r12_0 x56 x57
  let x60 := r12_1 x56 x57
  let x61 := x59 == 0
  let x62 := x59 == 1
  let x63 := decide (x60 > 0)
  let x66 := decide (x60 ≥ 0)
  let x67 := decide (x60 < 9)
  let x86 := x59 == 3
  let x90 := decide (x60 ≥ 0)
  let x91 := decide (x60 < 2)
  let x99 := decide (x60 ≥ 0)
  let x100 := decide (x60 < 2)
  let x108 := decide (x60 ≥ 0)
  let x109 := decide (x60 < 2)
  let x117 := decide (x60 ≥ 0)
  let x118 := decide (x60 < 2)
  let x126 := decide (x60 ≥ 0)
  let x127 := decide (x60 < 2)
  let x135 := decide (x60 ≥ 0)
  let x136 := decide (x60 < 2)
  let x144 := decide (x60 ≥ 0)
  let x145 := decide (x60 < 2)
  let x153 := decide (x60 ≥ 0)
  let x154 := decide (x60 < 2)
  let x159 := x59 == 4
  let x162 := decide (x60 ≥ 0)
  let x163 := decide (x60 < 2)
  let x168 := x59 == 5
  let x169 := iland .u64 x58 4294967295
  let x170 := decide (x169 ≥ 1)
  let x171 := decide (x169 ≤ 8)
  let x172 := x170 && x171
  let x173 := decide (x169 ≥ 0)
  let x174 := decide (x169 < 9)
  let x175 := [x3, x9, x15, x21, x27, x33, x39, x45, x51].getD (Int.toNat x169) false
  let x176 := x172 && x175
  let x177 := decide (x169 ≥ 0)
  let x178 := decide (x169 < 9)
  let x179 := decide (x60 ≥ 0)
  let x180 := decide (x60 < 2)
  let x181 := [x4, x10, x16, x22, x28, x34, x40, x46, x52].getD (Int.toNat x169) false
  let x182 := [x5, x11, x17, x23, x29, x35, x41, x47, x53].getD (Int.toNat x169) false
  let x183 := [x181, x182].getD (Int.toNat x60) false
  let x184 := x176 && x183
  let x185 := decide (x169 ≥ 0)
  let x186 := decide (x169 < 9)
  let x187 := x169 == 0
  let x188 := bif x187 then false else x3
  let x189 := x169 == 1
  let x190 := bif x189 then false else x9
  let x191 := x169 == 2
  let x192 := bif x191 then false else x15
  let x193 := x169 == 3
  let x194 := bif x193 then false else x21
  let x195 := x169 == 4
  let x196 := bif x195 then false else x27
  let x197 := x169 == 5
  let x198 := bif x197 then false else x33
  let x199 := x169 == 6
  let x200 := bif x199 then false else x39
  let x201 := x169 == 7
  let x202 := bif x201 then false else x45
  let x203 := x169 == 8
  let x204 := bif x203 then false else x51
  let x205 := IntKind.wrap .i64 x169
  let y206 := g13 [.i x0, .b x1, .b x2, .b x188, .b x4, .b x5, .i x6, .b x7, .b x8, .b x190, .b x10, .b x11, .i x12, .b x13, .b x14, .b x192, .b x16, .b x17, .i x18, .b x19, .b x20, .b x194, .b x22, .b x23, .i x24, .b x25, .b x26, .b x196, .b x28, .b x29, .i x30, .b x31, .b x32, .b x198, .b x34, .b x35, .i x36, .b x37, .b x38, .b x200, .b x40, .b x41, .i x42, .b x43, .b x44, .b x202, .b x46, .b x47, .i x48, .b x49, .b x50, .b x204, .b x52, .b x53, .i x54, .i x55, .i x205]
  let x206 := (dget y206 0).toB
  [ow [(x61, false), (x62, true), (x63, true)] x66, ow [(x61, false), (x62, true), (x63, true)] x67, ow [(x61, false), (x62, false), (x86, true)] x90, ow [(x61, false), (x62, false), (x86, true)] x91, ow [(x61, false), (x62, false), (x86, true)] x99, ow [(x61, false), (x62, false), (x86, true)] x100, ow [(x61, false), (x62, false), (x86, true)] x108, ow [(x61, false), (x62, false), (x86, true)] x109, ow [(x61, false), (x62, false), (x86, true)] x117, ow [(x61, false), (x62, false), (x86, true)] x118, ow [(x61, false), (x62, false), (x86, true)] x126, ow [(x61, false), (x62, false), (x86, true)] x127, ow [(x61, false), (x62, false), (x86, true)] x135, ow [(x61, false), (x62, false), (x86, true)] x136, ow [(x61, false), (x62, false), (x86, true)] x144, ow [(x61, false), (x62, false), (x86, true)] x145, ow [(x61, false), (x62, false), (x86, true)] x153, ow [(x61, false), (x62, false), (x86, true)] x154, ow [(x61, false), (x62, false), (x86, false), (x159, true)] x162, ow [(x61, false), (x62, false), (x86, false), (x159, true)] x163, ow [(x61, false), (x62, false), (x86, false), (x159, false), (x168, true), (x172, true)] x173, ow [(x61, false), (x62, false), (x86, false), (x159, false), (x168, true), (x172, true)] x174, ow [(x61, false), (x62, false), (x86, false), (x159, false), (x168, true), (x176, true)] x177, ow [(x61, false), (x62, false), (x86, false), (x159, false), (x168, true), (x176, true)] x178, ow [(x61, false), (x62, false), (x86, false), (x159, false), (x168, true), (x176, true)] x179, ow [(x61, false), (x62, false), (x86, false), (x159, false), (x168, true), (x176, true)] x180, ow [(x61, false), (x62, false), (x86, false), (x159, false), (x168, true), (x184, true)] x185, ow [(x61, false), (x62, false), (x86, false), (x159, false), (x168, true), (x184, true)] x186, ow [(x61, false), (x62, false), (x86, false), (x159, false), (x168, true), (x184, true)] x206].all id
noncomputable def r7_0 (x56 : Int) (x57 : Int) : Bool :=
  let x59 := r12_0 x56 x57
  let x61 := x59 == 0
  let x263 := !x61
  x263
noncomputable def r7_1 (x0 : Int) (x1 : Bool) (x2 : Bool) (x3 : Bool) (x4 : Bool) (x5 : Bool) (x6 : Int) (x7 : Bool) (x8 : Bool) (x9 : Bool) (x10 : Bool) (x11 : Bool) (x12 : Int) (x13 : Bool) (x14 : Bool) (x15 : Bool) (x16 : Bool) (x17 : Bool) (x18 : Int) (x19 : Bool) (x20 : Bool) (x21 : Bool) (x22 : Bool) (x23 : Bool) (x24 : Int) (x25 : Bool) (x26 : Bool) (x27 : Bool) (x28 : Bool) (x29 : Bool) (x30 : Int) (x31 : Bool) (x32 : Bool) (x33 : Bool) (x34 : Bool) (x35 : Bool) (x36 : Int) (x37 : Bool) (x38 : Bool) (x39 : Bool) (x40 : Bool) (x41 : Bool) (x42 : Int) (x43 : Bool) (x44 : Bool) (x45 : Bool) (x46 : Bool) (x47 : Bool) (x48 : Int) (x49 : Bool) (x50 : Bool) (x51 : Bool) (x52 : Bool) (x53 : Bool) (x54 : Int) (x55 : Int) (x56 : Int) (x57 : Int) (x58 : Int) : Int :=
  let x59 := r12_0 x56 x57
  let x60 := r12_1 x56 x57
  let x61 := x59 == 0
  let x62 := x59 == 1
  let x63 := decide (x60 > 0)
  let x64 := iland .u64 x58 7
  let x65 := IntKind.wrap .i64 x64
  let x68 := x60 == 0
  let x69 := bif x68 then x65 else x0
  let x86 := x59 == 3
  let x159 := x59 == 4
  let x168 := x59 == 5
  let x169 := iland .u64 x58 4294967295
  let x170 := decide (x169 ≥ 1)
  let x171 := decide (x169 ≤ 8)
  let x172 := x170 && x171
  let x175 := [x3, x9, x15, x21, x27, x33, x39, x45, x51].getD (Int.toNat x169) false
  let x176 := x172 && x175
  let x181 := [x4, x10, x16, x22, x28, x34, x40, x46, x52].getD (Int.toNat x169) false
  let x182 := [x5, x11, x17, x23, x29, x35, x41, x47, x53].getD (Int.toNat x169) false
  let x183 := [x181, x182].getD (Int.toNat x60) false
  let x184 := x176 && x183
  let x187 := x169 == 0
  let x188 := bif x187 then false else x3
  let x189 := x169 == 1
  let x190 := bif x189 then false else x9
  let x191 := x169 == 2
  let x192 := bif x191 then false else x15
  let x193 := x169 == 3
  let x194 := bif x193 then false else x21
  let x195 := x169 == 4
  let x196 := bif x195 then false else x27
  let x197 := x169 == 5
  let x198 := bif x197 then false else x33
  let x199 := x169 == 6
  let x200 := bif x199 then false else x39
  let x201 := x169 == 7
  let x202 := bif x201 then false else x45
  let x203 := x169 == 8
  let x204 := bif x203 then false else x51
  let x205 := IntKind.wrap .i64 x169
  let y207 := g13 [.i x0, .b x1, .b x2, .b x188, .b x4, .b x5, .i x6, .b x7, .b x8, .b x190, .b x10, .b x11, .i x12, .b x13, .b x14, .b x192, .b x16, .b x17, .i x18, .b x19, .b x20, .b x194, .b x22, .b x23, .i x24, .b x25, .b x26, .b x196, .b x28, .b x29, .i x30, .b x31, .b x32, .b x198, .b x34, .b x35, .i x36, .b x37, .b x38, .b x200, .b x40, .b x41, .i x42, .b x43, .b x44, .b x202, .b x46, .b x47, .i x48, .b x49, .b x50, .b x204, .b x52, .b x53, .i x54, .i x55, .i x205]
  let x207 := (dget y207 1).toI
  let x263 := !x61
  let x264 := bif x63 then x69 else x0
  let x273 := bif x184 then x207 else x0
  let x329 := bif x168 then x273 else x0
  let x385 := bif x159 then x0 else x329
  let x441 := bif x86 then x0 else x385
  let x497 := bif x62 then x264 else x441
  let x553 := bif x263 then x497 else x0
  x553
noncomputable def r7_2 (x0 : Int) (x1 : Bool) (x2 : Bool) (x3 : Bool) (x4 : Bool) (x5 : Bool) (x6 : Int) (x7 : Bool) (x8 : Bool) (x9 : Bool) (x10 : Bool) (x11 : Bool) (x12 : Int) (x13 : Bool) (x14 : Bool) (x15 : Bool) (x16 : Bool) (x17 : Bool) (x18 : Int) (x19 : Bool) (x20 : Bool) (x21 : Bool) (x22 : Bool) (x23 : Bool) (x24 : Int) (x25 : Bool) (x26 : Bool) (x27 : Bool) (x28 : Bool) (x29 : Bool) (x30 : Int) (x31 : Bool) (x32 : Bool) (x33 : Bool) (x34 : Bool) (x35 : Bool) (x36 : Int) (x37 : Bool) (x38 : Bool) (x39 : Bool) (x40 : Bool) (x41 : Bool) (x42 : Int) (x43 : Bool) (x44 : Bool) (x45 : Bool) (x46 : Bool) (x47 : Bool) (x48 : Int) (x49 : Bool) (x50 : Bool) (x51 : Bool) (x52 : Bool) (x53 : Bool) (x54 : Int) (x55 : Int) (x56 : Int) (x57 : Int) (x58 : Int) : Bool :=
  let x59 := r12_0 x56 x57
  let x60 := r12_1 x56 x57
  let x61 := x59 == 0
  let x62 := x59 == 1
  let x86 := x59 == 3
  let x159 := x59 == 4
  let x168 := x59 == 5
  let x169 := iland .u64 x58 4294967295
  let x170 := decide (x169 ≥ 1)
  let x171 := decide (x169 ≤ 8)
  let x172 := x170 && x171
  let x175 := [x3, x9, x15, x21, x27, x33, x39, x45, x51].getD (Int.toNat x169) false
  let x176 := x172 && x175
  let x181 := [x4, x10, x16, x22, x28, x34, x40, x46, x52].getD (Int.toNat x169) false
  let x182 := [x5, x11, x17, x23, x29, x35, x41, x47, x53].getD (Int.toNat x169) false
  let x183 := [x181, x182].getD (Int.toNat x60) false
  let x184 := x176 && x183
  let x187 := x169 == 0
  let x188 := bif x187 then false else x3
  let x189 := x169 == 1
  let x190 := bif x189 then false else x9
  let x191 := x169 == 2
  let x192 := bif x191 then false else x15
  let x193 := x169 == 3
  let x194 := bif x193 then false else x21
  let x195 := x169 == 4
  let x196 := bif x195 then false else x27
  let x197 := x169 == 5
  let x198 := bif x197 then false else x33
  let x199 := x169 == 6
  let x200 := bif x199 then false else x39
  let x201 := x169 == 7
  let x202 := bif x201 then false else x45
  let x203 := x169 == 8
  let x204 := bif x203 then false else x51
  let x205 := IntKind.wrap .i64 x169
  let y208 := g13 [.i x0, .b x1, .b x2, .b x188, .b x4, .b x5, .i x6, .b x7, .b x8, .b x190, .b x10, .b x11, .i x12, .b x13, .b x14, .b x192, .b x16, .b x17, .i x18, .b x19, .b x20, .b x194, .b x22, .b x23, .i x24, .b x25, .b x26, .b x196, .b x28, .b x29, .i x30, .b x31, .b x32, .b x198, .b x34, .b x35, .i x36, .b x37, .b x38, .b x200, .b x40, .b x41, .i x42, .b x43, .b x44, .b x202, .b x46, .b x47, .i x48, .b x49, .b x50, .b x204, .b x52, .b x53, .i x54, .i x55, .i x205]
  let x208 := (dget y208 2).toB
  let x263 := !x61
  let x274 := bif x184 then x208 else x1
  let x330 := bif x168 then x274 else x1
  let x386 := bif x159 then x1 else x330
  let x442 := bif x86 then x1 else x386
  let x498 := bif x62 then x1 else x442
  let x554 := bif x263 then x498 else x1
  x554
noncomputable def r7_3 (x0 : Int) (x1 : Bool) (x2 : Bool) (x3 : Bool) (x4 : Bool) (x5 : Bool) (x6 : Int) (x7 : Bool) (x8 : Bool) (x9 : Bool) (x10 : Bool) (x11 : Bool) (x12 : Int) (x13 : Bool) (x14 : Bool) (x15 : Bool) (x16 : Bool) (x17 : Bool) (x18 : Int) (x19 : Bool) (x20 : Bool) (x21 : Bool) (x22 : Bool) (x23 : Bool) (x24 : Int) (x25 : Bool) (x26 : Bool) (x27 : Bool) (x28 : Bool) (x29 : Bool) (x30 : Int) (x31 : Bool) (x32 : Bool) (x33 : Bool) (x34 : Bool) (x35 : Bool) (x36 : Int) (x37 : Bool) (x38 : Bool) (x39 : Bool) (x40 : Bool) (x41 : Bool) (x42 : Int) (x43 : Bool) (x44 : Bool) (x45 : Bool) (x46 : Bool) (x47 : Bool) (x48 : Int) (x49 : Bool) (x50 : Bool) (x51 : Bool) (x52 : Bool) (x53 : Bool) (x54 : Int) (x55 : Int) (x56 : Int) (x57 : Int) (x58 : Int) : Bool :=
  let x59 := r12_0 x56 x57
  let x60 := r12_1 x56 x57
  let x61 := x59 == 0
  let x62 := x59 == 1
  let x86 := x59 == 3
  let x159 := x59 == 4
  let x168 := x59 == 5
  let x169 := iland .u64 x58 4294967295
  let x170 := decide (x169 ≥ 1)
  let x171 := decide (x169 ≤ 8)
  let x172 := x170 && x171
  let x175 := [x3, x9, x15, x21, x27, x33, x39, x45, x51].getD (Int.toNat x169) false
  let x176 := x172 && x175
  let x181 := [x4, x10, x16, x22, x28, x34, x40, x46, x52].getD (Int.toNat x169) false
  let x182 := [x5, x11, x17, x23, x29, x35, x41, x47, x53].getD (Int.toNat x169) false
  let x183 := [x181, x182].getD (Int.toNat x60) false
  let x184 := x176 && x183
  let x187 := x169 == 0
  let x188 := bif x187 then false else x3
  let x189 := x169 == 1
  let x190 := bif x189 then false else x9
  let x191 := x169 == 2
  let x192 := bif x191 then false else x15
  let x193 := x169 == 3
  let x194 := bif x193 then false else x21
  let x195 := x169 == 4
  let x196 := bif x195 then false else x27
  let x197 := x169 == 5
  let x198 := bif x197 then false else x33
  let x199 := x169 == 6
  let x200 := bif x199 then false else x39
  let x201 := x169 == 7
  let x202 := bif x201 then false else x45
  let x203 := x169 == 8
  let x204 := bif x203 then false else x51
  let x205 := IntKind.wrap .i64 x169
  let y209 := g13 [.i x0, .b x1, .b x2, .b x188, .b x4, .b x5, .i x6, .b x7, .b x8, .b x190, .b x10, .b x11, .i x12, .b x13, .b x14, .b x192, .b x16, .b x17, .i x18, .b x19, .b x20, .b x194, .b x22, .b x23, .i x24, .b x25, .b x26, .b x196, .b x28, .b x29, .i x30, .b x31, .b x32, .b x198, .b x34, .b x35, .i x36, .b x37, .b x38, .b x200, .b x40, .b x41, .i x42, .b x43, .b x44, .b x202, .b x46, .b x47, .i x48, .b x49, .b x50, .b x204, .b x52, .b x53, .i x54, .i x55, .i x205]
  let x209 := (dget y209 3).toB
  let x263 := !x61
  let x275 := bif x184 then x209 else x2
  let x331 := bif x168 then x275 else x2
  let x387 := bif x159 then x2 else x331
  let x443 := bif x86 then x2 else x387
  let x499 := bif x62 then x2 else x443
  let x555 := bif x263 then x499 else x2
  x555
noncomputable def r7_4 (x0 : Int) (x1 : Bool) (x2 : Bool) (x3 : Bool) (x4 : Bool) (x5 : Bool) (x6 : Int) (x7 : Bool) (x8 : Bool) (x9 : Bool) (x10 : Bool) (x11 : Bool) (x12 : Int) (x13 : Bool) (x14 : Bool) (x15 : Bool) (x16 : Bool) (x17 : Bool) (x18 : Int) (x19 : Bool) (x20 : Bool) (x21 : Bool) (x22 : Bool) (x23 : Bool) (x24 : Int) (x25 : Bool) (x26 : Bool) (x27 : Bool) (x28 : Bool) (x29 : Bool) (x30 : Int) (x31 : Bool) (x32 : Bool) (x33 : Bool) (x34 : Bool) (x35 : Bool) (x36 : Int) (x37 : Bool) (x38 : Bool) (x39 : Bool) (x40 : Bool) (x41 : Bool) (x42 : Int) (x43 : Bool) (x44 : Bool) (x45 : Bool) (x46 : Bool) (x47 : Bool) (x48 : Int) (x49 : Bool) (x50 : Bool) (x51 : Bool) (x52 : Bool) (x53 : Bool) (x54 : Int) (x55 : Int) (x56 : Int) (x57 : Int) (x58 : Int) : Bool :=
  let x59 := r12_0 x56 x57
  let x60 := r12_1 x56 x57
  let x61 := x59 == 0
  let x62 := x59 == 1
  let x86 := x59 == 3
  let x159 := x59 == 4
  let x168 := x59 == 5
  let x169 := iland .u64 x58 4294967295
  let x170 := decide (x169 ≥ 1)
  let x171 := decide (x169 ≤ 8)
  let x172 := x170 && x171
  let x175 := [x3, x9, x15, x21, x27, x33, x39, x45, x51].getD (Int.toNat x169) false
  let x176 := x172 && x175
  let x181 := [x4, x10, x16, x22, x28, x34, x40, x46, x52].getD (Int.toNat x169) false
  let x182 := [x5, x11, x17, x23, x29, x35, x41, x47, x53].getD (Int.toNat x169) false
  let x183 := [x181, x182].getD (Int.toNat x60) false
  let x184 := x176 && x183
  let x187 := x169 == 0
  let x188 := bif x187 then false else x3
  let x189 := x169 == 1
  let x190 := bif x189 then false else x9
  let x191 := x169 == 2
  let x192 := bif x191 then false else x15
  let x193 := x169 == 3
  let x194 := bif x193 then false else x21
  let x195 := x169 == 4
  let x196 := bif x195 then false else x27
  let x197 := x169 == 5
  let x198 := bif x197 then false else x33
  let x199 := x169 == 6
  let x200 := bif x199 then false else x39
  let x201 := x169 == 7
  let x202 := bif x201 then false else x45
  let x203 := x169 == 8
  let x204 := bif x203 then false else x51
  let x205 := IntKind.wrap .i64 x169
  let y210 := g13 [.i x0, .b x1, .b x2, .b x188, .b x4, .b x5, .i x6, .b x7, .b x8, .b x190, .b x10, .b x11, .i x12, .b x13, .b x14, .b x192, .b x16, .b x17, .i x18, .b x19, .b x20, .b x194, .b x22, .b x23, .i x24, .b x25, .b x26, .b x196, .b x28, .b x29, .i x30, .b x31, .b x32, .b x198, .b x34, .b x35, .i x36, .b x37, .b x38, .b x200, .b x40, .b x41, .i x42, .b x43, .b x44, .b x202, .b x46, .b x47, .i x48, .b x49, .b x50, .b x204, .b x52, .b x53, .i x54, .i x55, .i x205]
  let x210 := (dget y210 4).toB
  let x263 := !x61
  let x276 := bif x184 then x210 else x3
  let x332 := bif x168 then x276 else x3
  let x388 := bif x159 then x3 else x332
  let x444 := bif x86 then x3 else x388
  let x500 := bif x62 then x3 else x444
  let x556 := bif x263 then x500 else x3
  x556
noncomputable def r7_5 (x0 : Int) (x1 : Bool) (x2 : Bool) (x3 : Bool) (x4 : Bool) (x5 : Bool) (x6 : Int) (x7 : Bool) (x8 : Bool) (x9 : Bool) (x10 : Bool) (x11 : Bool) (x12 : Int) (x13 : Bool) (x14 : Bool) (x15 : Bool) (x16 : Bool) (x17 : Bool) (x18 : Int) (x19 : Bool) (x20 : Bool) (x21 : Bool) (x22 : Bool) (x23 : Bool) (x24 : Int) (x25 : Bool) (x26 : Bool) (x27 : Bool) (x28 : Bool) (x29 : Bool) (x30 : Int) (x31 : Bool) (x32 : Bool) (x33 : Bool) (x34 : Bool) (x35 : Bool) (x36 : Int) (x37 : Bool) (x38 : Bool) (x39 : Bool) (x40 : Bool) (x41 : Bool) (x42 : Int) (x43 : Bool) (x44 : Bool) (x45 : Bool) (x46 : Bool) (x47 : Bool) (x48 : Int) (x49 : Bool) (x50 : Bool) (x51 : Bool) (x52 : Bool) (x53 : Bool) (x54 : Int) (x55 : Int) (x56 : Int) (x57 : Int) (x58 : Int) : Bool :=
  let x59 := r12_0 x56 x57
  let x60 := r12_1 x56 x57
  let x61 := x59 == 0
  let x62 := x59 == 1
  let x86 := x59 == 3
  let x159 := x59 == 4
  let x168 := x59 == 5
  let x169 := iland .u64 x58 4294967295
  let x170 := decide (x169 ≥ 1)
  let x171 := decide (x169 ≤ 8)
  let x172 := x170 && x171
  let x175 := [x3, x9, x15, x21, x27, x33, x39, x45, x51].getD (Int.toNat x169) false
  let x176 := x172 && x175
  let x181 := [x4, x10, x16, x22, x28, x34, x40, x46, x52].getD (Int.toNat x169) false
  let x182 := [x5, x11, x17, x23, x29, x35, x41, x47, x53].getD (Int.toNat x169) false
  let x183 := [x181, x182].getD (Int.toNat x60) false
  let x184 := x176 && x183
  let x187 := x169 == 0
  let x188 := bif x187 then false else x3
  let x189 := x169 == 1
  let x190 := bif x189 then false else x9
  let x191 := x169 == 2
  let x192 := bif x191 then false else x15
  let x193 := x169 == 3
  let x194 := bif x193 then false else x21
  let x195 := x169 == 4
  let x196 := bif x195 then false else x27
  let x197 := x169 == 5
  let x198 := bif x197 then false else x33
  let x199 := x169 == 6
  let x200 := bif x199 then false else x39
  let x201 := x169 == 7
  let x202 := bif x201 then false else x45
  let x203 := x169 == 8
  let x204 := bif x203 then false else x51
  let x205 := IntKind.wrap .i64 x169
  let y211 := g13 [.i x0, .b x1, .b x2, .b x188, .b x4, .b x5, .i x6, .b x7, .b x8, .b x190, .b x10, .b x11, .i x12, .b x13, .b x14, .b x192, .b x16, .b x17, .i x18, .b x19, .b x20, .b x194, .b x22, .b x23, .i x24, .b x25, .b x26, .b x196, .b x28, .b x29, .i x30, .b x31, .b x32, .b x198, .b x34, .b x35, .i x36, .b x37, .b x38, .b x200, .b x40, .b x41, .i x42, .b x43, .b x44, .b x202, .b x46, .b x47, .i x48, .b x49, .b x50, .b x204, .b x52, .b x53, .i x54, .i x55, .i x205]
  let x211 := (dget y211 5).toB
  let x263 := !x61
  let x277 := bif x184 then x211 else x4
  let x333 := bif x168 then x277 else x4
  let x389 := bif x159 then x4 else x333
  let x445 := bif x86 then x4 else x389
  let x501 := bif x62 then x4 else x445
  let x557 := bif x263 then x501 else x4
  x557
noncomputable def r7_6 (x0 : Int) (x1 : Bool) (x2 : Bool) (x3 : Bool) (x4 : Bool) (x5 : Bool) (x6 : Int) (x7 : Bool) (x8 : Bool) (x9 : Bool) (x10 : Bool) (x11 : Bool) (x12 : Int) (x13 : Bool) (x14 : Bool) (x15 : Bool) (x16 : Bool) (x17 : Bool) (x18 : Int) (x19 : Bool) (x20 : Bool) (x21 : Bool) (x22 : Bool) (x23 : Bool) (x24 : Int) (x25 : Bool) (x26 : Bool) (x27 : Bool) (x28 : Bool) (x29 : Bool) (x30 : Int) (x31 : Bool) (x32 : Bool) (x33 : Bool) (x34 : Bool) (x35 : Bool) (x36 : Int) (x37 : Bool) (x38 : Bool) (x39 : Bool) (x40 : Bool) (x41 : Bool) (x42 : Int) (x43 : Bool) (x44 : Bool) (x45 : Bool) (x46 : Bool) (x47 : Bool) (x48 : Int) (x49 : Bool) (x50 : Bool) (x51 : Bool) (x52 : Bool) (x53 : Bool) (x54 : Int) (x55 : Int) (x56 : Int) (x57 : Int) (x58 : Int) : Bool :=
  let x59 := r12_0 x56 x57
  let x60 := r12_1 x56 x57
  let x61 := x59 == 0
  let x62 := x59 == 1
  let x86 := x59 == 3
  let x159 := x59 == 4
  let x168 := x59 == 5
  let x169 := iland .u64 x58 4294967295
  let x170 := decide (x169 ≥ 1)
  let x171 := decide (x169 ≤ 8)
  let x172 := x170 && x171
  let x175 := [x3, x9, x15, x21, x27, x33, x39, x45, x51].getD (Int.toNat x169) false
  let x176 := x172 && x175
  let x181 := [x4, x10, x16, x22, x28, x34, x40, x46, x52].getD (Int.toNat x169) false
  let x182 := [x5, x11, x17, x23, x29, x35, x41, x47, x53].getD (Int.toNat x169) false
  let x183 := [x181, x182].getD (Int.toNat x60) false
  let x184 := x176 && x183
  let x187 := x169 == 0
  let x188 := bif x187 then false else x3
  let x189 := x169 == 1
  let x190 := bif x189 then false else x9
  let x191 := x169 == 2
  let x192 := bif x191 then false else x15
  let x193 := x169 == 3
  let x194 := bif x193 then false else x21
  let x195 := x169 == 4
  let x196 := bif x195 then false else x27
  let x197 := x169 == 5
  let x198 := bif x197 then false else x33
  let x199 := x169 == 6
  let x200 := bif x199 then false else x39
  let x201 := x169 == 7
  let x202 := bif x201 then false else x45
  let x203 := x169 == 8
  let x204 := bif x203 then false else x51
  let x205 := IntKind.wrap .i64 x169
  let y212 := g13 [.i x0, .b x1, .b x2, .b x188, .b x4, .b x5, .i x6, .b x7, .b x8, .b x190, .b x10, .b x11, .i x12, .b x13, .b x14, .b x192, .b x16, .b x17, .i x18, .b x19, .b x20, .b x194, .b x22, .b x23, .i x24, .b x25, .b x26, .b x196, .b x28, .b x29, .i x30, .b x31, .b x32, .b x198, .b x34, .b x35, .i x36, .b x37, .b x38, .b x200, .b x40, .b x41, .i x42, .b x43, .b x44, .b x202, .b x46, .b x47, .i x48, .b x49, .b x50, .b x204, .b x52, .b x53, .i x54, .i x55, .i x205]
  let x212 := (dget y212 6).toB
  let x263 := !x61
  let x278 := bif x184 then x212 else x5
  let x334 := bif x168 then x278 else x5
  let x390 := bif x159 then x5 else x334
  let x446 := bif x86 then x5 else x390
  let x502 := bif x62 then x5 else x446
  let x558 := bif x263 then x502 else x5
  x558
noncomputable def r7_7 (x0 : Int) (x1 : Bool) (x2 : Bool) (x3 : Bool) (x4 : Bool) (x5 : Bool) (x6 : Int) (x7 : Bool) (x8 : Bool) (x9 : Bool) (x10 : Bool) (x11 : Bool) (x12 : Int) (x13 : Bool) (x14 : Bool) (x15 : Bool) (x16 : Bool) (x17 : Bool) (x18 : Int) (x19 : Bool) (x20 : Bool) (x21 : Bool) (x22 : Bool) (x23 : Bool) (x24 : Int) (x25 : Bool) (x26 : Bool) (x27 : Bool) (x28 : Bool) (x29 : Bool) (x30 : Int) (x31 : Bool) (x32 : Bool) (x33 : Bool) (x34 : Bool) (x35 : Bool) (x36 : Int) (x37 : Bool) (x38 : Bool) (x39 : Bool) (x40 : Bool) (x41 : Bool) (x42 : Int) (x43 : Bool) (x44 : Bool) (x45 : Bool) (x46 : Bool) (x47 : Bool) (x48 : Int) (x49 : Bool) (x50 : Bool) (x51 : Bool) (x52 : Bool) (x53 : Bool) (x54 : Int) (x55 : Int) (x56 : Int) (x57 : Int) (x58 : Int) : Int :=
  let x59 := r12_0 x56 x57
  let x60 := r12_1 x56 x57
  let x61 := x59 == 0
  let x62 := x59 == 1
  let x63 := decide (x60 > 0)
  let x64 := iland .u64 x58 7
  let x65 := IntKind.wrap .i64 x64
  let x70 := x60 == 1
  let x71 := bif x70 then x65 else x6
  let x86 := x59 == 3
  let x159 := x59 == 4
  let x168 := x59 == 5
  let x169 := iland .u64 x58 4294967295
  let x170 := decide (x169 ≥ 1)
  let x171 := decide (x169 ≤ 8)
  let x172 := x170 && x171
  let x175 := [x3, x9, x15, x21, x27, x33, x39, x45, x51].getD (Int.toNat x169) false
  let x176 := x172 && x175
  let x181 := [x4, x10, x16, x22, x28, x34, x40, x46, x52].getD (Int.toNat x169) false
  let x182 := [x5, x11, x17, x23, x29, x35, x41, x47, x53].getD (Int.toNat x169) false
  let x183 := [x181, x182].getD (Int.toNat x60) false
  let x184 := x176 && x183
  let x187 := x169 == 0
  let x188 := bif x187 then false else x3
  let x189 := x169 == 1
  let x190 := bif x189 then false else x9
  let x191 := x169 == 2
  let x192 := bif x191 then false else x15
  let x193 := x169 == 3
  let x194 := bif x193 then false else x21
  let x195 := x169 == 4
  let x196 := bif x195 then false else x27
  let x197 := x169 == 5
  let x198 := bif x197 then false else x33
  let x199 := x169 == 6
  let x200 := bif x199 then false else x39
  let x201 := x169 == 7
  let x202 := bif x201 then false else x45
  let x203 := x169 == 8
  let x204 := bif x203 then false else x51
  let x205 := IntKind.wrap .i64 x169
  let y213 := g13 [.i x0, .b x1, .b x2, .b x188, .b x4, .b x5, .i x6, .b x7, .b x8, .b x190, .b x10, .b x11, .i x12, .b x13, .b x14, .b x192, .b x16, .b x17, .i x18, .b x19, .b x20, .b x194, .b x22, .b x23, .i x24, .b x25, .b x26, .b x196, .b x28, .b x29, .i x30, .b x31, .b x32, .b x198, .b x34, .b x35, .i x36, .b x37, .b x38, .b x200, .b x40, .b x41, .i x42, .b x43, .b x44, .b x202, .b x46, .b x47, .i x48, .b x49, .b x50, .b x204, .b x52, .b x53, .i x54, .i x55, .i x205]
  let x213 := (dget y213 7).toI
  let x263 := !x61
  let x265 := bif x63 then x71 else x6
  let x279 := bif x184 then x213 else x6
  let x335 := bif x168 then x279 else x6
  let x391 := bif x159 then x6 else x335
  let x447 := bif x86 then x6 else x391
  let x503 := bif x62 then x265 else x447
  let x559 := bif x263 then x503 else x6
  x559
noncomputable def r7_8 (x0 : Int) (x1 : Bool) (x2 : Bool) (x3 : Bool) (x4 : Bool) (x5 : Bool) (x6 : Int) (x7 : Bool) (x8 : Bool) (x9 : Bool) (x10 : Bool) (x11 : Bool) (x12 : Int) (x13 : Bool) (x14 : Bool) (x15 : Bool) (x16 : Bool) (x17 : Bool) (x18 : Int) (x19 : Bool) (x20 : Bool) (x21 : Bool) (x22 : Bool) (x23 : Bool) (x24 : Int) (x25 : Bool) (x26 : Bool) (x27 : Bool) (x28 : Bool) (x29 : Bool) (x30 : Int) (x31 : Bool) (x32 : Bool) (x33 : Bool) (x34 : Bool) (x35 : Bool) (x36 : Int) (x37 : Bool) (x38 : Bool) (x39 : Bool) (x40 : Bool) (x41 : Bool) (x42 : Int) (x43 : Bool) (x44 : Bool) (x45 : Bool) (x46 : Bool) (x47 : Bool) (x48 : Int) (x49 : Bool) (x50 : Bool) (x51 : Bool) (x52 : Bool) (x53 : Bool) (x54 : Int) (x55 : Int) (x56 : Int) (x57 : Int) (x58 : Int) : Bool :=
  let x59 := r12_0 x56 x57
  let x60 := r12_1 x56 x57
  let x61 := x59 == 0
  let x62 := x59 == 1
  let x86 := x59 == 3
  let x159 := x59 == 4
  let x168 := x59 == 5
  let x169 := iland .u64 x58 4294967295
  let x170 := decide (x169 ≥ 1)
  let x171 := decide (x169 ≤ 8)
  let x172 := x170 && x171
  let x175 := [x3, x9, x15, x21, x27, x33, x39, x45, x51].getD (Int.toNat x169) false
  let x176 := x172 && x175
  let x181 := [x4, x10, x16, x22, x28, x34, x40, x46, x52].getD (Int.toNat x169) false
  let x182 := [x5, x11, x17, x23, x29, x35, x41, x47, x53].getD (Int.toNat x169) false
  let x183 := [x181, x182].getD (Int.toNat x60) false
  let x184 := x176 && x183
  let x187 := x169 == 0
  let x188 := bif x187 then false else x3
  let x189 := x169 == 1
  let x190 := bif x189 then false else x9
  let x191 := x169 == 2
  let x192 := bif x191 then false else x15
  let x193 := x169 == 3
  let x194 := bif x193 then false else x21
  let x195 := x169 == 4
  let x196 := bif x195 then false else x27
  let x197 := x169 == 5
  let x198 := bif x197 then false else x33
  let x199 := x169 == 6
  let x200 := bif x199 then false else x39
  let x201 := x169 == 7
  let x202 := bif x201 then false else x45
  let x203 := x169 == 8
  let x204 := bif x203 then false else x51
  let x205 := IntKind.wrap .i64 x169
  let y214 := g13 [.i x0, .b x1, .b x2, .b x188, .b x4, .b x5, .i x6, .b x7, .b x8, .b x190, .b x10, .b x11, .i x12, .b x13, .b x14, .b x192, .b x16, .b x17, .i x18, .b x19, .b x20, .b x194, .b x22, .b x23, .i x24, .b x25, .b x26, .b x196, .b x28, .b x29, .i x30, .b x31, .b x32, .b x198, .b x34, .b x35, .i x36, .b x37, .b x38, .b x200, .b x40, .b x41, .i x42, .b x43, .b x44, .b x202, .b x46, .b x47, .i x48, .b x49, .b x50, .b x204, .b x52, .b x53, .i x54, .i x55, .i x205]
  let x214 := (dget y214 8).toB
  let x263 := !x61
  let x280 := bif x184 then x214 else x7
  let x336 := bif x168 then x280 else x7
  let x392 := bif x159 then x7 else x336
  let x448 := bif x86 then x7 else x392
  let x504 := bif x62 then x7 else x448
  let x560 := bif x263 then x504 else x7
  x560
noncomputable def r7_9 (x0 : Int) (x1 : Bool) (x2 : Bool) (x3 : Bool) (x4 : Bool) (x5 : Bool) (x6 : Int) (x7 : Bool) (x8 : Bool) (x9 : Bool) (x10 : Bool) (x11 : Bool) (x12 : Int) (x13 : Bool) (x14 : Bool) (x15 : Bool) (x16 : Bool) (x17 : Bool) (x18 : Int) (x19 : Bool) (x20 : Bool) (x21 : Bool) (x22 : Bool) (x23 : Bool) (x24 : Int) (x25 : Bool) (x26 : Bool) (x27 : Bool) (x28 : Bool) (x29 : Bool) (x30 : Int) (x31 : Bool) (x32 : Bool) (x33 : Bool) (x34 : Bool) (x35 : Bool) (x36 : Int) (x37 : Bool) (x38 : Bool) (x39 : Bool) (x40 : Bool) (x41 : Bool) (x42 : Int) (x43 : Bool) (x44 : Bool) (x45 : Bool) (x46 : Bool) (x47 : Bool) (x48 : Int) (x49 : Bool) (x50 : Bool) (x51 : Bool) (x52 : Bool) (x53 : Bool) (x54 : Int) (x55 : Int) (x56 : Int) (x57 : Int) (x58 : Int) : Bool :=
  let x59 := r12_0 x56 x57
  let x60 := r12_1 x56 x57
  let x61 := x59 == 0
  let x62 := x59 == 1
  let x86 := x59 == 3
  let x159 := x59 == 4
  let x168 := x59 == 5
  let x169 := iland .u64 x58 4294967295
  let x170 := decide (x169 ≥ 1)
  let x171 := decide (x169 ≤ 8)
  let x172 := x170 && x171
  let x175 := [x3, x9, x15, x21, x27, x33, x39, x45, x51].getD (Int.toNat x169) false
  let x176 := x172 && x175
  let x181 := [x4, x10, x16, x22, x28, x34, x40, x46, x52].getD (Int.toNat x169) false
  let x182 := [x5, x11, x17, x23, x29, x35, x41, x47, x53].getD (Int.toNat x169) false
  let x183 := [x181, x182].getD (Int.toNat x60) false
  let x184 := x176 && x183
  let x187 := x169 == 0
  let x188 := bif x187 then false else x3
  let x189 := x169 == 1
  let x190 := bif x189 then false else x9
  let x191 := x169 == 2
  let x192 := bif x191 then false else x15
  let x193 := x169 == 3
  let x194 := bif x193 then false else x21
  let x195 := x169 == 4
  let x196 := bif x195 then false else x27
  let x197 := x169 == 5
  let x198 := bif x197 then false else x33
  let x199 := x169 == 6
  let x200 := bif x199 then false else x39
  let x201 := x169 == 7
  let x202 := bif x201 then false else x45
  let x203 := x169 == 8
  let x204 := bif x203 then false else x51
  let x205 := IntKind.wrap .i64 x169
  let y215 := g13 [.i x0, .b x1, .b x2, .b x188, .b x4, .b x5, .i x6, .b x7, .b x8, .b x190, .b x10, .b x11, .i x12, .b x13, .b x14, .b x192, .b x16, .b x17, .i x18, .b x19, .b x20, .b x194, .b x22, .b x23, .i x24, .b x25, .b x26, .b x196, .b x28, .b x29, .i x30, .b x31, .b x32, .b x198, .b x34, .b x35, .i x36, .b x37, .b x38, .b x200, .b x40, .b x41, .i x42, .b x43, .b x44, .b x202, .b x46, .b x47, .i x48, .b x49, .b x50, .b x204, .b x52, .b x53, .i x54, .i x55, .i x205]
  let x215 := (dget y215 9).toB
  let x263 := !x61
  let x281 := bif x184 then x215 else x8
  let x337 := bif x168 then x281 else x8
  let x393 := bif x159 then x8 else x337
  let x449 := bif x86 then x8 else x393
  let x505 := bif x62 then x8 else x449
  let x561 := bif x263 then x505 else x8
  x561
noncomputable def r7_10 (x0 : Int) (x1 : Bool) (x2 : Bool) (x3 : Bool) (x4 : Bool) (x5 : Bool) (x6 : Int) (x7 : Bool) (x8 : Bool) (x9 : Bool) (x10 : Bool) (x11 : Bool) (x12 : Int) (x13 : Bool) (x14 : Bool) (x15 : Bool) (x16 : Bool) (x17 : Bool) (x18 : Int) (x19 : Bool) (x20 : Bool) (x21 : Bool) (x22 : Bool) (x23 : Bool) (x24 : Int) (x25 : Bool) (x26 : Bool) (x27 : Bool) (x28 : Bool) (x29 : Bool) (x30 : Int) (x31 : Bool) (x32 : Bool) (x33 : Bool) (x34 : Bool) (x35 : Bool) (x36 : Int) (x37 : Bool) (x38 : Bool) (x39 : Bool) (x40 : Bool) (x41 : Bool) (x42 : Int) (x43 : Bool) (x44 : Bool) (x45 : Bool) (x46 : Bool) (x47 : Bool) (x48 : Int) (x49 : Bool) (x50 : Bool) (x51 : Bool) (x52 : Bool) (x53 : Bool) (x54 : Int) (x55 : Int) (x56 : Int) (x57 : Int) (x58 : Int) : Bool :=
  let x59 := r12_0 x56 x57
  let x60 := r12_1 x56 x57
  let x61 := x59 == 0
  let x62 := x59 == 1
  let x86 := x59 == 3
  let x159 := x59 == 4
  let x168 := x59 == 5
  let x169 := iland .u64 x58 4294967295
  let x170 := decide (x169 ≥ 1)
  let x171 := decide (x169 ≤ 8)
  let x172 := x170 && x171
  let x175 := [x3, x9, x15, x21, x27, x33, x39, x45, x51].getD (Int.toNat x169) false
  let x176 := x172 && x175
  let x181 := [x4, x10, x16, x22, x28, x34, x40, x46, x52].getD (Int.toNat x169) false
  let x182 := [x5, x11, x17, x23, x29, x35, x41, x47, x53].getD (Int.toNat x169) false
  let x183 := [x181, x182].getD (Int.toNat x60) false
  let x184 := x176 && x183
  let x187 := x169 == 0
  let x188 := bif x187 then false else x3
  let x189 := x169 == 1
  let x190 := bif x189 then false else x9
  let x191 := x169 == 2
  let x192 := bif x191 then false else x15
  let x193 := x169 == 3
  let x194 := bif x193 then false else x21
  let x195 := x169 == 4
  let x196 := bif x195 then false else x27
  let x197 := x169 == 5
  let x198 := bif x197 then false else x33
  let x199 := x169 == 6
  let x200 := bif x199 then false else x39
  let x201 := x169 == 7
  let x202 := bif x201 then false else x45
  let x203 := x169 == 8
  let x204 := bif x203 then false else x51
  let x205 := IntKind.wrap .i64 x169
  let y216 := g13 [.i x0, .b x1, .b x2, .b x188, .b x4, .b x5, .i x6, .b x7, .b x8, .b x190, .b x10, .b x11, .i x12, .b x13, .b x14, .b x192, .b x16, .b x17, .i x18, .b x19, .b x20, .b x194, .b x22, .b x23, .i x24, .b x25, .b x26, .b x196, .b x28, .b x29, .i x30, .b x31, .b x32, .b x198, .b x34, .b x35, .i x36, .b x37, .b x38, .b x200, .b x40, .b x41, .i x42, .b x43, .b x44, .b x202, .b x46, .b x47, .i x48, .b x49, .b x50, .b x204, .b x52, .b x53, .i x54, .i x55, .i x205]
  let x216 := (dget y216 10).toB
  let x263 := !x61
  let x282 := bif x184 then x216 else x9
  let x338 := bif x168 then x282 else x9
  let x394 := bif x159 then x9 else x338
  let x450 := bif x86 then x9 else x394
  let x506 := bif x62 then x9 else x450
  let x562 := bif x263 then x506 else x9
  x562
noncomputable def r7_11 (x0 : Int) (x1 : Bool) (x2 : Bool) (x3 : Bool) (x4 : Bool) (x5 : Bool) (x6 : Int) (x7 : Bool) (x8 : Bool) (x9 : Bool) (x10 : Bool) (x11 : Bool) (x12 : Int) (x13 : Bool) (x14 : Bool) (x15 : Bool) (x16 : Bool) (x17 : Bool) (x18 : Int) (x19 : Bool) (x20 : Bool) (x21 : Bool) (x22 : Bool) (x23 : Bool) (x24 : Int) (x25 : Bool) (x26 : Bool) (x27 : Bool) (x28 : Bool) (x29 : Bool) (x30 : Int) (x31 : Bool) (x32 : Bool) (x33 : Bool) (x34 : Bool) (x35 : Bool) (x36 : Int) (x37 : Bool) (x38 : Bool) (x39 : Bool) (x40 : Bool) (x41 : Bool) (x42 : Int) (x43 : Bool) (x44 : Bool) (x45 : Bool) (x46 : Bool) (x47 : Bool) (x48 : Int) (x49 : Bool) (x50 : Bool) (x51 : Bool) (x52 : Bool) (x53 : Bool) (x54 : Int) (x55 : Int) (x56 : Int) (x57 : Int) (x58 : Int) : Bool :=
  let x59 := r12_0 x56 x57
  let x60 := r12_1 x56 x57
  let x61 := x59 == 0
  let x62 := x59 == 1
  let x86 := x59 == 3
  let x87 := ishr .u64 x58 1
  let x88 := iland .u64 x87 1
  let x89 := x88 == 1
  let x92 := x60 == 0
  let x93 := bif x92 then x89 else x10
  let x159 := x59 == 4
  let x168 := x59 == 5
  let x169 := iland .u64 x58 4294967295
  let x170 := decide (x169 ≥ 1)
  let x171 := decide (x169 ≤ 8)
  let x172 := x170 && x171
  let x175 := [x3, x9, x15, x21, x27, x33, x39, x45, x51].getD (Int.toNat x169) false
  let x176 := x172 && x175
  let x181 := [x4, x10, x16, x22, x28, x34, x40, x46, x52].getD (Int.toNat x169) false
  let x182 := [x5, x11, x17, x23, x29, x35, x41, x47, x53].getD (Int.toNat x169) false
  let x183 := [x181, x182].getD (Int.toNat x60) false
  let x184 := x176 && x183
  let x187 := x169 == 0
  let x188 := bif x187 then false else x3
  let x189 := x169 == 1
  let x190 := bif x189 then false else x9
  let x191 := x169 == 2
  let x192 := bif x191 then false else x15
  let x193 := x169 == 3
  let x194 := bif x193 then false else x21
  let x195 := x169 == 4
  let x196 := bif x195 then false else x27
  let x197 := x169 == 5
  let x198 := bif x197 then false else x33
  let x199 := x169 == 6
  let x200 := bif x199 then false else x39
  let x201 := x169 == 7
  let x202 := bif x201 then false else x45
  let x203 := x169 == 8
  let x204 := bif x203 then false else x51
  let x205 := IntKind.wrap .i64 x169
  let y217 := g13 [.i x0, .b x1, .b x2, .b x188, .b x4, .b x5, .i x6, .b x7, .b x8, .b x190, .b x10, .b x11, .i x12, .b x13, .b x14, .b x192, .b x16, .b x17, .i x18, .b x19, .b x20, .b x194, .b x22, .b x23, .i x24, .b x25, .b x26, .b x196, .b x28, .b x29, .i x30, .b x31, .b x32, .b x198, .b x34, .b x35, .i x36, .b x37, .b x38, .b x200, .b x40, .b x41, .i x42, .b x43, .b x44, .b x202, .b x46, .b x47, .i x48, .b x49, .b x50, .b x204, .b x52, .b x53, .i x54, .i x55, .i x205]
  let x217 := (dget y217 11).toB
  let x263 := !x61
  let x283 := bif x184 then x217 else x10
  let x339 := bif x168 then x283 else x10
  let x395 := bif x159 then x10 else x339
  let x451 := bif x86 then x93 else x395
  let x507 := bif x62 then x10 else x451
  let x563 := bif x263 then x507 else x10
  x563
noncomputable def r7_12 (x0 : Int) (x1 : Bool) (x2 : Bool) (x3 : Bool) (x4 : Bool) (x5 : Bool) (x6 : Int) (x7 : Bool) (x8 : Bool) (x9 : Bool) (x10 : Bool) (x11 : Bool) (x12 : Int) (x13 : Bool) (x14 : Bool) (x15 : Bool) (x16 : Bool) (x17 : Bool) (x18 : Int) (x19 : Bool) (x20 : Bool) (x21 : Bool) (x22 : Bool) (x23 : Bool) (x24 : Int) (x25 : Bool) (x26 : Bool) (x27 : Bool) (x28 : Bool) (x29 : Bool) (x30 : Int) (x31 : Bool) (x32 : Bool) (x33 : Bool) (x34 : Bool) (x35 : Bool) (x36 : Int) (x37 : Bool) (x38 : Bool) (x39 : Bool) (x40 : Bool) (x41 : Bool) (x42 : Int) (x43 : Bool) (x44 : Bool) (x45 : Bool) (x46 : Bool) (x47 : Bool) (x48 : Int) (x49 : Bool) (x50 : Bool) (x51 : Bool) (x52 : Bool) (x53 : Bool) (x54 : Int) (x55 : Int) (x56 : Int) (x57 : Int) (x58 : Int) : Bool :=
  let x59 := r12_0 x56 x57
  let x60 := r12_1 x56 x57
  let x61 := x59 == 0
  let x62 := x59 == 1
  let x86 := x59 == 3
  let x87 := ishr .u64 x58 1
  let x88 := iland .u64 x87 1
  let x89 := x88 == 1
  let x94 := x60 == 1
  let x95 := bif x94 then x89 else x11
  let x159 := x59 == 4
  let x168 := x59 == 5
  let x169 := iland .u64 x58 4294967295
  let x170 := decide (x169 ≥ 1)
  let x171 := decide (x169 ≤ 8)
  let x172 := x170 && x171
  let x175 := [x3, x9, x15, x21, x27, x33, x39, x45, x51].getD (Int.toNat x169) false
  let x176 := x172 && x175
  let x181 := [x4, x10, x16, x22, x28, x34, x40, x46, x52].getD (Int.toNat x169) false
  let x182 := [x5, x11, x17, x23, x29, x35, x41, x47, x53].getD (Int.toNat x169) false
  let x183 := [x181, x182].getD (Int.toNat x60) false
  let x184 := x176 && x183
  let x187 := x169 == 0
  let x188 := bif x187 then false else x3
  let x189 := x169 == 1
  let x190 := bif x189 then false else x9
  let x191 := x169 == 2
  let x192 := bif x191 then false else x15
  let x193 := x169 == 3
  let x194 := bif x193 then false else x21
  let x195 := x169 == 4
  let x196 := bif x195 then false else x27
  let x197 := x169 == 5
  let x198 := bif x197 then false else x33
  let x199 := x169 == 6
  let x200 := bif x199 then false else x39
  let x201 := x169 == 7
  let x202 := bif x201 then false else x45
  let x203 := x169 == 8
  let x204 := bif x203 then false else x51
  let x205 := IntKind.wrap .i64 x169
  let y218 := g13 [.i x0, .b x1, .b x2, .b x188, .b x4, .b x5, .i x6, .b x7, .b x8, .b x190, .b x10, .b x11, .i x12, .b x13, .b x14, .b x192, .b x16, .b x17, .i x18, .b x19, .b x20, .b x194, .b x22, .b x23, .i x24, .b x25, .b x26, .b x196, .b x28, .b x29, .i x30, .b x31, .b x32, .b x198, .b x34, .b x35, .i x36, .b x37, .b x38, .b x200, .b x40, .b x41, .i x42, .b x43, .b x44, .b x202, .b x46, .b x47, .i x48, .b x49, .b x50, .b x204, .b x52, .b x53, .i x54, .i x55, .i x205]
  let x218 := (dget y218 12).toB
  let x263 := !x61
  let x284 := bif x184 then x218 else x11
  let x340 := bif x168 then x284 else x11
  let x396 := bif x159 then x11 else x340
  let x452 := bif x86 then x95 else x396
  let x508 := bif x62 then x11 else x452
  let x564 := bif x263 then x508 else x11
  x564
noncomputable def r7_13 (x0 : Int) (x1 : Bool) (x2 : Bool) (x3 : Bool) (x4 : Bool) (x5 : Bool) (x6 : Int) (x7 : Bool) (x8 : Bool) (x9 : Bool) (x10 : Bool) (x11 : Bool) (x12 : Int) (x13 : Bool) (x14 : Bool) (x15 : Bool) (x16 : Bool) (x17 : Bool) (x18 : Int) (x19 : Bool) (x20 : Bool) (x21 : Bool) (x22 : Bool) (x23 : Bool) (x24 : Int) (x25 : Bool) (x26 : Bool) (x27 : Bool) (x28 : Bool) (x29 : Bool) (x30 : Int) (x31 : Bool) (x32 : Bool) (x33 : Bool) (x34 : Bool) (x35 : Bool) (x36 : Int) (x37 : Bool) (x38 : Bool) (x39 : Bool) (x40 : Bool) (x41 : Bool) (x42 : Int) (x43 : Bool) (x44 : Bool) (x45 : Bool) (x46 : Bool) (x47 : Bool) (x48 : Int) (x49 : Bool) (x50 : Bool) (x51 : Bool) (x52 : Bool) (x53 : Bool) (x54 : Int) (x55 : Int) (x56 : Int) (x57 : Int) (x58 : Int) : Int :=
  let x59 := r12_0 x56 x57
  let x60 := r12_1 x56 x57
  let x61 := x59 == 0
  let x62 := x59 == 1
  let x63 := decide (x60 > 0)
  let x64 := iland .u64 x58 7
  let x65 := IntKind.wrap .i64 x64
  let x72 := x60 == 2
  let x73 := bif x72 then x65 else x12
  let x86 := x59 == 3
  let x159 := x59 == 4
  let x168 := x59 == 5
  let x169 := iland .u64 x58 4294967295
  let x170 := decide (x169 ≥ 1)
  let x171 := decide (x169 ≤ 8)
  let x172 := x170 && x171
  let x175 := [x3, x9, x15, x21, x27, x33, x39, x45, x51].getD (Int.toNat x169) false
  let x176 := x172 && x175
  let x181 := [x4, x10, x16, x22, x28, x34, x40, x46, x52].getD (Int.toNat x169) false
  let x182 := [x5, x11, x17, x23, x29, x35, x41, x47, x53].getD (Int.toNat x169) false
  let x183 := [x181, x182].getD (Int.toNat x60) false
  let x184 := x176 && x183
  let x187 := x169 == 0
  let x188 := bif x187 then false else x3
  let x189 := x169 == 1
  let x190 := bif x189 then false else x9
  let x191 := x169 == 2
  let x192 := bif x191 then false else x15
  let x193 := x169 == 3
  let x194 := bif x193 then false else x21
  let x195 := x169 == 4
  let x196 := bif x195 then false else x27
  let x197 := x169 == 5
  let x198 := bif x197 then false else x33
  let x199 := x169 == 6
  let x200 := bif x199 then false else x39
  let x201 := x169 == 7
  let x202 := bif x201 then false else x45
  let x203 := x169 == 8
  let x204 := bif x203 then false else x51
  let x205 := IntKind.wrap .i64 x169
  let y219 := g13 [.i x0, .b x1, .b x2, .b x188, .b x4, .b x5, .i x6, .b x7, .b x8, .b x190, .b x10, .b x11, .i x12, .b x13, .b x14, .b x192, .b x16, .b x17, .i x18, .b x19, .b x20, .b x194, .b x22, .b x23, .i x24, .b x25, .b x26, .b x196, .b x28, .b x29, .i x30, .b x31, .b x32, .b x198, .b x34, .b x35, .i x36, .b x37, .b x38, .b x200, .b x40, .b x41, .i x42, .b x43, .b x44, .b x202, .b x46, .b x47, .i x48, .b x49, .b x50, .b x204, .b x52, .b x53, .i x54, .i x55, .i x205]
  let x219 := (dget y219 13).toI
  let x263 := !x61
  let x266 := bif x63 then x73 else x12
  let x285 := bif x184 then x219 else x12
  let x341 := bif x168 then x285 else x12
  let x397 := bif x159 then x12 else x341
  let x453 := bif x86 then x12 else x397
  let x509 := bif x62 then x266 else x453
  let x565 := bif x263 then x509 else x12
  x565
noncomputable def r7_14 (x0 : Int) (x1 : Bool) (x2 : Bool) (x3 : Bool) (x4 : Bool) (x5 : Bool) (x6 : Int) (x7 : Bool) (x8 : Bool) (x9 : Bool) (x10 : Bool) (x11 : Bool) (x12 : Int) (x13 : Bool) (x14 : Bool) (x15 : Bool) (x16 : Bool) (x17 : Bool) (x18 : Int) (x19 : Bool) (x20 : Bool) (x21 : Bool) (x22 : Bool) (x23 : Bool) (x24 : Int) (x25 : Bool) (x26 : Bool) (x27 : Bool) (x28 : Bool) (x29 : Bool) (x30 : Int) (x31 : Bool) (x32 : Bool) (x33 : Bool) (x34 : Bool) (x35 : Bool) (x36 : Int) (x37 : Bool) (x38 : Bool) (x39 : Bool) (x40 : Bool) (x41 : Bool) (x42 : Int) (x43 : Bool) (x44 : Bool) (x45 : Bool) (x46 : Bool) (x47 : Bool) (x48 : Int) (x49 : Bool) (x50 : Bool) (x51 : Bool) (x52 : Bool) (x53 : Bool) (x54 : Int) (x55 : Int) (x56 : Int) (x57 : Int) (x58 : Int) : Bool :=
  let x59 := r12_0 x56 x57
  let x60 := r12_1 x56 x57
  let x61 := x59 == 0
  let x62 := x59 == 1
  let x86 := x59 == 3
  let x159 := x59 == 4
  let x168 := x59 == 5
  let x169 := iland .u64 x58 4294967295
  let x170 := decide (x169 ≥ 1)
  let x171 := decide (x169 ≤ 8)
  let x172 := x170 && x171
  let x175 := [x3, x9, x15, x21, x27, x33, x39, x45, x51].getD (Int.toNat x169) false
  let x176 := x172 && x175
  let x181 := [x4, x10, x16, x22, x28, x34, x40, x46, x52].getD (Int.toNat x169) false
  let x182 := [x5, x11, x17, x23, x29, x35, x41, x47, x53].getD (Int.toNat x169) false
  let x183 := [x181, x182].getD (Int.toNat x60) false
  let x184 := x176 && x183
  let x187 := x169 == 0
  let x188 := bif x187 then false else x3
  let x189 := x169 == 1
  let x190 := bif x189 then false else x9
  let x191 := x169 == 2
  let x192 := bif x191 then false else x15
  let x193 := x169 == 3
  let x194 := bif x193 then false else x21
  let x195 := x169 == 4
  let x196 := bif x195 then false else x27
  let x197 := x169 == 5
  let x198 := bif x197 then false else x33
  let x199 := x169 == 6
  let x200 := bif x199 then false else x39
  let x201 := x169 == 7
  let x202 := bif x201 then false else x45
  let x203 := x169 == 8
  let x204 := bif x203 then false else x51
  let x205 := IntKind.wrap .i64 x169
  let y220 := g13 [.i x0, .b x1, .b x2, .b x188, .b x4, .b x5, .i x6, .b x7, .b x8, .b x190, .b x10, .b x11, .i x12, .b x13, .b x14, .b x192, .b x16, .b x17, .i x18, .b x19, .b x20, .b x194, .b x22, .b x23, .i x24, .b x25, .b x26, .b x196, .b x28, .b x29, .i x30, .b x31, .b x32, .b x198, .b x34, .b x35, .i x36, .b x37, .b x38, .b x200, .b x40, .b x41, .i x42, .b x43, .b x44, .b x202, .b x46, .b x47, .i x48, .b x49, .b x50, .b x204, .b x52, .b x53, .i x54, .i x55, .i x205]
  let x220 := (dget y220 14).toB
  let x263 := !x61
  let x286 := bif x184 then x220 else x13
  let x342 := bif x168 then x286 else x13
  let x398 := bif x159 then x13 else x342
  let x454 := bif x86 then x13 else x398
  let x510 := bif x62 then x13 else x454
  let x566 := bif x263 then x510 else x13
  x566
noncomputable def r7_15 (x0 : Int) (x1 : Bool) (x2 : Bool) (x3 : Bool) (x4 : Bool) (x5 : Bool) (x6 : Int) (x7 : Bool) (x8 : Bool) (x9 : Bool) (x10 : Bool) (x11 : Bool) (x12 : Int) (x13 : Bool) (x14 : Bool) (x15 : Bool) (x16 : Bool) (x17 : Bool) (x18 : Int) (x19 : Bool) (x20 : Bool) (x21 : Bool) (x22 : Bool) (x23 : Bool) (x24 : Int) (x25 : Bool) (x26 : Bool) (x27 : Bool) (x28 : Bool) (x29 : Bool) (x30 : Int) (x31 : Bool) (x32 : Bool) (x33 : Bool) (x34 : Bool) (x35 : Bool) (x36 : Int) (x37 : Bool) (x38 : Bool) (x39 : Bool) (x40 : Bool) (x41 : Bool) (x42 : Int) (x43 : Bool) (x44 : Bool) (x45 : Bool) (x46 : Bool) (x47 : Bool) (x48 : Int) (x49 : Bool) (x50 : Bool) (x51 : Bool) (x52 : Bool) (x53 : Bool) (x54 : Int) (x55 : Int) (x56 : Int) (x57 : Int) (x58 : Int) : Bool :=
  let x59 := r12_0 x56 x57
  let x60 := r12_1 x56 x57
  let x61 := x59 == 0
  let x62 := x59 == 1
  let x86 := x59 == 3
  let x159 := x59 == 4
  let x168 := x59 == 5
  let x169 := iland .u64 x58 4294967295
  let x170 := decide (x169 ≥ 1)
  let x171 := decide (x169 ≤ 8)
  let x172 := x170 && x171
  let x175 := [x3, x9, x15, x21, x27, x33, x39, x45, x51].getD (Int.toNat x169) false
  let x176 := x172 && x175
  let x181 := [x4, x10, x16, x22, x28, x34, x40, x46, x52].getD (Int.toNat x169) false
  let x182 := [x5, x11, x17, x23, x29, x35, x41, x47, x53].getD (Int.toNat x169) false
  let x183 := [x181, x182].getD (Int.toNat x60) false
  let x184 := x176 && x183
  let x187 := x169 == 0
  let x188 := bif x187 then false else x3
  let x189 := x169 == 1
  let x190 := bif x189 then false else x9
  let x191 := x169 == 2
  let x192 := bif x191 then false else x15
  let x193 := x169 == 3
  let x194 := bif x193 then false else x21
  let x195 := x169 == 4
  let x196 := bif x195 then false else x27
  let x197 := x169 == 5
  let x198 := bif x197 then false else x33
  let x199 := x169 == 6
  let x200 := bif x199 then false else x39
  let x201 := x169 == 7
  let x202 := bif x201 then false else x45
  let x203 := x169 == 8
  let x204 := bif x203 then false else x51
  let x205 := IntKind.wrap .i64 x169
  let y221 := g13 [.i x0, .b x1, .b x2, .b x188, .b x4, .b x5, .i x6, .b x7, .b x8, .b x190, .b x10, .b x11, .i x12, .b x13, .b x14, .b x192, .b x16, .b x17, .i x18, .b x19, .b x20, .b x194, .b x22, .b x23, .i x24, .b x25, .b x26, .b x196, .b x28, .b x29, .i x30, .b x31, .b x32, .b x198, .b x34, .b x35, .i x36, .b x37, .b x38, .b x200, .b x40, .b x41, .i x42, .b x43, .b x44, .b x202, .b x46, .b x47, .i x48, .b x49, .b x50, .b x204, .b x52, .b x53, .i x54, .i x55, .i x205]
  let x221 := (dget y221 15).toB
  let x263 := !x61
  let x287 := bif x184 then x221 else x14
  let x343 := bif x168 then x287 else x14
  let x399 := bif x159 then x14 else x343
  let x455 := bif x86 then x14 else x399
  let x511 := bif x62 then x14 else x455
  let x567 := bif x263 then x511 else x14
  x567
noncomputable def r7_16 (x0 : Int) (x1 : Bool) (x2 : Bool) (x3 : Bool) (x4 : Bool) (x5 : Bool) (x6 : Int) (x7 : Bool) (x8 : Bool) (x9 : Bool) (x10 : Bool) (x11 : Bool) (x12 : Int) (x13 : Bool) (x14 : Bool) (x15 : Bool) (x16 : Bool) (x17 : Bool) (x18 : Int) (x19 : Bool) (x20 : Bool) (x21 : Bool) (x22 : Bool) (x23 : Bool) (x24 : Int) (x25 : Bool) (x26 : Bool) (x27 : Bool) (x28 : Bool) (x29 : Bool) (x30 : Int) (x31 : Bool) (x32 : Bool) (x33 : Bool) (x34 : Bool) (x35 : Bool) (x36 : Int) (x37 : Bool) (x38 : Bool) (x39 : Bool) (x40 : Bool) (x41 : Bool) (x42 : Int) (x43 : Bool) (x44 : Bool) (x45 : Bool) (x46 : Bool) (x47 : Bool) (x48 : Int) (x49 : Bool) (x50 : Bool) (x51 : Bool) (x52 : Bool) (x53 : Bool) (x54 : Int) (x55 : Int) (x56 : Int) (x57 : Int) (x58 : Int) : Bool :=
  let x59 := r12_0 x56 x57
  let x60 := r12_1 x56 x57
  let x61 := x59 == 0
  let x62 := x59 == 1
  let x86 := x59 == 3
  let x159 := x59 == 4
  let x168 := x59 == 5
  let x169 := iland .u64 x58 4294967295
  let x170 := decide (x169 ≥ 1)
  let x171 := decide (x169 ≤ 8)
  let x172 := x170 && x171
  let x175 := [x3, x9, x15, x21, x27, x33, x39, x45, x51].getD (Int.toNat x169) false
  let x176 := x172 && x175
  let x181 := [x4, x10, x16, x22, x28, x34, x40, x46, x52].getD (Int.toNat x169) false
  let x182 := [x5, x11, x17, x23, x29, x35, x41, x47, x53].getD (Int.toNat x169) false
  let x183 := [x181, x182].getD (Int.toNat x60) false
  let x184 := x176 && x183
  let x187 := x169 == 0
  let x188 := bif x187 then false else x3
  let x189 := x169 == 1
  let x190 := bif x189 then false else x9
  let x191 := x169 == 2
  let x192 := bif x191 then false else x15
  let x193 := x169 == 3
  let x194 := bif x193 then false else x21
  let x195 := x169 == 4
  let x196 := bif x195 then false else x27
  let x197 := x169 == 5
  let x198 := bif x197 then false else x33
  let x199 := x169 == 6
  let x200 := bif x199 then false else x39
  let x201 := x169 == 7
  let x202 := bif x201 then false else x45
  let x203 := x169 == 8
  let x204 := bif x203 then false else x51
  let x205 := IntKind.wrap .i64 x169
  let y222 := g13 [.i x0, .b x1, .b x2, .b x188, .b x4, .b x5, .i x6, .b x7, .b x8, .b x190, .b x10, .b x11, .i x12, .b x13, .b x14, .b x192, .b x16, .b x17, .i x18, .b x19, .b x20, .b x194, .b x22, .b x23, .i x24, .b x25, .b x26, .b x196, .b x28, .b x29, .i x30, .b x31, .b x32, .b x198, .b x34, .b x35, .i x36, .b x37, .b x38, .b x200, .b x40, .b x41, .i x42, .b x43, .b x44, .b x202, .b x46, .b x47, .i x48, .b x49, .b x50, .b x204, .b x52, .b x53, .i x54, .i x55, .i x205]
  let x222 := (dget y222 16).toB
  let x263 := !x61
  let x288 := bif x184 then x222 else x15
  let x344 := bif x168 then x288 else x15
  let x400 := bif x159 then x15 else x344
  let x456 := bif x86 then x15 else x400
  let x512 := bif x62 then x15 else x456
  let x568 := bif x263 then x512 else x15
  x568
noncomputable def r7_17 (x0 : Int) (x1 : Bool) (x2 : Bool) (x3 : Bool) (x4 : Bool) (x5 : Bool) (x6 : Int) (x7 : Bool) (x8 : Bool) (x9 : Bool) (x10 : Bool) (x11 : Bool) (x12 : Int) (x13 : Bool) (x14 : Bool) (x15 : Bool) (x16 : Bool) (x17 : Bool) (x18 : Int) (x19 : Bool) (x20 : Bool) (x21 : Bool) (x22 : Bool) (x23 : Bool) (x24 : Int) (x25 : Bool) (x26 : Bool) (x27 : Bool) (x28 : Bool) (x29 : Bool) (x30 : Int) (x31 : Bool) (x32 : Bool) (x33 : Bool) (x34 : Bool) (x35 : Bool) (x36 : Int) (x37 : Bool) (x38 : Bool) (x39 : Bool) (x40 : Bool) (x41 : Bool) (x42 : Int) (x43 : Bool) (x44 : Bool) (x45 : Bool) (x46 : Bool) (x47 : Bool) (x48 : Int) (x49 : Bool) (x50 : Bool) (x51 : Bool) (x52 : Bool) (x53 : Bool) (x54 : Int) (x55 : Int) (x56 : Int) (x57 : Int) (x58 : Int) : Bool :=
  let x59 := r12_0 x56 x57
  let x60 := r12_1 x56 x57
  let x61 := x59 == 0
  let x62 := x59 == 1
  let x86 := x59 == 3
  let x96 := ishr .u64 x58 2
  let x97 := iland .u64 x96 1
  let x98 := x97 == 1
  let x101 := x60 == 0
  let x102 := bif x101 then x98 else x16
  let x159 := x59 == 4
  let x168 := x59 == 5
  let x169 := iland .u64 x58 4294967295
  let x170 := decide (x169 ≥ 1)
  let x171 := decide (x169 ≤ 8)
  let x172 := x170 && x171
  let x175 := [x3, x9, x15, x21, x27, x33, x39, x45, x51].getD (Int.toNat x169) false
  let x176 := x172 && x175
  let x181 := [x4, x10, x16, x22, x28, x34, x40, x46, x52].getD (Int.toNat x169) false
  let x182 := [x5, x11, x17, x23, x29, x35, x41, x47, x53].getD (Int.toNat x169) false
  let x183 := [x181, x182].getD (Int.toNat x60) false
  let x184 := x176 && x183
  let x187 := x169 == 0
  let x188 := bif x187 then false else x3
  let x189 := x169 == 1
  let x190 := bif x189 then false else x9
  let x191 := x169 == 2
  let x192 := bif x191 then false else x15
  let x193 := x169 == 3
  let x194 := bif x193 then false else x21
  let x195 := x169 == 4
  let x196 := bif x195 then false else x27
  let x197 := x169 == 5
  let x198 := bif x197 then false else x33
  let x199 := x169 == 6
  let x200 := bif x199 then false else x39
  let x201 := x169 == 7
  let x202 := bif x201 then false else x45
  let x203 := x169 == 8
  let x204 := bif x203 then false else x51
  let x205 := IntKind.wrap .i64 x169
  let y223 := g13 [.i x0, .b x1, .b x2, .b x188, .b x4, .b x5, .i x6, .b x7, .b x8, .b x190, .b x10, .b x11, .i x12, .b x13, .b x14, .b x192, .b x16, .b x17, .i x18, .b x19, .b x20, .b x194, .b x22, .b x23, .i x24, .b x25, .b x26, .b x196, .b x28, .b x29, .i x30, .b x31, .b x32, .b x198, .b x34, .b x35, .i x36, .b x37, .b x38, .b x200, .b x40, .b x41, .i x42, .b x43, .b x44, .b x202, .b x46, .b x47, .i x48, .b x49, .b x50, .b x204, .b x52, .b x53, .i x54, .i x55, .i x205]
  let x223 := (dget y223 17).toB
  let x263 := !x61
  let x289 := bif x184 then x223 else x16
  let x345 := bif x168 then x289 else x16
  let x401 := bif x159 then x16 else x345
  let x457 := bif x86 then x102 else x401
  let x513 := bif x62 then x16 else x457
  let x569 := bif x263 then x513 else x16
  x569
noncomputable def r7_18 (x0 : Int) (x1 : Bool) (x2 : Bool) (x3 : Bool) (x4 : Bool) (x5 : Bool) (x6 : Int) (x7 : Bool) (x8 : Bool) (x9 : Bool) (x10 : Bool) (x11 : Bool) (x12 : Int) (x13 : Bool) (x14 : Bool) (x15 : Bool) (x16 : Bool) (x17 : Bool) (x18 : Int) (x19 : Bool) (x20 : Bool) (x21 : Bool) (x22 : Bool) (x23 : Bool) (x24 : Int) (x25 : Bool) (x26 : Bool) (x27 : Bool) (x28 : Bool) (x29 : Bool) (x30 : Int) (x31 : Bool) (x32 : Bool) (x33 : Bool) (x34 : Bool) (x35 : Bool) (x36 : Int) (x37 : Bool) (x38 : Bool) (x39 : Bool) (x40 : Bool) (x41 : Bool) (x42 : Int) (x43 : Bool) (x44 : Bool) (x45 : Bool) (x46 : Bool) (x47 : Bool) (x48 : Int) (x49 : Bool) (x50 : Bool) (x51 : Bool) (x52 : Bool) (x53 : Bool) (x54 : Int) (x55 : Int) (x56 : Int) (x57 : Int) (x58 : Int) : Bool :=
  let x59 := r12_0 x56 x57
  let x60 := r12_1 x56 x57
  let x61 := x59 == 0
  let x62 := x59 == 1
  let x86 := x59 == 3
  let x96 := ishr .u64 x58 2
  let x97 := iland .u64 x96 1
  let x98 := x97 == 1
  let x103 := x60 == 1
  let x104 := bif x103 then x98 else x17
  let x159 := x59 == 4
  let x168 := x59 == 5
  let x169 := iland .u64 x58 4294967295
  let x170 := decide (x169 ≥ 1)
  let x171 := decide (x169 ≤ 8)
  let x172 := x170 && x171
  let x175 := [x3, x9, x15, x21, x27, x33, x39, x45, x51].getD (Int.toNat x169) false
  let x176 := x172 && x175
  let x181 := [x4, x10, x16, x22, x28, x34, x40, x46, x52].getD (Int.toNat x169) false
  let x182 := [x5, x11, x17, x23, x29, x35, x41, x47, x53].getD (Int.toNat x169) false
  let x183 := [x181, x182].getD (Int.toNat x60) false
  let x184 := x176 && x183
  let x187 := x169 == 0
  let x188 := bif x187 then false else x3
  let x189 := x169 == 1
  let x190 := bif x189 then false else x9
  let x191 := x169 == 2
  let x192 := bif x191 then false else x15
  let x193 := x169 == 3
  let x194 := bif x193 then false else x21
  let x195 := x169 == 4
  let x196 := bif x195 then false else x27
  let x197 := x169 == 5
  let x198 := bif x197 then false else x33
  let x199 := x169 == 6
  let x200 := bif x199 then false else x39
  let x201 := x169 == 7
  let x202 := bif x201 then false else x45
  let x203 := x169 == 8
  let x204 := bif x203 then false else x51
  let x205 := IntKind.wrap .i64 x169
  let y224 := g13 [.i x0, .b x1, .b x2, .b x188, .b x4, .b x5, .i x6, .b x7, .b x8, .b x190, .b x10, .b x11, .i x12, .b x13, .b x14, .b x192, .b x16, .b x17, .i x18, .b x19, .b x20, .b x194, .b x22, .b x23, .i x24, .b x25, .b x26, .b x196, .b x28, .b x29, .i x30, .b x31, .b x32, .b x198, .b x34, .b x35, .i x36, .b x37, .b x38, .b x200, .b x40, .b x41, .i x42, .b x43, .b x44, .b x202, .b x46, .b x47, .i x48, .b x49, .b x50, .b x204, .b x52, .b x53, .i x54, .i x55, .i x205]
  let x224 := (dget y224 18).toB
  let x263 := !x61
  let x290 := bif x184 then x224 else x17
  let x346 := bif x168 then x290 else x17
  let x402 := bif x159 then x17 else x346
  let x458 := bif x86 then x104 else x402
  let x514 := bif x62 then x17 else x458
  let x570 := bif x263 then x514 else x17
  x570
noncomputable def r7_19 (x0 : Int) (x1 : Bool) (x2 : Bool) (x3 : Bool) (x4 : Bool) (x5 : Bool) (x6 : Int) (x7 : Bool) (x8 : Bool) (x9 : Bool) (x10 : Bool) (x11 : Bool) (x12 : Int) (x13 : Bool) (x14 : Bool) (x15 : Bool) (x16 : Bool) (x17 : Bool) (x18 : Int) (x19 : Bool) (x20 : Bool) (x21 : Bool) (x22 : Bool) (x23 : Bool) (x24 : Int) (x25 : Bool) (x26 : Bool) (x27 : Bool) (x28 : Bool) (x29 : Bool) (x30 : Int) (x31 : Bool) (x32 : Bool) (x33 : Bool) (x34 : Bool) (x35 : Bool) (x36 : Int) (x37 : Bool) (x38 : Bool) (x39 : Bool) (x40 : Bool) (x41 : Bool) (x42 : Int) (x43 : Bool) (x44 : Bool) (x45 : Bool) (x46 : Bool) (x47 : Bool) (x48 : Int) (x49 : Bool) (x50 : Bool) (x51 : Bool) (x52 : Bool) (x53 : Bool) (x54 : Int) (x55 : Int) (x56 : Int) (x57 : Int) (x58 : Int) : Int :=
  let x59 := r12_0 x56 x57
  let x60 := r12_1 x56 x57
  let x61 := x59 == 0
  let x62 := x59 == 1
  let x63 := decide (x60 > 0)
  let x64 := iland .u64 x58 7
  let x65 := IntKind.wrap .i64 x64
  let x74 := x60 == 3
  let x75 := bif x74 then x65 else x18
  let x86 := x59 == 3
  let x159 := x59 == 4
  let x168 := x59 == 5
  let x169 := iland .u64 x58 4294967295
  let x170 := decide (x169 ≥ 1)
  let x171 := decide (x169 ≤ 8)
  let x172 := x170 && x171
  let x175 := [x3, x9, x15, x21, x27, x33, x39, x45, x51].getD (Int.toNat x169) false
  let x176 := x172 && x175
  let x181 := [x4, x10, x16, x22, x28, x34, x40, x46, x52].getD (Int.toNat x169) false
  let x182 := [x5, x11, x17, x23, x29, x35, x41, x47, x53].getD (Int.toNat x169) false
  let x183 := [x181, x182].getD (Int.toNat x60) false
  let x184 := x176 && x183
  let x187 := x169 == 0
  let x188 := bif x187 then false else x3
  let x189 := x169 == 1
  let x190 := bif x189 then false else x9
  let x191 := x169 == 2
  let x192 := bif x191 then false else x15
  let x193 := x169 == 3
  let x194 := bif x193 then false else x21
  let x195 := x169 == 4
  let x196 := bif x195 then false else x27
  let x197 := x169 == 5
  let x198 := bif x197 then false else x33
  let x199 := x169 == 6
  let x200 := bif x199 then false else x39
  let x201 := x169 == 7
  let x202 := bif x201 then false else x45
  let x203 := x169 == 8
  let x204 := bif x203 then false else x51
  let x205 := IntKind.wrap .i64 x169
  let y225 := g13 [.i x0, .b x1, .b x2, .b x188, .b x4, .b x5, .i x6, .b x7, .b x8, .b x190, .b x10, .b x11, .i x12, .b x13, .b x14, .b x192, .b x16, .b x17, .i x18, .b x19, .b x20, .b x194, .b x22, .b x23, .i x24, .b x25, .b x26, .b x196, .b x28, .b x29, .i x30, .b x31, .b x32, .b x198, .b x34, .b x35, .i x36, .b x37, .b x38, .b x200, .b x40, .b x41, .i x42, .b x43, .b x44, .b x202, .b x46, .b x47, .i x48, .b x49, .b x50, .b x204, .b x52, .b x53, .i x54, .i x55, .i x205]
  let x225 := (dget y225 19).toI
  let x263 := !x61
  let x267 := bif x63 then x75 else x18
  let x291 := bif x184 then x225 else x18
  let x347 := bif x168 then x291 else x18
  let x403 := bif x159 then x18 else x347
  let x459 := bif x86 then x18 else x403
  let x515 := bif x62 then x267 else x459
  let x571 := bif x263 then x515 else x18
  x571
noncomputable def r7_20 (x0 : Int) (x1 : Bool) (x2 : Bool) (x3 : Bool) (x4 : Bool) (x5 : Bool) (x6 : Int) (x7 : Bool) (x8 : Bool) (x9 : Bool) (x10 : Bool) (x11 : Bool) (x12 : Int) (x13 : Bool) (x14 : Bool) (x15 : Bool) (x16 : Bool) (x17 : Bool) (x18 : Int) (x19 : Bool) (x20 : Bool) (x21 : Bool) (x22 : Bool) (x23 : Bool) (x24 : Int) (x25 : Bool) (x26 : Bool) (x27 : Bool) (x28 : Bool) (x29 : Bool) (x30 : Int) (x31 : Bool) (x32 : Bool) (x33 : Bool) (x34 : Bool) (x35 : Bool) (x36 : Int) (x37 : Bool) (x38 : Bool) (x39 : Bool) (x40 : Bool) (x41 : Bool) (x42 : Int) (x43 : Bool) (x44 : Bool) (x45 : Bool) (x46 : Bool) (x47 : Bool) (x48 : Int) (x49 : Bool) (x50 : Bool) (x51 : Bool) (x52 : Bool) (x53 : Bool) (x54 : Int) (x55 : Int) (x56 : Int) (x57 : Int) (x58 : Int) : Bool :=
  let x59 := r12_0 x56 x57
  let x60 := r12_1 x56 x57
  let x61 := x59 == 0
  let x62 := x59 == 1
  let x86 := x59 == 3
  let x159 := x59 == 4
  let x168 := x59 == 5
  let x169 := iland .u64 x58 4294967295
  let x170 := decide (x169 ≥ 1)
  let x171 := decide (x169 ≤ 8)
  let x172 := x170 && x171
  let x175 := [x3, x9, x15, x21, x27, x33, x39, x45, x51].getD (Int.toNat x169) false
  let x176 := x172 && x175
  let x181 := [x4, x10, x16, x22, x28, x34, x40, x46, x52].getD (Int.toNat x169) false
  let x182 := [x5, x11, x17, x23, x29, x35, x41, x47, x53].getD (Int.toNat x169) false
  let x183 := [x181, x182].getD (Int.toNat x60) false
  let x184 := x176 && x183
  let x187 := x169 == 0
  let x188 := bif x187 then false else x3
  let x189 := x169 == 1
  let x190 := bif x189 then false else x9
  let x191 := x169 == 2
  let x192 := bif x191 then false else x15
  let x193 := x169 == 3
  let x194 := bif x193 then false else x21
  let x195 := x169 == 4
  let x196 := bif x195 then false else x27
  let x197 := x169 == 5
  let x198 := bif x197 then false else x33
  let x199 := x169 == 6
  let x200 := bif x199 then false else x39
  let x201 := x169 == 7
  let x202 := bif x201 then false else x45
  let x203 := x169 == 8
  let x204 := bif x203 then false else x51
  let x205 := IntKind.wrap .i64 x169
  let y226 := g13 [.i x0, .b x1, .b x2, .b x188, .b x4, .b x5, .i x6, .b x7, .b x8, .b x190, .b x10, .b x11, .i x12, .b x13, .b x14, .b x192, .b x16, .b x17, .i x18, .b x19, .b x20, .b x194, .b x22, .b x23, .i x24, .b x25, .b x26, .b x196, .b x28, .b x29, .i x30, .b x31, .b x32, .b x198, .b x34, .b x35, .i x36, .b x37, .b x38, .b x200, .b x40, .b x41, .i x42, .b x43, .b x44, .b x202, .b x46, .b x47, .i x48, .b x49, .b x50, .b x204, .b x52, .b x53, .i x54, .i x55, .i x205]
  let x226 := (dget y226 20).toB
  let x263 := !x61
  let x292 := bif x184 then x226 else x19
  let x348 := bif x168 then x292 else x19
  let x404 := bif x159 then x19 else x348
  let x460 := bif x86 then x19 else x404
  let x516 := bif x62 then x19 else x460
  let x572 := bif x263 then x516 else x19
  x572
noncomputable def r7_21 (x0 : Int) (x1 : Bool) (x2 : Bool) (x3 : Bool) (x4 : Bool) (x5 : Bool) (x6 : Int) (x7 : Bool) (x8 : Bool) (x9 : Bool) (x10 : Bool) (x11 : Bool) (x12 : Int) (x13 : Bool) (x14 : Bool) (x15 : Bool) (x16 : Bool) (x17 : Bool) (x18 : Int) (x19 : Bool) (x20 : Bool) (x21 : Bool) (x22 : Bool) (x23 : Bool) (x24 : Int) (x25 : Bool) (x26 : Bool) (x27 : Bool) (x28 : Bool) (x29 : Bool) (x30 : Int) (x31 : Bool) (x32 : Bool) (x33 : Bool) (x34 : Bool) (x35 : Bool) (x36 : Int) (x37 : Bool) (x38 : Bool) (x39 : Bool) (x40 : Bool) (x41 : Bool) (x42 : Int) (x43 : Bool) (x44 : Bool) (x45 : Bool) (x46 : Bool) (x47 : Bool) (x48 : Int) (x49 : Bool) (x50 : Bool) (x51 : Bool) (x52 : Bool) (x53 : Bool) (x54 : Int) (x55 : Int) (x56 : Int) (x57 : Int) (x58 : Int) : Bool :=
  let x59 := r12_0 x56 x57
  let x60 := r12_1 x56 x57
  let x61 := x59 == 0
  let x62 := x59 == 1
  let x86 := x59 == 3
  let x159 := x59 == 4
  let x168 := x59 == 5
  let x169 := iland .u64 x58 4294967295
  let x170 := decide (x169 ≥ 1)
  let x171 := decide (x169 ≤ 8)
  let x172 := x170 && x171
  let x175 := [x3, x9, x15, x21, x27, x33, x39, x45, x51].getD (Int.toNat x169) false
  let x176 := x172 && x175
  let x181 := [x4, x10, x16, x22, x28, x34, x40, x46, x52].getD (Int.toNat x169) false
  let x182 := [x5, x11, x17, x23, x29, x35, x41, x47, x53].getD (Int.toNat x169) false
  let x183 := [x181, x182].getD (Int.toNat x60) false
  let x184 := x176 && x183
  let x187 := x169 == 0
  let x188 := bif x187 then false else x3
  let x189 := x169 == 1
  let x190 := bif x189 then false else x9
  let x191 := x169 == 2
  let x192 := bif x191 then false else x15
  let x193 := x169 == 3
  let x194 := bif x193 then false else x21
  let x195 := x169 == 4
  let x196 := bif x195 then false else x27
  let x197 := x169 == 5
  let x198 := bif x197 then false else x33
  let x199 := x169 == 6
  let x200 := bif x199 then false else x39
  let x201 := x169 == 7
  let x202 := bif x201 then false else x45
  let x203 := x169 == 8
  let x204 := bif x203 then false else x51
  let x205 := IntKind.wrap .i64 x169
  let y227 := g13 [.i x0, .b x1, .b x2, .b x188, .b x4, .b x5, .i x6, .b x7, .b x8, .b x190, .b x10, .b x11, .i x12, .b x13, .b x14, .b x192, .b x16, .b x17, .i x18, .b x19, .b x20, .b x194, .b x22, .b x23, .i x24, .b x25, .b x26, .b x196, .b x28, .b x29, .i x30, .b x31, .b x32, .b x198, .b x34, .b x35, .i x36, .b x37, .b x38, .b x200, .b x40, .b x41, .i x42, .b x43, .b x44, .b x202, .b x46, .b x47, .i x48, .b x49, .b x50, .b x204, .b x52, .b x53, .i x54, .i x55, .i x205]
  let x227 := (dget y227 21).toB
  let x263 := !x61
  let x293 := bif x184 then x227 else x20
  let x349 := bif x168 then x293 else x20
  let x405 := bif x159 then x20 else x349
  let x461 := bif x86 then x20 else x405
  let x517 := bif x62 then x20 else x461
  let x573 := bif x263 then x517 else x20
  x573
noncomputable def r7_22 (x0 : Int) (x1 : Bool) (x2 : Bool) (x3 : Bool) (x4 : Bool) (x5 : Bool) (x6 : Int) (x7 : Bool) (x8 : Bool) (x9 : Bool) (x10 : Bool) (x11 : Bool) (x12 : Int) (x13 : Bool) (x14 : Bool) (x15 : Bool) (x16 : Bool) (x17 : Bool) (x18 : Int) (x19 : Bool) (x20 : Bool) (x21 : Bool) (x22 : Bool) (x23 : Bool) (x24 : Int) (x25 : Bool) (x26 : Bool) (x27 : Bool) (x28 : Bool) (x29 : Bool) (x30 : Int) (x31 : Bool) (x32 : Bool) (x33 : Bool) (x34 : Bool) (x35 : Bool) (x36 : Int) (x37 : Bool) (x38 : Bool) (x39 : Bool) (x40 : Bool) (x41 : Bool) (x42 : Int) (x43 : Bool) (x44 : Bool) (x45 : Bool) (x46 : Bool) (x47 : Bool) (x48 : Int) (x49 : Bool) (x50 : Bool) (x51 : Bool) (x52 : Bool) (x53 : Bool) (x54 : Int) (x55 : Int) (x56 : Int) (x57 : Int) (x58 : Int) : Bool :=
  let x59 := r12_0 x56 x57
  let x60 := r12_1 x56 x57
  let x61 := x59 == 0
  let x62 := x59 == 1
  let x86 := x59 == 3
  let x159 := x59 == 4
  let x168 := x59 == 5
  let x169 := iland .u64 x58 4294967295
  let x170 := decide (x169 ≥ 1)
  let x171 := decide (x169 ≤ 8)
  let x172 := x170 && x171
  let x175 := [x3, x9, x15, x21, x27, x33, x39, x45, x51].getD (Int.toNat x169) false
  let x176 := x172 && x175
  let x181 := [x4, x10, x16, x22, x28, x34, x40, x46, x52].getD (Int.toNat x169) false
  let x182 := [x5, x11, x17, x23, x29, x35, x41, x47, x53].getD (Int.toNat x169) false
  let x183 := [x181, x182].getD (Int.toNat x60) false
  let x184 := x176 && x183
  let x187 := x169 == 0
  let x188 := bif x187 then false else x3
  let x189 := x169 == 1
  let x190 := bif x189 then false else x9
  let x191 := x169 == 2
  let x192 := bif x191 then false else x15
  let x193 := x169 == 3
  let x194 := bif x193 then false else x21
  let x195 := x169 == 4
  let x196 := bif x195 then false else x27
  let x197 := x169 == 5
  let x198 := bif x197 then false else x33
  let x199 := x169 == 6
  let x200 := bif x199 then false else x39
  let x201 := x169 == 7
  let x202 := bif x201 then false else x45
  let x203 := x169 == 8
  let x204 := bif x203 then false else x51
  let x205 := IntKind.wrap .i64 x169
  let y228 := g13 [.i x0, .b x1, .b x2, .b x188, .b x4, .b x5, .i x6, .b x7, .b x8, .b x190, .b x10, .b x11, .i x12, .b x13, .b x14, .b x192, .b x16, .b x17, .i x18, .b x19, .b x20, .b x194, .b x22, .b x23, .i x24, .b x25, .b x26, .b x196, .b x28, .b x29, .i x30, .b x31, .b x32, .b x198, .b x34, .b x35, .i x36, .b x37, .b x38, .b x200, .b x40, .b x41, .i x42, .b x43, .b x44, .b x202, .b x46, .b x47, .i x48, .b x49, .b x50, .b x204, .b x52, .b x53, .i x54, .i x55, .i x205]
  let x228 := (dget y228 22).toB
  let x263 := !x61
  let x294 := bif x184 then x228 else x21
  let x350 := bif x168 then x294 else x21
  let x406 := bif x159 then x21 else x350
  let x462 := bif x86 then x21 else x406
  let x518 := bif x62 then x21 else x462
  let x574 := bif x263 then x518 else x21
  x574
noncomputable def r7_23 (x0 : Int) (x1 : Bool) (x2 : Bool) (x3 : Bool) (x4 : Bool) (x5 : Bool) (x6 : Int) (x7 : Bool) (x8 : Bool) (x9 : Bool) (x10 : Bool) (x11 : Bool) (x12 : Int) (x13 : Bool) (x14 : Bool) (x15 : Bool) (x16 : Bool) (x17 : Bool) (x18 : Int) (x19 : Bool) (x20 : Bool) (x21 : Bool) (x22 : Bool) (x23 : Bool) (x24 : Int) (x25 : Bool) (x26 : Bool) (x27 : Bool) (x28 : Bool) (x29 : Bool) (x30 : Int) (x31 : Bool) (x32 : Bool) (x33 : Bool) (x34 : Bool) (x35 : Bool) (x36 : Int) (x37 : Bool) (x38 : Bool) (x39 : Bool) (x40 : Bool) (x41 : Bool) (x42 : Int) (x43 : Bool) (x44 : Bool) (x45 : Bool) (x46 : Bool) (x47 : Bool) (x48 : Int) (x49 : Bool) (x50 : Bool) (x51 : Bool) (x52 : Bool) (x53 : Bool) (x54 : Int) (x55 : Int) (x56 : Int) (x57 : Int) (x58 : Int) : Bool :=
  let x59 := r12_0 x56 x57
  let x60 := r12_1 x56 x57
  let x61 := x59 == 0
  let x62 := x59 == 1
  let x86 := x59 == 3
  let x105 := ishr .u64 x58 3
  let x106 := iland .u64 x105 1
  let x107 := x106 == 1
  let x110 := x60 == 0
  let x111 := bif x110 then x107 else x22
  let x159 := x59 == 4
  let x168 := x59 == 5
  let x169 := iland .u64 x58 4294967295
  let x170 := decide (x169 ≥ 1)
  let x171 := decide (x169 ≤ 8)
  let x172 := x170 && x171
  let x175 := [x3, x9, x15, x21, x27, x33, x39, x45, x51].getD (Int.toNat x169) false
  let x176 := x172 && x175
  let x181 := [x4, x10, x16, x22, x28, x34, x40, x46, x52].getD (Int.toNat x169) false
  let x182 := [x5, x11, x17, x23, x29, x35, x41, x47, x53].getD (Int.toNat x169) false
  let x183 := [x181, x182].getD (Int.toNat x60) false
  let x184 := x176 && x183
  let x187 := x169 == 0
  let x188 := bif x187 then false else x3
  let x189 := x169 == 1
  let x190 := bif x189 then false else x9
  let x191 := x169 == 2
  let x192 := bif x191 then false else x15
  let x193 := x169 == 3
  let x194 := bif x193 then false else x21
  let x195 := x169 == 4
  let x196 := bif x195 then false else x27
  let x197 := x169 == 5
  let x198 := bif x197 then false else x33
  let x199 := x169 == 6
  let x200 := bif x199 then false else x39
  let x201 := x169 == 7
  let x202 := bif x201 then false else x45
  let x203 := x169 == 8
  let x204 := bif x203 then false else x51
  let x205 := IntKind.wrap .i64 x169
  let y229 := g13 [.i x0, .b x1, .b x2, .b x188, .b x4, .b x5, .i x6, .b x7, .b x8, .b x190, .b x10, .b x11, .i x12, .b x13, .b x14, .b x192, .b x16, .b x17, .i x18, .b x19, .b x20, .b x194, .b x22, .b x23, .i x24, .b x25, .b x26, .b x196, .b x28, .b x29, .i x30, .b x31, .b x32, .b x198, .b x34, .b x35, .i x36, .b x37, .b x38, .b x200, .b x40, .b x41, .i x42, .b x43, .b x44, .b x202, .b x46, .b x47, .i x48, .b x49, .b x50, .b x204, .b x52, .b x53, .i x54, .i x55, .i x205]
  let x229 := (dget y229 23).toB
  let x263 := !x61
  let x295 := bif x184 then x229 else x22
  let x351 := bif x168 then x295 else x22
  let x407 := bif x159 then x22 else x351
  let x463 := bif x86 then x111 else x407
  let x519 := bif x62 then x22 else x463
  let x575 := bif x263 then x519 else x22
  x575
noncomputable def r7_24 (x0 : Int) (x1 : Bool) (x2 : Bool) (x3 : Bool) (x4 : Bool) (x5 : Bool) (x6 : Int) (x7 : Bool) (x8 : Bool) (x9 : Bool) (x10 : Bool) (x11 : Bool) (x12 : Int) (x13 : Bool) (x14 : Bool) (x15 : Bool) (x16 : Bool) (x17 : Bool) (x18 : Int) (x19 : Bool) (x20 : Bool) (x21 : Bool) (x22 : Bool) (x23 : Bool) (x24 : Int) (x25 : Bool) (x26 : Bool) (x27 : Bool) (x28 : Bool) (x29 : Bool) (x30 : Int) (x31 : Bool) (x32 : Bool) (x33 : Bool) (x34 : Bool) (x35 : Bool) (x36 : Int) (x37 : Bool) (x38 : Bool) (x39 : Bool) (x40 : Bool) (x41 : Bool) (x42 : Int) (x43 : Bool) (x44 : Bool) (x45 : Bool) (x46 : Bool) (x47 : Bool) (x48 : Int) (x49 : Bool) (x50 : Bool) (x51 : Bool) (x52 : Bool) (x53 : Bool) (x54 : Int) (x55 : Int) (x56 : Int) (x57 : Int) (x58 : Int) : Bool :=
  let x59 := r12_0 x56 x57
  let x60 := r12_1 x56 x57
  let x61 := x59 == 0
  let x62 := x59 == 1
  let x86 := x59 == 3
  let x105 := ishr .u64 x58 3
  let x106 := iland .u64 x105 1
  let x107 := x106 == 1
  let x112 := x60 == 1
  let x113 := bif x112 then x107 else x23
  let x159 := x59 == 4
  let x168 := x59 == 5
  let x169 := iland .u64 x58 4294967295
  let x170 := decide (x169 ≥ 1)
  let x171 := decide (x169 ≤ 8)
  let x172 := x170 && x171
  let x175 := [x3, x9, x15, x21, x27, x33, x39, x45, x51].getD (Int.toNat x169) false
  let x176 := x172 && x175
  let x181 := [x4, x10, x16, x22, x28, x34, x40, x46, x52].getD (Int.toNat x169) false
  let x182 := [x5, x11, x17, x23, x29, x35, x41, x47, x53].getD (Int.toNat x169) false
  let x183 := [x181, x182].getD (Int.toNat x60) false
  let x184 := x176 && x183
  let x187 := x169 == 0
  let x188 := bif x187 then false else x3
  let x189 := x169 == 1
  let x190 := bif x189 then false else x9
  let x191 := x169 == 2
  let x192 := bif x191 then false else x15
  let x193 := x169 == 3
  let x194 := bif x193 then false else x21
  let x195 := x169 == 4
  let x196 := bif x195 then false else x27
  let x197 := x169 == 5
  let x198 := bif x197 then false else x33
  let x199 := x169 == 6
  let x200 := bif x199 then false else x39
  let x201 := x169 == 7
  let x202 := bif x201 then false else x45
  let x203 := x169 == 8
  let x204 := bif x203 then false else x51
  let x205 := IntKind.wrap .i64 x169
  let y230 := g13 [.i x0, .b x1, .b x2, .b x188, .b x4, .b x5, .i x6, .b x7, .b x8, .b x190, .b x10, .b x11, .i x12, .b x13, .b x14, .b x192, .b x16, .b x17, .i x18, .b x19, .b x20, .b x194, .b x22, .b x23, .i x24, .b x25, .b x26, .b x196, .b x28, .b x29, .i x30, .b x31, .b x32, .b x198, .b x34, .b x35, .i x36, .b x37, .b x38, .b x200, .b x40, .b x41, .i x42, .b x43, .b x44, .b x202, .b x46, .b x47, .i x48, .b x49, .b x50, .b x204, .b x52, .b x53, .i x54, .i x55, .i x205]
  let x230 := (dget y230 24).toB
  let x263 := !x61
  let x296 := bif x184 then x230 else x23
  let x352 := bif x168 then x296 else x23
  let x408 := bif x159 then x23 else x352
  let x464 := bif x86 then x113 else x408
  let x520 := bif x62 then x23 else x464
  let x576 := bif x263 then x520 else x23
  x576
noncomputable def r7_25 (x0 : Int) (x1 : Bool) (x2 : Bool) (x3 : Bool) (x4 : Bool) (x5 : Bool) (x6 : Int) (x7 : Bool) (x8 : Bool) (x9 : Bool) (x10 : Bool) (x11 : Bool) (x12 : Int) (x13 : Bool) (x14 : Bool) (x15 : Bool) (x16 : Bool) (x17 : Bool) (x18 : Int) (x19 : Bool) (x20 : Bool) (x21 : Bool) (x22 : Bool) (x23 : Bool) (x24 : Int) (x25 : Bool) (x26 : Bool) (x27 : Bool) (x28 : Bool) (x29 : Bool) (x30 : Int) (x31 : Bool) (x32 : Bool) (x33 : Bool) (x34 : Bool) (x35 : Bool) (x36 : Int) (x37 : Bool) (x38 : Bool) (x39 : Bool) (x40 : Bool) (x41 : Bool) (x42 : Int) (x43 : Bool) (x44 : Bool) (x45 : Bool) (x46 : Bool) (x47 : Bool) (x48 : Int) (x49 : Bool) (x50 : Bool) (x51 : Bool) (x52 : Bool) (x53 : Bool) (x54 : Int) (x55 : Int) (x56 : Int) (x57 : Int) (x58 : Int) : Int :=
  let x59 := r12_0 x56 x57
  let x60 := r12_1 x56 x57
  let x61 := x59 == 0
  let x62 := x59 == 1
  let x63 := decide (x60 > 0)
  let x64 := iland .u64 x58 7
  let x65 := IntKind.wrap .i64 x64
  let x76 := x60 == 4
  let x77 := bif x76 then x65 else x24
  let x86 := x59 == 3
  let x159 := x59 == 4
  let x168 := x59 == 5
  let x169 := iland .u64 x58 4294967295
  let x170 := decide (x169 ≥ 1)
  let x171 := decide (x169 ≤ 8)
  let x172 := x170 && x171
  let x175 := [x3, x9, x15, x21, x27, x33, x39, x45, x51].getD (Int.toNat x169) false
  let x176 := x172 && x175
  let x181 := [x4, x10, x16, x22, x28, x34, x40, x46, x52].getD (Int.toNat x169) false
  let x182 := [x5, x11, x17, x23, x29, x35, x41, x47, x53].getD (Int.toNat x169) false
  let x183 := [x181, x182].getD (Int.toNat x60) false
  let x184 := x176 && x183
  let x187 := x169 == 0
  let x188 := bif x187 then false else x3
  let x189 := x169 == 1
  let x190 := bif x189 then false else x9
  let x191 := x169 == 2
  let x192 := bif x191 then false else x15
  let x193 := x169 == 3
  let x194 := bif x193 then false else x21
  let x195 := x169 == 4
  let x196 := bif x195 then false else x27
  let x197 := x169 == 5
  let x198 := bif x197 then false else x33
  let x199 := x169 == 6
  let x200 := bif x199 then false else x39
  let x201 := x169 == 7
  let x202 := bif x201 then false else x45
  let x203 := x169 == 8
  let x204 := bif x203 then false else x51
  let x205 := IntKind.wrap .i64 x169
  let y231 := g13 [.i x0, .b x1, .b x2, .b x188, .b x4, .b x5, .i x6, .b x7, .b x8, .b x190, .b x10, .b x11, .i x12, .b x13, .b x14, .b x192, .b x16, .b x17, .i x18, .b x19, .b x20, .b x194, .b x22, .b x23, .i x24, .b x25, .b x26, .b x196, .b x28, .b x29, .i x30, .b x31, .b x32, .b x198, .b x34, .b x35, .i x36, .b x37, .b x38, .b x200, .b x40, .b x41, .i x42, .b x43, .b x44, .b x202, .b x46, .b x47, .i x48, .b x49, .b x50, .b x204, .b x52, .b x53, .i x54, .i x55, .i x205]
  let x231 := (dget y231 25).toI
  let x263 := !x61
  let x268 := bif x63 then x77 else x24
  let x297 := bif x184 then x231 else x24
  let x353 := bif x168 then x297 else x24
  let x409 := bif x159 then x24 else x353
  let x465 := bif x86 then x24 else x409
  let x521 := bif x62 then x268 else x465
  let x577 := bif x263 then x521 else x24
  x577
noncomputable def r7_26 (x0 : Int) (x1 : Bool) (x2 : Bool) (x3 : Bool) (x4 : Bool) (x5 : Bool) (x6 : Int) (x7 : Bool) (x8 : Bool) (x9 : Bool) (x10 : Bool) (x11 : Bool) (x12 : Int) (x13 : Bool) (x14 : Bool) (x15 : Bool) (x16 : Bool) (x17 : Bool) (x18 : Int) (x19 : Bool) (x20 : Bool) (x21 : Bool) (x22 : Bool) (x23 : Bool) (x24 : Int) (x25 : Bool) (x26 : Bool) (x27 : Bool) (x28 : Bool) (x29 : Bool) (x30 : Int) (x31 : Bool) (x32 : Bool) (x33 : Bool) (x34 : Bool) (x35 : Bool) (x36 : Int) (x37 : Bool) (x38 : Bool) (x39 : Bool) (x40 : Bool) (x41 : Bool) (x42 : Int) (x43 : Bool) (x44 : Bool) (x45 : Bool) (x46 : Bool) (x47 : Bool) (x48 : Int) (x49 : Bool) (x50 : Bool) (x51 : Bool) (x52 : Bool) (x53 : Bool) (x54 : Int) (x55 : Int) (x56 : Int) (x57 : Int) (x58 : Int) : Bool :=
  let x59 := r12_0 x56 x57
  let x60 := r12_1 x56 x57
  let x61 := x59 == 0
  let x62 := x59 == 1
  let x86 := x59 == 3
  let x159 := x59 == 4
  let x168 := x59 == 5
  let x169 := iland .u64 x58 4294967295
  let x170 := decide (x169 ≥ 1)
  let x171 := decide (x169 ≤ 8)
  let x172 := x170 && x171
  let x175 := [x3, x9, x15, x21, x27, x33, x39, x45, x51].getD (Int.toNat x169) false
  let x176 := x172 && x175
  let x181 := [x4, x10, x16, x22, x28, x34, x40, x46, x52].getD (Int.toNat x169) false
  let x182 := [x5, x11, x17, x23, x29, x35, x41, x47, x53].getD (Int.toNat x169) false
  let x183 := [x181, x182].getD (Int.toNat x60) false
  let x184 := x176 && x183
  let x187 := x169 == 0
  let x188 := bif x187 then false else x3
  let x189 := x169 == 1
  let x190 := bif x189 then false else x9
  let x191 := x169 == 2
  let x192 := bif x191 then false else x15
  let x193 := x169 == 3
  let x194 := bif x193 then false else x21
  let x195 := x169 == 4
  let x196 := bif x195 then false else x27
  let x197 := x169 == 5
  let x198 := bif x197 then false else x33
  let x199 := x169 == 6
  let x200 := bif x199 then false else x39
  let x201 := x169 == 7
  let x202 := bif x201 then false else x45
  let x203 := x169 == 8
  let x204 := bif x203 then false else x51
  let x205 := IntKind.wrap .i64 x169
  let y232 := g13 [.i x0, .b x1, .b x2, .b x188, .b x4, .b x5, .i x6, .b x7, .b x8, .b x190, .b x10, .b x11, .i x12, .b x13, .b x14, .b x192, .b x16, .b x17, .i x18, .b x19, .b x20, .b x194, .b x22, .b x23, .i x24, .b x25, .b x26, .b x196, .b x28, .b x29, .i x30, .b x31, .b x32, .b x198, .b x34, .b x35, .i x36, .b x37, .b x38, .b x200, .b x40, .b x41, .i x42, .b x43, .b x44, .b x202, .b x46, .b x47, .i x48, .b x49, .b x50, .b x204, .b x52, .b x53, .i x54, .i x55, .i x205]
  let x232 := (dget y232 26).toB
  let x263 := !x61
  let x298 := bif x184 then x232 else x25
  let x354 := bif x168 then x298 else x25
  let x410 := bif x159 then x25 else x354
  let x466 := bif x86 then x25 else x410
  let x522 := bif x62 then x25 else x466
  let x578 := bif x263 then x522 else x25
  x578
noncomputable def r7_27 (x0 : Int) (x1 : Bool) (x2 : Bool) (x3 : Bool) (x4 : Bool) (x5 : Bool) (x6 : Int) (x7 : Bool) (x8 : Bool) (x9 : Bool) (x10 : Bool) (x11 : Bool) (x12 : Int) (x13 : Bool) (x14 : Bool) (x15 : Bool) (x16 : Bool) (x17 : Bool) (x18 : Int) (x19 : Bool) (x20 : Bool) (x21 : Bool) (x22 : Bool) (x23 : Bool) (x24 : Int) (x25 : Bool) (x26 : Bool) (x27 : Bool) (x28 : Bool) (x29 : Bool) (x30 : Int) (x31 : Bool) (x32 : Bool) (x33 : Bool) (x34 : Bool) (x35 : Bool) (x36 : Int) (x37 : Bool) (x38 : Bool) (x39 : Bool) (x40 : Bool) (x41 : Bool) (x42 : Int) (x43 : Bool) (x44 : Bool) (x45 : Bool) (x46 : Bool) (x47 : Bool) (x48 : Int) (x49 : Bool) (x50 : Bool) (x51 : Bool) (x52 : Bool) (x53 : Bool) (x54 : Int) (x55 : Int) (x56 : Int) (x57 : Int) (x58 : Int) : Bool :=
  let x59 := r12_0 x56 x57
  let x60 := r12_1 x56 x57
  let x61 := x59 == 0
  let x62 := x59 == 1
  let x86 := x59 == 3
  let x159 := x59 == 4
  let x168 := x59 == 5
  let x169 := iland .u64 x58 4294967295
  let x170 := decide (x169 ≥ 1)
  let x171 := decide (x169 ≤ 8)
  let x172 := x170 && x171
  let x175 := [x3, x9, x15, x21, x27, x33, x39, x45, x51].getD (Int.toNat x169) false
  let x176 := x172 && x175
  let x181 := [x4, x10, x16, x22, x28, x34, x40, x46, x52].getD (Int.toNat x169) false
  let x182 := [x5, x11, x17, x23, x29, x35, x41, x47, x53].getD (Int.toNat x169) false
  let x183 := [x181, x182].getD (Int.toNat x60) false
  let x184 := x176 && x183
  let x187 := x169 == 0
  let x188 := bif x187 then false else x3
  let x189 := x169 == 1
  let x190 := bif x189 then false else x9
  let x191 := x169 == 2
  let x192 := bif x191 then false else x15
  let x193 := x169 == 3
  let x194 := bif x193 then false else x21
  let x195 := x169 == 4
  let x196 := bif x195 then false else x27
  let x197 := x169 == 5
  let x198 := bif x197 then false else x33
  let x199 := x169 == 6
  let x200 := bif x199 then false else x39
  let x201 := x169 == 7
  let x202 := bif x201 then false else x45
  let x203 := x169 == 8
  let x204 := bif x203 then false else x51
  let x205 := IntKind.wrap .i64 x169
  let y233 := g13 [.i x0, .b x1, .b x2, .b x188, .b x4, .b x5, .i x6, .b x7, .b x8, .b x190, .b x10, .b x11, .i x12, .b x13, .b x14, .b x192, .b x16, .b x17, .i x18, .b x19, .b x20, .b x194, .b x22, .b x23, .i x24, .b x25, .b x26, .b x196, .b x28, .b x29, .i x30, .b x31, .b x32, .b x198, .b x34, .b x35, .i x36, .b x37, .b x38, .b x200, .b x40, .b x41, .i x42, .b x43, .b x44, .b x202, .b x46, .b x47, .i x48, .b x49, .b x50, .b x204, .b x52, .b x53, .i x54, .i x55, .i x205]
  let x233 := (dget y233 27).toB
  let x263 := !x61
  let x299 := bif x184 then x233 else x26
  let x355 := bif x168 then x299 else x26
  let x411 := bif x159 then x26 else x355
  let x467 := bif x86 then x26 else x411
  let x523 := bif x62 then x26 else x467
  let x579 := bif x263 then x523 else x26
  x579
noncomputable def r7_28 (x0 : Int) (x1 : Bool) (x2 : Bool) (x3 : Bool) (x4 : Bool) (x5 : Bool) (x6 : Int) (x7 : Bool) (x8 : Bool) (x9 : Bool) (x10 : Bool) (x11 : Bool) (x12 : Int) (x13 : Bool) (x14 : Bool) (x15 : Bool) (x16 : Bool) (x17 : Bool) (x18 : Int) (x19 : Bool) (x20 : Bool) (x21 : Bool) (x22 : Bool) (x23 : Bool) (x24 : Int) (x25 : Bool) (x26 : Bool) (x27 : Bool) (x28 : Bool) (x29 : Bool) (x30 : Int) (x31 : Bool) (x32 : Bool) (x33 : Bool) (x34 : Bool) (x35 : Bool) (x36 : Int) (x37 : Bool) (x38 : Bool) (x39 : Bool) (x40 : Bool) (x41 : Bool) (x42 : Int) (x43 : Bool) (x44 : Bool) (x45 : Bool) (x46 : Bool) (x47 : Bool) (x48 : Int) (x49 : Bool) (x50 : Bool) (x51 : Bool) (x52 : Bool) (x53 : Bool) (x54 : Int) (x55 : Int) (x56 : Int) (x57 : Int) (x58 : Int) : Bool :=
  let x59 := r12_0 x56 x57
  let x60 := r12_1 x56 x57
  let x61 := x59 == 0
  let x62 := x59 == 1
  let x86 := x59 == 3
  let x159 := x59 == 4
  let x168 := x59 == 5
  let x169 := iland .u64 x58 4294967295
  let x170 := decide (x169 ≥ 1)
  let x171 := decide (x169 ≤ 8)
  let x172 := x170 && x171
  let x175 := [x3, x9, x15, x21, x27, x33, x39, x45, x51].getD (Int.toNat x169) false
  let x176 := x172 && x175
  let x181 := [x4, x10, x16, x22, x28, x34, x40, x46, x52].getD (Int.toNat x169) false
  let x182 := [x5, x11, x17, x23, x29, x35, x41, x47, x53].getD (Int.toNat x169) false
  let x183 := [x181, x182].getD (Int.toNat x60) false
  let x184 := x176 && x183
  let x187 := x169 == 0
  let x188 := bif x187 then false else x3
  let x189 := x169 == 1
  let x190 := bif x189 then false else x9
  let x191 := x169 == 2
  let x192 := bif x191 then false else x15
  let x193 := x169 == 3
  let x194 := bif x193 then false else x21
  let x195 := x169 == 4
  let x196 := bif x195 then false else x27
  let x197 := x169 == 5
  let x198 := bif x197 then false else x33
  let x199 := x169 == 6
  let x200 := bif x199 then false else x39
  let x201 := x169 == 7
  let x202 := bif x201 then false else x45
  let x203 := x169 == 8
  let x204 := bif x203 then false else x51
  let x205 := IntKind.wrap .i64 x169
  let y234 := g13 [.i x0, .b x1, .b x2, .b x188, .b x4, .b x5, .i x6, .b x7, .b x8, .b x190, .b x10, .b x11, .i x12, .b x13, .b x14, .b x192, .b x16, .b x17, .i x18, .b x19, .b x20, .b x194, .b x22, .b x23, .i x24, .b x25, .b x26, .b x196, .b x28, .b x29, .i x30, .b x31, .b x32, .b x198, .b x34, .b x35, .i x36, .b x37, .b x38, .b x200, .b x40, .b x41, .i x42, .b x43, .b x44, .b x202, .b x46, .b x47, .i x48, .b x49, .b x50, .b x204, .b x52, .b x53, .i x54, .i x55, .i x205]
  let x234 := (dget y234 28).toB
  let x263 := !x61
  let x300 := bif x184 then x234 else x27
  let x356 := bif x168 then x300 else x27
  let x412 := bif x159 then x27 else x356
  let x468 := bif x86 then x27 else x412
  let x524 := bif x62 then x27 else x468
  let x580 := bif x263 then x524 else x27
  x580
noncomputable def r7_29 (x0 : Int) (x1 : Bool) (x2 : Bool) (x3 : Bool) (x4 : Bool) (x5 : Bool) (x6 : Int) (x7 : Bool) (x8 : Bool) (x9 : Bool) (x10 : Bool) (x11 : Bool) (x12 : Int) (x13 : Bool) (x14 : Bool) (x15 : Bool) (x16 : Bool) (x17 : Bool) (x18 : Int) (x19 : Bool) (x20 : Bool) (x21 : Bool) (x22 : Bool) (x23 : Bool) (x24 : Int) (x25 : Bool) (x26 : Bool) (x27 : Bool) (x28 : Bool) (x29 : Bool) (x30 : Int) (x31 : Bool) (x32 : Bool) (x33 : Bool) (x34 : Bool) (x35 : Bool) (x36 : Int) (x37 : Bool) (x38 : Bool) (x39 : Bool) (x40 : Bool) (x41 : Bool) (x42 : Int) (x43 : Bool) (x44 : Bool) (x45 : Bool) (x46 : Bool) (x47 : Bool) (x48 : Int) (x49 : Bool) (x50 : Bool) (x51 : Bool) (x52 : Bool) (x53 : Bool) (x54 : Int) (x55 : Int) (x56 : Int) (x57 : Int) (x58 : Int) : Bool :=
  let x59 := r12_0 x56 x57
  let x60 := r12_1 x56 x57
  let x61 := x59 == 0
  let x62 := x59 == 1
  let x86 := x59 == 3
  let x114 := ishr .u64 x58 4
  let x115 := iland .u64 x114 1
  let x116 := x115 == 1
  let x119 := x60 == 0
  let x120 := bif x119 then x116 else x28
  let x159 := x59 == 4
  let x168 := x59 == 5
  let x169 := iland .u64 x58 4294967295
  let x170 := decide (x169 ≥ 1)
  let x171 := decide (x169 ≤ 8)
  let x172 := x170 && x171
  let x175 := [x3, x9, x15, x21, x27, x33, x39, x45, x51].getD (Int.toNat x169) false
  let x176 := x172 && x175
  let x181 := [x4, x10, x16, x22, x28, x34, x40, x46, x52].getD (Int.toNat x169) false
  let x182 := [x5, x11, x17, x23, x29, x35, x41, x47, x53].getD (Int.toNat x169) false
  let x183 := [x181, x182].getD (Int.toNat x60) false
  let x184 := x176 && x183
  let x187 := x169 == 0
  let x188 := bif x187 then false else x3
  let x189 := x169 == 1
  let x190 := bif x189 then false else x9
  let x191 := x169 == 2
  let x192 := bif x191 then false else x15
  let x193 := x169 == 3
  let x194 := bif x193 then false else x21
  let x195 := x169 == 4
  let x196 := bif x195 then false else x27
  let x197 := x169 == 5
  let x198 := bif x197 then false else x33
  let x199 := x169 == 6
  let x200 := bif x199 then false else x39
  let x201 := x169 == 7
  let x202 := bif x201 then false else x45
  let x203 := x169 == 8
  let x204 := bif x203 then false else x51
  let x205 := IntKind.wrap .i64 x169
  let y235 := g13 [.i x0, .b x1, .b x2, .b x188, .b x4, .b x5, .i x6, .b x7, .b x8, .b x190, .b x10, .b x11, .i x12, .b x13, .b x14, .b x192, .b x16, .b x17, .i x18, .b x19, .b x20, .b x194, .b x22, .b x23, .i x24, .b x25, .b x26, .b x196, .b x28, .b x29, .i x30, .b x31, .b x32, .b x198, .b x34, .b x35, .i x36, .b x37, .b x38, .b x200, .b x40, .b x41, .i x42, .b x43, .b x44, .b x202, .b x46, .b x47, .i x48, .b x49, .b x50, .b x204, .b x52, .b x53, .i x54, .i x55, .i x205]
  let x235 := (dget y235 29).toB
  let x263 := !x61
  let x301 := bif x184 then x235 else x28
  let x357 := bif x168 then x301 else x28
  let x413 := bif x159 then x28 else x357
  let x469 := bif x86 then x120 else x413
  let x525 := bif x62 then x28 else x469
  let x581 := bif x263 then x525 else x28
  x581
noncomputable def r7_30 (x0 : Int) (x1 : Bool) (x2 : Bool) (x3 : Bool) (x4 : Bool) (x5 : Bool) (x6 : Int) (x7 : Bool) (x8 : Bool) (x9 : Bool) (x10 : Bool) (x11 : Bool) (x12 : Int) (x13 : Bool) (x14 : Bool) (x15 : Bool) (x16 : Bool) (x17 : Bool) (x18 : Int) (x19 : Bool) (x20 : Bool) (x21 : Bool) (x22 : Bool) (x23 : Bool) (x24 : Int) (x25 : Bool) (x26 : Bool) (x27 : Bool) (x28 : Bool) (x29 : Bool) (x30 : Int) (x31 : Bool) (x32 : Bool) (x33 : Bool) (x34 : Bool) (x35 : Bool) (x36 : Int) (x37 : Bool) (x38 : Bool) (x39 : Bool) (x40 : Bool) (x41 : Bool) (x42 : Int) (x43 : Bool) (x44 : Bool) (x45 : Bool) (x46 : Bool) (x47 : Bool) (x48 : Int) (x49 : Bool) (x50 : Bool) (x51 : Bool) (x52 : Bool) (x53 : Bool) (x54 : Int) (x55 : Int) (x56 : Int) (x57 : Int) (x58 : Int) : Bool :=
  let x59 := r12_0 x56 x57
  let x60 := r12_1 x56 x57
  let x61 := x59 == 0
  let x62 := x59 == 1
  let x86 := x59 == 3
  let x114 := ishr .u64 x58 4
  let x115 := iland .u64 x114 1
  let x116 := x115 == 1
  let x121 := x60 == 1
  let x122 := bif x121 then x116 else x29
  let x159 := x59 == 4
  let x168 := x59 == 5
  let x169 := iland .u64 x58 4294967295
  let x170 := decide (x169 ≥ 1)
  let x171 := decide (x169 ≤ 8)
  let x172 := x170 && x171
  let x175 := [x3, x9, x15, x21, x27, x33, x39, x45, x51].getD (Int.toNat x169) false
  let x176 := x172 && x175
  let x181 := [x4, x10, x16, x22, x28, x34, x40, x46, x52].getD (Int.toNat x169) false
  let x182 := [x5, x11, x17, x23, x29, x35, x41, x47, x53].getD (Int.toNat x169) false
  let x183 := [x181, x182].getD (Int.toNat x60) false
  let x184 := x176 && x183
  let x187 := x169 == 0
  let x188 := bif x187 then false else x3
  let x189 := x169 == 1
  let x190 := bif x189 then false else x9
  let x191 := x169 == 2
  let x192 := bif x191 then false else x15
  let x193 := x169 == 3
  let x194 := bif x193 then false else x21
  let x195 := x169 == 4
  let x196 := bif x195 then false else x27
  let x197 := x169 == 5
  let x198 := bif x197 then false else x33
  let x199 := x169 == 6
  let x200 := bif x199 then false else x39
  let x201 := x169 == 7
  let x202 := bif x201 then false else x45
  let x203 := x169 == 8
  let x204 := bif x203 then false else x51
  let x205 := IntKind.wrap .i64 x169
  let y236 := g13 [.i x0, .b x1, .b x2, .b x188, .b x4, .b x5, .i x6, .b x7, .b x8, .b x190, .b x10, .b x11, .i x12, .b x13, .b x14, .b x192, .b x16, .b x17, .i x18, .b x19, .b x20, .b x194, .b x22, .b x23, .i x24, .b x25, .b x26, .b x196, .b x28, .b x29, .i x30, .b x31, .b x32, .b x198, .b x34, .b x35, .i x36, .b x37, .b x38, .b x200, .b x40, .b x41, .i x42, .b x43, .b x44, .b x202, .b x46, .b x47, .i x48, .b x49, .b x50, .b x204, .b x52, .b x53, .i x54, .i x55, .i x205]
  let x236 := (dget y236 30).toB
  let x263 := !x61
  let x302 := bif x184 then x236 else x29
  let x358 := bif x168 then x302 else x29
  let x414 := bif x159 then x29 else x358
  let x470 := bif x86 then x122 else x414
  let x526 := bif x62 then x29 else x470
  let x582 := bif x263 then x526 else x29
  x582
noncomputable def r7_31 (x0 : Int) (x1 : Bool) (x2 : Bool) (x3 : Bool) (x4 : Bool) (x5 : Bool) (x6 : Int) (x7 : Bool) (x8 : Bool) (x9 : Bool) (x10 : Bool) (x11 : Bool) (x12 : Int) (x13 : Bool) (x14 : Bool) (x15 : Bool) (x16 : Bool) (x17 : Bool) (x18 : Int) (x19 : Bool) (x20 : Bool) (x21 : Bool) (x22 : Bool) (x23 : Bool) (x24 : Int) (x25 : Bool) (x26 : Bool) (x27 : Bool) (x28 : Bool) (x29 : Bool) (x30 : Int) (x31 : Bool) (x32 : Bool) (x33 : Bool) (x34 : Bool) (x35 : Bool) (x36 : Int) (x37 : Bool) (x38 : Bool) (x39 : Bool) (x40 : Bool) (x41 : Bool) (x42 : Int) (x43 : Bool) (x44 : Bool) (x45 : Bool) (x46 : Bool) (x47 : Bool) (x48 : Int) (x49 : Bool) (x50 : Bool) (x51 : Bool) (x52 : Bool) (x53 : Bool) (x54 : Int) (x55 : Int) (x56 : Int) (x57 : Int) (x58 : Int) : Int :=
  let x59 := r12_0 x56 x57
  let x60 := r12_1 x56 x57
  let x61 := x59 == 0
  let x62 := x59 == 1
  let x63 := decide (x60 > 0)
  let x64 := iland .u64 x58 7
  let x65 := IntKind.wrap .i64 x64
  let x78 := x60 == 5
  let x79 := bif x78 then x65 else x30
  let x86 := x59 == 3
  let x159 := x59 == 4
  let x168 := x59 == 5
  let x169 := iland .u64 x58 4294967295
  let x170 := decide (x169 ≥ 1)
  let x171 := decide (x169 ≤ 8)
  let x172 := x170 && x171
  let x175 := [x3, x9, x15, x21, x27, x33, x39, x45, x51].getD (Int.toNat x169) false
  let x176 := x172 && x175
  let x181 := [x4, x10, x16, x22, x28, x34, x40, x46, x52].getD (Int.toNat x169) false
  let x182 := [x5, x11, x17, x23, x29, x35, x41, x47, x53].getD (Int.toNat x169) false
  let x183 := [x181, x182].getD (Int.toNat x60) false
  let x184 := x176 && x183
  let x187 := x169 == 0
  let x188 := bif x187 then false else x3
  let x189 := x169 == 1
  let x190 := bif x189 then false else x9
  let x191 := x169 == 2
  let x192 := bif x191 then false else x15
  let x193 := x169 == 3
  let x194 := bif x193 then false else x21
  let x195 := x169 == 4
  let x196 := bif x195 then false else x27
  let x197 := x169 == 5
  let x198 := bif x197 then false else x33
  let x199 := x169 == 6
  let x200 := bif x199 then false else x39
  let x201 := x169 == 7
  let x202 := bif x201 then false else x45
  let x203 := x169 == 8
  let x204 := bif x203 then false else x51
  let x205 := IntKind.wrap .i64 x169
  let y237 := g13 [.i x0, .b x1, .b x2, .b x188, .b x4, .b x5, .i x6, .b x7, .b x8, .b x190, .b x10, .b x11, .i x12, .b x13, .b x14, .b x192, .b x16, .b x17, .i x18, .b x19, .b x20, .b x194, .b x22, .b x23, .i x24, .b x25, .b x26, .b x196, .b x28, .b x29, .i x30, .b x31, .b x32, .b x198, .b x34, .b x35, .i x36, .b x37, .b x38, .b x200, .b x40, .b x41, .i x42, .b x43, .b x44, .b x202, .b x46, .b x47, .i x48, .b x49, .b x50, .b x204, .b x52, .b x53, .i x54, .i x55, .i x205]
  let x237 := (dget y237 31).toI
  let x263 := !x61
  let x269 := bif x63 then x79 else x30
  let x303 := bif x184 then x237 else x30
  let x359 := bif x168 then x303 else x30
  let x415 := bif x159 then x30 else x359
  let x471 := bif x86 then x30 else x415
  let x527 := bif x62 then x269 else x471
  let x583 := bif x263 then x527 else x30
  x583
noncomputable def r7_32 (x0 : Int) (x1 : Bool) (x2 : Bool) (x3 : Bool) (x4 : Bool) (x5 : Bool) (x6 : Int) (x7 : Bool) (x8 : Bool) (x9 : Bool) (x10 : Bool) (x11 : Bool) (x12 : Int) (x13 : Bool) (x14 : Bool) (x15 : Bool) (x16 : Bool) (x17 : Bool) (x18 : Int) (x19 : Bool) (x20 : Bool) (x21 : Bool) (x22 : Bool) (x23 : Bool) (x24 : Int) (x25 : Bool) (x26 : Bool) (x27 : Bool) (x28 : Bool) (x29 : Bool) (x30 : Int) (x31 : Bool) (x32 : Bool) (x33 : Bool) (x34 : Bool) (x35 : Bool) (x36 : Int) (x37 : Bool) (x38 : Bool) (x39 : Bool) (x40 : Bool) (x41 : Bool) (x42 : Int) (x43 : Bool) (x44 : Bool) (x45 : Bool) (x46 : Bool) (x47 : Bool) (x48 : Int) (x49 : Bool) (x50 : Bool) (x51 : Bool) (x52 : Bool) (x53 : Bool) (x54 : Int) (x55 : Int) (x56 : Int) (x57 : Int) (x58 : Int) : Bool :=
  let x59 := r12_0 x56 x57
  let x60 := r12_1 x56 x57
  let x61 := x59 == 0
  let x62 := x59 == 1
  let x86 := x59 == 3
  let x159 := x59 == 4
  let x168 := x59 == 5
  let x169 := iland .u64 x58 4294967295
  let x170 := decide (x169 ≥ 1)
  let x171 := decide (x169 ≤ 8)
  let x172 := x170 && x171
  let x175 := [x3, x9, x15, x21, x27, x33, x39, x45, x51].getD (Int.toNat x169) false
  let x176 := x172 && x175
  let x181 := [x4, x10, x16, x22, x28, x34, x40, x46, x52].getD (Int.toNat x169) false
  let x182 := [x5, x11, x17, x23, x29, x35, x41, x47, x53].getD (Int.toNat x169) false
  let x183 := [x181, x182].getD (Int.toNat x60) false
  let x184 := x176 && x183
  let x187 := x169 == 0
  let x188 := bif x187 then false else x3
  let x189 := x169 == 1
  let x190 := bif x189 then false else x9
  let x191 := x169 == 2
  let x192 := bif x191 then false else x15
  let x193 := x169 == 3
  let x194 := bif x193 then false else x21
  let x195 := x169 == 4
  let x196 := bif x195 then false else x27
  let x197 := x169 == 5
  let x198 := bif x197 then false else x33
  let x199 := x169 == 6
  let x200 := bif x199 then false else x39
  let x201 := x169 == 7
  let x202 := bif x201 then false else x45
  let x203 := x169 == 8
  let x204 := bif x203 then false else x51
  let x205 := IntKind.wrap .i64 x169
  let y238 := g13 [.i x0, .b x1, .b x2, .b x188, .b x4, .b x5, .i x6, .b x7, .b x8, .b x190, .b x10, .b x11, .i x12, .b x13, .b x14, .b x192, .b x16, .b x17, .i x18, .b x19, .b x20, .b x194, .b x22, .b x23, .i x24, .b x25, .b x26, .b x196, .b x28, .b x29, .i x30, .b x31, .b x32, .b x198, .b x34, .b x35, .i x36, .b x37, .b x38, .b x200, .b x40, .b x41, .i x42, .b x43, .b x44, .b x202, .b x46, .b x47, .i x48, .b x49, .b x50, .b x204, .b x52, .b x53, .i x54, .i x55, .i x205]
  let x238 := (dget y238 32).toB
  let x263 := !x61
  let x304 := bif x184 then x238 else x31
  let x360 := bif x168 then x304 else x31
  let x416 := bif x159 then x31 else x360
  let x472 := bif x86 then x31 else x416
  let x528 := bif x62 then x31 else x472
  let x584 := bif x263 then x528 else x31
  x584
noncomputable def r7_33 (x0 : Int) (x1 : Bool) (x2 : Bool) (x3 : Bool) (x4 : Bool) (x5 : Bool) (x6 : Int) (x7 : Bool) (x8 : Bool) (x9 : Bool) (x10 : Bool) (x11 : Bool) (x12 : Int) (x13 : Bool) (x14 : Bool) (x15 : Bool) (x16 : Bool) (x17 : Bool) (x18 : Int) (x19 : Bool) (x20 : Bool) (x21 : Bool) (x22 : Bool) (x23 : Bool) (x24 : Int) (x25 : Bool) (x26 : Bool) (x27 : Bool) (x28 : Bool) (x29 : Bool) (x30 : Int) (x31 : Bool) (x32 : Bool) (x33 : Bool) (x34 : Bool) (x35 : Bool) (x36 : Int) (x37 : Bool) (x38 : Bool) (x39 : Bool) (x40 : Bool) (x41 : Bool) (x42 : Int) (x43 : Bool) (x44 : Bool) (x45 : Bool) (x46 : Bool) (x47 : Bool) (x48 : Int) (x49 : Bool) (x50 : Bool) (x51 : Bool) (x52 : Bool) (x53 : Bool) (x54 : Int) (x55 : Int) (x56 : Int) (x57 : Int) (x58 : Int) : Bool :=
  let x59 := r12_0 x56 x57
  let x60 := r12_1 x56 x57
  let x61 := x59 == 0
  let x62 := x59 == 1
  let x86 := x59 == 3
  let x159 := x59 == 4
  let x168 := x59 == 5
  let x169 := iland .u64 x58 4294967295
  let x170 := decide (x169 ≥ 1)
  let x171 := decide (x169 ≤ 8)
  let x172 := x170 && x171
  let x175 := [x3, x9, x15, x21, x27, x33, x39, x45, x51].getD (Int.toNat x169) false
  let x176 := x172 && x175
  let x181 := [x4, x10, x16, x22, x28, x34, x40, x46, x52].getD (Int.toNat x169) false
  let x182 := [x5, x11, x17, x23, x29, x35, x41, x47, x53].getD (Int.toNat x169) false
  let x183 := [x181, x182].getD (Int.toNat x60) false
  let x184 := x176 && x183
  let x187 := x169 == 0
  let x188 := bif x187 then false else x3
  let x189 := x169 == 1
  let x190 := bif x189 then false else x9
  let x191 := x169 == 2
  let x192 := bif x191 then false else x15
  let x193 := x169 == 3
  let x194 := bif x193 then false else x21
  let x195 := x169 == 4
  let x196 := bif x195 then false else x27
  let x197 := x169 == 5
  let x198 := bif x197 then false else x33
  let x199 := x169 == 6
  let x200 := bif x199 then false else x39
  let x201 := x169 == 7
  let x202 := bif x201 then false else x45
  let x203 := x169 == 8
  let x204 := bif x203 then false else x51
  let x205 := IntKind.wrap .i64 x169
  let y239 := g13 [.i x0, .b x1, .b x2, .b x188, .b x4, .b x5, .i x6, .b x7, .b x8, .b x190, .b x10, .b x11, .i x12, .b x13, .b x14, .b x192, .b x16, .b x17, .i x18, .b x19, .b x20, .b x194, .b x22, .b x23, .i x24, .b x25, .b x26, .b x196, .b x28, .b x29, .i x30, .b x31, .b x32, .b x198, .b x34, .b x35, .i x36, .b x37, .b x38, .b x200, .b x40, .b x41, .i x42, .b x43, .b x44, .b x202, .b x46, .b x47, .i x48, .b x49, .b x50, .b x204, .b x52, .b x53, .i x54, .i x55, .i x205]
  let x239 := (dget y239 33).toB
  let x263 := !x61
  let x305 := bif x184 then x239 else x32
  let x361 := bif x168 then x305 else x32
  let x417 := bif x159 then x32 else x361
  let x473 := bif x86 then x32 else x417
  let x529 := bif x62 then x32 else x473
  let x585 := bif x263 then x529 else x32
  x585
noncomputable def r7_34 (x0 : Int) (x1 : Bool) (x2 : Bool) (x3 : Bool) (x4 : Bool) (x5 : Bool) (x6 : Int) (x7 : Bool) (x8 : Bool) (x9 : Bool) (x10 : Bool) (x11 : Bool) (x12 : Int) (x13 : Bool) (x14 : Bool) (x15 : Bool) (x16 : Bool) (x17 : Bool) (x18 : Int) (x19 : Bool) (x20 : Bool) (x21 : Bool) (x22 : Bool) (x23 : Bool) (x24 : Int) (x25 : Bool) (x26 : Bool) (x27 : Bool) (x28 : Bool) (x29 : Bool) (x30 : Int) (x31 : Bool) (x32 : Bool) (x33 : Bool) (x34 : Bool) (x35 : Bool) (x36 : Int) (x37 : Bool) (x38 : Bool) (x39 : Bool) (x40 : Bool) (x41 : Bool) (x42 : Int) (x43 : Bool) (x44 : Bool) (x45 : Bool) (x46 : Bool) (x47 : Bool) (x48 : Int) (x49 : Bool) (x50 : Bool) (x51 : Bool) (x52 : Bool) (x53 : Bool) (x54 : Int) (x55 : Int) (x56 : Int) (x57 : Int) (x58 : Int) : Bool :=
  let x59 := r12_0 x56 x57
  let x60 := r12_1 x56 x57
  let x61 := x59 == 0
  let x62 := x59 == 1
  let x86 := x59 == 3
  let x159 := x59 == 4
  let x168 := x59 == 5
  let x169 := iland .u64 x58 4294967295
  let x170 := decide (x169 ≥ 1)
  let x171 := decide (x169 ≤ 8)
  let x172 := x170 && x171
  let x175 := [x3, x9, x15, x21, x27, x33, x39, x45, x51].getD (Int.toNat x169) false
  let x176 := x172 && x175
  let x181 := [x4, x10, x16, x22, x28, x34, x40, x46, x52].getD (Int.toNat x169) false
  let x182 := [x5, x11, x17, x23, x29, x35, x41, x47, x53].getD (Int.toNat x169) false
  let x183 := [x181, x182].getD (Int.toNat x60) false
  let x184 := x176 && x183
  let x187 := x169 == 0
  let x188 := bif x187 then false else x3
  let x189 := x169 == 1
  let x190 := bif x189 then false else x9
  let x191 := x169 == 2
  let x192 := bif x191 then false else x15
  let x193 := x169 == 3
  let x194 := bif x193 then false else x21
  let x195 := x169 == 4
  let x196 := bif x195 then false else x27
  let x197 := x169 == 5
  let x198 := bif x197 then false else x33
  let x199 := x169 == 6
  let x200 := bif x199 then false else x39
  let x201 := x169 == 7
  let x202 := bif x201 then false else x45
  let x203 := x169 == 8
  let x204 := bif x203 then false else x51
  let x205 := IntKind.wrap .i64 x169
  let y240 := g13 [.i x0, .b x1, .b x2, .b x188, .b x4, .b x5, .i x6, .b x7, .b x8, .b x190, .b x10, .b x11, .i x12, .b x13, .b x14, .b x192, .b x16, .b x17, .i x18, .b x19, .b x20, .b x194, .b x22, .b x23, .i x24, .b x25, .b x26, .b x196, .b x28, .b x29, .i x30, .b x31, .b x32, .b x198, .b x34, .b x35, .i x36, .b x37, .b x38, .b x200, .b x40, .b x41, .i x42, .b x43, .b x44, .b x202, .b x46, .b x47, .i x48, .b x49, .b x50, .b x204, .b x52, .b x53, .i x54, .i x55, .i x205]
  let x240 := (dget y240 34).toB
  let x263 := !x61
  let x306 := bif x184 then x240 else x33
  let x362 := bif x168 then x306 else x33
  let x418 := bif x159 then x33 else x362
  let x474 := bif x86 then x33 else x418
  let x530 := bif x62 then x33 else x474
  let x586 := bif x263 then x530 else x33
  x586
noncomputable def r7_35 (x0 : Int) (x1 : Bool) (x2 : Bool) (x3 : Bool) (x4 : Bool) (x5 : Bool) (x6 : Int) (x7 : Bool) (x8 : Bool) (x9 : Bool) (x10 : Bool) (x11 : Bool) (x12 : Int) (x13 : Bool) (x14 : Bool) (x15 : Bool) (x16 : Bool) (x17 : Bool) (x18 : Int) (x19 : Bool) (x20 : Bool) (x21 : Bool) (x22 : Bool) (x23 : Bool) (x24 : Int) (x25 : Bool) (x26 : Bool) (x27 : Bool) (x28 : Bool) (x29 : Bool) (x30 : Int) (x31 : Bool) (x32 : Bool) (x33 : Bool) (x34 : Bool) (x35 : Bool) (x36 : Int) (x37 : Bool) (x38 : Bool) (x39 : Bool) (x40 : Bool) (x41 : Bool) (x42 : Int) (x43 : Bool) (x44 : Bool) (x45 : Bool) (x46 : Bool) (x47 : Bool) (x48 : Int) (x49 : Bool) (x50 : Bool) (x51 : Bool) (x52 : Bool) (x53 : Bool) (x54 : Int) (x55 : Int) (x56 : Int) (x57 : Int) (x58 : Int) : Bool :=
  let x59 := r12_0 x56 x57
  let x60 := r12_1 x56 x57
  let x61 := x59 == 0
  let x62 := x59 == 1
  let x86 := x59 == 3
  let x123 := ishr .u64 x58 5
  let x124 := iland .u64 x123 1
  let x125 := x124 == 1
  let x128 := x60 == 0
  let x129 := bif x128 then x125 else x34
  let x159 := x59 == 4
  let x168 := x59 == 5
  let x169 := iland .u64 x58 4294967295
  let x170 := decide (x169 ≥ 1)
  let x171 := decide (x169 ≤ 8)
  let x172 := x170 && x171
  let x175 := [x3, x9, x15, x21, x27, x33, x39, x45, x51].getD (Int.toNat x169) false
  let x176 := x172 && x175
  let x181 := [x4, x10, x16, x22, x28, x34, x40, x46, x52].getD (Int.toNat x169) false
  let x182 := [x5, x11, x17, x23, x29, x35, x41, x47, x53].getD (Int.toNat x169) false
  let x183 := [x181, x182].getD (Int.toNat x60) false
  let x184 := x176 && x183
  let x187 := x169 == 0
  let x188 := bif x187 then false else x3
  let x189 := x169 == 1
  let x190 := bif x189 then false else x9
  let x191 := x169 == 2
  let x192 := bif x191 then false else x15
  let x193 := x169 == 3
  let x194 := bif x193 then false else x21
  let x195 := x169 == 4
  let x196 := bif x195 then false else x27
  let x197 := x169 == 5
  let x198 := bif x197 then false else x33
  let x199 := x169 == 6
  let x200 := bif x199 then false else x39
  let x201 := x169 == 7
  let x202 := bif x201 then false else x45
  let x203 := x169 == 8
  let x204 := bif x203 then false else x51
  let x205 := IntKind.wrap .i64 x169
  let y241 := g13 [.i x0, .b x1, .b x2, .b x188, .b x4, .b x5, .i x6, .b x7, .b x8, .b x190, .b x10, .b x11, .i x12, .b x13, .b x14, .b x192, .b x16, .b x17, .i x18, .b x19, .b x20, .b x194, .b x22, .b x23, .i x24, .b x25, .b x26, .b x196, .b x28, .b x29, .i x30, .b x31, .b x32, .b x198, .b x34, .b x35, .i x36, .b x37, .b x38, .b x200, .b x40, .b x41, .i x42, .b x43, .b x44, .b x202, .b x46, .b x47, .i x48, .b x49, .b x50, .b x204, .b x52, .b x53, .i x54, .i x55, .i x205]
  let x241 := (dget y241 35).toB
  let x263 := !x61
  let x307 := bif x184 then x241 else x34
  let x363 := bif x168 then x307 else x34
  let x419 := bif x159 then x34 else x363
  let x475 := bif x86 then x129 else x419
  let x531 := bif x62 then x34 else x475
  let x587 := bif x263 then x531 else x34
  x587
noncomputable def r7_36 (x0 : Int) (x1 : Bool) (x2 : Bool) (x3 : Bool) (x4 : Bool) (x5 : Bool) (x6 : Int) (x7 : Bool) (x8 : Bool) (x9 : Bool) (x10 : Bool) (x11 : Bool) (x12 : Int) (x13 : Bool) (x14 : Bool) (x15 : Bool) (x16 : Bool) (x17 : Bool) (x18 : Int) (x19 : Bool) (x20 : Bool) (x21 : Bool) (x22 : Bool) (x23 : Bool) (x24 : Int) (x25 : Bool) (x26 : Bool) (x27 : Bool) (x28 : Bool) (x29 : Bool) (x30 : Int) (x31 : Bool) (x32 : Bool) (x33 : Bool) (x34 : Bool) (x35 : Bool) (x36 : Int) (x37 : Bool) (x38 : Bool) (x39 : Bool) (x40 : Bool) (x41 : Bool) (x42 : Int) (x43 : Bool) (x44 : Bool) (x45 : Bool) (x46 : Bool) (x47 : Bool) (x48 : Int) (x49 : Bool) (x50 : Bool) (x51 : Bool) (x52 : Bool) (x53 : Bool) (x54 : Int) (x55 : Int) (x56 : Int) (x57 : Int) (x58 : Int) : Bool :=
  let x59 := r12_0 x56 x57
  let x60 := r12_1 x56 x57
  let x61 := x59 == 0
  let x62 := x59 == 1
  let x86 := x59 == 3
  let x123 := ishr .u64 x58 5
  let x124 := iland .u64 x123 1
  let x125 := x124 == 1
  let x130 := x60 == 1
  let x131 := bif x130 then x125 else x35
  let x159 := x59 == 4
  let x168 := x59 == 5
  let x169 := iland .u64 x58 4294967295
  let x170 := decide (x169 ≥ 1)
  let x171 := decide (x169 ≤ 8)
  let x172 := x170 && x171
  let x175 := [x3, x9, x15, x21, x27, x33, x39, x45, x51].getD (Int.toNat x169) false
  let x176 := x172 && x175
  let x181 := [x4, x10, x16, x22, x28, x34, x40, x46, x52].getD (Int.toNat x169) false
  let x182 := [x5, x11, x17, x23, x29, x35, x41, x47, x53].getD (Int.toNat x169) false
  let x183 := [x181, x182].getD (Int.toNat x60) false
  let x184 := x176 && x183
  let x187 := x169 == 0
  let x188 := bif x187 then false else x3
  let x189 := x169 == 1
  let x190 := bif x189 then false else x9
  let x191 := x169 == 2
  let x192 := bif x191 then false else x15
  let x193 := x169 == 3
  let x194 := bif x193 then false else x21
  let x195 := x169 == 4
  let x196 := bif x195 then false else x27
  let x197 := x169 == 5
  let x198 := bif x197 then false else x33
  let x199 := x169 == 6
  let x200 := bif x199 then false else x39
  let x201 := x169 == 7
  let x202 := bif x201 then false else x45
  let x203 := x169 == 8
  let x204 := bif x203 then false else x51
  let x205 := IntKind.wrap .i64 x169
  let y242 := g13 [.i x0, .b x1, .b x2, .b x188, .b x4, .b x5, .i x6, .b x7, .b x8, .b x190, .b x10, .b x11, .i x12, .b x13, .b x14, .b x192, .b x16, .b x17, .i x18, .b x19, .b x20, .b x194, .b x22, .b x23, .i x24, .b x25, .b x26, .b x196, .b x28, .b x29, .i x30, .b x31, .b x32, .b x198, .b x34, .b x35, .i x36, .b x37, .b x38, .b x200, .b x40, .b x41, .i x42, .b x43, .b x44, .b x202, .b x46, .b x47, .i x48, .b x49, .b x50, .b x204, .b x52, .b x53, .i x54, .i x55, .i x205]
  let x242 := (dget y242 36).toB
  let x263 := !x61
  let x308 := bif x184 then x242 else x35
  let x364 := bif x168 then x308 else x35
  let x420 := bif x159 then x35 else x364
  let x476 := bif x86 then x131 else x420
  let x532 := bif x62 then x35 else x476
  let x588 := bif x263 then x532 else x35
  x588
noncomputable def r7_37 (x0 : Int) (x1 : Bool) (x2 : Bool) (x3 : Bool) (x4 : Bool) (x5 : Bool) (x6 : Int) (x7 : Bool) (x8 : Bool) (x9 : Bool) (x10 : Bool) (x11 : Bool) (x12 : Int) (x13 : Bool) (x14 : Bool) (x15 : Bool) (x16 : Bool) (x17 : Bool) (x18 : Int) (x19 : Bool) (x20 : Bool) (x21 : Bool) (x22 : Bool) (x23 : Bool) (x24 : Int) (x25 : Bool) (x26 : Bool) (x27 : Bool) (x28 : Bool) (x29 : Bool) (x30 : Int) (x31 : Bool) (x32 : Bool) (x33 : Bool) (x34 : Bool) (x35 : Bool) (x36 : Int) (x37 : Bool) (x38 : Bool) (x39 : Bool) (x40 : Bool) (x41 : Bool) (x42 : Int) (x43 : Bool) (x44 : Bool) (x45 : Bool) (x46 : Bool) (x47 : Bool) (x48 : Int) (x49 : Bool) (x50 : Bool) (x51 : Bool) (x52 : Bool) (x53 : Bool) (x54 : Int) (x55 : Int) (x56 : Int) (x57 : Int) (x58 : Int) : Int :=
  let x59 := r12_0 x56 x57
  let x60 := r12_1 x56 x57
  let x61 := x59 == 0
  let x62 := x59 == 1
  let x63 := decide (x60 > 0)
  let x64 := iland .u64 x58 7
  let x65 := IntKind.wrap .i64 x64
  let x80 := x60 == 6
  let x81 := bif x80 then x65 else x36
  let x86 := x59 == 3
  let x159 := x59 == 4
  let x168 := x59 == 5
  let x169 := iland .u64 x58 4294967295
  let x170 := decide (x169 ≥ 1)
  let x171 := decide (x169 ≤ 8)
  let x172 := x170 && x171
  let x175 := [x3, x9, x15, x21, x27, x33, x39, x45, x51].getD (Int.toNat x169) false
  let x176 := x172 && x175
  let x181 := [x4, x10, x16, x22, x28, x34, x40, x46, x52].getD (Int.toNat x169) false
  let x182 := [x5, x11, x17, x23, x29, x35, x41, x47, x53].getD (Int.toNat x169) false
  let x183 := [x181, x182].getD (Int.toNat x60) false
  let x184 := x176 && x183
  let x187 := x169 == 0
  let x188 := bif x187 then false else x3
  let x189 := x169 == 1
  let x190 := bif x189 then false else x9
  let x191 := x169 == 2
  let x192 := bif x191 then false else x15
  let x193 := x169 == 3
  let x194 := bif x193 then false else x21
  let x195 := x169 == 4
  let x196 := bif x195 then false else x27
  let x197 := x169 == 5
  let x198 := bif x197 then false else x33
  let x199 := x169 == 6
  let x200 := bif x199 then false else x39
  let x201 := x169 == 7
  let x202 := bif x201 then false else x45
  let x203 := x169 == 8
  let x204 := bif x203 then false else x51
  let x205 := IntKind.wrap .i64 x169
  let y243 := g13 [.i x0, .b x1, .b x2, .b x188, .b x4, .b x5, .i x6, .b x7, .b x8, .b x190, .b x10, .b x11, .i x12, .b x13, .b x14, .b x192, .b x16, .b x17, .i x18, .b x19, .b x20, .b x194, .b x22, .b x23, .i x24, .b x25, .b x26, .b x196, .b x28, .b x29, .i x30, .b x31, .b x32, .b x198, .b x34, .b x35, .i x36, .b x37, .b x38, .b x200, .b x40, .b x41, .i x42, .b x43, .b x44, .b x202, .b x46, .b x47, .i x48, .b x49, .b x50, .b x204, .b x52, .b x53, .i x54, .i x55, .i x205]
  let x243 := (dget y243 37).toI
  let x263 := !x61
  let x270 := bif x63 then x81 else x36
  let x309 := bif x184 then x243 else x36
  let x365 := bif x168 then x309 else x36
  let x421 := bif x159 then x36 else x365
  let x477 := bif x86 then x36 else x421
  let x533 := bif x62 then x270 else x477
  let x589 := bif x263 then x533 else x36
  x589
noncomputable def r7_38 (x0 : Int) (x1 : Bool) (x2 : Bool) (x3 : Bool) (x4 : Bool) (x5 : Bool) (x6 : Int) (x7 : Bool) (x8 : Bool) (x9 : Bool) (x10 : Bool) (x11 : Bool) (x12 : Int) (x13 : Bool) (x14 : Bool) (x15 : Bool) (x16 : Bool) (x17 : Bool) (x18 : Int) (x19 : Bool) (x20 : Bool) (x21 : Bool) (x22 : Bool) (x23 : Bool) (x24 : Int) (x25 : Bool) (x26 : Bool) (x27 : Bool) (x28 : Bool) (x29 : Bool) (x30 : Int) (x31 : Bool) (x32 : Bool) (x33 : Bool) (x34 : Bool) (x35 : Bool) (x36 : Int) (x37 : Bool) (x38 : Bool) (x39 : Bool) (x40 : Bool) (x41 : Bool) (x42 : Int) (x43 : Bool) (x44 : Bool) (x45 : Bool) (x46 : Bool) (x47 : Bool) (x48 : Int) (x49 : Bool) (x50 : Bool) (x51 : Bool) (x52 : Bool) (x53 : Bool) (x54 : Int) (x55 : Int) (x56 : Int) (x57 : Int) (x58 : Int) : Bool :=
  let x59 := r12_0 x56 x57
  let x60 := r12_1 x56 x57
  let x61 := x59 == 0
  let x62 := x59 == 1
  let x86 := x59 == 3
  let x159 := x59 == 4
  let x168 := x59 == 5
  let x169 := iland .u64 x58 4294967295
  let x170 := decide (x169 ≥ 1)
  let x171 := decide (x169 ≤ 8)
  let x172 := x170 && x171
  let x175 := [x3, x9, x15, x21, x27, x33, x39, x45, x51].getD (Int.toNat x169) false
  let x176 := x172 && x175
  let x181 := [x4, x10, x16, x22, x28, x34, x40, x46, x52].getD (Int.toNat x169) false
  let x182 := [x5, x11, x17, x23, x29, x35, x41, x47, x53].getD (Int.toNat x169) false
  let x183 := [x181, x182].getD (Int.toNat x60) false
  let x184 := x176 && x183
  let x187 := x169 == 0
  let x188 := bif x187 then false else x3
  let x189 := x169 == 1
  let x190 := bif x189 then false else x9
  let x191 := x169 == 2
  let x192 := bif x191 then false else x15
  let x193 := x169 == 3
  let x194 := bif x193 then false else x21
  let x195 := x169 == 4
  let x196 := bif x195 then false else x27
  let x197 := x169 == 5
  let x198 := bif x197 then false else x33
  let x199 := x169 == 6
  let x200 := bif x199 then false else x39
  let x201 := x169 == 7
  let x202 := bif x201 then false else x45
  let x203 := x169 == 8
  let x204 := bif x203 then false else x51
  let x205 := IntKind.wrap .i64 x169
  let y244 := g13 [.i x0, .b x1, .b x2, .b x188, .b x4, .b x5, .i x6, .b x7, .b x8, .b x190, .b x10, .b x11, .i x12, .b x13, .b x14, .b x192, .b x16, .b x17, .i x18, .b x19, .b x20, .b x194, .b x22, .b x23, .i x24, .b x25, .b x26, .b x196, .b x28, .b x29, .i x30, .b x31, .b x32, .b x198, .b x34, .b x35, .i x36, .b x37, .b x38, .b x200, .b x40, .b x41, .i x42, .b x43, .b x44, .b x202, .b x46, .b x47, .i x48, .b x49, .b x50, .b x204, .b x52, .b x53, .i x54, .i x55, .i x205]
  let x244 := (dget y244 38).toB
  let x263 := !x61
  let x310 := bif x184 then x244 else x37
  let x366 := bif x168 then x310 else x37
  let x422 := bif x159 then x37 else x366
  let x478 := bif x86 then x37 else x422
  let x534 := bif x62 then x37 else x478
  let x590 := bif x263 then x534 else x37
  x590
noncomputable def r7_39 (x0 : Int) (x1 : Bool) (x2 : Bool) (x3 : Bool) (x4 : Bool) (x5 : Bool) (x6 : Int) (x7 : Bool) (x8 : Bool) (x9 : Bool) (x10 : Bool) (x11 : Bool) (x12 : Int) (x13 : Bool) (x14 : Bool) (x15 : Bool) (x16 : Bool) (x17 : Bool) (x18 : Int) (x19 : Bool) (x20 : Bool) (x21 : Bool) (x22 : Bool) (x23 : Bool) (x24 : Int) (x25 : Bool) (x26 : Bool) (x27 : Bool) (x28 : Bool) (x29 : Bool) (x30 : Int) (x31 : Bool) (x32 : Bool) (x33 : Bool) (x34 : Bool) (x35 : Bool) (x36 : Int) (x37 : Bool) (x38 : Bool) (x39 : Bool) (x40 : Bool) (x41 : Bool) (x42 : Int) (x43 : Bool) (x44 : Bool) (x45 : Bool) (x46 : Bool) (x47 : Bool) (x48 : Int) (x49 : Bool) (x50 : Bool) (x51 : Bool) (x52 : Bool) (x53 : Bool) (x54 : Int) (x55 : Int) (x56 : Int) (x57 : Int) (x58 : Int) : Bool :=
  let x59 := r12_0 x56 x57
  let x60 := r12_1 x56 x57
  let x61 := x59 == 0
  let x62 := x59 == 1
  let x86 := x59 == 3
  let x159 := x59 == 4
  let x168 := x59 == 5
  let x169 := iland .u64 x58 4294967295
  let x170 := decide (x169 ≥ 1)
  let x171 := decide (x169 ≤ 8)
  let x172 := x170 && x171
  let x175 := [x3, x9, x15, x21, x27, x33, x39, x45, x51].getD (Int.toNat x169) false
  let x176 := x172 && x175
  let x181 := [x4, x10, x16, x22, x28, x34, x40, x46, x52].getD (Int.toNat x169) false
  let x182 := [x5, x11, x17, x23, x29, x35, x41, x47, x53].getD (Int.toNat x169) false
  let x183 := [x181, x182].getD (Int.toNat x60) false
  let x184 := x176 && x183
  let x187 := x169 == 0
  let x188 := bif x187 then false else x3
  let x189 := x169 == 1
  let x190 := bif x189 then false else x9
  let x191 := x169 == 2
  let x192 := bif x191 then false else x15
  let x193 := x169 == 3
  let x194 := bif x193 then false else x21
  let x195 := x169 == 4
  let x196 := bif x195 then false else x27
  let x197 := x169 == 5
  let x198 := bif x197 then false else x33
  let x199 := x169 == 6
  let x200 := bif x199 then false else x39
  let x201 := x169 == 7
  let x202 := bif x201 then false else x45
  let x203 := x169 == 8
  let x204 := bif x203 then false else x51
  let x205 := IntKind.wrap .i64 x169
  let y245 := g13 [.i x0, .b x1, .b x2, .b x188, .b x4, .b x5, .i x6, .b x7, .b x8, .b x190, .b x10, .b x11, .i x12, .b x13, .b x14, .b x192, .b x16, .b x17, .i x18, .b x19, .b x20, .b x194, .b x22, .b x23, .i x24, .b x25, .b x26, .b x196, .b x28, .b x29, .i x30, .b x31, .b x32, .b x198, .b x34, .b x35, .i x36, .b x37, .b x38, .b x200, .b x40, .b x41, .i x42, .b x43, .b x44, .b x202, .b x46, .b x47, .i x48, .b x49, .b x50, .b x204, .b x52, .b x53, .i x54, .i x55, .i x205]
  let x245 := (dget y245 39).toB
  let x263 := !x61
  let x311 := bif x184 then x245 else x38
  let x367 := bif x168 then x311 else x38
  let x423 := bif x159 then x38 else x367
  let x479 := bif x86 then x38 else x423
  let x535 := bif x62 then x38 else x479
  let x591 := bif x263 then x535 else x38
  x591
noncomputable def r7_40 (x0 : Int) (x1 : Bool) (x2 : Bool) (x3 : Bool) (x4 : Bool) (x5 : Bool) (x6 : Int) (x7 : Bool) (x8 : Bool) (x9 : Bool) (x10 : Bool) (x11 : Bool) (x12 : Int) (x13 : Bool) (x14 : Bool) (x15 : Bool) (x16 : Bool) (x17 : Bool) (x18 : Int) (x19 : Bool) (x20 : Bool) (x21 : Bool) (x22 : Bool) (x23 : Bool) (x24 : Int) (x25 : Bool) (x26 : Bool) (x27 : Bool) (x28 : Bool) (x29 : Bool) (x30 : Int) (x31 : Bool) (x32 : Bool) (x33 : Bool) (x34 : Bool) (x35 : Bool) (x36 : Int) (x37 : Bool) (x38 : Bool) (x39 : Bool) (x40 : Bool) (x41 : Bool) (x42 : Int) (x43 : Bool) (x44 : Bool) (x45 : Bool) (x46 : Bool) (x47 : Bool) (x48 : Int) (x49 : Bool) (x50 : Bool) (x51 : Bool) (x52 : Bool) (x53 : Bool) (x54 : Int) (x55 : Int) (x56 : Int) (x57 : Int) (x58 : Int) : Bool :=
  let x59 := r12_0 x56 x57
  let x60 := r12_1 x56 x57
  let x61 := x59 == 0
  let x62 := x59 == 1
  let x86 := x59 == 3
  let x159 := x59 == 4
  let x168 := x59 == 5
  let x169 := iland .u64 x58 4294967295
  let x170 := decide (x169 ≥ 1)
  let x171 := decide (x169 ≤ 8)
  let x172 := x170 && x171
  let x175 := [x3, x9, x15, x21, x27, x33, x39, x45, x51].getD (Int.toNat x169) false
  let x176 := x172 && x175
  let x181 := [x4, x10, x16, x22, x28, x34, x40, x46, x52].getD (Int.toNat x169) false
  let x182 := [x5, x11, x17, x23, x29, x35, x41, x47, x53].getD (Int.toNat x169) false
  let x183 := [x181, x182].getD (Int.toNat x60) false
  let x184 := x176 && x183
  let x187 := x169 == 0
  let x188 := bif x187 then false else x3
  let x189 := x169 == 1
  let x190 := bif x189 then false else x9
  let x191 := x169 == 2
  let x192 := bif x191 then false else x15
  let x193 := x169 == 3
  let x194 := bif x193 then false else x21
  let x195 := x169 == 4
  let x196 := bif x195 then false else x27
  let x197 := x169 == 5
  let x198 := bif x197 then false else x33
  let x199 := x169 == 6
  let x200 := bif x199 then false else x39
  let x201 := x169 == 7
  let x202 := bif x201 then false else x45
  let x203 := x169 == 8
  let x204 := bif x203 then false else x51
  let x205 := IntKind.wrap .i64 x169
  let y246 := g13 [.i x0, .b x1, .b x2, .b x188, .b x4, .b x5, .i x6, .b x7, .b x8, .b x190, .b x10, .b x11, .i x12, .b x13, .b x14, .b x192, .b x16, .b x17, .i x18, .b x19, .b x20, .b x194, .b x22, .b x23, .i x24, .b x25, .b x26, .b x196, .b x28, .b x29, .i x30, .b x31, .b x32, .b x198, .b x34, .b x35, .i x36, .b x37, .b x38, .b x200, .b x40, .b x41, .i x42, .b x43, .b x44, .b x202, .b x46, .b x47, .i x48, .b x49, .b x50, .b x204, .b x52, .b x53, .i x54, .i x55, .i x205]
  let x246 := (dget y246 40).toB
  let x263 := !x61
  let x312 := bif x184 then x246 else x39
  let x368 := bif x168 then x312 else x39
  let x424 := bif x159 then x39 else x368
  let x480 := bif x86 then x39 else x424
  let x536 := bif x62 then x39 else x480
  let x592 := bif x263 then x536 else x39
  x592
noncomputable def r7_41 (x0 : Int) (x1 : Bool) (x2 : Bool) (x3 : Bool) (x4 : Bool) (x5 : Bool) (x6 : Int) (x7 : Bool) (x8 : Bool) (x9 : Bool) (x10 : Bool) (x11 : Bool) (x12 : Int) (x13 : Bool) (x14 : Bool) (x15 : Bool) (x16 : Bool) (x17 : Bool) (x18 : Int) (x19 : Bool) (x20 : Bool) (x21 : Bool) (x22 : Bool) (x23 : Bool) (x24 : Int) (x25 : Bool) (x26 : Bool) (x27 : Bool) (x28 : Bool) (x29 : Bool) (x30 : Int) (x31 : Bool) (x32 : Bool) (x33 : Bool) (x34 : Bool) (x35 : Bool) (x36 : Int) (x37 : Bool) (x38 : Bool) (x39 : Bool) (x40 : Bool) (x41 : Bool) (x42 : Int) (x43 : Bool) (x44 : Bool) (x45 : Bool) (x46 : Bool) (x47 : Bool) (x48 : Int) (x49 : Bool) (x50 : Bool) (x51 : Bool) (x52 : Bool) (x53 : Bool) (x54 : Int) (x55 : Int) (x56 : Int) (x57 : Int) (x58 : Int) : Bool :=
  let x59 := r12_0 x56 x57
  let x60 := r12_1 x56 x57
  let x61 := x59 == 0
  let x62 := x59 == 1
  let x86 := x59 == 3
  let x132 := ishr .u64 x58 6
  let x133 := iland .u64 x132 1
  let x134 := x133 == 1
  let x137 := x60 == 0
  let x138 := bif x137 then x134 else x40
  let x159 := x59 == 4
  let x168 := x59 == 5
  let x169 := iland .u64 x58 4294967295
  let x170 := decide (x169 ≥ 1)
  let x171 := decide (x169 ≤ 8)
  let x172 := x170 && x171
  let x175 := [x3, x9, x15, x21, x27, x33, x39, x45, x51].getD (Int.toNat x169) false
  let x176 := x172 && x175
  let x181 := [x4, x10, x16, x22, x28, x34, x40, x46, x52].getD (Int.toNat x169) false
  let x182 := [x5, x11, x17, x23, x29, x35, x41, x47, x53].getD (Int.toNat x169) false
  let x183 := [x181, x182].getD (Int.toNat x60) false
  let x184 := x176 && x183
  let x187 := x169 == 0
  let x188 := bif x187 then false else x3
  let x189 := x169 == 1
  let x190 := bif x189 then false else x9
  let x191 := x169 == 2
  let x192 := bif x191 then false else x15
  let x193 := x169 == 3
  let x194 := bif x193 then false else x21
  let x195 := x169 == 4
  let x196 := bif x195 then false else x27
  let x197 := x169 == 5
  let x198 := bif x197 then false else x33
  let x199 := x169 == 6
  let x200 := bif x199 then false else x39
  let x201 := x169 == 7
  let x202 := bif x201 then false else x45
  let x203 := x169 == 8
  let x204 := bif x203 then false else x51
  let x205 := IntKind.wrap .i64 x169
  let y247 := g13 [.i x0, .b x1, .b x2, .b x188, .b x4, .b x5, .i x6, .b x7, .b x8, .b x190, .b x10, .b x11, .i x12, .b x13, .b x14, .b x192, .b x16, .b x17, .i x18, .b x19, .b x20, .b x194, .b x22, .b x23, .i x24, .b x25, .b x26, .b x196, .b x28, .b x29, .i x30, .b x31, .b x32, .b x198, .b x34, .b x35, .i x36, .b x37, .b x38, .b x200, .b x40, .b x41, .i x42, .b x43, .b x44, .b x202, .b x46, .b x47, .i x48, .b x49, .b x50, .b x204, .b x52, .b x53, .i x54, .i x55, .i x205]
  let x247 := (dget y247 41).toB
  let x263 := !x61
  let x313 := bif x184 then x247 else x40
  let x369 := bif x168 then x313 else x40
  let x425 := bif x159 then x40 else x369
  let x481 := bif x86 then x138 else x425
  let x537 := bif x62 then x40 else x481
  let x593 := bif x263 then x537 else x40
  x593
noncomputable def r7_42 (x0 : Int) (x1 : Bool) (x2 : Bool) (x3 : Bool) (x4 : Bool) (x5 : Bool) (x6 : Int) (x7 : Bool) (x8 : Bool) (x9 : Bool) (x10 : Bool) (x11 : Bool) (x12 : Int) (x13 : Bool) (x14 : Bool) (x15 : Bool) (x16 : Bool) (x17 : Bool) (x18 : Int) (x19 : Bool) (x20 : Bool) (x21 : Bool) (x22 : Bool) (x23 : Bool) (x24 : Int) (x25 : Bool) (x26 : Bool) (x27 : Bool) (x28 : Bool) (x29 : Bool) (x30 : Int) (x31 : Bool) (x32 : Bool) (x33 : Bool) (x34 : Bool) (x35 : Bool) (x36 : Int) (x37 : Bool) (x38 : Bool) (x39 : Bool) (x40 : Bool) (x41 : Bool) (x42 : Int) (x43 : Bool) (x44 : Bool) (x45 : Bool) (x46 : Bool) (x47 : Bool) (x48 : Int) (x49 : Bool) (x50 : Bool) (x51 : Bool) (x52 : Bool) (x53 : Bool) (x54 : Int) (x55 : Int) (x56 : Int) (x57 : Int) (x58 : Int) : Bool :=
  let x59 := r12_0 x56 x57
  let x60 := r12_1 x56 x57
  let x61 := x59 == 0
  let x62 := x59 == 1
  let x86 := x59 == 3
  let x132 := ishr .u64 x58 6
  let x133 := iland .u64 x132 1
  let x134 := x133 == 1
  let x139 := x60 == 1
  let x140 := bif x139 then x134 else x41
  let x159 := x59 == 4
  let x168 := x59 == 5
  let x169 := iland .u64 x58 4294967295
  let x170 := decide (x169 ≥ 1)
  let x171 := decide (x169 ≤ 8)
  let x172 := x170 && x171
  let x175 := [x3, x9, x15, x21, x27, x33, x39, x45, x51].getD (Int.toNat x169) false
  let x176 := x172 && x175
  let x181 := [x4, x10, x16, x22, x28, x34, x40, x46, x52].getD (Int.toNat x169) false
  let x182 := [x5, x11, x17, x23, x29, x35, x41, x47, x53].getD (Int.toNat x169) false
  let x183 := [x181, x182].getD (Int.toNat x60) false
  let x184 := x176 && x183
  let x187 := x169 == 0
  let x188 := bif x187 then false else x3
  let x189 := x169 == 1
  let x190 := bif x189 then false else x9
  let x191 := x169 == 2
  let x192 := bif x191 then false else x15
  let x193 := x169 == 3
  let x194 := bif x193 then false else x21
  let x195 := x169 == 4
  let x196 := bif x195 then false else x27
  let x197 := x169 == 5
  let x198 := bif x197 then false else x33
  let x199 := x169 == 6
  let x200 := bif x199 then false else x39
  let x201 := x169 == 7
  let x202 := bif x201 then false else x45
  let x203 := x169 == 8
  let x204 := bif x203 then false else x51
  let x205 := IntKind.wrap .i64 x169
  let y248 := g13 [.i x0, .b x1, .b x2, .b x188, .b x4, .b x5, .i x6, .b x7, .b x8, .b x190, .b x10, .b x11, .i x12, .b x13, .b x14, .b x192, .b x16, .b x17, .i x18, .b x19, .b x20, .b x194, .b x22, .b x23, .i x24, .b x25, .b x26, .b x196, .b x28, .b x29, .i x30, .b x31, .b x32, .b x198, .b x34, .b x35, .i x36, .b x37, .b x38, .b x200, .b x40, .b x41, .i x42, .b x43, .b x44, .b x202, .b x46, .b x47, .i x48, .b x49, .b x50, .b x204, .b x52, .b x53, .i x54, .i x55, .i x205]
  let x248 := (dget y248 42).toB
  let x263 := !x61
  let x314 := bif x184 then x248 else x41
  let x370 := bif x168 then x314 else x41
  let x426 := bif x159 then x41 else x370
  let x482 := bif x86 then x140 else x426
  let x538 := bif x62 then x41 else x482
  let x594 := bif x263 then x538 else x41
  x594
noncomputable def r7_43 (x0 : Int) (x1 : Bool) (x2 : Bool) (x3 : Bool) (x4 : Bool) (x5 : Bool) (x6 : Int) (x7 : Bool) (x8 : Bool) (x9 : Bool) (x10 : Bool) (x11 : Bool) (x12 : Int) (x13 : Bool) (x14 : Bool) (x15 : Bool) (x16 : Bool) (x17 : Bool) (x18 : Int) (x19 : Bool) (x20 : Bool) (x21 : Bool) (x22 : Bool) (x23 : Bool) (x24 : Int) (x25 : Bool) (x26 : Bool) (x27 : Bool) (x28 : Bool) (x29 : Bool) (x30 : Int) (x31 : Bool) (x32 : Bool) (x33 : Bool) (x34 : Bool) (x35 : Bool) (x36 : Int) (x37 : Bool) (x38 : Bool) (x39 : Bool) (x40 : Bool) (x41 : Bool) (x42 : Int) (x43 : Bool) (x44 : Bool) (x45 : Bool) (x46 : Bool) (x47 : Bool) (x48 : Int) (x49 : Bool) (x50 : Bool) (x51 : Bool) (x52 : Bool) (x53 : Bool) (x54 : Int) (x55 : Int) (x56 : Int) (x57 : Int) (x58 : Int) : Int :=
  let x59 := r12_0 x56 x57
  let x60 := r12_1 x56 x57
  let x61 := x59 == 0
  let x62 := x59 == 1
  let x63 := decide (x60 > 0)
  let x64 := iland .u64 x58 7
  let x65 := IntKind.wrap .i64 x64
  let x82 := x60 == 7
  let x83 := bif x82 then x65 else x42
  let x86 := x59 == 3
  let x159 := x59 == 4
  let x168 := x59 == 5
  let x169 := iland .u64 x58 4294967295
  let x170 := decide (x169 ≥ 1)
  let x171 := decide (x169 ≤ 8)
  let x172 := x170 && x171
  let x175 := [x3, x9, x15, x21, x27, x33, x39, x45, x51].getD (Int.toNat x169) false
  let x176 := x172 && x175
  let x181 := [x4, x10, x16, x22, x28, x34, x40, x46, x52].getD (Int.toNat x169) false
  let x182 := [x5, x11, x17, x23, x29, x35, x41, x47, x53].getD (Int.toNat x169) false
  let x183 := [x181, x182].getD (Int.toNat x60) false
  let x184 := x176 && x183
  let x187 := x169 == 0
  let x188 := bif x187 then false else x3
  let x189 := x169 == 1
  let x190 := bif x189 then false else x9
  let x191 := x169 == 2
  let x192 := bif x191 then false else x15
  let x193 := x169 == 3
  let x194 := bif x193 then false else x21
  let x195 := x169 == 4
  let x196 := bif x195 then false else x27
  let x197 := x169 == 5
  let x198 := bif x197 then false else x33
  let x199 := x169 == 6
  let x200 := bif x199 then false else x39
  let x201 := x169 == 7
  let x202 := bif x201 then false else x45
  let x203 := x169 == 8
  let x204 := bif x203 then false else x51
  let x205 := IntKind.wrap .i64 x169
  let y249 := g13 [.i x0, .b x1, .b x2, .b x188, .b x4, .b x5, .i x6, .b x7, .b x8, .b x190, .b x10, .b x11, .i x12, .b x13, .b x14, .b x192, .b x16, .b x17, .i x18, .b x19, .b x20, .b x194, .b x22, .b x23, .i x24, .b x25, .b x26, .b x196, .b x28, .b x29, .i x30, .b x31, .b x32, .b x198, .b x34, .b x35, .i x36, .b x37, .b x38, .b x200, .b x40, .b x41, .i x42, .b x43, .b x44, .b x202, .b x46, .b x47, .i x48, .b x49, .b x50, .b x204, .b x52, .b x53, .i x54, .i x55, .i x205]
  let x249 := (dget y249 43).toI
  let x263 := !x61
  let x271 := bif x63 then x83 else x42
  let x315 := bif x184 then x249 else x42
  let x371 := bif x168 then x315 else x42
  let x427 := bif x159 then x42 else x371
  let x483 := bif x86 then x42 else x427
  let x539 := bif x62 then x271 else x483
  let x595 := bif x263 then x539 else x42
  x595
noncomputable def r7_44 (x0 : Int) (x1 : Bool) (x2 : Bool) (x3 : Bool) (x4 : Bool) (x5 : Bool) (x6 : Int) (x7 : Bool) (x8 : Bool) (x9 : Bool) (x10 : Bool) (x11 : Bool) (x12 : Int) (x13 : Bool) (x14 : Bool) (x15 : Bool) (x16 : Bool) (x17 : Bool) (x18 : Int) (x19 : Bool) (x20 : Bool) (x21 : Bool) (x22 : Bool) (x23 : Bool) (x24 : Int) (x25 : Bool) (x26 : Bool) (x27 : Bool) (x28 : Bool) (x29 : Bool) (x30 : Int) (x31 : Bool) (x32 : Bool) (x33 : Bool) (x34 : Bool) (x35 : Bool) (x36 : Int) (x37 : Bool) (x38 : Bool) (x39 : Bool) (x40 : Bool) (x41 : Bool) (x42 : Int) (x43 : Bool) (x44 : Bool) (x45 : Bool) (x46 : Bool) (x47 : Bool) (x48 : Int) (x49 : Bool) (x50 : Bool) (x51 : Bool) (x52 : Bool) (x53 : Bool) (x54 : Int) (x55 : Int) (x56 : Int) (x57 : Int) (x58 : Int) : Bool :=
  let x59 := r12_0 x56 x57
  let x60 := r12_1 x56 x57
  let x61 := x59 == 0
  let x62 := x59 == 1
  let x86 := x59 == 3
  let x159 := x59 == 4
  let x168 := x59 == 5
  let x169 := iland .u64 x58 4294967295
  let x170 := decide (x169 ≥ 1)
  let x171 := decide (x169 ≤ 8)
  let x172 := x170 && x171
  let x175 := [x3, x9, x15, x21, x27, x33, x39, x45, x51].getD (Int.toNat x169) false
  let x176 := x172 && x175
  let x181 := [x4, x10, x16, x22, x28, x34, x40, x46, x52].getD (Int.toNat x169) false
  let x182 := [x5, x11, x17, x23, x29, x35, x41, x47, x53].getD (Int.toNat x169) false
  let x183 := [x181, x182].getD (Int.toNat x60) false
  let x184 := x176 && x183
  let x187 := x169 == 0
  let x188 := bif x187 then false else x3
  let x189 := x169 == 1
  let x190 := bif x189 then false else x9
  let x191 := x169 == 2
  let x192 := bif x191 then false else x15
  let x193 := x169 == 3
  let x194 := bif x193 then false else x21
  let x195 := x169 == 4
  let x196 := bif x195 then false else x27
  let x197 := x169 == 5
  let x198 := bif x197 then false else x33
  let x199 := x169 == 6
  let x200 := bif x199 then false else x39
  let x201 := x169 == 7
  let x202 := bif x201 then false else x45
  let x203 := x169 == 8
  let x204 := bif x203 then false else x51
  let x205 := IntKind.wrap .i64 x169
  let y250 := g13 [.i x0, .b x1, .b x2, .b x188, .b x4, .b x5, .i x6, .b x7, .b x8, .b x190, .b x10, .b x11, .i x12, .b x13, .b x14, .b x192, .b x16, .b x17, .i x18, .b x19, .b x20, .b x194, .b x22, .b x23, .i x24, .b x25, .b x26, .b x196, .b x28, .b x29, .i x30, .b x31, .b x32, .b x198, .b x34, .b x35, .i x36, .b x37, .b x38, .b x200, .b x40, .b x41, .i x42, .b x43, .b x44, .b x202, .b x46, .b x47, .i x48, .b x49, .b x50, .b x204, .b x52, .b x53, .i x54, .i x55, .i x205]
  let x250 := (dget y250 44).toB
  let x263 := !x61
  let x316 := bif x184 then x250 else x43
  let x372 := bif x168 then x316 else x43
  let x428 := bif x159 then x43 else x372
  let x484 := bif x86 then x43 else x428
  let x540 := bif x62 then x43 else x484
  let x596 := bif x263 then x540 else x43
  x596
noncomputable def r7_45 (x0 : Int) (x1 : Bool) (x2 : Bool) (x3 : Bool) (x4 : Bool) (x5 : Bool) (x6 : Int) (x7 : Bool) (x8 : Bool) (x9 : Bool) (x10 : Bool) (x11 : Bool) (x12 : Int) (x13 : Bool) (x14 : Bool) (x15 : Bool) (x16 : Bool) (x17 : Bool) (x18 : Int) (x19 : Bool) (x20 : Bool) (x21 : Bool) (x22 : Bool) (x23 : Bool) (x24 : Int) (x25 : Bool) (x26 : Bool) (x27 : Bool) (x28 : Bool) (x29 : Bool) (x30 : Int) (x31 : Bool) (x32 : Bool) (x33 : Bool) (x34 : Bool) (x35 : Bool) (x36 : Int) (x37 : Bool) (x38 : Bool) (x39 : Bool) (x40 : Bool) (x41 : Bool) (x42 : Int) (x43 : Bool) (x44 : Bool) (x45 : Bool) (x46 : Bool) (x47 : Bool) (x48 : Int) (x49 : Bool) (x50 : Bool) (x51 : Bool) (x52 : Bool) (x53 : Bool) (x54 : Int) (x55 : Int) (x56 : Int) (x57 : Int) (x58 : Int) : Bool :=
  let x59 := r12_0 x56 x57
  let x60 := r12_1 x56 x57
  let x61 := x59 == 0
  let x62 := x59 == 1
  let x86 := x59 == 3
  let x159 := x59 == 4
  let x168 := x59 == 5
  let x169 := iland .u64 x58 4294967295
  let x170 := decide (x169 ≥ 1)
  let x171 := decide (x169 ≤ 8)
  let x172 := x170 && x171
  let x175 := [x3, x9, x15, x21, x27, x33, x39, x45, x51].getD (Int.toNat x169) false
  let x176 := x172 && x175
  let x181 := [x4, x10, x16, x22, x28, x34, x40, x46, x52].getD (Int.toNat x169) false
  let x182 := [x5, x11, x17, x23, x29, x35, x41, x47, x53].getD (Int.toNat x169) false
  let x183 := [x181, x182].getD (Int.toNat x60) false
  let x184 := x176 && x183
  let x187 := x169 == 0
  let x188 := bif x187 then false else x3
  let x189 := x169 == 1
  let x190 := bif x189 then false else x9
  let x191 := x169 == 2
  let x192 := bif x191 then false else x15
  let x193 := x169 == 3
  let x194 := bif x193 then false else x21
  let x195 := x169 == 4
  let x196 := bif x195 then false else x27
  let x197 := x169 == 5
  let x198 := bif x197 then false else x33
  let x199 := x169 == 6
  let x200 := bif x199 then false else x39
  let x201 := x169 == 7
  let x202 := bif x201 then false else x45
  let x203 := x169 == 8
  let x204 := bif x203 then false else x51
  let x205 := IntKind.wrap .i64 x169
  let y251 := g13 [.i x0, .b x1, .b x2, .b x188, .b x4, .b x5, .i x6, .b x7, .b x8, .b x190, .b x10, .b x11, .i x12, .b x13, .b x14, .b x192, .b x16, .b x17, .i x18, .b x19, .b x20, .b x194, .b x22, .b x23, .i x24, .b x25, .b x26, .b x196, .b x28, .b x29, .i x30, .b x31, .b x32, .b x198, .b x34, .b x35, .i x36, .b x37, .b x38, .b x200, .b x40, .b x41, .i x42, .b x43, .b x44, .b x202, .b x46, .b x47, .i x48, .b x49, .b x50, .b x204, .b x52, .b x53, .i x54, .i x55, .i x205]
  let x251 := (dget y251 45).toB
  let x263 := !x61
  let x317 := bif x184 then x251 else x44
  let x373 := bif x168 then x317 else x44
  let x429 := bif x159 then x44 else x373
  let x485 := bif x86 then x44 else x429
  let x541 := bif x62 then x44 else x485
  let x597 := bif x263 then x541 else x44
  x597
noncomputable def r7_46 (x0 : Int) (x1 : Bool) (x2 : Bool) (x3 : Bool) (x4 : Bool) (x5 : Bool) (x6 : Int) (x7 : Bool) (x8 : Bool) (x9 : Bool) (x10 : Bool) (x11 : Bool) (x12 : Int) (x13 : Bool) (x14 : Bool) (x15 : Bool) (x16 : Bool) (x17 : Bool) (x18 : Int) (x19 : Bool) (x20 : Bool) (x21 : Bool) (x22 : Bool) (x23 : Bool) (x24 : Int) (x25 : Bool) (x26 : Bool) (x27 : Bool) (x28 : Bool) (x29 : Bool) (x30 : Int) (x31 : Bool) (x32 : Bool) (x33 : Bool) (x34 : Bool) (x35 : Bool) (x36 : Int) (x37 : Bool) (x38 : Bool) (x39 : Bool) (x40 : Bool) (x41 : Bool) (x42 : Int) (x43 : Bool) (x44 : Bool) (x45 : Bool) (x46 : Bool) (x47 : Bool) (x48 : Int) (x49 : Bool) (x50 : Bool) (x51 : Bool) (x52 : Bool) (x53 : Bool) (x54 : Int) (x55 : Int) (x56 : Int) (x57 : Int) (x58 : Int) : Bool :=
  let x59 := r12_0 x56 x57
  let x60 := r12_1 x56 x57
  let x61 := x59 == 0
  let x62 := x59 == 1
  let x86 := x59 == 3
  let x159 := x59 == 4
  let x168 := x59 == 5
  let x169 := iland .u64 x58 4294967295
  let x170 := decide (x169 ≥ 1)
  let x171 := decide (x169 ≤ 8)
  let x172 := x170 && x171
  let x175 := [x3, x9, x15, x21, x27, x33, x39, x45, x51].getD (Int.toNat x169) false
  let x176 := x172 && x175
  let x181 := [x4, x10, x16, x22, x28, x34, x40, x46, x52].getD (Int.toNat x169) false
  let x182 := [x5, x11, x17, x23, x29, x35, x41, x47, x53].getD (Int.toNat x169) false
  let x183 := [x181, x182].getD (Int.toNat x60) false
  let x184 := x176 && x183
  let x187 := x169 == 0
  let x188 := bif x187 then false else x3
  let x189 := x169 == 1
  let x190 := bif x189 then false else x9
  let x191 := x169 == 2
  let x192 := bif x191 then false else x15
  let x193 := x169 == 3
  let x194 := bif x193 then false else x21
  let x195 := x169 == 4
  let x196 := bif x195 then false else x27
  let x197 := x169 == 5
  let x198 := bif x197 then false else x33
  let x199 := x169 == 6
  let x200 := bif x199 then false else x39
  let x201 := x169 == 7
  let x202 := bif x201 then false else x45
  let x203 := x169 == 8
  let x204 := bif x203 then false else x51
  let x205 := IntKind.wrap .i64 x169
  let y252 := g13 [.i x0, .b x1, .b x2, .b x188, .b x4, .b x5, .i x6, .b x7, .b x8, .b x190, .b x10, .b x11, .i x12, .b x13, .b x14, .b x192, .b x16, .b x17, .i x18, .b x19, .b x20, .b x194, .b x22, .b x23, .i x24, .b x25, .b x26, .b x196, .b x28, .b x29, .i x30, .b x31, .b x32, .b x198, .b x34, .b x35, .i x36, .b x37, .b x38, .b x200, .b x40, .b x41, .i x42, .b x43, .b x44, .b x202, .b x46, .b x47, .i x48, .b x49, .b x50, .b x204, .b x52, .b x53, .i x54, .i x55, .i x205]
  let x252 := (dget y252 46).toB
  let x263 := !x61
  let x318 := bif x184 then x252 else x45
  let x374 := bif x168 then x318 else x45
  let x430 := bif x159 then x45 else x374
  let x486 := bif x86 then x45 else x430
  let x542 := bif x62 then x45 else x486
  let x598 := bif x263 then x542 else x45
  x598
noncomputable def r7_47 (x0 : Int) (x1 : Bool) (x2 : Bool) (x3 : Bool) (x4 : Bool) (x5 : Bool) (x6 : Int) (x7 : Bool) (x8 : Bool) (x9 : Bool) (x10 : Bool) (x11 : Bool) (x12 : Int) (x13 : Bool) (x14 : Bool) (x15 : Bool) (x16 : Bool) (x17 : Bool) (x18 : Int) (x19 : Bool) (x20 : Bool) (x21 : Bool) (x22 : Bool) (x23 : Bool) (x24 : Int) (x25 : Bool) (x26 : Bool) (x27 : Bool) (x28 : Bool) (x29 : Bool) (x30 : Int) (x31 : Bool) (x32 : Bool) (x33 : Bool) (x34 : Bool) (x35 : Bool) (x36 : Int) (x37 : Bool) (x38 : Bool) (x39 : Bool) (x40 : Bool) (x41 : Bool) (x42 : Int) (x43 : Bool) (x44 : Bool) (x45 : Bool) (x46 : Bool) (x47 : Bool) (x48 : Int) (x49 : Bool) (x50 : Bool) (x51 : Bool) (x52 : Bool) (x53 : Bool) (x54 : Int) (x55 : Int) (x56 : Int) (x57 : Int) (x58 : Int) : Bool :=
  let x59 := r12_0 x56 x57
  let x60 := r12_1 x56 x57
  let x61 := x59 == 0
  let x62 := x59 == 1
  let x86 := x59 == 3
  let x141 := ishr .u64 x58 7
  let x142 := iland .u64 x141 1
  let x143 := x142 == 1
  let x146 := x60 == 0
  let x147 := bif x146 then x143 else x46
  let x159 := x59 == 4
  let x168 := x59 == 5
  let x169 := iland .u64 x58 4294967295
  let x170 := decide (x169 ≥ 1)
  let x171 := decide (x169 ≤ 8)
  let x172 := x170 && x171
  let x175 := [x3, x9, x15, x21, x27, x33, x39, x45, x51].getD (Int.toNat x169) false
  let x176 := x172 && x175
  let x181 := [x4, x10, x16, x22, x28, x34, x40, x46, x52].getD (Int.toNat x169) false
  let x182 := [x5, x11, x17, x23, x29, x35, x41, x47, x53].getD (Int.toNat x169) false
  let x183 := [x181, x182].getD (Int.toNat x60) false
  let x184 := x176 && x183
  let x187 := x169 == 0
  let x188 := bif x187 then false else x3
  let x189 := x169 == 1
  let x190 := bif x189 then false else x9
  let x191 := x169 == 2
  let x192 := bif x191 then false else x15
  let x193 := x169 == 3
  let x194 := bif x193 then false else x21
  let x195 := x169 == 4
  let x196 := bif x195 then false else x27
  let x197 := x169 == 5
  let x198 := bif x197 then false else x33
  let x199 := x169 == 6
  let x200 := bif x199 then false else x39
  let x201 := x169 == 7
  let x202 := bif x201 then false else x45
  let x203 := x169 == 8
  let x204 := bif x203 then false else x51
  let x205 := IntKind.wrap .i64 x169
  let y253 := g13 [.i x0, .b x1, .b x2, .b x188, .b x4, .b x5, .i x6, .b x7, .b x8, .b x190, .b x10, .b x11, .i x12, .b x13, .b x14, .b x192, .b x16, .b x17, .i x18, .b x19, .b x20, .b x194, .b x22, .b x23, .i x24, .b x25, .b x26, .b x196, .b x28, .b x29, .i x30, .b x31, .b x32, .b x198, .b x34, .b x35, .i x36, .b x37, .b x38, .b x200, .b x40, .b x41, .i x42, .b x43, .b x44, .b x202, .b x46, .b x47, .i x48, .b x49, .b x50, .b x204, .b x52, .b x53, .i x54, .i x55, .i x205]
  let x253 := (dget y253 47).toB
  let x263 := !x61
  let x319 := bif x184 then x253 else x46
  let x375 := bif x168 then x319 else x46
  let x431 := bif x159 then x46 else x375
  let x487 := bif x86 then x147 else x431
  let x543 := bif x62 then x46 else x487
  let x599 := bif x263 then x543 else x46
  x599
noncomputable def r7_48 (x0 : Int) (x1 : Bool) (x2 : Bool) (x3 : Bool) (x4 : Bool) (x5 : Bool) (x6 : Int) (x7 : Bool) (x8 : Bool) (x9 : Bool) (x10 : Bool) (x11 : Bool) (x12 : Int) (x13 : Bool) (x14 : Bool) (x15 : Bool) (x16 : Bool) (x17 : Bool) (x18 : Int) (x19 : Bool) (x20 : Bool) (x21 : Bool) (x22 : Bool) (x23 : Bool) (x24 : Int) (x25 : Bool) (x26 : Bool) (x27 : Bool) (x28 : Bool) (x29 : Bool) (x30 : Int) (x31 : Bool) (x32 : Bool) (x33 : Bool) (x34 : Bool) (x35 : Bool) (x36 : Int) (x37 : Bool) (x38 : Bool) (x39 : Bool) (x40 : Bool) (x41 : Bool) (x42 : Int) (x43 : Bool) (x44 : Bool) (x45 : Bool) (x46 : Bool) (x47 : Bool) (x48 : Int) (x49 : Bool) (x50 : Bool) (x51 : Bool) (x52 : Bool) (x53 : Bool) (x54 : Int) (x55 : Int) (x56 : Int) (x57 : Int) (x58 : Int) : Bool :=
  let x59 := r12_0 x56 x57
  let x60 := r12_1 x56 x57
  let x61 := x59 == 0
  let x62 := x59 == 1
  let x86 := x59 == 3
  let x141 := ishr .u64 x58 7
  let x142 := iland .u64 x141 1
  let x143 := x142 == 1
  let x148 := x60 == 1
  let x149 := bif x148 then x143 else x47
  let x159 := x59 == 4
  let x168 := x59 == 5
  let x169 := iland .u64 x58 4294967295
  let x170 := decide (x169 ≥ 1)
  let x171 := decide (x169 ≤ 8)
  let x172 := x170 && x171
  let x175 := [x3, x9, x15, x21, x27, x33, x39, x45, x51].getD (Int.toNat x169) false
  let x176 := x172 && x175
  let x181 := [x4, x10, x16, x22, x28, x34, x40, x46, x52].getD (Int.toNat x169) false
  let x182 := [x5, x11, x17, x23, x29, x35, x41, x47, x53].getD (Int.toNat x169) false
  let x183 := [x181, x182].getD (Int.toNat x60) false
  let x184 := x176 && x183
  let x187 := x169 == 0
  let x188 := bif x187 then false else x3
  let x189 := x169 == 1
  let x190 := bif x189 then false else x9
  let x191 := x169 == 2
  let x192 := bif x191 then false else x15
  let x193 := x169 == 3
  let x194 := bif x193 then false else x21
  let x195 := x169 == 4
  let x196 := bif x195 then false else x27
  let x197 := x169 == 5
  let x198 := bif x197 then false else x33
  let x199 := x169 == 6
  let x200 := bif x199 then false else x39
  let x201 := x169 == 7
  let x202 := bif x201 then false else x45
  let x203 := x169 == 8
  let x204 := bif x203 then false else x51
  let x205 := IntKind.wrap .i64 x169
  let y254 := g13 [.i x0, .b x1, .b x2, .b x188, .b x4, .b x5, .i x6, .b x7, .b x8, .b x190, .b x10, .b x11, .i x12, .b x13, .b x14, .b x192, .b x16, .b x17, .i x18, .b x19, .b x20, .b x194, .b x22, .b x23, .i x24, .b x25, .b x26, .b x196, .b x28, .b x29, .i x30, .b x31, .b x32, .b x198, .b x34, .b x35, .i x36, .b x37, .b x38, .b x200, .b x40, .b x41, .i x42, .b x43, .b x44, .b x202, .b x46, .b x47, .i x48, .b x49, .b x50, .b x204, .b x52, .b x53, .i x54, .i x55, .i x205]
  let x254 := (dget y254 48).toB
  let x263 := !x61
  let x320 := bif x184 then x254 else x47
  let x376 := bif x168 then x320 else x47
  let x432 := bif x159 then x47 else x376
  let x488 := bif x86 then x149 else x432
  let x544 := bif x62 then x47 else x488
  let x600 := bif x263 then x544 else x47
  x600
noncomputable def r7_49 (x0 : Int) (x1 : Bool) (x2 : Bool) (x3 : Bool) (x4 : Bool) (x5 : Bool) (x6 : Int) (x7 : Bool) (x8 : Bool) (x9 : Bool) (x10 : Bool) (x11 : Bool) (x12 : Int) (x13 : Bool) (x14 : Bool) (x15 : Bool) (x16 : Bool) (x17 : Bool) (x18 : Int) (x19 : Bool) (x20 : Bool) (x21 : Bool) (x22 : Bool) (x23 : Bool) (x24 : Int) (x25 : Bool) (x26 : Bool) (x27 : Bool) (x28 : Bool) (x29 : Bool) (x30 : Int) (x31 : Bool) (x32 : Bool) (x33 : Bool) (x34 : Bool) (x35 : Bool) (x36 : Int) (x37 : Bool) (x38 : Bool) (x39 : Bool) (x40 : Bool) (x41 : Bool) (x42 : Int) (x43 : Bool) (x44 : Bool) (x45 : Bool) (x46 : Bool) (x47 : Bool) (x48 : Int) (x49 : Bool) (x50 : Bool) (x51 : Bool) (x52 : Bool) (x53 : Bool) (x54 : Int) (x55 : Int) (x56 : Int) (x57 : Int) (x58 : Int) : Int :=
  let x59 := r12_0 x56 x57
  let x60 := r12_1 x56 x57
  let x61 := x59 == 0
  let x62 := x59 == 1
  let x63 := decide (x60 > 0)
  let x64 := iland .u64 x58 7
  let x65 := IntKind.wrap .i64 x64
  let x84 := x60 == 8
  let x85 := bif x84 then x65 else x48
  let x86 := x59 == 3
  let x159 := x59 == 4
  let x168 := x59 == 5
  let x169 := iland .u64 x58 4294967295
  let x170 := decide (x169 ≥ 1)
  let x171 := decide (x169 ≤ 8)
  let x172 := x170 && x171
  let x175 := [x3, x9, x15, x21, x27, x33, x39, x45, x51].getD (Int.toNat x169) false
  let x176 := x172 && x175
  let x181 := [x4, x10, x16, x22, x28, x34, x40, x46, x52].getD (Int.toNat x169) false
  let x182 := [x5, x11, x17, x23, x29, x35, x41, x47, x53].getD (Int.toNat x169) false
  let x183 := [x181, x182].getD (Int.toNat x60) false
  let x184 := x176 && x183
  let x187 := x169 == 0
  let x188 := bif x187 then false else x3
  let x189 := x169 == 1
  let x190 := bif x189 then false else x9
  let x191 := x169 == 2
  let x192 := bif x191 then false else x15
  let x193 := x169 == 3
  let x194 := bif x193 then false else x21
  let x195 := x169 == 4
  let x196 := bif x195 then false else x27
  let x197 := x169 == 5
  let x198 := bif x197 then false else x33
  let x199 := x169 == 6
  let x200 := bif x199 then false else x39
  let x201 := x169 == 7
  let x202 := bif x201 then false else x45
  let x203 := x169 == 8
  let x204 := bif x203 then false else x51
  let x205 := IntKind.wrap .i64 x169
  let y255 := g13 [.i x0, .b x1, .b x2, .b x188, .b x4, .b x5, .i x6, .b x7, .b x8, .b x190, .b x10, .b x11, .i x12, .b x13, .b x14, .b x192, .b x16, .b x17, .i x18, .b x19, .b x20, .b x194, .b x22, .b x23, .i x24, .b x25, .b x26, .b x196, .b x28, .b x29, .i x30, .b x31, .b x32, .b x198, .b x34, .b x35, .i x36, .b x37, .b x38, .b x200, .b x40, .b x41, .i x42, .b x43, .b x44, .b x202, .b x46, .b x47, .i x48, .b x49, .b x50, .b x204, .b x52, .b x53, .i x54, .i x55, .i x205]
  let x255 := (dget y255 49).toI
  let x263 := !x61
  let x272 := bif x63 then x85 else x48
  let x321 := bif x184 then x255 else x48
  let x377 := bif x168 then x321 else x48
  let x433 := bif x159 then x48 else x377
  let x489 := bif x86 then x48 else x433
  let x545 := bif x62 then x272 else x489
  let x601 := bif x263 then x545 else x48
  x601
noncomputable def r7_50 (x0 : Int) (x1 : Bool) (x2 : Bool) (x3 : Bool) (x4 : Bool) (x5 : Bool) (x6 : Int) (x7 : Bool) (x8 : Bool) (x9 : Bool) (x10 : Bool) (x11 : Bool) (x12 : Int) (x13 : Bool) (x14 : Bool) (x15 : Bool) (x16 : Bool) (x17 : Bool) (x18 : Int) (x19 : Bool) (x20 : Bool) (x21 : Bool) (x22 : Bool) (x23 : Bool) (x24 : Int) (x25 : Bool) (x26 : Bool) (x27 : Bool) (x28 : Bool) (x29 : Bool) (x30 : Int) (x31 : Bool) (x32 : Bool) (x33 : Bool) (x34 : Bool) (x35 : Bool) (x36 : Int) (x37 : Bool) (x38 : Bool) (x39 : Bool) (x40 : Bool) (x41 : Bool) (x42 : Int) (x43 : Bool) (x44 : Bool) (x45 : Bool) (x46 : Bool) (x47 : Bool) (x48 : Int) (x49 : Bool) (x50 : Bool) (x51 : Bool) (x52 : Bool) (x53 : Bool) (x54 : Int) (x55 : Int) (x56 : Int) (x57 : Int) (x58 : Int) : Bool :=
  let x59 := r12_0 x56 x57
  let x60 := r12_1 x56 x57
  let x61 := x59 == 0
  let x62 := x59 == 1
  let x86 := x59 == 3
  let x159 := x59 == 4
  let x168 := x59 == 5
  let x169 := iland .u64 x58 4294967295
  let x170 := decide (x169 ≥ 1)
  let x171 := decide (x169 ≤ 8)
  let x172 := x170 && x171
  let x175 := [x3, x9, x15, x21, x27, x33, x39, x45, x51].getD (Int.toNat x169) false
  let x176 := x172 && x175
  let x181 := [x4, x10, x16, x22, x28, x34, x40, x46, x52].getD (Int.toNat x169) false
  let x182 := [x5, x11, x17, x23, x29, x35, x41, x47, x53].getD (Int.toNat x169) false
  let x183 := [x181, x182].getD (Int.toNat x60) false
  let x184 := x176 && x183
  let x187 := x169 == 0
  let x188 := bif x187 then false else x3
  let x189 := x169 == 1
  let x190 := bif x189 then false else x9
  let x191 := x169 == 2
  let x192 := bif x191 then false else x15
  let x193 := x169 == 3
  let x194 := bif x193 then false else x21
  let x195 := x169 == 4
  let x196 := bif x195 then false else x27
  let x197 := x169 == 5
  let x198 := bif x197 then false else x33
  let x199 := x169 == 6
  let x200 := bif x199 then false else x39
  let x201 := x169 == 7
  let x202 := bif x201 then false else x45
  let x203 := x169 == 8
  let x204 := bif x203 then false else x51
  let x205 := IntKind.wrap .i64 x169
  let y256 := g13 [.i x0, .b x1, .b x2, .b x188, .b x4, .b x5, .i x6, .b x7, .b x8, .b x190, .b x10, .b x11, .i x12, .b x13, .b x14, .b x192, .b x16, .b x17, .i x18, .b x19, .b x20, .b x194, .b x22, .b x23, .i x24, .b x25, .b x26, .b x196, .b x28, .b x29, .i x30, .b x31, .b x32, .b x198, .b x34, .b x35, .i x36, .b x37, .b x38, .b x200, .b x40, .b x41, .i x42, .b x43, .b x44, .b x202, .b x46, .b x47, .i x48, .b x49, .b x50, .b x204, .b x52, .b x53, .i x54, .i x55, .i x205]
  let x256 := (dget y256 50).toB
  let x263 := !x61
  let x322 := bif x184 then x256 else x49
  let x378 := bif x168 then x322 else x49
  let x434 := bif x159 then x49 else x378
  let x490 := bif x86 then x49 else x434
  let x546 := bif x62 then x49 else x490
  let x602 := bif x263 then x546 else x49
  x602
noncomputable def r7_51 (x0 : Int) (x1 : Bool) (x2 : Bool) (x3 : Bool) (x4 : Bool) (x5 : Bool) (x6 : Int) (x7 : Bool) (x8 : Bool) (x9 : Bool) (x10 : Bool) (x11 : Bool) (x12 : Int) (x13 : Bool) (x14 : Bool) (x15 : Bool) (x16 : Bool) (x17 : Bool) (x18 : Int) (x19 : Bool) (x20 : Bool) (x21 : Bool) (x22 : Bool) (x23 : Bool) (x24 : Int) (x25 : Bool) (x26 : Bool) (x27 : Bool) (x28 : Bool) (x29 : Bool) (x30 : Int) (x31 : Bool) (x32 : Bool) (x33 : Bool) (x34 : Bool) (x35 : Bool) (x36 : Int) (x37 : Bool) (x38 : Bool) (x39 : Bool) (x40 : Bool) (x41 : Bool) (x42 : Int) (x43 : Bool) (x44 : Bool) (x45 : Bool) (x46 : Bool) (x47 : Bool) (x48 : Int) (x49 : Bool) (x50 : Bool) (x51 : Bool) (x52 : Bool) (x53 : Bool) (x54 : Int) (x55 : Int) (x56 : Int) (x57 : Int) (x58 : Int) : Bool :=
  let x59 := r12_0 x56 x57
  let x60 := r12_1 x56 x57
  let x61 := x59 == 0
  let x62 := x59 == 1
  let x86 := x59 == 3
  let x159 := x59 == 4
  let x168 := x59 == 5
  let x169 := iland .u64 x58 4294967295
  let x170 := decide (x169 ≥ 1)
  let x171 := decide (x169 ≤ 8)
  let x172 := x170 && x171
  let x175 := [x3, x9, x15, x21, x27, x33, x39, x45, x51].getD (Int.toNat x169) false
  let x176 := x172 && x175
  let x181 := [x4, x10, x16, x22, x28, x34, x40, x46, x52].getD (Int.toNat x169) false
  let x182 := [x5, x11, x17, x23, x29, x35, x41, x47, x53].getD (Int.toNat x169) false
  let x183 := [x181, x182].getD (Int.toNat x60) false
  let x184 := x176 && x183
  let x187 := x169 == 0
  let x188 := bif x187 then false else x3
  let x189 := x169 == 1
  let x190 := bif x189 then false else x9
  let x191 := x169 == 2
  let x192 := bif x191 then false else x15
  let x193 := x169 == 3
  let x194 := bif x193 then false else x21
  let x195 := x169 == 4
  let x196 := bif x195 then false else x27
  let x197 := x169 == 5
  let x198 := bif x197 then false else x33
  let x199 := x169 == 6
  let x200 := bif x199 then false else x39
  let x201 := x169 == 7
  let x202 := bif x201 then false else x45
  let x203 := x169 == 8
  let x204 := bif x203 then false else x51
  let x205 := IntKind.wrap .i64 x169
  let y257 := g13 [.i x0, .b x1, .b x2, .b x188, .b x4, .b x5, .i x6, .b x7, .b x8, .b x190, .b x10, .b x11, .i x12, .b x13, .b x14, .b x192, .b x16, .b x17, .i x18, .b x19, .b x20, .b x194, .b x22, .b x23, .i x24, .b x25, .b x26, .b x196, .b x28, .b x29, .i x30, .b x31, .b x32, .b x198, .b x34, .b x35, .i x36, .b x37, .b x38, .b x200, .b x40, .b x41, .i x42, .b x43, .b x44, .b x202, .b x46, .b x47, .i x48, .b x49, .b x50, .b x204, .b x52, .b x53, .i x54, .i x55, .i x205]
  let x257 := (dget y257 51).toB
  let x263 := !x61
  let x323 := bif x184 then x257 else x50
  let x379 := bif x168 then x323 else x50
  let x435 := bif x159 then x50 else x379
  let x491 := bif x86 then x50 else x435
  let x547 := bif x62 then x50 else x491
  let x603 := bif x263 then x547 else x50
  x603
noncomputable def r7_52 (x0 : Int) (x1 : Bool) (x2 : Bool) (x3 : Bool) (x4 : Bool) (x5 : Bool) (x6 : Int) (x7 : Bool) (x8 : Bool) (x9 : Bool) (x10 : Bool) (x11 : Bool) (x12 : Int) (x13 : Bool) (x14 : Bool) (x15 : Bool) (x16 : Bool) (x17 : Bool) (x18 : Int) (x19 : Bool) (x20 : Bool) (x21 : Bool) (x22 : Bool) (x23 : Bool) (x24 : Int) (x25 : Bool) (x26 : Bool) (x27 : Bool) (x28 : Bool) (x29 : Bool) (x30 : Int) (x31 : Bool) (x32 : Bool) (x33 : Bool) (x34 : Bool) (x35 : Bool) (x36 : Int) (x37 : Bool) (x38 : Bool) (x39 : Bool) (x40 : Bool) (x41 : Bool) (x42 : Int) (x43 : Bool) (x44 : Bool) (x45 : Bool) (x46 : Bool) (x47 : Bool) (x48 : Int) (x49 : Bool) (x50 : Bool) (x51 : Bool) (x52 : Bool) (x53 : Bool) (x54 : Int) (x55 : Int) (x56 : Int) (x57 : Int) (x58 : Int) : Bool :=
  let x59 := r12_0 x56 x57
  let x60 := r12_1 x56 x57
  let x61 := x59 == 0
  let x62 := x59 == 1
  let x86 := x59 == 3
  let x159 := x59 == 4
  let x168 := x59 == 5
  let x169 := iland .u64 x58 4294967295
  let x170 := decide (x169 ≥ 1)
  let x171 := decide (x169 ≤ 8)
  let x172 := x170 && x171
  let x175 := [x3, x9, x15, x21, x27, x33, x39, x45, x51].getD (Int.toNat x169) false
  let x176 := x172 && x175
  let x181 := [x4, x10, x16, x22, x28, x34, x40, x46, x52].getD (Int.toNat x169) false
  let x182 := [x5, x11, x17, x23, x29, x35, x41, x47, x53].getD (Int.toNat x169) false
  let x183 := [x181, x182].getD (Int.toNat x60) false
  let x184 := x176 && x183
  let x187 := x169 == 0
  let x188 := bif x187 then false else x3
  let x189 := x169 == 1
  let x190 := bif x189 then false else x9
  let x191 := x169 == 2
  let x192 := bif x191 then false else x15
  let x193 := x169 == 3
  let x194 := bif x193 then false else x21
  let x195 := x169 == 4
  let x196 := bif x195 then false else x27
  let x197 := x169 == 5
  let x198 := bif x197 then false else x33
  let x199 := x169 == 6
  let x200 := bif x199 then false else x39
  let x201 := x169 == 7
  let x202 := bif x201 then false else x45
  let x203 := x169 == 8
  let x204 := bif x203 then false else x51
  let x205 := IntKind.wrap .i64 x169
  let y258 := g13 [.i x0, .b x1, .b x2, .b x188, .b x4, .b x5, .i x6, .b x7, .b x8, .b x190, .b x10, .b x11, .i x12, .b x13, .b x14, .b x192, .b x16, .b x17, .i x18, .b x19, .b x20, .b x194, .b x22, .b x23, .i x24, .b x25, .b x26, .b x196, .b x28, .b x29, .i x30, .b x31, .b x32, .b x198, .b x34, .b x35, .i x36, .b x37, .b x38, .b x200, .b x40, .b x41, .i x42, .b x43, .b x44, .b x202, .b x46, .b x47, .i x48, .b x49, .b x50, .b x204, .b x52, .b x53, .i x54, .i x55, .i x205]
  let x258 := (dget y258 52).toB
  let x263 := !x61
  let x324 := bif x184 then x258 else x51
  let x380 := bif x168 then x324 else x51
  let x436 := bif x159 then x51 else x380
  let x492 := bif x86 then x51 else x436
  let x548 := bif x62 then x51 else x492
  let x604 := bif x263 then x548 else x51
  x604
noncomputable def r7_53 (x0 : Int) (x1 : Bool) (x2 : Bool) (x3 : Bool) (x4 : Bool) (x5 : Bool) (x6 : Int) (x7 : Bool) (x8 : Bool) (x9 : Bool) (x10 : Bool) (x11 : Bool) (x12 : Int) (x13 : Bool) (x14 : Bool) (x15 : Bool) (x16 : Bool) (x17 : Bool) (x18 : Int) (x19 : Bool) (x20 : Bool) (x21 : Bool) (x22 : Bool) (x23 : Bool) (x24 : Int) (x25 : Bool) (x26 : Bool) (x27 : Bool) (x28 : Bool) (x29 : Bool) (x30 : Int) (x31 : Bool) (x32 : Bool) (x33 : Bool) (x34 : Bool) (x35 : Bool) (x36 : Int) (x37 : Bool) (x38 : Bool) (x39 : Bool) (x40 : Bool) (x41 : Bool) (x42 : Int) (x43 : Bool) (x44 : Bool) (x45 : Bool) (x46 : Bool) (x47 : Bool) (x48 : Int) (x49 : Bool) (x50 : Bool) (x51 : Bool) (x52 : Bool) (x53 : Bool) (x54 : Int) (x55 : Int) (x56 : Int) (x57 : Int) (x58 : Int) : Bool :=
  let x59 := r12_0 x56 x57
  let x60 := r12_1 x56 x57
  let x61 := x59 == 0
  let x62 := x59 == 1
  let x86 := x59 == 3
  let x150 := ishr .u64 x58 8
  let x151 := iland .u64 x150 1
  let x152 := x151 == 1
  let x155 := x60 == 0
  let x156 := bif x155 then x152 else x52
  let x159 := x59 == 4
  let x168 := x59 == 5
  let x169 := iland .u64 x58 4294967295
  let x170 := decide (x169 ≥ 1)
  let x171 := decide (x169 ≤ 8)
  let x172 := x170 && x171
  let x175 := [x3, x9, x15, x21, x27, x33, x39, x45, x51].getD (Int.toNat x169) false
  let x176 := x172 && x175
  let x181 := [x4, x10, x16, x22, x28, x34, x40, x46, x52].getD (Int.toNat x169) false
  let x182 := [x5, x11, x17, x23, x29, x35, x41, x47, x53].getD (Int.toNat x169) false
  let x183 := [x181, x182].getD (Int.toNat x60) false
  let x184 := x176 && x183
  let x187 := x169 == 0
  let x188 := bif x187 then false else x3
  let x189 := x169 == 1
  let x190 := bif x189 then false else x9
  let x191 := x169 == 2
  let x192 := bif x191 then false else x15
  let x193 := x169 == 3
  let x194 := bif x193 then false else x21
  let x195 := x169 == 4
  let x196 := bif x195 then false else x27
  let x197 := x169 == 5
  let x198 := bif x197 then false else x33
  let x199 := x169 == 6
  let x200 := bif x199 then false else x39
  let x201 := x169 == 7
  let x202 := bif x201 then false else x45
  let x203 := x169 == 8
  let x204 := bif x203 then false else x51
  let x205 := IntKind.wrap .i64 x169
  let y259 := g13 [.i x0, .b x1, .b x2, .b x188, .b x4, .b x5, .i x6, .b x7, .b x8, .b x190, .b x10, .b x11, .i x12, .b x13, .b x14, .b x192, .b x16, .b x17, .i x18, .b x19, .b x20, .b x194, .b x22, .b x23, .i x24, .b x25, .b x26, .b x196, .b x28, .b x29, .i x30, .b x31, .b x32, .b x198, .b x34, .b x35, .i x36, .b x37, .b x38, .b x200, .b x40, .b x41, .i x42, .b x43, .b x44, .b x202, .b x46, .b x47, .i x48, .b x49, .b x50, .b x204, .b x52, .b x53, .i x54, .i x55, .i x205]
  let x259 := (dget y259 53).toB
  let x263 := !x61
  let x325 := bif x184 then x259 else x52
  let x381 := bif x168 then x325 else x52
  let x437 := bif x159 then x52 else x381
  let x493 := bif x86 then x156 else x437
  let x549 := bif x62 then x52 else x493
  let x605 := bif x263 then x549 else x52
  x605
noncomputable def r7_54 (x0 : Int) (x1 : Bool) (x2 : Bool) (x3 : Bool) (x4 : Bool) (x5 : Bool) (x6 : Int) (x7 : Bool) (x8 : Bool) (x9 : Bool) (x10 : Bool) (x11 : Bool) (x12 : Int) (x13 : Bool) (x14 : Bool) (x15 : Bool) (x16 : Bool) (x17 : Bool) (x18 : Int) (x19 : Bool) (x20 : Bool) (x21 : Bool) (x22 : Bool) (x23 : Bool) (x24 : Int) (x25 : Bool) (x26 : Bool) (x27 : Bool) (x28 : Bool) (x29 : Bool) (x30 : Int) (x31 : Bool) (x32 : Bool) (x33 : Bool) (x34 : Bool) (x35 : Bool) (x36 : Int) (x37 : Bool) (x38 : Bool) (x39 : Bool) (x40 : Bool) (x41 : Bool) (x42 : Int) (x43 : Bool) (x44 : Bool) (x45 : Bool) (x46 : Bool) (x47 : Bool) (x48 : Int) (x49 : Bool) (x50 : Bool) (x51 : Bool) (x52 : Bool) (x53 : Bool) (x54 : Int) (x55 : Int) (x56 : Int) (x57 : Int) (x58 : Int) : Bool :=
  let x59 := r12_0 x56 x57
  let x60 := r12_1 x56 x57
  let x61 := x59 == 0
  let x62 := x59 == 1
  let x86 := x59 == 3
  let x150 := ishr .u64 x58 8
  let x151 := iland .u64 x150 1
  let x152 := x151 == 1
  let x157 := x60 == 1
  let x158 := bif x157 then x152 else x53
  let x159 := x59 == 4
  let x168 := x59 == 5
  let x169 := iland .u64 x58 4294967295
  let x170 := decide (x169 ≥ 1)
  let x171 := decide (x169 ≤ 8)
  let x172 := x170 && x171
  let x175 := [x3, x9, x15, x21, x27, x33, x39, x45, x51].getD (Int.toNat x169) false
  let x176 := x172 && x175
  let x181 := [x4, x10, x16, x22, x28, x34, x40, x46, x52].getD (Int.toNat x169) false
  let x182 := [x5, x11, x17, x23, x29, x35, x41, x47, x53].getD (Int.toNat x169) false
  let x183 := [x181, x182].getD (Int.toNat x60) false
  let x184 := x176 && x183
  let x187 := x169 == 0
  let x188 := bif x187 then false else x3
  let x189 := x169 == 1
  let x190 := bif x189 then false else x9
  let x191 := x169 == 2
  let x192 := bif x191 then false else x15
  let x193 := x169 == 3
  let x194 := bif x193 then false else x21
  let x195 := x169 == 4
  let x196 := bif x195 then false else x27
  let x197 := x169 == 5
  let x198 := bif x197 then false else x33
  let x199 := x169 == 6
  let x200 := bif x199 then false else x39
  let x201 := x169 == 7
  let x202 := bif x201 then false else x45
  let x203 := x169 == 8
  let x204 := bif x203 then false else x51
  let x205 := IntKind.wrap .i64 x169
  let y260 := g13 [.i x0, .b x1, .b x2, .b x188, .b x4, .b x5, .i x6, .b x7, .b x8, .b x190, .b x10, .b x11, .i x12, .b x13, .b x14, .b x192, .b x16, .b x17, .i x18, .b x19, .b x20, .b x194, .b x22, .b x23, .i x24, .b x25, .b x26, .b x196, .b x28, .b x29, .i x30, .b x31, .b x32, .b x198, .b x34, .b x35, .i x36, .b x37, .b x38, .b x200, .b x40, .b x41, .i x42, .b x43, .b x44, .b x202, .b x46, .b x47, .i x48, .b x49, .b x50, .b x204, .b x52, .b x53, .i x54, .i x55, .i x205]
  let x260 := (dget y260 54).toB
  let x263 := !x61
  let x326 := bif x184 then x260 else x53
  let x382 := bif x168 then x326 else x53
  let x438 := bif x159 then x53 else x382
  let x494 := bif x86 then x158 else x438
  let x550 := bif x62 then x53 else x494
  let x606 := bif x263 then x550 else x53
  x606
noncomputable def r7_55 (x0 : Int) (x1 : Bool) (x2 : Bool) (x3 : Bool) (x4 : Bool) (x5 : Bool) (x6 : Int) (x7 : Bool) (x8 : Bool) (x9 : Bool) (x10 : Bool) (x11 : Bool) (x12 : Int) (x13 : Bool) (x14 : Bool) (x15 : Bool) (x16 : Bool) (x17 : Bool) (x18 : Int) (x19 : Bool) (x20 : Bool) (x21 : Bool) (x22 : Bool) (x23 : Bool) (x24 : Int) (x25 : Bool) (x26 : Bool) (x27 : Bool) (x28 : Bool) (x29 : Bool) (x30 : Int) (x31 : Bool) (x32 : Bool) (x33 : Bool) (x34 : Bool) (x35 : Bool) (x36 : Int) (x37 : Bool) (x38 : Bool) (x39 : Bool) (x40 : Bool) (x41 : Bool) (x42 : Int) (x43 : Bool) (x44 : Bool) (x45 : Bool) (x46 : Bool) (x47 : Bool) (x48 : Int) (x49 : Bool) (x50 : Bool) (x51 : Bool) (x52 : Bool) (x53 : Bool) (x54 : Int) (x55 : Int) (x56 : Int) (x57 : Int) (x58 : Int) : Int :=
  let x59 := r12_0 x56 x57
  let x60 := r12_1 x56 x57
  let x61 := x59 == 0
  let x62 := x59 == 1
  let x86 := x59 == 3
  let x159 := x59 == 4
  let x160 := iland .u64 x58 7
  let x161 := IntKind.wrap .i64 x160
  let x164 := x60 == 0
  let x165 := bif x164 then x161 else x54
  let x168 := x59 == 5
  let x169 := iland .u64 x58 4294967295
  let x170 := decide (x169 ≥ 1)
  let x171 := decide (x169 ≤ 8)
  let x172 := x170 && x171
  let x175 := [x3, x9, x15, x21, x27, x33, x39, x45, x51].getD (Int.toNat x169) false
  let x176 := x172 && x175
  let x181 := [x4, x10, x16, x22, x28, x34, x40, x46, x52].getD (Int.toNat x169) false
  let x182 := [x5, x11, x17, x23, x29, x35, x41, x47, x53].getD (Int.toNat x169) false
  let x183 := [x181, x182].getD (Int.toNat x60) false
  let x184 := x176 && x183
  let x187 := x169 == 0
  let x188 := bif x187 then false else x3
  let x189 := x169 == 1
  let x190 := bif x189 then false else x9
  let x191 := x169 == 2
  let x192 := bif x191 then false else x15
  let x193 := x169 == 3
  let x194 := bif x193 then false else x21
  let x195 := x169 == 4
  let x196 := bif x195 then false else x27
  let x197 := x169 == 5
  let x198 := bif x197 then false else x33
  let x199 := x169 == 6
  let x200 := bif x199 then false else x39
  let x201 := x169 == 7
  let x202 := bif x201 then false else x45
  let x203 := x169 == 8
  let x204 := bif x203 then false else x51
  let x205 := IntKind.wrap .i64 x169
  let y261 := g13 [.i x0, .b x1, .b x2, .b x188, .b x4, .b x5, .i x6, .b x7, .b x8, .b x190, .b x10, .b x11, .i x12, .b x13, .b x14, .b x192, .b x16, .b x17, .i x18, .b x19, .b x20, .b x194, .b x22, .b x23, .i x24, .b x25, .b x26, .b x196, .b x28, .b x29, .i x30, .b x31, .b x32, .b x198, .b x34, .b x35, .i x36, .b x37, .b x38, .b x200, .b x40, .b x41, .i x42, .b x43, .b x44, .b x202, .b x46, .b x47, .i x48, .b x49, .b x50, .b x204, .b x52, .b x53, .i x54, .i x55, .i x205]
  let x261 := (dget y261 55).toI
  let x263 := !x61
  let x327 := bif x184 then x261 else x54
  let x383 := bif x168 then x327 else x54
  let x439 := bif x159 then x165 else x383
  let x495 := bif x86 then x54 else x439
  let x551 := bif x62 then x54 else x495
  let x607 := bif x263 then x551 else x54
  x607
noncomputable def r7_56 (x0 : Int) (x1 : Bool) (x2 : Bool) (x3 : Bool) (x4 : Bool) (x5 : Bool) (x6 : Int) (x7 : Bool) (x8 : Bool) (x9 : Bool) (x10 : Bool) (x11 : Bool) (x12 : Int) (x13 : Bool) (x14 : Bool) (x15 : Bool) (x16 : Bool) (x17 : Bool) (x18 : Int) (x19 : Bool) (x20 : Bool) (x21 : Bool) (x22 : Bool) (x23 : Bool) (x24 : Int) (x25 : Bool) (x26 : Bool) (x27 : Bool) (x28 : Bool) (x29 : Bool) (x30 : Int) (x31 : Bool) (x32 : Bool) (x33 : Bool) (x34 : Bool) (x35 : Bool) (x36 : Int) (x37 : Bool) (x38 : Bool) (x39 : Bool) (x40 : Bool) (x41 : Bool) (x42 : Int) (x43 : Bool) (x44 : Bool) (x45 : Bool) (x46 : Bool) (x47 : Bool) (x48 : Int) (x49 : Bool) (x50 : Bool) (x51 : Bool) (x52 : Bool) (x53 : Bool) (x54 : Int) (x55 : Int) (x56 : Int) (x57 : Int) (x58 : Int) : Int :=
  let x59 := r12_0 x56 x57
  let x60 := r12_1 x56 x57
  let x61 := x59 == 0
  let x62 := x59 == 1
  let x86 := x59 == 3
  let x159 := x59 == 4
  let x160 := iland .u64 x58 7
  let x161 := IntKind.wrap .i64 x160
  let x166 := x60 == 1
  let x167 := bif x166 then x161 else x55
  let x168 := x59 == 5
  let x169 := iland .u64 x58 4294967295
  let x170 := decide (x169 ≥ 1)
  let x171 := decide (x169 ≤ 8)
  let x172 := x170 && x171
  let x175 := [x3, x9, x15, x21, x27, x33, x39, x45, x51].getD (Int.toNat x169) false
  let x176 := x172 && x175
  let x181 := [x4, x10, x16, x22, x28, x34, x40, x46, x52].getD (Int.toNat x169) false
  let x182 := [x5, x11, x17, x23, x29, x35, x41, x47, x53].getD (Int.toNat x169) false
  let x183 := [x181, x182].getD (Int.toNat x60) false
  let x184 := x176 && x183
  let x187 := x169 == 0
  let x188 := bif x187 then false else x3
  let x189 := x169 == 1
  let x190 := bif x189 then false else x9
  let x191 := x169 == 2
  let x192 := bif x191 then false else x15
  let x193 := x169 == 3
  let x194 := bif x193 then false else x21
  let x195 := x169 == 4
  let x196 := bif x195 then false else x27
  let x197 := x169 == 5
  let x198 := bif x197 then false else x33
  let x199 := x169 == 6
  let x200 := bif x199 then false else x39
  let x201 := x169 == 7
  let x202 := bif x201 then false else x45
  let x203 := x169 == 8
  let x204 := bif x203 then false else x51
  let x205 := IntKind.wrap .i64 x169
  let y262 := g13 [.i x0, .b x1, .b x2, .b x188, .b x4, .b x5, .i x6, .b x7, .b x8, .b x190, .b x10, .b x11, .i x12, .b x13, .b x14, .b x192, .b x16, .b x17, .i x18, .b x19, .b x20, .b x194, .b x22, .b x23, .i x24, .b x25, .b x26, .b x196, .b x28, .b x29, .i x30, .b x31, .b x32, .b x198, .b x34, .b x35, .i x36, .b x37, .b x38, .b x200, .b x40, .b x41, .i x42, .b x43, .b x44, .b x202, .b x46, .b x47, .i x48, .b x49, .b x50, .b x204, .b x52, .b x53, .i x54, .i x55, .i x205]
  let x262 := (dget y262 56).toI
  let x263 := !x61
  let x328 := bif x184 then x262 else x55
  let x384 := bif x168 then x328 else x55
  let x440 := bif x159 then x167 else x384
  let x496 := bif x86 then x55 else x440
  let x552 := bif x62 then x55 else x496
  let x608 := bif x263 then x552 else x55
  x608
noncomputable def g7 (ds : List DV) : List DV := [.b (p7 (dget ds 0).toI (dget ds 1).toB (dget ds 2).toB (dget ds 3).toB (dget ds 4).toB (dget ds 5).toB (dget ds 6).toI (dget ds 7).toB (dget ds 8).toB (dget ds 9).toB (dget ds 10).toB (dget ds 11).toB (dget ds 12).toI (dget ds 13).toB (dget ds 14).toB (dget ds 15).toB (dget ds 16).toB (dget ds 17).toB (dget ds 18).toI (dget ds 19).toB (dget ds 20).toB (dget ds 21).toB (dget ds 22).toB (dget ds 23).toB (dget ds 24).toI (dget ds 25).toB (dget ds 26).toB (dget ds 27).toB (dget ds 28).toB (dget ds 29).toB (dget ds 30).toI (dget ds 31).toB (dget ds 32).toB (dget ds 33).toB (dget ds 34).toB (dget ds 35).toB (dget ds 36).toI (dget ds 37).toB (dget ds 38).toB (dget ds 39).toB (dget ds 40).toB (dget ds 41).toB (dget ds 42).toI (dget ds 43).toB (dget ds 44).toB (dget ds 45).toB (dget ds 46).toB (dget ds 47).toB (dget ds 48).toI (dget ds 49).toB (dget ds 50).toB (dget ds 51).toB (dget ds 52).toB (dget ds 53).toB (dget ds 54).toI (dget ds 55).toI (dget ds 56).toI (dget ds 57).toI (dget ds 58).toI), .b (r7_0 (dget ds 56).toI (dget ds 57).toI), .i (r7_1 (dget ds 0).toI (dget ds 1).toB (dget ds 2).toB (dget ds 3).toB (dget ds 4).toB (dget ds 5).toB (dget ds 6).toI (dget ds 7).toB (dget ds 8).toB (dget ds 9).toB (dget ds 10).toB (dget ds 11).toB (dget ds 12).toI (dget ds 13).toB (dget ds 14).toB (dget ds 15).toB (dget ds 16).toB (dget ds 17).toB (dget ds 18).toI (dget ds 19).toB (dget ds 20).toB (dget ds 21).toB (dget ds 22).toB (dget ds 23).toB (dget ds 24).toI (dget ds 25).toB (dget ds 26).toB (dget ds 27).toB (dget ds 28).toB (dget ds 29).toB (dget ds 30).toI (dget ds 31).toB (dget ds 32).toB (dget ds 33).toB (dget ds 34).toB (dget ds 35).toB (dget ds 36).toI (dget ds 37).toB (dget ds 38).toB (dget ds 39).toB (dget ds 40).toB (dget ds 41).toB (dget ds 42).toI (dget ds 43).toB (dget ds 44).toB (dget ds 45).toB (dget ds 46).toB (dget ds 47).toB (dget ds 48).toI (dget ds 49).toB (dget ds 50).toB (dget ds 51).toB (dget ds 52).toB (dget ds 53).toB (dget ds 54).toI (dget ds 55).toI (dget ds 56).toI (dget ds 57).toI (dget ds 58).toI), .b (r7_2 (dget ds 0).toI (dget ds 1).toB (dget ds 2).toB (dget ds 3).toB (dget ds 4).toB (dget ds 5).toB (dget ds 6).toI (dget ds 7).toB (dget ds 8).toB (dget ds 9).toB (dget ds 10).toB (dget ds 11).toB (dget ds 12).toI (dget ds 13).toB (dget ds 14).toB (dget ds 15).toB (dget ds 16).toB (dget ds 17).toB (dget ds 18).toI (dget ds 19).toB (dget ds 20).toB (dget ds 21).toB (dget ds 22).toB (dget ds 23).toB (dget ds 24).toI (dget ds 25).toB (dget ds 26).toB (dget ds 27).toB (dget ds 28).toB (dget ds 29).toB (dget ds 30).toI (dget ds 31).toB (dget ds 32).toB (dget ds 33).toB (dget ds 34).toB (dget ds 35).toB (dget ds 36).toI (dget ds 37).toB (dget ds 38).toB (dget ds 39).toB (dget ds 40).toB (dget ds 41).toB (dget ds 42).toI (dget ds 43).toB (dget ds 44).toB (dget ds 45).toB (dget ds 46).toB (dget ds 47).toB (dget ds 48).toI (dget ds 49).toB (dget ds 50).toB (dget ds 51).toB (dget ds 52).toB (dget ds 53).toB (dget ds 54).toI (dget ds 55).toI (dget ds 56).toI (dget ds 57).toI (dget ds 58).toI), .b (r7_3 (dget ds 0).toI (dget ds 1).toB (dget ds 2).toB (dget ds 3).toB (dget ds 4).toB (dget ds 5).toB (dget ds 6).toI (dget ds 7).toB (dget ds 8).toB (dget ds 9).toB (dget ds 10).toB (dget ds 11).toB (dget ds 12).toI (dget ds 13).toB (dget ds 14).toB (dget ds 15).toB (dget ds 16).toB (dget ds 17).toB (dget ds 18).toI (dget ds 19).toB (dget ds 20).toB (dget ds 21).toB (dget ds 22).toB (dget ds 23).toB (dget ds 24).toI (dget ds 25).toB (dget ds 26).toB (dget ds 27).toB (dget ds 28).toB (dget ds 29).toB (dget ds 30).toI (dget ds 31).toB (dget ds 32).toB (dget ds 33).toB (dget ds 34).toB (dget ds 35).toB (dget ds 36).toI (dget ds 37).toB (dget ds 38).toB (dget ds 39).toB (dget ds 40).toB (dget ds 41).toB (dget ds 42).toI (dget ds 43).toB (dget ds 44).toB (dget ds 45).toB (dget ds 46).toB (dget ds 47).toB (dget ds 48).toI (dget ds 49).toB (dget ds 50).toB (dget ds 51).toB (dget ds 52).toB (dget ds 53).toB (dget ds 54).toI (dget ds 55).toI (dget ds 56).toI (dget ds 57).toI (dget ds 58).toI), .b (r7_4 (dget ds 0).toI (dget ds 1).toB (dget ds 2).toB (dget ds 3).toB (dget ds 4).toB (dget ds 5).toB (dget ds 6).toI (dget ds 7).toB (dget ds 8).toB (dget ds 9).toB (dget ds 10).toB (dget ds 11).toB (dget ds 12).toI (dget ds 13).toB (dget ds 14).toB (dget ds 15).toB (dget ds 16).toB (dget ds 17).toB (dget ds 18).toI (dget ds 19).toB (dget ds 20).toB (dget ds 21).toB (dget ds 22).toB (dget ds 23).toB (dget ds 24).toI (dget ds 25).toB (dget ds 26).toB (dget ds 27).toB (dget ds 28).toB (dget ds 29).toB (dget ds 30).toI (dget ds 31).toB (dget ds 32).toB (dget ds 33).toB (dget ds 34).toB (dget ds 35).toB (dget ds 36).toI (dget ds 37).toB (dget ds 38).toB (dget ds 39).toB (dget ds 40).toB (dget ds 41).toB (dget ds 42).toI (dget ds 43).toB (dget ds 44).toB (dget ds 45).toB (dget ds 46).toB (dget ds 47).toB (dget ds 48).toI (dget ds 49).toB (dget ds 50).toB (dget ds 51).toB (dget ds 52).toB (dget ds 53).toB (dget ds 54).toI (dget ds 55).toI (dget ds 56).toI (dget ds 57).toI (dget ds 58).toI), .b (r7_5 (dget ds 0).toI (dget ds 1).toB (dget ds 2).toB (dget ds 3).toB (dget ds 4).toB (dget ds 5).toB (dget ds 6).toI (dget ds 7).toB (dget ds 8).toB (dget ds 9).toB (dget ds 10).toB (dget ds 11).toB (dget ds 12).toI (dget ds 13).toB (dget ds 14).toB (dget ds 15).toB (dget ds 16).toB (dget ds 17).toB (dget ds 18).toI (dget ds 19).toB (dget ds 20).toB (dget ds 21).toB (dget ds 22).toB (dget ds 23).toB (dget ds 24).toI (dget ds 25).toB (dget ds 26).toB (dget ds 27).toB (dget ds 28).toB (dget ds 29).toB (dget ds 30).toI (dget ds 31).toB (dget ds 32).toB (dget ds 33).toB (dget ds 34).toB (dget ds 35).toB (dget ds 36).toI (dget ds 37).toB (dget ds 38).toB (dget ds 39).toB (dget ds 40).toB (dget ds 41).toB (dget ds 42).toI (dget ds 43).toB (dget ds 44).toB (dget ds 45).toB (dget ds 46).toB (dget ds 47).toB (dget ds 48).toI (dget ds 49).toB (dget ds 50).toB (dget ds 51).toB (dget ds 52).toB (dget ds 53).toB (dget ds 54).toI (dget ds 55).toI (dget ds 56).toI (dget ds 57).toI (dget ds 58).toI), .b (r7_6 (dget ds 0).toI (dget ds 1).toB (dget ds 2).toB (dget ds 3).toB (dget ds 4).toB (dget ds 5).toB (dget ds 6).toI (dget ds 7).toB (dget ds 8).toB (dget ds 9).toB (dget ds 10).toB (dget ds 11).toB (dget ds 12).toI (dget ds 13).toB (dget ds 14).toB (dget ds 15).toB (dget ds 16).toB (dget ds 17).toB (dget ds 18).toI (dget ds 19).toB (dget ds 20).toB (dget ds 21).toB (dget ds 22).toB (dget ds 23).toB (dget ds 24).toI (dget ds 25).toB (dget ds 26).toB (dget ds 27).toB (dget ds 28).toB (dget ds 29).toB (dget ds 30).toI (dget ds 31).toB (dget ds 32).toB (dget ds 33).toB (dget ds 34).toB (dget ds 35).toB (dget ds 36).toI (dget ds 37).toB (dget ds 38).toB (dget ds 39).toB (dget ds 40).toB (dget ds 41).toB (dget ds 42).toI (dget ds 43).toB (dget ds 44).toB (dget ds 45).toB (dget ds 46).toB (dget ds 47).toB (dget ds 48).toI (dget ds 49).toB (dget ds 50).toB (dget ds 51).toB (dget ds 52).toB (dget ds 53).toB (dget ds 54).toI (dget ds 55).toI (dget ds 56).toI (dget ds 57).toI (dget ds 58).toI), .i (r7_7 (dget ds 0).toI (dget ds 1).toB (dget ds 2).toB (dget ds 3).toB (dget ds 4).toB (dget ds 5).toB (dget ds 6).toI (dget ds 7).toB (dget ds 8).toB (dget ds 9).toB (dget ds 10).toB (dget ds 11).toB (dget ds 12).toI (dget ds 13).toB (dget ds 14).toB (dget ds 15).toB (dget ds 16).toB (dget ds 17).toB (dget ds 18).toI (dget ds 19).toB (dget ds 20).toB (dget ds 21).toB (dget ds 22).toB (dget ds 23).toB (dget ds 24).toI (dget ds 25).toB (dget ds 26).toB (dget ds 27).toB (dget ds 28).toB (dget ds 29).toB (dget ds 30).toI (dget ds 31).toB (dget ds 32).toB (dget ds 33).toB (dget ds 34).toB (dget ds 35).toB (dget ds 36).toI (dget ds 37).toB (dget ds 38).toB (dget ds 39).toB (dget ds 40).toB (dget ds 41).toB (dget ds 42).toI (dget ds 43).toB (dget ds 44).toB (dget ds 45).toB (dget ds 46).toB (dget ds 47).toB (dget ds 48).toI (dget ds 49).toB (dget ds 50).toB (dget ds 51).toB (dget ds 52).toB (dget ds 53).toB (dget ds 54).toI (dget ds 55).toI (dget ds 56).toI (dget ds 57).toI (dget ds 58).toI), .b (r7_8 (dget ds 0).toI (dget ds 1).toB (dget ds 2).toB (dget ds 3).toB (dget ds 4).toB (dget ds 5).toB (dget ds 6).toI (dget ds 7).toB (dget ds 8).toB (dget ds 9).toB (dget ds 10).toB (dget ds 11).toB (dget ds 12).toI (dget ds 13).toB (dget ds 14).toB (dget ds 15).toB (dget ds 16).toB (dget ds 17).toB (dget ds 18).toI (dget ds 19).toB (dget ds 20).toB (dget ds 21).toB (dget ds 22).toB (dget ds 23).toB (dget ds 24).toI (dget ds 25).toB (dget ds 26).toB (dget ds 27).toB (dget ds 28).toB (dget ds 29).toB (dget ds 30).toI (dget ds 31).toB (dget ds 32).toB (dget ds 33).toB (dget ds 34).toB (dget ds 35).toB (dget ds 36).toI (dget ds 37).toB (dget ds 38).toB (dget ds 39).toB (dget ds 40).toB (dget ds 41).toB (dget ds 42).toI (dget ds 43).toB (dget ds 44).toB (dget ds 45).toB (dget ds 46).toB (dget ds 47).toB (dget ds 48).toI (dget ds 49).toB (dget ds 50).toB (dget ds 51).toB (dget ds 52).toB (dget ds 53).toB (dget ds 54).toI (dget ds 55).toI (dget ds 56).toI (dget ds 57).toI (dget ds 58).toI), .b (r7_9 (dget ds 0).toI (dget ds 1).toB (dget ds 2).toB (dget ds 3).toB (dget ds 4).toB (dget ds 5).toB (dget ds 6).toI (dget ds 7).toB (dget ds 8).toB (dget ds 9).toB (dget ds 10).toB (dget ds 11).toB (dget ds 12).toI (dget ds 13).toB (dget ds 14).toB (dget ds 15).toB (dget ds 16).toB (dget ds 17).toB (dget ds 18).toI (dget ds 19).toB (dget ds 20).toB (dget ds 21).toB (dget ds 22).toB (dget ds 23).toB (dget ds 24).toI (dget ds 25).toB (dget ds 26).toB (dget ds 27).toB (dget ds 28).toB (dget ds 29).toB (dget ds 30).toI (dget ds 31).toB (dget ds 32).toB (dget ds 33).toB (dget ds 34).toB (dget ds 35).toB (dget ds 36).toI (dget ds 37).toB (dget ds 38).toB (dget ds 39).toB (dget ds 40).toB (dget ds 41).toB (dget ds 42).toI (dget ds 43).toB (dget ds 44).toB (dget ds 45).toB (dget ds 46).toB (dget ds 47).toB (dget ds 48).toI (dget ds 49).toB (dget ds 50).toB (dget ds 51).toB (dget ds 52).toB (dget ds 53).toB (dget ds 54).toI (dget ds 55).toI (dget ds 56).toI (dget ds 57).toI (dget ds 58).toI), .b (r7_10 (dget ds 0).toI (dget ds 1).toB (dget ds 2).toB (dget ds 3).toB (dget ds 4).toB (dget ds 5).toB (dget ds 6).toI (dget ds 7).toB (dget ds 8).toB (dget ds 9).toB (dget ds 10).toB (dget ds 11).toB (dget ds 12).toI (dget ds 13).toB (dget ds 14).toB (dget ds 15).toB (dget ds 16).toB (dget ds 17).toB (dget ds 18).toI (dget ds 19).toB (dget ds 20).toB (dget ds 21).toB (dget ds 22).toB (dget ds 23).toB (dget ds 24).toI (dget ds 25).toB (dget ds 26).toB (dget ds 27).toB (dget ds 28).toB (dget ds 29).toB (dget ds 30).toI (dget ds 31).toB (dget ds 32).toB (dget ds 33).toB (dget ds 34).toB (dget ds 35).toB (dget ds 36).toI (dget ds 37).toB (dget ds 38).toB (dget ds 39).toB (dget ds 40).toB (dget ds 41).toB (dget ds 42).toI (dget ds 43).toB (dget ds 44).toB (dget ds 45).toB (dget ds 46).toB (dget ds 47).toB (dget ds 48).toI (dget ds 49).toB (dget ds 50).toB (dget ds 51).toB (dget ds 52).toB (dget ds 53).toB (dget ds 54).toI (dget ds 55).toI (dget ds 56).toI (dget ds 57).toI (dget ds 58).toI), .b (r7_11 (dget ds 0).toI (dget ds 1).toB (dget ds 2).toB (dget ds 3).toB (dget ds 4).toB (dget ds 5).toB (dget ds 6).toI (dget ds 7).toB (dget ds 8).toB (dget ds 9).toB (dget ds 10).toB (dget ds 11).toB (dget ds 12).toI (dget ds 13).toB (dget ds 14).toB (dget ds 15).toB (dget ds 16).toB (dget ds 17).toB (dget ds 18).toI (dget ds 19).toB (dget ds 20).toB (dget ds 21).toB (dget ds 22).toB (dget ds 23).toB (dget ds 24).toI (dget ds 25).toB (dget ds 26).toB (dget ds 27).toB (dget ds 28).toB (dget ds 29).toB (dget ds 30).toI (dget ds 31).toB (dget ds 32).toB (dget ds 33).toB (dget ds 34).toB (dget ds 35).toB (dget ds 36).toI (dget ds 37).toB (dget ds 38).toB (dget ds 39).toB (dget ds 40).toB (dget ds 41).toB (dget ds 42).toI (dget ds 43).toB (dget ds 44).toB (dget ds 45).toB (dget ds 46).toB (dget ds 47).toB (dget ds 48).toI (dget ds 49).toB (dget ds 50).toB (dget ds 51).toB (dget ds 52).toB (dget ds 53).toB (dget ds 54).toI (dget ds 55).toI (dget ds 56).toI (dget ds 57).toI (dget ds 58).toI), .b (r7_12 (dget ds 0).toI (dget ds 1).toB (dget ds 2).toB (dget ds 3).toB (dget ds 4).toB (dget ds 5).toB (dget ds 6).toI (dget ds 7).toB (dget ds 8).toB (dget ds 9).toB (dget ds 10).toB (dget ds 11).toB (dget ds 12).toI (dget ds 13).toB (dget ds 14).toB (dget ds 15).toB (dget ds 16).toB (dget ds 17).toB (dget ds 18).toI (dget ds 19).toB (dget ds 20).toB (dget ds 21).toB (dget ds 22).toB (dget ds 23).toB (dget ds 24).toI (dget ds 25).toB (dget ds 26).toB (dget ds 27).toB (dget ds 28).toB (dget ds 29).toB (dget ds 30).toI (dget ds 31).toB (dget ds 32).toB (dget ds 33).toB (dget ds 34).toB (dget ds 35).toB (dget ds 36).toI (dget ds 37).toB (dget ds 38).toB (dget ds 39).toB (dget ds 40).toB (dget ds 41).toB (dget ds 42).toI (dget ds 43).toB (dget ds 44).toB (dget ds 45).toB (dget ds 46).toB (dget ds 47).toB (dget ds 48).toI (dget ds 49).toB (dget ds 50).toB (dget ds 51).toB (dget ds 52).toB (dget ds 53).toB (dget ds 54).toI (dget ds 55).toI (dget ds 56).toI (dget ds 57).toI (dget ds 58).toI), .i (r7_13 (dget ds 0).toI (dget ds 1).toB (dget ds 2).toB (dget ds 3).toB (dget ds 4).toB (dget ds 5).toB (dget ds 6).toI (dget ds 7).toB (dget ds 8).toB (dget ds 9).toB (dget ds 10).toB (dget ds 11).toB (dget ds 12).toI (dget ds 13).toB (dget ds 14).toB (dget ds 15).toB (dget ds 16).toB (dget ds 17).toB (dget ds 18).toI (dget ds 19).toB (dget ds 20).toB (dget ds 21).toB (dget ds 22).toB (dget ds 23).toB (dget ds 24).toI (dget ds 25).toB (dget ds 26).toB (dget ds 27).toB (dget ds 28).toB (dget ds 29).toB (dget ds 30).toI (dget ds 31).toB (dget ds 32).toB (dget ds 33).toB (dget ds 34).toB (dget ds 35).toB (dget ds 36).toI (dget ds 37).toB (dget ds 38).toB (dget ds 39).toB (dget ds 40).toB (dget ds 41).toB (dget ds 42).toI (dget ds 43).toB (dget ds 44).toB (dget ds 45).toB (dget ds 46).toB (dget ds 47).toB (dget ds 48).toI (dget ds 49).toB (dget ds 50).toB (dget ds 51).toB (dget ds 52).toB (dget ds 53).toB (dget ds 54).toI (dget ds 55).toI (dget ds 56).toI (dget ds 57).toI (dget ds 58).toI), .b (r7_14 (dget ds 0).toI (dget ds 1).toB (dget ds 2).toB (dget ds 3).toB (dget ds 4).toB (dget ds 5).toB (dget ds 6).toI (dget ds 7).toB (dget ds 8).toB (dget ds 9).toB (dget ds 10).toB (dget ds 11).toB (dget ds 12).toI (dget ds 13).toB (dget ds 14).toB (dget ds 15).toB (dget ds 16).toB (dget ds 17).toB (dget ds 18).toI (dget ds 19).toB (dget ds 20).toB (dget ds 21).toB (dget ds 22).toB (dget ds 23).toB (dget ds 24).toI (dget ds 25).toB (dget ds 26).toB (dget ds 27).toB (dget ds 28).toB (dget ds 29).toB (dget ds 30).toI (dget ds 31).toB (dget ds 32).toB (dget ds 33).toB (dget ds 34).toB (dget ds 35).toB (dget ds 36).toI (dget ds 37).toB (dget ds 38).toB (dget ds 39).toB (dget ds 40).toB (dget ds 41).toB (dget ds 42).toI (dget ds 43).toB (dget ds 44).toB (dget ds 45).toB (dget ds 46).toB (dget ds 47).toB (dget ds 48).toI (dget ds 49).toB (dget ds 50).toB (dget ds 51).toB (dget ds 52).toB (dget ds 53).toB (dget ds 54).toI (dget ds 55).toI (dget ds 56).toI (dget ds 57).toI (dget ds 58).toI), .b (r7_15 (dget ds 0).toI (dget ds 1).toB (dget ds 2).toB (dget ds 3).toB (dget ds 4).toB (dget ds 5).toB (dget ds 6).toI (dget ds 7).toB (dget ds 8).toB (dget ds 9).toB (dget ds 10).toB (dget ds 11).toB (dget ds 12).toI (dget ds 13).toB (dget ds 14).toB (dget ds 15).toB (dget ds 16).toB (dget ds 17).toB (dget ds 18).toI (dget ds 19).toB (dget ds 20).toB (dget ds 21).toB (dget ds 22).toB (dget ds 23).toB (dget ds 24).toI (dget ds 25).toB (dget ds 26).toB (dget ds 27).toB (dget ds 28).toB (dget ds 29).toB (dget ds 30).toI (dget ds 31).toB (dget ds 32).toB (dget ds 33).toB (dget ds 34).toB (dget ds 35).toB (dget ds 36).toI (dget ds 37).toB (dget ds 38).toB (dget ds 39).toB (dget ds 40).toB (dget ds 41).toB (dget ds 42).toI (dget ds 43).toB (dget ds 44).toB (dget ds 45).toB (dget ds 46).toB (dget ds 47).toB (dget ds 48).toI (dget ds 49).toB (dget ds 50).toB (dget ds 51).toB (dget ds 52).toB (dget ds 53).toB (dget ds 54).toI (dget ds 55).toI (dget ds 56).toI (dget ds 57).toI (dget ds 58).toI), .b (r7_16 (dget ds 0).toI (dget ds 1).toB (dget ds 2).toB (dget ds 3).toB (dget ds 4).toB (dget ds 5).toB (dget ds 6).toI (dget ds 7).toB (dget ds 8).toB (dget ds 9).toB (dget ds 10).toB (dget ds 11).toB (dget ds 12).toI (dget ds 13).toB (dget ds 14).toB (dget ds 15).toB (dget ds 16).toB (dget ds 17).toB (dget ds 18).toI (dget ds 19).toB (dget ds 20).toB (dget ds 21).toB (dget ds 22).toB (dget ds 23).toB (dget ds 24).toI (dget ds 25).toB (dget ds 26).toB (dget ds 27).toB (dget ds 28).toB (dget ds 29).toB (dget ds 30).toI (dget ds 31).toB (dget ds 32).toB (dget ds 33).toB (dget ds 34).toB (dget ds 35).toB (dget ds 36).toI (dget ds 37).toB (dget ds 38).toB (dget ds 39).toB (dget ds 40).toB (dget ds 41).toB (dget ds 42).toI (dget ds 43).toB (dget ds 44).toB (dget ds 45).toB (dget ds 46).toB (dget ds 47).toB (dget ds 48).toI (dget ds 49).toB (dget ds 50).toB (dget ds 51).toB (dget ds 52).toB (dget ds 53).toB (dget ds 54).toI (dget ds 55).toI (dget ds 56).toI (dget ds 57).toI (dget ds 58).toI), .b (r7_17 (dget ds 0).toI (dget ds 1).toB (dget ds 2).toB (dget ds 3).toB (dget ds 4).toB (dget ds 5).toB (dget ds 6).toI (dget ds 7).toB (dget ds 8).toB (dget ds 9).toB (dget ds 10).toB (dget ds 11).toB (dget ds 12).toI (dget ds 13).toB (dget ds 14).toB (dget ds 15).toB (dget ds 16).toB (dget ds 17).toB (dget ds 18).toI (dget ds 19).toB (dget ds 20).toB (dget ds 21).toB (dget ds 22).toB (dget ds 23).toB (dget ds 24).toI (dget ds 25).toB (dget ds 26).toB (dget ds 27).toB (dget ds 28).toB (dget ds 29).toB (dget ds 30).toI (dget ds 31).toB (dget ds 32).toB (dget ds 33).toB (dget ds 34).toB (dget ds 35).toB (dget ds 36).toI (dget ds 37).toB (dget ds 38).toB (dget ds 39).toB (dget ds 40).toB (dget ds 41).toB (dget ds 42).toI (dget ds 43).toB (dget ds 44).toB (dget ds 45).toB (dget ds 46).toB (dget ds 47).toB (dget ds 48).toI (dget ds 49).toB (dget ds 50).toB (dget ds 51).toB (dget ds 52).toB (dget ds 53).toB (dget ds 54).toI (dget ds 55).toI (dget ds 56).toI (dget ds 57).toI (dget ds 58).toI), .b (r7_18 (dget ds 0).toI (dget ds 1).toB (dget ds 2).toB (dget ds 3).toB (dget ds 4).toB (dget ds 5).toB (dget ds 6).toI (dget ds 7).toB (dget ds 8).toB (dget ds 9).toB (dget ds 10).toB (dget ds 11).toB (dget ds 12).toI (dget ds 13).toB (dget ds 14).toB (dget ds 15).toB (dget ds 16).toB (dget ds 17).toB (dget ds 18).toI (dget ds 19).toB (dget ds 20).toB (dget ds 21).toB (dget ds 22).toB (dget ds 23).toB (dget ds 24).toI (dget ds 25).toB (dget ds 26).toB (dget ds 27).toB (dget ds 28).toB (dget ds 29).toB (dget ds 30).toI (dget ds 31).toB (dget ds 32).toB (dget ds 33).toB (dget ds 34).toB (dget ds 35).toB (dget ds 36).toI (dget ds 37).toB (dget ds 38).toB (dget ds 39).toB (dget ds 40).toB (dget ds 41).toB (dget ds 42).toI (dget ds 43).toB (dget ds 44).toB (dget ds 45).toB (dget ds 46).toB (dget ds 47).toB (dget ds 48).toI (dget ds 49).toB (dget ds 50).toB (dget ds 51).toB (dget ds 52).toB (dget ds 53).toB (dget ds 54).toI (dget ds 55).toI (dget ds 56).toI (dget ds 57).toI (dget ds 58).toI), .i (r7_19 (dget ds 0).toI (dget ds 1).toB (dget ds 2).toB (dget ds 3).toB (dget ds 4).toB (dget ds 5).toB (dget ds 6).toI (dget ds 7).toB (dget ds 8).toB (dget ds 9).toB (dget ds 10).toB (dget ds 11).toB (dget ds 12).toI (dget ds 13).toB (dget ds 14).toB (dget ds 15).toB (dget ds 16).toB (dget ds 17).toB (dget ds 18).toI (dget ds 19).toB (dget ds 20).toB (dget ds 21).toB (dget ds 22).toB (dget ds 23).toB (dget ds 24).toI (dget ds 25).toB (dget ds 26).toB (dget ds 27).toB (dget ds 28).toB (dget ds 29).toB (dget ds 30).toI (dget ds 31).toB (dget ds 32).toB (dget ds 33).toB (dget ds 34).toB (dget ds 35).toB (dget ds 36).toI (dget ds 37).toB (dget ds 38).toB (dget ds 39).toB (dget ds 40).toB (dget ds 41).toB (dget ds 42).toI (dget ds 43).toB (dget ds 44).toB (dget ds 45).toB (dget ds 46).toB (dget ds 47).toB (dget ds 48).toI (dget ds 49).toB (dget ds 50).toB (dget ds 51).toB (dget ds 52).toB (dget ds 53).toB (dget ds 54).toI (dget ds 55).toI (dget ds 56).toI (dget ds 57).toI (dget ds 58).toI), .b (r7_20 (dget ds 0).toI (dget ds 1).toB (dget ds 2).toB (dget ds 3).toB (dget ds 4).toB (dget ds 5).toB (dget ds 6).toI (dget ds 7).toB (dget ds 8).toB (dget ds 9).toB (dget ds 10).toB (dget ds 11).toB (dget ds 12).toI (dget ds 13).toB (dget ds 14).toB (dget ds 15).toB (dget ds 16).toB (dget ds 17).toB (dget ds 18).toI (dget ds 19).toB (dget ds 20).toB (dget ds 21).toB (dget ds 22).toB (dget ds 23).toB (dget ds 24).toI (dget ds 25).toB (dget ds 26).toB (dget ds 27).toB (dget ds 28).toB (dget ds 29).toB (dget ds 30).toI (dget ds 31).toB (dget ds 32).toB (dget ds 33).toB (dget ds 34).toB (dget ds 35).toB (dget ds 36).toI (dget ds 37).toB (dget ds 38).toB (dget ds 39).toB (dget ds 40).toB (dget ds 41).toB (dget ds 42).toI (dget ds 43).toB (dget ds 44).toB (dget ds 45).toB (dget ds 46).toB (dget ds 47).toB (dget ds 48).toI (dget ds 49).toB (dget ds 50).toB (dget ds 51).toB (dget ds 52).toB (dget ds 53).toB (dget ds 54).toI (dget ds 55).toI (dget ds 56).toI (dget ds 57).toI (dget ds 58).toI), .b (r7_21 (dget ds 0).toI (dget ds 1).toB (dget ds 2).toB (dget ds 3).toB (dget ds 4).toB (dget ds 5).toB (dget ds 6).toI (dget ds 7).toB (dget ds 8).toB (dget ds 9).toB (dget ds 10).toB (dget ds 11).toB (dget ds 12).toI (dget ds 13).toB (dget ds 14).toB (dget ds 15).toB (dget ds 16).toB (dget ds 17).toB (dget ds 18).toI (dget ds 19).toB (dget ds 20).toB (dget ds 21).toB (dget ds 22).toB (dget ds 23).toB (dget ds 24).toI (dget ds 25).toB (dget ds 26).toB (dget ds 27).toB (dget ds 28).toB (dget ds 29).toB (dget ds 30).toI (dget ds 31).toB (dget ds 32).toB (dget ds 33).toB (dget ds 34).toB (dget ds 35).toB (dget ds 36).toI (dget ds 37).toB (dget ds 38).toB (dget ds 39).toB (dget ds 40).toB (dget ds 41).toB (dget ds 42).toI (dget ds 43).toB (dget ds 44).toB (dget ds 45).toB (dget ds 46).toB (dget ds 47).toB (dget ds 48).toI (dget ds 49).toB (dget ds 50).toB (dget ds 51).toB (dget ds 52).toB (dget ds 53).toB (dget ds 54).toI (dget ds 55).toI (dget ds 56).toI (dget ds 57).toI (dget ds 58).toI), .b (r7_22 (dget ds 0).toI (dget ds 1).toB (dget ds 2).toB (dget ds 3).toB (dget ds 4).toB (dget ds 5).toB (dget ds 6).toI (dget ds 7).toB (dget ds 8).toB (dget ds 9).toB (dget ds 10).toB (dget ds 11).toB (dget ds 12).toI (dget ds 13).toB (dget ds 14).toB (dget ds 15).toB (dget ds 16).toB (dget ds 17).toB (dget ds 18).toI (dget ds 19).toB (dget ds 20).toB (dget ds 21).toB (dget ds 22).toB (dget ds 23).toB (dget ds 24).toI (dget ds 25).toB (dget ds 26).toB (dget ds 27).toB (dget ds 28).toB (dget ds 29).toB (dget ds 30).toI (dget ds 31).toB (dget ds 32).toB (dget ds 33).toB (dget ds 34).toB (dget ds 35).toB (dget ds 36).toI (dget ds 37).toB (dget ds 38).toB (dget ds 39).toB (dget ds 40).toB (dget ds 41).toB (dget ds 42).toI (dget ds 43).toB (dget ds 44).toB (dget ds 45).toB (dget ds 46).toB (dget ds 47).toB (dget ds 48).toI (dget ds 49).toB (dget ds 50).toB (dget ds 51).toB (dget ds 52).toB (dget ds 53).toB (dget ds 54).toI (dget ds 55).toI (dget ds 56).toI (dget ds 57).toI (dget ds 58).toI), .b (r7_23 (dget ds 0).toI (dget ds 1).toB (dget ds 2).toB (dget ds 3).toB (dget ds 4).toB (dget ds 5).toB (dget ds 6).toI (dget ds 7).toB (dget ds 8).toB (dget ds 9).toB (dget ds 10).toB (dget ds 11).toB (dget ds 12).toI (dget ds 13).toB (dget ds 14).toB (dget ds 15).toB (dget ds 16).toB (dget ds 17).toB (dget ds 18).toI (dget ds 19).toB (dget ds 20).toB (dget ds 21).toB (dget ds 22).toB (dget ds 23).toB (dget ds 24).toI (dget ds 25).toB (dget ds 26).toB (dget ds 27).toB (dget ds 28).toB (dget ds 29).toB (dget ds 30).toI (dget ds 31).toB (dget ds 32).toB (dget ds 33).toB (dget ds 34).toB (dget ds 35).toB (dget ds 36).toI (dget ds 37).toB (dget ds 38).toB (dget ds 39).toB (dget ds 40).toB (dget ds 41).toB (dget ds 42).toI (dget ds 43).toB (dget ds 44).toB (dget ds 45).toB (dget ds 46).toB (dget ds 47).toB (dget ds 48).toI (dget ds 49).toB (dget ds 50).toB (dget ds 51).toB (dget ds 52).toB (dget ds 53).toB (dget ds 54).toI (dget ds 55).toI (dget ds 56).toI (dget ds 57).toI (dget ds 58).toI), .b (r7_24 (dget ds 0).toI (dget ds 1).toB (dget ds 2).toB (dget ds 3).toB (dget ds 4).toB (dget ds 5).toB (dget ds 6).toI (dget ds 7).toB (dget ds 8).toB (dget ds 9).toB (dget ds 10).toB (dget ds 11).toB (dget ds 12).toI (dget ds 13).toB (dget ds 14).toB (dget ds 15).toB (dget ds 16).toB (dget ds 17).toB (dget ds 18).toI (dget ds 19).toB (dget ds 20).toB (dget ds 21).toB (dget ds 22).toB (dget ds 23).toB (dget ds 24).toI (dget ds 25).toB (dget ds 26).toB (dget ds 27).toB (dget ds 28).toB (dget ds 29).toB (dget ds 30).toI (dget ds 31).toB (dget ds 32).toB (dget ds 33).toB (dget ds 34).toB (dget ds 35).toB (dget ds 36).toI (dget ds 37).toB (dget ds 38).toB (dget ds 39).toB (dget ds 40).toB (dget ds 41).toB (dget ds 42).toI (dget ds 43).toB (dget ds 44).toB (dget ds 45).toB (dget ds 46).toB (dget ds 47).toB (dget ds 48).toI (dget ds 49).toB (dget ds 50).toB (dget ds 51).toB (dget ds 52).toB (dget ds 53).toB (dget ds 54).toI (dget ds 55).toI (dget ds 56).toI (dget ds 57).toI (dget ds 58).toI), .i (r7_25 (dget ds 0).toI (dget ds 1).toB (dget ds 2).toB (dget ds 3).toB (dget ds 4).toB (dget ds 5).toB (dget ds 6).toI (dget ds 7).toB (dget ds 8).toB (dget ds 9).toB (dget ds 10).toB (dget ds 11).toB (dget ds 12).toI (dget ds 13).toB (dget ds 14).toB (dget ds 15).toB (dget ds 16).toB (dget ds 17).toB (dget ds 18).toI (dget ds 19).toB (dget ds 20).toB (dget ds 21).toB (dget ds 22).toB (dget ds 23).toB (dget ds 24).toI (dget ds 25).toB (dget ds 26).toB (dget ds 27).toB (dget ds 28).toB (dget ds 29).toB (dget ds 30).toI (dget ds 31).toB (dget ds 32).toB (dget ds 33).toB (dget ds 34).toB (dget ds 35).toB (dget ds 36).toI (dget ds 37).toB (dget ds 38).toB (dget ds 39).toB (dget ds 40).toB (dget ds 41).toB (dget ds 42).toI (dget ds 43).toB (dget ds 44).toB (dget ds 45).toB (dget ds 46).toB (dget ds 47).toB (dget ds 48).toI (dget ds 49).toB (dget ds 50).toB (dget ds 51).toB (dget ds 52).toB (dget ds 53).toB (dget ds 54).toI (dget ds 55).toI (dget ds 56).toI (dget ds 57).toI (dget ds 58).toI), .b (r7_26 (dget ds 0).toI (dget ds 1).toB (dget ds 2).toB (dget ds 3).toB (dget ds 4).toB (dget ds 5).toB (dget ds 6).toI (dget ds 7).toB (dget ds 8).toB (dget ds 9).toB (dget ds 10).toB (dget ds 11).toB (dget ds 12).toI (dget ds 13).toB (dget ds 14).toB (dget ds 15).toB (dget ds 16).toB (dget ds 17).toB (dget ds 18).toI (dget ds 19).toB (dget ds 20).toB (dget ds 21).toB (dget ds 22).toB (dget ds 23).toB (dget ds 24).toI (dget ds 25).toB (dget ds 26).toB (dget ds 27).toB (dget ds 28).toB (dget ds 29).toB (dget ds 30).toI (dget ds 31).toB (dget ds 32).toB (dget ds 33).toB (dget ds 34).toB (dget ds 35).toB (dget ds 36).toI (dget ds 37).toB (dget ds 38).toB (dget ds 39).toB (dget ds 40).toB (dget ds 41).toB (dget ds 42).toI (dget ds 43).toB (dget ds 44).toB (dget ds 45).toB (dget ds 46).toB (dget ds 47).toB (dget ds 48).toI (dget ds 49).toB (dget ds 50).toB (dget ds 51).toB (dget ds 52).toB (dget ds 53).toB (dget ds 54).toI (dget ds 55).toI (dget ds 56).toI (dget ds 57).toI (dget ds 58).toI), .b (r7_27 (dget ds 0).toI (dget ds 1).toB (dget ds 2).toB (dget ds 3).toB (dget ds 4).toB (dget ds 5).toB (dget ds 6).toI (dget ds 7).toB (dget ds 8).toB (dget ds 9).toB (dget ds 10).toB (dget ds 11).toB (dget ds 12).toI (dget ds 13).toB (dget ds 14).toB (dget ds 15).toB (dget ds 16).toB (dget ds 17).toB (dget ds 18).toI (dget ds 19).toB (dget ds 20).toB (dget ds 21).toB (dget ds 22).toB (dget ds 23).toB (dget ds 24).toI (dget ds 25).toB (dget ds 26).toB (dget ds 27).toB (dget ds 28).toB (dget ds 29).toB (dget ds 30).toI (dget ds 31).toB (dget ds 32).toB (dget ds 33).toB (dget ds 34).toB (dget ds 35).toB (dget ds 36).toI (dget ds 37).toB (dget ds 38).toB (dget ds 39).toB (dget ds 40).toB (dget ds 41).toB (dget ds 42).toI (dget ds 43).toB (dget ds 44).toB (dget ds 45).toB (dget ds 46).toB (dget ds 47).toB (dget ds 48).toI (dget ds 49).toB (dget ds 50).toB (dget ds 51).toB (dget ds 52).toB (dget ds 53).toB (dget ds 54).toI (dget ds 55).toI (dget ds 56).toI (dget ds 57).toI (dget ds 58).toI), .b (r7_28 (dget ds 0).toI (dget ds 1).toB (dget ds 2).toB (dget ds 3).toB (dget ds 4).toB (dget ds 5).toB (dget ds 6).toI (dget ds 7).toB (dget ds 8).toB (dget ds 9).toB (dget ds 10).toB (dget ds 11).toB (dget ds 12).toI (dget ds 13).toB (dget ds 14).toB (dget ds 15).toB (dget ds 16).toB (dget ds 17).toB (dget ds 18).toI (dget ds 19).toB (dget ds 20).toB (dget ds 21).toB (dget ds 22).toB (dget ds 23).toB (dget ds 24).toI (dget ds 25).toB (dget ds 26).toB (dget ds 27).toB (dget ds 28).toB (dget ds 29).toB (dget ds 30).toI (dget ds 31).toB (dget ds 32).toB (dget ds 33).toB (dget ds 34).toB (dget ds 35).toB (dget ds 36).toI (dget ds 37).toB (dget ds 38).toB (dget ds 39).toB (dget ds 40).toB (dget ds 41).toB (dget ds 42).toI (dget ds 43).toB (dget ds 44).toB (dget ds 45).toB (dget ds 46).toB (dget ds 47).toB (dget ds 48).toI (dget ds 49).toB (dget ds 50).toB (dget ds 51).toB (dget ds 52).toB (dget ds 53).toB (dget ds 54).toI (dget ds 55).toI (dget ds 56).toI (dget ds 57).toI (dget ds 58).toI), .b (r7_29 (dget ds 0).toI (dget ds 1).toB (dget ds 2).toB (dget ds 3).toB (dget ds 4).toB (dget ds 5).toB (dget ds 6).toI (dget ds 7).toB (dget ds 8).toB (dget ds 9).toB (dget ds 10).toB (dget ds 11).toB (dget ds 12).toI (dget ds 13).toB (dget ds 14).toB (dget ds 15).toB (dget ds 16).toB (dget ds 17).toB (dget ds 18).toI (dget ds 19).toB (dget ds 20).toB (dget ds 21).toB (dget ds 22).toB (dget ds 23).toB (dget ds 24).toI (dget ds 25).toB (dget ds 26).toB (dget ds 27).toB (dget ds 28).toB (dget ds 29).toB (dget ds 30).toI (dget ds 31).toB (dget ds 32).toB (dget ds 33).toB (dget ds 34).toB (dget ds 35).toB (dget ds 36).toI (dget ds 37).toB (dget ds 38).toB (dget ds 39).toB (dget ds 40).toB (dget ds 41).toB (dget ds 42).toI (dget ds 43).toB (dget ds 44).toB (dget ds 45).toB (dget ds 46).toB (dget ds 47).toB (dget ds 48).toI (dget ds 49).toB (dget ds 50).toB (dget ds 51).toB (dget ds 52).toB (dget ds 53).toB (dget ds 54).toI (dget ds 55).toI (dget ds 56).toI (dget ds 57).toI (dget ds 58).toI), .b (r7_30 (dget ds 0).toI (dget ds 1).toB (dget ds 2).toB (dget ds 3).toB (dget ds 4).toB (dget ds 5).toB (dget ds 6).toI (dget ds 7).toB (dget ds 8).toB (dget ds 9).toB (dget ds 10).toB (dget ds 11).toB (dget ds 12).toI (dget ds 13).toB (dget ds 14).toB (dget ds 15).toB (dget ds 16).toB (dget ds 17).toB (dget ds 18).toI (dget ds 19).toB (dget ds 20).toB (dget ds 21).toB (dget ds 22).toB (dget ds 23).toB (dget ds 24).toI (dget ds 25).toB (dget ds 26).toB (dget ds 27).toB (dget ds 28).toB (dget ds 29).toB (dget ds 30).toI (dget ds 31).toB (dget ds 32).toB (dget ds 33).toB (dget ds 34).toB (dget ds 35).toB (dget ds 36).toI (dget ds 37).toB (dget ds 38).toB (dget ds 39).toB (dget ds 40).toB (dget ds 41).toB (dget ds 42).toI (dget ds 43).toB (dget ds 44).toB (dget ds 45).toB (dget ds 46).toB (dget ds 47).toB (dget ds 48).toI (dget ds 49).toB (dget ds 50).toB (dget ds 51).toB (dget ds 52).toB (dget ds 53).toB (dget ds 54).toI (dget ds 55).toI (dget ds 56).toI (dget ds 57).toI (dget ds 58).toI), .i (r7_31 (dget ds 0).toI (dget ds 1).toB (dget ds 2).toB (dget ds 3).toB (dget ds 4).toB (dget ds 5).toB (dget ds 6).toI (dget ds 7).toB (dget ds 8).toB (dget ds 9).toB (dget ds 10).toB (dget ds 11).toB (dget ds 12).toI (dget ds 13).toB (dget ds 14).toB (dget ds 15).toB (dget ds 16).toB (dget ds 17).toB (dget ds 18).toI (dget ds 19).toB (dget ds 20).toB (dget ds 21).toB (dget ds 22).toB (dget ds 23).toB (dget ds 24).toI (dget ds 25).toB (dget ds 26).toB (dget ds 27).toB (dget ds 28).toB (dget ds 29).toB (dget ds 30).toI (dget ds 31).toB (dget ds 32).toB (dget ds 33).toB (dget ds 34).toB (dget ds 35).toB (dget ds 36).toI (dget ds 37).toB (dget ds 38).toB (dget ds 39).toB (dget ds 40).toB (dget ds 41).toB (dget ds 42).toI (dget ds 43).toB (dget ds 44).toB (dget ds 45).toB (dget ds 46).toB (dget ds 47).toB (dget ds 48).toI (dget ds 49).toB (dget ds 50).toB (dget ds 51).toB (dget ds 52).toB (dget ds 53).toB (dget ds 54).toI (dget ds 55).toI (dget ds 56).toI (dget ds 57).toI (dget ds 58).toI), .b (r7_32 (dget ds 0).toI (dget ds 1).toB (dget ds 2).toB (dget ds 3).toB (dget ds 4).toB (dget ds 5).toB (dget ds 6).toI (dget ds 7).toB (dget ds 8).toB (dget ds 9).toB (dget ds 10).toB (dget ds 11).toB (dget ds 12).toI (dget ds 13).toB (dget ds 14).toB (dget ds 15).toB (dget ds 16).toB (dget ds 17).toB (dget ds 18).toI (dget ds 19).toB (dget ds 20).toB (dget ds 21).toB (dget ds 22).toB (dget ds 23).toB (dget ds 24).toI (dget ds 25).toB (dget ds 26).toB (dget ds 27).toB (dget ds 28).toB (dget ds 29).toB (dget ds 30).toI (dget ds 31).toB (dget ds 32).toB (dget ds 33).toB (dget ds 34).toB (dget ds 35).toB (dget ds 36).toI (dget ds 37).toB (dget ds 38).toB (dget ds 39).toB (dget ds 40).toB (dget ds 41).toB (dget ds 42).toI (dget ds 43).toB (dget ds 44).toB (dget ds 45).toB (dget ds 46).toB (dget ds 47).toB (dget ds 48).toI (dget ds 49).toB (dget ds 50).toB (dget ds 51).toB (dget ds 52).toB (dget ds 53).toB (dget ds 54).toI (dget ds 55).toI (dget ds 56).toI (dget ds 57).toI (dget ds 58).toI), .b (r7_33 (dget ds 0).toI (dget ds 1).toB (dget ds 2).toB (dget ds 3).toB (dget ds 4).toB (dget ds 5).toB (dget ds 6).toI (dget ds 7).toB (dget ds 8).toB (dget ds 9).toB (dget ds 10).toB (dget ds 11).toB (dget ds 12).toI (dget ds 13).toB (dget ds 14).toB (dget ds 15).toB (dget ds 16).toB (dget ds 17).toB (dget ds 18).toI (dget ds 19).toB (dget ds 20).toB (dget ds 21).toB (dget ds 22).toB (dget ds 23).toB (dget ds 24).toI (dget ds 25).toB (dget ds 26).toB (dget ds 27).toB (dget ds 28).toB (dget ds 29).toB (dget ds 30).toI (dget ds 31).toB (dget ds 32).toB (dget ds 33).toB (dget ds 34).toB (dget ds 35).toB (dget ds 36).toI (dget ds 37).toB (dget ds 38).toB (dget ds 39).toB (dget ds 40).toB (dget ds 41).toB (dget ds 42).toI (dget ds 43).toB (dget ds 44).toB (dget ds 45).toB (dget ds 46).toB (dget ds 47).toB (dget ds 48).toI (dget ds 49).toB (dget ds 50).toB (dget ds 51).toB (dget ds 52).toB (dget ds 53).toB (dget ds 54).toI (dget ds 55).toI (dget ds 56).toI (dget ds 57).toI (dget ds 58).toI), .b (r7_34 (dget ds 0).toI (dget ds 1).toB (dget ds 2).toB (dget ds 3).toB (dget ds 4).toB (dget ds 5).toB (dget ds 6).toI (dget ds 7).toB (dget ds 8).toB (dget ds 9).toB (dget ds 10).toB (dget ds 11).toB (dget ds 12).toI (dget ds 13).toB (dget ds 14).toB (dget ds 15).toB (dget ds 16).toB (dget ds 17).toB (dget ds 18).toI (dget ds 19).toB (dget ds 20).toB (dget ds 21).toB (dget ds 22).toB (dget ds 23).toB (dget ds 24).toI (dget ds 25).toB (dget ds 26).toB (dget ds 27).toB (dget ds 28).toB (dget ds 29).toB (dget ds 30).toI (dget ds 31).toB (dget ds 32).toB (dget ds 33).toB (dget ds 34).toB (dget ds 35).toB (dget ds 36).toI (dget ds 37).toB (dget ds 38).toB (dget ds 39).toB (dget ds 40).toB (dget ds 41).toB (dget ds 42).toI (dget ds 43).toB (dget ds 44).toB (dget ds 45).toB (dget ds 46).toB (dget ds 47).toB (dget ds 48).toI (dget ds 49).toB (dget ds 50).toB (dget ds 51).toB (dget ds 52).toB (dget ds 53).toB (dget ds 54).toI (dget ds 55).toI (dget ds 56).toI (dget ds 57).toI (dget ds 58).toI), .b (r7_35 (dget ds 0).toI (dget ds 1).toB (dget ds 2).toB (dget ds 3).toB (dget ds 4).toB (dget ds 5).toB (dget ds 6).toI (dget ds 7).toB (dget ds 8).toB (dget ds 9).toB (dget ds 10).toB (dget ds 11).toB (dget ds 12).toI (dget ds 13).toB (dget ds 14).toB (dget ds 15).toB (dget ds 16).toB (dget ds 17).toB (dget ds 18).toI (dget ds 19).toB (dget ds 20).toB (dget ds 21).toB (dget ds 22).toB (dget ds 23).toB (dget ds 24).toI (dget ds 25).toB (dget ds 26).toB (dget ds 27).toB (dget ds 28).toB (dget ds 29).toB (dget ds 30).toI (dget ds 31).toB (dget ds 32).toB (dget ds 33).toB (dget ds 34).toB (dget ds 35).toB (dget ds 36).toI (dget ds 37).toB (dget ds 38).toB (dget ds 39).toB (dget ds 40).toB (dget ds 41).toB (dget ds 42).toI (dget ds 43).toB (dget ds 44).toB (dget ds 45).toB (dget ds 46).toB (dget ds 47).toB (dget ds 48).toI (dget ds 49).toB (dget ds 50).toB (dget ds 51).toB (dget ds 52).toB (dget ds 53).toB (dget ds 54).toI (dget ds 55).toI (dget ds 56).toI (dget ds 57).toI (dget ds 58).toI), .b (r7_36 (dget ds 0).toI (dget ds 1).toB (dget ds 2).toB (dget ds 3).toB (dget ds 4).toB (dget ds 5).toB (dget ds 6).toI (dget ds 7).toB (dget ds 8).toB (dget ds 9).toB (dget ds 10).toB (dget ds 11).toB (dget ds 12).toI (dget ds 13).toB (dget ds 14).toB (dget ds 15).toB (dget ds 16).toB (dget ds 17).toB (dget ds 18).toI (dget ds 19).toB (dget ds 20).toB (dget ds 21).toB (dget ds 22).toB (dget ds 23).toB (dget ds 24).toI (dget ds 25).toB (dget ds 26).toB (dget ds 27).toB (dget ds 28).toB (dget ds 29).toB (dget ds 30).toI (dget ds 31).toB (dget ds 32).toB (dget ds 33).toB (dget ds 34).toB (dget ds 35).toB (dget ds 36).toI (dget ds 37).toB (dget ds 38).toB (dget ds 39).toB (dget ds 40).toB (dget ds 41).toB (dget ds 42).toI (dget ds 43).toB (dget ds 44).toB (dget ds 45).toB (dget ds 46).toB (dget ds 47).toB (dget ds 48).toI (dget ds 49).toB (dget ds 50).toB (dget ds 51).toB (dget ds 52).toB (dget ds 53).toB (dget ds 54).toI (dget ds 55).toI (dget ds 56).toI (dget ds 57).toI (dget ds 58).toI), .i (r7_37 (dget ds 0).toI (dget ds 1).toB (dget ds 2).toB (dget ds 3).toB (dget ds 4).toB (dget ds 5).toB (dget ds 6).toI (dget ds 7).toB (dget ds 8).toB (dget ds 9).toB (dget ds 10).toB (dget ds 11).toB (dget ds 12).toI (dget ds 13).toB (dget ds 14).toB (dget ds 15).toB (dget ds 16).toB (dget ds 17).toB (dget ds 18).toI (dget ds 19).toB (dget ds 20).toB (dget ds 21).toB (dget ds 22).toB (dget ds 23).toB (dget ds 24).toI (dget ds 25).toB (dget ds 26).toB (dget ds 27).toB (dget ds 28).toB (dget ds 29).toB (dget ds 30).toI (dget ds 31).toB (dget ds 32).toB (dget ds 33).toB (dget ds 34).toB (dget ds 35).toB (dget ds 36).toI (dget ds 37).toB (dget ds 38).toB (dget ds 39).toB (dget ds 40).toB (dget ds 41).toB (dget ds 42).toI (dget ds 43).toB (dget ds 44).toB (dget ds 45).toB (dget ds 46).toB (dget ds 47).toB (dget ds 48).toI (dget ds 49).toB (dget ds 50).toB (dget ds 51).toB (dget ds 52).toB (dget ds 53).toB (dget ds 54).toI (dget ds 55).toI (dget ds 56).toI (dget ds 57).toI (dget ds 58).toI), .b (r7_38 (dget ds 0).toI (dget ds 1).toB (dget ds 2).toB (dget ds 3).toB (dget ds 4).toB (dget ds 5).toB (dget ds 6).toI (dget ds 7).toB (dget ds 8).toB (dget ds 9).toB (dget ds 10).toB (dget ds 11).toB (dget ds 12).toI (dget ds 13).toB (dget ds 14).toB (dget ds 15).toB (dget ds 16).toB (dget ds 17).toB (dget ds 18).toI (dget ds 19).toB (dget ds 20).toB (dget ds 21).toB (dget ds 22).toB (dget ds 23).toB (dget ds 24).toI (dget ds 25).toB (dget ds 26).toB (dget ds 27).toB (dget ds 28).toB (dget ds 29).toB (dget ds 30).toI (dget ds 31).toB (dget ds 32).toB (dget ds 33).toB (dget ds 34).toB (dget ds 35).toB (dget ds 36).toI (dget ds 37).toB (dget ds 38).toB (dget ds 39).toB (dget ds 40).toB (dget ds 41).toB (dget ds 42).toI (dget ds 43).toB (dget ds 44).toB (dget ds 45).toB (dget ds 46).toB (dget ds 47).toB (dget ds 48).toI (dget ds 49).toB (dget ds 50).toB (dget ds 51).toB (dget ds 52).toB (dget ds 53).toB (dget ds 54).toI (dget ds 55).toI (dget ds 56).toI (dget ds 57).toI (dget ds 58).toI), .b (r7_39 (dget ds 0).toI (dget ds 1).toB (dget ds 2).toB (dget ds 3).toB (dget ds 4).toB (dget ds 5).toB (dget ds 6).toI (dget ds 7).toB (dget ds 8).toB (dget ds 9).toB (dget ds 10).toB (dget ds 11).toB (dget ds 12).toI (dget ds 13).toB (dget ds 14).toB (dget ds 15).toB (dget ds 16).toB (dget ds 17).toB (dget ds 18).toI (dget ds 19).toB (dget ds 20).toB (dget ds 21).toB (dget ds 22).toB (dget ds 23).toB (dget ds 24).toI (dget ds 25).toB (dget ds 26).toB (dget ds 27).toB (dget ds 28).toB (dget ds 29).toB (dget ds 30).toI (dget ds 31).toB (dget ds 32).toB (dget ds 33).toB (dget ds 34).toB (dget ds 35).toB (dget ds 36).toI (dget ds 37).toB (dget ds 38).toB (dget ds 39).toB (dget ds 40).toB (dget ds 41).toB (dget ds 42).toI (dget ds 43).toB (dget ds 44).toB (dget ds 45).toB (dget ds 46).toB (dget ds 47).toB (dget ds 48).toI (dget ds 49).toB (dget ds 50).toB (dget ds 51).toB (dget ds 52).toB (dget ds 53).toB (dget ds 54).toI (dget ds 55).toI (dget ds 56).toI (dget ds 57).toI (dget ds 58).toI), .b (r7_40 (dget ds 0).toI (dget ds 1).toB (dget ds 2).toB (dget ds 3).toB (dget ds 4).toB (dget ds 5).toB (dget ds 6).toI (dget ds 7).toB (dget ds 8).toB (dget ds 9).toB (dget ds 10).toB (dget ds 11).toB (dget ds 12).toI (dget ds 13).toB (dget ds 14).toB (dget ds 15).toB (dget ds 16).toB (dget ds 17).toB (dget ds 18).toI (dget ds 19).toB (dget ds 20).toB (dget ds 21).toB (dget ds 22).toB (dget ds 23).toB (dget ds 24).toI (dget ds 25).toB (dget ds 26).toB (dget ds 27).toB (dget ds 28).toB (dget ds 29).toB (dget ds 30).toI (dget ds 31).toB (dget ds 32).toB (dget ds 33).toB (dget ds 34).toB (dget ds 35).toB (dget ds 36).toI (dget ds 37).toB (dget ds 38).toB (dget ds 39).toB (dget ds 40).toB (dget ds 41).toB (dget ds 42).toI (dget ds 43).toB (dget ds 44).toB (dget ds 45).toB (dget ds 46).toB (dget ds 47).toB (dget ds 48).toI (dget ds 49).toB (dget ds 50).toB (dget ds 51).toB (dget ds 52).toB (dget ds 53).toB (dget ds 54).toI (dget ds 55).toI (dget ds 56).toI (dget ds 57).toI (dget ds 58).toI), .b (r7_41 (dget ds 0).toI (dget ds 1).toB (dget ds 2).toB (dget ds 3).toB (dget ds 4).toB (dget ds 5).toB (dget ds 6).toI (dget ds 7).toB (dget ds 8).toB (dget ds 9).toB (dget ds 10).toB (dget ds 11).toB (dget ds 12).toI (dget ds 13).toB (dget ds 14).toB (dget ds 15).toB (dget ds 16).toB (dget ds 17).toB (dget ds 18).toI (dget ds 19).toB (dget ds 20).toB (dget ds 21).toB (dget ds 22).toB (dget ds 23).toB (dget ds 24).toI (dget ds 25).toB (dget ds 26).toB (dget ds 27).toB (dget ds 28).toB (dget ds 29).toB (dget ds 30).toI (dget ds 31).toB (dget ds 32).toB (dget ds 33).toB (dget ds 34).toB (dget ds 35).toB (dget ds 36).toI (dget ds 37).toB (dget ds 38).toB (dget ds 39).toB (dget ds 40).toB (dget ds 41).toB (dget ds 42).toI (dget ds 43).toB (dget ds 44).toB (dget ds 45).toB (dget ds 46).toB (dget ds 47).toB (dget ds 48).toI (dget ds 49).toB (dget ds 50).toB (dget ds 51).toB (dget ds 52).toB (dget ds 53).toB (dget ds 54).toI (dget ds 55).toI (dget ds 56).toI (dget ds 57).toI (dget ds 58).toI), .b (r7_42 (dget ds 0).toI (dget ds 1).toB (dget ds 2).toB (dget ds 3).toB (dget ds 4).toB (dget ds 5).toB (dget ds 6).toI (dget ds 7).toB (dget ds 8).toB (dget ds 9).toB (dget ds 10).toB (dget ds 11).toB (dget ds 12).toI (dget ds 13).toB (dget ds 14).toB (dget ds 15).toB (dget ds 16).toB (dget ds 17).toB (dget ds 18).toI (dget ds 19).toB (dget ds 20).toB (dget ds 21).toB (dget ds 22).toB (dget ds 23).toB (dget ds 24).toI (dget ds 25).toB (dget ds 26).toB (dget ds 27).toB (dget ds 28).toB (dget ds 29).toB (dget ds 30).toI (dget ds 31).toB (dget ds 32).toB (dget ds 33).toB (dget ds 34).toB (dget ds 35).toB (dget ds 36).toI (dget ds 37).toB (dget ds 38).toB (dget ds 39).toB (dget ds 40).toB (dget ds 41).toB (dget ds 42).toI (dget ds 43).toB (dget ds 44).toB (dget ds 45).toB (dget ds 46).toB (dget ds 47).toB (dget ds 48).toI (dget ds 49).toB (dget ds 50).toB (dget ds 51).toB (dget ds 52).toB (dget ds 53).toB (dget ds 54).toI (dget ds 55).toI (dget ds 56).toI (dget ds 57).toI (dget ds 58).toI), .i (r7_43 (dget ds 0).toI (dget ds 1).toB (dget ds 2).toB (dget ds 3).toB (dget ds 4).toB (dget ds 5).toB (dget ds 6).toI (dget ds 7).toB (dget ds 8).toB (dget ds 9).toB (dget ds 10).toB (dget ds 11).toB (dget ds 12).toI (dget ds 13).toB (dget ds 14).toB (dget ds 15).toB (dget ds 16).toB (dget ds 17).toB (dget ds 18).toI (dget ds 19).toB (dget ds 20).toB (dget ds 21).toB (dget ds 22).toB (dget ds 23).toB (dget ds 24).toI (dget ds 25).toB (dget ds 26).toB (dget ds 27).toB (dget ds 28).toB (dget ds 29).toB (dget ds 30).toI (dget ds 31).toB (dget ds 32).toB (dget ds 33).toB (dget ds 34).toB (dget ds 35).toB (dget ds 36).toI (dget ds 37).toB (dget ds 38).toB (dget ds 39).toB (dget ds 40).toB (dget ds 41).toB (dget ds 42).toI (dget ds 43).toB (dget ds 44).toB (dget ds 45).toB (dget ds 46).toB (dget ds 47).toB (dget ds 48).toI (dget ds 49).toB (dget ds 50).toB (dget ds 51).toB (dget ds 52).toB (dget ds 53).toB (dget ds 54).toI (dget ds 55).toI (dget ds 56).toI (dget ds 57).toI (dget ds 58).toI), .b (r7_44 (dget ds 0).toI (dget ds 1).toB (dget ds 2).toB (dget ds 3).toB (dget ds 4).toB (dget ds 5).toB (dget ds 6).toI (dget ds 7).toB (dget ds 8).toB (dget ds 9).toB (dget ds 10).toB (dget ds 11).toB (dget ds 12).toI (dget ds 13).toB (dget ds 14).toB (dget ds 15).toB (dget ds 16).toB (dget ds 17).toB (dget ds 18).toI (dget ds 19).toB (dget ds 20).toB (dget ds 21).toB (dget ds 22).toB (dget ds 23).toB (dget ds 24).toI (dget ds 25).toB (dget ds 26).toB (dget ds 27).toB (dget ds 28).toB (dget ds 29).toB (dget ds 30).toI (dget ds 31).toB (dget ds 32).toB (dget ds 33).toB (dget ds 34).toB (dget ds 35).toB (dget ds 36).toI (dget ds 37).toB (dget ds 38).toB (dget ds 39).toB (dget ds 40).toB (dget ds 41).toB (dget ds 42).toI (dget ds 43).toB (dget ds 44).toB (dget ds 45).toB (dget ds 46).toB (dget ds 47).toB (dget ds 48).toI (dget ds 49).toB (dget ds 50).toB (dget ds 51).toB (dget ds 52).toB (dget ds 53).toB (dget ds 54).toI (dget ds 55).toI (dget ds 56).toI (dget ds 57).toI (dget ds 58).toI), .b (r7_45 (dget ds 0).toI (dget ds 1).toB (dget ds 2).toB (dget ds 3).toB (dget ds 4).toB (dget ds 5).toB (dget ds 6).toI (dget ds 7).toB (dget ds 8).toB (dget ds 9).toB (dget ds 10).toB (dget ds 11).toB (dget ds 12).toI (dget ds 13).toB (dget ds 14).toB (dget ds 15).toB (dget ds 16).toB (dget ds 17).toB (dget ds 18).toI (dget ds 19).toB (dget ds 20).toB (dget ds 21).toB (dget ds 22).toB (dget ds 23).toB (dget ds 24).toI (dget ds 25).toB (dget ds 26).toB (dget ds 27).toB (dget ds 28).toB (dget ds 29).toB (dget ds 30).toI (dget ds 31).toB (dget ds 32).toB (dget ds 33).toB (dget ds 34).toB (dget ds 35).toB (dget ds 36).toI (dget ds 37).toB (dget ds 38).toB (dget ds 39).toB (dget ds 40).toB (dget ds 41).toB (dget ds 42).toI (dget ds 43).toB (dget ds 44).toB (dget ds 45).toB (dget ds 46).toB (dget ds 47).toB (dget ds 48).toI (dget ds 49).toB (dget ds 50).toB (dget ds 51).toB (dget ds 52).toB (dget ds 53).toB (dget ds 54).toI (dget ds 55).toI (dget ds 56).toI (dget ds 57).toI (dget ds 58).toI), .b (r7_46 (dget ds 0).toI (dget ds 1).toB (dget ds 2).toB (dget ds 3).toB (dget ds 4).toB (dget ds 5).toB (dget ds 6).toI (dget ds 7).toB (dget ds 8).toB (dget ds 9).toB (dget ds 10).toB (dget ds 11).toB (dget ds 12).toI (dget ds 13).toB (dget ds 14).toB (dget ds 15).toB (dget ds 16).toB (dget ds 17).toB (dget ds 18).toI (dget ds 19).toB (dget ds 20).toB (dget ds 21).toB (dget ds 22).toB (dget ds 23).toB (dget ds 24).toI (dget ds 25).toB (dget ds 26).toB (dget ds 27).toB (dget ds 28).toB (dget ds 29).toB (dget ds 30).toI (dget ds 31).toB (dget ds 32).toB (dget ds 33).toB (dget ds 34).toB (dget ds 35).toB (dget ds 36).toI (dget ds 37).toB (dget ds 38).toB (dget ds 39).toB (dget ds 40).toB (dget ds 41).toB (dget ds 42).toI (dget ds 43).toB (dget ds 44).toB (dget ds 45).toB (dget ds 46).toB (dget ds 47).toB (dget ds 48).toI (dget ds 49).toB (dget ds 50).toB (dget ds 51).toB (dget ds 52).toB (dget ds 53).toB (dget ds 54).toI (dget ds 55).toI (dget ds 56).toI (dget ds 57).toI (dget ds 58).toI), .b (r7_47 (dget ds 0).toI (dget ds 1).toB (dget ds 2).toB (dget ds 3).toB (dget ds 4).toB (dget ds 5).toB (dget ds 6).toI (dget ds 7).toB (dget ds 8).toB (dget ds 9).toB (dget ds 10).toB (dget ds 11).toB (dget ds 12).toI (dget ds 13).toB (dget ds 14).toB (dget ds 15).toB (dget ds 16).toB (dget ds 17).toB (dget ds 18).toI (dget ds 19).toB (dget ds 20).toB (dget ds 21).toB (dget ds 22).toB (dget ds 23).toB (dget ds 24).toI (dget ds 25).toB (dget ds 26).toB (dget ds 27).toB (dget ds 28).toB (dget ds 29).toB (dget ds 30).toI (dget ds 31).toB (dget ds 32).toB (dget ds 33).toB (dget ds 34).toB (dget ds 35).toB (dget ds 36).toI (dget ds 37).toB (dget ds 38).toB (dget ds 39).toB (dget ds 40).toB (dget ds 41).toB (dget ds 42).toI (dget ds 43).toB (dget ds 44).toB (dget ds 45).toB (dget ds 46).toB (dget ds 47).toB (dget ds 48).toI (dget ds 49).toB (dget ds 50).toB (dget ds 51).toB (dget ds 52).toB (dget ds 53).toB (dget ds 54).toI (dget ds 55).toI (dget ds 56).toI (dget ds 57).toI (dget ds 58).toI), .b (r7_48 (dget ds 0).toI (dget ds 1).toB (dget ds 2).toB (dget ds 3).toB (dget ds 4).toB (dget ds 5).toB (dget ds 6).toI (dget ds 7).toB (dget ds 8).toB (dget ds 9).toB (dget ds 10).toB (dget ds 11).toB (dget ds 12).toI (dget ds 13).toB (dget ds 14).toB (dget ds 15).toB (dget ds 16).toB (dget ds 17).toB (dget ds 18).toI (dget ds 19).toB (dget ds 20).toB (dget ds 21).toB (dget ds 22).toB (dget ds 23).toB (dget ds 24).toI (dget ds 25).toB (dget ds 26).toB (dget ds 27).toB (dget ds 28).toB (dget ds 29).toB (dget ds 30).toI (dget ds 31).toB (dget ds 32).toB (dget ds 33).toB (dget ds 34).toB (dget ds 35).toB (dget ds 36).toI (dget ds 37).toB (dget ds 38).toB (dget ds 39).toB (dget ds 40).toB (dget ds 41).toB (dget ds 42).toI (dget ds 43).toB (dget ds 44).toB (dget ds 45).toB (dget ds 46).toB (dget ds 47).toB (dget ds 48).toI (dget ds 49).toB (dget ds 50).toB (dget ds 51).toB (dget ds 52).toB (dget ds 53).toB (dget ds 54).toI (dget ds 55).toI (dget ds 56).toI (dget ds 57).toI (dget ds 58).toI), .i (r7_49 (dget ds 0).toI (dget ds 1).toB (dget ds 2).toB (dget ds 3).toB (dget ds 4).toB (dget ds 5).toB (dget ds 6).toI (dget ds 7).toB (dget ds 8).toB (dget ds 9).toB (dget ds 10).toB (dget ds 11).toB (dget ds 12).toI (dget ds 13).toB (dget ds 14).toB (dget ds 15).toB (dget ds 16).toB (dget ds 17).toB (dget ds 18).toI (dget ds 19).toB (dget ds 20).toB (dget ds 21).toB (dget ds 22).toB (dget ds 23).toB (dget ds 24).toI (dget ds 25).toB (dget ds 26).toB (dget ds 27).toB (dget ds 28).toB (dget ds 29).toB (dget ds 30).toI (dget ds 31).toB (dget ds 32).toB (dget ds 33).toB (dget ds 34).toB (dget ds 35).toB (dget ds 36).toI (dget ds 37).toB (dget ds 38).toB (dget ds 39).toB (dget ds 40).toB (dget ds 41).toB (dget ds 42).toI (dget ds 43).toB (dget ds 44).toB (dget ds 45).toB (dget ds 46).toB (dget ds 47).toB (dget ds 48).toI (dget ds 49).toB (dget ds 50).toB (dget ds 51).toB (dget ds 52).toB (dget ds 53).toB (dget ds 54).toI (dget ds 55).toI (dget ds 56).toI (dget ds 57).toI (dget ds 58).toI), .b (r7_50 (dget ds 0).toI (dget ds 1).toB (dget ds 2).toB (dget ds 3).toB (dget ds 4).toB (dget ds 5).toB (dget ds 6).toI (dget ds 7).toB (dget ds 8).toB (dget ds 9).toB (dget ds 10).toB (dget ds 11).toB (dget ds 12).toI (dget ds 13).toB (dget ds 14).toB (dget ds 15).toB (dget ds 16).toB (dget ds 17).toB (dget ds 18).toI (dget ds 19).toB (dget ds 20).toB (dget ds 21).toB (dget ds 22).toB (dget ds 23).toB (dget ds 24).toI (dget ds 25).toB (dget ds 26).toB (dget ds 27).toB (dget ds 28).toB (dget ds 29).toB (dget ds 30).toI (dget ds 31).toB (dget ds 32).toB (dget ds 33).toB (dget ds 34).toB (dget ds 35).toB (dget ds 36).toI (dget ds 37).toB (dget ds 38).toB (dget ds 39).toB (dget ds 40).toB (dget ds 41).toB (dget ds 42).toI (dget ds 43).toB (dget ds 44).toB (dget ds 45).toB (dget ds 46).toB (dget ds 47).toB (dget ds 48).toI (dget ds 49).toB (dget ds 50).toB (dget ds 51).toB (dget ds 52).toB (dget ds 53).toB (dget ds 54).toI (dget ds 55).toI (dget ds 56).toI (dget ds 57).toI (dget ds 58).toI), .b (r7_51 (dget ds 0).toI (dget ds 1).toB (dget ds 2).toB (dget ds 3).toB (dget ds 4).toB (dget ds 5).toB (dget ds 6).toI (dget ds 7).toB (dget ds 8).toB (dget ds 9).toB (dget ds 10).toB (dget ds 11).toB (dget ds 12).toI (dget ds 13).toB (dget ds 14).toB (dget ds 15).toB (dget ds 16).toB (dget ds 17).toB (dget ds 18).toI (dget ds 19).toB (dget ds 20).toB (dget ds 21).toB (dget ds 22).toB (dget ds 23).toB (dget ds 24).toI (dget ds 25).toB (dget ds 26).toB (dget ds 27).toB (dget ds 28).toB (dget ds 29).toB (dget ds 30).toI (dget ds 31).toB (dget ds 32).toB (dget ds 33).toB (dget ds 34).toB (dget ds 35).toB (dget ds 36).toI (dget ds 37).toB (dget ds 38).toB (dget ds 39).toB (dget ds 40).toB (dget ds 41).toB (dget ds 42).toI (dget ds 43).toB (dget ds 44).toB (dget ds 45).toB (dget ds 46).toB (dget ds 47).toB (dget ds 48).toI (dget ds 49).toB (dget ds 50).toB (dget ds 51).toB (dget ds 52).toB (dget ds 53).toB (dget ds 54).toI (dget ds 55).toI (dget ds 56).toI (dget ds 57).toI (dget ds 58).toI), .b (r7_52 (dget ds 0).toI (dget ds 1).toB (dget ds 2).toB (dget ds 3).toB (dget ds 4).toB (dget ds 5).toB (dget ds 6).toI (dget ds 7).toB (dget ds 8).toB (dget ds 9).toB (dget ds 10).toB (dget ds 11).toB (dget ds 12).toI (dget ds 13).toB (dget ds 14).toB (dget ds 15).toB (dget ds 16).toB (dget ds 17).toB (dget ds 18).toI (dget ds 19).toB (dget ds 20).toB (dget ds 21).toB (dget ds 22).toB (dget ds 23).toB (dget ds 24).toI (dget ds 25).toB (dget ds 26).toB (dget ds 27).toB (dget ds 28).toB (dget ds 29).toB (dget ds 30).toI (dget ds 31).toB (dget ds 32).toB (dget ds 33).toB (dget ds 34).toB (dget ds 35).toB (dget ds 36).toI (dget ds 37).toB (dget ds 38).toB (dget ds 39).toB (dget ds 40).toB (dget ds 41).toB (dget ds 42).toI (dget ds 43).toB (dget ds 44).toB (dget ds 45).toB (dget ds 46).toB (dget ds 47).toB (dget ds 48).toI (dget ds 49).toB (dget ds 50).toB (dget ds 51).toB (dget ds 52).toB (dget ds 53).toB (dget ds 54).toI (dget ds 55).toI (dget ds 56).toI (dget ds 57).toI (dget ds 58).toI), .b (r7_53 (dget ds 0).toI (dget ds 1).toB (dget ds 2).toB (dget ds 3).toB (dget ds 4).toB (dget ds 5).toB (dget ds 6).toI (dget ds 7).toB (dget ds 8).toB (dget ds 9).toB (dget ds 10).toB (dget ds 11).toB (dget ds 12).toI (dget ds 13).toB (dget ds 14).toB (dget ds 15).toB (dget ds 16).toB (dget ds 17).toB (dget ds 18).toI (dget ds 19).toB (dget ds 20).toB (dget ds 21).toB (dget ds 22).toB (dget ds 23).toB (dget ds 24).toI (dget ds 25).toB (dget ds 26).toB (dget ds 27).toB (dget ds 28).toB (dget ds 29).toB (dget ds 30).toI (dget ds 31).toB (dget ds 32).toB (dget ds 33).toB (dget ds 34).toB (dget ds 35).toB (dget ds 36).toI (dget ds 37).toB (dget ds 38).toB (dget ds 39).toB (dget ds 40).toB (dget ds 41).toB (dget ds 42).toI (dget ds 43).toB (dget ds 44).toB (dget ds 45).toB (dget ds 46).toB (dget ds 47).toB (dget ds 48).toI (dget ds 49).toB (dget ds 50).toB (dget ds 51).toB (dget ds 52).toB (dget ds 53).toB (dget ds 54).toI (dget ds 55).toI (dget ds 56).toI (dget ds 57).toI (dget ds 58).toI), .b (r7_54 (dget ds 0).toI (dget ds 1).toB (dget ds 2).toB (dget ds 3).toB (dget ds 4).toB (dget ds 5).toB (dget ds 6).toI (dget ds 7).toB (dget ds 8).toB (dget ds 9).toB (dget ds 10).toB (dget ds 11).toB (dget ds 12).toI (dget ds 13).toB (dget ds 14).toB (dget ds 15).toB (dget ds 16).toB (dget ds 17).toB (dget ds 18).toI (dget ds 19).toB (dget ds 20).toB (dget ds 21).toB (dget ds 22).toB (dget ds 23).toB (dget ds 24).toI (dget ds 25).toB (dget ds 26).toB (dget ds 27).toB (dget ds 28).toB (dget ds 29).toB (dget ds 30).toI (dget ds 31).toB (dget ds 32).toB (dget ds 33).toB (dget ds 34).toB (dget ds 35).toB (dget ds 36).toI (dget ds 37).toB (dget ds 38).toB (dget ds 39).toB (dget ds 40).toB (dget ds 41).toB (dget ds 42).toI (dget ds 43).toB (dget ds 44).toB (dget ds 45).toB (dget ds 46).toB (dget ds 47).toB (dget ds 48).toI (dget ds 49).toB (dget ds 50).toB (dget ds 51).toB (dget ds 52).toB (dget ds 53).toB (dget ds 54).toI (dget ds 55).toI (dget ds 56).toI (dget ds 57).toI (dget ds 58).toI), .i (r7_55 (dget ds 0).toI (dget ds 1).toB (dget ds 2).toB (dget ds 3).toB (dget ds 4).toB (dget ds 5).toB (dget ds 6).toI (dget ds 7).toB (dget ds 8).toB (dget ds 9).toB (dget ds 10).toB (dget ds 11).toB (dget ds 12).toI (dget ds 13).toB (dget ds 14).toB (dget ds 15).toB (dget ds 16).toB (dget ds 17).toB (dget ds 18).toI (dget ds 19).toB (dget ds 20).toB (dget ds 21).toB (dget ds 22).toB (dget ds 23).toB (dget ds 24).toI (dget ds 25).toB (dget ds 26).toB (dget ds 27).toB (dget ds 28).toB (dget ds 29).toB (dget ds 30).toI (dget ds 31).toB (dget ds 32).toB (dget ds 33).toB (dget ds 34).toB (dget ds 35).toB (dget ds 36).toI (dget ds 37).toB (dget ds 38).toB (dget ds 39).toB (dget ds 40).toB (dget ds 41).toB (dget ds 42).toI (dget ds 43).toB (dget ds 44).toB (dget ds 45).toB (dget ds 46).toB (dget ds 47).toB (dget ds 48).toI (dget ds 49).toB (dget ds 50).toB (dget ds 51).toB (dget ds 52).toB (dget ds 53).toB (dget ds 54).toI (dget ds 55).toI (dget ds 56).toI (dget ds 57).toI (dget ds 58).toI), .i (r7_56 (dget ds 0).toI (dget ds 1).toB (dget ds 2).toB (dget ds 3).toB (dget ds 4).toB (dget ds 5).toB (dget ds 6).toI (dget ds 7).toB (dget ds 8).toB (dget ds 9).toB (dget ds 10).toB (dget ds 11).toB (dget ds 12).toI (dget ds 13).toB (dget ds 14).toB (dget ds 15).toB (dget ds 16).toB (dget ds 17).toB (dget ds 18).toI (dget ds 19).toB (dget ds 20).toB (dget ds 21).toB (dget ds 22).toB (dget ds 23).toB (dget ds 24).toI (dget ds 25).toB (dget ds 26).toB (dget ds 27).toB (dget ds 28).toB (dget ds 29).toB (dget ds 30).toI (dget ds 31).toB (dget ds 32).toB (dget ds 33).toB (dget ds 34).toB (dget ds 35).toB (dget ds 36).toI (dget ds 37).toB (dget ds 38).toB (dget ds 39).toB (dget ds 40).toB (dget ds 41).toB (dget ds 42).toI (dget ds 43).toB (dget ds 44).toB (dget ds 45).toB (dget ds 46).toB (dget ds 47).toB (dget ds 48).toI (dget ds 49).toB (dget ds 50).toB (dget ds 51).toB (dget ds 52).toB (dget ds 53).toB (dget ds 54).toI (dget ds 55).toI (dget ds 56).toI (dget ds 57).toI (dget ds 58).toI)]
def S7 : Sigs := ⟨[(12, s12), (13, s13)], [], [], 1⟩
theorem ev7 : evFn Try.prog S7 2000 Try.f7 s7 = some o7 := by kernel_rfl

end Go.Proofs.Ythlbgkhbebffaaa
