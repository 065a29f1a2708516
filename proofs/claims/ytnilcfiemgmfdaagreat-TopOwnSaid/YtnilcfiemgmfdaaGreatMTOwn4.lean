/- FTOwn: what its proof needs, part 4. -/
import Derived.Test.YtnilcfiemgmfdaaGreatMTOwn3
set_option linter.unusedVariables false
set_option linter.unusedSimpArgs false
namespace Go.Proofs.YtnilcfiemgmfdaaGreat
open Go
set_option maxRecDepth 10000
def Ej:List (Nat×TI):=[
 (1,⟨.other,1,8,[.raw (.nilFunc)],false⟩),
 (2,⟨.int .i64,1,8,[.int .i64 0],false⟩),
 (3,⟨.int .i64,1,8,[.int .i64 0],false⟩),
 (4,⟨.bool,1,1,[.bool false],false⟩),
 (5,⟨.int .u8,1,1,[.int .u8 0],false⟩),
 (6,⟨.int .u8,1,1,[.int .u8 0],false⟩),
 (7,⟨.struct [(0,2),(1,3),(2,4),(3,6)],4,24,[.int .i64 0,.int .i64 0,.bool false,.int .u8 0],false⟩),
 (8,⟨.struct [(0,2),(1,3),(2,4),(3,6)],4,24,[.int .i64 0,.int .i64 0,.bool false,.int .u8 0],false⟩),
 (9,⟨.string,1,16,[.raw (.string ByteArray.empty)],false⟩),
 (10,⟨.string,1,16,[.raw (.string ByteArray.empty)],false⟩),
 (11,⟨.string,1,16,[.raw (.string ByteArray.empty)],false⟩),
 (12,⟨.int .u64,1,8,[.int .u64 0],false⟩),
 (13,⟨.struct [(0,9),(1,12)],2,24,[.raw (.string ByteArray.empty),.int .u64 0],false⟩),
 (14,⟨.struct [(0,9),(1,12)],2,24,[.raw (.string ByteArray.empty),.int .u64 0],false⟩),
 (15,⟨.other,1,8,[.raw (.pointer none)],false⟩),
 (16,⟨.other,1,8,[.raw (.pointer none)],false⟩),
 (17,⟨.other,1,8,[.raw (.pointer none)],false⟩),
 (18,⟨.struct [(0,17)],1,8,[.raw (.pointer none)],false⟩),
 (19,⟨.struct [(0,17)],1,8,[.raw (.pointer none)],false⟩),
 (21,⟨.int .i32,1,4,[.int .i32 0],false⟩),
 (22,⟨.slice 3,1,24,[.sl false 1 []],false⟩),
 (23,⟨.other,1,8,[.raw (.nilFunc)],false⟩),
 (24,⟨.slice 38,1,24,[.sl false 3 []],false⟩),
 (25,⟨.struct [(0,3),(1,3),(2,3),(3,24),(4,24),(5,24),(6,24)],7,120,[.int .i64 0,.int .i64 0,.int .i64 0,.raw (.slice none 0 0),.raw (.slice none 0 0),.raw (.slice none 0 0),.raw (.slice none 0 0)],false⟩),
 (26,⟨.struct [(0,3),(1,3),(2,3),(3,24),(4,24),(5,24),(6,24)],7,120,[.int .i64 0,.int .i64 0,.int .i64 0,.raw (.slice none 0 0),.raw (.slice none 0 0),.raw (.slice none 0 0),.raw (.slice none 0 0)],false⟩),
 (27,⟨.other,1,8,[.raw (.nilFunc)],false⟩),
 (28,⟨.other,1,8,[.raw (.nilFunc)],false⟩),
 (29,⟨.slice 5,1,24,[.sl false 1 []],false⟩),
 (30,⟨.other,1,8,[.raw (.nilFunc)],false⟩),
 (31,⟨.other,1,8,[.raw (.nilFunc)],false⟩),
 (32,⟨.int .i64,1,8,[.int .i64 0],false⟩),
 (34,⟨.other,1,8,[.raw (.nilFunc)],false⟩),
 (35,⟨.other,1,8,[.raw (.nilFunc)],false⟩),
 (36,⟨.slice 41,1,24,[.sl false 1 []],false⟩),
 (37,⟨.struct [(0,4),(1,36),(2,36)],3,56,[.bool false,.sl false 1 [],.sl false 1 []],false⟩),
 (38,⟨.struct [(0,4),(1,36),(2,36)],3,56,[.bool false,.sl false 1 [],.sl false 1 []],false⟩),
 (39,⟨.other,1,8,[.raw (.nilFunc)],false⟩),
 (40,⟨.other,1,8,[.raw (.nilFunc)],false⟩),
 (41,⟨.int .u32,1,4,[.int .u32 0],false⟩),
 (43,⟨.other,1,8,[.raw (.nilFunc)],false⟩),
 (45,⟨.other,1,8,[.raw (.nilFunc)],false⟩),
 (46,⟨.other,1,8,[.raw (.nilFunc)],false⟩),
 (47,⟨.other,1,8,[.raw (.nilFunc)],false⟩),
 (49,⟨.other,1,8,[.raw (.nilFunc)],false⟩),
 (50,⟨.slice 61,1,24,[.sl false 1 []],false⟩),
 (52,⟨.other,1,8,[.raw (.nilFunc)],false⟩),
 (53,⟨.other,1,8,[.raw (.nilFunc)],false⟩),
 (54,⟨.other,1,8,[.raw (.nilFunc)],false⟩),
 (55,⟨.slice 24,1,24,[.sl false 1 []],false⟩),
 (56,⟨.other,1,8,[.raw (.nilFunc)],false⟩),
 (57,⟨.other,1,8,[.raw (.nilFunc)],false⟩),
 (58,⟨.other,1,8,[.raw (.nilFunc)],false⟩),
 (59,⟨.slice 63,1,24,[.sl false 2 []],false⟩),
 (60,⟨.other,1,8,[.raw (.nilFunc)],false⟩),
 (61,⟨.int .u64,1,8,[.int .u64 0],false⟩),
 (62,⟨.struct [(0,61),(1,61)],2,16,[.int .u64 0,.int .u64 0],false⟩),
 (63,⟨.struct [(0,61),(1,61)],2,16,[.int .u64 0,.int .u64 0],true⟩),
 (64,⟨.other,1,8,[.raw (.nilFunc)],false⟩),
 (65,⟨.other,1,8,[.raw (.nilFunc)],false⟩),
 (66,⟨.other,1,8,[.raw (.nilFunc)],false⟩),
 (68,⟨.other,1,8,[.raw (.nilFunc)],false⟩),
 (69,⟨.other,1,8,[.raw (.nilFunc)],false⟩),
 (70,⟨.other,1,8,[.raw (.nilFunc)],false⟩),
 (71,⟨.other,1,8,[.raw (.nilFunc)],false⟩),
 (72,⟨.other,1,8,[.raw (.nilFunc)],false⟩),
 (73,⟨.array 4 24,4,96,[.sl false 3 [],.sl false 3 [],.sl false 3 [],.sl false 3 []],false⟩),
 (74,⟨.other,1,8,[.raw (.nilFunc)],false⟩),
 (75,⟨.other,1,8,[.raw (.nilFunc)],false⟩),
 (76,⟨.struct [(0,26),(7,24)],8,144,[.int .i64 0,.int .i64 0,.int .i64 0,.sl false 3 [],.sl false 3 [],.sl false 3 [],.sl false 3 [],.sl false 3 []],false⟩),
 (77,⟨.struct [(0,26),(7,24)],8,144,[.int .i64 0,.int .i64 0,.int .i64 0,.sl false 3 [],.sl false 3 [],.sl false 3 [],.sl false 3 [],.sl false 3 []],false⟩),
 (78,⟨.other,1,8,[.raw (.nilFunc)],false⟩),
 (80,⟨.other,1,8,[.raw (.nilFunc)],false⟩),
 (81,⟨.other,1,8,[.raw (.nilFunc)],false⟩),
 (82,⟨.other,1,8,[.raw (.nilFunc)],false⟩),
 (83,⟨.other,1,8,[.raw (.nilFunc)],false⟩),
 (84,⟨.int .u64,1,8,[.int .u64 0],false⟩),
 (85,⟨.other,1,8,[.raw (.nilFunc)],false⟩),
 (86,⟨.other,1,8,[.raw (.nilFunc)],false⟩),
 (87,⟨.int .u32,1,4,[.int .u32 0],false⟩),
 (88,⟨.other,1,8,[.raw (.nilFunc)],false⟩),
 (89,⟨.other,1,8,[.raw (.nilFunc)],false⟩),
 (90,⟨.other,1,8,[.raw (.nilFunc)],false⟩),
 (91,⟨.other,1,8,[.raw (.nilFunc)],false⟩),
 (92,⟨.other,1,8,[.raw (.nilFunc)],false⟩),
 (94,⟨.other,1,8,[.raw (.nilFunc)],false⟩),
 (96,⟨.other,1,8,[.raw (.nilFunc)],false⟩),
 (97,⟨.other,1,8,[.raw (.nilFunc)],false⟩),
 (98,⟨.other,1,8,[.raw (.nilFunc)],false⟩),
 (99,⟨.other,1,8,[.raw (.nilFunc)],false⟩),
 (100,⟨.other,1,8,[.raw (.nilFunc)],false⟩),
 (101,⟨.other,1,8,[.raw (.nilFunc)],false⟩),
 (102,⟨.other,1,8,[.raw (.nilFunc)],false⟩),
 (104,⟨.other,1,8,[.raw (.nilFunc)],false⟩),
 (105,⟨.other,1,8,[.raw (.nilFunc)],false⟩),
 (106,⟨.struct [(0,4),(1,36),(2,3),(3,4)],4,48,[.bool false,.sl false 1 [],.int .i64 0,.bool false],false⟩),
 (107,⟨.struct [(0,4),(1,36),(2,3),(3,4)],4,48,[.bool false,.sl false 1 [],.int .i64 0,.bool false],false⟩),
 (108,⟨.other,1,8,[.raw (.nilFunc)],false⟩),
 (109,⟨.other,1,8,[.raw (.nilFunc)],false⟩),
 (110,⟨.other,1,8,[.raw (.nilFunc)],false⟩),
 (112,⟨.other,1,8,[.raw (.nilFunc)],false⟩),
 (113,⟨.other,1,8,[.raw (.nilFunc)],false⟩),
 (114,⟨.other,1,8,[.raw (.nilFunc)],false⟩),
 (115,⟨.other,1,8,[.raw (.nilFunc)],false⟩),
 (116,⟨.other,1,8,[.raw (.nilFunc)],false⟩),
 (117,⟨.other,1,8,[.raw (.nilFunc)],false⟩),
 (119,⟨.other,1,8,[.raw (.nilFunc)],false⟩),
 (120,⟨.other,1,8,[.raw (.nilFunc)],false⟩),
 (121,⟨.other,1,8,[.raw (.nilFunc)],false⟩),
 (122,⟨.other,1,8,[.raw (.nilFunc)],false⟩),
 (123,⟨.map 127 125,1,8,[.raw (.map none)],false⟩),
 (124,⟨.other,1,8,[.raw (.nilFunc)],false⟩),
 (125,⟨.array 3 3,3,24,[.int .i64 0,.int .i64 0,.int .i64 0],true⟩),
 (126,⟨.struct [(0,3),(1,3)],2,16,[.int .i64 0,.int .i64 0],false⟩),
 (127,⟨.struct [(0,3),(1,3)],2,16,[.int .i64 0,.int .i64 0],true⟩),
 (128,⟨.other,1,8,[.raw (.nilFunc)],false⟩),
 (129,⟨.other,1,8,[.raw (.nilFunc)],false⟩),
 (130,⟨.other,1,8,[.raw (.nilFunc)],false⟩),
 (131,⟨.other,1,8,[.raw (.nilFunc)],false⟩),
 (132,⟨.other,1,8,[.raw (.nilFunc)],false⟩),
 (133,⟨.other,1,8,[.raw (.nilFunc)],false⟩),
 (134,⟨.other,1,8,[.raw (.nilFunc)],false⟩),
 (135,⟨.other,1,8,[.raw (.nilFunc)],false⟩),
 (136,⟨.other,1,8,[.raw (.nilFunc)],false⟩),
 (137,⟨.other,1,8,[.raw (.nilFunc)],false⟩),
 (138,⟨.slice 87,1,24,[.sl false 1 []],false⟩),
 (139,⟨.other,1,8,[.raw (.nilFunc)],false⟩),
 (140,⟨.map 143 87,1,8,[.raw (.map none)],false⟩),
 (141,⟨.other,1,8,[.raw (.nilFunc)],false⟩),
 (142,⟨.struct [(0,3),(1,4)],2,16,[.int .i64 0,.bool false],false⟩),
 (143,⟨.struct [(0,3),(1,4)],2,16,[.int .i64 0,.bool false],true⟩),
 (144,⟨.other,1,8,[.raw (.nilFunc)],false⟩),
 (145,⟨.other,1,8,[.raw (.nilFunc)],false⟩),
 (146,⟨.struct [(0,4),(1,4)],2,2,[.bool false,.bool false],false⟩),
 (147,⟨.struct [(0,4),(1,4)],2,2,[.bool false,.bool false],true⟩),
 (148,⟨.other,1,8,[.raw (.nilFunc)],false⟩),
 (149,⟨.other,1,8,[.raw (.nilFunc)],false⟩),
 (150,⟨.other,1,8,[.raw (.nilFunc)],false⟩),
 (151,⟨.other,1,8,[.raw (.pointer none)],false⟩),
 (152,⟨.struct [(0,38)],3,56,[.bool false,.sl false 1 [],.sl false 1 []],false⟩),
 (153,⟨.struct [(0,38)],3,56,[.bool false,.sl false 1 [],.sl false 1 []],false⟩),
 (154,⟨.other,1,8,[.raw (.nilFunc)],false⟩),
 (155,⟨.other,1,8,[.raw (.nilFunc)],false⟩),
 (156,⟨.other,1,8,[.raw (.nilFunc)],false⟩),
 (157,⟨.other,1,8,[.raw (.nilFunc)],false⟩),
 (158,⟨.other,1,8,[.raw (.nilFunc)],false⟩),
 (159,⟨.other,1,8,[.raw (.nilFunc)],false⟩),
 (160,⟨.other,1,8,[.raw (.nilFunc)],false⟩),
 (162,⟨.other,1,8,[.raw (.nilFunc)],false⟩),
 (163,⟨.other,1,8,[.raw (.nilFunc)],false⟩),
 (165,⟨.other,1,8,[.raw (.nilFunc)],false⟩),
 (166,⟨.other,1,8,[.raw (.nilFunc)],false⟩),
 (167,⟨.struct [(0,22),(1,55),(2,55),(3,38)],6,128,[.raw (.slice none 0 0),.raw (.slice none 0 0),.raw (.slice none 0 0),.bool false,.sl false 1 [],.sl false 1 []],false⟩),
 (168,⟨.struct [(0,22),(1,55),(2,55),(3,38)],6,128,[.raw (.slice none 0 0),.raw (.slice none 0 0),.raw (.slice none 0 0),.bool false,.sl false 1 [],.sl false 1 []],false⟩),
 (170,⟨.other,1,8,[.raw (.nilFunc)],false⟩),
 (171,⟨.other,1,8,[.raw (.nilFunc)],false⟩),
 (172,⟨.map 3 129,1,8,[.raw (.map none)],false⟩),
 (175,⟨.other,1,8,[.raw (.nilFunc)],false⟩),
 (176,⟨.array 2 3,2,16,[.int .i64 0,.int .i64 0],true⟩),
 (177,⟨.array 2 3,2,16,[.int .i64 0,.int .i64 0],true⟩),
 (178,⟨.other,1,8,[.raw (.nilFunc)],false⟩),
 (179,⟨.other,1,8,[.raw (.nilFunc)],false⟩),
 (180,⟨.other,1,8,[.raw (.nilFunc)],false⟩),
 (181,⟨.array 2 138,2,48,[.sl false 1 [],.sl false 1 []],false⟩),
 (182,⟨.other,1,8,[.raw (.nilFunc)],false⟩),
 (183,⟨.other,1,8,[.raw (.nilFunc)],false⟩),
 (184,⟨.struct [(0,4),(1,3)],2,16,[.bool false,.int .i64 0],false⟩),
 (185,⟨.struct [(0,4),(1,3)],2,16,[.bool false,.int .i64 0],true⟩),
 (186,⟨.other,1,8,[.raw (.nilFunc)],false⟩),
 (188,⟨.other,1,8,[.raw (.nilFunc)],false⟩),
 (189,⟨.other,1,8,[.raw (.nilFunc)],false⟩),
 (190,⟨.other,1,8,[.raw (.nilFunc)],false⟩),
 (191,⟨.other,1,8,[.raw (.nilFunc)],false⟩),
 (192,⟨.other,1,8,[.raw (.nilFunc)],false⟩),
 (193,⟨.other,1,8,[.raw (.nilFunc)],false⟩),
 (194,⟨.other,1,8,[.raw (.nilFunc)],false⟩),
 (195,⟨.other,1,8,[.raw (.nilFunc)],false⟩),
 (196,⟨.other,1,8,[.raw (.nilFunc)],false⟩),
 (197,⟨.other,1,8,[.raw (.nilFunc)],false⟩),
 (198,⟨.other,1,8,[.raw (.nilFunc)],false⟩),
 (200,⟨.other,1,8,[.raw (.nilFunc)],false⟩),
 (201,⟨.other,1,8,[.raw (.nilFunc)],false⟩),
 (202,⟨.other,1,8,[.raw (.nilFunc)],false⟩),
 (203,⟨.other,1,8,[.raw (.nilFunc)],false⟩),
 (204,⟨.other,1,8,[.raw (.pointer none)],false⟩),
 (205,⟨.other,1,8,[.raw (.nilFunc)],false⟩),
 (206,⟨.other,1,8,[.raw (.nilFunc)],false⟩),
 (207,⟨.other,1,8,[.raw (.nilFunc)],false⟩),
 (208,⟨.struct [(0,55),(1,38)],4,80,[.raw (.slice none 0 0),.bool false,.sl false 1 [],.sl false 1 []],false⟩),
 (209,⟨.struct [(0,55),(1,38)],4,80,[.raw (.slice none 0 0),.bool false,.sl false 1 [],.sl false 1 []],false⟩),
 (210,⟨.other,1,8,[.raw (.pointer none)],false⟩),
 (211,⟨.map 218 38,1,8,[.raw (.map none)],false⟩),
 (212,⟨.struct [(0,55),(1,22),(2,211),(3,38)],6,112,[.sl false 1 [],.sl false 1 [],.raw (.map none),.bool false,.sl false 1 [],.sl false 1 []],false⟩),
 (213,⟨.struct [(0,55),(1,22),(2,211),(3,38)],6,112,[.sl false 1 [],.sl false 1 [],.raw (.map none),.bool false,.sl false 1 [],.sl false 1 []],false⟩),
 (214,⟨.other,1,8,[.raw (.nilFunc)],false⟩),
 (215,⟨.other,1,8,[.raw (.nilFunc)],false⟩),
 (216,⟨.other,1,8,[.raw (.nilFunc)],false⟩),
 (217,⟨.struct [(0,3),(1,3)],2,16,[.int .i64 0,.int .i64 0],false⟩),
 (218,⟨.struct [(0,3),(1,3)],2,16,[.int .i64 0,.int .i64 0],true⟩),
 (219,⟨.other,1,8,[.raw (.nilFunc)],false⟩),
 (220,⟨.other,1,8,[.raw (.nilFunc)],false⟩),
 (222,⟨.other,1,8,[.raw (.nilFunc)],false⟩),
 (223,⟨.array 5 61,5,40,[.int .u64 0,.int .u64 0,.int .u64 0,.int .u64 0,.int .u64 0],true⟩),
 (224,⟨.other,1,8,[.raw (.nilFunc)],false⟩),
 (225,⟨.other,1,8,[.raw (.nilFunc)],false⟩),
 (226,⟨.other,1,8,[.raw (.nilFunc)],false⟩),
 (227,⟨.other,1,8,[.raw (.nilFunc)],false⟩),
 (228,⟨.other,1,8,[.raw (.pointer none)],false⟩),
 (230,⟨.other,1,8,[.raw (.nilFunc)],false⟩),
 (231,⟨.other,1,8,[.raw (.nilFunc)],false⟩),
 (232,⟨.struct [(0,3),(1,3)],2,16,[.int .i64 0,.int .i64 0],false⟩),
 (233,⟨.struct [(0,3),(1,3)],2,16,[.int .i64 0,.int .i64 0],true⟩),
 (234,⟨.other,1,8,[.raw (.nilFunc)],false⟩),
 (235,⟨.other,1,8,[.raw (.nilFunc)],false⟩),
 (236,⟨.other,1,8,[.raw (.nilFunc)],false⟩),
 (237,⟨.other,1,8,[.raw (.nilFunc)],false⟩),
 (238,⟨.other,1,8,[.raw (.nilFunc)],false⟩),
 (239,⟨.other,1,8,[.raw (.nilFunc)],false⟩),
 (240,⟨.other,1,8,[.raw (.nilFunc)],false⟩),
 (241,⟨.slice 38,1,24,[.sl false 3 []],false⟩),
 (243,⟨.other,1,8,[.raw (.nilFunc)],false⟩),
 (244,⟨.other,1,8,[.raw (.pointer none)],false⟩),
 (245,⟨.other,1,8,[.raw (.nilFunc)],false⟩),
 (246,⟨.map 264 38,1,8,[.raw (.map none)],false⟩),
 (247,⟨.struct [(0,3),(1,246),(2,246)],3,24,[.int .i64 0,.raw (.map none),.raw (.map none)],false⟩),
 (248,⟨.struct [(0,3),(1,246),(2,246)],3,24,[.int .i64 0,.raw (.map none),.raw (.map none)],false⟩),
 (249,⟨.other,1,8,[.raw (.nilFunc)],false⟩),
 (250,⟨.other,1,8,[.raw (.nilFunc)],false⟩),
 (251,⟨.struct [(0,55),(1,24),(2,24)],3,72,[.sl false 1 [],.sl false 3 [],.sl false 3 []],false⟩),
 (252,⟨.struct [(0,55),(1,24),(2,24)],3,72,[.sl false 1 [],.sl false 3 [],.sl false 3 []],false⟩),
 (253,⟨.other,1,8,[.raw (.nilFunc)],false⟩),
 (254,⟨.other,1,8,[.raw (.nilFunc)],false⟩),
 (255,⟨.other,1,8,[.raw (.nilFunc)],false⟩),
 (256,⟨.other,1,8,[.raw (.nilFunc)],false⟩),
 (257,⟨.other,1,8,[.raw (.nilFunc)],false⟩),
 (258,⟨.map 270 38,1,8,[.raw (.map none)],false⟩),
 (259,⟨.map 270 38,1,8,[.raw (.map none)],false⟩),
 (260,⟨.struct [(0,3),(1,259),(2,259),(3,259),(4,4),(5,4)],6,40,[.int .i64 0,.raw (.map none),.raw (.map none),.raw (.map none),.bool false,.bool false],false⟩),
 (261,⟨.struct [(0,3),(1,259),(2,259),(3,259),(4,4),(5,4)],6,40,[.int .i64 0,.raw (.map none),.raw (.map none),.raw (.map none),.bool false,.bool false],false⟩),
 (263,⟨.other,1,8,[.raw (.nilFunc)],false⟩),
 (264,⟨.array 2 3,2,16,[.int .i64 0,.int .i64 0],true⟩),
 (266,⟨.array 2 3,2,16,[.int .i64 0,.int .i64 0],true⟩),
 (267,⟨.other,1,8,[.raw (.nilFunc)],false⟩),
 (268,⟨.other,1,8,[.raw (.nilFunc)],false⟩),
 (269,⟨.struct [(0,3),(1,3)],2,16,[.int .i64 0,.int .i64 0],false⟩),
 (270,⟨.struct [(0,3),(1,3)],2,16,[.int .i64 0,.int .i64 0],true⟩),
 (271,⟨.other,1,8,[.raw (.nilFunc)],false⟩),
 (272,⟨.other,1,8,[.raw (.nilFunc)],false⟩),
 (273,⟨.struct [(0,17),(1,17),(2,17),(3,9)],4,40,[.raw (.pointer none),.raw (.pointer none),.raw (.pointer none),.raw (.string ByteArray.empty)],false⟩),
 (274,⟨.struct [(0,17),(1,17),(2,17),(3,9)],4,40,[.raw (.pointer none),.raw (.pointer none),.raw (.pointer none),.raw (.string ByteArray.empty)],false⟩),
 (278,⟨.other,1,8,[.raw (.nilFunc)],false⟩),
 (279,⟨.int .u8,1,1,[.int .u8 0],false⟩),
 (280,⟨.int .u8,1,1,[.int .u8 0],false⟩),
 (281,⟨.other,1,8,[.raw (.nilFunc)],false⟩),
 (282,⟨.other,1,8,[.raw (.pointer none)],false⟩),
 (283,⟨.int .i32,1,4,[.int .i32 0],false⟩),
 (284,⟨.int .i32,1,4,[.int .i32 0],false⟩),
 (285,⟨.struct [(0,12),(1,12),(2,41),(3,279),(4,5),(5,5),(6,280),(7,281),(8,282),(9,283),(10,284)],11,48,[.int .u64 0,.int .u64 0,.int .u32 0,.int .u8 0,.int .u8 0,.int .u8 0,.int .u8 0,.raw (.nilFunc),.raw (.pointer none),.int .i32 0,.int .i32 0],false⟩),
 (286,⟨.struct [(0,12),(1,12),(2,41),(3,279),(4,5),(5,5),(6,280),(7,281),(8,282),(9,283),(10,284)],11,48,[.int .u64 0,.int .u64 0,.int .u32 0,.int .u8 0,.int .u8 0,.int .u8 0,.int .u8 0,.raw (.nilFunc),.raw (.pointer none),.int .i32 0,.int .i32 0],false⟩)]
abbrev Γ:kU:=fun t=>xo Ej t
theorem a6:fk Tryz.prog Γ:=uY (show Bn Tryz.prog Ej from
 ⟨ai (⟨_,Tryz.underlying1,trivial⟩) (by kernel_rfl) rfl rfl rfl rfl,
 ⟨ai (Tryz.underlying2) (by kernel_rfl) rfl rfl rfl rfl,
 ⟨ai (Tryz.underlying3) (by kernel_rfl) rfl rfl rfl rfl,
 ⟨ai (Tryz.underlying4) (by kernel_rfl) rfl rfl rfl rfl,
 ⟨ai (Tryz.underlying5) (by kernel_rfl) rfl rfl rfl rfl,
 ⟨ai (Tryz.underlying6) (by kernel_rfl) rfl rfl rfl rfl,
 ⟨ai (⟨_,Tryz.underlying7,rfl⟩) (by kernel_rfl) rfl rfl rfl rfl,
 ⟨ai (⟨_,Tryz.underlying8,rfl⟩) (by kernel_rfl) rfl rfl rfl rfl,
 ⟨ai (Tryz.underlying9) (by kernel_rfl) rfl rfl rfl rfl,
 ⟨ai (Tryz.underlying10) (by kernel_rfl) rfl rfl rfl rfl,
 ⟨ai (Tryz.underlying11) (by kernel_rfl) rfl rfl rfl rfl,
 ⟨ai (Tryz.underlying12) (by kernel_rfl) rfl rfl rfl rfl,
 ⟨ai (⟨_,Tryz.underlying13,rfl⟩) (by kernel_rfl) rfl rfl rfl rfl,
 ⟨ai (⟨_,Tryz.underlying14,rfl⟩) (by kernel_rfl) rfl rfl rfl rfl,
 ⟨ai (⟨_,Tryz.underlying15,trivial⟩) (by kernel_rfl) rfl rfl rfl rfl,
 ⟨ai (⟨_,Tryz.underlying16,trivial⟩) (by kernel_rfl) rfl rfl rfl rfl,
 ⟨ai (⟨_,Tryz.underlying17,trivial⟩) (by kernel_rfl) rfl rfl rfl rfl,
 ⟨ai (⟨_,Tryz.underlying18,rfl⟩) (by kernel_rfl) rfl rfl rfl rfl,
 ⟨ai (⟨_,Tryz.underlying19,rfl⟩) (by kernel_rfl) rfl rfl rfl rfl,
 ⟨ai (Tryz.underlying21) (by kernel_rfl) rfl rfl rfl rfl,
 ⟨ai (Tryz.underlying22) (by kernel_rfl) rfl rfl rfl rfl,
 ⟨ai (⟨_,Tryz.underlying23,trivial⟩) (by kernel_rfl) rfl rfl rfl rfl,
 ⟨ai (Tryz.underlying24) (by kernel_rfl) rfl rfl rfl rfl,
 ⟨ai (⟨_,Tryz.underlying25,rfl⟩) (by kernel_rfl) rfl rfl rfl rfl,
 ⟨ai (⟨_,Tryz.underlying26,rfl⟩) (by kernel_rfl) rfl rfl rfl rfl,
 ⟨ai (⟨_,Tryz.underlying27,trivial⟩) (by kernel_rfl) rfl rfl rfl rfl,
 ⟨ai (⟨_,Tryz.underlying28,trivial⟩) (by kernel_rfl) rfl rfl rfl rfl,
 ⟨ai (Tryz.underlying29) (by kernel_rfl) rfl rfl rfl rfl,
 ⟨ai (⟨_,Tryz.underlying30,trivial⟩) (by kernel_rfl) rfl rfl rfl rfl,
 ⟨ai (⟨_,Tryz.underlying31,trivial⟩) (by kernel_rfl) rfl rfl rfl rfl,
 ⟨ai (Tryz.underlying32) (by kernel_rfl) rfl rfl rfl rfl,
 ⟨ai (⟨_,Tryz.underlying34,trivial⟩) (by kernel_rfl) rfl rfl rfl rfl,
 ⟨ai (⟨_,Tryz.underlying35,trivial⟩) (by kernel_rfl) rfl rfl rfl rfl,
 ⟨ai (Tryz.underlying36) (by kernel_rfl) rfl rfl rfl rfl,
 ⟨ai (⟨_,Tryz.underlying37,rfl⟩) (by kernel_rfl) rfl rfl rfl rfl,
 ⟨ai (⟨_,Tryz.underlying38,rfl⟩) (by kernel_rfl) rfl rfl rfl rfl,
 ⟨ai (⟨_,Tryz.underlying39,trivial⟩) (by kernel_rfl) rfl rfl rfl rfl,
 ⟨ai (⟨_,Tryz.underlying40,trivial⟩) (by kernel_rfl) rfl rfl rfl rfl,
 ⟨ai (Tryz.underlying41) (by kernel_rfl) rfl rfl rfl rfl,
 ⟨ai (⟨_,Tryz.underlying43,trivial⟩) (by kernel_rfl) rfl rfl rfl rfl,
 ⟨ai (⟨_,Tryz.underlying45,trivial⟩) (by kernel_rfl) rfl rfl rfl rfl,
 ⟨ai (⟨_,Tryz.underlying46,trivial⟩) (by kernel_rfl) rfl rfl rfl rfl,
 ⟨ai (⟨_,Tryz.underlying47,trivial⟩) (by kernel_rfl) rfl rfl rfl rfl,
 ⟨ai (⟨_,Tryz.underlying49,trivial⟩) (by kernel_rfl) rfl rfl rfl rfl,
 ⟨ai (Tryz.underlying50) (by kernel_rfl) rfl rfl rfl rfl,
 ⟨ai (⟨_,Tryz.underlying52,trivial⟩) (by kernel_rfl) rfl rfl rfl rfl,
 ⟨ai (⟨_,Tryz.underlying53,trivial⟩) (by kernel_rfl) rfl rfl rfl rfl,
 ⟨ai (⟨_,Tryz.underlying54,trivial⟩) (by kernel_rfl) rfl rfl rfl rfl,
 ⟨ai (Tryz.underlying55) (by kernel_rfl) rfl rfl rfl rfl,
 ⟨ai (⟨_,Tryz.underlying56,trivial⟩) (by kernel_rfl) rfl rfl rfl rfl,
 ⟨ai (⟨_,Tryz.underlying57,trivial⟩) (by kernel_rfl) rfl rfl rfl rfl,
 ⟨ai (⟨_,Tryz.underlying58,trivial⟩) (by kernel_rfl) rfl rfl rfl rfl,
 ⟨ai (Tryz.underlying59) (by kernel_rfl) rfl rfl rfl rfl,
 ⟨ai (⟨_,Tryz.underlying60,trivial⟩) (by kernel_rfl) rfl rfl rfl rfl,
 ⟨ai (Tryz.underlying61) (by kernel_rfl) rfl rfl rfl rfl,
 ⟨ai (⟨_,Tryz.underlying62,rfl⟩) (by kernel_rfl) rfl rfl rfl rfl,
 ⟨gV (ai (⟨_,Tryz.underlying63,rfl⟩) (by kernel_rfl) rfl rfl rfl rfl) Tryz.underlying63 (by kernel_rfl) (by kernel_rfl) (.int (by decide) rfl ⟨.inr ⟨_,Tryz.underlying61⟩,_,(ai (Tryz.underlying61) (by kernel_rfl) rfl rfl rfl rfl:ed Tryz.prog 61 ⟨.int .u64,1,8,[.int .u64 0],false⟩),rfl⟩ ⟨_,Tryz.underlying61⟩ (.int (by decide) rfl ⟨.inr ⟨_,Tryz.underlying61⟩,_,(ai (Tryz.underlying61) (by kernel_rfl) rfl rfl rfl rfl:ed Tryz.prog 61 ⟨.int .u64,1,8,[.int .u64 0],false⟩),rfl⟩ ⟨_,Tryz.underlying61⟩ (.nil))),
 ⟨ai (⟨_,Tryz.underlying64,trivial⟩) (by kernel_rfl) rfl rfl rfl rfl,
 ⟨ai (⟨_,Tryz.underlying65,trivial⟩) (by kernel_rfl) rfl rfl rfl rfl,
 ⟨ai (⟨_,Tryz.underlying66,trivial⟩) (by kernel_rfl) rfl rfl rfl rfl,
 ⟨ai (⟨_,Tryz.underlying68,trivial⟩) (by kernel_rfl) rfl rfl rfl rfl,
 ⟨ai (⟨_,Tryz.underlying69,trivial⟩) (by kernel_rfl) rfl rfl rfl rfl,
 ⟨ai (⟨_,Tryz.underlying70,trivial⟩) (by kernel_rfl) rfl rfl rfl rfl,
 ⟨ai (⟨_,Tryz.underlying71,trivial⟩) (by kernel_rfl) rfl rfl rfl rfl,
 ⟨ai (⟨_,Tryz.underlying72,trivial⟩) (by kernel_rfl) rfl rfl rfl rfl,
 ⟨ai (Tryz.underlying73) (by kernel_rfl) rfl rfl rfl rfl,
 ⟨ai (⟨_,Tryz.underlying74,trivial⟩) (by kernel_rfl) rfl rfl rfl rfl,
 ⟨ai (⟨_,Tryz.underlying75,trivial⟩) (by kernel_rfl) rfl rfl rfl rfl,
 ⟨ai (⟨_,Tryz.underlying76,rfl⟩) (by kernel_rfl) rfl rfl rfl rfl,
 ⟨ai (⟨_,Tryz.underlying77,rfl⟩) (by kernel_rfl) rfl rfl rfl rfl,
 ⟨ai (⟨_,Tryz.underlying78,trivial⟩) (by kernel_rfl) rfl rfl rfl rfl,
 ⟨ai (⟨_,Tryz.underlying80,trivial⟩) (by kernel_rfl) rfl rfl rfl rfl,
 ⟨ai (⟨_,Tryz.underlying81,trivial⟩) (by kernel_rfl) rfl rfl rfl rfl,
 ⟨ai (⟨_,Tryz.underlying82,trivial⟩) (by kernel_rfl) rfl rfl rfl rfl,
 ⟨ai (⟨_,Tryz.underlying83,trivial⟩) (by kernel_rfl) rfl rfl rfl rfl,
 ⟨ai (Tryz.underlying84) (by kernel_rfl) rfl rfl rfl rfl,
 ⟨ai (⟨_,Tryz.underlying85,trivial⟩) (by kernel_rfl) rfl rfl rfl rfl,
 ⟨ai (⟨_,Tryz.underlying86,trivial⟩) (by kernel_rfl) rfl rfl rfl rfl,
 ⟨ai (Tryz.underlying87) (by kernel_rfl) rfl rfl rfl rfl,
 ⟨ai (⟨_,Tryz.underlying88,trivial⟩) (by kernel_rfl) rfl rfl rfl rfl,
 ⟨ai (⟨_,Tryz.underlying89,trivial⟩) (by kernel_rfl) rfl rfl rfl rfl,
 ⟨ai (⟨_,Tryz.underlying90,trivial⟩) (by kernel_rfl) rfl rfl rfl rfl,
 ⟨ai (⟨_,Tryz.underlying91,trivial⟩) (by kernel_rfl) rfl rfl rfl rfl,
 ⟨ai (⟨_,Tryz.underlying92,trivial⟩) (by kernel_rfl) rfl rfl rfl rfl,
 ⟨ai (⟨_,Tryz.underlying94,trivial⟩) (by kernel_rfl) rfl rfl rfl rfl,
 ⟨ai (⟨_,Tryz.underlying96,trivial⟩) (by kernel_rfl) rfl rfl rfl rfl,
 ⟨ai (⟨_,Tryz.underlying97,trivial⟩) (by kernel_rfl) rfl rfl rfl rfl,
 ⟨ai (⟨_,Tryz.underlying98,trivial⟩) (by kernel_rfl) rfl rfl rfl rfl,
 ⟨ai (⟨_,Tryz.underlying99,trivial⟩) (by kernel_rfl) rfl rfl rfl rfl,
 ⟨ai (⟨_,Tryz.underlying100,trivial⟩) (by kernel_rfl) rfl rfl rfl rfl,
 ⟨ai (⟨_,Tryz.underlying101,trivial⟩) (by kernel_rfl) rfl rfl rfl rfl,
 ⟨ai (⟨_,Tryz.underlying102,trivial⟩) (by kernel_rfl) rfl rfl rfl rfl,
 ⟨ai (⟨_,Tryz.underlying104,trivial⟩) (by kernel_rfl) rfl rfl rfl rfl,
 ⟨ai (⟨_,Tryz.underlying105,trivial⟩) (by kernel_rfl) rfl rfl rfl rfl,
 ⟨ai (⟨_,Tryz.underlying106,rfl⟩) (by kernel_rfl) rfl rfl rfl rfl,
 ⟨ai (⟨_,Tryz.underlying107,rfl⟩) (by kernel_rfl) rfl rfl rfl rfl,
 ⟨ai (⟨_,Tryz.underlying108,trivial⟩) (by kernel_rfl) rfl rfl rfl rfl,
 ⟨ai (⟨_,Tryz.underlying109,trivial⟩) (by kernel_rfl) rfl rfl rfl rfl,
 ⟨ai (⟨_,Tryz.underlying110,trivial⟩) (by kernel_rfl) rfl rfl rfl rfl,
 ⟨ai (⟨_,Tryz.underlying112,trivial⟩) (by kernel_rfl) rfl rfl rfl rfl,
 ⟨ai (⟨_,Tryz.underlying113,trivial⟩) (by kernel_rfl) rfl rfl rfl rfl,
 ⟨ai (⟨_,Tryz.underlying114,trivial⟩) (by kernel_rfl) rfl rfl rfl rfl,
 ⟨ai (⟨_,Tryz.underlying115,trivial⟩) (by kernel_rfl) rfl rfl rfl rfl,
 ⟨ai (⟨_,Tryz.underlying116,trivial⟩) (by kernel_rfl) rfl rfl rfl rfl,
 ⟨ai (⟨_,Tryz.underlying117,trivial⟩) (by kernel_rfl) rfl rfl rfl rfl,
 ⟨ai (⟨_,Tryz.underlying119,trivial⟩) (by kernel_rfl) rfl rfl rfl rfl,
 ⟨ai (⟨_,Tryz.underlying120,trivial⟩) (by kernel_rfl) rfl rfl rfl rfl,
 ⟨ai (⟨_,Tryz.underlying121,trivial⟩) (by kernel_rfl) rfl rfl rfl rfl,
 ⟨ai (⟨_,Tryz.underlying122,trivial⟩) (by kernel_rfl) rfl rfl rfl rfl,
 ⟨ai (Tryz.underlying123) (by kernel_rfl) rfl rfl rfl rfl,
 ⟨ai (⟨_,Tryz.underlying124,trivial⟩) (by kernel_rfl) rfl rfl rfl rfl,
 ⟨iR (ai (Tryz.underlying125) (by kernel_rfl) rfl rfl rfl rfl) Tryz.underlying125 (by kernel_rfl) ⟨.inr ⟨_,Tryz.underlying3⟩,_,(ai (Tryz.underlying3) (by kernel_rfl) rfl rfl rfl rfl:ed Tryz.prog 3 ⟨.int .i64,1,8,[.int .i64 0],false⟩),rfl⟩ Tryz.underlying3 (by kernel_rfl) rfl,
 ⟨ai (⟨_,Tryz.underlying126,rfl⟩) (by kernel_rfl) rfl rfl rfl rfl,
 ⟨gV (ai (⟨_,Tryz.underlying127,rfl⟩) (by kernel_rfl) rfl rfl rfl rfl) Tryz.underlying127 (by kernel_rfl) (by kernel_rfl) (.int (by decide) rfl ⟨.inr ⟨_,Tryz.underlying3⟩,_,(ai (Tryz.underlying3) (by kernel_rfl) rfl rfl rfl rfl:ed Tryz.prog 3 ⟨.int .i64,1,8,[.int .i64 0],false⟩),rfl⟩ ⟨_,Tryz.underlying3⟩ (.int (by decide) rfl ⟨.inr ⟨_,Tryz.underlying3⟩,_,(ai (Tryz.underlying3) (by kernel_rfl) rfl rfl rfl rfl:ed Tryz.prog 3 ⟨.int .i64,1,8,[.int .i64 0],false⟩),rfl⟩ ⟨_,Tryz.underlying3⟩ (.nil))),
 ⟨ai (⟨_,Tryz.underlying128,trivial⟩) (by kernel_rfl) rfl rfl rfl rfl,
 ⟨ai (⟨_,Tryz.underlying129,trivial⟩) (by kernel_rfl) rfl rfl rfl rfl,
 ⟨ai (⟨_,Tryz.underlying130,trivial⟩) (by kernel_rfl) rfl rfl rfl rfl,
 ⟨ai (⟨_,Tryz.underlying131,trivial⟩) (by kernel_rfl) rfl rfl rfl rfl,
 ⟨ai (⟨_,Tryz.underlying132,trivial⟩) (by kernel_rfl) rfl rfl rfl rfl,
 ⟨ai (⟨_,Tryz.underlying133,trivial⟩) (by kernel_rfl) rfl rfl rfl rfl,
 ⟨ai (⟨_,Tryz.underlying134,trivial⟩) (by kernel_rfl) rfl rfl rfl rfl,
 ⟨ai (⟨_,Tryz.underlying135,trivial⟩) (by kernel_rfl) rfl rfl rfl rfl,
 ⟨ai (⟨_,Tryz.underlying136,trivial⟩) (by kernel_rfl) rfl rfl rfl rfl,
 ⟨ai (⟨_,Tryz.underlying137,trivial⟩) (by kernel_rfl) rfl rfl rfl rfl,
 ⟨ai (Tryz.underlying138) (by kernel_rfl) rfl rfl rfl rfl,
 ⟨ai (⟨_,Tryz.underlying139,trivial⟩) (by kernel_rfl) rfl rfl rfl rfl,
 ⟨ai (Tryz.underlying140) (by kernel_rfl) rfl rfl rfl rfl,
 ⟨ai (⟨_,Tryz.underlying141,trivial⟩) (by kernel_rfl) rfl rfl rfl rfl,
 ⟨ai (⟨_,Tryz.underlying142,rfl⟩) (by kernel_rfl) rfl rfl rfl rfl,
 ⟨gV (ai (⟨_,Tryz.underlying143,rfl⟩) (by kernel_rfl) rfl rfl rfl rfl) Tryz.underlying143 (by kernel_rfl) (by kernel_rfl) (.int (by decide) rfl ⟨.inr ⟨_,Tryz.underlying3⟩,_,(ai (Tryz.underlying3) (by kernel_rfl) rfl rfl rfl rfl:ed Tryz.prog 3 ⟨.int .i64,1,8,[.int .i64 0],false⟩),rfl⟩ ⟨_,Tryz.underlying3⟩ (.bool (by decide) rfl ⟨.inl Tryz.underlying4,_,(ai (Tryz.underlying4) (by kernel_rfl) rfl rfl rfl rfl:ed Tryz.prog 4 ⟨.bool,1,1,[.bool false],false⟩),rfl⟩ Tryz.underlying4 (.nil))),
 ⟨ai (⟨_,Tryz.underlying144,trivial⟩) (by kernel_rfl) rfl rfl rfl rfl,
 ⟨ai (⟨_,Tryz.underlying145,trivial⟩) (by kernel_rfl) rfl rfl rfl rfl,
 ⟨ai (⟨_,Tryz.underlying146,rfl⟩) (by kernel_rfl) rfl rfl rfl rfl,
 ⟨gV (ai (⟨_,Tryz.underlying147,rfl⟩) (by kernel_rfl) rfl rfl rfl rfl) Tryz.underlying147 (by kernel_rfl) (by kernel_rfl) (.bool (by decide) rfl ⟨.inl Tryz.underlying4,_,(ai (Tryz.underlying4) (by kernel_rfl) rfl rfl rfl rfl:ed Tryz.prog 4 ⟨.bool,1,1,[.bool false],false⟩),rfl⟩ Tryz.underlying4 (.bool (by decide) rfl ⟨.inl Tryz.underlying4,_,(ai (Tryz.underlying4) (by kernel_rfl) rfl rfl rfl rfl:ed Tryz.prog 4 ⟨.bool,1,1,[.bool false],false⟩),rfl⟩ Tryz.underlying4 (.nil))),
 ⟨ai (⟨_,Tryz.underlying148,trivial⟩) (by kernel_rfl) rfl rfl rfl rfl,
 ⟨ai (⟨_,Tryz.underlying149,trivial⟩) (by kernel_rfl) rfl rfl rfl rfl,
 ⟨ai (⟨_,Tryz.underlying150,trivial⟩) (by kernel_rfl) rfl rfl rfl rfl,
 ⟨ai (⟨_,Tryz.underlying151,trivial⟩) (by kernel_rfl) rfl rfl rfl rfl,
 ⟨ai (⟨_,Tryz.underlying152,rfl⟩) (by kernel_rfl) rfl rfl rfl rfl,
 ⟨ai (⟨_,Tryz.underlying153,rfl⟩) (by kernel_rfl) rfl rfl rfl rfl,
 ⟨ai (⟨_,Tryz.underlying154,trivial⟩) (by kernel_rfl) rfl rfl rfl rfl,
 ⟨ai (⟨_,Tryz.underlying155,trivial⟩) (by kernel_rfl) rfl rfl rfl rfl,
 ⟨ai (⟨_,Tryz.underlying156,trivial⟩) (by kernel_rfl) rfl rfl rfl rfl,
 ⟨ai (⟨_,Tryz.underlying157,trivial⟩) (by kernel_rfl) rfl rfl rfl rfl,
 ⟨ai (⟨_,Tryz.underlying158,trivial⟩) (by kernel_rfl) rfl rfl rfl rfl,
 ⟨ai (⟨_,Tryz.underlying159,trivial⟩) (by kernel_rfl) rfl rfl rfl rfl,
 ⟨ai (⟨_,Tryz.underlying160,trivial⟩) (by kernel_rfl) rfl rfl rfl rfl,
 ⟨ai (⟨_,Tryz.underlying162,trivial⟩) (by kernel_rfl) rfl rfl rfl rfl,
 ⟨ai (⟨_,Tryz.underlying163,trivial⟩) (by kernel_rfl) rfl rfl rfl rfl,
 ⟨ai (⟨_,Tryz.underlying165,trivial⟩) (by kernel_rfl) rfl rfl rfl rfl,
 ⟨ai (⟨_,Tryz.underlying166,trivial⟩) (by kernel_rfl) rfl rfl rfl rfl,
 ⟨ai (⟨_,Tryz.underlying167,rfl⟩) (by kernel_rfl) rfl rfl rfl rfl,
 ⟨ai (⟨_,Tryz.underlying168,rfl⟩) (by kernel_rfl) rfl rfl rfl rfl,
 ⟨ai (⟨_,Tryz.underlying170,trivial⟩) (by kernel_rfl) rfl rfl rfl rfl,
 ⟨ai (⟨_,Tryz.underlying171,trivial⟩) (by kernel_rfl) rfl rfl rfl rfl,
 ⟨ai (Tryz.underlying172) (by kernel_rfl) rfl rfl rfl rfl,
 ⟨ai (⟨_,Tryz.underlying175,trivial⟩) (by kernel_rfl) rfl rfl rfl rfl,
 ⟨iR (ai (Tryz.underlying176) (by kernel_rfl) rfl rfl rfl rfl) Tryz.underlying176 (by kernel_rfl) ⟨.inr ⟨_,Tryz.underlying3⟩,_,(ai (Tryz.underlying3) (by kernel_rfl) rfl rfl rfl rfl:ed Tryz.prog 3 ⟨.int .i64,1,8,[.int .i64 0],false⟩),rfl⟩ Tryz.underlying3 (by kernel_rfl) rfl,
 ⟨iR (ai (Tryz.underlying177) (by kernel_rfl) rfl rfl rfl rfl) Tryz.underlying177 (by kernel_rfl) ⟨.inr ⟨_,Tryz.underlying3⟩,_,(ai (Tryz.underlying3) (by kernel_rfl) rfl rfl rfl rfl:ed Tryz.prog 3 ⟨.int .i64,1,8,[.int .i64 0],false⟩),rfl⟩ Tryz.underlying3 (by kernel_rfl) rfl,
 ⟨ai (⟨_,Tryz.underlying178,trivial⟩) (by kernel_rfl) rfl rfl rfl rfl,
 ⟨ai (⟨_,Tryz.underlying179,trivial⟩) (by kernel_rfl) rfl rfl rfl rfl,
 ⟨ai (⟨_,Tryz.underlying180,trivial⟩) (by kernel_rfl) rfl rfl rfl rfl,
 ⟨ai (Tryz.underlying181) (by kernel_rfl) rfl rfl rfl rfl,
 ⟨ai (⟨_,Tryz.underlying182,trivial⟩) (by kernel_rfl) rfl rfl rfl rfl,
 ⟨ai (⟨_,Tryz.underlying183,trivial⟩) (by kernel_rfl) rfl rfl rfl rfl,
 ⟨ai (⟨_,Tryz.underlying184,rfl⟩) (by kernel_rfl) rfl rfl rfl rfl,
 ⟨gV (ai (⟨_,Tryz.underlying185,rfl⟩) (by kernel_rfl) rfl rfl rfl rfl) Tryz.underlying185 (by kernel_rfl) (by kernel_rfl) (.bool (by decide) rfl ⟨.inl Tryz.underlying4,_,(ai (Tryz.underlying4) (by kernel_rfl) rfl rfl rfl rfl:ed Tryz.prog 4 ⟨.bool,1,1,[.bool false],false⟩),rfl⟩ Tryz.underlying4 (.int (by decide) rfl ⟨.inr ⟨_,Tryz.underlying3⟩,_,(ai (Tryz.underlying3) (by kernel_rfl) rfl rfl rfl rfl:ed Tryz.prog 3 ⟨.int .i64,1,8,[.int .i64 0],false⟩),rfl⟩ ⟨_,Tryz.underlying3⟩ (.nil))),
 ⟨ai (⟨_,Tryz.underlying186,trivial⟩) (by kernel_rfl) rfl rfl rfl rfl,
 ⟨ai (⟨_,Tryz.underlying188,trivial⟩) (by kernel_rfl) rfl rfl rfl rfl,
 ⟨ai (⟨_,Tryz.underlying189,trivial⟩) (by kernel_rfl) rfl rfl rfl rfl,
 ⟨ai (⟨_,Tryz.underlying190,trivial⟩) (by kernel_rfl) rfl rfl rfl rfl,
 ⟨ai (⟨_,Tryz.underlying191,trivial⟩) (by kernel_rfl) rfl rfl rfl rfl,
 ⟨ai (⟨_,Tryz.underlying192,trivial⟩) (by kernel_rfl) rfl rfl rfl rfl,
 ⟨ai (⟨_,Tryz.underlying193,trivial⟩) (by kernel_rfl) rfl rfl rfl rfl,
 ⟨ai (⟨_,Tryz.underlying194,trivial⟩) (by kernel_rfl) rfl rfl rfl rfl,
 ⟨ai (⟨_,Tryz.underlying195,trivial⟩) (by kernel_rfl) rfl rfl rfl rfl,
 ⟨ai (⟨_,Tryz.underlying196,trivial⟩) (by kernel_rfl) rfl rfl rfl rfl,
 ⟨ai (⟨_,Tryz.underlying197,trivial⟩) (by kernel_rfl) rfl rfl rfl rfl,
 ⟨ai (⟨_,Tryz.underlying198,trivial⟩) (by kernel_rfl) rfl rfl rfl rfl,
 ⟨ai (⟨_,Tryz.underlying200,trivial⟩) (by kernel_rfl) rfl rfl rfl rfl,
 ⟨ai (⟨_,Tryz.underlying201,trivial⟩) (by kernel_rfl) rfl rfl rfl rfl,
 ⟨ai (⟨_,Tryz.underlying202,trivial⟩) (by kernel_rfl) rfl rfl rfl rfl,
 ⟨ai (⟨_,Tryz.underlying203,trivial⟩) (by kernel_rfl) rfl rfl rfl rfl,
 ⟨ai (⟨_,Tryz.underlying204,trivial⟩) (by kernel_rfl) rfl rfl rfl rfl,
 ⟨ai (⟨_,Tryz.underlying205,trivial⟩) (by kernel_rfl) rfl rfl rfl rfl,
 ⟨ai (⟨_,Tryz.underlying206,trivial⟩) (by kernel_rfl) rfl rfl rfl rfl,
 ⟨ai (⟨_,Tryz.underlying207,trivial⟩) (by kernel_rfl) rfl rfl rfl rfl,
 ⟨ai (⟨_,Tryz.underlying208,rfl⟩) (by kernel_rfl) rfl rfl rfl rfl,
 ⟨ai (⟨_,Tryz.underlying209,rfl⟩) (by kernel_rfl) rfl rfl rfl rfl,
 ⟨ai (⟨_,Tryz.underlying210,trivial⟩) (by kernel_rfl) rfl rfl rfl rfl,
 ⟨ai (Tryz.underlying211) (by kernel_rfl) rfl rfl rfl rfl,
 ⟨ai (⟨_,Tryz.underlying212,rfl⟩) (by kernel_rfl) rfl rfl rfl rfl,
 ⟨ai (⟨_,Tryz.underlying213,rfl⟩) (by kernel_rfl) rfl rfl rfl rfl,
 ⟨ai (⟨_,Tryz.underlying214,trivial⟩) (by kernel_rfl) rfl rfl rfl rfl,
 ⟨ai (⟨_,Tryz.underlying215,trivial⟩) (by kernel_rfl) rfl rfl rfl rfl,
 ⟨ai (⟨_,Tryz.underlying216,trivial⟩) (by kernel_rfl) rfl rfl rfl rfl,
 ⟨ai (⟨_,Tryz.underlying217,rfl⟩) (by kernel_rfl) rfl rfl rfl rfl,
 ⟨gV (ai (⟨_,Tryz.underlying218,rfl⟩) (by kernel_rfl) rfl rfl rfl rfl) Tryz.underlying218 (by kernel_rfl) (by kernel_rfl) (.int (by decide) rfl ⟨.inr ⟨_,Tryz.underlying3⟩,_,(ai (Tryz.underlying3) (by kernel_rfl) rfl rfl rfl rfl:ed Tryz.prog 3 ⟨.int .i64,1,8,[.int .i64 0],false⟩),rfl⟩ ⟨_,Tryz.underlying3⟩ (.int (by decide) rfl ⟨.inr ⟨_,Tryz.underlying3⟩,_,(ai (Tryz.underlying3) (by kernel_rfl) rfl rfl rfl rfl:ed Tryz.prog 3 ⟨.int .i64,1,8,[.int .i64 0],false⟩),rfl⟩ ⟨_,Tryz.underlying3⟩ (.nil))),
 ⟨ai (⟨_,Tryz.underlying219,trivial⟩) (by kernel_rfl) rfl rfl rfl rfl,
 ⟨ai (⟨_,Tryz.underlying220,trivial⟩) (by kernel_rfl) rfl rfl rfl rfl,
 ⟨ai (⟨_,Tryz.underlying222,trivial⟩) (by kernel_rfl) rfl rfl rfl rfl,
 ⟨iR (ai (Tryz.underlying223) (by kernel_rfl) rfl rfl rfl rfl) Tryz.underlying223 (by kernel_rfl) ⟨.inr ⟨_,Tryz.underlying61⟩,_,(ai (Tryz.underlying61) (by kernel_rfl) rfl rfl rfl rfl:ed Tryz.prog 61 ⟨.int .u64,1,8,[.int .u64 0],false⟩),rfl⟩ Tryz.underlying61 (by kernel_rfl) rfl,
 ⟨ai (⟨_,Tryz.underlying224,trivial⟩) (by kernel_rfl) rfl rfl rfl rfl,
 ⟨ai (⟨_,Tryz.underlying225,trivial⟩) (by kernel_rfl) rfl rfl rfl rfl,
 ⟨ai (⟨_,Tryz.underlying226,trivial⟩) (by kernel_rfl) rfl rfl rfl rfl,
 ⟨ai (⟨_,Tryz.underlying227,trivial⟩) (by kernel_rfl) rfl rfl rfl rfl,
 ⟨ai (⟨_,Tryz.underlying228,trivial⟩) (by kernel_rfl) rfl rfl rfl rfl,
 ⟨ai (⟨_,Tryz.underlying230,trivial⟩) (by kernel_rfl) rfl rfl rfl rfl,
 ⟨ai (⟨_,Tryz.underlying231,trivial⟩) (by kernel_rfl) rfl rfl rfl rfl,
 ⟨ai (⟨_,Tryz.underlying232,rfl⟩) (by kernel_rfl) rfl rfl rfl rfl,
 ⟨gV (ai (⟨_,Tryz.underlying233,rfl⟩) (by kernel_rfl) rfl rfl rfl rfl) Tryz.underlying233 (by kernel_rfl) (by kernel_rfl) (.int (by decide) rfl ⟨.inr ⟨_,Tryz.underlying3⟩,_,(ai (Tryz.underlying3) (by kernel_rfl) rfl rfl rfl rfl:ed Tryz.prog 3 ⟨.int .i64,1,8,[.int .i64 0],false⟩),rfl⟩ ⟨_,Tryz.underlying3⟩ (.int (by decide) rfl ⟨.inr ⟨_,Tryz.underlying3⟩,_,(ai (Tryz.underlying3) (by kernel_rfl) rfl rfl rfl rfl:ed Tryz.prog 3 ⟨.int .i64,1,8,[.int .i64 0],false⟩),rfl⟩ ⟨_,Tryz.underlying3⟩ (.nil))),
 ⟨ai (⟨_,Tryz.underlying234,trivial⟩) (by kernel_rfl) rfl rfl rfl rfl,
 ⟨ai (⟨_,Tryz.underlying235,trivial⟩) (by kernel_rfl) rfl rfl rfl rfl,
 ⟨ai (⟨_,Tryz.underlying236,trivial⟩) (by kernel_rfl) rfl rfl rfl rfl,
 ⟨ai (⟨_,Tryz.underlying237,trivial⟩) (by kernel_rfl) rfl rfl rfl rfl,
 ⟨ai (⟨_,Tryz.underlying238,trivial⟩) (by kernel_rfl) rfl rfl rfl rfl,
 ⟨ai (⟨_,Tryz.underlying239,trivial⟩) (by kernel_rfl) rfl rfl rfl rfl,
 ⟨ai (⟨_,Tryz.underlying240,trivial⟩) (by kernel_rfl) rfl rfl rfl rfl,
 ⟨ai (Tryz.underlying241) (by kernel_rfl) rfl rfl rfl rfl,
 ⟨ai (⟨_,Tryz.underlying243,trivial⟩) (by kernel_rfl) rfl rfl rfl rfl,
 ⟨ai (⟨_,Tryz.underlying244,trivial⟩) (by kernel_rfl) rfl rfl rfl rfl,
 ⟨ai (⟨_,Tryz.underlying245,trivial⟩) (by kernel_rfl) rfl rfl rfl rfl,
 ⟨ai (Tryz.underlying246) (by kernel_rfl) rfl rfl rfl rfl,
 ⟨ai (⟨_,Tryz.underlying247,rfl⟩) (by kernel_rfl) rfl rfl rfl rfl,
 ⟨ai (⟨_,Tryz.underlying248,rfl⟩) (by kernel_rfl) rfl rfl rfl rfl,
 ⟨ai (⟨_,Tryz.underlying249,trivial⟩) (by kernel_rfl) rfl rfl rfl rfl,
 ⟨ai (⟨_,Tryz.underlying250,trivial⟩) (by kernel_rfl) rfl rfl rfl rfl,
 ⟨ai (⟨_,Tryz.underlying251,rfl⟩) (by kernel_rfl) rfl rfl rfl rfl,
 ⟨ai (⟨_,Tryz.underlying252,rfl⟩) (by kernel_rfl) rfl rfl rfl rfl,
 ⟨ai (⟨_,Tryz.underlying253,trivial⟩) (by kernel_rfl) rfl rfl rfl rfl,
 ⟨ai (⟨_,Tryz.underlying254,trivial⟩) (by kernel_rfl) rfl rfl rfl rfl,
 ⟨ai (⟨_,Tryz.underlying255,trivial⟩) (by kernel_rfl) rfl rfl rfl rfl,
 ⟨ai (⟨_,Tryz.underlying256,trivial⟩) (by kernel_rfl) rfl rfl rfl rfl,
 ⟨ai (⟨_,Tryz.underlying257,trivial⟩) (by kernel_rfl) rfl rfl rfl rfl,
 ⟨ai (Tryz.underlying258) (by kernel_rfl) rfl rfl rfl rfl,
 ⟨ai (Tryz.underlying259) (by kernel_rfl) rfl rfl rfl rfl,
 ⟨ai (⟨_,Tryz.underlying260,rfl⟩) (by kernel_rfl) rfl rfl rfl rfl,
 ⟨ai (⟨_,Tryz.underlying261,rfl⟩) (by kernel_rfl) rfl rfl rfl rfl,
 ⟨ai (⟨_,Tryz.underlying263,trivial⟩) (by kernel_rfl) rfl rfl rfl rfl,
 ⟨iR (ai (Tryz.underlying264) (by kernel_rfl) rfl rfl rfl rfl) Tryz.underlying264 (by kernel_rfl) ⟨.inr ⟨_,Tryz.underlying3⟩,_,(ai (Tryz.underlying3) (by kernel_rfl) rfl rfl rfl rfl:ed Tryz.prog 3 ⟨.int .i64,1,8,[.int .i64 0],false⟩),rfl⟩ Tryz.underlying3 (by kernel_rfl) rfl,
 ⟨iR (ai (Tryz.underlying266) (by kernel_rfl) rfl rfl rfl rfl) Tryz.underlying266 (by kernel_rfl) ⟨.inr ⟨_,Tryz.underlying3⟩,_,(ai (Tryz.underlying3) (by kernel_rfl) rfl rfl rfl rfl:ed Tryz.prog 3 ⟨.int .i64,1,8,[.int .i64 0],false⟩),rfl⟩ Tryz.underlying3 (by kernel_rfl) rfl,
 ⟨ai (⟨_,Tryz.underlying267,trivial⟩) (by kernel_rfl) rfl rfl rfl rfl,
 ⟨ai (⟨_,Tryz.underlying268,trivial⟩) (by kernel_rfl) rfl rfl rfl rfl,
 ⟨ai (⟨_,Tryz.underlying269,rfl⟩) (by kernel_rfl) rfl rfl rfl rfl,
 ⟨gV (ai (⟨_,Tryz.underlying270,rfl⟩) (by kernel_rfl) rfl rfl rfl rfl) Tryz.underlying270 (by kernel_rfl) (by kernel_rfl) (.int (by decide) rfl ⟨.inr ⟨_,Tryz.underlying3⟩,_,(ai (Tryz.underlying3) (by kernel_rfl) rfl rfl rfl rfl:ed Tryz.prog 3 ⟨.int .i64,1,8,[.int .i64 0],false⟩),rfl⟩ ⟨_,Tryz.underlying3⟩ (.int (by decide) rfl ⟨.inr ⟨_,Tryz.underlying3⟩,_,(ai (Tryz.underlying3) (by kernel_rfl) rfl rfl rfl rfl:ed Tryz.prog 3 ⟨.int .i64,1,8,[.int .i64 0],false⟩),rfl⟩ ⟨_,Tryz.underlying3⟩ (.nil))),
 ⟨ai (⟨_,Tryz.underlying271,trivial⟩) (by kernel_rfl) rfl rfl rfl rfl,
 ⟨ai (⟨_,Tryz.underlying272,trivial⟩) (by kernel_rfl) rfl rfl rfl rfl,
 ⟨ai (⟨_,Tryz.underlying273,rfl⟩) (by kernel_rfl) rfl rfl rfl rfl,
 ⟨ai (⟨_,Tryz.underlying274,rfl⟩) (by kernel_rfl) rfl rfl rfl rfl,
 ⟨ai (⟨_,Tryz.underlying278,trivial⟩) (by kernel_rfl) rfl rfl rfl rfl,
 ⟨ai (Tryz.underlying279) (by kernel_rfl) rfl rfl rfl rfl,
 ⟨ai (Tryz.underlying280) (by kernel_rfl) rfl rfl rfl rfl,
 ⟨ai (⟨_,Tryz.underlying281,trivial⟩) (by kernel_rfl) rfl rfl rfl rfl,
 ⟨ai (⟨_,Tryz.underlying282,trivial⟩) (by kernel_rfl) rfl rfl rfl rfl,
 ⟨ai (Tryz.underlying283) (by kernel_rfl) rfl rfl rfl rfl,
 ⟨ai (Tryz.underlying284) (by kernel_rfl) rfl rfl rfl rfl,
 ⟨ai (⟨_,Tryz.underlying285,rfl⟩) (by kernel_rfl) rfl rfl rfl rfl,
 ⟨ai (⟨_,Tryz.underlying286,rfl⟩) (by kernel_rfl) rfl rfl rfl rfl,trivial⟩⟩⟩⟩⟩⟩⟩⟩⟩⟩⟩⟩⟩⟩⟩⟩⟩⟩⟩⟩⟩⟩⟩⟩⟩⟩⟩⟩⟩⟩⟩⟩⟩⟩⟩⟩⟩⟩⟩⟩⟩⟩⟩⟩⟩⟩⟩⟩⟩⟩⟩⟩⟩⟩⟩⟩⟩⟩⟩⟩⟩⟩⟩⟩⟩⟩⟩⟩⟩⟩⟩⟩⟩⟩⟩⟩⟩⟩⟩⟩⟩⟩⟩⟩⟩⟩⟩⟩⟩⟩⟩⟩⟩⟩⟩⟩⟩⟩⟩⟩⟩⟩⟩⟩⟩⟩⟩⟩⟩⟩⟩⟩⟩⟩⟩⟩⟩⟩⟩⟩⟩⟩⟩⟩⟩⟩⟩⟩⟩⟩⟩⟩⟩⟩⟩⟩⟩⟩⟩⟩⟩⟩⟩⟩⟩⟩⟩⟩⟩⟩⟩⟩⟩⟩⟩⟩⟩⟩⟩⟩⟩⟩⟩⟩⟩⟩⟩⟩⟩⟩⟩⟩⟩⟩⟩⟩⟩⟩⟩⟩⟩⟩⟩⟩⟩⟩⟩⟩⟩⟩⟩⟩⟩⟩⟩⟩⟩⟩⟩⟩⟩⟩⟩⟩⟩⟩⟩⟩⟩⟩⟩⟩⟩⟩⟩⟩⟩⟩⟩⟩⟩⟩⟩⟩⟩⟩⟩⟩⟩⟩⟩⟩⟩⟩⟩⟩⟩⟩⟩⟩⟩⟩⟩⟩⟩⟩⟩⟩⟩⟩⟩⟩⟩⟩⟩⟩⟩⟩)
abbrev bF (l:List Nat):List PV:=l.map fun(x:Nat)=>.int .u32 x
abbrev dB (l:List Int):List PV:=l.map fun x=>.int .i64 x
abbrev a9:FuncId->Bool:=fun _=>false
theorem mixed:Tryz.prog.follows .mixedOrders=true:=by kernel_rfl
theorem kV {a b:Int} (h:a=b):(a==b)=true:=beq_iff_eq.2 h
theorem kL {a b:Int} (h:a≠b):(a==b)=false:=beq_eq_false_iff_ne.2 h
theorem vK {a b:Int} (h:a≠b):(a !=b)=true:=bne_iff_ne.2 h
theorem f0 {a b:Int} (h:a=b):(a !=b)=false:=by rw[h];exact bne_self_eq_false b
theorem af {a b:Nat} (h:Nat.ble a b=true):a<=b:=Nat.le_of_ble_eq_true h
theorem jx (k:IntKind) (hs:k.signed=false) (e:Int):k.wrap e=e%2^k.bits:=by
 simp only[IntKind.wrap,hs,Bool.false_and,if_neg Bool.false_ne_true]
theorem ae.u64 {e:Int} {K:Int->Prop} (h:0<=e/\e<18446744073709551616) (hk:K e):ae .u64 e K:=.mk e (by rw[jx _ rfl];exact Int.emod_eq_of_lt h.1 h.2) hk
theorem ae.Fv {e:Int} {K:Int->Prop} (hk:K (e%18446744073709551616)):ae .u64 e K:=.mk _ (by rw[jx _ rfl];rfl) hk
theorem ae.ao {e:Int} {K:Int->Prop} (z:Int) (hz:e=z) (h: -9223372036854775808<=z/\z<9223372036854775808) (hk:K z):ae .i64 e K:=.mk z (by rw[IntKind.wrap_i64];omega) hk
theorem ae.cy {e:Int} {K:Int->Prop} (z:Nat) (hz:e=z) (h:z<18446744073709551616) (hk:K z):ae .u64 e K:=.mk z (by rw[jx _ rfl,hz];exact Int.emod_eq_of_lt (by omega) (by show(z:Int)<18446744073709551616;omega)) hk
theorem ae.fo {e:Int} {K:Int->Prop} (z:Nat) (hz:e%4294967296=z) (hk:K z):ae .u32 e K:=.mk z (by rw[jx _ rfl];exact hz) hk
theorem ae.x5 {e:Int} {K:Int->Prop} (z:Nat) (hz:e%18446744073709551616=z) (hk:K z):ae .u64 e K:=.mk z (by rw[jx _ rfl];exact hz) hk
theorem aG.lb {l:List Nat} {i:Int} {K:Nat->PV->Prop} (j:Nat) (hi:i=j) (hj:j<l.length) (hk:K j (.int .u32 ((l.getD j 0:Nat):Int))):aG (bF l) i K:=
 .mk j _ hi (by simp[List.getElem?_map,List.getElem?_eq_getElem hj,List.getD]) hk
theorem aG.ib {l:List Int} {i:Int} {K:Nat->PV->Prop} (j:Nat) (hi:i=j) (hj:j<l.length) (hk:K j (.int .i64 (l.getD j 0))):aG (dB l) i K:=
 .mk j _ hi (by simp[List.getElem?_map,List.getElem?_eq_getElem hj,List.getD]) hk
@[simp] theorem aC.GF {T:TypeId} {W:Nat} {es:List PV}:(aC.vec T W es).top= .vec T W es:=rfl
@[simp] theorem aC.Gz {T:TypeId} {cs:List AV}:(aC.box T cs).top= .box T cs:=rfl
@[simp] theorem aC.FN {T:TypeId} {cs:List AV}:(aC.rows T cs).top= .rows T cs:=rfl
@[simp] theorem aC.GG {es:List (PV×PV)}:(aC.map es).top= .map es:=rfl
@[simp] theorem aC.Gn:aC.dead.top= .dead:=rfl
theorem b6 (h:Hd):look [] h= .free:=by cases h<;>rfl
theorem aq.pure {av r:AV} {H:Hp} (h:Conv [] H av r):aq [] av H r []:=
 .mk [] rfl List.nodup_nil rfl (Nat.le_refl _) (fun h hl=>by rw[b6]at hl;exact hl.elim) (fun h hl=>absurd (b6 h) hl) (fun i h B e=>by simp at e) h
theorem fF {a:Nat} {K:Int->Prop} (hk:K ((a/4294967296:Nat):Int)):sr 32 (SZ ((a:Int).fdiv (2^(min (32:Int).toNat (IntKind.bits .u64)))) K):=
 .mk (by decide) (.mk _ (by
  show Int.fdiv (a:Int) 4294967296=_
  rw[Int.fdiv_eq_ediv_of_nonneg _ (by decide)];omega) hk)
theorem vo {a:Nat} {K:Int->Prop} (hk:K ((a/9223372036854775808:Nat):Int)):sr 63 (SZ ((a:Int).fdiv (2^(min (63:Int).toNat (IntKind.bits .u64)))) K):=
 .mk (by decide) (.mk _ (by
  show Int.fdiv (a:Int) 9223372036854775808=_
  rw[Int.fdiv_eq_ediv_of_nonneg _ (by decide)];omega) hk)
theorem bp.all {es:List PV} {n:Nat} {K:List PV->Prop} (hn:n=es.length) (hk:K es):bp es 0 n K:=.mk es (by rw[List.drop_zero];exact List.take_of_length_le (by omega)) (by omega) hk
theorem cH.set {l:List Nat} {i x:Nat} {K:List PV->Prop} (hk:K (bF (l.set i x))):cH ((bF l).set i (.int .u32 x)) K:=.mk _ (by simp[bF,List.map_set]) hk
theorem bT.set {l:List Nat} {i:Nat} {K:Prop} (h:i<l.length) (hk:K):bT i (bF l).length K:=.mk (by simpa using h) hk
theorem aG.rN {l:List Nat} {i:Nat} {K:Nat->PV->Prop} (hj:i<l.length) (hk:K i (.int .u32 ((l.getD i 0:Nat):Int))):aG (bF l) (i:Int) K:=.lb i rfl hj hk
theorem bI (n:Nat):List.replicate n (PV.int .u32 0)=bF (List.replicate n 0):=by simp[bF]
theorem bV.u32 {n:Int} {K:Nat->Prop} (j:Nat) (hi:n=j) (h:j<=4398046511104) (hk:K j):bV n 4 K:=.mk j hi (by omega) (by omega) hk
theorem ab.pure {P:Program} {wr:Bool} {f:FuncId} {L:Hd->aC} {base:Nat} {K:AV->List (Hd×aC)->Prop} {raw:List AV} {pvs:List PV} {r:PV} (hc:au P f pvs (.p r) []) (hk:K (.p r) []):ab P wr f raw (pvs.map .p) L base K:=
 .mk [] (pvs.map .p) (.p r) [] [] (fun _=>rfl) .nil (fun _ h=>by simp at h) (by rw[AV.bJ,List.map_map];exact List.map_congr_left fun _ _=>rfl) rfl (fun i h B e=>by simp at e) (fun _ h=>by simp at h) (fun _ h=>by simp at h) (Nat.zero_le _) (fun _ h=>by simp at h)
  (fun a ha k hk=>by obtain⟨v,_,rfl⟩:=List.mem_map.1 ha;simp only[AV.aU]at hk) hc hk
section

def nv:List Nat->Nat
 |[]=>0
 |x::l=>x+4294967296*nv l
def fV (l:List Nat):Prop:=∀x∈l,x<4294967296
def nl (n:Nat):List Nat:=if h:n=0 then[]else n%4294967296::nl (n/4294967296)
decreasing_by exact Nat.div_lt_self (by omega) (by omega)
theorem cr:nl 0=[]:=by rw[nl];rfl
theorem fC {n:Nat} (h:n≠0):nl n=n%4294967296::nl (n/4294967296):=by rw[nl];simp[h]
theorem fV.nil:fV []:=fun _ h=>by simp at h
theorem fV.cons {x:Nat} {l:List Nat} (h:x<4294967296) (hl:fV l):fV (x::l):=fun y hy=>by
 rcases List.mem_cons.1 hy with rfl|hy
 ·exact h
 ·exact hl y hy
theorem fV.tail {x:Nat} {l:List Nat} (h:fV (x::l)):fV l:=fun y hy=>h y (List.mem_cons_of_mem _ hy)
theorem fV.head {x:Nat} {l:List Nat} (h:fV (x::l)):x<4294967296:=h x List.mem_cons_self
theorem bR:∀n,fV (nl n):=by
 intro n
 induction n using Nat.strongRecOn with
 |_ n ih=>
  by_cases h:n=0
  ·subst h;rw[cr];exact .nil
  ·rw[fC h];exact .cons (Nat.mod_lt _ (by omega)) (ih _ (Nat.div_lt_self (by omega) (by omega)))
theorem sQ:∀n,nv (nl n)=n:=by
 intro n
 induction n using Nat.strongRecOn with
 |_ n ih=>
  by_cases h:n=0
  ·subst h;rw[cr];rfl
  ·rw[fC h,nv,ih _ (Nat.div_lt_self (by omega) (by omega))];omega
theorem tH {l:List Nat}:nv l=0↔∀x∈l,x=0:=by
 induction l with
 |nil=>simp[nv]
 |cons x l ih=>
  simp only[nv,List.mem_cons,forall_eq_or_imp,<-ih]
  omega
theorem tU {l:List Nat} (h:fV l):nv l<4294967296^l.length:=by
 induction l with
 |nil=>simp[nv]
 |cons x l ih=>
  have:=ih h.tail
  have hx:=h.head
  rw[List.length_cons,Nat.pow_succ,nv]
  omega
theorem FM {l:List Nat} (h:fV l) (hl:l=[]\/l.getD (l.length-1) 0≠0):nl (nv l)=l:=by
 induction l with
 |nil=>exact cr
 |cons x l ih=>
  have hx:=h.head
  rcases hl with hl|hl
  ·cases hl
  cases l with
  |nil=>
   simp only[nv]
   have hx0:x≠0:=by simpa using hl
   rw[fC (by omega),show(x+4294967296*0)/4294967296=0 by omega,cr,show(x+4294967296*0)%4294967296=x by omega]
  |cons y l=>
   have ih:=ih h.tail (.inr (by simpa using hl))
   have hne:nv (y::l)≠0:=by
    intro e
    rw[e,cr]at ih
    cases ih
   rw[nv]
   generalize nv (y::l)=m at ih hne
   rw[fC (by omega),show(x+4294967296*m)/4294967296=m by omega,show(x+4294967296*m)%4294967296=x by omega,ih]
theorem jX (l l':List Nat):nv (l++l')=nv l+4294967296^l.length*nv l':=by
 induction l with
 |nil=>simp[nv]
 |cons x l ih=>
  simp only[List.cons_append,nv,ih,List.length_cons,Nat.pow_succ]
  rw[Nat.mul_add,Nat.add_assoc,<-Nat.mul_assoc,Nat.mul_comm (4294967296^l.length) 4294967296]
theorem kY {n:Nat} (h:n≠0):(nl n).getD ((nl n).length-1) 0≠0:=by
 induction n using Nat.strongRecOn with
 |_ n ih=>
  rw[fC h]
  by_cases e:n/4294967296=0
  ·rw[e,cr]
   simp
   omega
  ·have:=ih _ (Nat.div_lt_self (by omega) (by omega)) e
   rw[List.length_cons]
   have hl:(nl (n/4294967296)).length≠0:=by rw[fC e];simp
   obtain⟨k,hk⟩:=Nat.exists_eq_succ_of_ne_zero hl
   rw[hk]at this⊢
   simpa using this
theorem E1 {n:Nat}:nl n=[]↔n=0:=by
 constructor
 ·intro h
  by_cases e:n=0
  ·exact e
  ·rw[fC e]at h;cases h
 ·intro h;rw[h,cr]
abbrev aL (n:Nat):Nat:=(nl n).length
theorem aR {n:Nat}:aL n=0↔n=0:=by rw[aL,List.length_eq_zero_iff,E1]
theorem cj (n:Nat):n<4294967296^aL n:=by
 have:=tU (bR n)
 rwa[sQ]at this
theorem dz {n k:Nat} (h:n<4294967296^k):aL n<=k:=by
 induction k generalizing n with
 |zero=>
  have:n=0:=by simpa using h
  subst this;rw[aL,cr];simp
 |succ k ih=>
  by_cases e:n=0
  ·subst e;rw[aL,cr];simp
  ·rw[aL,fC e,List.length_cons]
   have:n/4294967296<4294967296^k:=by rw[Nat.pow_succ]at h;omega
   have:=ih this
   simp only[aL]at this
   omega
theorem dt {a b:Nat} (h:a<=b):aL a<=aL b:=dz (Nat.lt_of_le_of_lt h (cj b))
theorem BW (a b:Nat):aL (a*b)<=aL a+aL b:=dz (by
 rw[Nat.pow_add]
 exact Nat.mul_lt_mul'' (cj a) (cj b))
theorem o9 (a b:Nat):aL (a+b)<=max (aL a) (aL b)+1:=dz (by
 have h1:=cj a
 have h2:=cj b
 have m1:4294967296^aL a<=4294967296^max (aL a) (aL b):=Nat.pow_le_pow_right (by omega) (Nat.le_max_left _ _)
 have m2:4294967296^aL b<=4294967296^max (aL a) (aL b):=Nat.pow_le_pow_right (by omega) (Nat.le_max_right _ _)
 rw[Nat.pow_succ]
 omega)
theorem tu {n:Nat} (h:n≠0):4294967296^(aL n-1)<=n:=by
 rcases Nat.lt_or_ge n (4294967296^(aL n-1))with hlt|hge
 ·have:=dz hlt
  have h0:aL n≠0:=fun e=>h (aR.1 e)
  omega
 ·exact hge
theorem gg {l:List Nat} (h:fV l) (i:Nat):l.getD i 0=nv l/4294967296^i%4294967296:=by
 induction l generalizing i with
 |nil=>simp[nv]
 |cons x l ih=>
  have hx:=h.head
  cases i with
  |zero=>simp[nv];omega
  |succ i=>
   rw[List.getD_cons_succ,ih h.tail,Nat.pow_succ,Nat.mul_comm,<-Nat.div_div_eq_div_mul,nv]
   rw[show(x+4294967296*nv l)/4294967296=nv l by omega]
theorem bD {l:List Nat} (h:fV l) (i:Nat):l.getD i 0<4294967296:=by
 rw[gg h];exact Nat.mod_lt _ (by omega)
theorem bO (n i:Nat):(nl n).getD i 0=n/4294967296^i%4294967296:=by rw[gg (bR n),sQ]
theorem Gu (l:List Nat) (h:fV l) (i:Nat):nv (l.take i)=nv l%4294967296^i:=by
 induction l generalizing i with
 |nil=>simp[nv]
 |cons x l ih=>
  have hx:=h.head
  cases i with
  |zero=>simp[nv,Nat.mod_one]
  |succ i=>
   rw[List.take_succ_cons,nv,ih h.tail,nv,Nat.pow_succ,Nat.mul_comm (4294967296^i),Nat.mod_mul,show(x+4294967296*nv l)/4294967296=nv l by omega,show(x+4294967296*nv l)%4294967296=x by omega]
theorem ie (l:List Nat) (i x:Nat) (h:i<l.length):nv (l.set i x)+4294967296^i*l.getD i 0=nv l+4294967296^i*x:=by
 induction l generalizing i with
 |nil=>simp at h
 |cons y l ih=>
  cases i with
  |zero=>simp[nv];omega
  |succ i=>
   have:=ih i (by simpa using h)
   simp only[List.set_cons_succ,nv,List.getD_cons_succ,Nat.pow_succ]
   generalize hA:4294967296^i=A at this⊢
   have e1:A*4294967296*l.getD i 0=4294967296*(A*l.getD i 0):=by rw[Nat.mul_comm A,Nat.mul_assoc]
   have e2:A*4294967296*x=4294967296*(A*x):=by rw[Nat.mul_comm A,Nat.mul_assoc]
   rw[e1,e2]
   omega
theorem c7 (n:Nat):nv (List.replicate n 0)=0:=by
 rw[tH];intro x hx;exact(List.mem_replicate.1 hx).2
theorem fV.replicate (n:Nat):fV (List.replicate n 0):=fun x hx=>by rw[(List.mem_replicate.1 hx).2];omega
theorem fV.set {l:List Nat} (h:fV l) {i x:Nat} (hx:x<4294967296):fV (l.set i x):=fun y hy=>by
 rcases List.mem_or_eq_of_mem_set hy with hy|hy
 ·exact h y hy
 ·rw[hy];exact hx
theorem fV.take {l:List Nat} (h:fV l) (n:Nat):fV (l.take n):=fun x hx=>h x (List.mem_of_mem_take hx)
end
theorem aP (l:List Nat):∀e∈bF l,∀c∈e.cells,bZ c:=by
 intro e he c hc
 obtain⟨x,_,rfl⟩:=List.mem_map.1 he
 obtain rfl:=List.mem_singleton.1 hc
 exact .int _ _
abbrev bK (m:Bool) (n:Nat):PV:=.sl m 1 (bF (nl n))
abbrev bC (n:Nat):PV:=bK false n
theorem qK {H:Hp} {h:Nat} {l:List Nat} {T:TypeId} {n:Nat} (hB:look H h= .vec T 1 (bF l)) (hn:n=l.length):Conv [] H (.vec h 1 0 n) (.p (.sl false 1 (bF l))):=
 .ze hB (by simp) (by simp[hn]) (aP l) (by rw[List.drop_zero];exact List.take_of_length_le (by simp[hn]))
theorem iy (m:Bool) (l:List Nat) (hl:l.length<=1099511627776):au Tryz.prog 48 [.sl m 1 (bF l)] (.p (.sl false 1 (bF l))) []:=by
 refine aa (wr:=a9) a6 mixed Tryz.func48 (by kernel_rfl) rfl (by kernel_rfl) (af rfl) (by simp) ?_
 refine m9.mk (fun h=>?_) (fun h=>⟨?_,?_⟩)
 ·refine ck.mk (by simp;omega) (by simp;omega) ?_
  exact aq.pure (qK rfl (by simp))
 ·have:l=[]:=List.length_eq_zero_iff.1 (by simpa using h)
  subst this
  exact aq.pure (.emp _)
 ·refine ck.mk (by simp;omega) (by simp;omega) ?_
  exact aq.pure (qK rfl (by simp))
theorem kk (m:Bool) (l:List Nat) (h:fV l) (i:Int):au Tryz.prog 175 [.sl m 1 (bF l),.int .i64 i] (.p (.int .u64 (if 0<=i then((l.getD i.toNat 0:Nat):Int)else 0))) []:=by
 refine aa (wr:=a9) a6 mixed Tryz.func175 (by kernel_rfl) rfl (by kernel_rfl) (af rfl) (by simp) ?_
 by_cases h1:i>=0
 ·refine ag.yes (by simpa using h1) ?_
  refine SZ.mk l.length (by simp) ?_
  rw[if_pos (by omega)]
  by_cases h2:i<l.length
  ·refine ag.yes (by simpa using h2) ?_
   refine aG.lb i.toNat (by omega) (by omega) ?_
   have:=bD h i.toNat
   refine ae.u64 (by omega) ?_
   exact aq.pure (.p _ (.int _ _))
  ·refine ag.no (by simpa using h2) ?_
   rw[dI l 0 (by omega)]
   exact aq.pure (.p _ (.int _ _))
 ·refine ag.no (by simpa using h1) ?_
  rw[if_neg (by omega)]
  exact aq.pure (.p _ (.int _ _))
theorem xx {l:List Nat} (h:fV l) {n:Nat} (hn:n<=l.length) (h1:nv (l.take n)=nv l) (h2:n=0\/l.getD (n-1) 0≠0):l.take n=nl (nv l):=by
 rw[<-h1]
 refine(FM (h.take n) ?_).symm
 rcases h2 with h2|h2
 ·left;rw[h2];rfl
 ·right
  have hl:(l.take n).length=n:=by simp;omega
  rw[hl]
  by_cases h0:n=0
  ·subst h0
   rcases l with _|⟨x,l⟩
   ·exact(h2 rfl).elim
   ·simp[nv]at h1 h2;omega
  ·have:(l.take n).getD (n-1) 0=l.getD (n-1) 0:=by simp[List.getD,show n-1<n by omega]
   rw[this];exact h2
theorem lj {l:List Nat} {n:Nat} (h0:n≠0) (hn:n<=l.length) (hz:l.getD (n-1) 0=0):nv (l.take (n-1))=nv (l.take n):=by
 obtain⟨k,rfl⟩:=Nat.exists_eq_succ_of_ne_zero h0
 have hk:k<l.length:=by omega
 have:l.take (k+1)=l.take k++[l.getD k 0]:=by
  rw[List.take_add_one];simp[List.getD,List.getElem?_eq_getElem hk]
 simp only[Nat.succ_eq_add_one,Nat.add_sub_cancel]at hz⊢
 rw[this,jX,hz]
 simp[nv]
theorem im (m:Bool) (l:List Nat) (h:fV l) (hl:l.length<=1099511627776):au Tryz.prog 120 [.sl m 1 (bF l)] (.p (bC (nv l))) []:=by
 refine aa (wr:=a9) a6 mixed Tryz.func120 (by kernel_rfl) rfl (by kernel_rfl) (af rfl) (by simp) ?_
 refine SZ.mk l.length (by simp) ?_
 refine aM.mk Nat (fun n=>([(0,.p (.sl m 1 (bF l))),(3,.p (.int .i64 n))],[])) (fun n=>n<=l.length/\nv (l.take n)=nv l) id l.length [] ⟨Nat.le_refl _,by simp⟩
  ⟨rfl,.nil,rfl,rfl,rfl,⟨rfl,rfl,trivial⟩,trivial⟩ ?_
 intro n ⟨hn,hv⟩
 have done:(n=0\/l.getD (n-1) 0≠0)->_:=fun h2=>xx h hn hv h2
 by_cases h0:n=0
 ·refine ag.no (decide_eq_false (by omega)) ?_
  refine SZ.mk n rfl ?_
  refine bT.mk (by simp) ?_
  refine fp.mk 0 n rfl rfl (by omega) (by simp;omega) ?_
  refine BE.sl ?_
  refine cH.mk (bF (nl (nv l))) (by rw[<-done (.inl h0)];simp[List.map_take]) ?_
  refine ab.pure (iy m (nl (nv l)) (by rw[<-done (.inl h0)];simp;omega)) ?_
  exact aq.pure (.p _ (.sl _ _ (aP _)))
 ·refine ag.yes (decide_eq_true (by omega)) ?_
  refine ae.ao ((n-1:Nat):Int) (by omega) (by omega) ?_
  refine aG.lb (n-1) rfl (by omega) ?_
  by_cases h1:l.getD (n-1) 0=0
  ·refine ag.yes (kV (by omega)) ?_
   refine ae.ao ((n-1:Nat):Int) (by omega) (by omega) ?_
   exact⟨n-1,[],⟨by omega,(lj h0 hn h1).trans hv⟩,by simp;omega,⟨rfl,.nil,rfl,rfl,rfl,⟨rfl,rfl,trivial⟩,trivial⟩⟩
  ·refine ag.no (kL (by omega)) ?_
   refine SZ.mk n rfl ?_
   refine bT.mk (by simp) ?_
   refine fp.mk 0 n rfl rfl (by omega) (by simp;omega) ?_
   refine BE.sl ?_
   refine cH.mk (bF (nl (nv l))) (by rw[<-done (.inr h1)];simp[List.map_take]) ?_
   refine ab.pure (iy m (nl (nv l)) (by rw[<-done (.inr h1)];simp;omega)) ?_
   exact aq.pure (.p _ (.sl _ _ (aP _)))
theorem tF (v:Nat) (hv:v<18446744073709551616):au Tryz.prog 52 [.int .u64 v] (.p (bC v)) []:=by
 refine aa (wr:=a9) a6 mixed Tryz.func52 (by kernel_rfl) rfl (by kernel_rfl) (af rfl) (by simp) ?_
 refine ae.fo (v%4294967296) (by omega) ?_
 refine fF ?_
 refine ae.fo (v/4294967296) (by omega) ?_
 refine bp.all rfl ?_
 refine ab.pure (im true [v%4294967296,v/4294967296] (.cons (by omega) (.cons (by omega) .nil)) (by simp)) ?_
 have:nv [v%4294967296,v/4294967296]=v:=by simp only[nv];omega
 rw[this]
 exact aq.pure (.p _ (.sl _ _ (aP _)))
theorem bP (k:Nat):0<4294967296^k:=Nat.pow_pos (by omega)
theorem rJ {l:List Nat} {i:Nat} (h:i<l.length):nv (l.take (i+1))=nv (l.take i)+4294967296^i*l.getD i 0:=by
 have:l.take (i+1)=l.take i++[l.getD i 0]:=by
  rw[List.take_add_one];simp[List.getD,List.getElem?_eq_getElem h]
 rw[this,jX]
 simp[nv,Nat.min_eq_left (Nat.le_of_lt h)]
theorem pW (l:List Nat) (i x:Nat):(l.set i x).take i=l.take i:=by
 rw[List.take_set_of_le (Nat.le_refl _)]
theorem yc {l:List Nat} {i x:Nat} (h:i<l.length):(l.set i x).getD i 0=x:=by simp[List.getD,h]
theorem c9 {l:List Nat} {i x:Nat} (h:i<l.length):nv ((l.set i x).take (i+1))=nv (l.take i)+4294967296^i*x:=by
 rw[rJ (by simpa using h),pW,yc h]
theorem dn (n L:Nat) (h:aL n<=L):n%4294967296^L=n:=Nat.mod_eq_of_lt (Nat.lt_of_lt_of_le (cj n) (Nat.pow_le_pow_right (by omega) h))
theorem tW {p x c c' t A B:Nat} (h1:t+c*p=A%p+B%p) (h2:c+A/p%4294967296+B/p%4294967296=x+4294967296*c'):(t+p*x)+c'*(p*4294967296)=A%(p*4294967296)+B%(p*4294967296):=by
 rw[Nat.mod_mul,Nat.mod_mul]
 grind
theorem EV (m m':Bool) (a b:Nat) (ha:aL a<=549755813887) (hb:aL b<=549755813887):au Tryz.prog 137 [bK m a,bK m' b] (.p (bC (a+b))) []:=by
 refine aa (wr:=a9) a6 mixed Tryz.func137 (by kernel_rfl) rfl (by kernel_rfl) (af rfl) (by simp) ?_
 obtain⟨L,hL⟩:∃L,L=max (aL a) (aL b)+1:=⟨_,rfl⟩
 refine SZ.mk (aL a) (by simp) ?_
 refine SZ.mk (aL b) (by simp) ?_
 refine SZ.mk ((max (aL a) (aL b):Nat):Int) (by show(if((aL b:Nat):Int)>((aL a:Nat):Int)then _ else _)=_;split<;>omega) ?_
 refine ae.ao (L:Int) (by omega) (by omega) ?_
 refine SZ.mk L rfl ?_
 refine bT.mk (by simp) ?_
 refine bV.u32 L rfl (by omega) ?_
 refine SZ.mk L rfl ?_
 refine aM.mk (Nat×Nat×List Nat) (fun(i,c,out)=>([(0,.p (bK m a)),(1,.p (bK m' b)),(5,.vec 0 1 0 L),(6,.p (.int .u64 c)),(16,.p (.int .i64 L)),(17,.p (.int .i64 i))],[.vec 41 1 (bF out)]))
  (fun(i,c,out)=>i<=L/\c<=1/\out.length=L/\fV out/\nv (out.take i)+c*4294967296^i=a%4294967296^i+b%4294967296^i) (fun x=>L-x.1) (0,0,List.replicate L 0) [0]
  ⟨Nat.zero_le _,by simp,by simp,.replicate _,by simp[nv,Nat.mod_one]⟩
  ⟨rfl,by simp,rfl,rfl,rfl,⟨rfl,rfl,rfl,rfl,rfl,rfl,trivial⟩,⟨congrArg _ (bI L).symm,trivial⟩⟩ ?_
 intro⟨i,c,out⟩ ⟨h1,h2,h3,h4,h5⟩
 by_cases hi:i<L
 ·refine ag.yes (decide_eq_true (by omega)) ?_
  refine ab.pure (kk m (nl a) (bR a) i) ?_
  refine ab.pure (kk m' (nl b) (bR b) i) ?_
  rw[if_pos (by omega),if_pos (by omega),Int.toNat_natCast]
  have e1:=bO a i
  have e2:=bO b i
  have l1:(nl a).getD i 0<4294967296:=bD (bR a) i
  have l2:(nl b).getD i 0<4294967296:=bD (bR b) i
  generalize hx:(nl a).getD i 0=x at e1 l1⊢
  generalize hy:(nl b).getD i 0=y at e2 l2⊢
  refine ae.cy (x+y) (by omega) (by omega) ?_
  refine ae.cy (c+(x+y)) (by omega) (by omega) ?_
  refine ae.fo ((c+(x+y))%4294967296) (by omega) ?_
  refine aI.mk i rfl hi ?_
  refine bT.set (by omega) ?_
  refine cH.set ?_
  refine fF ?_
  refine ae.ao ((i+1:Nat):Int) (by omega) (by omega) ?_
  refine⟨(i+1,(c+(x+y))/4294967296,out.set i ((c+(x+y))%4294967296)),[0],⟨hi,by omega,by simpa using h3,h4.set (Nat.mod_lt _ (by omega)),?_⟩,by show L-(i+1)<L-i;omega,⟨rfl,by simp,rfl,rfl,rfl,⟨rfl,rfl,rfl,rfl,rfl,rfl,trivial⟩,⟨rfl,trivial⟩⟩⟩
  rw[c9 (by omega),Nat.pow_succ]
  exact tW h5 (by rw[<-e1,<-e2];omega)
 ·refine ag.no (decide_eq_false (by omega)) ?_
  have hiL:i=L:=by omega
  subst hiL
  have hlt:a+b<4294967296^i:=by
   have:=cj (a+b)
   have h:=o9 a b
   exact Nat.lt_of_lt_of_le this (Nat.pow_le_pow_right (by omega) (by omega))
  rw[dn a i (by omega),dn b i (by omega),List.take_of_length_le (by omega)]at h5
  have hc:c=0:=by
   rcases Nat.eq_zero_or_pos c with h|h
   ·exact h
   ·have:1*4294967296^i<=c*4294967296^i:=Nat.mul_le_mul_right _ h
    omega
  subst hc
  have hv:nv out=a+b:=by omega
  refine bp.all (by simpa using h3.symm) ?_
  refine ab.pure (im true out h4 (by omega)) ?_
  rw[hv]
  exact aq.pure (.p _ (.sl _ _ (aP _)))
def cP (a b:Nat):Int:=if a<b then-1 else if a=b then 0 else 1
theorem iW {a b:Nat} (h:aL a<aL b):a<b:=by
 rcases Nat.lt_or_ge a b with h'|h'
 ·exact h'
 ·have:=dt h';omega
theorem k8 {a b i:Nat} (h:a/4294967296^(i+1)=b/4294967296^(i+1)) (hlt:a/4294967296^i%4294967296<b/4294967296^i%4294967296):a<b:=by
 have e:∀n:Nat,n/4294967296^i=n/4294967296^(i+1)*4294967296+n/4294967296^i%4294967296:=fun n=>by
  rw[Nat.pow_succ,<-Nat.div_div_eq_div_mul];omega
 have h1:a/4294967296^i<b/4294967296^i:=by rw[e a,e b,h];omega
 rcases Nat.lt_or_ge a b with h'|h'
 ·exact h'
 ·have:=Nat.div_le_div_right (c:=4294967296^i) h';omega
theorem tG {a b i:Nat} (h:a/4294967296^(i+1)=b/4294967296^(i+1)) (he:a/4294967296^i%4294967296=b/4294967296^i%4294967296):a/4294967296^i=b/4294967296^i:=by
 have e:∀n:Nat,n/4294967296^i=n/4294967296^(i+1)*4294967296+n/4294967296^i%4294967296:=fun n=>by
  rw[Nat.pow_succ,<-Nat.div_div_eq_div_mul];omega
 rw[e a,e b,h,he]
theorem mw (m m':Bool) (a b:Nat) (ha:aL a<=549755813888) (hb:aL b<=549755813888):au Tryz.prog 99 [bK m a,bK m' b] (.p (.int .i64 (cP a b))) []:=by
 refine aa (wr:=a9) a6 mixed Tryz.func99 (by kernel_rfl) rfl (by kernel_rfl) (af rfl) (by simp) ?_
 refine SZ.mk (aL a) (by simp) ?_
 refine SZ.mk (aL b) (by simp) ?_
 by_cases hne:aL a=aL b
 ·refine ag.no (f0 (by omega)) ?_
  refine SZ.mk (aL a) (by simp) ?_
  refine ae.ao ((aL a:Int)-1) rfl (by omega) ?_
  refine aM.mk Nat (fun i=>([(0,.p (bK m a)),(1,.p (bK m' b)),(5,.p (.int .i64 ((i:Int)-1)))],[])) (fun i=>i<=aL a/\a/4294967296^i=b/4294967296^i) id (aL a) []
   ⟨Nat.le_refl _,by rw[Nat.div_eq_of_lt (cj a),hne,Nat.div_eq_of_lt (cj b)]⟩ ⟨rfl,.nil,rfl,rfl,rfl,⟨rfl,rfl,rfl,trivial⟩,trivial⟩ ?_
  intro i ⟨h1,h2⟩
  by_cases h0:i=0
  ·refine ag.no (decide_eq_false (by omega)) ?_
   subst h0
   have:a=b:=by simpa using h2
   refine aq.pure ?_
   rw[show cP a b=0 by simp[cP,this]]
   exact .p _ (.int _ _)
  ·refine ag.yes (decide_eq_true (by omega)) ?_
   obtain⟨i,rfl⟩:=Nat.exists_eq_succ_of_ne_zero h0
   refine aO.mk (by kernel_rfl) ?_
   have e1:=bO a i
   have e2:=bO b i
   have q1:(nl a).length=aL a:=rfl
   have q2:(nl b).length=aL b:=rfl
   iterate 2 refine aj.mk _ _ (And.intro rfl rfl) rfl ?_
   refine aj.mk _ _ (aG.lb i (by omega) (by omega) (And.intro rfl rfl)) rfl ?_
   iterate 3 refine aj.mk _ _ (And.intro rfl rfl) rfl ?_
   refine aj.mk _ _ (aG.lb i (by omega) (by omega) (And.intro rfl rfl)) rfl ?_
   refine aj.mk _ _ (And.intro rfl rfl) rfl ?_
   generalize hx:(nl a).getD i 0=x at e1⊢
   generalize hy:(nl b).getD i 0=y at e2⊢
   by_cases hxy:x=y
   ·refine aj.mk _ _ (ag.no (f0 (by omega)) (And.intro rfl rfl)) rfl ?_
    refine ae.ao ((i:Int)-1) (by omega) (by omega) ?_
    exact⟨i,[],⟨by omega,tG h2 (by rw[<-e1,<-e2];exact hxy)⟩,Nat.lt_succ_self i,⟨rfl,.nil,rfl,rfl,rfl,⟨rfl,rfl,rfl,trivial⟩,trivial⟩⟩
   ·refine aj.mk _ _ (ag.yes (vK (by omega)) (And.intro rfl rfl)) rfl ?_
    refine aO.mk (by kernel_rfl) ?_
    iterate 2 refine aj.mk _ _ (And.intro rfl rfl) rfl ?_
    refine aj.mk _ _ (aG.lb i (by omega) (by omega) (And.intro rfl rfl)) rfl ?_
    iterate 3 refine aj.mk _ _ (And.intro rfl rfl) rfl ?_
    refine aj.mk _ _ (aG.lb i (by omega) (by omega) (And.intro rfl rfl)) rfl ?_
    refine aj.mk _ _ (And.intro rfl rfl) rfl ?_
    rw[hx,hy]
    by_cases hlt:x<y
    ·refine aj.mk _ _ (ag.yes (decide_eq_true (by omega)) (And.intro rfl rfl)) rfl ?_
     refine aq.pure ?_
     rw[show cP a b= -1 by simp[cP,k8 h2 (by rw[<-e1,<-e2];exact hlt)]]
     exact .p _ (.int _ _)
    ·refine aj.mk _ _ (ag.no (decide_eq_false (by omega)) (And.intro rfl rfl)) rfl ?_
     refine aq.pure ?_
     have:b<a:=k8 h2.symm (by rw[<-e1,<-e2];omega)
     rw[show cP a b=1 by simp[cP,show ¬a<b by omega,show a≠b by omega]]
     exact .p _ (.int _ _)
 ·refine ag.yes (vK (by omega)) ?_
  refine SZ.mk (aL a) (by simp) ?_
  refine SZ.mk (aL b) (by simp) ?_
  by_cases hlt:aL a<aL b
  ·refine ag.yes (decide_eq_true (by omega)) ?_
   refine aq.pure ?_
   rw[show cP a b= -1 by simp[cP,iW hlt]]
   exact .p _ (.int _ _)
  ·refine ag.no (decide_eq_false (by omega)) ?_
   refine aq.pure ?_
   have:b<a:=iW (by omega)
   rw[show cP a b=1 by simp[cP,show ¬a<b by omega,show a≠b by omega]]
   exact .p _ (.int _ _)
theorem tz {p x y c t A B d:Nat} (hx:A/p%4294967296=x) (hy:B/p%4294967296=y) (h1:t+B%p=A%p+c*p) (h2:x+4294967296*(d/9223372036854775808)=d%4294967296+y+c):
  (t+p*(d%4294967296))+B%(p*4294967296)=A%(p*4294967296)+(d/9223372036854775808)*(p*4294967296):=by
 rw[Nat.mod_mul,Nat.mod_mul,hx,hy]
 grind
theorem wg (m m':Bool) (a b:Nat) (ha:aL a<=549755813888) (hb:aL b<=549755813888):
  au Tryz.prog 138 [bK m a,bK m' b] (if b<=a then .bq [.p (bC (a-b)),.p (.int .i64 0)]else .bq [.p (bC 0),.p (.int .i64 1)]) []:=by
 refine aa (wr:=a9) a6 mixed Tryz.func138 (by kernel_rfl) rfl (by kernel_rfl) (af rfl) (by simp) ?_
 refine ab.pure (mw m m' a b ha hb) ?_
 by_cases hlt:a<b
 ·rw[if_neg (by omega),show cP a b= -1 by simp[cP,hlt]]
  refine ag.yes rfl ?_
  refine aq.pure ?_
  have:bC 0= .sl false 1 []:=by simp[cr]
  rw[this]
  exact .bq rfl fun i c d e1 e2=>by
   match i,e1,e2 with
   |0,e1,e2=>cases e1;cases e2;exact .emp _
   |1,e1,e2=>cases e1;cases e2;exact .p _ (.int _ _)
 ·rw[if_pos (by omega)]
  refine ag.no (decide_eq_false (by simp only[cP];split;omega;split<;>omega)) ?_
  obtain⟨L,hL⟩:∃L,L=aL a:=⟨_,rfl⟩
  refine SZ.mk L (by simp[hL]) ?_
  refine SZ.mk L rfl ?_
  refine bT.mk (by simp) ?_
  refine bV.u32 L rfl (by omega) ?_
  refine SZ.mk L rfl ?_
  refine aM.mk (Nat×Nat×List Nat) (fun(i,c,out)=>([(0,.p (bK m a)),(1,.p (bK m' b)),(6,.vec 0 1 0 L),(7,.p (.int .u64 c)),(18,.p (.int .i64 L)),(19,.p (.int .i64 i))],[.vec 41 1 (bF out)]))
   (fun(i,c,out)=>i<=L/\c<=1/\out.length=L/\fV out/\nv (out.take i)+b%4294967296^i=a%4294967296^i+c*4294967296^i) (fun x=>L-x.1) (0,0,List.replicate L 0) [0]
   ⟨Nat.zero_le _,by simp,by simp,.replicate _,by simp[nv,Nat.mod_one]⟩
   ⟨rfl,by simp,rfl,rfl,rfl,⟨rfl,rfl,rfl,rfl,rfl,rfl,trivial⟩,⟨congrArg _ (bI L).symm,trivial⟩⟩ ?_
  intro⟨i,c,out⟩ ⟨h1,h2,h3,h4,h5⟩
  by_cases hi:i<L
  ·refine ag.yes (decide_eq_true (by omega)) ?_
   refine ab.pure (kk m (nl a) (bR a) i) ?_
   refine ab.pure (kk m' (nl b) (bR b) i) ?_
   rw[if_pos (by omega),if_pos (by omega),Int.toNat_natCast]
   have e1:=bO a i
   have e2:=bO b i
   have l1:(nl a).getD i 0<4294967296:=bD (bR a) i
   have l2:(nl b).getD i 0<4294967296:=bD (bR b) i
   generalize hx:(nl a).getD i 0=x at e1 l1⊢
   generalize hy:(nl b).getD i 0=y at e2 l2⊢
   refine ae.Fv ?_
   refine ae.x5 ((x+36893488147419103232-y-c)%18446744073709551616) (by omega) ?_
   obtain⟨d,hd⟩:∃d,d=(x+36893488147419103232-y-c)%18446744073709551616:=⟨_,rfl⟩
   rw[<-hd]
   have hs:x+4294967296*(d/9223372036854775808)=d%4294967296+y+c:=by omega
   have hc':d/9223372036854775808<=1:=by omega
   refine ae.fo (d%4294967296) (by omega) ?_
   refine aI.mk i rfl hi ?_
   refine bT.set (by omega) ?_
   refine cH.set ?_
   refine vo ?_
   refine ae.ao ((i+1:Nat):Int) (by omega) (by omega) ?_
   refine⟨(i+1,d/9223372036854775808,out.set i (d%4294967296)),[0],⟨hi,hc',by simpa using h3,h4.set (Nat.mod_lt _ (by omega)),?_⟩,by show L-(i+1)<L-i;omega,⟨rfl,by simp,rfl,rfl,rfl,⟨rfl,rfl,rfl,rfl,rfl,rfl,trivial⟩,⟨rfl,trivial⟩⟩⟩
   rw[c9 (by omega),Nat.pow_succ]
   exact tz e1.symm e2.symm h5 hs
  ·refine ag.no (decide_eq_false (by omega)) ?_
   have hiL:i=L:=by omega
   subst hiL
   have hba:aL b<=aL a:=dt (by omega)
   rw[dn a i (by omega),dn b i (by omega),List.take_of_length_le (by omega)]at h5
   have hc:c=0:=by
    rcases Nat.eq_zero_or_pos c with h|h
    ·exact h
    ·have h6:1*4294967296^i<=c*4294967296^i:=Nat.mul_le_mul_right _ h
     have h7:=tU h4
     rw[h3]at h7
     omega
   subst hc
   have hv:nv out=a-b:=by omega
   refine bp.all (by simpa using h3.symm) ?_
   refine ab.pure (im true out h4 (by omega)) ?_
   rw[hv]
   refine aq.pure ?_
   exact .bq rfl fun i c d e1 e2=>by
    match i,e1,e2 with
    |0,e1,e2=>cases e1;cases e2;exact .p _ (.sl _ _ (aP _))
    |1,e1,e2=>cases e1;cases e2;exact .p _ (.int _ _)
theorem sk {t t' pi pk o c x y tot A:Nat} {Bm:Nat} (hset:t'+(pi*pk)*o=t+(pi*pk)*(tot%4294967296)) (h:t+c*(pi*pk)=A+x*pi*Bm) (ht:tot=c+(x*y+o)):
  t'+(tot/4294967296)*(pi*pk*4294967296)=A+x*pi*(Bm+pk*y):=by
 have hd:tot=tot%4294967296+4294967296*(tot/4294967296):=by omega
 generalize tot/4294967296=q at hd⊢
 generalize tot%4294967296=r at hd hset
 have e:t'+q*(pi*pk*4294967296)+(pi*pk)*o=A+x*pi*(Bm+pk*y)+(pi*pk)*o:=by grind
 omega
theorem wu {a:Nat} (h:a<4294967296):a<=4294967295:=by omega
theorem qU {x y:Nat} (hx:x<4294967296) (hy:y<4294967296):x*y<=18446744065119617025:=Nat.mul_le_mul (wu hx) (wu hy)
theorem gF (m m':Bool) (a b:Nat) (ha:aL a<=274877906944) (hb:aL b<=274877906944):au Tryz.prog 124 [bK m a,bK m' b] (.p (bC (a*b))) []:=by
 refine aa (wr:=a9) a6 mixed Tryz.func124 (by kernel_rfl) rfl (by kernel_rfl) (af rfl) (by simp) ?_
 obtain⟨la,hla⟩:∃L,L=aL a:=⟨_,rfl⟩
 obtain⟨lb,hlb⟩:∃L,L=aL b:=⟨_,rfl⟩
 have ha':(nl a).length=la:=hla.symm
 have hb':(nl b).length=lb:=hlb.symm
 refine SZ.mk la (by simp[hla]) ?_
 refine SZ.mk lb (by simp[hlb]) ?_
 refine ae.ao ((la+lb:Nat):Int) (by omega) (by omega) ?_
 refine SZ.mk ((la+lb:Nat):Int) rfl ?_
 refine bT.mk (by simp) ?_
 refine bV.u32 (la+lb) rfl (by omega) ?_
 refine SZ.mk la (by simp[hla]) ?_
 refine aM.mk (Nat×List Nat) (fun(i,out)=>([(0,.p (bK m a)),(1,.p (bK m' b)),(5,.vec 0 1 0 (la+lb)),(16,.p (bK m a)),(17,.p (.int .i64 la)),(18,.p (.int .i64 i))],[.vec 41 1 (bF out)]))
  (fun(i,out)=>i<=la/\out.length=la+lb/\fV out/\nv (out.take (i+lb))=a%4294967296^i*b) (fun x=>la-x.1) (0,List.replicate (la+lb) 0) [0]
  ⟨Nat.zero_le _,by simp,.replicate _,by simp[c7,Nat.mod_one]⟩
  ⟨rfl,by simp,rfl,rfl,rfl,⟨rfl,rfl,rfl,rfl,rfl,rfl,trivial⟩,⟨congrArg _ (bI _).symm,trivial⟩⟩ ?_
 intro⟨i,out⟩ ⟨h1,h3,h4,h5⟩
 by_cases hi:i<la
 ·refine ag.yes (decide_eq_true (by omega)) ?_
  refine aG.lb i rfl (by omega) ?_
  have e1:=bO a i
  have l1:(nl a).getD i 0<4294967296:=bD (bR a) i
  generalize hx:(nl a).getD i 0=x at e1 l1⊢
  refine SZ.mk lb (by simp[hlb]) ?_
  refine aM.mk (Nat×Nat×List Nat) (fun(k,c,out)=>([(0,.p (bK m a)),(1,.p (bK m' b)),(5,.vec 0 1 0 (la+lb)),(6,.p (.int .i64 i)),(7,.p (.int .u32 x)),(8,.p (.int .u64 c)),(16,.p (bK m a)),(17,.p (.int .i64 la)),(18,.p (.int .i64 i)),(24,.p (.int .i64 lb)),(25,.p (.int .i64 k))],[.vec 41 1 (bF out)]))
   (fun(k,c,out)=>k<=lb/\c<4294967296/\out.length=la+lb/\fV out/\nv (out.take (i+lb))+c*(4294967296^i*4294967296^k)=a%4294967296^i*b+x*4294967296^i*(b%4294967296^k)) (fun x=>lb-x.1) (0,0,out) [0]
   ⟨Nat.zero_le _,by simp,h3,h4,by simp[h5,Nat.mod_one]⟩
   ⟨rfl,by simp,rfl,rfl,rfl,⟨rfl,rfl,rfl,rfl,rfl,rfl,rfl,rfl,rfl,rfl,rfl,trivial⟩,⟨rfl,trivial⟩⟩ ?_
  intro⟨k,c,out⟩ ⟨g1,g2,g3,g4,g5⟩
  by_cases hk:k<lb
  ·refine ag.yes (decide_eq_true (by omega)) ?_
   refine aO.mk (by kernel_rfl) ?_
   have e2:=bO b k
   have l2:(nl b).getD k 0<4294967296:=bD (bR b) k
   have l3:out.getD (i+k) 0<4294967296:=bD g4 (i+k)
   iterate 2 refine aj.mk _ _ (And.intro rfl rfl) rfl ?_
   refine aj.mk _ _ (ae.cy x rfl (by omega) (And.intro rfl rfl)) rfl ?_
   iterate 2 refine aj.mk _ _ (And.intro rfl rfl) rfl ?_
   refine aj.mk _ _ (aG.lb k rfl (by omega) (And.intro rfl rfl)) rfl ?_
   iterate 1 refine aj.mk _ _ (And.intro rfl rfl) rfl ?_
   generalize hy:(nl b).getD k 0=y at e2 l2⊢
   have hxy:=qU l1 l2
   refine aj.mk _ _ (ae.cy y rfl (by omega) (And.intro rfl rfl)) rfl ?_
   refine aj.mk _ _ (ae.cy (x*y) (Int.natCast_mul x y).symm (by omega) (And.intro rfl rfl)) rfl ?_
   iterate 3 refine aj.mk _ _ (And.intro rfl rfl) rfl ?_
   refine aj.mk _ _ (ae.ao ((i+k:Nat):Int) (by omega) (by omega) (And.intro rfl rfl)) rfl ?_
   refine aj.mk _ _ (aI.mk (i+k) rfl (by omega) (And.intro rfl rfl)) rfl ?_
   refine aj.mk _ _ (aG.rN (by omega) (And.intro rfl rfl)) rfl ?_
   generalize ho:out.getD (i+k) 0=o at l3⊢
   refine aj.mk _ _ (ae.cy o rfl (by omega) (And.intro rfl rfl)) rfl ?_
   refine aj.mk _ _ (ae.cy (x*y+o) (by omega) (by omega) (And.intro rfl rfl)) rfl ?_
   refine aj.mk _ _ (ae.cy (c+(x*y+o)) (by omega) (by omega) (And.intro rfl rfl)) rfl ?_
   refine aj.mk _ _ (And.intro rfl rfl) rfl ?_
   obtain⟨tot,htot⟩:∃tot,tot=c+(x*y+o):=⟨_,rfl⟩
   rw[<-htot]
   refine ae.ao ((i+k:Nat):Int) (by omega) (by omega) ?_
   refine ae.fo (tot%4294967296) (by omega) ?_
   refine aI.mk (i+k) rfl (by omega) ?_
   refine bT.set (by omega) ?_
   refine cH.set ?_
   refine fF ?_
   refine ae.ao ((k+1:Nat):Int) (by omega) (by omega) ?_
   refine⟨(k+1,tot/4294967296,out.set (i+k) (tot%4294967296)),[0],⟨hk,by omega,by simpa using g3,g4.set (Nat.mod_lt _ (by omega)),?_⟩,by show lb-(k+1)<lb-k;omega,
    ⟨rfl,by simp,rfl,rfl,rfl,⟨rfl,rfl,rfl,rfl,rfl,rfl,rfl,rfl,rfl,rfl,rfl,trivial⟩,⟨rfl,trivial⟩⟩⟩
   have hs:=ie (out.take (i+lb)) (i+k) (tot%4294967296) (by simp;omega)
   rw[<-List.take_set,show(out.take (i+lb)).getD (i+k) 0=o by rw[<-ho];simp[List.getD,show i+k<i+lb by omega],Nat.pow_add]at hs
   have hm:=sk hs g5 htot
   have hb2:b%4294967296^(k+1)=b%4294967296^k+4294967296^k*(b/4294967296^k%4294967296):=Nat.mod_pow_succ
   rw[hb2,<-e2,Nat.pow_succ,<-Nat.mul_assoc (4294967296^i)]
   exact hm
  ·refine ag.no (decide_eq_false (by omega)) ?_
   have hkl:k=lb:=by omega
   subst hkl
   refine SZ.mk k (by simp[hb']) ?_
   refine ae.ao ((i+k:Nat):Int) (by omega) (by omega) ?_
   refine ae.fo c (by omega) ?_
   refine aI.mk (i+k) rfl (by omega) ?_
   refine bT.set (by omega) ?_
   refine cH.set ?_
   refine ae.ao ((i+1:Nat):Int) (by omega) (by omega) ?_
   refine⟨(i+1,out.set (i+k) c),[0],⟨hi,by simpa using g3,g4.set g2,?_⟩,by show la-(i+1)<la-i;omega,⟨rfl,by simp,rfl,rfl,rfl,⟨rfl,rfl,rfl,rfl,rfl,rfl,trivial⟩,⟨rfl,trivial⟩⟩⟩
   rw[show i+1+k=i+k+1 by omega,c9 (by omega),Nat.pow_add,Nat.pow_succ,Nat.mod_mul,<-e1]
   rw[dn b k (by omega)]at g5
   grind
 ·refine ag.no (decide_eq_false (by omega)) ?_
  have hiL:i=la:=by omega
  subst hiL
  rw[dn a i (by omega),List.take_of_length_le (by omega)]at h5
  refine bp.all (by simpa using h3.symm) ?_
  refine ab.pure (im true out h4 (by omega)) ?_
  rw[h5]
  exact aq.pure (.p _ (.sl _ _ (aP _)))
theorem Dd (b:ByteArray) (h:∀i:Fin 256,(b.data.getD i.val 0).toNat=bitLen i.val) (x:Nat) (hx:x<256):((b.data.getD x 0).toNat:Int)=(bitLen x:Int):=by rw[h ⟨x,hx⟩]
theorem ae.GK {e:Int} {K:Int->Prop} (z:Nat) (hz:e=z) (h:z<256) (hk:K z):ae .u8 e K:=.mk z (by rw[jx _ rfl,hz];exact Int.emod_eq_of_lt (by omega) (by show(z:Int)<256;omega)) hk
theorem AR {a:Nat} {K:Int->Prop} (hk:K ((a/65536:Nat):Int)):sr 16 (SZ ((a:Int).fdiv (2^(min (16:Int).toNat (IntKind.bits .u32)))) K):=
 .mk (by decide) (.mk _ (by
  show Int.fdiv (a:Int) 65536=_
  rw[Int.fdiv_eq_ediv_of_nonneg _ (by decide)];omega) hk)
theorem At {a:Nat} {K:Int->Prop} (hk:K ((a/256:Nat):Int)):sr 8 (SZ ((a:Int).fdiv (2^(min (8:Int).toNat (IntKind.bits .u32)))) K):=
 .mk (by decide) (.mk _ (by
  show Int.fdiv (a:Int) 256=_
  rw[Int.fdiv_eq_ediv_of_nonneg _ (by decide)];omega) hk)
theorem sY (x:Nat) (hx:x<4294967296):au Tryz.prog 113 [.int .u32 x] (.p (.int .i64 (bitLen x))) []:=by
 refine aa (wr:=a9) a6 mixed Tryz.func113 (by kernel_rfl) rfl (by kernel_rfl) (af rfl) (by simp) ?_
 have s16:65536<=x->bitLen x=16+bitLen (x/65536):=fun h=>bitLen_shift x 16 (by show x/65536≠0;omega)
 have s8:∀y,256<=y->bitLen y=8+bitLen (y/256):=fun y h=>bitLen_shift y 8 (by show y/256≠0;omega)
 have l8:∀y,y<256->bitLen y<=8:=fun y h=>bitLen_le8 y h
 by_cases h16:65536<=x
 ·refine ag.yes (decide_eq_true (by omega)) ?_
  refine AR ?_
  by_cases h8:256<=x/65536
  ·refine ag.yes (decide_eq_true (by omega)) ?_
   refine At ?_
   have hb:=l8 (x/65536/256) (by omega)
   refine ae.ao 24 rfl (by omega) ?_
   refine ae.GK (x/65536/256) rfl (by omega) ?_
   refine aI.mk (x/65536/256) rfl (by show x/65536/256<256;omega) ?_
   refine SZ.mk (bitLen (x/65536/256)) (Dd _ (by decide+kernel) _ (by omega)) ?_
   refine ae.ao (bitLen (x/65536/256)) rfl (by omega) ?_
   refine ae.ao (bitLen x) (by rw[s16 h16,s8 _ h8];omega) (by rw[s16 h16,s8 _ h8];omega) ?_
   exact aq.pure (.p _ (.int _ _))
  ·refine ag.no (decide_eq_false (by omega)) ?_
   have hb:=l8 (x/65536) (by omega)
   refine ae.GK (x/65536) rfl (by omega) ?_
   refine aI.mk (x/65536) rfl (by show x/65536<256;omega) ?_
   refine SZ.mk (bitLen (x/65536)) (Dd _ (by decide+kernel) _ (by omega)) ?_
   refine ae.ao (bitLen (x/65536)) rfl (by omega) ?_
   refine ae.ao (bitLen x) (by rw[s16 h16];omega) (by rw[s16 h16];omega) ?_
   exact aq.pure (.p _ (.int _ _))
 ·refine ag.no (decide_eq_false (by omega)) ?_
  by_cases h8:256<=x
  ·refine ag.yes (decide_eq_true (by omega)) ?_
   refine At ?_
   have hb:=l8 (x/256) (by omega)
   refine ae.ao 8 rfl (by omega) ?_
   refine ae.GK (x/256) rfl (by omega) ?_
   refine aI.mk (x/256) rfl (by show x/256<256;omega) ?_
   refine SZ.mk (bitLen (x/256)) (Dd _ (by decide+kernel) _ (by omega)) ?_
   refine ae.ao (bitLen (x/256)) rfl (by omega) ?_
   refine ae.ao (bitLen x) (by rw[s8 _ h8];omega) (by rw[s8 _ h8];omega) ?_
   exact aq.pure (.p _ (.int _ _))
  ·refine ag.no (decide_eq_false (by omega)) ?_
   have hb:=l8 x (by omega)
   refine ae.GK x rfl (by omega) ?_
   refine aI.mk x rfl (by show x<256;omega) ?_
   refine SZ.mk (bitLen x) (Dd _ (by decide+kernel) _ (by omega)) ?_
   refine ae.ao (bitLen x) rfl (by omega) ?_
   refine ae.ao (bitLen x) (by omega) (by omega) ?_
   exact aq.pure (.p _ (.int _ _))
theorem CP (x:Nat) (hx:x<4294967296):au Tryz.prog 192 [.int .u32 x] (.p (.int .i64 ((32-bitLen x:Nat):Int))) []:=by
 refine aa (wr:=a9) a6 mixed Tryz.func192 (by kernel_rfl) rfl (by kernel_rfl) (af rfl) (by simp) ?_
 have hb:bitLen x<=32:=by
  by_cases h0:x=0
  ·subst h0;decide
  ·have h1:=(bitLen_spec x).2 h0
   rcases Nat.lt_or_ge 32 (bitLen x)with h|h
   ·have:2^32<=2^(bitLen x-1):=Nat.pow_le_pow_right (by omega) (by omega)
    omega
   ·exact h
 refine ab.pure (sY x hx) ?_
 refine ae.ao ((32-bitLen x:Nat):Int) (by omega) (by omega) ?_
 exact aq.pure (.p _ (.int _ _))
theorem oI {a:Nat} {K:Int->Prop} (h:a<4294967296) (hk:K ((a*4294967296:Nat):Int)):sr 32 (ae .u64 ((a:Int)*2^(min (32:Int).toNat (IntKind.bits .u64))) K):=
 .mk (by decide) (.cy (a*4294967296) (by show(a:Int)*4294967296=_;omega) (by omega) hk)
theorem qL {a b q:Nat} {k:IntKind} {K:Int->Prop} (h:b≠0) (hq:q=a/b) (hw:k.wrap (q:Int)=(q:Int)) (hk:K (q:Int)):ue (b:Int) (ae k ((a:Int).tdiv b) K):=
 .mk (by omega) (.mk _ (by rw[Int.tdiv_eq_ediv_of_nonneg (by omega),<-Int.natCast_ediv,<-hq];exact hw) hk)
theorem te {a b r:Nat} {K:Int->Prop} (h:b≠0) (hr:r=a%b) (hk:K (r:Int)):ue (b:Int) (SZ ((a:Int).tmod b) K):=
 .mk (by omega) (.mk _ (by rw[Int.tmod_eq_emod_of_nonneg (by omega),<-Int.natCast_emod,hr]) hk)
theorem mS {n:Nat} (h:n<18446744073709551616):IntKind.u64.wrap (n:Int)=n:=by rw[jx _ rfl];exact Int.emod_eq_of_lt (by omega) (by show(n:Int)<18446744073709551616;omega)
theorem fH {n:Nat} (h:n<18446744073709551616):(BitVec.ofInt 64 (n:Int)).toNat=n:=by
 rw[BitVec.toNat_ofInt];simp;omega
theorem Ez (l y:Nat) (hy:y<4294967296):l*4294967296|||y=l*4294967296+y:=by
 have:=Nat.two_pow_add_eq_or_of_lt (i:=32) hy l
 rw[Nat.mul_comm l]
 exact this.symm
theorem Ah {l y S:Nat} {K:Int->Prop} (hl:l<4294967296) (hy:y<4294967296) (hS:S=l*4294967296+y) (hk:K (S:Int)):
  ae .u64 (((BitVec.ofInt (IntKind.bits .u64) ((l*4294967296:Nat):Int)|||BitVec.ofInt (IntKind.bits .u64) (y:Int)).toNat:Nat):Int) K:=by
 subst hS
 refine .cy (l*4294967296+y) ?_ (by omega) hk
 show(((BitVec.ofInt 64 ((l*4294967296:Nat):Int)|||BitVec.ofInt 64 (y:Int)).toNat:Nat):Int)=_
 rw[BitVec.toNat_or,fH (by omega),fH (by omega),Ez l y hy]
theorem vw {A d i Q l x:Nat} (hd:0<d) (hx:A/4294967296^i%4294967296=x) (h:A/4294967296^(i+1)=Q*d+l):
  A/4294967296^i=(Q*4294967296+(l*4294967296+x)/d)*d+(l*4294967296+x)%d:=by
 have e:A/4294967296^i=A/4294967296^(i+1)*4294967296+A/4294967296^i%4294967296:=by
  rw[Nat.pow_succ,<-Nat.div_div_eq_div_mul];omega
 rw[e,h,hx]
 have:=Nat.div_add_mod (l*4294967296+x) d
 generalize(l*4294967296+x)/d=q at*
 generalize(l*4294967296+x)%d=r at*
 grind
theorem ab.bg {P:Program} {wr:Bool} {f:FuncId} {L:Hd->aC} {base:Nat} {K:AV->List (Hd×aC)->Prop} {pvs:List PV} {r:AV} (hc:au P f pvs r []) (hr:∀ρ,r.cE ρ=r) (hk:K r []) {raw:List AV}:ab P wr f raw (pvs.map .p) L base K:=
 .mk [] (pvs.map .p) r [] [] (fun _=>rfl) .nil (fun _ h=>by simp at h) (by rw[AV.bJ,List.map_map];exact List.map_congr_left fun _ _=>rfl) rfl (fun i h B e=>by simp at e) (fun _ h=>by simp at h) (fun _ h=>by simp at h) (Nat.zero_le _) (fun _ h=>by simp at h)
  (fun a ha k hk=>by obtain⟨v,_,rfl⟩:=List.mem_map.1 ha;simp only[AV.aU]at hk) hc (by rw[hr];exact hk)
theorem Aq (m:Bool) (a d:Nat) (ha:aL a<=549755813888) (hd:0<d) (hd':d<4294967296):
  au Tryz.prog 191 [bK m a,.int .u32 d] (.bq [.p (bC (a/d)),.p (.int .u32 ((a%d:Nat):Int))]) []:=by
 refine aa (wr:=a9) a6 mixed Tryz.func191 (by kernel_rfl) rfl (by kernel_rfl) (af rfl) (by simp) ?_
 obtain⟨L,hL⟩:∃L,L=aL a:=⟨_,rfl⟩
 have hL':(nl a).length=L:=hL.symm
 refine SZ.mk L (by simp[hL]) ?_
 refine SZ.mk L rfl ?_
 refine bT.mk (by simp) ?_
 refine bV.u32 L rfl (by omega) ?_
 refine SZ.mk L (by simp[hL]) ?_
 refine ae.ao ((L:Int)-1) rfl (by omega) ?_
 refine aM.mk (Nat×Nat×List Nat) (fun(i,l,out)=>([(0,.p (bK m a)),(1,.p (.int .u32 d)),(6,.vec 0 1 0 L),(7,.p (.int .u64 l)),(8,.p (.int .i64 ((i:Int)-1)))],[.vec 41 1 (bF out)]))
  (fun(i,l,out)=>i<=L/\l<d/\out.length=L/\fV out/\∃Q,nv out=Q*4294967296^i/\a/4294967296^i=Q*d+l) (fun x=>x.1) (L,0,List.replicate L 0) [0]
  ⟨Nat.le_refl _,hd,by simp,.replicate _,0,by simp[c7],by rw[hL,Nat.div_eq_of_lt (cj a)];simp⟩
  ⟨rfl,by simp,rfl,rfl,rfl,⟨rfl,rfl,rfl,rfl,rfl,trivial⟩,⟨congrArg _ (bI L).symm,trivial⟩⟩ ?_
 intro⟨i,l,out⟩ ⟨h1,h2,h3,h4,Q,h5,h6⟩
 by_cases hi:i=0
 ·subst hi
  refine ag.no (decide_eq_false (by omega)) ?_
  have hm:=Nat.div_mod_unique hd|>.2 (⟨by rw[Nat.pow_zero,Nat.div_one]at h6;rw[h6];grind,h2⟩:l+d*Q=a/\l<d)
  have hv:nv out=a/d:=by rw[hm.1,h5];simp
  refine bp.all (by simpa using h3.symm) ?_
  refine ab.pure (im true out h4 (by omega)) ?_
  refine ae.fo (a%d) (by rw[hm.2];omega) ?_
  rw[hv]
  refine aq.pure ?_
  exact .bq rfl fun i c d e1 e2=>by
   match i,e1,e2 with
   |0,e1,e2=>cases e1;cases e2;exact .p _ (.sl _ _ (aP _))
   |1,e1,e2=>cases e1;cases e2;exact .p _ (.int _ _)
 ·obtain⟨i,rfl⟩:=Nat.exists_eq_succ_of_ne_zero hi
  refine ag.yes (decide_eq_true (by omega)) ?_
  have e1:=bO a i
  have l1:(nl a).getD i 0<4294967296:=bD (bR a) i
  refine oI (by omega) ?_
  refine aG.lb i (by omega) (by omega) ?_
  generalize hx:(nl a).getD i 0=x at e1 l1⊢
  refine ae.cy x rfl (by omega) ?_
  obtain⟨S,hS⟩:∃S,S=l*4294967296+x:=⟨_,rfl⟩
  refine Ah (by omega) l1 hS ?_
  have hq:(l*4294967296+x)/d<4294967296:=by
   rw[Nat.div_lt_iff_lt_mul hd]
   have:(l+1)*4294967296<=d*4294967296:=Nat.mul_le_mul_right _ h2
   rw[Nat.mul_comm 4294967296]
   omega
  have hr:(l*4294967296+x)%d<d:=Nat.mod_lt _ hd
  refine ae.cy d rfl (by omega) ?_
  have hss:=vw hd e1.symm h6
  rw[<-hS]at hq hr hss
  obtain⟨q,hq'⟩:∃q,q=S/d:=⟨_,rfl⟩
  obtain⟨r,hr'⟩:∃r,r=S%d:=⟨_,rfl⟩
  rw[<-hq']at hq hss
  rw[<-hr']at hr hss
  refine qL (by omega) hq' (mS (by omega)) ?_
  refine ae.fo q (by omega) ?_
  refine aI.mk i (by omega) (by omega) ?_
  refine bT.set (by omega) ?_
  refine cH.set ?_
  refine ae.cy d rfl (by omega) ?_
  refine te (by omega) hr' ?_
  refine ae.ao ((i:Int)-1) (by omega) (by omega) ?_
  refine⟨(i,r,out.set i q),[0],⟨by omega,hr,by simpa using h3,h4.set hq,Q*4294967296+q,?_,hss⟩,Nat.lt_succ_self i,⟨rfl,by simp,rfl,rfl,rfl,⟨rfl,rfl,rfl,rfl,rfl,trivial⟩,⟨rfl,trivial⟩⟩⟩
  have hs:=ie out i q (by omega)
  have hz:out.getD i 0=0:=by
   rw[gg h4,h5,Nat.pow_succ,Nat.mul_comm (4294967296^i),<-Nat.mul_assoc,Nat.mul_div_cancel _ (bP i),Nat.mul_mod_left]
  rw[hz,Nat.mul_zero,Nat.add_zero,h5,Nat.pow_succ]at hs
  rw[hs]
  grind
theorem jU {s:Nat} (h:s<=32):2^s*2^(32-s)=4294967296:=by rw[<-Nat.pow_add,show s+(32-s)=32 by omega]
theorem j3 {A D C:Nat} (hD:0<D) (hDC:D*C=4294967296):A*D%4294967296=(A%4294967296%C)*D:=by
 rw[<-hDC,Nat.mul_comm A,Nat.mul_mod_mul_left,Nat.mod_mul_left_mod,Nat.mul_comm]
theorem A4 {A D C p:Nat} (hp:0<p) (hD:0<D) (hDC:D*C=4294967296):
  A*D/(p*4294967296)%4294967296=(A/(p*4294967296)%4294967296%C)*D+(A/p%4294967296)/C:=by
 have hC:0<C:=by rcases Nat.eq_zero_or_pos C with h|h;subst h;simp at hDC;exact h
 rw[<-Nat.div_div_eq_div_mul,<-Nat.div_div_eq_div_mul]
 have e1:A*D/p=A/p*D+(A%p)*D/p:=by
  have:=Nat.div_add_mod A p
  calc A*D/p=((p*(A/p)+A%p)*D)/p:=by rw[this]
   _=(A%p*D+p*(A/p*D))/p:=by congr 1;grind
   _=A%p*D/p+A/p*D:=Nat.add_mul_div_left _ _ hp
   _=_:=Nat.add_comm _ _
 have he:(A%p)*D/p<D:=by
  rw[Nat.div_lt_iff_lt_mul hp,Nat.mul_comm D]
  exact Nat.mul_lt_mul_of_pos_right (Nat.mod_lt _ hp) hD
 rw[e1]
 generalize A/p=a
 generalize(A%p)*D/p=e at he
 have e2:(a*D+e)/4294967296=a/C:=by
  rw[<-hDC,<-Nat.div_div_eq_div_mul,Nat.mul_comm a,Nat.mul_add_div hD,Nat.div_eq_of_lt he,Nat.add_zero]
 rw[e2]
 have h1:=Nat.div_add_mod a 4294967296
 have hy:a%4294967296<4294967296:=Nat.mod_lt _ (by omega)
 have e3:a/C=a/4294967296*D+a%4294967296/C:=by
  conv=>lhs;rw[<-h1,<-hDC]
  rw[show D*C*(a/(D*C))+a%(D*C)=a%(D*C)+C*(a/(D*C)*D) by grind,Nat.add_mul_div_left _ _ hC,Nat.add_comm,hDC]
 rw[e3]
 have hsm:a%4294967296/C<D:=by
  rw[Nat.div_lt_iff_lt_mul hC,hDC];exact hy
 generalize a%4294967296/C=t at hsm
 generalize a/4294967296=h
 rw[Nat.add_mod,j3 hD hDC]
 have hle:(h%4294967296%C)*D+D<=4294967296:=by
  have:h%4294967296%C+1<=C:=Nat.mod_lt _ hC
  have:=Nat.mul_le_mul_right D this
  rw[Nat.add_mul,Nat.one_mul,Nat.mul_comm C,hDC]at this
  exact this
 rw[Nat.mod_eq_of_lt (show t<4294967296 by omega),Nat.mod_eq_of_lt (by omega)]
theorem tM {A D C:Nat} (hD:0<D) (hDC:D*C=4294967296) (p:Nat):A/D/p%4294967296=(A/p%4294967296+4294967296*(A/(p*4294967296)%4294967296))/D%4294967296:=by
 rw[Nat.div_div_eq_div_mul,Nat.mul_comm D,<-Nat.div_div_eq_div_mul,<-Nat.div_div_eq_div_mul A p]
 generalize A/p=a
 have h1:a=(a%4294967296+4294967296*(a/4294967296%4294967296))+D*(C*(4294967296*(a/4294967296/4294967296))):=by
  rw[<-Nat.mul_assoc D,hDC];omega
 generalize hq:a%4294967296+4294967296*(a/4294967296%4294967296)=q at*
 generalize a/4294967296/4294967296=h at*
 rw[h1,Nat.add_mul_div_left _ _ hD,show C*(4294967296*h)=4294967296*(C*h) by grind,Nat.add_mul_mod_self_left]
theorem B9 {a s v:Nat} {K:Int->Prop} (hs:s<32) (ha:a<4294967296) (hv:v=a*2^s) (hk:K (v:Int)):sr (s:Int) (ae .u64 ((a:Int)*2^(min (s:Int).toNat (IntKind.bits .u64))) K):=by
 have hm:min (s:Int).toNat (IntKind.bits .u64)=s:=by rw[Int.toNat_natCast];exact Nat.min_eq_left (by show s<=64;omega)
 rw[hm]
 refine .mk (by omega) (.cy v (by rw[hv];simp) ?_ hk)
 have h1:2^s<=2^31:=Nat.pow_le_pow_right (by omega) (by omega)
 have:a*2^s<=4294967295*2^31:=Nat.mul_le_mul (by omega) h1
 omega
theorem Ef {a s v:Nat} {K:Int->Prop} (hs:s<32) (hv:v=a/2^s) (hk:K (v:Int)):sr (s:Int) (SZ ((a:Int).fdiv (2^(min (s:Int).toNat (IntKind.bits .u64)))) K):=by
 have hm:min (s:Int).toNat (IntKind.bits .u64)=s:=by rw[Int.toNat_natCast];exact Nat.min_eq_left (by show s<=64;omega)
 rw[hm]
 refine .mk (by omega) (.mk _ ?_ hk)
 rw[hv,Int.fdiv_eq_ediv_of_nonneg _ (Int.le_of_lt (Int.pow_pos (by decide)))]
 simp
theorem fI {n:Nat} (h:n<4294967296):(BitVec.ofInt 32 (n:Int)).toNat=n:=by
 rw[BitVec.toNat_ofInt];simp;omega
theorem Gs {q s r v:Nat} {K:Int->Prop} (hx:q*2^s<4294967296) (hr:r<2^s) (hr':r<4294967296) (hv:v=q*2^s+r) (hv':v<4294967296) (hk:K (v:Int)):
  ae .u32 (((BitVec.ofInt (IntKind.bits .u32) ((q*2^s:Nat):Int)|||BitVec.ofInt (IntKind.bits .u32) (r:Int)).toNat:Nat):Int) K:=by
 refine .fo v ?_ hk
 show(((BitVec.ofInt 32 ((q*2^s:Nat):Int)|||BitVec.ofInt 32 (r:Int)).toNat:Nat):Int)%4294967296=_
 rw[BitVec.toNat_or,fI hx,fI hr',Nat.mul_comm,<-Nat.two_pow_add_eq_or_of_lt hr,Nat.mul_comm,<-hv]
 omega
theorem oQ (a k:Nat):aL (a*2^k)<=aL a+k/32+1:=dz (by
 have h1:=cj a
 have h2:2^k<4294967296^(k/32+1):=by
  rw[show(4294967296:Nat)=2^32 by decide,<-Nat.pow_mul]
  exact Nat.pow_lt_pow_right (by omega) (by omega)
 rw[Nat.add_assoc,Nat.pow_add]
 exact Nat.mul_lt_mul'' h1 h2)
theorem uv (m:Bool) (a k:Nat) (ha:aL a<=274877906944) (hk:k<=1048576):au Tryz.prog 143 [bK m a,.int .i64 k] (.p (bC (a*2^k))) []:=by
 refine aa (wr:=a9) a6 mixed Tryz.func143 (by kernel_rfl) rfl (by kernel_rfl) (af rfl) (by simp) ?_
 refine ag.no (decide_eq_false (by omega)) ?_
 refine ag.no (decide_eq_false (by omega)) ?_
 obtain⟨n,hn⟩:∃n,n=k/32:=⟨_,rfl⟩
 obtain⟨s,hs⟩:∃s,s=k%32:=⟨_,rfl⟩
 have hs':s<32:=by omega
 have hk2:2^k=4294967296^n*2^s:=by
  rw[show(4294967296:Nat)=2^32 by decide,<-Nat.pow_mul,<-Nat.pow_add];congr 1;omega
 refine qL (b:=32) (by omega) hn (by rw[IntKind.wrap_i64];omega) ?_
 refine te (b:=32) (by omega) hs ?_
 obtain⟨L,hL⟩:∃L,L=aL a+n+1:=⟨_,rfl⟩
 refine SZ.mk (aL a) (by simp) ?_
 refine ae.ao ((aL a+n:Nat):Int) (by omega) (by omega) ?_
 refine ae.ao (L:Int) (by omega) (by omega) ?_
 refine SZ.mk L rfl ?_
 refine bT.mk (by simp) ?_
 refine bV.u32 L rfl (by omega) ?_
 refine SZ.mk L rfl ?_
 have hD:0<2^s:=Nat.two_pow_pos s
 have hC:0<2^(32-s):=Nat.two_pow_pos _
 have hDC:=jU (s:=s) (by omega)
 refine aM.mk (Nat×List Nat) (fun(i,out)=>([(0,.p (bK m a)),(1,.p (.int .i64 s)),(5,.p (.int .i64 n)),(6,.vec 0 1 0 L),(28,.p (.int .i64 L)),(29,.p (.int .i64 i))],[.vec 41 1 (bF out)]))
  (fun(i,out)=>i<=L/\out.length=L/\fV out/\nv (out.take i)=a*2^k%4294967296^i) (fun x=>L-x.1) (0,List.replicate L 0) [0]
  ⟨Nat.zero_le _,by simp,.replicate _,by simp[nv,Nat.mod_one]⟩
  ⟨rfl,by simp,rfl,rfl,rfl,⟨rfl,rfl,rfl,rfl,rfl,rfl,trivial⟩,⟨congrArg _ (bI L).symm,trivial⟩⟩ ?_
 intro⟨i,out⟩ ⟨h1,h3,h4,h5⟩
 by_cases hi:i<L
 ·refine ag.yes (decide_eq_true (by omega)) ?_
  refine ae.ao ((i:Int)-n) rfl (by omega) ?_
  refine aO.mk (by kernel_rfl) ?_
  obtain⟨x,hx⟩:∃x:Nat,x=if(n:Int)<=i then(nl a).getD (i-n) 0 else 0:=⟨_,rfl⟩
  obtain⟨y,hy⟩:∃y:Nat,y=if(n:Int)+1<=i then(nl a).getD (i-n-1) 0 else 0:=⟨_,rfl⟩
  have lx:x<4294967296:=by rw[hx];split;exact bD (bR a) _;omega
  have ly:y<4294967296:=by rw[hy];split;exact bD (bR a) _;omega
  have hlimb:a*2^k/4294967296^i%4294967296=(x%2^(32-s))*2^s+y/2^(32-s):=by
   rw[hk2,<-Nat.mul_assoc]
   rcases Nat.lt_trichotomy i n with hlt|heq|hgt
   ·rw[hx,hy,if_neg (by omega),if_neg (by omega)]
    obtain⟨t,rfl⟩:∃t,n=i+(t+1):=⟨n-i-1,by omega⟩
    rw[Nat.pow_add,show a*(4294967296^i*4294967296^(t+1))*2^s=4294967296^i*(a*4294967296^(t+1)*2^s) by grind,Nat.mul_div_cancel_left _ (bP i),Nat.pow_succ,
     show a*(4294967296^t*4294967296)*2^s=4294967296*(a*4294967296^t*2^s) by grind,Nat.mul_mod_right]
    simp
   ·subst heq
    rw[hx,hy,if_pos (by omega),if_neg (by omega),bO,show i-i=0 by omega,Nat.pow_zero,Nat.div_one,Nat.zero_div,Nat.add_zero,
     show a*4294967296^i*2^s=4294967296^i*(a*2^s) by grind,Nat.mul_div_cancel_left _ (bP i)]
    exact j3 hD hDC
   ·obtain⟨t,rfl⟩:∃t,i=n+(t+1):=⟨i-n-1,by omega⟩
    rw[hx,hy,if_pos (by omega),if_pos (by omega),bO,bO,show n+(t+1)-n=t+1 by omega,show t+1-1=t by omega,
     Nat.pow_add,show a*4294967296^n*2^s=4294967296^n*(a*2^s) by grind,Nat.mul_div_mul_left _ _ (bP n),Nat.pow_succ]
    exact A4 (bP t) hD hDC
  iterate 4 refine aj.mk _ _ (And.intro rfl rfl) rfl ?_
  refine aj.mk _ _ (ab.pure (kk m (nl a) (bR a) ((i:Int)-n)) (And.intro rfl rfl)) rfl ?_
  rw[show(if 0<=(i:Int)-n then(((nl a).getD ((i:Int)-n).toNat 0:Nat):Int)else 0)=(x:Int) by
   rw[hx];by_cases h:(n:Int)<=i
   ·rw[if_pos (by omega),if_pos h,show((i:Int)-n).toNat=i-n by omega]
   ·rw[if_neg (by omega),if_neg h];rfl]
  iterate 1 refine aj.mk _ _ (And.intro rfl rfl) rfl ?_
  refine aj.mk _ _ (B9 (v:=x*2^s) hs' lx rfl (And.intro rfl rfl)) rfl ?_
  refine aj.mk _ _ (ae.fo (x%2^(32-s)*2^s) (by
   have:=j3 (A:=x) hD hDC
   rw[Nat.mod_eq_of_lt lx]at this
   rw[<-this];omega) (And.intro rfl rfl)) rfl ?_
  iterate 2 refine aj.mk _ _ (And.intro rfl rfl) rfl ?_
  refine aj.mk _ _ (ae.ao ((i:Int)-n-1) rfl (by omega) (And.intro rfl rfl)) rfl ?_
  refine aj.mk _ _ (ab.pure (kk m (nl a) (bR a) ((i:Int)-n-1)) (And.intro rfl rfl)) rfl ?_
  rw[show(if 0<=(i:Int)-n-1 then(((nl a).getD ((i:Int)-n-1).toNat 0:Nat):Int)else 0)=(y:Int) by
   rw[hy];by_cases h:(n:Int)+1<=i
   ·rw[if_pos (by omega),if_pos h,show((i:Int)-n-1).toNat=i-n-1 by omega]
   ·rw[if_neg (by omega),if_neg h];rfl]
  iterate 1 refine aj.mk _ _ (And.intro rfl rfl) rfl ?_
  refine aj.mk _ _ (B9 (v:=y*2^s) hs' ly rfl (And.intro rfl rfl)) rfl ?_
  refine aj.mk _ _ (fF (And.intro rfl rfl)) rfl ?_
  have hyC:y*2^s/4294967296=y/2^(32-s):=by rw[<-hDC,Nat.mul_comm y,Nat.mul_div_mul_left _ _ hD]
  have hyD:y/2^(32-s)<2^s:=by rw[Nat.div_lt_iff_lt_mul hC,hDC];exact ly
  have hDB:2^s<=2147483648:=Nat.le_trans (Nat.pow_le_pow_right (by omega) (show s<=31 by omega)) (by decide)
  have hxl:x%2^(32-s)*2^s+2^s<=4294967296:=by
   have:x%2^(32-s)+1<=2^(32-s):=Nat.mod_lt _ hC
   have:=Nat.mul_le_mul_right (2^s) this
   rw[Nat.add_mul,Nat.one_mul,Nat.mul_comm (2^(32-s)),hDC]at this
   exact this
  rw[hyC]
  obtain⟨r,hr⟩:∃r,r=y/2^(32-s):=⟨_,rfl⟩
  rw[<-hr]at hyD hlimb⊢
  refine aj.mk _ _ (ae.fo r (by omega) (And.intro rfl rfl)) rfl ?_
  refine aj.mk _ _ (Gs (by omega) hyD (by omega) hlimb (by rw[hlimb];omega) (And.intro rfl rfl)) rfl ?_
  refine aj.mk _ _ (aI.mk i rfl hi (And.intro rfl rfl)) rfl ?_
  refine aj.mk _ _ (bT.set (by omega) (cH.set (And.intro rfl rfl))) rfl ?_
  refine ae.ao ((i+1:Nat):Int) (by omega) (by omega) ?_
  refine⟨(i+1,out.set i (a*2^k/4294967296^i%4294967296)),[0],⟨hi,by simpa using h3,h4.set (Nat.mod_lt _ (by omega)),?_⟩,by show L-(i+1)<L-i;omega,⟨rfl,by simp,rfl,rfl,rfl,⟨rfl,rfl,rfl,rfl,rfl,rfl,trivial⟩,⟨rfl,trivial⟩⟩⟩
  rw[c9 (by omega),h5]
  exact Nat.mod_pow_succ.symm
 ·refine ag.no (decide_eq_false (by omega)) ?_
  have hiL:i=L:=by omega
  subst hiL
  rw[dn _ i (by have:=oQ a k;omega),List.take_of_length_le (by omega)]at h5
  refine bp.all (by simpa using h3.symm) ?_
  refine ab.pure (im true out h4 (by omega)) ?_
  rw[h5]
  exact aq.pure (.p _ (.sl _ _ (aP _)))
theorem A5 {x y S:Nat} {K:Int->Prop} (hx:x<4294967296) (hy:y<4294967296) (hS:S=x+4294967296*y) (hk:K (S:Int)):
  ae .u64 (((BitVec.ofInt (IntKind.bits .u64) (x:Int)|||BitVec.ofInt (IntKind.bits .u64) ((y*4294967296:Nat):Int)).toNat:Nat):Int) K:=by
 refine .cy S ?_ (by omega) hk
 show(((BitVec.ofInt 64 (x:Int)|||BitVec.ofInt 64 ((y*4294967296:Nat):Int)).toNat:Nat):Int)=_
 rw[BitVec.toNat_or,fH (by omega),fH (by omega),Nat.or_comm,Ez y x hx]
 omega
theorem Ae (m:Bool) (a k:Nat) (ha:aL a<=274877906944) (hk:k<=1048576):au Tryz.prog 196 [bK m a,.int .i64 k] (.p (bC (a/2^k))) []:=by
 refine aa (wr:=a9) a6 mixed Tryz.func196 (by kernel_rfl) rfl (by kernel_rfl) (af rfl) (by simp) ?_
 refine ag.no (decide_eq_false (by omega)) ?_
 refine ag.no (decide_eq_false (by omega)) ?_
 obtain⟨n,hn⟩:∃n,n=k/32:=⟨_,rfl⟩
 obtain⟨s,hs⟩:∃s,s=k%32:=⟨_,rfl⟩
 have hs':s<32:=by omega
 have hk2:2^k=4294967296^n*2^s:=by
  rw[show(4294967296:Nat)=2^32 by decide,<-Nat.pow_mul,<-Nat.pow_add];congr 1;omega
 refine qL (b:=32) (by omega) hn (by rw[IntKind.wrap_i64];omega) ?_
 refine te (b:=32) (by omega) hs ?_
 obtain⟨L,hL⟩:∃L,L=aL a-n:=⟨_,rfl⟩
 refine SZ.mk (aL a) (by simp) ?_
 refine ae.ao ((aL a:Int)-n) rfl (by omega) ?_
 refine SZ.mk (L:Int) (by show(if(0:Int)>(aL a:Int)-n then(0:Int)else(aL a:Int)-n)=_;split<;>omega) ?_
 refine SZ.mk L rfl ?_
 refine bT.mk (by simp) ?_
 refine bV.u32 L rfl (by omega) ?_
 refine SZ.mk L rfl ?_
 have hD:0<2^s:=Nat.two_pow_pos s
 have hDC:=jU (s:=s) (by omega)
 refine aM.mk (Nat×List Nat) (fun(i,out)=>([(0,.p (bK m a)),(1,.p (.int .i64 s)),(5,.p (.int .i64 n)),(6,.vec 0 1 0 L),(27,.p (.int .i64 L)),(28,.p (.int .i64 i))],[.vec 41 1 (bF out)]))
  (fun(i,out)=>i<=L/\out.length=L/\fV out/\nv (out.take i)=a/2^k%4294967296^i) (fun x=>L-x.1) (0,List.replicate L 0) [0]
  ⟨Nat.zero_le _,by simp,.replicate _,by simp[nv,Nat.mod_one]⟩
  ⟨rfl,by simp,rfl,rfl,rfl,⟨rfl,rfl,rfl,rfl,rfl,rfl,trivial⟩,⟨congrArg _ (bI L).symm,trivial⟩⟩ ?_
 intro⟨i,out⟩ ⟨h1,h3,h4,h5⟩
 by_cases hi:i<L
 ·refine ag.yes (decide_eq_true (by omega)) ?_
  refine ae.ao ((i+n:Nat):Int) (by omega) (by omega) ?_
  refine ab.pure (kk m (nl a) (bR a) ((i+n:Nat):Int)) ?_
  refine ae.ao ((i+n:Nat):Int) (by omega) (by omega) ?_
  refine ae.ao ((i+n+1:Nat):Int) (by omega) (by omega) ?_
  refine ab.pure (kk m (nl a) (bR a) ((i+n+1:Nat):Int)) ?_
  rw[if_pos (by omega),if_pos (by omega),Int.toNat_natCast,Int.toNat_natCast]
  obtain⟨x,hx⟩:∃x:Nat,x=(nl a).getD (i+n) 0:=⟨_,rfl⟩
  obtain⟨y,hy⟩:∃y:Nat,y=(nl a).getD (i+n+1) 0:=⟨_,rfl⟩
  have lx:x<4294967296:=by rw[hx];exact bD (bR a) _
  have ly:y<4294967296:=by rw[hy];exact bD (bR a) _
  rw[<-hx,<-hy]
  refine oI ly ?_
  obtain⟨S,hS⟩:∃S,S=x+4294967296*y:=⟨_,rfl⟩
  refine A5 lx ly hS ?_
  obtain⟨v,hv⟩:∃v,v=S/2^s:=⟨_,rfl⟩
  refine Ef hs' hv ?_
  have hlimb:a/2^k/4294967296^i%4294967296=v%4294967296:=by
   rw[hv,hS,hx,hy,bO,bO,hk2,<-Nat.div_div_eq_div_mul,tM hD hDC]
   rw[Nat.div_div_eq_div_mul,Nat.div_div_eq_div_mul,Nat.add_comm i n,Nat.add_assoc,Nat.pow_add,Nat.pow_add,Nat.pow_succ]
  refine ae.fo (v%4294967296) (by omega) ?_
  refine aI.mk i rfl hi ?_
  refine bT.set (by omega) ?_
  refine cH.set ?_
  refine ae.ao ((i+1:Nat):Int) (by omega) (by omega) ?_
  refine⟨(i+1,out.set i (v%4294967296)),[0],⟨hi,by simpa using h3,h4.set (Nat.mod_lt _ (by omega)),?_⟩,by show L-(i+1)<L-i;omega,⟨rfl,by simp,rfl,rfl,rfl,⟨rfl,rfl,rfl,rfl,rfl,rfl,trivial⟩,⟨rfl,trivial⟩⟩⟩
  rw[c9 (by omega),h5,<-hlimb]
  exact Nat.mod_pow_succ.symm
 ·refine ag.no (decide_eq_false (by omega)) ?_
  have hiL:i=L:=by omega
  subst hiL
  have hlt:a/2^k<4294967296^i:=by
   rw[hk2,<-Nat.div_div_eq_div_mul]
   refine Nat.lt_of_le_of_lt (Nat.div_le_self _ _) ?_
   rw[Nat.div_lt_iff_lt_mul (bP n),<-Nat.pow_add]
   exact Nat.lt_of_lt_of_le (cj a) (Nat.pow_le_pow_right (by omega) (by omega))
  rw[Nat.mod_eq_of_lt hlt,List.take_of_length_le (by omega)]at h5
  refine bp.all (by simpa using h3.symm) ?_
  refine ab.pure (im true out h4 (by omega)) ?_
  rw[h5]
  exact aq.pure (.p _ (.sl _ _ (aP _)))
theorem BN {W v p top u3 v1 v2 q r:Nat} (hp:0<p) (hW3:W/p=top*4294967296+u3) (hV2:v/p=v1*4294967296+v2) (htop:top=q*v1+r) (h:r*4294967296+u3<q*v2):W<q*v:=by
 have h1:W/p+1<=q*(v/p):=by
  rw[hW3,hV2,htop]
  have:(q*v1+r)*4294967296+u3+1<=q*(v1*4294967296+v2):=by
   have e:q*(v1*4294967296+v2)=q*v1*4294967296+q*v2:=by grind
   rw[e,Nat.add_mul];omega
  exact this
 have h2:=Nat.mul_le_mul_right p h1
 have h3:W<(W/p+1)*p:=by
  rw[Nat.add_mul,Nat.one_mul,Nat.mul_comm]
  have:=Nat.div_add_mod W p
  have:=Nat.mod_lt W hp
  omega
 have h4:q*(v/p)*p<=q*v:=by
  rw[Nat.mul_assoc];exact Nat.mul_le_mul_left _ (Nat.div_mul_le_self v p)
 omega
theorem sE {W v p top u3 v1 v2 q r:Nat} (hp:0<p) (hW3:W/p=top*4294967296+u3) (hV2:v/p=v1*4294967296+v2) (hv1:0<v1) (htop:top=q*v1+r) (hq:q<4294967296) (h:q*v2<=r*4294967296+u3):(q-1)*v<=W:=by
 rcases Nat.eq_zero_or_pos q with h0|h0
 ·subst h0;simp
 have h1:q*(v/p)<=W/p:=by
  rw[hW3,hV2,htop]
  have e:q*(v1*4294967296+v2)=q*v1*4294967296+q*v2:=by grind
  rw[e,Nat.add_mul];omega
 have hV:4294967296<=v/p:=by rw[hV2];omega
 have h2:(q-1)*(v/p+1)<=W/p:=by
  obtain⟨t,rfl⟩:∃t,q=t+1:=⟨q-1,by omega⟩
  rw[Nat.add_sub_cancel,Nat.mul_add]
  rw[Nat.add_mul]at h1
  omega
 have h3:v<=(v/p+1)*p:=by
  rw[Nat.add_mul,Nat.one_mul,Nat.mul_comm]
  have:=Nat.div_add_mod v p
  have:=Nat.mod_lt v hp
  omega
 calc (q-1)*v<=(q-1)*((v/p+1)*p):=Nat.mul_le_mul_left _ h3
  _=(q-1)*(v/p+1)*p:=(Nat.mul_assoc _ _ _).symm
  _<=W/p*p:=Nat.mul_le_mul_right p h2
  _<=W:=Nat.div_mul_le_self W p
structure Et (W v q:Nat):Prop where
 lt:q<4294967296
 lo:W<(q+1)*v
 hi:(q-1)*v<=W
def gl (v1 v2 u3:Nat):Nat->Nat->Nat
 |0,_=>0
 |q+1,r=>if 4294967296<=q+1\/r*4294967296+u3<(q+1)*v2 then(if 4294967296<=r+v1 then q else gl v1 v2 u3 q (r+v1))else q+1
theorem DH {W v p top u3 v1 v2:Nat} (hp:0<p) (hW3:W/p=top*4294967296+u3) (hV2:v/p=v1*4294967296+v2) (hv1:0<v1) (hv2:v2<4294967296) (hWv:W<v*4294967296) (hb:top<(v1+1)*4294967296):
  ∀q r,top=q*v1+r->r<4294967296->W<(q+1)*v->Et W v (gl v1 v2 u3 q r):=by
 intro q
 induction q with
 |zero=>
  intro r h1 h2 h3
  simp only[gl]
  exact⟨by omega,h3,by simp⟩
 |succ q ih=>
  intro r h1 h2 h3
  simp only[gl]
  by_cases hc:4294967296<=q+1\/r*4294967296+u3<(q+1)*v2
  ·rw[if_pos hc]
   have hlo:W<(q+1)*v:=by
    rcases hc with hc|hc
    ·refine Nat.lt_of_lt_of_le hWv ?_
     rw[Nat.mul_comm];exact Nat.mul_le_mul_right v hc
    ·exact BN hp hW3 hV2 h1 hc
   have h1':top=q*v1+(r+v1):=by rw[h1,Nat.add_mul];omega
   by_cases hr:4294967296<=r+v1
   ·rw[if_pos hr]
    have hq:q<4294967296:=by
     rcases Nat.lt_or_ge q 4294967296 with h|h
     ·exact h
     ·have:=Nat.mul_le_mul_right v1 h
      rw[Nat.add_mul]at hb
      omega
    refine⟨hq,hlo,sE hp hW3 hV2 hv1 h1' hq ?_⟩
    have a1:q*v2<=4294967295*4294967295:=Nat.mul_le_mul (by omega) (by omega)
    have a2:=Nat.mul_le_mul_right 4294967296 hr
    omega
   ·rw[if_neg hr]
    exact ih (r+v1) h1' (by omega) hlo
  ·rw[if_neg hc]
   have hc1:q+1<4294967296:=by omega
   have hc2:(q+1)*v2<=r*4294967296+u3:=by omega
   exact⟨hc1,h3,sE hp hW3 hV2 hv1 h1 hc1 hc2⟩
theorem zV (m m':Bool) (us:List Nat) (v k n:Nat) (hus:fV us) (hn:aL v=n) (hn2:2<=n) (hk:k+n+1<=us.length) (hlen:us.length<=549755813888) (hlt:nv us<v*4294967296^(k+1)) (hwin:nv us<4294967296^(k+n+1)):
  ∃q,Et (nv us/4294967296^k) v q/\au Tryz.prog 193 [.sl m 1 (bF us),bK m' v,.int .i64 k] (.p (.int .u64 q)) []:=by
 obtain⟨W,hWd⟩:∃W,W=nv us/4294967296^k:=⟨_,rfl⟩
 obtain⟨t,rfl⟩:∃t,n=t+2:=⟨n-2,by omega⟩
 have hW:W<v*4294967296:=by
  rw[hWd,Nat.div_lt_iff_lt_mul (bP k),Nat.mul_assoc]
  rw[Nat.pow_succ,Nat.mul_comm (4294967296^k)]at hlt
  exact hlt
 have hg:∀j,us.getD (k+j) 0=W/4294967296^j%4294967296:=fun j=>by rw[gg hus,Nat.pow_add,<-Nat.div_div_eq_div_mul,<-hWd]
 have hv0:v≠0:=by intro h;rw[h]at hn;simp[aL,cr]at hn
 obtain⟨u1,hu1⟩:∃x,x=us.getD (k+t+2) 0:=⟨_,rfl⟩
 obtain⟨u2,hu2⟩:∃x,x=us.getD (k+t+1) 0:=⟨_,rfl⟩
 obtain⟨u3,hu3⟩:∃x,x=us.getD (k+t) 0:=⟨_,rfl⟩
 obtain⟨v1,hv1⟩:∃x,x=(nl v).getD (t+1) 0:=⟨_,rfl⟩
 obtain⟨v2,hv2⟩:∃x,x=(nl v).getD t 0:=⟨_,rfl⟩
 have lu1:u1<4294967296:=by rw[hu1];exact bD hus _
 have lu2:u2<4294967296:=by rw[hu2];exact bD hus _
 have lu3:u3<4294967296:=by rw[hu3];exact bD hus _
 have lv1:v1<4294967296:=by rw[hv1];exact bD (bR v) _
 have lv2:v2<4294967296:=by rw[hv2];exact bD (bR v) _
 have hv1p:0<v1:=by
  have:=kY hv0
  rw[show(nl v).length-1=t+1 by show aL v-1=t+1;omega,<-hv1]at this
  omega
 have hp:=bP t
 have hvt:v<4294967296^(t+2):=by have:=cj v;rw[hn]at this;exact this
 have hV2:v/4294967296^t=v1*4294967296+v2:=by
  rw[hv1,hv2,bO,bO,Nat.pow_succ,<-Nat.div_div_eq_div_mul]
  have:v/4294967296^t<4294967296*4294967296:=by
   rw[Nat.div_lt_iff_lt_mul hp]
   rw[Nat.pow_succ,Nat.pow_succ]at hvt
   rw[show 4294967296*4294967296*4294967296^t=4294967296^t*4294967296*4294967296 by grind]
   exact hvt
  generalize v/4294967296^t=x at this⊢
  omega
 have hWt:W<4294967296^(t+3):=by
  rw[hWd,Nat.div_lt_iff_lt_mul (bP k),<-Nat.pow_add]
  rw[show t+3+k=k+(t+2)+1 by omega];exact hwin
 obtain⟨top,htop⟩:∃top,top=u1*4294967296+u2:=⟨_,rfl⟩
 have hW3:W/4294967296^t=top*4294967296+u3:=by
  rw[htop,hu1,hu2,hu3,Nat.add_assoc k t 2,Nat.add_assoc k t 1,hg,hg,hg,Nat.pow_add,Nat.pow_add,<-Nat.div_div_eq_div_mul,<-Nat.div_div_eq_div_mul]
  have:W/4294967296^t<4294967296*4294967296*4294967296:=by
   rw[Nat.div_lt_iff_lt_mul hp]
   rw[Nat.pow_succ,Nat.pow_succ,Nat.pow_succ]at hWt
   rw[show 4294967296*4294967296*4294967296*4294967296^t=4294967296^t*4294967296*4294967296*4294967296 by grind]
   exact hWt
  generalize W/4294967296^t=x at this⊢
  rw[show(4294967296:Nat)^2=18446744073709551616 by decide,show(4294967296:Nat)^1=4294967296 by decide]
  omega
 have htopb:top<(v1+1)*4294967296:=by
  have h1:W/4294967296^t<(v/4294967296^t+1)*4294967296:=by
   rw[Nat.div_lt_iff_lt_mul hp]
   refine Nat.lt_of_lt_of_le hW ?_
   have:v<=(v/4294967296^t+1)*4294967296^t:=by
    have h1:=Nat.div_add_mod v (4294967296^t)
    have h2:=Nat.mod_lt v hp
    rw[Nat.add_mul,Nat.one_mul,Nat.mul_comm (v/4294967296^t)]
    omega
   have:=Nat.mul_le_mul_right 4294967296 this
   rw[Nat.mul_assoc,Nat.mul_comm (4294967296^t),<-Nat.mul_assoc]at this
   exact this
  rw[hW3,hV2]at h1
  omega
 have hq0:top=top/v1*v1+top%v1:=by have:=Nat.div_add_mod top v1;rw[Nat.mul_comm]at this;omega
 have hr0:top%v1<v1:=Nat.mod_lt _ hv1p
 have hlo0:W<(top/v1+1)*v:=by
  have h1:top+1<=(top/v1+1)*v1:=by rw[Nat.add_mul];omega
  have h2:W/4294967296^t<(top/v1+1)*(v/4294967296^t):=by
   rw[hW3,hV2]
   have:=Nat.mul_le_mul_right 4294967296 h1
   rw[Nat.mul_add,<-Nat.mul_assoc]
   omega
  have h3:=Nat.mul_le_mul_right (4294967296^t) (Nat.succ_le_of_lt h2)
  have h4:(top/v1+1)*(v/4294967296^t)*4294967296^t<=(top/v1+1)*v:=by rw[Nat.mul_assoc];exact Nat.mul_le_mul_left _ (Nat.div_mul_le_self v _)
  have h5:=Nat.div_add_mod W (4294967296^t)
  have h6:=Nat.mod_lt W hp
  rw[Nat.succ_mul,Nat.mul_comm (W/4294967296^t)]at h3
  omega
 refine⟨gl v1 v2 u3 (top/v1) (top%v1),by rw[<-hWd];exact DH hp hW3 hV2 hv1p lv2 hW htopb _ _ hq0 (by omega) hlo0,?_⟩
 obtain⟨Q,hQ⟩:∃Q,Q=gl v1 v2 u3 (top/v1) (top%v1):=⟨_,rfl⟩
 rw[<-hQ]
 have hvl:(nl v).length=t+2:=hn
 refine aa (wr:=a9) a6 mixed Tryz.func193 (by kernel_rfl) rfl (by kernel_rfl) (af rfl) (by simp) ?_
 refine SZ.mk ((t+2:Nat):Int) (by simp[hvl]) ?_
 refine aO.mk (by kernel_rfl) ?_
 iterate 3 refine aj.mk _ _ (And.intro rfl rfl) rfl ?_
 refine aj.mk _ _ (ae.ao ((k+t+2:Nat):Int) (by omega) (by omega) (And.intro rfl rfl)) rfl ?_
 refine aj.mk _ _ (aG.lb (k+t+2) rfl (by omega) (And.intro rfl rfl)) rfl ?_
 iterate 1 refine aj.mk _ _ (And.intro rfl rfl) rfl ?_
 rw[<-hu1]
 refine aj.mk _ _ (ae.cy u1 rfl (by omega) (And.intro rfl rfl)) rfl ?_
 refine aj.mk _ _ (oI lu1 (And.intro rfl rfl)) rfl ?_
 iterate 3 refine aj.mk _ _ (And.intro rfl rfl) rfl ?_
 refine aj.mk _ _ (ae.ao ((k+t+2:Nat):Int) (by omega) (by omega) (And.intro rfl rfl)) rfl ?_
 refine aj.mk _ _ (ae.ao ((k+t+1:Nat):Int) (by omega) (by omega) (And.intro rfl rfl)) rfl ?_
 refine aj.mk _ _ (aG.lb (k+t+1) rfl (by omega) (And.intro rfl rfl)) rfl ?_
 iterate 1 refine aj.mk _ _ (And.intro rfl rfl) rfl ?_
 rw[<-hu2]
 refine aj.mk _ _ (ae.cy u2 rfl (by omega) (And.intro rfl rfl)) rfl ?_
 refine aj.mk _ _ (Ah lu1 lu2 htop (And.intro rfl rfl)) rfl ?_
 iterate 1 refine aj.mk _ _ (And.intro rfl rfl) rfl ?_
 refine ae.ao ((t+1:Nat):Int) (by omega) (by omega) ?_
 refine aG.lb (t+1) rfl (by omega) ?_
 rw[<-hv1]
 refine ae.cy v1 rfl (by omega) ?_
 obtain⟨q0,hq0'⟩:∃q,q=top/v1:=⟨_,rfl⟩
 obtain⟨r0,hr0'⟩:∃r,r=top%v1:=⟨_,rfl⟩
 rw[<-hq0']at hQ
 rw[<-hr0']at hQ hr0
 have hq0b:q0<=top:=by rw[hq0'];exact Nat.div_le_self _ _
 refine qL (by omega) hq0' (mS (by omega)) ?_
 refine ae.ao ((t+1:Nat):Int) (by omega) (by omega) ?_
 refine aG.lb (t+1) rfl (by omega) ?_
 rw[<-hv1]
 refine ae.cy v1 rfl (by omega) ?_
 refine te (by omega) hr0' ?_
 refine aM.mk (Nat×Nat) (fun(q,r)=>([(0,.p (.sl m 1 (bF us))),(1,.p (bK m' v)),(2,.p (.int .i64 k)),(7,.p (.int .i64 ((t+2:Nat):Int))),(9,.p (.int .u64 q)),(10,.p (.int .u64 r))],[]))
  (fun(q,r)=>q<=q0/\r<4294967296/\gl v1 v2 u3 q r=Q) (fun x=>x.1) (q0,r0) []
  ⟨Nat.le_refl _,by omega,hQ.symm⟩ ⟨rfl,.nil,rfl,rfl,rfl,⟨rfl,rfl,rfl,rfl,rfl,rfl,trivial⟩,trivial⟩ ?_
 intro⟨q,r⟩ ⟨h1,h2,h3⟩
 refine aO.mk (by kernel_rfl) ?_
 iterate 1 refine aj.mk _ _ (And.intro rfl rfl) rfl ?_
 refine aj.mk _ _ (fF (And.intro rfl rfl)) rfl ?_
 by_cases hqB:4294967296<=q
 ·refine aj.mk _ _ (ag.yes (decide_eq_true (by omega)) (And.intro rfl rfl)) rfl ?_
  iterate 2 refine aj.mk _ _ (And.intro rfl rfl) rfl ?_
  obtain⟨q,rfl⟩:∃q',q=q'+1:=⟨q-1,by omega⟩
  simp only[gl]at h3
  rw[if_pos (.inl hqB)]at h3
  refine ae.cy q (by omega) (by omega) ?_
  refine ae.ao ((t+1:Nat):Int) (by omega) (by omega) ?_
  refine aG.lb (t+1) rfl (by omega) ?_
  rw[<-hv1]
  refine ae.cy v1 rfl (by omega) ?_
  refine ae.cy (r+v1) (by omega) (by omega) ?_
  refine fF ?_
  by_cases hr:4294967296<=r+v1
  ·rw[if_pos hr]at h3
   subst h3
   refine ag.yes (decide_eq_true (by omega)) ?_
   exact aq.pure (.p _ (.int _ _))
  ·rw[if_neg hr]at h3
   refine ag.no (decide_eq_false (by omega)) ?_
   exact⟨(q,r+v1),[],⟨by omega,by omega,h3⟩,Nat.lt_succ_self q,⟨rfl,.nil,rfl,rfl,rfl,⟨rfl,rfl,rfl,rfl,rfl,rfl,trivial⟩,trivial⟩⟩
 ·refine aj.mk _ _ (ag.no (decide_eq_false (by omega)) (And.intro rfl rfl)) rfl ?_
  iterate 4 refine aj.mk _ _ (And.intro rfl rfl) rfl ?_
  refine aj.mk _ _ (ae.ao (t:Int) (by omega) (by omega) (And.intro rfl rfl)) rfl ?_
  refine aj.mk _ _ (aG.lb t rfl (by omega) (And.intro rfl rfl)) rfl ?_
  iterate 1 refine aj.mk _ _ (And.intro rfl rfl) rfl ?_
  rw[<-hv2]
  refine aj.mk _ _ (ae.cy v2 rfl (by omega) (And.intro rfl rfl)) rfl ?_
  have hqv:=qU (show q<4294967296 by omega) lv2
  refine aj.mk _ _ (ae.cy (q*v2) (Int.natCast_mul q v2).symm (by omega) (And.intro rfl rfl)) rfl ?_
  iterate 1 refine aj.mk _ _ (And.intro rfl rfl) rfl ?_
  refine aj.mk _ _ (oI h2 (And.intro rfl rfl)) rfl ?_
  iterate 3 refine aj.mk _ _ (And.intro rfl rfl) rfl ?_
  refine aj.mk _ _ (ae.ao ((k+t+2:Nat):Int) (by omega) (by omega) (And.intro rfl rfl)) rfl ?_
  refine aj.mk _ _ (ae.ao ((k+t:Nat):Int) (by omega) (by omega) (And.intro rfl rfl)) rfl ?_
  refine aj.mk _ _ (aG.lb (k+t) rfl (by omega) (And.intro rfl rfl)) rfl ?_
  iterate 1 refine aj.mk _ _ (And.intro rfl rfl) rfl ?_
  rw[<-hu3]
  refine aj.mk _ _ (ae.cy u3 rfl (by omega) (And.intro rfl rfl)) rfl ?_
  obtain⟨S,hS⟩:∃S,S=r*4294967296+u3:=⟨_,rfl⟩
  refine aj.mk _ _ (Ah h2 lu3 hS (And.intro rfl rfl)) rfl ?_
  by_cases hc:S<q*v2
  ·refine aj.mk _ _ (ag.yes (decide_eq_true (Int.ofNat_lt.2 hc)) (And.intro rfl rfl)) rfl ?_
   iterate 1 refine aj.mk _ _ (And.intro rfl rfl) rfl ?_
   have hq0n:q≠0:=fun e=>by rw[e]at hc;simp at hc
   obtain⟨q,rfl⟩:∃q',q=q'+1:=⟨q-1,by omega⟩
   simp only[gl]at h3
   rw[if_pos (.inr (by rw[<-hS];exact hc))]at h3
   refine ae.cy q (by omega) (by omega) ?_
   refine ae.ao ((t+1:Nat):Int) (by omega) (by omega) ?_
   refine aG.lb (t+1) rfl (by omega) ?_
   rw[<-hv1]
   refine ae.cy v1 rfl (by omega) ?_
   refine ae.cy (r+v1) (by omega) (by omega) ?_
   refine fF ?_
   by_cases hr:4294967296<=r+v1
   ·rw[if_pos hr]at h3
    subst h3
    refine ag.yes (decide_eq_true (by omega)) ?_
    exact aq.pure (.p _ (.int _ _))
   ·rw[if_neg hr]at h3
    refine ag.no (decide_eq_false (by omega)) ?_
    exact⟨(q,r+v1),[],⟨by omega,by omega,h3⟩,Nat.lt_succ_self q,⟨rfl,.nil,rfl,rfl,rfl,⟨rfl,rfl,rfl,rfl,rfl,rfl,trivial⟩,trivial⟩⟩
  ·refine aj.mk _ _ (ag.no (decide_eq_false (fun h=>hc (Int.ofNat_lt.1 h))) (And.intro rfl rfl)) rfl ?_
   iterate 1 refine aj.mk _ _ (And.intro rfl rfl) rfl ?_
   have:q=Q:=by
    cases q with
    |zero=>exact h3
    |succ q=>
     simp only[gl]at h3
     rw[if_neg (by rw[<-hS];omega)]at h3
     exact h3
   subst this
   exact aq.pure (.p _ (.int _ _))
def dg:Nat->Nat->List Nat
 |0,_=>[]
 |L+1,n=>n%4294967296::dg L (n/4294967296)
theorem dE (L n:Nat):(dg L n).length=L:=by
 induction L generalizing n with
 |zero=>rfl
 |succ L ih=>simp[dg,ih]
theorem wF (L n:Nat):fV (dg L n):=by
 induction L generalizing n with
 |zero=>exact .nil
 |succ L ih=>exact .cons (Nat.mod_lt _ (by omega)) (ih _)
theorem m4 {L n:Nat} (h:n<4294967296^L):nv (dg L n)=n:=by
 induction L generalizing n with
 |zero=>simp at h;subst h;rfl
 |succ L ih=>
  have:n/4294967296<4294967296^L:=by rw[Nat.pow_succ]at h;omega
  simp only[dg,nv,ih this];omega
theorem AS {l:List Nat} (h:fV l):dg l.length (nv l)=l:=by
 induction l with
 |nil=>rfl
 |cons x l ih=>
  have hx:=h.head
  simp only[List.length_cons,dg,nv]
  rw[show(x+4294967296*nv l)/4294967296=nv l by omega,show(x+4294967296*nv l)%4294967296=x by omega,ih h.tail]
theorem lV (l:List Nat) (n:Nat):nv l=nv (l.take n)+4294967296^min n l.length*nv (l.drop n):=by
 conv=>lhs;rw[<-List.take_append_drop n l]
 rw[jX,List.length_take]
theorem sZ {B:aC} (hB:B.jF=false) {h:Hd} (hl:look [B] h≠ .free):h=0:=by
 have hk:=cD hl
 cases h with
 |t n=>
  have:n=0:=by simp[Hd.key]at hk;exact hk
  subst this;rfl
 |r n k=>
  have:n=0:=by simp[Hd.key]at hk;exact hk
  subst this
  exfalso
  apply hl
  cases B<;>first|rfl|cases hB
theorem aq.one {av r:AV} {H:Hp} {T:TypeId} {W:Nat} {es es0:List PV} (h0:look H 0= .vec T W es) (hp:∀e∈es,∀c∈e.cells,bZ c) (h:Conv [0] H av r):aq [.vec T W es0] av H r [.vec T W es]:=
 .mk [0] rfl (by simp) rfl (Nat.le_refl _) (fun h hl=>by rw[sZ rfl (aC.bQ hl),h0];trivial) (fun h hl=>by rw[sZ rfl hl,h0];exact fun e=>by cases e)
  (fun i h B e1 e2=>by
   cases i with
   |zero=>
    cases e1;cases e2
    have e:H.getD 0 .free= .vec T W es:=by
     have h0:(H.getD 0 .free).top=_:=h0
     generalize H.getD 0 .free=C at h0
     cases C<;>first|exact h0|cases h0
    rw[e];exact .vec hp
   |succ i=>simp at e1) h
theorem xM {u u' U q vm y c bw bw' p o d tot pk:Nat} (hset:u'+(pk*p)*o=u+(pk*p)*(d%4294967296)) (h:u+q*vm*pk=U+(bw+c)*(pk*p)) (ht:tot=c+q*y)
  (hd:o+4294967296*bw'=d%4294967296+tot%4294967296+bw):
  u'+q*(vm+p*y)*pk=U+(bw'+tot/4294967296)*(pk*(p*4294967296)):=by
 have h1:tot=tot%4294967296+4294967296*(tot/4294967296):=by omega
 generalize tot/4294967296=c' at h1⊢
 generalize tot%4294967296=lo at h1 hd
 generalize d%4294967296=x at hset hd
 have e:u'+q*(vm+p*y)*pk+(pk*p)*o=U+(bw'+c')*(pk*(p*4294967296))+(pk*p)*o:=by
  have h2:(pk*p)*(o+4294967296*bw')=(pk*p)*(x+lo+bw):=by rw[hd]
  have h3:(pk*p)*(c+q*y)=(pk*p)*(lo+4294967296*c'):=by rw[<-h1,ht]
  grind
 omega
theorem Dt (m':Bool) (L U v k n q:Nat) (hn:aL v=n) (hk:k+n+1<=L) (hlen:L<=549755813888) (hq:q<4294967296) (hwin:U<4294967296^(k+n+1)):
  cw Tryz.prog 194 [.vec 0 1 0 L,.p (bK m' v),.p (.int .i64 k),.p (.int .u64 q)] [.vec 41 1 (bF (dg L U))] (.p (.bool (decide (U<q*v*4294967296^k))))
   [.vec 41 1 (bF (dg L (U+(if U<q*v*4294967296^k then 4294967296^(k+n+1)else 0)-q*v*4294967296^k)))]:=by
 have hvl:(nl v).length=n:=hn
 have hUL:U<4294967296^L:=Nat.lt_of_lt_of_le hwin (Nat.pow_le_pow_right (by omega) hk)
 refine aa (wr:=a9) a6 mixed Tryz.func194 (by kernel_rfl) rfl (by kernel_rfl) (af rfl) (by intro B hB;simp at hB;subst hB;exact fun e=>by cases e) ?_
 refine SZ.mk (n:Int) (by simp[hvl]) ?_
 refine ae.ao ((n+1:Nat):Int) (by omega) (by omega) ?_
 refine aM.mk (Nat×Nat×Nat×List Nat) (fun(i,c,bw,us)=>([(0,.vec 0 1 0 L),(1,.p (bK m' v)),(2,.p (.int .i64 k)),(3,.p (.int .u64 q)),(9,.p (.int .u64 c)),(10,.p (.int .u64 bw)),(15,.p (.int .i64 ((n+1:Nat):Int))),(16,.p (.int .i64 i))],[.vec 41 1 (bF us)]))
  (fun(i,c,bw,us)=>i<=n+1/\bw<=1/\c=q*(v%4294967296^i)/4294967296^i/\us.length=L/\fV us/\nv (us.drop (k+n+1))=0/\nv us+q*(v%4294967296^i)*4294967296^k=U+(bw+c)*(4294967296^k*4294967296^i)) (fun x=>n+1-x.1) (0,0,0,dg L U) [0]
  ⟨Nat.zero_le _,Nat.zero_le _,by simp[Nat.mod_one],dE _ _,wF _ _,?_,by simp[Nat.mod_one,m4 hUL]⟩
  ⟨rfl,by simp,rfl,rfl,rfl,⟨rfl,rfl,rfl,rfl,rfl,rfl,rfl,rfl,trivial⟩,⟨rfl,trivial⟩⟩ ?_
 ·have h1:=lV (dg L U) (k+n+1)
  rw[m4 hUL,dE,Nat.min_eq_left hk]at h1
  rcases Nat.eq_zero_or_pos (nv ((dg L U).drop (k+n+1)))with h|h
  ·exact h
  ·have:=Nat.mul_le_mul_left (4294967296^(k+n+1)) h
   omega
 intro⟨i,c,bw,us⟩ ⟨h1,h2,h3,h4,h5,h6,h7⟩
 have hcB:c<4294967296:=by
  rw[h3,Nat.div_lt_iff_lt_mul (bP i)]
  exact Nat.mul_lt_mul'' hq (Nat.mod_lt _ (bP i))
 by_cases hi:i<n+1
 ·refine ag.yes (decide_eq_true (by omega)) ?_
  refine ab.pure (kk m' (nl v) (bR v) i) ?_
  rw[if_pos (Int.natCast_nonneg i),Int.toNat_natCast]
  have e2:=bO v i
  have l2:(nl v).getD i 0<4294967296:=bD (bR v) i
  have l3:us.getD (k+i) 0<4294967296:=bD h5 (k+i)
  obtain⟨y,hy⟩:∃y,y=(nl v).getD i 0:=⟨_,rfl⟩
  rw[<-hy]at e2 l2⊢
  have hqy:=qU hq l2
  refine ae.cy (q*y) (Int.natCast_mul q y).symm (by omega) ?_
  obtain⟨tot,htot⟩:∃tot,tot=c+q*y:=⟨_,rfl⟩
  refine ae.cy tot (by omega) (by omega) ?_
  refine ae.ao ((k+i:Nat):Int) (by omega) (by omega) ?_
  refine aI.mk (k+i) rfl (by omega) ?_
  refine aG.rN (i:=k+i) (by omega) ?_
  obtain⟨o,ho⟩:∃o,o=us.getD (k+i) 0:=⟨_,rfl⟩
  rw[<-ho]at l3⊢
  refine ae.cy o rfl (by omega) ?_
  refine ae.fo (tot%4294967296) (by omega) ?_
  refine ae.cy (tot%4294967296) rfl (by omega) ?_
  refine ae.Fv ?_
  obtain⟨d,hd⟩:∃d,d=(o+36893488147419103232-tot%4294967296-bw)%18446744073709551616:=⟨_,rfl⟩
  refine ae.x5 d (by omega) ?_
  have hs:o+4294967296*(d/9223372036854775808)=d%4294967296+tot%4294967296+bw:=by omega
  have hb':d/9223372036854775808<=1:=by omega
  refine ae.ao ((k+i:Nat):Int) (by omega) (by omega) ?_
  refine ae.fo (d%4294967296) (by omega) ?_
  refine aI.mk (k+i) rfl (by omega) ?_
  refine bT.set (by omega) ?_
  refine cH.set ?_
  refine fF ?_
  refine vo ?_
  refine ae.ao ((i+1:Nat):Int) (by omega) (by omega) ?_
  refine⟨(i+1,tot/4294967296,d/9223372036854775808,us.set (k+i) (d%4294967296)),[0],⟨hi,hb',?_,by simpa using h4,h5.set (Nat.mod_lt _ (by omega)),?_,?_⟩,by show n+1-(i+1)<n+1-i;omega,
   ⟨rfl,by simp,rfl,rfl,rfl,⟨rfl,rfl,rfl,rfl,rfl,rfl,rfl,rfl,trivial⟩,⟨rfl,trivial⟩⟩⟩
  ·have hb2:v%4294967296^(i+1)=v%4294967296^i+4294967296^i*(v/4294967296^i%4294967296):=Nat.mod_pow_succ
   rw[hb2,<-e2,Nat.pow_succ,<-Nat.div_div_eq_div_mul,Nat.mul_add,show q*(4294967296^i*y)=4294967296^i*(q*y) by grind,Nat.add_mul_div_left _ _ (bP i),<-h3,htot]
  ·rw[List.drop_set_of_lt (by omega)];exact h6
  ·have hs':=ie us (k+i) (d%4294967296) (by omega)
   rw[<-ho,Nat.pow_add]at hs'
   have hb2:v%4294967296^(i+1)=v%4294967296^i+4294967296^i*(v/4294967296^i%4294967296):=Nat.mod_pow_succ
   rw[hb2,<-e2,Nat.pow_succ]
   exact xM hs' h7 htot hs
 ·refine ag.no (decide_eq_false (by omega)) ?_
  have hin:i=n+1:=by omega
  subst hin
  have hvn:v%4294967296^(n+1)=v:=dn v (n+1) (by omega)
  have hvlt:v<4294967296^n:=by have:=cj v;rwa[hn]at this
  have hc0:c=0:=by
   rw[h3,hvn]
   refine Nat.div_eq_of_lt ?_
   rw[Nat.pow_succ,Nat.mul_comm]
   exact Nat.mul_lt_mul'' hvlt hq
  subst hc0
  rw[hvn,Nat.add_zero,<-Nat.pow_add,show k+(n+1)=k+n+1 by omega]at h7
  have hus:nv us<4294967296^(k+n+1):=by
   have h8:=lV us (k+n+1)
   rw[h6,Nat.mul_zero,Nat.add_zero]at h8
   rw[h8]
   have:=tU (h5.take (k+n+1))
   rwa[List.length_take,Nat.min_eq_left (by omega)]at this
  generalize hX:q*v*4294967296^k=X at h7⊢
  generalize hP:4294967296^(k+n+1)=Pw at h7 hus hwin⊢
  have hfin:∀V,nv us=V->us=dg L V:=fun V e=>by rw[<-e,<-h4,AS h5]
  rcases Nat.eq_zero_or_pos bw with hb|hb
  ·subst hb
   have hle:¬U<X:=by omega
   refine ag.no (decide_eq_false (by omega)) ?_
   rw[if_neg hle,decide_eq_false hle,<-hfin (U+0-X) (by omega)]
   exact aq.one rfl (aP us) (.tf false)
  ·have hb1:bw=1:=by omega
   subst hb1
   have hlt:U<X:=by omega
   refine ag.yes (decide_eq_true (by omega)) ?_
   rw[if_pos hlt,decide_eq_true hlt,<-hfin (U+Pw-X) (by omega)]
   exact aq.one rfl (aP us) (.tf true)
theorem yp {u u' U vm y c o tot p pk:Nat} (hset:u'+(pk*p)*o=u+(pk*p)*(tot%4294967296)) (h:u+c*(pk*p)=U+vm*pk) (ht:tot=c+(o+y)):
  u'+tot/4294967296*(pk*(p*4294967296))=U+(vm+p*y)*pk:=by
 have h1:tot=tot%4294967296+4294967296*(tot/4294967296):=by omega
 generalize tot/4294967296=c' at h1⊢
 generalize tot%4294967296=lo at h1 hset
 have e:u'+c'*(pk*(p*4294967296))+(pk*p)*o=U+(vm+p*y)*pk+(pk*p)*o:=by
  have h3:(pk*p)*(c+(o+y))=(pk*p)*(lo+4294967296*c'):=by rw[<-h1,ht]
  grind
 omega
theorem Ds (m':Bool) (L U v k n:Nat) (hn:aL v=n) (hk:k+n+1<=L) (hlen:L<=549755813888) (hwin:U<4294967296^(k+n+1)):
  cw Tryz.prog 195 [.vec 0 1 0 L,.p (bK m' v),.p (.int .i64 k)] [.vec 41 1 (bF (dg L U))] (.bq [])
   [.vec 41 1 (bF (dg L ((U+v*4294967296^k)%4294967296^(k+n+1))))]:=by
 have hvl:(nl v).length=n:=hn
 have hUL:U<4294967296^L:=Nat.lt_of_lt_of_le hwin (Nat.pow_le_pow_right (by omega) hk)
 refine aa (wr:=a9) a6 mixed Tryz.func195 (by kernel_rfl) rfl (by kernel_rfl) (af rfl) (by intro B hB;simp at hB;subst hB;exact fun e=>by cases e) ?_
 refine SZ.mk (n:Int) (by simp[hvl]) ?_
 refine ae.ao ((n+1:Nat):Int) (by omega) (by omega) ?_
 refine aM.mk (Nat×Nat×List Nat) (fun(i,c,us)=>([(0,.vec 0 1 0 L),(1,.p (bK m' v)),(2,.p (.int .i64 k)),(6,.p (.int .u64 c)),(10,.p (.int .i64 ((n+1:Nat):Int))),(11,.p (.int .i64 i))],[.vec 41 1 (bF us)]))
  (fun(i,c,us)=>i<=n+1/\c<=1/\us.length=L/\fV us/\nv (us.drop (k+n+1))=0/\nv us+c*(4294967296^k*4294967296^i)=U+v%4294967296^i*4294967296^k) (fun x=>n+1-x.1) (0,0,dg L U) [0]
  ⟨Nat.zero_le _,Nat.zero_le _,dE _ _,wF _ _,?_,by simp[Nat.mod_one,m4 hUL]⟩
  ⟨rfl,by simp,rfl,rfl,rfl,⟨rfl,rfl,rfl,rfl,rfl,rfl,trivial⟩,⟨rfl,trivial⟩⟩ ?_
 ·have h1:=lV (dg L U) (k+n+1)
  rw[m4 hUL,dE,Nat.min_eq_left hk]at h1
  rcases Nat.eq_zero_or_pos (nv ((dg L U).drop (k+n+1)))with h|h
  ·exact h
  ·have:=Nat.mul_le_mul_left (4294967296^(k+n+1)) h
   omega
 intro⟨i,c,us⟩ ⟨h1,h2,h4,h5,h6,h7⟩
 by_cases hi:i<n+1
 ·refine ag.yes (decide_eq_true (by omega)) ?_
  have e2:=bO v i
  have l2:(nl v).getD i 0<4294967296:=bD (bR v) i
  have l3:us.getD (k+i) 0<4294967296:=bD h5 (k+i)
  obtain⟨y,hy⟩:∃y,y=(nl v).getD i 0:=⟨_,rfl⟩
  obtain⟨o,ho⟩:∃o,o=us.getD (k+i) 0:=⟨_,rfl⟩
  refine aO.mk (by kernel_rfl) ?_
  iterate 4 refine aj.mk _ _ (And.intro rfl rfl) rfl ?_
  refine aj.mk _ _ (ae.ao ((k+i:Nat):Int) (by omega) (by omega) (And.intro rfl rfl)) rfl ?_
  refine aj.mk _ _ (aI.mk (k+i) rfl (by omega) (And.intro rfl rfl)) rfl ?_
  refine aj.mk _ _ (aG.rN (i:=k+i) (by omega) (And.intro rfl rfl)) rfl ?_
  rw[<-ho]at l3⊢
  refine aj.mk _ _ (ae.cy o rfl (by omega) (And.intro rfl rfl)) rfl ?_
  iterate 2 refine aj.mk _ _ (And.intro rfl rfl) rfl ?_
  refine aj.mk _ _ (ab.pure (kk m' (nl v) (bR v) i) (And.intro rfl rfl)) rfl ?_
  rw[if_pos (Int.natCast_nonneg i),Int.toNat_natCast]
  rw[<-hy]at e2 l2⊢
  refine aj.mk _ _ (ae.cy (o+y) (by omega) (by omega) (And.intro rfl rfl)) rfl ?_
  obtain⟨tot,htot⟩:∃tot,tot=c+(o+y):=⟨_,rfl⟩
  refine aj.mk _ _ (ae.cy tot (by omega) (by omega) (And.intro rfl rfl)) rfl ?_
  iterate 1 refine aj.mk _ _ (And.intro rfl rfl) rfl ?_
  refine ae.ao ((k+i:Nat):Int) (by omega) (by omega) ?_
  refine ae.fo (tot%4294967296) (by omega) ?_
  refine aI.mk (k+i) rfl (by omega) ?_
  refine bT.set (by omega) ?_
  refine cH.set ?_
  refine fF ?_
  refine ae.ao ((i+1:Nat):Int) (by omega) (by omega) ?_
  refine⟨(i+1,tot/4294967296,us.set (k+i) (tot%4294967296)),[0],⟨hi,by omega,by simpa using h4,h5.set (Nat.mod_lt _ (by omega)),?_,?_⟩,by show n+1-(i+1)<n+1-i;omega,
   ⟨rfl,by simp,rfl,rfl,rfl,⟨rfl,rfl,rfl,rfl,rfl,rfl,trivial⟩,⟨rfl,trivial⟩⟩⟩
  ·rw[List.drop_set_of_lt (by omega)];exact h6
  ·have hs':=ie us (k+i) (tot%4294967296) (by omega)
   rw[<-ho,Nat.pow_add]at hs'
   have hb2:v%4294967296^(i+1)=v%4294967296^i+4294967296^i*(v/4294967296^i%4294967296):=Nat.mod_pow_succ
   rw[hb2,<-e2,Nat.pow_succ]
   exact yp hs' h7 htot
 ·refine ag.no (decide_eq_false (by omega)) ?_
  have hin:i=n+1:=by omega
  subst hin
  have hvn:v%4294967296^(n+1)=v:=dn v (n+1) (by omega)
  rw[hvn,<-Nat.pow_add,show k+(n+1)=k+n+1 by omega]at h7
  have hus:nv us<4294967296^(k+n+1):=by
   have h8:=lV us (k+n+1)
   rw[h6,Nat.mul_zero,Nat.add_zero]at h8
   rw[h8]
   have:=tU (h5.take (k+n+1))
   rwa[List.length_take,Nat.min_eq_left (by omega)]at this
  have hV:(U+v*4294967296^k)%4294967296^(k+n+1)=nv us:=by
   rw[<-h7,Nat.add_mul_mod_self_right];exact Nat.mod_eq_of_lt hus
  rw[hV]
  have:dg L (nv us)=us:=by rw[<-h4,AS h5]
  rw[this]
  exact aq.one rfl (aP us) (.bq rfl fun i c d e1 e2=>by simp at e1)
theorem ab.vec {P:Program} {f:FuncId} {L:Hd->aC} {base h:Nat} {K:AV->List (Hd×aC)->Prop} {args args':List AV} {T:TypeId} {W:Nat} {es es':List PV} {r:AV} (hb:h<base) (hL:L h= .vec T W es)
  (hc:cw P f args' [.vec T W es] r [.vec T W es']) (ha:AV.cz (bn [h] base) args'=args) (hargs:∀a∈args',∀k,a.aU k->k.key<1) (hr:r.cE (bn [h] base)=r) (hk:K r [(h,.vec T W es')]) (hLr:∀k,L (.r h k)= .free:=by intro _;rfl) {raw:List AV}:ab P true f raw args L base K:=by
 refine .mk [h] args' r [.vec T W es] [.vec T W es'] (fun e=>by cases e) (by simp) (fun k hk=>by simp at hk;omega) ha rfl (fun i g B e1 e2=>?_) (fun B hB=>by simp at hB;subst hB;simp) (fun B hB k hk=>by simp at hB;subst hB;exact hk.elim) (Nat.le_refl _)
  (fun B hB=>by simp at hB;subst hB;simp) hargs hc ?_
 ·match i,e1,e2 with
  |0,e1,e2=>cases e1;cases e2;exact⟨hL,hLr⟩
 ·rw[hr]
  simpa[dJ,aC.cE]using hk
theorem sA {L n:Nat} (h:aL n<=L):dg L n=nl n++List.replicate (L-aL n) 0:=by
 have hl:(nl n++List.replicate (L-aL n) 0).length=L:=by simp[aL]at h⊢;omega
 have hok:fV (nl n++List.replicate (L-aL n) 0):=fun x hx=>by
  rcases List.mem_append.1 hx with hx|hx
  ·exact bR n x hx
  ·exact fV.replicate _ x hx
 have:=AS hok
 rw[hl,jX,sQ,c7,Nat.mul_zero,Nat.add_zero]at this
 exact this
theorem xv (L:Nat):dg L 0=List.replicate L 0:=by
 rw[sA (by rw[aL,cr];simp),aL,cr];simp
abbrev Hg:FuncId->Bool:=fun f=>Nat.beq f 194||Nat.beq f 195
theorem lO (m:Bool) (a:Nat) (ha:aL a<=1099511627776):au Tryz.prog 120 [bK m a] (.p (bC a)) []:=by
 have:=im m (nl a) (bR a) ha
 rwa[sQ]at this
abbrev De (q r:Nat) (e:Int):AV:=.bq [.p (bC q),.p (bC r),.p (.int .i64 e)]
theorem A9 {b n k:Nat} (hn:aL b=n+1) (hk:k=32-bitLen ((nl b).getD n 0)):aL (b*2^k)=n+1/\k<32:=by
 have hb0:b≠0:=by intro h;rw[h]at hn;simp[aL,cr]at hn
 obtain⟨top,htop⟩:∃t,t=(nl b).getD n 0:=⟨_,rfl⟩
 rw[<-htop]at hk
 have ht0:top≠0:=by
  have:=kY hb0
  rw[show(nl b).length-1=n by show aL b-1=n;omega,<-htop]at this
  exact this
 have ht:top<4294967296:=by rw[htop];exact bD (bR b) _
 have hs:=bitLen_spec top
 have hbl:bitLen top<=32:=by
  have h1:=hs.2 ht0
  rcases Nat.lt_or_ge 32 (bitLen top)with h|h
  ·have:2^32<=2^(bitLen top-1):=Nat.pow_le_pow_right (by omega) (by omega)
   omega
  ·exact h
 have hbl1:1<=bitLen top:=by
  rcases Nat.eq_zero_or_pos (bitLen top)with h|h
  ·rw[h]at hs;have:=hs.1;simp at this;exact(ht0 this).elim
  ·exact h
 refine⟨Nat.le_antisymm (dz ?_) ?_,by omega⟩
 ·have h1:b<(top+1)*4294967296^n:=by
   have h2:b/4294967296^n=top:=by
    rw[htop,bO]
    have:b/4294967296^n<4294967296:=by
     rw[Nat.div_lt_iff_lt_mul (bP n),<-Nat.pow_succ']
     have:=cj b;rwa[hn]at this
    exact(Nat.mod_eq_of_lt this).symm
   rw[<-h2,Nat.mul_comm]
   exact Nat.lt_mul_div_succ b (bP n)
  have h3:(top+1)*2^k<=4294967296:=by
   have:(top+1)*2^k<=2^bitLen top*2^k:=Nat.mul_le_mul_right _ hs.1
   rw[<-Nat.pow_add,show bitLen top+k=32 by omega]at this
   exact this
  calc b*2^k<(top+1)*4294967296^n*2^k:=Nat.mul_lt_mul_of_pos_right h1 (Nat.two_pow_pos k)
   _=(top+1)*2^k*4294967296^n:=by grind
   _<=4294967296*4294967296^n:=Nat.mul_le_mul_right _ h3
   _=4294967296^(n+1):=(Nat.pow_succ').symm
 ·rw[<-hn];exact dt (Nat.le_mul_of_pos_right _ (Nat.two_pow_pos k))
theorem rl (m m':Bool) (a b:Nat) (ha:aL a<=137438953472) (hb:aL b<=137438953472):
  au Tryz.prog 154 [bK m a,bK m' b] (if b=0 then De 0 0 5 else De (a/b) (a%b) 0) []:=by
 refine aa (wr:=Hg) a6 mixed Tryz.func154 (by kernel_rfl) rfl (by kernel_rfl) (af rfl) (by simp) ?_
 refine ab.pure (lO m a (by omega)) ?_
 refine ab.pure (lO m' b (by omega)) ?_
 have e0:bC 0= .sl false 1 []:=by simp[cr]
 refine SZ.mk (aL b) (by simp) ?_
 by_cases hb0:b=0
 ·refine ag.yes (kV (by have:=aR.2 hb0;omega)) ?_
  rw[if_pos hb0,De,e0]
  refine aq.pure ?_
  exact .bq rfl fun i c d e1 e2=>by
   match i,e1,e2 with
   |0,e1,e2=>cases e1;cases e2;exact .emp _
   |1,e1,e2=>cases e1;cases e2;exact .emp _
   |2,e1,e2=>cases e1;cases e2;exact .p _ (.int _ _)
 refine ag.no (kL (by have:=mt aR.1 hb0;omega)) ?_
 rw[if_neg hb0]
 refine ab.pure (mw false false a b (by omega) (by omega)) ?_
 have hbp:0<b:=by omega
 by_cases hab:a<b
 ·refine ag.yes (decide_eq_true (by simp only[cP,if_pos hab];decide)) ?_
  rw[Nat.div_eq_of_lt hab,Nat.mod_eq_of_lt hab,De,e0]
  refine aq.pure ?_
  exact .bq rfl fun i c d e1 e2=>by
   match i,e1,e2 with
   |0,e1,e2=>cases e1;cases e2;exact .emp _
   |1,e1,e2=>cases e1;cases e2;exact .p _ (.sl _ _ (aP _))
   |2,e1,e2=>cases e1;cases e2;exact .p _ (.int _ _)
 refine ag.no (decide_eq_false (by simp only[cP,if_neg hab];split<;>decide)) ?_
 refine SZ.mk (aL b) (by simp) ?_
 by_cases h1:aL b=1
 ·refine ag.yes (kV (by omega)) ?_
  have hbl:(nl b).length=1:=h1
  refine aG.lb 0 rfl (by omega) ?_
  have hbB:b<4294967296:=by have:=cj b;rw[h1]at this;simpa using this
  rw[bO,Nat.pow_zero,Nat.div_one,Nat.mod_eq_of_lt hbB]
  refine ab.bg (Aq false a b (by omega) hbp hbB) (fun _=>rfl) ?_
  have hr:a%b<b:=Nat.mod_lt _ hbp
  obtain⟨r,hr'⟩:∃r,r=a%b:=⟨_,rfl⟩
  rw[<-hr']at hr⊢
  refine ae.cy r rfl (by omega) ?_
  refine ab.pure (tF r (by omega)) ?_
  refine aq.pure ?_
  exact .bq rfl fun i c d e1 e2=>by
   match i,e1,e2 with
   |0,e1,e2=>cases e1;cases e2;exact .p _ (.sl _ _ (aP _))
   |1,e1,e2=>cases e1;cases e2;exact .p _ (.sl _ _ (aP _))
   |2,e1,e2=>cases e1;cases e2;exact .p _ (.int _ _)
 refine ag.no (kL (by omega)) ?_
 have hbn0:=mt aR.1 hb0
 obtain⟨n,hn⟩:∃n,aL b=n+1:=⟨aL b-1,by omega⟩
 have hbl:(nl b).length=n+1:=hn
 refine SZ.mk ((n+1:Nat):Int) (by simp[hbl]) ?_
 refine ae.ao (n:Int) (by omega) (by omega) ?_
 refine aG.lb n rfl (by omega) ?_
 refine ab.pure (CP _ (bD (bR b) n)) ?_
 obtain⟨k,hk⟩:∃k,k=32-bitLen ((nl b).getD n 0):=⟨_,rfl⟩
 rw[<-hk]
 obtain⟨hnv,hk32⟩:=A9 hn hk
 refine ab.pure (uv false b k (by omega) (by omega)) ?_
 obtain⟨v,hv⟩:∃v,v=b*2^k:=⟨_,rfl⟩
 rw[<-hv]at hnv⊢
 obtain⟨la,hla⟩:∃x,x=aL a:=⟨_,rfl⟩
 refine SZ.mk (la:Int) (by simp[hla]) ?_
 refine ae.ao ((la+1:Nat):Int) (by omega) (by omega) ?_
 refine SZ.mk ((la+1:Nat):Int) rfl ?_
 refine bT.mk (by simp) ?_
 refine bV.u32 (la+1) rfl (by omega) ?_
 refine bT.mk (by simp) ?_
 refine cH.mk (bF (dg (la+1) 0)) (by rw[xv];simp) ?_
 refine ab.pure (uv false a k (by omega) (by omega)) ?_
 have hsh:aL (a*2^k)<=la+1:=by have:=oQ a k;omega
 refine bT.mk (by simp[dE]) ?_
 refine cH.mk (bF (dg (la+1) (a*2^k))) (by
  rw[xv,sA hsh]
  have:(nl (a*2^k)).length<=la+1:=hsh
  simp[List.take_of_length_le,this,Nat.min_eq_left this]) ?_
 refine SZ.mk ((min (bF (nl (a*2^k))).length (la+1):Nat):Int) rfl ?_
 have hab':aL b<=aL a:=dt (by omega)
 obtain⟨mm,hmm⟩:∃x,la=n+1+x:=⟨la-(n+1),by omega⟩
 refine SZ.mk (la:Int) (by simp[hla]) ?_
 refine SZ.mk ((n+1:Nat):Int) (by simp[hbl]) ?_
 refine ae.ao (mm:Int) (by omega) (by omega) ?_
 refine ae.ao ((mm+1:Nat):Int) (by omega) (by omega) ?_
 refine SZ.mk ((mm+1:Nat):Int) rfl ?_
 refine bT.mk (by simp) ?_
 refine bV.u32 (mm+1) rfl (by omega) ?_
 refine SZ.mk (la:Int) (by simp[hla]) ?_
 refine SZ.mk ((n+1:Nat):Int) (by simp[hbl]) ?_
 refine ae.ao (mm:Int) (by omega) (by omega) ?_
 have hvp:0<v:=by rw[hv];exact Nat.mul_pos hbp (Nat.two_pow_pos k)
 have hvlt:v<4294967296^(n+1):=by have:=cj v;rwa[hnv]at this
 have hR0:a*2^k<v*4294967296^(mm+1):=by
  have h3:a<4294967296^n*4294967296^(mm+1):=by
   rw[<-Nat.pow_add,show n+(mm+1)=aL a by omega];exact cj a
  have h4:4294967296^n<=b:=by have:=tu hb0;rwa[hn,Nat.add_sub_cancel]at this
  calc a*2^k<4294967296^n*4294967296^(mm+1)*2^k:=Nat.mul_lt_mul_of_pos_right h3 (Nat.two_pow_pos k)
   _<=b*4294967296^(mm+1)*2^k:=Nat.mul_le_mul_right _ (Nat.mul_le_mul_right _ h4)
   _=v*4294967296^(mm+1):=by rw[hv];grind
 refine aM.mk (Nat×Nat×List Nat) (fun(j,R,out)=>([(9,.p (.int .i64 k)),(10,.p (bC v)),(11,.vec 0 1 0 (la+1)),(12,.vec 1 1 0 (mm+1)),(13,.p (.int .i64 ((j:Int)-1)))],[.vec 41 1 (bF (dg (la+1) R)),.vec 41 1 (bF out)]))
  (fun(j,R,out)=>j<=mm+1/\R<v*4294967296^j/\out.length=mm+1/\fV out/\∃Q,nv out=Q*4294967296^j/\a*2^k=Q*4294967296^j*v+R) (fun x=>x.1) (mm+1,a*2^k,List.replicate (mm+1) 0) [0,1]
  ⟨Nat.le_refl _,hR0,by simp,.replicate _,0,by simp[c7],by simp⟩
  ⟨rfl,by simp,rfl,rfl,rfl,⟨rfl,rfl,rfl,rfl,congrArg (fun z=>AV.p (.int .i64 z)) (by omega),trivial⟩,⟨rfl,congrArg _ (bI _).symm,trivial⟩⟩ ?_
 intro⟨j,R,out⟩ ⟨g1,g2,g3,g4,Q,g5,g6⟩
 have hR:R<4294967296^(n+j+1):=by
  refine Nat.lt_trans g2 ?_
  rw[show n+j+1=(n+1)+j by omega,Nat.pow_add]
  exact Nat.mul_lt_mul_of_pos_right hvlt (bP j)
 by_cases hj:j=0
 ·subst hj
  refine ag.no (decide_eq_false (by omega)) ?_
  simp only[Nat.pow_zero,Nat.mul_one]at g2 g5 g6
  refine bp.all (by simpa using g3.symm) ?_
  refine ab.pure (im true out g4 (by omega)) ?_
  refine bp.all (by simp[dE]) ?_
  refine ab.pure (im true (dg (la+1) R) (wF _ _) (by rw[dE];omega)) ?_
  rw[m4 (Nat.lt_of_lt_of_le hR (Nat.pow_le_pow_right (by omega) (by omega)))]
  have hRl:aL R<=n+1:=dz (by simpa using hR)
  refine ab.pure (Ae false R k (by omega) (by omega)) ?_
  have hq:nv out=a/b:=by
   rw[g5]
   have:a*2^k/(b*2^k)=Q:=by
    rw[<-hv,g6,Nat.mul_comm Q v,Nat.mul_add_div hvp,Nat.div_eq_of_lt g2,Nat.add_zero]
   rwa[Nat.mul_div_mul_right _ _ (Nat.two_pow_pos k),eq_comm]at this
  have hr:R/2^k=a%b:=by
   have:a*2^k%(b*2^k)=R:=by
    rw[<-hv,g6,Nat.mul_comm Q v,Nat.mul_add_mod,Nat.mod_eq_of_lt g2]
   rw[Nat.mul_mod_mul_right]at this
   rw[<-this,Nat.mul_div_cancel _ (Nat.two_pow_pos k)]
  rw[hq,hr]
  refine aq.pure ?_
  exact .bq rfl fun i c d e1 e2=>by
   match i,e1,e2 with
   |0,e1,e2=>cases e1;cases e2;exact .p _ (.sl _ _ (aP _))
   |1,e1,e2=>cases e1;cases e2;exact .p _ (.sl _ _ (aP _))
   |2,e1,e2=>cases e1;cases e2;exact .p _ (.int _ _)
 ·obtain⟨i,rfl⟩:=Nat.exists_eq_succ_of_ne_zero hj
  rw[Nat.succ_eq_add_one]at g1 g2 g5 g6 hR
  refine ag.yes (decide_eq_true (by omega)) ?_
  refine bp.all (by simp[dE]) ?_
  have hRL:R<4294967296^(la+1):=Nat.lt_of_lt_of_le hR (Nat.pow_le_pow_right (by omega) (by omega))
  have hRw:R<4294967296^(i+(n+1)+1):=by rw[show i+(n+1)+1=n+(i+1)+1 by omega];exact hR
  obtain⟨q,⟨q1,q2,q3⟩,hgc⟩:=zV true false (dg (la+1) R) v i (n+1) (wF _ _) hnv (by omega) (by rw[dE];omega) (by rw[dE];omega) (by rw[m4 hRL];exact g2) (by rw[m4 hRL];exact hRw)
  rw[m4 hRL]at q2 q3
  rw[show(i:Int)=(((i+1:Nat):Int)-1) by omega]at hgc
  refine ab.pure hgc ?_
  have htk:=Dt false (la+1) R v i (n+1) q hnv (by omega) (by omega) q1 hRw
  rw[show(i:Int)=(((i+1:Nat):Int)-1) by omega]at htk
  have hup:R<(q+1)*v*4294967296^i:=by rwa[Nat.div_lt_iff_lt_mul (bP i)]at q2
  have hlow:(q-1)*v*4294967296^i<=R:=by rwa[Nat.le_div_iff_mul_le (bP i)]at q3
  by_cases hlt:R<q*v*4294967296^i
  ·rw[if_pos hlt,decide_eq_true hlt]at htk
   refine ab.vec (h:=0) (by decide) rfl htk rfl (by intro a ha;simp at ha;rcases ha with rfl|rfl|rfl|rfl<;>intro k hk<;>simp only[AV.aU]at hk<;>subst hk<;>exact Nat.zero_lt_one) rfl ?_
   refine a8.mk (fun _=>?_) (fun h=>by cases h)
   obtain⟨q,rfl⟩:∃q',q=q'+1:=⟨q-1,by
    rcases Nat.eq_zero_or_pos q with h|h
    ·rw[h]at hlt;simp at hlt
    ·omega⟩
   rw[Nat.add_sub_cancel]at hlow
   refine ae.cy q (by omega) (by omega) ?_
   have hP:(q+1)*v*4294967296^i=q*v*4294967296^i+v*4294967296^i:=by rw[Nat.add_mul,Nat.one_mul,Nat.add_mul]
   have hvP:v*4294967296^i<=4294967296^(i+(n+1)+1):=by
    have:v*4294967296^i<=4294967296^(n+1)*4294967296^i:=Nat.mul_le_mul_right _ (Nat.le_of_lt hvlt)
    rw[<-Nat.pow_add]at this
    exact Nat.le_trans this (Nat.pow_le_pow_right (by omega) (by omega))
   have hbk:=Ds false (la+1) (R+4294967296^(i+(n+1)+1)-(q+1)*v*4294967296^i) v i (n+1) hnv (by omega) (by omega) (by omega)
   rw[show(i:Int)=(((i+1:Nat):Int)-1) by omega]at hbk
   refine ab.vec (h:=0) (by decide) rfl hbk rfl (by intro a ha;simp at ha;rcases ha with rfl|rfl|rfl<;>intro k hk<;>simp only[AV.aU]at hk<;>subst hk<;>exact Nat.zero_lt_one) rfl ?_
   have hU:(R+4294967296^(i+(n+1)+1)-(q+1)*v*4294967296^i+v*4294967296^i)%4294967296^(i+(n+1)+1)=R-q*v*4294967296^i:=by
    rw[show R+4294967296^(i+(n+1)+1)-(q+1)*v*4294967296^i+v*4294967296^i=(R-q*v*4294967296^i)+4294967296^(i+(n+1)+1) by omega,Nat.add_mod_right]
    exact Nat.mod_eq_of_lt (by omega)
   refine ae.fo q (by omega) ?_
   refine aI.mk i (by omega) (by omega) ?_
   refine bT.set (by omega) ?_
   refine cH.set ?_
   refine ae.ao ((i:Int)-1) (by omega) (by omega) ?_
   refine⟨(i,R-q*v*4294967296^i,out.set i q),[0,1],⟨by omega,?_,by simpa using g3,g4.set (by omega),Q*4294967296+q,?_,?_⟩,Nat.lt_succ_self i,
    ⟨rfl,by simp,rfl,rfl,rfl,⟨rfl,rfl,rfl,rfl,rfl,trivial⟩,⟨congrArg (fun z=>aC.vec 41 1 (bF (dg (la+1) z))) hU.symm,rfl,trivial⟩⟩⟩
   ·have h7:R<(q+1)*v*4294967296^i:=hlt
    rw[Nat.add_mul,Nat.one_mul,Nat.add_mul]at h7
    omega
   ·have hs:=ie out i (q) (by omega)
    have hz:out.getD i 0=0:=by
     rw[gg g4,g5,Nat.pow_succ,Nat.mul_comm (4294967296^i),<-Nat.mul_assoc,Nat.mul_div_cancel _ (bP i),Nat.mul_mod_left]
    rw[hz,Nat.mul_zero,Nat.add_zero,g5,Nat.pow_succ]at hs
    rw[hs];grind
   ·have h8:q*v*4294967296^i<=R:=hlow
    rw[g6,Nat.pow_succ]
    have e:(Q*4294967296+q)*4294967296^i*v=Q*(4294967296^i*4294967296)*v+q*v*4294967296^i:=by grind
    rw[e];omega
  ·rw[if_neg hlt,decide_eq_false hlt]at htk
   refine ab.vec (h:=0) (by decide) rfl htk rfl (by intro a ha;simp at ha;rcases ha with rfl|rfl|rfl|rfl<;>intro k hk<;>simp only[AV.aU]at hk<;>subst hk<;>exact Nat.zero_lt_one) rfl ?_
   refine a8.mk (fun h=>by cases h) (fun _=>?_)
   refine ae.fo q (by omega) ?_
   refine aI.mk i (by omega) (by omega) ?_
   refine bT.set (by omega) ?_
   refine cH.set ?_
   refine ae.ao ((i:Int)-1) (by omega) (by omega) ?_
   refine⟨(i,R-q*v*4294967296^i,out.set i q),[0,1],⟨by omega,?_,by simpa using g3,g4.set (by omega),Q*4294967296+q,?_,?_⟩,Nat.lt_succ_self i,
    ⟨rfl,by simp,rfl,rfl,rfl,⟨rfl,rfl,rfl,rfl,rfl,trivial⟩,⟨rfl,rfl,trivial⟩⟩⟩
   ·have h7:R<(q+1)*v*4294967296^i:=hup
    rw[Nat.add_mul,Nat.one_mul,Nat.add_mul]at h7
    omega
   ·have hs:=ie out i (q) (by omega)
    have hz:out.getD i 0=0:=by
     rw[gg g4,g5,Nat.pow_succ,Nat.mul_comm (4294967296^i),<-Nat.mul_assoc,Nat.mul_div_cancel _ (bP i),Nat.mul_mod_left]
    rw[hz,Nat.mul_zero,Nat.add_zero,g5,Nat.pow_succ]at hs
    rw[hs];grind
   ·have h8:q*v*4294967296^i<=R:=(by omega)
    rw[g6,Nat.pow_succ]
    have e:(Q*4294967296+q)*4294967296^i*v=Q*(4294967296^i*4294967296)*v+q*v*4294967296^i:=by grind
    rw[e];omega
theorem Ac (m m':Bool) (a b:Nat) (ha:aL a<=137438953472) (hb:aL b<=137438953472):au Tryz.prog 101 [bK m a,bK m' b] (.p (bC (Nat.gcd a b))) []:=by
 refine aa (wr:=a9) a6 mixed Tryz.func101 (by kernel_rfl) rfl (by kernel_rfl) (af rfl) (by simp) ?_
 refine ab.pure (lO m a (by omega)) ?_
 refine ab.pure (lO m' b (by omega)) ?_
 refine aM.mk (Nat×Nat) (fun(x,y)=>([(0,.p (bC x)),(1,.p (bC y))],[])) (fun(x,y)=>aL x<=137438953472/\aL y<=137438953472/\Nat.gcd x y=Nat.gcd a b) (fun x=>x.2) (a,b) []
  ⟨ha,hb,rfl⟩ ⟨rfl,.nil,rfl,rfl,rfl,⟨rfl,rfl,trivial⟩,trivial⟩ ?_
 intro⟨x,y⟩ ⟨h1,h2,h3⟩
 refine SZ.mk (aL y:Int) (by simp) ?_
 by_cases hy:y=0
 ·subst hy
  refine ag.no (decide_eq_false (by rw[aR.2 rfl];decide)) ?_
  refine ab.pure (lO false x (by omega)) ?_
  rw[<-h3,Nat.gcd_zero_right]
  exact aq.pure (.p _ (.sl _ _ (aP _)))
 ·have hn:=mt aR.1 hy
  refine ag.yes (decide_eq_true (by omega)) ?_
  have hd:=rl false false x y h1 h2
  rw[if_neg hy]at hd
  refine ab.bg hd (fun _=>rfl) ?_
  have hr:x%y<y:=Nat.mod_lt _ (by omega)
  exact⟨(y,x%y),[],⟨h2,Nat.le_trans (dt (Nat.le_of_lt hr)) h2,by rw[<-h3,Nat.gcd_comm,<-Nat.gcd_rec,Nat.gcd_comm]⟩,hr,⟨rfl,.nil,rfl,rfl,rfl,⟨rfl,rfl,trivial⟩,trivial⟩⟩
end Go.Proofs.YtnilcfiemgmfdaaGreat
