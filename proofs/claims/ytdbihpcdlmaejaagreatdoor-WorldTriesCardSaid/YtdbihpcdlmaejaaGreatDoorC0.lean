/- The code that the statement reaches, as the evaluator takes it, part 0. -/
import Derived.Test.YtdbihpcdlmaejaaGreatDoorPre
set_option maxRecDepth 1000000
set_option maxHeartbeats 4000000
namespace Go.Proofs.Tryz
open Go Go.Ai Go.Proofs

def c3 : AFunc := ⟨[.t 4], (.seq (.reg [.op ⟨some 4, none, .mv (.k (.bool false))⟩])
 (.seq (.seq (.reg [.op ⟨some 11, none, .call 4 []⟩,
 .op ⟨some 12, none, .un .not (.t 11)⟩])
 (.ite (.t 12) (.seq (.reg [.op ⟨some 4, none, .mv (.k (.bool false))⟩])
 .ret)
 .skip))
 (.seq (.reg [.op ⟨some 13, none, .mv (.t 0)⟩,
 .op ⟨some 14, none, .bin .and (.t 13) (.k (I 3))⟩,
 .op ⟨some 0, none, .mv (.t 14)⟩])
 (.seq (.reg [.op ⟨some 16, none, .call 6 []⟩,
 .op ⟨some 17, none, .call 5 [(.t 16)]⟩,
 .op ⟨some 15, none, .mv (.t 17)⟩,
 .op ⟨some 18, none, .ext 0 (.t 15)⟩,
 .op ⟨some 19, none, .ext 1 (.t 15)⟩,
 .op ⟨some 5, none, .mv (.t 18)⟩,
 .op ⟨some 6, none, .mv (.t 19)⟩])
 (.seq (.seq (.reg [.op ⟨some 20, none, .mv (.t 6)⟩,
 .op ⟨some 21, none, .bin .neq (.t 20) (.k (I 0))⟩])
 (.ite (.t 21) (.seq (.reg [.op ⟨some 4, none, .mv (.k (.bool false))⟩])
 .ret)
 .skip))
 (.seq (.reg [.op ⟨some 22, none, .mv (.t 5)⟩,
 .op ⟨some 23, none, .bslice 1 52 [(.int .u8 (0))] [(0, 1, (.k (.int .u8 (117)))), (1, 1, (.k (.int .u8 (112)))), (2, 1, (.k (.int .u8 (32)))), (3, 1, (.k (.int .u8 (117)))), (4, 1, (.k (.int .u8 (32)))), (5, 1, (.k (.int .u8 (120)))), (6, 1, (.k (.int .u8 (10)))), (7, 1, (.k (.int .u8 (114)))), (8, 1, (.k (.int .u8 (111)))), (9, 1, (.k (.int .u8 (117)))), (10, 1, (.k (.int .u8 (116)))), (11, 1, (.k (.int .u8 (101)))), (12, 1, (.k (.int .u8 (32)))), (13, 1, (.k (.int .u8 (47)))), (14, 1, (.k (.int .u8 (32)))), (15, 1, (.k (.int .u8 (117)))), (16, 1, (.k (.int .u8 (32)))), (17, 1, (.k (.int .u8 (47)))), (18, 1, (.k (.int .u8 (10)))), (19, 1, (.k (.int .u8 (116)))), (20, 1, (.k (.int .u8 (111)))), (21, 1, (.k (.int .u8 (116)))), (22, 1, (.k (.int .u8 (97)))), (23, 1, (.k (.int .u8 (108)))), (24, 1, (.k (.int .u8 (32)))), (25, 1, (.k (.int .u8 (57)))), (26, 1, (.k (.int .u8 (10)))), (27, 1, (.k (.int .u8 (116)))), (28, 1, (.k (.int .u8 (114)))), (29, 1, (.k (.int .u8 (105)))), (30, 1, (.k (.int .u8 (101)))), (31, 1, (.k (.int .u8 (115)))), (32, 1, (.k (.int .u8 (32)))), (33, 1, (.k (.int .u8 (50)))), (34, 1, (.k (.int .u8 (10)))), (35, 1, (.k (.int .u8 (102)))), (36, 1, (.k (.int .u8 (97)))), (37, 1, (.k (.int .u8 (105)))), (38, 1, (.k (.int .u8 (108)))), (39, 1, (.k (.int .u8 (115)))), (40, 1, (.k (.int .u8 (32)))), (41, 1, (.k (.int .u8 (49)))), (42, 1, (.k (.int .u8 (48)))), (43, 1, (.k (.int .u8 (48)))), (44, 1, (.k (.int .u8 (10)))), (45, 1, (.k (.int .u8 (99)))), (46, 1, (.k (.int .u8 (111)))), (47, 1, (.k (.int .u8 (111)))), (48, 1, (.k (.int .u8 (108)))), (49, 1, (.k (.int .u8 (32)))), (50, 1, (.k (.int .u8 (53)))), (51, 1, (.k (.int .u8 (10))))]⟩,
 .op ⟨some 24, none, .conv .bs (.t 23)⟩,
 .op ⟨some 25, none, .build [(I 0), (I 0), (I 0), (.str []), .nils] [(0, 1, (.k (I 1))), (3, 1, (.k (.str [97]))), (4, 1, (.t 24))]⟩,
 .op ⟨some 26, none, .call 7 [(.t 22), (.t 25)]⟩])
 (.seq (.reg [.op ⟨some 27, none, .mv (.t 5)⟩,
 .op ⟨some 28, none, .build [(I 0), (I 0), (I 0), (.str []), .nils] [(0, 1, (.k (I 2))), (1, 1, (.k (I 1))), (2, 1, (.k (I 1048576)))]⟩,
 .op ⟨some 29, none, .call 7 [(.t 27), (.t 28)]⟩])
 (.seq (.seq (.reg [.op ⟨some 7, none, .mv (.k (I 0))⟩])
 (.block 0 (.loop (.seq (.seq (.reg [.op ⟨some 30, none, .mv (.t 7)⟩,
 .op ⟨some 31, none, .mv (.t 0)⟩,
 .op ⟨some 32, none, .bin .lss (.t 30) (.t 31)⟩])
 (.ite (.t 32) .skip
 (.exit 0)))
 (.seq (.block 1 (.reg [.op ⟨some 35, none, .mv (.t 5)⟩,
 .op ⟨some 36, none, .mv (.t 7)⟩,
 .op ⟨some 37, none, .bin .and (.t 36) (.k (I 1))⟩,
 .op ⟨some 38, none, .bin .add (.k (I 1)) (.t 37)⟩,
 .op ⟨some 39, none, .build [(I 0), (I 0), (I 0), (.str []), .nils] [(0, 1, (.k (I 8))), (3, 1, (.k (.str [97]))), (2, 1, (.t 38))]⟩,
 .op ⟨some 40, none, .call 7 [(.t 35), (.t 39)]⟩]))
 (.reg [.op ⟨some 33, none, .mv (.t 7)⟩,
 .op ⟨some 34, none, .bin .add (.t 33) (.k (I 1))⟩,
 .op ⟨some 7, none, .mv (.t 34)⟩]))))))
 (.seq (.reg [.op ⟨some 8, none, .mv (.k (.str [71, 69, 84]))⟩])
 (.seq (.seq (.reg [.op ⟨some 41, none, .mv (.t 1)⟩])
 (.ite (.t 41) (.reg [.op ⟨some 8, none, .mv (.k (.str [80, 79, 83, 84]))⟩])
 .skip))
 (.seq (.reg [.op ⟨some 42, none, .mv (.t 5)⟩,
 .op ⟨some 43, none, .mv (.t 8)⟩,
 .op ⟨some 44, none, .bin .add (.t 43) (.k (.str [32, 47, 32, 72, 84, 84, 80, 47, 49, 46, 49, 13, 10, 72, 111, 115, 116, 58, 32, 104, 13, 10, 13, 10]))⟩,
 .op ⟨some 45, none, .conv .s2b (.t 44)⟩,
 .op ⟨some 46, none, .build [(I 0), (I 0), (I 0), (.str []), .nils] [(0, 1, (.k (I 3))), (1, 1, (.k (I 1))), (4, 1, (.t 45))]⟩,
 .op ⟨some 47, none, .call 7 [(.t 42), (.t 46)]⟩])
 (.seq (.reg [.op ⟨some 48, none, .mv (.t 5)⟩,
 .op ⟨some 49, none, .build [(I 0), (I 0), (I 0), (.str []), .nils] [(0, 1, (.k (I 9))), (2, 1, (.k (I 50)))]⟩,
 .op ⟨some 50, none, .call 7 [(.t 48), (.t 49)]⟩])
 (.seq (.reg [.op ⟨some 51, none, .mv (.t 5)⟩,
 .op ⟨some 52, none, .build [(I 0), (I 0), (I 0), (.str []), .nils] [(0, 1, (.k (I 7))), (2, 1, (.k (I 20)))]⟩,
 .op ⟨some 53, none, .call 7 [(.t 51), (.t 52)]⟩])
 (.seq (.reg [.op ⟨some 9, none, .mv (.k (.str [72, 84, 84, 80, 47, 49, 46, 49, 32, 50, 48, 48]))⟩])
 (.seq (.seq (.reg [.op ⟨some 54, none, .mv (.t 0)⟩,
 .op ⟨some 55, none, .bin .gtr (.t 54) (.k (I 2))⟩,
 .op ⟨some 56, none, .mv (.t 55)⟩,
 .op ⟨some 57, some (56, false), .mv (.t 1)⟩,
 .op ⟨some 58, some (56, false), .mv (.t 57)⟩,
 .op ⟨some 59, some (58, true), .mv (.t 0)⟩,
 .op ⟨some 60, some (58, true), .bin .gtr (.t 59) (.k (I 0))⟩,
 .op ⟨some 61, some (56, false), .pick (.t 58) (.t 60) (.k (.bool false))⟩,
 .op ⟨some 62, none, .pick (.t 56) (.k (.bool true)) (.t 61)⟩])
 (.ite (.t 62) (.reg [.op ⟨some 9, none, .mv (.k (.str [72, 84, 84, 80, 47, 49, 46, 49, 32, 53, 48, 50]))⟩])
 .skip))
 (.seq (.reg [.op ⟨some 63, none, .mv (.t 5)⟩,
 .op ⟨some 64, none, .call 8 [(.t 63), (.k (I 1))]⟩,
 .op ⟨some 10, none, .mv (.t 64)⟩])
 (.seq (.reg [.op ⟨some 65, none, .mv (.t 10)⟩,
 .op ⟨some 66, none, .len .sl (.t 65)⟩,
 .op ⟨some 67, none, .bin .gtr (.t 66) (.k (I 12))⟩,
 .op ⟨some 68, none, .mv (.t 67)⟩,
 .op ⟨some 69, some (68, true), .mv (.t 10)⟩,
 .op ⟨some 70, some (68, true), .slc (.sl 1) (.t 69) none (some (.k (I 12))) none⟩,
 .op ⟨some 71, some (68, true), .conv .b2s (.t 70)⟩,
 .op ⟨some 72, some (68, true), .mv (.t 9)⟩,
 .op ⟨some 73, some (68, true), .bin .eql (.t 71) (.t 72)⟩,
 .op ⟨some 74, none, .pick (.t 68) (.t 73) (.k (.bool false))⟩,
 .op ⟨some 75, none, .mv (.t 74)⟩,
 .op ⟨some 76, some (75, true), .mv (.t 5)⟩,
 .op ⟨some 77, some (75, true), .call 9 [(.t 76), (.k (.str [97]))]⟩,
 .op ⟨some 78, some (75, true), .len .sl (.t 77)⟩,
 .op ⟨some 79, some (75, true), .bin .eql (.t 78) (.k (I 1))⟩,
 .op ⟨some 80, none, .pick (.t 75) (.t 79) (.k (.bool false))⟩,
 .op ⟨some 81, none, .mv (.t 80)⟩,
 .op ⟨some 82, some (81, true), .mv (.t 5)⟩,
 .op ⟨some 83, some (81, true), .call 10 [(.t 82)]⟩,
 .op ⟨some 84, some (81, true), .bin .eql (.t 83) (.k (I 0))⟩,
 .op ⟨some 85, none, .pick (.t 81) (.t 84) (.k (.bool false))⟩,
 .op ⟨some 4, none, .mv (.t 85)⟩])
 .ret)))))))))))))))))⟩
theorem g3 : Good 3 c3 := ⟨_, Tryz.func3, by kernel_rfl⟩

def c4 : AFunc := ⟨[.t 0], (.seq (.reg [.op ⟨some 0, none, .mv (.k (.bool false))⟩])
 (.seq (.reg [.op ⟨some 7, none, .call 6 []⟩,
 .op ⟨some 8, none, .call 5 [(.t 7)]⟩,
 .op ⟨some 6, none, .mv (.t 8)⟩,
 .op ⟨some 9, none, .ext 0 (.t 6)⟩,
 .op ⟨some 10, none, .ext 1 (.t 6)⟩,
 .op ⟨some 1, none, .mv (.t 9)⟩,
 .op ⟨some 2, none, .mv (.t 10)⟩])
 (.seq (.reg [.op ⟨some 12, none, .call 5 [(.k (.str [115, 108, 111, 116, 10]))]⟩,
 .op ⟨some 11, none, .mv (.t 12)⟩,
 .op ⟨some 13, none, .ext 0 (.t 11)⟩,
 .op ⟨some 14, none, .ext 1 (.t 11)⟩,
 .op ⟨some 3, none, .mv (.t 13)⟩,
 .op ⟨some 4, none, .mv (.t 14)⟩])
 (.seq (.seq (.reg [.op ⟨some 15, none, .mv (.t 2)⟩,
 .op ⟨some 16, none, .bin .neq (.t 15) (.k (I 0))⟩,
 .op ⟨some 17, none, .mv (.t 16)⟩,
 .op ⟨some 18, some (17, false), .mv (.t 4)⟩,
 .op ⟨some 19, some (17, false), .bin .neq (.t 18) (.k (I 60))⟩,
 .op ⟨some 20, none, .pick (.t 17) (.k (.bool true)) (.t 19)⟩,
 .op ⟨some 21, none, .mv (.t 20)⟩,
 .op ⟨some 22, some (21, false), .mv (.t 1)⟩,
 .op ⟨some 23, some (21, false), .peq false (.t 22) (.k .nilp)⟩,
 .op ⟨some 24, none, .pick (.t 21) (.k (.bool true)) (.t 23)⟩])
 (.ite (.t 24) (.seq (.reg [.op ⟨some 0, none, .mv (.k (.bool false))⟩])
 .ret)
 .skip))
 (.seq (.reg [.op ⟨some 25, none, .mv (.t 1)⟩,
 .op ⟨some 26, none, .call 11 []⟩,
 .op ⟨some 27, none, .build [(I 0), (I 0), (I 0), (.str []), .nils] [(0, 1, (.k (I 1))), (3, 1, (.k (.str [97]))), (4, 1, (.t 26))]⟩,
 .op ⟨some 28, none, .call 7 [(.t 25), (.t 27)]⟩])
 (.seq (.reg [.op ⟨some 29, none, .mv (.t 1)⟩,
 .op ⟨some 30, none, .build [(I 0), (I 0), (I 0), (.str []), .nils] [(0, 1, (.k (I 2))), (1, 1, (.k (I 1))), (2, 1, (.k (I 1000)))]⟩,
 .op ⟨some 31, none, .call 7 [(.t 29), (.t 30)]⟩])
 (.seq (.reg [.op ⟨some 32, none, .mv (.t 1)⟩,
 .op ⟨some 33, none, .bslice 1 27 [(.int .u8 (0))] [(0, 1, (.k (.int .u8 (71)))), (1, 1, (.k (.int .u8 (69)))), (2, 1, (.k (.int .u8 (84)))), (3, 1, (.k (.int .u8 (32)))), (4, 1, (.k (.int .u8 (47)))), (5, 1, (.k (.int .u8 (32)))), (6, 1, (.k (.int .u8 (72)))), (7, 1, (.k (.int .u8 (84)))), (8, 1, (.k (.int .u8 (84)))), (9, 1, (.k (.int .u8 (80)))), (10, 1, (.k (.int .u8 (47)))), (11, 1, (.k (.int .u8 (49)))), (12, 1, (.k (.int .u8 (46)))), (13, 1, (.k (.int .u8 (49)))), (14, 1, (.k (.int .u8 (13)))), (15, 1, (.k (.int .u8 (10)))), (16, 1, (.k (.int .u8 (72)))), (17, 1, (.k (.int .u8 (111)))), (18, 1, (.k (.int .u8 (115)))), (19, 1, (.k (.int .u8 (116)))), (20, 1, (.k (.int .u8 (58)))), (21, 1, (.k (.int .u8 (32)))), (22, 1, (.k (.int .u8 (104)))), (23, 1, (.k (.int .u8 (13)))), (24, 1, (.k (.int .u8 (10)))), (25, 1, (.k (.int .u8 (13)))), (26, 1, (.k (.int .u8 (10))))]⟩,
 .op ⟨some 34, none, .conv .bs (.t 33)⟩,
 .op ⟨some 35, none, .build [(I 0), (I 0), (I 0), (.str []), .nils] [(0, 1, (.k (I 3))), (1, 1, (.k (I 1))), (4, 1, (.t 34))]⟩,
 .op ⟨some 36, none, .call 7 [(.t 32), (.t 35)]⟩])
 (.seq (.seq (.reg [.op ⟨some 37, none, .mv (.t 1)⟩,
 .op ⟨some 38, none, .call 10 [(.t 37)]⟩,
 .op ⟨some 39, none, .bin .neq (.t 38) (.k (I 1))⟩,
 .op ⟨some 40, none, .mv (.t 39)⟩,
 .op ⟨some 41, some (40, false), .mv (.t 1)⟩,
 .op ⟨some 42, some (40, false), .build [(I 0), (I 0), (I 0), (.str []), .nils] [(0, 1, (.k (I 99)))]⟩,
 .op ⟨some 43, some (40, false), .call 7 [(.t 41), (.t 42)]⟩,
 .op ⟨some 44, some (40, false), .bin .neq (.t 43) (.k (I 1))⟩,
 .op ⟨some 45, none, .pick (.t 40) (.k (.bool true)) (.t 44)⟩])
 (.ite (.t 45) (.seq (.reg [.op ⟨some 0, none, .mv (.k (.bool false))⟩])
 .ret)
 .skip))
 (.seq (.reg [.op ⟨some 46, none, .mv (.t 1)⟩,
 .op ⟨some 47, none, .build [(I 0), (I 0), (I 0), (.str []), .nils] [(0, 1, (.k (I 9))), (2, 1, (.k (I 9)))]⟩,
 .op ⟨some 48, none, .call 7 [(.t 46), (.t 47)]⟩])
 (.seq (.reg [.op ⟨some 49, none, .mv (.t 1)⟩,
 .op ⟨some 50, none, .build [(I 0), (I 0), (I 0), (.str []), .nils] [(0, 1, (.k (I 7))), (2, 1, (.k (I 1)))]⟩,
 .op ⟨some 51, none, .call 7 [(.t 49), (.t 50)]⟩])
 (.seq (.reg [.op ⟨some 52, none, .mv (.t 1)⟩,
 .op ⟨some 53, none, .call 8 [(.t 52), (.k (I 1))]⟩,
 .op ⟨some 5, none, .mv (.t 53)⟩])
 (.seq (.reg [.op ⟨some 54, none, .mv (.t 5)⟩,
 .op ⟨some 55, none, .len .sl (.t 54)⟩,
 .op ⟨some 56, none, .bin .gtr (.t 55) (.k (I 15))⟩,
 .op ⟨some 57, none, .mv (.t 56)⟩,
 .op ⟨some 58, some (57, true), .mv (.t 5)⟩,
 .op ⟨some 59, some (57, true), .slc (.sl 1) (.t 58) none (some (.k (I 15))) none⟩,
 .op ⟨some 60, some (57, true), .conv .b2s (.t 59)⟩,
 .op ⟨some 61, some (57, true), .bin .eql (.t 60) (.k (.str [72, 84, 84, 80, 47, 49, 46, 49, 32, 50, 48, 48, 32, 79, 75]))⟩,
 .op ⟨some 62, none, .pick (.t 57) (.t 61) (.k (.bool false))⟩,
 .op ⟨some 63, none, .mv (.t 62)⟩,
 .op ⟨some 64, some (63, true), .mv (.t 1)⟩,
 .op ⟨some 65, some (63, true), .call 9 [(.t 64), (.k (.str [97]))]⟩,
 .op ⟨some 66, some (63, true), .len .sl (.t 65)⟩,
 .op ⟨some 67, some (63, true), .bin .eql (.t 66) (.k (I 1))⟩,
 .op ⟨some 68, none, .pick (.t 63) (.t 67) (.k (.bool false))⟩,
 .op ⟨some 69, none, .mv (.t 68)⟩,
 .op ⟨some 70, some (69, true), .mv (.t 1)⟩,
 .op ⟨some 71, some (69, true), .call 9 [(.t 70), (.k (.str [98]))]⟩,
 .op ⟨some 72, some (69, true), .len .sl (.t 71)⟩,
 .op ⟨some 73, some (69, true), .bin .eql (.t 72) (.k (I 0))⟩,
 .op ⟨some 74, none, .pick (.t 69) (.t 73) (.k (.bool false))⟩,
 .op ⟨some 75, none, .mv (.t 74)⟩,
 .op ⟨some 76, some (75, true), .mv (.t 1)⟩,
 .op ⟨some 77, some (75, true), .call 12 [(.t 76), (.k (I 1))]⟩,
 .op ⟨some 78, some (75, true), .un .not (.t 77)⟩,
 .op ⟨some 79, none, .pick (.t 75) (.t 78) (.k (.bool false))⟩,
 .op ⟨some 80, none, .mv (.t 79)⟩,
 .op ⟨some 81, some (80, true), .mv (.t 1)⟩,
 .op ⟨some 82, some (80, true), .call 13 [(.t 81), (.k (I 1))]⟩,
 .op ⟨some 83, some (80, true), .bin .eql (.t 82) (.k (I 0))⟩,
 .op ⟨some 84, none, .pick (.t 80) (.t 83) (.k (.bool false))⟩,
 .op ⟨some 85, none, .mv (.t 84)⟩,
 .op ⟨some 86, some (85, true), .mv (.t 1)⟩,
 .op ⟨some 87, some (85, true), .call 10 [(.t 86)]⟩,
 .op ⟨some 88, some (85, true), .bin .eql (.t 87) (.k (I 0))⟩,
 .op ⟨some 89, none, .pick (.t 85) (.t 88) (.k (.bool false))⟩,
 .op ⟨some 90, none, .mv (.t 89)⟩,
 .op ⟨some 91, some (90, true), .mv (.t 1)⟩,
 .op ⟨some 92, some (90, true), .call 14 [(.t 91)]⟩,
 .op ⟨some 93, some (90, true), .peq true (.t 92) (.k .nilp)⟩,
 .op ⟨some 94, none, .pick (.t 90) (.t 93) (.k (.bool false))⟩,
 .op ⟨some 95, none, .mv (.t 94)⟩,
 .op ⟨some 96, some (95, true), .mv (.t 1)⟩,
 .op ⟨some 97, some (95, true), .call 14 [(.t 96)]⟩,
 .op ⟨some 98, some (95, true), .call 15 [(.t 97), (.k (I 1))]⟩,
 .op ⟨some 99, some (95, true), .bin .eql (.t 98) (.k (.str [97]))⟩,
 .op ⟨some 100, none, .pick (.t 95) (.t 99) (.k (.bool false))⟩,
 .op ⟨some 0, none, .mv (.t 100)⟩])
 .ret))))))))))))⟩
theorem g4 : Good 4 c4 := ⟨_, Tryz.func4, by kernel_rfl⟩

def c5 : AFunc := ⟨[.t 2, .t 3], (.seq (.reg [.op ⟨some 2, none, .mv (.k .nilp)⟩,
 .op ⟨some 3, none, .mv (.k (I 0))⟩])
 (.seq (.seq (.reg [.op ⟨some 9, none, .mv (.t 0)⟩,
 .op ⟨some 10, none, .call 16 [(.t 9)]⟩,
 .op ⟨some 8, none, .mv (.t 10)⟩,
 .op ⟨some 11, none, .ext 0 (.t 8)⟩,
 .op ⟨some 12, none, .ext 1 (.t 8)⟩,
 .op ⟨some 4, none, .mv (.t 11)⟩,
 .op ⟨some 5, none, .mv (.t 12)⟩])
 (.seq (.reg [.op ⟨some 13, none, .mv (.t 5)⟩,
 .op ⟨some 14, none, .bin .neq (.t 13) (.k (I 0))⟩])
 (.ite (.t 14) (.seq (.reg [.op ⟨some 2, none, .mv (.k .nilp)⟩,
 .op ⟨some 3, none, .mv (.k (I 60))⟩])
 .ret)
 .skip)))
 (.seq (.reg [.op ⟨some 16, none, .mv (.t 0)⟩,
 .op ⟨some 17, none, .call 17 [(.t 16)]⟩,
 .op ⟨some 15, none, .mv (.t 17)⟩,
 .op ⟨some 18, none, .ext 0 (.t 15)⟩,
 .op ⟨some 19, none, .ext 1 (.t 15)⟩,
 .op ⟨some 6, none, .mv (.t 18)⟩,
 .op ⟨some 7, none, .mv (.t 19)⟩])
 (.seq (.reg [.op ⟨some 20, none, .mv (.t 6)⟩,
 .op ⟨some 21, none, .mkm⟩,
 .op ⟨some 22, none, .mkm⟩,
 .op ⟨some 23, none, .mkm⟩,
 .op ⟨some 24, none, .build [.nilp, .nilm, .nilm, .nilm, .nils] [(0, 1, (.t 20)), (1, 1, (.t 21)), (2, 1, (.t 22)), (3, 1, (.t 23))]⟩,
 .op ⟨some 25, none, .box 5 (.t 24)⟩,
 .op ⟨some 2, none, .mv (.t 25)⟩,
 .op ⟨some 3, none, .mv (.k (I 0))⟩])
 .ret))))⟩
theorem g5 : Good 5 c5 := ⟨_, Tryz.func5, by kernel_rfl⟩

def c6 : AFunc := ⟨[.t 0], (.seq (.reg [.op ⟨some 0, none, .mv (.k (.str []))⟩])
 (.seq (.reg [.op ⟨some 0, none, .mv (.k (.str [115, 108, 111, 116, 32, 97, 32, 50, 48, 48, 48, 48, 32, 52, 32, 52, 32, 53, 48, 32, 53, 48, 32, 51, 48, 48, 32, 104, 10, 115, 108, 111, 116, 32, 98, 32, 50, 48, 48, 48, 48, 32, 52, 32, 52, 32, 53, 48, 32, 53, 48, 32, 51, 48, 48, 32, 105, 10]))⟩])
 .ret))⟩
theorem g6 : Good 6 c6 := ⟨_, Tryz.func6, by kernel_rfl⟩

def c7 : AFunc := ⟨[.t 4], (.seq (.reg [.op ⟨some 3, none, .box 5 (.t 1)⟩,
 .op ⟨some 4, none, .mv (.k (I 0))⟩])
 (.seq (.seq (.reg [.op ⟨some 6, none, .fa 0 (.t 3)⟩,
 .op ⟨some 7, none, .load false 1 (.t 6)⟩])
 (.block 0 (.seq (.reg [.op ⟨some 9, none, .bin .eql (.t 7) (.k (I 1))⟩,
 .op ⟨some 8, none, .mv (.t 9)⟩])
 (.ite (.t 8) (.reg [.op ⟨some 10, none, .mv (.t 0)⟩,
 .op ⟨some 11, none, .fa 3 (.t 3)⟩,
 .op ⟨some 12, none, .load false 1 (.t 11)⟩,
 .op ⟨some 13, none, .fa 4 (.t 3)⟩,
 .op ⟨some 14, none, .load false 1 (.t 13)⟩,
 .op ⟨some 15, none, .build [(I 0), (I 0), (.str []), (I 0), (I 0), .nils] [(0, 1, (.k (I 9))), (2, 1, (.t 12)), (5, 1, (.t 14))]⟩,
 .op ⟨some 16, none, .call 18 [(.t 10), (.t 15)]⟩])
 (.seq (.reg [.op ⟨some 18, none, .bin .eql (.t 7) (.k (I 2))⟩,
 .op ⟨some 17, none, .mv (.t 18)⟩])
 (.ite (.t 17) (.reg [.op ⟨some 19, none, .mv (.t 0)⟩,
 .op ⟨some 20, none, .load true 5 (.t 3)⟩,
 .op ⟨some 21, none, .call 19 [(.t 19), (.t 20)]⟩])
 (.seq (.reg [.op ⟨some 23, none, .bin .eql (.t 7) (.k (I 3))⟩,
 .op ⟨some 22, none, .mv (.t 23)⟩])
 (.ite (.t 22) (.reg [.op ⟨some 24, none, .mv (.t 0)⟩,
 .op ⟨some 25, none, .fa 1 (.t 3)⟩,
 .op ⟨some 26, none, .load false 1 (.t 25)⟩,
 .op ⟨some 27, none, .fa 4 (.t 3)⟩,
 .op ⟨some 28, none, .load false 1 (.t 27)⟩,
 .op ⟨some 29, none, .build [(I 0), (I 0), (.str []), (I 0), (I 0), .nils] [(0, 1, (.k (I 2))), (1, 1, (.t 26)), (5, 1, (.t 28))]⟩,
 .op ⟨some 30, none, .call 18 [(.t 24), (.t 29)]⟩])
 (.seq (.reg [.op ⟨some 32, none, .bin .eql (.t 7) (.k (I 4))⟩,
 .op ⟨some 31, none, .mv (.t 32)⟩])
 (.ite (.t 31) (.reg [.op ⟨some 33, none, .mv (.t 0)⟩,
 .op ⟨some 34, none, .fa 1 (.t 3)⟩,
 .op ⟨some 35, none, .load false 1 (.t 34)⟩,
 .op ⟨some 36, none, .build [(I 0), (I 0), (.str []), (I 0), (I 0), .nils] [(0, 1, (.k (I 3))), (1, 1, (.t 35))]⟩,
 .op ⟨some 37, none, .call 18 [(.t 33), (.t 36)]⟩])
 (.seq (.reg [.op ⟨some 39, none, .bin .eql (.t 7) (.k (I 5))⟩,
 .op ⟨some 38, none, .mv (.t 39)⟩])
 (.ite (.t 38) (.reg [.op ⟨some 40, none, .mv (.t 0)⟩,
 .op ⟨some 41, none, .fa 1 (.t 3)⟩,
 .op ⟨some 42, none, .load false 1 (.t 41)⟩,
 .op ⟨some 43, none, .fa 2 (.t 3)⟩,
 .op ⟨some 44, none, .load false 1 (.t 43)⟩,
 .op ⟨some 45, none, .build [(I 0), (I 0), (.str []), (I 0), (I 0), .nils] [(0, 1, (.k (I 4))), (1, 1, (.t 42)), (4, 1, (.t 44))]⟩,
 .op ⟨some 46, none, .call 18 [(.t 40), (.t 45)]⟩])
 (.seq (.reg [.op ⟨some 48, none, .bin .eql (.t 7) (.k (I 6))⟩,
 .op ⟨some 47, none, .mv (.t 48)⟩])
 (.ite (.t 47) (.reg [.op ⟨some 49, none, .mv (.t 0)⟩,
 .op ⟨some 50, none, .fa 2 (.t 3)⟩,
 .op ⟨some 51, none, .load false 1 (.t 50)⟩,
 .op ⟨some 52, none, .build [(I 0), (I 0), (.str []), (I 0), (I 0), .nils] [(0, 1, (.k (I 10))), (4, 1, (.t 51))]⟩,
 .op ⟨some 53, none, .call 18 [(.t 49), (.t 52)]⟩])
 (.seq (.reg [.op ⟨some 55, none, .bin .eql (.t 7) (.k (I 7))⟩,
 .op ⟨some 54, none, .mv (.t 55)⟩])
 (.ite (.t 54) (.seq (.reg [.op ⟨some 56, none, .fa 2 (.t 3)⟩,
 .op ⟨some 57, none, .load false 1 (.t 56)⟩,
 .op ⟨some 58, none, .mn (.t 57) (.k (I 50))⟩,
 .op ⟨some 59, none, .mx (.t 58) (.k (I 0))⟩,
 .op ⟨some 60, none, .mv (.k (I 0))⟩])
 (.block 1 (.loop (.seq (.reg [.op ⟨some 61, none, .bin .lss (.t 60) (.t 59)⟩])
 (.seq (.ite (.t 61) .skip
 (.exit 1))
 (.seq (.block 2 (.reg [.op ⟨some 62, none, .mv (.t 0)⟩,
 .op ⟨some 63, none, .build [(I 0), (I 0), (.str []), (I 0), (I 0), .nils] [(0, 1, (.k (I 11)))]⟩,
 .op ⟨some 64, none, .call 18 [(.t 62), (.t 63)]⟩]))
 (.reg [.op ⟨some 65, none, .bin .add (.t 60) (.k (I 1))⟩,
 .op ⟨some 60, none, .mv (.t 65)⟩])))))))
 (.seq (.reg [.op ⟨some 67, none, .bin .eql (.t 7) (.k (I 8))⟩,
 .op ⟨some 66, none, .mv (.t 67)⟩])
 (.ite (.t 66) (.seq (.reg [.op ⟨some 68, none, .mv (.t 0)⟩,
 .op ⟨some 69, none, .nilchk (.t 68)⟩,
 .op ⟨some 70, none, .fa 3 (.t 69)⟩,
 .op ⟨some 71, none, .load false 1 (.t 70)⟩,
 .op ⟨some 72, none, .fa 3 (.t 3)⟩,
 .op ⟨some 73, none, .load false 1 (.t 72)⟩,
 .op ⟨some 74, none, .look true .nils false (.t 71) (.t 73)⟩,
 .op ⟨some 75, none, .len .sl (.t 74)⟩,
 .op ⟨some 76, none, .bin .lss (.t 75) (.k (I 100))⟩])
 (.ite (.t 76) (.reg [.op ⟨some 77, none, .mv (.t 0)⟩,
 .op ⟨some 78, none, .nilchk (.t 77)⟩,
 .op ⟨some 79, none, .fa 3 (.t 78)⟩,
 .op ⟨some 80, none, .load false 1 (.t 79)⟩,
 .op ⟨some 81, none, .fa 3 (.t 3)⟩,
 .op ⟨some 82, none, .load false 1 (.t 81)⟩,
 .op ⟨some 83, none, .mv (.t 0)⟩,
 .op ⟨some 84, none, .nilchk (.t 83)⟩,
 .op ⟨some 85, none, .fa 3 (.t 84)⟩,
 .op ⟨some 86, none, .load false 1 (.t 85)⟩,
 .op ⟨some 87, none, .fa 3 (.t 3)⟩,
 .op ⟨some 88, none, .load false 1 (.t 87)⟩,
 .op ⟨some 89, none, .look true .nils false (.t 86) (.t 88)⟩,
 .op ⟨some 90, none, .fa 2 (.t 3)⟩,
 .op ⟨some 91, none, .load false 1 (.t 90)⟩,
 .op ⟨some 92, none, .bslice 1 1 [(I 0)] [(0, 1, (.t 91))]⟩,
 .chk ⟨some 89, none, .look true .nils false (.t 86) (.t 88)⟩,
 .chk ⟨some 88, none, .load false 1 (.t 87)⟩,
 .chk ⟨some 86, none, .load false 1 (.t 85)⟩,
 .chk ⟨some 82, none, .load false 1 (.t 81)⟩,
 .chk ⟨some 80, none, .load false 1 (.t 79)⟩,
 .op ⟨some 93, none, .app 1 8 (.t 89) (.t 92)⟩,
 .chk ⟨some 82, none, .load false 1 (.t 81)⟩,
 .chk ⟨some 80, none, .load false 1 (.t 79)⟩,
 .op ⟨none, none, .mset true (.t 80) (.t 82) (.t 93)⟩])
 .skip))
 (.seq (.reg [.op ⟨some 95, none, .bin .eql (.t 7) (.k (I 9))⟩,
 .op ⟨some 94, none, .mv (.t 95)⟩])
 (.ite (.t 94) (.seq (.reg [.op ⟨some 5, none, .mv (.k (I 0))⟩])
 (.block 3 (.loop (.seq (.seq (.reg [.op ⟨some 96, none, .mv (.t 5)⟩,
 .op ⟨some 97, none, .fa 2 (.t 3)⟩,
 .op ⟨some 98, none, .load false 1 (.t 97)⟩,
 .op ⟨some 99, none, .mn (.t 98) (.k (I 200))⟩,
 .op ⟨some 100, none, .bin .lss (.t 96) (.t 99)⟩,
 .op ⟨some 101, none, .mv (.t 100)⟩,
 .op ⟨some 102, some (101, true), .mv (.t 0)⟩,
 .op ⟨some 103, some (101, true), .nilchk (.t 102)⟩,
 .op ⟨some 104, some (101, true), .fa 4 (.t 103)⟩,
 .op ⟨some 105, some (101, true), .load false 1 (.t 104)⟩,
 .op ⟨some 106, some (101, true), .len .sl (.t 105)⟩,
 .op ⟨some 107, some (101, true), .bin .gtr (.t 106) (.k (I 0))⟩,
 .op ⟨some 108, none, .pick (.t 101) (.t 107) (.k (.bool false))⟩])
 (.ite (.t 108) .skip
 (.exit 3)))
 (.seq (.block 4 (.reg [.op ⟨some 111, none, .mv (.t 0)⟩,
 .op ⟨some 112, none, .call 20 [(.t 111)]⟩]))
 (.reg [.op ⟨some 109, none, .mv (.t 5)⟩,
 .op ⟨some 110, none, .bin .add (.t 109) (.k (I 1))⟩,
 .op ⟨some 5, none, .mv (.t 110)⟩]))))))
 (.seq (.reg [.op ⟨some 4, none, .mv (.k (I 1))⟩])
 .ret)))))))))))))))))))))
 (.seq (.reg [.op ⟨some 4, none, .mv (.k (I 0))⟩])
 .ret)))⟩
theorem g7 : Good 7 c7 := ⟨_, Tryz.func7, by kernel_rfl⟩

def c8 : AFunc := ⟨[.t 4], (.seq (.reg [.op ⟨some 4, none, .mv (.k .nils)⟩])
 (.seq (.reg [.op ⟨some 5, none, .mv (.t 0)⟩,
 .op ⟨some 6, none, .mv (.t 1)⟩,
 .op ⟨some 7, none, .call 22 [(.t 5), (.t 6)]⟩,
 .op ⟨some 8, none, .nilchk (.t 7)⟩,
 .op ⟨some 9, none, .fa 0 (.t 8)⟩,
 .op ⟨some 10, none, .load false 1 (.t 9)⟩,
 .op ⟨some 11, none, .call 21 [(.t 10)]⟩,
 .op ⟨some 4, none, .mv (.t 11)⟩])
 .ret))⟩
theorem g8 : Good 8 c8 := ⟨_, Tryz.func8, by kernel_rfl⟩

def c9 : AFunc := ⟨[.t 4], (.seq (.reg [.op ⟨some 4, none, .mv (.k .nils)⟩])
 (.seq (.reg [.op ⟨some 5, none, .mv (.t 0)⟩,
 .op ⟨some 6, none, .nilchk (.t 5)⟩,
 .op ⟨some 7, none, .fa 2 (.t 6)⟩,
 .op ⟨some 8, none, .load false 1 (.t 7)⟩,
 .op ⟨some 9, none, .mv (.t 1)⟩,
 .op ⟨some 10, none, .look true .nils false (.t 8) (.t 9)⟩,
 .op ⟨some 11, none, .call 23 [(.t 10)]⟩,
 .op ⟨some 4, none, .mv (.t 11)⟩])
 .ret))⟩
theorem g9 : Good 9 c9 := ⟨_, Tryz.func9, by kernel_rfl⟩

def c10 : AFunc := ⟨[.t 2], (.seq (.reg [.op ⟨some 2, none, .mv (.k (I 0))⟩])
 (.seq (.reg [.op ⟨some 3, none, .mv (.t 0)⟩,
 .op ⟨some 4, none, .nilchk (.t 3)⟩,
 .op ⟨some 5, none, .fa 4 (.t 4)⟩,
 .op ⟨some 6, none, .load false 1 (.t 5)⟩,
 .op ⟨some 7, none, .len .sl (.t 6)⟩,
 .op ⟨some 2, none, .mv (.t 7)⟩])
 .ret))⟩
theorem g10 : Good 10 c10 := ⟨_, Tryz.func10, by kernel_rfl⟩

def c11 : AFunc := ⟨[.t 0], (.seq (.reg [.op ⟨some 0, none, .mv (.k .nils)⟩])
 (.seq (.reg [.op ⟨some 1, none, .bslice 1 52 [(.int .u8 (0))] [(0, 1, (.k (.int .u8 (117)))), (1, 1, (.k (.int .u8 (112)))), (2, 1, (.k (.int .u8 (32)))), (3, 1, (.k (.int .u8 (117)))), (4, 1, (.k (.int .u8 (32)))), (5, 1, (.k (.int .u8 (120)))), (6, 1, (.k (.int .u8 (32)))), (7, 1, (.k (.int .u8 (121)))), (8, 1, (.k (.int .u8 (10)))), (9, 1, (.k (.int .u8 (114)))), (10, 1, (.k (.int .u8 (111)))), (11, 1, (.k (.int .u8 (117)))), (12, 1, (.k (.int .u8 (116)))), (13, 1, (.k (.int .u8 (101)))), (14, 1, (.k (.int .u8 (32)))), (15, 1, (.k (.int .u8 (47)))), (16, 1, (.k (.int .u8 (32)))), (17, 1, (.k (.int .u8 (117)))), (18, 1, (.k (.int .u8 (32)))), (19, 1, (.k (.int .u8 (47)))), (20, 1, (.k (.int .u8 (10)))), (21, 1, (.k (.int .u8 (116)))), (22, 1, (.k (.int .u8 (111)))), (23, 1, (.k (.int .u8 (116)))), (24, 1, (.k (.int .u8 (97)))), (25, 1, (.k (.int .u8 (108)))), (26, 1, (.k (.int .u8 (32)))), (27, 1, (.k (.int .u8 (57)))), (28, 1, (.k (.int .u8 (10)))), (29, 1, (.k (.int .u8 (116)))), (30, 1, (.k (.int .u8 (114)))), (31, 1, (.k (.int .u8 (105)))), (32, 1, (.k (.int .u8 (101)))), (33, 1, (.k (.int .u8 (115)))), (34, 1, (.k (.int .u8 (32)))), (35, 1, (.k (.int .u8 (50)))), (36, 1, (.k (.int .u8 (10)))), (37, 1, (.k (.int .u8 (102)))), (38, 1, (.k (.int .u8 (97)))), (39, 1, (.k (.int .u8 (105)))), (40, 1, (.k (.int .u8 (108)))), (41, 1, (.k (.int .u8 (115)))), (42, 1, (.k (.int .u8 (32)))), (43, 1, (.k (.int .u8 (51)))), (44, 1, (.k (.int .u8 (10)))), (45, 1, (.k (.int .u8 (99)))), (46, 1, (.k (.int .u8 (111)))), (47, 1, (.k (.int .u8 (111)))), (48, 1, (.k (.int .u8 (108)))), (49, 1, (.k (.int .u8 (32)))), (50, 1, (.k (.int .u8 (53)))), (51, 1, (.k (.int .u8 (10))))]⟩,
 .op ⟨some 2, none, .conv .bs (.t 1)⟩,
 .op ⟨some 0, none, .mv (.t 2)⟩])
 .ret))⟩
theorem g11 : Good 11 c11 := ⟨_, Tryz.func11, by kernel_rfl⟩

def c12 : AFunc := ⟨[.t 4], (.seq (.reg [.op ⟨some 4, none, .mv (.k (.bool false))⟩])
 (.seq (.reg [.op ⟨some 5, none, .mv (.t 0)⟩,
 .op ⟨some 6, none, .mv (.t 1)⟩,
 .op ⟨some 7, none, .call 22 [(.t 5), (.t 6)]⟩,
 .op ⟨some 8, none, .nilchk (.t 7)⟩,
 .op ⟨some 9, none, .fa 1 (.t 8)⟩,
 .op ⟨some 10, none, .load false 1 (.t 9)⟩,
 .op ⟨some 4, none, .mv (.t 10)⟩])
 .ret))⟩
theorem g12 : Good 12 c12 := ⟨_, Tryz.func12, by kernel_rfl⟩

def c13 : AFunc := ⟨[.t 4], (.seq (.reg [.op ⟨some 4, none, .mv (.k (I 0))⟩])
 (.seq (.reg [.op ⟨some 5, none, .mv (.t 0)⟩,
 .op ⟨some 6, none, .mv (.t 1)⟩,
 .op ⟨some 7, none, .call 22 [(.t 5), (.t 6)]⟩,
 .op ⟨some 8, none, .nilchk (.t 7)⟩,
 .op ⟨some 9, none, .fa 2 (.t 8)⟩,
 .op ⟨some 10, none, .load false 1 (.t 9)⟩,
 .op ⟨some 4, none, .mv (.t 10)⟩])
 .ret))⟩
theorem g13 : Good 13 c13 := ⟨_, Tryz.func13, by kernel_rfl⟩

def c14 : AFunc := ⟨[.t 2], (.seq (.reg [.op ⟨some 2, none, .mv (.k .nilp)⟩])
 (.seq (.reg [.op ⟨some 3, none, .mv (.t 0)⟩,
 .op ⟨some 4, none, .nilchk (.t 3)⟩,
 .op ⟨some 5, none, .fa 0 (.t 4)⟩,
 .op ⟨some 6, none, .load false 1 (.t 5)⟩,
 .op ⟨some 2, none, .mv (.t 6)⟩])
 .ret))⟩
theorem g14 : Good 14 c14 := ⟨_, Tryz.func14, by kernel_rfl⟩

def c15 : AFunc := ⟨[.t 4], (.seq (.reg [.op ⟨some 4, none, .mv (.k (.str []))⟩])
 (.seq (.seq (.reg [.op ⟨some 8, none, .mv (.t 0)⟩,
 .op ⟨some 9, none, .nilchk (.t 8)⟩,
 .op ⟨some 10, none, .fa 3 (.t 9)⟩,
 .op ⟨some 11, none, .load false 1 (.t 10)⟩,
 .op ⟨some 12, none, .mv (.t 1)⟩,
 .op ⟨some 13, none, .look false (I 0) true (.t 11) (.t 12)⟩,
 .op ⟨some 7, none, .mv (.t 13)⟩,
 .op ⟨some 14, none, .ext 0 (.t 7)⟩,
 .op ⟨some 15, none, .ext 1 (.t 7)⟩,
 .op ⟨some 5, none, .mv (.t 14)⟩,
 .op ⟨some 6, none, .mv (.t 15)⟩])
 (.seq (.reg [.op ⟨some 16, none, .mv (.t 6)⟩])
 (.ite (.t 16) (.seq (.reg [.op ⟨some 17, none, .mv (.t 0)⟩,
 .op ⟨some 18, none, .nilchk (.t 17)⟩,
 .op ⟨some 19, none, .fa 0 (.t 18)⟩,
 .op ⟨some 20, none, .load false 1 (.t 19)⟩,
 .op ⟨some 21, none, .mv (.t 5)⟩,
 .op ⟨some 22, none, .ia (.sl 8) (.t 20) (.t 21)⟩,
 .op ⟨some 23, none, .fa 0 (.t 22)⟩,
 .op ⟨some 24, none, .load false 1 (.t 23)⟩,
 .op ⟨some 4, none, .mv (.t 24)⟩])
 .ret)
 .skip)))
 (.seq (.reg [.op ⟨some 4, none, .mv (.k (.str []))⟩])
 .ret)))⟩
theorem g15 : Good 15 c15 := ⟨_, Tryz.func15, by kernel_rfl⟩

def c16 : AFunc := ⟨[.t 2, .t 3], (.seq (.reg [.op ⟨some 2, none, .mv (.k .nils)⟩,
 .op ⟨some 3, none, .mv (.k (I 0))⟩])
 (.seq (.seq (.reg [.op ⟨some 10, none, .mv (.t 0)⟩,
 .op ⟨some 11, none, .len .str (.t 10)⟩,
 .op ⟨some 12, none, .bin .gtr (.t 11) (.k (I 4096))⟩])
 (.ite (.t 12) (.seq (.reg [.op ⟨some 2, none, .mv (.k .nils)⟩,
 .op ⟨some 3, none, .mv (.k (I 2))⟩])
 .ret)
 .skip))
 (.seq (.reg [.op ⟨some 4, none, .mv (.k .nils)⟩])
 (.seq (.block 0 (.loop (.seq (.seq (.reg [.op ⟨some 13, none, .mv (.t 0)⟩,
 .op ⟨some 14, none, .bin .neq (.t 13) (.k (.str []))⟩])
 (.ite (.t 14) .skip
 (.exit 0)))
 (.block 1 (.seq (.reg [.op ⟨some 16, none, .mv (.t 0)⟩,
 .op ⟨some 17, none, .call 24 [(.t 16), (.k (.str [10]))]⟩,
 .op ⟨some 15, none, .mv (.t 17)⟩,
 .op ⟨some 18, none, .ext 0 (.t 15)⟩,
 .op ⟨some 19, none, .ext 1 (.t 15)⟩,
 .op ⟨some 20, none, .ext 2 (.t 15)⟩,
 .op ⟨some 5, none, .mv (.t 18)⟩,
 .op ⟨some 6, none, .mv (.t 19)⟩,
 .op ⟨some 7, none, .mv (.t 20)⟩])
 (.seq (.reg [.op ⟨some 22, none, .mv (.t 5)⟩,
 .op ⟨some 23, none, .call 25 [(.t 22)]⟩,
 .op ⟨some 21, none, .mv (.t 23)⟩,
 .op ⟨some 24, none, .ext 0 (.t 21)⟩,
 .op ⟨some 25, none, .ext 1 (.t 21)⟩,
 .op ⟨some 8, none, .alloc [(.str []), .nils, (I 0), (I 0), (I 0), (I 0), (I 0), (I 0)]⟩,
 .op ⟨none, none, .store 8 (.t 8) (.t 24)⟩,
 .op ⟨some 9, none, .mv (.t 25)⟩])
 (.seq (.seq (.reg [.op ⟨some 26, none, .mv (.t 7)⟩,
 .op ⟨some 27, none, .un .not (.t 26)⟩,
 .op ⟨some 28, none, .mv (.t 27)⟩,
 .op ⟨some 29, some (28, false), .mv (.t 9)⟩,
 .op ⟨some 30, some (28, false), .un .not (.t 29)⟩,
 .op ⟨some 31, none, .pick (.t 28) (.k (.bool true)) (.t 30)⟩])
 (.ite (.t 31) (.seq (.reg [.op ⟨some 2, none, .mv (.k .nils)⟩,
 .op ⟨some 3, none, .mv (.k (I 20))⟩])
 .ret)
 .skip))
 (.seq (.reg [.op ⟨some 32, none, .mv (.t 4)⟩,
 .op ⟨some 33, none, .load true 8 (.t 8)⟩,
 .op ⟨some 34, none, .bslice 8 1 [(.str []), .nils, (I 0), (I 0), (I 0), (I 0), (I 0), (I 0)] [(0, 8, (.t 33))]⟩,
 .op ⟨some 35, none, .app 8 88 (.t 32) (.t 34)⟩,
 .op ⟨some 4, none, .mv (.t 35)⟩])
 (.reg [.op ⟨some 36, none, .mv (.t 6)⟩,
 .op ⟨some 0, none, .mv (.t 36)⟩])))))))))
 (.seq (.seq (.reg [.op ⟨some 37, none, .mv (.t 4)⟩,
 .op ⟨some 38, none, .call 26 [(.t 37)]⟩,
 .op ⟨some 39, none, .un .not (.t 38)⟩])
 (.ite (.t 39) (.seq (.reg [.op ⟨some 2, none, .mv (.k .nils)⟩,
 .op ⟨some 3, none, .mv (.k (I 60))⟩])
 .ret)
 .skip))
 (.seq (.reg [.op ⟨some 40, none, .mv (.t 4)⟩,
 .op ⟨some 2, none, .mv (.t 40)⟩,
 .op ⟨some 3, none, .mv (.k (I 0))⟩])
 .ret))))))⟩
theorem g16 : Good 16 c16 := ⟨_, Tryz.func16, by kernel_rfl⟩

def c17 : AFunc := ⟨[.t 2, .t 3], (.seq (.reg [.op ⟨some 2, none, .mv (.k .nilp)⟩,
 .op ⟨some 3, none, .mv (.k .nils)⟩])
 (.seq (.reg [.op ⟨some 9, none, .mkm⟩,
 .op ⟨some 10, none, .mkm⟩,
 .op ⟨some 11, none, .build [.nils, .nils, .nilm, .nilm] [(2, 1, (.t 9)), (3, 1, (.t 10))]⟩,
 .op ⟨some 12, none, .box 4 (.t 11)⟩,
 .op ⟨some 4, none, .mv (.t 12)⟩])
 (.seq (.reg [.op ⟨some 14, none, .mv (.t 0)⟩,
 .op ⟨some 15, none, .call 16 [(.t 14)]⟩,
 .op ⟨some 13, none, .mv (.t 15)⟩,
 .op ⟨some 16, none, .ext 0 (.t 13)⟩,
 .op ⟨some 17, none, .ext 1 (.t 13)⟩,
 .op ⟨some 5, none, .mv (.t 16)⟩,
 .op ⟨some 6, none, .mv (.t 17)⟩])
 (.seq (.seq (.reg [.op ⟨some 18, none, .mv (.t 6)⟩,
 .op ⟨some 19, none, .bin .neq (.t 18) (.k (I 0))⟩])
 (.ite (.t 19) (.seq (.reg [.op ⟨some 20, none, .mv (.t 4)⟩,
 .op ⟨some 21, none, .build [(I 0), (I 0), (.str []), (I 0), (.str []), .nils] [(0, 1, (.k (I 9)))]⟩,
 .op ⟨some 22, none, .bslice 6 1 [(I 0), (I 0), (.str []), (I 0), (.str []), .nils] [(0, 6, (.t 21))]⟩,
 .op ⟨some 2, none, .mv (.t 20)⟩,
 .op ⟨some 3, none, .mv (.t 22)⟩])
 .ret)
 .skip))
 (.seq (.reg [.op ⟨some 23, none, .mv (.t 4)⟩,
 .op ⟨some 24, none, .mv (.t 5)⟩,
 .op ⟨some 25, none, .nilchk (.t 23)⟩,
 .op ⟨some 26, none, .fa 0 (.t 25)⟩,
 .op ⟨none, none, .store 1 (.t 26) (.t 24)⟩])
 (.seq (.seq (.reg [.op ⟨some 27, none, .mv (.t 5)⟩,
 .op ⟨some 28, none, .len .sl (.t 27)⟩,
 .op ⟨some 29, none, .mv (.k (I 0))⟩])
 (.block 0 (.loop (.seq (.reg [.op ⟨some 30, none, .bin .lss (.t 29) (.t 28)⟩])
 (.seq (.ite (.t 30) .skip
 (.exit 0))
 (.seq (.block 1 (.seq (.reg [.op ⟨some 31, none, .ia (.sl 8) (.t 27) (.t 29)⟩,
 .op ⟨some 32, none, .load true 8 (.t 31)⟩,
 .op ⟨some 8, none, .alloc [(.str []), .nils, (I 0), (I 0), (I 0), (I 0), (I 0), (I 0)]⟩,
 .op ⟨none, none, .store 8 (.t 8) (.t 32)⟩])
 (.reg [.op ⟨some 33, none, .mv (.t 4)⟩,
 .op ⟨some 34, none, .mv (.t 4)⟩,
 .op ⟨some 35, none, .nilchk (.t 34)⟩,
 .op ⟨some 36, none, .fa 1 (.t 35)⟩,
 .op ⟨some 37, none, .load false 1 (.t 36)⟩,
 .op ⟨some 38, none, .load true 8 (.t 8)⟩,
 .op ⟨some 39, none, .call 27 [(.t 38)]⟩,
 .chk ⟨some 37, none, .load false 1 (.t 36)⟩,
 .op ⟨some 40, none, .bslice 1 1 [.nilp] [(0, 1, (.t 39))]⟩,
 .chk ⟨some 37, none, .load false 1 (.t 36)⟩,
 .op ⟨some 41, none, .app 1 8 (.t 37) (.t 40)⟩,
 .op ⟨some 42, none, .nilchk (.t 33)⟩,
 .op ⟨some 43, none, .fa 1 (.t 42)⟩,
 .op ⟨none, none, .store 1 (.t 43) (.t 41)⟩])))
 (.reg [.op ⟨some 44, none, .bin .add (.t 29) (.k (I 1))⟩,
 .op ⟨some 29, none, .mv (.t 44)⟩])))))))
 (.seq (.reg [.op ⟨some 45, none, .mv (.t 4)⟩,
 .op ⟨some 2, none, .mv (.t 45)⟩,
 .op ⟨some 3, none, .mv (.k .nils)⟩])
 .ret)))))))⟩
theorem g17 : Good 17 c17 := ⟨_, Tryz.func17, by kernel_rfl⟩

def c18 : AFunc := ⟨[], (.seq (.reg [.op ⟨some 3, none, .box 6 (.t 1)⟩])
 (.seq (.reg [.op ⟨some 9, none, .fa 5 (.t 3)⟩,
 .op ⟨some 10, none, .load false 1 (.t 9)⟩,
 .op ⟨some 11, none, .call 21 [(.t 10)]⟩,
 .op ⟨some 12, none, .fa 5 (.t 3)⟩,
 .op ⟨none, none, .store 1 (.t 12) (.t 11)⟩])
 (.seq (.reg [.op ⟨some 13, none, .mv (.t 0)⟩,
 .op ⟨some 14, none, .nilchk (.t 13)⟩,
 .op ⟨some 15, none, .fa 0 (.t 14)⟩,
 .op ⟨some 16, none, .load false 1 (.t 15)⟩,
 .op ⟨some 17, none, .load true 6 (.t 3)⟩,
 .op ⟨some 20, none, .mv (.k (I 0))⟩,
 .op ⟨some 18, none, .call 28 [(.t 16), (.t 17)]⟩,
 .op ⟨some 19, none, .len .sl (.t 18)⟩])
 (.block 0 (.loop (.seq (.reg [.op ⟨some 21, none, .bin .lss (.t 20) (.t 19)⟩])
 (.seq (.ite (.t 21) .skip
 (.exit 0))
 (.seq (.block 1 (.seq (.reg [.op ⟨some 22, none, .ia (.sl 6) (.t 18) (.t 20)⟩,
 .op ⟨some 23, none, .load true 6 (.t 22)⟩,
 .op ⟨some 5, none, .alloc [(I 0), (I 0), (.str []), (I 0), (.str []), .nils]⟩,
 .op ⟨none, none, .store 6 (.t 5) (.t 23)⟩])
 (.seq (.reg [.op ⟨some 24, none, .fa 0 (.t 5)⟩,
 .op ⟨some 25, none, .load false 1 (.t 24)⟩])
 (.block 2 (.seq (.reg [.op ⟨some 27, none, .bin .eql (.t 25) (.k (I 1))⟩,
 .op ⟨some 26, none, .mv (.t 27)⟩])
 (.ite (.t 26) (.seq (.reg [.op ⟨some 28, none, .mv (.t 0)⟩,
 .op ⟨some 29, none, .fa 1 (.t 5)⟩,
 .op ⟨some 30, none, .load false 1 (.t 29)⟩,
 .op ⟨some 31, none, .call 22 [(.t 28), (.t 30)]⟩,
 .op ⟨some 6, none, .mv (.t 31)⟩])
 (.reg [.op ⟨some 32, none, .mv (.t 6)⟩,
 .op ⟨some 33, none, .mv (.t 6)⟩,
 .op ⟨some 34, none, .nilchk (.t 33)⟩,
 .op ⟨some 35, none, .fa 0 (.t 34)⟩,
 .op ⟨some 36, none, .load false 1 (.t 35)⟩,
 .op ⟨some 37, none, .fa 5 (.t 5)⟩,
 .op ⟨some 38, none, .load false 1 (.t 37)⟩,
 .op ⟨some 39, none, .app 1 1 (.t 36) (.t 38)⟩,
 .op ⟨some 40, none, .nilchk (.t 32)⟩,
 .op ⟨some 41, none, .fa 0 (.t 40)⟩,
 .op ⟨none, none, .store 1 (.t 41) (.t 39)⟩]))
 (.seq (.reg [.op ⟨some 43, none, .bin .eql (.t 25) (.k (I 3))⟩,
 .op ⟨some 42, none, .mv (.t 43)⟩])
 (.ite (.t 42) (.reg [.op ⟨some 44, none, .mv (.t 0)⟩,
 .op ⟨some 45, none, .fa 1 (.t 5)⟩,
 .op ⟨some 46, none, .load false 1 (.t 45)⟩,
 .op ⟨some 47, none, .call 22 [(.t 44), (.t 46)]⟩,
 .op ⟨some 48, none, .nilchk (.t 47)⟩,
 .op ⟨some 49, none, .fa 1 (.t 48)⟩,
 .op ⟨none, none, .store 1 (.t 49) (.k (.bool true))⟩])
 (.seq (.reg [.op ⟨some 51, none, .bin .eql (.t 25) (.k (I 2))⟩,
 .op ⟨some 50, none, .mv (.t 51)⟩])
 (.ite (.t 50) (.reg [.op ⟨some 52, none, .mv (.t 0)⟩,
 .op ⟨some 53, none, .fa 1 (.t 5)⟩,
 .op ⟨some 54, none, .load false 1 (.t 53)⟩,
 .op ⟨some 55, none, .call 22 [(.t 52), (.t 54)]⟩,
 .op ⟨some 56, none, .nilchk (.t 55)⟩,
 .op ⟨some 57, none, .fa 2 (.t 56)⟩,
 .op ⟨some 58, none, .load false 1 (.t 57)⟩,
 .op ⟨some 59, none, .bin .add (.t 58) (.k (I 1))⟩,
 .op ⟨some 60, none, .nilchk (.t 55)⟩,
 .op ⟨some 61, none, .fa 2 (.t 60)⟩,
 .op ⟨none, none, .store 1 (.t 61) (.t 59)⟩])
 (.seq (.reg [.op ⟨some 63, none, .bin .eql (.t 25) (.k (I 7))⟩,
 .op ⟨some 62, none, .mv (.t 63)⟩])
 (.ite (.t 62) (.seq (.reg [.op ⟨some 65, none, .fa 5 (.t 5)⟩,
 .op ⟨some 66, none, .load false 1 (.t 65)⟩,
 .op ⟨some 67, none, .call 29 [(.t 66)]⟩,
 .op ⟨some 64, none, .mv (.t 67)⟩,
 .op ⟨some 68, none, .ext 0 (.t 64)⟩,
 .op ⟨some 69, none, .ext 1 (.t 64)⟩,
 .op ⟨some 7, none, .alloc [(I 0), (I 0), (I 0), (I 0), (.str []), (.str []), (I 0), (I 0), (I 0)]⟩,
 .op ⟨none, none, .store 9 (.t 7) (.t 68)⟩,
 .op ⟨some 8, none, .mv (.t 69)⟩])
 (.reg [.op ⟨some 70, none, .mv (.t 0)⟩,
 .op ⟨some 71, none, .nilchk (.t 70)⟩,
 .op ⟨some 72, none, .fa 2 (.t 71)⟩,
 .op ⟨some 73, none, .load false 1 (.t 72)⟩,
 .op ⟨some 74, none, .fa 2 (.t 5)⟩,
 .op ⟨some 75, none, .load false 1 (.t 74)⟩,
 .op ⟨some 76, none, .mv (.t 0)⟩,
 .op ⟨some 77, none, .nilchk (.t 76)⟩,
 .op ⟨some 78, none, .fa 2 (.t 77)⟩,
 .op ⟨some 79, none, .load false 1 (.t 78)⟩,
 .op ⟨some 80, none, .fa 2 (.t 5)⟩,
 .op ⟨some 81, none, .load false 1 (.t 80)⟩,
 .op ⟨some 82, none, .look true .nils false (.t 79) (.t 81)⟩,
 .op ⟨some 83, none, .load true 9 (.t 7)⟩,
 .op ⟨some 84, none, .bslice 9 1 [(I 0), (I 0), (I 0), (I 0), (.str []), (.str []), (I 0), (I 0), (I 0)] [(0, 9, (.t 83))]⟩,
 .chk ⟨some 82, none, .look true .nils false (.t 79) (.t 81)⟩,
 .chk ⟨some 81, none, .load false 1 (.t 80)⟩,
 .chk ⟨some 79, none, .load false 1 (.t 78)⟩,
 .chk ⟨some 75, none, .load false 1 (.t 74)⟩,
 .chk ⟨some 73, none, .load false 1 (.t 72)⟩,
 .op ⟨some 85, none, .app 9 88 (.t 82) (.t 84)⟩,
 .chk ⟨some 75, none, .load false 1 (.t 74)⟩,
 .chk ⟨some 73, none, .load false 1 (.t 72)⟩,
 .op ⟨none, none, .mset true (.t 73) (.t 75) (.t 85)⟩]))
 (.seq (.seq (.reg [.op ⟨some 87, none, .bin .eql (.t 25) (.k (I 4))⟩,
 .op ⟨some 86, none, .mv (.t 87)⟩])
 (.ite (.t 86) .skip
 (.reg [.op ⟨some 88, none, .bin .eql (.t 25) (.k (I 5))⟩,
 .op ⟨some 86, none, .mv (.t 88)⟩])))
 (.ite (.t 86) (.reg [.op ⟨some 89, none, .mv (.t 0)⟩,
 .op ⟨some 90, none, .mv (.t 0)⟩,
 .op ⟨some 91, none, .nilchk (.t 90)⟩,
 .op ⟨some 92, none, .fa 4 (.t 91)⟩,
 .op ⟨some 93, none, .load false 1 (.t 92)⟩,
 .op ⟨some 94, none, .load true 6 (.t 5)⟩,
 .op ⟨some 95, none, .bslice 6 1 [(I 0), (I 0), (.str []), (I 0), (.str []), .nils] [(0, 6, (.t 94))]⟩,
 .chk ⟨some 93, none, .load false 1 (.t 92)⟩,
 .op ⟨some 96, none, .app 6 80 (.t 93) (.t 95)⟩,
 .op ⟨some 97, none, .nilchk (.t 89)⟩,
 .op ⟨some 98, none, .fa 4 (.t 97)⟩,
 .op ⟨none, none, .store 1 (.t 98) (.t 96)⟩])
 .skip))))))))))))))
 (.reg [.op ⟨some 99, none, .bin .add (.t 20) (.k (I 1))⟩,
 .op ⟨some 20, none, .mv (.t 99)⟩])))))))))⟩
theorem g18 : Good 18 c18 := ⟨_, Tryz.func18, by kernel_rfl⟩

def c19 : AFunc := ⟨[], (.seq (.reg [.op ⟨some 3, none, .box 5 (.t 1)⟩])
 (.seq (.reg [.op ⟨some 5, none, .mv (.t 0)⟩,
 .op ⟨some 6, none, .fa 1 (.t 3)⟩,
 .op ⟨some 7, none, .load false 1 (.t 6)⟩,
 .op ⟨some 8, none, .call 30 [(.t 5), (.t 7)]⟩,
 .op ⟨some 4, none, .mv (.t 8)⟩])
 (.seq (.reg [.op ⟨some 9, none, .mv (.t 0)⟩,
 .op ⟨some 10, none, .fa 1 (.t 3)⟩,
 .op ⟨some 11, none, .load false 1 (.t 10)⟩,
 .op ⟨some 12, none, .build [(I 0), (I 0), (.str []), (I 0), (I 0), .nils] [(0, 1, (.k (I 1))), (1, 1, (.t 11))]⟩,
 .op ⟨some 13, none, .call 18 [(.t 9), (.t 12)]⟩])
 (.seq (.seq (.reg [.op ⟨some 14, none, .mv (.t 4)⟩,
 .op ⟨some 15, none, .un .not (.t 14)⟩])
 (.ite (.t 15) (.reg [.op ⟨some 16, none, .mv (.t 0)⟩,
 .op ⟨some 17, none, .nilchk (.t 16)⟩,
 .op ⟨some 18, none, .fa 1 (.t 17)⟩,
 .op ⟨some 19, none, .load false 1 (.t 18)⟩,
 .op ⟨some 20, none, .fa 1 (.t 3)⟩,
 .op ⟨some 21, none, .load false 1 (.t 20)⟩,
 .op ⟨some 22, none, .build [.nils, (.bool false), (I 0)] []⟩,
 .op ⟨some 23, none, .box 3 (.t 22)⟩,
 .chk ⟨some 21, none, .load false 1 (.t 20)⟩,
 .chk ⟨some 19, none, .load false 1 (.t 18)⟩,
 .op ⟨none, none, .mset false (.t 19) (.t 21) (.t 23)⟩])
 .skip))
 (.reg [.op ⟨some 24, none, .mv (.t 0)⟩,
 .op ⟨some 25, none, .fa 1 (.t 3)⟩,
 .op ⟨some 26, none, .load false 1 (.t 25)⟩,
 .op ⟨some 27, none, .fa 2 (.t 3)⟩,
 .op ⟨some 28, none, .load false 1 (.t 27)⟩,
 .op ⟨some 29, none, .build [(I 0), (I 0), (.str []), (I 0), (I 0), .nils] [(0, 1, (.k (I 4))), (1, 1, (.t 26)), (4, 1, (.t 28))]⟩,
 .op ⟨some 30, none, .call 18 [(.t 24), (.t 29)]⟩])))))⟩
theorem g19 : Good 19 c19 := ⟨_, Tryz.func19, by kernel_rfl⟩

def c20 : AFunc := ⟨[], (.seq (.reg [.op ⟨some 5, none, .mv (.t 0)⟩,
 .op ⟨some 6, none, .nilchk (.t 5)⟩,
 .op ⟨some 7, none, .fa 4 (.t 6)⟩,
 .op ⟨some 8, none, .load false 1 (.t 7)⟩,
 .op ⟨some 9, none, .ia (.sl 6) (.t 8) (.k (I 0))⟩,
 .op ⟨some 10, none, .load true 6 (.t 9)⟩,
 .op ⟨some 2, none, .alloc [(I 0), (I 0), (.str []), (I 0), (.str []), .nils]⟩,
 .op ⟨none, none, .store 6 (.t 2) (.t 10)⟩])
 (.seq (.reg [.op ⟨some 11, none, .mv (.t 0)⟩,
 .op ⟨some 12, none, .mv (.t 0)⟩,
 .op ⟨some 13, none, .nilchk (.t 12)⟩,
 .op ⟨some 14, none, .fa 4 (.t 13)⟩,
 .op ⟨some 15, none, .load false 1 (.t 14)⟩,
 .op ⟨some 16, none, .slc (.sl 6) (.t 15) (some (.k (I 1))) none none⟩,
 .op ⟨some 17, none, .nilchk (.t 11)⟩,
 .op ⟨some 18, none, .fa 4 (.t 17)⟩,
 .op ⟨none, none, .store 1 (.t 18) (.t 16)⟩])
 (.seq (.seq (.reg [.op ⟨some 19, none, .fa 0 (.t 2)⟩,
 .op ⟨some 20, none, .load false 1 (.t 19)⟩,
 .op ⟨some 21, none, .bin .eql (.t 20) (.k (I 5))⟩])
 (.ite (.t 21) (.seq (.reg [.op ⟨some 22, none, .mv (.t 0)⟩,
 .op ⟨some 23, none, .load true 6 (.t 2)⟩,
 .op ⟨some 24, none, .call 31 [(.t 22), (.t 23)]⟩])
 .ret)
 .skip))
 (.seq (.reg [.op ⟨some 25, none, .fa 2 (.t 2)⟩,
 .op ⟨some 26, none, .load false 1 (.t 25)⟩,
 .op ⟨some 27, none, .fa 3 (.t 2)⟩,
 .op ⟨some 28, none, .load false 1 (.t 27)⟩,
 .op ⟨some 29, none, .build [(I 0), (I 0), (.str []), (I 0), (I 0), .nils] [(0, 1, (.k (I 5))), (2, 1, (.t 26)), (3, 1, (.t 28))]⟩,
 .op ⟨some 3, none, .alloc [(I 0), (I 0), (.str []), (I 0), (I 0), .nils]⟩,
 .op ⟨none, none, .store 6 (.t 3) (.t 29)⟩])
 (.seq (.seq (.reg [.op ⟨some 30, none, .mv (.t 0)⟩,
 .op ⟨some 31, none, .nilchk (.t 30)⟩,
 .op ⟨some 32, none, .fa 3 (.t 31)⟩,
 .op ⟨some 33, none, .load false 1 (.t 32)⟩,
 .op ⟨some 34, none, .fa 2 (.t 2)⟩,
 .op ⟨some 35, none, .load false 1 (.t 34)⟩,
 .op ⟨some 36, none, .look true .nils false (.t 33) (.t 35)⟩,
 .op ⟨some 4, none, .mv (.t 36)⟩])
 (.seq (.reg [.op ⟨some 37, none, .mv (.t 4)⟩,
 .op ⟨some 38, none, .len .sl (.t 37)⟩,
 .op ⟨some 39, none, .bin .gtr (.t 38) (.k (I 0))⟩,
 .op ⟨some 40, none, .mv (.t 39)⟩,
 .op ⟨some 41, some (40, true), .mv (.t 4)⟩,
 .op ⟨some 42, some (40, true), .ia (.sl 1) (.t 41) (.k (I 0))⟩,
 .op ⟨some 43, some (40, true), .load false 1 (.t 42)⟩,
 .op ⟨some 44, some (40, true), .bin .eql (.t 43) (.k (I 1))⟩,
 .op ⟨some 45, none, .pick (.t 40) (.t 44) (.k (.bool false))⟩])
 (.ite (.t 45) (.seq (.reg [.op ⟨some 46, none, .mv (.t 0)⟩,
 .op ⟨some 47, none, .fa 2 (.t 2)⟩,
 .op ⟨some 48, none, .load false 1 (.t 47)⟩,
 .op ⟨some 49, none, .call 32 [(.t 46), (.t 48)]⟩])
 (.reg [.op ⟨some 50, none, .fa 0 (.t 3)⟩,
 .op ⟨none, none, .store 1 (.t 50) (.k (I 7))⟩]))
 .skip)))
 (.reg [.op ⟨some 51, none, .mv (.t 0)⟩,
 .op ⟨some 52, none, .load true 6 (.t 3)⟩,
 .op ⟨some 53, none, .call 18 [(.t 51), (.t 52)]⟩]))))))⟩
theorem g20 : Good 20 c20 := ⟨_, Tryz.func20, by kernel_rfl⟩

def c21 : AFunc := ⟨[.t 2], (.seq (.reg [.op ⟨some 2, none, .mv (.k .nils)⟩])
 (.seq (.seq (.reg [.op ⟨some 3, none, .mv (.t 0)⟩,
 .op ⟨some 4, none, .nileq .sl false (.t 3) (.k .nils)⟩])
 (.ite (.t 4) (.seq (.reg [.op ⟨some 2, none, .mv (.k .nils)⟩])
 .ret)
 .skip))
 (.seq (.reg [.op ⟨some 5, none, .bslice 1 0 [(.int .u8 (0))] []⟩,
 .op ⟨some 6, none, .mv (.t 0)⟩,
 .op ⟨some 7, none, .app 1 1 (.t 5) (.t 6)⟩,
 .op ⟨some 2, none, .mv (.t 7)⟩])
 .ret)))⟩
theorem g21 : Good 21 c21 := ⟨_, Tryz.func21, by kernel_rfl⟩

def c22 : AFunc := ⟨[.t 4], (.seq (.reg [.op ⟨some 4, none, .mv (.k .nilp)⟩])
 (.seq (.seq (.reg [.op ⟨some 5, none, .mv (.t 0)⟩,
 .op ⟨some 6, none, .nilchk (.t 5)⟩,
 .op ⟨some 7, none, .fa 1 (.t 6)⟩,
 .op ⟨some 8, none, .load false 1 (.t 7)⟩,
 .op ⟨some 9, none, .mv (.t 1)⟩,
 .op ⟨some 10, none, .look false .nilp false (.t 8) (.t 9)⟩,
 .op ⟨some 11, none, .peq false (.t 10) (.k .nilp)⟩])
 (.ite (.t 11) (.reg [.op ⟨some 12, none, .mv (.t 0)⟩,
 .op ⟨some 13, none, .nilchk (.t 12)⟩,
 .op ⟨some 14, none, .fa 1 (.t 13)⟩,
 .op ⟨some 15, none, .load false 1 (.t 14)⟩,
 .op ⟨some 16, none, .mv (.t 1)⟩,
 .op ⟨some 17, none, .build [.nils, (.bool false), (I 0)] []⟩,
 .op ⟨some 18, none, .box 3 (.t 17)⟩,
 .op ⟨none, none, .mset false (.t 15) (.t 16) (.t 18)⟩])
 .skip))
 (.seq (.reg [.op ⟨some 19, none, .mv (.t 0)⟩,
 .op ⟨some 20, none, .nilchk (.t 19)⟩,
 .op ⟨some 21, none, .fa 1 (.t 20)⟩,
 .op ⟨some 22, none, .load false 1 (.t 21)⟩,
 .op ⟨some 23, none, .mv (.t 1)⟩,
 .op ⟨some 24, none, .look false .nilp false (.t 22) (.t 23)⟩,
 .op ⟨some 4, none, .mv (.t 24)⟩])
 .ret)))⟩
theorem g22 : Good 22 c22 := ⟨_, Tryz.func22, by kernel_rfl⟩

def c23 : AFunc := ⟨[.t 2], (.seq (.reg [.op ⟨some 2, none, .mv (.k .nils)⟩])
 (.seq (.seq (.reg [.op ⟨some 3, none, .mv (.t 0)⟩,
 .op ⟨some 4, none, .nileq .sl false (.t 3) (.k .nils)⟩])
 (.ite (.t 4) (.seq (.reg [.op ⟨some 2, none, .mv (.k .nils)⟩])
 .ret)
 .skip))
 (.seq (.reg [.op ⟨some 5, none, .bslice 9 0 [(I 0), (I 0), (I 0), (I 0), (.str []), (.str []), (I 0), (I 0), (I 0)] []⟩,
 .op ⟨some 6, none, .mv (.t 0)⟩,
 .op ⟨some 7, none, .app 9 88 (.t 5) (.t 6)⟩,
 .op ⟨some 2, none, .mv (.t 7)⟩])
 .ret)))⟩
theorem g23 : Good 23 c23 := ⟨_, Tryz.func23, by kernel_rfl⟩

def c24 : AFunc := ⟨[.t 4, .t 5, .t 6], (.seq (.reg [.op ⟨some 4, none, .mv (.k (.str []))⟩,
 .op ⟨some 5, none, .mv (.k (.str []))⟩,
 .op ⟨some 6, none, .mv (.k (.bool false))⟩])
 (.seq (.reg [.op ⟨some 7, none, .mv (.t 0)⟩,
 .op ⟨some 8, none, .mv (.t 1)⟩,
 .op ⟨some 9, none, .call 33 [(.t 7), (.t 8)]⟩,
 .op ⟨some 10, none, .ext 0 (.t 9)⟩,
 .op ⟨some 11, none, .ext 1 (.t 9)⟩,
 .op ⟨some 12, none, .ext 2 (.t 9)⟩,
 .op ⟨some 4, none, .mv (.t 10)⟩,
 .op ⟨some 5, none, .mv (.t 11)⟩,
 .op ⟨some 6, none, .mv (.t 12)⟩])
 .ret))⟩
theorem g24 : Good 24 c24 := ⟨_, Tryz.func24, by kernel_rfl⟩

def c25 : AFunc := ⟨[.c 2 true 8, .t 3], (.seq (.reg [.op ⟨some 2, none, .alloc [(.str []), .nils, (I 0), (I 0), (I 0), (I 0), (I 0), (I 0)]⟩,
 .op ⟨some 3, none, .mv (.k (.bool false))⟩])
 (.seq (.reg [.op ⟨some 10, none, .mv (.t 0)⟩,
 .op ⟨some 11, none, .call 34 [(.t 10), (.k (.str [32]))]⟩,
 .op ⟨some 4, none, .mv (.t 11)⟩])
 (.seq (.seq (.reg [.op ⟨some 12, none, .mv (.t 4)⟩,
 .op ⟨some 13, none, .len .sl (.t 12)⟩,
 .op ⟨some 14, none, .bin .lss (.t 13) (.k (I 8))⟩,
 .op ⟨some 15, none, .mv (.t 14)⟩,
 .op ⟨some 16, some (15, false), .mv (.t 4)⟩,
 .op ⟨some 17, some (15, false), .ia (.sl 1) (.t 16) (.k (I 0))⟩,
 .op ⟨some 18, some (15, false), .load false 1 (.t 17)⟩,
 .op ⟨some 19, some (15, false), .bin .neq (.t 18) (.k (.str [115, 108, 111, 116]))⟩,
 .op ⟨some 20, none, .pick (.t 15) (.k (.bool true)) (.t 19)⟩])
 (.ite (.t 20) (.seq (.reg [.op ⟨some 21, none, .build [(.str []), .nils, (I 0), (I 0), (I 0), (I 0), (I 0), (I 0)] []⟩,
 .op ⟨none, none, .store 8 (.t 2) (.t 21)⟩,
 .op ⟨some 3, none, .mv (.k (.bool false))⟩])
 .ret)
 .skip))
 (.seq (.reg [.op ⟨some 5, none, .alloc [(I 0), (I 0), (I 0), (I 0), (I 0), (I 0)]⟩])
 (.seq (.seq (.reg [.op ⟨some 22, none, .mv (.k (I 0))⟩])
 (.block 0 (.loop (.seq (.reg [.op ⟨some 23, none, .bin .lss (.t 22) (.k (I 6))⟩])
 (.seq (.ite (.t 23) .skip
 (.exit 0))
 (.seq (.block 1 (.seq (.reg [.op ⟨some 24, none, .mv (.t 22)⟩,
 .op ⟨some 6, none, .mv (.t 24)⟩])
 (.seq (.reg [.op ⟨some 25, none, .mv (.t 4)⟩,
 .op ⟨some 26, none, .mv (.t 6)⟩,
 .op ⟨some 27, none, .bin .add (.k (I 2)) (.t 26)⟩,
 .op ⟨some 28, none, .ia (.sl 1) (.t 25) (.t 27)⟩,
 .op ⟨some 29, none, .load false 1 (.t 28)⟩,
 .op ⟨some 7, none, .mv (.t 29)⟩])
 (.seq (.reg [.op ⟨some 31, none, .mv (.t 7)⟩,
 .op ⟨some 32, none, .call 35 [(.t 31)]⟩,
 .op ⟨some 30, none, .mv (.t 32)⟩,
 .op ⟨some 33, none, .ext 0 (.t 30)⟩,
 .op ⟨some 34, none, .ext 1 (.t 30)⟩,
 .op ⟨some 8, none, .mv (.t 33)⟩,
 .op ⟨some 9, none, .mv (.t 34)⟩])
 (.seq (.seq (.reg [.op ⟨some 35, none, .mv (.t 9)⟩,
 .op ⟨some 36, none, .un .not (.t 35)⟩,
 .op ⟨some 37, none, .mv (.t 36)⟩,
 .op ⟨some 38, some (37, false), .mv (.t 8)⟩,
 .op ⟨some 39, some (37, false), .call 36 [(.t 38)]⟩,
 .op ⟨some 40, some (37, false), .mv (.t 7)⟩,
 .op ⟨some 41, some (37, false), .bin .neq (.t 39) (.t 40)⟩,
 .op ⟨some 42, none, .pick (.t 37) (.k (.bool true)) (.t 41)⟩])
 (.ite (.t 42) (.seq (.reg [.op ⟨some 43, none, .build [(.str []), .nils, (I 0), (I 0), (I 0), (I 0), (I 0), (I 0)] []⟩,
 .op ⟨none, none, .store 8 (.t 2) (.t 43)⟩,
 .op ⟨some 3, none, .mv (.k (.bool false))⟩])
 .ret)
 .skip))
 (.reg [.op ⟨some 44, none, .mv (.t 6)⟩,
 .op ⟨some 45, none, .mv (.t 8)⟩,
 .op ⟨some 46, none, .ia (.arr 6 1) (.t 5) (.t 44)⟩,
 .op ⟨none, none, .store 1 (.t 46) (.t 45)⟩]))))))
 (.reg [.op ⟨some 47, none, .bin .add (.t 22) (.k (I 1))⟩,
 .op ⟨some 22, none, .mv (.t 47)⟩])))))))
 (.seq (.reg [.op ⟨some 48, none, .mv (.t 4)⟩,
 .op ⟨some 49, none, .ia (.sl 1) (.t 48) (.k (I 1))⟩,
 .op ⟨some 50, none, .load false 1 (.t 49)⟩,
 .op ⟨some 51, none, .ia (.arr 6 1) (.t 5) (.k (I 0))⟩,
 .op ⟨some 52, none, .load false 1 (.t 51)⟩,
 .op ⟨some 53, none, .ia (.arr 6 1) (.t 5) (.k (I 1))⟩,
 .op ⟨some 54, none, .load false 1 (.t 53)⟩,
 .op ⟨some 55, none, .ia (.arr 6 1) (.t 5) (.k (I 2))⟩,
 .op ⟨some 56, none, .load false 1 (.t 55)⟩,
 .op ⟨some 57, none, .ia (.arr 6 1) (.t 5) (.k (I 3))⟩,
 .op ⟨some 58, none, .load false 1 (.t 57)⟩,
 .op ⟨some 59, none, .ia (.arr 6 1) (.t 5) (.k (I 4))⟩,
 .op ⟨some 60, none, .load false 1 (.t 59)⟩,
 .op ⟨some 61, none, .ia (.arr 6 1) (.t 5) (.k (I 5))⟩,
 .op ⟨some 62, none, .load false 1 (.t 61)⟩,
 .op ⟨some 63, none, .mv (.t 4)⟩,
 .op ⟨some 64, none, .slc (.sl 1) (.t 63) (some (.k (I 8))) none none⟩,
 .op ⟨some 65, none, .call 37 [(.t 64)]⟩,
 .chk ⟨some 62, none, .load false 1 (.t 61)⟩,
 .chk ⟨some 60, none, .load false 1 (.t 59)⟩,
 .chk ⟨some 58, none, .load false 1 (.t 57)⟩,
 .chk ⟨some 56, none, .load false 1 (.t 55)⟩,
 .chk ⟨some 54, none, .load false 1 (.t 53)⟩,
 .chk ⟨some 52, none, .load false 1 (.t 51)⟩,
 .chk ⟨some 50, none, .load false 1 (.t 49)⟩,
 .op ⟨some 66, none, .build [(.str []), .nils, (I 0), (I 0), (I 0), (I 0), (I 0), (I 0)] [(0, 1, (.t 50)), (2, 1, (.t 52)), (3, 1, (.t 54)), (4, 1, (.t 56)), (5, 1, (.t 58)), (6, 1, (.t 60)), (7, 1, (.t 62)), (1, 1, (.t 65))]⟩,
 .op ⟨none, none, .store 8 (.t 2) (.t 66)⟩,
 .op ⟨some 3, none, .mv (.k (.bool true))⟩])
 .ret))))))⟩
theorem g25 : Good 25 c25 := ⟨_, Tryz.func25, by kernel_rfl⟩

def c26 : AFunc := ⟨[.t 2], (.seq (.reg [.op ⟨some 2, none, .mv (.k (.bool false))⟩])
 (.seq (.seq (.reg [.op ⟨some 7, none, .mv (.t 0)⟩,
 .op ⟨some 8, none, .len .sl (.t 7)⟩,
 .op ⟨some 9, none, .bin .lss (.t 8) (.k (I 1))⟩,
 .op ⟨some 10, none, .mv (.t 9)⟩,
 .op ⟨some 11, some (10, false), .mv (.t 0)⟩,
 .op ⟨some 12, some (10, false), .len .sl (.t 11)⟩,
 .op ⟨some 13, some (10, false), .bin .gtr (.t 12) (.k (I 16))⟩,
 .op ⟨some 14, none, .pick (.t 10) (.k (.bool true)) (.t 13)⟩])
 (.ite (.t 14) (.seq (.reg [.op ⟨some 2, none, .mv (.k (.bool false))⟩])
 .ret)
 .skip))
 (.seq (.reg [.op ⟨some 3, none, .mv (.k .nils)⟩,
 .op ⟨some 4, none, .mv (.k .nils)⟩])
 (.seq (.seq (.reg [.op ⟨some 15, none, .mv (.t 0)⟩,
 .op ⟨some 16, none, .len .sl (.t 15)⟩,
 .op ⟨some 17, none, .mv (.k (I 0))⟩])
 (.block 0 (.loop (.seq (.reg [.op ⟨some 18, none, .bin .lss (.t 17) (.t 16)⟩])
 (.seq (.ite (.t 18) .skip
 (.exit 0))
 (.seq (.block 1 (.seq (.reg [.op ⟨some 19, none, .ia (.sl 8) (.t 15) (.t 17)⟩,
 .op ⟨some 20, none, .load true 8 (.t 19)⟩,
 .op ⟨some 6, none, .alloc [(.str []), .nils, (I 0), (I 0), (I 0), (I 0), (I 0), (I 0)]⟩,
 .op ⟨none, none, .store 8 (.t 6) (.t 20)⟩])
 (.seq (.seq (.reg [.op ⟨some 21, none, .load true 8 (.t 6)⟩,
 .op ⟨some 22, none, .call 38 [(.t 21)]⟩,
 .op ⟨some 23, none, .un .not (.t 22)⟩])
 (.ite (.t 23) (.seq (.reg [.op ⟨some 2, none, .mv (.k (.bool false))⟩])
 .ret)
 .skip))
 (.seq (.reg [.op ⟨some 24, none, .mv (.t 3)⟩,
 .op ⟨some 25, none, .fa 0 (.t 6)⟩,
 .op ⟨some 26, none, .load false 1 (.t 25)⟩,
 .op ⟨some 27, none, .bslice 1 1 [(.str [])] [(0, 1, (.t 26))]⟩,
 .op ⟨some 28, none, .app 1 16 (.t 24) (.t 27)⟩,
 .op ⟨some 3, none, .mv (.t 28)⟩])
 (.reg [.op ⟨some 29, none, .mv (.t 4)⟩,
 .op ⟨some 30, none, .fa 1 (.t 6)⟩,
 .op ⟨some 31, none, .load false 1 (.t 30)⟩,
 .op ⟨some 32, none, .app 1 16 (.t 29) (.t 31)⟩,
 .op ⟨some 4, none, .mv (.t 32)⟩])))))
 (.reg [.op ⟨some 33, none, .bin .add (.t 17) (.k (I 1))⟩,
 .op ⟨some 17, none, .mv (.t 33)⟩])))))))
 (.seq (.reg [.op ⟨some 34, none, .mv (.t 3)⟩,
 .op ⟨some 35, none, .call 39 [(.t 34)]⟩,
 .op ⟨some 36, none, .mv (.t 35)⟩,
 .op ⟨some 37, some (36, true), .mv (.t 4)⟩,
 .op ⟨some 38, some (36, true), .call 39 [(.t 37)]⟩,
 .op ⟨some 39, none, .pick (.t 36) (.t 38) (.k (.bool false))⟩,
 .op ⟨some 2, none, .mv (.t 39)⟩])
 .ret)))))⟩
theorem g26 : Good 26 c26 := ⟨_, Tryz.func26, by kernel_rfl⟩

def c27 : AFunc := ⟨[.t 2], (.seq (.reg [.op ⟨some 1, none, .box 8 (.t 0)⟩,
 .op ⟨some 2, none, .mv (.k .nilp)⟩])
 (.seq (.reg [.op ⟨some 3, none, .fa 1 (.t 1)⟩,
 .op ⟨some 4, none, .load false 1 (.t 3)⟩,
 .op ⟨some 5, none, .call 37 [(.t 4)]⟩,
 .op ⟨some 6, none, .fa 1 (.t 1)⟩,
 .op ⟨none, none, .store 1 (.t 6) (.t 5)⟩])
 (.seq (.reg [.op ⟨some 7, none, .load true 8 (.t 1)⟩,
 .op ⟨some 8, none, .fa 2 (.t 1)⟩,
 .op ⟨some 9, none, .load false 1 (.t 8)⟩,
 .op ⟨some 11, none, .mkm⟩,
 .op ⟨some 12, none, .mkm⟩,
 .op ⟨some 13, none, .mkm⟩,
 .op ⟨some 14, none, .fa 4 (.t 1)⟩,
 .op ⟨some 15, none, .load false 1 (.t 14)⟩,
 .op ⟨some 18, none, .fa 5 (.t 1)⟩,
 .op ⟨some 19, none, .load false 1 (.t 18)⟩,
 .op ⟨some 20, none, .fa 6 (.t 1)⟩,
 .op ⟨some 21, none, .load false 1 (.t 20)⟩,
 .op ⟨some 24, none, .fa 7 (.t 1)⟩,
 .op ⟨some 25, none, .load false 1 (.t 24)⟩,
 .op ⟨some 10, none, .call 40 [(.t 9)]⟩,
 .chk ⟨some 25, none, .load false 1 (.t 24)⟩,
 .chk ⟨some 21, none, .load false 1 (.t 20)⟩,
 .chk ⟨some 19, none, .load false 1 (.t 18)⟩,
 .chk ⟨some 15, none, .load false 1 (.t 14)⟩,
 .chk ⟨some 7, none, .load true 8 (.t 1)⟩,
 .op ⟨some 16, none, .call 41 [(.t 15)]⟩,
 .chk ⟨some 25, none, .load false 1 (.t 24)⟩,
 .chk ⟨some 21, none, .load false 1 (.t 20)⟩,
 .chk ⟨some 19, none, .load false 1 (.t 18)⟩,
 .chk ⟨some 7, none, .load true 8 (.t 1)⟩,
 .op ⟨some 17, none, .call 42 []⟩,
 .chk ⟨some 25, none, .load false 1 (.t 24)⟩,
 .chk ⟨some 21, none, .load false 1 (.t 20)⟩,
 .chk ⟨some 19, none, .load false 1 (.t 18)⟩,
 .chk ⟨some 7, none, .load true 8 (.t 1)⟩,
 .op ⟨some 22, none, .call 43 [(.t 19), (.t 21)]⟩,
 .chk ⟨some 25, none, .load false 1 (.t 24)⟩,
 .chk ⟨some 7, none, .load true 8 (.t 1)⟩,
 .op ⟨some 23, none, .call 44 []⟩,
 .chk ⟨some 25, none, .load false 1 (.t 24)⟩,
 .chk ⟨some 7, none, .load true 8 (.t 1)⟩,
 .op ⟨some 26, none, .call 45 [(.t 25)]⟩,
 .chk ⟨some 7, none, .load true 8 (.t 1)⟩,
 .op ⟨some 27, none, .call 46 []⟩,
 .chk ⟨some 7, none, .load true 8 (.t 1)⟩,
 .op ⟨some 28, none, .build [(.str []), .nils, (I 0), (I 0), (I 0), (I 0), (I 0), (I 0), .nilp, .nilm, .nilm, .nilm, .nilp, .nilp, .nilp, .nilp, .nilp, .nils, .nils, .nils, .nils, (I 0), (I 0), (I 0), (I 0), (I 0), .nils] [(0, 8, (.t 7)), (8, 1, (.t 10)), (9, 1, (.t 11)), (10, 1, (.t 12)), (11, 1, (.t 13)), (12, 1, (.t 16)), (13, 1, (.t 17)), (14, 1, (.t 22)), (15, 1, (.t 23)), (16, 1, (.t 26)), (17, 8, (.t 27))]⟩,
 .op ⟨some 29, none, .box 27 (.t 28)⟩,
 .op ⟨some 2, none, .mv (.t 29)⟩])
 .ret)))⟩
theorem g27 : Good 27 c27 := ⟨_, Tryz.func27, by kernel_rfl⟩

def c28 : AFunc := ⟨[.t 4], (.seq (.reg [.op ⟨some 3, none, .box 6 (.t 1)⟩,
 .op ⟨some 4, none, .mv (.k .nils)⟩])
 (.seq (.seq (.reg [.op ⟨some 9, none, .fa 0 (.t 3)⟩,
 .op ⟨some 10, none, .load false 1 (.t 9)⟩])
 (.block 0 (.seq (.reg [.op ⟨some 12, none, .bin .eql (.t 10) (.k (I 1))⟩,
 .op ⟨some 11, none, .mv (.t 12)⟩])
 (.ite (.t 11) (.reg [.op ⟨some 13, none, .mv (.t 0)⟩,
 .op ⟨some 14, none, .fa 1 (.t 3)⟩,
 .op ⟨some 15, none, .load false 1 (.t 14)⟩,
 .op ⟨some 16, none, .call 47 [(.t 13), (.t 15)]⟩])
 (.seq (.seq (.reg [.op ⟨some 18, none, .bin .eql (.t 10) (.k (I 2))⟩,
 .op ⟨some 17, none, .mv (.t 18)⟩])
 (.ite (.t 17) .skip
 (.seq (.reg [.op ⟨some 19, none, .bin .eql (.t 10) (.k (I 3))⟩,
 .op ⟨some 17, none, .mv (.t 19)⟩])
 (.ite (.t 17) .skip
 (.reg [.op ⟨some 20, none, .bin .eql (.t 10) (.k (I 4))⟩,
 .op ⟨some 17, none, .mv (.t 20)⟩])))))
 (.ite (.t 17) (.seq (.reg [.op ⟨some 21, none, .mv (.t 0)⟩,
 .op ⟨some 22, none, .load true 6 (.t 3)⟩,
 .op ⟨some 23, none, .call 48 [(.t 21), (.t 22)]⟩,
 .op ⟨some 4, none, .mv (.t 23)⟩])
 .ret)
 (.seq (.seq (.reg [.op ⟨some 25, none, .bin .eql (.t 10) (.k (I 5))⟩,
 .op ⟨some 24, none, .mv (.t 25)⟩])
 (.ite (.t 24) .skip
 (.seq (.reg [.op ⟨some 26, none, .bin .eql (.t 10) (.k (I 6))⟩,
 .op ⟨some 24, none, .mv (.t 26)⟩])
 (.ite (.t 24) .skip
 (.seq (.reg [.op ⟨some 27, none, .bin .eql (.t 10) (.k (I 7))⟩,
 .op ⟨some 24, none, .mv (.t 27)⟩])
 (.ite (.t 24) .skip
 (.seq (.reg [.op ⟨some 28, none, .bin .eql (.t 10) (.k (I 8))⟩,
 .op ⟨some 24, none, .mv (.t 28)⟩])
 (.ite (.t 24) .skip
 (.reg [.op ⟨some 29, none, .bin .eql (.t 10) (.k (I 9))⟩,
 .op ⟨some 24, none, .mv (.t 29)⟩])))))))))
 (.ite (.t 24) (.seq (.reg [.op ⟨some 30, none, .mv (.t 0)⟩,
 .op ⟨some 31, none, .nilchk (.t 30)⟩,
 .op ⟨some 32, none, .fa 0 (.t 31)⟩,
 .op ⟨some 33, none, .load false 1 (.t 32)⟩,
 .op ⟨some 34, none, .fa 2 (.t 3)⟩,
 .op ⟨some 35, none, .load false 1 (.t 34)⟩,
 .op ⟨some 36, none, .call 49 [(.t 33), (.t 35)]⟩,
 .op ⟨some 5, none, .mv (.t 36)⟩])
 (.seq (.reg [.op ⟨some 37, none, .mv (.t 5)⟩,
 .op ⟨some 38, none, .bin .geq (.t 37) (.k (I 0))⟩])
 (.ite (.t 38) (.seq (.reg [.op ⟨some 39, none, .mv (.t 0)⟩,
 .op ⟨some 40, none, .mv (.t 5)⟩,
 .op ⟨some 41, none, .mv (.t 0)⟩,
 .op ⟨some 42, none, .nilchk (.t 41)⟩,
 .op ⟨some 43, none, .fa 1 (.t 42)⟩,
 .op ⟨some 44, none, .load false 1 (.t 43)⟩,
 .op ⟨some 45, none, .mv (.t 5)⟩,
 .op ⟨some 46, none, .ia (.sl 1) (.t 44) (.t 45)⟩,
 .op ⟨some 47, none, .load false 1 (.t 46)⟩,
 .op ⟨some 48, none, .load true 6 (.t 3)⟩,
 .op ⟨some 49, none, .call 51 [(.t 47), (.t 48)]⟩,
 .op ⟨some 50, none, .call 50 [(.t 39), (.t 40), (.t 49)]⟩,
 .op ⟨some 4, none, .mv (.t 50)⟩])
 .ret)
 .skip)))
 (.seq (.seq (.reg [.op ⟨some 52, none, .bin .eql (.t 10) (.k (I 10))⟩,
 .op ⟨some 51, none, .mv (.t 52)⟩])
 (.ite (.t 51) .skip
 (.reg [.op ⟨some 53, none, .bin .eql (.t 10) (.k (I 11))⟩,
 .op ⟨some 51, none, .mv (.t 53)⟩])))
 (.ite (.t 51) (.seq (.reg [.op ⟨some 6, none, .mv (.k .nils)⟩])
 (.seq (.seq (.reg [.op ⟨some 54, none, .mv (.t 0)⟩,
 .op ⟨some 55, none, .nilchk (.t 54)⟩,
 .op ⟨some 56, none, .fa 1 (.t 55)⟩,
 .op ⟨some 57, none, .load false 1 (.t 56)⟩,
 .op ⟨some 58, none, .len .sl (.t 57)⟩,
 .op ⟨some 59, none, .mv (.k (I 0))⟩])
 (.block 1 (.loop (.seq (.reg [.op ⟨some 60, none, .bin .lss (.t 59) (.t 58)⟩])
 (.seq (.ite (.t 60) .skip
 (.exit 1))
 (.seq (.block 2 (.seq (.reg [.op ⟨some 61, none, .mv (.t 59)⟩,
 .op ⟨some 62, none, .ia (.sl 1) (.t 57) (.t 59)⟩,
 .op ⟨some 63, none, .load false 1 (.t 62)⟩,
 .op ⟨some 7, none, .mv (.t 61)⟩,
 .op ⟨some 8, none, .mv (.t 63)⟩])
 (.reg [.op ⟨some 64, none, .mv (.t 6)⟩,
 .op ⟨some 65, none, .mv (.t 0)⟩,
 .op ⟨some 66, none, .mv (.t 7)⟩,
 .op ⟨some 67, none, .mv (.t 8)⟩,
 .op ⟨some 68, none, .load true 6 (.t 3)⟩,
 .op ⟨some 69, none, .call 51 [(.t 67), (.t 68)]⟩,
 .op ⟨some 70, none, .call 50 [(.t 65), (.t 66), (.t 69)]⟩,
 .op ⟨some 71, none, .app 6 80 (.t 64) (.t 70)⟩,
 .op ⟨some 6, none, .mv (.t 71)⟩])))
 (.reg [.op ⟨some 72, none, .bin .add (.t 59) (.k (I 1))⟩,
 .op ⟨some 59, none, .mv (.t 72)⟩])))))))
 (.seq (.reg [.op ⟨some 73, none, .mv (.t 6)⟩,
 .op ⟨some 4, none, .mv (.t 73)⟩])
 .ret)))
 .skip))))))))))
 (.seq (.reg [.op ⟨some 4, none, .mv (.k .nils)⟩])
 .ret)))⟩
theorem g28 : Good 28 c28 := ⟨_, Tryz.func28, by kernel_rfl⟩

end Go.Proofs.Tryz
