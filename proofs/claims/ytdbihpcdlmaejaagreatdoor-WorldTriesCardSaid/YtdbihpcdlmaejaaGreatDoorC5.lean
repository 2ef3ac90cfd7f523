/- The code that the statement reaches, as the evaluator takes it, part 5. -/
import Derived.Test.YtdbihpcdlmaejaaGreatDoorPre
set_option maxRecDepth 1000000
set_option maxHeartbeats 4000000
namespace Go.Proofs.Tryz
open Go Go.Ai Go.Proofs

def c171 : AFunc := ⟨[.t 2], (.seq (.reg [.op ⟨some 2, none, .mv (.k (.bool false))⟩])
 (.seq (.reg [.op ⟨some 3, none, .mv (.t 0)⟩,
 .op ⟨some 4, none, .nilchk (.t 3)⟩,
 .op ⟨some 5, none, .fa 5 (.t 4)⟩,
 .op ⟨some 6, none, .call 222 [(.t 5)]⟩,
 .op ⟨some 2, none, .mv (.t 6)⟩])
 .ret))⟩
theorem g171 : Good 171 c171 := ⟨_, Tryz.func171, by kernel_rfl⟩

def c172 : AFunc := ⟨[.c 2 true 5, .t 3], (.seq (.reg [.op ⟨some 2, none, .alloc [(.str []), (.str []), (I 0), .nils, .nils]⟩,
 .op ⟨some 3, none, .mv (.k (I 0))⟩])
 (.seq (.seq (.reg [.op ⟨some 7, none, .mv (.t 0)⟩,
 .op ⟨some 8, none, .nilchk (.t 7)⟩,
 .op ⟨some 9, none, .fa 3 (.t 8)⟩,
 .op ⟨some 10, none, .load false 1 (.t 9)⟩,
 .op ⟨some 11, none, .mv (.t 10)⟩,
 .op ⟨some 12, some (11, false), .mv (.t 0)⟩,
 .op ⟨some 13, some (11, false), .call 171 [(.t 12)]⟩,
 .op ⟨some 14, none, .pick (.t 11) (.k (.bool true)) (.t 13)⟩])
 (.ite (.t 14) (.seq (.reg [.op ⟨some 15, none, .build [(.str []), (.str []), (I 0), .nils, .nils] []⟩,
 .op ⟨none, none, .store 5 (.t 2) (.t 15)⟩,
 .op ⟨some 3, none, .mv (.k (I (-1)))⟩])
 .ret)
 .skip))
 (.seq (.reg [.op ⟨some 17, none, .mv (.t 0)⟩,
 .op ⟨some 18, none, .call 223 [(.t 17)]⟩,
 .op ⟨some 19, none, .call 88 [(.t 18)]⟩,
 .op ⟨some 16, none, .mv (.t 19)⟩,
 .op ⟨some 20, none, .ext 0 (.t 16)⟩,
 .op ⟨some 21, none, .ext 1 (.t 16)⟩,
 .op ⟨some 22, none, .ext 2 (.t 16)⟩,
 .op ⟨some 4, none, .alloc [(.str []), (.str []), (I 0), .nils, .nils]⟩,
 .op ⟨none, none, .store 5 (.t 4) (.t 20)⟩,
 .op ⟨some 5, none, .mv (.t 21)⟩,
 .op ⟨some 6, none, .mv (.t 22)⟩])
 (.seq (.block 0 (.seq (.reg [.op ⟨some 24, none, .mv (.t 6)⟩,
 .op ⟨some 25, none, .bin .neq (.t 24) (.k (I 0))⟩,
 .op ⟨some 23, none, .mv (.t 25)⟩])
 (.ite (.t 23) (.seq (.reg [.op ⟨some 26, none, .mv (.t 0)⟩,
 .op ⟨some 27, none, .call 224 [(.t 26)]⟩])
 (.seq (.reg [.op ⟨some 28, none, .build [(.str []), (.str []), (I 0), .nils, .nils] []⟩,
 .op ⟨some 29, none, .mv (.t 6)⟩,
 .op ⟨none, none, .store 5 (.t 2) (.t 28)⟩,
 .op ⟨some 3, none, .mv (.t 29)⟩])
 .ret))
 (.seq (.reg [.op ⟨some 31, none, .mv (.t 5)⟩,
 .op ⟨some 32, none, .bin .eql (.t 31) (.k (I 0))⟩,
 .op ⟨some 30, none, .mv (.t 32)⟩])
 (.ite (.t 30) (.seq (.reg [.op ⟨some 33, none, .build [(.str []), (.str []), (I 0), .nils, .nils] []⟩,
 .op ⟨none, none, .store 5 (.t 2) (.t 33)⟩,
 .op ⟨some 3, none, .mv (.k (I (-1)))⟩])
 .ret)
 .skip)))))
 (.seq (.reg [.op ⟨some 34, none, .mv (.t 0)⟩,
 .op ⟨some 35, none, .nilchk (.t 34)⟩,
 .op ⟨some 36, none, .fa 0 (.t 35)⟩,
 .op ⟨some 37, none, .load false 1 (.t 36)⟩,
 .op ⟨some 38, none, .mv (.t 5)⟩,
 .op ⟨some 39, none, .call 182 [(.t 37), (.t 38)]⟩])
 (.seq (.reg [.op ⟨some 40, none, .mv (.t 0)⟩,
 .op ⟨some 41, none, .mv (.t 0)⟩,
 .op ⟨some 42, none, .nilchk (.t 40)⟩,
 .op ⟨some 43, none, .fa 3 (.t 42)⟩,
 .op ⟨none, none, .store 1 (.t 43) (.k (.bool true))⟩,
 .op ⟨some 44, none, .nilchk (.t 41)⟩,
 .op ⟨some 45, none, .fa 4 (.t 44)⟩,
 .op ⟨none, none, .store 1 (.t 45) (.k (.bool false))⟩])
 (.seq (.reg [.op ⟨some 46, none, .load true 5 (.t 4)⟩,
 .op ⟨none, none, .store 5 (.t 2) (.t 46)⟩,
 .op ⟨some 3, none, .mv (.k (I 0))⟩])
 .ret)))))))⟩
theorem g172 : Good 172 c172 := ⟨_, Tryz.func172, by kernel_rfl⟩

def c173 : AFunc := ⟨[.t 2], (.seq (.reg [.op ⟨some 2, none, .mv (.k (.bool false))⟩])
 (.seq (.seq (.reg [.op ⟨some 3, none, .mv (.t 0)⟩,
 .op ⟨some 4, none, .nilchk (.t 3)⟩,
 .op ⟨some 5, none, .fa 3 (.t 4)⟩,
 .op ⟨some 6, none, .load false 1 (.t 5)⟩,
 .op ⟨some 7, none, .mv (.t 6)⟩,
 .op ⟨some 8, some (7, false), .mv (.t 0)⟩,
 .op ⟨some 9, some (7, false), .call 171 [(.t 8)]⟩,
 .op ⟨some 10, none, .pick (.t 7) (.k (.bool true)) (.t 9)⟩,
 .op ⟨some 11, none, .mv (.t 10)⟩,
 .op ⟨some 12, some (11, false), .mv (.t 0)⟩,
 .op ⟨some 13, some (11, false), .nilchk (.t 12)⟩,
 .op ⟨some 14, some (11, false), .fa 4 (.t 13)⟩,
 .op ⟨some 15, some (11, false), .load false 1 (.t 14)⟩,
 .op ⟨some 16, none, .pick (.t 11) (.k (.bool true)) (.t 15)⟩,
 .op ⟨some 17, none, .mv (.t 16)⟩,
 .op ⟨some 18, some (17, false), .mv (.t 0)⟩,
 .op ⟨some 19, some (17, false), .call 223 [(.t 18)]⟩,
 .op ⟨some 20, some (17, false), .call 225 [(.t 19)]⟩,
 .op ⟨some 21, some (17, false), .un .not (.t 20)⟩,
 .op ⟨some 22, none, .pick (.t 17) (.k (.bool true)) (.t 21)⟩])
 (.ite (.t 22) (.seq (.reg [.op ⟨some 2, none, .mv (.k (.bool false))⟩])
 .ret)
 .skip))
 (.seq (.reg [.op ⟨some 23, none, .mv (.t 0)⟩,
 .op ⟨some 24, none, .nilchk (.t 23)⟩,
 .op ⟨some 25, none, .fa 4 (.t 24)⟩,
 .op ⟨none, none, .store 1 (.t 25) (.k (.bool true))⟩])
 (.seq (.reg [.op ⟨some 2, none, .mv (.k (.bool true))⟩])
 .ret))))⟩
theorem g173 : Good 173 c173 := ⟨_, Tryz.func173, by kernel_rfl⟩

def c175 : AFunc := ⟨[], (.seq (.reg [.op ⟨some 5, none, .box 5 (.t 2)⟩])
 (.seq (.reg [.op ⟨some 11, none, .mv (.t 0)⟩,
 .op ⟨some 12, none, .mv (.t 1)⟩,
 .op ⟨some 13, none, .fa 0 (.t 5)⟩,
 .op ⟨some 14, none, .load false 1 (.t 13)⟩,
 .op ⟨some 15, none, .fa 1 (.t 5)⟩,
 .op ⟨some 16, none, .load false 1 (.t 15)⟩,
 .op ⟨some 17, none, .call 169 [(.t 11), (.t 12), (.t 14), (.t 16)]⟩,
 .op ⟨some 6, none, .mv (.t 17)⟩])
 (.seq (.reg [.op ⟨some 18, none, .mv (.t 6)⟩,
 .op ⟨some 19, none, .fa 3 (.t 5)⟩,
 .op ⟨some 20, none, .load false 1 (.t 19)⟩,
 .op ⟨some 21, none, .fa 2 (.t 5)⟩,
 .op ⟨some 22, none, .load false 1 (.t 21)⟩,
 .op ⟨some 23, none, .call 184 [(.t 20), (.t 22)]⟩,
 .op ⟨some 24, none, .nilchk (.t 18)⟩,
 .op ⟨some 25, none, .fa 4 (.t 24)⟩,
 .op ⟨none, none, .store 1 (.t 25) (.t 23)⟩])
 (.seq (.reg [.op ⟨some 26, none, .load true 5 (.t 5)⟩,
 .op ⟨some 27, none, .call 108 [(.t 26)]⟩,
 .op ⟨some 7, none, .mv (.t 27)⟩])
 (.seq (.seq (.reg [.op ⟨some 28, none, .mv (.t 0)⟩,
 .op ⟨some 29, none, .nilchk (.t 28)⟩,
 .op ⟨some 30, none, .fa 0 (.t 29)⟩,
 .op ⟨some 31, none, .fa 1 (.t 30)⟩,
 .op ⟨some 32, none, .load false 1 (.t 31)⟩,
 .op ⟨some 33, none, .mv (.t 7)⟩,
 .op ⟨some 34, none, .call 164 [(.t 32), (.t 33)]⟩,
 .op ⟨some 35, none, .un .not (.t 34)⟩])
 (.ite (.t 35) (.seq (.reg [.op ⟨some 36, none, .mv (.t 0)⟩,
 .op ⟨some 37, none, .mv (.t 6)⟩,
 .op ⟨some 38, none, .call 123 [(.t 36), (.t 37), (.k (I 421)), (.k (.bool true))]⟩])
 .ret)
 .skip))
 (.seq (.seq (.reg [.op ⟨some 39, none, .mv (.t 0)⟩,
 .op ⟨some 40, none, .nilchk (.t 39)⟩,
 .op ⟨some 41, none, .fa 14 (.t 40)⟩,
 .op ⟨some 42, none, .load false 1 (.t 41)⟩,
 .op ⟨some 43, none, .mv (.t 0)⟩,
 .op ⟨some 44, none, .nilchk (.t 43)⟩,
 .op ⟨some 45, none, .fa 15 (.t 44)⟩,
 .op ⟨some 46, none, .load false 1 (.t 45)⟩,
 .op ⟨some 47, none, .call 120 [(.t 46)]⟩,
 .chk ⟨some 42, none, .load false 1 (.t 41)⟩,
 .op ⟨some 48, none, .call 226 [(.t 42), (.t 47), (.k (I 1))]⟩,
 .op ⟨some 49, none, .un .not (.t 48)⟩])
 (.ite (.t 49) (.seq (.reg [.op ⟨some 50, none, .mv (.t 0)⟩,
 .op ⟨some 51, none, .mv (.t 6)⟩,
 .op ⟨some 52, none, .mv (.t 6)⟩,
 .op ⟨some 53, none, .nilchk (.t 52)⟩,
 .op ⟨some 54, none, .fa 4 (.t 53)⟩,
 .op ⟨some 55, none, .load false 1 (.t 54)⟩,
 .op ⟨some 56, none, .call 123 [(.t 50), (.t 51), (.k (I 429)), (.t 55)]⟩])
 .ret)
 .skip))
 (.seq (.reg [.op ⟨some 57, none, .mv (.t 0)⟩,
 .op ⟨some 58, none, .nilchk (.t 57)⟩,
 .op ⟨some 59, none, .fa 17 (.t 58)⟩,
 .op ⟨some 60, none, .fa 1 (.t 59)⟩,
 .op ⟨some 61, none, .load false 1 (.t 60)⟩,
 .op ⟨some 62, none, .fa 1 (.t 5)⟩,
 .op ⟨some 63, none, .load false 1 (.t 62)⟩,
 .op ⟨some 64, none, .call 227 [(.t 61), (.t 63)]⟩,
 .op ⟨some 8, none, .mv (.t 64)⟩])
 (.seq (.seq (.reg [.op ⟨some 65, none, .mv (.t 8)⟩,
 .op ⟨some 66, none, .bin .lss (.t 65) (.k (I 0))⟩])
 (.ite (.t 66) (.seq (.reg [.op ⟨some 67, none, .mv (.t 0)⟩,
 .op ⟨some 68, none, .mv (.t 6)⟩,
 .op ⟨some 69, none, .mv (.t 6)⟩,
 .op ⟨some 70, none, .nilchk (.t 69)⟩,
 .op ⟨some 71, none, .fa 4 (.t 70)⟩,
 .op ⟨some 72, none, .load false 1 (.t 71)⟩,
 .op ⟨some 73, none, .call 123 [(.t 67), (.t 68), (.k (I 404)), (.t 72)]⟩])
 .ret)
 .skip))
 (.seq (.reg [.op ⟨some 75, none, .mv (.t 0)⟩,
 .op ⟨some 76, none, .nilchk (.t 75)⟩,
 .op ⟨some 77, none, .fa 17 (.t 76)⟩,
 .op ⟨some 78, none, .fa 1 (.t 77)⟩,
 .op ⟨some 79, none, .load false 1 (.t 78)⟩,
 .op ⟨some 80, none, .mv (.t 8)⟩,
 .op ⟨some 81, none, .ia (.sl 3) (.t 79) (.t 80)⟩,
 .op ⟨some 82, none, .load true 3 (.t 81)⟩,
 .op ⟨some 83, none, .fa 1 (.t 5)⟩,
 .op ⟨some 84, none, .load false 1 (.t 83)⟩,
 .op ⟨some 85, none, .call 228 [(.t 82), (.t 84)]⟩,
 .op ⟨some 74, none, .mv (.t 85)⟩,
 .op ⟨some 86, none, .ext 0 (.t 74)⟩,
 .op ⟨some 87, none, .ext 1 (.t 74)⟩,
 .op ⟨some 9, none, .mv (.t 86)⟩,
 .op ⟨some 10, none, .mv (.t 87)⟩])
 (.seq (.seq (.reg [.op ⟨some 88, none, .mv (.t 10)⟩,
 .op ⟨some 89, none, .un .not (.t 88)⟩])
 (.ite (.t 89) (.seq (.reg [.op ⟨some 90, none, .mv (.t 0)⟩,
 .op ⟨some 91, none, .mv (.t 6)⟩,
 .op ⟨some 92, none, .mv (.t 6)⟩,
 .op ⟨some 93, none, .nilchk (.t 92)⟩,
 .op ⟨some 94, none, .fa 4 (.t 93)⟩,
 .op ⟨some 95, none, .load false 1 (.t 94)⟩,
 .op ⟨some 96, none, .call 123 [(.t 90), (.t 91), (.k (I 414)), (.t 95)]⟩])
 .ret)
 .skip))
 (.seq (.seq (.reg [.op ⟨some 97, none, .mv (.t 6)⟩,
 .op ⟨some 98, none, .nilchk (.t 97)⟩,
 .op ⟨some 99, none, .fa 7 (.t 98)⟩,
 .op ⟨some 100, none, .load false 1 (.t 99)⟩,
 .op ⟨some 101, none, .load true 5 (.t 5)⟩,
 .op ⟨some 102, none, .mv (.t 0)⟩,
 .op ⟨some 103, none, .nilchk (.t 102)⟩,
 .op ⟨some 104, none, .fa 17 (.t 103)⟩,
 .op ⟨some 105, none, .load true 8 (.t 104)⟩,
 .op ⟨some 106, none, .mv (.t 7)⟩,
 .op ⟨some 107, none, .mv (.t 9)⟩,
 .op ⟨some 108, none, .call 230 [(.t 101), (.t 105), (.t 106), (.t 107)]⟩,
 .chk ⟨some 100, none, .load false 1 (.t 99)⟩,
 .op ⟨some 109, none, .call 229 [(.t 108)]⟩,
 .chk ⟨some 100, none, .load false 1 (.t 99)⟩,
 .op ⟨some 110, none, .call 124 [(.t 100), (.t 109)]⟩,
 .op ⟨some 111, none, .un .not (.t 110)⟩])
 (.ite (.t 111) (.seq (.reg [.op ⟨some 112, none, .mv (.t 0)⟩,
 .op ⟨some 113, none, .mv (.t 6)⟩,
 .op ⟨some 114, none, .mv (.t 6)⟩,
 .op ⟨some 115, none, .nilchk (.t 114)⟩,
 .op ⟨some 116, none, .fa 4 (.t 115)⟩,
 .op ⟨some 117, none, .load false 1 (.t 116)⟩,
 .op ⟨some 118, none, .call 123 [(.t 112), (.t 113), (.k (I 503)), (.t 117)]⟩])
 .ret)
 .skip))
 (.seq (.reg [.op ⟨some 119, none, .mv (.t 6)⟩,
 .op ⟨some 120, none, .mv (.t 6)⟩,
 .op ⟨some 121, none, .mv (.t 0)⟩,
 .op ⟨some 122, none, .mv (.t 0)⟩,
 .op ⟨some 123, none, .nilchk (.t 122)⟩,
 .op ⟨some 124, none, .fa 17 (.t 123)⟩,
 .op ⟨some 125, none, .fa 1 (.t 124)⟩,
 .op ⟨some 126, none, .load false 1 (.t 125)⟩,
 .op ⟨some 127, none, .mv (.t 8)⟩,
 .op ⟨some 128, none, .ia (.sl 3) (.t 126) (.t 127)⟩,
 .op ⟨some 129, none, .fa 1 (.t 128)⟩,
 .op ⟨some 130, none, .load false 1 (.t 129)⟩,
 .op ⟨some 132, none, .mv (.t 0)⟩,
 .op ⟨some 133, none, .nilchk (.t 132)⟩,
 .op ⟨some 134, none, .fa 17 (.t 133)⟩,
 .op ⟨some 135, none, .fa 5 (.t 134)⟩,
 .op ⟨some 136, none, .load false 1 (.t 135)⟩,
 .op ⟨some 131, none, .call 231 [(.t 121), (.t 130)]⟩,
 .chk ⟨some 136, none, .load false 1 (.t 135)⟩,
 .op ⟨some 137, none, .nilchk (.t 119)⟩,
 .op ⟨some 138, none, .fa 5 (.t 137)⟩,
 .op ⟨none, none, .store 2 (.t 138) (.t 131)⟩,
 .op ⟨some 139, none, .nilchk (.t 120)⟩,
 .op ⟨some 140, none, .fa 10 (.t 139)⟩,
 .op ⟨none, none, .store 1 (.t 140) (.t 136)⟩])
 (.seq (.reg [.op ⟨some 141, none, .mv (.t 0)⟩,
 .op ⟨some 142, none, .nilchk (.t 141)⟩,
 .op ⟨some 143, none, .fa 10 (.t 142)⟩,
 .op ⟨some 144, none, .load false 1 (.t 143)⟩,
 .op ⟨some 145, none, .mv (.t 1)⟩,
 .op ⟨some 146, none, .mv (.t 6)⟩,
 .op ⟨none, none, .mset false (.t 144) (.t 145) (.t 146)⟩])
 (.seq (.reg [.op ⟨some 147, none, .mv (.t 0)⟩,
 .op ⟨some 148, none, .nilchk (.t 147)⟩,
 .op ⟨some 149, none, .fa 15 (.t 148)⟩,
 .op ⟨some 150, none, .load false 1 (.t 149)⟩,
 .op ⟨some 151, none, .mv (.t 1)⟩,
 .op ⟨some 152, none, .mv (.t 0)⟩,
 .op ⟨some 153, none, .nilchk (.t 152)⟩,
 .op ⟨some 154, none, .fa 15 (.t 153)⟩,
 .op ⟨some 155, none, .load false 1 (.t 154)⟩,
 .op ⟨some 157, none, .mv (.t 0)⟩,
 .op ⟨some 158, none, .nilchk (.t 157)⟩,
 .op ⟨some 159, none, .fa 17 (.t 158)⟩,
 .op ⟨some 160, none, .fa 4 (.t 159)⟩,
 .op ⟨some 161, none, .load false 1 (.t 160)⟩,
 .op ⟨some 156, none, .call 120 [(.t 155)]⟩,
 .chk ⟨some 161, none, .load false 1 (.t 160)⟩,
 .chk ⟨some 150, none, .load false 1 (.t 149)⟩,
 .op ⟨some 162, none, .bin .add (.t 156) (.t 161)⟩,
 .op ⟨some 163, none, .call 232 [(.t 150), (.t 151), (.t 162)]⟩])
 (.reg [.op ⟨some 164, none, .mv (.t 0)⟩,
 .op ⟨some 165, none, .mv (.t 6)⟩,
 .op ⟨some 166, none, .call 122 [(.t 164), (.t 165)]⟩])))))))))))))))⟩
theorem g175 : Good 175 c175 := ⟨_, Tryz.func175, by kernel_rfl⟩

def c176 : AFunc := ⟨[.t 4], (.seq (.reg [.op ⟨some 3, none, .box 1 (.t 1)⟩,
 .op ⟨some 4, none, .mv (.k (.bool false))⟩])
 (.seq (.reg [.op ⟨some 8, none, .mv (.t 0)⟩,
 .op ⟨some 9, none, .nilchk (.t 8)⟩,
 .op ⟨some 10, none, .fa 2 (.t 9)⟩,
 .op ⟨some 11, none, .load false 1 (.t 10)⟩,
 .op ⟨some 12, none, .load false 1 (.t 3)⟩,
 .op ⟨some 13, none, .look false .nilp true (.t 11) (.t 12)⟩,
 .op ⟨some 7, none, .mv (.t 13)⟩,
 .op ⟨some 14, none, .ext 0 (.t 7)⟩,
 .op ⟨some 15, none, .ext 1 (.t 7)⟩,
 .op ⟨some 5, none, .mv (.t 14)⟩,
 .op ⟨some 6, none, .mv (.t 15)⟩])
 (.seq (.reg [.op ⟨some 16, none, .mv (.t 0)⟩,
 .op ⟨some 17, none, .nilchk (.t 16)⟩,
 .op ⟨some 18, none, .fa 2 (.t 17)⟩,
 .op ⟨some 19, none, .load false 1 (.t 18)⟩,
 .op ⟨some 20, none, .load false 1 (.t 3)⟩,
 .op ⟨none, none, .del false (.t 19) (.t 20)⟩])
 (.seq (.reg [.op ⟨some 21, none, .mv (.t 0)⟩,
 .op ⟨some 22, none, .mv (.t 0)⟩,
 .op ⟨some 23, none, .nilchk (.t 22)⟩,
 .op ⟨some 24, none, .fa 3 (.t 23)⟩,
 .op ⟨some 25, none, .load false 1 (.t 24)⟩,
 .op ⟨some 26, none, .mkf 234 [] [(.t 3)]⟩,
 .op ⟨some 27, none, .call 233 [(.t 25), (.t 26)]⟩,
 .op ⟨some 28, none, .nilchk (.t 21)⟩,
 .op ⟨some 29, none, .fa 3 (.t 28)⟩,
 .op ⟨none, none, .store 1 (.t 29) (.t 27)⟩])
 (.seq (.reg [.op ⟨some 30, none, .mv (.t 6)⟩,
 .op ⟨some 4, none, .mv (.t 30)⟩])
 .ret)))))⟩
theorem g176 : Good 176 c176 := ⟨_, Tryz.func176, by kernel_rfl⟩

def c177 : AFunc := ⟨[.t 6, .t 7], (.seq (.reg [.op ⟨some 4, none, .box 2 (.t 1)⟩,
 .op ⟨some 6, none, .mv (.k (.str []))⟩,
 .op ⟨some 7, none, .mv (.k (I 0))⟩])
 (.seq (.seq (.reg [.op ⟨some 10, none, .fa 1 (.t 4)⟩,
 .op ⟨some 11, none, .load false 1 (.t 10)⟩,
 .op ⟨some 12, none, .len .sl (.t 11)⟩,
 .op ⟨some 13, none, .mv (.k (I 0))⟩])
 (.block 0 (.loop (.seq (.reg [.op ⟨some 14, none, .bin .lss (.t 13) (.t 12)⟩])
 (.seq (.ite (.t 14) .skip
 (.exit 0))
 (.seq (.block 1 (.seq (.reg [.op ⟨some 15, none, .mv (.t 13)⟩,
 .op ⟨some 8, none, .mv (.t 15)⟩])
 (.seq (.reg [.op ⟨some 16, none, .mv (.t 0)⟩,
 .op ⟨some 17, none, .nilchk (.t 16)⟩,
 .op ⟨some 18, none, .fa 0 (.t 17)⟩,
 .op ⟨some 19, none, .load false 1 (.t 18)⟩,
 .op ⟨some 20, none, .fa 0 (.t 4)⟩,
 .op ⟨some 21, none, .load false 1 (.t 20)⟩,
 .op ⟨some 22, none, .look true (I 0) false (.t 19) (.t 21)⟩,
 .op ⟨some 23, none, .mv (.t 8)⟩,
 .op ⟨some 24, none, .bin .add (.t 22) (.t 23)⟩,
 .op ⟨some 25, none, .fa 1 (.t 4)⟩,
 .op ⟨some 26, none, .load false 1 (.t 25)⟩,
 .op ⟨some 27, none, .len .sl (.t 26)⟩,
 .op ⟨some 28, none, .bin .rem (.t 24) (.t 27)⟩,
 .op ⟨some 9, none, .mv (.t 28)⟩])
 (.seq (.reg [.op ⟨some 29, none, .mv (.t 0)⟩,
 .op ⟨some 30, none, .fa 1 (.t 4)⟩,
 .op ⟨some 31, none, .load false 1 (.t 30)⟩,
 .op ⟨some 32, none, .mv (.t 9)⟩,
 .op ⟨some 33, none, .ia (.sl 1) (.t 31) (.t 32)⟩,
 .op ⟨some 34, none, .load false 1 (.t 33)⟩,
 .op ⟨some 35, none, .mv (.t 2)⟩,
 .op ⟨some 36, none, .call 235 [(.t 29), (.t 34), (.t 35)]⟩,
 .op ⟨some 37, none, .un .not (.t 36)⟩])
 (.ite (.t 37) (.seq (.reg [.op ⟨some 38, none, .mv (.t 0)⟩,
 .op ⟨some 39, none, .nilchk (.t 38)⟩,
 .op ⟨some 40, none, .fa 0 (.t 39)⟩,
 .op ⟨some 41, none, .load false 1 (.t 40)⟩,
 .op ⟨some 42, none, .fa 0 (.t 4)⟩,
 .op ⟨some 43, none, .load false 1 (.t 42)⟩,
 .op ⟨some 44, none, .mv (.t 9)⟩,
 .op ⟨some 45, none, .bin .add (.t 44) (.k (I 1))⟩,
 .op ⟨none, none, .mset true (.t 41) (.t 43) (.t 45)⟩])
 (.seq (.reg [.op ⟨some 46, none, .fa 1 (.t 4)⟩,
 .op ⟨some 47, none, .load false 1 (.t 46)⟩,
 .op ⟨some 48, none, .mv (.t 9)⟩,
 .op ⟨some 49, none, .ia (.sl 1) (.t 47) (.t 48)⟩,
 .op ⟨some 50, none, .load false 1 (.t 49)⟩,
 .op ⟨some 6, none, .mv (.t 50)⟩,
 .op ⟨some 7, none, .mv (.k (I 0))⟩])
 .ret))
 .skip)))))
 (.reg [.op ⟨some 51, none, .bin .add (.t 13) (.k (I 1))⟩,
 .op ⟨some 13, none, .mv (.t 51)⟩])))))))
 (.seq (.reg [.op ⟨some 6, none, .mv (.k (.str []))⟩,
 .op ⟨some 7, none, .mv (.k (I 4))⟩])
 .ret)))⟩
theorem g177 : Good 177 c177 := ⟨_, Tryz.func177, by kernel_rfl⟩

def c179 : AFunc := ⟨[], (.seq (.reg [.op ⟨some 10, none, .mv (.t 0)⟩,
 .op ⟨some 11, none, .mv (.t 1)⟩,
 .op ⟨some 12, none, .call 170 [(.t 10), (.t 11)]⟩])
 (.seq (.reg [.op ⟨some 13, none, .mv (.t 0)⟩,
 .op ⟨some 14, none, .mv (.t 1)⟩,
 .op ⟨some 15, none, .mv (.t 2)⟩,
 .op ⟨some 16, none, .mv (.t 3)⟩,
 .op ⟨some 17, none, .len .sl (.t 16)⟩,
 .op ⟨some 18, none, .call 168 [(.t 13), (.t 14), (.t 15), (.t 17)]⟩])
 (.seq (.reg [.op ⟨some 19, none, .mv (.t 0)⟩,
 .op ⟨some 20, none, .nilchk (.t 19)⟩,
 .op ⟨some 21, none, .fa 9 (.t 20)⟩,
 .op ⟨some 22, none, .load false 1 (.t 21)⟩,
 .op ⟨some 23, none, .mv (.t 1)⟩,
 .op ⟨some 24, none, .nilchk (.t 23)⟩,
 .op ⟨some 25, none, .fa 0 (.t 24)⟩,
 .op ⟨some 26, none, .load false 1 (.t 25)⟩,
 .op ⟨some 27, none, .look false .nilp false (.t 22) (.t 26)⟩,
 .op ⟨some 28, none, .mv (.t 3)⟩,
 .op ⟨some 29, none, .mv (.t 4)⟩,
 .op ⟨some 30, none, .call 238 [(.t 27), (.t 28), (.t 29)]⟩,
 .op ⟨some 31, none, .un .not (.t 30)⟩])
 (.ite (.t 31) (.seq (.reg [.op ⟨some 32, none, .mv (.t 0)⟩,
 .op ⟨some 33, none, .mv (.t 1)⟩,
 .op ⟨some 34, none, .nilchk (.t 33)⟩,
 .op ⟨some 35, none, .fa 0 (.t 34)⟩,
 .op ⟨some 36, none, .load false 1 (.t 35)⟩,
 .op ⟨some 37, none, .build [(I 0), (I 0), (.str []), (I 0), (.str []), .nils] [(0, 1, (.k (I 3))), (1, 1, (.t 36))]⟩,
 .op ⟨some 38, none, .call 113 [(.t 32), (.t 37)]⟩])
 (.reg [.op ⟨some 39, none, .mv (.t 0)⟩,
 .op ⟨some 40, none, .mv (.t 1)⟩,
 .op ⟨some 41, none, .nilchk (.t 40)⟩,
 .op ⟨some 42, none, .fa 0 (.t 41)⟩,
 .op ⟨some 43, none, .load false 1 (.t 42)⟩,
 .op ⟨some 44, none, .call 135 [(.t 39), (.t 43)]⟩]))
 .skip))))⟩
theorem g179 : Good 179 c179 := ⟨_, Tryz.func179, by kernel_rfl⟩

def c180 : AFunc := ⟨[.t 4], (.seq (.reg [.op ⟨some 4, none, .mv (.k (.bool false))⟩])
 (.block 0 (.loop (.block 1 (.seq (.reg [.op ⟨some 7, none, .mv (.t 0)⟩,
 .op ⟨some 8, none, .nilchk (.t 7)⟩,
 .op ⟨some 9, none, .fa 1 (.t 8)⟩,
 .op ⟨some 10, none, .call 239 [(.t 9)]⟩,
 .op ⟨some 5, none, .mv (.t 10)⟩])
 (.seq (.seq (.reg [.op ⟨some 11, none, .mv (.t 1)⟩,
 .op ⟨some 12, none, .bin .lss (.t 11) (.k (I 0))⟩,
 .op ⟨some 13, none, .mv (.t 12)⟩,
 .op ⟨some 14, some (13, false), .mv (.t 1)⟩,
 .op ⟨some 15, some (13, false), .mv (.t 0)⟩,
 .op ⟨some 16, some (13, false), .nilchk (.t 15)⟩,
 .op ⟨some 17, some (13, false), .fa 0 (.t 16)⟩,
 .op ⟨some 18, some (13, false), .load false 1 (.t 17)⟩,
 .op ⟨some 19, some (13, false), .mv (.t 5)⟩,
 .op ⟨some 20, some (13, false), .bin .sub (.t 18) (.t 19)⟩,
 .op ⟨some 21, some (13, false), .bin .gtr (.t 14) (.t 20)⟩,
 .op ⟨some 22, none, .pick (.t 13) (.k (.bool true)) (.t 21)⟩])
 (.ite (.t 22) (.seq (.reg [.op ⟨some 4, none, .mv (.k (.bool false))⟩])
 .ret)
 .skip))
 (.seq (.reg [.op ⟨some 23, none, .mv (.t 5)⟩,
 .op ⟨some 24, none, .mv (.t 1)⟩,
 .op ⟨some 25, none, .bin .add (.t 23) (.t 24)⟩,
 .op ⟨some 6, none, .mv (.t 25)⟩])
 (.seq (.reg [.op ⟨some 26, none, .mv (.t 0)⟩,
 .op ⟨some 27, none, .nilchk (.t 26)⟩,
 .op ⟨some 28, none, .fa 1 (.t 27)⟩,
 .op ⟨some 29, none, .mv (.t 5)⟩,
 .op ⟨some 30, none, .mv (.t 6)⟩,
 .op ⟨some 31, none, .call 240 [(.t 28), (.t 29), (.t 30)]⟩])
 (.ite (.t 31) (.seq (.reg [.op ⟨some 32, none, .mv (.t 0)⟩,
 .op ⟨some 33, none, .mv (.t 6)⟩,
 .op ⟨some 34, none, .call 241 [(.t 32), (.t 33)]⟩])
 (.seq (.reg [.op ⟨some 4, none, .mv (.k (.bool true))⟩])
 .ret))
 .skip)))))))))⟩
theorem g180 : Good 180 c180 := ⟨_, Tryz.func180, by kernel_rfl⟩

def c181 : AFunc := ⟨[.c 6 true 5, .t 7, .t 8], (.seq (.reg [.op ⟨some 6, none, .alloc [(I 0), (.str []), (I 0), .nils, .nils]⟩,
 .op ⟨some 7, none, .mv (.k (I 0))⟩,
 .op ⟨some 8, none, .mv (.k (.bool false))⟩])
 (.seq (.reg [.op ⟨some 9, none, .alloc [(I 0), (.str []), (I 0), .nils, .nils]⟩])
 (.seq (.reg [.op ⟨some 19, none, .mv (.t 0)⟩,
 .op ⟨some 20, none, .mkf 242 [] [(.t 9)]⟩,
 .op ⟨some 21, none, .call 199 [(.t 19), (.t 20)]⟩,
 .op ⟨some 18, none, .mv (.t 21)⟩,
 .op ⟨some 22, none, .ext 0 (.t 18)⟩,
 .op ⟨some 23, none, .ext 1 (.t 18)⟩,
 .op ⟨some 24, none, .ext 2 (.t 18)⟩,
 .op ⟨some 10, none, .mv (.t 22)⟩,
 .op ⟨some 11, none, .mv (.t 23)⟩,
 .op ⟨some 12, none, .mv (.t 24)⟩])
 (.seq (.seq (.reg [.op ⟨some 25, none, .mv (.t 11)⟩,
 .op ⟨some 26, none, .bin .eql (.t 25) (.k (I 0))⟩])
 (.ite (.t 26) (.seq (.reg [.op ⟨some 27, none, .build [(I 0), (.str []), (I 0), .nils, .nils] []⟩,
 .op ⟨some 28, none, .mv (.t 12)⟩,
 .op ⟨some 29, none, .bin .eql (.t 28) (.k (I 0))⟩,
 .op ⟨some 30, none, .mv (.t 29)⟩,
 .op ⟨some 31, some (30, true), .mv (.t 2)⟩,
 .op ⟨some 32, some (30, true), .un .not (.t 31)⟩,
 .op ⟨some 33, none, .pick (.t 30) (.t 32) (.k (.bool false))⟩,
 .op ⟨none, none, .store 5 (.t 6) (.t 27)⟩,
 .op ⟨some 7, none, .mv (.k (I 0))⟩,
 .op ⟨some 8, none, .mv (.t 33)⟩])
 .ret)
 .skip))
 (.seq (.reg [.op ⟨some 34, none, .mv (.t 10)⟩,
 .op ⟨some 35, none, .fa 3 (.t 9)⟩,
 .op ⟨none, none, .store 1 (.t 35) (.t 34)⟩])
 (.seq (.reg [.op ⟨some 37, none, .mv (.t 1)⟩,
 .op ⟨some 38, none, .load true 5 (.t 9)⟩,
 .op ⟨some 39, none, .call 244 [(.t 37), (.t 38)]⟩,
 .op ⟨some 36, none, .mv (.t 39)⟩,
 .op ⟨some 40, none, .ext 0 (.t 36)⟩,
 .op ⟨some 41, none, .ext 1 (.t 36)⟩,
 .op ⟨some 42, none, .ext 2 (.t 36)⟩,
 .op ⟨some 13, none, .mv (.t 40)⟩,
 .op ⟨some 14, none, .mv (.t 41)⟩,
 .op ⟨some 15, none, .mv (.t 42)⟩])
 (.seq (.seq (.reg [.op ⟨some 43, none, .mv (.t 15)⟩,
 .op ⟨some 44, none, .un .not (.t 43)⟩])
 (.ite (.t 44) (.seq (.reg [.op ⟨some 45, none, .build [(I 0), (.str []), (I 0), .nils, .nils] []⟩,
 .op ⟨none, none, .store 5 (.t 6) (.t 45)⟩,
 .op ⟨some 7, none, .mv (.k (I 0))⟩,
 .op ⟨some 8, none, .mv (.k (.bool false))⟩])
 .ret)
 .skip))
 (.seq (.reg [.op ⟨some 47, none, .mv (.t 0)⟩,
 .op ⟨some 48, none, .mv (.t 11)⟩,
 .op ⟨some 49, none, .slc (.sl 1) (.t 47) (some (.t 48)) none none⟩,
 .op ⟨some 50, none, .mv (.t 13)⟩,
 .op ⟨some 51, none, .mv (.t 14)⟩,
 .op ⟨some 52, none, .mv (.t 2)⟩,
 .op ⟨some 53, none, .call 245 [(.t 49), (.t 50), (.t 51), (.t 52)]⟩,
 .op ⟨some 46, none, .mv (.t 53)⟩,
 .op ⟨some 54, none, .ext 0 (.t 46)⟩,
 .op ⟨some 55, none, .ext 1 (.t 46)⟩,
 .op ⟨some 56, none, .ext 2 (.t 46)⟩,
 .op ⟨some 16, none, .mv (.t 54)⟩,
 .op ⟨some 17, none, .mv (.t 55)⟩,
 .op ⟨some 15, none, .mv (.t 56)⟩])
 (.seq (.seq (.reg [.op ⟨some 57, none, .mv (.t 17)⟩,
 .op ⟨some 58, none, .bin .lss (.t 57) (.k (I 0))⟩,
 .op ⟨some 59, none, .mv (.t 58)⟩,
 .op ⟨some 60, some (59, false), .mv (.t 15)⟩,
 .op ⟨some 61, some (59, false), .un .not (.t 60)⟩,
 .op ⟨some 62, none, .pick (.t 59) (.k (.bool true)) (.t 61)⟩])
 (.ite (.t 62) (.seq (.reg [.op ⟨some 63, none, .build [(I 0), (.str []), (I 0), .nils, .nils] []⟩,
 .op ⟨some 64, none, .mv (.t 15)⟩,
 .op ⟨some 65, none, .mv (.t 64)⟩,
 .op ⟨some 66, some (65, true), .mv (.t 2)⟩,
 .op ⟨some 67, some (65, true), .un .not (.t 66)⟩,
 .op ⟨some 68, none, .pick (.t 65) (.t 67) (.k (.bool false))⟩,
 .op ⟨none, none, .store 5 (.t 6) (.t 63)⟩,
 .op ⟨some 7, none, .mv (.k (I 0))⟩,
 .op ⟨some 8, none, .mv (.t 68)⟩])
 .ret)
 .skip))
 (.seq (.reg [.op ⟨some 69, none, .mv (.t 16)⟩,
 .op ⟨some 70, none, .fa 4 (.t 9)⟩,
 .op ⟨none, none, .store 1 (.t 70) (.t 69)⟩])
 (.seq (.reg [.op ⟨some 71, none, .load true 5 (.t 9)⟩,
 .op ⟨some 72, none, .mv (.t 11)⟩,
 .op ⟨some 73, none, .mv (.t 17)⟩,
 .op ⟨some 74, none, .bin .add (.t 72) (.t 73)⟩,
 .op ⟨none, none, .store 5 (.t 6) (.t 71)⟩,
 .op ⟨some 7, none, .mv (.t 74)⟩,
 .op ⟨some 8, none, .mv (.k (.bool true))⟩])
 .ret)))))))))))⟩
theorem g181 : Good 181 c181 := ⟨_, Tryz.func181, by kernel_rfl⟩

def c182 : AFunc := ⟨[.t 4], (.seq (.reg [.op ⟨some 4, none, .mv (.k .nils)⟩])
 (.seq (.reg [.op ⟨some 9, none, .mv (.t 0)⟩,
 .op ⟨some 10, none, .mv (.t 1)⟩,
 .op ⟨some 11, none, .call 116 [(.t 9), (.t 10)]⟩,
 .op ⟨some 5, none, .mv (.t 11)⟩])
 (.seq (.seq (.reg [.op ⟨some 12, none, .mv (.t 5)⟩,
 .op ⟨some 13, none, .len .sl (.t 12)⟩,
 .op ⟨some 6, none, .mv (.t 13)⟩])
 (.block 0 (.loop (.seq (.seq (.reg [.op ⟨some 14, none, .mv (.t 6)⟩,
 .op ⟨some 15, none, .bin .gtr (.t 14) (.k (I 0))⟩])
 (.ite (.t 15) .skip
 (.exit 0)))
 (.block 1 (.seq (.reg [.op ⟨some 16, none, .mv (.t 0)⟩,
 .op ⟨some 17, none, .nilchk (.t 16)⟩,
 .op ⟨some 18, none, .fa 1 (.t 17)⟩,
 .op ⟨some 19, none, .load false 1 (.t 18)⟩,
 .op ⟨some 20, none, .ia (.sl 1) (.t 19) (.k (I 0))⟩,
 .op ⟨some 21, none, .load false 1 (.t 20)⟩,
 .op ⟨some 7, none, .mv (.t 21)⟩])
 (.seq (.reg [.op ⟨some 22, none, .mv (.t 6)⟩,
 .op ⟨some 23, none, .mv (.t 7)⟩,
 .op ⟨some 24, none, .nilchk (.t 23)⟩,
 .op ⟨some 25, none, .fa 65 (.t 24)⟩,
 .op ⟨some 26, none, .load false 1 (.t 25)⟩,
 .op ⟨some 27, none, .mv (.t 7)⟩,
 .op ⟨some 28, none, .nilchk (.t 27)⟩,
 .op ⟨some 29, none, .fa 64 (.t 28)⟩,
 .op ⟨some 30, none, .load false 1 (.t 29)⟩,
 .op ⟨some 31, none, .bin .sub (.t 26) (.t 30)⟩,
 .op ⟨some 32, none, .mn (.t 22) (.t 31)⟩,
 .op ⟨some 8, none, .mv (.t 32)⟩])
 (.seq (.reg [.op ⟨some 33, none, .mv (.t 7)⟩,
 .op ⟨some 34, none, .nilchk (.t 33)⟩,
 .op ⟨some 35, none, .fa 64 (.t 34)⟩,
 .op ⟨some 36, none, .load false 1 (.t 35)⟩,
 .op ⟨some 37, none, .mv (.t 8)⟩,
 .op ⟨some 38, none, .bin .add (.t 36) (.t 37)⟩,
 .op ⟨some 39, none, .nilchk (.t 33)⟩,
 .op ⟨some 40, none, .fa 64 (.t 39)⟩,
 .op ⟨none, none, .store 1 (.t 40) (.t 38)⟩])
 (.seq (.reg [.op ⟨some 41, none, .mv (.t 6)⟩,
 .op ⟨some 42, none, .mv (.t 8)⟩,
 .op ⟨some 43, none, .bin .sub (.t 41) (.t 42)⟩,
 .op ⟨some 6, none, .mv (.t 43)⟩])
 (.seq (.reg [.op ⟨some 44, none, .mv (.t 7)⟩,
 .op ⟨some 45, none, .nilchk (.t 44)⟩,
 .op ⟨some 46, none, .fa 64 (.t 45)⟩,
 .op ⟨some 47, none, .load false 1 (.t 46)⟩,
 .op ⟨some 48, none, .mv (.t 7)⟩,
 .op ⟨some 49, none, .nilchk (.t 48)⟩,
 .op ⟨some 50, none, .fa 65 (.t 49)⟩,
 .op ⟨some 51, none, .load false 1 (.t 50)⟩,
 .op ⟨some 52, none, .bin .eql (.t 47) (.t 51)⟩])
 (.ite (.t 52) (.reg [.op ⟨some 53, none, .mv (.t 0)⟩,
 .op ⟨some 54, none, .mv (.t 0)⟩,
 .op ⟨some 55, none, .nilchk (.t 54)⟩,
 .op ⟨some 56, none, .fa 1 (.t 55)⟩,
 .op ⟨some 57, none, .load false 1 (.t 56)⟩,
 .op ⟨some 58, none, .slc (.sl 1) (.t 57) (some (.k (I 1))) none none⟩,
 .op ⟨some 59, none, .nilchk (.t 53)⟩,
 .op ⟨some 60, none, .fa 1 (.t 59)⟩,
 .op ⟨none, none, .store 1 (.t 60) (.t 58)⟩])
 .skip)))))))))))
 (.seq (.reg [.op ⟨some 61, none, .mv (.t 0)⟩,
 .op ⟨some 62, none, .nilchk (.t 61)⟩,
 .op ⟨some 63, none, .fa 2 (.t 62)⟩,
 .op ⟨some 64, none, .load false 1 (.t 63)⟩,
 .op ⟨some 65, none, .mv (.t 5)⟩,
 .op ⟨some 66, none, .len .sl (.t 65)⟩,
 .op ⟨some 67, none, .bin .sub (.t 64) (.t 66)⟩,
 .op ⟨some 68, none, .nilchk (.t 61)⟩,
 .op ⟨some 69, none, .fa 2 (.t 68)⟩,
 .op ⟨none, none, .store 1 (.t 69) (.t 67)⟩])
 (.seq (.reg [.op ⟨some 70, none, .mv (.t 0)⟩,
 .op ⟨some 71, none, .nilchk (.t 70)⟩,
 .op ⟨some 72, none, .fa 0 (.t 71)⟩,
 .op ⟨some 73, none, .load false 1 (.t 72)⟩,
 .op ⟨some 74, none, .mv (.t 5)⟩,
 .op ⟨some 75, none, .len .sl (.t 74)⟩,
 .op ⟨some 76, none, .call 246 [(.t 73), (.t 75)]⟩])
 (.seq (.reg [.op ⟨some 77, none, .mv (.t 5)⟩,
 .op ⟨some 4, none, .mv (.t 77)⟩])
 .ret))))))⟩
theorem g182 : Good 182 c182 := ⟨_, Tryz.func182, by kernel_rfl⟩

def c183 : AFunc := ⟨[], (.reg [.op ⟨some 4, none, .mv (.t 0)⟩,
 .op ⟨some 5, none, .nilchk (.t 4)⟩,
 .op ⟨some 6, none, .fa 1 (.t 5)⟩,
 .op ⟨some 7, none, .load false 1 (.t 6)⟩,
 .op ⟨some 8, none, .mv (.t 1)⟩,
 .op ⟨none, none, .del true (.t 7) (.t 8)⟩])⟩
theorem g183 : Good 183 c183 := ⟨_, Tryz.func183, by kernel_rfl⟩

def c184 : AFunc := ⟨[.t 4], (.seq (.reg [.op ⟨some 4, none, .mv (.k (.bool false))⟩])
 (.seq (.reg [.op ⟨some 5, none, .mv (.t 0)⟩,
 .op ⟨some 6, none, .call 247 [(.t 5), (.k (.str [67, 111, 110, 110, 101, 99, 116, 105, 111, 110])), (.k (.str [99, 108, 111, 115, 101]))]⟩,
 .op ⟨some 7, none, .mv (.t 6)⟩,
 .op ⟨some 8, some (7, false), .mv (.t 1)⟩,
 .op ⟨some 9, some (7, false), .bin .eql (.t 8) (.k (I 0))⟩,
 .op ⟨some 10, some (7, false), .mv (.t 9)⟩,
 .op ⟨some 11, some (10, true), .mv (.t 0)⟩,
 .op ⟨some 12, some (10, true), .call 247 [(.t 11), (.k (.str [67, 111, 110, 110, 101, 99, 116, 105, 111, 110])), (.k (.str [107, 101, 101, 112, 45, 97, 108, 105, 118, 101]))]⟩,
 .op ⟨some 13, some (10, true), .un .not (.t 12)⟩,
 .op ⟨some 14, some (7, false), .pick (.t 10) (.t 13) (.k (.bool false))⟩,
 .op ⟨some 15, none, .pick (.t 7) (.k (.bool true)) (.t 14)⟩,
 .op ⟨some 4, none, .mv (.t 15)⟩])
 .ret))⟩
theorem g184 : Good 184 c184 := ⟨_, Tryz.func184, by kernel_rfl⟩

def c185 : AFunc := ⟨[.t 4], (.seq (.reg [.op ⟨some 4, none, .mv (.k (.bool false))⟩])
 (.seq (.reg [.op ⟨some 6, none, .mv (.t 0)⟩,
 .op ⟨some 7, none, .mv (.t 1)⟩,
 .op ⟨some 8, none, .call 115 [(.t 6), (.t 7), (.k (I 2)), (.k (I 3))]⟩,
 .op ⟨some 5, none, .mv (.t 8)⟩])
 (.seq (.seq (.reg [.op ⟨some 9, none, .mv (.t 5)⟩])
 (.ite (.t 9) (.reg [.op ⟨some 10, none, .mv (.t 0)⟩,
 .op ⟨some 11, none, .mv (.t 0)⟩,
 .op ⟨some 12, none, .nilchk (.t 11)⟩,
 .op ⟨some 13, none, .fa 3 (.t 12)⟩,
 .op ⟨some 14, none, .load false 1 (.t 13)⟩,
 .op ⟨some 15, none, .mv (.t 1)⟩,
 .op ⟨some 16, none, .bslice 1 1 [(I 0)] [(0, 1, (.t 15))]⟩,
 .op ⟨some 17, none, .app 1 8 (.t 14) (.t 16)⟩,
 .op ⟨some 18, none, .nilchk (.t 10)⟩,
 .op ⟨some 19, none, .fa 3 (.t 18)⟩,
 .op ⟨none, none, .store 1 (.t 19) (.t 17)⟩])
 .skip))
 (.seq (.reg [.op ⟨some 20, none, .mv (.t 5)⟩,
 .op ⟨some 4, none, .mv (.t 20)⟩])
 .ret))))⟩
theorem g185 : Good 185 c185 := ⟨_, Tryz.func185, by kernel_rfl⟩

def c186 : AFunc := ⟨[.c 6 true 5], (.seq (.reg [.op ⟨some 3, none, .box 5 (.t 0)⟩,
 .op ⟨some 6, none, .alloc [(I 0), (.str []), (I 0), .nils, .nils]⟩])
 (.seq (.reg [.op ⟨some 11, none, .fa 0 (.t 3)⟩,
 .op ⟨some 12, none, .load false 1 (.t 11)⟩,
 .op ⟨some 13, none, .fa 1 (.t 3)⟩,
 .op ⟨some 14, none, .load false 1 (.t 13)⟩,
 .op ⟨some 15, none, .fa 3 (.t 3)⟩,
 .op ⟨some 16, none, .load false 1 (.t 15)⟩,
 .op ⟨some 7, none, .alloc [(I 0), (.str []), (I 0), .nils, .nils]⟩,
 .op ⟨some 17, none, .call 248 [(.t 16)]⟩,
 .chk ⟨some 14, none, .load false 1 (.t 13)⟩,
 .chk ⟨some 12, none, .load false 1 (.t 11)⟩,
 .op ⟨some 18, none, .build [(I 0), (.str []), (I 0), .nils, .nils] [(0, 1, (.t 12)), (1, 1, (.t 14)), (2, 1, (.k (I 1))), (3, 1, (.t 17))]⟩,
 .op ⟨none, none, .store 5 (.t 7) (.t 18)⟩])
 (.seq (.seq (.reg [.op ⟨some 20, none, .mv (.t 1)⟩,
 .op ⟨some 21, none, .load true 5 (.t 3)⟩,
 .op ⟨some 22, none, .call 244 [(.t 20), (.t 21)]⟩,
 .op ⟨some 19, none, .mv (.t 22)⟩,
 .op ⟨some 23, none, .ext 0 (.t 19)⟩,
 .op ⟨some 24, none, .ext 1 (.t 19)⟩,
 .op ⟨some 25, none, .ext 2 (.t 19)⟩,
 .op ⟨some 8, none, .mv (.t 23)⟩,
 .op ⟨some 9, none, .mv (.t 24)⟩,
 .op ⟨some 10, none, .mv (.t 25)⟩])
 (.seq (.reg [.op ⟨some 26, none, .mv (.t 10)⟩,
 .op ⟨some 27, none, .un .not (.t 26)⟩,
 .op ⟨some 28, none, .mv (.t 27)⟩,
 .op ⟨some 29, some (28, false), .mv (.t 8)⟩,
 .op ⟨some 30, some (28, false), .bin .neq (.t 29) (.k (I 0))⟩,
 .op ⟨some 31, none, .pick (.t 28) (.k (.bool true)) (.t 30)⟩])
 (.ite (.t 31) (.seq (.reg [.op ⟨some 32, none, .fa 4 (.t 3)⟩,
 .op ⟨some 33, none, .load false 1 (.t 32)⟩,
 .op ⟨some 34, none, .call 21 [(.t 33)]⟩,
 .op ⟨some 35, none, .fa 4 (.t 7)⟩,
 .op ⟨none, none, .store 1 (.t 35) (.t 34)⟩])
 (.reg [.op ⟨some 36, none, .fa 3 (.t 7)⟩,
 .op ⟨some 37, none, .load false 1 (.t 36)⟩,
 .op ⟨some 38, none, .fa 4 (.t 3)⟩,
 .op ⟨some 39, none, .load false 1 (.t 38)⟩,
 .op ⟨some 40, none, .len .sl (.t 39)⟩,
 .op ⟨some 41, none, .call 215 [(.t 40)]⟩,
 .chk ⟨some 37, none, .load false 1 (.t 36)⟩,
 .op ⟨some 42, none, .bslice 2 1 [(.str []), (.str [])] [(0, 2, (.t 41))]⟩,
 .chk ⟨some 37, none, .load false 1 (.t 36)⟩,
 .op ⟨some 43, none, .app 2 32 (.t 37) (.t 42)⟩,
 .op ⟨some 44, none, .fa 3 (.t 7)⟩,
 .op ⟨none, none, .store 1 (.t 44) (.t 43)⟩]))
 .skip)))
 (.seq (.seq (.reg [.op ⟨some 45, none, .mv (.t 2)⟩])
 (.ite (.t 45) (.reg [.op ⟨some 46, none, .fa 3 (.t 7)⟩,
 .op ⟨some 47, none, .load false 1 (.t 46)⟩,
 .op ⟨some 48, none, .call 216 []⟩,
 .chk ⟨some 47, none, .load false 1 (.t 46)⟩,
 .op ⟨some 49, none, .bslice 2 1 [(.str []), (.str [])] [(0, 2, (.t 48))]⟩,
 .chk ⟨some 47, none, .load false 1 (.t 46)⟩,
 .op ⟨some 50, none, .app 2 32 (.t 47) (.t 49)⟩,
 .op ⟨some 51, none, .fa 3 (.t 7)⟩,
 .op ⟨none, none, .store 1 (.t 51) (.t 50)⟩])
 .skip))
 (.seq (.reg [.op ⟨some 52, none, .load true 5 (.t 7)⟩,
 .op ⟨none, none, .store 5 (.t 6) (.t 52)⟩])
 .ret)))))⟩
theorem g186 : Good 186 c186 := ⟨_, Tryz.func186, by kernel_rfl⟩

def c187 : AFunc := ⟨[.t 0], (.seq (.reg [.op ⟨some 0, none, .mv (.k .nils)⟩])
 (.seq (.reg [.op ⟨some 1, none, .bslice 1 8 [(.str [])] [(0, 1, (.k (.str [117, 112]))), (1, 1, (.k (.str [114, 111, 117, 116, 101]))), (2, 1, (.k (.str [115, 101, 116]))), (3, 1, (.k (.str [100, 114, 111, 112]))), (4, 1, (.k (.str [116, 111, 116, 97, 108]))), (5, 1, (.k (.str [116, 114, 105, 101, 115]))), (6, 1, (.k (.str [102, 97, 105, 108, 115]))), (7, 1, (.k (.str [99, 111, 111, 108])))]⟩,
 .op ⟨some 0, none, .mv (.t 1)⟩])
 .ret))⟩
theorem g187 : Good 187 c187 := ⟨_, Tryz.func187, by kernel_rfl⟩

def c188 : AFunc := ⟨[.t 4], (.seq (.reg [.op ⟨some 4, none, .mv (.k (I 0))⟩])
 (.seq (.seq (.reg [.op ⟨some 6, none, .mv (.t 0)⟩,
 .op ⟨some 7, none, .len .sl (.t 6)⟩,
 .op ⟨some 8, none, .mv (.k (I 0))⟩])
 (.block 0 (.loop (.seq (.reg [.op ⟨some 9, none, .bin .lss (.t 8) (.t 7)⟩])
 (.seq (.ite (.t 9) .skip
 (.exit 0))
 (.seq (.block 1 (.seq (.reg [.op ⟨some 10, none, .mv (.t 8)⟩,
 .op ⟨some 5, none, .mv (.t 10)⟩])
 (.seq (.reg [.op ⟨some 11, none, .mv (.t 1)⟩,
 .op ⟨some 12, none, .mv (.t 0)⟩,
 .op ⟨some 13, none, .mv (.t 5)⟩,
 .op ⟨some 14, none, .ia (.sl 1) (.t 12) (.t 13)⟩,
 .op ⟨some 15, none, .load false 1 (.t 14)⟩,
 .op ⟨some 16, none, .bin .eql (.t 11) (.t 15)⟩])
 (.ite (.t 16) (.seq (.reg [.op ⟨some 17, none, .mv (.t 5)⟩,
 .op ⟨some 4, none, .mv (.t 17)⟩])
 .ret)
 .skip))))
 (.reg [.op ⟨some 18, none, .bin .add (.t 8) (.k (I 1))⟩,
 .op ⟨some 8, none, .mv (.t 18)⟩])))))))
 (.seq (.reg [.op ⟨some 4, none, .mv (.k (I (-1)))⟩])
 .ret)))⟩
theorem g188 : Good 188 c188 := ⟨_, Tryz.func188, by kernel_rfl⟩

def c189 : AFunc := ⟨[.t 6], (.seq (.reg [.op ⟨some 6, none, .mv (.k (.bool false))⟩])
 (.seq (.reg [.op ⟨some 14, none, .mv (.t 2)⟩,
 .op ⟨some 15, none, .call 34 [(.t 14), (.k (.str [32]))]⟩,
 .op ⟨some 7, none, .mv (.t 15)⟩])
 (.seq (.seq (.reg [.op ⟨some 16, none, .mv (.t 1)⟩])
 (.block 0 (.seq (.reg [.op ⟨some 18, none, .bin .eql (.t 16) (.k (.str [117, 112]))⟩,
 .op ⟨some 17, none, .mv (.t 18)⟩])
 (.ite (.t 17) (.seq (.reg [.op ⟨some 19, none, .mv (.t 0)⟩,
 .op ⟨some 20, none, .mv (.t 0)⟩,
 .op ⟨some 21, none, .nilchk (.t 20)⟩,
 .op ⟨some 22, none, .fa 0 (.t 21)⟩,
 .op ⟨some 23, none, .load false 1 (.t 22)⟩,
 .op ⟨some 24, none, .mv (.t 7)⟩,
 .op ⟨some 25, none, .ia (.sl 1) (.t 24) (.k (I 0))⟩,
 .op ⟨some 26, none, .load false 1 (.t 25)⟩,
 .op ⟨some 27, none, .mv (.t 7)⟩,
 .op ⟨some 28, none, .slc (.sl 1) (.t 27) (some (.k (I 1))) none none⟩,
 .op ⟨some 29, none, .call 37 [(.t 28)]⟩,
 .chk ⟨some 26, none, .load false 1 (.t 25)⟩,
 .chk ⟨some 23, none, .load false 1 (.t 22)⟩,
 .op ⟨some 30, none, .build [(.str []), .nils] [(0, 1, (.t 26)), (1, 1, (.t 29))]⟩,
 .op ⟨some 31, none, .bslice 2 1 [(.str []), .nils] [(0, 2, (.t 30))]⟩,
 .chk ⟨some 23, none, .load false 1 (.t 22)⟩,
 .op ⟨some 32, none, .app 2 40 (.t 23) (.t 31)⟩,
 .op ⟨some 33, none, .nilchk (.t 19)⟩,
 .op ⟨some 34, none, .fa 0 (.t 33)⟩,
 .op ⟨none, none, .store 1 (.t 34) (.t 32)⟩])
 (.seq (.reg [.op ⟨some 6, none, .mv (.k (.bool true))⟩])
 .ret))
 (.seq (.reg [.op ⟨some 36, none, .bin .eql (.t 16) (.k (.str [114, 111, 117, 116, 101]))⟩,
 .op ⟨some 35, none, .mv (.t 36)⟩])
 (.ite (.t 35) (.seq (.seq (.reg [.op ⟨some 37, none, .mv (.t 7)⟩,
 .op ⟨some 38, none, .len .sl (.t 37)⟩,
 .op ⟨some 39, none, .bin .neq (.t 38) (.k (I 3))⟩])
 (.ite (.t 39) (.seq (.reg [.op ⟨some 6, none, .mv (.k (.bool false))⟩])
 .ret)
 .skip))
 (.seq (.reg [.op ⟨some 40, none, .mv (.t 0)⟩,
 .op ⟨some 41, none, .mv (.t 0)⟩,
 .op ⟨some 42, none, .nilchk (.t 41)⟩,
 .op ⟨some 43, none, .fa 1 (.t 42)⟩,
 .op ⟨some 44, none, .load false 1 (.t 43)⟩,
 .op ⟨some 45, none, .mv (.t 7)⟩,
 .op ⟨some 46, none, .ia (.sl 1) (.t 45) (.k (I 0))⟩,
 .op ⟨some 47, none, .load false 1 (.t 46)⟩,
 .op ⟨some 48, none, .mv (.t 7)⟩,
 .op ⟨some 49, none, .ia (.sl 1) (.t 48) (.k (I 1))⟩,
 .op ⟨some 50, none, .load false 1 (.t 49)⟩,
 .op ⟨some 51, none, .mv (.t 7)⟩,
 .op ⟨some 52, none, .ia (.sl 1) (.t 51) (.k (I 2))⟩,
 .op ⟨some 53, none, .load false 1 (.t 52)⟩,
 .op ⟨some 54, none, .build [(.str []), (.str []), (.str [])] [(0, 1, (.t 47)), (1, 1, (.t 50)), (2, 1, (.t 53))]⟩,
 .op ⟨some 55, none, .bslice 3 1 [(.str []), (.str []), (.str [])] [(0, 3, (.t 54))]⟩,
 .chk ⟨some 44, none, .load false 1 (.t 43)⟩,
 .op ⟨some 56, none, .app 3 48 (.t 44) (.t 55)⟩,
 .op ⟨some 57, none, .nilchk (.t 40)⟩,
 .op ⟨some 58, none, .fa 1 (.t 57)⟩,
 .op ⟨none, none, .store 1 (.t 58) (.t 56)⟩])
 (.seq (.reg [.op ⟨some 6, none, .mv (.k (.bool true))⟩])
 .ret)))
 (.seq (.reg [.op ⟨some 60, none, .bin .eql (.t 16) (.k (.str [115, 101, 116]))⟩,
 .op ⟨some 59, none, .mv (.t 60)⟩])
 (.ite (.t 59) (.seq (.reg [.op ⟨some 62, none, .mv (.t 2)⟩,
 .op ⟨some 63, none, .call 24 [(.t 62), (.k (.str [32]))]⟩,
 .op ⟨some 61, none, .mv (.t 63)⟩,
 .op ⟨some 64, none, .ext 0 (.t 61)⟩,
 .op ⟨some 65, none, .ext 1 (.t 61)⟩,
 .op ⟨some 66, none, .ext 2 (.t 61)⟩,
 .op ⟨some 8, none, .mv (.t 64)⟩,
 .op ⟨some 9, none, .mv (.t 65)⟩,
 .op ⟨some 10, none, .mv (.t 66)⟩])
 (.seq (.reg [.op ⟨some 67, none, .mv (.t 0)⟩,
 .op ⟨some 68, none, .mv (.t 0)⟩,
 .op ⟨some 69, none, .nilchk (.t 68)⟩,
 .op ⟨some 70, none, .fa 2 (.t 69)⟩,
 .op ⟨some 71, none, .load false 1 (.t 70)⟩,
 .op ⟨some 72, none, .mv (.t 8)⟩,
 .op ⟨some 73, none, .mv (.t 9)⟩,
 .op ⟨some 74, none, .build [(.str []), (.str [])] [(0, 1, (.t 72)), (1, 1, (.t 73))]⟩,
 .op ⟨some 75, none, .bslice 2 1 [(.str []), (.str [])] [(0, 2, (.t 74))]⟩,
 .op ⟨some 76, none, .app 2 32 (.t 71) (.t 75)⟩,
 .op ⟨some 77, none, .nilchk (.t 67)⟩,
 .op ⟨some 78, none, .fa 2 (.t 77)⟩,
 .op ⟨none, none, .store 1 (.t 78) (.t 76)⟩])
 (.seq (.reg [.op ⟨some 79, none, .mv (.t 10)⟩,
 .op ⟨some 6, none, .mv (.t 79)⟩])
 .ret)))
 (.seq (.reg [.op ⟨some 81, none, .bin .eql (.t 16) (.k (.str [100, 114, 111, 112]))⟩,
 .op ⟨some 80, none, .mv (.t 81)⟩])
 (.ite (.t 80) (.seq (.reg [.op ⟨some 82, none, .mv (.t 0)⟩,
 .op ⟨some 83, none, .mv (.t 0)⟩,
 .op ⟨some 84, none, .nilchk (.t 83)⟩,
 .op ⟨some 85, none, .fa 3 (.t 84)⟩,
 .op ⟨some 86, none, .load false 1 (.t 85)⟩,
 .op ⟨some 87, none, .mv (.t 2)⟩,
 .op ⟨some 88, none, .bslice 1 1 [(.str [])] [(0, 1, (.t 87))]⟩,
 .op ⟨some 89, none, .app 1 16 (.t 86) (.t 88)⟩,
 .op ⟨some 90, none, .nilchk (.t 82)⟩,
 .op ⟨some 91, none, .fa 3 (.t 90)⟩,
 .op ⟨none, none, .store 1 (.t 91) (.t 89)⟩])
 (.seq (.reg [.op ⟨some 92, none, .mv (.t 7)⟩,
 .op ⟨some 93, none, .len .sl (.t 92)⟩,
 .op ⟨some 94, none, .bin .eql (.t 93) (.k (I 1))⟩,
 .op ⟨some 6, none, .mv (.t 94)⟩])
 .ret))
 .skip))))))))))
 (.seq (.reg [.op ⟨some 96, none, .mv (.t 2)⟩,
 .op ⟨some 97, none, .call 35 [(.t 96)]⟩,
 .op ⟨some 95, none, .mv (.t 97)⟩,
 .op ⟨some 98, none, .ext 0 (.t 95)⟩,
 .op ⟨some 99, none, .ext 1 (.t 95)⟩,
 .op ⟨some 11, none, .mv (.t 98)⟩,
 .op ⟨some 12, none, .mv (.t 99)⟩])
 (.seq (.reg [.op ⟨some 100, none, .mkm⟩,
 .op ⟨some 101, none, .mv (.t 0)⟩,
 .op ⟨some 102, none, .nilchk (.t 101)⟩,
 .op ⟨some 103, none, .fa 4 (.t 102)⟩,
 .op ⟨some 104, none, .mv (.t 0)⟩,
 .op ⟨some 105, none, .nilchk (.t 104)⟩,
 .op ⟨some 106, none, .fa 5 (.t 105)⟩,
 .op ⟨some 107, none, .mv (.t 0)⟩,
 .op ⟨some 108, none, .nilchk (.t 107)⟩,
 .op ⟨some 109, none, .fa 6 (.t 108)⟩,
 .op ⟨some 110, none, .mv (.t 0)⟩,
 .op ⟨some 111, none, .nilchk (.t 110)⟩,
 .op ⟨some 112, none, .fa 7 (.t 111)⟩,
 .op ⟨some 113, none, .mv (.t 100)⟩,
 .op ⟨some 13, none, .mv (.t 113)⟩,
 .op ⟨none, none, .mset true (.t 100) (.k (.str [116, 111, 116, 97, 108])) (.t 103)⟩,
 .op ⟨none, none, .mset true (.t 100) (.k (.str [116, 114, 105, 101, 115])) (.t 106)⟩,
 .op ⟨none, none, .mset true (.t 100) (.k (.str [102, 97, 105, 108, 115])) (.t 109)⟩,
 .op ⟨none, none, .mset true (.t 100) (.k (.str [99, 111, 111, 108])) (.t 112)⟩])
 (.seq (.reg [.op ⟨some 114, none, .mv (.t 13)⟩,
 .op ⟨some 115, none, .mv (.t 1)⟩,
 .op ⟨some 116, none, .look true .nilp false (.t 114) (.t 115)⟩,
 .op ⟨some 117, none, .mv (.t 11)⟩,
 .op ⟨some 118, none, .nilchk (.t 116)⟩,
 .op ⟨none, none, .store 1 (.t 118) (.t 117)⟩])
 (.seq (.reg [.op ⟨some 119, none, .mv (.t 12)⟩,
 .op ⟨some 120, none, .mv (.t 119)⟩,
 .op ⟨some 121, some (120, true), .mv (.t 11)⟩,
 .op ⟨some 122, some (120, true), .call 36 [(.t 121)]⟩,
 .op ⟨some 123, some (120, true), .mv (.t 2)⟩,
 .op ⟨some 124, some (120, true), .bin .eql (.t 122) (.t 123)⟩,
 .op ⟨some 125, none, .pick (.t 120) (.t 124) (.k (.bool false))⟩,
 .op ⟨some 6, none, .mv (.t 125)⟩])
 .ret)))))))⟩
theorem g189 : Good 189 c189 := ⟨_, Tryz.func189, by kernel_rfl⟩

def c190 : AFunc := ⟨[.t 2], (.seq (.reg [.op ⟨some 1, none, .box 8 (.t 0)⟩,
 .op ⟨some 2, none, .mv (.k (I 0))⟩])
 (.seq (.reg [.op ⟨some 10, none, .mkm⟩,
 .op ⟨some 11, none, .mkm⟩,
 .op ⟨some 3, none, .mv (.t 10)⟩,
 .op ⟨some 4, none, .mv (.t 11)⟩])
 (.seq (.seq (.reg [.op ⟨some 12, none, .fa 0 (.t 1)⟩,
 .op ⟨some 13, none, .load false 1 (.t 12)⟩,
 .op ⟨some 14, none, .len .sl (.t 13)⟩,
 .op ⟨some 15, none, .mv (.k (I 0))⟩])
 (.block 0 (.loop (.seq (.reg [.op ⟨some 16, none, .bin .lss (.t 15) (.t 14)⟩])
 (.seq (.ite (.t 16) .skip
 (.exit 0))
 (.seq (.block 1 (.seq (.reg [.op ⟨some 17, none, .ia (.sl 2) (.t 13) (.t 15)⟩,
 .op ⟨some 18, none, .load true 2 (.t 17)⟩,
 .op ⟨some 6, none, .alloc [(.str []), .nils]⟩,
 .op ⟨none, none, .store 2 (.t 6) (.t 18)⟩])
 (.reg [.op ⟨some 19, none, .mv (.t 3)⟩,
 .op ⟨some 20, none, .fa 0 (.t 6)⟩,
 .op ⟨some 21, none, .load false 1 (.t 20)⟩,
 .op ⟨none, none, .mset true (.t 19) (.t 21) (.k (.bool true))⟩])))
 (.reg [.op ⟨some 22, none, .bin .add (.t 15) (.k (I 1))⟩,
 .op ⟨some 15, none, .mv (.t 22)⟩])))))))
 (.seq (.reg [.op ⟨some 7, none, .mv (.k (.bool false))⟩])
 (.seq (.seq (.reg [.op ⟨some 23, none, .fa 1 (.t 1)⟩,
 .op ⟨some 24, none, .load false 1 (.t 23)⟩,
 .op ⟨some 25, none, .len .sl (.t 24)⟩,
 .op ⟨some 26, none, .mv (.k (I 0))⟩])
 (.block 2 (.loop (.seq (.reg [.op ⟨some 27, none, .bin .lss (.t 26) (.t 25)⟩])
 (.seq (.ite (.t 27) .skip
 (.exit 2))
 (.seq (.block 3 (.seq (.reg [.op ⟨some 28, none, .ia (.sl 3) (.t 24) (.t 26)⟩,
 .op ⟨some 29, none, .load true 3 (.t 28)⟩,
 .op ⟨some 9, none, .alloc [(.str []), (.str []), (.str [])]⟩,
 .op ⟨none, none, .store 3 (.t 9) (.t 29)⟩])
 (.seq (.reg [.op ⟨some 30, none, .mv (.t 4)⟩,
 .op ⟨some 31, none, .fa 0 (.t 9)⟩,
 .op ⟨some 32, none, .load false 1 (.t 31)⟩,
 .op ⟨none, none, .mset true (.t 30) (.t 32) (.k (.bool true))⟩])
 (.reg [.op ⟨some 33, none, .mv (.t 7)⟩,
 .op ⟨some 34, none, .mv (.t 33)⟩,
 .op ⟨some 35, some (34, false), .mv (.t 3)⟩,
 .op ⟨some 36, some (34, false), .fa 1 (.t 9)⟩,
 .op ⟨some 37, some (34, false), .load false 1 (.t 36)⟩,
 .op ⟨some 38, some (34, false), .look true (.bool false) false (.t 35) (.t 37)⟩,
 .op ⟨some 39, some (34, false), .un .not (.t 38)⟩,
 .op ⟨some 40, none, .pick (.t 34) (.k (.bool true)) (.t 39)⟩,
 .op ⟨some 7, none, .mv (.t 40)⟩]))))
 (.reg [.op ⟨some 41, none, .bin .add (.t 26) (.k (I 1))⟩,
 .op ⟨some 26, none, .mv (.t 41)⟩])))))))
 (.seq (.block 4 (.seq (.reg [.op ⟨some 43, none, .load true 8 (.t 1)⟩,
 .op ⟨some 44, none, .call 249 [(.t 43)]⟩,
 .op ⟨some 42, none, .mv (.t 44)⟩])
 (.ite (.t 42) (.seq (.reg [.op ⟨some 2, none, .mv (.k (I 3))⟩])
 .ret)
 (.seq (.reg [.op ⟨some 46, none, .load true 8 (.t 1)⟩,
 .op ⟨some 47, none, .call 250 [(.t 46)]⟩,
 .op ⟨some 48, none, .un .not (.t 47)⟩,
 .op ⟨some 45, none, .mv (.t 48)⟩])
 (.ite (.t 45) (.seq (.reg [.op ⟨some 2, none, .mv (.k (I 1))⟩])
 .ret)
 (.seq (.reg [.op ⟨some 50, none, .mv (.t 3)⟩,
 .op ⟨some 51, none, .len .mp (.t 50)⟩,
 .op ⟨some 52, none, .fa 0 (.t 1)⟩,
 .op ⟨some 53, none, .load false 1 (.t 52)⟩,
 .op ⟨some 54, none, .len .sl (.t 53)⟩,
 .op ⟨some 55, none, .bin .lss (.t 51) (.t 54)⟩,
 .op ⟨some 56, none, .mv (.t 55)⟩,
 .op ⟨some 57, some (56, false), .mv (.t 4)⟩,
 .op ⟨some 58, some (56, false), .len .mp (.t 57)⟩,
 .op ⟨some 59, some (56, false), .fa 1 (.t 1)⟩,
 .op ⟨some 60, some (56, false), .load false 1 (.t 59)⟩,
 .op ⟨some 61, some (56, false), .len .sl (.t 60)⟩,
 .op ⟨some 62, some (56, false), .bin .lss (.t 58) (.t 61)⟩,
 .op ⟨some 63, none, .pick (.t 56) (.k (.bool true)) (.t 62)⟩,
 .op ⟨some 49, none, .mv (.t 63)⟩])
 (.ite (.t 49) (.seq (.reg [.op ⟨some 2, none, .mv (.k (I 72))⟩])
 .ret)
 (.seq (.reg [.op ⟨some 65, none, .mv (.t 7)⟩,
 .op ⟨some 64, none, .mv (.t 65)⟩])
 (.ite (.t 64) (.seq (.reg [.op ⟨some 2, none, .mv (.k (I 71))⟩])
 .ret)
 .skip)))))))))
 (.seq (.reg [.op ⟨some 2, none, .mv (.k (I 0))⟩])
 .ret)))))))⟩
theorem g190 : Good 190 c190 := ⟨_, Tryz.func190, by kernel_rfl⟩

def c195 : AFunc := ⟨[.t 2], (.seq (.reg [.op ⟨some 2, none, .mv (.k .nils)⟩])
 (.seq (.reg [.op ⟨some 4, none, .mv (.t 0)⟩,
 .op ⟨some 5, none, .call 255 [(.t 4)]⟩,
 .op ⟨some 3, none, .mv (.t 5)⟩])
 (.seq (.reg [.op ⟨some 6, none, .mv (.t 3)⟩,
 .op ⟨some 7, none, .call 256 [(.t 6), (.k (.fn 257 [] []))]⟩])
 (.seq (.reg [.op ⟨some 8, none, .mv (.t 3)⟩,
 .op ⟨some 9, none, .call 259 [(.t 8), (.k (.fn 260 [] []))]⟩,
 .op ⟨some 3, none, .mv (.t 9)⟩])
 (.seq (.reg [.op ⟨some 10, none, .mv (.t 3)⟩,
 .op ⟨some 11, none, .call 261 [(.t 10), (.k (.fn 262 [] []))]⟩,
 .op ⟨some 2, none, .mv (.t 11)⟩])
 .ret)))))⟩
theorem g195 : Good 195 c195 := ⟨_, Tryz.func195, by kernel_rfl⟩

def c196 : AFunc := ⟨[.t 4], (.seq (.reg [.op ⟨some 2, none, .box 1 (.t 0)⟩,
 .op ⟨some 4, none, .mv (.k (I 0))⟩])
 (.seq (.reg [.op ⟨some 6, none, .mv (.t 1)⟩,
 .op ⟨some 7, none, .mkf 264 [] [(.t 2)]⟩,
 .op ⟨some 8, none, .call 263 [(.t 6), (.t 7)]⟩,
 .op ⟨some 5, none, .mv (.t 8)⟩])
 (.seq (.reg [.op ⟨some 9, none, .mv (.t 5)⟩,
 .op ⟨some 10, none, .mx (.t 9) (.k (I 0))⟩,
 .op ⟨some 4, none, .mv (.t 10)⟩])
 .ret)))⟩
theorem g196 : Good 196 c196 := ⟨_, Tryz.func196, by kernel_rfl⟩

def c197 : AFunc := ⟨[.t 6], (.seq (.reg [.op ⟨some 6, none, .mv (.k .nils)⟩])
 (.seq (.reg [.op ⟨some 8, none, .mv (.t 0)⟩,
 .op ⟨some 9, none, .mv (.t 1)⟩,
 .op ⟨some 10, none, .mv (.t 2)⟩,
 .op ⟨some 11, none, .mv (.t 0)⟩,
 .op ⟨some 12, none, .len .sl (.t 11)⟩,
 .op ⟨some 13, none, .slc (.sl 2) (.t 8) (some (.t 9)) (some (.t 10)) (some (.t 12))⟩])
 (.seq (.seq (.reg [.op ⟨some 14, none, .mv (.t 1)⟩,
 .op ⟨some 15, none, .mv (.t 2)⟩,
 .op ⟨some 16, none, .bin .eql (.t 14) (.t 15)⟩])
 (.ite (.t 16) (.seq (.reg [.op ⟨some 17, none, .mv (.t 0)⟩,
 .op ⟨some 6, none, .mv (.t 17)⟩])
 .ret)
 .skip))
 (.seq (.reg [.op ⟨some 18, none, .mv (.t 0)⟩,
 .op ⟨some 19, none, .len .sl (.t 18)⟩,
 .op ⟨some 7, none, .mv (.t 19)⟩])
 (.seq (.reg [.op ⟨some 20, none, .mv (.t 0)⟩,
 .op ⟨some 21, none, .mv (.t 1)⟩,
 .op ⟨some 22, none, .slc (.sl 2) (.t 20) none (some (.t 21)) none⟩,
 .op ⟨some 23, none, .mv (.t 0)⟩,
 .op ⟨some 24, none, .mv (.t 2)⟩,
 .op ⟨some 25, none, .slc (.sl 2) (.t 23) (some (.t 24)) none none⟩,
 .op ⟨some 26, none, .app 2 16 (.t 22) (.t 25)⟩,
 .op ⟨some 0, none, .mv (.t 26)⟩])
 (.seq (.reg [.op ⟨some 27, none, .mv (.t 0)⟩,
 .op ⟨some 28, none, .mv (.t 0)⟩,
 .op ⟨some 29, none, .len .sl (.t 28)⟩,
 .op ⟨some 30, none, .mv (.t 7)⟩,
 .op ⟨some 31, none, .slc (.sl 2) (.t 27) (some (.t 29)) (some (.t 30)) none⟩,
 .op ⟨none, none, .clr [(I 0), (I 0)] (.t 31)⟩])
 (.seq (.reg [.op ⟨some 32, none, .mv (.t 0)⟩,
 .op ⟨some 6, none, .mv (.t 32)⟩])
 .ret)))))))⟩
theorem g197 : Good 197 c197 := ⟨_, Tryz.func197, by kernel_rfl⟩

def c199 : AFunc := ⟨[.t 4, .t 5, .t 6], (.seq (.reg [.op ⟨some 4, none, .mv (.k .nils)⟩,
 .op ⟨some 5, none, .mv (.k (I 0))⟩,
 .op ⟨some 6, none, .mv (.k (I 0))⟩])
 (.seq (.reg [.op ⟨some 7, none, .mv (.k .nils)⟩])
 (.seq (.reg [.op ⟨some 16, none, .mv (.t 0)⟩,
 .op ⟨some 17, none, .mv (.t 0)⟩,
 .op ⟨some 18, none, .len .sl (.t 17)⟩,
 .op ⟨some 19, none, .mn (.t 18) (.k (I 2048))⟩,
 .op ⟨some 20, none, .slc (.sl 1) (.t 16) none (some (.t 19)) none⟩,
 .op ⟨some 8, none, .mv (.t 20)⟩])
 (.seq (.reg [.op ⟨some 9, none, .mv (.k (I 0))⟩,
 .op ⟨some 10, none, .mv (.k (I 0))⟩])
 (.block 0 (.loop (.seq (.block 1 (.seq (.reg [.op ⟨some 25, none, .mv (.t 8)⟩,
 .op ⟨some 26, none, .mv (.t 9)⟩,
 .op ⟨some 27, none, .slc (.sl 1) (.t 25) (some (.t 26)) none none⟩,
 .op ⟨some 28, none, .call 265 [(.t 27), (.k (I 2048))]⟩,
 .op ⟨some 24, none, .mv (.t 28)⟩,
 .op ⟨some 29, none, .ext 0 (.t 24)⟩,
 .op ⟨some 30, none, .ext 1 (.t 24)⟩,
 .op ⟨some 31, none, .ext 2 (.t 24)⟩,
 .op ⟨some 11, none, .mv (.t 29)⟩,
 .op ⟨some 12, none, .mv (.t 30)⟩,
 .op ⟨some 13, none, .mv (.t 31)⟩])
 (.seq (.reg [.op ⟨some 32, none, .mv (.t 12)⟩,
 .op ⟨some 10, none, .mv (.t 32)⟩])
 (.seq (.block 2 (.seq (.reg [.op ⟨some 34, none, .mv (.t 13)⟩,
 .op ⟨some 35, none, .bin .eql (.t 34) (.k (I 20))⟩,
 .op ⟨some 33, none, .mv (.t 35)⟩])
 (.ite (.t 33) (.seq (.reg [.op ⟨some 4, none, .mv (.k .nils)⟩,
 .op ⟨some 5, none, .mv (.k (I 0))⟩,
 .op ⟨some 6, none, .mv (.k (I 400))⟩])
 .ret)
 (.seq (.reg [.op ⟨some 37, none, .mv (.t 10)⟩,
 .op ⟨some 38, none, .bin .eql (.t 37) (.k (I 0))⟩,
 .op ⟨some 39, none, .mv (.t 38)⟩,
 .op ⟨some 40, some (39, true), .mv (.t 0)⟩,
 .op ⟨some 41, some (39, true), .len .sl (.t 40)⟩,
 .op ⟨some 42, some (39, true), .bin .geq (.t 41) (.k (I 2048))⟩,
 .op ⟨some 43, none, .pick (.t 39) (.t 42) (.k (.bool false))⟩,
 .op ⟨some 36, none, .mv (.t 43)⟩])
 (.ite (.t 36) (.seq (.reg [.op ⟨some 4, none, .mv (.k .nils)⟩,
 .op ⟨some 5, none, .mv (.k (I 0))⟩,
 .op ⟨some 6, none, .mv (.k (I 431))⟩])
 .ret)
 (.seq (.reg [.op ⟨some 45, none, .mv (.t 10)⟩,
 .op ⟨some 46, none, .bin .eql (.t 45) (.k (I 0))⟩,
 .op ⟨some 44, none, .mv (.t 46)⟩])
 (.ite (.t 44) (.seq (.reg [.op ⟨some 4, none, .mv (.k .nils)⟩,
 .op ⟨some 5, none, .mv (.k (I 0))⟩,
 .op ⟨some 6, none, .mv (.k (I 0))⟩])
 .ret)
 (.seq (.reg [.op ⟨some 48, none, .mv (.t 9)⟩,
 .op ⟨some 49, none, .bin .eql (.t 48) (.k (I 0))⟩,
 .op ⟨some 47, none, .mv (.t 49)⟩])
 (.ite (.t 47) (.seq (.seq (.reg [.op ⟨some 50, none, .mv (.t 1)⟩,
 .op ⟨some 51, none, .mv (.t 11)⟩,
 .op ⟨some 52, none, .callv (.t 50) [(.t 51)]⟩,
 .op ⟨some 14, none, .mv (.t 52)⟩])
 (.seq (.reg [.op ⟨some 53, none, .mv (.t 14)⟩,
 .op ⟨some 54, none, .bin .neq (.t 53) (.k (I 0))⟩])
 (.ite (.t 54) (.seq (.reg [.op ⟨some 55, none, .mv (.t 14)⟩,
 .op ⟨some 4, none, .mv (.k .nils)⟩,
 .op ⟨some 5, none, .mv (.k (I 0))⟩,
 .op ⟨some 6, none, .mv (.t 55)⟩])
 .ret)
 .skip)))
 (.exit 1))
 (.seq (.reg [.op ⟨some 57, none, .mv (.t 11)⟩,
 .op ⟨some 58, none, .bin .eql (.t 57) (.k (.str []))⟩,
 .op ⟨some 56, none, .mv (.t 58)⟩])
 (.ite (.t 56) (.seq (.reg [.op ⟨some 59, none, .mv (.t 7)⟩,
 .op ⟨some 60, none, .mv (.t 9)⟩,
 .op ⟨some 61, none, .mv (.t 10)⟩,
 .op ⟨some 62, none, .bin .add (.t 60) (.t 61)⟩,
 .op ⟨some 4, none, .mv (.t 59)⟩,
 .op ⟨some 5, none, .mv (.t 62)⟩,
 .op ⟨some 6, none, .mv (.k (I 0))⟩])
 .ret)
 .skip)))))))))))
 (.seq (.reg [.op ⟨some 64, none, .mv (.t 11)⟩,
 .op ⟨some 65, none, .call 266 [(.t 64)]⟩,
 .op ⟨some 63, none, .mv (.t 65)⟩,
 .op ⟨some 66, none, .ext 0 (.t 63)⟩,
 .op ⟨some 67, none, .ext 1 (.t 63)⟩,
 .op ⟨some 15, none, .alloc [(.str []), (.str [])]⟩,
 .op ⟨none, none, .store 2 (.t 15) (.t 66)⟩,
 .op ⟨some 13, none, .mv (.t 67)⟩])
 (.seq (.block 3 (.seq (.reg [.op ⟨some 69, none, .mv (.t 13)⟩,
 .op ⟨some 70, none, .bin .neq (.t 69) (.k (I 0))⟩,
 .op ⟨some 68, none, .mv (.t 70)⟩])
 (.ite (.t 68) (.seq (.reg [.op ⟨some 4, none, .mv (.k .nils)⟩,
 .op ⟨some 5, none, .mv (.k (I 0))⟩,
 .op ⟨some 6, none, .mv (.k (I 400))⟩])
 .ret)
 (.seq (.reg [.op ⟨some 72, none, .mv (.t 7)⟩,
 .op ⟨some 73, none, .len .sl (.t 72)⟩,
 .op ⟨some 74, none, .bin .eql (.t 73) (.k (I 40))⟩,
 .op ⟨some 71, none, .mv (.t 74)⟩])
 (.ite (.t 71) (.seq (.reg [.op ⟨some 4, none, .mv (.k .nils)⟩,
 .op ⟨some 5, none, .mv (.k (I 0))⟩,
 .op ⟨some 6, none, .mv (.k (I 431))⟩])
 .ret)
 .skip)))))
 (.reg [.op ⟨some 75, none, .mv (.t 7)⟩,
 .op ⟨some 76, none, .load true 2 (.t 15)⟩,
 .op ⟨some 77, none, .bslice 2 1 [(.str []), (.str [])] [(0, 2, (.t 76))]⟩,
 .op ⟨some 78, none, .app 2 32 (.t 75) (.t 77)⟩,
 .op ⟨some 7, none, .mv (.t 78)⟩])))))))
 (.reg [.op ⟨some 21, none, .mv (.t 9)⟩,
 .op ⟨some 22, none, .mv (.t 10)⟩,
 .op ⟨some 23, none, .bin .add (.t 21) (.t 22)⟩,
 .op ⟨some 9, none, .mv (.t 23)⟩]))))))))⟩
theorem g199 : Good 199 c199 := ⟨_, Tryz.func199, by kernel_rfl⟩

def c200 : AFunc := ⟨[.t 3], (.seq (.reg [.op ⟨some 3, none, .mv (.k (I 0))⟩])
 (.seq (.reg [.op ⟨some 7, none, .mv (.t 0)⟩,
 .op ⟨some 8, none, .call 201 [(.t 7)]⟩,
 .op ⟨some 6, none, .mv (.t 8)⟩,
 .op ⟨some 9, none, .ext 0 (.t 6)⟩,
 .op ⟨some 10, none, .ext 1 (.t 6)⟩,
 .op ⟨some 4, none, .alloc [(.str []), (.str []), (I 0), .nils, .nils]⟩,
 .op ⟨none, none, .store 5 (.t 4) (.t 9)⟩,
 .op ⟨some 5, none, .mv (.t 10)⟩])
 (.seq (.reg [.op ⟨some 11, none, .fa 0 (.t 4)⟩,
 .op ⟨some 12, none, .load false 1 (.t 11)⟩,
 .op ⟨some 13, none, .fa 1 (.t 4)⟩,
 .op ⟨some 14, none, .load false 1 (.t 13)⟩,
 .op ⟨some 15, none, .fa 2 (.t 4)⟩,
 .op ⟨some 16, none, .load false 1 (.t 15)⟩,
 .op ⟨some 17, none, .fa 0 (.t 1)⟩,
 .op ⟨none, none, .store 1 (.t 17) (.t 12)⟩,
 .chk ⟨some 16, none, .load false 1 (.t 15)⟩,
 .chk ⟨some 14, none, .load false 1 (.t 13)⟩,
 .op ⟨some 18, none, .fa 1 (.t 1)⟩,
 .op ⟨none, none, .store 1 (.t 18) (.t 14)⟩,
 .chk ⟨some 16, none, .load false 1 (.t 15)⟩,
 .op ⟨some 19, none, .fa 2 (.t 1)⟩,
 .op ⟨none, none, .store 1 (.t 19) (.t 16)⟩])
 (.seq (.reg [.op ⟨some 20, none, .mv (.t 5)⟩,
 .op ⟨some 3, none, .mv (.t 20)⟩])
 .ret))))⟩
theorem g200 : Good 200 c200 := ⟨_, Tryz.func200, by kernel_rfl⟩

def c201 : AFunc := ⟨[.c 2 true 5, .t 3], (.seq (.reg [.op ⟨some 2, none, .alloc [(.str []), (.str []), (I 0), .nils, .nils]⟩,
 .op ⟨some 3, none, .mv (.k (I 0))⟩])
 (.seq (.reg [.op ⟨some 7, none, .mv (.t 0)⟩,
 .op ⟨some 8, none, .call 34 [(.t 7), (.k (.str [32]))]⟩,
 .op ⟨some 4, none, .mv (.t 8)⟩])
 (.seq (.seq (.reg [.op ⟨some 9, none, .mv (.t 4)⟩,
 .op ⟨some 10, none, .len .sl (.t 9)⟩,
 .op ⟨some 11, none, .bin .neq (.t 10) (.k (I 3))⟩,
 .op ⟨some 12, none, .mv (.t 11)⟩,
 .op ⟨some 13, some (12, false), .mv (.t 4)⟩,
 .op ⟨some 14, some (12, false), .ia (.sl 1) (.t 13) (.k (I 0))⟩,
 .op ⟨some 15, some (12, false), .load false 1 (.t 14)⟩,
 .op ⟨some 16, some (12, false), .len .str (.t 15)⟩,
 .op ⟨some 17, some (12, false), .bin .gtr (.t 16) (.k (I 20))⟩,
 .op ⟨some 18, none, .pick (.t 12) (.k (.bool true)) (.t 17)⟩,
 .op ⟨some 19, none, .mv (.t 18)⟩,
 .op ⟨some 20, some (19, false), .mv (.t 4)⟩,
 .op ⟨some 21, some (19, false), .ia (.sl 1) (.t 20) (.k (I 0))⟩,
 .op ⟨some 22, some (19, false), .load false 1 (.t 21)⟩,
 .op ⟨some 23, some (19, false), .call 86 [(.t 22)]⟩,
 .op ⟨some 24, some (19, false), .un .not (.t 23)⟩,
 .op ⟨some 25, none, .pick (.t 19) (.k (.bool true)) (.t 24)⟩,
 .op ⟨some 26, none, .mv (.t 25)⟩,
 .op ⟨some 27, some (26, false), .mv (.t 4)⟩,
 .op ⟨some 28, some (26, false), .ia (.sl 1) (.t 27) (.k (I 0))⟩,
 .op ⟨some 29, some (26, false), .load false 1 (.t 28)⟩,
 .op ⟨some 30, some (26, false), .mv (.t 4)⟩,
 .op ⟨some 31, some (26, false), .ia (.sl 1) (.t 30) (.k (I 1))⟩,
 .op ⟨some 32, some (26, false), .load false 1 (.t 31)⟩,
 .op ⟨some 33, some (26, false), .call 267 [(.t 29), (.t 32)]⟩,
 .op ⟨some 34, some (26, false), .un .not (.t 33)⟩,
 .op ⟨some 35, none, .pick (.t 26) (.k (.bool true)) (.t 34)⟩])
 (.ite (.t 35) (.seq (.reg [.op ⟨some 36, none, .build [(.str []), (.str []), (I 0), .nils, .nils] []⟩,
 .op ⟨none, none, .store 5 (.t 2) (.t 36)⟩,
 .op ⟨some 3, none, .mv (.k (I 400))⟩])
 .ret)
 .skip))
 (.seq (.reg [.op ⟨some 38, none, .mv (.t 4)⟩,
 .op ⟨some 39, none, .ia (.sl 1) (.t 38) (.k (I 2))⟩,
 .op ⟨some 40, none, .load false 1 (.t 39)⟩,
 .op ⟨some 41, none, .call 268 [(.t 40)]⟩,
 .op ⟨some 37, none, .mv (.t 41)⟩,
 .op ⟨some 42, none, .ext 0 (.t 37)⟩,
 .op ⟨some 43, none, .ext 1 (.t 37)⟩,
 .op ⟨some 5, none, .mv (.t 42)⟩,
 .op ⟨some 6, none, .mv (.t 43)⟩])
 (.seq (.block 0 (.seq (.reg [.op ⟨some 45, none, .mv (.t 4)⟩,
 .op ⟨some 46, none, .ia (.sl 1) (.t 45) (.k (I 1))⟩,
 .op ⟨some 47, none, .load false 1 (.t 46)⟩,
 .op ⟨some 48, none, .len .str (.t 47)⟩,
 .op ⟨some 49, none, .bin .gtr (.t 48) (.k (I 512))⟩,
 .op ⟨some 44, none, .mv (.t 49)⟩])
 (.ite (.t 44) (.seq (.reg [.op ⟨some 50, none, .build [(.str []), (.str []), (I 0), .nils, .nils] []⟩,
 .op ⟨none, none, .store 5 (.t 2) (.t 50)⟩,
 .op ⟨some 3, none, .mv (.k (I 414))⟩])
 .ret)
 (.seq (.reg [.op ⟨some 52, none, .mv (.t 4)⟩,
 .op ⟨some 53, none, .ia (.sl 1) (.t 52) (.k (I 2))⟩,
 .op ⟨some 54, none, .load false 1 (.t 53)⟩,
 .op ⟨some 55, none, .call 269 [(.t 54)]⟩,
 .op ⟨some 56, none, .un .not (.t 55)⟩,
 .op ⟨some 51, none, .mv (.t 56)⟩])
 (.ite (.t 51) (.seq (.reg [.op ⟨some 57, none, .build [(.str []), (.str []), (I 0), .nils, .nils] []⟩,
 .op ⟨none, none, .store 5 (.t 2) (.t 57)⟩,
 .op ⟨some 3, none, .mv (.k (I 400))⟩])
 .ret)
 (.seq (.reg [.op ⟨some 59, none, .mv (.t 6)⟩,
 .op ⟨some 60, none, .un .not (.t 59)⟩,
 .op ⟨some 58, none, .mv (.t 60)⟩])
 (.ite (.t 58) (.seq (.reg [.op ⟨some 61, none, .build [(.str []), (.str []), (I 0), .nils, .nils] []⟩,
 .op ⟨none, none, .store 5 (.t 2) (.t 61)⟩,
 .op ⟨some 3, none, .mv (.k (I 505))⟩])
 .ret)
 .skip)))))))
 (.seq (.reg [.op ⟨some 62, none, .mv (.t 4)⟩,
 .op ⟨some 63, none, .ia (.sl 1) (.t 62) (.k (I 0))⟩,
 .op ⟨some 64, none, .load false 1 (.t 63)⟩,
 .op ⟨some 65, none, .mv (.t 4)⟩,
 .op ⟨some 66, none, .ia (.sl 1) (.t 65) (.k (I 1))⟩,
 .op ⟨some 67, none, .load false 1 (.t 66)⟩,
 .op ⟨some 68, none, .mv (.t 5)⟩,
 .op ⟨some 69, none, .build [(.str []), (.str []), (I 0), .nils, .nils] [(0, 1, (.t 64)), (1, 1, (.t 67)), (2, 1, (.t 68))]⟩,
 .op ⟨none, none, .store 5 (.t 2) (.t 69)⟩,
 .op ⟨some 3, none, .mv (.k (I 0))⟩])
 .ret))))))⟩
theorem g201 : Good 201 c201 := ⟨_, Tryz.func201, by kernel_rfl⟩

end Go.Proofs.Tryz
