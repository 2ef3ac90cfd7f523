/- The code that the statement reaches, as the evaluator takes it, part 1. -/
import Derived.Test.YtdbihpcdlmaejaaGreatDoorPre
set_option maxRecDepth 1000000
set_option maxHeartbeats 4000000
namespace Go.Proofs.Tryz
open Go Go.Ai Go.Proofs

def c29 : AFunc := ⟨[.c 2 true 9, .t 3], (.seq (.reg [.op ⟨some 2, none, .alloc [(I 0), (I 0), (I 0), (I 0), (.str []), (.str []), (I 0), (I 0), (I 0)]⟩,
 .op ⟨some 3, none, .mv (.k (I 0))⟩])
 (.seq (.reg [.op ⟨some 14, none, .mv (.t 0)⟩,
 .op ⟨some 15, none, .bslice 1 1 [(.int .u8 (0))] [(0, 1, (.k (.int .u8 (10))))]⟩,
 .op ⟨some 16, none, .conv .bs (.t 15)⟩,
 .op ⟨some 17, none, .call 52 [(.t 14), (.t 16)]⟩,
 .op ⟨some 13, none, .mv (.t 17)⟩,
 .op ⟨some 18, none, .ext 0 (.t 13)⟩,
 .op ⟨some 19, none, .ext 1 (.t 13)⟩,
 .op ⟨some 4, none, .mv (.t 18)⟩,
 .op ⟨some 5, none, .mv (.t 19)⟩])
 (.seq (.reg [.op ⟨some 20, none, .mv (.t 4)⟩,
 .op ⟨some 21, none, .conv .b2s (.t 20)⟩,
 .op ⟨some 22, none, .call 34 [(.t 21), (.k (.str [32]))]⟩,
 .op ⟨some 6, none, .mv (.t 22)⟩])
 (.seq (.seq (.reg [.op ⟨some 23, none, .mv (.t 5)⟩,
 .op ⟨some 24, none, .un .not (.t 23)⟩,
 .op ⟨some 25, none, .mv (.t 24)⟩,
 .op ⟨some 26, some (25, false), .mv (.t 6)⟩,
 .op ⟨some 27, some (25, false), .len .sl (.t 26)⟩,
 .op ⟨some 28, some (25, false), .bin .neq (.t 27) (.k (I 9))⟩,
 .op ⟨some 29, none, .pick (.t 25) (.k (.bool true)) (.t 28)⟩])
 (.ite (.t 29) (.seq (.reg [.op ⟨some 30, none, .build [(I 0), (I 0), (I 0), (I 0), (.str []), (.str []), (I 0), (I 0), (I 0)] []⟩,
 .op ⟨none, none, .store 9 (.t 2) (.t 30)⟩,
 .op ⟨some 3, none, .mv (.k (I 20))⟩])
 .ret)
 .skip))
 (.seq (.reg [.op ⟨some 7, none, .mv (.k .nils)⟩])
 (.seq (.seq (.reg [.op ⟨some 31, none, .mv (.t 6)⟩,
 .op ⟨some 32, none, .len .sl (.t 31)⟩,
 .op ⟨some 33, none, .mv (.k (I 0))⟩])
 (.block 0 (.loop (.seq (.reg [.op ⟨some 34, none, .bin .lss (.t 33) (.t 32)⟩])
 (.seq (.ite (.t 34) .skip
 (.exit 0))
 (.seq (.block 1 (.seq (.reg [.op ⟨some 35, none, .mv (.t 33)⟩,
 .op ⟨some 36, none, .ia (.sl 1) (.t 31) (.t 33)⟩,
 .op ⟨some 37, none, .load false 1 (.t 36)⟩,
 .op ⟨some 8, none, .mv (.t 35)⟩,
 .op ⟨some 9, none, .mv (.t 37)⟩])
 (.seq (.seq (.reg [.op ⟨some 38, none, .mv (.t 8)⟩,
 .op ⟨some 39, none, .bin .eql (.t 38) (.k (I 4))⟩,
 .op ⟨some 40, none, .mv (.t 39)⟩,
 .op ⟨some 41, some (40, false), .mv (.t 8)⟩,
 .op ⟨some 42, some (40, false), .bin .eql (.t 41) (.k (I 5))⟩,
 .op ⟨some 43, none, .pick (.t 40) (.k (.bool true)) (.t 42)⟩])
 (.ite (.t 43) (.exit 1)
 .skip))
 (.seq (.reg [.op ⟨some 45, none, .mv (.t 9)⟩,
 .op ⟨some 46, none, .call 35 [(.t 45)]⟩,
 .op ⟨some 44, none, .mv (.t 46)⟩,
 .op ⟨some 47, none, .ext 0 (.t 44)⟩,
 .op ⟨some 48, none, .ext 1 (.t 44)⟩,
 .op ⟨some 10, none, .mv (.t 47)⟩,
 .op ⟨some 11, none, .mv (.t 48)⟩])
 (.seq (.seq (.reg [.op ⟨some 49, none, .mv (.t 11)⟩,
 .op ⟨some 50, none, .un .not (.t 49)⟩,
 .op ⟨some 51, none, .mv (.t 50)⟩,
 .op ⟨some 52, some (51, false), .mv (.t 10)⟩,
 .op ⟨some 53, some (51, false), .call 36 [(.t 52)]⟩,
 .op ⟨some 54, some (51, false), .mv (.t 9)⟩,
 .op ⟨some 55, some (51, false), .bin .neq (.t 53) (.t 54)⟩,
 .op ⟨some 56, none, .pick (.t 51) (.k (.bool true)) (.t 55)⟩])
 (.ite (.t 56) (.seq (.reg [.op ⟨some 57, none, .build [(I 0), (I 0), (I 0), (I 0), (.str []), (.str []), (I 0), (I 0), (I 0)] []⟩,
 .op ⟨none, none, .store 9 (.t 2) (.t 57)⟩,
 .op ⟨some 3, none, .mv (.k (I 20))⟩])
 .ret)
 .skip))
 (.reg [.op ⟨some 58, none, .mv (.t 7)⟩,
 .op ⟨some 59, none, .mv (.t 10)⟩,
 .op ⟨some 60, none, .bslice 1 1 [(I 0)] [(0, 1, (.t 59))]⟩,
 .op ⟨some 61, none, .app 1 8 (.t 58) (.t 60)⟩,
 .op ⟨some 7, none, .mv (.t 61)⟩]))))))
 (.reg [.op ⟨some 62, none, .bin .add (.t 33) (.k (I 1))⟩,
 .op ⟨some 33, none, .mv (.t 62)⟩])))))))
 (.seq (.reg [.op ⟨some 63, none, .mv (.t 7)⟩,
 .op ⟨some 64, none, .ia (.sl 1) (.t 63) (.k (I 0))⟩,
 .op ⟨some 65, none, .load false 1 (.t 64)⟩,
 .op ⟨some 66, none, .mv (.t 7)⟩,
 .op ⟨some 67, none, .ia (.sl 1) (.t 66) (.k (I 1))⟩,
 .op ⟨some 68, none, .load false 1 (.t 67)⟩,
 .op ⟨some 69, none, .mv (.t 7)⟩,
 .op ⟨some 70, none, .ia (.sl 1) (.t 69) (.k (I 2))⟩,
 .op ⟨some 71, none, .load false 1 (.t 70)⟩,
 .op ⟨some 72, none, .mv (.t 7)⟩,
 .op ⟨some 73, none, .ia (.sl 1) (.t 72) (.k (I 3))⟩,
 .op ⟨some 74, none, .load false 1 (.t 73)⟩,
 .op ⟨some 75, none, .mv (.t 6)⟩,
 .op ⟨some 76, none, .ia (.sl 1) (.t 75) (.k (I 4))⟩,
 .op ⟨some 77, none, .load false 1 (.t 76)⟩,
 .op ⟨some 78, none, .mv (.t 6)⟩,
 .op ⟨some 79, none, .ia (.sl 1) (.t 78) (.k (I 5))⟩,
 .op ⟨some 80, none, .load false 1 (.t 79)⟩,
 .op ⟨some 81, none, .mv (.t 7)⟩,
 .op ⟨some 82, none, .ia (.sl 1) (.t 81) (.k (I 4))⟩,
 .op ⟨some 83, none, .load false 1 (.t 82)⟩,
 .op ⟨some 84, none, .mv (.t 7)⟩,
 .op ⟨some 85, none, .ia (.sl 1) (.t 84) (.k (I 5))⟩,
 .op ⟨some 86, none, .load false 1 (.t 85)⟩,
 .op ⟨some 87, none, .mv (.t 7)⟩,
 .op ⟨some 88, none, .ia (.sl 1) (.t 87) (.k (I 6))⟩,
 .op ⟨some 89, none, .load false 1 (.t 88)⟩,
 .op ⟨some 90, none, .build [(I 0), (I 0), (I 0), (I 0), (.str []), (.str []), (I 0), (I 0), (I 0)] [(0, 1, (.t 65)), (1, 1, (.t 68)), (2, 1, (.t 71)), (3, 1, (.t 74)), (4, 1, (.t 77)), (5, 1, (.t 80)), (6, 1, (.t 83)), (7, 1, (.t 86)), (8, 1, (.t 89))]⟩,
 .op ⟨some 12, none, .alloc [(I 0), (I 0), (I 0), (I 0), (.str []), (.str []), (I 0), (I 0), (I 0)]⟩,
 .op ⟨none, none, .store 9 (.t 12) (.t 90)⟩])
 (.seq (.seq (.reg [.op ⟨some 91, none, .load true 9 (.t 12)⟩,
 .op ⟨some 92, none, .call 53 [(.t 91)]⟩,
 .op ⟨some 93, none, .un .not (.t 92)⟩])
 (.ite (.t 93) (.seq (.reg [.op ⟨some 94, none, .build [(I 0), (I 0), (I 0), (I 0), (.str []), (.str []), (I 0), (I 0), (I 0)] []⟩,
 .op ⟨none, none, .store 9 (.t 2) (.t 94)⟩,
 .op ⟨some 3, none, .mv (.k (I 20))⟩])
 .ret)
 .skip))
 (.seq (.reg [.op ⟨some 95, none, .load true 9 (.t 12)⟩,
 .op ⟨none, none, .store 9 (.t 2) (.t 95)⟩,
 .op ⟨some 3, none, .mv (.k (I 0))⟩])
 .ret)))))))))⟩
theorem g29 : Good 29 c29 := ⟨_, Tryz.func29, by kernel_rfl⟩

def c30 : AFunc := ⟨[.t 4], (.seq (.reg [.op ⟨some 4, none, .mv (.k (.bool false))⟩])
 (.seq (.reg [.op ⟨some 5, none, .mv (.t 0)⟩,
 .op ⟨some 6, none, .nilchk (.t 5)⟩,
 .op ⟨some 7, none, .fa 0 (.t 6)⟩,
 .op ⟨some 8, none, .load false 1 (.t 7)⟩,
 .op ⟨some 9, none, .mv (.t 1)⟩,
 .op ⟨some 10, none, .call 54 [(.t 8), (.t 9)]⟩,
 .op ⟨some 11, none, .bin .geq (.t 10) (.k (I 0))⟩,
 .op ⟨some 12, none, .mv (.t 11)⟩,
 .op ⟨some 13, some (12, false), .mv (.t 0)⟩,
 .op ⟨some 14, some (12, false), .nilchk (.t 13)⟩,
 .op ⟨some 15, some (12, false), .fa 0 (.t 14)⟩,
 .op ⟨some 16, some (12, false), .load false 1 (.t 15)⟩,
 .op ⟨some 17, some (12, false), .mv (.t 1)⟩,
 .op ⟨some 18, some (12, false), .call 15 [(.t 16), (.t 17)]⟩,
 .op ⟨some 19, some (12, false), .bin .neq (.t 18) (.k (.str []))⟩,
 .op ⟨some 20, none, .pick (.t 12) (.k (.bool true)) (.t 19)⟩,
 .op ⟨some 4, none, .mv (.t 20)⟩])
 .ret))⟩
theorem g30 : Good 30 c30 := ⟨_, Tryz.func30, by kernel_rfl⟩

def c31 : AFunc := ⟨[], (.seq (.reg [.op ⟨some 3, none, .box 6 (.t 1)⟩])
 (.seq (.reg [.op ⟨some 8, none, .fa 2 (.t 3)⟩,
 .op ⟨some 9, none, .load false 1 (.t 8)⟩,
 .op ⟨some 10, none, .fa 3 (.t 3)⟩,
 .op ⟨some 11, none, .load false 1 (.t 10)⟩,
 .op ⟨some 12, none, .build [(I 0), (I 0), (.str []), (I 0), (I 0), .nils] [(0, 1, (.k (I 8))), (2, 1, (.t 9)), (3, 1, (.t 11))]⟩,
 .op ⟨some 4, none, .alloc [(I 0), (I 0), (.str []), (I 0), (I 0), .nils]⟩,
 .op ⟨none, none, .store 6 (.t 4) (.t 12)⟩])
 (.seq (.reg [.op ⟨some 13, none, .mv (.t 0)⟩,
 .op ⟨some 14, none, .fa 2 (.t 3)⟩,
 .op ⟨some 15, none, .load false 1 (.t 14)⟩,
 .op ⟨some 16, none, .call 32 [(.t 13), (.t 15)]⟩,
 .op ⟨some 5, none, .mv (.t 16)⟩])
 (.seq (.reg [.op ⟨some 17, none, .fa 5 (.t 3)⟩,
 .op ⟨some 18, none, .load false 1 (.t 17)⟩,
 .op ⟨some 19, none, .mv (.t 5)⟩,
 .op ⟨some 20, none, .bin .eql (.t 19) (.k (I 6))⟩,
 .op ⟨some 21, none, .call 55 [(.t 18), (.t 20)]⟩,
 .op ⟨some 6, none, .mv (.t 21)⟩])
 (.seq (.reg [.op ⟨some 22, none, .mv (.t 5)⟩])
 (.block 0 (.seq (.reg [.op ⟨some 31, none, .bin .eql (.t 22) (.k (I 2))⟩,
 .op ⟨some 30, none, .mv (.t 31)⟩])
 (.ite (.t 30) (.reg [.op ⟨some 32, none, .mv (.t 0)⟩,
 .op ⟨some 33, none, .load true 6 (.t 4)⟩,
 .op ⟨some 34, none, .call 18 [(.t 32), (.t 33)]⟩])
 (.seq (.reg [.op ⟨some 36, none, .bin .eql (.t 22) (.k (I 3))⟩,
 .op ⟨some 35, none, .mv (.t 36)⟩])
 (.ite (.t 35) .skip
 (.seq (.reg [.op ⟨some 38, none, .bin .eql (.t 22) (.k (I 4))⟩,
 .op ⟨some 37, none, .mv (.t 38)⟩])
 (.ite (.t 37) (.reg [.op ⟨some 39, none, .mv (.t 0)⟩,
 .op ⟨some 40, none, .load true 6 (.t 3)⟩,
 .op ⟨some 41, none, .bslice 1 5 [(.int .u8 (0))] [(0, 1, (.k (.int .u8 (63)))), (1, 1, (.k (.int .u8 (13)))), (2, 1, (.k (.int .u8 (10)))), (3, 1, (.k (.int .u8 (13)))), (4, 1, (.k (.int .u8 (10))))]⟩,
 .op ⟨some 42, none, .conv .bs (.t 41)⟩,
 .op ⟨some 43, none, .call 56 [(.t 39), (.t 40), (.t 42)]⟩])
 (.seq (.reg [.op ⟨some 45, none, .bin .eql (.t 22) (.k (I 5))⟩,
 .op ⟨some 44, none, .mv (.t 45)⟩])
 (.ite (.t 44) (.seq (.reg [.op ⟨some 46, none, .mv (.t 6)⟩,
 .op ⟨some 47, none, .len .sl (.t 46)⟩,
 .op ⟨some 48, none, .mv (.k (I 0))⟩])
 (.block 1 (.loop (.seq (.reg [.op ⟨some 49, none, .bin .lss (.t 48) (.t 47)⟩])
 (.seq (.ite (.t 49) .skip
 (.exit 1))
 (.seq (.block 2 (.seq (.reg [.op ⟨some 50, none, .mv (.t 48)⟩,
 .op ⟨some 7, none, .mv (.t 50)⟩])
 (.reg [.op ⟨some 51, none, .mv (.t 0)⟩,
 .op ⟨some 52, none, .load true 6 (.t 3)⟩,
 .op ⟨some 53, none, .mv (.t 6)⟩,
 .op ⟨some 54, none, .mv (.t 7)⟩,
 .op ⟨some 55, none, .mv (.t 7)⟩,
 .op ⟨some 56, none, .bin .add (.t 55) (.k (I 1))⟩,
 .op ⟨some 57, none, .slc (.sl 1) (.t 53) (some (.t 54)) (some (.t 56)) none⟩,
 .op ⟨some 58, none, .call 56 [(.t 51), (.t 52), (.t 57)]⟩])))
 (.reg [.op ⟨some 59, none, .bin .add (.t 48) (.k (I 1))⟩,
 .op ⟨some 48, none, .mv (.t 59)⟩])))))))
 (.seq (.reg [.op ⟨some 61, none, .bin .eql (.t 22) (.k (I 7))⟩,
 .op ⟨some 60, none, .mv (.t 61)⟩])
 (.ite (.t 60) (.seq (.reg [.op ⟨some 62, none, .mv (.t 0)⟩,
 .op ⟨some 63, none, .load true 6 (.t 3)⟩,
 .op ⟨some 64, none, .mv (.t 6)⟩,
 .op ⟨some 65, none, .mv (.t 6)⟩,
 .op ⟨some 66, none, .len .sl (.t 65)⟩,
 .op ⟨some 67, none, .bin .quo (.t 66) (.k (I 2))⟩,
 .op ⟨some 68, none, .slc (.sl 1) (.t 64) none (some (.t 67)) none⟩,
 .op ⟨some 69, none, .call 56 [(.t 62), (.t 63), (.t 68)]⟩])
 (.reg [.op ⟨some 70, none, .mv (.t 0)⟩,
 .op ⟨some 71, none, .load true 6 (.t 4)⟩,
 .op ⟨some 72, none, .call 18 [(.t 70), (.t 71)]⟩]))
 (.seq (.reg [.op ⟨some 23, none, .mv (.t 6)⟩,
 .op ⟨some 24, none, .len .sl (.t 23)⟩,
 .op ⟨some 25, none, .bin .gtr (.t 24) (.k (I 0))⟩])
 (.ite (.t 25) (.reg [.op ⟨some 26, none, .mv (.t 0)⟩,
 .op ⟨some 27, none, .load true 6 (.t 3)⟩,
 .op ⟨some 28, none, .mv (.t 6)⟩,
 .op ⟨some 29, none, .call 56 [(.t 26), (.t 27), (.t 28)]⟩])
 .skip))))))))))))))))))⟩
theorem g31 : Good 31 c31 := ⟨_, Tryz.func31, by kernel_rfl⟩

def c32 : AFunc := ⟨[.t 4], (.seq (.reg [.op ⟨some 4, none, .mv (.k (I 0))⟩])
 (.seq (.reg [.op ⟨some 6, none, .mv (.t 0)⟩,
 .op ⟨some 7, none, .nilchk (.t 6)⟩,
 .op ⟨some 8, none, .fa 3 (.t 7)⟩,
 .op ⟨some 9, none, .load false 1 (.t 8)⟩,
 .op ⟨some 10, none, .mv (.t 1)⟩,
 .op ⟨some 11, none, .look true .nils false (.t 9) (.t 10)⟩,
 .op ⟨some 5, none, .mv (.t 11)⟩])
 (.seq (.seq (.reg [.op ⟨some 12, none, .mv (.t 5)⟩,
 .op ⟨some 13, none, .len .sl (.t 12)⟩,
 .op ⟨some 14, none, .bin .eql (.t 13) (.k (I 0))⟩])
 (.ite (.t 14) (.seq (.reg [.op ⟨some 4, none, .mv (.k (I 0))⟩])
 .ret)
 .skip))
 (.seq (.reg [.op ⟨some 15, none, .mv (.t 0)⟩,
 .op ⟨some 16, none, .nilchk (.t 15)⟩,
 .op ⟨some 17, none, .fa 3 (.t 16)⟩,
 .op ⟨some 18, none, .load false 1 (.t 17)⟩,
 .op ⟨some 19, none, .mv (.t 1)⟩,
 .op ⟨some 20, none, .mv (.t 5)⟩,
 .op ⟨some 21, none, .slc (.sl 1) (.t 20) (some (.k (I 1))) none none⟩,
 .op ⟨none, none, .mset true (.t 18) (.t 19) (.t 21)⟩])
 (.seq (.reg [.op ⟨some 22, none, .mv (.t 5)⟩,
 .op ⟨some 23, none, .ia (.sl 1) (.t 22) (.k (I 0))⟩,
 .op ⟨some 24, none, .load false 1 (.t 23)⟩,
 .op ⟨some 4, none, .mv (.t 24)⟩])
 .ret)))))⟩
theorem g32 : Good 32 c32 := ⟨_, Tryz.func32, by kernel_rfl⟩

def c33 : AFunc := ⟨[.t 4, .t 5, .t 6], (.seq (.reg [.op ⟨some 4, none, .mv (.k (.str []))⟩,
 .op ⟨some 5, none, .mv (.k (.str []))⟩,
 .op ⟨some 6, none, .mv (.k (.bool false))⟩])
 (.seq (.seq (.reg [.op ⟨some 8, none, .mv (.t 0)⟩,
 .op ⟨some 9, none, .mv (.t 1)⟩,
 .op ⟨some 10, none, .call 57 [(.t 8), (.t 9)]⟩,
 .op ⟨some 7, none, .mv (.t 10)⟩])
 (.seq (.reg [.op ⟨some 11, none, .mv (.t 7)⟩,
 .op ⟨some 12, none, .bin .geq (.t 11) (.k (I 0))⟩])
 (.ite (.t 12) (.seq (.reg [.op ⟨some 13, none, .mv (.t 0)⟩,
 .op ⟨some 14, none, .mv (.t 7)⟩,
 .op ⟨some 15, none, .slc .str (.t 13) none (some (.t 14)) none⟩,
 .op ⟨some 16, none, .mv (.t 0)⟩,
 .op ⟨some 17, none, .mv (.t 7)⟩,
 .op ⟨some 18, none, .mv (.t 1)⟩,
 .op ⟨some 19, none, .len .str (.t 18)⟩,
 .op ⟨some 20, none, .bin .add (.t 17) (.t 19)⟩,
 .op ⟨some 21, none, .slc .str (.t 16) (some (.t 20)) none none⟩,
 .op ⟨some 4, none, .mv (.t 15)⟩,
 .op ⟨some 5, none, .mv (.t 21)⟩,
 .op ⟨some 6, none, .mv (.k (.bool true))⟩])
 .ret)
 .skip)))
 (.seq (.reg [.op ⟨some 22, none, .mv (.t 0)⟩,
 .op ⟨some 4, none, .mv (.t 22)⟩,
 .op ⟨some 5, none, .mv (.k (.str []))⟩,
 .op ⟨some 6, none, .mv (.k (.bool false))⟩])
 .ret)))⟩
theorem g33 : Good 33 c33 := ⟨_, Tryz.func33, by kernel_rfl⟩

def c34 : AFunc := ⟨[.t 4], (.seq (.reg [.op ⟨some 4, none, .mv (.k .nils)⟩])
 (.seq (.reg [.op ⟨some 5, none, .mv (.t 0)⟩,
 .op ⟨some 6, none, .mv (.t 1)⟩,
 .op ⟨some 7, none, .call 58 [(.t 5), (.t 6), (.k (I 0)), (.k (I (-1)))]⟩,
 .op ⟨some 4, none, .mv (.t 7)⟩])
 .ret))⟩
theorem g34 : Good 34 c34 := ⟨_, Tryz.func34, by kernel_rfl⟩

def c35 : AFunc := ⟨[.t 2, .t 3], (.seq (.reg [.op ⟨some 2, none, .mv (.k (I 0))⟩,
 .op ⟨some 3, none, .mv (.k (.bool false))⟩])
 (.seq (.reg [.op ⟨some 4, none, .mv (.t 0)⟩,
 .op ⟨some 5, none, .call 59 [(.t 4), (.k (I 10)), (.k (I 18))]⟩,
 .op ⟨some 6, none, .ext 0 (.t 5)⟩,
 .op ⟨some 7, none, .ext 1 (.t 5)⟩,
 .op ⟨some 2, none, .mv (.t 6)⟩,
 .op ⟨some 3, none, .mv (.t 7)⟩])
 .ret))⟩
theorem g35 : Good 35 c35 := ⟨_, Tryz.func35, by kernel_rfl⟩

def c36 : AFunc := ⟨[.t 2], (.seq (.reg [.op ⟨some 2, none, .mv (.k (.str []))⟩])
 (.seq (.reg [.op ⟨some 3, none, .mv (.t 0)⟩,
 .op ⟨some 4, none, .call 60 [(.t 3), (.k (I 10))]⟩,
 .op ⟨some 2, none, .mv (.t 4)⟩])
 .ret))⟩
theorem g36 : Good 36 c36 := ⟨_, Tryz.func36, by kernel_rfl⟩

def c37 : AFunc := ⟨[.t 2], (.seq (.reg [.op ⟨some 2, none, .mv (.k .nils)⟩])
 (.seq (.seq (.reg [.op ⟨some 3, none, .mv (.t 0)⟩,
 .op ⟨some 4, none, .nileq .sl false (.t 3) (.k .nils)⟩])
 (.ite (.t 4) (.seq (.reg [.op ⟨some 2, none, .mv (.k .nils)⟩])
 .ret)
 .skip))
 (.seq (.reg [.op ⟨some 5, none, .bslice 1 0 [(.str [])] []⟩,
 .op ⟨some 6, none, .mv (.t 0)⟩,
 .op ⟨some 7, none, .app 1 16 (.t 5) (.t 6)⟩,
 .op ⟨some 2, none, .mv (.t 7)⟩])
 .ret)))⟩
theorem g37 : Good 37 c37 := ⟨_, Tryz.func37, by kernel_rfl⟩

def c38 : AFunc := ⟨[.t 2], (.seq (.reg [.op ⟨some 1, none, .box 8 (.t 0)⟩,
 .op ⟨some 2, none, .mv (.k (.bool false))⟩])
 (.seq (.reg [.op ⟨some 5, none, .load true 8 (.t 1)⟩,
 .op ⟨some 6, none, .call 62 [(.t 5)]⟩,
 .op ⟨some 7, none, .call 61 [(.t 6), (.k (.fn 63 [] []))]⟩,
 .op ⟨some 3, none, .mv (.t 7)⟩])
 (.seq (.reg [.op ⟨some 8, none, .fa 1 (.t 1)⟩,
 .op ⟨some 9, none, .load false 1 (.t 8)⟩,
 .op ⟨some 10, none, .call 64 [(.t 9), (.k (.fn 65 [] []))]⟩,
 .op ⟨some 4, none, .mv (.t 10)⟩])
 (.seq (.reg [.op ⟨some 11, none, .fa 0 (.t 1)⟩,
 .op ⟨some 12, none, .load false 1 (.t 11)⟩,
 .op ⟨some 13, none, .call 67 [(.t 12)]⟩,
 .op ⟨some 14, none, .mv (.t 13)⟩,
 .op ⟨some 15, some (14, true), .mv (.t 3)⟩,
 .op ⟨some 16, some (14, true), .un .not (.t 15)⟩,
 .op ⟨some 17, none, .pick (.t 14) (.t 16) (.k (.bool false))⟩,
 .op ⟨some 18, none, .mv (.t 17)⟩,
 .op ⟨some 19, some (18, true), .mv (.t 4)⟩,
 .op ⟨some 20, some (18, true), .un .not (.t 19)⟩,
 .op ⟨some 21, none, .pick (.t 18) (.t 20) (.k (.bool false))⟩,
 .op ⟨some 22, none, .mv (.t 21)⟩,
 .op ⟨some 23, some (22, true), .fa 1 (.t 1)⟩,
 .op ⟨some 24, some (22, true), .load false 1 (.t 23)⟩,
 .op ⟨some 25, some (22, true), .len .sl (.t 24)⟩,
 .op ⟨some 26, some (22, true), .bin .geq (.t 25) (.k (I 1))⟩,
 .op ⟨some 27, none, .pick (.t 22) (.t 26) (.k (.bool false))⟩,
 .op ⟨some 28, none, .mv (.t 27)⟩,
 .op ⟨some 29, some (28, true), .fa 1 (.t 1)⟩,
 .op ⟨some 30, some (28, true), .load false 1 (.t 29)⟩,
 .op ⟨some 31, some (28, true), .len .sl (.t 30)⟩,
 .op ⟨some 32, some (28, true), .bin .leq (.t 31) (.k (I 8))⟩,
 .op ⟨some 33, none, .pick (.t 28) (.t 32) (.k (.bool false))⟩,
 .op ⟨some 2, none, .mv (.t 33)⟩])
 .ret))))⟩
theorem g38 : Good 38 c38 := ⟨_, Tryz.func38, by kernel_rfl⟩

def c39 : AFunc := ⟨[.t 2], (.seq (.reg [.op ⟨some 2, none, .mv (.k (.bool false))⟩])
 (.seq (.reg [.op ⟨some 6, none, .mkm⟩,
 .op ⟨some 3, none, .mv (.t 6)⟩])
 (.seq (.seq (.reg [.op ⟨some 7, none, .mv (.t 0)⟩,
 .op ⟨some 8, none, .len .sl (.t 7)⟩,
 .op ⟨some 9, none, .mv (.k (I 0))⟩])
 (.block 0 (.loop (.seq (.reg [.op ⟨some 10, none, .bin .lss (.t 9) (.t 8)⟩])
 (.seq (.ite (.t 10) .skip
 (.exit 0))
 (.seq (.block 1 (.seq (.reg [.op ⟨some 11, none, .ia (.sl 1) (.t 7) (.t 9)⟩,
 .op ⟨some 12, none, .load false 1 (.t 11)⟩,
 .op ⟨some 5, none, .mv (.t 12)⟩])
 (.seq (.seq (.reg [.op ⟨some 13, none, .mv (.t 3)⟩,
 .op ⟨some 14, none, .mv (.t 5)⟩,
 .op ⟨some 15, none, .look true (.bool false) false (.t 13) (.t 14)⟩])
 (.ite (.t 15) (.seq (.reg [.op ⟨some 2, none, .mv (.k (.bool false))⟩])
 .ret)
 .skip))
 (.reg [.op ⟨some 16, none, .mv (.t 3)⟩,
 .op ⟨some 17, none, .mv (.t 5)⟩,
 .op ⟨none, none, .mset true (.t 16) (.t 17) (.k (.bool true))⟩]))))
 (.reg [.op ⟨some 18, none, .bin .add (.t 9) (.k (I 1))⟩,
 .op ⟨some 9, none, .mv (.t 18)⟩])))))))
 (.seq (.reg [.op ⟨some 2, none, .mv (.k (.bool true))⟩])
 .ret))))⟩
theorem g39 : Good 39 c39 := ⟨_, Tryz.func39, by kernel_rfl⟩

def c40 : AFunc := ⟨[.t 2], (.seq (.reg [.op ⟨some 2, none, .mv (.k .nilp)⟩])
 (.seq (.reg [.op ⟨some 3, none, .mv (.t 0)⟩,
 .op ⟨some 4, none, .mx (.t 3) (.k (I 0))⟩,
 .op ⟨some 5, none, .mn (.t 4) (.k (I 1099511627776))⟩,
 .op ⟨some 6, none, .build [(I 0), (I 0), (I 0)] [(0, 1, (.t 5))]⟩,
 .op ⟨some 7, none, .box 3 (.t 6)⟩,
 .op ⟨some 2, none, .mv (.t 7)⟩])
 .ret))⟩
theorem g40 : Good 40 c40 := ⟨_, Tryz.func40, by kernel_rfl⟩

def c41 : AFunc := ⟨[.t 2], (.seq (.reg [.op ⟨some 2, none, .mv (.k .nilp)⟩])
 (.seq (.reg [.op ⟨some 3, none, .mv (.t 0)⟩,
 .op ⟨some 4, none, .mx (.t 3) (.k (I 0))⟩,
 .op ⟨some 5, none, .mn (.t 4) (.k (I 64))⟩,
 .op ⟨some 6, none, .mkm⟩,
 .op ⟨some 7, none, .build [(I 0), (I 0), .nilm, .nils] [(0, 1, (.t 5)), (2, 1, (.t 6))]⟩,
 .op ⟨some 8, none, .box 4 (.t 7)⟩,
 .op ⟨some 2, none, .mv (.t 8)⟩])
 .ret))⟩
theorem g41 : Good 41 c41 := ⟨_, Tryz.func41, by kernel_rfl⟩

def c42 : AFunc := ⟨[.t 0], (.seq (.reg [.op ⟨some 0, none, .mv (.k .nilp)⟩])
 (.seq (.reg [.op ⟨some 1, none, .mkm⟩,
 .op ⟨some 2, none, .mkm⟩,
 .op ⟨some 3, none, .mkm⟩,
 .op ⟨some 4, none, .build [.nilm, .nilm, .nilm] [(0, 1, (.t 1)), (1, 1, (.t 2)), (2, 1, (.t 3))]⟩,
 .op ⟨some 5, none, .box 3 (.t 4)⟩,
 .op ⟨some 0, none, .mv (.t 5)⟩])
 .ret))⟩
theorem g42 : Good 42 c42 := ⟨_, Tryz.func42, by kernel_rfl⟩

def c43 : AFunc := ⟨[.t 4], (.seq (.reg [.op ⟨some 4, none, .mv (.k .nilp)⟩])
 (.seq (.reg [.op ⟨some 5, none, .mv (.t 0)⟩,
 .op ⟨some 6, none, .call 68 [(.t 5)]⟩,
 .op ⟨some 7, none, .mv (.t 1)⟩,
 .op ⟨some 8, none, .call 68 [(.t 7)]⟩,
 .op ⟨some 9, none, .mv (.t 1)⟩,
 .op ⟨some 10, none, .call 68 [(.t 9)]⟩,
 .op ⟨some 11, none, .build [(I 0), (I 0), (I 0), (I 0)] [(0, 1, (.t 6)), (1, 1, (.t 8)), (2, 1, (.t 10))]⟩,
 .op ⟨some 12, none, .box 4 (.t 11)⟩,
 .op ⟨some 4, none, .mv (.t 12)⟩])
 .ret))⟩
theorem g43 : Good 43 c43 := ⟨_, Tryz.func43, by kernel_rfl⟩

def c44 : AFunc := ⟨[.t 0], (.seq (.reg [.op ⟨some 0, none, .mv (.k .nilp)⟩])
 (.seq (.reg [.op ⟨some 1, none, .mkm⟩,
 .op ⟨some 2, none, .build [(I 0), .nils, .nilm] [(2, 1, (.t 1))]⟩,
 .op ⟨some 3, none, .box 3 (.t 2)⟩,
 .op ⟨some 0, none, .mv (.t 3)⟩])
 .ret))⟩
theorem g44 : Good 44 c44 := ⟨_, Tryz.func44, by kernel_rfl⟩

def c45 : AFunc := ⟨[.t 2], (.seq (.reg [.op ⟨some 2, none, .mv (.k .nilp)⟩])
 (.seq (.reg [.op ⟨some 3, none, .mv (.t 0)⟩,
 .op ⟨some 4, none, .mx (.t 3) (.k (I 1))⟩,
 .op ⟨some 5, none, .mn (.t 4) (.k (I 1048576))⟩,
 .op ⟨some 6, none, .build [(I 0), (I 0), (I 0), (.bool false)] [(0, 1, (.t 5))]⟩,
 .op ⟨some 7, none, .box 4 (.t 6)⟩,
 .op ⟨some 2, none, .mv (.t 7)⟩])
 .ret))⟩
theorem g45 : Good 45 c45 := ⟨_, Tryz.func45, by kernel_rfl⟩

def c46 : AFunc := ⟨[.c 0 true 8], (.seq (.reg [.op ⟨some 0, none, .alloc [.nils, .nils, .nils, .nils, (I 0), (I 0), (I 0), (I 0)]⟩])
 (.seq (.reg [.op ⟨some 1, none, .build [.nils, .nils, .nils, .nils, (I 0), (I 0), (I 0), (I 0)] [(4, 1, (.k (I 100))), (5, 1, (.k (I 1))), (6, 1, (.k (I 3))), (7, 1, (.k (I 50)))]⟩,
 .op ⟨none, none, .store 8 (.t 0) (.t 1)⟩])
 .ret))⟩
theorem g46 : Good 46 c46 := ⟨_, Tryz.func46, by kernel_rfl⟩

def c47 : AFunc := ⟨[], (.seq (.reg [.op ⟨some 7, none, .mv (.t 0)⟩,
 .op ⟨some 8, none, .nilchk (.t 7)⟩,
 .op ⟨some 9, none, .fa 3 (.t 8)⟩,
 .op ⟨some 10, none, .load false 1 (.t 9)⟩,
 .op ⟨some 11, none, .mv (.t 1)⟩,
 .op ⟨some 12, none, .look false (I 0) true (.t 10) (.t 11)⟩,
 .op ⟨some 6, none, .mv (.t 12)⟩,
 .op ⟨some 13, none, .ext 0 (.t 6)⟩,
 .op ⟨some 14, none, .ext 1 (.t 6)⟩,
 .op ⟨some 4, none, .mv (.t 13)⟩,
 .op ⟨some 5, none, .mv (.t 14)⟩])
 (.seq (.reg [.op ⟨some 15, none, .mv (.t 0)⟩,
 .op ⟨some 16, none, .nilchk (.t 15)⟩,
 .op ⟨some 17, none, .fa 2 (.t 16)⟩,
 .op ⟨some 18, none, .load false 1 (.t 17)⟩,
 .op ⟨some 19, none, .mv (.t 1)⟩,
 .op ⟨some 20, none, .look false .nilp false (.t 18) (.t 19)⟩,
 .op ⟨some 21, none, .peq false (.t 20) (.k .nilp)⟩,
 .op ⟨some 22, none, .mv (.t 21)⟩,
 .op ⟨some 23, some (22, true), .mv (.t 5)⟩,
 .op ⟨some 24, some (22, true), .un .not (.t 23)⟩,
 .op ⟨some 25, none, .pick (.t 22) (.t 24) (.k (.bool false))⟩,
 .op ⟨some 26, none, .mv (.t 25)⟩,
 .op ⟨some 27, some (26, true), .mv (.t 1)⟩,
 .op ⟨some 28, some (26, true), .bin .geq (.t 27) (.k (I 1))⟩,
 .op ⟨some 29, none, .pick (.t 26) (.t 28) (.k (.bool false))⟩,
 .op ⟨some 30, none, .mv (.t 29)⟩,
 .op ⟨some 31, some (30, true), .mv (.t 1)⟩,
 .op ⟨some 32, some (30, true), .bin .leq (.t 31) (.k (I 2147483647))⟩,
 .op ⟨some 33, none, .pick (.t 30) (.t 32) (.k (.bool false))⟩,
 .op ⟨some 34, none, .mv (.t 33)⟩,
 .op ⟨some 35, some (34, true), .mv (.t 0)⟩,
 .op ⟨some 36, some (34, true), .nilchk (.t 35)⟩,
 .op ⟨some 37, some (34, true), .fa 1 (.t 36)⟩,
 .op ⟨some 38, some (34, true), .load false 1 (.t 37)⟩,
 .op ⟨some 39, some (34, true), .len .sl (.t 38)⟩,
 .op ⟨some 40, some (34, true), .bin .gtr (.t 39) (.k (I 0))⟩,
 .op ⟨some 41, none, .pick (.t 34) (.t 40) (.k (.bool false))⟩])
 (.ite (.t 41) (.reg [.op ⟨some 42, none, .mv (.t 0)⟩,
 .op ⟨some 43, none, .nilchk (.t 42)⟩,
 .op ⟨some 44, none, .fa 2 (.t 43)⟩,
 .op ⟨some 45, none, .load false 1 (.t 44)⟩,
 .op ⟨some 46, none, .mv (.t 1)⟩,
 .op ⟨some 47, none, .build [.nils, (I 0)] []⟩,
 .op ⟨some 48, none, .box 2 (.t 47)⟩,
 .op ⟨none, none, .mset false (.t 45) (.t 46) (.t 48)⟩])
 .skip)))⟩
theorem g47 : Good 47 c47 := ⟨_, Tryz.func47, by kernel_rfl⟩

def c48 : AFunc := ⟨[.t 4], (.seq (.reg [.op ⟨some 3, none, .box 6 (.t 1)⟩,
 .op ⟨some 4, none, .mv (.k .nils)⟩])
 (.seq (.seq (.reg [.op ⟨some 10, none, .mv (.t 0)⟩,
 .op ⟨some 11, none, .nilchk (.t 10)⟩,
 .op ⟨some 12, none, .fa 3 (.t 11)⟩,
 .op ⟨some 13, none, .load false 1 (.t 12)⟩,
 .op ⟨some 14, none, .fa 1 (.t 3)⟩,
 .op ⟨some 15, none, .load false 1 (.t 14)⟩,
 .op ⟨some 16, none, .look false (I 0) true (.t 13) (.t 15)⟩,
 .op ⟨some 9, none, .mv (.t 16)⟩,
 .op ⟨some 17, none, .ext 0 (.t 9)⟩,
 .op ⟨some 18, none, .ext 1 (.t 9)⟩,
 .op ⟨some 5, none, .mv (.t 17)⟩,
 .op ⟨some 6, none, .mv (.t 18)⟩])
 (.seq (.reg [.op ⟨some 19, none, .mv (.t 6)⟩])
 (.ite (.t 19) (.seq (.reg [.op ⟨some 20, none, .mv (.t 0)⟩,
 .op ⟨some 21, none, .mv (.t 5)⟩,
 .op ⟨some 22, none, .mv (.t 0)⟩,
 .op ⟨some 23, none, .nilchk (.t 22)⟩,
 .op ⟨some 24, none, .fa 1 (.t 23)⟩,
 .op ⟨some 25, none, .load false 1 (.t 24)⟩,
 .op ⟨some 26, none, .mv (.t 5)⟩,
 .op ⟨some 27, none, .ia (.sl 1) (.t 25) (.t 26)⟩,
 .op ⟨some 28, none, .load false 1 (.t 27)⟩,
 .op ⟨some 29, none, .load true 6 (.t 3)⟩,
 .op ⟨some 30, none, .call 51 [(.t 28), (.t 29)]⟩,
 .op ⟨some 31, none, .call 50 [(.t 20), (.t 21), (.t 30)]⟩,
 .op ⟨some 7, none, .mv (.t 31)⟩])
 (.seq (.seq (.reg [.op ⟨some 32, none, .fa 0 (.t 3)⟩,
 .op ⟨some 33, none, .load false 1 (.t 32)⟩,
 .op ⟨some 34, none, .bin .eql (.t 33) (.k (I 3))⟩])
 (.ite (.t 34) (.reg [.op ⟨some 35, none, .mv (.t 0)⟩,
 .op ⟨some 36, none, .nilchk (.t 35)⟩,
 .op ⟨some 37, none, .fa 3 (.t 36)⟩,
 .op ⟨some 38, none, .load false 1 (.t 37)⟩,
 .op ⟨some 39, none, .fa 1 (.t 3)⟩,
 .op ⟨some 40, none, .load false 1 (.t 39)⟩,
 .op ⟨none, none, .del false (.t 38) (.t 40)⟩])
 .skip))
 (.seq (.reg [.op ⟨some 41, none, .mv (.t 7)⟩,
 .op ⟨some 4, none, .mv (.t 41)⟩])
 .ret)))
 .skip)))
 (.seq (.reg [.op ⟨some 42, none, .mv (.t 0)⟩,
 .op ⟨some 43, none, .nilchk (.t 42)⟩,
 .op ⟨some 44, none, .fa 2 (.t 43)⟩,
 .op ⟨some 45, none, .load false 1 (.t 44)⟩,
 .op ⟨some 46, none, .fa 1 (.t 3)⟩,
 .op ⟨some 47, none, .load false 1 (.t 46)⟩,
 .op ⟨some 48, none, .look false .nilp false (.t 45) (.t 47)⟩,
 .op ⟨some 8, none, .mv (.t 48)⟩])
 (.seq (.block 0 (.seq (.reg [.op ⟨some 50, none, .mv (.t 8)⟩,
 .op ⟨some 51, none, .peq false (.t 50) (.k .nilp)⟩,
 .op ⟨some 49, none, .mv (.t 51)⟩])
 (.ite (.t 49) .skip
 (.seq (.reg [.op ⟨some 53, none, .fa 0 (.t 3)⟩,
 .op ⟨some 54, none, .load false 1 (.t 53)⟩,
 .op ⟨some 55, none, .bin .eql (.t 54) (.k (I 2))⟩,
 .op ⟨some 52, none, .mv (.t 55)⟩])
 (.ite (.t 52) (.seq (.reg [.op ⟨some 56, none, .mv (.t 0)⟩,
 .op ⟨some 57, none, .fa 1 (.t 3)⟩,
 .op ⟨some 58, none, .load false 1 (.t 57)⟩,
 .op ⟨some 59, none, .fa 5 (.t 3)⟩,
 .op ⟨some 60, none, .load false 1 (.t 59)⟩,
 .op ⟨some 61, none, .call 69 [(.t 56), (.t 58), (.t 60)]⟩,
 .op ⟨some 4, none, .mv (.t 61)⟩])
 .ret)
 (.seq (.reg [.op ⟨some 63, none, .fa 0 (.t 3)⟩,
 .op ⟨some 64, none, .load false 1 (.t 63)⟩,
 .op ⟨some 65, none, .bin .eql (.t 64) (.k (I 4))⟩,
 .op ⟨some 62, none, .mv (.t 65)⟩])
 (.ite (.t 62) (.reg [.op ⟨some 66, none, .mv (.t 8)⟩,
 .op ⟨some 67, none, .mv (.t 8)⟩,
 .op ⟨some 68, none, .nilchk (.t 67)⟩,
 .op ⟨some 69, none, .fa 1 (.t 68)⟩,
 .op ⟨some 70, none, .load false 1 (.t 69)⟩,
 .op ⟨some 71, none, .fa 4 (.t 3)⟩,
 .op ⟨some 72, none, .load false 1 (.t 71)⟩,
 .op ⟨some 73, none, .mx (.t 72) (.k (I 0))⟩,
 .op ⟨some 74, none, .mn (.t 73) (.k (I 1073741824))⟩,
 .op ⟨some 75, none, .bin .add (.t 70) (.t 74)⟩,
 .op ⟨some 76, none, .mn (.t 75) (.k (I 1073741824))⟩,
 .op ⟨some 77, none, .nilchk (.t 66)⟩,
 .op ⟨some 78, none, .fa 1 (.t 77)⟩,
 .op ⟨none, none, .store 1 (.t 78) (.t 76)⟩])
 (.seq (.reg [.op ⟨some 80, none, .fa 0 (.t 3)⟩,
 .op ⟨some 81, none, .load false 1 (.t 80)⟩,
 .op ⟨some 82, none, .bin .eql (.t 81) (.k (I 3))⟩,
 .op ⟨some 79, none, .mv (.t 82)⟩])
 (.ite (.t 79) (.reg [.op ⟨some 83, none, .mv (.t 0)⟩,
 .op ⟨some 84, none, .nilchk (.t 83)⟩,
 .op ⟨some 85, none, .fa 2 (.t 84)⟩,
 .op ⟨some 86, none, .load false 1 (.t 85)⟩,
 .op ⟨some 87, none, .fa 1 (.t 3)⟩,
 .op ⟨some 88, none, .load false 1 (.t 87)⟩,
 .op ⟨none, none, .del false (.t 86) (.t 88)⟩])
 .skip)))))))))
 (.seq (.reg [.op ⟨some 4, none, .mv (.k .nils)⟩])
 .ret)))))⟩
theorem g48 : Good 48 c48 := ⟨_, Tryz.func48, by kernel_rfl⟩

def c49 : AFunc := ⟨[.t 4], (.seq (.reg [.op ⟨some 3, none, .box 1 (.t 1)⟩,
 .op ⟨some 4, none, .mv (.k (I 0))⟩])
 (.seq (.reg [.op ⟨some 5, none, .mv (.t 0)⟩,
 .op ⟨some 6, none, .mkf 71 [] [(.t 3)]⟩,
 .op ⟨some 7, none, .call 70 [(.t 5), (.t 6)]⟩,
 .op ⟨some 4, none, .mv (.t 7)⟩])
 .ret))⟩
theorem g49 : Good 49 c49 := ⟨_, Tryz.func49, by kernel_rfl⟩

def c50 : AFunc := ⟨[.t 6], (.seq (.reg [.op ⟨some 6, none, .mv (.k .nils)⟩])
 (.seq (.seq (.reg [.op ⟨some 9, none, .mv (.t 2)⟩,
 .op ⟨some 10, none, .len .sl (.t 9)⟩,
 .op ⟨some 11, none, .mv (.k (I 0))⟩])
 (.block 0 (.loop (.seq (.reg [.op ⟨some 12, none, .bin .lss (.t 11) (.t 10)⟩])
 (.seq (.ite (.t 12) .skip
 (.exit 0))
 (.seq (.block 1 (.seq (.reg [.op ⟨some 13, none, .ia (.sl 6) (.t 9) (.t 11)⟩,
 .op ⟨some 14, none, .load true 6 (.t 13)⟩,
 .op ⟨some 8, none, .alloc [(I 0), (I 0), (.str []), (I 0), (.str []), .nils]⟩,
 .op ⟨none, none, .store 6 (.t 8) (.t 14)⟩])
 (.seq (.reg [.op ⟨some 15, none, .fa 0 (.t 8)⟩,
 .op ⟨some 16, none, .load false 1 (.t 15)⟩,
 .op ⟨some 17, none, .bin .eql (.t 16) (.k (I 3))⟩,
 .op ⟨some 18, none, .mv (.t 17)⟩,
 .op ⟨some 19, some (18, true), .mv (.t 0)⟩,
 .op ⟨some 20, some (18, true), .nilchk (.t 19)⟩,
 .op ⟨some 21, some (18, true), .fa 1 (.t 20)⟩,
 .op ⟨some 22, some (18, true), .load false 1 (.t 21)⟩,
 .op ⟨some 23, some (18, true), .mv (.t 1)⟩,
 .op ⟨some 24, some (18, true), .ia (.sl 1) (.t 22) (.t 23)⟩,
 .op ⟨some 25, some (18, true), .load false 1 (.t 24)⟩,
 .op ⟨some 26, some (18, true), .fa 1 (.t 8)⟩,
 .op ⟨some 27, some (18, true), .load false 1 (.t 26)⟩,
 .op ⟨some 28, some (18, true), .call 72 [(.t 25), (.t 27)]⟩,
 .op ⟨some 29, some (18, true), .un .not (.t 28)⟩,
 .op ⟨some 30, none, .pick (.t 18) (.t 29) (.k (.bool false))⟩])
 (.ite (.t 30) (.reg [.op ⟨some 31, none, .mv (.t 0)⟩,
 .op ⟨some 32, none, .nilchk (.t 31)⟩,
 .op ⟨some 33, none, .fa 3 (.t 32)⟩,
 .op ⟨some 34, none, .load false 1 (.t 33)⟩,
 .op ⟨some 35, none, .fa 1 (.t 8)⟩,
 .op ⟨some 36, none, .load false 1 (.t 35)⟩,
 .op ⟨none, none, .del false (.t 34) (.t 36)⟩])
 .skip))))
 (.reg [.op ⟨some 37, none, .bin .add (.t 11) (.k (I 1))⟩,
 .op ⟨some 11, none, .mv (.t 37)⟩])))))))
 (.seq (.reg [.op ⟨some 38, none, .mv (.t 2)⟩,
 .op ⟨some 6, none, .mv (.t 38)⟩])
 .ret)))⟩
theorem g50 : Good 50 c50 := ⟨_, Tryz.func50, by kernel_rfl⟩

def c51 : AFunc := ⟨[.t 4], (.seq (.reg [.op ⟨some 3, none, .box 6 (.t 1)⟩,
 .op ⟨some 4, none, .mv (.k .nils)⟩])
 (.seq (.seq (.reg [.op ⟨some 5, none, .fa 0 (.t 3)⟩,
 .op ⟨some 6, none, .load false 1 (.t 5)⟩])
 (.block 0 (.seq (.seq (.reg [.op ⟨some 8, none, .bin .eql (.t 6) (.k (I 2))⟩,
 .op ⟨some 7, none, .mv (.t 8)⟩])
 (.ite (.t 7) .skip
 (.seq (.reg [.op ⟨some 9, none, .bin .eql (.t 6) (.k (I 3))⟩,
 .op ⟨some 7, none, .mv (.t 9)⟩])
 (.ite (.t 7) .skip
 (.reg [.op ⟨some 10, none, .bin .eql (.t 6) (.k (I 4))⟩,
 .op ⟨some 7, none, .mv (.t 10)⟩])))))
 (.ite (.t 7) (.reg [.op ⟨some 11, none, .mv (.t 0)⟩,
 .op ⟨some 12, none, .load true 6 (.t 3)⟩,
 .op ⟨some 13, none, .call 73 [(.t 11), (.t 12)]⟩])
 (.seq (.reg [.op ⟨some 15, none, .bin .eql (.t 6) (.k (I 5))⟩,
 .op ⟨some 14, none, .mv (.t 15)⟩])
 (.ite (.t 14) (.seq (.reg [.op ⟨some 16, none, .mv (.t 0)⟩,
 .op ⟨some 17, none, .nilchk (.t 16)⟩,
 .op ⟨some 18, none, .fa 12 (.t 17)⟩,
 .op ⟨some 19, none, .load false 1 (.t 18)⟩,
 .op ⟨some 20, none, .fa 3 (.t 3)⟩,
 .op ⟨some 21, none, .load false 1 (.t 20)⟩,
 .op ⟨some 22, none, .call 74 [(.t 19), (.t 21)]⟩])
 (.ite (.t 22) (.reg [.op ⟨some 23, none, .mv (.t 0)⟩,
 .op ⟨some 24, none, .mv (.t 0)⟩,
 .op ⟨some 25, none, .nilchk (.t 24)⟩,
 .op ⟨some 26, none, .fa 11 (.t 25)⟩,
 .op ⟨some 27, none, .load false 1 (.t 26)⟩,
 .op ⟨some 28, none, .fa 3 (.t 3)⟩,
 .op ⟨some 29, none, .load false 1 (.t 28)⟩,
 .op ⟨some 30, none, .look false .nilp false (.t 27) (.t 29)⟩,
 .op ⟨some 31, none, .call 75 [(.t 23), (.t 30)]⟩])
 .skip))
 (.seq (.reg [.op ⟨some 33, none, .bin .eql (.t 6) (.k (I 7))⟩,
 .op ⟨some 32, none, .mv (.t 33)⟩])
 (.ite (.t 32) (.seq (.reg [.op ⟨some 34, none, .mv (.t 0)⟩,
 .op ⟨some 35, none, .nilchk (.t 34)⟩,
 .op ⟨some 36, none, .fa 12 (.t 35)⟩,
 .op ⟨some 37, none, .load false 1 (.t 36)⟩,
 .op ⟨some 38, none, .fa 3 (.t 3)⟩,
 .op ⟨some 39, none, .load false 1 (.t 38)⟩,
 .op ⟨some 40, none, .call 76 [(.t 37), (.t 39)]⟩,
 .op ⟨some 41, none, .bin .eql (.t 40) (.k (I 1))⟩])
 (.ite (.t 41) (.reg [.op ⟨some 42, none, .mv (.t 0)⟩,
 .op ⟨some 43, none, .mv (.t 0)⟩,
 .op ⟨some 44, none, .nilchk (.t 43)⟩,
 .op ⟨some 45, none, .fa 11 (.t 44)⟩,
 .op ⟨some 46, none, .load false 1 (.t 45)⟩,
 .op ⟨some 47, none, .fa 3 (.t 3)⟩,
 .op ⟨some 48, none, .load false 1 (.t 47)⟩,
 .op ⟨some 49, none, .look false .nilp false (.t 46) (.t 48)⟩,
 .op ⟨some 50, none, .call 77 [(.t 42), (.t 49), (.k (.bool false))]⟩])
 .skip))
 (.seq (.reg [.op ⟨some 52, none, .bin .eql (.t 6) (.k (I 6))⟩,
 .op ⟨some 51, none, .mv (.t 52)⟩])
 (.ite (.t 51) (.reg [.op ⟨some 53, none, .mv (.t 0)⟩,
 .op ⟨some 54, none, .fa 3 (.t 3)⟩,
 .op ⟨some 55, none, .load false 1 (.t 54)⟩,
 .op ⟨some 56, none, .fa 5 (.t 3)⟩,
 .op ⟨some 57, none, .load false 1 (.t 56)⟩,
 .op ⟨some 58, none, .call 21 [(.t 57)]⟩,
 .chk ⟨some 55, none, .load false 1 (.t 54)⟩,
 .op ⟨some 59, none, .call 78 [(.t 53), (.t 55), (.t 58)]⟩])
 (.seq (.reg [.op ⟨some 61, none, .bin .eql (.t 6) (.k (I 8))⟩,
 .op ⟨some 60, none, .mv (.t 61)⟩])
 (.ite (.t 60) (.reg [.op ⟨some 62, none, .mv (.t 0)⟩,
 .op ⟨some 63, none, .fa 3 (.t 3)⟩,
 .op ⟨some 64, none, .load false 1 (.t 63)⟩,
 .op ⟨some 65, none, .call 79 [(.t 62), (.t 64)]⟩])
 (.seq (.reg [.op ⟨some 67, none, .bin .eql (.t 6) (.k (I 9))⟩,
 .op ⟨some 66, none, .mv (.t 67)⟩])
 (.ite (.t 66) (.reg [.op ⟨some 68, none, .mv (.t 0)⟩,
 .op ⟨some 69, none, .fa 5 (.t 3)⟩,
 .op ⟨some 70, none, .load false 1 (.t 69)⟩,
 .op ⟨some 71, none, .call 80 [(.t 68), (.t 70)]⟩])
 (.seq (.reg [.op ⟨some 73, none, .bin .eql (.t 6) (.k (I 10))⟩,
 .op ⟨some 72, none, .mv (.t 73)⟩])
 (.ite (.t 72) (.reg [.op ⟨some 74, none, .mv (.t 0)⟩,
 .op ⟨some 75, none, .fa 4 (.t 3)⟩,
 .op ⟨some 76, none, .load false 1 (.t 75)⟩,
 .op ⟨some 77, none, .call 81 [(.t 74), (.t 76)]⟩])
 (.seq (.reg [.op ⟨some 79, none, .bin .eql (.t 6) (.k (I 11))⟩,
 .op ⟨some 78, none, .mv (.t 79)⟩])
 (.ite (.t 78) (.reg [.op ⟨some 80, none, .mv (.t 0)⟩,
 .op ⟨some 81, none, .call 82 [(.t 80)]⟩])
 .skip))))))))))))))))))
 (.seq (.reg [.op ⟨some 82, none, .mv (.t 0)⟩,
 .op ⟨some 83, none, .call 83 [(.t 82)]⟩,
 .op ⟨some 4, none, .mv (.t 83)⟩])
 .ret)))⟩
theorem g51 : Good 51 c51 := ⟨_, Tryz.func51, by kernel_rfl⟩

def c52 : AFunc := ⟨[.t 4, .t 5], (.seq (.reg [.op ⟨some 4, none, .mv (.k .nils)⟩,
 .op ⟨some 5, none, .mv (.k (.bool false))⟩])
 (.seq (.seq (.reg [.op ⟨some 6, none, .mv (.t 0)⟩,
 .op ⟨some 7, none, .mv (.t 1)⟩,
 .op ⟨some 8, none, .call 84 [(.t 6), (.t 7)]⟩,
 .op ⟨some 9, none, .un .not (.t 8)⟩])
 (.ite (.t 9) (.seq (.reg [.op ⟨some 10, none, .mv (.t 0)⟩,
 .op ⟨some 4, none, .mv (.t 10)⟩,
 .op ⟨some 5, none, .mv (.k (.bool false))⟩])
 .ret)
 .skip))
 (.seq (.reg [.op ⟨some 11, none, .mv (.t 0)⟩,
 .op ⟨some 12, none, .mv (.t 0)⟩,
 .op ⟨some 13, none, .len .sl (.t 12)⟩,
 .op ⟨some 14, none, .mv (.t 1)⟩,
 .op ⟨some 15, none, .len .sl (.t 14)⟩,
 .op ⟨some 16, none, .bin .sub (.t 13) (.t 15)⟩,
 .op ⟨some 17, none, .slc (.sl 1) (.t 11) none (some (.t 16)) none⟩,
 .op ⟨some 4, none, .mv (.t 17)⟩,
 .op ⟨some 5, none, .mv (.k (.bool true))⟩])
 .ret)))⟩
theorem g52 : Good 52 c52 := ⟨_, Tryz.func52, by kernel_rfl⟩

def c53 : AFunc := ⟨[.t 2], (.seq (.reg [.op ⟨some 1, none, .box 9 (.t 0)⟩,
 .op ⟨some 2, none, .mv (.k (.bool false))⟩])
 (.seq (.seq (.reg [.op ⟨some 5, none, .load true 9 (.t 1)⟩,
 .op ⟨some 6, none, .call 85 [(.t 5)]⟩,
 .op ⟨some 7, none, .mv (.k (I 0))⟩])
 (.block 0 (.loop (.seq (.reg [.op ⟨some 8, none, .bin .lss (.t 7) (.k (I 7))⟩])
 (.seq (.ite (.t 8) .skip
 (.exit 0))
 (.seq (.block 1 (.seq (.reg [.op ⟨some 9, none, .idx (.arr 7 3) true (.t 6) (.t 7)⟩,
 .op ⟨some 4, none, .alloc [(I 0), (I 0), (I 0)]⟩,
 .op ⟨none, none, .store 3 (.t 4) (.t 9)⟩])
 (.seq (.reg [.op ⟨some 10, none, .fa 0 (.t 4)⟩,
 .op ⟨some 11, none, .load false 1 (.t 10)⟩,
 .op ⟨some 12, none, .fa 1 (.t 4)⟩,
 .op ⟨some 13, none, .load false 1 (.t 12)⟩,
 .op ⟨some 14, none, .bin .lss (.t 11) (.t 13)⟩,
 .op ⟨some 15, none, .mv (.t 14)⟩,
 .op ⟨some 16, some (15, false), .fa 0 (.t 4)⟩,
 .op ⟨some 17, some (15, false), .load false 1 (.t 16)⟩,
 .op ⟨some 18, some (15, false), .fa 2 (.t 4)⟩,
 .op ⟨some 19, some (15, false), .load false 1 (.t 18)⟩,
 .op ⟨some 20, some (15, false), .bin .gtr (.t 17) (.t 19)⟩,
 .op ⟨some 21, none, .pick (.t 15) (.k (.bool true)) (.t 20)⟩])
 (.ite (.t 21) (.seq (.reg [.op ⟨some 2, none, .mv (.k (.bool false))⟩])
 .ret)
 .skip))))
 (.reg [.op ⟨some 22, none, .bin .add (.t 7) (.k (I 1))⟩,
 .op ⟨some 7, none, .mv (.t 22)⟩])))))))
 (.seq (.reg [.op ⟨some 23, none, .fa 4 (.t 1)⟩,
 .op ⟨some 24, none, .load false 1 (.t 23)⟩,
 .op ⟨some 25, none, .call 86 [(.t 24)]⟩,
 .op ⟨some 26, none, .mv (.t 25)⟩,
 .op ⟨some 27, some (26, true), .fa 4 (.t 1)⟩,
 .op ⟨some 28, some (26, true), .load false 1 (.t 27)⟩,
 .op ⟨some 29, some (26, true), .len .str (.t 28)⟩,
 .op ⟨some 30, some (26, true), .bin .leq (.t 29) (.k (I 20))⟩,
 .op ⟨some 31, none, .pick (.t 26) (.t 30) (.k (.bool false))⟩,
 .op ⟨some 32, none, .mv (.t 31)⟩,
 .op ⟨some 33, some (32, true), .fa 5 (.t 1)⟩,
 .op ⟨some 34, some (32, true), .load false 1 (.t 33)⟩,
 .op ⟨some 35, some (32, true), .call 87 [(.t 34)]⟩,
 .op ⟨some 36, none, .pick (.t 32) (.t 35) (.k (.bool false))⟩,
 .op ⟨some 37, none, .mv (.t 36)⟩,
 .op ⟨some 38, some (37, true), .fa 5 (.t 1)⟩,
 .op ⟨some 39, some (37, true), .load false 1 (.t 38)⟩,
 .op ⟨some 40, some (37, true), .len .str (.t 39)⟩,
 .op ⟨some 41, some (37, true), .bin .leq (.t 40) (.k (I 512))⟩,
 .op ⟨some 42, none, .pick (.t 37) (.t 41) (.k (.bool false))⟩,
 .op ⟨some 2, none, .mv (.t 42)⟩])
 .ret)))⟩
theorem g53 : Good 53 c53 := ⟨_, Tryz.func53, by kernel_rfl⟩

def c54 : AFunc := ⟨[.t 4], (.seq (.reg [.op ⟨some 4, none, .mv (.k (I 0))⟩])
 (.seq (.seq (.reg [.op ⟨some 6, none, .mv (.t 0)⟩,
 .op ⟨some 7, none, .nilchk (.t 6)⟩,
 .op ⟨some 8, none, .fa 2 (.t 7)⟩,
 .op ⟨some 9, none, .load false 1 (.t 8)⟩,
 .op ⟨some 10, none, .mv (.t 1)⟩,
 .op ⟨some 11, none, .look false .nilp false (.t 9) (.t 10)⟩,
 .op ⟨some 5, none, .mv (.t 11)⟩])
 (.seq (.reg [.op ⟨some 12, none, .mv (.t 5)⟩,
 .op ⟨some 13, none, .peq true (.t 12) (.k .nilp)⟩])
 (.ite (.t 13) (.seq (.reg [.op ⟨some 14, none, .mv (.t 5)⟩,
 .op ⟨some 15, none, .nilchk (.t 14)⟩,
 .op ⟨some 16, none, .fa 0 (.t 15)⟩,
 .op ⟨some 17, none, .load false 1 (.t 16)⟩,
 .op ⟨some 18, none, .len .sl (.t 17)⟩,
 .op ⟨some 4, none, .mv (.t 18)⟩])
 .ret)
 .skip)))
 (.seq (.reg [.op ⟨some 4, none, .mv (.k (I (-1)))⟩])
 .ret)))⟩
theorem g54 : Good 54 c54 := ⟨_, Tryz.func54, by kernel_rfl⟩

def c55 : AFunc := ⟨[.t 4], (.seq (.reg [.op ⟨some 4, none, .mv (.k .nils)⟩])
 (.seq (.reg [.op ⟨some 11, none, .mv (.t 0)⟩,
 .op ⟨some 12, none, .call 88 [(.t 11)]⟩,
 .op ⟨some 10, none, .mv (.t 12)⟩,
 .op ⟨some 13, none, .ext 0 (.t 10)⟩,
 .op ⟨some 14, none, .ext 1 (.t 10)⟩,
 .op ⟨some 15, none, .ext 2 (.t 10)⟩,
 .op ⟨some 5, none, .alloc [(.str []), (.str []), (I 0), .nils, .nils]⟩,
 .op ⟨none, none, .store 5 (.t 5) (.t 13)⟩,
 .op ⟨some 6, none, .mv (.t 14)⟩,
 .op ⟨some 7, none, .mv (.t 15)⟩])
 (.seq (.seq (.reg [.op ⟨some 16, none, .mv (.t 6)⟩,
 .op ⟨some 17, none, .bin .eql (.t 16) (.k (I 0))⟩])
 (.ite (.t 17) (.seq (.reg [.op ⟨some 4, none, .mv (.k .nils)⟩])
 .ret)
 .skip))
 (.seq (.reg [.op ⟨some 18, none, .fa 0 (.t 5)⟩,
 .op ⟨some 19, none, .load false 1 (.t 18)⟩,
 .op ⟨some 20, none, .bin .add (.t 19) (.k (.str [32]))⟩,
 .op ⟨some 21, none, .fa 1 (.t 5)⟩,
 .op ⟨some 22, none, .load false 1 (.t 21)⟩,
 .op ⟨some 23, none, .bin .add (.t 20) (.t 22)⟩,
 .op ⟨some 24, none, .bin .add (.t 23) (.k (.str [32]))⟩,
 .op ⟨some 25, none, .conv .s2b (.t 24)⟩,
 .op ⟨some 26, none, .fa 4 (.t 5)⟩,
 .op ⟨some 27, none, .load false 1 (.t 26)⟩,
 .op ⟨some 28, none, .app 1 1 (.t 25) (.t 27)⟩,
 .op ⟨some 8, none, .mv (.t 28)⟩])
 (.seq (.reg [.op ⟨some 29, none, .call 89 [(.k (I 200))]⟩,
 .op ⟨some 30, none, .mv (.t 8)⟩,
 .op ⟨some 31, none, .len .sl (.t 30)⟩,
 .op ⟨some 32, none, .call 36 [(.t 31)]⟩,
 .op ⟨some 33, none, .build [(.str []), (.str [])] [(0, 1, (.k (.str [67, 111, 110, 116, 101, 110, 116, 45, 76, 101, 110, 103, 116, 104]))), (1, 1, (.t 32))]⟩,
 .op ⟨some 34, none, .bslice 2 1 [(.str []), (.str [])] [(0, 2, (.t 33))]⟩,
 .op ⟨some 35, none, .mv (.t 8)⟩,
 .op ⟨some 36, none, .build [(I 0), (.str []), (I 0), .nils, .nils] [(0, 1, (.k (I 200))), (1, 1, (.t 29)), (2, 1, (.k (I 1))), (3, 1, (.t 34)), (4, 1, (.t 35))]⟩,
 .op ⟨some 9, none, .alloc [(I 0), (.str []), (I 0), .nils, .nils]⟩,
 .op ⟨none, none, .store 5 (.t 9) (.t 36)⟩])
 (.seq (.seq (.reg [.op ⟨some 37, none, .mv (.t 1)⟩])
 (.ite (.t 37) (.reg [.op ⟨some 38, none, .fa 3 (.t 9)⟩,
 .op ⟨some 39, none, .load false 1 (.t 38)⟩,
 .op ⟨some 40, none, .build [(.str []), (.str [])] [(0, 1, (.k (.str [67, 111, 110, 110, 101, 99, 116, 105, 111, 110]))), (1, 1, (.k (.str [99, 108, 111, 115, 101])))]⟩,
 .op ⟨some 41, none, .bslice 2 1 [(.str []), (.str [])] [(0, 2, (.t 40))]⟩,
 .op ⟨some 42, none, .app 2 32 (.t 39) (.t 41)⟩,
 .op ⟨some 43, none, .fa 3 (.t 9)⟩,
 .op ⟨none, none, .store 1 (.t 43) (.t 42)⟩])
 .skip))
 (.seq (.seq (.reg [.op ⟨some 44, none, .fa 0 (.t 5)⟩,
 .op ⟨some 45, none, .load false 1 (.t 44)⟩,
 .op ⟨some 46, none, .bin .eql (.t 45) (.k (.str [72, 69, 65, 68]))⟩])
 (.ite (.t 46) (.reg [.op ⟨some 47, none, .fa 4 (.t 9)⟩,
 .op ⟨none, none, .store 1 (.t 47) (.k .nils)⟩])
 .skip))
 (.seq (.reg [.op ⟨some 48, none, .load true 5 (.t 9)⟩,
 .op ⟨some 49, none, .call 90 [(.t 48)]⟩,
 .op ⟨some 4, none, .mv (.t 49)⟩])
 .ret))))))))⟩
theorem g55 : Good 55 c55 := ⟨_, Tryz.func55, by kernel_rfl⟩

def c56 : AFunc := ⟨[], (.seq (.reg [.op ⟨some 4, none, .box 6 (.t 1)⟩])
 (.reg [.op ⟨some 6, none, .mv (.t 0)⟩,
 .op ⟨some 7, none, .fa 2 (.t 4)⟩,
 .op ⟨some 8, none, .load false 1 (.t 7)⟩,
 .op ⟨some 9, none, .fa 3 (.t 4)⟩,
 .op ⟨some 10, none, .load false 1 (.t 9)⟩,
 .op ⟨some 11, none, .mv (.t 2)⟩,
 .op ⟨some 12, none, .build [(I 0), (I 0), (.str []), (I 0), (I 0), .nils] [(0, 1, (.k (I 6))), (2, 1, (.t 8)), (3, 1, (.t 10)), (5, 1, (.t 11))]⟩,
 .op ⟨some 13, none, .call 18 [(.t 6), (.t 12)]⟩]))⟩
theorem g56 : Good 56 c56 := ⟨_, Tryz.func56, by kernel_rfl⟩

def c57 : AFunc := ⟨[.t 4], (.seq (.reg [.op ⟨some 4, none, .mv (.k (I 0))⟩])
 (.seq (.reg [.op ⟨some 14, none, .mv (.t 1)⟩,
 .op ⟨some 15, none, .len .str (.t 14)⟩,
 .op ⟨some 5, none, .mv (.t 15)⟩])
 (.seq (.block 0 (.seq (.reg [.op ⟨some 17, none, .mv (.t 5)⟩,
 .op ⟨some 18, none, .bin .eql (.t 17) (.k (I 0))⟩,
 .op ⟨some 19, none, .mv (.t 18)⟩,
 .op ⟨some 20, some (19, false), .mv (.t 1)⟩,
 .op ⟨some 21, some (19, false), .mv (.t 0)⟩,
 .op ⟨some 22, some (19, false), .bin .eql (.t 20) (.t 21)⟩,
 .op ⟨some 23, none, .pick (.t 19) (.k (.bool true)) (.t 22)⟩,
 .op ⟨some 16, none, .mv (.t 23)⟩])
 (.ite (.t 16) (.seq (.reg [.op ⟨some 4, none, .mv (.k (I 0))⟩])
 .ret)
 (.seq (.reg [.op ⟨some 25, none, .mv (.t 5)⟩,
 .op ⟨some 26, none, .bin .eql (.t 25) (.k (I 1))⟩,
 .op ⟨some 24, none, .mv (.t 26)⟩])
 (.ite (.t 24) (.seq (.reg [.op ⟨some 27, none, .mv (.t 0)⟩,
 .op ⟨some 28, none, .mv (.t 1)⟩,
 .op ⟨some 29, none, .idx .str false (.t 28) (.k (I 0))⟩,
 .op ⟨some 30, none, .call 91 [(.t 27), (.t 29)]⟩,
 .op ⟨some 4, none, .mv (.t 30)⟩])
 .ret)
 (.seq (.reg [.op ⟨some 32, none, .mv (.t 5)⟩,
 .op ⟨some 33, none, .mv (.t 0)⟩,
 .op ⟨some 34, none, .len .str (.t 33)⟩,
 .op ⟨some 35, none, .bin .geq (.t 32) (.t 34)⟩,
 .op ⟨some 31, none, .mv (.t 35)⟩])
 (.ite (.t 31) (.seq (.reg [.op ⟨some 4, none, .mv (.k (I (-1)))⟩])
 .ret)
 (.seq (.reg [.op ⟨some 37, none, .mv (.t 5)⟩,
 .op ⟨some 38, none, .bad⟩,
 .op ⟨some 39, none, .bin .leq (.t 37) (.t 38)⟩,
 .op ⟨some 40, none, .mv (.t 39)⟩,
 .op ⟨some 41, some (40, true), .mv (.t 0)⟩,
 .op ⟨some 42, some (40, true), .len .str (.t 41)⟩,
 .op ⟨some 43, some (40, true), .bin .leq (.t 42) (.k (I 64))⟩,
 .op ⟨some 44, none, .pick (.t 40) (.t 43) (.k (.bool false))⟩,
 .op ⟨some 36, none, .mv (.t 44)⟩])
 (.ite (.t 36) (.seq (.reg [.op ⟨some 45, none, .mv (.t 0)⟩,
 .op ⟨some 46, none, .mv (.t 1)⟩,
 .op ⟨some 47, none, .call 92 [(.t 45), (.t 46)]⟩,
 .op ⟨some 4, none, .mv (.t 47)⟩])
 .ret)
 .skip)))))))))
 (.seq (.reg [.op ⟨some 48, none, .mv (.t 1)⟩,
 .op ⟨some 49, none, .idx .str false (.t 48) (.k (I 0))⟩,
 .op ⟨some 6, none, .mv (.t 49)⟩])
 (.seq (.reg [.op ⟨some 50, none, .mv (.t 1)⟩,
 .op ⟨some 51, none, .idx .str false (.t 50) (.k (I 1))⟩,
 .op ⟨some 7, none, .mv (.t 51)⟩])
 (.seq (.reg [.op ⟨some 8, none, .mv (.k (I 0))⟩])
 (.seq (.reg [.op ⟨some 52, none, .mv (.t 0)⟩,
 .op ⟨some 53, none, .len .str (.t 52)⟩,
 .op ⟨some 54, none, .mv (.t 5)⟩,
 .op ⟨some 55, none, .bin .sub (.t 53) (.t 54)⟩,
 .op ⟨some 56, none, .bin .add (.t 55) (.k (I 1))⟩,
 .op ⟨some 9, none, .mv (.t 56)⟩])
 (.seq (.reg [.op ⟨some 10, none, .mv (.k (I 0))⟩])
 (.seq (.block 1 (.loop (.seq (.seq (.reg [.op ⟨some 57, none, .mv (.t 8)⟩,
 .op ⟨some 58, none, .mv (.t 9)⟩,
 .op ⟨some 59, none, .bin .lss (.t 57) (.t 58)⟩])
 (.ite (.t 59) .skip
 (.exit 1)))
 (.block 2 (.seq (.seq (.reg [.op ⟨some 60, none, .mv (.t 0)⟩,
 .op ⟨some 61, none, .mv (.t 8)⟩,
 .op ⟨some 62, none, .idx .str false (.t 60) (.t 61)⟩,
 .op ⟨some 63, none, .mv (.t 6)⟩,
 .op ⟨some 64, none, .bin .neq (.t 62) (.t 63)⟩])
 (.ite (.t 64) (.seq (.reg [.op ⟨some 65, none, .mv (.t 0)⟩,
 .op ⟨some 66, none, .mv (.t 8)⟩,
 .op ⟨some 67, none, .bin .add (.t 66) (.k (I 1))⟩,
 .op ⟨some 68, none, .mv (.t 9)⟩,
 .op ⟨some 69, none, .slc .str (.t 65) (some (.t 67)) (some (.t 68)) none⟩,
 .op ⟨some 70, none, .mv (.t 6)⟩,
 .op ⟨some 71, none, .call 91 [(.t 69), (.t 70)]⟩,
 .op ⟨some 11, none, .mv (.t 71)⟩])
 (.seq (.seq (.reg [.op ⟨some 72, none, .mv (.t 11)⟩,
 .op ⟨some 73, none, .bin .lss (.t 72) (.k (I 0))⟩])
 (.ite (.t 73) (.seq (.reg [.op ⟨some 4, none, .mv (.k (I (-1)))⟩])
 .ret)
 .skip))
 (.reg [.op ⟨some 74, none, .mv (.t 8)⟩,
 .op ⟨some 75, none, .mv (.t 11)⟩,
 .op ⟨some 76, none, .bin .add (.t 75) (.k (I 1))⟩,
 .op ⟨some 77, none, .bin .add (.t 74) (.t 76)⟩,
 .op ⟨some 8, none, .mv (.t 77)⟩])))
 .skip))
 (.seq (.seq (.reg [.op ⟨some 78, none, .mv (.t 0)⟩,
 .op ⟨some 79, none, .mv (.t 8)⟩,
 .op ⟨some 80, none, .bin .add (.t 79) (.k (I 1))⟩,
 .op ⟨some 81, none, .idx .str false (.t 78) (.t 80)⟩,
 .op ⟨some 82, none, .mv (.t 7)⟩,
 .op ⟨some 83, none, .bin .eql (.t 81) (.t 82)⟩,
 .op ⟨some 84, none, .mv (.t 83)⟩,
 .op ⟨some 85, some (84, true), .mv (.t 0)⟩,
 .op ⟨some 86, some (84, true), .mv (.t 8)⟩,
 .op ⟨some 87, some (84, true), .mv (.t 8)⟩,
 .op ⟨some 88, some (84, true), .mv (.t 5)⟩,
 .op ⟨some 89, some (84, true), .bin .add (.t 87) (.t 88)⟩,
 .op ⟨some 90, some (84, true), .slc .str (.t 85) (some (.t 86)) (some (.t 89)) none⟩,
 .op ⟨some 91, some (84, true), .mv (.t 1)⟩,
 .op ⟨some 92, some (84, true), .bin .eql (.t 90) (.t 91)⟩,
 .op ⟨some 93, none, .pick (.t 84) (.t 92) (.k (.bool false))⟩])
 (.ite (.t 93) (.seq (.reg [.op ⟨some 94, none, .mv (.t 8)⟩,
 .op ⟨some 4, none, .mv (.t 94)⟩])
 .ret)
 .skip))
 (.seq (.reg [.op ⟨some 95, none, .mv (.t 8)⟩,
 .op ⟨some 96, none, .bin .add (.t 95) (.k (I 1))⟩,
 .op ⟨some 8, none, .mv (.t 96)⟩])
 (.seq (.reg [.op ⟨some 97, none, .mv (.t 10)⟩,
 .op ⟨some 98, none, .bin .add (.t 97) (.k (I 1))⟩,
 .op ⟨some 10, none, .mv (.t 98)⟩])
 (.seq (.reg [.op ⟨some 99, none, .mv (.t 5)⟩,
 .op ⟨some 100, none, .bad⟩,
 .op ⟨some 101, none, .bin .leq (.t 99) (.t 100)⟩,
 .op ⟨some 102, none, .mv (.t 101)⟩,
 .op ⟨some 103, some (102, true), .mv (.t 10)⟩,
 .op ⟨some 104, some (102, true), .mv (.t 8)⟩,
 .op ⟨some 105, some (102, true), .call 93 [(.t 104)]⟩,
 .op ⟨some 106, some (102, true), .bin .gtr (.t 103) (.t 105)⟩,
 .op ⟨some 107, none, .pick (.t 102) (.t 106) (.k (.bool false))⟩])
 (.ite (.t 107) (.seq (.reg [.op ⟨some 108, none, .mv (.t 0)⟩,
 .op ⟨some 109, none, .mv (.t 8)⟩,
 .op ⟨some 110, none, .slc .str (.t 108) (some (.t 109)) none none⟩,
 .op ⟨some 111, none, .mv (.t 1)⟩,
 .op ⟨some 112, none, .call 92 [(.t 110), (.t 111)]⟩,
 .op ⟨some 12, none, .mv (.t 112)⟩])
 (.seq (.seq (.reg [.op ⟨some 113, none, .mv (.t 12)⟩,
 .op ⟨some 114, none, .bin .geq (.t 113) (.k (I 0))⟩])
 (.ite (.t 114) (.seq (.reg [.op ⟨some 115, none, .mv (.t 12)⟩,
 .op ⟨some 116, none, .mv (.t 8)⟩,
 .op ⟨some 117, none, .bin .add (.t 115) (.t 116)⟩,
 .op ⟨some 4, none, .mv (.t 117)⟩])
 .ret)
 .skip))
 (.seq (.reg [.op ⟨some 4, none, .mv (.k (I (-1)))⟩])
 .ret)))
 (.seq (.reg [.op ⟨some 118, none, .mv (.t 5)⟩,
 .op ⟨some 119, none, .bad⟩,
 .op ⟨some 120, none, .bin .gtr (.t 118) (.t 119)⟩,
 .op ⟨some 121, none, .mv (.t 120)⟩,
 .op ⟨some 122, some (121, true), .mv (.t 10)⟩,
 .op ⟨some 123, some (121, true), .mv (.t 8)⟩,
 .op ⟨some 124, some (121, true), .bin .shr (.t 123) (.k (.int .u64 (4)))⟩,
 .op ⟨some 125, some (121, true), .bin .add (.k (I 4)) (.t 124)⟩,
 .op ⟨some 126, some (121, true), .bin .geq (.t 122) (.t 125)⟩,
 .op ⟨some 127, none, .pick (.t 121) (.t 126) (.k (.bool false))⟩,
 .op ⟨some 128, none, .mv (.t 127)⟩,
 .op ⟨some 129, some (128, true), .mv (.t 8)⟩,
 .op ⟨some 130, some (128, true), .mv (.t 9)⟩,
 .op ⟨some 131, some (128, true), .bin .lss (.t 129) (.t 130)⟩,
 .op ⟨some 132, none, .pick (.t 128) (.t 131) (.k (.bool false))⟩])
 (.ite (.t 132) (.seq (.reg [.op ⟨some 133, none, .mv (.t 0)⟩,
 .op ⟨some 134, none, .mv (.t 8)⟩,
 .op ⟨some 135, none, .slc .str (.t 133) (some (.t 134)) none none⟩,
 .op ⟨some 136, none, .mv (.t 1)⟩,
 .op ⟨some 137, none, .call 94 [(.t 135), (.t 136)]⟩,
 .op ⟨some 13, none, .mv (.t 137)⟩])
 (.seq (.seq (.reg [.op ⟨some 138, none, .mv (.t 13)⟩,
 .op ⟨some 139, none, .bin .lss (.t 138) (.k (I 0))⟩])
 (.ite (.t 139) (.seq (.reg [.op ⟨some 4, none, .mv (.k (I (-1)))⟩])
 .ret)
 .skip))
 (.seq (.reg [.op ⟨some 140, none, .mv (.t 8)⟩,
 .op ⟨some 141, none, .mv (.t 13)⟩,
 .op ⟨some 142, none, .bin .add (.t 140) (.t 141)⟩,
 .op ⟨some 4, none, .mv (.t 142)⟩])
 .ret)))
 .skip))))))))))))
 (.seq (.reg [.op ⟨some 4, none, .mv (.k (I (-1)))⟩])
 .ret))))))))))⟩
theorem g57 : Good 57 c57 := ⟨_, Tryz.func57, by kernel_rfl⟩

def c58 : AFunc := ⟨[.t 8], (.seq (.reg [.op ⟨some 8, none, .mv (.k .nils)⟩])
 (.seq (.seq (.reg [.op ⟨some 12, none, .mv (.t 3)⟩,
 .op ⟨some 13, none, .bin .eql (.t 12) (.k (I 0))⟩])
 (.ite (.t 13) (.seq (.reg [.op ⟨some 8, none, .mv (.k .nils)⟩])
 .ret)
 .skip))
 (.seq (.seq (.reg [.op ⟨some 14, none, .mv (.t 1)⟩,
 .op ⟨some 15, none, .bin .eql (.t 14) (.k (.str []))⟩])
 (.ite (.t 15) (.seq (.reg [.op ⟨some 16, none, .mv (.t 0)⟩,
 .op ⟨some 17, none, .mv (.t 3)⟩,
 .op ⟨some 18, none, .call 95 [(.t 16), (.t 17)]⟩,
 .op ⟨some 8, none, .mv (.t 18)⟩])
 .ret)
 .skip))
 (.seq (.seq (.reg [.op ⟨some 19, none, .mv (.t 3)⟩,
 .op ⟨some 20, none, .bin .lss (.t 19) (.k (I 0))⟩])
 (.ite (.t 20) (.reg [.op ⟨some 21, none, .mv (.t 0)⟩,
 .op ⟨some 22, none, .mv (.t 1)⟩,
 .op ⟨some 23, none, .call 96 [(.t 21), (.t 22)]⟩,
 .op ⟨some 24, none, .bin .add (.t 23) (.k (I 1))⟩,
 .op ⟨some 3, none, .mv (.t 24)⟩])
 .skip))
 (.seq (.reg [.op ⟨some 25, none, .mv (.t 3)⟩,
 .op ⟨some 26, none, .mv (.t 0)⟩,
 .op ⟨some 27, none, .len .str (.t 26)⟩,
 .op ⟨some 28, none, .bin .add (.t 27) (.k (I 1))⟩,
 .op ⟨some 29, none, .mn (.t 25) (.t 28)⟩,
 .op ⟨some 3, none, .mv (.t 29)⟩])
 (.seq (.reg [.op ⟨some 30, none, .mv (.t 3)⟩,
 .op ⟨some 31, none, .mks 1 16 [(.str [])] (.t 30) (.t 30)⟩,
 .op ⟨some 9, none, .mv (.t 31)⟩])
 (.seq (.reg [.op ⟨some 32, none, .mv (.t 3)⟩,
 .op ⟨some 33, none, .bin .sub (.t 32) (.k (I 1))⟩,
 .op ⟨some 3, none, .mv (.t 33)⟩])
 (.seq (.reg [.op ⟨some 10, none, .mv (.k (I 0))⟩])
 (.seq (.block 0 (.loop (.seq (.seq (.reg [.op ⟨some 34, none, .mv (.t 10)⟩,
 .op ⟨some 35, none, .mv (.t 3)⟩,
 .op ⟨some 36, none, .bin .lss (.t 34) (.t 35)⟩])
 (.ite (.t 36) .skip
 (.exit 0)))
 (.block 1 (.seq (.reg [.op ⟨some 37, none, .mv (.t 0)⟩,
 .op ⟨some 38, none, .mv (.t 1)⟩,
 .op ⟨some 39, none, .call 97 [(.t 37), (.t 38)]⟩,
 .op ⟨some 11, none, .mv (.t 39)⟩])
 (.seq (.seq (.reg [.op ⟨some 40, none, .mv (.t 11)⟩,
 .op ⟨some 41, none, .bin .lss (.t 40) (.k (I 0))⟩])
 (.ite (.t 41) (.exit 0)
 .skip))
 (.seq (.reg [.op ⟨some 42, none, .mv (.t 9)⟩,
 .op ⟨some 43, none, .mv (.t 10)⟩,
 .op ⟨some 44, none, .mv (.t 0)⟩,
 .op ⟨some 45, none, .mv (.t 11)⟩,
 .op ⟨some 46, none, .mv (.t 2)⟩,
 .op ⟨some 47, none, .bin .add (.t 45) (.t 46)⟩,
 .op ⟨some 48, none, .slc .str (.t 44) none (some (.t 47)) none⟩,
 .op ⟨some 49, none, .ia (.sl 1) (.t 42) (.t 43)⟩,
 .op ⟨none, none, .store 1 (.t 49) (.t 48)⟩])
 (.seq (.reg [.op ⟨some 50, none, .mv (.t 0)⟩,
 .op ⟨some 51, none, .mv (.t 11)⟩,
 .op ⟨some 52, none, .mv (.t 1)⟩,
 .op ⟨some 53, none, .len .str (.t 52)⟩,
 .op ⟨some 54, none, .bin .add (.t 51) (.t 53)⟩,
 .op ⟨some 55, none, .slc .str (.t 50) (some (.t 54)) none none⟩,
 .op ⟨some 0, none, .mv (.t 55)⟩])
 (.reg [.op ⟨some 56, none, .mv (.t 10)⟩,
 .op ⟨some 57, none, .bin .add (.t 56) (.k (I 1))⟩,
 .op ⟨some 10, none, .mv (.t 57)⟩])))))))))
 (.seq (.reg [.op ⟨some 58, none, .mv (.t 9)⟩,
 .op ⟨some 59, none, .mv (.t 10)⟩,
 .op ⟨some 60, none, .mv (.t 0)⟩,
 .op ⟨some 61, none, .ia (.sl 1) (.t 58) (.t 59)⟩,
 .op ⟨none, none, .store 1 (.t 61) (.t 60)⟩])
 (.seq (.reg [.op ⟨some 62, none, .mv (.t 9)⟩,
 .op ⟨some 63, none, .mv (.t 10)⟩,
 .op ⟨some 64, none, .bin .add (.t 63) (.k (I 1))⟩,
 .op ⟨some 65, none, .slc (.sl 1) (.t 62) none (some (.t 64)) none⟩,
 .op ⟨some 8, none, .mv (.t 65)⟩])
 .ret)))))))))))⟩
theorem g58 : Good 58 c58 := ⟨_, Tryz.func58, by kernel_rfl⟩

def c59 : AFunc := ⟨[.t 6, .t 7], (.seq (.reg [.op ⟨some 6, none, .mv (.k (I 0))⟩,
 .op ⟨some 7, none, .mv (.k (.bool false))⟩])
 (.seq (.reg [.op ⟨some 8, none, .mv (.k (I 0))⟩])
 (.seq (.seq (.reg [.op ⟨some 11, none, .mv (.t 0)⟩,
 .op ⟨some 12, none, .len .str (.t 11)⟩,
 .op ⟨some 13, none, .mv (.k (I 0))⟩])
 (.block 0 (.loop (.seq (.reg [.op ⟨some 14, none, .bin .lss (.t 13) (.t 12)⟩])
 (.seq (.ite (.t 14) .skip
 (.exit 0))
 (.seq (.block 1 (.seq (.reg [.op ⟨some 15, none, .mv (.t 13)⟩,
 .op ⟨some 9, none, .mv (.t 15)⟩])
 (.seq (.reg [.op ⟨some 16, none, .mv (.t 0)⟩,
 .op ⟨some 17, none, .mv (.t 9)⟩,
 .op ⟨some 18, none, .mv (.t 9)⟩,
 .op ⟨some 19, none, .bin .add (.t 18) (.k (I 1))⟩,
 .op ⟨some 20, none, .slc .str (.t 16) (some (.t 17)) (some (.t 19)) none⟩,
 .op ⟨some 21, none, .call 99 [(.t 20)]⟩,
 .op ⟨some 22, none, .idx .str false (.t 21) (.k (I 0))⟩,
 .op ⟨some 23, none, .call 98 [(.k (.str [48, 49, 50, 51, 52, 53, 54, 55, 56, 57, 97, 98, 99, 100, 101, 102])), (.t 22)]⟩,
 .op ⟨some 10, none, .mv (.t 23)⟩])
 (.seq (.seq (.reg [.op ⟨some 24, none, .mv (.t 10)⟩,
 .op ⟨some 25, none, .bin .lss (.t 24) (.k (I 0))⟩,
 .op ⟨some 26, none, .mv (.t 25)⟩,
 .op ⟨some 27, some (26, false), .mv (.t 10)⟩,
 .op ⟨some 28, some (26, false), .mv (.t 1)⟩,
 .op ⟨some 29, some (26, false), .bin .geq (.t 27) (.t 28)⟩,
 .op ⟨some 30, none, .pick (.t 26) (.k (.bool true)) (.t 29)⟩])
 (.ite (.t 30) (.seq (.reg [.op ⟨some 6, none, .mv (.k (I 0))⟩,
 .op ⟨some 7, none, .mv (.k (.bool false))⟩])
 .ret)
 .skip))
 (.seq (.reg [.op ⟨some 31, none, .mv (.t 9)⟩,
 .op ⟨some 32, none, .mv (.t 2)⟩,
 .op ⟨some 33, none, .bin .lss (.t 31) (.t 32)⟩])
 (.ite (.t 33) (.reg [.op ⟨some 34, none, .mv (.t 8)⟩,
 .op ⟨some 35, none, .mv (.t 1)⟩,
 .op ⟨some 36, none, .bin .mul (.t 34) (.t 35)⟩,
 .op ⟨some 37, none, .mv (.t 10)⟩,
 .op ⟨some 38, none, .bin .add (.t 36) (.t 37)⟩,
 .op ⟨some 8, none, .mv (.t 38)⟩])
 .skip))))))
 (.reg [.op ⟨some 39, none, .bin .add (.t 13) (.k (I 1))⟩,
 .op ⟨some 13, none, .mv (.t 39)⟩])))))))
 (.seq (.seq (.reg [.op ⟨some 40, none, .mv (.t 0)⟩,
 .op ⟨some 41, none, .bin .eql (.t 40) (.k (.str []))⟩,
 .op ⟨some 42, none, .mv (.t 41)⟩,
 .op ⟨some 43, some (42, false), .mv (.t 0)⟩,
 .op ⟨some 44, some (42, false), .len .str (.t 43)⟩,
 .op ⟨some 45, some (42, false), .mv (.t 2)⟩,
 .op ⟨some 46, some (42, false), .bin .gtr (.t 44) (.t 45)⟩,
 .op ⟨some 47, none, .pick (.t 42) (.k (.bool true)) (.t 46)⟩])
 (.ite (.t 47) (.seq (.reg [.op ⟨some 6, none, .mv (.k (I 0))⟩,
 .op ⟨some 7, none, .mv (.k (.bool false))⟩])
 .ret)
 .skip))
 (.seq (.reg [.op ⟨some 48, none, .mv (.t 8)⟩,
 .op ⟨some 6, none, .mv (.t 48)⟩,
 .op ⟨some 7, none, .mv (.k (.bool true))⟩])
 .ret)))))⟩
theorem g59 : Good 59 c59 := ⟨_, Tryz.func59, by kernel_rfl⟩

end Go.Proofs.Tryz
