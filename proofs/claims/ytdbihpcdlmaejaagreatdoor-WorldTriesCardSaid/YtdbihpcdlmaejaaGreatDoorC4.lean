/- The code that the statement reaches, as the evaluator takes it, part 4. -/
import Derived.Test.YtdbihpcdlmaejaaGreatDoorPre
set_option maxRecDepth 1000000
set_option maxHeartbeats 4000000
namespace Go.Proofs.Tryz
open Go Go.Ai Go.Proofs

def c133 : AFunc := ⟨[.t 4], (.seq (.reg [.op ⟨some 4, none, .mv (.k .nils)⟩])
 (.seq (.reg [.op ⟨some 6, none, .mv (.t 0)⟩,
 .op ⟨some 7, none, .nilchk (.t 6)⟩,
 .op ⟨some 8, none, .fa 1 (.t 7)⟩,
 .op ⟨some 9, none, .load false 1 (.t 8)⟩,
 .op ⟨some 10, none, .mv (.t 1)⟩,
 .op ⟨some 11, none, .mx (.t 10) (.k (I 0))⟩,
 .op ⟨some 12, none, .mv (.t 0)⟩,
 .op ⟨some 13, none, .call 131 [(.t 12)]⟩,
 .chk ⟨some 9, none, .load false 1 (.t 8)⟩,
 .op ⟨some 14, none, .mn (.t 11) (.t 13)⟩,
 .op ⟨some 15, none, .call 182 [(.t 9), (.t 14)]⟩,
 .op ⟨some 5, none, .mv (.t 15)⟩])
 (.seq (.reg [.op ⟨some 16, none, .mv (.t 0)⟩,
 .op ⟨some 17, none, .nilchk (.t 16)⟩,
 .op ⟨some 18, none, .fa 2 (.t 17)⟩,
 .op ⟨some 19, none, .load false 1 (.t 18)⟩,
 .op ⟨some 20, none, .mv (.t 5)⟩,
 .op ⟨some 21, none, .len .sl (.t 20)⟩,
 .op ⟨some 22, none, .bin .sub (.t 19) (.t 21)⟩,
 .op ⟨some 23, none, .nilchk (.t 16)⟩,
 .op ⟨some 24, none, .fa 2 (.t 23)⟩,
 .op ⟨none, none, .store 1 (.t 24) (.t 22)⟩])
 (.seq (.reg [.op ⟨some 25, none, .mv (.t 5)⟩,
 .op ⟨some 4, none, .mv (.t 25)⟩])
 .ret))))⟩
theorem g133 : Good 133 c133 := ⟨_, Tryz.func133, by kernel_rfl⟩

def c134 : AFunc := ⟨[.t 2], (.seq (.reg [.op ⟨some 2, none, .mv (.k (.bool false))⟩])
 (.seq (.reg [.op ⟨some 3, none, .mv (.t 0)⟩,
 .op ⟨some 4, none, .call 171 [(.t 3)]⟩,
 .op ⟨some 5, none, .mv (.t 4)⟩,
 .op ⟨some 6, some (5, true), .mv (.t 0)⟩,
 .op ⟨some 7, some (5, true), .nilchk (.t 6)⟩,
 .op ⟨some 8, some (5, true), .fa 3 (.t 7)⟩,
 .op ⟨some 9, some (5, true), .load false 1 (.t 8)⟩,
 .op ⟨some 10, some (5, true), .un .not (.t 9)⟩,
 .op ⟨some 11, none, .pick (.t 5) (.t 10) (.k (.bool false))⟩,
 .op ⟨some 12, none, .mv (.t 11)⟩,
 .op ⟨some 13, some (12, true), .mv (.t 0)⟩,
 .op ⟨some 14, some (12, true), .nilchk (.t 13)⟩,
 .op ⟨some 15, some (12, true), .fa 1 (.t 14)⟩,
 .op ⟨some 16, some (12, true), .load false 1 (.t 15)⟩,
 .op ⟨some 17, some (12, true), .call 117 [(.t 16)]⟩,
 .op ⟨some 18, some (12, true), .bin .eql (.t 17) (.k (I 0))⟩,
 .op ⟨some 19, none, .pick (.t 12) (.t 18) (.k (.bool false))⟩,
 .op ⟨some 2, none, .mv (.t 19)⟩])
 .ret))⟩
theorem g134 : Good 134 c134 := ⟨_, Tryz.func134, by kernel_rfl⟩

def c136 : AFunc := ⟨[.t 4], (.seq (.reg [.op ⟨some 4, none, .mv (.k (.bool false))⟩])
 (.seq (.reg [.op ⟨some 5, none, .mv (.t 0)⟩,
 .op ⟨some 6, none, .conv .b2s (.t 5)⟩,
 .op ⟨some 7, none, .mv (.t 1)⟩,
 .op ⟨some 8, none, .conv .b2s (.t 7)⟩,
 .op ⟨some 9, none, .bin .eql (.t 6) (.t 8)⟩,
 .op ⟨some 4, none, .mv (.t 9)⟩])
 .ret))⟩
theorem g136 : Good 136 c136 := ⟨_, Tryz.func136, by kernel_rfl⟩

def c137 : AFunc := ⟨[.t 4], (.seq (.reg [.op ⟨some 4, none, .mv (.k (.bool false))⟩])
 (.seq (.seq (.reg [.op ⟨some 6, none, .mv (.t 0)⟩,
 .op ⟨some 7, none, .len .str (.t 6)⟩,
 .op ⟨some 8, none, .mv (.k (I 0))⟩])
 (.block 0 (.loop (.seq (.reg [.op ⟨some 9, none, .bin .lss (.t 8) (.t 7)⟩])
 (.seq (.ite (.t 9) .skip
 (.exit 0))
 (.seq (.block 1 (.seq (.reg [.op ⟨some 10, none, .mv (.t 8)⟩,
 .op ⟨some 5, none, .mv (.t 10)⟩])
 (.seq (.reg [.op ⟨some 11, none, .mv (.t 1)⟩,
 .op ⟨some 12, none, .mv (.t 0)⟩,
 .op ⟨some 13, none, .mv (.t 5)⟩,
 .op ⟨some 14, none, .idx .str false (.t 12) (.t 13)⟩,
 .op ⟨some 15, none, .callv (.t 11) [(.t 14)]⟩,
 .op ⟨some 16, none, .un .not (.t 15)⟩])
 (.ite (.t 16) (.seq (.reg [.op ⟨some 4, none, .mv (.k (.bool false))⟩])
 .ret)
 .skip))))
 (.reg [.op ⟨some 17, none, .bin .add (.t 8) (.k (I 1))⟩,
 .op ⟨some 8, none, .mv (.t 17)⟩])))))))
 (.seq (.reg [.op ⟨some 4, none, .mv (.k (.bool true))⟩])
 .ret)))⟩
theorem g137 : Good 137 c137 := ⟨_, Tryz.func137, by kernel_rfl⟩

def c138 : AFunc := ⟨[.t 2], (.seq (.reg [.op ⟨some 2, none, .mv (.k (.bool false))⟩])
 (.seq (.reg [.op ⟨some 3, none, .mv (.t 0)⟩,
 .op ⟨some 4, none, .call 139 [(.t 3)]⟩,
 .op ⟨some 5, none, .mv (.t 4)⟩,
 .op ⟨some 6, some (5, false), .mv (.t 0)⟩,
 .op ⟨some 7, some (5, false), .call 98 [(.k (.str [33, 35, 36, 37, 38, 39, 42, 43, 45, 46, 94, 95, 96, 124, 126])), (.t 6)]⟩,
 .op ⟨some 8, some (5, false), .bin .geq (.t 7) (.k (I 0))⟩,
 .op ⟨some 9, none, .pick (.t 5) (.k (.bool true)) (.t 8)⟩,
 .op ⟨some 2, none, .mv (.t 9)⟩])
 .ret))⟩
theorem g138 : Good 138 c138 := ⟨_, Tryz.func138, by kernel_rfl⟩

def c139 : AFunc := ⟨[.t 2], (.seq (.reg [.op ⟨some 2, none, .mv (.k (.bool false))⟩])
 (.seq (.reg [.op ⟨some 3, none, .mv (.t 0)⟩,
 .op ⟨some 4, none, .bin .geq (.t 3) (.k (.int .u8 (97)))⟩,
 .op ⟨some 5, none, .mv (.t 4)⟩,
 .op ⟨some 6, some (5, true), .mv (.t 0)⟩,
 .op ⟨some 7, some (5, true), .bin .leq (.t 6) (.k (.int .u8 (122)))⟩,
 .op ⟨some 8, none, .pick (.t 5) (.t 7) (.k (.bool false))⟩,
 .op ⟨some 9, none, .mv (.t 8)⟩,
 .op ⟨some 10, some (9, false), .mv (.t 0)⟩,
 .op ⟨some 11, some (9, false), .bin .geq (.t 10) (.k (.int .u8 (65)))⟩,
 .op ⟨some 12, some (9, false), .mv (.t 11)⟩,
 .op ⟨some 13, some (12, true), .mv (.t 0)⟩,
 .op ⟨some 14, some (12, true), .bin .leq (.t 13) (.k (.int .u8 (90)))⟩,
 .op ⟨some 15, some (9, false), .pick (.t 12) (.t 14) (.k (.bool false))⟩,
 .op ⟨some 16, none, .pick (.t 9) (.k (.bool true)) (.t 15)⟩,
 .op ⟨some 17, none, .mv (.t 16)⟩,
 .op ⟨some 18, some (17, false), .mv (.t 0)⟩,
 .op ⟨some 19, some (17, false), .bin .geq (.t 18) (.k (.int .u8 (48)))⟩,
 .op ⟨some 20, some (17, false), .mv (.t 19)⟩,
 .op ⟨some 21, some (20, true), .mv (.t 0)⟩,
 .op ⟨some 22, some (20, true), .bin .leq (.t 21) (.k (.int .u8 (57)))⟩,
 .op ⟨some 23, some (17, false), .pick (.t 20) (.t 22) (.k (.bool false))⟩,
 .op ⟨some 24, none, .pick (.t 17) (.k (.bool true)) (.t 23)⟩,
 .op ⟨some 2, none, .mv (.t 24)⟩])
 .ret))⟩
theorem g139 : Good 139 c139 := ⟨_, Tryz.func139, by kernel_rfl⟩

def c140 : AFunc := ⟨[.t 2], (.seq (.reg [.op ⟨some 2, none, .mv (.k (.bool false))⟩])
 (.seq (.reg [.op ⟨some 3, none, .mv (.t 0)⟩,
 .op ⟨some 4, none, .bin .geq (.t 3) (.k (.int .u8 (33)))⟩,
 .op ⟨some 5, none, .mv (.t 4)⟩,
 .op ⟨some 6, some (5, true), .mv (.t 0)⟩,
 .op ⟨some 7, some (5, true), .bin .leq (.t 6) (.k (.int .u8 (126)))⟩,
 .op ⟨some 8, none, .pick (.t 5) (.t 7) (.k (.bool false))⟩,
 .op ⟨some 2, none, .mv (.t 8)⟩])
 .ret))⟩
theorem g140 : Good 140 c140 := ⟨_, Tryz.func140, by kernel_rfl⟩

def c141 : AFunc := ⟨[.c 2 true 5, .t 3, .t 4, .t 5, .t 6], (.seq (.reg [.op ⟨some 2, none, .alloc [(.str []), (.str []), (I 0), .nils, .nils]⟩,
 .op ⟨some 3, none, .mv (.k (I 0))⟩,
 .op ⟨some 4, none, .mv (.k (I 0))⟩,
 .op ⟨some 5, none, .mv (.k (.bool false))⟩,
 .op ⟨some 6, none, .mv (.k (I 0))⟩])
 (.seq (.reg [.op ⟨some 8, none, .mv (.t 0)⟩,
 .op ⟨some 9, none, .mkf 200 [] [(.t 2)]⟩,
 .op ⟨some 10, none, .call 199 [(.t 8), (.t 9)]⟩,
 .op ⟨some 7, none, .mv (.t 10)⟩,
 .op ⟨some 11, none, .ext 0 (.t 7)⟩,
 .op ⟨some 12, none, .ext 1 (.t 7)⟩,
 .op ⟨some 13, none, .ext 2 (.t 7)⟩,
 .op ⟨some 14, none, .fa 3 (.t 2)⟩,
 .op ⟨none, none, .store 1 (.t 14) (.t 11)⟩,
 .op ⟨some 3, none, .mv (.t 12)⟩,
 .op ⟨some 6, none, .mv (.t 13)⟩])
 (.seq (.seq (.reg [.op ⟨some 15, none, .mv (.t 3)⟩,
 .op ⟨some 16, none, .bin .eql (.t 15) (.k (I 0))⟩])
 (.ite (.t 16) (.seq (.reg [.op ⟨some 17, none, .build [(.str []), (.str []), (I 0), .nils, .nils] []⟩,
 .op ⟨some 18, none, .mv (.t 6)⟩,
 .op ⟨none, none, .store 5 (.t 2) (.t 17)⟩,
 .op ⟨some 3, none, .mv (.k (I 0))⟩,
 .op ⟨some 4, none, .mv (.k (I 0))⟩,
 .op ⟨some 5, none, .mv (.k (.bool false))⟩,
 .op ⟨some 6, none, .mv (.t 18)⟩])
 .ret)
 .skip))
 (.seq (.seq (.reg [.op ⟨some 19, none, .load true 5 (.t 2)⟩,
 .op ⟨some 20, none, .call 202 [(.t 19)]⟩,
 .op ⟨some 21, none, .un .not (.t 20)⟩])
 (.ite (.t 21) (.seq (.reg [.op ⟨some 22, none, .build [(.str []), (.str []), (I 0), .nils, .nils] []⟩,
 .op ⟨none, none, .store 5 (.t 2) (.t 22)⟩,
 .op ⟨some 3, none, .mv (.k (I 0))⟩,
 .op ⟨some 4, none, .mv (.k (I 0))⟩,
 .op ⟨some 5, none, .mv (.k (.bool false))⟩,
 .op ⟨some 6, none, .mv (.k (I 400))⟩])
 .ret)
 .skip))
 (.seq (.reg [.op ⟨some 24, none, .fa 3 (.t 2)⟩,
 .op ⟨some 25, none, .load false 1 (.t 24)⟩,
 .op ⟨some 26, none, .fa 2 (.t 2)⟩,
 .op ⟨some 27, none, .load false 1 (.t 26)⟩,
 .op ⟨some 28, none, .call 203 [(.t 25), (.t 27)]⟩,
 .op ⟨some 23, none, .mv (.t 28)⟩,
 .op ⟨some 29, none, .ext 0 (.t 23)⟩,
 .op ⟨some 30, none, .ext 1 (.t 23)⟩,
 .op ⟨some 31, none, .ext 2 (.t 23)⟩,
 .op ⟨some 4, none, .mv (.t 29)⟩,
 .op ⟨some 5, none, .mv (.t 30)⟩,
 .op ⟨some 6, none, .mv (.t 31)⟩])
 (.seq (.reg [.op ⟨some 32, none, .load true 5 (.t 2)⟩,
 .op ⟨some 33, none, .mv (.t 3)⟩,
 .op ⟨some 34, none, .mv (.t 4)⟩,
 .op ⟨some 35, none, .mv (.t 5)⟩,
 .op ⟨some 36, none, .mv (.t 6)⟩,
 .op ⟨none, none, .store 5 (.t 2) (.t 32)⟩,
 .op ⟨some 3, none, .mv (.t 33)⟩,
 .op ⟨some 4, none, .mv (.t 34)⟩,
 .op ⟨some 5, none, .mv (.t 35)⟩,
 .op ⟨some 6, none, .mv (.t 36)⟩])
 .ret))))))⟩
theorem g141 : Good 141 c141 := ⟨_, Tryz.func141, by kernel_rfl⟩

def c142 : AFunc := ⟨[.t 6, .t 7, .t 8], (.seq (.reg [.op ⟨some 6, none, .mv (.k .nils)⟩,
 .op ⟨some 7, none, .mv (.k (I 0))⟩,
 .op ⟨some 8, none, .mv (.k (I 0))⟩])
 (.seq (.seq (.reg [.op ⟨some 12, none, .mv (.t 2)⟩,
 .op ⟨some 13, none, .un .not (.t 12)⟩])
 (.ite (.t 13) (.seq (.seq (.reg [.op ⟨some 14, none, .mv (.t 0)⟩,
 .op ⟨some 15, none, .len .sl (.t 14)⟩,
 .op ⟨some 16, none, .mv (.t 1)⟩,
 .op ⟨some 17, none, .bin .lss (.t 15) (.t 16)⟩])
 (.ite (.t 17) (.seq (.reg [.op ⟨some 6, none, .mv (.k .nils)⟩,
 .op ⟨some 7, none, .mv (.k (I (-1)))⟩,
 .op ⟨some 8, none, .mv (.k (I 0))⟩])
 .ret)
 .skip))
 (.seq (.reg [.op ⟨some 18, none, .mv (.t 0)⟩,
 .op ⟨some 19, none, .mv (.t 1)⟩,
 .op ⟨some 20, none, .slc (.sl 1) (.t 18) none (some (.t 19)) none⟩,
 .op ⟨some 21, none, .call 21 [(.t 20)]⟩,
 .op ⟨some 22, none, .mv (.t 1)⟩,
 .op ⟨some 6, none, .mv (.t 21)⟩,
 .op ⟨some 7, none, .mv (.t 22)⟩,
 .op ⟨some 8, none, .mv (.k (I 0))⟩])
 .ret))
 .skip))
 (.seq (.reg [.op ⟨some 24, none, .mv (.t 0)⟩,
 .op ⟨some 25, none, .call 204 [(.t 24), (.k (I 4096))]⟩,
 .op ⟨some 23, none, .mv (.t 25)⟩,
 .op ⟨some 26, none, .ext 0 (.t 23)⟩,
 .op ⟨some 27, none, .ext 1 (.t 23)⟩,
 .op ⟨some 28, none, .ext 2 (.t 23)⟩,
 .op ⟨some 9, none, .mv (.t 26)⟩,
 .op ⟨some 10, none, .mv (.t 27)⟩,
 .op ⟨some 11, none, .mv (.t 28)⟩])
 (.seq (.block 0 (.seq (.reg [.op ⟨some 30, none, .mv (.t 11)⟩,
 .op ⟨some 31, none, .bin .eql (.t 30) (.k (I 2))⟩,
 .op ⟨some 29, none, .mv (.t 31)⟩])
 (.ite (.t 29) (.seq (.reg [.op ⟨some 6, none, .mv (.k .nils)⟩,
 .op ⟨some 7, none, .mv (.k (I (-1)))⟩,
 .op ⟨some 8, none, .mv (.k (I 413))⟩])
 .ret)
 (.seq (.reg [.op ⟨some 33, none, .mv (.t 11)⟩,
 .op ⟨some 34, none, .bin .neq (.t 33) (.k (I 0))⟩,
 .op ⟨some 32, none, .mv (.t 34)⟩])
 (.ite (.t 32) (.seq (.reg [.op ⟨some 6, none, .mv (.k .nils)⟩,
 .op ⟨some 7, none, .mv (.k (I (-1)))⟩,
 .op ⟨some 8, none, .mv (.k (I 400))⟩])
 .ret)
 (.seq (.reg [.op ⟨some 36, none, .mv (.t 10)⟩,
 .op ⟨some 37, none, .bin .eql (.t 36) (.k (I 0))⟩,
 .op ⟨some 35, none, .mv (.t 37)⟩])
 (.ite (.t 35) (.seq (.reg [.op ⟨some 6, none, .mv (.k .nils)⟩,
 .op ⟨some 7, none, .mv (.k (I (-1)))⟩,
 .op ⟨some 8, none, .mv (.k (I 0))⟩])
 .ret)
 .skip)))))))
 (.seq (.reg [.op ⟨some 38, none, .mv (.t 9)⟩,
 .op ⟨some 39, none, .mv (.t 10)⟩,
 .op ⟨some 6, none, .mv (.t 38)⟩,
 .op ⟨some 7, none, .mv (.t 39)⟩,
 .op ⟨some 8, none, .mv (.k (I 0))⟩])
 .ret)))))⟩
theorem g142 : Good 142 c142 := ⟨_, Tryz.func142, by kernel_rfl⟩

def c143 : AFunc := ⟨[.t 6], (.seq (.reg [.op ⟨some 6, none, .mv (.k .nils)⟩])
 (.seq (.reg [.op ⟨some 10, none, .mv (.t 0)⟩,
 .op ⟨some 11, none, .conv .s2b (.t 10)⟩,
 .op ⟨some 7, none, .mv (.t 11)⟩])
 (.seq (.seq (.reg [.op ⟨some 12, none, .mv (.t 1)⟩,
 .op ⟨some 13, none, .len .sl (.t 12)⟩,
 .op ⟨some 14, none, .mv (.k (I 0))⟩])
 (.block 0 (.loop (.seq (.reg [.op ⟨some 15, none, .bin .lss (.t 14) (.t 13)⟩])
 (.seq (.ite (.t 15) .skip
 (.exit 0))
 (.seq (.block 1 (.seq (.reg [.op ⟨some 16, none, .ia (.sl 2) (.t 12) (.t 14)⟩,
 .op ⟨some 17, none, .load true 2 (.t 16)⟩,
 .op ⟨some 9, none, .alloc [(.str []), (.str [])]⟩,
 .op ⟨none, none, .store 2 (.t 9) (.t 17)⟩])
 (.reg [.op ⟨some 18, none, .mv (.t 7)⟩,
 .op ⟨some 19, none, .load true 2 (.t 9)⟩,
 .op ⟨some 20, none, .call 205 [(.t 19)]⟩,
 .op ⟨some 21, none, .app 1 1 (.t 18) (.t 20)⟩,
 .op ⟨some 7, none, .mv (.t 21)⟩])))
 (.reg [.op ⟨some 22, none, .bin .add (.t 14) (.k (I 1))⟩,
 .op ⟨some 14, none, .mv (.t 22)⟩])))))))
 (.seq (.reg [.op ⟨some 23, none, .mv (.t 7)⟩,
 .op ⟨some 24, none, .app 1 1 (.t 23) (.k (.str [13, 10]))⟩,
 .op ⟨some 25, none, .mv (.t 2)⟩,
 .op ⟨some 26, none, .app 1 1 (.t 24) (.t 25)⟩,
 .op ⟨some 6, none, .mv (.t 26)⟩])
 .ret))))⟩
theorem g143 : Good 143 c143 := ⟨_, Tryz.func143, by kernel_rfl⟩

def c144 : AFunc := ⟨[.t 2], (.seq (.reg [.op ⟨some 1, none, .box 5 (.t 0)⟩,
 .op ⟨some 2, none, .mv (.k (.str []))⟩])
 (.seq (.reg [.op ⟨some 4, none, .fa 0 (.t 1)⟩,
 .op ⟨some 5, none, .load false 1 (.t 4)⟩,
 .op ⟨some 6, none, .call 36 [(.t 5)]⟩,
 .op ⟨some 3, none, .mv (.t 6)⟩])
 (.seq (.block 0 (.loop (.seq (.seq (.reg [.op ⟨some 7, none, .mv (.t 3)⟩,
 .op ⟨some 8, none, .len .str (.t 7)⟩,
 .op ⟨some 9, none, .bin .lss (.t 8) (.k (I 3))⟩])
 (.ite (.t 9) .skip
 (.exit 0)))
 (.block 1 (.reg [.op ⟨some 10, none, .mv (.t 3)⟩,
 .op ⟨some 11, none, .bin .add (.k (.str [48])) (.t 10)⟩,
 .op ⟨some 3, none, .mv (.t 11)⟩])))))
 (.seq (.reg [.op ⟨some 12, none, .fa 2 (.t 1)⟩,
 .op ⟨some 13, none, .load false 1 (.t 12)⟩,
 .op ⟨some 17, none, .mv (.t 3)⟩,
 .op ⟨some 20, none, .fa 1 (.t 1)⟩,
 .op ⟨some 21, none, .load false 1 (.t 20)⟩,
 .op ⟨some 14, none, .call 36 [(.t 13)]⟩,
 .chk ⟨some 21, none, .load false 1 (.t 20)⟩,
 .op ⟨some 15, none, .bin .add (.k (.str [72, 84, 84, 80, 47, 49, 46])) (.t 14)⟩,
 .op ⟨some 16, none, .bin .add (.t 15) (.k (.str [32]))⟩,
 .op ⟨some 18, none, .bin .add (.t 16) (.t 17)⟩,
 .op ⟨some 19, none, .bin .add (.t 18) (.k (.str [32]))⟩,
 .op ⟨some 22, none, .bin .add (.t 19) (.t 21)⟩,
 .op ⟨some 23, none, .bin .add (.t 22) (.k (.str [13, 10]))⟩,
 .op ⟨some 2, none, .mv (.t 23)⟩])
 .ret))))⟩
theorem g144 : Good 144 c144 := ⟨_, Tryz.func144, by kernel_rfl⟩

def c150 : AFunc := ⟨[.t 2], (.seq (.reg [.op ⟨some 2, none, .mv (.k (.str []))⟩])
 (.seq (.seq (.reg [.op ⟨some 3, none, .mv (.t 0)⟩,
 .op ⟨some 4, none, .bin .lss (.t 3) (.k (I 10))⟩])
 (.ite (.t 4) (.seq (.reg [.op ⟨some 5, none, .mv (.t 0)⟩,
 .op ⟨some 6, none, .mv (.t 0)⟩,
 .op ⟨some 7, none, .bin .add (.t 6) (.k (I 1))⟩,
 .op ⟨some 8, none, .slc .str (.k (.str [48, 49, 50, 51, 52, 53, 54, 55, 56, 57, 97, 98, 99, 100, 101, 102, 103, 104, 105, 106, 107, 108, 109, 110, 111, 112, 113, 114, 115, 116, 117, 118, 119, 120, 121, 122])) (some (.t 5)) (some (.t 7)) none⟩,
 .op ⟨some 2, none, .mv (.t 8)⟩])
 .ret)
 .skip))
 (.seq (.reg [.op ⟨some 9, none, .mv (.t 0)⟩,
 .op ⟨some 10, none, .bin .mul (.t 9) (.k (I 2))⟩,
 .op ⟨some 11, none, .mv (.t 0)⟩,
 .op ⟨some 12, none, .bin .mul (.t 11) (.k (I 2))⟩,
 .op ⟨some 13, none, .bin .add (.t 12) (.k (I 2))⟩,
 .op ⟨some 14, none, .slc .str (.k (.str [48, 48, 48, 49, 48, 50, 48, 51, 48, 52, 48, 53, 48, 54, 48, 55, 48, 56, 48, 57, 49, 48, 49, 49, 49, 50, 49, 51, 49, 52, 49, 53, 49, 54, 49, 55, 49, 56, 49, 57, 50, 48, 50, 49, 50, 50, 50, 51, 50, 52, 50, 53, 50, 54, 50, 55, 50, 56, 50, 57, 51, 48, 51, 49, 51, 50, 51, 51, 51, 52, 51, 53, 51, 54, 51, 55, 51, 56, 51, 57, 52, 48, 52, 49, 52, 50, 52, 51, 52, 52, 52, 53, 52, 54, 52, 55, 52, 56, 52, 57, 53, 48, 53, 49, 53, 50, 53, 51, 53, 52, 53, 53, 53, 54, 53, 55, 53, 56, 53, 57, 54, 48, 54, 49, 54, 50, 54, 51, 54, 52, 54, 53, 54, 54, 54, 55, 54, 56, 54, 57, 55, 48, 55, 49, 55, 50, 55, 51, 55, 52, 55, 53, 55, 54, 55, 55, 55, 56, 55, 57, 56, 48, 56, 49, 56, 50, 56, 51, 56, 52, 56, 53, 56, 54, 56, 55, 56, 56, 56, 57, 57, 48, 57, 49, 57, 50, 57, 51, 57, 52, 57, 53, 57, 54, 57, 55, 57, 56, 57, 57])) (some (.t 10)) (some (.t 13)) none⟩,
 .op ⟨some 2, none, .mv (.t 14)⟩])
 .ret)))⟩
theorem g150 : Good 150 c150 := ⟨_, Tryz.func150, by kernel_rfl⟩

def c151 : AFunc := ⟨[.t 2], (.seq (.reg [.op ⟨some 2, none, .mv (.k (I 0))⟩])
 (.seq (.reg [.op ⟨some 4, none, .mv (.t 0)⟩,
 .op ⟨some 5, none, .call 208 [(.t 4)]⟩,
 .op ⟨some 6, none, .call 207 [(.t 5)]⟩,
 .op ⟨some 3, none, .mv (.t 6)⟩])
 (.seq (.reg [.op ⟨some 7, none, .mv (.t 3)⟩,
 .op ⟨some 8, none, .mv (.t 0)⟩,
 .op ⟨some 9, none, .mv (.t 3)⟩,
 .op ⟨some 10, none, .ia (.arr 20 1) (.k (.ptr 1 0)) (.t 9)⟩,
 .op ⟨some 11, none, .load false 1 (.t 10)⟩,
 .op ⟨some 12, none, .bin .geq (.t 8) (.t 11)⟩,
 .op ⟨some 13, none, .call 209 [(.t 12)]⟩,
 .op ⟨some 14, none, .bin .add (.t 7) (.t 13)⟩,
 .op ⟨some 2, none, .mv (.t 14)⟩])
 .ret)))⟩
theorem g151 : Good 151 c151 := ⟨_, Tryz.func151, by kernel_rfl⟩

def c152 : AFunc := ⟨[], (.seq (.reg [.op ⟨some 17, none, .mv (.t 0)⟩,
 .op ⟨some 18, none, .len .sl (.t 17)⟩,
 .op ⟨some 4, none, .mv (.t 18)⟩])
 (.seq (.block 0 (.loop (.seq (.seq (.reg [.op ⟨some 19, none, .mv (.t 4)⟩,
 .op ⟨some 20, none, .bin .geq (.t 19) (.k (I 8))⟩])
 (.ite (.t 20) .skip
 (.exit 0)))
 (.block 1 (.seq (.reg [.op ⟨some 21, none, .mv (.t 1)⟩,
 .op ⟨some 22, none, .bin .rem (.t 21) (.k (.int .u64 (100000000)))⟩,
 .op ⟨some 23, none, .conv (.int .u32) (.t 22)⟩,
 .op ⟨some 5, none, .mv (.t 23)⟩])
 (.seq (.reg [.op ⟨some 24, none, .mv (.t 1)⟩,
 .op ⟨some 25, none, .bin .quo (.t 24) (.k (.int .u64 (100000000)))⟩,
 .op ⟨some 1, none, .mv (.t 25)⟩])
 (.seq (.reg [.op ⟨some 26, none, .mv (.t 5)⟩,
 .op ⟨some 27, none, .bin .quo (.t 26) (.k (.int .u32 (10000)))⟩,
 .op ⟨some 28, none, .mv (.t 5)⟩,
 .op ⟨some 29, none, .bin .rem (.t 28) (.k (.int .u32 (10000)))⟩,
 .op ⟨some 6, none, .mv (.t 27)⟩,
 .op ⟨some 7, none, .mv (.t 29)⟩])
 (.seq (.reg [.op ⟨some 30, none, .mv (.t 7)⟩,
 .op ⟨some 31, none, .bin .quo (.t 30) (.k (.int .u32 (100)))⟩,
 .op ⟨some 32, none, .bin .mul (.t 31) (.k (.int .u32 (2)))⟩,
 .op ⟨some 33, none, .mv (.t 7)⟩,
 .op ⟨some 34, none, .bin .rem (.t 33) (.k (.int .u32 (100)))⟩,
 .op ⟨some 35, none, .bin .mul (.t 34) (.k (.int .u32 (2)))⟩,
 .op ⟨some 8, none, .mv (.t 32)⟩,
 .op ⟨some 9, none, .mv (.t 35)⟩])
 (.seq (.reg [.op ⟨some 36, none, .mv (.t 6)⟩,
 .op ⟨some 37, none, .bin .quo (.t 36) (.k (.int .u32 (100)))⟩,
 .op ⟨some 38, none, .bin .mul (.t 37) (.k (.int .u32 (2)))⟩,
 .op ⟨some 39, none, .mv (.t 6)⟩,
 .op ⟨some 40, none, .bin .rem (.t 39) (.k (.int .u32 (100)))⟩,
 .op ⟨some 41, none, .bin .mul (.t 40) (.k (.int .u32 (2)))⟩,
 .op ⟨some 10, none, .mv (.t 38)⟩,
 .op ⟨some 11, none, .mv (.t 41)⟩])
 (.seq (.reg [.op ⟨some 42, none, .mv (.t 0)⟩,
 .op ⟨some 43, none, .mv (.t 4)⟩,
 .op ⟨some 44, none, .bin .sub (.t 43) (.k (I 1))⟩,
 .op ⟨some 45, none, .mv (.t 0)⟩,
 .op ⟨some 46, none, .mv (.t 4)⟩,
 .op ⟨some 47, none, .bin .sub (.t 46) (.k (I 2))⟩,
 .op ⟨some 48, none, .mv (.t 9)⟩,
 .op ⟨some 49, none, .bin .add (.t 48) (.k (.int .u32 (1)))⟩,
 .op ⟨some 50, none, .idx .str false (.k (.str [48, 48, 48, 49, 48, 50, 48, 51, 48, 52, 48, 53, 48, 54, 48, 55, 48, 56, 48, 57, 49, 48, 49, 49, 49, 50, 49, 51, 49, 52, 49, 53, 49, 54, 49, 55, 49, 56, 49, 57, 50, 48, 50, 49, 50, 50, 50, 51, 50, 52, 50, 53, 50, 54, 50, 55, 50, 56, 50, 57, 51, 48, 51, 49, 51, 50, 51, 51, 51, 52, 51, 53, 51, 54, 51, 55, 51, 56, 51, 57, 52, 48, 52, 49, 52, 50, 52, 51, 52, 52, 52, 53, 52, 54, 52, 55, 52, 56, 52, 57, 53, 48, 53, 49, 53, 50, 53, 51, 53, 52, 53, 53, 53, 54, 53, 55, 53, 56, 53, 57, 54, 48, 54, 49, 54, 50, 54, 51, 54, 52, 54, 53, 54, 54, 54, 55, 54, 56, 54, 57, 55, 48, 55, 49, 55, 50, 55, 51, 55, 52, 55, 53, 55, 54, 55, 55, 55, 56, 55, 57, 56, 48, 56, 49, 56, 50, 56, 51, 56, 52, 56, 53, 56, 54, 56, 55, 56, 56, 56, 57, 57, 48, 57, 49, 57, 50, 57, 51, 57, 52, 57, 53, 57, 54, 57, 55, 57, 56, 57, 57])) (.t 49)⟩,
 .op ⟨some 51, none, .mv (.t 9)⟩,
 .op ⟨some 52, none, .idx .str false (.k (.str [48, 48, 48, 49, 48, 50, 48, 51, 48, 52, 48, 53, 48, 54, 48, 55, 48, 56, 48, 57, 49, 48, 49, 49, 49, 50, 49, 51, 49, 52, 49, 53, 49, 54, 49, 55, 49, 56, 49, 57, 50, 48, 50, 49, 50, 50, 50, 51, 50, 52, 50, 53, 50, 54, 50, 55, 50, 56, 50, 57, 51, 48, 51, 49, 51, 50, 51, 51, 51, 52, 51, 53, 51, 54, 51, 55, 51, 56, 51, 57, 52, 48, 52, 49, 52, 50, 52, 51, 52, 52, 52, 53, 52, 54, 52, 55, 52, 56, 52, 57, 53, 48, 53, 49, 53, 50, 53, 51, 53, 52, 53, 53, 53, 54, 53, 55, 53, 56, 53, 57, 54, 48, 54, 49, 54, 50, 54, 51, 54, 52, 54, 53, 54, 54, 54, 55, 54, 56, 54, 57, 55, 48, 55, 49, 55, 50, 55, 51, 55, 52, 55, 53, 55, 54, 55, 55, 55, 56, 55, 57, 56, 48, 56, 49, 56, 50, 56, 51, 56, 52, 56, 53, 56, 54, 56, 55, 56, 56, 56, 57, 57, 48, 57, 49, 57, 50, 57, 51, 57, 52, 57, 53, 57, 54, 57, 55, 57, 56, 57, 57])) (.t 51)⟩,
 .op ⟨some 53, none, .ia (.sl 1) (.t 42) (.t 44)⟩,
 .op ⟨none, none, .store 1 (.t 53) (.t 50)⟩,
 .op ⟨some 54, none, .ia (.sl 1) (.t 45) (.t 47)⟩,
 .op ⟨none, none, .store 1 (.t 54) (.t 52)⟩])
 (.seq (.reg [.op ⟨some 55, none, .mv (.t 0)⟩,
 .op ⟨some 56, none, .mv (.t 4)⟩,
 .op ⟨some 57, none, .bin .sub (.t 56) (.k (I 3))⟩,
 .op ⟨some 58, none, .mv (.t 0)⟩,
 .op ⟨some 59, none, .mv (.t 4)⟩,
 .op ⟨some 60, none, .bin .sub (.t 59) (.k (I 4))⟩,
 .op ⟨some 61, none, .mv (.t 8)⟩,
 .op ⟨some 62, none, .bin .add (.t 61) (.k (.int .u32 (1)))⟩,
 .op ⟨some 63, none, .idx .str false (.k (.str [48, 48, 48, 49, 48, 50, 48, 51, 48, 52, 48, 53, 48, 54, 48, 55, 48, 56, 48, 57, 49, 48, 49, 49, 49, 50, 49, 51, 49, 52, 49, 53, 49, 54, 49, 55, 49, 56, 49, 57, 50, 48, 50, 49, 50, 50, 50, 51, 50, 52, 50, 53, 50, 54, 50, 55, 50, 56, 50, 57, 51, 48, 51, 49, 51, 50, 51, 51, 51, 52, 51, 53, 51, 54, 51, 55, 51, 56, 51, 57, 52, 48, 52, 49, 52, 50, 52, 51, 52, 52, 52, 53, 52, 54, 52, 55, 52, 56, 52, 57, 53, 48, 53, 49, 53, 50, 53, 51, 53, 52, 53, 53, 53, 54, 53, 55, 53, 56, 53, 57, 54, 48, 54, 49, 54, 50, 54, 51, 54, 52, 54, 53, 54, 54, 54, 55, 54, 56, 54, 57, 55, 48, 55, 49, 55, 50, 55, 51, 55, 52, 55, 53, 55, 54, 55, 55, 55, 56, 55, 57, 56, 48, 56, 49, 56, 50, 56, 51, 56, 52, 56, 53, 56, 54, 56, 55, 56, 56, 56, 57, 57, 48, 57, 49, 57, 50, 57, 51, 57, 52, 57, 53, 57, 54, 57, 55, 57, 56, 57, 57])) (.t 62)⟩,
 .op ⟨some 64, none, .mv (.t 8)⟩,
 .op ⟨some 65, none, .idx .str false (.k (.str [48, 48, 48, 49, 48, 50, 48, 51, 48, 52, 48, 53, 48, 54, 48, 55, 48, 56, 48, 57, 49, 48, 49, 49, 49, 50, 49, 51, 49, 52, 49, 53, 49, 54, 49, 55, 49, 56, 49, 57, 50, 48, 50, 49, 50, 50, 50, 51, 50, 52, 50, 53, 50, 54, 50, 55, 50, 56, 50, 57, 51, 48, 51, 49, 51, 50, 51, 51, 51, 52, 51, 53, 51, 54, 51, 55, 51, 56, 51, 57, 52, 48, 52, 49, 52, 50, 52, 51, 52, 52, 52, 53, 52, 54, 52, 55, 52, 56, 52, 57, 53, 48, 53, 49, 53, 50, 53, 51, 53, 52, 53, 53, 53, 54, 53, 55, 53, 56, 53, 57, 54, 48, 54, 49, 54, 50, 54, 51, 54, 52, 54, 53, 54, 54, 54, 55, 54, 56, 54, 57, 55, 48, 55, 49, 55, 50, 55, 51, 55, 52, 55, 53, 55, 54, 55, 55, 55, 56, 55, 57, 56, 48, 56, 49, 56, 50, 56, 51, 56, 52, 56, 53, 56, 54, 56, 55, 56, 56, 56, 57, 57, 48, 57, 49, 57, 50, 57, 51, 57, 52, 57, 53, 57, 54, 57, 55, 57, 56, 57, 57])) (.t 64)⟩,
 .op ⟨some 66, none, .ia (.sl 1) (.t 55) (.t 57)⟩,
 .op ⟨none, none, .store 1 (.t 66) (.t 63)⟩,
 .op ⟨some 67, none, .ia (.sl 1) (.t 58) (.t 60)⟩,
 .op ⟨none, none, .store 1 (.t 67) (.t 65)⟩])
 (.seq (.reg [.op ⟨some 68, none, .mv (.t 0)⟩,
 .op ⟨some 69, none, .mv (.t 4)⟩,
 .op ⟨some 70, none, .bin .sub (.t 69) (.k (I 5))⟩,
 .op ⟨some 71, none, .mv (.t 0)⟩,
 .op ⟨some 72, none, .mv (.t 4)⟩,
 .op ⟨some 73, none, .bin .sub (.t 72) (.k (I 6))⟩,
 .op ⟨some 74, none, .mv (.t 11)⟩,
 .op ⟨some 75, none, .bin .add (.t 74) (.k (.int .u32 (1)))⟩,
 .op ⟨some 76, none, .idx .str false (.k (.str [48, 48, 48, 49, 48, 50, 48, 51, 48, 52, 48, 53, 48, 54, 48, 55, 48, 56, 48, 57, 49, 48, 49, 49, 49, 50, 49, 51, 49, 52, 49, 53, 49, 54, 49, 55, 49, 56, 49, 57, 50, 48, 50, 49, 50, 50, 50, 51, 50, 52, 50, 53, 50, 54, 50, 55, 50, 56, 50, 57, 51, 48, 51, 49, 51, 50, 51, 51, 51, 52, 51, 53, 51, 54, 51, 55, 51, 56, 51, 57, 52, 48, 52, 49, 52, 50, 52, 51, 52, 52, 52, 53, 52, 54, 52, 55, 52, 56, 52, 57, 53, 48, 53, 49, 53, 50, 53, 51, 53, 52, 53, 53, 53, 54, 53, 55, 53, 56, 53, 57, 54, 48, 54, 49, 54, 50, 54, 51, 54, 52, 54, 53, 54, 54, 54, 55, 54, 56, 54, 57, 55, 48, 55, 49, 55, 50, 55, 51, 55, 52, 55, 53, 55, 54, 55, 55, 55, 56, 55, 57, 56, 48, 56, 49, 56, 50, 56, 51, 56, 52, 56, 53, 56, 54, 56, 55, 56, 56, 56, 57, 57, 48, 57, 49, 57, 50, 57, 51, 57, 52, 57, 53, 57, 54, 57, 55, 57, 56, 57, 57])) (.t 75)⟩,
 .op ⟨some 77, none, .mv (.t 11)⟩,
 .op ⟨some 78, none, .idx .str false (.k (.str [48, 48, 48, 49, 48, 50, 48, 51, 48, 52, 48, 53, 48, 54, 48, 55, 48, 56, 48, 57, 49, 48, 49, 49, 49, 50, 49, 51, 49, 52, 49, 53, 49, 54, 49, 55, 49, 56, 49, 57, 50, 48, 50, 49, 50, 50, 50, 51, 50, 52, 50, 53, 50, 54, 50, 55, 50, 56, 50, 57, 51, 48, 51, 49, 51, 50, 51, 51, 51, 52, 51, 53, 51, 54, 51, 55, 51, 56, 51, 57, 52, 48, 52, 49, 52, 50, 52, 51, 52, 52, 52, 53, 52, 54, 52, 55, 52, 56, 52, 57, 53, 48, 53, 49, 53, 50, 53, 51, 53, 52, 53, 53, 53, 54, 53, 55, 53, 56, 53, 57, 54, 48, 54, 49, 54, 50, 54, 51, 54, 52, 54, 53, 54, 54, 54, 55, 54, 56, 54, 57, 55, 48, 55, 49, 55, 50, 55, 51, 55, 52, 55, 53, 55, 54, 55, 55, 55, 56, 55, 57, 56, 48, 56, 49, 56, 50, 56, 51, 56, 52, 56, 53, 56, 54, 56, 55, 56, 56, 56, 57, 57, 48, 57, 49, 57, 50, 57, 51, 57, 52, 57, 53, 57, 54, 57, 55, 57, 56, 57, 57])) (.t 77)⟩,
 .op ⟨some 79, none, .ia (.sl 1) (.t 68) (.t 70)⟩,
 .op ⟨none, none, .store 1 (.t 79) (.t 76)⟩,
 .op ⟨some 80, none, .ia (.sl 1) (.t 71) (.t 73)⟩,
 .op ⟨none, none, .store 1 (.t 80) (.t 78)⟩])
 (.seq (.reg [.op ⟨some 81, none, .mv (.t 0)⟩,
 .op ⟨some 82, none, .mv (.t 4)⟩,
 .op ⟨some 83, none, .bin .sub (.t 82) (.k (I 7))⟩,
 .op ⟨some 84, none, .mv (.t 0)⟩,
 .op ⟨some 85, none, .mv (.t 4)⟩,
 .op ⟨some 86, none, .bin .sub (.t 85) (.k (I 8))⟩,
 .op ⟨some 87, none, .mv (.t 10)⟩,
 .op ⟨some 88, none, .bin .add (.t 87) (.k (.int .u32 (1)))⟩,
 .op ⟨some 89, none, .idx .str false (.k (.str [48, 48, 48, 49, 48, 50, 48, 51, 48, 52, 48, 53, 48, 54, 48, 55, 48, 56, 48, 57, 49, 48, 49, 49, 49, 50, 49, 51, 49, 52, 49, 53, 49, 54, 49, 55, 49, 56, 49, 57, 50, 48, 50, 49, 50, 50, 50, 51, 50, 52, 50, 53, 50, 54, 50, 55, 50, 56, 50, 57, 51, 48, 51, 49, 51, 50, 51, 51, 51, 52, 51, 53, 51, 54, 51, 55, 51, 56, 51, 57, 52, 48, 52, 49, 52, 50, 52, 51, 52, 52, 52, 53, 52, 54, 52, 55, 52, 56, 52, 57, 53, 48, 53, 49, 53, 50, 53, 51, 53, 52, 53, 53, 53, 54, 53, 55, 53, 56, 53, 57, 54, 48, 54, 49, 54, 50, 54, 51, 54, 52, 54, 53, 54, 54, 54, 55, 54, 56, 54, 57, 55, 48, 55, 49, 55, 50, 55, 51, 55, 52, 55, 53, 55, 54, 55, 55, 55, 56, 55, 57, 56, 48, 56, 49, 56, 50, 56, 51, 56, 52, 56, 53, 56, 54, 56, 55, 56, 56, 56, 57, 57, 48, 57, 49, 57, 50, 57, 51, 57, 52, 57, 53, 57, 54, 57, 55, 57, 56, 57, 57])) (.t 88)⟩,
 .op ⟨some 90, none, .mv (.t 10)⟩,
 .op ⟨some 91, none, .idx .str false (.k (.str [48, 48, 48, 49, 48, 50, 48, 51, 48, 52, 48, 53, 48, 54, 48, 55, 48, 56, 48, 57, 49, 48, 49, 49, 49, 50, 49, 51, 49, 52, 49, 53, 49, 54, 49, 55, 49, 56, 49, 57, 50, 48, 50, 49, 50, 50, 50, 51, 50, 52, 50, 53, 50, 54, 50, 55, 50, 56, 50, 57, 51, 48, 51, 49, 51, 50, 51, 51, 51, 52, 51, 53, 51, 54, 51, 55, 51, 56, 51, 57, 52, 48, 52, 49, 52, 50, 52, 51, 52, 52, 52, 53, 52, 54, 52, 55, 52, 56, 52, 57, 53, 48, 53, 49, 53, 50, 53, 51, 53, 52, 53, 53, 53, 54, 53, 55, 53, 56, 53, 57, 54, 48, 54, 49, 54, 50, 54, 51, 54, 52, 54, 53, 54, 54, 54, 55, 54, 56, 54, 57, 55, 48, 55, 49, 55, 50, 55, 51, 55, 52, 55, 53, 55, 54, 55, 55, 55, 56, 55, 57, 56, 48, 56, 49, 56, 50, 56, 51, 56, 52, 56, 53, 56, 54, 56, 55, 56, 56, 56, 57, 57, 48, 57, 49, 57, 50, 57, 51, 57, 52, 57, 53, 57, 54, 57, 55, 57, 56, 57, 57])) (.t 90)⟩,
 .op ⟨some 92, none, .ia (.sl 1) (.t 81) (.t 83)⟩,
 .op ⟨none, none, .store 1 (.t 92) (.t 89)⟩,
 .op ⟨some 93, none, .ia (.sl 1) (.t 84) (.t 86)⟩,
 .op ⟨none, none, .store 1 (.t 93) (.t 91)⟩])
 (.reg [.op ⟨some 94, none, .mv (.t 4)⟩,
 .op ⟨some 95, none, .bin .sub (.t 94) (.k (I 8))⟩,
 .op ⟨some 4, none, .mv (.t 95)⟩]))))))))))))))
 (.seq (.reg [.op ⟨some 96, none, .mv (.t 1)⟩,
 .op ⟨some 97, none, .conv (.int .u32) (.t 96)⟩,
 .op ⟨some 12, none, .mv (.t 97)⟩])
 (.seq (.seq (.reg [.op ⟨some 98, none, .mv (.t 4)⟩,
 .op ⟨some 99, none, .bin .geq (.t 98) (.k (I 4))⟩])
 (.ite (.t 99) (.seq (.reg [.op ⟨some 100, none, .mv (.t 12)⟩,
 .op ⟨some 101, none, .bin .rem (.t 100) (.k (.int .u32 (10000)))⟩,
 .op ⟨some 13, none, .mv (.t 101)⟩])
 (.seq (.reg [.op ⟨some 102, none, .mv (.t 12)⟩,
 .op ⟨some 103, none, .bin .quo (.t 102) (.k (.int .u32 (10000)))⟩,
 .op ⟨some 12, none, .mv (.t 103)⟩])
 (.seq (.reg [.op ⟨some 104, none, .mv (.t 13)⟩,
 .op ⟨some 105, none, .bin .quo (.t 104) (.k (.int .u32 (100)))⟩,
 .op ⟨some 106, none, .bin .mul (.t 105) (.k (.int .u32 (2)))⟩,
 .op ⟨some 107, none, .mv (.t 13)⟩,
 .op ⟨some 108, none, .bin .rem (.t 107) (.k (.int .u32 (100)))⟩,
 .op ⟨some 109, none, .bin .mul (.t 108) (.k (.int .u32 (2)))⟩,
 .op ⟨some 14, none, .mv (.t 106)⟩,
 .op ⟨some 15, none, .mv (.t 109)⟩])
 (.seq (.reg [.op ⟨some 110, none, .mv (.t 0)⟩,
 .op ⟨some 111, none, .mv (.t 4)⟩,
 .op ⟨some 112, none, .bin .sub (.t 111) (.k (I 1))⟩,
 .op ⟨some 113, none, .mv (.t 0)⟩,
 .op ⟨some 114, none, .mv (.t 4)⟩,
 .op ⟨some 115, none, .bin .sub (.t 114) (.k (I 2))⟩,
 .op ⟨some 116, none, .mv (.t 15)⟩,
 .op ⟨some 117, none, .bin .add (.t 116) (.k (.int .u32 (1)))⟩,
 .op ⟨some 118, none, .idx .str false (.k (.str [48, 48, 48, 49, 48, 50, 48, 51, 48, 52, 48, 53, 48, 54, 48, 55, 48, 56, 48, 57, 49, 48, 49, 49, 49, 50, 49, 51, 49, 52, 49, 53, 49, 54, 49, 55, 49, 56, 49, 57, 50, 48, 50, 49, 50, 50, 50, 51, 50, 52, 50, 53, 50, 54, 50, 55, 50, 56, 50, 57, 51, 48, 51, 49, 51, 50, 51, 51, 51, 52, 51, 53, 51, 54, 51, 55, 51, 56, 51, 57, 52, 48, 52, 49, 52, 50, 52, 51, 52, 52, 52, 53, 52, 54, 52, 55, 52, 56, 52, 57, 53, 48, 53, 49, 53, 50, 53, 51, 53, 52, 53, 53, 53, 54, 53, 55, 53, 56, 53, 57, 54, 48, 54, 49, 54, 50, 54, 51, 54, 52, 54, 53, 54, 54, 54, 55, 54, 56, 54, 57, 55, 48, 55, 49, 55, 50, 55, 51, 55, 52, 55, 53, 55, 54, 55, 55, 55, 56, 55, 57, 56, 48, 56, 49, 56, 50, 56, 51, 56, 52, 56, 53, 56, 54, 56, 55, 56, 56, 56, 57, 57, 48, 57, 49, 57, 50, 57, 51, 57, 52, 57, 53, 57, 54, 57, 55, 57, 56, 57, 57])) (.t 117)⟩,
 .op ⟨some 119, none, .mv (.t 15)⟩,
 .op ⟨some 120, none, .idx .str false (.k (.str [48, 48, 48, 49, 48, 50, 48, 51, 48, 52, 48, 53, 48, 54, 48, 55, 48, 56, 48, 57, 49, 48, 49, 49, 49, 50, 49, 51, 49, 52, 49, 53, 49, 54, 49, 55, 49, 56, 49, 57, 50, 48, 50, 49, 50, 50, 50, 51, 50, 52, 50, 53, 50, 54, 50, 55, 50, 56, 50, 57, 51, 48, 51, 49, 51, 50, 51, 51, 51, 52, 51, 53, 51, 54, 51, 55, 51, 56, 51, 57, 52, 48, 52, 49, 52, 50, 52, 51, 52, 52, 52, 53, 52, 54, 52, 55, 52, 56, 52, 57, 53, 48, 53, 49, 53, 50, 53, 51, 53, 52, 53, 53, 53, 54, 53, 55, 53, 56, 53, 57, 54, 48, 54, 49, 54, 50, 54, 51, 54, 52, 54, 53, 54, 54, 54, 55, 54, 56, 54, 57, 55, 48, 55, 49, 55, 50, 55, 51, 55, 52, 55, 53, 55, 54, 55, 55, 55, 56, 55, 57, 56, 48, 56, 49, 56, 50, 56, 51, 56, 52, 56, 53, 56, 54, 56, 55, 56, 56, 56, 57, 57, 48, 57, 49, 57, 50, 57, 51, 57, 52, 57, 53, 57, 54, 57, 55, 57, 56, 57, 57])) (.t 119)⟩,
 .op ⟨some 121, none, .ia (.sl 1) (.t 110) (.t 112)⟩,
 .op ⟨none, none, .store 1 (.t 121) (.t 118)⟩,
 .op ⟨some 122, none, .ia (.sl 1) (.t 113) (.t 115)⟩,
 .op ⟨none, none, .store 1 (.t 122) (.t 120)⟩])
 (.seq (.reg [.op ⟨some 123, none, .mv (.t 0)⟩,
 .op ⟨some 124, none, .mv (.t 4)⟩,
 .op ⟨some 125, none, .bin .sub (.t 124) (.k (I 3))⟩,
 .op ⟨some 126, none, .mv (.t 0)⟩,
 .op ⟨some 127, none, .mv (.t 4)⟩,
 .op ⟨some 128, none, .bin .sub (.t 127) (.k (I 4))⟩,
 .op ⟨some 129, none, .mv (.t 14)⟩,
 .op ⟨some 130, none, .bin .add (.t 129) (.k (.int .u32 (1)))⟩,
 .op ⟨some 131, none, .idx .str false (.k (.str [48, 48, 48, 49, 48, 50, 48, 51, 48, 52, 48, 53, 48, 54, 48, 55, 48, 56, 48, 57, 49, 48, 49, 49, 49, 50, 49, 51, 49, 52, 49, 53, 49, 54, 49, 55, 49, 56, 49, 57, 50, 48, 50, 49, 50, 50, 50, 51, 50, 52, 50, 53, 50, 54, 50, 55, 50, 56, 50, 57, 51, 48, 51, 49, 51, 50, 51, 51, 51, 52, 51, 53, 51, 54, 51, 55, 51, 56, 51, 57, 52, 48, 52, 49, 52, 50, 52, 51, 52, 52, 52, 53, 52, 54, 52, 55, 52, 56, 52, 57, 53, 48, 53, 49, 53, 50, 53, 51, 53, 52, 53, 53, 53, 54, 53, 55, 53, 56, 53, 57, 54, 48, 54, 49, 54, 50, 54, 51, 54, 52, 54, 53, 54, 54, 54, 55, 54, 56, 54, 57, 55, 48, 55, 49, 55, 50, 55, 51, 55, 52, 55, 53, 55, 54, 55, 55, 55, 56, 55, 57, 56, 48, 56, 49, 56, 50, 56, 51, 56, 52, 56, 53, 56, 54, 56, 55, 56, 56, 56, 57, 57, 48, 57, 49, 57, 50, 57, 51, 57, 52, 57, 53, 57, 54, 57, 55, 57, 56, 57, 57])) (.t 130)⟩,
 .op ⟨some 132, none, .mv (.t 14)⟩,
 .op ⟨some 133, none, .idx .str false (.k (.str [48, 48, 48, 49, 48, 50, 48, 51, 48, 52, 48, 53, 48, 54, 48, 55, 48, 56, 48, 57, 49, 48, 49, 49, 49, 50, 49, 51, 49, 52, 49, 53, 49, 54, 49, 55, 49, 56, 49, 57, 50, 48, 50, 49, 50, 50, 50, 51, 50, 52, 50, 53, 50, 54, 50, 55, 50, 56, 50, 57, 51, 48, 51, 49, 51, 50, 51, 51, 51, 52, 51, 53, 51, 54, 51, 55, 51, 56, 51, 57, 52, 48, 52, 49, 52, 50, 52, 51, 52, 52, 52, 53, 52, 54, 52, 55, 52, 56, 52, 57, 53, 48, 53, 49, 53, 50, 53, 51, 53, 52, 53, 53, 53, 54, 53, 55, 53, 56, 53, 57, 54, 48, 54, 49, 54, 50, 54, 51, 54, 52, 54, 53, 54, 54, 54, 55, 54, 56, 54, 57, 55, 48, 55, 49, 55, 50, 55, 51, 55, 52, 55, 53, 55, 54, 55, 55, 55, 56, 55, 57, 56, 48, 56, 49, 56, 50, 56, 51, 56, 52, 56, 53, 56, 54, 56, 55, 56, 56, 56, 57, 57, 48, 57, 49, 57, 50, 57, 51, 57, 52, 57, 53, 57, 54, 57, 55, 57, 56, 57, 57])) (.t 132)⟩,
 .op ⟨some 134, none, .ia (.sl 1) (.t 123) (.t 125)⟩,
 .op ⟨none, none, .store 1 (.t 134) (.t 131)⟩,
 .op ⟨some 135, none, .ia (.sl 1) (.t 126) (.t 128)⟩,
 .op ⟨none, none, .store 1 (.t 135) (.t 133)⟩])
 (.reg [.op ⟨some 136, none, .mv (.t 4)⟩,
 .op ⟨some 137, none, .bin .sub (.t 136) (.k (I 4))⟩,
 .op ⟨some 4, none, .mv (.t 137)⟩]))))))
 .skip))
 (.seq (.seq (.reg [.op ⟨some 138, none, .mv (.t 4)⟩,
 .op ⟨some 139, none, .bin .geq (.t 138) (.k (I 2))⟩])
 (.ite (.t 139) (.seq (.reg [.op ⟨some 140, none, .mv (.t 12)⟩,
 .op ⟨some 141, none, .bin .rem (.t 140) (.k (.int .u32 (100)))⟩,
 .op ⟨some 142, none, .bin .mul (.t 141) (.k (.int .u32 (2)))⟩,
 .op ⟨some 16, none, .mv (.t 142)⟩])
 (.seq (.reg [.op ⟨some 143, none, .mv (.t 12)⟩,
 .op ⟨some 144, none, .bin .quo (.t 143) (.k (.int .u32 (100)))⟩,
 .op ⟨some 12, none, .mv (.t 144)⟩])
 (.seq (.reg [.op ⟨some 145, none, .mv (.t 0)⟩,
 .op ⟨some 146, none, .mv (.t 4)⟩,
 .op ⟨some 147, none, .bin .sub (.t 146) (.k (I 1))⟩,
 .op ⟨some 148, none, .mv (.t 0)⟩,
 .op ⟨some 149, none, .mv (.t 4)⟩,
 .op ⟨some 150, none, .bin .sub (.t 149) (.k (I 2))⟩,
 .op ⟨some 151, none, .mv (.t 16)⟩,
 .op ⟨some 152, none, .bin .add (.t 151) (.k (.int .u32 (1)))⟩,
 .op ⟨some 153, none, .idx .str false (.k (.str [48, 48, 48, 49, 48, 50, 48, 51, 48, 52, 48, 53, 48, 54, 48, 55, 48, 56, 48, 57, 49, 48, 49, 49, 49, 50, 49, 51, 49, 52, 49, 53, 49, 54, 49, 55, 49, 56, 49, 57, 50, 48, 50, 49, 50, 50, 50, 51, 50, 52, 50, 53, 50, 54, 50, 55, 50, 56, 50, 57, 51, 48, 51, 49, 51, 50, 51, 51, 51, 52, 51, 53, 51, 54, 51, 55, 51, 56, 51, 57, 52, 48, 52, 49, 52, 50, 52, 51, 52, 52, 52, 53, 52, 54, 52, 55, 52, 56, 52, 57, 53, 48, 53, 49, 53, 50, 53, 51, 53, 52, 53, 53, 53, 54, 53, 55, 53, 56, 53, 57, 54, 48, 54, 49, 54, 50, 54, 51, 54, 52, 54, 53, 54, 54, 54, 55, 54, 56, 54, 57, 55, 48, 55, 49, 55, 50, 55, 51, 55, 52, 55, 53, 55, 54, 55, 55, 55, 56, 55, 57, 56, 48, 56, 49, 56, 50, 56, 51, 56, 52, 56, 53, 56, 54, 56, 55, 56, 56, 56, 57, 57, 48, 57, 49, 57, 50, 57, 51, 57, 52, 57, 53, 57, 54, 57, 55, 57, 56, 57, 57])) (.t 152)⟩,
 .op ⟨some 154, none, .mv (.t 16)⟩,
 .op ⟨some 155, none, .idx .str false (.k (.str [48, 48, 48, 49, 48, 50, 48, 51, 48, 52, 48, 53, 48, 54, 48, 55, 48, 56, 48, 57, 49, 48, 49, 49, 49, 50, 49, 51, 49, 52, 49, 53, 49, 54, 49, 55, 49, 56, 49, 57, 50, 48, 50, 49, 50, 50, 50, 51, 50, 52, 50, 53, 50, 54, 50, 55, 50, 56, 50, 57, 51, 48, 51, 49, 51, 50, 51, 51, 51, 52, 51, 53, 51, 54, 51, 55, 51, 56, 51, 57, 52, 48, 52, 49, 52, 50, 52, 51, 52, 52, 52, 53, 52, 54, 52, 55, 52, 56, 52, 57, 53, 48, 53, 49, 53, 50, 53, 51, 53, 52, 53, 53, 53, 54, 53, 55, 53, 56, 53, 57, 54, 48, 54, 49, 54, 50, 54, 51, 54, 52, 54, 53, 54, 54, 54, 55, 54, 56, 54, 57, 55, 48, 55, 49, 55, 50, 55, 51, 55, 52, 55, 53, 55, 54, 55, 55, 55, 56, 55, 57, 56, 48, 56, 49, 56, 50, 56, 51, 56, 52, 56, 53, 56, 54, 56, 55, 56, 56, 56, 57, 57, 48, 57, 49, 57, 50, 57, 51, 57, 52, 57, 53, 57, 54, 57, 55, 57, 56, 57, 57])) (.t 154)⟩,
 .op ⟨some 156, none, .ia (.sl 1) (.t 145) (.t 147)⟩,
 .op ⟨none, none, .store 1 (.t 156) (.t 153)⟩,
 .op ⟨some 157, none, .ia (.sl 1) (.t 148) (.t 150)⟩,
 .op ⟨none, none, .store 1 (.t 157) (.t 155)⟩])
 (.reg [.op ⟨some 158, none, .mv (.t 4)⟩,
 .op ⟨some 159, none, .bin .sub (.t 158) (.k (I 2))⟩,
 .op ⟨some 4, none, .mv (.t 159)⟩]))))
 .skip))
 (.seq (.reg [.op ⟨some 160, none, .mv (.t 4)⟩,
 .op ⟨some 161, none, .bin .gtr (.t 160) (.k (I 0))⟩])
 (.ite (.t 161) (.reg [.op ⟨some 162, none, .mv (.t 0)⟩,
 .op ⟨some 163, none, .mv (.t 12)⟩,
 .op ⟨some 164, none, .bin .add (.k (.int .u32 (48))) (.t 163)⟩,
 .op ⟨some 165, none, .conv (.int .u8) (.t 164)⟩,
 .op ⟨some 166, none, .ia (.sl 1) (.t 162) (.k (I 0))⟩,
 .op ⟨none, none, .store 1 (.t 166) (.t 165)⟩])
 .skip)))))))⟩
theorem g152 : Good 152 c152 := ⟨_, Tryz.func152, by kernel_rfl⟩

def c154 : AFunc := ⟨[.t 4], (.seq (.reg [.op ⟨some 4, none, .mv (.k (I 0))⟩])
 (.seq (.seq (.reg [.op ⟨some 6, none, .mv (.t 0)⟩,
 .op ⟨some 7, none, .len .str (.t 6)⟩,
 .op ⟨some 8, none, .bin .sub (.t 7) (.k (I 1))⟩,
 .op ⟨some 5, none, .mv (.t 8)⟩])
 (.block 0 (.loop (.seq (.seq (.reg [.op ⟨some 9, none, .mv (.t 5)⟩,
 .op ⟨some 10, none, .bin .geq (.t 9) (.k (I 0))⟩])
 (.ite (.t 10) .skip
 (.exit 0)))
 (.seq (.block 1 (.seq (.reg [.op ⟨some 13, none, .mv (.t 0)⟩,
 .op ⟨some 14, none, .mv (.t 5)⟩,
 .op ⟨some 15, none, .idx .str false (.t 13) (.t 14)⟩,
 .op ⟨some 16, none, .mv (.t 1)⟩,
 .op ⟨some 17, none, .bin .eql (.t 15) (.t 16)⟩])
 (.ite (.t 17) (.seq (.reg [.op ⟨some 18, none, .mv (.t 5)⟩,
 .op ⟨some 4, none, .mv (.t 18)⟩])
 .ret)
 .skip)))
 (.reg [.op ⟨some 11, none, .mv (.t 5)⟩,
 .op ⟨some 12, none, .bin .sub (.t 11) (.k (I 1))⟩,
 .op ⟨some 5, none, .mv (.t 12)⟩]))))))
 (.seq (.reg [.op ⟨some 4, none, .mv (.k (I (-1)))⟩])
 .ret)))⟩
theorem g154 : Good 154 c154 := ⟨_, Tryz.func154, by kernel_rfl⟩

def c157 : AFunc := ⟨[.c 2 true 256, .t 3], (.seq (.reg [.op ⟨some 2, none, .alloc [(.bool false), (.bool false), (.bool false), (.bool false), (.bool false), (.bool false), (.bool false), (.bool false), (.bool false), (.bool false), (.bool false), (.bool false), (.bool false), (.bool false), (.bool false), (.bool false), (.bool false), (.bool false), (.bool false), (.bool false), (.bool false), (.bool false), (.bool false), (.bool false), (.bool false), (.bool false), (.bool false), (.bool false), (.bool false), (.bool false), (.bool false), (.bool false), (.bool false), (.bool false), (.bool false), (.bool false), (.bool false), (.bool false), (.bool false), (.bool false), (.bool false), (.bool false), (.bool false), (.bool false), (.bool false), (.bool false), (.bool false), (.bool false), (.bool false), (.bool false), (.bool false), (.bool false), (.bool false), (.bool false), (.bool false), (.bool false), (.bool false), (.bool false), (.bool false), (.bool false), (.bool false), (.bool false), (.bool false), (.bool false), (.bool false), (.bool false), (.bool false), (.bool false), (.bool false), (.bool false), (.bool false), (.bool false), (.bool false), (.bool false), (.bool false), (.bool false), (.bool false), (.bool false), (.bool false), (.bool false), (.bool false), (.bool false), (.bool false), (.bool false), (.bool false), (.bool false), (.bool false), (.bool false), (.bool false), (.bool false), (.bool false), (.bool false), (.bool false), (.bool false), (.bool false), (.bool false), (.bool false), (.bool false), (.bool false), (.bool false), (.bool false), (.bool false), (.bool false), (.bool false), (.bool false), (.bool false), (.bool false), (.bool false), (.bool false), (.bool false), (.bool false), (.bool false), (.bool false), (.bool false), (.bool false), (.bool false), (.bool false), (.bool false), (.bool false), (.bool false), (.bool false), (.bool false), (.bool false), (.bool false), (.bool false), (.bool false), (.bool false), (.bool false), (.bool false), (.bool false), (.bool false), (.bool false), (.bool false), (.bool false), (.bool false), (.bool false), (.bool false), (.bool false), (.bool false), (.bool false), (.bool false), (.bool false), (.bool false), (.bool false), (.bool false), (.bool false), (.bool false), (.bool false), (.bool false), (.bool false), (.bool false), (.bool false), (.bool false), (.bool false), (.bool false), (.bool false), (.bool false), (.bool false), (.bool false), (.bool false), (.bool false), (.bool false), (.bool false), (.bool false), (.bool false), (.bool false), (.bool false), (.bool false), (.bool false), (.bool false), (.bool false), (.bool false), (.bool false), (.bool false), (.bool false), (.bool false), (.bool false), (.bool false), (.bool false), (.bool false), (.bool false), (.bool false), (.bool false), (.bool false), (.bool false), (.bool false), (.bool false), (.bool false), (.bool false), (.bool false), (.bool false), (.bool false), (.bool false), (.bool false), (.bool false), (.bool false), (.bool false), (.bool false), (.bool false), (.bool false), (.bool false), (.bool false), (.bool false), (.bool false), (.bool false), (.bool false), (.bool false), (.bool false), (.bool false), (.bool false), (.bool false), (.bool false), (.bool false), (.bool false), (.bool false), (.bool false), (.bool false), (.bool false), (.bool false), (.bool false), (.bool false), (.bool false), (.bool false), (.bool false), (.bool false), (.bool false), (.bool false), (.bool false), (.bool false), (.bool false), (.bool false), (.bool false), (.bool false), (.bool false), (.bool false), (.bool false), (.bool false), (.bool false), (.bool false), (.bool false), (.bool false), (.bool false), (.bool false), (.bool false), (.bool false), (.bool false), (.bool false), (.bool false), (.bool false), (.bool false), (.bool false), (.bool false), (.bool false), (.bool false), (.bool false), (.bool false)]⟩,
 .op ⟨some 3, none, .mv (.k (.bool false))⟩])
 (.seq (.seq (.reg [.op ⟨some 4, none, .mv (.k (I 0))⟩])
 (.block 0 (.loop (.seq (.seq (.reg [.op ⟨some 6, none, .mv (.t 4)⟩,
 .op ⟨some 7, none, .mv (.t 0)⟩,
 .op ⟨some 8, none, .len .str (.t 7)⟩,
 .op ⟨some 9, none, .bin .lss (.t 6) (.t 8)⟩])
 (.ite (.t 9) .skip
 (.exit 0)))
 (.seq (.block 1 (.seq (.reg [.op ⟨some 12, none, .mv (.t 0)⟩,
 .op ⟨some 13, none, .mv (.t 4)⟩,
 .op ⟨some 14, none, .idx .str false (.t 12) (.t 13)⟩,
 .op ⟨some 5, none, .mv (.t 14)⟩])
 (.seq (.seq (.reg [.op ⟨some 15, none, .mv (.t 5)⟩,
 .op ⟨some 16, none, .bin .geq (.t 15) (.k (.int .u8 (128)))⟩])
 (.ite (.t 16) (.seq (.reg [.op ⟨some 17, none, .load true 256 (.t 2)⟩,
 .op ⟨none, none, .store 256 (.t 2) (.t 17)⟩,
 .op ⟨some 3, none, .mv (.k (.bool false))⟩])
 .ret)
 .skip))
 (.reg [.op ⟨some 18, none, .mv (.t 5)⟩,
 .op ⟨some 19, none, .ia (.arr 256 1) (.t 2) (.t 18)⟩,
 .op ⟨none, none, .store 1 (.t 19) (.k (.bool true))⟩]))))
 (.reg [.op ⟨some 10, none, .mv (.t 4)⟩,
 .op ⟨some 11, none, .bin .add (.t 10) (.k (I 1))⟩,
 .op ⟨some 4, none, .mv (.t 11)⟩]))))))
 (.seq (.reg [.op ⟨some 20, none, .load true 256 (.t 2)⟩,
 .op ⟨none, none, .store 256 (.t 2) (.t 20)⟩,
 .op ⟨some 3, none, .mv (.k (.bool true))⟩])
 .ret)))⟩
theorem g157 : Good 157 c157 := ⟨_, Tryz.func157, by kernel_rfl⟩

def c158 : AFunc := ⟨[.t 4], (.seq (.reg [.op ⟨some 4, none, .mv (.k (.str []))⟩])
 (.seq (.block 0 (.loop (.seq (.seq (.reg [.op ⟨some 5, none, .mv (.t 0)⟩,
 .op ⟨some 6, none, .len .str (.t 5)⟩,
 .op ⟨some 7, none, .bin .gtr (.t 6) (.k (I 0))⟩])
 (.ite (.t 7) .skip
 (.exit 0)))
 (.block 1 (.seq (.seq (.reg [.op ⟨some 8, none, .mv (.t 1)⟩,
 .op ⟨some 9, none, .mv (.t 0)⟩,
 .op ⟨some 10, none, .idx .str false (.t 9) (.k (I 0))⟩,
 .op ⟨some 11, none, .call 212 [(.t 8), (.t 10)]⟩,
 .op ⟨some 12, none, .un .not (.t 11)⟩])
 (.ite (.t 12) (.exit 0)
 .skip))
 (.reg [.op ⟨some 13, none, .mv (.t 0)⟩,
 .op ⟨some 14, none, .slc .str (.t 13) (some (.k (I 1))) none none⟩,
 .op ⟨some 0, none, .mv (.t 14)⟩]))))))
 (.seq (.reg [.op ⟨some 15, none, .mv (.t 0)⟩,
 .op ⟨some 4, none, .mv (.t 15)⟩])
 .ret)))⟩
theorem g158 : Good 158 c158 := ⟨_, Tryz.func158, by kernel_rfl⟩

def c159 : AFunc := ⟨[.t 4], (.seq (.reg [.op ⟨some 4, none, .mv (.k (.str []))⟩])
 (.seq (.block 0 (.loop (.seq (.seq (.reg [.op ⟨some 5, none, .mv (.t 0)⟩,
 .op ⟨some 6, none, .len .str (.t 5)⟩,
 .op ⟨some 7, none, .bin .gtr (.t 6) (.k (I 0))⟩])
 (.ite (.t 7) .skip
 (.exit 0)))
 (.block 1 (.seq (.seq (.reg [.op ⟨some 8, none, .mv (.t 1)⟩,
 .op ⟨some 9, none, .mv (.t 0)⟩,
 .op ⟨some 10, none, .mv (.t 0)⟩,
 .op ⟨some 11, none, .len .str (.t 10)⟩,
 .op ⟨some 12, none, .bin .sub (.t 11) (.k (I 1))⟩,
 .op ⟨some 13, none, .idx .str false (.t 9) (.t 12)⟩,
 .op ⟨some 14, none, .call 212 [(.t 8), (.t 13)]⟩,
 .op ⟨some 15, none, .un .not (.t 14)⟩])
 (.ite (.t 15) (.exit 0)
 .skip))
 (.reg [.op ⟨some 16, none, .mv (.t 0)⟩,
 .op ⟨some 17, none, .mv (.t 0)⟩,
 .op ⟨some 18, none, .len .str (.t 17)⟩,
 .op ⟨some 19, none, .bin .sub (.t 18) (.k (I 1))⟩,
 .op ⟨some 20, none, .slc .str (.t 16) none (some (.t 19)) none⟩,
 .op ⟨some 0, none, .mv (.t 20)⟩]))))))
 (.seq (.reg [.op ⟨some 21, none, .mv (.t 0)⟩,
 .op ⟨some 4, none, .mv (.t 21)⟩])
 .ret)))⟩
theorem g159 : Good 159 c159 := ⟨_, Tryz.func159, by kernel_rfl⟩

def c162 : AFunc := ⟨[.c 4 true 5], (.seq (.reg [.op ⟨some 4, none, .alloc [(I 0), (.str []), (I 0), .nils, .nils]⟩])
 (.seq (.reg [.op ⟨some 6, none, .call 215 [(.k (I 0))]⟩,
 .op ⟨some 7, none, .bslice 2 1 [(.str []), (.str [])] [(0, 2, (.t 6))]⟩,
 .op ⟨some 5, none, .mv (.t 7)⟩])
 (.seq (.seq (.reg [.op ⟨some 8, none, .mv (.t 1)⟩])
 (.ite (.t 8) (.reg [.op ⟨some 9, none, .mv (.t 5)⟩,
 .op ⟨some 10, none, .call 216 []⟩,
 .op ⟨some 11, none, .bslice 2 1 [(.str []), (.str [])] [(0, 2, (.t 10))]⟩,
 .op ⟨some 12, none, .app 2 32 (.t 9) (.t 11)⟩,
 .op ⟨some 5, none, .mv (.t 12)⟩])
 .skip))
 (.seq (.reg [.op ⟨some 13, none, .mv (.t 0)⟩,
 .op ⟨some 14, none, .mv (.t 0)⟩,
 .op ⟨some 15, none, .call 89 [(.t 14)]⟩,
 .op ⟨some 16, none, .mv (.t 5)⟩,
 .op ⟨some 17, none, .build [(I 0), (.str []), (I 0), .nils, .nils] [(0, 1, (.t 13)), (1, 1, (.t 15)), (2, 1, (.k (I 1))), (3, 1, (.t 16))]⟩,
 .op ⟨none, none, .store 5 (.t 4) (.t 17)⟩])
 .ret))))⟩
theorem g162 : Good 162 c162 := ⟨_, Tryz.func162, by kernel_rfl⟩

def c163 : AFunc := ⟨[.t 3], (.seq (.reg [.op ⟨some 2, none, .box 8 (.t 0)⟩,
 .op ⟨some 3, none, .mv (.k (.bool false))⟩])
 (.seq (.reg [.op ⟨some 4, none, .fa 1 (.t 2)⟩,
 .op ⟨some 5, none, .load false 1 (.t 4)⟩,
 .op ⟨some 6, none, .load false 1 (.t 1)⟩,
 .op ⟨some 7, none, .call 164 [(.t 5), (.t 6)]⟩,
 .op ⟨some 3, none, .mv (.t 7)⟩])
 .ret))⟩
theorem g163 : Good 163 c163 := ⟨_, Tryz.func163, by kernel_rfl⟩

def c164 : AFunc := ⟨[.t 4], (.seq (.reg [.op ⟨some 4, none, .mv (.k (.bool false))⟩])
 (.seq (.reg [.op ⟨some 5, none, .mv (.t 0)⟩,
 .op ⟨some 6, none, .mv (.t 1)⟩,
 .op ⟨some 7, none, .call 188 [(.t 5), (.t 6)]⟩,
 .op ⟨some 8, none, .bin .geq (.t 7) (.k (I 0))⟩,
 .op ⟨some 4, none, .mv (.t 8)⟩])
 .ret))⟩
theorem g164 : Good 164 c164 := ⟨_, Tryz.func164, by kernel_rfl⟩

def c165 : AFunc := ⟨[.t 4], (.seq (.reg [.op ⟨some 4, none, .mv (.k .nils)⟩])
 (.seq (.reg [.op ⟨some 5, none, .mv (.k .nils)⟩])
 (.seq (.seq (.reg [.op ⟨some 8, none, .mv (.t 0)⟩,
 .op ⟨some 9, none, .len .sl (.t 8)⟩,
 .op ⟨some 10, none, .mv (.k (I 0))⟩])
 (.block 0 (.loop (.seq (.reg [.op ⟨some 11, none, .bin .lss (.t 10) (.t 9)⟩])
 (.seq (.ite (.t 11) .skip
 (.exit 0))
 (.seq (.block 1 (.seq (.reg [.op ⟨some 12, none, .ia (.sl 2) (.t 8) (.t 10)⟩,
 .op ⟨some 13, none, .load true 2 (.t 12)⟩,
 .op ⟨some 7, none, .alloc [(.str []), (.str [])]⟩,
 .op ⟨none, none, .store 2 (.t 7) (.t 13)⟩])
 (.seq (.reg [.op ⟨some 14, none, .fa 0 (.t 7)⟩,
 .op ⟨some 15, none, .load false 1 (.t 14)⟩,
 .op ⟨some 16, none, .mv (.t 1)⟩,
 .op ⟨some 17, none, .call 217 [(.t 15), (.t 16)]⟩])
 (.ite (.t 17) (.reg [.op ⟨some 18, none, .mv (.t 5)⟩,
 .op ⟨some 19, none, .fa 1 (.t 7)⟩,
 .op ⟨some 20, none, .load false 1 (.t 19)⟩,
 .op ⟨some 21, none, .bslice 1 1 [(.str [])] [(0, 1, (.t 20))]⟩,
 .op ⟨some 22, none, .app 1 16 (.t 18) (.t 21)⟩,
 .op ⟨some 5, none, .mv (.t 22)⟩])
 .skip))))
 (.reg [.op ⟨some 23, none, .bin .add (.t 10) (.k (I 1))⟩,
 .op ⟨some 10, none, .mv (.t 23)⟩])))))))
 (.seq (.reg [.op ⟨some 24, none, .mv (.t 5)⟩,
 .op ⟨some 4, none, .mv (.t 24)⟩])
 .ret))))⟩
theorem g165 : Good 165 c165 := ⟨_, Tryz.func165, by kernel_rfl⟩

def c166 : AFunc := ⟨[.t 2], (.seq (.reg [.op ⟨some 2, none, .mv (.k .nilp)⟩])
 (.seq (.reg [.op ⟨some 3, none, .mv (.t 0)⟩,
 .op ⟨some 4, none, .call 218 [(.t 3)]⟩,
 .op ⟨some 5, none, .mv (.t 0)⟩,
 .op ⟨some 6, none, .call 218 [(.t 5)]⟩,
 .op ⟨some 7, none, .build [.nilp, .nilp, (I 0), (.bool false), (.bool false), (.int .u32 (0)), (.int .i32 (0)), (.int .u32 (0)), (.int .u32 (0))] [(0, 1, (.t 4)), (1, 1, (.t 6))]⟩,
 .op ⟨some 8, none, .box 9 (.t 7)⟩,
 .op ⟨some 2, none, .mv (.t 8)⟩])
 .ret))⟩
theorem g166 : Good 166 c166 := ⟨_, Tryz.func166, by kernel_rfl⟩

def c167 : AFunc := ⟨[.t 4], (.seq (.reg [.op ⟨some 4, none, .mv (.k .nils)⟩])
 (.seq (.reg [.op ⟨some 5, none, .mv (.t 0)⟩,
 .op ⟨some 6, none, .mv (.t 1)⟩,
 .op ⟨some 7, none, .call 162 [(.t 5), (.t 6)]⟩,
 .op ⟨some 8, none, .call 90 [(.t 7)]⟩,
 .op ⟨some 4, none, .mv (.t 8)⟩])
 .ret))⟩
theorem g167 : Good 167 c167 := ⟨_, Tryz.func167, by kernel_rfl⟩

def c168 : AFunc := ⟨[], (.seq (.reg [.op ⟨some 10, none, .mv (.t 0)⟩,
 .op ⟨some 11, none, .nilchk (.t 10)⟩,
 .op ⟨some 12, none, .fa 25 (.t 11)⟩,
 .op ⟨some 13, none, .load false 1 (.t 12)⟩,
 .op ⟨some 14, none, .bin .add (.t 13) (.k (I 1))⟩,
 .op ⟨some 15, none, .nilchk (.t 10)⟩,
 .op ⟨some 16, none, .fa 25 (.t 15)⟩,
 .op ⟨none, none, .store 1 (.t 16) (.t 14)⟩])
 (.seq (.reg [.op ⟨some 18, none, .mv (.t 0)⟩,
 .op ⟨some 19, none, .nilchk (.t 18)⟩,
 .op ⟨some 20, none, .fa 25 (.t 19)⟩,
 .op ⟨some 21, none, .load false 1 (.t 20)⟩,
 .op ⟨some 22, none, .mv (.t 0)⟩,
 .op ⟨some 23, none, .nilchk (.t 22)⟩,
 .op ⟨some 24, none, .fa 15 (.t 23)⟩,
 .op ⟨some 25, none, .load false 1 (.t 24)⟩,
 .op ⟨some 27, none, .mv (.t 0)⟩,
 .op ⟨some 28, none, .nilchk (.t 27)⟩,
 .op ⟨some 29, none, .fa 15 (.t 28)⟩,
 .op ⟨some 30, none, .load false 1 (.t 29)⟩,
 .op ⟨some 32, none, .mv (.t 1)⟩,
 .op ⟨some 33, none, .nilchk (.t 32)⟩,
 .op ⟨some 34, none, .fa 3 (.t 33)⟩,
 .op ⟨some 35, none, .load false 1 (.t 34)⟩,
 .op ⟨some 37, none, .mv (.t 1)⟩,
 .op ⟨some 38, none, .nilchk (.t 37)⟩,
 .op ⟨some 39, none, .fa 0 (.t 38)⟩,
 .op ⟨some 40, none, .load false 1 (.t 39)⟩,
 .op ⟨some 41, none, .mv (.t 1)⟩,
 .op ⟨some 42, none, .nilchk (.t 41)⟩,
 .op ⟨some 43, none, .fa 1 (.t 42)⟩,
 .op ⟨some 44, none, .load false 1 (.t 43)⟩,
 .op ⟨some 45, none, .mv (.t 1)⟩,
 .op ⟨some 46, none, .nilchk (.t 45)⟩,
 .op ⟨some 47, none, .fa 2 (.t 46)⟩,
 .op ⟨some 48, none, .load false 1 (.t 47)⟩,
 .op ⟨some 49, none, .mv (.t 2)⟩,
 .op ⟨some 50, none, .mv (.t 1)⟩,
 .op ⟨some 51, none, .nilchk (.t 50)⟩,
 .op ⟨some 52, none, .fa 11 (.t 51)⟩,
 .op ⟨some 53, none, .load false 1 (.t 52)⟩,
 .op ⟨some 54, none, .mv (.t 3)⟩,
 .op ⟨some 26, none, .call 120 [(.t 25)]⟩,
 .chk ⟨some 53, none, .load false 1 (.t 52)⟩,
 .chk ⟨some 48, none, .load false 1 (.t 47)⟩,
 .chk ⟨some 44, none, .load false 1 (.t 43)⟩,
 .chk ⟨some 40, none, .load false 1 (.t 39)⟩,
 .chk ⟨some 35, none, .load false 1 (.t 34)⟩,
 .chk ⟨some 30, none, .load false 1 (.t 29)⟩,
 .chk ⟨some 21, none, .load false 1 (.t 20)⟩,
 .op ⟨some 31, none, .call 120 [(.t 30)]⟩,
 .chk ⟨some 53, none, .load false 1 (.t 52)⟩,
 .chk ⟨some 48, none, .load false 1 (.t 47)⟩,
 .chk ⟨some 44, none, .load false 1 (.t 43)⟩,
 .chk ⟨some 40, none, .load false 1 (.t 39)⟩,
 .chk ⟨some 35, none, .load false 1 (.t 34)⟩,
 .chk ⟨some 21, none, .load false 1 (.t 20)⟩,
 .op ⟨some 36, none, .bin .sub (.t 31) (.t 35)⟩,
 .op ⟨some 55, none, .build [(I 0), (I 0), (I 0), (I 0), (.str []), (.str []), (I 0), (I 0), (I 0)] [(0, 1, (.t 21)), (1, 1, (.t 26)), (2, 1, (.t 36)), (3, 1, (.t 40)), (4, 1, (.t 44)), (5, 1, (.t 48)), (6, 1, (.t 49)), (7, 1, (.t 53)), (8, 1, (.t 54))]⟩,
 .op ⟨some 56, none, .call 219 [(.t 55)]⟩,
 .op ⟨some 17, none, .mv (.t 56)⟩,
 .op ⟨some 57, none, .ext 0 (.t 17)⟩,
 .op ⟨some 58, none, .ext 1 (.t 17)⟩,
 .op ⟨some 8, none, .mv (.t 57)⟩,
 .op ⟨some 9, none, .mv (.t 58)⟩])
 (.reg [.op ⟨some 59, none, .mv (.t 0)⟩,
 .op ⟨some 60, none, .mv (.t 8)⟩,
 .op ⟨some 61, none, .build [(I 0), (I 0), (.str []), (I 0), (.str []), .nils] [(0, 1, (.k (I 7))), (5, 1, (.t 60))]⟩,
 .op ⟨some 62, none, .call 113 [(.t 59), (.t 61)]⟩])))⟩
theorem g168 : Good 168 c168 := ⟨_, Tryz.func168, by kernel_rfl⟩

def c169 : AFunc := ⟨[.t 8], (.seq (.reg [.op ⟨some 8, none, .mv (.k .nilp)⟩])
 (.seq (.reg [.op ⟨some 9, none, .mv (.t 1)⟩,
 .op ⟨some 10, none, .mv (.t 2)⟩,
 .op ⟨some 11, none, .mv (.t 3)⟩,
 .op ⟨some 12, none, .mv (.t 0)⟩,
 .op ⟨some 13, none, .nilchk (.t 12)⟩,
 .op ⟨some 14, none, .fa 15 (.t 13)⟩,
 .op ⟨some 15, none, .load false 1 (.t 14)⟩,
 .op ⟨some 17, none, .mv (.t 0)⟩,
 .op ⟨some 18, none, .nilchk (.t 17)⟩,
 .op ⟨some 19, none, .fa 8 (.t 18)⟩,
 .op ⟨some 20, none, .load false 1 (.t 19)⟩,
 .op ⟨some 22, none, .mv (.t 0)⟩,
 .op ⟨some 23, none, .nilchk (.t 22)⟩,
 .op ⟨some 24, none, .fa 8 (.t 23)⟩,
 .op ⟨some 25, none, .load false 1 (.t 24)⟩,
 .op ⟨some 16, none, .call 120 [(.t 15)]⟩,
 .chk ⟨some 25, none, .load false 1 (.t 24)⟩,
 .chk ⟨some 20, none, .load false 1 (.t 19)⟩,
 .op ⟨some 21, none, .call 218 [(.t 20)]⟩,
 .chk ⟨some 25, none, .load false 1 (.t 24)⟩,
 .op ⟨some 26, none, .call 218 [(.t 25)]⟩,
 .op ⟨some 27, none, .build [(I 0), (.str []), (.str []), (I 0), (.bool false), (.str []), .nils, .nilp, .nilp, (.bool false), (I 0), (I 0), (.str [])] [(0, 1, (.t 9)), (1, 1, (.t 10)), (2, 1, (.t 11)), (3, 1, (.t 16)), (7, 1, (.t 21)), (8, 1, (.t 26))]⟩,
 .op ⟨some 28, none, .box 13 (.t 27)⟩,
 .op ⟨some 8, none, .mv (.t 28)⟩])
 .ret))⟩
theorem g169 : Good 169 c169 := ⟨_, Tryz.func169, by kernel_rfl⟩

def c170 : AFunc := ⟨[], (.seq (.seq (.reg [.op ⟨some 4, none, .mv (.t 0)⟩,
 .op ⟨some 5, none, .nilchk (.t 4)⟩,
 .op ⟨some 6, none, .fa 10 (.t 5)⟩,
 .op ⟨some 7, none, .load false 1 (.t 6)⟩,
 .op ⟨some 8, none, .mv (.t 1)⟩,
 .op ⟨some 9, none, .nilchk (.t 8)⟩,
 .op ⟨some 10, none, .fa 0 (.t 9)⟩,
 .op ⟨some 11, none, .load false 1 (.t 10)⟩,
 .op ⟨some 12, none, .look false .nilp false (.t 7) (.t 11)⟩,
 .op ⟨some 13, none, .mv (.t 1)⟩,
 .op ⟨some 14, none, .peq true (.t 12) (.t 13)⟩])
 (.ite (.t 14) .ret
 .skip))
 (.seq (.reg [.op ⟨some 15, none, .mv (.t 1)⟩,
 .op ⟨some 16, none, .nilchk (.t 15)⟩,
 .op ⟨some 17, none, .fa 7 (.t 16)⟩,
 .op ⟨some 18, none, .load false 1 (.t 17)⟩,
 .op ⟨some 19, none, .call 220 [(.t 18)]⟩])
 (.seq (.reg [.op ⟨some 20, none, .mv (.t 1)⟩,
 .op ⟨some 21, none, .nilchk (.t 20)⟩,
 .op ⟨some 22, none, .fa 8 (.t 21)⟩,
 .op ⟨some 23, none, .load false 1 (.t 22)⟩,
 .op ⟨some 24, none, .call 220 [(.t 23)]⟩])
 (.seq (.reg [.op ⟨some 25, none, .mv (.t 0)⟩,
 .op ⟨some 26, none, .nilchk (.t 25)⟩,
 .op ⟨some 27, none, .fa 15 (.t 26)⟩,
 .op ⟨some 28, none, .load false 1 (.t 27)⟩,
 .op ⟨some 29, none, .mv (.t 1)⟩,
 .op ⟨some 30, none, .nilchk (.t 29)⟩,
 .op ⟨some 31, none, .fa 0 (.t 30)⟩,
 .op ⟨some 32, none, .load false 1 (.t 31)⟩,
 .op ⟨some 33, none, .call 221 [(.t 28), (.t 32)]⟩])
 (.seq (.reg [.op ⟨some 34, none, .mv (.t 0)⟩,
 .op ⟨some 35, none, .nilchk (.t 34)⟩,
 .op ⟨some 36, none, .fa 10 (.t 35)⟩,
 .op ⟨some 37, none, .load false 1 (.t 36)⟩,
 .op ⟨some 38, none, .mv (.t 1)⟩,
 .op ⟨some 39, none, .nilchk (.t 38)⟩,
 .op ⟨some 40, none, .fa 0 (.t 39)⟩,
 .op ⟨some 41, none, .load false 1 (.t 40)⟩,
 .op ⟨none, none, .del false (.t 37) (.t 41)⟩])
 (.reg [.op ⟨some 42, none, .mv (.t 0)⟩,
 .op ⟨some 43, none, .nilchk (.t 42)⟩,
 .op ⟨some 44, none, .fa 11 (.t 43)⟩,
 .op ⟨some 45, none, .load false 1 (.t 44)⟩,
 .op ⟨some 46, none, .mv (.t 1)⟩,
 .op ⟨some 47, none, .nilchk (.t 46)⟩,
 .op ⟨some 48, none, .fa 11 (.t 47)⟩,
 .op ⟨some 49, none, .load false 1 (.t 48)⟩,
 .op ⟨none, none, .del false (.t 45) (.t 49)⟩]))))))⟩
theorem g170 : Good 170 c170 := ⟨_, Tryz.func170, by kernel_rfl⟩

end Go.Proofs.Tryz
