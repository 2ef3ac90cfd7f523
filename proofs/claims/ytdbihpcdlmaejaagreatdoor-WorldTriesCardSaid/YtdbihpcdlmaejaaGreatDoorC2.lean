/- The code that the statement reaches, as the evaluator takes it, part 2. -/
import Derived.Test.YtdbihpcdlmaejaaGreatDoorPre
set_option maxRecDepth 1000000
set_option maxHeartbeats 4000000
namespace Go.Proofs.Tryz
open Go Go.Ai Go.Proofs

def c60 : AFunc := ⟨[.t 4], (.seq (.reg [.op ⟨some 4, none, .mv (.k (.str []))⟩])
 (.seq (.reg [.op ⟨some 5, none, .mv (.t 0)⟩,
 .op ⟨some 6, none, .mv (.t 1)⟩,
 .op ⟨some 7, none, .call 100 [(.t 5), (.t 6)]⟩,
 .op ⟨some 4, none, .mv (.t 7)⟩])
 .ret))⟩
theorem g60 : Good 60 c60 := ⟨_, Tryz.func60, by kernel_rfl⟩

def c61 : AFunc := ⟨[.t 4], (.seq (.reg [.op ⟨some 4, none, .mv (.k (.bool false))⟩])
 (.seq (.reg [.op ⟨some 5, none, .mv (.t 0)⟩,
 .op ⟨some 6, none, .mv (.t 1)⟩,
 .op ⟨some 7, none, .call 101 [(.t 5), (.t 6)]⟩,
 .op ⟨some 8, none, .bin .geq (.t 7) (.k (I 0))⟩,
 .op ⟨some 4, none, .mv (.t 8)⟩])
 .ret))⟩
theorem g61 : Good 61 c61 := ⟨_, Tryz.func61, by kernel_rfl⟩

def c62 : AFunc := ⟨[.t 2], (.seq (.reg [.op ⟨some 1, none, .box 8 (.t 0)⟩,
 .op ⟨some 2, none, .mv (.k .nils)⟩])
 (.seq (.reg [.op ⟨some 3, none, .fa 2 (.t 1)⟩,
 .op ⟨some 4, none, .load false 1 (.t 3)⟩,
 .op ⟨some 5, none, .build [(I 0), (I 0), (I 0)] [(0, 1, (.t 4)), (1, 1, (.k (I 256))), (2, 1, (.k (I 1048576)))]⟩,
 .op ⟨some 6, none, .fa 3 (.t 1)⟩,
 .op ⟨some 7, none, .load false 1 (.t 6)⟩,
 .op ⟨some 8, none, .build [(I 0), (I 0), (I 0)] [(0, 1, (.t 7)), (1, 1, (.k (I 1))), (2, 1, (.k (I 64)))]⟩,
 .op ⟨some 9, none, .fa 4 (.t 1)⟩,
 .op ⟨some 10, none, .load false 1 (.t 9)⟩,
 .op ⟨some 11, none, .build [(I 0), (I 0), (I 0)] [(0, 1, (.t 10)), (1, 1, (.k (I 1))), (2, 1, (.k (I 64)))]⟩,
 .op ⟨some 12, none, .fa 5 (.t 1)⟩,
 .op ⟨some 13, none, .load false 1 (.t 12)⟩,
 .op ⟨some 14, none, .build [(I 0), (I 0), (I 0)] [(0, 1, (.t 13)), (1, 1, (.k (I 1))), (2, 1, (.k (I 1048576)))]⟩,
 .op ⟨some 15, none, .fa 6 (.t 1)⟩,
 .op ⟨some 16, none, .load false 1 (.t 15)⟩,
 .op ⟨some 17, none, .build [(I 0), (I 0), (I 0)] [(0, 1, (.t 16)), (1, 1, (.k (I 1))), (2, 1, (.k (I 1048576)))]⟩,
 .op ⟨some 18, none, .fa 7 (.t 1)⟩,
 .op ⟨some 19, none, .load false 1 (.t 18)⟩,
 .op ⟨some 20, none, .build [(I 0), (I 0), (I 0)] [(0, 1, (.t 19)), (1, 1, (.k (I 1))), (2, 1, (.k (I 1048576)))]⟩,
 .op ⟨some 21, none, .bslice 3 6 [(I 0), (I 0), (I 0)] [(0, 3, (.t 5)), (3, 3, (.t 8)), (6, 3, (.t 11)), (9, 3, (.t 14)), (12, 3, (.t 17)), (15, 3, (.t 20))]⟩,
 .op ⟨some 2, none, .mv (.t 21)⟩])
 .ret))⟩
theorem g62 : Good 62 c62 := ⟨_, Tryz.func62, by kernel_rfl⟩

def c63 : AFunc := ⟨[.t 2], (.seq (.reg [.op ⟨some 1, none, .box 3 (.t 0)⟩,
 .op ⟨some 2, none, .mv (.k (.bool false))⟩])
 (.seq (.reg [.op ⟨some 3, none, .fa 0 (.t 1)⟩,
 .op ⟨some 4, none, .load false 1 (.t 3)⟩,
 .op ⟨some 5, none, .fa 1 (.t 1)⟩,
 .op ⟨some 6, none, .load false 1 (.t 5)⟩,
 .op ⟨some 7, none, .bin .lss (.t 4) (.t 6)⟩,
 .op ⟨some 8, none, .mv (.t 7)⟩,
 .op ⟨some 9, some (8, false), .fa 0 (.t 1)⟩,
 .op ⟨some 10, some (8, false), .load false 1 (.t 9)⟩,
 .op ⟨some 11, some (8, false), .fa 2 (.t 1)⟩,
 .op ⟨some 12, some (8, false), .load false 1 (.t 11)⟩,
 .op ⟨some 13, some (8, false), .bin .gtr (.t 10) (.t 12)⟩,
 .op ⟨some 14, none, .pick (.t 8) (.k (.bool true)) (.t 13)⟩,
 .op ⟨some 2, none, .mv (.t 14)⟩])
 .ret))⟩
theorem g63 : Good 63 c63 := ⟨_, Tryz.func63, by kernel_rfl⟩

def c64 : AFunc := ⟨[.t 4], (.seq (.reg [.op ⟨some 4, none, .mv (.k (.bool false))⟩])
 (.seq (.reg [.op ⟨some 5, none, .mv (.t 0)⟩,
 .op ⟨some 6, none, .mv (.t 1)⟩,
 .op ⟨some 7, none, .call 102 [(.t 5), (.t 6)]⟩,
 .op ⟨some 8, none, .bin .geq (.t 7) (.k (I 0))⟩,
 .op ⟨some 4, none, .mv (.t 8)⟩])
 .ret))⟩
theorem g64 : Good 64 c64 := ⟨_, Tryz.func64, by kernel_rfl⟩

def c65 : AFunc := ⟨[.t 2], (.seq (.reg [.op ⟨some 2, none, .mv (.k (.bool false))⟩])
 (.seq (.reg [.op ⟨some 6, none, .mv (.t 0)⟩,
 .op ⟨some 7, none, .call 66 [(.t 6)]⟩,
 .op ⟨some 5, none, .mv (.t 7)⟩,
 .op ⟨some 8, none, .ext 0 (.t 5)⟩,
 .op ⟨some 9, none, .ext 1 (.t 5)⟩,
 .op ⟨some 3, none, .mv (.t 8)⟩,
 .op ⟨some 4, none, .mv (.t 9)⟩])
 (.seq (.reg [.op ⟨some 10, none, .mv (.t 4)⟩,
 .op ⟨some 11, none, .un .not (.t 10)⟩,
 .op ⟨some 12, none, .mv (.t 11)⟩,
 .op ⟨some 13, some (12, false), .mv (.t 3)⟩,
 .op ⟨some 14, some (12, false), .mv (.t 0)⟩,
 .op ⟨some 15, some (12, false), .bin .neq (.t 13) (.t 14)⟩,
 .op ⟨some 16, none, .pick (.t 12) (.k (.bool true)) (.t 15)⟩,
 .op ⟨some 2, none, .mv (.t 16)⟩])
 .ret)))⟩
theorem g65 : Good 65 c65 := ⟨_, Tryz.func65, by kernel_rfl⟩

def c66 : AFunc := ⟨[.t 2, .t 3], (.seq (.reg [.op ⟨some 2, none, .mv (.k (.str []))⟩,
 .op ⟨some 3, none, .mv (.k (.bool false))⟩])
 (.seq (.reg [.op ⟨some 7, none, .mv (.t 0)⟩,
 .op ⟨some 8, none, .call 99 [(.t 7)]⟩,
 .op ⟨some 0, none, .mv (.t 8)⟩])
 (.seq (.seq (.reg [.op ⟨some 9, none, .mv (.t 0)⟩,
 .op ⟨some 10, none, .call 103 [(.t 9), (.k (.int .u8 (58)))]⟩,
 .op ⟨some 4, none, .mv (.t 10)⟩])
 (.seq (.reg [.op ⟨some 11, none, .mv (.t 4)⟩,
 .op ⟨some 12, none, .bin .geq (.t 11) (.k (I 0))⟩,
 .op ⟨some 13, none, .mv (.t 12)⟩,
 .op ⟨some 14, some (13, true), .mv (.t 0)⟩,
 .op ⟨some 15, some (13, true), .mv (.t 4)⟩,
 .op ⟨some 16, some (13, true), .bin .add (.t 15) (.k (I 1))⟩,
 .op ⟨some 17, some (13, true), .slc .str (.t 14) (some (.t 16)) none none⟩,
 .op ⟨some 18, some (13, true), .call 104 [(.t 17), (.k (.str [48, 49, 50, 51, 52, 53, 54, 55, 56, 57]))]⟩,
 .op ⟨some 19, some (13, true), .bin .eql (.t 18) (.k (.str []))⟩,
 .op ⟨some 20, none, .pick (.t 13) (.t 19) (.k (.bool false))⟩])
 (.ite (.t 20) (.reg [.op ⟨some 21, none, .mv (.t 0)⟩,
 .op ⟨some 22, none, .mv (.t 4)⟩,
 .op ⟨some 23, none, .slc .str (.t 21) none (some (.t 22)) none⟩,
 .op ⟨some 0, none, .mv (.t 23)⟩])
 .skip)))
 (.seq (.seq (.reg [.op ⟨some 24, none, .mv (.t 0)⟩,
 .op ⟨some 25, none, .bin .eql (.t 24) (.k (.str []))⟩,
 .op ⟨some 26, none, .mv (.t 25)⟩,
 .op ⟨some 27, some (26, false), .mv (.t 0)⟩,
 .op ⟨some 28, some (26, false), .len .str (.t 27)⟩,
 .op ⟨some 29, some (26, false), .bin .gtr (.t 28) (.k (I 64))⟩,
 .op ⟨some 30, none, .pick (.t 26) (.k (.bool true)) (.t 29)⟩])
 (.ite (.t 30) (.seq (.reg [.op ⟨some 2, none, .mv (.k (.str []))⟩,
 .op ⟨some 3, none, .mv (.k (.bool false))⟩])
 .ret)
 .skip))
 (.seq (.seq (.reg [.op ⟨some 31, none, .mv (.t 0)⟩,
 .op ⟨some 32, none, .rng (.t 31)⟩])
 (.block 0 (.loop (.seq (.reg [.op ⟨some 33, none, .nxt (.t 32)⟩,
 .op ⟨some 34, none, .ext 0 (.t 33)⟩])
 (.seq (.ite (.t 34) .skip
 (.exit 0))
 (.block 1 (.seq (.reg [.op ⟨some 35, none, .ext 2 (.t 33)⟩,
 .op ⟨some 6, none, .mv (.t 35)⟩])
 (.seq (.reg [.op ⟨some 36, none, .mv (.t 6)⟩,
 .op ⟨some 37, none, .bin .lss (.t 36) (.k (.int .i32 (48)))⟩,
 .op ⟨some 38, none, .mv (.t 37)⟩,
 .op ⟨some 39, some (38, false), .mv (.t 6)⟩,
 .op ⟨some 40, some (38, false), .bin .gtr (.t 39) (.k (.int .i32 (57)))⟩,
 .op ⟨some 41, none, .pick (.t 38) (.k (.bool true)) (.t 40)⟩,
 .op ⟨some 42, none, .mv (.t 41)⟩,
 .op ⟨some 43, some (42, true), .mv (.t 6)⟩,
 .op ⟨some 44, some (42, true), .bin .lss (.t 43) (.k (.int .i32 (97)))⟩,
 .op ⟨some 45, some (42, true), .mv (.t 44)⟩,
 .op ⟨some 46, some (45, false), .mv (.t 6)⟩,
 .op ⟨some 47, some (45, false), .bin .gtr (.t 46) (.k (.int .i32 (122)))⟩,
 .op ⟨some 48, some (42, true), .pick (.t 45) (.k (.bool true)) (.t 47)⟩,
 .op ⟨some 49, none, .pick (.t 42) (.t 48) (.k (.bool false))⟩,
 .op ⟨some 50, none, .mv (.t 49)⟩,
 .op ⟨some 51, some (50, true), .mv (.t 6)⟩,
 .op ⟨some 52, some (50, true), .bin .neq (.t 51) (.k (.int .i32 (45)))⟩,
 .op ⟨some 53, none, .pick (.t 50) (.t 52) (.k (.bool false))⟩,
 .op ⟨some 54, none, .mv (.t 53)⟩,
 .op ⟨some 55, some (54, true), .mv (.t 6)⟩,
 .op ⟨some 56, some (54, true), .bin .neq (.t 55) (.k (.int .i32 (46)))⟩,
 .op ⟨some 57, none, .pick (.t 54) (.t 56) (.k (.bool false))⟩])
 (.ite (.t 57) (.seq (.reg [.op ⟨some 2, none, .mv (.k (.str []))⟩,
 .op ⟨some 3, none, .mv (.k (.bool false))⟩])
 .ret)
 .skip)))))))))
 (.seq (.reg [.op ⟨some 58, none, .mv (.t 0)⟩,
 .op ⟨some 2, none, .mv (.t 58)⟩,
 .op ⟨some 3, none, .mv (.k (.bool true))⟩])
 .ret))))))⟩
theorem g66 : Good 66 c66 := ⟨_, Tryz.func66, by kernel_rfl⟩

def c67 : AFunc := ⟨[.t 2], (.seq (.reg [.op ⟨some 2, none, .mv (.k (.bool false))⟩])
 (.seq (.seq (.reg [.op ⟨some 5, none, .mv (.t 0)⟩,
 .op ⟨some 6, none, .bin .eql (.t 5) (.k (.str []))⟩,
 .op ⟨some 7, none, .mv (.t 6)⟩,
 .op ⟨some 8, some (7, false), .mv (.t 0)⟩,
 .op ⟨some 9, some (7, false), .len .str (.t 8)⟩,
 .op ⟨some 10, some (7, false), .bin .gtr (.t 9) (.k (I 30))⟩,
 .op ⟨some 11, none, .pick (.t 7) (.k (.bool true)) (.t 10)⟩,
 .op ⟨some 12, none, .mv (.t 11)⟩,
 .op ⟨some 13, some (12, false), .mv (.t 0)⟩,
 .op ⟨some 14, some (12, false), .idx .str false (.t 13) (.k (I 0))⟩,
 .op ⟨some 15, some (12, false), .bin .lss (.t 14) (.k (.int .u8 (97)))⟩,
 .op ⟨some 16, none, .pick (.t 12) (.k (.bool true)) (.t 15)⟩,
 .op ⟨some 17, none, .mv (.t 16)⟩,
 .op ⟨some 18, some (17, false), .mv (.t 0)⟩,
 .op ⟨some 19, some (17, false), .idx .str false (.t 18) (.k (I 0))⟩,
 .op ⟨some 20, some (17, false), .bin .gtr (.t 19) (.k (.int .u8 (122)))⟩,
 .op ⟨some 21, none, .pick (.t 17) (.k (.bool true)) (.t 20)⟩])
 (.ite (.t 21) (.seq (.reg [.op ⟨some 2, none, .mv (.k (.bool false))⟩])
 .ret)
 .skip))
 (.seq (.seq (.reg [.op ⟨some 22, none, .mv (.t 0)⟩,
 .op ⟨some 23, none, .len .str (.t 22)⟩,
 .op ⟨some 24, none, .mv (.k (I 0))⟩])
 (.block 0 (.loop (.seq (.reg [.op ⟨some 25, none, .bin .lss (.t 24) (.t 23)⟩])
 (.seq (.ite (.t 25) .skip
 (.exit 0))
 (.seq (.block 1 (.seq (.reg [.op ⟨some 26, none, .mv (.t 24)⟩,
 .op ⟨some 3, none, .mv (.t 26)⟩])
 (.seq (.reg [.op ⟨some 27, none, .mv (.t 0)⟩,
 .op ⟨some 28, none, .mv (.t 3)⟩,
 .op ⟨some 29, none, .idx .str false (.t 27) (.t 28)⟩,
 .op ⟨some 4, none, .mv (.t 29)⟩])
 (.seq (.reg [.op ⟨some 30, none, .mv (.t 4)⟩,
 .op ⟨some 31, none, .bin .lss (.t 30) (.k (.int .u8 (97)))⟩,
 .op ⟨some 32, none, .mv (.t 31)⟩,
 .op ⟨some 33, some (32, false), .mv (.t 4)⟩,
 .op ⟨some 34, some (32, false), .bin .gtr (.t 33) (.k (.int .u8 (122)))⟩,
 .op ⟨some 35, none, .pick (.t 32) (.k (.bool true)) (.t 34)⟩,
 .op ⟨some 36, none, .mv (.t 35)⟩,
 .op ⟨some 37, some (36, true), .mv (.t 4)⟩,
 .op ⟨some 38, some (36, true), .bin .lss (.t 37) (.k (.int .u8 (48)))⟩,
 .op ⟨some 39, some (36, true), .mv (.t 38)⟩,
 .op ⟨some 40, some (39, false), .mv (.t 4)⟩,
 .op ⟨some 41, some (39, false), .bin .gtr (.t 40) (.k (.int .u8 (57)))⟩,
 .op ⟨some 42, some (36, true), .pick (.t 39) (.k (.bool true)) (.t 41)⟩,
 .op ⟨some 43, none, .pick (.t 36) (.t 42) (.k (.bool false))⟩,
 .op ⟨some 44, none, .mv (.t 43)⟩,
 .op ⟨some 45, some (44, true), .mv (.t 4)⟩,
 .op ⟨some 46, some (44, true), .bin .neq (.t 45) (.k (.int .u8 (45)))⟩,
 .op ⟨some 47, none, .pick (.t 44) (.t 46) (.k (.bool false))⟩])
 (.ite (.t 47) (.seq (.reg [.op ⟨some 2, none, .mv (.k (.bool false))⟩])
 .ret)
 .skip)))))
 (.reg [.op ⟨some 48, none, .bin .add (.t 24) (.k (I 1))⟩,
 .op ⟨some 24, none, .mv (.t 48)⟩])))))))
 (.seq (.reg [.op ⟨some 2, none, .mv (.k (.bool true))⟩])
 .ret))))⟩
theorem g67 : Good 67 c67 := ⟨_, Tryz.func67, by kernel_rfl⟩

def c68 : AFunc := ⟨[.t 2], (.seq (.reg [.op ⟨some 2, none, .mv (.k (I 0))⟩])
 (.seq (.reg [.op ⟨some 3, none, .mv (.t 0)⟩,
 .op ⟨some 4, none, .mx (.t 3) (.k (I 0))⟩,
 .op ⟨some 5, none, .mn (.t 4) (.k (I 1048576))⟩,
 .op ⟨some 2, none, .mv (.t 5)⟩])
 .ret))⟩
theorem g68 : Good 68 c68 := ⟨_, Tryz.func68, by kernel_rfl⟩

def c69 : AFunc := ⟨[.t 6], (.seq (.reg [.op ⟨some 6, none, .mv (.k .nils)⟩])
 (.seq (.reg [.op ⟨some 12, none, .mv (.t 0)⟩,
 .op ⟨some 13, none, .nilchk (.t 12)⟩,
 .op ⟨some 14, none, .fa 2 (.t 13)⟩,
 .op ⟨some 15, none, .load false 1 (.t 14)⟩,
 .op ⟨some 16, none, .mv (.t 1)⟩,
 .op ⟨some 17, none, .look false .nilp false (.t 15) (.t 16)⟩,
 .op ⟨some 7, none, .mv (.t 17)⟩])
 (.seq (.reg [.op ⟨some 18, none, .mv (.t 7)⟩,
 .op ⟨some 19, none, .mv (.t 7)⟩,
 .op ⟨some 20, none, .nilchk (.t 19)⟩,
 .op ⟨some 21, none, .fa 0 (.t 20)⟩,
 .op ⟨some 22, none, .load false 1 (.t 21)⟩,
 .op ⟨some 23, none, .mv (.t 2)⟩,
 .op ⟨some 24, none, .app 1 1 (.t 22) (.t 23)⟩,
 .op ⟨some 25, none, .nilchk (.t 18)⟩,
 .op ⟨some 26, none, .fa 0 (.t 25)⟩,
 .op ⟨none, none, .store 1 (.t 26) (.t 24)⟩])
 (.seq (.reg [.op ⟨some 28, none, .mv (.t 7)⟩,
 .op ⟨some 29, none, .nilchk (.t 28)⟩,
 .op ⟨some 30, none, .fa 0 (.t 29)⟩,
 .op ⟨some 31, none, .load false 1 (.t 30)⟩,
 .op ⟨some 32, none, .call 105 [(.t 31)]⟩,
 .op ⟨some 27, none, .mv (.t 32)⟩,
 .op ⟨some 33, none, .ext 0 (.t 27)⟩,
 .op ⟨some 34, none, .ext 1 (.t 27)⟩,
 .op ⟨some 35, none, .ext 2 (.t 27)⟩,
 .op ⟨some 8, none, .alloc [(.str []), (.str []), (I 0), .nils, .nils]⟩,
 .op ⟨none, none, .store 5 (.t 8) (.t 33)⟩,
 .op ⟨some 9, none, .mv (.t 34)⟩,
 .op ⟨some 10, none, .mv (.t 35)⟩])
 (.seq (.block 0 (.seq (.reg [.op ⟨some 37, none, .mv (.t 10)⟩,
 .op ⟨some 38, none, .bin .neq (.t 37) (.k (I 0))⟩,
 .op ⟨some 36, none, .mv (.t 38)⟩])
 (.ite (.t 36) (.seq (.reg [.op ⟨some 39, none, .mv (.t 0)⟩,
 .op ⟨some 40, none, .mv (.t 1)⟩,
 .op ⟨some 41, none, .mv (.t 10)⟩,
 .op ⟨some 42, none, .call 106 [(.t 39), (.t 40), (.t 41)]⟩,
 .op ⟨some 6, none, .mv (.t 42)⟩])
 .ret)
 (.seq (.reg [.op ⟨some 44, none, .mv (.t 9)⟩,
 .op ⟨some 45, none, .bin .eql (.t 44) (.k (I 0))⟩,
 .op ⟨some 43, none, .mv (.t 45)⟩])
 (.ite (.t 43) (.seq (.reg [.op ⟨some 6, none, .mv (.k .nils)⟩])
 .ret)
 .skip)))))
 (.seq (.reg [.op ⟨some 46, none, .mv (.t 0)⟩,
 .op ⟨some 47, none, .nilchk (.t 46)⟩,
 .op ⟨some 48, none, .fa 0 (.t 47)⟩,
 .op ⟨some 49, none, .load false 1 (.t 48)⟩,
 .op ⟨some 50, none, .load true 5 (.t 8)⟩,
 .op ⟨some 51, none, .call 108 [(.t 50)]⟩,
 .chk ⟨some 49, none, .load false 1 (.t 48)⟩,
 .op ⟨some 52, none, .call 107 [(.t 49), (.t 51)]⟩,
 .op ⟨some 11, none, .mv (.t 52)⟩])
 (.seq (.seq (.reg [.op ⟨some 53, none, .mv (.t 11)⟩,
 .op ⟨some 54, none, .bin .lss (.t 53) (.k (I 0))⟩])
 (.ite (.t 54) (.seq (.reg [.op ⟨some 55, none, .mv (.t 0)⟩,
 .op ⟨some 56, none, .mv (.t 1)⟩,
 .op ⟨some 57, none, .call 106 [(.t 55), (.t 56), (.k (I 421))]⟩,
 .op ⟨some 6, none, .mv (.t 57)⟩])
 .ret)
 .skip))
 (.seq (.reg [.op ⟨some 58, none, .mv (.t 0)⟩,
 .op ⟨some 59, none, .nilchk (.t 58)⟩,
 .op ⟨some 60, none, .fa 2 (.t 59)⟩,
 .op ⟨some 61, none, .load false 1 (.t 60)⟩,
 .op ⟨some 62, none, .mv (.t 1)⟩,
 .op ⟨none, none, .del false (.t 61) (.t 62)⟩])
 (.seq (.reg [.op ⟨some 63, none, .mv (.t 0)⟩,
 .op ⟨some 64, none, .nilchk (.t 63)⟩,
 .op ⟨some 65, none, .fa 3 (.t 64)⟩,
 .op ⟨some 66, none, .load false 1 (.t 65)⟩,
 .op ⟨some 67, none, .mv (.t 1)⟩,
 .op ⟨some 68, none, .mv (.t 11)⟩,
 .op ⟨none, none, .mset false (.t 66) (.t 67) (.t 68)⟩])
 (.seq (.reg [.op ⟨some 69, none, .mv (.t 0)⟩,
 .op ⟨some 70, none, .mv (.t 11)⟩,
 .op ⟨some 71, none, .mv (.t 0)⟩,
 .op ⟨some 72, none, .nilchk (.t 71)⟩,
 .op ⟨some 73, none, .fa 1 (.t 72)⟩,
 .op ⟨some 74, none, .load false 1 (.t 73)⟩,
 .op ⟨some 75, none, .mv (.t 11)⟩,
 .op ⟨some 76, none, .ia (.sl 1) (.t 74) (.t 75)⟩,
 .op ⟨some 77, none, .load false 1 (.t 76)⟩,
 .op ⟨some 78, none, .mv (.t 1)⟩,
 .op ⟨some 79, none, .mv (.t 7)⟩,
 .op ⟨some 80, none, .nilchk (.t 79)⟩,
 .op ⟨some 81, none, .fa 0 (.t 80)⟩,
 .op ⟨some 82, none, .load false 1 (.t 81)⟩,
 .op ⟨some 83, none, .mv (.t 7)⟩,
 .op ⟨some 84, none, .nilchk (.t 83)⟩,
 .op ⟨some 85, none, .fa 1 (.t 84)⟩,
 .op ⟨some 86, none, .load false 1 (.t 85)⟩,
 .op ⟨some 87, none, .call 109 [(.t 77), (.t 78), (.t 82), (.t 86)]⟩,
 .op ⟨some 88, none, .call 50 [(.t 69), (.t 70), (.t 87)]⟩,
 .op ⟨some 6, none, .mv (.t 88)⟩])
 .ret))))))))))⟩
theorem g69 : Good 69 c69 := ⟨_, Tryz.func69, by kernel_rfl⟩

def c70 : AFunc := ⟨[.t 4], (.seq (.reg [.op ⟨some 4, none, .mv (.k (I 0))⟩])
 (.seq (.seq (.reg [.op ⟨some 6, none, .mv (.t 0)⟩,
 .op ⟨some 7, none, .len .sl (.t 6)⟩,
 .op ⟨some 8, none, .mv (.k (I 0))⟩])
 (.block 0 (.loop (.seq (.reg [.op ⟨some 9, none, .bin .lss (.t 8) (.t 7)⟩])
 (.seq (.ite (.t 9) .skip
 (.exit 0))
 (.seq (.block 1 (.seq (.reg [.op ⟨some 10, none, .mv (.t 8)⟩,
 .op ⟨some 5, none, .mv (.t 10)⟩])
 (.seq (.reg [.op ⟨some 11, none, .mv (.t 1)⟩,
 .op ⟨some 12, none, .mv (.t 0)⟩,
 .op ⟨some 13, none, .mv (.t 5)⟩,
 .op ⟨some 14, none, .ia (.sl 8) (.t 12) (.t 13)⟩,
 .op ⟨some 15, none, .load true 8 (.t 14)⟩,
 .op ⟨some 16, none, .callv (.t 11) [(.t 15)]⟩])
 (.ite (.t 16) (.seq (.reg [.op ⟨some 17, none, .mv (.t 5)⟩,
 .op ⟨some 4, none, .mv (.t 17)⟩])
 .ret)
 .skip))))
 (.reg [.op ⟨some 18, none, .bin .add (.t 8) (.k (I 1))⟩,
 .op ⟨some 8, none, .mv (.t 18)⟩])))))))
 (.seq (.reg [.op ⟨some 4, none, .mv (.k (I (-1)))⟩])
 .ret)))⟩
theorem g70 : Good 70 c70 := ⟨_, Tryz.func70, by kernel_rfl⟩

def c71 : AFunc := ⟨[.t 3], (.seq (.reg [.op ⟨some 2, none, .box 8 (.t 0)⟩,
 .op ⟨some 3, none, .mv (.k (.bool false))⟩])
 (.seq (.reg [.op ⟨some 4, none, .fa 0 (.t 2)⟩,
 .op ⟨some 5, none, .load false 1 (.t 4)⟩,
 .op ⟨some 6, none, .load false 1 (.t 1)⟩,
 .op ⟨some 7, none, .bin .eql (.t 5) (.t 6)⟩,
 .op ⟨some 3, none, .mv (.t 7)⟩])
 .ret))⟩
theorem g71 : Good 71 c71 := ⟨_, Tryz.func71, by kernel_rfl⟩

def c74 : AFunc := ⟨[.t 4], (.seq (.reg [.op ⟨some 4, none, .mv (.k (.bool false))⟩])
 (.seq (.reg [.op ⟨some 5, none, .mv (.t 0)⟩,
 .op ⟨some 6, none, .mv (.t 1)⟩,
 .op ⟨some 7, none, .call 115 [(.t 5), (.t 6), (.k (I 1)), (.k (I 2))]⟩,
 .op ⟨some 4, none, .mv (.t 7)⟩])
 .ret))⟩
theorem g74 : Good 74 c74 := ⟨_, Tryz.func74, by kernel_rfl⟩

def c75 : AFunc := ⟨[], (.reg [.op ⟨some 4, none, .mv (.t 0)⟩,
 .op ⟨some 5, none, .mv (.t 1)⟩,
 .op ⟨some 6, none, .nilchk (.t 5)⟩,
 .op ⟨some 7, none, .fa 11 (.t 6)⟩,
 .op ⟨some 8, none, .load false 1 (.t 7)⟩,
 .op ⟨some 9, none, .mv (.t 1)⟩,
 .op ⟨some 10, none, .nilchk (.t 9)⟩,
 .op ⟨some 11, none, .fa 7 (.t 10)⟩,
 .op ⟨some 12, none, .load false 1 (.t 11)⟩,
 .op ⟨some 13, none, .mv (.t 1)⟩,
 .op ⟨some 14, none, .nilchk (.t 13)⟩,
 .op ⟨some 15, none, .fa 7 (.t 14)⟩,
 .op ⟨some 16, none, .load false 1 (.t 15)⟩,
 .op ⟨some 17, none, .call 117 [(.t 16)]⟩,
 .chk ⟨some 12, none, .load false 1 (.t 11)⟩,
 .chk ⟨some 8, none, .load false 1 (.t 7)⟩,
 .op ⟨some 18, none, .call 116 [(.t 12), (.t 17)]⟩,
 .chk ⟨some 8, none, .load false 1 (.t 7)⟩,
 .op ⟨some 19, none, .build [(I 0), (I 0), (.str []), (I 0), (.str []), .nils] [(0, 1, (.k (I 5))), (3, 1, (.t 8)), (5, 1, (.t 18))]⟩,
 .op ⟨some 20, none, .call 113 [(.t 4), (.t 19)]⟩])⟩
theorem g75 : Good 75 c75 := ⟨_, Tryz.func75, by kernel_rfl⟩

def c76 : AFunc := ⟨[.t 4], (.seq (.reg [.op ⟨some 4, none, .mv (.k (I 0))⟩])
 (.seq (.seq (.reg [.op ⟨some 8, none, .mv (.t 0)⟩,
 .op ⟨some 9, none, .nilchk (.t 8)⟩,
 .op ⟨some 10, none, .fa 2 (.t 9)⟩,
 .op ⟨some 11, none, .load false 1 (.t 10)⟩,
 .op ⟨some 12, none, .mv (.t 1)⟩,
 .op ⟨some 13, none, .look false .nilp true (.t 11) (.t 12)⟩,
 .op ⟨some 7, none, .mv (.t 13)⟩,
 .op ⟨some 14, none, .ext 0 (.t 7)⟩,
 .op ⟨some 15, none, .ext 1 (.t 7)⟩,
 .op ⟨some 5, none, .mv (.t 14)⟩,
 .op ⟨some 6, none, .mv (.t 15)⟩])
 (.seq (.reg [.op ⟨some 16, none, .mv (.t 6)⟩])
 (.ite (.t 16) (.seq (.reg [.op ⟨some 17, none, .mv (.t 5)⟩,
 .op ⟨some 18, none, .nilchk (.t 17)⟩,
 .op ⟨some 19, none, .fa 1 (.t 18)⟩,
 .op ⟨some 20, none, .load false 1 (.t 19)⟩,
 .op ⟨some 4, none, .mv (.t 20)⟩])
 .ret)
 .skip)))
 (.seq (.reg [.op ⟨some 4, none, .mv (.k (I 0))⟩])
 .ret)))⟩
theorem g76 : Good 76 c76 := ⟨_, Tryz.func76, by kernel_rfl⟩

def c77 : AFunc := ⟨[], (.seq (.reg [.op ⟨some 6, none, .mv (.t 0)⟩,
 .op ⟨some 7, none, .mv (.t 1)⟩,
 .op ⟨some 8, none, .nilchk (.t 7)⟩,
 .op ⟨some 9, none, .fa 11 (.t 8)⟩,
 .op ⟨some 10, none, .load false 1 (.t 9)⟩,
 .op ⟨some 11, none, .mv (.t 2)⟩,
 .op ⟨some 12, none, .call 118 [(.t 6), (.t 10), (.t 11)]⟩])
 (.seq (.reg [.op ⟨some 13, none, .mv (.t 0)⟩,
 .op ⟨some 14, none, .nilchk (.t 13)⟩,
 .op ⟨some 15, none, .fa 13 (.t 14)⟩,
 .op ⟨some 16, none, .load false 1 (.t 15)⟩,
 .op ⟨some 17, none, .mv (.t 1)⟩,
 .op ⟨some 18, none, .nilchk (.t 17)⟩,
 .op ⟨some 19, none, .fa 12 (.t 18)⟩,
 .op ⟨some 20, none, .load false 1 (.t 19)⟩,
 .op ⟨some 21, none, .mv (.t 0)⟩,
 .op ⟨some 22, none, .nilchk (.t 21)⟩,
 .op ⟨some 23, none, .fa 15 (.t 22)⟩,
 .op ⟨some 24, none, .load false 1 (.t 23)⟩,
 .op ⟨some 26, none, .mv (.t 0)⟩,
 .op ⟨some 27, none, .nilchk (.t 26)⟩,
 .op ⟨some 28, none, .fa 17 (.t 27)⟩,
 .op ⟨some 29, none, .load true 8 (.t 28)⟩,
 .op ⟨some 25, none, .call 120 [(.t 24)]⟩,
 .chk ⟨some 29, none, .load true 8 (.t 28)⟩,
 .chk ⟨some 20, none, .load false 1 (.t 19)⟩,
 .chk ⟨some 16, none, .load false 1 (.t 15)⟩,
 .op ⟨some 30, none, .call 119 [(.t 16), (.t 20), (.t 25), (.t 29)]⟩])
 (.seq (.seq (.reg [.op ⟨some 31, none, .mv (.t 1)⟩,
 .op ⟨some 32, none, .call 121 [(.t 31)]⟩])
 (.ite (.t 32) (.seq (.reg [.op ⟨some 33, none, .mv (.t 1)⟩,
 .op ⟨some 34, none, .nilchk (.t 33)⟩,
 .op ⟨some 35, none, .fa 10 (.t 34)⟩,
 .op ⟨some 36, none, .load false 1 (.t 35)⟩,
 .op ⟨some 37, none, .bin .sub (.t 36) (.k (I 1))⟩,
 .op ⟨some 38, none, .nilchk (.t 33)⟩,
 .op ⟨some 39, none, .fa 10 (.t 38)⟩,
 .op ⟨none, none, .store 1 (.t 39) (.t 37)⟩])
 (.reg [.op ⟨some 40, none, .mv (.t 0)⟩,
 .op ⟨some 41, none, .mv (.t 1)⟩,
 .op ⟨some 42, none, .call 122 [(.t 40), (.t 41)]⟩]))
 (.reg [.op ⟨some 43, none, .mv (.t 0)⟩,
 .op ⟨some 44, none, .mv (.t 1)⟩,
 .op ⟨some 45, none, .mv (.t 1)⟩,
 .op ⟨some 46, none, .nilchk (.t 45)⟩,
 .op ⟨some 47, none, .fa 4 (.t 46)⟩,
 .op ⟨some 48, none, .load false 1 (.t 47)⟩,
 .op ⟨some 49, none, .call 123 [(.t 43), (.t 44), (.k (I 502)), (.t 48)]⟩])))
 (.seq (.reg [.op ⟨some 50, none, .mv (.t 0)⟩,
 .op ⟨some 51, none, .nilchk (.t 50)⟩,
 .op ⟨some 52, none, .fa 10 (.t 51)⟩,
 .op ⟨some 53, none, .load false 1 (.t 52)⟩,
 .op ⟨some 54, none, .mv (.t 1)⟩,
 .op ⟨some 55, none, .nilchk (.t 54)⟩,
 .op ⟨some 56, none, .fa 0 (.t 55)⟩,
 .op ⟨some 57, none, .load false 1 (.t 56)⟩,
 .op ⟨some 58, none, .look false .nilp false (.t 53) (.t 57)⟩,
 .op ⟨some 59, none, .mv (.t 1)⟩,
 .op ⟨some 60, none, .peq true (.t 58) (.t 59)⟩])
 (.ite (.t 60) (.reg [.op ⟨some 61, none, .mv (.t 0)⟩,
 .op ⟨some 62, none, .mv (.t 1)⟩,
 .op ⟨some 63, none, .nilchk (.t 62)⟩,
 .op ⟨some 64, none, .fa 0 (.t 63)⟩,
 .op ⟨some 65, none, .load false 1 (.t 64)⟩,
 .op ⟨some 66, none, .call 114 [(.t 61), (.t 65)]⟩])
 .skip)))))⟩
theorem g77 : Good 77 c77 := ⟨_, Tryz.func77, by kernel_rfl⟩

def c78 : AFunc := ⟨[], (.seq (.reg [.op ⟨some 10, none, .mv (.t 0)⟩,
 .op ⟨some 11, none, .nilchk (.t 10)⟩,
 .op ⟨some 12, none, .fa 11 (.t 11)⟩,
 .op ⟨some 13, none, .load false 1 (.t 12)⟩,
 .op ⟨some 14, none, .mv (.t 1)⟩,
 .op ⟨some 15, none, .look false .nilp false (.t 13) (.t 14)⟩,
 .op ⟨some 6, none, .mv (.t 15)⟩])
 (.seq (.reg [.op ⟨some 16, none, .mv (.t 0)⟩,
 .op ⟨some 17, none, .nilchk (.t 16)⟩,
 .op ⟨some 18, none, .fa 12 (.t 17)⟩,
 .op ⟨some 19, none, .load false 1 (.t 18)⟩,
 .op ⟨some 20, none, .mv (.t 1)⟩,
 .op ⟨some 21, none, .call 76 [(.t 19), (.t 20)]⟩])
 (.block 0 (.seq (.reg [.op ⟨some 23, none, .bin .eql (.t 21) (.k (I 1))⟩,
 .op ⟨some 22, none, .mv (.t 23)⟩])
 (.ite (.t 22) (.reg [.op ⟨some 24, none, .mv (.t 0)⟩,
 .op ⟨some 25, none, .mv (.t 6)⟩,
 .op ⟨some 26, none, .call 77 [(.t 24), (.t 25), (.k (.bool true))]⟩])
 (.seq (.reg [.op ⟨some 28, none, .bin .eql (.t 21) (.k (I 3))⟩,
 .op ⟨some 27, none, .mv (.t 28)⟩])
 (.ite (.t 27) (.reg [.op ⟨some 29, none, .mv (.t 0)⟩,
 .op ⟨some 30, none, .mv (.t 1)⟩,
 .op ⟨some 31, none, .call 118 [(.t 29), (.t 30), (.k (.bool true))]⟩])
 (.seq (.reg [.op ⟨some 33, none, .bin .eql (.t 21) (.k (I 2))⟩,
 .op ⟨some 32, none, .mv (.t 33)⟩])
 (.ite (.t 32) (.seq (.reg [.op ⟨some 34, none, .mv (.t 6)⟩,
 .op ⟨some 35, none, .mv (.t 6)⟩,
 .op ⟨some 36, none, .nilchk (.t 35)⟩,
 .op ⟨some 37, none, .fa 9 (.t 36)⟩,
 .op ⟨some 38, none, .load false 1 (.t 37)⟩,
 .op ⟨some 39, none, .mv (.t 38)⟩,
 .op ⟨some 40, some (39, false), .mv (.t 2)⟩,
 .op ⟨some 41, some (39, false), .len .sl (.t 40)⟩,
 .op ⟨some 42, some (39, false), .bin .gtr (.t 41) (.k (I 0))⟩,
 .op ⟨some 43, none, .pick (.t 39) (.k (.bool true)) (.t 42)⟩,
 .op ⟨some 44, none, .nilchk (.t 34)⟩,
 .op ⟨some 45, none, .fa 9 (.t 44)⟩,
 .op ⟨none, none, .store 1 (.t 45) (.t 43)⟩])
 (.seq (.seq (.reg [.op ⟨some 46, none, .mv (.t 6)⟩,
 .op ⟨some 47, none, .nilchk (.t 46)⟩,
 .op ⟨some 48, none, .fa 8 (.t 47)⟩,
 .op ⟨some 49, none, .load false 1 (.t 48)⟩,
 .op ⟨some 50, none, .mv (.t 2)⟩,
 .op ⟨some 51, none, .call 124 [(.t 49), (.t 50)]⟩,
 .op ⟨some 52, none, .un .not (.t 51)⟩])
 (.ite (.t 52) (.seq (.reg [.op ⟨some 53, none, .mv (.t 0)⟩,
 .op ⟨some 54, none, .mv (.t 6)⟩,
 .op ⟨some 55, none, .call 77 [(.t 53), (.t 54), (.k (.bool true))]⟩])
 .ret)
 .skip))
 (.seq (.reg [.op ⟨some 57, none, .mv (.t 6)⟩,
 .op ⟨some 58, none, .call 125 [(.t 57), (.k (.bool false))]⟩,
 .op ⟨some 56, none, .mv (.t 58)⟩,
 .op ⟨some 59, none, .ext 0 (.t 56)⟩,
 .op ⟨some 60, none, .ext 1 (.t 56)⟩,
 .op ⟨some 61, none, .ext 2 (.t 56)⟩,
 .op ⟨some 7, none, .alloc [(I 0), (.str []), (I 0), .nils, .nils]⟩,
 .op ⟨none, none, .store 5 (.t 7) (.t 59)⟩,
 .op ⟨some 8, none, .mv (.t 60)⟩,
 .op ⟨some 9, none, .mv (.t 61)⟩])
 (.block 1 (.seq (.reg [.op ⟨some 63, none, .mv (.t 9)⟩,
 .op ⟨some 64, none, .un .not (.t 63)⟩,
 .op ⟨some 62, none, .mv (.t 64)⟩])
 (.ite (.t 62) (.reg [.op ⟨some 65, none, .mv (.t 0)⟩,
 .op ⟨some 66, none, .mv (.t 6)⟩,
 .op ⟨some 67, none, .call 77 [(.t 65), (.t 66), (.k (.bool true))]⟩])
 (.seq (.reg [.op ⟨some 69, none, .mv (.t 8)⟩,
 .op ⟨some 70, none, .bin .gtr (.t 69) (.k (I 0))⟩,
 .op ⟨some 68, none, .mv (.t 70)⟩])
 (.ite (.t 68) (.reg [.op ⟨some 71, none, .mv (.t 0)⟩,
 .op ⟨some 72, none, .mv (.t 6)⟩,
 .op ⟨some 73, none, .load true 5 (.t 7)⟩,
 .op ⟨some 74, none, .mv (.t 8)⟩,
 .op ⟨some 75, none, .call 126 [(.t 71), (.t 72), (.t 73), (.t 74), (.k (.bool false))]⟩])
 .skip))))))))
 .skip)))))))))⟩
theorem g78 : Good 78 c78 := ⟨_, Tryz.func78, by kernel_rfl⟩

def c79 : AFunc := ⟨[], (.seq (.reg [.op ⟨some 8, none, .mv (.t 0)⟩,
 .op ⟨some 9, none, .nilchk (.t 8)⟩,
 .op ⟨some 10, none, .fa 11 (.t 9)⟩,
 .op ⟨some 11, none, .load false 1 (.t 10)⟩,
 .op ⟨some 12, none, .mv (.t 1)⟩,
 .op ⟨some 13, none, .look false .nilp false (.t 11) (.t 12)⟩,
 .op ⟨some 4, none, .mv (.t 13)⟩])
 (.seq (.reg [.op ⟨some 14, none, .mv (.t 0)⟩,
 .op ⟨some 15, none, .nilchk (.t 14)⟩,
 .op ⟨some 16, none, .fa 12 (.t 15)⟩,
 .op ⟨some 17, none, .load false 1 (.t 16)⟩,
 .op ⟨some 18, none, .mv (.t 1)⟩,
 .op ⟨some 19, none, .call 76 [(.t 17), (.t 18)]⟩])
 (.block 0 (.seq (.reg [.op ⟨some 21, none, .bin .eql (.t 19) (.k (I 1))⟩,
 .op ⟨some 20, none, .mv (.t 21)⟩])
 (.ite (.t 20) (.reg [.op ⟨some 22, none, .mv (.t 0)⟩,
 .op ⟨some 23, none, .mv (.t 4)⟩,
 .op ⟨some 24, none, .call 77 [(.t 22), (.t 23), (.k (.bool false))]⟩])
 (.seq (.reg [.op ⟨some 26, none, .bin .eql (.t 19) (.k (I 3))⟩,
 .op ⟨some 25, none, .mv (.t 26)⟩])
 (.ite (.t 25) (.reg [.op ⟨some 27, none, .mv (.t 0)⟩,
 .op ⟨some 28, none, .mv (.t 1)⟩,
 .op ⟨some 29, none, .call 118 [(.t 27), (.t 28), (.k (.bool false))]⟩])
 (.seq (.reg [.op ⟨some 31, none, .bin .eql (.t 19) (.k (I 2))⟩,
 .op ⟨some 30, none, .mv (.t 31)⟩])
 (.ite (.t 30) (.seq (.reg [.op ⟨some 33, none, .mv (.t 4)⟩,
 .op ⟨some 34, none, .call 125 [(.t 33), (.k (.bool true))]⟩,
 .op ⟨some 32, none, .mv (.t 34)⟩,
 .op ⟨some 35, none, .ext 0 (.t 32)⟩,
 .op ⟨some 36, none, .ext 1 (.t 32)⟩,
 .op ⟨some 37, none, .ext 2 (.t 32)⟩,
 .op ⟨some 5, none, .alloc [(I 0), (.str []), (I 0), .nils, .nils]⟩,
 .op ⟨none, none, .store 5 (.t 5) (.t 35)⟩,
 .op ⟨some 6, none, .mv (.t 36)⟩,
 .op ⟨some 7, none, .mv (.t 37)⟩])
 (.seq (.reg [.op ⟨some 38, none, .mv (.t 7)⟩,
 .op ⟨some 39, none, .mv (.t 38)⟩,
 .op ⟨some 40, some (39, true), .mv (.t 6)⟩,
 .op ⟨some 41, some (39, true), .bin .gtr (.t 40) (.k (I 0))⟩,
 .op ⟨some 42, none, .pick (.t 39) (.t 41) (.k (.bool false))⟩])
 (.ite (.t 42) (.reg [.op ⟨some 43, none, .mv (.t 0)⟩,
 .op ⟨some 44, none, .mv (.t 4)⟩,
 .op ⟨some 45, none, .load true 5 (.t 5)⟩,
 .op ⟨some 46, none, .mv (.t 6)⟩,
 .op ⟨some 47, none, .call 126 [(.t 43), (.t 44), (.t 45), (.t 46), (.k (.bool true))]⟩])
 (.reg [.op ⟨some 48, none, .mv (.t 0)⟩,
 .op ⟨some 49, none, .mv (.t 4)⟩,
 .op ⟨some 50, none, .call 77 [(.t 48), (.t 49), (.k (.bool false))]⟩]))))
 .skip)))))))))⟩
theorem g79 : Good 79 c79 := ⟨_, Tryz.func79, by kernel_rfl⟩

def c80 : AFunc := ⟨[], (.seq (.reg [.op ⟨some 7, none, .mv (.t 1)⟩,
 .op ⟨some 8, none, .conv .b2s (.t 7)⟩,
 .op ⟨some 9, none, .call 127 [(.t 8)]⟩,
 .op ⟨some 6, none, .mv (.t 9)⟩,
 .op ⟨some 10, none, .ext 0 (.t 6)⟩,
 .op ⟨some 11, none, .ext 1 (.t 6)⟩,
 .op ⟨some 4, none, .alloc [.nils, .nils, .nils, .nils, (I 0), (I 0), (I 0), (I 0)]⟩,
 .op ⟨none, none, .store 8 (.t 4) (.t 10)⟩,
 .op ⟨some 5, none, .mv (.t 11)⟩])
 (.seq (.seq (.reg [.op ⟨some 12, none, .mv (.t 5)⟩,
 .op ⟨some 13, none, .bin .neq (.t 12) (.k (I 0))⟩])
 (.ite (.t 13) (.seq (.reg [.op ⟨some 14, none, .mv (.t 0)⟩,
 .op ⟨some 15, none, .build [(I 0), (I 0), (.str []), (I 0), (.str []), .nils] [(0, 1, (.k (I 9)))]⟩,
 .op ⟨some 16, none, .call 113 [(.t 14), (.t 15)]⟩])
 .ret)
 .skip))
 (.seq (.reg [.op ⟨some 17, none, .mv (.t 0)⟩,
 .op ⟨some 18, none, .load true 8 (.t 4)⟩,
 .op ⟨some 19, none, .nilchk (.t 17)⟩,
 .op ⟨some 20, none, .fa 17 (.t 19)⟩,
 .op ⟨none, none, .store 8 (.t 20) (.t 18)⟩])
 (.reg [.op ⟨some 21, none, .mv (.t 0)⟩,
 .op ⟨some 22, none, .build [(I 0), (I 0), (.str []), (I 0), (.str []), .nils] [(0, 1, (.k (I 8)))]⟩,
 .op ⟨some 23, none, .call 113 [(.t 21), (.t 22)]⟩]))))⟩
theorem g80 : Good 80 c80 := ⟨_, Tryz.func80, by kernel_rfl⟩

def c82 : AFunc := ⟨[], (.seq (.reg [.op ⟨some 10, none, .mv (.t 0)⟩,
 .op ⟨some 11, none, .nilchk (.t 10)⟩,
 .op ⟨some 12, none, .fa 9 (.t 11)⟩,
 .op ⟨some 13, none, .load false 1 (.t 12)⟩,
 .op ⟨some 14, none, .call 130 [(.t 13)]⟩,
 .op ⟨some 15, none, .call 129 [(.t 14)]⟩,
 .op ⟨some 2, none, .mv (.t 15)⟩])
 (.seq (.reg [.op ⟨some 3, none, .mv (.k .nils)⟩])
 (.seq (.seq (.reg [.op ⟨some 16, none, .mv (.t 2)⟩,
 .op ⟨some 17, none, .len .sl (.t 16)⟩,
 .op ⟨some 18, none, .mv (.k (I 0))⟩])
 (.block 0 (.loop (.seq (.reg [.op ⟨some 19, none, .bin .lss (.t 18) (.t 17)⟩])
 (.seq (.ite (.t 19) .skip
 (.exit 0))
 (.seq (.block 1 (.seq (.reg [.op ⟨some 20, none, .ia (.sl 1) (.t 16) (.t 18)⟩,
 .op ⟨some 21, none, .load false 1 (.t 20)⟩,
 .op ⟨some 5, none, .mv (.t 21)⟩])
 (.reg [.op ⟨some 22, none, .mv (.t 3)⟩,
 .op ⟨some 23, none, .mv (.t 5)⟩,
 .op ⟨some 24, none, .mv (.t 0)⟩,
 .op ⟨some 25, none, .nilchk (.t 24)⟩,
 .op ⟨some 26, none, .fa 9 (.t 25)⟩,
 .op ⟨some 27, none, .load false 1 (.t 26)⟩,
 .op ⟨some 28, none, .mv (.t 5)⟩,
 .op ⟨some 29, none, .look false .nilp false (.t 27) (.t 28)⟩,
 .op ⟨some 30, none, .call 131 [(.t 29)]⟩,
 .op ⟨some 31, none, .build [(I 0), (I 0)] [(0, 1, (.t 23)), (1, 1, (.t 30))]⟩,
 .op ⟨some 32, none, .bslice 2 1 [(I 0), (I 0)] [(0, 2, (.t 31))]⟩,
 .op ⟨some 33, none, .app 2 16 (.t 22) (.t 32)⟩,
 .op ⟨some 3, none, .mv (.t 33)⟩])))
 (.reg [.op ⟨some 34, none, .bin .add (.t 18) (.k (I 1))⟩,
 .op ⟨some 18, none, .mv (.t 34)⟩])))))))
 (.seq (.seq (.reg [.op ⟨some 35, none, .mv (.t 0)⟩,
 .op ⟨some 36, none, .nilchk (.t 35)⟩,
 .op ⟨some 37, none, .fa 16 (.t 36)⟩,
 .op ⟨some 38, none, .load false 1 (.t 37)⟩,
 .op ⟨some 39, none, .mv (.t 3)⟩,
 .op ⟨some 40, none, .call 132 [(.t 38), (.t 39)]⟩,
 .op ⟨some 41, none, .len .sl (.t 40)⟩,
 .op ⟨some 42, none, .mv (.k (I 0))⟩])
 (.block 2 (.loop (.seq (.reg [.op ⟨some 43, none, .bin .lss (.t 42) (.t 41)⟩])
 (.seq (.ite (.t 43) .skip
 (.exit 2))
 (.seq (.block 3 (.seq (.reg [.op ⟨some 44, none, .ia (.sl 2) (.t 40) (.t 42)⟩,
 .op ⟨some 45, none, .load true 2 (.t 44)⟩,
 .op ⟨some 7, none, .alloc [(I 0), (I 0)]⟩,
 .op ⟨none, none, .store 2 (.t 7) (.t 45)⟩])
 (.reg [.op ⟨some 46, none, .mv (.t 0)⟩,
 .op ⟨some 47, none, .fa 0 (.t 7)⟩,
 .op ⟨some 48, none, .load false 1 (.t 47)⟩,
 .op ⟨some 49, none, .mv (.t 0)⟩,
 .op ⟨some 50, none, .nilchk (.t 49)⟩,
 .op ⟨some 51, none, .fa 9 (.t 50)⟩,
 .op ⟨some 52, none, .load false 1 (.t 51)⟩,
 .op ⟨some 53, none, .fa 0 (.t 7)⟩,
 .op ⟨some 54, none, .load false 1 (.t 53)⟩,
 .op ⟨some 55, none, .look false .nilp false (.t 52) (.t 54)⟩,
 .op ⟨some 56, none, .fa 1 (.t 7)⟩,
 .op ⟨some 57, none, .load false 1 (.t 56)⟩,
 .op ⟨some 58, none, .call 133 [(.t 55), (.t 57)]⟩,
 .chk ⟨some 48, none, .load false 1 (.t 47)⟩,
 .op ⟨some 59, none, .build [(I 0), (I 0), (.str []), (I 0), (.str []), .nils] [(0, 1, (.k (I 1))), (1, 1, (.t 48)), (5, 1, (.t 58))]⟩,
 .op ⟨some 60, none, .call 113 [(.t 46), (.t 59)]⟩])))
 (.reg [.op ⟨some 61, none, .bin .add (.t 42) (.k (I 1))⟩,
 .op ⟨some 42, none, .mv (.t 61)⟩])))))))
 (.seq (.reg [.op ⟨some 62, none, .mv (.t 2)⟩,
 .op ⟨some 63, none, .len .sl (.t 62)⟩,
 .op ⟨some 64, none, .mv (.k (I 0))⟩])
 (.block 4 (.loop (.seq (.reg [.op ⟨some 65, none, .bin .lss (.t 64) (.t 63)⟩])
 (.seq (.ite (.t 65) .skip
 (.exit 4))
 (.seq (.block 5 (.seq (.reg [.op ⟨some 66, none, .ia (.sl 1) (.t 62) (.t 64)⟩,
 .op ⟨some 67, none, .load false 1 (.t 66)⟩,
 .op ⟨some 9, none, .mv (.t 67)⟩])
 (.seq (.reg [.op ⟨some 68, none, .mv (.t 0)⟩,
 .op ⟨some 69, none, .nilchk (.t 68)⟩,
 .op ⟨some 70, none, .fa 9 (.t 69)⟩,
 .op ⟨some 71, none, .load false 1 (.t 70)⟩,
 .op ⟨some 72, none, .mv (.t 9)⟩,
 .op ⟨some 73, none, .look false .nilp false (.t 71) (.t 72)⟩,
 .op ⟨some 74, none, .call 134 [(.t 73)]⟩])
 (.ite (.t 74) (.seq (.reg [.op ⟨some 75, none, .mv (.t 0)⟩,
 .op ⟨some 76, none, .mv (.t 9)⟩,
 .op ⟨some 77, none, .build [(I 0), (I 0), (.str []), (I 0), (.str []), .nils] [(0, 1, (.k (I 3))), (1, 1, (.t 76))]⟩,
 .op ⟨some 78, none, .call 113 [(.t 75), (.t 77)]⟩])
 (.reg [.op ⟨some 79, none, .mv (.t 0)⟩,
 .op ⟨some 80, none, .mv (.t 9)⟩,
 .op ⟨some 81, none, .call 135 [(.t 79), (.t 80)]⟩]))
 .skip))))
 (.reg [.op ⟨some 82, none, .bin .add (.t 64) (.k (I 1))⟩,
 .op ⟨some 64, none, .mv (.t 82)⟩])))))))))))⟩
theorem g82 : Good 82 c82 := ⟨_, Tryz.func82, by kernel_rfl⟩

def c83 : AFunc := ⟨[.t 2], (.seq (.reg [.op ⟨some 2, none, .mv (.k .nils)⟩])
 (.seq (.reg [.op ⟨some 4, none, .mv (.t 0)⟩,
 .op ⟨some 5, none, .nilchk (.t 4)⟩,
 .op ⟨some 6, none, .fa 26 (.t 5)⟩,
 .op ⟨some 7, none, .load false 1 (.t 6)⟩,
 .op ⟨some 3, none, .mv (.t 7)⟩])
 (.seq (.reg [.op ⟨some 8, none, .mv (.t 0)⟩,
 .op ⟨some 9, none, .nilchk (.t 8)⟩,
 .op ⟨some 10, none, .fa 26 (.t 9)⟩,
 .op ⟨none, none, .store 1 (.t 10) (.k .nils)⟩])
 (.seq (.reg [.op ⟨some 11, none, .mv (.t 3)⟩,
 .op ⟨some 2, none, .mv (.t 11)⟩])
 .ret))))⟩
theorem g83 : Good 83 c83 := ⟨_, Tryz.func83, by kernel_rfl⟩

def c84 : AFunc := ⟨[.t 4], (.seq (.reg [.op ⟨some 4, none, .mv (.k (.bool false))⟩])
 (.seq (.reg [.op ⟨some 5, none, .mv (.t 0)⟩,
 .op ⟨some 6, none, .len .sl (.t 5)⟩,
 .op ⟨some 7, none, .mv (.t 1)⟩,
 .op ⟨some 8, none, .len .sl (.t 7)⟩,
 .op ⟨some 9, none, .bin .geq (.t 6) (.t 8)⟩,
 .op ⟨some 10, none, .mv (.t 9)⟩,
 .op ⟨some 11, some (10, true), .mv (.t 0)⟩,
 .op ⟨some 12, some (10, true), .mv (.t 0)⟩,
 .op ⟨some 13, some (10, true), .len .sl (.t 12)⟩,
 .op ⟨some 14, some (10, true), .mv (.t 1)⟩,
 .op ⟨some 15, some (10, true), .len .sl (.t 14)⟩,
 .op ⟨some 16, some (10, true), .bin .sub (.t 13) (.t 15)⟩,
 .op ⟨some 17, some (10, true), .slc (.sl 1) (.t 11) (some (.t 16)) none none⟩,
 .op ⟨some 18, some (10, true), .mv (.t 1)⟩,
 .op ⟨some 19, some (10, true), .call 136 [(.t 17), (.t 18)]⟩,
 .op ⟨some 20, none, .pick (.t 10) (.t 19) (.k (.bool false))⟩,
 .op ⟨some 4, none, .mv (.t 20)⟩])
 .ret))⟩
theorem g84 : Good 84 c84 := ⟨_, Tryz.func84, by kernel_rfl⟩

def c85 : AFunc := ⟨[.c 2 true 21], (.seq (.reg [.op ⟨some 1, none, .box 9 (.t 0)⟩,
 .op ⟨some 2, none, .alloc [(I 0), (I 0), (I 0), (I 0), (I 0), (I 0), (I 0), (I 0), (I 0), (I 0), (I 0), (I 0), (I 0), (I 0), (I 0), (I 0), (I 0), (I 0), (I 0), (I 0), (I 0)]⟩])
 (.seq (.reg [.op ⟨some 3, none, .fa 0 (.t 1)⟩,
 .op ⟨some 4, none, .load false 1 (.t 3)⟩,
 .op ⟨some 5, none, .build [(I 0), (I 0), (I 0)] [(0, 1, (.t 4)), (1, 1, (.k (I 1))), (2, 1, (.k (I 1125899906842624)))]⟩,
 .op ⟨some 6, none, .fa 1 (.t 1)⟩,
 .op ⟨some 7, none, .load false 1 (.t 6)⟩,
 .op ⟨some 8, none, .build [(I 0), (I 0), (I 0)] [(0, 1, (.t 7)), (1, 1, (.k (I 0))), (2, 1, (.k (I 1125899906842624)))]⟩,
 .op ⟨some 9, none, .fa 2 (.t 1)⟩,
 .op ⟨some 10, none, .load false 1 (.t 9)⟩,
 .op ⟨some 11, none, .build [(I 0), (I 0), (I 0)] [(0, 1, (.t 10)), (1, 1, (.k (I 0))), (2, 1, (.k (I 1125899906842624)))]⟩,
 .op ⟨some 12, none, .fa 3 (.t 1)⟩,
 .op ⟨some 13, none, .load false 1 (.t 12)⟩,
 .op ⟨some 14, none, .build [(I 0), (I 0), (I 0)] [(0, 1, (.t 13)), (1, 1, (.k (I 1))), (2, 1, (.k (I 2147483647)))]⟩,
 .op ⟨some 15, none, .fa 6 (.t 1)⟩,
 .op ⟨some 16, none, .load false 1 (.t 15)⟩,
 .op ⟨some 17, none, .build [(I 0), (I 0), (I 0)] [(0, 1, (.t 16)), (1, 1, (.k (I 0))), (2, 1, (.k (I 999)))]⟩,
 .op ⟨some 18, none, .fa 7 (.t 1)⟩,
 .op ⟨some 19, none, .load false 1 (.t 18)⟩,
 .op ⟨some 20, none, .build [(I 0), (I 0), (I 0)] [(0, 1, (.t 19)), (1, 1, (.k (I 0))), (2, 1, (.k (I 1125899906842624)))]⟩,
 .op ⟨some 21, none, .fa 8 (.t 1)⟩,
 .op ⟨some 22, none, .load false 1 (.t 21)⟩,
 .op ⟨some 23, none, .build [(I 0), (I 0), (I 0)] [(0, 1, (.t 22)), (1, 1, (.k (I 0))), (2, 1, (.k (I 1125899906842624)))]⟩,
 .op ⟨some 24, none, .build [(I 0), (I 0), (I 0), (I 0), (I 0), (I 0), (I 0), (I 0), (I 0), (I 0), (I 0), (I 0), (I 0), (I 0), (I 0), (I 0), (I 0), (I 0), (I 0), (I 0), (I 0)] [(0, 3, (.t 5)), (3, 3, (.t 8)), (6, 3, (.t 11)), (9, 3, (.t 14)), (12, 3, (.t 17)), (15, 3, (.t 20)), (18, 3, (.t 23))]⟩,
 .op ⟨none, none, .store 21 (.t 2) (.t 24)⟩])
 .ret))⟩
theorem g85 : Good 85 c85 := ⟨_, Tryz.func85, by kernel_rfl⟩

def c86 : AFunc := ⟨[.t 2], (.seq (.reg [.op ⟨some 2, none, .mv (.k (.bool false))⟩])
 (.seq (.reg [.op ⟨some 3, none, .mv (.t 0)⟩,
 .op ⟨some 4, none, .bin .neq (.t 3) (.k (.str []))⟩,
 .op ⟨some 5, none, .mv (.t 4)⟩,
 .op ⟨some 6, some (5, true), .mv (.t 0)⟩,
 .op ⟨some 7, some (5, true), .call 137 [(.t 6), (.k (.fn 138 [] []))]⟩,
 .op ⟨some 8, none, .pick (.t 5) (.t 7) (.k (.bool false))⟩,
 .op ⟨some 2, none, .mv (.t 8)⟩])
 .ret))⟩
theorem g86 : Good 86 c86 := ⟨_, Tryz.func86, by kernel_rfl⟩

def c87 : AFunc := ⟨[.t 2], (.seq (.reg [.op ⟨some 2, none, .mv (.k (.bool false))⟩])
 (.seq (.reg [.op ⟨some 3, none, .mv (.t 0)⟩,
 .op ⟨some 4, none, .bin .neq (.t 3) (.k (.str []))⟩,
 .op ⟨some 5, none, .mv (.t 4)⟩,
 .op ⟨some 6, some (5, true), .mv (.t 0)⟩,
 .op ⟨some 7, some (5, true), .call 137 [(.t 6), (.k (.fn 140 [] []))]⟩,
 .op ⟨some 8, none, .pick (.t 5) (.t 7) (.k (.bool false))⟩,
 .op ⟨some 2, none, .mv (.t 8)⟩])
 .ret))⟩
theorem g87 : Good 87 c87 := ⟨_, Tryz.func87, by kernel_rfl⟩

def c88 : AFunc := ⟨[.c 2 true 5, .t 3, .t 4], (.seq (.reg [.op ⟨some 2, none, .alloc [(.str []), (.str []), (I 0), .nils, .nils]⟩,
 .op ⟨some 3, none, .mv (.k (I 0))⟩,
 .op ⟨some 4, none, .mv (.k (I 0))⟩])
 (.seq (.reg [.op ⟨some 13, none, .mv (.t 0)⟩,
 .op ⟨some 14, none, .call 141 [(.t 13)]⟩,
 .op ⟨some 12, none, .mv (.t 14)⟩,
 .op ⟨some 15, none, .ext 0 (.t 12)⟩,
 .op ⟨some 16, none, .ext 1 (.t 12)⟩,
 .op ⟨some 17, none, .ext 2 (.t 12)⟩,
 .op ⟨some 18, none, .ext 3 (.t 12)⟩,
 .op ⟨some 19, none, .ext 4 (.t 12)⟩,
 .op ⟨some 5, none, .alloc [(.str []), (.str []), (I 0), .nils, .nils]⟩,
 .op ⟨none, none, .store 5 (.t 5) (.t 15)⟩,
 .op ⟨some 6, none, .mv (.t 16)⟩,
 .op ⟨some 7, none, .mv (.t 17)⟩,
 .op ⟨some 8, none, .mv (.t 18)⟩,
 .op ⟨some 9, none, .mv (.t 19)⟩])
 (.seq (.seq (.reg [.op ⟨some 20, none, .mv (.t 6)⟩,
 .op ⟨some 21, none, .bin .eql (.t 20) (.k (I 0))⟩,
 .op ⟨some 22, none, .mv (.t 21)⟩,
 .op ⟨some 23, some (22, false), .mv (.t 9)⟩,
 .op ⟨some 24, some (22, false), .bin .neq (.t 23) (.k (I 0))⟩,
 .op ⟨some 25, none, .pick (.t 22) (.k (.bool true)) (.t 24)⟩])
 (.ite (.t 25) (.seq (.reg [.op ⟨some 26, none, .build [(.str []), (.str []), (I 0), .nils, .nils] []⟩,
 .op ⟨some 27, none, .mv (.t 9)⟩,
 .op ⟨none, none, .store 5 (.t 2) (.t 26)⟩,
 .op ⟨some 3, none, .mv (.k (I 0))⟩,
 .op ⟨some 4, none, .mv (.t 27)⟩])
 .ret)
 .skip))
 (.seq (.reg [.op ⟨some 29, none, .mv (.t 0)⟩,
 .op ⟨some 30, none, .mv (.t 6)⟩,
 .op ⟨some 31, none, .slc (.sl 1) (.t 29) (some (.t 30)) none none⟩,
 .op ⟨some 32, none, .mv (.t 7)⟩,
 .op ⟨some 33, none, .mv (.t 8)⟩,
 .op ⟨some 34, none, .call 142 [(.t 31), (.t 32), (.t 33)]⟩,
 .op ⟨some 28, none, .mv (.t 34)⟩,
 .op ⟨some 35, none, .ext 0 (.t 28)⟩,
 .op ⟨some 36, none, .ext 1 (.t 28)⟩,
 .op ⟨some 37, none, .ext 2 (.t 28)⟩,
 .op ⟨some 10, none, .mv (.t 35)⟩,
 .op ⟨some 11, none, .mv (.t 36)⟩,
 .op ⟨some 9, none, .mv (.t 37)⟩])
 (.seq (.seq (.reg [.op ⟨some 38, none, .mv (.t 11)⟩,
 .op ⟨some 39, none, .bin .lss (.t 38) (.k (I 0))⟩])
 (.ite (.t 39) (.seq (.reg [.op ⟨some 40, none, .build [(.str []), (.str []), (I 0), .nils, .nils] []⟩,
 .op ⟨some 41, none, .mv (.t 9)⟩,
 .op ⟨none, none, .store 5 (.t 2) (.t 40)⟩,
 .op ⟨some 3, none, .mv (.k (I 0))⟩,
 .op ⟨some 4, none, .mv (.t 41)⟩])
 .ret)
 .skip))
 (.seq (.reg [.op ⟨some 42, none, .mv (.t 10)⟩,
 .op ⟨some 43, none, .fa 4 (.t 5)⟩,
 .op ⟨none, none, .store 1 (.t 43) (.t 42)⟩])
 (.seq (.reg [.op ⟨some 44, none, .load true 5 (.t 5)⟩,
 .op ⟨some 45, none, .mv (.t 6)⟩,
 .op ⟨some 46, none, .mv (.t 11)⟩,
 .op ⟨some 47, none, .bin .add (.t 45) (.t 46)⟩,
 .op ⟨none, none, .store 5 (.t 2) (.t 44)⟩,
 .op ⟨some 3, none, .mv (.t 47)⟩,
 .op ⟨some 4, none, .mv (.k (I 0))⟩])
 .ret)))))))⟩
theorem g88 : Good 88 c88 := ⟨_, Tryz.func88, by kernel_rfl⟩

def c89 : AFunc := ⟨[.t 2], (.seq (.reg [.op ⟨some 2, none, .mv (.k (.str []))⟩])
 (.seq (.seq (.reg [.op ⟨some 3, none, .mv (.t 0)⟩])
 (.block 0 (.seq (.reg [.op ⟨some 5, none, .bin .eql (.t 3) (.k (I 200))⟩,
 .op ⟨some 4, none, .mv (.t 5)⟩])
 (.ite (.t 4) (.seq (.reg [.op ⟨some 2, none, .mv (.k (.str [79, 75]))⟩])
 .ret)
 (.seq (.reg [.op ⟨some 7, none, .bin .eql (.t 3) (.k (I 204))⟩,
 .op ⟨some 6, none, .mv (.t 7)⟩])
 (.ite (.t 6) (.seq (.reg [.op ⟨some 2, none, .mv (.k (.str [78, 111, 32, 67, 111, 110, 116, 101, 110, 116]))⟩])
 .ret)
 (.seq (.reg [.op ⟨some 9, none, .bin .eql (.t 3) (.k (I 400))⟩,
 .op ⟨some 8, none, .mv (.t 9)⟩])
 (.ite (.t 8) (.seq (.reg [.op ⟨some 2, none, .mv (.k (.str [66, 97, 100, 32, 82, 101, 113, 117, 101, 115, 116]))⟩])
 .ret)
 (.seq (.reg [.op ⟨some 11, none, .bin .eql (.t 3) (.k (I 404))⟩,
 .op ⟨some 10, none, .mv (.t 11)⟩])
 (.ite (.t 10) (.seq (.reg [.op ⟨some 2, none, .mv (.k (.str [78, 111, 116, 32, 70, 111, 117, 110, 100]))⟩])
 .ret)
 (.seq (.reg [.op ⟨some 13, none, .bin .eql (.t 3) (.k (I 413))⟩,
 .op ⟨some 12, none, .mv (.t 13)⟩])
 (.ite (.t 12) (.seq (.reg [.op ⟨some 2, none, .mv (.k (.str [67, 111, 110, 116, 101, 110, 116, 32, 84, 111, 111, 32, 76, 97, 114, 103, 101]))⟩])
 .ret)
 (.seq (.reg [.op ⟨some 15, none, .bin .eql (.t 3) (.k (I 414))⟩,
 .op ⟨some 14, none, .mv (.t 15)⟩])
 (.ite (.t 14) (.seq (.reg [.op ⟨some 2, none, .mv (.k (.str [85, 82, 73, 32, 84, 111, 111, 32, 76, 111, 110, 103]))⟩])
 .ret)
 (.seq (.reg [.op ⟨some 17, none, .bin .eql (.t 3) (.k (I 421))⟩,
 .op ⟨some 16, none, .mv (.t 17)⟩])
 (.ite (.t 16) (.seq (.reg [.op ⟨some 2, none, .mv (.k (.str [77, 105, 115, 100, 105, 114, 101, 99, 116, 101, 100, 32, 82, 101, 113, 117, 101, 115, 116]))⟩])
 .ret)
 (.seq (.reg [.op ⟨some 19, none, .bin .eql (.t 3) (.k (I 429))⟩,
 .op ⟨some 18, none, .mv (.t 19)⟩])
 (.ite (.t 18) (.seq (.reg [.op ⟨some 2, none, .mv (.k (.str [84, 111, 111, 32, 77, 97, 110, 121, 32, 82, 101, 113, 117, 101, 115, 116, 115]))⟩])
 .ret)
 (.seq (.reg [.op ⟨some 21, none, .bin .eql (.t 3) (.k (I 431))⟩,
 .op ⟨some 20, none, .mv (.t 21)⟩])
 (.ite (.t 20) (.seq (.reg [.op ⟨some 2, none, .mv (.k (.str [82, 101, 113, 117, 101, 115, 116, 32, 72, 101, 97, 100, 101, 114, 32, 70, 105, 101, 108, 100, 115, 32, 84, 111, 111, 32, 76, 97, 114, 103, 101]))⟩])
 .ret)
 (.seq (.reg [.op ⟨some 23, none, .bin .eql (.t 3) (.k (I 501))⟩,
 .op ⟨some 22, none, .mv (.t 23)⟩])
 (.ite (.t 22) (.seq (.reg [.op ⟨some 2, none, .mv (.k (.str [78, 111, 116, 32, 73, 109, 112, 108, 101, 109, 101, 110, 116, 101, 100]))⟩])
 .ret)
 (.seq (.reg [.op ⟨some 25, none, .bin .eql (.t 3) (.k (I 502))⟩,
 .op ⟨some 24, none, .mv (.t 25)⟩])
 (.ite (.t 24) (.seq (.reg [.op ⟨some 2, none, .mv (.k (.str [66, 97, 100, 32, 71, 97, 116, 101, 119, 97, 121]))⟩])
 .ret)
 (.seq (.reg [.op ⟨some 27, none, .bin .eql (.t 3) (.k (I 503))⟩,
 .op ⟨some 26, none, .mv (.t 27)⟩])
 (.ite (.t 26) (.seq (.reg [.op ⟨some 2, none, .mv (.k (.str [83, 101, 114, 118, 105, 99, 101, 32, 85, 110, 97, 118, 97, 105, 108, 97, 98, 108, 101]))⟩])
 .ret)
 (.seq (.reg [.op ⟨some 29, none, .bin .eql (.t 3) (.k (I 504))⟩,
 .op ⟨some 28, none, .mv (.t 29)⟩])
 (.ite (.t 28) (.seq (.reg [.op ⟨some 2, none, .mv (.k (.str [71, 97, 116, 101, 119, 97, 121, 32, 84, 105, 109, 101, 111, 117, 116]))⟩])
 .ret)
 (.seq (.reg [.op ⟨some 31, none, .bin .eql (.t 3) (.k (I 505))⟩,
 .op ⟨some 30, none, .mv (.t 31)⟩])
 (.ite (.t 30) (.seq (.reg [.op ⟨some 2, none, .mv (.k (.str [72, 84, 84, 80, 32, 86, 101, 114, 115, 105, 111, 110, 32, 78, 111, 116, 32, 83, 117, 112, 112, 111, 114, 116, 101, 100]))⟩])
 .ret)
 .skip))))))))))))))))))))))))))))))
 (.seq (.reg [.op ⟨some 2, none, .mv (.k (.str [83, 116, 97, 116, 117, 115]))⟩])
 .ret)))⟩
theorem g89 : Good 89 c89 := ⟨_, Tryz.func89, by kernel_rfl⟩

def c90 : AFunc := ⟨[.t 2], (.seq (.reg [.op ⟨some 1, none, .box 5 (.t 0)⟩,
 .op ⟨some 2, none, .mv (.k .nils)⟩])
 (.seq (.reg [.op ⟨some 3, none, .load true 5 (.t 1)⟩,
 .op ⟨some 5, none, .fa 3 (.t 1)⟩,
 .op ⟨some 6, none, .load false 1 (.t 5)⟩,
 .op ⟨some 7, none, .fa 4 (.t 1)⟩,
 .op ⟨some 8, none, .load false 1 (.t 7)⟩,
 .op ⟨some 4, none, .call 144 [(.t 3)]⟩,
 .chk ⟨some 8, none, .load false 1 (.t 7)⟩,
 .chk ⟨some 6, none, .load false 1 (.t 5)⟩,
 .op ⟨some 9, none, .call 143 [(.t 4), (.t 6), (.t 8)]⟩,
 .op ⟨some 2, none, .mv (.t 9)⟩])
 .ret))⟩
theorem g90 : Good 90 c90 := ⟨_, Tryz.func90, by kernel_rfl⟩

def c91 : AFunc := ⟨[.t 4], (.seq (.reg [.op ⟨some 4, none, .mv (.k (I 0))⟩])
 (.seq (.reg [.op ⟨some 5, none, .mv (.t 0)⟩,
 .op ⟨some 6, none, .mv (.t 1)⟩,
 .op ⟨some 7, none, .call 145 [(.t 5), (.t 6)]⟩,
 .op ⟨some 4, none, .mv (.t 7)⟩])
 .ret))⟩
theorem g91 : Good 91 c91 := ⟨_, Tryz.func91, by kernel_rfl⟩

def c96 : AFunc := ⟨[.t 4], (.seq (.reg [.op ⟨some 4, none, .mv (.k (I 0))⟩])
 (.seq (.seq (.reg [.op ⟨some 7, none, .mv (.t 1)⟩,
 .op ⟨some 8, none, .len .str (.t 7)⟩,
 .op ⟨some 9, none, .bin .eql (.t 8) (.k (I 0))⟩])
 (.ite (.t 9) (.seq (.reg [.op ⟨some 10, none, .mv (.t 0)⟩,
 .op ⟨some 11, none, .call 147 [(.t 10)]⟩,
 .op ⟨some 12, none, .bin .add (.t 11) (.k (I 1))⟩,
 .op ⟨some 4, none, .mv (.t 12)⟩])
 .ret)
 .skip))
 (.seq (.seq (.reg [.op ⟨some 13, none, .mv (.t 1)⟩,
 .op ⟨some 14, none, .len .str (.t 13)⟩,
 .op ⟨some 15, none, .bin .eql (.t 14) (.k (I 1))⟩])
 (.ite (.t 15) (.seq (.reg [.op ⟨some 16, none, .mv (.t 0)⟩,
 .op ⟨some 17, none, .mv (.t 1)⟩,
 .op ⟨some 18, none, .idx .str false (.t 17) (.k (I 0))⟩,
 .op ⟨some 19, none, .call 149 [(.t 16), (.t 18)]⟩,
 .op ⟨some 4, none, .mv (.t 19)⟩])
 .ret)
 .skip))
 (.seq (.reg [.op ⟨some 5, none, .mv (.k (I 0))⟩])
 (.block 0 (.loop (.block 1 (.seq (.reg [.op ⟨some 20, none, .mv (.t 0)⟩,
 .op ⟨some 21, none, .mv (.t 1)⟩,
 .op ⟨some 22, none, .call 97 [(.t 20), (.t 21)]⟩,
 .op ⟨some 6, none, .mv (.t 22)⟩])
 (.seq (.seq (.reg [.op ⟨some 23, none, .mv (.t 6)⟩,
 .op ⟨some 24, none, .bin .eql (.t 23) (.k (I (-1)))⟩])
 (.ite (.t 24) (.seq (.reg [.op ⟨some 25, none, .mv (.t 5)⟩,
 .op ⟨some 4, none, .mv (.t 25)⟩])
 .ret)
 .skip))
 (.seq (.reg [.op ⟨some 26, none, .mv (.t 5)⟩,
 .op ⟨some 27, none, .bin .add (.t 26) (.k (I 1))⟩,
 .op ⟨some 5, none, .mv (.t 27)⟩])
 (.reg [.op ⟨some 28, none, .mv (.t 0)⟩,
 .op ⟨some 29, none, .mv (.t 6)⟩,
 .op ⟨some 30, none, .mv (.t 1)⟩,
 .op ⟨some 31, none, .len .str (.t 30)⟩,
 .op ⟨some 32, none, .bin .add (.t 29) (.t 31)⟩,
 .op ⟨some 33, none, .slc .str (.t 28) (some (.t 32)) none none⟩,
 .op ⟨some 0, none, .mv (.t 33)⟩])))))))))))⟩
theorem g96 : Good 96 c96 := ⟨_, Tryz.func96, by kernel_rfl⟩

def c97 : AFunc := ⟨[.t 4], (.seq (.reg [.op ⟨some 4, none, .mv (.k (I 0))⟩])
 (.seq (.reg [.op ⟨some 5, none, .mv (.t 0)⟩,
 .op ⟨some 6, none, .mv (.t 1)⟩,
 .op ⟨some 7, none, .call 57 [(.t 5), (.t 6)]⟩,
 .op ⟨some 4, none, .mv (.t 7)⟩])
 .ret))⟩
theorem g97 : Good 97 c97 := ⟨_, Tryz.func97, by kernel_rfl⟩

def c98 : AFunc := ⟨[.t 4], (.seq (.reg [.op ⟨some 4, none, .mv (.k (I 0))⟩])
 (.seq (.reg [.op ⟨some 5, none, .mv (.t 0)⟩,
 .op ⟨some 6, none, .mv (.t 1)⟩,
 .op ⟨some 7, none, .call 91 [(.t 5), (.t 6)]⟩,
 .op ⟨some 4, none, .mv (.t 7)⟩])
 .ret))⟩
theorem g98 : Good 98 c98 := ⟨_, Tryz.func98, by kernel_rfl⟩

def c99 : AFunc := ⟨[.t 2], (.seq (.reg [.op ⟨some 2, none, .mv (.k (.str []))⟩])
 (.seq (.reg [.op ⟨some 6, none, .mv (.t 0)⟩,
 .op ⟨some 7, none, .conv .s2b (.t 6)⟩,
 .op ⟨some 3, none, .mv (.t 7)⟩])
 (.seq (.seq (.reg [.op ⟨some 8, none, .mv (.t 3)⟩,
 .op ⟨some 9, none, .len .sl (.t 8)⟩,
 .op ⟨some 10, none, .mv (.k (I 0))⟩])
 (.block 0 (.loop (.seq (.reg [.op ⟨some 11, none, .bin .lss (.t 10) (.t 9)⟩])
 (.seq (.ite (.t 11) .skip
 (.exit 0))
 (.seq (.block 1 (.seq (.reg [.op ⟨some 12, none, .mv (.t 10)⟩,
 .op ⟨some 13, none, .ia (.sl 1) (.t 8) (.t 10)⟩,
 .op ⟨some 14, none, .load false 1 (.t 13)⟩,
 .op ⟨some 4, none, .mv (.t 12)⟩,
 .op ⟨some 5, none, .mv (.t 14)⟩])
 (.seq (.reg [.op ⟨some 15, none, .mv (.t 5)⟩,
 .op ⟨some 16, none, .bin .geq (.t 15) (.k (.int .u8 (65)))⟩,
 .op ⟨some 17, none, .mv (.t 16)⟩,
 .op ⟨some 18, some (17, true), .mv (.t 5)⟩,
 .op ⟨some 19, some (17, true), .bin .leq (.t 18) (.k (.int .u8 (90)))⟩,
 .op ⟨some 20, none, .pick (.t 17) (.t 19) (.k (.bool false))⟩])
 (.ite (.t 20) (.reg [.op ⟨some 21, none, .mv (.t 3)⟩,
 .op ⟨some 22, none, .mv (.t 4)⟩,
 .op ⟨some 23, none, .mv (.t 5)⟩,
 .op ⟨some 24, none, .bin .add (.t 23) (.k (.int .u8 (97)))⟩,
 .op ⟨some 25, none, .bin .sub (.t 24) (.k (.int .u8 (65)))⟩,
 .op ⟨some 26, none, .ia (.sl 1) (.t 21) (.t 22)⟩,
 .op ⟨none, none, .store 1 (.t 26) (.t 25)⟩])
 .skip))))
 (.reg [.op ⟨some 27, none, .bin .add (.t 10) (.k (I 1))⟩,
 .op ⟨some 10, none, .mv (.t 27)⟩])))))))
 (.seq (.reg [.op ⟨some 28, none, .mv (.t 3)⟩,
 .op ⟨some 29, none, .conv .b2s (.t 28)⟩,
 .op ⟨some 2, none, .mv (.t 29)⟩])
 .ret))))⟩
theorem g99 : Good 99 c99 := ⟨_, Tryz.func99, by kernel_rfl⟩

def c100 : AFunc := ⟨[.t 4], (.seq (.reg [.op ⟨some 4, none, .mv (.k (.str []))⟩])
 (.seq (.seq (.reg [.op ⟨some 10, none, .mv (.t 1)⟩,
 .op ⟨some 11, none, .bin .eql (.t 10) (.k (I 10))⟩])
 (.ite (.t 11) (.seq (.seq (.reg [.op ⟨some 12, none, .mv (.t 0)⟩,
 .op ⟨some 13, none, .bin .leq (.k (I 0)) (.t 12)⟩,
 .op ⟨some 14, none, .mv (.t 13)⟩,
 .op ⟨some 15, some (14, true), .mv (.t 0)⟩,
 .op ⟨some 16, some (14, true), .bin .lss (.t 15) (.k (I 100))⟩,
 .op ⟨some 17, none, .pick (.t 14) (.t 16) (.k (.bool false))⟩])
 (.ite (.t 17) (.seq (.reg [.op ⟨some 18, none, .mv (.t 0)⟩,
 .op ⟨some 19, none, .call 150 [(.t 18)]⟩,
 .op ⟨some 4, none, .mv (.t 19)⟩])
 .ret)
 .skip))
 (.seq (.reg [.op ⟨some 5, none, .alloc [(.int .u8 (0)), (.int .u8 (0)), (.int .u8 (0)), (.int .u8 (0)), (.int .u8 (0)), (.int .u8 (0)), (.int .u8 (0)), (.int .u8 (0)), (.int .u8 (0)), (.int .u8 (0)), (.int .u8 (0)), (.int .u8 (0)), (.int .u8 (0)), (.int .u8 (0)), (.int .u8 (0)), (.int .u8 (0)), (.int .u8 (0)), (.int .u8 (0)), (.int .u8 (0)), (.int .u8 (0)), (.int .u8 (0)), (.int .u8 (0)), (.int .u8 (0)), (.int .u8 (0))]⟩])
 (.seq (.reg [.op ⟨some 20, none, .mv (.t 0)⟩,
 .op ⟨some 21, none, .conv (.int .u64) (.t 20)⟩,
 .op ⟨some 6, none, .mv (.t 21)⟩])
 (.seq (.seq (.reg [.op ⟨some 22, none, .mv (.t 0)⟩,
 .op ⟨some 23, none, .bin .lss (.t 22) (.k (I 0))⟩])
 (.ite (.t 23) (.reg [.op ⟨some 24, none, .mv (.t 6)⟩,
 .op ⟨some 25, none, .un .neg (.t 24)⟩,
 .op ⟨some 6, none, .mv (.t 25)⟩])
 .skip))
 (.seq (.reg [.op ⟨some 26, none, .mv (.t 6)⟩,
 .op ⟨some 27, none, .call 151 [(.t 26)]⟩,
 .op ⟨some 7, none, .mv (.t 27)⟩])
 (.seq (.reg [.op ⟨some 28, none, .mv (.t 7)⟩,
 .op ⟨some 29, none, .bin .add (.k (I 1)) (.t 28)⟩,
 .op ⟨some 30, none, .slc (.arr 24 1) (.t 5) (some (.k (I 1))) (some (.t 29)) none⟩,
 .op ⟨some 31, none, .mv (.t 6)⟩,
 .op ⟨some 32, none, .call 152 [(.t 30), (.t 31)]⟩])
 (.seq (.seq (.reg [.op ⟨some 33, none, .mv (.t 0)⟩,
 .op ⟨some 34, none, .bin .lss (.t 33) (.k (I 0))⟩])
 (.ite (.t 34) (.seq (.reg [.op ⟨some 35, none, .ia (.arr 24 1) (.t 5) (.k (I 0))⟩,
 .op ⟨none, none, .store 1 (.t 35) (.k (.int .u8 (45)))⟩])
 (.seq (.reg [.op ⟨some 36, none, .mv (.t 7)⟩,
 .op ⟨some 37, none, .bin .add (.k (I 1)) (.t 36)⟩,
 .op ⟨some 38, none, .slc (.arr 24 1) (.t 5) none (some (.t 37)) none⟩,
 .op ⟨some 39, none, .conv .b2s (.t 38)⟩,
 .op ⟨some 4, none, .mv (.t 39)⟩])
 .ret))
 .skip))
 (.seq (.reg [.op ⟨some 40, none, .mv (.t 7)⟩,
 .op ⟨some 41, none, .bin .add (.k (I 1)) (.t 40)⟩,
 .op ⟨some 42, none, .slc (.arr 24 1) (.t 5) (some (.k (I 1))) (some (.t 41)) none⟩,
 .op ⟨some 43, none, .conv .b2s (.t 42)⟩,
 .op ⟨some 4, none, .mv (.t 43)⟩])
 .ret))))))))
 .skip))
 (.seq (.reg [.op ⟨some 45, none, .mv (.t 0)⟩,
 .op ⟨some 46, none, .conv (.int .u64) (.t 45)⟩,
 .op ⟨some 47, none, .mv (.t 1)⟩,
 .op ⟨some 48, none, .mv (.t 0)⟩,
 .op ⟨some 49, none, .bin .lss (.t 48) (.k (I 0))⟩,
 .op ⟨some 50, none, .call 153 [(.k .nils), (.t 46), (.t 47), (.t 49), (.k (.bool false))]⟩,
 .op ⟨some 44, none, .mv (.t 50)⟩,
 .op ⟨some 51, none, .ext 0 (.t 44)⟩,
 .op ⟨some 52, none, .ext 1 (.t 44)⟩,
 .op ⟨some 8, none, .mv (.t 51)⟩,
 .op ⟨some 9, none, .mv (.t 52)⟩])
 (.seq (.reg [.op ⟨some 53, none, .mv (.t 9)⟩,
 .op ⟨some 4, none, .mv (.t 53)⟩])
 .ret))))⟩
theorem g100 : Good 100 c100 := ⟨_, Tryz.func100, by kernel_rfl⟩

def c101 : AFunc := ⟨[.t 4], (.seq (.reg [.op ⟨some 4, none, .mv (.k (I 0))⟩])
 (.seq (.seq (.reg [.op ⟨some 6, none, .mv (.t 0)⟩,
 .op ⟨some 7, none, .len .sl (.t 6)⟩,
 .op ⟨some 8, none, .mv (.k (I 0))⟩])
 (.block 0 (.loop (.seq (.reg [.op ⟨some 9, none, .bin .lss (.t 8) (.t 7)⟩])
 (.seq (.ite (.t 9) .skip
 (.exit 0))
 (.seq (.block 1 (.seq (.reg [.op ⟨some 10, none, .mv (.t 8)⟩,
 .op ⟨some 5, none, .mv (.t 10)⟩])
 (.seq (.reg [.op ⟨some 11, none, .mv (.t 1)⟩,
 .op ⟨some 12, none, .mv (.t 0)⟩,
 .op ⟨some 13, none, .mv (.t 5)⟩,
 .op ⟨some 14, none, .ia (.sl 3) (.t 12) (.t 13)⟩,
 .op ⟨some 15, none, .load true 3 (.t 14)⟩,
 .op ⟨some 16, none, .callv (.t 11) [(.t 15)]⟩])
 (.ite (.t 16) (.seq (.reg [.op ⟨some 17, none, .mv (.t 5)⟩,
 .op ⟨some 4, none, .mv (.t 17)⟩])
 .ret)
 .skip))))
 (.reg [.op ⟨some 18, none, .bin .add (.t 8) (.k (I 1))⟩,
 .op ⟨some 8, none, .mv (.t 18)⟩])))))))
 (.seq (.reg [.op ⟨some 4, none, .mv (.k (I (-1)))⟩])
 .ret)))⟩
theorem g101 : Good 101 c101 := ⟨_, Tryz.func101, by kernel_rfl⟩

def c102 : AFunc := ⟨[.t 4], (.seq (.reg [.op ⟨some 4, none, .mv (.k (I 0))⟩])
 (.seq (.seq (.reg [.op ⟨some 6, none, .mv (.t 0)⟩,
 .op ⟨some 7, none, .len .sl (.t 6)⟩,
 .op ⟨some 8, none, .mv (.k (I 0))⟩])
 (.block 0 (.loop (.seq (.reg [.op ⟨some 9, none, .bin .lss (.t 8) (.t 7)⟩])
 (.seq (.ite (.t 9) .skip
 (.exit 0))
 (.seq (.block 1 (.seq (.reg [.op ⟨some 10, none, .mv (.t 8)⟩,
 .op ⟨some 5, none, .mv (.t 10)⟩])
 (.seq (.reg [.op ⟨some 11, none, .mv (.t 1)⟩,
 .op ⟨some 12, none, .mv (.t 0)⟩,
 .op ⟨some 13, none, .mv (.t 5)⟩,
 .op ⟨some 14, none, .ia (.sl 1) (.t 12) (.t 13)⟩,
 .op ⟨some 15, none, .load false 1 (.t 14)⟩,
 .op ⟨some 16, none, .callv (.t 11) [(.t 15)]⟩])
 (.ite (.t 16) (.seq (.reg [.op ⟨some 17, none, .mv (.t 5)⟩,
 .op ⟨some 4, none, .mv (.t 17)⟩])
 .ret)
 .skip))))
 (.reg [.op ⟨some 18, none, .bin .add (.t 8) (.k (I 1))⟩,
 .op ⟨some 8, none, .mv (.t 18)⟩])))))))
 (.seq (.reg [.op ⟨some 4, none, .mv (.k (I (-1)))⟩])
 .ret)))⟩
theorem g102 : Good 102 c102 := ⟨_, Tryz.func102, by kernel_rfl⟩

end Go.Proofs.Tryz
