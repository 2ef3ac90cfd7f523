/- The code that the statement reaches, as the evaluator takes it, part 6. -/
import Derived.Test.YtdbihpcdlmaejaaGreatDoorPre
set_option maxRecDepth 1000000
set_option maxHeartbeats 4000000
namespace Go.Proofs.Tryz
open Go Go.Ai Go.Proofs

def c202 : AFunc := ⟨[.t 2], (.seq (.reg [.op ⟨some 1, none, .box 5 (.t 0)⟩,
 .op ⟨some 2, none, .mv (.k (.bool false))⟩])
 (.seq (.reg [.op ⟨some 6, none, .fa 3 (.t 1)⟩,
 .op ⟨some 7, none, .load false 1 (.t 6)⟩,
 .op ⟨some 8, none, .call 165 [(.t 7), (.k (.str [72, 111, 115, 116]))]⟩,
 .op ⟨some 3, none, .mv (.t 8)⟩])
 (.seq (.seq (.reg [.op ⟨some 9, none, .mv (.t 3)⟩,
 .op ⟨some 10, none, .len .sl (.t 9)⟩,
 .op ⟨some 11, none, .bin .eql (.t 10) (.k (I 0))⟩])
 (.ite (.t 11) (.seq (.reg [.op ⟨some 12, none, .fa 2 (.t 1)⟩,
 .op ⟨some 13, none, .load false 1 (.t 12)⟩,
 .op ⟨some 14, none, .bin .eql (.t 13) (.k (I 0))⟩,
 .op ⟨some 2, none, .mv (.t 14)⟩])
 .ret)
 .skip))
 (.seq (.reg [.op ⟨some 16, none, .mv (.t 3)⟩,
 .op ⟨some 17, none, .ia (.sl 1) (.t 16) (.k (I 0))⟩,
 .op ⟨some 18, none, .load false 1 (.t 17)⟩,
 .op ⟨some 19, none, .call 66 [(.t 18)]⟩,
 .op ⟨some 15, none, .mv (.t 19)⟩,
 .op ⟨some 20, none, .ext 0 (.t 15)⟩,
 .op ⟨some 21, none, .ext 1 (.t 15)⟩,
 .op ⟨some 4, none, .mv (.t 20)⟩,
 .op ⟨some 5, none, .mv (.t 21)⟩])
 (.seq (.reg [.op ⟨some 22, none, .mv (.t 5)⟩,
 .op ⟨some 23, none, .mv (.t 22)⟩,
 .op ⟨some 24, some (23, true), .mv (.t 3)⟩,
 .op ⟨some 25, some (23, true), .len .sl (.t 24)⟩,
 .op ⟨some 26, some (23, true), .bin .eql (.t 25) (.k (I 1))⟩,
 .op ⟨some 27, none, .pick (.t 23) (.t 26) (.k (.bool false))⟩,
 .op ⟨some 2, none, .mv (.t 27)⟩])
 .ret)))))⟩
theorem g202 : Good 202 c202 := ⟨_, Tryz.func202, by kernel_rfl⟩

def c203 : AFunc := ⟨[.t 4, .t 5, .t 6], (.seq (.reg [.op ⟨some 4, none, .mv (.k (I 0))⟩,
 .op ⟨some 5, none, .mv (.k (.bool false))⟩,
 .op ⟨some 6, none, .mv (.k (I 0))⟩])
 (.seq (.reg [.op ⟨some 11, none, .mv (.t 0)⟩,
 .op ⟨some 12, none, .call 270 [(.t 11), (.k (.str [67, 111, 110, 116, 101, 110, 116, 45, 76, 101, 110, 103, 116, 104]))]⟩,
 .op ⟨some 13, none, .mv (.t 0)⟩,
 .op ⟨some 14, none, .call 270 [(.t 13), (.k (.str [84, 114, 97, 110, 115, 102, 101, 114, 45, 69, 110, 99, 111, 100, 105, 110, 103]))]⟩,
 .op ⟨some 7, none, .mv (.t 12)⟩,
 .op ⟨some 8, none, .mv (.t 14)⟩])
 (.seq (.reg [.op ⟨some 16, none, .mv (.t 0)⟩,
 .op ⟨some 17, none, .call 271 [(.t 16)]⟩,
 .op ⟨some 15, none, .mv (.t 17)⟩,
 .op ⟨some 18, none, .ext 0 (.t 15)⟩,
 .op ⟨some 19, none, .ext 1 (.t 15)⟩,
 .op ⟨some 9, none, .mv (.t 18)⟩,
 .op ⟨some 10, none, .mv (.t 19)⟩])
 (.seq (.block 0 (.seq (.reg [.op ⟨some 21, none, .mv (.t 8)⟩,
 .op ⟨some 22, none, .mv (.t 21)⟩,
 .op ⟨some 23, some (22, true), .mv (.t 7)⟩,
 .op ⟨some 24, some (22, true), .mv (.t 23)⟩,
 .op ⟨some 25, some (24, false), .mv (.t 1)⟩,
 .op ⟨some 26, some (24, false), .bin .eql (.t 25) (.k (I 0))⟩,
 .op ⟨some 27, some (22, true), .pick (.t 24) (.k (.bool true)) (.t 26)⟩,
 .op ⟨some 28, none, .pick (.t 22) (.t 27) (.k (.bool false))⟩,
 .op ⟨some 20, none, .mv (.t 28)⟩])
 (.ite (.t 20) (.seq (.reg [.op ⟨some 4, none, .mv (.k (I 0))⟩,
 .op ⟨some 5, none, .mv (.k (.bool false))⟩,
 .op ⟨some 6, none, .mv (.k (I 400))⟩])
 .ret)
 (.seq (.reg [.op ⟨some 30, none, .mv (.t 8)⟩,
 .op ⟨some 31, none, .mv (.t 30)⟩,
 .op ⟨some 32, some (31, true), .mv (.t 0)⟩,
 .op ⟨some 33, some (31, true), .call 272 [(.t 32)]⟩,
 .op ⟨some 34, some (31, true), .un .not (.t 33)⟩,
 .op ⟨some 35, none, .pick (.t 31) (.t 34) (.k (.bool false))⟩,
 .op ⟨some 29, none, .mv (.t 35)⟩])
 (.ite (.t 29) (.seq (.reg [.op ⟨some 4, none, .mv (.k (I 0))⟩,
 .op ⟨some 5, none, .mv (.k (.bool false))⟩,
 .op ⟨some 6, none, .mv (.k (I 501))⟩])
 .ret)
 (.seq (.reg [.op ⟨some 37, none, .mv (.t 8)⟩,
 .op ⟨some 36, none, .mv (.t 37)⟩])
 (.ite (.t 36) (.seq (.reg [.op ⟨some 4, none, .mv (.k (I 0))⟩,
 .op ⟨some 5, none, .mv (.k (.bool true))⟩,
 .op ⟨some 6, none, .mv (.k (I 0))⟩])
 .ret)
 (.seq (.reg [.op ⟨some 39, none, .mv (.t 7)⟩,
 .op ⟨some 40, none, .un .not (.t 39)⟩,
 .op ⟨some 38, none, .mv (.t 40)⟩])
 (.ite (.t 38) (.seq (.reg [.op ⟨some 4, none, .mv (.k (I 0))⟩,
 .op ⟨some 5, none, .mv (.k (.bool false))⟩,
 .op ⟨some 6, none, .mv (.k (I 0))⟩])
 .ret)
 (.seq (.reg [.op ⟨some 42, none, .mv (.t 10)⟩,
 .op ⟨some 43, none, .un .not (.t 42)⟩,
 .op ⟨some 41, none, .mv (.t 43)⟩])
 (.ite (.t 41) (.seq (.reg [.op ⟨some 4, none, .mv (.k (I 0))⟩,
 .op ⟨some 5, none, .mv (.k (.bool false))⟩,
 .op ⟨some 6, none, .mv (.k (I 400))⟩])
 .ret)
 (.seq (.reg [.op ⟨some 45, none, .mv (.t 9)⟩,
 .op ⟨some 46, none, .bin .gtr (.t 45) (.k (I 4096))⟩,
 .op ⟨some 44, none, .mv (.t 46)⟩])
 (.ite (.t 44) (.seq (.reg [.op ⟨some 4, none, .mv (.k (I 0))⟩,
 .op ⟨some 5, none, .mv (.k (.bool false))⟩,
 .op ⟨some 6, none, .mv (.k (I 413))⟩])
 .ret)
 .skip)))))))))))))
 (.seq (.reg [.op ⟨some 47, none, .mv (.t 9)⟩,
 .op ⟨some 4, none, .mv (.t 47)⟩,
 .op ⟨some 5, none, .mv (.k (.bool false))⟩,
 .op ⟨some 6, none, .mv (.k (I 0))⟩])
 .ret)))))⟩
theorem g203 : Good 203 c203 := ⟨_, Tryz.func203, by kernel_rfl⟩

def c205 : AFunc := ⟨[.t 2], (.seq (.reg [.op ⟨some 1, none, .box 2 (.t 0)⟩,
 .op ⟨some 2, none, .mv (.k (.str []))⟩])
 (.seq (.reg [.op ⟨some 3, none, .fa 0 (.t 1)⟩,
 .op ⟨some 4, none, .load false 1 (.t 3)⟩,
 .op ⟨some 5, none, .bin .add (.t 4) (.k (.str [58, 32]))⟩,
 .op ⟨some 6, none, .fa 1 (.t 1)⟩,
 .op ⟨some 7, none, .load false 1 (.t 6)⟩,
 .op ⟨some 8, none, .bin .add (.t 5) (.t 7)⟩,
 .op ⟨some 9, none, .bin .add (.t 8) (.k (.str [13, 10]))⟩,
 .op ⟨some 2, none, .mv (.t 9)⟩])
 .ret))⟩
theorem g205 : Good 205 c205 := ⟨_, Tryz.func205, by kernel_rfl⟩

def c207 : AFunc := ⟨[.t 2], (.seq (.reg [.op ⟨some 2, none, .mv (.k (I 0))⟩])
 (.seq (.reg [.op ⟨some 3, none, .mv (.t 0)⟩,
 .op ⟨some 4, none, .bin .mul (.t 3) (.k (I 78913))⟩,
 .op ⟨some 5, none, .bin .shr (.t 4) (.k (.int .u64 (18)))⟩,
 .op ⟨some 2, none, .mv (.t 5)⟩])
 .ret))⟩
theorem g207 : Good 207 c207 := ⟨_, Tryz.func207, by kernel_rfl⟩

def c208 : AFunc := ⟨[.t 2], (.seq (.reg [.op ⟨some 2, none, .mv (.k (I 0))⟩])
 (.seq (.seq (.reg [.op ⟨some 3, none, .mv (.t 0)⟩,
 .op ⟨some 4, none, .bin .geq (.t 3) (.k (.int .u64 (4294967296)))⟩])
 (.ite (.t 4) (.seq (.reg [.op ⟨some 5, none, .mv (.t 0)⟩,
 .op ⟨some 6, none, .bin .shr (.t 5) (.k (.int .u64 (32)))⟩,
 .op ⟨some 0, none, .mv (.t 6)⟩])
 (.reg [.op ⟨some 2, none, .mv (.k (I 32))⟩]))
 .skip))
 (.seq (.seq (.reg [.op ⟨some 7, none, .mv (.t 0)⟩,
 .op ⟨some 8, none, .bin .geq (.t 7) (.k (.int .u64 (65536)))⟩])
 (.ite (.t 8) (.seq (.reg [.op ⟨some 9, none, .mv (.t 0)⟩,
 .op ⟨some 10, none, .bin .shr (.t 9) (.k (.int .u64 (16)))⟩,
 .op ⟨some 0, none, .mv (.t 10)⟩])
 (.reg [.op ⟨some 11, none, .mv (.t 2)⟩,
 .op ⟨some 12, none, .bin .add (.t 11) (.k (I 16))⟩,
 .op ⟨some 2, none, .mv (.t 12)⟩]))
 .skip))
 (.seq (.seq (.reg [.op ⟨some 13, none, .mv (.t 0)⟩,
 .op ⟨some 14, none, .bin .geq (.t 13) (.k (.int .u64 (256)))⟩])
 (.ite (.t 14) (.seq (.reg [.op ⟨some 15, none, .mv (.t 0)⟩,
 .op ⟨some 16, none, .bin .shr (.t 15) (.k (.int .u64 (8)))⟩,
 .op ⟨some 0, none, .mv (.t 16)⟩])
 (.reg [.op ⟨some 17, none, .mv (.t 2)⟩,
 .op ⟨some 18, none, .bin .add (.t 17) (.k (I 8))⟩,
 .op ⟨some 2, none, .mv (.t 18)⟩]))
 .skip))
 (.seq (.reg [.op ⟨some 19, none, .mv (.t 2)⟩,
 .op ⟨some 20, none, .mv (.t 0)⟩,
 .op ⟨some 21, none, .conv (.int .u8) (.t 20)⟩,
 .op ⟨some 22, none, .idx .str false (.k (.str [0, 1, 2, 2, 3, 3, 3, 3, 4, 4, 4, 4, 4, 4, 4, 4, 5, 5, 5, 5, 5, 5, 5, 5, 5, 5, 5, 5, 5, 5, 5, 5, 6, 6, 6, 6, 6, 6, 6, 6, 6, 6, 6, 6, 6, 6, 6, 6, 6, 6, 6, 6, 6, 6, 6, 6, 6, 6, 6, 6, 6, 6, 6, 6, 7, 7, 7, 7, 7, 7, 7, 7, 7, 7, 7, 7, 7, 7, 7, 7, 7, 7, 7, 7, 7, 7, 7, 7, 7, 7, 7, 7, 7, 7, 7, 7, 7, 7, 7, 7, 7, 7, 7, 7, 7, 7, 7, 7, 7, 7, 7, 7, 7, 7, 7, 7, 7, 7, 7, 7, 7, 7, 7, 7, 7, 7, 7, 7, 8, 8, 8, 8, 8, 8, 8, 8, 8, 8, 8, 8, 8, 8, 8, 8, 8, 8, 8, 8, 8, 8, 8, 8, 8, 8, 8, 8, 8, 8, 8, 8, 8, 8, 8, 8, 8, 8, 8, 8, 8, 8, 8, 8, 8, 8, 8, 8, 8, 8, 8, 8, 8, 8, 8, 8, 8, 8, 8, 8, 8, 8, 8, 8, 8, 8, 8, 8, 8, 8, 8, 8, 8, 8, 8, 8, 8, 8, 8, 8, 8, 8, 8, 8, 8, 8, 8, 8, 8, 8, 8, 8, 8, 8, 8, 8, 8, 8, 8, 8, 8, 8, 8, 8, 8, 8, 8, 8, 8, 8, 8, 8, 8, 8, 8, 8, 8, 8, 8, 8, 8, 8, 8, 8, 8, 8, 8, 8])) (.t 21)⟩,
 .op ⟨some 23, none, .conv (.int .i64) (.t 22)⟩,
 .op ⟨some 24, none, .bin .add (.t 19) (.t 23)⟩,
 .op ⟨some 2, none, .mv (.t 24)⟩])
 .ret)))))⟩
theorem g208 : Good 208 c208 := ⟨_, Tryz.func208, by kernel_rfl⟩

def c209 : AFunc := ⟨[.t 2], (.seq (.reg [.op ⟨some 2, none, .mv (.k (I 0))⟩])
 (.seq (.seq (.reg [.op ⟨some 3, none, .mv (.t 0)⟩])
 (.ite (.t 3) (.seq (.reg [.op ⟨some 2, none, .mv (.k (I 1))⟩])
 .ret)
 .skip))
 (.seq (.reg [.op ⟨some 2, none, .mv (.k (I 0))⟩])
 .ret)))⟩
theorem g209 : Good 209 c209 := ⟨_, Tryz.func209, by kernel_rfl⟩

def c212 : AFunc := ⟨[.t 4], (.seq (.reg [.op ⟨some 4, none, .mv (.k (.bool false))⟩])
 (.seq (.reg [.op ⟨some 5, none, .mv (.t 0)⟩,
 .op ⟨some 6, none, .mv (.t 1)⟩,
 .op ⟨some 7, none, .nilchk (.t 5)⟩,
 .op ⟨some 8, none, .ia (.arr 256 1) (.t 7) (.t 6)⟩,
 .op ⟨some 9, none, .load false 1 (.t 8)⟩,
 .op ⟨some 4, none, .mv (.t 9)⟩])
 .ret))⟩
theorem g212 : Good 212 c212 := ⟨_, Tryz.func212, by kernel_rfl⟩

def c215 : AFunc := ⟨[.c 2 true 2], (.seq (.reg [.op ⟨some 2, none, .alloc [(.str []), (.str [])]⟩])
 (.seq (.reg [.op ⟨some 3, none, .mv (.t 0)⟩,
 .op ⟨some 4, none, .call 36 [(.t 3)]⟩,
 .op ⟨some 5, none, .build [(.str []), (.str [])] [(0, 1, (.k (.str [67, 111, 110, 116, 101, 110, 116, 45, 76, 101, 110, 103, 116, 104]))), (1, 1, (.t 4))]⟩,
 .op ⟨none, none, .store 2 (.t 2) (.t 5)⟩])
 .ret))⟩
theorem g215 : Good 215 c215 := ⟨_, Tryz.func215, by kernel_rfl⟩

def c217 : AFunc := ⟨[.t 4], (.seq (.reg [.op ⟨some 4, none, .mv (.k (.bool false))⟩])
 (.seq (.reg [.op ⟨some 5, none, .mv (.t 0)⟩,
 .op ⟨some 6, none, .len .str (.t 5)⟩,
 .op ⟨some 7, none, .mv (.t 1)⟩,
 .op ⟨some 8, none, .len .str (.t 7)⟩,
 .op ⟨some 9, none, .bin .eql (.t 6) (.t 8)⟩,
 .op ⟨some 10, none, .mv (.t 9)⟩,
 .op ⟨some 11, some (10, true), .mv (.t 0)⟩,
 .op ⟨some 12, some (10, true), .call 99 [(.t 11)]⟩,
 .op ⟨some 13, some (10, true), .mv (.t 1)⟩,
 .op ⟨some 14, some (10, true), .call 99 [(.t 13)]⟩,
 .op ⟨some 15, some (10, true), .bin .eql (.t 12) (.t 14)⟩,
 .op ⟨some 16, none, .pick (.t 10) (.t 15) (.k (.bool false))⟩,
 .op ⟨some 4, none, .mv (.t 16)⟩])
 .ret))⟩
theorem g217 : Good 217 c217 := ⟨_, Tryz.func217, by kernel_rfl⟩

def c218 : AFunc := ⟨[.t 2], (.seq (.reg [.op ⟨some 2, none, .mv (.k .nilp)⟩])
 (.seq (.reg [.op ⟨some 3, none, .mv (.t 0)⟩,
 .op ⟨some 4, none, .build [.nilp, .nils, (I 0)] [(0, 1, (.t 3))]⟩,
 .op ⟨some 5, none, .box 3 (.t 4)⟩,
 .op ⟨some 2, none, .mv (.t 5)⟩])
 .ret))⟩
theorem g218 : Good 218 c218 := ⟨_, Tryz.func218, by kernel_rfl⟩

def c219 : AFunc := ⟨[.t 2, .t 3], (.seq (.reg [.op ⟨some 1, none, .box 9 (.t 0)⟩,
 .op ⟨some 2, none, .mv (.k .nils)⟩,
 .op ⟨some 3, none, .mv (.k (I 0))⟩])
 (.seq (.seq (.reg [.op ⟨some 7, none, .load true 9 (.t 1)⟩,
 .op ⟨some 8, none, .call 53 [(.t 7)]⟩,
 .op ⟨some 9, none, .un .not (.t 8)⟩])
 (.ite (.t 9) (.seq (.reg [.op ⟨some 2, none, .mv (.k .nils)⟩,
 .op ⟨some 3, none, .mv (.k (I 1))⟩])
 .ret)
 .skip))
 (.seq (.reg [.op ⟨some 4, none, .mv (.k .nils)⟩])
 (.seq (.seq (.reg [.op ⟨some 10, none, .load true 9 (.t 1)⟩,
 .op ⟨some 11, none, .call 85 [(.t 10)]⟩,
 .op ⟨some 12, none, .mv (.k (I 0))⟩])
 (.block 0 (.loop (.seq (.reg [.op ⟨some 13, none, .bin .lss (.t 12) (.k (I 7))⟩])
 (.seq (.ite (.t 13) .skip
 (.exit 0))
 (.seq (.block 1 (.seq (.reg [.op ⟨some 14, none, .mv (.t 12)⟩,
 .op ⟨some 15, none, .idx (.arr 7 3) true (.t 11) (.t 12)⟩,
 .op ⟨some 6, none, .alloc [(I 0), (I 0), (I 0)]⟩,
 .op ⟨some 5, none, .mv (.t 14)⟩,
 .op ⟨none, none, .store 3 (.t 6) (.t 15)⟩])
 (.seq (.seq (.reg [.op ⟨some 16, none, .mv (.t 5)⟩,
 .op ⟨some 17, none, .bin .eql (.t 16) (.k (I 4))⟩])
 (.ite (.t 17) (.reg [.op ⟨some 18, none, .mv (.t 4)⟩,
 .op ⟨some 19, none, .fa 4 (.t 1)⟩,
 .op ⟨some 20, none, .load false 1 (.t 19)⟩,
 .op ⟨some 21, none, .fa 5 (.t 1)⟩,
 .op ⟨some 22, none, .load false 1 (.t 21)⟩,
 .op ⟨some 23, none, .bslice 1 2 [(.str [])] [(0, 1, (.t 20)), (1, 1, (.t 22))]⟩,
 .op ⟨some 24, none, .app 1 16 (.t 18) (.t 23)⟩,
 .op ⟨some 4, none, .mv (.t 24)⟩])
 .skip))
 (.reg [.op ⟨some 25, none, .mv (.t 4)⟩,
 .op ⟨some 26, none, .fa 0 (.t 6)⟩,
 .op ⟨some 27, none, .load false 1 (.t 26)⟩,
 .op ⟨some 28, none, .call 36 [(.t 27)]⟩,
 .op ⟨some 29, none, .bslice 1 1 [(.str [])] [(0, 1, (.t 28))]⟩,
 .op ⟨some 30, none, .app 1 16 (.t 25) (.t 29)⟩,
 .op ⟨some 4, none, .mv (.t 30)⟩]))))
 (.reg [.op ⟨some 31, none, .bin .add (.t 12) (.k (I 1))⟩,
 .op ⟨some 12, none, .mv (.t 31)⟩])))))))
 (.seq (.reg [.op ⟨some 32, none, .mv (.t 4)⟩,
 .op ⟨some 33, none, .call 280 [(.t 32), (.k (.str [32]))]⟩,
 .op ⟨some 34, none, .bin .add (.t 33) (.k (.str [10]))⟩,
 .op ⟨some 35, none, .conv .s2b (.t 34)⟩,
 .op ⟨some 2, none, .mv (.t 35)⟩,
 .op ⟨some 3, none, .mv (.k (I 0))⟩])
 .ret)))))⟩
theorem g219 : Good 219 c219 := ⟨_, Tryz.func219, by kernel_rfl⟩

def c220 : AFunc := ⟨[.t 2], (.seq (.reg [.op ⟨some 2, none, .mv (.k (I 0))⟩])
 (.seq (.reg [.op ⟨some 3, none, .mv (.t 0)⟩,
 .op ⟨some 4, none, .mv (.t 0)⟩,
 .op ⟨some 5, none, .nilchk (.t 4)⟩,
 .op ⟨some 6, none, .fa 2 (.t 5)⟩,
 .op ⟨some 7, none, .load false 1 (.t 6)⟩,
 .op ⟨some 8, none, .call 182 [(.t 3), (.t 7)]⟩,
 .op ⟨some 9, none, .len .sl (.t 8)⟩,
 .op ⟨some 2, none, .mv (.t 9)⟩])
 .ret))⟩
theorem g220 : Good 220 c220 := ⟨_, Tryz.func220, by kernel_rfl⟩

def c221 : AFunc := ⟨[.t 4], (.seq (.reg [.op ⟨some 4, none, .mv (.k (.bool false))⟩])
 (.seq (.reg [.op ⟨some 8, none, .mv (.t 0)⟩,
 .op ⟨some 9, none, .nilchk (.t 8)⟩,
 .op ⟨some 10, none, .fa 2 (.t 9)⟩,
 .op ⟨some 11, none, .load false 1 (.t 10)⟩,
 .op ⟨some 12, none, .mv (.t 1)⟩,
 .op ⟨some 13, none, .look false (I 0) true (.t 11) (.t 12)⟩,
 .op ⟨some 7, none, .mv (.t 13)⟩,
 .op ⟨some 14, none, .ext 0 (.t 7)⟩,
 .op ⟨some 15, none, .ext 1 (.t 7)⟩,
 .op ⟨some 5, none, .mv (.t 14)⟩,
 .op ⟨some 6, none, .mv (.t 15)⟩])
 (.seq (.reg [.op ⟨some 16, none, .mv (.t 0)⟩,
 .op ⟨some 17, none, .nilchk (.t 16)⟩,
 .op ⟨some 18, none, .fa 2 (.t 17)⟩,
 .op ⟨some 19, none, .load false 1 (.t 18)⟩,
 .op ⟨some 20, none, .mv (.t 1)⟩,
 .op ⟨none, none, .del false (.t 19) (.t 20)⟩])
 (.seq (.reg [.op ⟨some 21, none, .mv (.t 6)⟩,
 .op ⟨some 4, none, .mv (.t 21)⟩])
 .ret))))⟩
theorem g221 : Good 221 c221 := ⟨_, Tryz.func221, by kernel_rfl⟩

def c222 : AFunc := ⟨[.t 2], (.seq (.reg [.op ⟨some 2, none, .mv (.k (.bool false))⟩])
 (.seq (.reg [.op ⟨some 3, none, .mv (.t 0)⟩,
 .op ⟨some 4, none, .nilchk (.t 3)⟩,
 .op ⟨some 5, none, .fa 3 (.t 4)⟩,
 .op ⟨some 6, none, .call 281 [(.t 5)]⟩,
 .op ⟨some 2, none, .mv (.t 6)⟩])
 .ret))⟩
theorem g222 : Good 222 c222 := ⟨_, Tryz.func222, by kernel_rfl⟩

def c223 : AFunc := ⟨[.t 2], (.seq (.reg [.op ⟨some 2, none, .mv (.k .nils)⟩])
 (.seq (.reg [.op ⟨some 3, none, .mv (.t 0)⟩,
 .op ⟨some 4, none, .nilchk (.t 3)⟩,
 .op ⟨some 5, none, .fa 0 (.t 4)⟩,
 .op ⟨some 6, none, .load false 1 (.t 5)⟩,
 .op ⟨some 7, none, .mv (.t 0)⟩,
 .op ⟨some 8, none, .nilchk (.t 7)⟩,
 .op ⟨some 9, none, .fa 0 (.t 8)⟩,
 .op ⟨some 10, none, .load false 1 (.t 9)⟩,
 .op ⟨some 11, none, .call 117 [(.t 10)]⟩,
 .chk ⟨some 6, none, .load false 1 (.t 5)⟩,
 .op ⟨some 12, none, .call 116 [(.t 6), (.t 11)]⟩,
 .op ⟨some 2, none, .mv (.t 12)⟩])
 .ret))⟩
theorem g223 : Good 223 c223 := ⟨_, Tryz.func223, by kernel_rfl⟩

def c225 : AFunc := ⟨[.t 2], (.seq (.reg [.op ⟨some 2, none, .mv (.k (.bool false))⟩])
 (.seq (.reg [.op ⟨some 11, none, .mv (.t 0)⟩,
 .op ⟨some 12, none, .call 141 [(.t 11)]⟩,
 .op ⟨some 10, none, .mv (.t 12)⟩,
 .op ⟨some 13, none, .ext 0 (.t 10)⟩,
 .op ⟨some 14, none, .ext 1 (.t 10)⟩,
 .op ⟨some 15, none, .ext 2 (.t 10)⟩,
 .op ⟨some 16, none, .ext 3 (.t 10)⟩,
 .op ⟨some 17, none, .ext 4 (.t 10)⟩,
 .op ⟨some 3, none, .alloc [(.str []), (.str []), (I 0), .nils, .nils]⟩,
 .op ⟨none, none, .store 5 (.t 3) (.t 13)⟩,
 .op ⟨some 4, none, .mv (.t 14)⟩,
 .op ⟨some 5, none, .mv (.t 15)⟩,
 .op ⟨some 6, none, .mv (.t 16)⟩,
 .op ⟨some 7, none, .mv (.t 17)⟩])
 (.seq (.seq (.reg [.op ⟨some 18, none, .mv (.t 4)⟩,
 .op ⟨some 19, none, .bin .eql (.t 18) (.k (I 0))⟩,
 .op ⟨some 20, none, .mv (.t 19)⟩,
 .op ⟨some 21, some (20, false), .mv (.t 7)⟩,
 .op ⟨some 22, some (20, false), .bin .neq (.t 21) (.k (I 0))⟩,
 .op ⟨some 23, none, .pick (.t 20) (.k (.bool true)) (.t 22)⟩,
 .op ⟨some 24, none, .mv (.t 23)⟩,
 .op ⟨some 25, some (24, false), .fa 2 (.t 3)⟩,
 .op ⟨some 26, some (24, false), .load false 1 (.t 25)⟩,
 .op ⟨some 27, some (24, false), .bin .eql (.t 26) (.k (I 0))⟩,
 .op ⟨some 28, none, .pick (.t 24) (.k (.bool true)) (.t 27)⟩,
 .op ⟨some 29, none, .mv (.t 28)⟩,
 .op ⟨some 30, some (29, false), .fa 3 (.t 3)⟩,
 .op ⟨some 31, some (29, false), .load false 1 (.t 30)⟩,
 .op ⟨some 32, some (29, false), .call 247 [(.t 31), (.k (.str [69, 120, 112, 101, 99, 116])), (.k (.str [49, 48, 48, 45, 99, 111, 110, 116, 105, 110, 117, 101]))]⟩,
 .op ⟨some 33, some (29, false), .un .not (.t 32)⟩,
 .op ⟨some 34, none, .pick (.t 29) (.k (.bool true)) (.t 33)⟩])
 (.ite (.t 34) (.seq (.reg [.op ⟨some 2, none, .mv (.k (.bool false))⟩])
 .ret)
 .skip))
 (.seq (.reg [.op ⟨some 36, none, .mv (.t 0)⟩,
 .op ⟨some 37, none, .mv (.t 4)⟩,
 .op ⟨some 38, none, .slc (.sl 1) (.t 36) (some (.t 37)) none none⟩,
 .op ⟨some 39, none, .mv (.t 5)⟩,
 .op ⟨some 40, none, .mv (.t 6)⟩,
 .op ⟨some 41, none, .call 142 [(.t 38), (.t 39), (.t 40)]⟩,
 .op ⟨some 35, none, .mv (.t 41)⟩,
 .op ⟨some 42, none, .ext 0 (.t 35)⟩,
 .op ⟨some 43, none, .ext 1 (.t 35)⟩,
 .op ⟨some 44, none, .ext 2 (.t 35)⟩,
 .op ⟨some 8, none, .mv (.t 42)⟩,
 .op ⟨some 9, none, .mv (.t 43)⟩,
 .op ⟨some 7, none, .mv (.t 44)⟩])
 (.seq (.reg [.op ⟨some 45, none, .mv (.t 9)⟩,
 .op ⟨some 46, none, .bin .lss (.t 45) (.k (I 0))⟩,
 .op ⟨some 47, none, .mv (.t 46)⟩,
 .op ⟨some 48, some (47, true), .mv (.t 7)⟩,
 .op ⟨some 49, some (47, true), .bin .eql (.t 48) (.k (I 0))⟩,
 .op ⟨some 50, none, .pick (.t 47) (.t 49) (.k (.bool false))⟩,
 .op ⟨some 2, none, .mv (.t 50)⟩])
 .ret)))))⟩
theorem g225 : Good 225 c225 := ⟨_, Tryz.func225, by kernel_rfl⟩

def c226 : AFunc := ⟨[.t 6], (.seq (.reg [.op ⟨some 6, none, .mv (.k (.bool false))⟩])
 (.seq (.reg [.op ⟨some 7, none, .mv (.t 0)⟩,
 .op ⟨some 8, none, .mv (.t 1)⟩,
 .op ⟨some 9, none, .call 284 [(.t 7), (.t 8)]⟩])
 (.seq (.seq (.reg [.op ⟨some 10, none, .mv (.t 2)⟩,
 .op ⟨some 11, none, .bin .lss (.t 10) (.k (I 0))⟩,
 .op ⟨some 12, none, .mv (.t 11)⟩,
 .op ⟨some 13, some (12, false), .mv (.t 2)⟩,
 .op ⟨some 14, some (12, false), .mv (.t 0)⟩,
 .op ⟨some 15, some (12, false), .nilchk (.t 14)⟩,
 .op ⟨some 16, some (12, false), .fa 2 (.t 15)⟩,
 .op ⟨some 17, some (12, false), .load false 1 (.t 16)⟩,
 .op ⟨some 18, some (12, false), .bin .gtr (.t 13) (.t 17)⟩,
 .op ⟨some 19, none, .pick (.t 12) (.k (.bool true)) (.t 18)⟩])
 (.ite (.t 19) (.seq (.reg [.op ⟨some 6, none, .mv (.k (.bool false))⟩])
 .ret)
 .skip))
 (.seq (.reg [.op ⟨some 20, none, .mv (.t 0)⟩,
 .op ⟨some 21, none, .nilchk (.t 20)⟩,
 .op ⟨some 22, none, .fa 2 (.t 21)⟩,
 .op ⟨some 23, none, .load false 1 (.t 22)⟩,
 .op ⟨some 24, none, .mv (.t 2)⟩,
 .op ⟨some 25, none, .bin .sub (.t 23) (.t 24)⟩,
 .op ⟨some 26, none, .nilchk (.t 20)⟩,
 .op ⟨some 27, none, .fa 2 (.t 26)⟩,
 .op ⟨none, none, .store 1 (.t 27) (.t 25)⟩])
 (.seq (.reg [.op ⟨some 6, none, .mv (.k (.bool true))⟩])
 .ret)))))⟩
theorem g226 : Good 226 c226 := ⟨_, Tryz.func226, by kernel_rfl⟩

def c227 : AFunc := ⟨[.t 4], (.seq (.reg [.op ⟨some 4, none, .mv (.k (I 0))⟩])
 (.seq (.reg [.op ⟨some 5, none, .mv (.k (I (-1)))⟩])
 (.seq (.seq (.reg [.op ⟨some 8, none, .mv (.t 0)⟩,
 .op ⟨some 9, none, .len .sl (.t 8)⟩,
 .op ⟨some 10, none, .mv (.k (I 0))⟩])
 (.block 0 (.loop (.seq (.reg [.op ⟨some 11, none, .bin .lss (.t 10) (.t 9)⟩])
 (.seq (.ite (.t 11) .skip
 (.exit 0))
 (.seq (.block 1 (.seq (.reg [.op ⟨some 12, none, .mv (.t 10)⟩,
 .op ⟨some 13, none, .ia (.sl 3) (.t 8) (.t 10)⟩,
 .op ⟨some 14, none, .load true 3 (.t 13)⟩,
 .op ⟨some 7, none, .alloc [(.str []), (.str []), (.str [])]⟩,
 .op ⟨some 6, none, .mv (.t 12)⟩,
 .op ⟨none, none, .store 3 (.t 7) (.t 14)⟩])
 (.seq (.reg [.op ⟨some 15, none, .fa 0 (.t 7)⟩,
 .op ⟨some 16, none, .load false 1 (.t 15)⟩,
 .op ⟨some 17, none, .mv (.t 1)⟩,
 .op ⟨some 18, none, .call 285 [(.t 16), (.t 17)]⟩,
 .op ⟨some 19, none, .mv (.t 18)⟩,
 .op ⟨some 20, some (19, true), .mv (.t 5)⟩,
 .op ⟨some 21, some (19, true), .bin .lss (.t 20) (.k (I 0))⟩,
 .op ⟨some 22, some (19, true), .mv (.t 21)⟩,
 .op ⟨some 23, some (22, false), .fa 0 (.t 7)⟩,
 .op ⟨some 24, some (22, false), .load false 1 (.t 23)⟩,
 .op ⟨some 25, some (22, false), .len .str (.t 24)⟩,
 .op ⟨some 26, some (22, false), .mv (.t 0)⟩,
 .op ⟨some 27, some (22, false), .mv (.t 5)⟩,
 .op ⟨some 28, some (22, false), .ia (.sl 3) (.t 26) (.t 27)⟩,
 .op ⟨some 29, some (22, false), .fa 0 (.t 28)⟩,
 .op ⟨some 30, some (22, false), .load false 1 (.t 29)⟩,
 .op ⟨some 31, some (22, false), .len .str (.t 30)⟩,
 .op ⟨some 32, some (22, false), .bin .gtr (.t 25) (.t 31)⟩,
 .op ⟨some 33, some (19, true), .pick (.t 22) (.k (.bool true)) (.t 32)⟩,
 .op ⟨some 34, none, .pick (.t 19) (.t 33) (.k (.bool false))⟩])
 (.ite (.t 34) (.reg [.op ⟨some 35, none, .mv (.t 6)⟩,
 .op ⟨some 5, none, .mv (.t 35)⟩])
 .skip))))
 (.reg [.op ⟨some 36, none, .bin .add (.t 10) (.k (I 1))⟩,
 .op ⟨some 10, none, .mv (.t 36)⟩])))))))
 (.seq (.reg [.op ⟨some 37, none, .mv (.t 5)⟩,
 .op ⟨some 4, none, .mv (.t 37)⟩])
 .ret))))⟩
theorem g227 : Good 227 c227 := ⟨_, Tryz.func227, by kernel_rfl⟩

def c228 : AFunc := ⟨[.t 4, .t 5], (.seq (.reg [.op ⟨some 2, none, .box 3 (.t 0)⟩,
 .op ⟨some 4, none, .mv (.k (.str []))⟩,
 .op ⟨some 5, none, .mv (.k (.bool false))⟩])
 (.seq (.seq (.reg [.op ⟨some 9, none, .fa 0 (.t 2)⟩,
 .op ⟨some 10, none, .load false 1 (.t 9)⟩,
 .op ⟨some 11, none, .mv (.t 1)⟩,
 .op ⟨some 12, none, .call 285 [(.t 10), (.t 11)]⟩,
 .op ⟨some 13, none, .un .not (.t 12)⟩])
 (.ite (.t 13) (.seq (.reg [.op ⟨some 4, none, .mv (.k (.str []))⟩,
 .op ⟨some 5, none, .mv (.k (.bool false))⟩])
 .ret)
 .skip))
 (.seq (.reg [.op ⟨some 14, none, .mv (.t 1)⟩,
 .op ⟨some 15, none, .fa 0 (.t 2)⟩,
 .op ⟨some 16, none, .load false 1 (.t 15)⟩,
 .op ⟨some 17, none, .len .str (.t 16)⟩,
 .op ⟨some 18, none, .slc .str (.t 14) (some (.t 17)) none none⟩,
 .op ⟨some 6, none, .mv (.t 18)⟩])
 (.seq (.reg [.op ⟨some 19, none, .fa 2 (.t 2)⟩,
 .op ⟨some 20, none, .load false 1 (.t 19)⟩,
 .op ⟨some 21, none, .call 286 [(.t 20), (.k (.str [47]))]⟩,
 .op ⟨some 7, none, .mv (.t 21)⟩])
 (.seq (.block 0 (.seq (.reg [.op ⟨some 23, none, .mv (.t 7)⟩,
 .op ⟨some 24, none, .mv (.t 23)⟩,
 .op ⟨some 25, some (24, true), .mv (.t 6)⟩,
 .op ⟨some 26, some (24, true), .call 287 [(.t 25), (.k (.str [47]))]⟩,
 .op ⟨some 27, none, .pick (.t 24) (.t 26) (.k (.bool false))⟩,
 .op ⟨some 22, none, .mv (.t 27)⟩])
 (.ite (.t 22) (.reg [.op ⟨some 28, none, .mv (.t 6)⟩,
 .op ⟨some 29, none, .slc .str (.t 28) (some (.k (I 1))) none none⟩,
 .op ⟨some 6, none, .mv (.t 29)⟩])
 (.seq (.reg [.op ⟨some 31, none, .mv (.t 7)⟩,
 .op ⟨some 32, none, .un .not (.t 31)⟩,
 .op ⟨some 33, none, .mv (.t 32)⟩,
 .op ⟨some 34, some (33, true), .mv (.t 6)⟩,
 .op ⟨some 35, some (33, true), .bin .neq (.t 34) (.k (.str []))⟩,
 .op ⟨some 36, none, .pick (.t 33) (.t 35) (.k (.bool false))⟩,
 .op ⟨some 37, none, .mv (.t 36)⟩,
 .op ⟨some 38, some (37, true), .mv (.t 6)⟩,
 .op ⟨some 39, some (37, true), .idx .str false (.t 38) (.k (I 0))⟩,
 .op ⟨some 40, some (37, true), .bin .neq (.t 39) (.k (.int .u8 (47)))⟩,
 .op ⟨some 41, none, .pick (.t 37) (.t 40) (.k (.bool false))⟩,
 .op ⟨some 42, none, .mv (.t 41)⟩,
 .op ⟨some 43, some (42, true), .mv (.t 6)⟩,
 .op ⟨some 44, some (42, true), .idx .str false (.t 43) (.k (I 0))⟩,
 .op ⟨some 45, some (42, true), .bin .neq (.t 44) (.k (.int .u8 (63)))⟩,
 .op ⟨some 46, none, .pick (.t 42) (.t 45) (.k (.bool false))⟩,
 .op ⟨some 30, none, .mv (.t 46)⟩])
 (.ite (.t 30) (.reg [.op ⟨some 47, none, .mv (.t 6)⟩,
 .op ⟨some 48, none, .bin .add (.k (.str [47])) (.t 47)⟩,
 .op ⟨some 6, none, .mv (.t 48)⟩])
 .skip)))))
 (.seq (.reg [.op ⟨some 49, none, .fa 2 (.t 2)⟩,
 .op ⟨some 50, none, .load false 1 (.t 49)⟩,
 .op ⟨some 51, none, .mv (.t 6)⟩,
 .op ⟨some 52, none, .bin .add (.t 50) (.t 51)⟩,
 .op ⟨some 8, none, .mv (.t 52)⟩])
 (.seq (.seq (.reg [.op ⟨some 53, none, .mv (.t 8)⟩,
 .op ⟨some 54, none, .len .str (.t 53)⟩,
 .op ⟨some 55, none, .bin .gtr (.t 54) (.k (I 512))⟩])
 (.ite (.t 55) (.seq (.reg [.op ⟨some 4, none, .mv (.k (.str []))⟩,
 .op ⟨some 5, none, .mv (.k (.bool false))⟩])
 .ret)
 .skip))
 (.seq (.reg [.op ⟨some 56, none, .mv (.t 8)⟩,
 .op ⟨some 4, none, .mv (.t 56)⟩,
 .op ⟨some 5, none, .mv (.k (.bool true))⟩])
 .ret))))))))⟩
theorem g228 : Good 228 c228 := ⟨_, Tryz.func228, by kernel_rfl⟩

def c229 : AFunc := ⟨[.t 2], (.seq (.reg [.op ⟨some 1, none, .box 5 (.t 0)⟩,
 .op ⟨some 2, none, .mv (.k .nils)⟩])
 (.seq (.reg [.op ⟨some 3, none, .load true 5 (.t 1)⟩,
 .op ⟨some 5, none, .fa 3 (.t 1)⟩,
 .op ⟨some 6, none, .load false 1 (.t 5)⟩,
 .op ⟨some 7, none, .fa 4 (.t 1)⟩,
 .op ⟨some 8, none, .load false 1 (.t 7)⟩,
 .op ⟨some 4, none, .call 288 [(.t 3)]⟩,
 .chk ⟨some 8, none, .load false 1 (.t 7)⟩,
 .chk ⟨some 6, none, .load false 1 (.t 5)⟩,
 .op ⟨some 9, none, .call 143 [(.t 4), (.t 6), (.t 8)]⟩,
 .op ⟨some 2, none, .mv (.t 9)⟩])
 .ret))⟩
theorem g229 : Good 229 c229 := ⟨_, Tryz.func229, by kernel_rfl⟩

def c230 : AFunc := ⟨[.c 8 true 5], (.seq (.reg [.op ⟨some 4, none, .box 5 (.t 0)⟩,
 .op ⟨some 5, none, .box 8 (.t 1)⟩,
 .op ⟨some 8, none, .alloc [(.str []), (.str []), (I 0), .nils, .nils]⟩])
 (.seq (.reg [.op ⟨some 13, none, .fa 3 (.t 5)⟩,
 .op ⟨some 14, none, .load false 1 (.t 13)⟩,
 .op ⟨some 15, none, .call 37 [(.t 14)]⟩,
 .op ⟨some 9, none, .mv (.t 15)⟩])
 (.seq (.seq (.reg [.op ⟨some 16, none, .fa 2 (.t 5)⟩,
 .op ⟨some 17, none, .load false 1 (.t 16)⟩,
 .op ⟨some 18, none, .len .sl (.t 17)⟩,
 .op ⟨some 19, none, .mv (.k (I 0))⟩])
 (.block 0 (.loop (.seq (.reg [.op ⟨some 20, none, .bin .lss (.t 19) (.t 18)⟩])
 (.seq (.ite (.t 20) .skip
 (.exit 0))
 (.seq (.block 1 (.seq (.reg [.op ⟨some 21, none, .ia (.sl 2) (.t 17) (.t 19)⟩,
 .op ⟨some 22, none, .load true 2 (.t 21)⟩,
 .op ⟨some 11, none, .alloc [(.str []), (.str [])]⟩,
 .op ⟨none, none, .store 2 (.t 11) (.t 22)⟩])
 (.reg [.op ⟨some 23, none, .mv (.t 9)⟩,
 .op ⟨some 24, none, .fa 0 (.t 11)⟩,
 .op ⟨some 25, none, .load false 1 (.t 24)⟩,
 .op ⟨some 26, none, .bslice 1 1 [(.str [])] [(0, 1, (.t 25))]⟩,
 .op ⟨some 27, none, .app 1 16 (.t 23) (.t 26)⟩,
 .op ⟨some 9, none, .mv (.t 27)⟩])))
 (.reg [.op ⟨some 28, none, .bin .add (.t 19) (.k (I 1))⟩,
 .op ⟨some 19, none, .mv (.t 28)⟩])))))))
 (.seq (.reg [.op ⟨some 29, none, .mv (.t 2)⟩,
 .op ⟨some 30, none, .build [(.str []), (.str [])] [(0, 1, (.k (.str [72, 111, 115, 116]))), (1, 1, (.t 29))]⟩,
 .op ⟨some 31, none, .bslice 2 1 [(.str []), (.str [])] [(0, 2, (.t 30))]⟩,
 .op ⟨some 32, none, .fa 3 (.t 4)⟩,
 .op ⟨some 33, none, .load false 1 (.t 32)⟩,
 .op ⟨some 34, none, .call 248 [(.t 33)]⟩,
 .op ⟨some 35, none, .mv (.t 9)⟩,
 .op ⟨some 36, none, .call 289 [(.t 34), (.t 35)]⟩,
 .op ⟨some 37, none, .app 2 32 (.t 31) (.t 36)⟩,
 .op ⟨some 12, none, .mv (.t 37)⟩])
 (.seq (.reg [.op ⟨some 38, none, .mv (.t 12)⟩,
 .op ⟨some 39, none, .fa 2 (.t 5)⟩,
 .op ⟨some 40, none, .load false 1 (.t 39)⟩,
 .op ⟨some 41, none, .app 2 32 (.t 38) (.t 40)⟩,
 .op ⟨some 12, none, .mv (.t 41)⟩])
 (.seq (.block 2 (.seq (.seq (.reg [.op ⟨some 43, none, .fa 4 (.t 4)⟩,
 .op ⟨some 44, none, .load false 1 (.t 43)⟩,
 .op ⟨some 45, none, .len .sl (.t 44)⟩,
 .op ⟨some 46, none, .bin .gtr (.t 45) (.k (I 0))⟩,
 .op ⟨some 42, none, .mv (.t 46)⟩])
 (.ite (.t 42) .skip
 (.seq (.reg [.op ⟨some 47, none, .fa 0 (.t 4)⟩,
 .op ⟨some 48, none, .load false 1 (.t 47)⟩,
 .op ⟨some 49, none, .bin .eql (.t 48) (.k (.str [80, 79, 83, 84]))⟩,
 .op ⟨some 42, none, .mv (.t 49)⟩])
 (.ite (.t 42) .skip
 (.seq (.reg [.op ⟨some 50, none, .fa 0 (.t 4)⟩,
 .op ⟨some 51, none, .load false 1 (.t 50)⟩,
 .op ⟨some 52, none, .bin .eql (.t 51) (.k (.str [80, 85, 84]))⟩,
 .op ⟨some 42, none, .mv (.t 52)⟩])
 (.ite (.t 42) .skip
 (.reg [.op ⟨some 53, none, .fa 0 (.t 4)⟩,
 .op ⟨some 54, none, .load false 1 (.t 53)⟩,
 .op ⟨some 55, none, .bin .eql (.t 54) (.k (.str [80, 65, 84, 67, 72]))⟩,
 .op ⟨some 42, none, .mv (.t 55)⟩])))))))
 (.ite (.t 42) (.reg [.op ⟨some 56, none, .mv (.t 12)⟩,
 .op ⟨some 57, none, .fa 4 (.t 4)⟩,
 .op ⟨some 58, none, .load false 1 (.t 57)⟩,
 .op ⟨some 59, none, .len .sl (.t 58)⟩,
 .op ⟨some 60, none, .call 215 [(.t 59)]⟩,
 .op ⟨some 61, none, .bslice 2 1 [(.str []), (.str [])] [(0, 2, (.t 60))]⟩,
 .op ⟨some 62, none, .app 2 32 (.t 56) (.t 61)⟩,
 .op ⟨some 12, none, .mv (.t 62)⟩])
 .skip)))
 (.seq (.reg [.op ⟨some 63, none, .fa 0 (.t 4)⟩,
 .op ⟨some 64, none, .load false 1 (.t 63)⟩,
 .op ⟨some 65, none, .mv (.t 3)⟩,
 .op ⟨some 66, none, .mv (.t 12)⟩,
 .op ⟨some 67, none, .fa 4 (.t 4)⟩,
 .op ⟨some 68, none, .load false 1 (.t 67)⟩,
 .op ⟨some 69, none, .call 21 [(.t 68)]⟩,
 .chk ⟨some 64, none, .load false 1 (.t 63)⟩,
 .op ⟨some 70, none, .build [(.str []), (.str []), (I 0), .nils, .nils] [(0, 1, (.t 64)), (1, 1, (.t 65)), (2, 1, (.k (I 1))), (3, 1, (.t 66)), (4, 1, (.t 69))]⟩,
 .op ⟨none, none, .store 5 (.t 8) (.t 70)⟩])
 .ret)))))))⟩
theorem g230 : Good 230 c230 := ⟨_, Tryz.func230, by kernel_rfl⟩

def c231 : AFunc := ⟨[.c 4 true 2], (.seq (.reg [.op ⟨some 3, none, .box 1 (.t 1)⟩,
 .op ⟨some 4, none, .alloc [(.str []), .nils]⟩])
 (.seq (.reg [.op ⟨some 6, none, .mv (.t 0)⟩,
 .op ⟨some 7, none, .nilchk (.t 6)⟩,
 .op ⟨some 8, none, .fa 17 (.t 7)⟩,
 .op ⟨some 9, none, .fa 0 (.t 8)⟩,
 .op ⟨some 10, none, .load false 1 (.t 9)⟩,
 .op ⟨some 11, none, .mkf 291 [] [(.t 3)]⟩,
 .op ⟨some 12, none, .call 290 [(.t 10), (.t 11)]⟩,
 .op ⟨some 5, none, .mv (.t 12)⟩])
 (.seq (.seq (.reg [.op ⟨some 13, none, .mv (.t 5)⟩,
 .op ⟨some 14, none, .bin .lss (.t 13) (.k (I 0))⟩])
 (.ite (.t 14) (.seq (.reg [.op ⟨some 15, none, .build [(.str []), .nils] []⟩,
 .op ⟨none, none, .store 2 (.t 4) (.t 15)⟩])
 .ret)
 .skip))
 (.seq (.reg [.op ⟨some 16, none, .mv (.t 0)⟩,
 .op ⟨some 17, none, .nilchk (.t 16)⟩,
 .op ⟨some 18, none, .fa 17 (.t 17)⟩,
 .op ⟨some 19, none, .fa 0 (.t 18)⟩,
 .op ⟨some 20, none, .load false 1 (.t 19)⟩,
 .op ⟨some 21, none, .mv (.t 5)⟩,
 .op ⟨some 22, none, .ia (.sl 2) (.t 20) (.t 21)⟩,
 .op ⟨some 23, none, .load true 2 (.t 22)⟩,
 .op ⟨none, none, .store 2 (.t 4) (.t 23)⟩])
 .ret))))⟩
theorem g231 : Good 231 c231 := ⟨_, Tryz.func231, by kernel_rfl⟩

def c232 : AFunc := ⟨[], (.seq (.reg [.op ⟨some 8, none, .mv (.t 2)⟩,
 .op ⟨some 9, none, .mn (.t 8) (.k (I 1099511627776))⟩,
 .op ⟨some 2, none, .mv (.t 9)⟩])
 (.seq (.seq (.reg [.op ⟨some 11, none, .mv (.t 0)⟩,
 .op ⟨some 12, none, .nilchk (.t 11)⟩,
 .op ⟨some 13, none, .fa 2 (.t 12)⟩,
 .op ⟨some 14, none, .load false 1 (.t 13)⟩,
 .op ⟨some 15, none, .mv (.t 1)⟩,
 .op ⟨some 16, none, .look false (I 0) true (.t 14) (.t 15)⟩,
 .op ⟨some 10, none, .mv (.t 16)⟩,
 .op ⟨some 17, none, .ext 0 (.t 10)⟩,
 .op ⟨some 18, none, .ext 1 (.t 10)⟩,
 .op ⟨some 6, none, .mv (.t 17)⟩,
 .op ⟨some 7, none, .mv (.t 18)⟩])
 (.seq (.reg [.op ⟨some 19, none, .mv (.t 7)⟩,
 .op ⟨some 20, none, .mv (.t 19)⟩,
 .op ⟨some 21, some (20, true), .mv (.t 6)⟩,
 .op ⟨some 22, some (20, true), .mv (.t 2)⟩,
 .op ⟨some 23, some (20, true), .bin .eql (.t 21) (.t 22)⟩,
 .op ⟨some 24, none, .pick (.t 20) (.t 23) (.k (.bool false))⟩])
 (.ite (.t 24) .ret
 .skip)))
 (.seq (.reg [.op ⟨some 25, none, .mv (.t 0)⟩,
 .op ⟨some 26, none, .nilchk (.t 25)⟩,
 .op ⟨some 27, none, .fa 2 (.t 26)⟩,
 .op ⟨some 28, none, .load false 1 (.t 27)⟩,
 .op ⟨some 29, none, .mv (.t 1)⟩,
 .op ⟨some 30, none, .mv (.t 2)⟩,
 .op ⟨none, none, .mset false (.t 28) (.t 29) (.t 30)⟩])
 (.reg [.op ⟨some 31, none, .mv (.t 0)⟩,
 .op ⟨some 32, none, .nilchk (.t 31)⟩,
 .op ⟨some 33, none, .fa 1 (.t 32)⟩,
 .op ⟨some 34, none, .mki 365 (.t 33)⟩,
 .op ⟨some 35, none, .mv (.t 2)⟩,
 .op ⟨some 36, none, .mv (.t 1)⟩,
 .op ⟨some 37, none, .build [(I 0), (I 0)] [(0, 1, (.t 35)), (1, 1, (.t 36))]⟩,
 .op ⟨some 38, none, .mki 310 (.t 37)⟩,
 .op ⟨some 39, none, .call 292 [(.t 34), (.t 38)]⟩]))))⟩
theorem g232 : Good 232 c232 := ⟨_, Tryz.func232, by kernel_rfl⟩

def c233 : AFunc := ⟨[.t 4], (.seq (.reg [.op ⟨some 4, none, .mv (.k .nils)⟩])
 (.seq (.reg [.op ⟨some 8, none, .mv (.t 0)⟩,
 .op ⟨some 9, none, .mv (.t 1)⟩,
 .op ⟨some 10, none, .call 293 [(.t 8), (.t 9)]⟩,
 .op ⟨some 5, none, .mv (.t 10)⟩])
 (.seq (.seq (.reg [.op ⟨some 11, none, .mv (.t 5)⟩,
 .op ⟨some 12, none, .bin .eql (.t 11) (.k (I (-1)))⟩])
 (.ite (.t 12) (.seq (.reg [.op ⟨some 13, none, .mv (.t 0)⟩,
 .op ⟨some 4, none, .mv (.t 13)⟩])
 .ret)
 .skip))
 (.seq (.seq (.reg [.op ⟨some 14, none, .mv (.t 5)⟩,
 .op ⟨some 15, none, .bin .add (.t 14) (.k (I 1))⟩,
 .op ⟨some 6, none, .mv (.t 15)⟩])
 (.block 0 (.loop (.seq (.seq (.reg [.op ⟨some 16, none, .mv (.t 6)⟩,
 .op ⟨some 17, none, .mv (.t 0)⟩,
 .op ⟨some 18, none, .len .sl (.t 17)⟩,
 .op ⟨some 19, none, .bin .lss (.t 16) (.t 18)⟩])
 (.ite (.t 19) .skip
 (.exit 0)))
 (.seq (.block 1 (.seq (.reg [.op ⟨some 22, none, .mv (.t 0)⟩,
 .op ⟨some 23, none, .mv (.t 6)⟩,
 .op ⟨some 24, none, .ia (.sl 1) (.t 22) (.t 23)⟩,
 .op ⟨some 25, none, .load false 1 (.t 24)⟩,
 .op ⟨some 7, none, .mv (.t 25)⟩])
 (.seq (.reg [.op ⟨some 26, none, .mv (.t 1)⟩,
 .op ⟨some 27, none, .mv (.t 7)⟩,
 .op ⟨some 28, none, .callv (.t 26) [(.t 27)]⟩,
 .op ⟨some 29, none, .un .not (.t 28)⟩])
 (.ite (.t 29) (.seq (.reg [.op ⟨some 30, none, .mv (.t 0)⟩,
 .op ⟨some 31, none, .mv (.t 5)⟩,
 .op ⟨some 32, none, .mv (.t 7)⟩,
 .op ⟨some 33, none, .ia (.sl 1) (.t 30) (.t 31)⟩,
 .op ⟨none, none, .store 1 (.t 33) (.t 32)⟩])
 (.reg [.op ⟨some 34, none, .mv (.t 5)⟩,
 .op ⟨some 35, none, .bin .add (.t 34) (.k (I 1))⟩,
 .op ⟨some 5, none, .mv (.t 35)⟩]))
 .skip))))
 (.reg [.op ⟨some 20, none, .mv (.t 6)⟩,
 .op ⟨some 21, none, .bin .add (.t 20) (.k (I 1))⟩,
 .op ⟨some 6, none, .mv (.t 21)⟩]))))))
 (.seq (.reg [.op ⟨some 36, none, .mv (.t 0)⟩,
 .op ⟨some 37, none, .mv (.t 5)⟩,
 .op ⟨some 38, none, .slc (.sl 1) (.t 36) (some (.t 37)) none none⟩,
 .op ⟨none, none, .clr [(I 0)] (.t 38)⟩])
 (.seq (.reg [.op ⟨some 39, none, .mv (.t 0)⟩,
 .op ⟨some 40, none, .mv (.t 5)⟩,
 .op ⟨some 41, none, .slc (.sl 1) (.t 39) none (some (.t 40)) none⟩,
 .op ⟨some 4, none, .mv (.t 41)⟩])
 .ret))))))⟩
theorem g233 : Good 233 c233 := ⟨_, Tryz.func233, by kernel_rfl⟩

def c235 : AFunc := ⟨[.t 6], (.seq (.reg [.op ⟨some 6, none, .mv (.k (.bool false))⟩])
 (.seq (.reg [.op ⟨some 7, none, .mv (.t 2)⟩,
 .op ⟨some 8, none, .mv (.t 0)⟩,
 .op ⟨some 9, none, .nilchk (.t 8)⟩,
 .op ⟨some 10, none, .fa 2 (.t 9)⟩,
 .op ⟨some 11, none, .load false 1 (.t 10)⟩,
 .op ⟨some 12, none, .mv (.t 1)⟩,
 .op ⟨some 13, none, .look true (I 0) false (.t 11) (.t 12)⟩,
 .op ⟨some 14, none, .bin .lss (.t 7) (.t 13)⟩,
 .op ⟨some 6, none, .mv (.t 14)⟩])
 .ret))⟩
theorem g235 : Good 235 c235 := ⟨_, Tryz.func235, by kernel_rfl⟩

def c236 : AFunc := ⟨[.t 2], (.seq (.reg [.op ⟨some 1, none, .box 1 (.t 0)⟩,
 .op ⟨some 2, none, .mv (.k .nilf)⟩])
 (.seq (.reg [.op ⟨some 3, none, .mkf 294 [] [(.t 1)]⟩,
 .op ⟨some 2, none, .mv (.t 3)⟩])
 .ret))⟩
theorem g236 : Good 236 c236 := ⟨_, Tryz.func236, by kernel_rfl⟩

def c238 : AFunc := ⟨[.t 6], (.seq (.reg [.op ⟨some 6, none, .mv (.k (.bool false))⟩])
 (.seq (.reg [.op ⟨some 7, none, .mv (.t 0)⟩,
 .op ⟨some 8, none, .nilchk (.t 7)⟩,
 .op ⟨some 9, none, .fa 3 (.t 8)⟩,
 .op ⟨none, none, .store 1 (.t 9) (.k (.bool false))⟩])
 (.seq (.seq (.reg [.op ⟨some 10, none, .mv (.t 2)⟩])
 (.ite (.t 10) (.reg [.op ⟨some 11, none, .mv (.t 0)⟩,
 .op ⟨some 12, none, .call 224 [(.t 11)]⟩])
 .skip))
 (.seq (.reg [.op ⟨some 13, none, .mv (.t 0)⟩,
 .op ⟨some 14, none, .nilchk (.t 13)⟩,
 .op ⟨some 15, none, .fa 1 (.t 14)⟩,
 .op ⟨some 16, none, .load false 1 (.t 15)⟩,
 .op ⟨some 17, none, .mv (.t 1)⟩,
 .op ⟨some 18, none, .call 124 [(.t 16), (.t 17)]⟩,
 .op ⟨some 6, none, .mv (.t 18)⟩])
 .ret))))⟩
theorem g238 : Good 238 c238 := ⟨_, Tryz.func238, by kernel_rfl⟩

def c239 : AFunc := ⟨[.t 2], (.seq (.reg [.op ⟨some 2, none, .mv (.k (I 0))⟩])
 (.seq (.reg [.op ⟨some 3, none, .mv (.t 0)⟩,
 .op ⟨some 4, none, .nilchk (.t 3)⟩,
 .op ⟨some 5, none, .fa 0 (.t 4)⟩,
 .op ⟨some 6, none, .call 295 [(.t 5)]⟩,
 .op ⟨some 2, none, .mv (.t 6)⟩])
 .ret))⟩
theorem g239 : Good 239 c239 := ⟨_, Tryz.func239, by kernel_rfl⟩

def c240 : AFunc := ⟨[.t 6], (.seq (.reg [.op ⟨some 6, none, .mv (.k (.bool false))⟩])
 (.seq (.reg [.op ⟨some 7, none, .mv (.t 0)⟩,
 .op ⟨some 8, none, .nilchk (.t 7)⟩,
 .op ⟨some 9, none, .fa 0 (.t 8)⟩,
 .op ⟨some 10, none, .mv (.t 1)⟩,
 .op ⟨some 11, none, .mv (.t 2)⟩,
 .op ⟨some 12, none, .call 296 [(.t 9), (.t 10), (.t 11)]⟩,
 .op ⟨some 6, none, .mv (.t 12)⟩])
 .ret))⟩
theorem g240 : Good 240 c240 := ⟨_, Tryz.func240, by kernel_rfl⟩

def c241 : AFunc := ⟨[], (.block 0 (.loop (.block 1 (.seq (.reg [.op ⟨some 5, none, .mv (.t 0)⟩,
 .op ⟨some 6, none, .nilchk (.t 5)⟩,
 .op ⟨some 7, none, .fa 2 (.t 6)⟩,
 .op ⟨some 8, none, .call 239 [(.t 7)]⟩,
 .op ⟨some 4, none, .mv (.t 8)⟩])
 (.seq (.reg [.op ⟨some 9, none, .mv (.t 4)⟩,
 .op ⟨some 10, none, .mv (.t 1)⟩,
 .op ⟨some 11, none, .bin .geq (.t 9) (.t 10)⟩,
 .op ⟨some 12, none, .mv (.t 11)⟩,
 .op ⟨some 13, some (12, false), .mv (.t 0)⟩,
 .op ⟨some 14, some (12, false), .nilchk (.t 13)⟩,
 .op ⟨some 15, some (12, false), .fa 2 (.t 14)⟩,
 .op ⟨some 16, some (12, false), .mv (.t 4)⟩,
 .op ⟨some 17, some (12, false), .mv (.t 1)⟩,
 .op ⟨some 18, some (12, false), .call 240 [(.t 15), (.t 16), (.t 17)]⟩,
 .op ⟨some 19, none, .pick (.t 12) (.k (.bool true)) (.t 18)⟩])
 (.ite (.t 19) .ret
 .skip))))))⟩
theorem g241 : Good 241 c241 := ⟨_, Tryz.func241, by kernel_rfl⟩

def c242 : AFunc := ⟨[.t 3], (.seq (.reg [.op ⟨some 3, none, .mv (.k (I 0))⟩])
 (.seq (.reg [.op ⟨some 7, none, .mv (.t 0)⟩,
 .op ⟨some 8, none, .call 243 [(.t 7)]⟩,
 .op ⟨some 6, none, .mv (.t 8)⟩,
 .op ⟨some 9, none, .ext 0 (.t 6)⟩,
 .op ⟨some 10, none, .ext 1 (.t 6)⟩,
 .op ⟨some 4, none, .alloc [(I 0), (.str []), (I 0), .nils, .nils]⟩,
 .op ⟨none, none, .store 5 (.t 4) (.t 9)⟩,
 .op ⟨some 5, none, .mv (.t 10)⟩])
 (.seq (.reg [.op ⟨some 11, none, .load true 5 (.t 4)⟩,
 .op ⟨none, none, .store 5 (.t 1) (.t 11)⟩])
 (.seq (.seq (.reg [.op ⟨some 12, none, .mv (.t 5)⟩,
 .op ⟨some 13, none, .un .not (.t 12)⟩])
 (.ite (.t 13) (.seq (.reg [.op ⟨some 3, none, .mv (.k (I 400))⟩])
 .ret)
 .skip))
 (.seq (.reg [.op ⟨some 3, none, .mv (.k (I 0))⟩])
 .ret)))))⟩
theorem g242 : Good 242 c242 := ⟨_, Tryz.func242, by kernel_rfl⟩

def c243 : AFunc := ⟨[.c 2 true 5, .t 3], (.seq (.reg [.op ⟨some 2, none, .alloc [(I 0), (.str []), (I 0), .nils, .nils]⟩,
 .op ⟨some 3, none, .mv (.k (.bool false))⟩])
 (.seq (.reg [.op ⟨some 14, none, .mv (.t 0)⟩,
 .op ⟨some 15, none, .call 24 [(.t 14), (.k (.str [32]))]⟩,
 .op ⟨some 13, none, .mv (.t 15)⟩,
 .op ⟨some 16, none, .ext 0 (.t 13)⟩,
 .op ⟨some 17, none, .ext 1 (.t 13)⟩,
 .op ⟨some 18, none, .ext 2 (.t 13)⟩,
 .op ⟨some 4, none, .mv (.t 16)⟩,
 .op ⟨some 5, none, .mv (.t 17)⟩,
 .op ⟨some 6, none, .mv (.t 18)⟩])
 (.seq (.reg [.op ⟨some 20, none, .mv (.t 4)⟩,
 .op ⟨some 21, none, .call 268 [(.t 20)]⟩,
 .op ⟨some 19, none, .mv (.t 21)⟩,
 .op ⟨some 22, none, .ext 0 (.t 19)⟩,
 .op ⟨some 23, none, .ext 1 (.t 19)⟩,
 .op ⟨some 7, none, .mv (.t 22)⟩,
 .op ⟨some 8, none, .mv (.t 23)⟩])
 (.seq (.seq (.reg [.op ⟨some 24, none, .mv (.t 6)⟩,
 .op ⟨some 25, none, .un .not (.t 24)⟩,
 .op ⟨some 26, none, .mv (.t 25)⟩,
 .op ⟨some 27, some (26, false), .mv (.t 8)⟩,
 .op ⟨some 28, some (26, false), .un .not (.t 27)⟩,
 .op ⟨some 29, none, .pick (.t 26) (.k (.bool true)) (.t 28)⟩,
 .op ⟨some 30, none, .mv (.t 29)⟩,
 .op ⟨some 31, some (30, false), .mv (.t 5)⟩,
 .op ⟨some 32, some (30, false), .len .str (.t 31)⟩,
 .op ⟨some 33, some (30, false), .bin .lss (.t 32) (.k (I 3))⟩,
 .op ⟨some 34, none, .pick (.t 30) (.k (.bool true)) (.t 33)⟩])
 (.ite (.t 34) (.seq (.reg [.op ⟨some 35, none, .build [(I 0), (.str []), (I 0), .nils, .nils] []⟩,
 .op ⟨none, none, .store 5 (.t 2) (.t 35)⟩,
 .op ⟨some 3, none, .mv (.k (.bool false))⟩])
 .ret)
 .skip))
 (.seq (.reg [.op ⟨some 37, none, .mv (.t 5)⟩,
 .op ⟨some 38, none, .slc .str (.t 37) none (some (.k (I 3))) none⟩,
 .op ⟨some 39, none, .call 35 [(.t 38)]⟩,
 .op ⟨some 36, none, .mv (.t 39)⟩,
 .op ⟨some 40, none, .ext 0 (.t 36)⟩,
 .op ⟨some 41, none, .ext 1 (.t 36)⟩,
 .op ⟨some 9, none, .mv (.t 40)⟩,
 .op ⟨some 10, none, .mv (.t 41)⟩])
 (.seq (.reg [.op ⟨some 43, none, .mv (.t 5)⟩,
 .op ⟨some 44, none, .slc .str (.t 43) (some (.k (I 3))) none none⟩,
 .op ⟨some 45, none, .call 297 [(.t 44), (.k (.str [32]))]⟩,
 .op ⟨some 42, none, .mv (.t 45)⟩,
 .op ⟨some 46, none, .ext 0 (.t 42)⟩,
 .op ⟨some 47, none, .ext 1 (.t 42)⟩,
 .op ⟨some 11, none, .mv (.t 46)⟩,
 .op ⟨some 12, none, .mv (.t 47)⟩])
 (.seq (.seq (.reg [.op ⟨some 48, none, .mv (.t 10)⟩,
 .op ⟨some 49, none, .un .not (.t 48)⟩,
 .op ⟨some 50, none, .mv (.t 49)⟩,
 .op ⟨some 51, some (50, false), .mv (.t 9)⟩,
 .op ⟨some 52, some (50, false), .bin .lss (.t 51) (.k (I 100))⟩,
 .op ⟨some 53, none, .pick (.t 50) (.k (.bool true)) (.t 52)⟩,
 .op ⟨some 54, none, .mv (.t 53)⟩,
 .op ⟨some 55, some (54, false), .mv (.t 9)⟩,
 .op ⟨some 56, some (54, false), .bin .gtr (.t 55) (.k (I 599))⟩,
 .op ⟨some 57, none, .pick (.t 54) (.k (.bool true)) (.t 56)⟩,
 .op ⟨some 58, none, .mv (.t 57)⟩,
 .op ⟨some 59, some (58, false), .mv (.t 12)⟩,
 .op ⟨some 60, some (58, false), .un .not (.t 59)⟩,
 .op ⟨some 61, some (58, false), .mv (.t 60)⟩,
 .op ⟨some 62, some (61, true), .mv (.t 5)⟩,
 .op ⟨some 63, some (61, true), .slc .str (.t 62) (some (.k (I 3))) none none⟩,
 .op ⟨some 64, some (61, true), .bin .neq (.t 63) (.k (.str []))⟩,
 .op ⟨some 65, some (58, false), .pick (.t 61) (.t 64) (.k (.bool false))⟩,
 .op ⟨some 66, none, .pick (.t 58) (.k (.bool true)) (.t 65)⟩,
 .op ⟨some 67, none, .mv (.t 66)⟩,
 .op ⟨some 68, some (67, false), .mv (.t 11)⟩,
 .op ⟨some 69, some (67, false), .call 298 [(.t 68)]⟩,
 .op ⟨some 70, some (67, false), .un .not (.t 69)⟩,
 .op ⟨some 71, none, .pick (.t 67) (.k (.bool true)) (.t 70)⟩,
 .op ⟨some 72, none, .mv (.t 71)⟩,
 .op ⟨some 73, some (72, false), .mv (.t 11)⟩,
 .op ⟨some 74, some (72, false), .len .str (.t 73)⟩,
 .op ⟨some 75, some (72, false), .bin .gtr (.t 74) (.k (I 100))⟩,
 .op ⟨some 76, none, .pick (.t 72) (.k (.bool true)) (.t 75)⟩])
 (.ite (.t 76) (.seq (.reg [.op ⟨some 77, none, .build [(I 0), (.str []), (I 0), .nils, .nils] []⟩,
 .op ⟨none, none, .store 5 (.t 2) (.t 77)⟩,
 .op ⟨some 3, none, .mv (.k (.bool false))⟩])
 .ret)
 .skip))
 (.seq (.reg [.op ⟨some 78, none, .mv (.t 9)⟩,
 .op ⟨some 79, none, .mv (.t 11)⟩,
 .op ⟨some 80, none, .mv (.t 7)⟩,
 .op ⟨some 81, none, .build [(I 0), (.str []), (I 0), .nils, .nils] [(0, 1, (.t 78)), (1, 1, (.t 79)), (2, 1, (.t 80))]⟩,
 .op ⟨none, none, .store 5 (.t 2) (.t 81)⟩,
 .op ⟨some 3, none, .mv (.k (.bool true))⟩])
 .ret))))))))⟩
theorem g243 : Good 243 c243 := ⟨_, Tryz.func243, by kernel_rfl⟩

def c244 : AFunc := ⟨[.t 4, .t 5, .t 6], (.seq (.reg [.op ⟨some 3, none, .box 5 (.t 1)⟩,
 .op ⟨some 4, none, .mv (.k (I 0))⟩,
 .op ⟨some 5, none, .mv (.k (I 0))⟩,
 .op ⟨some 6, none, .mv (.k (.bool false))⟩])
 (.seq (.seq (.reg [.op ⟨some 10, none, .mv (.t 0)⟩,
 .op ⟨some 11, none, .bin .eql (.t 10) (.k (.str [72, 69, 65, 68]))⟩,
 .op ⟨some 12, none, .mv (.t 11)⟩,
 .op ⟨some 13, some (12, false), .fa 0 (.t 3)⟩,
 .op ⟨some 14, some (12, false), .load false 1 (.t 13)⟩,
 .op ⟨some 15, some (12, false), .bin .lss (.t 14) (.k (I 200))⟩,
 .op ⟨some 16, none, .pick (.t 12) (.k (.bool true)) (.t 15)⟩,
 .op ⟨some 17, none, .mv (.t 16)⟩,
 .op ⟨some 18, some (17, false), .fa 0 (.t 3)⟩,
 .op ⟨some 19, some (17, false), .load false 1 (.t 18)⟩,
 .op ⟨some 20, some (17, false), .bin .eql (.t 19) (.k (I 204))⟩,
 .op ⟨some 21, none, .pick (.t 17) (.k (.bool true)) (.t 20)⟩,
 .op ⟨some 22, none, .mv (.t 21)⟩,
 .op ⟨some 23, some (22, false), .fa 0 (.t 3)⟩,
 .op ⟨some 24, some (22, false), .load false 1 (.t 23)⟩,
 .op ⟨some 25, some (22, false), .bin .eql (.t 24) (.k (I 304))⟩,
 .op ⟨some 26, none, .pick (.t 22) (.k (.bool true)) (.t 25)⟩])
 (.ite (.t 26) (.seq (.reg [.op ⟨some 4, none, .mv (.k (I 0))⟩,
 .op ⟨some 5, none, .mv (.k (I 0))⟩,
 .op ⟨some 6, none, .mv (.k (.bool true))⟩])
 .ret)
 .skip))
 (.seq (.reg [.op ⟨some 28, none, .fa 3 (.t 3)⟩,
 .op ⟨some 29, none, .load false 1 (.t 28)⟩,
 .op ⟨some 30, none, .fa 2 (.t 3)⟩,
 .op ⟨some 31, none, .load false 1 (.t 30)⟩,
 .op ⟨some 32, none, .call 203 [(.t 29), (.t 31)]⟩,
 .op ⟨some 27, none, .mv (.t 32)⟩,
 .op ⟨some 33, none, .ext 0 (.t 27)⟩,
 .op ⟨some 34, none, .ext 1 (.t 27)⟩,
 .op ⟨some 35, none, .ext 2 (.t 27)⟩,
 .op ⟨some 7, none, .mv (.t 33)⟩,
 .op ⟨some 8, none, .mv (.t 34)⟩,
 .op ⟨some 9, none, .mv (.t 35)⟩])
 (.seq (.block 0 (.seq (.reg [.op ⟨some 37, none, .mv (.t 9)⟩,
 .op ⟨some 38, none, .bin .neq (.t 37) (.k (I 0))⟩,
 .op ⟨some 36, none, .mv (.t 38)⟩])
 (.ite (.t 36) (.seq (.reg [.op ⟨some 4, none, .mv (.k (I 0))⟩,
 .op ⟨some 5, none, .mv (.k (I 0))⟩,
 .op ⟨some 6, none, .mv (.k (.bool false))⟩])
 .ret)
 (.seq (.reg [.op ⟨some 40, none, .mv (.t 8)⟩,
 .op ⟨some 39, none, .mv (.t 40)⟩])
 (.ite (.t 39) (.seq (.reg [.op ⟨some 4, none, .mv (.k (I 2))⟩,
 .op ⟨some 5, none, .mv (.k (I 0))⟩,
 .op ⟨some 6, none, .mv (.k (.bool true))⟩])
 .ret)
 (.seq (.reg [.op ⟨some 42, none, .fa 3 (.t 3)⟩,
 .op ⟨some 43, none, .load false 1 (.t 42)⟩,
 .op ⟨some 44, none, .call 270 [(.t 43), (.k (.str [67, 111, 110, 116, 101, 110, 116, 45, 76, 101, 110, 103, 116, 104]))]⟩,
 .op ⟨some 41, none, .mv (.t 44)⟩])
 (.ite (.t 41) (.seq (.reg [.op ⟨some 45, none, .mv (.t 7)⟩,
 .op ⟨some 4, none, .mv (.k (I 1))⟩,
 .op ⟨some 5, none, .mv (.t 45)⟩,
 .op ⟨some 6, none, .mv (.k (.bool true))⟩])
 .ret)
 .skip)))))))
 (.seq (.reg [.op ⟨some 4, none, .mv (.k (I 3))⟩,
 .op ⟨some 5, none, .mv (.k (I 0))⟩,
 .op ⟨some 6, none, .mv (.k (.bool true))⟩])
 .ret)))))⟩
theorem g244 : Good 244 c244 := ⟨_, Tryz.func244, by kernel_rfl⟩

def c245 : AFunc := ⟨[.t 8, .t 9, .t 10], (.seq (.reg [.op ⟨some 8, none, .mv (.k .nils)⟩,
 .op ⟨some 9, none, .mv (.k (I 0))⟩,
 .op ⟨some 10, none, .mv (.k (.bool false))⟩])
 (.seq (.seq (.reg [.op ⟨some 14, none, .mv (.t 1)⟩,
 .op ⟨some 15, none, .bin .neq (.t 14) (.k (I 3))⟩])
 (.ite (.t 15) (.seq (.reg [.op ⟨some 17, none, .mv (.t 0)⟩,
 .op ⟨some 18, none, .mv (.t 2)⟩,
 .op ⟨some 19, none, .mv (.t 1)⟩,
 .op ⟨some 20, none, .bin .eql (.t 19) (.k (I 2))⟩,
 .op ⟨some 21, none, .call 142 [(.t 17), (.t 18), (.t 20)]⟩,
 .op ⟨some 16, none, .mv (.t 21)⟩,
 .op ⟨some 22, none, .ext 0 (.t 16)⟩,
 .op ⟨some 23, none, .ext 1 (.t 16)⟩,
 .op ⟨some 24, none, .ext 2 (.t 16)⟩,
 .op ⟨some 11, none, .mv (.t 22)⟩,
 .op ⟨some 12, none, .mv (.t 23)⟩,
 .op ⟨some 13, none, .mv (.t 24)⟩])
 (.seq (.reg [.op ⟨some 25, none, .mv (.t 11)⟩,
 .op ⟨some 26, none, .mv (.t 12)⟩,
 .op ⟨some 27, none, .mv (.t 13)⟩,
 .op ⟨some 28, none, .bin .eql (.t 27) (.k (I 0))⟩,
 .op ⟨some 8, none, .mv (.t 25)⟩,
 .op ⟨some 9, none, .mv (.t 26)⟩,
 .op ⟨some 10, none, .mv (.t 28)⟩])
 .ret))
 .skip))
 (.seq (.seq (.reg [.op ⟨some 29, none, .mv (.t 0)⟩,
 .op ⟨some 30, none, .len .sl (.t 29)⟩,
 .op ⟨some 31, none, .bin .gtr (.t 30) (.k (I 4096))⟩])
 (.ite (.t 31) (.seq (.reg [.op ⟨some 8, none, .mv (.k .nils)⟩,
 .op ⟨some 9, none, .mv (.k (I (-1)))⟩,
 .op ⟨some 10, none, .mv (.k (.bool false))⟩])
 .ret)
 .skip))
 (.seq (.seq (.reg [.op ⟨some 32, none, .mv (.t 3)⟩,
 .op ⟨some 33, none, .un .not (.t 32)⟩])
 (.ite (.t 33) (.seq (.reg [.op ⟨some 8, none, .mv (.k .nils)⟩,
 .op ⟨some 9, none, .mv (.k (I (-1)))⟩,
 .op ⟨some 10, none, .mv (.k (.bool true))⟩])
 .ret)
 .skip))
 (.seq (.reg [.op ⟨some 34, none, .mv (.t 0)⟩,
 .op ⟨some 35, none, .call 21 [(.t 34)]⟩,
 .op ⟨some 36, none, .mv (.t 0)⟩,
 .op ⟨some 37, none, .len .sl (.t 36)⟩,
 .op ⟨some 8, none, .mv (.t 35)⟩,
 .op ⟨some 9, none, .mv (.t 37)⟩,
 .op ⟨some 10, none, .mv (.k (.bool true))⟩])
 .ret)))))⟩
theorem g245 : Good 245 c245 := ⟨_, Tryz.func245, by kernel_rfl⟩

def c246 : AFunc := ⟨[.t 4], (.seq (.reg [.op ⟨some 4, none, .mv (.k (I 0))⟩])
 (.block 0 (.loop (.block 1 (.seq (.reg [.op ⟨some 7, none, .mv (.t 0)⟩,
 .op ⟨some 8, none, .nilchk (.t 7)⟩,
 .op ⟨some 9, none, .fa 1 (.t 8)⟩,
 .op ⟨some 10, none, .call 239 [(.t 9)]⟩,
 .op ⟨some 5, none, .mv (.t 10)⟩])
 (.seq (.reg [.op ⟨some 11, none, .mv (.t 1)⟩,
 .op ⟨some 12, none, .mx (.t 11) (.k (I 0))⟩,
 .op ⟨some 13, none, .mv (.t 5)⟩,
 .op ⟨some 14, none, .mn (.t 12) (.t 13)⟩,
 .op ⟨some 6, none, .mv (.t 14)⟩])
 (.seq (.reg [.op ⟨some 15, none, .mv (.t 0)⟩,
 .op ⟨some 16, none, .nilchk (.t 15)⟩,
 .op ⟨some 17, none, .fa 1 (.t 16)⟩,
 .op ⟨some 18, none, .mv (.t 5)⟩,
 .op ⟨some 19, none, .mv (.t 5)⟩,
 .op ⟨some 20, none, .mv (.t 6)⟩,
 .op ⟨some 21, none, .bin .sub (.t 19) (.t 20)⟩,
 .op ⟨some 22, none, .call 240 [(.t 17), (.t 18), (.t 21)]⟩])
 (.ite (.t 22) (.seq (.reg [.op ⟨some 23, none, .mv (.t 6)⟩,
 .op ⟨some 4, none, .mv (.t 23)⟩])
 .ret)
 .skip))))))))⟩
theorem g246 : Good 246 c246 := ⟨_, Tryz.func246, by kernel_rfl⟩

def c247 : AFunc := ⟨[.t 6], (.seq (.reg [.op ⟨some 5, none, .box 1 (.t 2)⟩,
 .op ⟨some 6, none, .mv (.k (.bool false))⟩])
 (.seq (.reg [.op ⟨some 7, none, .mv (.t 0)⟩,
 .op ⟨some 8, none, .mv (.t 1)⟩,
 .op ⟨some 9, none, .call 299 [(.t 7), (.t 8)]⟩,
 .op ⟨some 10, none, .mkf 300 [] [(.t 5)]⟩,
 .op ⟨some 11, none, .call 64 [(.t 9), (.t 10)]⟩,
 .op ⟨some 6, none, .mv (.t 11)⟩])
 .ret))⟩
theorem g247 : Good 247 c247 := ⟨_, Tryz.func247, by kernel_rfl⟩

def c248 : AFunc := ⟨[.t 2], (.seq (.reg [.op ⟨some 2, none, .mv (.k .nils)⟩])
 (.seq (.reg [.op ⟨some 3, none, .mv (.k .nils)⟩])
 (.seq (.seq (.reg [.op ⟨some 6, none, .mv (.t 0)⟩,
 .op ⟨some 7, none, .len .sl (.t 6)⟩,
 .op ⟨some 8, none, .mv (.k (I 0))⟩])
 (.block 0 (.loop (.seq (.reg [.op ⟨some 9, none, .bin .lss (.t 8) (.t 7)⟩])
 (.seq (.ite (.t 9) .skip
 (.exit 0))
 (.seq (.block 1 (.seq (.reg [.op ⟨some 10, none, .ia (.sl 2) (.t 6) (.t 8)⟩,
 .op ⟨some 11, none, .load true 2 (.t 10)⟩,
 .op ⟨some 5, none, .alloc [(.str []), (.str [])]⟩,
 .op ⟨none, none, .store 2 (.t 5) (.t 11)⟩])
 (.seq (.reg [.op ⟨some 12, none, .mv (.t 0)⟩,
 .op ⟨some 13, none, .fa 0 (.t 5)⟩,
 .op ⟨some 14, none, .load false 1 (.t 13)⟩,
 .op ⟨some 15, none, .call 301 [(.t 12), (.t 14)]⟩,
 .op ⟨some 16, none, .un .not (.t 15)⟩])
 (.ite (.t 16) (.reg [.op ⟨some 17, none, .mv (.t 3)⟩,
 .op ⟨some 18, none, .load true 2 (.t 5)⟩,
 .op ⟨some 19, none, .bslice 2 1 [(.str []), (.str [])] [(0, 2, (.t 18))]⟩,
 .op ⟨some 20, none, .app 2 32 (.t 17) (.t 19)⟩,
 .op ⟨some 3, none, .mv (.t 20)⟩])
 .skip))))
 (.reg [.op ⟨some 21, none, .bin .add (.t 8) (.k (I 1))⟩,
 .op ⟨some 8, none, .mv (.t 21)⟩])))))))
 (.seq (.reg [.op ⟨some 22, none, .mv (.t 3)⟩,
 .op ⟨some 2, none, .mv (.t 22)⟩])
 .ret))))⟩
theorem g248 : Good 248 c248 := ⟨_, Tryz.func248, by kernel_rfl⟩

def c249 : AFunc := ⟨[.t 2], (.seq (.reg [.op ⟨some 1, none, .box 8 (.t 0)⟩,
 .op ⟨some 2, none, .mv (.k (.bool false))⟩])
 (.seq (.reg [.op ⟨some 4, none, .fa 0 (.t 1)⟩,
 .op ⟨some 5, none, .load false 1 (.t 4)⟩,
 .op ⟨some 6, none, .call 302 [(.t 5), (.k (.fn 303 [] []))]⟩,
 .op ⟨some 3, none, .mv (.t 6)⟩])
 (.seq (.reg [.op ⟨some 7, none, .mv (.t 3)⟩,
 .op ⟨some 8, none, .mv (.t 7)⟩,
 .op ⟨some 9, some (8, false), .fa 0 (.t 1)⟩,
 .op ⟨some 10, some (8, false), .load false 1 (.t 9)⟩,
 .op ⟨some 11, some (8, false), .len .sl (.t 10)⟩,
 .op ⟨some 12, some (8, false), .bin .gtr (.t 11) (.k (I 16))⟩,
 .op ⟨some 13, none, .pick (.t 8) (.k (.bool true)) (.t 12)⟩,
 .op ⟨some 14, none, .mv (.t 13)⟩,
 .op ⟨some 15, some (14, false), .fa 1 (.t 1)⟩,
 .op ⟨some 16, some (14, false), .load false 1 (.t 15)⟩,
 .op ⟨some 17, some (14, false), .len .sl (.t 16)⟩,
 .op ⟨some 18, some (14, false), .bin .gtr (.t 17) (.k (I 32))⟩,
 .op ⟨some 19, none, .pick (.t 14) (.k (.bool true)) (.t 18)⟩,
 .op ⟨some 20, none, .mv (.t 19)⟩,
 .op ⟨some 21, some (20, false), .fa 2 (.t 1)⟩,
 .op ⟨some 22, some (20, false), .load false 1 (.t 21)⟩,
 .op ⟨some 23, some (20, false), .len .sl (.t 22)⟩,
 .op ⟨some 24, some (20, false), .bin .gtr (.t 23) (.k (I 16))⟩,
 .op ⟨some 25, none, .pick (.t 20) (.k (.bool true)) (.t 24)⟩,
 .op ⟨some 26, none, .mv (.t 25)⟩,
 .op ⟨some 27, some (26, false), .fa 3 (.t 1)⟩,
 .op ⟨some 28, some (26, false), .load false 1 (.t 27)⟩,
 .op ⟨some 29, some (26, false), .len .sl (.t 28)⟩,
 .op ⟨some 30, some (26, false), .bin .gtr (.t 29) (.k (I 16))⟩,
 .op ⟨some 31, none, .pick (.t 26) (.k (.bool true)) (.t 30)⟩,
 .op ⟨some 2, none, .mv (.t 31)⟩])
 .ret)))⟩
theorem g249 : Good 249 c249 := ⟨_, Tryz.func249, by kernel_rfl⟩

def c250 : AFunc := ⟨[.t 2], (.seq (.reg [.op ⟨some 1, none, .box 8 (.t 0)⟩,
 .op ⟨some 2, none, .mv (.k (.bool false))⟩])
 (.seq (.seq (.reg [.op ⟨some 11, none, .fa 0 (.t 1)⟩,
 .op ⟨some 12, none, .load false 1 (.t 11)⟩,
 .op ⟨some 13, none, .len .sl (.t 12)⟩,
 .op ⟨some 14, none, .mv (.k (I 0))⟩])
 (.block 0 (.loop (.seq (.reg [.op ⟨some 15, none, .bin .lss (.t 14) (.t 13)⟩])
 (.seq (.ite (.t 15) .skip
 (.exit 0))
 (.seq (.block 1 (.seq (.reg [.op ⟨some 16, none, .ia (.sl 2) (.t 12) (.t 14)⟩,
 .op ⟨some 17, none, .load true 2 (.t 16)⟩,
 .op ⟨some 4, none, .alloc [(.str []), .nils]⟩,
 .op ⟨none, none, .store 2 (.t 4) (.t 17)⟩])
 (.seq (.reg [.op ⟨some 18, none, .load true 2 (.t 4)⟩,
 .op ⟨some 19, none, .call 304 [(.t 18)]⟩,
 .op ⟨some 20, none, .un .not (.t 19)⟩])
 (.ite (.t 20) (.seq (.reg [.op ⟨some 2, none, .mv (.k (.bool false))⟩])
 .ret)
 .skip))))
 (.reg [.op ⟨some 21, none, .bin .add (.t 14) (.k (I 1))⟩,
 .op ⟨some 14, none, .mv (.t 21)⟩])))))))
 (.seq (.seq (.reg [.op ⟨some 22, none, .fa 1 (.t 1)⟩,
 .op ⟨some 23, none, .load false 1 (.t 22)⟩,
 .op ⟨some 24, none, .len .sl (.t 23)⟩,
 .op ⟨some 25, none, .mv (.k (I 0))⟩])
 (.block 2 (.loop (.seq (.reg [.op ⟨some 26, none, .bin .lss (.t 25) (.t 24)⟩])
 (.seq (.ite (.t 26) .skip
 (.exit 2))
 (.seq (.block 3 (.seq (.reg [.op ⟨some 27, none, .ia (.sl 3) (.t 23) (.t 25)⟩,
 .op ⟨some 28, none, .load true 3 (.t 27)⟩,
 .op ⟨some 6, none, .alloc [(.str []), (.str []), (.str [])]⟩,
 .op ⟨none, none, .store 3 (.t 6) (.t 28)⟩])
 (.seq (.reg [.op ⟨some 29, none, .fa 0 (.t 6)⟩,
 .op ⟨some 30, none, .load false 1 (.t 29)⟩,
 .op ⟨some 31, none, .call 305 [(.t 30)]⟩,
 .op ⟨some 32, none, .un .not (.t 31)⟩,
 .op ⟨some 33, none, .mv (.t 32)⟩,
 .op ⟨some 34, some (33, false), .fa 2 (.t 6)⟩,
 .op ⟨some 35, some (33, false), .load false 1 (.t 34)⟩,
 .op ⟨some 36, some (33, false), .call 305 [(.t 35)]⟩,
 .op ⟨some 37, some (33, false), .un .not (.t 36)⟩,
 .op ⟨some 38, none, .pick (.t 33) (.k (.bool true)) (.t 37)⟩])
 (.ite (.t 38) (.seq (.reg [.op ⟨some 2, none, .mv (.k (.bool false))⟩])
 .ret)
 .skip))))
 (.reg [.op ⟨some 39, none, .bin .add (.t 25) (.k (I 1))⟩,
 .op ⟨some 25, none, .mv (.t 39)⟩])))))))
 (.seq (.seq (.reg [.op ⟨some 40, none, .fa 2 (.t 1)⟩,
 .op ⟨some 41, none, .load false 1 (.t 40)⟩,
 .op ⟨some 42, none, .len .sl (.t 41)⟩,
 .op ⟨some 43, none, .mv (.k (I 0))⟩])
 (.block 4 (.loop (.seq (.reg [.op ⟨some 44, none, .bin .lss (.t 43) (.t 42)⟩])
 (.seq (.ite (.t 44) .skip
 (.exit 4))
 (.seq (.block 5 (.seq (.reg [.op ⟨some 45, none, .ia (.sl 2) (.t 41) (.t 43)⟩,
 .op ⟨some 46, none, .load true 2 (.t 45)⟩,
 .op ⟨some 8, none, .alloc [(.str []), (.str [])]⟩,
 .op ⟨none, none, .store 2 (.t 8) (.t 46)⟩])
 (.seq (.reg [.op ⟨some 47, none, .load true 2 (.t 8)⟩,
 .op ⟨some 48, none, .call 306 [(.t 47)]⟩,
 .op ⟨some 49, none, .un .not (.t 48)⟩])
 (.ite (.t 49) (.seq (.reg [.op ⟨some 2, none, .mv (.k (.bool false))⟩])
 .ret)
 .skip))))
 (.reg [.op ⟨some 50, none, .bin .add (.t 43) (.k (I 1))⟩,
 .op ⟨some 43, none, .mv (.t 50)⟩])))))))
 (.seq (.seq (.reg [.op ⟨some 51, none, .fa 3 (.t 1)⟩,
 .op ⟨some 52, none, .load false 1 (.t 51)⟩,
 .op ⟨some 53, none, .len .sl (.t 52)⟩,
 .op ⟨some 54, none, .mv (.k (I 0))⟩])
 (.block 6 (.loop (.seq (.reg [.op ⟨some 55, none, .bin .lss (.t 54) (.t 53)⟩])
 (.seq (.ite (.t 55) .skip
 (.exit 6))
 (.seq (.block 7 (.seq (.reg [.op ⟨some 56, none, .ia (.sl 1) (.t 52) (.t 54)⟩,
 .op ⟨some 57, none, .load false 1 (.t 56)⟩,
 .op ⟨some 10, none, .mv (.t 57)⟩])
 (.seq (.reg [.op ⟨some 58, none, .mv (.t 10)⟩,
 .op ⟨some 59, none, .call 307 [(.t 58)]⟩,
 .op ⟨some 60, none, .un .not (.t 59)⟩])
 (.ite (.t 60) (.seq (.reg [.op ⟨some 2, none, .mv (.k (.bool false))⟩])
 .ret)
 .skip))))
 (.reg [.op ⟨some 61, none, .bin .add (.t 54) (.k (I 1))⟩,
 .op ⟨some 54, none, .mv (.t 61)⟩])))))))
 (.seq (.reg [.op ⟨some 62, none, .load true 8 (.t 1)⟩,
 .op ⟨some 63, none, .call 309 [(.t 62)]⟩,
 .op ⟨some 64, none, .call 308 [(.t 63), (.k (.fn 310 [] []))]⟩,
 .op ⟨some 65, none, .un .not (.t 64)⟩,
 .op ⟨some 2, none, .mv (.t 65)⟩])
 .ret))))))⟩
theorem g250 : Good 250 c250 := ⟨_, Tryz.func250, by kernel_rfl⟩

end Go.Proofs.Tryz
