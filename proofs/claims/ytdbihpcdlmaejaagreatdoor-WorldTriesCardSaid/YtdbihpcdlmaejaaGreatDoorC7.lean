/- The code that the statement reaches, as the evaluator takes it, part 7. -/
import Derived.Test.YtdbihpcdlmaejaaGreatDoorPre
set_option maxRecDepth 1000000
set_option maxHeartbeats 4000000
namespace Go.Proofs.Tryz
open Go Go.Ai Go.Proofs

def c255 : AFunc := ⟨[.t 2], (.seq (.reg [.op ⟨some 2, none, .mv (.k .nils)⟩])
 (.seq (.seq (.reg [.op ⟨some 3, none, .mv (.t 0)⟩,
 .op ⟨some 4, none, .nileq .sl false (.t 3) (.k .nils)⟩])
 (.ite (.t 4) (.seq (.reg [.op ⟨some 2, none, .mv (.k .nils)⟩])
 .ret)
 .skip))
 (.seq (.reg [.op ⟨some 5, none, .bslice 2 0 [(I 0), (I 0)] []⟩,
 .op ⟨some 6, none, .mv (.t 0)⟩,
 .op ⟨some 7, none, .app 2 16 (.t 5) (.t 6)⟩,
 .op ⟨some 2, none, .mv (.t 7)⟩])
 .ret)))⟩
theorem g255 : Good 255 c255 := ⟨_, Tryz.func255, by kernel_rfl⟩

def c256 : AFunc := ⟨[], (.reg [.op ⟨some 4, none, .mv (.t 0)⟩,
 .op ⟨some 5, none, .mv (.t 0)⟩,
 .op ⟨some 6, none, .len .sl (.t 5)⟩,
 .op ⟨some 7, none, .mv (.t 1)⟩,
 .op ⟨some 8, none, .call 322 [(.t 4), (.t 6), (.t 7)]⟩])⟩
theorem g256 : Good 256 c256 := ⟨_, Tryz.func256, by kernel_rfl⟩

def c259 : AFunc := ⟨[.t 4], (.seq (.reg [.op ⟨some 4, none, .mv (.k .nils)⟩])
 (.seq (.seq (.reg [.op ⟨some 8, none, .mv (.t 0)⟩,
 .op ⟨some 9, none, .len .sl (.t 8)⟩,
 .op ⟨some 10, none, .bin .lss (.t 9) (.k (I 2))⟩])
 (.ite (.t 10) (.seq (.reg [.op ⟨some 11, none, .mv (.t 0)⟩,
 .op ⟨some 4, none, .mv (.t 11)⟩])
 .ret)
 .skip))
 (.seq (.seq (.reg [.op ⟨some 5, none, .mv (.k (I 1))⟩])
 (.block 0 (.loop (.seq (.seq (.reg [.op ⟨some 12, none, .mv (.t 5)⟩,
 .op ⟨some 13, none, .mv (.t 0)⟩,
 .op ⟨some 14, none, .len .sl (.t 13)⟩,
 .op ⟨some 15, none, .bin .lss (.t 12) (.t 14)⟩])
 (.ite (.t 15) .skip
 (.exit 0)))
 (.seq (.block 1 (.seq (.reg [.op ⟨some 18, none, .mv (.t 1)⟩,
 .op ⟨some 19, none, .mv (.t 0)⟩,
 .op ⟨some 20, none, .mv (.t 5)⟩,
 .op ⟨some 21, none, .ia (.sl 2) (.t 19) (.t 20)⟩,
 .op ⟨some 22, none, .load true 2 (.t 21)⟩,
 .op ⟨some 23, none, .mv (.t 0)⟩,
 .op ⟨some 24, none, .mv (.t 5)⟩,
 .op ⟨some 25, none, .bin .sub (.t 24) (.k (I 1))⟩,
 .op ⟨some 26, none, .ia (.sl 2) (.t 23) (.t 25)⟩,
 .op ⟨some 27, none, .load true 2 (.t 26)⟩,
 .op ⟨some 28, none, .callv (.t 18) [(.t 22), (.t 27)]⟩])
 (.ite (.t 28) (.seq (.reg [.op ⟨some 29, none, .mv (.t 0)⟩,
 .op ⟨some 30, none, .mv (.t 5)⟩,
 .op ⟨some 31, none, .slc (.sl 2) (.t 29) (some (.t 30)) none none⟩,
 .op ⟨some 6, none, .mv (.t 31)⟩])
 (.seq (.seq (.reg [.op ⟨some 7, none, .mv (.k (I 1))⟩])
 (.block 2 (.loop (.seq (.seq (.reg [.op ⟨some 32, none, .mv (.t 7)⟩,
 .op ⟨some 33, none, .mv (.t 6)⟩,
 .op ⟨some 34, none, .len .sl (.t 33)⟩,
 .op ⟨some 35, none, .bin .lss (.t 32) (.t 34)⟩])
 (.ite (.t 35) .skip
 (.exit 2)))
 (.seq (.block 3 (.seq (.reg [.op ⟨some 38, none, .mv (.t 1)⟩,
 .op ⟨some 39, none, .mv (.t 6)⟩,
 .op ⟨some 40, none, .mv (.t 7)⟩,
 .op ⟨some 41, none, .ia (.sl 2) (.t 39) (.t 40)⟩,
 .op ⟨some 42, none, .load true 2 (.t 41)⟩,
 .op ⟨some 43, none, .mv (.t 6)⟩,
 .op ⟨some 44, none, .mv (.t 7)⟩,
 .op ⟨some 45, none, .bin .sub (.t 44) (.k (I 1))⟩,
 .op ⟨some 46, none, .ia (.sl 2) (.t 43) (.t 45)⟩,
 .op ⟨some 47, none, .load true 2 (.t 46)⟩,
 .op ⟨some 48, none, .callv (.t 38) [(.t 42), (.t 47)]⟩,
 .op ⟨some 49, none, .un .not (.t 48)⟩])
 (.ite (.t 49) (.seq (.reg [.op ⟨some 50, none, .mv (.t 0)⟩,
 .op ⟨some 51, none, .mv (.t 5)⟩,
 .op ⟨some 52, none, .mv (.t 6)⟩,
 .op ⟨some 53, none, .mv (.t 7)⟩,
 .op ⟨some 54, none, .ia (.sl 2) (.t 52) (.t 53)⟩,
 .op ⟨some 55, none, .load true 2 (.t 54)⟩,
 .op ⟨some 56, none, .ia (.sl 2) (.t 50) (.t 51)⟩,
 .op ⟨none, none, .store 2 (.t 56) (.t 55)⟩])
 (.reg [.op ⟨some 57, none, .mv (.t 5)⟩,
 .op ⟨some 58, none, .bin .add (.t 57) (.k (I 1))⟩,
 .op ⟨some 5, none, .mv (.t 58)⟩]))
 .skip)))
 (.reg [.op ⟨some 36, none, .mv (.t 7)⟩,
 .op ⟨some 37, none, .bin .add (.t 36) (.k (I 1))⟩,
 .op ⟨some 7, none, .mv (.t 37)⟩]))))))
 (.seq (.reg [.op ⟨some 59, none, .mv (.t 0)⟩,
 .op ⟨some 60, none, .mv (.t 5)⟩,
 .op ⟨some 61, none, .slc (.sl 2) (.t 59) (some (.t 60)) none none⟩,
 .op ⟨none, none, .clr [(I 0), (I 0)] (.t 61)⟩])
 (.seq (.reg [.op ⟨some 62, none, .mv (.t 0)⟩,
 .op ⟨some 63, none, .mv (.t 5)⟩,
 .op ⟨some 64, none, .slc (.sl 2) (.t 62) none (some (.t 63)) none⟩,
 .op ⟨some 4, none, .mv (.t 64)⟩])
 .ret))))
 .skip)))
 (.reg [.op ⟨some 16, none, .mv (.t 5)⟩,
 .op ⟨some 17, none, .bin .add (.t 16) (.k (I 1))⟩,
 .op ⟨some 5, none, .mv (.t 17)⟩]))))))
 (.seq (.reg [.op ⟨some 65, none, .mv (.t 0)⟩,
 .op ⟨some 4, none, .mv (.t 65)⟩])
 .ret))))⟩
theorem g259 : Good 259 c259 := ⟨_, Tryz.func259, by kernel_rfl⟩

def c261 : AFunc := ⟨[.t 4], (.seq (.reg [.op ⟨some 4, none, .mv (.k .nils)⟩])
 (.seq (.reg [.op ⟨some 8, none, .mv (.t 0)⟩,
 .op ⟨some 9, none, .mv (.t 1)⟩,
 .op ⟨some 10, none, .call 263 [(.t 8), (.t 9)]⟩,
 .op ⟨some 5, none, .mv (.t 10)⟩])
 (.seq (.seq (.reg [.op ⟨some 11, none, .mv (.t 5)⟩,
 .op ⟨some 12, none, .bin .eql (.t 11) (.k (I (-1)))⟩])
 (.ite (.t 12) (.seq (.reg [.op ⟨some 13, none, .mv (.t 0)⟩,
 .op ⟨some 4, none, .mv (.t 13)⟩])
 .ret)
 .skip))
 (.seq (.seq (.reg [.op ⟨some 14, none, .mv (.t 5)⟩,
 .op ⟨some 15, none, .bin .add (.t 14) (.k (I 1))⟩,
 .op ⟨some 6, none, .mv (.t 15)⟩])
 (.block 0 (.loop (.seq (.seq (.reg [.op ⟨some 16, none, .mv (.t 6)⟩,
 .op ⟨some 17, none, .mv (.t 0)⟩,
 .op ⟨some 18, none, .len .sl (.t 17)⟩,
 .op ⟨some 19, none, .bin .lss (.t 16) (.t 18)⟩])
 (.ite (.t 19) .skip
 (.exit 0)))
 (.seq (.block 1 (.seq (.reg [.op ⟨some 22, none, .mv (.t 0)⟩,
 .op ⟨some 23, none, .mv (.t 6)⟩,
 .op ⟨some 24, none, .ia (.sl 2) (.t 22) (.t 23)⟩,
 .op ⟨some 25, none, .load true 2 (.t 24)⟩,
 .op ⟨some 7, none, .alloc [(I 0), (I 0)]⟩,
 .op ⟨none, none, .store 2 (.t 7) (.t 25)⟩])
 (.seq (.reg [.op ⟨some 26, none, .mv (.t 1)⟩,
 .op ⟨some 27, none, .load true 2 (.t 7)⟩,
 .op ⟨some 28, none, .callv (.t 26) [(.t 27)]⟩,
 .op ⟨some 29, none, .un .not (.t 28)⟩])
 (.ite (.t 29) (.seq (.reg [.op ⟨some 30, none, .mv (.t 0)⟩,
 .op ⟨some 31, none, .mv (.t 5)⟩,
 .op ⟨some 32, none, .load true 2 (.t 7)⟩,
 .op ⟨some 33, none, .ia (.sl 2) (.t 30) (.t 31)⟩,
 .op ⟨none, none, .store 2 (.t 33) (.t 32)⟩])
 (.reg [.op ⟨some 34, none, .mv (.t 5)⟩,
 .op ⟨some 35, none, .bin .add (.t 34) (.k (I 1))⟩,
 .op ⟨some 5, none, .mv (.t 35)⟩]))
 .skip))))
 (.reg [.op ⟨some 20, none, .mv (.t 6)⟩,
 .op ⟨some 21, none, .bin .add (.t 20) (.k (I 1))⟩,
 .op ⟨some 6, none, .mv (.t 21)⟩]))))))
 (.seq (.reg [.op ⟨some 36, none, .mv (.t 0)⟩,
 .op ⟨some 37, none, .mv (.t 5)⟩,
 .op ⟨some 38, none, .slc (.sl 2) (.t 36) (some (.t 37)) none none⟩,
 .op ⟨none, none, .clr [(I 0), (I 0)] (.t 38)⟩])
 (.seq (.reg [.op ⟨some 39, none, .mv (.t 0)⟩,
 .op ⟨some 40, none, .mv (.t 5)⟩,
 .op ⟨some 41, none, .slc (.sl 2) (.t 39) none (some (.t 40)) none⟩,
 .op ⟨some 4, none, .mv (.t 41)⟩])
 .ret))))))⟩
theorem g261 : Good 261 c261 := ⟨_, Tryz.func261, by kernel_rfl⟩

def c262 : AFunc := ⟨[.t 2], (.seq (.reg [.op ⟨some 1, none, .box 2 (.t 0)⟩,
 .op ⟨some 2, none, .mv (.k (.bool false))⟩])
 (.seq (.reg [.op ⟨some 3, none, .fa 1 (.t 1)⟩,
 .op ⟨some 4, none, .load false 1 (.t 3)⟩,
 .op ⟨some 5, none, .bin .leq (.t 4) (.k (I 0))⟩,
 .op ⟨some 2, none, .mv (.t 5)⟩])
 .ret))⟩
theorem g262 : Good 262 c262 := ⟨_, Tryz.func262, by kernel_rfl⟩

def c263 : AFunc := ⟨[.t 4], (.seq (.reg [.op ⟨some 4, none, .mv (.k (I 0))⟩])
 (.seq (.seq (.reg [.op ⟨some 6, none, .mv (.t 0)⟩,
 .op ⟨some 7, none, .len .sl (.t 6)⟩,
 .op ⟨some 8, none, .mv (.k (I 0))⟩])
 (.block 0 (.loop (.seq (.reg [.op ⟨some 9, none, .bin .lss (.t 8) (.t 7)⟩])
 (.seq (.ite (.t 9) .skip
 (.exit 0))
 (.seq (.block 1 (.seq (.reg [.op ⟨some 10, none, .mv (.t 8)⟩,
 .op ⟨some 5, none, .mv (.t 10)⟩])
 (.seq (.reg [.op ⟨some 11, none, .mv (.t 1)⟩,
 .op ⟨some 12, none, .mv (.t 0)⟩,
 .op ⟨some 13, none, .mv (.t 5)⟩,
 .op ⟨some 14, none, .ia (.sl 2) (.t 12) (.t 13)⟩,
 .op ⟨some 15, none, .load true 2 (.t 14)⟩,
 .op ⟨some 16, none, .callv (.t 11) [(.t 15)]⟩])
 (.ite (.t 16) (.seq (.reg [.op ⟨some 17, none, .mv (.t 5)⟩,
 .op ⟨some 4, none, .mv (.t 17)⟩])
 .ret)
 .skip))))
 (.reg [.op ⟨some 18, none, .bin .add (.t 8) (.k (I 1))⟩,
 .op ⟨some 8, none, .mv (.t 18)⟩])))))))
 (.seq (.reg [.op ⟨some 4, none, .mv (.k (I (-1)))⟩])
 .ret)))⟩
theorem g263 : Good 263 c263 := ⟨_, Tryz.func263, by kernel_rfl⟩

def c264 : AFunc := ⟨[.t 3], (.seq (.reg [.op ⟨some 2, none, .box 2 (.t 0)⟩,
 .op ⟨some 3, none, .mv (.k (.bool false))⟩])
 (.seq (.reg [.op ⟨some 4, none, .load false 1 (.t 1)⟩,
 .op ⟨some 5, none, .nilchk (.t 4)⟩,
 .op ⟨some 6, none, .fa 3 (.t 5)⟩,
 .op ⟨some 7, none, .load false 1 (.t 6)⟩,
 .op ⟨some 8, none, .mv (.t 7)⟩,
 .op ⟨some 9, some (8, true), .fa 0 (.t 2)⟩,
 .op ⟨some 10, some (8, true), .load false 1 (.t 9)⟩,
 .op ⟨some 11, some (8, true), .load false 1 (.t 1)⟩,
 .op ⟨some 12, some (8, true), .nilchk (.t 11)⟩,
 .op ⟨some 13, some (8, true), .fa 2 (.t 12)⟩,
 .op ⟨some 14, some (8, true), .load false 1 (.t 13)⟩,
 .op ⟨some 15, some (8, true), .bin .gtr (.t 10) (.t 14)⟩,
 .op ⟨some 16, none, .pick (.t 8) (.t 15) (.k (.bool false))⟩,
 .op ⟨some 3, none, .mv (.t 16)⟩])
 .ret))⟩
theorem g264 : Good 264 c264 := ⟨_, Tryz.func264, by kernel_rfl⟩

def c265 : AFunc := ⟨[.t 4, .t 5, .t 6], (.seq (.reg [.op ⟨some 4, none, .mv (.k (.str []))⟩,
 .op ⟨some 5, none, .mv (.k (I 0))⟩,
 .op ⟨some 6, none, .mv (.k (I 0))⟩])
 (.seq (.seq (.reg [.op ⟨some 9, none, .mv (.t 0)⟩,
 .op ⟨some 10, none, .len .sl (.t 9)⟩,
 .op ⟨some 11, none, .mv (.k (I 0))⟩])
 (.block 0 (.loop (.seq (.reg [.op ⟨some 12, none, .bin .lss (.t 11) (.t 10)⟩])
 (.seq (.ite (.t 12) .skip
 (.exit 0))
 (.seq (.block 1 (.seq (.reg [.op ⟨some 13, none, .mv (.t 11)⟩,
 .op ⟨some 14, none, .ia (.sl 1) (.t 9) (.t 11)⟩,
 .op ⟨some 15, none, .load false 1 (.t 14)⟩,
 .op ⟨some 7, none, .mv (.t 13)⟩,
 .op ⟨some 8, none, .mv (.t 15)⟩])
 (.block 2 (.seq (.reg [.op ⟨some 17, none, .mv (.t 8)⟩,
 .op ⟨some 18, none, .bin .eql (.t 17) (.k (.int .u8 (10)))⟩,
 .op ⟨some 19, none, .mv (.t 18)⟩,
 .op ⟨some 20, some (19, false), .mv (.t 8)⟩,
 .op ⟨some 21, some (19, false), .bin .eql (.t 20) (.k (.int .u8 (13)))⟩,
 .op ⟨some 22, some (19, false), .mv (.t 21)⟩,
 .op ⟨some 23, some (22, true), .mv (.t 7)⟩,
 .op ⟨some 24, some (22, true), .bin .add (.t 23) (.k (I 1))⟩,
 .op ⟨some 25, some (22, true), .mv (.t 0)⟩,
 .op ⟨some 26, some (22, true), .len .sl (.t 25)⟩,
 .op ⟨some 27, some (22, true), .bin .lss (.t 24) (.t 26)⟩,
 .op ⟨some 28, some (19, false), .pick (.t 22) (.t 27) (.k (.bool false))⟩,
 .op ⟨some 29, some (19, false), .mv (.t 28)⟩,
 .op ⟨some 30, some (29, true), .mv (.t 0)⟩,
 .op ⟨some 31, some (29, true), .mv (.t 7)⟩,
 .op ⟨some 32, some (29, true), .bin .add (.t 31) (.k (I 1))⟩,
 .op ⟨some 33, some (29, true), .ia (.sl 1) (.t 30) (.t 32)⟩,
 .op ⟨some 34, some (29, true), .load false 1 (.t 33)⟩,
 .op ⟨some 35, some (29, true), .bin .neq (.t 34) (.k (.int .u8 (10)))⟩,
 .op ⟨some 36, some (19, false), .pick (.t 29) (.t 35) (.k (.bool false))⟩,
 .op ⟨some 37, none, .pick (.t 19) (.k (.bool true)) (.t 36)⟩,
 .op ⟨some 16, none, .mv (.t 37)⟩])
 (.ite (.t 16) (.seq (.reg [.op ⟨some 4, none, .mv (.k (.str []))⟩,
 .op ⟨some 5, none, .mv (.k (I 0))⟩,
 .op ⟨some 6, none, .mv (.k (I 20))⟩])
 .ret)
 (.seq (.reg [.op ⟨some 39, none, .mv (.t 8)⟩,
 .op ⟨some 40, none, .bin .eql (.t 39) (.k (.int .u8 (13)))⟩,
 .op ⟨some 41, none, .mv (.t 40)⟩,
 .op ⟨some 42, some (41, true), .mv (.t 7)⟩,
 .op ⟨some 43, some (41, true), .bin .add (.t 42) (.k (I 1))⟩,
 .op ⟨some 44, some (41, true), .mv (.t 0)⟩,
 .op ⟨some 45, some (41, true), .len .sl (.t 44)⟩,
 .op ⟨some 46, some (41, true), .bin .eql (.t 43) (.t 45)⟩,
 .op ⟨some 47, none, .pick (.t 41) (.t 46) (.k (.bool false))⟩,
 .op ⟨some 38, none, .mv (.t 47)⟩])
 (.ite (.t 38) (.seq (.reg [.op ⟨some 4, none, .mv (.k (.str []))⟩,
 .op ⟨some 5, none, .mv (.k (I 0))⟩,
 .op ⟨some 6, none, .mv (.k (I 0))⟩])
 .ret)
 (.seq (.reg [.op ⟨some 49, none, .mv (.t 8)⟩,
 .op ⟨some 50, none, .bin .eql (.t 49) (.k (.int .u8 (13)))⟩,
 .op ⟨some 48, none, .mv (.t 50)⟩])
 (.ite (.t 48) (.seq (.reg [.op ⟨some 51, none, .mv (.t 0)⟩,
 .op ⟨some 52, none, .mv (.t 7)⟩,
 .op ⟨some 53, none, .slc (.sl 1) (.t 51) none (some (.t 52)) none⟩,
 .op ⟨some 54, none, .conv .b2s (.t 53)⟩,
 .op ⟨some 55, none, .mv (.t 7)⟩,
 .op ⟨some 56, none, .bin .add (.t 55) (.k (I 2))⟩,
 .op ⟨some 4, none, .mv (.t 54)⟩,
 .op ⟨some 5, none, .mv (.t 56)⟩,
 .op ⟨some 6, none, .mv (.k (I 0))⟩])
 .ret)
 (.seq (.reg [.op ⟨some 58, none, .mv (.t 7)⟩,
 .op ⟨some 59, none, .mv (.t 1)⟩,
 .op ⟨some 60, none, .mx (.t 59) (.k (I 0))⟩,
 .op ⟨some 61, none, .bin .geq (.t 58) (.t 60)⟩,
 .op ⟨some 57, none, .mv (.t 61)⟩])
 (.ite (.t 57) (.seq (.reg [.op ⟨some 4, none, .mv (.k (.str []))⟩,
 .op ⟨some 5, none, .mv (.k (I 0))⟩,
 .op ⟨some 6, none, .mv (.k (I 2))⟩])
 .ret)
 .skip)))))))))))
 (.reg [.op ⟨some 62, none, .bin .add (.t 11) (.k (I 1))⟩,
 .op ⟨some 11, none, .mv (.t 62)⟩])))))))
 (.seq (.reg [.op ⟨some 4, none, .mv (.k (.str []))⟩,
 .op ⟨some 5, none, .mv (.k (I 0))⟩,
 .op ⟨some 6, none, .mv (.k (I 0))⟩])
 .ret)))⟩
theorem g265 : Good 265 c265 := ⟨_, Tryz.func265, by kernel_rfl⟩

def c266 : AFunc := ⟨[.c 2 true 2, .t 3], (.seq (.reg [.op ⟨some 2, none, .alloc [(.str []), (.str [])]⟩,
 .op ⟨some 3, none, .mv (.k (I 0))⟩])
 (.seq (.reg [.op ⟨some 9, none, .mv (.t 0)⟩,
 .op ⟨some 10, none, .call 24 [(.t 9), (.k (.str [58]))]⟩,
 .op ⟨some 8, none, .mv (.t 10)⟩,
 .op ⟨some 11, none, .ext 0 (.t 8)⟩,
 .op ⟨some 12, none, .ext 1 (.t 8)⟩,
 .op ⟨some 13, none, .ext 2 (.t 8)⟩,
 .op ⟨some 4, none, .mv (.t 11)⟩,
 .op ⟨some 5, none, .mv (.t 12)⟩,
 .op ⟨some 6, none, .mv (.t 13)⟩])
 (.seq (.reg [.op ⟨some 14, none, .mv (.t 4)⟩,
 .op ⟨some 15, none, .mv (.t 5)⟩,
 .op ⟨some 16, none, .call 324 [(.t 15)]⟩,
 .op ⟨some 17, none, .build [(.str []), (.str [])] [(0, 1, (.t 14)), (1, 1, (.t 16))]⟩,
 .op ⟨some 7, none, .alloc [(.str []), (.str [])]⟩,
 .op ⟨none, none, .store 2 (.t 7) (.t 17)⟩])
 (.seq (.seq (.reg [.op ⟨some 18, none, .mv (.t 6)⟩,
 .op ⟨some 19, none, .un .not (.t 18)⟩,
 .op ⟨some 20, none, .mv (.t 19)⟩,
 .op ⟨some 21, some (20, false), .load true 2 (.t 7)⟩,
 .op ⟨some 22, some (20, false), .call 325 [(.t 21)]⟩,
 .op ⟨some 23, some (20, false), .un .not (.t 22)⟩,
 .op ⟨some 24, none, .pick (.t 20) (.k (.bool true)) (.t 23)⟩])
 (.ite (.t 24) (.seq (.reg [.op ⟨some 25, none, .build [(.str []), (.str [])] []⟩,
 .op ⟨none, none, .store 2 (.t 2) (.t 25)⟩,
 .op ⟨some 3, none, .mv (.k (I 20))⟩])
 .ret)
 .skip))
 (.seq (.reg [.op ⟨some 26, none, .load true 2 (.t 7)⟩,
 .op ⟨none, none, .store 2 (.t 2) (.t 26)⟩,
 .op ⟨some 3, none, .mv (.k (I 0))⟩])
 .ret)))))⟩
theorem g266 : Good 266 c266 := ⟨_, Tryz.func266, by kernel_rfl⟩

def c267 : AFunc := ⟨[.t 4], (.seq (.reg [.op ⟨some 4, none, .mv (.k (.bool false))⟩])
 (.seq (.reg [.op ⟨some 5, none, .mv (.t 1)⟩,
 .op ⟨some 6, none, .call 87 [(.t 5)]⟩,
 .op ⟨some 7, none, .mv (.t 6)⟩,
 .op ⟨some 8, some (7, true), .mv (.t 1)⟩,
 .op ⟨some 9, some (7, true), .idx .str false (.t 8) (.k (I 0))⟩,
 .op ⟨some 10, some (7, true), .bin .eql (.t 9) (.k (.int .u8 (47)))⟩,
 .op ⟨some 11, some (7, true), .mv (.t 10)⟩,
 .op ⟨some 12, some (11, false), .mv (.t 1)⟩,
 .op ⟨some 13, some (11, false), .bin .eql (.t 12) (.k (.str [42]))⟩,
 .op ⟨some 14, some (11, false), .mv (.t 13)⟩,
 .op ⟨some 15, some (14, true), .mv (.t 0)⟩,
 .op ⟨some 16, some (14, true), .bin .eql (.t 15) (.k (.str [79, 80, 84, 73, 79, 78, 83]))⟩,
 .op ⟨some 17, some (11, false), .pick (.t 14) (.t 16) (.k (.bool false))⟩,
 .op ⟨some 18, some (7, true), .pick (.t 11) (.k (.bool true)) (.t 17)⟩,
 .op ⟨some 19, none, .pick (.t 7) (.t 18) (.k (.bool false))⟩,
 .op ⟨some 4, none, .mv (.t 19)⟩])
 .ret))⟩
theorem g267 : Good 267 c267 := ⟨_, Tryz.func267, by kernel_rfl⟩

def c268 : AFunc := ⟨[.t 2, .t 3], (.seq (.reg [.op ⟨some 2, none, .mv (.k (I 0))⟩,
 .op ⟨some 3, none, .mv (.k (.bool false))⟩])
 (.seq (.seq (.reg [.op ⟨some 4, none, .mv (.t 0)⟩])
 (.block 0 (.seq (.reg [.op ⟨some 6, none, .bin .eql (.t 4) (.k (.str [72, 84, 84, 80, 47, 49, 46, 48]))⟩,
 .op ⟨some 5, none, .mv (.t 6)⟩])
 (.ite (.t 5) (.seq (.reg [.op ⟨some 2, none, .mv (.k (I 0))⟩,
 .op ⟨some 3, none, .mv (.k (.bool true))⟩])
 .ret)
 (.seq (.reg [.op ⟨some 8, none, .bin .eql (.t 4) (.k (.str [72, 84, 84, 80, 47, 49, 46, 49]))⟩,
 .op ⟨some 7, none, .mv (.t 8)⟩])
 (.ite (.t 7) (.seq (.reg [.op ⟨some 2, none, .mv (.k (I 1))⟩,
 .op ⟨some 3, none, .mv (.k (.bool true))⟩])
 .ret)
 .skip))))))
 (.seq (.reg [.op ⟨some 2, none, .mv (.k (I 0))⟩,
 .op ⟨some 3, none, .mv (.k (.bool false))⟩])
 .ret)))⟩
theorem g268 : Good 268 c268 := ⟨_, Tryz.func268, by kernel_rfl⟩

def c269 : AFunc := ⟨[.t 2], (.seq (.reg [.op ⟨some 2, none, .mv (.k (.bool false))⟩])
 (.seq (.reg [.op ⟨some 6, none, .mv (.t 0)⟩,
 .op ⟨some 7, none, .call 297 [(.t 6), (.k (.str [72, 84, 84, 80, 47]))]⟩,
 .op ⟨some 5, none, .mv (.t 7)⟩,
 .op ⟨some 8, none, .ext 0 (.t 5)⟩,
 .op ⟨some 9, none, .ext 1 (.t 5)⟩,
 .op ⟨some 3, none, .mv (.t 8)⟩,
 .op ⟨some 4, none, .mv (.t 9)⟩])
 (.seq (.reg [.op ⟨some 10, none, .mv (.t 4)⟩,
 .op ⟨some 11, none, .mv (.t 10)⟩,
 .op ⟨some 12, some (11, true), .mv (.t 3)⟩,
 .op ⟨some 13, some (11, true), .len .str (.t 12)⟩,
 .op ⟨some 14, some (11, true), .bin .eql (.t 13) (.k (I 3))⟩,
 .op ⟨some 15, none, .pick (.t 11) (.t 14) (.k (.bool false))⟩,
 .op ⟨some 16, none, .mv (.t 15)⟩,
 .op ⟨some 17, some (16, true), .mv (.t 3)⟩,
 .op ⟨some 18, some (16, true), .idx .str false (.t 17) (.k (I 0))⟩,
 .op ⟨some 19, some (16, true), .call 326 [(.t 18)]⟩,
 .op ⟨some 20, none, .pick (.t 16) (.t 19) (.k (.bool false))⟩,
 .op ⟨some 21, none, .mv (.t 20)⟩,
 .op ⟨some 22, some (21, true), .mv (.t 3)⟩,
 .op ⟨some 23, some (21, true), .idx .str false (.t 22) (.k (I 1))⟩,
 .op ⟨some 24, some (21, true), .bin .eql (.t 23) (.k (.int .u8 (46)))⟩,
 .op ⟨some 25, none, .pick (.t 21) (.t 24) (.k (.bool false))⟩,
 .op ⟨some 26, none, .mv (.t 25)⟩,
 .op ⟨some 27, some (26, true), .mv (.t 3)⟩,
 .op ⟨some 28, some (26, true), .idx .str false (.t 27) (.k (I 2))⟩,
 .op ⟨some 29, some (26, true), .call 326 [(.t 28)]⟩,
 .op ⟨some 30, none, .pick (.t 26) (.t 29) (.k (.bool false))⟩,
 .op ⟨some 2, none, .mv (.t 30)⟩])
 .ret)))⟩
theorem g269 : Good 269 c269 := ⟨_, Tryz.func269, by kernel_rfl⟩

def c270 : AFunc := ⟨[.t 4], (.seq (.reg [.op ⟨some 4, none, .mv (.k (.bool false))⟩])
 (.seq (.reg [.op ⟨some 5, none, .mv (.t 0)⟩,
 .op ⟨some 6, none, .mv (.t 1)⟩,
 .op ⟨some 7, none, .call 165 [(.t 5), (.t 6)]⟩,
 .op ⟨some 8, none, .len .sl (.t 7)⟩,
 .op ⟨some 9, none, .bin .gtr (.t 8) (.k (I 0))⟩,
 .op ⟨some 4, none, .mv (.t 9)⟩])
 .ret))⟩
theorem g270 : Good 270 c270 := ⟨_, Tryz.func270, by kernel_rfl⟩

def c271 : AFunc := ⟨[.t 2, .t 3], (.seq (.reg [.op ⟨some 2, none, .mv (.k (I 0))⟩,
 .op ⟨some 3, none, .mv (.k (.bool false))⟩])
 (.seq (.reg [.op ⟨some 10, none, .mv (.t 0)⟩,
 .op ⟨some 11, none, .call 299 [(.t 10), (.k (.str [67, 111, 110, 116, 101, 110, 116, 45, 76, 101, 110, 103, 116, 104]))]⟩,
 .op ⟨some 4, none, .mv (.t 11)⟩])
 (.seq (.reg [.op ⟨some 5, none, .mv (.k (I (-1)))⟩])
 (.seq (.seq (.reg [.op ⟨some 12, none, .mv (.t 4)⟩,
 .op ⟨some 13, none, .len .sl (.t 12)⟩,
 .op ⟨some 14, none, .mv (.k (I 0))⟩])
 (.block 0 (.loop (.seq (.reg [.op ⟨some 15, none, .bin .lss (.t 14) (.t 13)⟩])
 (.seq (.ite (.t 15) .skip
 (.exit 0))
 (.seq (.block 1 (.seq (.reg [.op ⟨some 16, none, .ia (.sl 1) (.t 12) (.t 14)⟩,
 .op ⟨some 17, none, .load false 1 (.t 16)⟩,
 .op ⟨some 7, none, .mv (.t 17)⟩])
 (.seq (.reg [.op ⟨some 19, none, .mv (.t 7)⟩,
 .op ⟨some 20, none, .call 35 [(.t 19)]⟩,
 .op ⟨some 18, none, .mv (.t 20)⟩,
 .op ⟨some 21, none, .ext 0 (.t 18)⟩,
 .op ⟨some 22, none, .ext 1 (.t 18)⟩,
 .op ⟨some 8, none, .mv (.t 21)⟩,
 .op ⟨some 9, none, .mv (.t 22)⟩])
 (.seq (.seq (.reg [.op ⟨some 23, none, .mv (.t 9)⟩,
 .op ⟨some 24, none, .un .not (.t 23)⟩,
 .op ⟨some 25, none, .mv (.t 24)⟩,
 .op ⟨some 26, some (25, false), .mv (.t 5)⟩,
 .op ⟨some 27, some (25, false), .bin .geq (.t 26) (.k (I 0))⟩,
 .op ⟨some 28, some (25, false), .mv (.t 27)⟩,
 .op ⟨some 29, some (28, true), .mv (.t 8)⟩,
 .op ⟨some 30, some (28, true), .mv (.t 5)⟩,
 .op ⟨some 31, some (28, true), .bin .neq (.t 29) (.t 30)⟩,
 .op ⟨some 32, some (25, false), .pick (.t 28) (.t 31) (.k (.bool false))⟩,
 .op ⟨some 33, none, .pick (.t 25) (.k (.bool true)) (.t 32)⟩])
 (.ite (.t 33) (.seq (.reg [.op ⟨some 2, none, .mv (.k (I 0))⟩,
 .op ⟨some 3, none, .mv (.k (.bool false))⟩])
 .ret)
 .skip))
 (.reg [.op ⟨some 34, none, .mv (.t 8)⟩,
 .op ⟨some 5, none, .mv (.t 34)⟩])))))
 (.reg [.op ⟨some 35, none, .bin .add (.t 14) (.k (I 1))⟩,
 .op ⟨some 14, none, .mv (.t 35)⟩])))))))
 (.seq (.reg [.op ⟨some 36, none, .mv (.t 5)⟩,
 .op ⟨some 37, none, .mv (.t 5)⟩,
 .op ⟨some 38, none, .bin .geq (.t 37) (.k (I 0))⟩,
 .op ⟨some 2, none, .mv (.t 36)⟩,
 .op ⟨some 3, none, .mv (.t 38)⟩])
 .ret)))))⟩
theorem g271 : Good 271 c271 := ⟨_, Tryz.func271, by kernel_rfl⟩

def c281 : AFunc := ⟨[.t 2], (.seq (.reg [.op ⟨some 2, none, .mv (.k (.bool false))⟩])
 (.seq (.reg [.op ⟨some 3, none, .mv (.t 0)⟩,
 .op ⟨some 4, none, .nilchk (.t 3)⟩,
 .op ⟨some 5, none, .fa 0 (.t 4)⟩,
 .op ⟨some 6, none, .call 334 [(.t 5)]⟩,
 .op ⟨some 7, none, .bin .neq (.t 6) (.k (.int .u32 (0)))⟩,
 .op ⟨some 2, none, .mv (.t 7)⟩])
 .ret))⟩
theorem g281 : Good 281 c281 := ⟨_, Tryz.func281, by kernel_rfl⟩

def c284 : AFunc := ⟨[], (.seq (.reg [.op ⟨some 4, none, .mv (.t 1)⟩,
 .op ⟨some 5, none, .mv (.t 0)⟩,
 .op ⟨some 6, none, .nilchk (.t 5)⟩,
 .op ⟨some 7, none, .fa 3 (.t 6)⟩,
 .op ⟨some 8, none, .load false 1 (.t 7)⟩,
 .op ⟨some 9, none, .mx (.t 4) (.t 8)⟩,
 .op ⟨some 10, none, .mn (.t 9) (.k (I 1099511627776))⟩,
 .op ⟨some 1, none, .mv (.t 10)⟩])
 (.seq (.reg [.op ⟨some 11, none, .mv (.t 0)⟩,
 .op ⟨some 12, none, .mv (.t 0)⟩,
 .op ⟨some 13, none, .nilchk (.t 12)⟩,
 .op ⟨some 14, none, .fa 1 (.t 13)⟩,
 .op ⟨some 15, none, .load false 1 (.t 14)⟩,
 .op ⟨some 16, none, .mv (.t 0)⟩,
 .op ⟨some 17, none, .nilchk (.t 16)⟩,
 .op ⟨some 18, none, .fa 2 (.t 17)⟩,
 .op ⟨some 19, none, .load false 1 (.t 18)⟩,
 .op ⟨some 20, none, .mv (.t 0)⟩,
 .op ⟨some 21, none, .nilchk (.t 20)⟩,
 .op ⟨some 22, none, .fa 0 (.t 21)⟩,
 .op ⟨some 23, none, .load false 1 (.t 22)⟩,
 .op ⟨some 24, none, .mv (.t 1)⟩,
 .op ⟨some 25, none, .mv (.t 0)⟩,
 .op ⟨some 26, none, .nilchk (.t 25)⟩,
 .op ⟨some 27, none, .fa 3 (.t 26)⟩,
 .op ⟨some 28, none, .load false 1 (.t 27)⟩,
 .op ⟨some 29, none, .bin .sub (.t 24) (.t 28)⟩,
 .op ⟨some 30, none, .bin .mul (.t 23) (.t 29)⟩,
 .op ⟨some 31, none, .bin .add (.t 19) (.t 30)⟩,
 .op ⟨some 32, none, .mn (.t 15) (.t 31)⟩,
 .op ⟨some 33, none, .nilchk (.t 11)⟩,
 .op ⟨some 34, none, .fa 2 (.t 33)⟩,
 .op ⟨none, none, .store 1 (.t 34) (.t 32)⟩])
 (.reg [.op ⟨some 35, none, .mv (.t 0)⟩,
 .op ⟨some 36, none, .mv (.t 1)⟩,
 .op ⟨some 37, none, .nilchk (.t 35)⟩,
 .op ⟨some 38, none, .fa 3 (.t 37)⟩,
 .op ⟨none, none, .store 1 (.t 38) (.t 36)⟩])))⟩
theorem g284 : Good 284 c284 := ⟨_, Tryz.func284, by kernel_rfl⟩

def c285 : AFunc := ⟨[.t 4], (.seq (.reg [.op ⟨some 4, none, .mv (.k (.bool false))⟩])
 (.seq (.reg [.op ⟨some 11, none, .mv (.t 1)⟩,
 .op ⟨some 12, none, .call 24 [(.t 11), (.k (.str [63]))]⟩,
 .op ⟨some 10, none, .mv (.t 12)⟩,
 .op ⟨some 13, none, .ext 0 (.t 10)⟩,
 .op ⟨some 14, none, .ext 1 (.t 10)⟩,
 .op ⟨some 15, none, .ext 2 (.t 10)⟩,
 .op ⟨some 5, none, .mv (.t 13)⟩,
 .op ⟨some 6, none, .mv (.t 14)⟩,
 .op ⟨some 7, none, .mv (.t 15)⟩])
 (.seq (.reg [.op ⟨some 17, none, .mv (.t 5)⟩,
 .op ⟨some 18, none, .mv (.t 0)⟩,
 .op ⟨some 19, none, .call 297 [(.t 17), (.t 18)]⟩,
 .op ⟨some 16, none, .mv (.t 19)⟩,
 .op ⟨some 20, none, .ext 0 (.t 16)⟩,
 .op ⟨some 21, none, .ext 1 (.t 16)⟩,
 .op ⟨some 8, none, .mv (.t 20)⟩,
 .op ⟨some 9, none, .mv (.t 21)⟩])
 (.seq (.reg [.op ⟨some 22, none, .mv (.t 9)⟩,
 .op ⟨some 23, none, .mv (.t 22)⟩,
 .op ⟨some 24, some (23, true), .mv (.t 8)⟩,
 .op ⟨some 25, some (23, true), .bin .eql (.t 24) (.k (.str []))⟩,
 .op ⟨some 26, some (23, true), .mv (.t 25)⟩,
 .op ⟨some 27, some (26, false), .mv (.t 0)⟩,
 .op ⟨some 28, some (26, false), .call 286 [(.t 27), (.k (.str [47]))]⟩,
 .op ⟨some 29, some (23, true), .pick (.t 26) (.k (.bool true)) (.t 28)⟩,
 .op ⟨some 30, some (23, true), .mv (.t 29)⟩,
 .op ⟨some 31, some (30, false), .mv (.t 8)⟩,
 .op ⟨some 32, some (30, false), .idx .str false (.t 31) (.k (I 0))⟩,
 .op ⟨some 33, some (30, false), .bin .eql (.t 32) (.k (.int .u8 (47)))⟩,
 .op ⟨some 34, some (23, true), .pick (.t 30) (.k (.bool true)) (.t 33)⟩,
 .op ⟨some 35, none, .pick (.t 23) (.t 34) (.k (.bool false))⟩,
 .op ⟨some 4, none, .mv (.t 35)⟩])
 .ret))))⟩
theorem g285 : Good 285 c285 := ⟨_, Tryz.func285, by kernel_rfl⟩

def c286 : AFunc := ⟨[.t 4], (.seq (.reg [.op ⟨some 4, none, .mv (.k (.bool false))⟩])
 (.seq (.reg [.op ⟨some 5, none, .mv (.t 0)⟩,
 .op ⟨some 6, none, .mv (.t 1)⟩,
 .op ⟨some 7, none, .call 338 [(.t 5), (.t 6)]⟩,
 .op ⟨some 4, none, .mv (.t 7)⟩])
 .ret))⟩
theorem g286 : Good 286 c286 := ⟨_, Tryz.func286, by kernel_rfl⟩

def c287 : AFunc := ⟨[.t 4], (.seq (.reg [.op ⟨some 4, none, .mv (.k (.bool false))⟩])
 (.seq (.reg [.op ⟨some 5, none, .mv (.t 0)⟩,
 .op ⟨some 6, none, .mv (.t 1)⟩,
 .op ⟨some 7, none, .call 339 [(.t 5), (.t 6)]⟩,
 .op ⟨some 4, none, .mv (.t 7)⟩])
 .ret))⟩
theorem g287 : Good 287 c287 := ⟨_, Tryz.func287, by kernel_rfl⟩

def c288 : AFunc := ⟨[.t 2], (.seq (.reg [.op ⟨some 1, none, .box 5 (.t 0)⟩,
 .op ⟨some 2, none, .mv (.k (.str []))⟩])
 (.seq (.reg [.op ⟨some 3, none, .fa 0 (.t 1)⟩,
 .op ⟨some 4, none, .load false 1 (.t 3)⟩,
 .op ⟨some 5, none, .bin .add (.t 4) (.k (.str [32]))⟩,
 .op ⟨some 6, none, .fa 1 (.t 1)⟩,
 .op ⟨some 7, none, .load false 1 (.t 6)⟩,
 .op ⟨some 8, none, .bin .add (.t 5) (.t 7)⟩,
 .op ⟨some 9, none, .bin .add (.t 8) (.k (.str [32, 72, 84, 84, 80, 47, 49, 46]))⟩,
 .op ⟨some 10, none, .fa 2 (.t 1)⟩,
 .op ⟨some 11, none, .load false 1 (.t 10)⟩,
 .op ⟨some 12, none, .call 36 [(.t 11)]⟩,
 .chk ⟨some 7, none, .load false 1 (.t 6)⟩,
 .chk ⟨some 4, none, .load false 1 (.t 3)⟩,
 .op ⟨some 13, none, .bin .add (.t 9) (.t 12)⟩,
 .op ⟨some 14, none, .bin .add (.t 13) (.k (.str [13, 10]))⟩,
 .op ⟨some 2, none, .mv (.t 14)⟩])
 .ret))⟩
theorem g288 : Good 288 c288 := ⟨_, Tryz.func288, by kernel_rfl⟩

def c289 : AFunc := ⟨[.t 4], (.seq (.reg [.op ⟨some 4, none, .mv (.k .nils)⟩])
 (.seq (.reg [.op ⟨some 5, none, .mv (.k .nils)⟩])
 (.seq (.seq (.reg [.op ⟨some 8, none, .mv (.t 0)⟩,
 .op ⟨some 9, none, .len .sl (.t 8)⟩,
 .op ⟨some 10, none, .mv (.k (I 0))⟩])
 (.block 0 (.loop (.seq (.reg [.op ⟨some 11, none, .bin .lss (.t 10) (.t 9)⟩])
 (.seq (.ite (.t 11) .skip
 (.exit 0))
 (.seq (.block 1 (.seq (.reg [.op ⟨some 12, none, .ia (.sl 2) (.t 8) (.t 10)⟩,
 .op ⟨some 13, none, .load true 2 (.t 12)⟩,
 .op ⟨some 7, none, .alloc [(.str []), (.str [])]⟩,
 .op ⟨none, none, .store 2 (.t 7) (.t 13)⟩])
 (.seq (.reg [.op ⟨some 14, none, .mv (.t 1)⟩,
 .op ⟨some 15, none, .mkf 340 [] [(.t 7)]⟩,
 .op ⟨some 16, none, .call 64 [(.t 14), (.t 15)]⟩,
 .op ⟨some 17, none, .un .not (.t 16)⟩])
 (.ite (.t 17) (.reg [.op ⟨some 18, none, .mv (.t 5)⟩,
 .op ⟨some 19, none, .load true 2 (.t 7)⟩,
 .op ⟨some 20, none, .bslice 2 1 [(.str []), (.str [])] [(0, 2, (.t 19))]⟩,
 .op ⟨some 21, none, .app 2 32 (.t 18) (.t 20)⟩,
 .op ⟨some 5, none, .mv (.t 21)⟩])
 .skip))))
 (.reg [.op ⟨some 22, none, .bin .add (.t 10) (.k (I 1))⟩,
 .op ⟨some 10, none, .mv (.t 22)⟩])))))))
 (.seq (.reg [.op ⟨some 23, none, .mv (.t 5)⟩,
 .op ⟨some 4, none, .mv (.t 23)⟩])
 .ret))))⟩
theorem g289 : Good 289 c289 := ⟨_, Tryz.func289, by kernel_rfl⟩

def c290 : AFunc := ⟨[.t 4], (.seq (.reg [.op ⟨some 4, none, .mv (.k (I 0))⟩])
 (.seq (.seq (.reg [.op ⟨some 6, none, .mv (.t 0)⟩,
 .op ⟨some 7, none, .len .sl (.t 6)⟩,
 .op ⟨some 8, none, .mv (.k (I 0))⟩])
 (.block 0 (.loop (.seq (.reg [.op ⟨some 9, none, .bin .lss (.t 8) (.t 7)⟩])
 (.seq (.ite (.t 9) .skip
 (.exit 0))
 (.seq (.block 1 (.seq (.reg [.op ⟨some 10, none, .mv (.t 8)⟩,
 .op ⟨some 5, none, .mv (.t 10)⟩])
 (.seq (.reg [.op ⟨some 11, none, .mv (.t 1)⟩,
 .op ⟨some 12, none, .mv (.t 0)⟩,
 .op ⟨some 13, none, .mv (.t 5)⟩,
 .op ⟨some 14, none, .ia (.sl 2) (.t 12) (.t 13)⟩,
 .op ⟨some 15, none, .load true 2 (.t 14)⟩,
 .op ⟨some 16, none, .callv (.t 11) [(.t 15)]⟩])
 (.ite (.t 16) (.seq (.reg [.op ⟨some 17, none, .mv (.t 5)⟩,
 .op ⟨some 4, none, .mv (.t 17)⟩])
 .ret)
 .skip))))
 (.reg [.op ⟨some 18, none, .bin .add (.t 8) (.k (I 1))⟩,
 .op ⟨some 8, none, .mv (.t 18)⟩])))))))
 (.seq (.reg [.op ⟨some 4, none, .mv (.k (I (-1)))⟩])
 .ret)))⟩
theorem g290 : Good 290 c290 := ⟨_, Tryz.func290, by kernel_rfl⟩

def c291 : AFunc := ⟨[.t 3], (.seq (.reg [.op ⟨some 2, none, .box 2 (.t 0)⟩,
 .op ⟨some 3, none, .mv (.k (.bool false))⟩])
 (.seq (.reg [.op ⟨some 4, none, .fa 0 (.t 2)⟩,
 .op ⟨some 5, none, .load false 1 (.t 4)⟩,
 .op ⟨some 6, none, .load false 1 (.t 1)⟩,
 .op ⟨some 7, none, .bin .eql (.t 5) (.t 6)⟩,
 .op ⟨some 3, none, .mv (.t 7)⟩])
 .ret))⟩
theorem g291 : Good 291 c291 := ⟨_, Tryz.func291, by kernel_rfl⟩

def c292 : AFunc := ⟨[], (.seq (.reg [.op ⟨some 4, none, .mv (.t 0)⟩,
 .op ⟨some 5, none, .mv (.t 1)⟩,
 .op ⟨some 6, none, .callm "Push" (.t 4) [(.t 5)]⟩])
 (.reg [.op ⟨some 7, none, .mv (.t 0)⟩,
 .op ⟨some 8, none, .mv (.t 0)⟩,
 .op ⟨some 9, none, .callm "Len" (.t 8) []⟩,
 .op ⟨some 10, none, .bin .sub (.t 9) (.k (I 1))⟩,
 .op ⟨some 11, none, .call 341 [(.t 7), (.t 10)]⟩]))⟩
theorem g292 : Good 292 c292 := ⟨_, Tryz.func292, by kernel_rfl⟩

def c293 : AFunc := ⟨[.t 4], (.seq (.reg [.op ⟨some 4, none, .mv (.k (I 0))⟩])
 (.seq (.seq (.reg [.op ⟨some 6, none, .mv (.t 0)⟩,
 .op ⟨some 7, none, .len .sl (.t 6)⟩,
 .op ⟨some 8, none, .mv (.k (I 0))⟩])
 (.block 0 (.loop (.seq (.reg [.op ⟨some 9, none, .bin .lss (.t 8) (.t 7)⟩])
 (.seq (.ite (.t 9) .skip
 (.exit 0))
 (.seq (.block 1 (.seq (.reg [.op ⟨some 10, none, .mv (.t 8)⟩,
 .op ⟨some 5, none, .mv (.t 10)⟩])
 (.seq (.reg [.op ⟨some 11, none, .mv (.t 1)⟩,
 .op ⟨some 12, none, .mv (.t 0)⟩,
 .op ⟨some 13, none, .mv (.t 5)⟩,
 .op ⟨some 14, none, .ia (.sl 1) (.t 12) (.t 13)⟩,
 .op ⟨some 15, none, .load false 1 (.t 14)⟩,
 .op ⟨some 16, none, .callv (.t 11) [(.t 15)]⟩])
 (.ite (.t 16) (.seq (.reg [.op ⟨some 17, none, .mv (.t 5)⟩,
 .op ⟨some 4, none, .mv (.t 17)⟩])
 .ret)
 .skip))))
 (.reg [.op ⟨some 18, none, .bin .add (.t 8) (.k (I 1))⟩,
 .op ⟨some 8, none, .mv (.t 18)⟩])))))))
 (.seq (.reg [.op ⟨some 4, none, .mv (.k (I (-1)))⟩])
 .ret)))⟩
theorem g293 : Good 293 c293 := ⟨_, Tryz.func293, by kernel_rfl⟩

def c297 : AFunc := ⟨[.t 4, .t 5], (.seq (.reg [.op ⟨some 4, none, .mv (.k (.str []))⟩,
 .op ⟨some 5, none, .mv (.k (.bool false))⟩])
 (.seq (.reg [.op ⟨some 6, none, .mv (.t 0)⟩,
 .op ⟨some 7, none, .mv (.t 1)⟩,
 .op ⟨some 8, none, .call 342 [(.t 6), (.t 7)]⟩,
 .op ⟨some 9, none, .ext 0 (.t 8)⟩,
 .op ⟨some 10, none, .ext 1 (.t 8)⟩,
 .op ⟨some 4, none, .mv (.t 9)⟩,
 .op ⟨some 5, none, .mv (.t 10)⟩])
 .ret))⟩
theorem g297 : Good 297 c297 := ⟨_, Tryz.func297, by kernel_rfl⟩

def c298 : AFunc := ⟨[.t 2], (.seq (.reg [.op ⟨some 2, none, .mv (.k (.bool false))⟩])
 (.seq (.reg [.op ⟨some 3, none, .mv (.t 0)⟩,
 .op ⟨some 4, none, .call 137 [(.t 3), (.k (.fn 343 [] []))]⟩,
 .op ⟨some 2, none, .mv (.t 4)⟩])
 .ret))⟩
theorem g298 : Good 298 c298 := ⟨_, Tryz.func298, by kernel_rfl⟩

def c299 : AFunc := ⟨[.t 4], (.seq (.reg [.op ⟨some 4, none, .mv (.k .nils)⟩])
 (.seq (.reg [.op ⟨some 5, none, .mv (.k .nils)⟩])
 (.seq (.seq (.reg [.op ⟨some 8, none, .mv (.t 0)⟩,
 .op ⟨some 9, none, .mv (.t 1)⟩,
 .op ⟨some 10, none, .call 165 [(.t 8), (.t 9)]⟩,
 .op ⟨some 11, none, .len .sl (.t 10)⟩,
 .op ⟨some 12, none, .mv (.k (I 0))⟩])
 (.block 0 (.loop (.seq (.reg [.op ⟨some 13, none, .bin .lss (.t 12) (.t 11)⟩])
 (.seq (.ite (.t 13) .skip
 (.exit 0))
 (.seq (.block 1 (.seq (.reg [.op ⟨some 14, none, .ia (.sl 1) (.t 10) (.t 12)⟩,
 .op ⟨some 15, none, .load false 1 (.t 14)⟩,
 .op ⟨some 7, none, .mv (.t 15)⟩])
 (.reg [.op ⟨some 16, none, .mv (.t 5)⟩,
 .op ⟨some 17, none, .mv (.t 7)⟩,
 .op ⟨some 18, none, .call 344 [(.t 17)]⟩,
 .op ⟨some 19, none, .app 1 16 (.t 16) (.t 18)⟩,
 .op ⟨some 5, none, .mv (.t 19)⟩])))
 (.reg [.op ⟨some 20, none, .bin .add (.t 12) (.k (I 1))⟩,
 .op ⟨some 12, none, .mv (.t 20)⟩])))))))
 (.seq (.reg [.op ⟨some 21, none, .mv (.t 5)⟩,
 .op ⟨some 4, none, .mv (.t 21)⟩])
 .ret))))⟩
theorem g299 : Good 299 c299 := ⟨_, Tryz.func299, by kernel_rfl⟩

def c301 : AFunc := ⟨[.t 4], (.seq (.reg [.op ⟨some 4, none, .mv (.k (.bool false))⟩])
 (.seq (.reg [.op ⟨some 5, none, .mv (.t 1)⟩,
 .op ⟨some 6, none, .call 345 [(.t 5)]⟩,
 .op ⟨some 7, none, .mv (.t 6)⟩,
 .op ⟨some 8, some (7, false), .mv (.t 1)⟩,
 .op ⟨some 9, some (7, false), .call 99 [(.t 8)]⟩,
 .op ⟨some 10, some (7, false), .call 287 [(.t 9), (.k (.str [120, 45, 116, 111, 108, 108, 98, 97, 114, 45]))]⟩,
 .op ⟨some 11, none, .pick (.t 7) (.k (.bool true)) (.t 10)⟩,
 .op ⟨some 12, none, .mv (.t 11)⟩,
 .op ⟨some 13, some (12, false), .mv (.t 0)⟩,
 .op ⟨some 14, some (12, false), .mv (.t 1)⟩,
 .op ⟨some 15, some (12, false), .call 247 [(.t 13), (.k (.str [67, 111, 110, 110, 101, 99, 116, 105, 111, 110])), (.t 14)]⟩,
 .op ⟨some 16, none, .pick (.t 12) (.k (.bool true)) (.t 15)⟩,
 .op ⟨some 4, none, .mv (.t 16)⟩])
 .ret))⟩
theorem g301 : Good 301 c301 := ⟨_, Tryz.func301, by kernel_rfl⟩

def c302 : AFunc := ⟨[.t 4], (.seq (.reg [.op ⟨some 4, none, .mv (.k (.bool false))⟩])
 (.seq (.reg [.op ⟨some 5, none, .mv (.t 0)⟩,
 .op ⟨some 6, none, .mv (.t 1)⟩,
 .op ⟨some 7, none, .call 290 [(.t 5), (.t 6)]⟩,
 .op ⟨some 8, none, .bin .geq (.t 7) (.k (I 0))⟩,
 .op ⟨some 4, none, .mv (.t 8)⟩])
 .ret))⟩
theorem g302 : Good 302 c302 := ⟨_, Tryz.func302, by kernel_rfl⟩

def c303 : AFunc := ⟨[.t 2], (.seq (.reg [.op ⟨some 1, none, .box 2 (.t 0)⟩,
 .op ⟨some 2, none, .mv (.k (.bool false))⟩])
 (.seq (.reg [.op ⟨some 3, none, .fa 1 (.t 1)⟩,
 .op ⟨some 4, none, .load false 1 (.t 3)⟩,
 .op ⟨some 5, none, .len .sl (.t 4)⟩,
 .op ⟨some 6, none, .bin .lss (.t 5) (.k (I 1))⟩,
 .op ⟨some 7, none, .mv (.t 6)⟩,
 .op ⟨some 8, some (7, false), .fa 1 (.t 1)⟩,
 .op ⟨some 9, some (7, false), .load false 1 (.t 8)⟩,
 .op ⟨some 10, some (7, false), .len .sl (.t 9)⟩,
 .op ⟨some 11, some (7, false), .bin .gtr (.t 10) (.k (I 8))⟩,
 .op ⟨some 12, none, .pick (.t 7) (.k (.bool true)) (.t 11)⟩,
 .op ⟨some 2, none, .mv (.t 12)⟩])
 .ret))⟩
theorem g303 : Good 303 c303 := ⟨_, Tryz.func303, by kernel_rfl⟩

def c304 : AFunc := ⟨[.t 2], (.seq (.reg [.op ⟨some 1, none, .box 2 (.t 0)⟩,
 .op ⟨some 2, none, .mv (.k (.bool false))⟩])
 (.seq (.reg [.op ⟨some 3, none, .fa 0 (.t 1)⟩,
 .op ⟨some 4, none, .load false 1 (.t 3)⟩,
 .op ⟨some 5, none, .call 67 [(.t 4)]⟩,
 .op ⟨some 6, none, .mv (.t 5)⟩,
 .op ⟨some 7, some (6, true), .fa 1 (.t 1)⟩,
 .op ⟨some 8, some (6, true), .load false 1 (.t 7)⟩,
 .op ⟨some 9, some (6, true), .call 64 [(.t 8), (.k (.fn 346 [] []))]⟩,
 .op ⟨some 10, some (6, true), .un .not (.t 9)⟩,
 .op ⟨some 11, none, .pick (.t 6) (.t 10) (.k (.bool false))⟩,
 .op ⟨some 2, none, .mv (.t 11)⟩])
 .ret))⟩
theorem g304 : Good 304 c304 := ⟨_, Tryz.func304, by kernel_rfl⟩

def c305 : AFunc := ⟨[.t 2], (.seq (.reg [.op ⟨some 2, none, .mv (.k (.bool false))⟩])
 (.seq (.reg [.op ⟨some 3, none, .mv (.t 0)⟩,
 .op ⟨some 4, none, .call 87 [(.t 3)]⟩,
 .op ⟨some 5, none, .mv (.t 4)⟩,
 .op ⟨some 6, some (5, true), .mv (.t 0)⟩,
 .op ⟨some 7, some (5, true), .idx .str false (.t 6) (.k (I 0))⟩,
 .op ⟨some 8, some (5, true), .bin .eql (.t 7) (.k (.int .u8 (47)))⟩,
 .op ⟨some 9, none, .pick (.t 5) (.t 8) (.k (.bool false))⟩,
 .op ⟨some 10, none, .mv (.t 9)⟩,
 .op ⟨some 11, some (10, true), .mv (.t 0)⟩,
 .op ⟨some 12, some (10, true), .len .str (.t 11)⟩,
 .op ⟨some 13, some (10, true), .bin .leq (.t 12) (.k (I 100))⟩,
 .op ⟨some 14, none, .pick (.t 10) (.t 13) (.k (.bool false))⟩,
 .op ⟨some 2, none, .mv (.t 14)⟩])
 .ret))⟩
theorem g305 : Good 305 c305 := ⟨_, Tryz.func305, by kernel_rfl⟩

def c308 : AFunc := ⟨[.t 4], (.seq (.reg [.op ⟨some 4, none, .mv (.k (.bool false))⟩])
 (.seq (.reg [.op ⟨some 5, none, .mv (.t 0)⟩,
 .op ⟨some 6, none, .mv (.t 1)⟩,
 .op ⟨some 7, none, .call 348 [(.t 5), (.t 6)]⟩,
 .op ⟨some 8, none, .bin .geq (.t 7) (.k (I 0))⟩,
 .op ⟨some 4, none, .mv (.t 8)⟩])
 .ret))⟩
theorem g308 : Good 308 c308 := ⟨_, Tryz.func308, by kernel_rfl⟩

def c309 : AFunc := ⟨[.t 2], (.seq (.reg [.op ⟨some 1, none, .box 8 (.t 0)⟩,
 .op ⟨some 2, none, .mv (.k .nils)⟩])
 (.seq (.reg [.op ⟨some 3, none, .fa 4 (.t 1)⟩,
 .op ⟨some 4, none, .load false 1 (.t 3)⟩,
 .op ⟨some 5, none, .build [(.str []), (I 0), (I 0), (I 0)] [(0, 1, (.k (.str [116, 111, 116, 97, 108]))), (1, 1, (.t 4)), (2, 1, (.k (I 1))), (3, 1, (.k (I 1048576)))]⟩,
 .op ⟨some 6, none, .fa 5 (.t 1)⟩,
 .op ⟨some 7, none, .load false 1 (.t 6)⟩,
 .op ⟨some 8, none, .build [(.str []), (I 0), (I 0), (I 0)] [(0, 1, (.k (.str [116, 114, 105, 101, 115]))), (1, 1, (.t 7)), (2, 1, (.k (I 0))), (3, 1, (.k (I 3)))]⟩,
 .op ⟨some 9, none, .fa 6 (.t 1)⟩,
 .op ⟨some 10, none, .load false 1 (.t 9)⟩,
 .op ⟨some 11, none, .build [(.str []), (I 0), (I 0), (I 0)] [(0, 1, (.k (.str [102, 97, 105, 108, 115]))), (1, 1, (.t 10)), (2, 1, (.k (I 1))), (3, 1, (.k (I 100)))]⟩,
 .op ⟨some 12, none, .fa 7 (.t 1)⟩,
 .op ⟨some 13, none, .load false 1 (.t 12)⟩,
 .op ⟨some 14, none, .build [(.str []), (I 0), (I 0), (I 0)] [(0, 1, (.k (.str [99, 111, 111, 108]))), (1, 1, (.t 13)), (2, 1, (.k (I 0))), (3, 1, (.k (I 1048576)))]⟩,
 .op ⟨some 15, none, .bslice 4 4 [(.str []), (I 0), (I 0), (I 0)] [(0, 4, (.t 5)), (4, 4, (.t 8)), (8, 4, (.t 11)), (12, 4, (.t 14))]⟩,
 .op ⟨some 2, none, .mv (.t 15)⟩])
 .ret))⟩
theorem g309 : Good 309 c309 := ⟨_, Tryz.func309, by kernel_rfl⟩

def c310 : AFunc := ⟨[.t 2], (.seq (.reg [.op ⟨some 1, none, .box 4 (.t 0)⟩,
 .op ⟨some 2, none, .mv (.k (.bool false))⟩])
 (.seq (.reg [.op ⟨some 3, none, .fa 1 (.t 1)⟩,
 .op ⟨some 4, none, .load false 1 (.t 3)⟩,
 .op ⟨some 5, none, .fa 2 (.t 1)⟩,
 .op ⟨some 6, none, .load false 1 (.t 5)⟩,
 .op ⟨some 7, none, .bin .lss (.t 4) (.t 6)⟩,
 .op ⟨some 8, none, .mv (.t 7)⟩,
 .op ⟨some 9, some (8, false), .fa 1 (.t 1)⟩,
 .op ⟨some 10, some (8, false), .load false 1 (.t 9)⟩,
 .op ⟨some 11, some (8, false), .fa 3 (.t 1)⟩,
 .op ⟨some 12, some (8, false), .load false 1 (.t 11)⟩,
 .op ⟨some 13, some (8, false), .bin .gtr (.t 10) (.t 12)⟩,
 .op ⟨some 14, none, .pick (.t 8) (.k (.bool true)) (.t 13)⟩,
 .op ⟨some 2, none, .mv (.t 14)⟩])
 .ret))⟩
theorem g310 : Good 310 c310 := ⟨_, Tryz.func310, by kernel_rfl⟩

def c322 : AFunc := ⟨[], (.seq (.reg [.op ⟨some 6, none, .mv (.k (I 20))⟩])
 (.seq (.reg [.op ⟨some 10, none, .mv (.t 6)⟩,
 .op ⟨some 7, none, .mv (.k (I 0))⟩,
 .op ⟨some 8, none, .mv (.t 10)⟩])
 (.seq (.block 0 (.loop (.seq (.seq (.reg [.op ⟨some 11, none, .mv (.t 8)⟩,
 .op ⟨some 12, none, .mv (.t 1)⟩,
 .op ⟨some 13, none, .bin .leq (.t 11) (.t 12)⟩])
 (.ite (.t 13) .skip
 (.exit 0)))
 (.block 1 (.seq (.reg [.op ⟨some 14, none, .mv (.t 0)⟩,
 .op ⟨some 15, none, .mv (.t 7)⟩,
 .op ⟨some 16, none, .mv (.t 8)⟩,
 .op ⟨some 17, none, .mv (.t 2)⟩,
 .op ⟨some 18, none, .call 354 [(.t 14), (.t 15), (.t 16), (.t 17)]⟩])
 (.seq (.reg [.op ⟨some 19, none, .mv (.t 8)⟩,
 .op ⟨some 7, none, .mv (.t 19)⟩])
 (.reg [.op ⟨some 20, none, .mv (.t 8)⟩,
 .op ⟨some 21, none, .mv (.t 6)⟩,
 .op ⟨some 22, none, .bin .add (.t 20) (.t 21)⟩,
 .op ⟨some 8, none, .mv (.t 22)⟩])))))))
 (.seq (.reg [.op ⟨some 23, none, .mv (.t 0)⟩,
 .op ⟨some 24, none, .mv (.t 7)⟩,
 .op ⟨some 25, none, .mv (.t 1)⟩,
 .op ⟨some 26, none, .mv (.t 2)⟩,
 .op ⟨some 27, none, .call 354 [(.t 23), (.t 24), (.t 25), (.t 26)]⟩])
 (.block 2 (.loop (.seq (.seq (.reg [.op ⟨some 28, none, .mv (.t 6)⟩,
 .op ⟨some 29, none, .mv (.t 1)⟩,
 .op ⟨some 30, none, .bin .lss (.t 28) (.t 29)⟩])
 (.ite (.t 30) .skip
 (.exit 2)))
 (.block 3 (.seq (.reg [.op ⟨some 31, none, .mv (.t 6)⟩,
 .op ⟨some 32, none, .bin .mul (.k (I 2)) (.t 31)⟩,
 .op ⟨some 7, none, .mv (.k (I 0))⟩,
 .op ⟨some 8, none, .mv (.t 32)⟩])
 (.seq (.block 4 (.loop (.seq (.seq (.reg [.op ⟨some 33, none, .mv (.t 8)⟩,
 .op ⟨some 34, none, .mv (.t 1)⟩,
 .op ⟨some 35, none, .bin .leq (.t 33) (.t 34)⟩])
 (.ite (.t 35) .skip
 (.exit 4)))
 (.block 5 (.seq (.reg [.op ⟨some 36, none, .mv (.t 0)⟩,
 .op ⟨some 37, none, .mv (.t 7)⟩,
 .op ⟨some 38, none, .mv (.t 7)⟩,
 .op ⟨some 39, none, .mv (.t 6)⟩,
 .op ⟨some 40, none, .bin .add (.t 38) (.t 39)⟩,
 .op ⟨some 41, none, .mv (.t 8)⟩,
 .op ⟨some 42, none, .mv (.t 2)⟩,
 .op ⟨some 43, none, .call 355 [(.t 36), (.t 37), (.t 40), (.t 41), (.t 42)]⟩])
 (.seq (.reg [.op ⟨some 44, none, .mv (.t 8)⟩,
 .op ⟨some 7, none, .mv (.t 44)⟩])
 (.reg [.op ⟨some 45, none, .mv (.t 8)⟩,
 .op ⟨some 46, none, .mv (.t 6)⟩,
 .op ⟨some 47, none, .bin .mul (.k (I 2)) (.t 46)⟩,
 .op ⟨some 48, none, .bin .add (.t 45) (.t 47)⟩,
 .op ⟨some 8, none, .mv (.t 48)⟩])))))))
 (.seq (.seq (.reg [.op ⟨some 49, none, .mv (.t 7)⟩,
 .op ⟨some 50, none, .mv (.t 6)⟩,
 .op ⟨some 51, none, .bin .add (.t 49) (.t 50)⟩,
 .op ⟨some 9, none, .mv (.t 51)⟩])
 (.seq (.reg [.op ⟨some 52, none, .mv (.t 9)⟩,
 .op ⟨some 53, none, .mv (.t 1)⟩,
 .op ⟨some 54, none, .bin .lss (.t 52) (.t 53)⟩])
 (.ite (.t 54) (.reg [.op ⟨some 55, none, .mv (.t 0)⟩,
 .op ⟨some 56, none, .mv (.t 7)⟩,
 .op ⟨some 57, none, .mv (.t 9)⟩,
 .op ⟨some 58, none, .mv (.t 1)⟩,
 .op ⟨some 59, none, .mv (.t 2)⟩,
 .op ⟨some 60, none, .call 355 [(.t 55), (.t 56), (.t 57), (.t 58), (.t 59)]⟩])
 .skip)))
 (.reg [.op ⟨some 61, none, .mv (.t 6)⟩,
 .op ⟨some 62, none, .bin .mul (.t 61) (.k (I 2))⟩,
 .op ⟨some 6, none, .mv (.t 62)⟩]))))))))))))⟩
theorem g322 : Good 322 c322 := ⟨_, Tryz.func322, by kernel_rfl⟩

def c324 : AFunc := ⟨[.t 2], (.seq (.reg [.op ⟨some 2, none, .mv (.k (.str []))⟩])
 (.seq (.reg [.op ⟨some 3, none, .mv (.t 0)⟩,
 .op ⟨some 4, none, .call 104 [(.t 3), (.k (.str [32, 9]))]⟩,
 .op ⟨some 2, none, .mv (.t 4)⟩])
 .ret))⟩
theorem g324 : Good 324 c324 := ⟨_, Tryz.func324, by kernel_rfl⟩

def c325 : AFunc := ⟨[.t 2], (.seq (.reg [.op ⟨some 1, none, .box 2 (.t 0)⟩,
 .op ⟨some 2, none, .mv (.k (.bool false))⟩])
 (.seq (.reg [.op ⟨some 3, none, .fa 0 (.t 1)⟩,
 .op ⟨some 4, none, .load false 1 (.t 3)⟩,
 .op ⟨some 5, none, .len .str (.t 4)⟩,
 .op ⟨some 6, none, .bin .leq (.t 5) (.k (I 100))⟩,
 .op ⟨some 7, none, .mv (.t 6)⟩,
 .op ⟨some 8, some (7, true), .fa 0 (.t 1)⟩,
 .op ⟨some 9, some (7, true), .load false 1 (.t 8)⟩,
 .op ⟨some 10, some (7, true), .call 86 [(.t 9)]⟩,
 .op ⟨some 11, none, .pick (.t 7) (.t 10) (.k (.bool false))⟩,
 .op ⟨some 12, none, .mv (.t 11)⟩,
 .op ⟨some 13, some (12, true), .fa 1 (.t 1)⟩,
 .op ⟨some 14, some (12, true), .load false 1 (.t 13)⟩,
 .op ⟨some 15, some (12, true), .len .str (.t 14)⟩,
 .op ⟨some 16, some (12, true), .bin .leq (.t 15) (.k (I 1000))⟩,
 .op ⟨some 17, none, .pick (.t 12) (.t 16) (.k (.bool false))⟩,
 .op ⟨some 18, none, .mv (.t 17)⟩,
 .op ⟨some 19, some (18, true), .fa 1 (.t 1)⟩,
 .op ⟨some 20, some (18, true), .load false 1 (.t 19)⟩,
 .op ⟨some 21, some (18, true), .call 298 [(.t 20)]⟩,
 .op ⟨some 22, none, .pick (.t 18) (.t 21) (.k (.bool false))⟩,
 .op ⟨some 23, none, .mv (.t 22)⟩,
 .op ⟨some 24, some (23, true), .fa 1 (.t 1)⟩,
 .op ⟨some 25, some (23, true), .load false 1 (.t 24)⟩,
 .op ⟨some 27, some (23, true), .fa 1 (.t 1)⟩,
 .op ⟨some 28, some (23, true), .load false 1 (.t 27)⟩,
 .op ⟨some 26, some (23, true), .call 324 [(.t 25)]⟩,
 .chk ⟨some 28, some (23, true), .load false 1 (.t 27)⟩,
 .op ⟨some 29, some (23, true), .bin .eql (.t 26) (.t 28)⟩,
 .op ⟨some 30, none, .pick (.t 23) (.t 29) (.k (.bool false))⟩,
 .op ⟨some 2, none, .mv (.t 30)⟩])
 .ret))⟩
theorem g325 : Good 325 c325 := ⟨_, Tryz.func325, by kernel_rfl⟩

def c326 : AFunc := ⟨[.t 2], (.seq (.reg [.op ⟨some 2, none, .mv (.k (.bool false))⟩])
 (.seq (.reg [.op ⟨some 3, none, .mv (.t 0)⟩,
 .op ⟨some 4, none, .bin .geq (.t 3) (.k (.int .u8 (48)))⟩,
 .op ⟨some 5, none, .mv (.t 4)⟩,
 .op ⟨some 6, some (5, true), .mv (.t 0)⟩,
 .op ⟨some 7, some (5, true), .bin .leq (.t 6) (.k (.int .u8 (57)))⟩,
 .op ⟨some 8, none, .pick (.t 5) (.t 7) (.k (.bool false))⟩,
 .op ⟨some 2, none, .mv (.t 8)⟩])
 .ret))⟩
theorem g326 : Good 326 c326 := ⟨_, Tryz.func326, by kernel_rfl⟩

def c338 : AFunc := ⟨[.t 4], (.seq (.reg [.op ⟨some 4, none, .mv (.k (.bool false))⟩])
 (.seq (.reg [.op ⟨some 5, none, .mv (.t 0)⟩,
 .op ⟨some 6, none, .len .str (.t 5)⟩,
 .op ⟨some 7, none, .mv (.t 1)⟩,
 .op ⟨some 8, none, .len .str (.t 7)⟩,
 .op ⟨some 9, none, .bin .geq (.t 6) (.t 8)⟩,
 .op ⟨some 10, none, .mv (.t 9)⟩,
 .op ⟨some 11, some (10, true), .mv (.t 0)⟩,
 .op ⟨some 12, some (10, true), .mv (.t 0)⟩,
 .op ⟨some 13, some (10, true), .len .str (.t 12)⟩,
 .op ⟨some 14, some (10, true), .mv (.t 1)⟩,
 .op ⟨some 15, some (10, true), .len .str (.t 14)⟩,
 .op ⟨some 16, some (10, true), .bin .sub (.t 13) (.t 15)⟩,
 .op ⟨some 17, some (10, true), .slc .str (.t 11) (some (.t 16)) none none⟩,
 .op ⟨some 18, some (10, true), .mv (.t 1)⟩,
 .op ⟨some 19, some (10, true), .bin .eql (.t 17) (.t 18)⟩,
 .op ⟨some 20, none, .pick (.t 10) (.t 19) (.k (.bool false))⟩,
 .op ⟨some 4, none, .mv (.t 20)⟩])
 .ret))⟩
theorem g338 : Good 338 c338 := ⟨_, Tryz.func338, by kernel_rfl⟩

def c339 : AFunc := ⟨[.t 4], (.seq (.reg [.op ⟨some 4, none, .mv (.k (.bool false))⟩])
 (.seq (.reg [.op ⟨some 5, none, .mv (.t 0)⟩,
 .op ⟨some 6, none, .len .str (.t 5)⟩,
 .op ⟨some 7, none, .mv (.t 1)⟩,
 .op ⟨some 8, none, .len .str (.t 7)⟩,
 .op ⟨some 9, none, .bin .geq (.t 6) (.t 8)⟩,
 .op ⟨some 10, none, .mv (.t 9)⟩,
 .op ⟨some 11, some (10, true), .mv (.t 0)⟩,
 .op ⟨some 12, some (10, true), .mv (.t 1)⟩,
 .op ⟨some 13, some (10, true), .len .str (.t 12)⟩,
 .op ⟨some 14, some (10, true), .slc .str (.t 11) none (some (.t 13)) none⟩,
 .op ⟨some 15, some (10, true), .mv (.t 1)⟩,
 .op ⟨some 16, some (10, true), .bin .eql (.t 14) (.t 15)⟩,
 .op ⟨some 17, none, .pick (.t 10) (.t 16) (.k (.bool false))⟩,
 .op ⟨some 4, none, .mv (.t 17)⟩])
 .ret))⟩
theorem g339 : Good 339 c339 := ⟨_, Tryz.func339, by kernel_rfl⟩

def c341 : AFunc := ⟨[], (.block 0 (.loop (.block 1 (.seq (.reg [.op ⟨some 5, none, .mv (.t 1)⟩,
 .op ⟨some 6, none, .bin .sub (.t 5) (.k (I 1))⟩,
 .op ⟨some 7, none, .bin .quo (.t 6) (.k (I 2))⟩,
 .op ⟨some 4, none, .mv (.t 7)⟩])
 (.seq (.seq (.reg [.op ⟨some 8, none, .mv (.t 4)⟩,
 .op ⟨some 9, none, .mv (.t 1)⟩,
 .op ⟨some 10, none, .bin .eql (.t 8) (.t 9)⟩,
 .op ⟨some 11, none, .mv (.t 10)⟩,
 .op ⟨some 12, some (11, false), .mv (.t 0)⟩,
 .op ⟨some 13, some (11, false), .mv (.t 1)⟩,
 .op ⟨some 14, some (11, false), .mv (.t 4)⟩,
 .op ⟨some 15, some (11, false), .callm "Less" (.t 12) [(.t 13), (.t 14)]⟩,
 .op ⟨some 16, some (11, false), .un .not (.t 15)⟩,
 .op ⟨some 17, none, .pick (.t 11) (.k (.bool true)) (.t 16)⟩])
 (.ite (.t 17) (.exit 0)
 .skip))
 (.seq (.reg [.op ⟨some 18, none, .mv (.t 0)⟩,
 .op ⟨some 19, none, .mv (.t 4)⟩,
 .op ⟨some 20, none, .mv (.t 1)⟩,
 .op ⟨some 21, none, .callm "Swap" (.t 18) [(.t 19), (.t 20)]⟩])
 (.reg [.op ⟨some 22, none, .mv (.t 4)⟩,
 .op ⟨some 1, none, .mv (.t 22)⟩])))))))⟩
theorem g341 : Good 341 c341 := ⟨_, Tryz.func341, by kernel_rfl⟩

def c342 : AFunc := ⟨[.t 4, .t 5], (.seq (.reg [.op ⟨some 4, none, .mv (.k (.str []))⟩,
 .op ⟨some 5, none, .mv (.k (.bool false))⟩])
 (.seq (.seq (.reg [.op ⟨some 6, none, .mv (.t 0)⟩,
 .op ⟨some 7, none, .mv (.t 1)⟩,
 .op ⟨some 8, none, .call 339 [(.t 6), (.t 7)]⟩,
 .op ⟨some 9, none, .un .not (.t 8)⟩])
 (.ite (.t 9) (.seq (.reg [.op ⟨some 10, none, .mv (.t 0)⟩,
 .op ⟨some 4, none, .mv (.t 10)⟩,
 .op ⟨some 5, none, .mv (.k (.bool false))⟩])
 .ret)
 .skip))
 (.seq (.reg [.op ⟨some 11, none, .mv (.t 0)⟩,
 .op ⟨some 12, none, .mv (.t 1)⟩,
 .op ⟨some 13, none, .len .str (.t 12)⟩,
 .op ⟨some 14, none, .slc .str (.t 11) (some (.t 13)) none none⟩,
 .op ⟨some 4, none, .mv (.t 14)⟩,
 .op ⟨some 5, none, .mv (.k (.bool true))⟩])
 .ret)))⟩
theorem g342 : Good 342 c342 := ⟨_, Tryz.func342, by kernel_rfl⟩

def c343 : AFunc := ⟨[.t 2], (.seq (.reg [.op ⟨some 2, none, .mv (.k (.bool false))⟩])
 (.seq (.reg [.op ⟨some 3, none, .mv (.t 0)⟩,
 .op ⟨some 4, none, .bin .geq (.t 3) (.k (.int .u8 (32)))⟩,
 .op ⟨some 5, none, .mv (.t 4)⟩,
 .op ⟨some 6, some (5, true), .mv (.t 0)⟩,
 .op ⟨some 7, some (5, true), .bin .neq (.t 6) (.k (.int .u8 (127)))⟩,
 .op ⟨some 8, none, .pick (.t 5) (.t 7) (.k (.bool false))⟩,
 .op ⟨some 9, none, .mv (.t 8)⟩,
 .op ⟨some 10, some (9, false), .mv (.t 0)⟩,
 .op ⟨some 11, some (9, false), .bin .eql (.t 10) (.k (.int .u8 (9)))⟩,
 .op ⟨some 12, none, .pick (.t 9) (.k (.bool true)) (.t 11)⟩,
 .op ⟨some 2, none, .mv (.t 12)⟩])
 .ret))⟩
theorem g343 : Good 343 c343 := ⟨_, Tryz.func343, by kernel_rfl⟩

def c344 : AFunc := ⟨[.t 2], (.seq (.reg [.op ⟨some 2, none, .mv (.k .nils)⟩])
 (.seq (.reg [.op ⟨some 3, none, .mv (.k .nils)⟩])
 (.seq (.seq (.reg [.op ⟨some 6, none, .mv (.t 0)⟩,
 .op ⟨some 7, none, .call 34 [(.t 6), (.k (.str [44]))]⟩,
 .op ⟨some 8, none, .len .sl (.t 7)⟩,
 .op ⟨some 9, none, .mv (.k (I 0))⟩])
 (.block 0 (.loop (.seq (.reg [.op ⟨some 10, none, .bin .lss (.t 9) (.t 8)⟩])
 (.seq (.ite (.t 10) .skip
 (.exit 0))
 (.seq (.block 1 (.seq (.reg [.op ⟨some 11, none, .ia (.sl 1) (.t 7) (.t 9)⟩,
 .op ⟨some 12, none, .load false 1 (.t 11)⟩,
 .op ⟨some 5, none, .mv (.t 12)⟩])
 (.seq (.reg [.op ⟨some 13, none, .mv (.t 5)⟩,
 .op ⟨some 14, none, .call 324 [(.t 13)]⟩,
 .op ⟨some 5, none, .mv (.t 14)⟩])
 (.seq (.reg [.op ⟨some 15, none, .mv (.t 5)⟩,
 .op ⟨some 16, none, .bin .neq (.t 15) (.k (.str []))⟩])
 (.ite (.t 16) (.reg [.op ⟨some 17, none, .mv (.t 3)⟩,
 .op ⟨some 18, none, .mv (.t 5)⟩,
 .op ⟨some 19, none, .bslice 1 1 [(.str [])] [(0, 1, (.t 18))]⟩,
 .op ⟨some 20, none, .app 1 16 (.t 17) (.t 19)⟩,
 .op ⟨some 3, none, .mv (.t 20)⟩])
 .skip)))))
 (.reg [.op ⟨some 21, none, .bin .add (.t 9) (.k (I 1))⟩,
 .op ⟨some 9, none, .mv (.t 21)⟩])))))))
 (.seq (.reg [.op ⟨some 22, none, .mv (.t 3)⟩,
 .op ⟨some 2, none, .mv (.t 22)⟩])
 .ret))))⟩
theorem g344 : Good 344 c344 := ⟨_, Tryz.func344, by kernel_rfl⟩

def c345 : AFunc := ⟨[.t 2], (.seq (.reg [.op ⟨some 2, none, .mv (.k (.bool false))⟩])
 (.seq (.seq (.reg [.op ⟨some 3, none, .mv (.t 0)⟩,
 .op ⟨some 4, none, .call 99 [(.t 3)]⟩])
 (.block 0 (.seq (.seq (.reg [.op ⟨some 6, none, .bin .eql (.t 4) (.k (.str [104, 111, 115, 116]))⟩,
 .op ⟨some 5, none, .mv (.t 6)⟩])
 (.ite (.t 5) .skip
 (.seq (.reg [.op ⟨some 7, none, .bin .eql (.t 4) (.k (.str [99, 111, 110, 116, 101, 110, 116, 45, 108, 101, 110, 103, 116, 104]))⟩,
 .op ⟨some 5, none, .mv (.t 7)⟩])
 (.ite (.t 5) .skip
 (.seq (.reg [.op ⟨some 8, none, .bin .eql (.t 4) (.k (.str [116, 114, 97, 110, 115, 102, 101, 114, 45, 101, 110, 99, 111, 100, 105, 110, 103]))⟩,
 .op ⟨some 5, none, .mv (.t 8)⟩])
 (.ite (.t 5) .skip
 (.seq (.reg [.op ⟨some 9, none, .bin .eql (.t 4) (.k (.str [99, 111, 110, 110, 101, 99, 116, 105, 111, 110]))⟩,
 .op ⟨some 5, none, .mv (.t 9)⟩])
 (.ite (.t 5) .skip
 (.seq (.reg [.op ⟨some 10, none, .bin .eql (.t 4) (.k (.str [107, 101, 101, 112, 45, 97, 108, 105, 118, 101]))⟩,
 .op ⟨some 5, none, .mv (.t 10)⟩])
 (.ite (.t 5) .skip
 (.seq (.reg [.op ⟨some 11, none, .bin .eql (.t 4) (.k (.str [112, 114, 111, 120, 121, 45, 99, 111, 110, 110, 101, 99, 116, 105, 111, 110]))⟩,
 .op ⟨some 5, none, .mv (.t 11)⟩])
 (.ite (.t 5) .skip
 (.seq (.reg [.op ⟨some 12, none, .bin .eql (.t 4) (.k (.str [116, 101]))⟩,
 .op ⟨some 5, none, .mv (.t 12)⟩])
 (.ite (.t 5) .skip
 (.seq (.reg [.op ⟨some 13, none, .bin .eql (.t 4) (.k (.str [116, 114, 97, 105, 108, 101, 114]))⟩,
 .op ⟨some 5, none, .mv (.t 13)⟩])
 (.ite (.t 5) .skip
 (.seq (.reg [.op ⟨some 14, none, .bin .eql (.t 4) (.k (.str [117, 112, 103, 114, 97, 100, 101]))⟩,
 .op ⟨some 5, none, .mv (.t 14)⟩])
 (.ite (.t 5) .skip
 (.seq (.reg [.op ⟨some 15, none, .bin .eql (.t 4) (.k (.str [101, 120, 112, 101, 99, 116]))⟩,
 .op ⟨some 5, none, .mv (.t 15)⟩])
 (.ite (.t 5) .skip
 (.reg [.op ⟨some 16, none, .bin .eql (.t 4) (.k (.str [118, 105, 97]))⟩,
 .op ⟨some 5, none, .mv (.t 16)⟩])))))))))))))))))))))
 (.ite (.t 5) (.seq (.reg [.op ⟨some 2, none, .mv (.k (.bool true))⟩])
 .ret)
 .skip))))
 (.seq (.reg [.op ⟨some 2, none, .mv (.k (.bool false))⟩])
 .ret)))⟩
theorem g345 : Good 345 c345 := ⟨_, Tryz.func345, by kernel_rfl⟩

def c346 : AFunc := ⟨[.t 2], (.seq (.reg [.op ⟨some 2, none, .mv (.k (.bool false))⟩])
 (.seq (.reg [.op ⟨some 3, none, .mv (.t 0)⟩,
 .op ⟨some 4, none, .call 87 [(.t 3)]⟩,
 .op ⟨some 5, none, .un .not (.t 4)⟩,
 .op ⟨some 6, none, .mv (.t 5)⟩,
 .op ⟨some 7, some (6, false), .mv (.t 0)⟩,
 .op ⟨some 8, some (6, false), .len .str (.t 7)⟩,
 .op ⟨some 9, some (6, false), .bin .gtr (.t 8) (.k (I 40))⟩,
 .op ⟨some 10, none, .pick (.t 6) (.k (.bool true)) (.t 9)⟩,
 .op ⟨some 2, none, .mv (.t 10)⟩])
 .ret))⟩
theorem g346 : Good 346 c346 := ⟨_, Tryz.func346, by kernel_rfl⟩

def c348 : AFunc := ⟨[.t 4], (.seq (.reg [.op ⟨some 4, none, .mv (.k (I 0))⟩])
 (.seq (.seq (.reg [.op ⟨some 6, none, .mv (.t 0)⟩,
 .op ⟨some 7, none, .len .sl (.t 6)⟩,
 .op ⟨some 8, none, .mv (.k (I 0))⟩])
 (.block 0 (.loop (.seq (.reg [.op ⟨some 9, none, .bin .lss (.t 8) (.t 7)⟩])
 (.seq (.ite (.t 9) .skip
 (.exit 0))
 (.seq (.block 1 (.seq (.reg [.op ⟨some 10, none, .mv (.t 8)⟩,
 .op ⟨some 5, none, .mv (.t 10)⟩])
 (.seq (.reg [.op ⟨some 11, none, .mv (.t 1)⟩,
 .op ⟨some 12, none, .mv (.t 0)⟩,
 .op ⟨some 13, none, .mv (.t 5)⟩,
 .op ⟨some 14, none, .ia (.sl 4) (.t 12) (.t 13)⟩,
 .op ⟨some 15, none, .load true 4 (.t 14)⟩,
 .op ⟨some 16, none, .callv (.t 11) [(.t 15)]⟩])
 (.ite (.t 16) (.seq (.reg [.op ⟨some 17, none, .mv (.t 5)⟩,
 .op ⟨some 4, none, .mv (.t 17)⟩])
 .ret)
 .skip))))
 (.reg [.op ⟨some 18, none, .bin .add (.t 8) (.k (I 1))⟩,
 .op ⟨some 8, none, .mv (.t 18)⟩])))))))
 (.seq (.reg [.op ⟨some 4, none, .mv (.k (I (-1)))⟩])
 .ret)))⟩
theorem g348 : Good 348 c348 := ⟨_, Tryz.func348, by kernel_rfl⟩

def c354 : AFunc := ⟨[], (.seq (.reg [.op ⟨some 10, none, .mv (.t 1)⟩,
 .op ⟨some 11, none, .bin .add (.t 10) (.k (I 1))⟩,
 .op ⟨some 8, none, .mv (.t 11)⟩])
 (.block 0 (.loop (.seq (.seq (.reg [.op ⟨some 12, none, .mv (.t 8)⟩,
 .op ⟨some 13, none, .mv (.t 2)⟩,
 .op ⟨some 14, none, .bin .lss (.t 12) (.t 13)⟩])
 (.ite (.t 14) .skip
 (.exit 0)))
 (.seq (.block 1 (.seq (.reg [.op ⟨some 17, none, .mv (.t 8)⟩,
 .op ⟨some 9, none, .mv (.t 17)⟩])
 (.block 2 (.loop (.seq (.seq (.reg [.op ⟨some 18, none, .mv (.t 9)⟩,
 .op ⟨some 19, none, .mv (.t 1)⟩,
 .op ⟨some 20, none, .bin .gtr (.t 18) (.t 19)⟩,
 .op ⟨some 21, none, .mv (.t 20)⟩,
 .op ⟨some 22, some (21, true), .mv (.t 3)⟩,
 .op ⟨some 23, some (21, true), .mv (.t 0)⟩,
 .op ⟨some 24, some (21, true), .mv (.t 9)⟩,
 .op ⟨some 25, some (21, true), .ia (.sl 2) (.t 23) (.t 24)⟩,
 .op ⟨some 26, some (21, true), .load true 2 (.t 25)⟩,
 .op ⟨some 27, some (21, true), .mv (.t 0)⟩,
 .op ⟨some 28, some (21, true), .mv (.t 9)⟩,
 .op ⟨some 29, some (21, true), .bin .sub (.t 28) (.k (I 1))⟩,
 .op ⟨some 30, some (21, true), .ia (.sl 2) (.t 27) (.t 29)⟩,
 .op ⟨some 31, some (21, true), .load true 2 (.t 30)⟩,
 .op ⟨some 32, some (21, true), .callv (.t 22) [(.t 26), (.t 31)]⟩,
 .op ⟨some 33, some (21, true), .bin .lss (.t 32) (.k (I 0))⟩,
 .op ⟨some 34, none, .pick (.t 21) (.t 33) (.k (.bool false))⟩])
 (.ite (.t 34) .skip
 (.exit 2)))
 (.seq (.block 3 (.reg [.op ⟨some 37, none, .mv (.t 0)⟩,
 .op ⟨some 38, none, .mv (.t 9)⟩,
 .op ⟨some 39, none, .mv (.t 0)⟩,
 .op ⟨some 40, none, .mv (.t 9)⟩,
 .op ⟨some 41, none, .bin .sub (.t 40) (.k (I 1))⟩,
 .op ⟨some 42, none, .mv (.t 0)⟩,
 .op ⟨some 43, none, .mv (.t 9)⟩,
 .op ⟨some 44, none, .bin .sub (.t 43) (.k (I 1))⟩,
 .op ⟨some 45, none, .ia (.sl 2) (.t 42) (.t 44)⟩,
 .op ⟨some 46, none, .load true 2 (.t 45)⟩,
 .op ⟨some 47, none, .mv (.t 0)⟩,
 .op ⟨some 48, none, .mv (.t 9)⟩,
 .op ⟨some 49, none, .ia (.sl 2) (.t 47) (.t 48)⟩,
 .op ⟨some 50, none, .load true 2 (.t 49)⟩,
 .op ⟨some 51, none, .ia (.sl 2) (.t 37) (.t 38)⟩,
 .op ⟨none, none, .store 2 (.t 51) (.t 46)⟩,
 .op ⟨some 52, none, .ia (.sl 2) (.t 39) (.t 41)⟩,
 .op ⟨none, none, .store 2 (.t 52) (.t 50)⟩]))
 (.reg [.op ⟨some 35, none, .mv (.t 9)⟩,
 .op ⟨some 36, none, .bin .sub (.t 35) (.k (I 1))⟩,
 .op ⟨some 9, none, .mv (.t 36)⟩])))))))
 (.reg [.op ⟨some 15, none, .mv (.t 8)⟩,
 .op ⟨some 16, none, .bin .add (.t 15) (.k (I 1))⟩,
 .op ⟨some 8, none, .mv (.t 16)⟩]))))))⟩
theorem g354 : Good 354 c354 := ⟨_, Tryz.func354, by kernel_rfl⟩

def c407 : AFunc := ⟨[.t 2], (.seq (.reg [.op ⟨some 2, none, .mv (.k (I 0))⟩])
 (.seq (.reg [.op ⟨some 3, none, .mv (.t 0)⟩,
 .op ⟨some 4, none, .len .sl (.t 3)⟩,
 .op ⟨some 2, none, .mv (.t 4)⟩])
 .ret))⟩
theorem g407 : Good 407 c407 := ⟨_, Tryz.func407, by kernel_rfl⟩

def c414 : AFunc := ⟨[], (.reg [.op ⟨some 4, none, .mv (.t 0)⟩,
 .op ⟨some 5, none, .mv (.t 0)⟩,
 .op ⟨some 6, none, .nilchk (.t 5)⟩,
 .op ⟨some 7, none, .load false 1 (.t 6)⟩,
 .op ⟨some 8, none, .mv (.t 1)⟩,
 .op ⟨some 9, none, .tass 310 (.t 8)⟩,
 .op ⟨some 10, none, .bslice 2 1 [(I 0), (I 0)] [(0, 2, (.t 9))]⟩,
 .chk ⟨some 7, none, .load false 1 (.t 6)⟩,
 .op ⟨some 11, none, .app 2 16 (.t 7) (.t 10)⟩,
 .op ⟨some 12, none, .nilchk (.t 4)⟩,
 .op ⟨none, none, .store 1 (.t 12) (.t 11)⟩])⟩
theorem g414 : Good 414 c414 := ⟨_, Tryz.func414, by kernel_rfl⟩

end Go.Proofs.Tryz
