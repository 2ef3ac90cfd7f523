/- The code that the statement reaches, as the evaluator takes it, part 3. -/
import Derived.Test.YtdbihpcdlmaejaaGreatDoorPre
set_option maxRecDepth 1000000
set_option maxHeartbeats 4000000
namespace Go.Proofs.Tryz
open Go Go.Ai Go.Proofs

def c103 : AFunc := ⟨[.t 4], (.seq (.reg [.op ⟨some 4, none, .mv (.k (I 0))⟩])
 (.seq (.reg [.op ⟨some 5, none, .mv (.t 0)⟩,
 .op ⟨some 6, none, .mv (.t 1)⟩,
 .op ⟨some 7, none, .call 154 [(.t 5), (.t 6)]⟩,
 .op ⟨some 4, none, .mv (.t 7)⟩])
 .ret))⟩
theorem g103 : Good 103 c103 := ⟨_, Tryz.func103, by kernel_rfl⟩

def c104 : AFunc := ⟨[.t 4], (.seq (.reg [.op ⟨some 4, none, .mv (.k (.str []))⟩])
 (.seq (.seq (.reg [.op ⟨some 7, none, .mv (.t 0)⟩,
 .op ⟨some 8, none, .bin .eql (.t 7) (.k (.str []))⟩,
 .op ⟨some 9, none, .mv (.t 8)⟩,
 .op ⟨some 10, some (9, false), .mv (.t 1)⟩,
 .op ⟨some 11, some (9, false), .bin .eql (.t 10) (.k (.str []))⟩,
 .op ⟨some 12, none, .pick (.t 9) (.k (.bool true)) (.t 11)⟩])
 (.ite (.t 12) (.seq (.reg [.op ⟨some 13, none, .mv (.t 0)⟩,
 .op ⟨some 4, none, .mv (.t 13)⟩])
 .ret)
 .skip))
 (.seq (.seq (.reg [.op ⟨some 14, none, .mv (.t 1)⟩,
 .op ⟨some 15, none, .len .str (.t 14)⟩,
 .op ⟨some 16, none, .bin .eql (.t 15) (.k (I 1))⟩,
 .op ⟨some 17, none, .mv (.t 16)⟩,
 .op ⟨some 18, some (17, true), .mv (.t 1)⟩,
 .op ⟨some 19, some (17, true), .idx .str false (.t 18) (.k (I 0))⟩,
 .op ⟨some 20, some (17, true), .bin .lss (.t 19) (.k (.int .u8 (128)))⟩,
 .op ⟨some 21, none, .pick (.t 17) (.t 20) (.k (.bool false))⟩])
 (.ite (.t 21) (.seq (.reg [.op ⟨some 22, none, .mv (.t 0)⟩,
 .op ⟨some 23, none, .mv (.t 1)⟩,
 .op ⟨some 24, none, .idx .str false (.t 23) (.k (I 0))⟩,
 .op ⟨some 26, none, .mv (.t 1)⟩,
 .op ⟨some 27, none, .idx .str false (.t 26) (.k (I 0))⟩,
 .op ⟨some 25, none, .call 156 [(.t 22), (.t 24)]⟩,
 .op ⟨some 28, none, .call 155 [(.t 25), (.t 27)]⟩,
 .op ⟨some 4, none, .mv (.t 28)⟩])
 .ret)
 .skip))
 (.seq (.seq (.reg [.op ⟨some 30, none, .mv (.t 1)⟩,
 .op ⟨some 31, none, .call 157 [(.t 30)]⟩,
 .op ⟨some 29, none, .mv (.t 31)⟩,
 .op ⟨some 32, none, .ext 0 (.t 29)⟩,
 .op ⟨some 33, none, .ext 1 (.t 29)⟩,
 .op ⟨some 5, none, .alloc [(.bool false), (.bool false), (.bool false), (.bool false), (.bool false), (.bool false), (.bool false), (.bool false), (.bool false), (.bool false), (.bool false), (.bool false), (.bool false), (.bool false), (.bool false), (.bool false), (.bool false), (.bool false), (.bool false), (.bool false), (.bool false), (.bool false), (.bool false), (.bool false), (.bool false), (.bool false), (.bool false), (.bool false), (.bool false), (.bool false), (.bool false), (.bool false), (.bool false), (.bool false), (.bool false), (.bool false), (.bool false), (.bool false), (.bool false), (.bool false), (.bool false), (.bool false), (.bool false), (.bool false), (.bool false), (.bool false), (.bool false), (.bool false), (.bool false), (.bool false), (.bool false), (.bool false), (.bool false), (.bool false), (.bool false), (.bool false), (.bool false), (.bool false), (.bool false), (.bool false), (.bool false), (.bool false), (.bool false), (.bool false), (.bool false), (.bool false), (.bool false), (.bool false), (.bool false), (.bool false), (.bool false), (.bool false), (.bool false), (.bool false), (.bool false), (.bool false), (.bool false), (.bool false), (.bool false), (.bool false), (.bool false), (.bool false), (.bool false), (.bool false), (.bool false), (.bool false), (.bool false), (.bool false), (.bool false), (.bool false), (.bool false), (.bool false), (.bool false), (.bool false), (.bool false), (.bool false), (.bool false), (.bool false), (.bool false), (.bool false), (.bool false), (.bool false), (.bool false), (.bool false), (.bool false), (.bool false), (.bool false), (.bool false), (.bool false), (.bool false), (.bool false), (.bool false), (.bool false), (.bool false), (.bool false), (.bool false), (.bool false), (.bool false), (.bool false), (.bool false), (.bool false), (.bool false), (.bool false), (.bool false), (.bool false), (.bool false), (.bool false), (.bool false), (.bool false), (.bool false), (.bool false), (.bool false), (.bool false), (.bool false), (.bool false), (.bool false), (.bool false), (.bool false), (.bool false), (.bool false), (.bool false), (.bool false), (.bool false), (.bool false), (.bool false), (.bool false), (.bool false), (.bool false), (.bool false), (.bool false), (.bool false), (.bool false), (.bool false), (.bool false), (.bool false), (.bool false), (.bool false), (.bool false), (.bool false), (.bool false), (.bool false), (.bool false), (.bool false), (.bool false), (.bool false), (.bool false), (.bool false), (.bool false), (.bool false), (.bool false), (.bool false), (.bool false), (.bool false), (.bool false), (.bool false), (.bool false), (.bool false), (.bool false), (.bool false), (.bool false), (.bool false), (.bool false), (.bool false), (.bool false), (.bool false), (.bool false), (.bool false), (.bool false), (.bool false), (.bool false), (.bool false), (.bool false), (.bool false), (.bool false), (.bool false), (.bool false), (.bool false), (.bool false), (.bool false), (.bool false), (.bool false), (.bool false), (.bool false), (.bool false), (.bool false), (.bool false), (.bool false), (.bool false), (.bool false), (.bool false), (.bool false), (.bool false), (.bool false), (.bool false), (.bool false), (.bool false), (.bool false), (.bool false), (.bool false), (.bool false), (.bool false), (.bool false), (.bool false), (.bool false), (.bool false), (.bool false), (.bool false), (.bool false), (.bool false), (.bool false), (.bool false), (.bool false), (.bool false), (.bool false), (.bool false), (.bool false), (.bool false), (.bool false), (.bool false), (.bool false), (.bool false), (.bool false), (.bool false), (.bool false), (.bool false), (.bool false), (.bool false), (.bool false), (.bool false), (.bool false), (.bool false), (.bool false), (.bool false), (.bool false), (.bool false), (.bool false)]⟩,
 .op ⟨none, none, .store 256 (.t 5) (.t 32)⟩,
 .op ⟨some 6, none, .mv (.t 33)⟩])
 (.seq (.reg [.op ⟨some 34, none, .mv (.t 6)⟩])
 (.ite (.t 34) (.seq (.reg [.op ⟨some 35, none, .mv (.t 0)⟩,
 .op ⟨some 36, none, .call 159 [(.t 35), (.t 5)]⟩,
 .op ⟨some 37, none, .call 158 [(.t 36), (.t 5)]⟩,
 .op ⟨some 4, none, .mv (.t 37)⟩])
 .ret)
 .skip)))
 (.seq (.reg [.op ⟨some 38, none, .mv (.t 0)⟩,
 .op ⟨some 39, none, .mv (.t 1)⟩,
 .op ⟨some 40, none, .call 161 [(.t 38), (.t 39)]⟩,
 .op ⟨some 41, none, .mv (.t 1)⟩,
 .op ⟨some 42, none, .call 160 [(.t 40), (.t 41)]⟩,
 .op ⟨some 4, none, .mv (.t 42)⟩])
 .ret)))))⟩
theorem g104 : Good 104 c104 := ⟨_, Tryz.func104, by kernel_rfl⟩

def c105 : AFunc := ⟨[.c 2 true 5, .t 3, .t 4], (.seq (.reg [.op ⟨some 2, none, .alloc [(.str []), (.str []), (I 0), .nils, .nils]⟩,
 .op ⟨some 3, none, .mv (.k (I 0))⟩,
 .op ⟨some 4, none, .mv (.k (I 0))⟩])
 (.seq (.reg [.op ⟨some 11, none, .mv (.t 0)⟩,
 .op ⟨some 12, none, .call 141 [(.t 11)]⟩,
 .op ⟨some 10, none, .mv (.t 12)⟩,
 .op ⟨some 13, none, .ext 0 (.t 10)⟩,
 .op ⟨some 14, none, .ext 1 (.t 10)⟩,
 .op ⟨some 15, none, .ext 2 (.t 10)⟩,
 .op ⟨some 16, none, .ext 3 (.t 10)⟩,
 .op ⟨some 17, none, .ext 4 (.t 10)⟩,
 .op ⟨some 5, none, .alloc [(.str []), (.str []), (I 0), .nils, .nils]⟩,
 .op ⟨none, none, .store 5 (.t 5) (.t 13)⟩,
 .op ⟨some 6, none, .mv (.t 14)⟩,
 .op ⟨some 7, none, .mv (.t 15)⟩,
 .op ⟨some 8, none, .mv (.t 16)⟩,
 .op ⟨some 9, none, .mv (.t 17)⟩])
 (.seq (.seq (.reg [.op ⟨some 18, none, .mv (.t 6)⟩,
 .op ⟨some 19, none, .bin .eql (.t 18) (.k (I 0))⟩,
 .op ⟨some 20, none, .mv (.t 19)⟩,
 .op ⟨some 21, some (20, false), .mv (.t 9)⟩,
 .op ⟨some 22, some (20, false), .bin .neq (.t 21) (.k (I 0))⟩,
 .op ⟨some 23, none, .pick (.t 20) (.k (.bool true)) (.t 22)⟩])
 (.ite (.t 23) (.seq (.reg [.op ⟨some 24, none, .build [(.str []), (.str []), (I 0), .nils, .nils] []⟩,
 .op ⟨some 25, none, .mv (.t 9)⟩,
 .op ⟨none, none, .store 5 (.t 2) (.t 24)⟩,
 .op ⟨some 3, none, .mv (.k (I 0))⟩,
 .op ⟨some 4, none, .mv (.t 25)⟩])
 .ret)
 .skip))
 (.seq (.reg [.op ⟨some 26, none, .load true 5 (.t 5)⟩,
 .op ⟨some 27, none, .mv (.t 6)⟩,
 .op ⟨none, none, .store 5 (.t 2) (.t 26)⟩,
 .op ⟨some 3, none, .mv (.t 27)⟩,
 .op ⟨some 4, none, .mv (.k (I 0))⟩])
 .ret))))⟩
theorem g105 : Good 105 c105 := ⟨_, Tryz.func105, by kernel_rfl⟩

def c107 : AFunc := ⟨[.t 4], (.seq (.reg [.op ⟨some 3, none, .box 1 (.t 1)⟩,
 .op ⟨some 4, none, .mv (.k (I 0))⟩])
 (.seq (.reg [.op ⟨some 5, none, .mv (.t 0)⟩,
 .op ⟨some 6, none, .mkf 163 [] [(.t 3)]⟩,
 .op ⟨some 7, none, .call 70 [(.t 5), (.t 6)]⟩,
 .op ⟨some 4, none, .mv (.t 7)⟩])
 .ret))⟩
theorem g107 : Good 107 c107 := ⟨_, Tryz.func107, by kernel_rfl⟩

def c108 : AFunc := ⟨[.t 2], (.seq (.reg [.op ⟨some 1, none, .box 5 (.t 0)⟩,
 .op ⟨some 2, none, .mv (.k (.str []))⟩])
 (.seq (.seq (.reg [.op ⟨some 7, none, .fa 3 (.t 1)⟩,
 .op ⟨some 8, none, .load false 1 (.t 7)⟩,
 .op ⟨some 9, none, .call 165 [(.t 8), (.k (.str [72, 111, 115, 116]))]⟩,
 .op ⟨some 10, none, .len .sl (.t 9)⟩,
 .op ⟨some 11, none, .mv (.k (I 0))⟩])
 (.block 0 (.loop (.seq (.reg [.op ⟨some 12, none, .bin .lss (.t 11) (.t 10)⟩])
 (.seq (.ite (.t 12) .skip
 (.exit 0))
 (.seq (.block 1 (.seq (.reg [.op ⟨some 13, none, .ia (.sl 1) (.t 9) (.t 11)⟩,
 .op ⟨some 14, none, .load false 1 (.t 13)⟩,
 .op ⟨some 4, none, .mv (.t 14)⟩])
 (.seq (.reg [.op ⟨some 16, none, .mv (.t 4)⟩,
 .op ⟨some 17, none, .call 66 [(.t 16)]⟩,
 .op ⟨some 15, none, .mv (.t 17)⟩,
 .op ⟨some 18, none, .ext 0 (.t 15)⟩,
 .op ⟨some 19, none, .ext 1 (.t 15)⟩,
 .op ⟨some 5, none, .mv (.t 18)⟩,
 .op ⟨some 6, none, .mv (.t 19)⟩])
 (.seq (.reg [.op ⟨some 20, none, .mv (.t 5)⟩,
 .op ⟨some 2, none, .mv (.t 20)⟩])
 .ret))))
 (.reg [.op ⟨some 21, none, .bin .add (.t 11) (.k (I 1))⟩,
 .op ⟨some 11, none, .mv (.t 21)⟩])))))))
 (.seq (.reg [.op ⟨some 2, none, .mv (.k (.str []))⟩])
 .ret)))⟩
theorem g108 : Good 108 c108 := ⟨_, Tryz.func108, by kernel_rfl⟩

def c109 : AFunc := ⟨[.t 8], (.seq (.reg [.op ⟨some 8, none, .mv (.k .nils)⟩])
 (.seq (.reg [.op ⟨some 12, none, .mv (.t 0)⟩,
 .op ⟨some 13, none, .nilchk (.t 12)⟩,
 .op ⟨some 14, none, .fa 8 (.t 13)⟩,
 .op ⟨some 15, none, .load false 1 (.t 14)⟩,
 .op ⟨some 16, none, .call 166 [(.t 15)]⟩,
 .op ⟨some 9, none, .mv (.t 16)⟩])
 (.seq (.reg [.op ⟨some 17, none, .mv (.t 9)⟩,
 .op ⟨some 18, none, .mv (.t 3)⟩,
 .op ⟨some 19, none, .call 110 [(.t 17), (.t 18)]⟩])
 (.seq (.seq (.reg [.op ⟨some 20, none, .mv (.t 0)⟩,
 .op ⟨some 21, none, .nilchk (.t 20)⟩,
 .op ⟨some 22, none, .fa 9 (.t 21)⟩,
 .op ⟨some 23, none, .load false 1 (.t 22)⟩,
 .op ⟨some 24, none, .len .mp (.t 23)⟩,
 .op ⟨some 25, none, .mv (.t 0)⟩,
 .op ⟨some 26, none, .nilchk (.t 25)⟩,
 .op ⟨some 27, none, .fa 0 (.t 26)⟩,
 .op ⟨some 28, none, .fa 3 (.t 27)⟩,
 .op ⟨some 29, none, .load false 1 (.t 28)⟩,
 .op ⟨some 30, none, .bin .geq (.t 24) (.t 29)⟩,
 .op ⟨some 31, none, .mv (.t 30)⟩,
 .op ⟨some 32, some (31, false), .mv (.t 9)⟩,
 .op ⟨some 33, some (31, false), .mv (.t 2)⟩,
 .op ⟨some 34, some (31, false), .call 112 [(.t 32), (.t 33)]⟩,
 .op ⟨some 35, some (31, false), .un .not (.t 34)⟩,
 .op ⟨some 36, none, .pick (.t 31) (.k (.bool true)) (.t 35)⟩])
 (.ite (.t 36) (.seq (.reg [.op ⟨some 37, none, .call 167 [(.k (I 503)), (.k (.bool true))]⟩,
 .op ⟨some 10, none, .mv (.t 37)⟩])
 (.seq (.reg [.op ⟨some 38, none, .mv (.t 0)⟩,
 .op ⟨some 39, none, .mv (.t 0)⟩,
 .op ⟨some 40, none, .mv (.t 1)⟩,
 .op ⟨some 41, none, .call 169 [(.t 39), (.t 40), (.k (.str [45])), (.k (.str [45]))]⟩,
 .op ⟨some 42, none, .mv (.t 10)⟩,
 .op ⟨some 43, none, .len .sl (.t 42)⟩,
 .op ⟨some 44, none, .call 168 [(.t 38), (.t 41), (.k (I 503)), (.t 43)]⟩])
 (.seq (.seq (.reg [.op ⟨some 45, none, .mv (.t 10)⟩,
 .op ⟨some 46, none, .len .sl (.t 45)⟩,
 .op ⟨some 47, none, .mv (.t 3)⟩,
 .op ⟨some 48, none, .mx (.t 47) (.k (I 0))⟩,
 .op ⟨some 49, none, .mn (.t 46) (.t 48)⟩,
 .op ⟨some 11, none, .mv (.t 49)⟩])
 (.seq (.reg [.op ⟨some 50, none, .mv (.t 11)⟩,
 .op ⟨some 51, none, .bin .gtr (.t 50) (.k (I 0))⟩])
 (.ite (.t 51) (.reg [.op ⟨some 52, none, .mv (.t 0)⟩,
 .op ⟨some 53, none, .mv (.t 1)⟩,
 .op ⟨some 54, none, .mv (.t 10)⟩,
 .op ⟨some 55, none, .mv (.t 11)⟩,
 .op ⟨some 56, none, .mv (.t 11)⟩,
 .op ⟨some 57, none, .slc (.sl 1) (.t 54) none (some (.t 55)) (some (.t 56))⟩,
 .op ⟨some 58, none, .build [(I 0), (I 0), (.str []), (I 0), (.str []), .nils] [(0, 1, (.k (I 1))), (1, 1, (.t 53)), (5, 1, (.t 57))]⟩,
 .op ⟨some 59, none, .call 113 [(.t 52), (.t 58)]⟩])
 .skip)))
 (.seq (.reg [.op ⟨some 60, none, .mv (.t 0)⟩,
 .op ⟨some 61, none, .mv (.t 1)⟩,
 .op ⟨some 62, none, .build [(I 0), (I 0), (.str []), (I 0), (.str []), .nils] [(0, 1, (.k (I 3))), (1, 1, (.t 61))]⟩,
 .op ⟨some 63, none, .call 113 [(.t 60), (.t 62)]⟩])
 (.seq (.reg [.op ⟨some 64, none, .mv (.t 0)⟩,
 .op ⟨some 65, none, .call 83 [(.t 64)]⟩,
 .op ⟨some 8, none, .mv (.t 65)⟩])
 .ret)))))
 .skip))
 (.seq (.reg [.op ⟨some 66, none, .mv (.t 0)⟩,
 .op ⟨some 67, none, .nilchk (.t 66)⟩,
 .op ⟨some 68, none, .fa 9 (.t 67)⟩,
 .op ⟨some 69, none, .load false 1 (.t 68)⟩,
 .op ⟨some 70, none, .mv (.t 1)⟩,
 .op ⟨some 71, none, .mv (.t 9)⟩,
 .op ⟨none, none, .mset false (.t 69) (.t 70) (.t 71)⟩])
 (.seq (.reg [.op ⟨some 72, none, .mv (.t 0)⟩,
 .op ⟨some 73, none, .mv (.t 1)⟩,
 .op ⟨some 74, none, .call 114 [(.t 72), (.t 73)]⟩])
 (.seq (.reg [.op ⟨some 75, none, .mv (.t 0)⟩,
 .op ⟨some 76, none, .call 83 [(.t 75)]⟩,
 .op ⟨some 8, none, .mv (.t 76)⟩])
 .ret)))))))⟩
theorem g109 : Good 109 c109 := ⟨_, Tryz.func109, by kernel_rfl⟩

def c110 : AFunc := ⟨[], (.reg [.op ⟨some 4, none, .mv (.t 0)⟩,
 .op ⟨some 5, none, .mv (.t 0)⟩,
 .op ⟨some 6, none, .nilchk (.t 5)⟩,
 .op ⟨some 7, none, .fa 2 (.t 6)⟩,
 .op ⟨some 8, none, .load false 1 (.t 7)⟩,
 .op ⟨some 9, none, .mv (.t 1)⟩,
 .op ⟨some 10, none, .mx (.t 9) (.k (I 0))⟩,
 .op ⟨some 11, none, .mn (.t 10) (.k (I 1073741824))⟩,
 .op ⟨some 12, none, .bin .add (.t 8) (.t 11)⟩,
 .op ⟨some 13, none, .mn (.t 12) (.k (I 1073741824))⟩,
 .op ⟨some 14, none, .nilchk (.t 4)⟩,
 .op ⟨some 15, none, .fa 2 (.t 14)⟩,
 .op ⟨none, none, .store 1 (.t 15) (.t 13)⟩])⟩
theorem g110 : Good 110 c110 := ⟨_, Tryz.func110, by kernel_rfl⟩

def c112 : AFunc := ⟨[.t 4], (.seq (.reg [.op ⟨some 4, none, .mv (.k (.bool false))⟩])
 (.seq (.reg [.op ⟨some 5, none, .mv (.t 0)⟩,
 .op ⟨some 6, none, .call 171 [(.t 5)]⟩,
 .op ⟨some 7, none, .mv (.t 6)⟩,
 .op ⟨some 8, some (7, false), .mv (.t 0)⟩,
 .op ⟨some 9, some (7, false), .nilchk (.t 8)⟩,
 .op ⟨some 10, some (7, false), .fa 0 (.t 9)⟩,
 .op ⟨some 11, some (7, false), .load false 1 (.t 10)⟩,
 .op ⟨some 12, some (7, false), .mv (.t 1)⟩,
 .op ⟨some 13, some (7, false), .call 124 [(.t 11), (.t 12)]⟩,
 .op ⟨some 14, none, .pick (.t 7) (.k (.bool true)) (.t 13)⟩,
 .op ⟨some 4, none, .mv (.t 14)⟩])
 .ret))⟩
theorem g112 : Good 112 c112 := ⟨_, Tryz.func112, by kernel_rfl⟩

def c113 : AFunc := ⟨[], (.seq (.reg [.op ⟨some 3, none, .box 6 (.t 1)⟩])
 (.seq (.reg [.op ⟨some 4, none, .mv (.t 0)⟩,
 .op ⟨some 5, none, .nilchk (.t 4)⟩,
 .op ⟨some 6, none, .fa 0 (.t 5)⟩,
 .op ⟨some 7, none, .fa 0 (.t 6)⟩,
 .op ⟨some 8, none, .load false 1 (.t 7)⟩,
 .op ⟨some 9, none, .fa 2 (.t 3)⟩,
 .op ⟨none, none, .store 1 (.t 9) (.t 8)⟩])
 (.reg [.op ⟨some 10, none, .mv (.t 0)⟩,
 .op ⟨some 11, none, .mv (.t 0)⟩,
 .op ⟨some 12, none, .nilchk (.t 11)⟩,
 .op ⟨some 13, none, .fa 26 (.t 12)⟩,
 .op ⟨some 14, none, .load false 1 (.t 13)⟩,
 .op ⟨some 15, none, .load true 6 (.t 3)⟩,
 .op ⟨some 16, none, .bslice 6 1 [(I 0), (I 0), (.str []), (I 0), (.str []), .nils] [(0, 6, (.t 15))]⟩,
 .chk ⟨some 14, none, .load false 1 (.t 13)⟩,
 .op ⟨some 17, none, .app 6 80 (.t 14) (.t 16)⟩,
 .op ⟨some 18, none, .nilchk (.t 10)⟩,
 .op ⟨some 19, none, .fa 26 (.t 18)⟩,
 .op ⟨none, none, .store 1 (.t 19) (.t 17)⟩])))⟩
theorem g113 : Good 113 c113 := ⟨_, Tryz.func113, by kernel_rfl⟩

def c114 : AFunc := ⟨[], (.block 0 (.loop (.block 1 (.seq (.reg [.op ⟨some 9, none, .mv (.t 0)⟩,
 .op ⟨some 10, none, .nilchk (.t 9)⟩,
 .op ⟨some 11, none, .fa 9 (.t 10)⟩,
 .op ⟨some 12, none, .load false 1 (.t 11)⟩,
 .op ⟨some 13, none, .mv (.t 1)⟩,
 .op ⟨some 14, none, .look false .nilp true (.t 12) (.t 13)⟩,
 .op ⟨some 8, none, .mv (.t 14)⟩,
 .op ⟨some 15, none, .ext 0 (.t 8)⟩,
 .op ⟨some 16, none, .ext 1 (.t 8)⟩,
 .op ⟨some 4, none, .mv (.t 15)⟩,
 .op ⟨some 5, none, .mv (.t 16)⟩])
 (.seq (.seq (.reg [.op ⟨some 17, none, .mv (.t 5)⟩,
 .op ⟨some 18, none, .un .not (.t 17)⟩])
 (.ite (.t 18) .ret
 .skip))
 (.seq (.reg [.op ⟨some 20, none, .mv (.t 4)⟩,
 .op ⟨some 21, none, .call 172 [(.t 20)]⟩,
 .op ⟨some 19, none, .mv (.t 21)⟩,
 .op ⟨some 22, none, .ext 0 (.t 19)⟩,
 .op ⟨some 23, none, .ext 1 (.t 19)⟩,
 .op ⟨some 6, none, .alloc [(.str []), (.str []), (I 0), .nils, .nils]⟩,
 .op ⟨none, none, .store 5 (.t 6) (.t 22)⟩,
 .op ⟨some 7, none, .mv (.t 23)⟩])
 (.seq (.block 2 (.seq (.reg [.op ⟨some 29, none, .mv (.t 7)⟩,
 .op ⟨some 30, none, .bin .lss (.t 29) (.k (I 0))⟩,
 .op ⟨some 28, none, .mv (.t 30)⟩])
 (.ite (.t 28) (.seq (.seq (.reg [.op ⟨some 31, none, .mv (.t 4)⟩,
 .op ⟨some 32, none, .call 173 [(.t 31)]⟩])
 (.ite (.t 32) (.reg [.op ⟨some 33, none, .mv (.t 4)⟩,
 .op ⟨some 34, none, .bslice 1 25 [(.int .u8 (0))] [(0, 1, (.k (.int .u8 (72)))), (1, 1, (.k (.int .u8 (84)))), (2, 1, (.k (.int .u8 (84)))), (3, 1, (.k (.int .u8 (80)))), (4, 1, (.k (.int .u8 (47)))), (5, 1, (.k (.int .u8 (49)))), (6, 1, (.k (.int .u8 (46)))), (7, 1, (.k (.int .u8 (49)))), (8, 1, (.k (.int .u8 (32)))), (9, 1, (.k (.int .u8 (49)))), (10, 1, (.k (.int .u8 (48)))), (11, 1, (.k (.int .u8 (48)))), (12, 1, (.k (.int .u8 (32)))), (13, 1, (.k (.int .u8 (67)))), (14, 1, (.k (.int .u8 (111)))), (15, 1, (.k (.int .u8 (110)))), (16, 1, (.k (.int .u8 (116)))), (17, 1, (.k (.int .u8 (105)))), (18, 1, (.k (.int .u8 (110)))), (19, 1, (.k (.int .u8 (117)))), (20, 1, (.k (.int .u8 (101)))), (21, 1, (.k (.int .u8 (13)))), (22, 1, (.k (.int .u8 (10)))), (23, 1, (.k (.int .u8 (13)))), (24, 1, (.k (.int .u8 (10))))]⟩,
 .op ⟨some 35, none, .conv .bs (.t 34)⟩,
 .op ⟨some 36, none, .call 174 [(.t 33), (.t 35)]⟩])
 .skip))
 .ret)
 (.seq (.reg [.op ⟨some 38, none, .mv (.t 7)⟩,
 .op ⟨some 39, none, .bin .gtr (.t 38) (.k (I 0))⟩,
 .op ⟨some 37, none, .mv (.t 39)⟩])
 (.ite (.t 37) (.reg [.op ⟨some 40, none, .mv (.t 0)⟩,
 .op ⟨some 41, none, .mv (.t 0)⟩,
 .op ⟨some 42, none, .mv (.t 1)⟩,
 .op ⟨some 43, none, .call 169 [(.t 41), (.t 42), (.k (.str [45])), (.k (.str [45]))]⟩,
 .op ⟨some 44, none, .mv (.t 7)⟩,
 .op ⟨some 45, none, .call 123 [(.t 40), (.t 43), (.t 44), (.k (.bool true))]⟩])
 (.reg [.op ⟨some 24, none, .mv (.t 0)⟩,
 .op ⟨some 25, none, .mv (.t 1)⟩,
 .op ⟨some 26, none, .load true 5 (.t 6)⟩,
 .op ⟨some 27, none, .call 175 [(.t 24), (.t 25), (.t 26)]⟩]))))))
 (.seq (.reg [.op ⟨some 46, none, .mv (.t 0)⟩,
 .op ⟨some 47, none, .nilchk (.t 46)⟩,
 .op ⟨some 48, none, .fa 10 (.t 47)⟩,
 .op ⟨some 49, none, .load false 1 (.t 48)⟩,
 .op ⟨some 50, none, .mv (.t 1)⟩,
 .op ⟨some 51, none, .look false .nilp false (.t 49) (.t 50)⟩,
 .op ⟨some 52, none, .peq true (.t 51) (.k .nilp)⟩])
 (.ite (.t 52) .ret
 .skip)))))))))⟩
theorem g114 : Good 114 c114 := ⟨_, Tryz.func114, by kernel_rfl⟩

def c115 : AFunc := ⟨[.t 8], (.seq (.reg [.op ⟨some 8, none, .mv (.k (.bool false))⟩])
 (.seq (.seq (.reg [.op ⟨some 9, none, .mv (.t 0)⟩,
 .op ⟨some 10, none, .mv (.t 1)⟩,
 .op ⟨some 11, none, .call 76 [(.t 9), (.t 10)]⟩,
 .op ⟨some 12, none, .mv (.t 2)⟩,
 .op ⟨some 13, none, .bin .neq (.t 11) (.t 12)⟩])
 (.ite (.t 13) (.seq (.reg [.op ⟨some 8, none, .mv (.k (.bool false))⟩])
 .ret)
 .skip))
 (.seq (.reg [.op ⟨some 14, none, .mv (.t 0)⟩,
 .op ⟨some 15, none, .nilchk (.t 14)⟩,
 .op ⟨some 16, none, .fa 2 (.t 15)⟩,
 .op ⟨some 17, none, .load false 1 (.t 16)⟩,
 .op ⟨some 18, none, .mv (.t 1)⟩,
 .op ⟨some 19, none, .look false .nilp false (.t 17) (.t 18)⟩,
 .op ⟨some 20, none, .mv (.t 3)⟩,
 .op ⟨some 21, none, .nilchk (.t 19)⟩,
 .op ⟨some 22, none, .fa 1 (.t 21)⟩,
 .op ⟨none, none, .store 1 (.t 22) (.t 20)⟩])
 (.seq (.reg [.op ⟨some 8, none, .mv (.k (.bool true))⟩])
 .ret))))⟩
theorem g115 : Good 115 c115 := ⟨_, Tryz.func115, by kernel_rfl⟩

def c116 : AFunc := ⟨[.t 4], (.seq (.reg [.op ⟨some 4, none, .mv (.k .nils)⟩])
 (.seq (.reg [.op ⟨some 8, none, .mv (.t 1)⟩,
 .op ⟨some 9, none, .mx (.t 8) (.k (I 0))⟩,
 .op ⟨some 10, none, .mv (.t 0)⟩,
 .op ⟨some 11, none, .nilchk (.t 10)⟩,
 .op ⟨some 12, none, .fa 2 (.t 11)⟩,
 .op ⟨some 13, none, .load false 1 (.t 12)⟩,
 .op ⟨some 14, none, .mn (.t 9) (.t 13)⟩,
 .op ⟨some 1, none, .mv (.t 14)⟩])
 (.seq (.reg [.op ⟨some 5, none, .mv (.k .nils)⟩])
 (.seq (.seq (.reg [.op ⟨some 15, none, .mv (.t 0)⟩,
 .op ⟨some 16, none, .nilchk (.t 15)⟩,
 .op ⟨some 17, none, .fa 1 (.t 16)⟩,
 .op ⟨some 18, none, .load false 1 (.t 17)⟩,
 .op ⟨some 19, none, .len .sl (.t 18)⟩,
 .op ⟨some 20, none, .mv (.k (I 0))⟩])
 (.block 0 (.loop (.seq (.reg [.op ⟨some 21, none, .bin .lss (.t 20) (.t 19)⟩])
 (.seq (.ite (.t 21) .skip
 (.exit 0))
 (.seq (.block 1 (.seq (.reg [.op ⟨some 22, none, .ia (.sl 1) (.t 18) (.t 20)⟩,
 .op ⟨some 23, none, .load false 1 (.t 22)⟩,
 .op ⟨some 7, none, .mv (.t 23)⟩])
 (.seq (.seq (.reg [.op ⟨some 24, none, .mv (.t 1)⟩,
 .op ⟨some 25, none, .mv (.t 5)⟩,
 .op ⟨some 26, none, .len .sl (.t 25)⟩,
 .op ⟨some 27, none, .bin .eql (.t 24) (.t 26)⟩])
 (.ite (.t 27) (.exit 0)
 .skip))
 (.reg [.op ⟨some 28, none, .mv (.t 5)⟩,
 .op ⟨some 29, none, .mv (.t 7)⟩,
 .op ⟨some 30, none, .nilchk (.t 29)⟩,
 .op ⟨some 31, none, .fa 0 (.t 30)⟩,
 .op ⟨some 32, none, .mv (.t 7)⟩,
 .op ⟨some 33, none, .nilchk (.t 32)⟩,
 .op ⟨some 34, none, .fa 64 (.t 33)⟩,
 .op ⟨some 35, none, .load false 1 (.t 34)⟩,
 .op ⟨some 36, none, .mv (.t 7)⟩,
 .op ⟨some 37, none, .nilchk (.t 36)⟩,
 .op ⟨some 38, none, .fa 65 (.t 37)⟩,
 .op ⟨some 39, none, .load false 1 (.t 38)⟩,
 .op ⟨some 40, none, .mv (.t 7)⟩,
 .op ⟨some 41, none, .nilchk (.t 40)⟩,
 .op ⟨some 42, none, .fa 64 (.t 41)⟩,
 .op ⟨some 43, none, .load false 1 (.t 42)⟩,
 .op ⟨some 44, none, .mv (.t 1)⟩,
 .op ⟨some 45, none, .bin .add (.t 43) (.t 44)⟩,
 .op ⟨some 46, none, .mv (.t 5)⟩,
 .op ⟨some 47, none, .len .sl (.t 46)⟩,
 .op ⟨some 48, none, .bin .sub (.t 45) (.t 47)⟩,
 .op ⟨some 49, none, .mn (.t 39) (.t 48)⟩,
 .op ⟨some 50, none, .slc (.arr 64 1) (.t 31) (some (.t 35)) (some (.t 49)) none⟩,
 .op ⟨some 51, none, .app 1 1 (.t 28) (.t 50)⟩,
 .op ⟨some 5, none, .mv (.t 51)⟩]))))
 (.reg [.op ⟨some 52, none, .bin .add (.t 20) (.k (I 1))⟩,
 .op ⟨some 20, none, .mv (.t 52)⟩])))))))
 (.seq (.reg [.op ⟨some 53, none, .mv (.t 5)⟩,
 .op ⟨some 4, none, .mv (.t 53)⟩])
 .ret)))))⟩
theorem g116 : Good 116 c116 := ⟨_, Tryz.func116, by kernel_rfl⟩

def c117 : AFunc := ⟨[.t 2], (.seq (.reg [.op ⟨some 2, none, .mv (.k (I 0))⟩])
 (.seq (.reg [.op ⟨some 3, none, .mv (.t 0)⟩,
 .op ⟨some 4, none, .nilchk (.t 3)⟩,
 .op ⟨some 5, none, .fa 2 (.t 4)⟩,
 .op ⟨some 6, none, .load false 1 (.t 5)⟩,
 .op ⟨some 2, none, .mv (.t 6)⟩])
 .ret))⟩
theorem g117 : Good 117 c117 := ⟨_, Tryz.func117, by kernel_rfl⟩

def c118 : AFunc := ⟨[], (.seq (.reg [.op ⟨some 6, none, .mv (.t 0)⟩,
 .op ⟨some 7, none, .nilchk (.t 6)⟩,
 .op ⟨some 8, none, .fa 12 (.t 7)⟩,
 .op ⟨some 9, none, .load false 1 (.t 8)⟩,
 .op ⟨some 10, none, .mv (.t 1)⟩,
 .op ⟨some 11, none, .call 176 [(.t 9), (.t 10)]⟩])
 (.seq (.reg [.op ⟨some 12, none, .mv (.t 2)⟩])
 (.ite (.t 12) (.reg [.op ⟨some 13, none, .mv (.t 0)⟩,
 .op ⟨some 14, none, .mv (.t 1)⟩,
 .op ⟨some 15, none, .build [(I 0), (I 0), (.str []), (I 0), (.str []), .nils] [(0, 1, (.k (I 6))), (3, 1, (.t 14))]⟩,
 .op ⟨some 16, none, .call 113 [(.t 13), (.t 15)]⟩])
 .skip)))⟩
theorem g118 : Good 118 c118 := ⟨_, Tryz.func118, by kernel_rfl⟩

def c119 : AFunc := ⟨[.t 8], (.seq (.reg [.op ⟨some 7, none, .box 8 (.t 3)⟩,
 .op ⟨some 8, none, .mv (.k (.bool false))⟩])
 (.seq (.reg [.op ⟨some 9, none, .mv (.t 0)⟩,
 .op ⟨some 10, none, .nilchk (.t 9)⟩,
 .op ⟨some 11, none, .fa 1 (.t 10)⟩,
 .op ⟨some 12, none, .load false 1 (.t 11)⟩,
 .op ⟨some 13, none, .mv (.t 1)⟩,
 .op ⟨some 14, none, .look true (I 0) false (.t 12) (.t 13)⟩,
 .op ⟨some 15, none, .bin .add (.t 14) (.k (I 1))⟩,
 .op ⟨none, none, .mset true (.t 12) (.t 13) (.t 15)⟩])
 (.seq (.seq (.reg [.op ⟨some 16, none, .mv (.t 0)⟩,
 .op ⟨some 17, none, .nilchk (.t 16)⟩,
 .op ⟨some 18, none, .fa 1 (.t 17)⟩,
 .op ⟨some 19, none, .load false 1 (.t 18)⟩,
 .op ⟨some 20, none, .mv (.t 1)⟩,
 .op ⟨some 21, none, .look true (I 0) false (.t 19) (.t 20)⟩,
 .op ⟨some 22, none, .fa 6 (.t 7)⟩,
 .op ⟨some 23, none, .load false 1 (.t 22)⟩,
 .op ⟨some 24, none, .bin .lss (.t 21) (.t 23)⟩])
 (.ite (.t 24) (.seq (.reg [.op ⟨some 8, none, .mv (.k (.bool false))⟩])
 .ret)
 .skip))
 (.seq (.reg [.op ⟨some 25, none, .mv (.t 0)⟩,
 .op ⟨some 26, none, .nilchk (.t 25)⟩,
 .op ⟨some 27, none, .fa 1 (.t 26)⟩,
 .op ⟨some 28, none, .load false 1 (.t 27)⟩,
 .op ⟨some 29, none, .mv (.t 1)⟩,
 .op ⟨none, none, .del true (.t 28) (.t 29)⟩])
 (.seq (.reg [.op ⟨some 30, none, .mv (.t 0)⟩,
 .op ⟨some 31, none, .nilchk (.t 30)⟩,
 .op ⟨some 32, none, .fa 2 (.t 31)⟩,
 .op ⟨some 33, none, .load false 1 (.t 32)⟩,
 .op ⟨some 34, none, .mv (.t 1)⟩,
 .op ⟨some 35, none, .mv (.t 2)⟩,
 .op ⟨some 36, none, .fa 7 (.t 7)⟩,
 .op ⟨some 37, none, .load false 1 (.t 36)⟩,
 .op ⟨some 38, none, .bin .add (.t 35) (.t 37)⟩,
 .op ⟨none, none, .mset true (.t 33) (.t 34) (.t 38)⟩])
 (.seq (.reg [.op ⟨some 8, none, .mv (.k (.bool true))⟩])
 .ret))))))⟩
theorem g119 : Good 119 c119 := ⟨_, Tryz.func119, by kernel_rfl⟩

def c120 : AFunc := ⟨[.t 2], (.seq (.reg [.op ⟨some 2, none, .mv (.k (I 0))⟩])
 (.seq (.reg [.op ⟨some 3, none, .mv (.t 0)⟩,
 .op ⟨some 4, none, .nilchk (.t 3)⟩,
 .op ⟨some 5, none, .fa 0 (.t 4)⟩,
 .op ⟨some 6, none, .load false 1 (.t 5)⟩,
 .op ⟨some 2, none, .mv (.t 6)⟩])
 .ret))⟩
theorem g120 : Good 120 c120 := ⟨_, Tryz.func120, by kernel_rfl⟩

def c121 : AFunc := ⟨[.t 2], (.seq (.reg [.op ⟨some 2, none, .mv (.k (.bool false))⟩])
 (.seq (.seq (.reg [.op ⟨some 3, none, .mv (.t 0)⟩,
 .op ⟨some 4, none, .nilchk (.t 3)⟩,
 .op ⟨some 5, none, .fa 1 (.t 4)⟩,
 .op ⟨some 6, none, .load false 1 (.t 5)⟩])
 (.block 0 (.seq (.seq (.reg [.op ⟨some 8, none, .bin .eql (.t 6) (.k (.str [71, 69, 84]))⟩,
 .op ⟨some 7, none, .mv (.t 8)⟩])
 (.ite (.t 7) .skip
 (.seq (.reg [.op ⟨some 9, none, .bin .eql (.t 6) (.k (.str [72, 69, 65, 68]))⟩,
 .op ⟨some 7, none, .mv (.t 9)⟩])
 (.ite (.t 7) .skip
 (.seq (.reg [.op ⟨some 10, none, .bin .eql (.t 6) (.k (.str [79, 80, 84, 73, 79, 78, 83]))⟩,
 .op ⟨some 7, none, .mv (.t 10)⟩])
 (.ite (.t 7) .skip
 (.seq (.reg [.op ⟨some 11, none, .bin .eql (.t 6) (.k (.str [80, 85, 84]))⟩,
 .op ⟨some 7, none, .mv (.t 11)⟩])
 (.ite (.t 7) .skip
 (.seq (.reg [.op ⟨some 12, none, .bin .eql (.t 6) (.k (.str [68, 69, 76, 69, 84, 69]))⟩,
 .op ⟨some 7, none, .mv (.t 12)⟩])
 (.ite (.t 7) .skip
 (.reg [.op ⟨some 13, none, .bin .eql (.t 6) (.k (.str [84, 82, 65, 67, 69]))⟩,
 .op ⟨some 7, none, .mv (.t 13)⟩])))))))))))
 (.ite (.t 7) (.seq (.reg [.op ⟨some 14, none, .mv (.t 0)⟩,
 .op ⟨some 15, none, .nilchk (.t 14)⟩,
 .op ⟨some 16, none, .fa 9 (.t 15)⟩,
 .op ⟨some 17, none, .load false 1 (.t 16)⟩,
 .op ⟨some 18, none, .un .not (.t 17)⟩,
 .op ⟨some 19, none, .mv (.t 18)⟩,
 .op ⟨some 20, some (19, true), .mv (.t 0)⟩,
 .op ⟨some 21, some (19, true), .nilchk (.t 20)⟩,
 .op ⟨some 22, some (19, true), .fa 10 (.t 21)⟩,
 .op ⟨some 23, some (19, true), .load false 1 (.t 22)⟩,
 .op ⟨some 24, some (19, true), .bin .gtr (.t 23) (.k (I 0))⟩,
 .op ⟨some 25, none, .pick (.t 19) (.t 24) (.k (.bool false))⟩,
 .op ⟨some 2, none, .mv (.t 25)⟩])
 .ret)
 .skip))))
 (.seq (.reg [.op ⟨some 2, none, .mv (.k (.bool false))⟩])
 .ret)))⟩
theorem g121 : Good 121 c121 := ⟨_, Tryz.func121, by kernel_rfl⟩

def c122 : AFunc := ⟨[], (.seq (.reg [.op ⟨some 8, none, .mv (.t 0)⟩,
 .op ⟨some 9, none, .nilchk (.t 8)⟩,
 .op ⟨some 10, none, .fa 13 (.t 9)⟩,
 .op ⟨some 11, none, .load false 1 (.t 10)⟩,
 .op ⟨some 12, none, .mv (.t 1)⟩,
 .op ⟨some 13, none, .nilchk (.t 12)⟩,
 .op ⟨some 14, none, .fa 5 (.t 13)⟩,
 .op ⟨some 15, none, .load true 2 (.t 14)⟩,
 .op ⟨some 16, none, .mv (.t 0)⟩,
 .op ⟨some 17, none, .nilchk (.t 16)⟩,
 .op ⟨some 18, none, .fa 15 (.t 17)⟩,
 .op ⟨some 19, none, .load false 1 (.t 18)⟩,
 .op ⟨some 20, none, .call 120 [(.t 19)]⟩,
 .chk ⟨some 15, none, .load true 2 (.t 14)⟩,
 .chk ⟨some 11, none, .load false 1 (.t 10)⟩,
 .op ⟨some 21, none, .call 177 [(.t 11), (.t 15), (.t 20)]⟩,
 .op ⟨some 7, none, .mv (.t 21)⟩,
 .op ⟨some 22, none, .ext 0 (.t 7)⟩,
 .op ⟨some 23, none, .ext 1 (.t 7)⟩,
 .op ⟨some 4, none, .mv (.t 22)⟩,
 .op ⟨some 5, none, .mv (.t 23)⟩])
 (.seq (.seq (.reg [.op ⟨some 24, none, .mv (.t 5)⟩,
 .op ⟨some 25, none, .bin .neq (.t 24) (.k (I 0))⟩])
 (.ite (.t 25) (.seq (.reg [.op ⟨some 26, none, .mv (.t 0)⟩,
 .op ⟨some 27, none, .mv (.t 1)⟩,
 .op ⟨some 28, none, .mv (.t 1)⟩,
 .op ⟨some 29, none, .nilchk (.t 28)⟩,
 .op ⟨some 30, none, .fa 4 (.t 29)⟩,
 .op ⟨some 31, none, .load false 1 (.t 30)⟩,
 .op ⟨some 32, none, .call 123 [(.t 26), (.t 27), (.k (I 503)), (.t 31)]⟩])
 .ret)
 .skip))
 (.seq (.reg [.op ⟨some 34, none, .mv (.t 0)⟩,
 .op ⟨some 35, none, .nilchk (.t 34)⟩,
 .op ⟨some 36, none, .fa 12 (.t 35)⟩,
 .op ⟨some 37, none, .load false 1 (.t 36)⟩,
 .op ⟨some 38, none, .mv (.t 4)⟩,
 .op ⟨some 39, none, .call 178 [(.t 37), (.t 38)]⟩,
 .op ⟨some 33, none, .mv (.t 39)⟩,
 .op ⟨some 40, none, .ext 0 (.t 33)⟩,
 .op ⟨some 41, none, .ext 1 (.t 33)⟩,
 .op ⟨some 6, none, .alloc [(I 0), (I 0), (.bool false)]⟩,
 .op ⟨none, none, .store 3 (.t 6) (.t 40)⟩,
 .op ⟨some 5, none, .mv (.t 41)⟩])
 (.seq (.seq (.reg [.op ⟨some 42, none, .mv (.t 5)⟩,
 .op ⟨some 43, none, .bin .neq (.t 42) (.k (I 0))⟩])
 (.ite (.t 43) (.seq (.reg [.op ⟨some 44, none, .mv (.t 0)⟩,
 .op ⟨some 45, none, .mv (.t 1)⟩,
 .op ⟨some 46, none, .mv (.t 1)⟩,
 .op ⟨some 47, none, .nilchk (.t 46)⟩,
 .op ⟨some 48, none, .fa 4 (.t 47)⟩,
 .op ⟨some 49, none, .load false 1 (.t 48)⟩,
 .op ⟨some 50, none, .call 123 [(.t 44), (.t 45), (.k (I 503)), (.t 49)]⟩])
 .ret)
 .skip))
 (.seq (.seq (.reg [.op ⟨some 51, none, .fa 1 (.t 6)⟩,
 .op ⟨some 52, none, .load false 1 (.t 51)⟩,
 .op ⟨some 53, none, .bin .neq (.t 52) (.k (I 0))⟩])
 (.ite (.t 53) (.reg [.op ⟨some 54, none, .mv (.t 0)⟩,
 .op ⟨some 55, none, .fa 1 (.t 6)⟩,
 .op ⟨some 56, none, .load false 1 (.t 55)⟩,
 .op ⟨some 57, none, .build [(I 0), (I 0), (.str []), (I 0), (.str []), .nils] [(0, 1, (.k (I 6))), (3, 1, (.t 56))]⟩,
 .op ⟨some 58, none, .call 113 [(.t 54), (.t 57)]⟩])
 .skip))
 (.seq (.reg [.op ⟨some 59, none, .mv (.t 0)⟩,
 .op ⟨some 60, none, .nilchk (.t 59)⟩,
 .op ⟨some 61, none, .fa 11 (.t 60)⟩,
 .op ⟨some 62, none, .load false 1 (.t 61)⟩,
 .op ⟨some 63, none, .mv (.t 1)⟩,
 .op ⟨some 64, none, .nilchk (.t 63)⟩,
 .op ⟨some 65, none, .fa 11 (.t 64)⟩,
 .op ⟨some 66, none, .load false 1 (.t 65)⟩,
 .op ⟨none, none, .del false (.t 62) (.t 66)⟩])
 (.seq (.reg [.op ⟨some 67, none, .mv (.t 1)⟩,
 .op ⟨some 68, none, .mv (.t 1)⟩,
 .op ⟨some 69, none, .mv (.t 1)⟩,
 .op ⟨some 70, none, .fa 0 (.t 6)⟩,
 .op ⟨some 71, none, .load false 1 (.t 70)⟩,
 .op ⟨some 72, none, .mv (.t 4)⟩,
 .op ⟨some 73, none, .nilchk (.t 67)⟩,
 .op ⟨some 74, none, .fa 11 (.t 73)⟩,
 .op ⟨none, none, .store 1 (.t 74) (.t 71)⟩,
 .op ⟨some 75, none, .nilchk (.t 68)⟩,
 .op ⟨some 76, none, .fa 12 (.t 75)⟩,
 .op ⟨none, none, .store 1 (.t 76) (.t 72)⟩,
 .op ⟨some 77, none, .nilchk (.t 69)⟩,
 .op ⟨some 78, none, .fa 9 (.t 77)⟩,
 .op ⟨none, none, .store 1 (.t 78) (.k (.bool false))⟩])
 (.seq (.reg [.op ⟨some 79, none, .mv (.t 0)⟩,
 .op ⟨some 80, none, .nilchk (.t 79)⟩,
 .op ⟨some 81, none, .fa 11 (.t 80)⟩,
 .op ⟨some 82, none, .load false 1 (.t 81)⟩,
 .op ⟨some 83, none, .mv (.t 1)⟩,
 .op ⟨some 84, none, .nilchk (.t 83)⟩,
 .op ⟨some 85, none, .fa 11 (.t 84)⟩,
 .op ⟨some 86, none, .load false 1 (.t 85)⟩,
 .op ⟨some 87, none, .mv (.t 1)⟩,
 .op ⟨none, none, .mset false (.t 82) (.t 86) (.t 87)⟩])
 (.seq (.seq (.reg [.op ⟨some 88, none, .fa 2 (.t 6)⟩,
 .op ⟨some 89, none, .load false 1 (.t 88)⟩])
 (.ite (.t 89) (.seq (.reg [.op ⟨some 90, none, .mv (.t 0)⟩,
 .op ⟨some 91, none, .mv (.t 1)⟩,
 .op ⟨some 92, none, .nilchk (.t 91)⟩,
 .op ⟨some 93, none, .fa 11 (.t 92)⟩,
 .op ⟨some 94, none, .load false 1 (.t 93)⟩,
 .op ⟨some 95, none, .mv (.t 4)⟩,
 .op ⟨some 96, none, .build [(I 0), (I 0), (.str []), (I 0), (.str []), .nils] [(0, 1, (.k (I 4))), (3, 1, (.t 94)), (4, 1, (.t 95))]⟩,
 .op ⟨some 97, none, .call 113 [(.t 90), (.t 96)]⟩])
 .ret)
 .skip))
 (.reg [.op ⟨some 98, none, .mv (.t 0)⟩,
 .op ⟨some 99, none, .mv (.t 1)⟩,
 .op ⟨some 100, none, .call 75 [(.t 98), (.t 99)]⟩]))))))))))⟩
theorem g122 : Good 122 c122 := ⟨_, Tryz.func122, by kernel_rfl⟩

def c123 : AFunc := ⟨[], (.reg [.op ⟨some 8, none, .mv (.t 0)⟩,
 .op ⟨some 9, none, .mv (.t 1)⟩,
 .op ⟨some 10, none, .mv (.t 2)⟩,
 .op ⟨some 11, none, .mv (.t 2)⟩,
 .op ⟨some 12, none, .mv (.t 3)⟩,
 .op ⟨some 13, none, .call 167 [(.t 11), (.t 12)]⟩,
 .op ⟨some 14, none, .mv (.t 3)⟩,
 .op ⟨some 15, none, .call 179 [(.t 8), (.t 9), (.t 10), (.t 13), (.t 14)]⟩])⟩
theorem g123 : Good 123 c123 := ⟨_, Tryz.func123, by kernel_rfl⟩

def c124 : AFunc := ⟨[.t 4], (.seq (.reg [.op ⟨some 4, none, .mv (.k (.bool false))⟩])
 (.seq (.seq (.reg [.op ⟨some 7, none, .mv (.t 0)⟩,
 .op ⟨some 8, none, .nilchk (.t 7)⟩,
 .op ⟨some 9, none, .fa 0 (.t 8)⟩,
 .op ⟨some 10, none, .load false 1 (.t 9)⟩,
 .op ⟨some 11, none, .mv (.t 1)⟩,
 .op ⟨some 12, none, .len .sl (.t 11)⟩,
 .op ⟨some 13, none, .call 180 [(.t 10), (.t 12)]⟩,
 .op ⟨some 14, none, .un .not (.t 13)⟩])
 (.ite (.t 14) (.seq (.reg [.op ⟨some 4, none, .mv (.k (.bool false))⟩])
 .ret)
 .skip))
 (.seq (.reg [.op ⟨some 15, none, .mv (.t 0)⟩,
 .op ⟨some 16, none, .nilchk (.t 15)⟩,
 .op ⟨some 17, none, .fa 2 (.t 16)⟩,
 .op ⟨some 18, none, .load false 1 (.t 17)⟩,
 .op ⟨some 19, none, .mv (.t 1)⟩,
 .op ⟨some 20, none, .len .sl (.t 19)⟩,
 .op ⟨some 21, none, .bin .add (.t 18) (.t 20)⟩,
 .op ⟨some 22, none, .nilchk (.t 15)⟩,
 .op ⟨some 23, none, .fa 2 (.t 22)⟩,
 .op ⟨none, none, .store 1 (.t 23) (.t 21)⟩])
 (.seq (.block 0 (.loop (.seq (.seq (.reg [.op ⟨some 24, none, .mv (.t 1)⟩,
 .op ⟨some 25, none, .len .sl (.t 24)⟩,
 .op ⟨some 26, none, .bin .gtr (.t 25) (.k (I 0))⟩])
 (.ite (.t 26) .skip
 (.exit 0)))
 (.block 1 (.seq (.seq (.reg [.op ⟨some 27, none, .mv (.t 0)⟩,
 .op ⟨some 28, none, .nilchk (.t 27)⟩,
 .op ⟨some 29, none, .fa 1 (.t 28)⟩,
 .op ⟨some 30, none, .load false 1 (.t 29)⟩,
 .op ⟨some 31, none, .len .sl (.t 30)⟩,
 .op ⟨some 32, none, .bin .eql (.t 31) (.k (I 0))⟩,
 .op ⟨some 33, none, .mv (.t 32)⟩,
 .op ⟨some 34, some (33, false), .mv (.t 0)⟩,
 .op ⟨some 35, some (33, false), .nilchk (.t 34)⟩,
 .op ⟨some 36, some (33, false), .fa 1 (.t 35)⟩,
 .op ⟨some 37, some (33, false), .load false 1 (.t 36)⟩,
 .op ⟨some 38, some (33, false), .mv (.t 0)⟩,
 .op ⟨some 39, some (33, false), .nilchk (.t 38)⟩,
 .op ⟨some 40, some (33, false), .fa 1 (.t 39)⟩,
 .op ⟨some 41, some (33, false), .load false 1 (.t 40)⟩,
 .op ⟨some 42, some (33, false), .len .sl (.t 41)⟩,
 .op ⟨some 43, some (33, false), .bin .sub (.t 42) (.k (I 1))⟩,
 .op ⟨some 44, some (33, false), .ia (.sl 1) (.t 37) (.t 43)⟩,
 .op ⟨some 45, some (33, false), .load false 1 (.t 44)⟩,
 .op ⟨some 46, some (33, false), .nilchk (.t 45)⟩,
 .op ⟨some 47, some (33, false), .fa 65 (.t 46)⟩,
 .op ⟨some 48, some (33, false), .load false 1 (.t 47)⟩,
 .op ⟨some 49, some (33, false), .bin .eql (.t 48) (.k (I 64))⟩,
 .op ⟨some 50, none, .pick (.t 33) (.k (.bool true)) (.t 49)⟩])
 (.ite (.t 50) (.reg [.op ⟨some 51, none, .mv (.t 0)⟩,
 .op ⟨some 52, none, .mv (.t 0)⟩,
 .op ⟨some 53, none, .nilchk (.t 52)⟩,
 .op ⟨some 54, none, .fa 1 (.t 53)⟩,
 .op ⟨some 55, none, .load false 1 (.t 54)⟩,
 .op ⟨some 56, none, .build [(.int .u8 (0)), (.int .u8 (0)), (.int .u8 (0)), (.int .u8 (0)), (.int .u8 (0)), (.int .u8 (0)), (.int .u8 (0)), (.int .u8 (0)), (.int .u8 (0)), (.int .u8 (0)), (.int .u8 (0)), (.int .u8 (0)), (.int .u8 (0)), (.int .u8 (0)), (.int .u8 (0)), (.int .u8 (0)), (.int .u8 (0)), (.int .u8 (0)), (.int .u8 (0)), (.int .u8 (0)), (.int .u8 (0)), (.int .u8 (0)), (.int .u8 (0)), (.int .u8 (0)), (.int .u8 (0)), (.int .u8 (0)), (.int .u8 (0)), (.int .u8 (0)), (.int .u8 (0)), (.int .u8 (0)), (.int .u8 (0)), (.int .u8 (0)), (.int .u8 (0)), (.int .u8 (0)), (.int .u8 (0)), (.int .u8 (0)), (.int .u8 (0)), (.int .u8 (0)), (.int .u8 (0)), (.int .u8 (0)), (.int .u8 (0)), (.int .u8 (0)), (.int .u8 (0)), (.int .u8 (0)), (.int .u8 (0)), (.int .u8 (0)), (.int .u8 (0)), (.int .u8 (0)), (.int .u8 (0)), (.int .u8 (0)), (.int .u8 (0)), (.int .u8 (0)), (.int .u8 (0)), (.int .u8 (0)), (.int .u8 (0)), (.int .u8 (0)), (.int .u8 (0)), (.int .u8 (0)), (.int .u8 (0)), (.int .u8 (0)), (.int .u8 (0)), (.int .u8 (0)), (.int .u8 (0)), (.int .u8 (0)), (I 0), (I 0)] []⟩,
 .op ⟨some 57, none, .box 66 (.t 56)⟩,
 .op ⟨some 58, none, .bslice 1 1 [.nilp] [(0, 1, (.t 57))]⟩,
 .op ⟨some 59, none, .app 1 8 (.t 55) (.t 58)⟩,
 .op ⟨some 60, none, .nilchk (.t 51)⟩,
 .op ⟨some 61, none, .fa 1 (.t 60)⟩,
 .op ⟨none, none, .store 1 (.t 61) (.t 59)⟩])
 .skip))
 (.seq (.reg [.op ⟨some 62, none, .mv (.t 0)⟩,
 .op ⟨some 63, none, .nilchk (.t 62)⟩,
 .op ⟨some 64, none, .fa 1 (.t 63)⟩,
 .op ⟨some 65, none, .load false 1 (.t 64)⟩,
 .op ⟨some 66, none, .mv (.t 0)⟩,
 .op ⟨some 67, none, .nilchk (.t 66)⟩,
 .op ⟨some 68, none, .fa 1 (.t 67)⟩,
 .op ⟨some 69, none, .load false 1 (.t 68)⟩,
 .op ⟨some 70, none, .len .sl (.t 69)⟩,
 .op ⟨some 71, none, .bin .sub (.t 70) (.k (I 1))⟩,
 .op ⟨some 72, none, .ia (.sl 1) (.t 65) (.t 71)⟩,
 .op ⟨some 73, none, .load false 1 (.t 72)⟩,
 .op ⟨some 5, none, .mv (.t 73)⟩])
 (.seq (.reg [.op ⟨some 74, none, .mv (.t 5)⟩,
 .op ⟨some 75, none, .nilchk (.t 74)⟩,
 .op ⟨some 76, none, .fa 0 (.t 75)⟩,
 .op ⟨some 77, none, .mv (.t 5)⟩,
 .op ⟨some 78, none, .nilchk (.t 77)⟩,
 .op ⟨some 79, none, .fa 65 (.t 78)⟩,
 .op ⟨some 80, none, .load false 1 (.t 79)⟩,
 .op ⟨some 81, none, .slc (.arr 64 1) (.t 76) (some (.t 80)) none none⟩,
 .op ⟨some 82, none, .mv (.t 1)⟩,
 .op ⟨some 83, none, .copy 1 (.t 81) (.t 82)⟩,
 .op ⟨some 6, none, .mv (.t 83)⟩])
 (.seq (.reg [.op ⟨some 84, none, .mv (.t 5)⟩,
 .op ⟨some 85, none, .nilchk (.t 84)⟩,
 .op ⟨some 86, none, .fa 65 (.t 85)⟩,
 .op ⟨some 87, none, .load false 1 (.t 86)⟩,
 .op ⟨some 88, none, .mv (.t 6)⟩,
 .op ⟨some 89, none, .bin .add (.t 87) (.t 88)⟩,
 .op ⟨some 90, none, .nilchk (.t 84)⟩,
 .op ⟨some 91, none, .fa 65 (.t 90)⟩,
 .op ⟨none, none, .store 1 (.t 91) (.t 89)⟩])
 (.reg [.op ⟨some 92, none, .mv (.t 1)⟩,
 .op ⟨some 93, none, .mv (.t 6)⟩,
 .op ⟨some 94, none, .slc (.sl 1) (.t 92) (some (.t 93)) none none⟩,
 .op ⟨some 1, none, .mv (.t 94)⟩])))))))))
 (.seq (.reg [.op ⟨some 4, none, .mv (.k (.bool true))⟩])
 .ret)))))⟩
theorem g124 : Good 124 c124 := ⟨_, Tryz.func124, by kernel_rfl⟩

def c125 : AFunc := ⟨[.c 4 true 5, .t 5, .t 6], (.seq (.reg [.op ⟨some 4, none, .alloc [(I 0), (.str []), (I 0), .nils, .nils]⟩,
 .op ⟨some 5, none, .mv (.k (I 0))⟩,
 .op ⟨some 6, none, .mv (.k (.bool false))⟩])
 (.block 0 (.loop (.block 1 (.seq (.reg [.op ⟨some 11, none, .mv (.t 0)⟩,
 .op ⟨some 12, none, .nilchk (.t 11)⟩,
 .op ⟨some 13, none, .fa 8 (.t 12)⟩,
 .op ⟨some 14, none, .load false 1 (.t 13)⟩,
 .op ⟨some 15, none, .mv (.t 0)⟩,
 .op ⟨some 16, none, .nilchk (.t 15)⟩,
 .op ⟨some 17, none, .fa 8 (.t 16)⟩,
 .op ⟨some 18, none, .load false 1 (.t 17)⟩,
 .op ⟨some 21, none, .mv (.t 0)⟩,
 .op ⟨some 22, none, .nilchk (.t 21)⟩,
 .op ⟨some 23, none, .fa 1 (.t 22)⟩,
 .op ⟨some 24, none, .load false 1 (.t 23)⟩,
 .op ⟨some 25, none, .mv (.t 1)⟩,
 .op ⟨some 7, none, .alloc [(I 0), (.str []), (I 0), .nils, .nils]⟩,
 .op ⟨some 19, none, .call 117 [(.t 18)]⟩,
 .chk ⟨some 24, none, .load false 1 (.t 23)⟩,
 .chk ⟨some 14, none, .load false 1 (.t 13)⟩,
 .op ⟨some 20, none, .call 116 [(.t 14), (.t 19)]⟩,
 .chk ⟨some 24, none, .load false 1 (.t 23)⟩,
 .op ⟨some 26, none, .call 181 [(.t 20), (.t 24), (.t 25)]⟩,
 .op ⟨some 10, none, .mv (.t 26)⟩,
 .op ⟨some 27, none, .ext 0 (.t 10)⟩,
 .op ⟨some 28, none, .ext 1 (.t 10)⟩,
 .op ⟨some 29, none, .ext 2 (.t 10)⟩,
 .op ⟨none, none, .store 5 (.t 7) (.t 27)⟩,
 .op ⟨some 8, none, .mv (.t 28)⟩,
 .op ⟨some 9, none, .mv (.t 29)⟩])
 (.seq (.seq (.reg [.op ⟨some 30, none, .mv (.t 8)⟩,
 .op ⟨some 31, none, .bin .eql (.t 30) (.k (I 0))⟩,
 .op ⟨some 32, none, .mv (.t 31)⟩,
 .op ⟨some 33, some (32, false), .mv (.t 9)⟩,
 .op ⟨some 34, some (32, false), .un .not (.t 33)⟩,
 .op ⟨some 35, none, .pick (.t 32) (.k (.bool true)) (.t 34)⟩,
 .op ⟨some 36, none, .mv (.t 35)⟩,
 .op ⟨some 37, some (36, false), .fa 0 (.t 7)⟩,
 .op ⟨some 38, some (36, false), .load false 1 (.t 37)⟩,
 .op ⟨some 39, some (36, false), .bin .geq (.t 38) (.k (I 200))⟩,
 .op ⟨some 40, none, .pick (.t 36) (.k (.bool true)) (.t 39)⟩])
 (.ite (.t 40) (.seq (.reg [.op ⟨some 41, none, .load true 5 (.t 7)⟩,
 .op ⟨some 42, none, .mv (.t 8)⟩,
 .op ⟨some 43, none, .mv (.t 9)⟩,
 .op ⟨none, none, .store 5 (.t 4) (.t 41)⟩,
 .op ⟨some 5, none, .mv (.t 42)⟩,
 .op ⟨some 6, none, .mv (.t 43)⟩])
 .ret)
 .skip))
 (.reg [.op ⟨some 44, none, .mv (.t 0)⟩,
 .op ⟨some 45, none, .nilchk (.t 44)⟩,
 .op ⟨some 46, none, .fa 8 (.t 45)⟩,
 .op ⟨some 47, none, .load false 1 (.t 46)⟩,
 .op ⟨some 48, none, .mv (.t 8)⟩,
 .op ⟨some 49, none, .call 182 [(.t 47), (.t 48)]⟩])))))))⟩
theorem g125 : Good 125 c125 := ⟨_, Tryz.func125, by kernel_rfl⟩

def c126 : AFunc := ⟨[], (.seq (.reg [.op ⟨some 7, none, .box 5 (.t 2)⟩])
 (.seq (.reg [.op ⟨some 10, none, .mv (.t 0)⟩,
 .op ⟨some 11, none, .nilchk (.t 10)⟩,
 .op ⟨some 12, none, .fa 13 (.t 11)⟩,
 .op ⟨some 13, none, .load false 1 (.t 12)⟩,
 .op ⟨some 14, none, .mv (.t 1)⟩,
 .op ⟨some 15, none, .nilchk (.t 14)⟩,
 .op ⟨some 16, none, .fa 12 (.t 15)⟩,
 .op ⟨some 17, none, .load false 1 (.t 16)⟩,
 .op ⟨some 18, none, .call 183 [(.t 13), (.t 17)]⟩])
 (.seq (.block 0 (.seq (.reg [.op ⟨some 29, none, .mv (.t 4)⟩,
 .op ⟨some 28, none, .mv (.t 29)⟩])
 (.ite (.t 28) (.reg [.op ⟨some 30, none, .mv (.t 0)⟩,
 .op ⟨some 31, none, .mv (.t 1)⟩,
 .op ⟨some 32, none, .nilchk (.t 31)⟩,
 .op ⟨some 33, none, .fa 11 (.t 32)⟩,
 .op ⟨some 34, none, .load false 1 (.t 33)⟩,
 .op ⟨some 35, none, .call 118 [(.t 30), (.t 34), (.k (.bool false))]⟩])
 (.seq (.reg [.op ⟨some 37, none, .fa 3 (.t 7)⟩,
 .op ⟨some 38, none, .load false 1 (.t 37)⟩,
 .op ⟨some 39, none, .fa 2 (.t 7)⟩,
 .op ⟨some 40, none, .load false 1 (.t 39)⟩,
 .op ⟨some 41, none, .call 184 [(.t 38), (.t 40)]⟩,
 .op ⟨some 42, none, .mv (.t 41)⟩,
 .op ⟨some 43, some (42, false), .mv (.t 1)⟩,
 .op ⟨some 44, some (42, false), .nilchk (.t 43)⟩,
 .op ⟨some 45, some (42, false), .fa 8 (.t 44)⟩,
 .op ⟨some 46, some (42, false), .load false 1 (.t 45)⟩,
 .op ⟨some 47, some (42, false), .call 117 [(.t 46)]⟩,
 .op ⟨some 48, some (42, false), .mv (.t 3)⟩,
 .op ⟨some 49, some (42, false), .bin .gtr (.t 47) (.t 48)⟩,
 .op ⟨some 50, none, .pick (.t 42) (.k (.bool true)) (.t 49)⟩,
 .op ⟨some 36, none, .mv (.t 50)⟩])
 (.ite (.t 36) (.reg [.op ⟨some 51, none, .mv (.t 0)⟩,
 .op ⟨some 52, none, .mv (.t 1)⟩,
 .op ⟨some 53, none, .nilchk (.t 52)⟩,
 .op ⟨some 54, none, .fa 11 (.t 53)⟩,
 .op ⟨some 55, none, .load false 1 (.t 54)⟩,
 .op ⟨some 56, none, .call 118 [(.t 51), (.t 55), (.k (.bool true))]⟩])
 (.reg [.op ⟨some 19, none, .mv (.t 0)⟩,
 .op ⟨some 20, none, .nilchk (.t 19)⟩,
 .op ⟨some 21, none, .fa 12 (.t 20)⟩,
 .op ⟨some 22, none, .load false 1 (.t 21)⟩,
 .op ⟨some 23, none, .mv (.t 1)⟩,
 .op ⟨some 24, none, .nilchk (.t 23)⟩,
 .op ⟨some 25, none, .fa 11 (.t 24)⟩,
 .op ⟨some 26, none, .load false 1 (.t 25)⟩,
 .op ⟨some 27, none, .call 185 [(.t 22), (.t 26)]⟩]))))))
 (.seq (.reg [.op ⟨some 57, none, .mv (.t 0)⟩,
 .op ⟨some 58, none, .mv (.t 1)⟩,
 .op ⟨some 59, none, .fa 0 (.t 7)⟩,
 .op ⟨some 60, none, .load false 1 (.t 59)⟩,
 .op ⟨some 61, none, .load true 5 (.t 7)⟩,
 .op ⟨some 62, none, .mv (.t 1)⟩,
 .op ⟨some 63, none, .nilchk (.t 62)⟩,
 .op ⟨some 64, none, .fa 1 (.t 63)⟩,
 .op ⟨some 65, none, .load false 1 (.t 64)⟩,
 .op ⟨some 66, none, .mv (.t 1)⟩,
 .op ⟨some 67, none, .nilchk (.t 66)⟩,
 .op ⟨some 68, none, .fa 4 (.t 67)⟩,
 .op ⟨some 69, none, .load false 1 (.t 68)⟩,
 .op ⟨some 72, none, .mv (.t 1)⟩,
 .op ⟨some 73, none, .nilchk (.t 72)⟩,
 .op ⟨some 74, none, .fa 4 (.t 73)⟩,
 .op ⟨some 75, none, .load false 1 (.t 74)⟩,
 .op ⟨some 70, none, .call 186 [(.t 61), (.t 65), (.t 69)]⟩,
 .chk ⟨some 75, none, .load false 1 (.t 74)⟩,
 .chk ⟨some 60, none, .load false 1 (.t 59)⟩,
 .op ⟨some 71, none, .call 90 [(.t 70)]⟩,
 .chk ⟨some 75, none, .load false 1 (.t 74)⟩,
 .chk ⟨some 60, none, .load false 1 (.t 59)⟩,
 .op ⟨some 76, none, .call 179 [(.t 57), (.t 58), (.t 60), (.t 71), (.t 75)]⟩])
 (.reg [.op ⟨some 77, none, .mv (.t 0)⟩,
 .op ⟨some 78, none, .mv (.t 1)⟩,
 .op ⟨some 79, none, .nilchk (.t 78)⟩,
 .op ⟨some 80, none, .fa 0 (.t 79)⟩,
 .op ⟨some 81, none, .load false 1 (.t 80)⟩,
 .op ⟨some 82, none, .call 114 [(.t 77), (.t 81)]⟩])))))⟩
theorem g126 : Good 126 c126 := ⟨_, Tryz.func126, by kernel_rfl⟩

def c127 : AFunc := ⟨[.c 2 true 8, .t 3], (.seq (.reg [.op ⟨some 2, none, .alloc [.nils, .nils, .nils, .nils, (I 0), (I 0), (I 0), (I 0)]⟩,
 .op ⟨some 3, none, .mv (.k (I 0))⟩])
 (.seq (.seq (.reg [.op ⟨some 21, none, .mv (.t 0)⟩,
 .op ⟨some 22, none, .len .str (.t 21)⟩,
 .op ⟨some 23, none, .bin .gtr (.t 22) (.k (I 4096))⟩])
 (.ite (.t 23) (.seq (.reg [.op ⟨some 24, none, .build [.nils, .nils, .nils, .nils, (I 0), (I 0), (I 0), (I 0)] []⟩,
 .op ⟨none, none, .store 8 (.t 2) (.t 24)⟩,
 .op ⟨some 3, none, .mv (.k (I 2))⟩])
 .ret)
 .skip))
 (.seq (.reg [.op ⟨some 25, none, .mv (.t 0)⟩,
 .op ⟨some 26, none, .call 34 [(.t 25), (.k (.str [10]))]⟩,
 .op ⟨some 4, none, .mv (.t 26)⟩])
 (.seq (.seq (.reg [.op ⟨some 27, none, .mv (.t 4)⟩,
 .op ⟨some 28, none, .mv (.t 4)⟩,
 .op ⟨some 29, none, .len .sl (.t 28)⟩,
 .op ⟨some 30, none, .bin .sub (.t 29) (.k (I 1))⟩,
 .op ⟨some 31, none, .ia (.sl 1) (.t 27) (.t 30)⟩,
 .op ⟨some 32, none, .load false 1 (.t 31)⟩,
 .op ⟨some 33, none, .bin .neq (.t 32) (.k (.str []))⟩])
 (.ite (.t 33) (.seq (.reg [.op ⟨some 34, none, .build [.nils, .nils, .nils, .nils, (I 0), (I 0), (I 0), (I 0)] []⟩,
 .op ⟨none, none, .store 8 (.t 2) (.t 34)⟩,
 .op ⟨some 3, none, .mv (.k (I 20))⟩])
 .ret)
 .skip))
 (.seq (.reg [.op ⟨some 35, none, .mv (.t 4)⟩,
 .op ⟨some 36, none, .mv (.t 4)⟩,
 .op ⟨some 37, none, .len .sl (.t 36)⟩,
 .op ⟨some 38, none, .bin .sub (.t 37) (.k (I 1))⟩,
 .op ⟨some 39, none, .slc (.sl 1) (.t 35) none (some (.t 38)) none⟩,
 .op ⟨some 4, none, .mv (.t 39)⟩])
 (.seq (.reg [.op ⟨some 40, none, .call 187 []⟩,
 .op ⟨some 5, none, .mv (.t 40)⟩])
 (.seq (.seq (.reg [.op ⟨some 41, none, .mv (.t 4)⟩,
 .op ⟨some 42, none, .len .sl (.t 41)⟩,
 .op ⟨some 43, none, .mv (.k (I 0))⟩])
 (.block 0 (.loop (.seq (.reg [.op ⟨some 44, none, .bin .lss (.t 43) (.t 42)⟩])
 (.seq (.ite (.t 44) .skip
 (.exit 0))
 (.seq (.block 1 (.seq (.reg [.op ⟨some 45, none, .ia (.sl 1) (.t 41) (.t 43)⟩,
 .op ⟨some 46, none, .load false 1 (.t 45)⟩,
 .op ⟨some 7, none, .mv (.t 46)⟩])
 (.seq (.reg [.op ⟨some 48, none, .mv (.t 7)⟩,
 .op ⟨some 49, none, .call 24 [(.t 48), (.k (.str [32]))]⟩,
 .op ⟨some 47, none, .mv (.t 49)⟩,
 .op ⟨some 50, none, .ext 0 (.t 47)⟩,
 .op ⟨some 51, none, .ext 1 (.t 47)⟩,
 .op ⟨some 52, none, .ext 2 (.t 47)⟩,
 .op ⟨some 8, none, .mv (.t 50)⟩,
 .op ⟨some 9, none, .mv (.t 51)⟩,
 .op ⟨some 10, none, .mv (.t 52)⟩])
 (.seq (.reg [.op ⟨some 53, none, .mv (.t 5)⟩,
 .op ⟨some 54, none, .mv (.t 8)⟩,
 .op ⟨some 55, none, .call 164 [(.t 53), (.t 54)]⟩,
 .op ⟨some 56, none, .un .not (.t 55)⟩])
 (.ite (.t 56) (.seq (.reg [.op ⟨some 57, none, .build [.nils, .nils, .nils, .nils, (I 0), (I 0), (I 0), (I 0)] []⟩,
 .op ⟨none, none, .store 8 (.t 2) (.t 57)⟩,
 .op ⟨some 3, none, .mv (.k (I 70))⟩])
 .ret)
 .skip)))))
 (.reg [.op ⟨some 58, none, .bin .add (.t 43) (.k (I 1))⟩,
 .op ⟨some 43, none, .mv (.t 58)⟩])))))))
 (.seq (.reg [.op ⟨some 11, none, .alloc [.nils, .nils, .nils, .nils, (I 0), (I 0), (I 0), (I 0)]⟩])
 (.seq (.reg [.op ⟨some 12, none, .mv (.k (I 0))⟩])
 (.seq (.reg [.op ⟨some 13, none, .mv (.k (I 0))⟩])
 (.seq (.seq (.reg [.op ⟨some 59, none, .mv (.t 4)⟩,
 .op ⟨some 60, none, .len .sl (.t 59)⟩,
 .op ⟨some 61, none, .mv (.k (I 0))⟩])
 (.block 2 (.loop (.seq (.reg [.op ⟨some 62, none, .bin .lss (.t 61) (.t 60)⟩])
 (.seq (.ite (.t 62) .skip
 (.exit 2))
 (.seq (.block 3 (.seq (.reg [.op ⟨some 63, none, .ia (.sl 1) (.t 59) (.t 61)⟩,
 .op ⟨some 64, none, .load false 1 (.t 63)⟩,
 .op ⟨some 15, none, .mv (.t 64)⟩])
 (.seq (.reg [.op ⟨some 66, none, .mv (.t 15)⟩,
 .op ⟨some 67, none, .call 24 [(.t 66), (.k (.str [32]))]⟩,
 .op ⟨some 65, none, .mv (.t 67)⟩,
 .op ⟨some 68, none, .ext 0 (.t 65)⟩,
 .op ⟨some 69, none, .ext 1 (.t 65)⟩,
 .op ⟨some 70, none, .ext 2 (.t 65)⟩,
 .op ⟨some 16, none, .mv (.t 68)⟩,
 .op ⟨some 17, none, .mv (.t 69)⟩,
 .op ⟨some 18, none, .mv (.t 70)⟩])
 (.seq (.reg [.op ⟨some 71, none, .mv (.t 5)⟩,
 .op ⟨some 72, none, .mv (.t 16)⟩,
 .op ⟨some 73, none, .call 188 [(.t 71), (.t 72)]⟩,
 .op ⟨some 19, none, .mv (.t 73)⟩])
 (.seq (.seq (.reg [.op ⟨some 74, none, .mv (.t 18)⟩,
 .op ⟨some 75, none, .un .not (.t 74)⟩,
 .op ⟨some 76, none, .mv (.t 75)⟩,
 .op ⟨some 77, some (76, false), .mv (.t 19)⟩,
 .op ⟨some 78, some (76, false), .mv (.t 12)⟩,
 .op ⟨some 79, some (76, false), .bin .lss (.t 77) (.t 78)⟩,
 .op ⟨some 80, none, .pick (.t 76) (.k (.bool true)) (.t 79)⟩,
 .op ⟨some 81, none, .mv (.t 80)⟩,
 .op ⟨some 82, some (81, false), .mv (.t 19)⟩,
 .op ⟨some 83, some (81, false), .mv (.t 12)⟩,
 .op ⟨some 84, some (81, false), .bin .eql (.t 82) (.t 83)⟩,
 .op ⟨some 85, some (81, false), .mv (.t 84)⟩,
 .op ⟨some 86, some (85, true), .mv (.t 19)⟩,
 .op ⟨some 87, some (85, true), .bin .gtr (.t 86) (.k (I 3))⟩,
 .op ⟨some 88, some (81, false), .pick (.t 85) (.t 87) (.k (.bool false))⟩,
 .op ⟨some 89, some (81, false), .mv (.t 88)⟩,
 .op ⟨some 90, some (89, true), .mv (.t 13)⟩,
 .op ⟨some 91, some (89, true), .bin .gtr (.t 90) (.k (I 0))⟩,
 .op ⟨some 92, some (81, false), .pick (.t 89) (.t 91) (.k (.bool false))⟩,
 .op ⟨some 93, none, .pick (.t 81) (.k (.bool true)) (.t 92)⟩,
 .op ⟨some 94, none, .mv (.t 93)⟩,
 .op ⟨some 95, some (94, false), .mv (.t 16)⟩,
 .op ⟨some 96, some (94, false), .mv (.t 17)⟩,
 .op ⟨some 97, some (94, false), .call 189 [(.t 11), (.t 95), (.t 96)]⟩,
 .op ⟨some 98, some (94, false), .un .not (.t 97)⟩,
 .op ⟨some 99, none, .pick (.t 94) (.k (.bool true)) (.t 98)⟩])
 (.ite (.t 99) (.seq (.reg [.op ⟨some 100, none, .build [.nils, .nils, .nils, .nils, (I 0), (I 0), (I 0), (I 0)] []⟩,
 .op ⟨none, none, .store 8 (.t 2) (.t 100)⟩,
 .op ⟨some 3, none, .mv (.k (I 20))⟩])
 .ret)
 .skip))
 (.seq (.reg [.op ⟨some 101, none, .mv (.t 19)⟩,
 .op ⟨some 12, none, .mv (.t 101)⟩])
 (.seq (.reg [.op ⟨some 102, none, .mv (.t 19)⟩,
 .op ⟨some 103, none, .bin .gtr (.t 102) (.k (I 3))⟩])
 (.ite (.t 103) (.reg [.op ⟨some 104, none, .mv (.t 13)⟩,
 .op ⟨some 105, none, .bin .add (.t 104) (.k (I 1))⟩,
 .op ⟨some 13, none, .mv (.t 105)⟩])
 .skip))))))))
 (.reg [.op ⟨some 106, none, .bin .add (.t 61) (.k (I 1))⟩,
 .op ⟨some 61, none, .mv (.t 106)⟩])))))))
 (.seq (.seq (.reg [.op ⟨some 107, none, .mv (.t 13)⟩,
 .op ⟨some 108, none, .bin .neq (.t 107) (.k (I 4))⟩])
 (.ite (.t 108) (.seq (.reg [.op ⟨some 109, none, .build [.nils, .nils, .nils, .nils, (I 0), (I 0), (I 0), (I 0)] []⟩,
 .op ⟨none, none, .store 8 (.t 2) (.t 109)⟩,
 .op ⟨some 3, none, .mv (.k (I 20))⟩])
 .ret)
 .skip))
 (.seq (.seq (.reg [.op ⟨some 110, none, .load true 8 (.t 11)⟩,
 .op ⟨some 111, none, .call 190 [(.t 110)]⟩,
 .op ⟨some 20, none, .mv (.t 111)⟩])
 (.seq (.reg [.op ⟨some 112, none, .mv (.t 20)⟩,
 .op ⟨some 113, none, .bin .neq (.t 112) (.k (I 0))⟩])
 (.ite (.t 113) (.seq (.reg [.op ⟨some 114, none, .build [.nils, .nils, .nils, .nils, (I 0), (I 0), (I 0), (I 0)] []⟩,
 .op ⟨some 115, none, .mv (.t 20)⟩,
 .op ⟨none, none, .store 8 (.t 2) (.t 114)⟩,
 .op ⟨some 3, none, .mv (.t 115)⟩])
 .ret)
 .skip)))
 (.seq (.reg [.op ⟨some 116, none, .load true 8 (.t 11)⟩,
 .op ⟨none, none, .store 8 (.t 2) (.t 116)⟩,
 .op ⟨some 3, none, .mv (.k (I 0))⟩])
 .ret))))))))))))))⟩
theorem g127 : Good 127 c127 := ⟨_, Tryz.func127, by kernel_rfl⟩

def c130 : AFunc := ⟨[.t 2], (.seq (.reg [.op ⟨some 1, none, .box 1 (.t 0)⟩,
 .op ⟨some 2, none, .mv (.k .nilf)⟩])
 (.seq (.reg [.op ⟨some 3, none, .mkf 194 [] [(.t 1)]⟩,
 .op ⟨some 2, none, .mv (.t 3)⟩])
 .ret))⟩
theorem g130 : Good 130 c130 := ⟨_, Tryz.func130, by kernel_rfl⟩

def c131 : AFunc := ⟨[.t 2], (.seq (.reg [.op ⟨some 2, none, .mv (.k (I 0))⟩])
 (.seq (.reg [.op ⟨some 3, none, .mv (.t 0)⟩,
 .op ⟨some 4, none, .nilchk (.t 3)⟩,
 .op ⟨some 5, none, .fa 1 (.t 4)⟩,
 .op ⟨some 6, none, .load false 1 (.t 5)⟩,
 .op ⟨some 8, none, .mv (.t 0)⟩,
 .op ⟨some 9, none, .nilchk (.t 8)⟩,
 .op ⟨some 10, none, .fa 2 (.t 9)⟩,
 .op ⟨some 11, none, .load false 1 (.t 10)⟩,
 .op ⟨some 7, none, .call 117 [(.t 6)]⟩,
 .chk ⟨some 11, none, .load false 1 (.t 10)⟩,
 .op ⟨some 12, none, .mn (.t 7) (.t 11)⟩,
 .op ⟨some 2, none, .mv (.t 12)⟩])
 .ret))⟩
theorem g131 : Good 131 c131 := ⟨_, Tryz.func131, by kernel_rfl⟩

def c132 : AFunc := ⟨[.t 4], (.seq (.reg [.op ⟨some 4, none, .mv (.k .nils)⟩])
 (.seq (.reg [.op ⟨some 9, none, .mv (.t 1)⟩,
 .op ⟨some 10, none, .call 195 [(.t 9)]⟩,
 .op ⟨some 5, none, .mv (.t 10)⟩])
 (.seq (.seq (.reg [.op ⟨some 11, none, .mv (.t 5)⟩,
 .op ⟨some 12, none, .len .sl (.t 11)⟩,
 .op ⟨some 13, none, .bin .gtr (.t 12) (.k (I 0))⟩])
 (.ite (.t 13) (.reg [.op ⟨some 14, none, .mv (.t 0)⟩,
 .op ⟨some 15, none, .nilchk (.t 14)⟩,
 .op ⟨some 16, none, .fa 1 (.t 15)⟩,
 .op ⟨some 17, none, .load false 1 (.t 16)⟩,
 .op ⟨some 18, none, .mv (.t 0)⟩,
 .op ⟨some 19, none, .nilchk (.t 18)⟩,
 .op ⟨some 20, none, .fa 0 (.t 19)⟩,
 .op ⟨some 21, none, .load false 1 (.t 20)⟩,
 .op ⟨some 22, none, .bin .add (.t 17) (.t 21)⟩,
 .op ⟨some 23, none, .nilchk (.t 14)⟩,
 .op ⟨some 24, none, .fa 1 (.t 23)⟩,
 .op ⟨none, none, .store 1 (.t 24) (.t 22)⟩])
 .skip))
 (.seq (.reg [.op ⟨some 6, none, .mv (.k .nils)⟩])
 (.seq (.block 0 (.loop (.seq (.seq (.reg [.op ⟨some 25, none, .mv (.t 5)⟩,
 .op ⟨some 26, none, .len .sl (.t 25)⟩,
 .op ⟨some 27, none, .bin .gtr (.t 26) (.k (I 0))⟩])
 (.ite (.t 27) .skip
 (.exit 0)))
 (.block 1 (.seq (.reg [.op ⟨some 28, none, .mv (.t 0)⟩,
 .op ⟨some 29, none, .mv (.t 5)⟩,
 .op ⟨some 30, none, .call 196 [(.t 28), (.t 29)]⟩,
 .op ⟨some 7, none, .mv (.t 30)⟩])
 (.seq (.reg [.op ⟨some 31, none, .mv (.t 5)⟩,
 .op ⟨some 32, none, .mv (.t 7)⟩,
 .op ⟨some 33, none, .ia (.sl 2) (.t 31) (.t 32)⟩,
 .op ⟨some 34, none, .fa 1 (.t 33)⟩,
 .op ⟨some 35, none, .load false 1 (.t 34)⟩,
 .op ⟨some 36, none, .mn (.t 35) (.k (I 64))⟩,
 .op ⟨some 8, none, .mv (.t 36)⟩])
 (.seq (.seq (.reg [.op ⟨some 37, none, .mv (.t 8)⟩,
 .op ⟨some 38, none, .mv (.t 0)⟩,
 .op ⟨some 39, none, .nilchk (.t 38)⟩,
 .op ⟨some 40, none, .fa 1 (.t 39)⟩,
 .op ⟨some 41, none, .load false 1 (.t 40)⟩,
 .op ⟨some 42, none, .bin .gtr (.t 37) (.t 41)⟩])
 (.ite (.t 42) (.seq (.reg [.op ⟨some 43, none, .mv (.t 6)⟩,
 .op ⟨some 4, none, .mv (.t 43)⟩])
 .ret)
 .skip))
 (.seq (.reg [.op ⟨some 44, none, .mv (.t 6)⟩,
 .op ⟨some 45, none, .mv (.t 5)⟩,
 .op ⟨some 46, none, .mv (.t 7)⟩,
 .op ⟨some 47, none, .ia (.sl 2) (.t 45) (.t 46)⟩,
 .op ⟨some 48, none, .fa 0 (.t 47)⟩,
 .op ⟨some 49, none, .load false 1 (.t 48)⟩,
 .op ⟨some 50, none, .mv (.t 8)⟩,
 .op ⟨some 51, none, .build [(I 0), (I 0)] [(0, 1, (.t 49)), (1, 1, (.t 50))]⟩,
 .op ⟨some 52, none, .bslice 2 1 [(I 0), (I 0)] [(0, 2, (.t 51))]⟩,
 .op ⟨some 53, none, .app 2 16 (.t 44) (.t 52)⟩,
 .op ⟨some 6, none, .mv (.t 53)⟩])
 (.seq (.reg [.op ⟨some 54, none, .mv (.t 0)⟩,
 .op ⟨some 55, none, .mv (.t 0)⟩,
 .op ⟨some 56, none, .mv (.t 5)⟩,
 .op ⟨some 57, none, .mv (.t 7)⟩,
 .op ⟨some 58, none, .ia (.sl 2) (.t 56) (.t 57)⟩,
 .op ⟨some 59, none, .fa 0 (.t 58)⟩,
 .op ⟨some 60, none, .load false 1 (.t 59)⟩,
 .op ⟨some 61, none, .nilchk (.t 54)⟩,
 .op ⟨some 62, none, .fa 2 (.t 61)⟩,
 .op ⟨none, none, .store 1 (.t 62) (.t 60)⟩,
 .op ⟨some 63, none, .nilchk (.t 55)⟩,
 .op ⟨some 64, none, .fa 3 (.t 63)⟩,
 .op ⟨none, none, .store 1 (.t 64) (.k (.bool true))⟩])
 (.seq (.reg [.op ⟨some 65, none, .mv (.t 0)⟩,
 .op ⟨some 66, none, .nilchk (.t 65)⟩,
 .op ⟨some 67, none, .fa 1 (.t 66)⟩,
 .op ⟨some 68, none, .load false 1 (.t 67)⟩,
 .op ⟨some 69, none, .mv (.t 8)⟩,
 .op ⟨some 70, none, .bin .sub (.t 68) (.t 69)⟩,
 .op ⟨some 71, none, .nilchk (.t 65)⟩,
 .op ⟨some 72, none, .fa 1 (.t 71)⟩,
 .op ⟨none, none, .store 1 (.t 72) (.t 70)⟩])
 (.seq (.reg [.op ⟨some 73, none, .mv (.t 5)⟩,
 .op ⟨some 74, none, .mv (.t 7)⟩,
 .op ⟨some 75, none, .ia (.sl 2) (.t 73) (.t 74)⟩,
 .op ⟨some 76, none, .fa 1 (.t 75)⟩,
 .op ⟨some 77, none, .load false 1 (.t 76)⟩,
 .op ⟨some 78, none, .mv (.t 8)⟩,
 .op ⟨some 79, none, .bin .sub (.t 77) (.t 78)⟩,
 .op ⟨some 80, none, .ia (.sl 2) (.t 73) (.t 74)⟩,
 .op ⟨some 81, none, .fa 1 (.t 80)⟩,
 .op ⟨none, none, .store 1 (.t 81) (.t 79)⟩])
 (.seq (.reg [.op ⟨some 82, none, .mv (.t 5)⟩,
 .op ⟨some 83, none, .mv (.t 7)⟩,
 .op ⟨some 84, none, .ia (.sl 2) (.t 82) (.t 83)⟩,
 .op ⟨some 85, none, .fa 1 (.t 84)⟩,
 .op ⟨some 86, none, .load false 1 (.t 85)⟩,
 .op ⟨some 87, none, .bin .eql (.t 86) (.k (I 0))⟩])
 (.ite (.t 87) (.reg [.op ⟨some 88, none, .mv (.t 5)⟩,
 .op ⟨some 89, none, .mv (.t 7)⟩,
 .op ⟨some 90, none, .mv (.t 7)⟩,
 .op ⟨some 91, none, .bin .add (.t 90) (.k (I 1))⟩,
 .op ⟨some 92, none, .call 197 [(.t 88), (.t 89), (.t 91)]⟩,
 .op ⟨some 5, none, .mv (.t 92)⟩])
 .skip)))))))))))))
 (.seq (.reg [.op ⟨some 93, none, .mv (.t 0)⟩,
 .op ⟨some 94, none, .nilchk (.t 93)⟩,
 .op ⟨some 95, none, .fa 1 (.t 94)⟩,
 .op ⟨none, none, .store 1 (.t 95) (.k (I 0))⟩])
 (.seq (.reg [.op ⟨some 96, none, .mv (.t 6)⟩,
 .op ⟨some 4, none, .mv (.t 96)⟩])
 .ret)))))))⟩
theorem g132 : Good 132 c132 := ⟨_, Tryz.func132, by kernel_rfl⟩

end Go.Proofs.Tryz
