/- What stands for itself, at this seat. -/
import Derived.Test.YtdbihpcdlmaejaaGreatDoorPre
import Derived.Test.YtdbihpcdlmaejaaGreatDoorAiG
import Derived.Test.YtdbihpcdlmaejaaGreatDoorLay
set_option maxRecDepth 1000000
set_option maxHeartbeats 4000000
namespace Go.Proofs.Tryz
open Go Go.Ai Go.Proofs Go.RowKit Go.Maps Go.Sort Go.Shelf

theorem mixed : Tryz.prog.follows .mixedOrders = true := by kernel_rfl

theorem e145 : Ext Tryz.prog 145 Tryz.f145 := ⟨Tryz.func145, by kernel_rfl, by kernel_rfl, by kernel_rfl⟩
theorem p145 : PrimOK GL Tryz.prog 145 pIdxF := by rw [pIdxF_eq]; exact idx_ok e145 (by rfl)
theorem e149 : Ext Tryz.prog 149 Tryz.f149 := ⟨Tryz.func149, by kernel_rfl, by kernel_rfl, by kernel_rfl⟩
theorem p149 : PrimOK GL Tryz.prog 149 pCntF := by rw [pCntF_eq]; exact cnt_ok e149 (by rfl)
theorem e334 : Ext Tryz.prog 334 Tryz.f334 := ⟨Tryz.func334, by kernel_rfl, by kernel_rfl, by kernel_rfl⟩
theorem p334 : PrimOK GL Tryz.prog 334 (pLoad .u32) := load_ok e334 (by rfl)
theorem e295 : Ext Tryz.prog 295 Tryz.f295 := ⟨Tryz.func295, by kernel_rfl, by kernel_rfl, by kernel_rfl⟩
theorem p295 : PrimOK GL Tryz.prog 295 (pLoad .i64) := load_ok e295 (by rfl)
theorem e296 : Ext Tryz.prog 296 Tryz.f296 := ⟨Tryz.func296, by kernel_rfl, by kernel_rfl, by kernel_rfl⟩
theorem p296 : PrimOK GL Tryz.prog 296 (pCas .i64) := cas_ok e296 (by rfl)

theorem body_of {f : Func} (h : f.body.isSome = true) : f.body = some (cBody f) := by
  unfold cBody
  cases hb : f.body with
  | none => rw [hb] at h; cases h
  | some c => rfl

theorem p280 : PrimOK GL Tryz.prog 280 pJoin :=
  join_ok Tryz.func280 (by kernel_rfl) (body_of (by kernel_rfl))
    ⟨fun a c sep w => Any.strings_Join_none Tryz.laysJoin Tryz.extJoin a c sep w, fun bk o c xs sep w h1 h2 h3 h4 h5 => Any.strings_Join Tryz.laysJoin Tryz.extJoin bk o c xs sep w h1 h2 h3 h4 h5⟩

theorem sorts (m : Nat) : AnyZI.SortsIn Tryz.prog Tryz.sortedA_ren Fence.wide m :=
  ⟨fun blk off cap ss W hH hblk hsz => callsIn_wide.2 (AnyM.slices_Sort_int Tryz.sortA blk off cap ss W hH hblk hsz),
   fun p cap W => callsIn_wide.2 (AnyM.slices_Sort_int_none Tryz.sortA p cap W)⟩

theorem says129 : SortedSays Tryz.prog 129 194 3 := by
  intro R Bm b nn D0 w hBm hc hown hmax hbytes
  refine (callsIn_wide (n := 6)).1 ?_
  have hseq : SeqGives Fence.wide 3 Tryz.prog 194 #[.pointer (some ⟨Bm, 0, none⟩)] encZ (fun ss => ss.Perm (intKeys D0)) (Maps.size D0) w :=
    AnyZI.keys_gives (ρ := Tryz.keysA_ren) { Tryz.keysA with } Fence.wide _ trivial rfl (by omega) Bm b nn D0 _ hBm hc hown
  have cS := AnyZI.sorted_in Tryz.sortedA Fence.wide 6 trivial trivial trivial trivial rfl (by omega) (sorts _) (enters_of Tryz.func193 (by kernel_rfl) rfl) 194 #[.pointer (some ⟨Bm, 0, none⟩)] trivial (enters_of Tryz.func194 (by kernel_rfl) rfl) _ _ hmax hbytes _ hseq
  exact cS

theorem p129 : PrimOK GL Tryz.prog 129 (pSorted 194) := sorted_ok Tryz.func129 (by kernel_rfl) (body_of (by kernel_rfl)) Tryz.underlying3 says129

theorem back : Back GL Tryz.prog 294 Tryz.f294 0 1 2 3 0 1 (bk0 Tryz.f294) (bk1 Tryz.f294) (bk2 Tryz.f294) (bk3 Tryz.f294) (bkO Tryz.f294) (cCall (bkO Tryz.f294)) where
  hf := Tryz.func294
  hname := by kernel_rfl
  hb := by kernel_rfl
  hn := by kernel_rfl
  hr := by kernel_rfl
  c0 := by kernel_rfl
  c1 := by kernel_rfl
  c2 := by kernel_rfl
  c3 := by kernel_rfl
  c4 := by kernel_rfl
  h3 := by kernel_rfl
  ho := by kernel_rfl
  oo := by kernel_rfl
  od := by kernel_rfl
  og := by kernel_rfl
  cc := by kernel_rfl
  ca := by kernel_rfl
  nd := by kernel_rfl

def rA0 : ACode := (.reg [.op ⟨some 2, none, .box 1 (.t 0)⟩,
 .op ⟨some 3, none, .box 1 (.t 1)⟩,
 .op ⟨some 4, none, .alloc [(I 0), (I 0), (.bool false)]⟩,
 .op ⟨some 5, none, .alloc [(I 0)]⟩])
def rA1 : ACode := (.reg [.op ⟨some 9, none, .load false 1 (.t 2)⟩,
 .op ⟨some 10, none, .nilchk (.t 9)⟩,
 .op ⟨some 11, none, .fa 3 (.t 10)⟩,
 .op ⟨some 12, none, .load false 1 (.t 11)⟩,
 .op ⟨some 13, none, .call 236 [(.t 12)]⟩])
def rA : ACode := (.seq (.reg [.op ⟨some 6, none, .mv (.t 14)⟩])
 (.reg [.op ⟨some 7, none, .mv (.t 15)⟩]))
def rB : ACode := (.block 1 (.seq (.reg [.op ⟨some 16, none, .load false 1 (.t 2)⟩,
 .op ⟨some 17, none, .nilchk (.t 16)⟩,
 .op ⟨some 18, none, .fa 2 (.t 17)⟩,
 .op ⟨some 19, none, .load false 1 (.t 18)⟩,
 .op ⟨some 20, none, .mv (.t 7)⟩,
 .op ⟨some 21, none, .look false .nilp false (.t 19) (.t 20)⟩,
 .op ⟨some 22, none, .nilchk (.t 21)⟩,
 .op ⟨some 23, none, .fa 0 (.t 22)⟩,
 .op ⟨some 24, none, .load false 1 (.t 23)⟩,
 .op ⟨some 25, none, .load false 1 (.t 3)⟩,
 .op ⟨some 26, none, .bin .eql (.t 24) (.t 25)⟩])
 (.ite (.t 26) (.seq (.reg [.op ⟨some 27, none, .load false 1 (.t 2)⟩,
 .op ⟨some 28, none, .load false 1 (.t 2)⟩,
 .op ⟨some 29, none, .nilchk (.t 28)⟩,
 .op ⟨some 30, none, .fa 3 (.t 29)⟩,
 .op ⟨some 31, none, .load false 1 (.t 30)⟩,
 .op ⟨some 32, none, .mv (.t 6)⟩,
 .op ⟨some 33, none, .mv (.t 6)⟩,
 .op ⟨some 34, none, .bin .add (.t 33) (.k (I 1))⟩,
 .op ⟨some 35, none, .call 237 [(.t 31), (.t 32), (.t 34)]⟩,
 .chk ⟨some 27, none, .load false 1 (.t 2)⟩,
 .op ⟨some 36, none, .nilchk (.t 27)⟩,
 .op ⟨some 37, none, .fa 3 (.t 36)⟩,
 .op ⟨none, none, .store 1 (.t 37) (.t 35)⟩])
 (.seq (.reg [.op ⟨some 38, none, .load false 1 (.t 2)⟩,
 .op ⟨some 39, none, .nilchk (.t 38)⟩,
 .op ⟨some 40, none, .fa 2 (.t 39)⟩,
 .op ⟨some 41, none, .load false 1 (.t 40)⟩,
 .op ⟨some 42, none, .mv (.t 7)⟩,
 .op ⟨some 43, none, .look false .nilp false (.t 41) (.t 42)⟩,
 .op ⟨some 44, none, .nilchk (.t 43)⟩,
 .op ⟨some 45, none, .fa 1 (.t 44)⟩,
 .op ⟨none, none, .store 1 (.t 45) (.k (I 2))⟩])
 (.seq (.reg [.op ⟨some 46, none, .mv (.t 7)⟩,
 .op ⟨some 47, none, .build [(I 0), (I 0), (.bool false)] [(0, 1, (.t 46))]⟩,
 .op ⟨none, none, .store 3 (.t 4) (.t 47)⟩,
 .op ⟨none, none, .store 1 (.t 5) (.k (I 0))⟩])
 .ret)))
 .skip)))
def rA2 : ACode := (.seq (.reg [.op ⟨some 8, none, .alloc [(I 0), (I 0), (.bool false)]⟩])
 (.seq (.seq (.reg [.op ⟨some 48, none, .load false 1 (.t 2)⟩,
 .op ⟨some 49, none, .nilchk (.t 48)⟩,
 .op ⟨some 50, none, .fa 2 (.t 49)⟩,
 .op ⟨some 51, none, .load false 1 (.t 50)⟩,
 .op ⟨some 52, none, .len .mp (.t 51)⟩,
 .op ⟨some 53, none, .load false 1 (.t 2)⟩,
 .op ⟨some 54, none, .nilchk (.t 53)⟩,
 .op ⟨some 55, none, .fa 0 (.t 54)⟩,
 .op ⟨some 56, none, .load false 1 (.t 55)⟩,
 .op ⟨some 57, none, .bin .geq (.t 52) (.t 56)⟩])
 (.ite (.t 57) (.seq (.seq (.reg [.op ⟨some 58, none, .load false 1 (.t 2)⟩,
 .op ⟨some 59, none, .nilchk (.t 58)⟩,
 .op ⟨some 60, none, .fa 3 (.t 59)⟩,
 .op ⟨some 61, none, .load false 1 (.t 60)⟩,
 .op ⟨some 62, none, .len .sl (.t 61)⟩,
 .op ⟨some 63, none, .bin .eql (.t 62) (.k (I 0))⟩])
 (.ite (.t 63) (.seq (.reg [.op ⟨some 64, none, .build [(I 0), (I 0), (.bool false)] []⟩,
 .op ⟨none, none, .store 3 (.t 4) (.t 64)⟩,
 .op ⟨none, none, .store 1 (.t 5) (.k (I 6))⟩])
 .ret)
 .skip))
 (.seq (.reg [.op ⟨some 65, none, .load false 1 (.t 2)⟩,
 .op ⟨some 66, none, .nilchk (.t 65)⟩,
 .op ⟨some 67, none, .fa 3 (.t 66)⟩,
 .op ⟨some 68, none, .load false 1 (.t 67)⟩,
 .op ⟨some 69, none, .ia (.sl 1) (.t 68) (.k (I 0))⟩,
 .op ⟨some 70, none, .load false 1 (.t 69)⟩,
 .op ⟨some 71, none, .fa 1 (.t 8)⟩,
 .op ⟨none, none, .store 1 (.t 71) (.t 70)⟩])
 (.reg [.op ⟨some 72, none, .load false 1 (.t 2)⟩,
 .op ⟨some 73, none, .fa 1 (.t 8)⟩,
 .op ⟨some 74, none, .load false 1 (.t 73)⟩,
 .op ⟨some 75, none, .call 176 [(.t 72), (.t 74)]⟩])))
 .skip))
 (.seq (.reg [.op ⟨some 76, none, .load false 1 (.t 2)⟩,
 .op ⟨some 77, none, .nilchk (.t 76)⟩,
 .op ⟨some 78, none, .fa 1 (.t 77)⟩,
 .op ⟨some 79, none, .load false 1 (.t 78)⟩,
 .op ⟨some 80, none, .bin .add (.t 79) (.k (I 1))⟩,
 .op ⟨some 81, none, .nilchk (.t 76)⟩,
 .op ⟨some 82, none, .fa 1 (.t 81)⟩,
 .op ⟨none, none, .store 1 (.t 82) (.t 80)⟩])
 (.seq (.reg [.op ⟨some 83, none, .load false 1 (.t 2)⟩,
 .op ⟨some 84, none, .nilchk (.t 83)⟩,
 .op ⟨some 85, none, .fa 2 (.t 84)⟩,
 .op ⟨some 86, none, .load false 1 (.t 85)⟩,
 .op ⟨some 87, none, .load false 1 (.t 2)⟩,
 .op ⟨some 88, none, .nilchk (.t 87)⟩,
 .op ⟨some 89, none, .fa 1 (.t 88)⟩,
 .op ⟨some 90, none, .load false 1 (.t 89)⟩,
 .op ⟨some 91, none, .load false 1 (.t 3)⟩,
 .op ⟨some 92, none, .build [(.str []), (I 0)] [(0, 1, (.t 91)), (1, 1, (.k (I 1)))]⟩,
 .op ⟨some 93, none, .box 2 (.t 92)⟩,
 .chk ⟨some 90, none, .load false 1 (.t 89)⟩,
 .chk ⟨some 87, none, .load false 1 (.t 2)⟩,
 .chk ⟨some 86, none, .load false 1 (.t 85)⟩,
 .chk ⟨some 83, none, .load false 1 (.t 2)⟩,
 .op ⟨none, none, .mset false (.t 86) (.t 90) (.t 93)⟩])
 (.seq (.reg [.op ⟨some 94, none, .load false 1 (.t 2)⟩,
 .op ⟨some 95, none, .nilchk (.t 94)⟩,
 .op ⟨some 96, none, .fa 1 (.t 95)⟩,
 .op ⟨some 97, none, .load false 1 (.t 96)⟩,
 .op ⟨some 98, none, .fa 0 (.t 8)⟩,
 .op ⟨none, none, .store 1 (.t 98) (.t 97)⟩,
 .op ⟨some 99, none, .fa 2 (.t 8)⟩,
 .op ⟨none, none, .store 1 (.t 99) (.k (.bool true))⟩])
 (.seq (.reg [.op ⟨some 100, none, .load true 3 (.t 8)⟩,
 .op ⟨none, none, .store 3 (.t 4) (.t 100)⟩,
 .op ⟨none, none, .store 1 (.t 5) (.k (I 0))⟩])
 .ret))))))
def rRs : List RV := [.c 4 true 3, .c 5 false 1]


theorem take : RFn GL Tryz.prog 178 Tryz.f178 (rg0 Tryz.f178) (rg1 Tryz.f178) (rgA Tryz.f178) (rgB Tryz.f178) (rg2 Tryz.f178) 0 13 14 15 rA0 rA1 rA rB rA2 rRs where
  hf := Tryz.func178
  hname := by kernel_rfl
  hb := by kernel_rfl
  hp := by decide
  hq := by decide
  n0 := by kernel_rfl
  n1 := by kernel_rfl
  nA := by kernel_rfl
  nB := by kernel_rfl
  n2 := by kernel_rfl
  c0 := by kernel_rfl
  c1 := by kernel_rfl
  cA := by kernel_rfl
  cB := by kernel_rfl
  c2 := by kernel_rfl
  cr := by kernel_rfl

def mt : Meth := methL [(365, "Len", (407, some (false, 1))), (365, "Push", (414, none))]

theorem mt_ok : ∀ t n r, mt t n = some r → methOf Tryz.prog t n = some r := methL_ok (by
  intro x hx
  simp only [List.mem_cons, List.not_mem_nil, or_false] at hx
  rcases hx with rfl | rfl
  · kernel_rfl
  · kernel_rfl)

theorem p178 : PrimOK GL Tryz.prog 178 (pRangeF mt 1000 rA0 rA1 0 13 14 15 294 rA rB rA2 rRs) := by rw [pRangeF_eq]; exact range_prim back take mixed mt_ok 1000

end Go.Proofs.Tryz
