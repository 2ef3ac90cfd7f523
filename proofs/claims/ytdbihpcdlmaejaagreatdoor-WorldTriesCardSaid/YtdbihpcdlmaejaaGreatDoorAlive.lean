/- The document's example: true, whatever memory there is. -/
import Derived.Test.YtdbihpcdlmaejaaGreatDoorTab
import Derived.Test.YtdbihpcdlmaejaaGreatDoorAiH
set_option maxRecDepth 1000000
set_option maxHeartbeats 4000000
namespace Go.Proofs.Tryz
open Go Go.Ai Go.Proofs

def powN : List Int := [1, 10, 100, 1000, 10000, 100000, 1000000, 10000000, 100000000, 1000000000, 10000000000, 100000000000, 1000000000000, 10000000000000, 100000000000000, 1000000000000000, 10000000000000000, 100000000000000000, 1000000000000000000, 10000000000000000000]
def h0 : AHeap := ⟨.nd (.nd .lf (some (.cells 0 true (powN.map (.int .u64)))) .lf) none .lf, 6⟩

theorem h0_only : Only h0 1 .u64 powN := by
  refine ⟨by decide, rfl, ?_⟩
  intro b hb
  show (Tr.nd (Tr.nd .lf (some (AObj.cells 0 true (powN.map (.int .u64)))) .lf) none .lf).get b = none
  simp only [Tr.get_nd, Tr.get_lf]
  by_cases h0 : b = 0
  · simp [h0]
  · by_cases h1 : b % 2 = 1
    · have : ¬ b / 2 = 0 := by omega
      simp [h0, h1, this]
    · simp [h0, h1]

theorem alive_true : isB true (fcallN fnT prT mt 10000 4 [] h0) = true := by kernel_rfl

theorem p4 : PrimOK GL Tryz.prog 4 (pSure 1 .u64 powN true) := sure_ok T_ok h0_only (by simp) (by simp) alive_true

noncomputable def prT2 : Tr PrimT := (.nd (.nd (.nd (.nd .lf none (.nd (.nd .lf none (.nd (.nd (.nd .lf (some (pLoad .i64)) .lf) none .lf) none .lf)) none .lf)) none .lf) none (.nd (.nd (.nd (.nd (.nd (.nd .lf (some (pSorted 194)) .lf) none .lf) none .lf) none (.nd (.nd (.nd .lf (some pIdxF) .lf) none .lf) none .lf)) none .lf) none (.nd (.nd .lf none (.nd (.nd (.nd .lf (some pCntF) .lf) none .lf) none .lf)) none .lf))) none (.nd (.nd (.nd .lf none (.nd (.nd .lf none (.nd (.nd (.nd .lf (some (pCas .i64)) .lf) none .lf) none .lf)) none (.nd (.nd (.nd (.nd .lf (some pJoin) .lf) none .lf) none .lf) none .lf))) (some (pSure 1 .u64 powN true)) .lf) none (.nd (.nd (.nd .lf none (.nd .lf none (.nd (.nd .lf (some (pRangeF mt 1000 rA0 rA1 0 13 14 15 294 rA rB rA2 rRs)) .lf) none .lf))) none .lf) none (.nd .lf none (.nd (.nd (.nd .lf none (.nd (.nd .lf (some (pLoad .u32)) .lf) none .lf)) none .lf) none .lf)))))

theorem prT2_good : prT2.All (PrimOK GL Tryz.prog) 1 0 := ⟨⟨⟨⟨trivial, trivial, ⟨⟨trivial, trivial, ⟨⟨⟨trivial, p295, trivial⟩, trivial, trivial⟩, trivial, trivial⟩⟩, trivial, trivial⟩⟩, trivial, trivial⟩, trivial, ⟨⟨⟨⟨⟨⟨trivial, p129, trivial⟩, trivial, trivial⟩, trivial, trivial⟩, trivial, ⟨⟨⟨trivial, p145, trivial⟩, trivial, trivial⟩, trivial, trivial⟩⟩, trivial, trivial⟩, trivial, ⟨⟨trivial, trivial, ⟨⟨⟨trivial, p149, trivial⟩, trivial, trivial⟩, trivial, trivial⟩⟩, trivial, trivial⟩⟩⟩, trivial, ⟨⟨⟨trivial, trivial, ⟨⟨trivial, trivial, ⟨⟨⟨trivial, p296, trivial⟩, trivial, trivial⟩, trivial, trivial⟩⟩, trivial, ⟨⟨⟨⟨trivial, p280, trivial⟩, trivial, trivial⟩, trivial, trivial⟩, trivial, trivial⟩⟩⟩, p4, trivial⟩, trivial, ⟨⟨⟨trivial, trivial, ⟨trivial, trivial, ⟨⟨trivial, p178, trivial⟩, trivial, trivial⟩⟩⟩, trivial, trivial⟩, trivial, ⟨trivial, trivial, ⟨⟨⟨trivial, trivial, ⟨⟨trivial, p334, trivial⟩, trivial, trivial⟩⟩, trivial, trivial⟩, trivial, trivial⟩⟩⟩⟩⟩

theorem T2_ok : TabOK GL Tryz.prog (tabOf fnT prT2 mt) := tabOf_ok mixed fnT_good prT2_good mt_ok
end Go.Proofs.Tryz
