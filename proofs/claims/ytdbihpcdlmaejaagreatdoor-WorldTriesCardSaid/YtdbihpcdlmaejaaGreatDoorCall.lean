/- The call: whatever the arguments: true. -/
import Derived.Test.YtdbihpcdlmaejaaGreatDoorR1
import Derived.Test.YtdbihpcdlmaejaaGreatDoorR2
set_option maxRecDepth 1000000
set_option maxHeartbeats 4000000
namespace Go.Proofs.Tryz
open Go Go.Ai Go.Proofs

def B0 : ACode := .reg [.op ⟨some 4, none, .mv (.k (.bool false))⟩]
def B1 : ACode := .reg [.op ⟨some 11, none, .call 4 []⟩, .op ⟨some 12, none, .un .not (.t 11)⟩]
def B2 : ACode := .seq (.reg [.op ⟨some 4, none, .mv (.k (.bool false))⟩]) .ret
def B3 : ACode := .reg [.op ⟨some 13, none, .mv (.t 0)⟩, .op ⟨some 14, none, .bin .and (.t 13) (.k (I 3))⟩, .op ⟨some 0, none, .mv (.t 14)⟩]

theorem c3_eq : c3 = ⟨[.t 4], .seq B0 (.seq (.seq B1 (.ite (.t 12) B2 .skip)) (.seq B3 REST))⟩ := rfl

theorem and3 (n : Int) : ∃ j : Int, (j = 0 ∨ j = 1 ∨ j = 2 ∨ j = 3) ∧ intop .and .i64 n 3 = some (.int .i64 j) := by
  have h3 : (BitVec.ofInt IntKind.i64.bits 3).toNat = 3 := by decide
  have hle : (BitVec.ofInt IntKind.i64.bits n &&& BitVec.ofInt IntKind.i64.bits 3).toNat ≤ 3 := by
    rw [BitVec.toNat_and, h3]; exact Nat.and_le_right
  generalize hm : (BitVec.ofInt IntKind.i64.bits n &&& BitVec.ofInt IntKind.i64.bits 3).toNat = m at hle
  have hw : intop .and .i64 n 3 = some (.int .i64 (IntKind.i64.wrap m)) := by simp only [intop, hm]
  refine ⟨IntKind.i64.wrap m, ?_, hw⟩
  have : IntKind.i64.wrap (m : Int) = m := IntWalk.i64_in _ (by omega)
  rw [this]; omega

noncomputable abbrev tR : Tab := tabOf fnT prT2 mt

theorem alive_call : callN tR 9999 4 [] h0 = some (.bool true, h0) := by
  refine (callN_prim (k := 9998) (p := pSure 1 .u64 powN true) (by kernel_rfl)).trans ?_
  kernel_rfl

theorem pre_run (call : CallT) (hc : call 4 [] h0 = some (.bool true, h0)) (n : Int) (p : Bool) (m : Int) (hm : intop .and .i64 n 3 = some (.int .i64 m)) :
    exec mt call 9999 (.seq B0 (.seq (.seq B1 (.ite (.t 12) B2 .skip)) (.seq B3 REST))) (envFrom 0 .lf [.int .i64 n, .bool p]) h0 = exec mt call 9999 REST (E n m p) h0 := by
  have x0 : ∀ e, exec mt call 9999 B0 e h0 = some (.nrm, Tr.set e 4 (.bool false), h0) := fun e => rfl
  have x1 : ∀ e, exec mt call 9999 (.seq B1 (.ite (.t 12) B2 .skip)) e h0 = some (.nrm, Tr.set (Tr.set e 11 (.bool true)) 12 (.bool false), h0) := by
    intro e
    have y : runItems mt call [.op ⟨some 11, none, .call 4 []⟩, .op ⟨some 12, none, .un .not (.t 11)⟩] e h0 = some (Tr.set (Tr.set e 11 (.bool true)) 12 (.bool false), h0) := by
      refine run_op rfl rfl (v := .bool true) (h1 := h0) hc (run_op rfl rfl (v := .bool false) (h1 := h0) ?_ rfl)
      simp [Ai.step, Opr.ev, Env.at_set, unop]
    rw [exec, B1, exec, y]
    simp only
    rw [exec]
    simp [Opr.ev, Env.at_set, exec]
  have x3 : exec mt call 9999 B3 (Tr.set (Tr.set (Tr.set (envFrom 0 .lf [.int .i64 n, .bool p]) 4 (.bool false)) 11 (.bool true)) 12 (.bool false)) h0 = some (.nrm, E n m p, h0) := by
    have y : runItems mt call [.op ⟨some 13, none, .mv (.t 0)⟩, .op ⟨some 14, none, .bin .and (.t 13) (.k (I 3))⟩, .op ⟨some 0, none, .mv (.t 14)⟩] (Tr.set (Tr.set (Tr.set (envFrom 0 .lf [.int .i64 n, .bool p]) 4 (.bool false)) 11 (.bool true)) 12 (.bool false)) h0 = some (E n m p, h0) := by
      refine run_op rfl rfl (v := .int .i64 n) (h1 := h0) rfl (run_op rfl rfl (v := .int .i64 m) (h1 := h0) ?_ (run_op rfl rfl (v := .int .i64 m) (h1 := h0) rfl rfl))
      simp [Ai.step, Opr.ev, Env.at_set, binop, I, hm]
    rw [B3, exec, y]
  rw [exec, x0]
  simp only
  rw [exec, x1]
  simp only
  rw [exec, x3]

theorem law (n : Int) (p : Bool) : ∃ h', callN tR 10000 3 [.int .i64 n, .bool p] h0 = some (.bool true, h') := by
  obtain ⟨m, hm, ha⟩ := and3 n
  have hpre := pre_run (callN tR 9999) alive_call n p m ha
  have hrun : isB true (goR n m p) = true := by
    rcases hm with rfl | rfl | rfl | rfl <;> cases p
    · exact run_0_f n
    · exact run_0_t n
    · exact run_1_f n
    · exact run_1_t n
    · exact run_2_f n
    · exact run_2_t n
    · exact run_3_f n
    · exact run_3_t n
  obtain ⟨h', hr⟩ := isB_eq hrun
  refine ⟨h', callN_run (k := 9999) (by kernel_rfl) (by rw [← c3_eq]; kernel_rfl) hpre ?_⟩
  unfold goR at hr
  rw [fexec_eq, fcallN_eq] at hr
  exact hr
end Go.Proofs.Tryz
