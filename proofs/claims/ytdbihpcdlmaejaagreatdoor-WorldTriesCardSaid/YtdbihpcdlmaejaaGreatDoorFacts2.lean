/- The card's closed facts. -/
import Derived.Test.YtdbihpcdlmaejaaGreatDoorRows
import Derived.SevenTiedAt
set_option maxRecDepth 1000000
namespace Go.Proofs.YtdbihpcdlmaejaaGreatDoor
open Go

theorem f_wf : Rows.worldTriesRow.wfByText (OpenSpec.ofChange Rows.worldTriesSpec) = true := by kernel_rfl
theorem f_main : Tryz.pinned.checked.prog.mainIs = some (true, "9ef214f28e57c0fc1075401ded1fc397fb1b6930cb2d66168b83dae77a41973d".toList) := by kernel_rfl
theorem f_none : (Tryz.prog.funcs.toList.any Func.goes) = false := by kernel_rfl
theorem goes_none {P : Program} (h : (P.funcs.toList.any Func.goes) = false) (s : Start) (f : String) (hs : s = .entering) : P.goesAt s f = false := by
  have hall : ∀ x ∈ P.funcs.toList, Func.goes x = false := by
    intro x hx
    cases hg : Func.goes x with
    | false => rfl
    | true => rw [List.any_eq_true.2 ⟨x, hx, hg⟩] at h; cases h
  have hany : ∀ g : Nat, (P.funcs[g]?).any Func.goes = false := by
    intro g
    cases hf : P.funcs[g]? with
    | none => rfl
    | some x => exact hall x (by simpa using Array.mem_of_getElem? hf)
  have hP : ∀ g, P.goes g = false := by
    intro g
    unfold Program.goes
    have h1 : ((P.closure g).any fun g => (P.funcs[g]?).any Func.goes) = false := by simp [hany]
    have h2 : P.funcs.any Func.goes = false := by rw [← Array.any_toList]; exact h
    rw [h1, h2]; simp
  subst hs
  unfold Program.goesAt Program.goesFrom
  cases P.funcNamed f with
  | none => rfl
  | some g => simp [hP]
theorem f_goes : false = Rows.worldTriesRow.goesBy Tryz.pinned.checked.prog := (goes_none f_none .entering _ rfl).symm
theorem f_looks : true = Tryz.pinned.checked.prog.looks [] := by kernel_rfl
theorem f_named : Tryz.prog.funcNamed "tollbar/tollbarlaw22.WorldTries" = some 3 := by kernel_rfl
theorem f_stand : ([3, 4].all fun u => !Tryz.prog.wantsStandIn u) = true := by kernel_rfl
end Go.Proofs.YtdbihpcdlmaejaaGreatDoor
