/- WorldTries: the tied card: for every input it returns true, and its arguments read as before; the listed tables as the program's text lays them. -/
import Derived.Test.YtdbihpcdlmaejaaGreatDoorLaw
import Derived.Test.YtdbihpcdlmaejaaGreatDoorFacts2
set_option maxRecDepth 1000000
set_option maxHeartbeats 4000000
namespace Go.Proofs.YtdbihpcdlmaejaaGreatDoor
open Go

theorem worldTries_card : Rows.WorldTriesCardSaid :=
  Claim7.holds_tied_plain_at .later [] [.data, .data, .data, .data, .pinned] true (true, "9ef214f28e57c0fc1075401ded1fc397fb1b6930cb2d66168b83dae77a41973d") true
    worldTries_holds (fun _ h => by cases h) f_wf (fun _ h => by cases h) worldTries_row_tie rfl ⟨rfl, rfl⟩ f_main rfl
    (fun f fn hf hfn => by
      obtain rfl : f = 3 := Option.some.inj (f_named.symm.trans hf) |>.symm
      obtain rfl : fn = Tryz.f3 := (Option.some.inj (Tryz.func3.symm.trans hfn)).symm
      exact ⟨f_looks, fun j t ht => by
        rw [Tryz.params3] at ht
        have hm : t ∈ [3, 4] := by simpa using Array.mem_of_getElem? ht
        exact (show Tryz.prog.wantsStandIn t = false by simpa using List.all_eq_true.1 f_stand t hm)⟩)
    f_goes
#print axioms worldTries_card
end Go.Proofs.YtdbihpcdlmaejaaGreatDoor
