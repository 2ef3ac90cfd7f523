/- A part of the claim. -/
import Derived.Test.YtdbihpcdlmaejaaGreatDoorAiH
import Derived.Test.YtdbihpcdlmaejaaGreatDoorProg
import Derived.KernelRfl
namespace Go.Proofs.Tryz
open Go Go.Ai Go.Proofs
abbrev I (n : Int) : AVal := .int .i64 n
abbrev GL : List Nat := [1]
abbrev Good (i : Nat) (c : AFunc) : Prop := Ai.Good GL Tryz.prog i c
end Go.Proofs.Tryz
