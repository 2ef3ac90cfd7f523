/- A part of the claim. -/
import Derived.Test.YtdbihpcdlmaejaaGreatDoorAlive
set_option maxRecDepth 1000000
set_option maxHeartbeats 4000000
namespace Go.Proofs.Tryz
open Go Go.Ai Go.Proofs

def aR : ACode → ACode
  | .seq _ b => b
  | c => c
def REST : ACode := aR (aR (aR c3.body))
def E (n m : Int) (p : Bool) : Env := Tr.set (Tr.set (Tr.set (Tr.set (Tr.set (Tr.set (Tr.set (Tr.set (Tr.set .lf 0 (.int .i64 n)) 1 (.bool p)) 4 (.bool false)) 11 (.bool true)) 12 (.bool false)) 13 (.int .i64 n)) 14 (.int .i64 m)) 0 (.int .i64 m)) 1 (.bool p)
noncomputable def goR (n m : Int) (p : Bool) : Res := endF [.t 4] (fexec REST mt (fcallN fnT prT2 mt 9999) 9999 (E n m p) h0)
end Go.Proofs.Tryz
