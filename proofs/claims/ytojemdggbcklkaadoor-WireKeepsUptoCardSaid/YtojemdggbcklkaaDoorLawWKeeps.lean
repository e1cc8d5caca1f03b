/- weirlaw28.WireKeeps: the walk's parts joined. (Printed by mkwkcut.py.) -/
import Derived.Test.YtojemdggbcklkaaDoorWKeepsG
import Derived.Test.YtojemdggbcklkaaDoorWKeepsB
import Derived.Test.YtojemdggbcklkaaDoorWKeepsP
import Derived.Test.YtojemdggbcklkaaDoorWKeepsQ
namespace Go.Proofs.YtojemdggbcklkaaDoor.WireR
open Go.RowKit Go.Proofs.YtojemdggbcklkaaDoor.Mem Go.Proofs.YtojemdggbcklkaaDoor.Wire Go.Proofs.YtojemdggbcklkaaDoor.Strs Go.Proofs.YtojemdggbcklkaaDoor.Heads
set_option linter.unusedVariables false
set_option linter.unusedSimpArgs false
set_option maxRecDepth 8000
set_option maxHeartbeats 32000000
theorem law_keeps (A : Option Addr) (n c : Nat) (raw : List UInt8) (z : Int) (w : World) (hA : RB w A raw) (hn : n = raw.length) (hc : n ≤ c) (hl : n ≤ 1073741824) :
    Calls Tryd.prog 11 #[.slice A n c, .int .i64 z] w fun e w' => e = .returned (.bool true) ∧ Below w.heap.size w w' := wkA.2 (fun _ => wkG) (fun _ => wkB) (fun _ => wkC) (fun _ => wkD) (fun _ => wkP) (fun _ => wkQ) A n c raw z w hA hn hc hl
end Go.Proofs.YtojemdggbcklkaaDoor.WireR
