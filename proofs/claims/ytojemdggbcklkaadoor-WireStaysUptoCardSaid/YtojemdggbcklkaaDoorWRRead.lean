/- weirref28.read: a request: the ways joined. (Printed by mkwrread2.py.) -/
import Derived.Test.YtojemdggbcklkaaDoorWRReadL
namespace Go.Proofs.YtojemdggbcklkaaDoor.WireR
open Go.RowKit Go.Proofs.YtojemdggbcklkaaDoor.Mem Go.Proofs.YtojemdggbcklkaaDoor.Wire Go.Proofs.YtojemdggbcklkaaDoor.Strs Go.Proofs.YtojemdggbcklkaaDoor.Heads
set_option linter.unusedVariables false
set_option linter.unusedSimpArgs false
set_option maxRecDepth 4000
set_option maxHeartbeats 32000000
theorem rread_any (s : Bytes) (w : World) (hl : s.length ≤ 65536) :
    Calls Tryd.prog 30 #[.string ⟨s.toArray⟩] w (RReadPost w s (readS s)) := rrA.2 (fun _ => rrF) (fun _ => rrC) (fun _ => rrL) s w hl
end Go.Proofs.YtojemdggbcklkaaDoor.WireR
