/- weirlaw07.PileDrains: the walk, joined. -/
import Derived.Test.YtdebokambldbbaaLawDr1
import Derived.Test.YtdebokambldbbaaLawDr3
import Derived.Test.YtdebokambldbbaaLawDr4
import Derived.Test.YtdebokambldbbaaLawDr5
namespace Go.Proofs.Ytdebokambldbbaa.LawP
open Go.RowKit Go.Shelf Go.Proofs.Ytdebokambldbbaa.Mem Go.Proofs.Ytdebokambldbbaa.Heap Go.Proofs.Ytdebokambldbbaa.Pile Go.Proofs.Ytdebokambldbbaa.PileI
set_option linter.unusedVariables false
set_option linter.unusedSectionVars false
set_option linter.unusedSimpArgs false
set_option maxRecDepth 8000
set_option maxHeartbeats 12800000

theorem drains_walk (A0 : Option Addr) (n c : Nat) (l : List Stp) (W : World) (hr : RV W A0 (l.flatMap Stp.cells)) (hn : n = l.length) (hl : l.length ≤ 1048576) (hok : ∀ r ∈ l, r.ok) :
    Calls Try.prog 4 #[.slice A0 n c] W fun e W' => e = .returned (.bool true) ∧ Below W.heap.size W W' :=
  drA.2 (fun _ => drT1) (fun _ => drT3) (fun _ => drT4) (fun _ => drT5) A0 n c l W hr hn hl hok
end Go.Proofs.Ytdebokambldbbaa.LawP
