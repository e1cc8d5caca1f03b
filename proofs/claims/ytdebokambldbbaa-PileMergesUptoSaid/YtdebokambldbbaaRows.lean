/-
  No cell of these rows narrows 'for every input' (looked for: loops, veiled, ifaces, maps, wideKeys, modest, calm, conditions, laid).
  DERIVED. THE GIVEN ROWS OF THIS SEAT. 7 by the template 'for every input the law returns true; each argument reads behind the call as it read before'; 0 by the template 'total and deterministic' (their statements: YtdebokambldbbaaTotals.lean).
  GIVEN WITH THE SEED: the statements are not yours to turn. If you find one false, say at which input.
  Laid BY PROGRAM, IN A SANDBOX (cutbox-rows.mjs): the forced cells as the released guide's own fill.sh prints them over the translation 565c3ee24b3a9046… (all of the seat's roots in one cut). By AI agents, Wed Nov 11 2026. No macro, syntax, notation, axiom, sorry.
-/
import Derived.Test.YtdebokambldbbaaChecked
import GoSem.Claim
import GoSem.ClaimJoined
import GoSem.ClaimMapViews
import Derived.JoinedTies
import Derived.KernelRfl
namespace Go.Proofs.Ytdebokambldbbaa
/- THE CELL 'sum', in the pinned program and in every row, IS THE sha256 OF THE DUMP (.gsa) THAT YtdebokambldbbaaProg.lean LOADS. Nothing in Lean hashes anything: it is a label: what it is worth is what the hold of that sum in a sandbox is worth. -/
noncomputable def Try.pinned : Pinned := { name := "ytdebokambldbbaa", sum := "565c3ee24b3a90461e28c851e543ca52f3b52b18dcf0b0916b5c645d97396cad", checked := Try.checked }
namespace Rows
def none {H : Type} : Left H := { results := [], args := [] }

/-- 'weirlaw07.PileScripts': WHATEVER THE INPUT: true; the input reads as it did. -/
def pileScriptsSpec : ChangeSpec := { name := "pileScripts", fn := fun _ => fun
  | [d] => { results := [.lit (.bool true)], args := [d] }
  | _ => none }
def pileScriptsRow : OpenClaim := { program := "ytdebokambldbbaa", sum := "565c3ee24b3a90461e28c851e543ca52f3b52b18dcf0b0916b5c645d97396cad", func := "weir/weirlaw07.PileScripts", spec := "pileScripts", unfollowed := true, recurses := true, apart := false }
def PileScriptsSaid : Prop := pileScriptsRow.holds Try.pinned (OpenSpec.ofChange pileScriptsSpec)

/-- ITS FALSE NEIGHBOUR: 'it returns false'. Refute it at one input. -/
def pileScriptsWrong : ChangeSpec := { name := "pileScripts", fn := fun _ => fun
  | [d] => { results := [.lit (.bool false)], args := [d] }
  | _ => none }
def PileScriptsWrongFalsely : Prop := pileScriptsRow.holds Try.pinned (OpenSpec.ofChange pileScriptsWrong)

/-- 'weirlaw07.PileDrains': WHATEVER THE INPUT: true; the input reads as it did. -/
def pileDrainsSpec : ChangeSpec := { name := "pileDrains", fn := fun _ => fun
  | [d] => { results := [.lit (.bool true)], args := [d] }
  | _ => none }
def pileDrainsRow : OpenClaim := { program := "ytdebokambldbbaa", sum := "565c3ee24b3a90461e28c851e543ca52f3b52b18dcf0b0916b5c645d97396cad", func := "weir/weirlaw07.PileDrains", spec := "pileDrains", unfollowed := true, recurses := true, apart := false }
def PileDrainsSaid : Prop := pileDrainsRow.holds Try.pinned (OpenSpec.ofChange pileDrainsSpec)

/-- ITS FALSE NEIGHBOUR: 'it returns false'. Refute it at one input. -/
def pileDrainsWrong : ChangeSpec := { name := "pileDrains", fn := fun _ => fun
  | [d] => { results := [.lit (.bool false)], args := [d] }
  | _ => none }
def PileDrainsWrongFalsely : Prop := pileDrainsRow.holds Try.pinned (OpenSpec.ofChange pileDrainsWrong)

/-- 'weirlaw07.PileNil': WHATEVER THE INPUT: true; the input reads as it did. -/
def pileNilSpec : ChangeSpec := { name := "pileNil", fn := fun _ => fun
  | [d] => { results := [.lit (.bool true)], args := [d] }
  | _ => none }
def pileNilRow : OpenClaim := { program := "ytdebokambldbbaa", sum := "565c3ee24b3a90461e28c851e543ca52f3b52b18dcf0b0916b5c645d97396cad", func := "weir/weirlaw07.PileNil", spec := "pileNil", unfollowed := true, recurses := true, apart := false }
def PileNilSaid : Prop := pileNilRow.holds Try.pinned (OpenSpec.ofChange pileNilSpec)

/-- ITS FALSE NEIGHBOUR: 'it returns false'. Refute it at one input. -/
def pileNilWrong : ChangeSpec := { name := "pileNil", fn := fun _ => fun
  | [d] => { results := [.lit (.bool false)], args := [d] }
  | _ => none }
def PileNilWrongFalsely : Prop := pileNilRow.holds Try.pinned (OpenSpec.ofChange pileNilWrong)

/-- 'weirlaw07.PileMuddled': WHATEVER THE INPUT: true; the input reads as it did. -/
def pileMuddledSpec : ChangeSpec := { name := "pileMuddled", fn := fun _ => fun
  | [d] => { results := [.lit (.bool true)], args := [d] }
  | _ => none }
def pileMuddledRow : OpenClaim := { program := "ytdebokambldbbaa", sum := "565c3ee24b3a90461e28c851e543ca52f3b52b18dcf0b0916b5c645d97396cad", func := "weir/weirlaw07.PileMuddled", spec := "pileMuddled", unfollowed := true, recurses := true, apart := false }
def PileMuddledSaid : Prop := pileMuddledRow.holds Try.pinned (OpenSpec.ofChange pileMuddledSpec)

/-- ITS FALSE NEIGHBOUR: 'it returns false'. Refute it at one input. -/
def pileMuddledWrong : ChangeSpec := { name := "pileMuddled", fn := fun _ => fun
  | [d] => { results := [.lit (.bool false)], args := [d] }
  | _ => none }
def PileMuddledWrongFalsely : Prop := pileMuddledRow.holds Try.pinned (OpenSpec.ofChange pileMuddledWrong)

/-- 'weirlaw07.PileMerges': WHATEVER THE INPUT: true; the input reads as it did. -/
def pileMergesSpec : ChangeSpec := { name := "pileMerges", fn := fun _ => fun
  | [d1, d2] => { results := [.lit (.bool true)], args := [d1, d2] }
  | _ => none }
def pileMergesRow : OpenClaim := { program := "ytdebokambldbbaa", sum := "565c3ee24b3a90461e28c851e543ca52f3b52b18dcf0b0916b5c645d97396cad", func := "weir/weirlaw07.PileMerges", spec := "pileMerges", unfollowed := true, recurses := true, apart := false }
def PileMergesSaid : Prop := pileMergesRow.holds Try.pinned (OpenSpec.ofChange pileMergesSpec)

/-- ITS FALSE NEIGHBOUR: 'it returns false'. Refute it at one input. -/
def pileMergesWrong : ChangeSpec := { name := "pileMerges", fn := fun _ => fun
  | [d1, d2] => { results := [.lit (.bool false)], args := [d1, d2] }
  | _ => none }
def PileMergesWrongFalsely : Prop := pileMergesRow.holds Try.pinned (OpenSpec.ofChange pileMergesWrong)

/-- 'weirlaw07.PileSorts': WHATEVER THE INPUT: true; the input reads as it did. -/
def pileSortsSpec : ChangeSpec := { name := "pileSorts", fn := fun _ => fun
  | [d1, d2] => { results := [.lit (.bool true)], args := [d1, d2] }
  | _ => none }
def pileSortsRow : OpenClaim := { program := "ytdebokambldbbaa", sum := "565c3ee24b3a90461e28c851e543ca52f3b52b18dcf0b0916b5c645d97396cad", func := "weir/weirlaw07.PileSorts", spec := "pileSorts", unfollowed := true, recurses := true, apart := false }
def PileSortsSaid : Prop := pileSortsRow.holds Try.pinned (OpenSpec.ofChange pileSortsSpec)

/-- ITS FALSE NEIGHBOUR: 'it returns false'. Refute it at one input. -/
def pileSortsWrong : ChangeSpec := { name := "pileSorts", fn := fun _ => fun
  | [d1, d2] => { results := [.lit (.bool false)], args := [d1, d2] }
  | _ => none }
def PileSortsWrongFalsely : Prop := pileSortsRow.holds Try.pinned (OpenSpec.ofChange pileSortsWrong)

/-- 'weirlaw07.PileWords': WHATEVER THE INPUT: true; the input reads as it did. -/
def pileWordsSpec : ChangeSpec := { name := "pileWords", fn := fun _ => fun
  | [d1, d2, d3] => { results := [.lit (.bool true)], args := [d1, d2, d3] }
  | _ => none }
def pileWordsRow : OpenClaim := { program := "ytdebokambldbbaa", sum := "565c3ee24b3a90461e28c851e543ca52f3b52b18dcf0b0916b5c645d97396cad", func := "weir/weirlaw07.PileWords", spec := "pileWords", unfollowed := true, recurses := true, apart := false }
def PileWordsSaid : Prop := pileWordsRow.holds Try.pinned (OpenSpec.ofChange pileWordsSpec)

/-- ITS FALSE NEIGHBOUR: 'it returns false'. Refute it at one input. -/
def pileWordsWrong : ChangeSpec := { name := "pileWords", fn := fun _ => fun
  | [d1, d2, d3] => { results := [.lit (.bool false)], args := [d1, d2, d3] }
  | _ => none }
def PileWordsWrongFalsely : Prop := pileWordsRow.holds Try.pinned (OpenSpec.ofChange pileWordsWrong)

/- THE SECOND FORM. 'bulk': how many values and letters a reading holds, each counted each time it is reached (what is shared counts as often as it is met; a slice's spare places count too). A statement '..UptoSaid' is the law's where the arguments, and the package variables that the reading takes, are together of bulk at most 1048576: NARROWER than '..Said'. Prove '..Said' where nothing that the law and all that it calls make is longer than what came in: it says more and counts as full. Else prove '..UptoSaid'. A law counts once. -/
mutual
def uptoBulk {H : Type} : DataW H → Nat
  | .lit (.string bytes) => bytes.length + 1
  | .lit _ => 1
  | .nil => 1
  | .ptr d => uptoBulk d + 1
  | .slice elems spare => uptoBulkAll elems + uptoBulkAll spare + 1
  | .agg parts => uptoBulkAll parts + 1
  | .iface _ d => uptoBulk d + 1
  | .map entries => uptoBulkEntries entries + 1
  | .held _ => 1
def uptoBulkAll {H : Type} : List (DataW H) → Nat
  | [] => 0
  | d :: r => uptoBulk d + uptoBulkAll r
def uptoBulkEntries {H : Type} : List (Lit × DataW H) → Nat
  | [] => 0
  | x :: r => uptoBulkEntry x + uptoBulkEntries r
def uptoBulkEntry {H : Type} : Lit × DataW H → Nat
  | (.string bytes, d) => bytes.length + uptoBulk d + 1
  | (_, d) => uptoBulk d + 1
 end
def uptoSmall : (H : Type) → List (DataW H) → Bool := fun _ ds => decide (uptoBulkAll ds ≤ 1048576)
def OpenSpec.upto (s : _root_.Go.ChangeSpec) : _root_.Go.OpenSpec := { _root_.Go.OpenSpec.ofChange s with cond := some uptoSmall }

/-- 'weirlaw07.PileScripts', WHERE WHAT IT READS IS OF BULK AT MOST 1048576: true; the input reads as it did. -/
def pileScriptsUptoRow : OpenClaim := { program := "ytdebokambldbbaa", sum := "565c3ee24b3a90461e28c851e543ca52f3b52b18dcf0b0916b5c645d97396cad", func := "weir/weirlaw07.PileScripts", spec := "pileScripts", unfollowed := true, recurses := true, apart := false, narrowed := true }
def PileScriptsUptoSaid : Prop := pileScriptsUptoRow.holds Try.pinned (OpenSpec.upto pileScriptsSpec)

/-- 'weirlaw07.PileDrains', WHERE WHAT IT READS IS OF BULK AT MOST 1048576: true; the input reads as it did. -/
def pileDrainsUptoRow : OpenClaim := { program := "ytdebokambldbbaa", sum := "565c3ee24b3a90461e28c851e543ca52f3b52b18dcf0b0916b5c645d97396cad", func := "weir/weirlaw07.PileDrains", spec := "pileDrains", unfollowed := true, recurses := true, apart := false, narrowed := true }
def PileDrainsUptoSaid : Prop := pileDrainsUptoRow.holds Try.pinned (OpenSpec.upto pileDrainsSpec)

/-- 'weirlaw07.PileNil', WHERE WHAT IT READS IS OF BULK AT MOST 1048576: true; the input reads as it did. -/
def pileNilUptoRow : OpenClaim := { program := "ytdebokambldbbaa", sum := "565c3ee24b3a90461e28c851e543ca52f3b52b18dcf0b0916b5c645d97396cad", func := "weir/weirlaw07.PileNil", spec := "pileNil", unfollowed := true, recurses := true, apart := false, narrowed := true }
def PileNilUptoSaid : Prop := pileNilUptoRow.holds Try.pinned (OpenSpec.upto pileNilSpec)

/-- 'weirlaw07.PileMuddled', WHERE WHAT IT READS IS OF BULK AT MOST 1048576: true; the input reads as it did. -/
def pileMuddledUptoRow : OpenClaim := { program := "ytdebokambldbbaa", sum := "565c3ee24b3a90461e28c851e543ca52f3b52b18dcf0b0916b5c645d97396cad", func := "weir/weirlaw07.PileMuddled", spec := "pileMuddled", unfollowed := true, recurses := true, apart := false, narrowed := true }
def PileMuddledUptoSaid : Prop := pileMuddledUptoRow.holds Try.pinned (OpenSpec.upto pileMuddledSpec)

/-- 'weirlaw07.PileMerges', WHERE WHAT IT READS IS OF BULK AT MOST 1048576: true; the input reads as it did. -/
def pileMergesUptoRow : OpenClaim := { program := "ytdebokambldbbaa", sum := "565c3ee24b3a90461e28c851e543ca52f3b52b18dcf0b0916b5c645d97396cad", func := "weir/weirlaw07.PileMerges", spec := "pileMerges", unfollowed := true, recurses := true, apart := false, narrowed := true }
def PileMergesUptoSaid : Prop := pileMergesUptoRow.holds Try.pinned (OpenSpec.upto pileMergesSpec)

/-- 'weirlaw07.PileSorts', WHERE WHAT IT READS IS OF BULK AT MOST 1048576: true; the input reads as it did. -/
def pileSortsUptoRow : OpenClaim := { program := "ytdebokambldbbaa", sum := "565c3ee24b3a90461e28c851e543ca52f3b52b18dcf0b0916b5c645d97396cad", func := "weir/weirlaw07.PileSorts", spec := "pileSorts", unfollowed := true, recurses := true, apart := false, narrowed := true }
def PileSortsUptoSaid : Prop := pileSortsUptoRow.holds Try.pinned (OpenSpec.upto pileSortsSpec)

/-- 'weirlaw07.PileWords', WHERE WHAT IT READS IS OF BULK AT MOST 1048576: true; the input reads as it did. -/
def pileWordsUptoRow : OpenClaim := { program := "ytdebokambldbbaa", sum := "565c3ee24b3a90461e28c851e543ca52f3b52b18dcf0b0916b5c645d97396cad", func := "weir/weirlaw07.PileWords", spec := "pileWords", unfollowed := true, recurses := true, apart := false, narrowed := true }
def PileWordsUptoSaid : Prop := pileWordsUptoRow.holds Try.pinned (OpenSpec.upto pileWordsSpec)

end Rows
end Go.Proofs.Ytdebokambldbbaa
