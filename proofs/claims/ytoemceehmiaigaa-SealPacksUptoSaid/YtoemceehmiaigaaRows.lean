/-
  No cell of these rows narrows 'for every input' (looked for: loops, veiled, ifaces, maps, wideKeys, modest, calm, conditions, laid).
  DERIVED. THE GIVEN ROWS OF THIS SEAT. 3 by the template 'for every input the law returns true; each argument reads behind the call as it read before'; 0 by the template 'total and deterministic' (their statements: YtoemceehmiaigaaTotals.lean).
  GIVEN WITH THE SEED: the statements are not yours to turn. If you find one false, say at which input.
  Laid BY PROGRAM, IN A SANDBOX (cutbox-rows.mjs): the forced cells as the released guide's own fill.sh prints them over the translation d34f2b7a377dfe84… (all of the seat's roots in one cut). By AI agents, Wed Nov 11 2026. No macro, syntax, notation, axiom, sorry.
-/
import Derived.Test.YtoemceehmiaigaaChecked
import GoSem.Claim
import GoSem.ClaimJoined
import GoSem.ClaimMapViews
import Derived.JoinedTies
import Derived.KernelRfl
namespace Go.Proofs.Ytoemceehmiaigaa
/- THE CELL 'sum', in the pinned program and in every row, IS THE sha256 OF THE DUMP (.gsa) THAT YtoemceehmiaigaaProg.lean LOADS. Nothing in Lean hashes anything: it is a label: what it is worth is what the hold of that sum in a sandbox is worth. -/
noncomputable def Try.pinned : Pinned := { name := "ytoemceehmiaigaa", sum := "d34f2b7a377dfe84274717138d72d80a8539ebcb9710623ff867b12b19277776", checked := Try.checked }
namespace Rows
def none {H : Type} : Left H := { results := [], args := [] }

/-- 'weirlaw04.ShaEquals': WHATEVER THE INPUT: true; the input reads as it did. -/
def shaEqualsSpec : ChangeSpec := { name := "shaEquals", fn := fun _ => fun
  | [d] => { results := [.lit (.bool true)], args := [d] }
  | _ => none }
def shaEqualsRow : OpenClaim := { program := "ytoemceehmiaigaa", sum := "d34f2b7a377dfe84274717138d72d80a8539ebcb9710623ff867b12b19277776", func := "weir/weirlaw04.ShaEquals", spec := "shaEquals", apart := false }
def ShaEqualsSaid : Prop := shaEqualsRow.holds Try.pinned (OpenSpec.ofChange shaEqualsSpec)

/-- ITS FALSE NEIGHBOUR: 'it returns false'. Refute it at one input. -/
def shaEqualsWrong : ChangeSpec := { name := "shaEquals", fn := fun _ => fun
  | [d] => { results := [.lit (.bool false)], args := [d] }
  | _ => none }
def ShaEqualsWrongFalsely : Prop := shaEqualsRow.holds Try.pinned (OpenSpec.ofChange shaEqualsWrong)

/-- 'weirlaw05.SealEncodes': WHATEVER THE INPUT: true; the input reads as it did. -/
def sealEncodesSpec : ChangeSpec := { name := "sealEncodes", fn := fun _ => fun
  | [d1, d2] => { results := [.lit (.bool true)], args := [d1, d2] }
  | _ => none }
def sealEncodesRow : OpenClaim := { program := "ytoemceehmiaigaa", sum := "d34f2b7a377dfe84274717138d72d80a8539ebcb9710623ff867b12b19277776", func := "weir/weirlaw05.SealEncodes", spec := "sealEncodes", apart := false }
def SealEncodesSaid : Prop := sealEncodesRow.holds Try.pinned (OpenSpec.ofChange sealEncodesSpec)

/-- ITS FALSE NEIGHBOUR: 'it returns false'. Refute it at one input. -/
def sealEncodesWrong : ChangeSpec := { name := "sealEncodes", fn := fun _ => fun
  | [d1, d2] => { results := [.lit (.bool false)], args := [d1, d2] }
  | _ => none }
def SealEncodesWrongFalsely : Prop := sealEncodesRow.holds Try.pinned (OpenSpec.ofChange sealEncodesWrong)

/-- 'weirlaw05.SealPacks': WHATEVER THE INPUT: true; the input reads as it did. -/
def sealPacksSpec : ChangeSpec := { name := "sealPacks", fn := fun _ => fun
  | [d1, d2] => { results := [.lit (.bool true)], args := [d1, d2] }
  | _ => none }
def sealPacksRow : OpenClaim := { program := "ytoemceehmiaigaa", sum := "d34f2b7a377dfe84274717138d72d80a8539ebcb9710623ff867b12b19277776", func := "weir/weirlaw05.SealPacks", spec := "sealPacks", apart := false }
def SealPacksSaid : Prop := sealPacksRow.holds Try.pinned (OpenSpec.ofChange sealPacksSpec)

/-- ITS FALSE NEIGHBOUR: 'it returns false'. Refute it at one input. -/
def sealPacksWrong : ChangeSpec := { name := "sealPacks", fn := fun _ => fun
  | [d1, d2] => { results := [.lit (.bool false)], args := [d1, d2] }
  | _ => none }
def SealPacksWrongFalsely : Prop := sealPacksRow.holds Try.pinned (OpenSpec.ofChange sealPacksWrong)

/- THE SECOND FORM. 'bulk': how many values and letters a reading holds, each counted each time it is reached (what is shared counts as often as it is met; a slice's spare places count too). A statement '..UptoSaid' is the law's where the arguments, and the package variables that the reading takes, are together of bulk at most 1048576: NARROWER than '..Said'. Prove '..Said' where nothing that the law and all that it calls make is longer than what came in: it says more and counts as full. Else prove '..UptoSaid'. A law counts once. -/
mutual
def uptoBulk {H : Type} : DataW H → Nat
  | .lit (.string bytes) => bytes.length + 1
  | .lit _ => 1
  | .nil => 1
  | .ptr d => uptoBulk d + 1
  | .slice elems spare => uptoBulkAll elems + uptoBulkAll spare + 1
  | .agg parts => uptoBulkAll parts + 1
  | .iface _ d => uptoBulk d + 1
  | .map entries => uptoBulkEntries entries + 1
  | .held _ => 1
def uptoBulkAll {H : Type} : List (DataW H) → Nat
  | [] => 0
  | d :: r => uptoBulk d + uptoBulkAll r
def uptoBulkEntries {H : Type} : List (Lit × DataW H) → Nat
  | [] => 0
  | x :: r => uptoBulkEntry x + uptoBulkEntries r
def uptoBulkEntry {H : Type} : Lit × DataW H → Nat
  | (.string bytes, d) => bytes.length + uptoBulk d + 1
  | (_, d) => uptoBulk d + 1
 end
def uptoSmall : (H : Type) → List (DataW H) → Bool := fun _ ds => decide (uptoBulkAll ds ≤ 1048576)
def OpenSpec.upto (s : _root_.Go.ChangeSpec) : _root_.Go.OpenSpec := { _root_.Go.OpenSpec.ofChange s with cond := some uptoSmall }

/-- 'weirlaw04.ShaEquals', WHERE WHAT IT READS IS OF BULK AT MOST 1048576: true; the input reads as it did. -/
def shaEqualsUptoRow : OpenClaim := { program := "ytoemceehmiaigaa", sum := "d34f2b7a377dfe84274717138d72d80a8539ebcb9710623ff867b12b19277776", func := "weir/weirlaw04.ShaEquals", spec := "shaEquals", apart := false, narrowed := true }
def ShaEqualsUptoSaid : Prop := shaEqualsUptoRow.holds Try.pinned (OpenSpec.upto shaEqualsSpec)

/-- 'weirlaw05.SealEncodes', WHERE WHAT IT READS IS OF BULK AT MOST 1048576: true; the input reads as it did. -/
def sealEncodesUptoRow : OpenClaim := { program := "ytoemceehmiaigaa", sum := "d34f2b7a377dfe84274717138d72d80a8539ebcb9710623ff867b12b19277776", func := "weir/weirlaw05.SealEncodes", spec := "sealEncodes", apart := false, narrowed := true }
def SealEncodesUptoSaid : Prop := sealEncodesUptoRow.holds Try.pinned (OpenSpec.upto sealEncodesSpec)

/-- 'weirlaw05.SealPacks', WHERE WHAT IT READS IS OF BULK AT MOST 1048576: true; the input reads as it did. -/
def sealPacksUptoRow : OpenClaim := { program := "ytoemceehmiaigaa", sum := "d34f2b7a377dfe84274717138d72d80a8539ebcb9710623ff867b12b19277776", func := "weir/weirlaw05.SealPacks", spec := "sealPacks", apart := false, narrowed := true }
def SealPacksUptoSaid : Prop := sealPacksUptoRow.holds Try.pinned (OpenSpec.upto sealPacksSpec)

end Rows
end Go.Proofs.Ytoemceehmiaigaa
