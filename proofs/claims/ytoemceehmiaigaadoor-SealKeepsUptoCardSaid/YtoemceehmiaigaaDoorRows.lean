/-
  NARROWER THAN 'FOR EVERY INPUT', by the rows' own cells (each row's printed sentence says how): ShaRoots: laid · ShaSums: laid · ShaHashes: laid · ShaPieces: laid · ShaMacs: laid · ShaHmacs: laid · ShaNested: laid · SealNames: laid · SealOpens: laid · SealOnly: laid · SealTag: laid · SealKeeps: laid.
  DERIVED. THE GIVEN ROWS OF THIS SEAT. 12 by the template 'for every input the law returns true; each argument reads behind the call as it read before'; 0 by the template 'total and deterministic' (their statements: YtoemceehmiaigaaDoorTotals.lean).
  GIVEN WITH THE SEED: the statements are not yours to turn. If you find one false, say at which input.
  Laid BY PROGRAM, IN A SANDBOX (cutbox-rows.mjs): the forced cells as the released guide's own fill.sh prints them over the translation 78152e56757d5159… (all of the seat's roots in one cut). By AI agents, Wed Nov 11 2026. No macro, syntax, notation, axiom, sorry.
-/
import Derived.Test.YtoemceehmiaigaaDoorChecked
import GoSem.Claim
import GoSem.ClaimJoined
import GoSem.ClaimMapViews
import Derived.JoinedTies
import Derived.KernelRfl
namespace Go.Proofs.YtoemceehmiaigaaDoor
/- THE CELL 'sum', in the pinned program and in every row, IS THE sha256 OF THE DUMP (.gsa) THAT YtoemceehmiaigaaDoorProg.lean LOADS. Nothing in Lean hashes anything: it is a label: what it is worth is what the hold of that sum in a sandbox is worth. -/
noncomputable def Tryd.pinned : Pinned := { name := "ytoemceehmiaigaadoor", sum := "78152e56757d515944a60651ab625702f1591c5851e33e353d0a312cd0b76c70", checked := Tryd.checked }
namespace Rows
def none {H : Type} : Left H := { results := [], args := [] }

/- WHAT THE LISTED PACKAGE-LEVEL VARIABLES READ AS WHEN THE CALL BEGINS. Each datum BY PROGRAM (the guide's laid-datum.mjs) off the statement by which the dump's own 'gosem.cut.vars' lays the variable. In a bare row this is a premise. The card (YtoemceehmiaigaaDoorCards.lean) ties it to the program's text. -/
def laid_weir_sha_begin {H : Type} : DataW H := .agg [.lit (.int .u32 1779033703), .lit (.int .u32 3144134277), .lit (.int .u32 1013904242), .lit (.int .u32 2773480762), .lit (.int .u32 1359893119), .lit (.int .u32 2600822924), .lit (.int .u32 528734635), .lit (.int .u32 1541459225)]

/-- 'weirlaw04.ShaRoots': WHATEVER THE INPUT: true; the input reads as it did. -/
def shaRootsSpec : ChangeSpec := { name := "shaRoots", fn := fun _ => fun
  | [d] => { results := [.lit (.bool true)], args := [d] }
  | _ => none }
def shaRootsRow : OpenClaim := { program := "ytoemceehmiaigaadoor", sum := "78152e56757d515944a60651ab625702f1591c5851e33e353d0a312cd0b76c70", func := "weir/weirlaw04.ShaRoots", spec := "shaRoots", named := ["weir/sha.begin"], apart := false, laid := [("weir/sha.begin", laid_weir_sha_begin)] }
def ShaRootsSaid : Prop := shaRootsRow.holds Tryd.pinned (OpenSpec.ofChange shaRootsSpec)

/-- ITS FALSE NEIGHBOUR: 'it returns false'. Refute it at one input. -/
def shaRootsWrong : ChangeSpec := { name := "shaRoots", fn := fun _ => fun
  | [d] => { results := [.lit (.bool false)], args := [d] }
  | _ => none }
def ShaRootsWrongFalsely : Prop := shaRootsRow.holds Tryd.pinned (OpenSpec.ofChange shaRootsWrong)

/-- 'weirlaw04.ShaSums': WHATEVER THE INPUT: true; the input reads as it did. -/
def shaSumsSpec : ChangeSpec := { name := "shaSums", fn := fun _ => fun
  | [d] => { results := [.lit (.bool true)], args := [d] }
  | _ => none }
def shaSumsRow : OpenClaim := { program := "ytoemceehmiaigaadoor", sum := "78152e56757d515944a60651ab625702f1591c5851e33e353d0a312cd0b76c70", func := "weir/weirlaw04.ShaSums", spec := "shaSums", named := ["weir/sha.begin"], apart := false, laid := [("weir/sha.begin", laid_weir_sha_begin)] }
def ShaSumsSaid : Prop := shaSumsRow.holds Tryd.pinned (OpenSpec.ofChange shaSumsSpec)

/-- ITS FALSE NEIGHBOUR: 'it returns false'. Refute it at one input. -/
def shaSumsWrong : ChangeSpec := { name := "shaSums", fn := fun _ => fun
  | [d] => { results := [.lit (.bool false)], args := [d] }
  | _ => none }
def ShaSumsWrongFalsely : Prop := shaSumsRow.holds Tryd.pinned (OpenSpec.ofChange shaSumsWrong)

/-- 'weirlaw04.ShaHashes': WHATEVER THE INPUT: true; the input reads as it did. -/
def shaHashesSpec : ChangeSpec := { name := "shaHashes", fn := fun _ => fun
  | [d] => { results := [.lit (.bool true)], args := [d] }
  | _ => none }
def shaHashesRow : OpenClaim := { program := "ytoemceehmiaigaadoor", sum := "78152e56757d515944a60651ab625702f1591c5851e33e353d0a312cd0b76c70", func := "weir/weirlaw04.ShaHashes", spec := "shaHashes", named := ["weir/sha.begin"], apart := false, laid := [("weir/sha.begin", laid_weir_sha_begin)] }
def ShaHashesSaid : Prop := shaHashesRow.holds Tryd.pinned (OpenSpec.ofChange shaHashesSpec)

/-- ITS FALSE NEIGHBOUR: 'it returns false'. Refute it at one input. -/
def shaHashesWrong : ChangeSpec := { name := "shaHashes", fn := fun _ => fun
  | [d] => { results := [.lit (.bool false)], args := [d] }
  | _ => none }
def ShaHashesWrongFalsely : Prop := shaHashesRow.holds Tryd.pinned (OpenSpec.ofChange shaHashesWrong)

/-- 'weirlaw04.ShaPieces': WHATEVER THE INPUT: true; the input reads as it did. -/
def shaPiecesSpec : ChangeSpec := { name := "shaPieces", fn := fun _ => fun
  | [d1, d2] => { results := [.lit (.bool true)], args := [d1, d2] }
  | _ => none }
def shaPiecesRow : OpenClaim := { program := "ytoemceehmiaigaadoor", sum := "78152e56757d515944a60651ab625702f1591c5851e33e353d0a312cd0b76c70", func := "weir/weirlaw04.ShaPieces", spec := "shaPieces", named := ["weir/sha.begin"], apart := false, laid := [("weir/sha.begin", laid_weir_sha_begin)] }
def ShaPiecesSaid : Prop := shaPiecesRow.holds Tryd.pinned (OpenSpec.ofChange shaPiecesSpec)

/-- ITS FALSE NEIGHBOUR: 'it returns false'. Refute it at one input. -/
def shaPiecesWrong : ChangeSpec := { name := "shaPieces", fn := fun _ => fun
  | [d1, d2] => { results := [.lit (.bool false)], args := [d1, d2] }
  | _ => none }
def ShaPiecesWrongFalsely : Prop := shaPiecesRow.holds Tryd.pinned (OpenSpec.ofChange shaPiecesWrong)

/-- 'weirlaw04.ShaMacs': WHATEVER THE INPUT: true; the input reads as it did. -/
def shaMacsSpec : ChangeSpec := { name := "shaMacs", fn := fun _ => fun
  | [d1, d2] => { results := [.lit (.bool true)], args := [d1, d2] }
  | _ => none }
def shaMacsRow : OpenClaim := { program := "ytoemceehmiaigaadoor", sum := "78152e56757d515944a60651ab625702f1591c5851e33e353d0a312cd0b76c70", func := "weir/weirlaw04.ShaMacs", spec := "shaMacs", named := ["weir/sha.begin"], apart := false, laid := [("weir/sha.begin", laid_weir_sha_begin)] }
def ShaMacsSaid : Prop := shaMacsRow.holds Tryd.pinned (OpenSpec.ofChange shaMacsSpec)

/-- ITS FALSE NEIGHBOUR: 'it returns false'. Refute it at one input. -/
def shaMacsWrong : ChangeSpec := { name := "shaMacs", fn := fun _ => fun
  | [d1, d2] => { results := [.lit (.bool false)], args := [d1, d2] }
  | _ => none }
def ShaMacsWrongFalsely : Prop := shaMacsRow.holds Tryd.pinned (OpenSpec.ofChange shaMacsWrong)

/-- 'weirlaw04.ShaHmacs': WHATEVER THE INPUT: true; the input reads as it did. -/
def shaHmacsSpec : ChangeSpec := { name := "shaHmacs", fn := fun _ => fun
  | [d] => { results := [.lit (.bool true)], args := [d] }
  | _ => none }
def shaHmacsRow : OpenClaim := { program := "ytoemceehmiaigaadoor", sum := "78152e56757d515944a60651ab625702f1591c5851e33e353d0a312cd0b76c70", func := "weir/weirlaw04.ShaHmacs", spec := "shaHmacs", named := ["weir/sha.begin"], apart := false, laid := [("weir/sha.begin", laid_weir_sha_begin)] }
def ShaHmacsSaid : Prop := shaHmacsRow.holds Tryd.pinned (OpenSpec.ofChange shaHmacsSpec)

/-- ITS FALSE NEIGHBOUR: 'it returns false'. Refute it at one input. -/
def shaHmacsWrong : ChangeSpec := { name := "shaHmacs", fn := fun _ => fun
  | [d] => { results := [.lit (.bool false)], args := [d] }
  | _ => none }
def ShaHmacsWrongFalsely : Prop := shaHmacsRow.holds Tryd.pinned (OpenSpec.ofChange shaHmacsWrong)

/-- 'weirlaw04.ShaNested': WHATEVER THE INPUT: true; the input reads as it did. -/
def shaNestedSpec : ChangeSpec := { name := "shaNested", fn := fun _ => fun
  | [d1, d2, d3] => { results := [.lit (.bool true)], args := [d1, d2, d3] }
  | _ => none }
def shaNestedRow : OpenClaim := { program := "ytoemceehmiaigaadoor", sum := "78152e56757d515944a60651ab625702f1591c5851e33e353d0a312cd0b76c70", func := "weir/weirlaw04.ShaNested", spec := "shaNested", named := ["weir/sha.begin"], apart := false, laid := [("weir/sha.begin", laid_weir_sha_begin)] }
def ShaNestedSaid : Prop := shaNestedRow.holds Tryd.pinned (OpenSpec.ofChange shaNestedSpec)

/-- ITS FALSE NEIGHBOUR: 'it returns false'. Refute it at one input. -/
def shaNestedWrong : ChangeSpec := { name := "shaNested", fn := fun _ => fun
  | [d1, d2, d3] => { results := [.lit (.bool false)], args := [d1, d2, d3] }
  | _ => none }
def ShaNestedWrongFalsely : Prop := shaNestedRow.holds Tryd.pinned (OpenSpec.ofChange shaNestedWrong)

/-- 'weirlaw05.SealNames': WHATEVER THE INPUT: true; the input reads as it did. -/
def sealNamesSpec : ChangeSpec := { name := "sealNames", fn := fun _ => fun
  | [] => { results := [.lit (.bool true)], args := [] }
  | _ => none }
def sealNamesRow : OpenClaim := { program := "ytoemceehmiaigaadoor", sum := "78152e56757d515944a60651ab625702f1591c5851e33e353d0a312cd0b76c70", func := "weir/weirlaw05.SealNames", spec := "sealNames", inPlace := ["internal/bytealg.IndexByteString", "internal/bytealg.IndexString"], named := ["weir/sha.begin", "internal/bytealg.MaxLen"], apart := false, laid := [("weir/sha.begin", laid_weir_sha_begin)] }
def SealNamesSaid : Prop := sealNamesRow.holds Tryd.pinned (OpenSpec.ofChange sealNamesSpec)

/-- ITS FALSE NEIGHBOUR: 'it returns false'. Refute it at one input. -/
def sealNamesWrong : ChangeSpec := { name := "sealNames", fn := fun _ => fun
  | [] => { results := [.lit (.bool false)], args := [] }
  | _ => none }
def SealNamesWrongFalsely : Prop := sealNamesRow.holds Tryd.pinned (OpenSpec.ofChange sealNamesWrong)

/-- 'weirlaw05.SealOpens': WHATEVER THE INPUT: true; the input reads as it did. -/
def sealOpensSpec : ChangeSpec := { name := "sealOpens", fn := fun _ => fun
  | [d1, d2, d3] => { results := [.lit (.bool true)], args := [d1, d2, d3] }
  | _ => none }
def sealOpensRow : OpenClaim := { program := "ytoemceehmiaigaadoor", sum := "78152e56757d515944a60651ab625702f1591c5851e33e353d0a312cd0b76c70", func := "weir/weirlaw05.SealOpens", spec := "sealOpens", inPlace := ["internal/bytealg.IndexByteString", "internal/bytealg.IndexString"], named := ["weir/sha.begin", "internal/bytealg.MaxLen"], apart := false, laid := [("weir/sha.begin", laid_weir_sha_begin)] }
def SealOpensSaid : Prop := sealOpensRow.holds Tryd.pinned (OpenSpec.ofChange sealOpensSpec)

/-- ITS FALSE NEIGHBOUR: 'it returns false'. Refute it at one input. -/
def sealOpensWrong : ChangeSpec := { name := "sealOpens", fn := fun _ => fun
  | [d1, d2, d3] => { results := [.lit (.bool false)], args := [d1, d2, d3] }
  | _ => none }
def SealOpensWrongFalsely : Prop := sealOpensRow.holds Tryd.pinned (OpenSpec.ofChange sealOpensWrong)

/-- 'weirlaw05.SealOnly': WHATEVER THE INPUT: true; the input reads as it did. -/
def sealOnlySpec : ChangeSpec := { name := "sealOnly", fn := fun _ => fun
  | [d1, d2, d3] => { results := [.lit (.bool true)], args := [d1, d2, d3] }
  | _ => none }
def sealOnlyRow : OpenClaim := { program := "ytoemceehmiaigaadoor", sum := "78152e56757d515944a60651ab625702f1591c5851e33e353d0a312cd0b76c70", func := "weir/weirlaw05.SealOnly", spec := "sealOnly", inPlace := ["internal/bytealg.IndexByteString", "internal/bytealg.IndexString"], named := ["internal/bytealg.MaxLen", "weir/sha.begin"], apart := false, laid := [("weir/sha.begin", laid_weir_sha_begin)] }
def SealOnlySaid : Prop := sealOnlyRow.holds Tryd.pinned (OpenSpec.ofChange sealOnlySpec)

/-- ITS FALSE NEIGHBOUR: 'it returns false'. Refute it at one input. -/
def sealOnlyWrong : ChangeSpec := { name := "sealOnly", fn := fun _ => fun
  | [d1, d2, d3] => { results := [.lit (.bool false)], args := [d1, d2, d3] }
  | _ => none }
def SealOnlyWrongFalsely : Prop := sealOnlyRow.holds Tryd.pinned (OpenSpec.ofChange sealOnlyWrong)

/-- 'weirlaw05.SealTag': WHATEVER THE INPUT: true; the input reads as it did. -/
def sealTagSpec : ChangeSpec := { name := "sealTag", fn := fun _ => fun
  | [d1, d2, d3] => { results := [.lit (.bool true)], args := [d1, d2, d3] }
  | _ => none }
def sealTagRow : OpenClaim := { program := "ytoemceehmiaigaadoor", sum := "78152e56757d515944a60651ab625702f1591c5851e33e353d0a312cd0b76c70", func := "weir/weirlaw05.SealTag", spec := "sealTag", inPlace := ["internal/bytealg.IndexByteString", "internal/bytealg.IndexString"], named := ["weir/sha.begin", "internal/bytealg.MaxLen"], apart := false, laid := [("weir/sha.begin", laid_weir_sha_begin)] }
def SealTagSaid : Prop := sealTagRow.holds Tryd.pinned (OpenSpec.ofChange sealTagSpec)

/-- ITS FALSE NEIGHBOUR: 'it returns false'. Refute it at one input. -/
def sealTagWrong : ChangeSpec := { name := "sealTag", fn := fun _ => fun
  | [d1, d2, d3] => { results := [.lit (.bool false)], args := [d1, d2, d3] }
  | _ => none }
def SealTagWrongFalsely : Prop := sealTagRow.holds Tryd.pinned (OpenSpec.ofChange sealTagWrong)

/-- 'weirlaw05.SealKeeps': WHATEVER THE INPUT: true; the input reads as it did. -/
def sealKeepsSpec : ChangeSpec := { name := "sealKeeps", fn := fun _ => fun
  | [d1, d2, d3] => { results := [.lit (.bool true)], args := [d1, d2, d3] }
  | _ => none }
def sealKeepsRow : OpenClaim := { program := "ytoemceehmiaigaadoor", sum := "78152e56757d515944a60651ab625702f1591c5851e33e353d0a312cd0b76c70", func := "weir/weirlaw05.SealKeeps", spec := "sealKeeps", inPlace := ["internal/bytealg.IndexByteString", "internal/bytealg.IndexString"], named := ["weir/sha.begin", "internal/bytealg.MaxLen"], apart := false, laid := [("weir/sha.begin", laid_weir_sha_begin)] }
def SealKeepsSaid : Prop := sealKeepsRow.holds Tryd.pinned (OpenSpec.ofChange sealKeepsSpec)

/-- ITS FALSE NEIGHBOUR: 'it returns false'. Refute it at one input. -/
def sealKeepsWrong : ChangeSpec := { name := "sealKeeps", fn := fun _ => fun
  | [d1, d2, d3] => { results := [.lit (.bool false)], args := [d1, d2, d3] }
  | _ => none }
def SealKeepsWrongFalsely : Prop := sealKeepsRow.holds Tryd.pinned (OpenSpec.ofChange sealKeepsWrong)

/- THE SECOND FORM. 'bulk': how many values and letters a reading holds, each counted each time it is reached (what is shared counts as often as it is met; a slice's spare places count too). A statement '..UptoSaid' is the law's where the arguments, and the package variables that the reading takes, are together of bulk at most 1048576: NARROWER than '..Said'. Prove '..Said' where nothing that the law and all that it calls make is longer than what came in: it says more and counts as full. Else prove '..UptoSaid'. A law counts once. -/
mutual
def uptoBulk {H : Type} : DataW H → Nat
  | .lit (.string bytes) => bytes.length + 1
  | .lit _ => 1
  | .nil => 1
  | .ptr d => uptoBulk d + 1
  | .slice elems spare => uptoBulkAll elems + uptoBulkAll spare + 1
  | .agg parts => uptoBulkAll parts + 1
  | .iface _ d => uptoBulk d + 1
  | .map entries => uptoBulkEntries entries + 1
  | .held _ => 1
def uptoBulkAll {H : Type} : List (DataW H) → Nat
  | [] => 0
  | d :: r => uptoBulk d + uptoBulkAll r
def uptoBulkEntries {H : Type} : List (Lit × DataW H) → Nat
  | [] => 0
  | x :: r => uptoBulkEntry x + uptoBulkEntries r
def uptoBulkEntry {H : Type} : Lit × DataW H → Nat
  | (.string bytes, d) => bytes.length + uptoBulk d + 1
  | (_, d) => uptoBulk d + 1
 end
def uptoSmall : (H : Type) → List (DataW H) → Bool := fun _ ds => decide (uptoBulkAll ds ≤ 1048576)
def OpenSpec.upto (s : _root_.Go.ChangeSpec) : _root_.Go.OpenSpec := { _root_.Go.OpenSpec.ofChange s with cond := some uptoSmall }

/-- 'weirlaw04.ShaRoots', WHERE WHAT IT READS IS OF BULK AT MOST 1048576: true; the input reads as it did. -/
def shaRootsUptoRow : OpenClaim := { program := "ytoemceehmiaigaadoor", sum := "78152e56757d515944a60651ab625702f1591c5851e33e353d0a312cd0b76c70", func := "weir/weirlaw04.ShaRoots", spec := "shaRoots", named := ["weir/sha.begin"], apart := false, laid := [("weir/sha.begin", laid_weir_sha_begin)], narrowed := true }
def ShaRootsUptoSaid : Prop := shaRootsUptoRow.holds Tryd.pinned (OpenSpec.upto shaRootsSpec)

/-- 'weirlaw04.ShaSums', WHERE WHAT IT READS IS OF BULK AT MOST 1048576: true; the input reads as it did. -/
def shaSumsUptoRow : OpenClaim := { program := "ytoemceehmiaigaadoor", sum := "78152e56757d515944a60651ab625702f1591c5851e33e353d0a312cd0b76c70", func := "weir/weirlaw04.ShaSums", spec := "shaSums", named := ["weir/sha.begin"], apart := false, laid := [("weir/sha.begin", laid_weir_sha_begin)], narrowed := true }
def ShaSumsUptoSaid : Prop := shaSumsUptoRow.holds Tryd.pinned (OpenSpec.upto shaSumsSpec)

/-- 'weirlaw04.ShaHashes', WHERE WHAT IT READS IS OF BULK AT MOST 1048576: true; the input reads as it did. -/
def shaHashesUptoRow : OpenClaim := { program := "ytoemceehmiaigaadoor", sum := "78152e56757d515944a60651ab625702f1591c5851e33e353d0a312cd0b76c70", func := "weir/weirlaw04.ShaHashes", spec := "shaHashes", named := ["weir/sha.begin"], apart := false, laid := [("weir/sha.begin", laid_weir_sha_begin)], narrowed := true }
def ShaHashesUptoSaid : Prop := shaHashesUptoRow.holds Tryd.pinned (OpenSpec.upto shaHashesSpec)

/-- 'weirlaw04.ShaPieces', WHERE WHAT IT READS IS OF BULK AT MOST 1048576: true; the input reads as it did. -/
def shaPiecesUptoRow : OpenClaim := { program := "ytoemceehmiaigaadoor", sum := "78152e56757d515944a60651ab625702f1591c5851e33e353d0a312cd0b76c70", func := "weir/weirlaw04.ShaPieces", spec := "shaPieces", named := ["weir/sha.begin"], apart := false, laid := [("weir/sha.begin", laid_weir_sha_begin)], narrowed := true }
def ShaPiecesUptoSaid : Prop := shaPiecesUptoRow.holds Tryd.pinned (OpenSpec.upto shaPiecesSpec)

/-- 'weirlaw04.ShaMacs', WHERE WHAT IT READS IS OF BULK AT MOST 1048576: true; the input reads as it did. -/
def shaMacsUptoRow : OpenClaim := { program := "ytoemceehmiaigaadoor", sum := "78152e56757d515944a60651ab625702f1591c5851e33e353d0a312cd0b76c70", func := "weir/weirlaw04.ShaMacs", spec := "shaMacs", named := ["weir/sha.begin"], apart := false, laid := [("weir/sha.begin", laid_weir_sha_begin)], narrowed := true }
def ShaMacsUptoSaid : Prop := shaMacsUptoRow.holds Tryd.pinned (OpenSpec.upto shaMacsSpec)

/-- 'weirlaw04.ShaHmacs', WHERE WHAT IT READS IS OF BULK AT MOST 1048576: true; the input reads as it did. -/
def shaHmacsUptoRow : OpenClaim := { program := "ytoemceehmiaigaadoor", sum := "78152e56757d515944a60651ab625702f1591c5851e33e353d0a312cd0b76c70", func := "weir/weirlaw04.ShaHmacs", spec := "shaHmacs", named := ["weir/sha.begin"], apart := false, laid := [("weir/sha.begin", laid_weir_sha_begin)], narrowed := true }
def ShaHmacsUptoSaid : Prop := shaHmacsUptoRow.holds Tryd.pinned (OpenSpec.upto shaHmacsSpec)

/-- 'weirlaw04.ShaNested', WHERE WHAT IT READS IS OF BULK AT MOST 1048576: true; the input reads as it did. -/
def shaNestedUptoRow : OpenClaim := { program := "ytoemceehmiaigaadoor", sum := "78152e56757d515944a60651ab625702f1591c5851e33e353d0a312cd0b76c70", func := "weir/weirlaw04.ShaNested", spec := "shaNested", named := ["weir/sha.begin"], apart := false, laid := [("weir/sha.begin", laid_weir_sha_begin)], narrowed := true }
def ShaNestedUptoSaid : Prop := shaNestedUptoRow.holds Tryd.pinned (OpenSpec.upto shaNestedSpec)

/-- 'weirlaw05.SealNames', WHERE WHAT IT READS IS OF BULK AT MOST 1048576: true; the input reads as it did. -/
def sealNamesUptoRow : OpenClaim := { program := "ytoemceehmiaigaadoor", sum := "78152e56757d515944a60651ab625702f1591c5851e33e353d0a312cd0b76c70", func := "weir/weirlaw05.SealNames", spec := "sealNames", inPlace := ["internal/bytealg.IndexByteString", "internal/bytealg.IndexString"], named := ["weir/sha.begin", "internal/bytealg.MaxLen"], apart := false, laid := [("weir/sha.begin", laid_weir_sha_begin)], narrowed := true }
def SealNamesUptoSaid : Prop := sealNamesUptoRow.holds Tryd.pinned (OpenSpec.upto sealNamesSpec)

/-- 'weirlaw05.SealOpens', WHERE WHAT IT READS IS OF BULK AT MOST 1048576: true; the input reads as it did. -/
def sealOpensUptoRow : OpenClaim := { program := "ytoemceehmiaigaadoor", sum := "78152e56757d515944a60651ab625702f1591c5851e33e353d0a312cd0b76c70", func := "weir/weirlaw05.SealOpens", spec := "sealOpens", inPlace := ["internal/bytealg.IndexByteString", "internal/bytealg.IndexString"], named := ["weir/sha.begin", "internal/bytealg.MaxLen"], apart := false, laid := [("weir/sha.begin", laid_weir_sha_begin)], narrowed := true }
def SealOpensUptoSaid : Prop := sealOpensUptoRow.holds Tryd.pinned (OpenSpec.upto sealOpensSpec)

/-- 'weirlaw05.SealOnly', WHERE WHAT IT READS IS OF BULK AT MOST 1048576: true; the input reads as it did. -/
def sealOnlyUptoRow : OpenClaim := { program := "ytoemceehmiaigaadoor", sum := "78152e56757d515944a60651ab625702f1591c5851e33e353d0a312cd0b76c70", func := "weir/weirlaw05.SealOnly", spec := "sealOnly", inPlace := ["internal/bytealg.IndexByteString", "internal/bytealg.IndexString"], named := ["internal/bytealg.MaxLen", "weir/sha.begin"], apart := false, laid := [("weir/sha.begin", laid_weir_sha_begin)], narrowed := true }
def SealOnlyUptoSaid : Prop := sealOnlyUptoRow.holds Tryd.pinned (OpenSpec.upto sealOnlySpec)

/-- 'weirlaw05.SealTag', WHERE WHAT IT READS IS OF BULK AT MOST 1048576: true; the input reads as it did. -/
def sealTagUptoRow : OpenClaim := { program := "ytoemceehmiaigaadoor", sum := "78152e56757d515944a60651ab625702f1591c5851e33e353d0a312cd0b76c70", func := "weir/weirlaw05.SealTag", spec := "sealTag", inPlace := ["internal/bytealg.IndexByteString", "internal/bytealg.IndexString"], named := ["weir/sha.begin", "internal/bytealg.MaxLen"], apart := false, laid := [("weir/sha.begin", laid_weir_sha_begin)], narrowed := true }
def SealTagUptoSaid : Prop := sealTagUptoRow.holds Tryd.pinned (OpenSpec.upto sealTagSpec)

/-- 'weirlaw05.SealKeeps', WHERE WHAT IT READS IS OF BULK AT MOST 1048576: true; the input reads as it did. -/
def sealKeepsUptoRow : OpenClaim := { program := "ytoemceehmiaigaadoor", sum := "78152e56757d515944a60651ab625702f1591c5851e33e353d0a312cd0b76c70", func := "weir/weirlaw05.SealKeeps", spec := "sealKeeps", inPlace := ["internal/bytealg.IndexByteString", "internal/bytealg.IndexString"], named := ["weir/sha.begin", "internal/bytealg.MaxLen"], apart := false, laid := [("weir/sha.begin", laid_weir_sha_begin)], narrowed := true }
def SealKeepsUptoSaid : Prop := sealKeepsUptoRow.holds Tryd.pinned (OpenSpec.upto sealKeepsSpec)

end Rows
end Go.Proofs.YtoemceehmiaigaaDoor
