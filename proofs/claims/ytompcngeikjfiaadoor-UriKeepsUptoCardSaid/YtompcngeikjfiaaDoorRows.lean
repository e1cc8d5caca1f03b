/-
  NARROWER THAN 'FOR EVERY INPUT', by the rows' own cells (each row's printed sentence says how): UriNames: laid · UriEscapes: laid · UriTexts: laid · UriParams: laid · UriBack: laid · UriTwo: laid · UriKeeps: laid.
  DERIVED. THE GIVEN ROWS OF THIS SEAT. 7 by the template 'for every input the law returns true; each argument reads behind the call as it read before'; 0 by the template 'total and deterministic' (their statements: YtompcngeikjfiaaDoorTotals.lean).
  GIVEN WITH THE SEED: the statements are not yours to turn. If you find one false, say at which input.
  Laid BY PROGRAM, IN A SANDBOX (cutbox-rows.mjs): the forced cells as the released guide's own fill.sh prints them over the translation e7c6c5c960e0eeb7… (all of the seat's roots in one cut). By AI agents, Wed Nov 11 2026. No macro, syntax, notation, axiom, sorry.
-/
import Derived.Test.YtompcngeikjfiaaDoorChecked
import GoSem.PinnedTables
import GoSem.Claim
import GoSem.ClaimJoined
import GoSem.ClaimMapViews
import Derived.JoinedTies
import Derived.KernelRfl
namespace Go.Proofs.YtompcngeikjfiaaDoor
/- THE CELL 'sum', in the pinned program and in every row, IS THE sha256 OF THE DUMP (.gsa) THAT YtompcngeikjfiaaDoorProg.lean LOADS. Nothing in Lean hashes anything: it is a label: what it is worth is what the hold of that sum in a sandbox is worth. -/
noncomputable def Tryd.pinned : Pinned := { name := "ytompcngeikjfiaadoor", sum := "e7c6c5c960e0eeb70b057a757a3b447102b985a20a593d7a0145f853518fd25b", checked := Tryd.checked }
namespace Rows
def none {H : Type} : Left H := { results := [], args := [] }

/- WHAT THE LISTED PACKAGE-LEVEL VARIABLES READ AS WHEN THE CALL BEGINS. Each datum BY PROGRAM (the guide's laid-datum.mjs) off the statement by which the dump's own 'gosem.cut.vars' lays the variable. In a bare row this is a premise. The card (YtompcngeikjfiaaDoorCards.lean) ties it to the program's text. -/
def laid_unicode_utf8_acceptRanges {H : Type} : DataW H := .agg [.agg [.lit (.int .u8 128), .lit (.int .u8 191)], .agg [.lit (.int .u8 160), .lit (.int .u8 191)], .agg [.lit (.int .u8 128), .lit (.int .u8 159)], .agg [.lit (.int .u8 144), .lit (.int .u8 191)], .agg [.lit (.int .u8 128), .lit (.int .u8 143)], .agg [.lit (.int .u8 0), .lit (.int .u8 0)], .agg [.lit (.int .u8 0), .lit (.int .u8 0)], .agg [.lit (.int .u8 0), .lit (.int .u8 0)], .agg [.lit (.int .u8 0), .lit (.int .u8 0)], .agg [.lit (.int .u8 0), .lit (.int .u8 0)], .agg [.lit (.int .u8 0), .lit (.int .u8 0)], .agg [.lit (.int .u8 0), .lit (.int .u8 0)], .agg [.lit (.int .u8 0), .lit (.int .u8 0)], .agg [.lit (.int .u8 0), .lit (.int .u8 0)], .agg [.lit (.int .u8 0), .lit (.int .u8 0)], .agg [.lit (.int .u8 0), .lit (.int .u8 0)]]
/-- One of Go's own tables, pinned by name: the form's constant. -/
def laid_unicode_utf8_first : DataW Unit := Go.Pinned.utf8First

/-- 'weirlaw27.UriNames': WHATEVER THE INPUT: true; the input reads as it did. -/
def uriNamesSpec : ChangeSpec := { name := "uriNames", fn := fun _ => fun
  | [] => { results := [.lit (.bool true)], args := [] }
  | _ => none }
def uriNamesRow : OpenClaim := { program := "ytompcngeikjfiaadoor", sum := "e7c6c5c960e0eeb70b057a757a3b447102b985a20a593d7a0145f853518fd25b", func := "weir/weirlaw27.UriNames", spec := "uriNames", inPlace := ["internal/bytealg.IndexByteString", "internal/bytealg.IndexString", "internal/abi.NoEscape"], unfollowed := true, recurses := true, named := ["unicode/utf8.first", "unicode/utf8.acceptRanges", "internal/bytealg.MaxLen"], apart := false, laid := [("unicode/utf8.acceptRanges", laid_unicode_utf8_acceptRanges), ("unicode/utf8.first", laid_unicode_utf8_first)] }
def UriNamesSaid : Prop := uriNamesRow.holds Tryd.pinned (OpenSpec.ofChange uriNamesSpec)

/-- ITS FALSE NEIGHBOUR: 'it returns false'. Refute it at one input. -/
def uriNamesWrong : ChangeSpec := { name := "uriNames", fn := fun _ => fun
  | [] => { results := [.lit (.bool false)], args := [] }
  | _ => none }
def UriNamesWrongFalsely : Prop := uriNamesRow.holds Tryd.pinned (OpenSpec.ofChange uriNamesWrong)

/-- 'weirlaw27.UriEscapes': WHATEVER THE INPUT: true; the input reads as it did. -/
def uriEscapesSpec : ChangeSpec := { name := "uriEscapes", fn := fun _ => fun
  | [d] => { results := [.lit (.bool true)], args := [d] }
  | _ => none }
def uriEscapesRow : OpenClaim := { program := "ytompcngeikjfiaadoor", sum := "e7c6c5c960e0eeb70b057a757a3b447102b985a20a593d7a0145f853518fd25b", func := "weir/weirlaw27.UriEscapes", spec := "uriEscapes", inPlace := ["internal/bytealg.IndexByteString", "internal/bytealg.IndexString", "internal/abi.NoEscape"], unfollowed := true, recurses := true, named := ["unicode/utf8.first", "unicode/utf8.acceptRanges", "internal/bytealg.MaxLen"], apart := false, laid := [("unicode/utf8.acceptRanges", laid_unicode_utf8_acceptRanges), ("unicode/utf8.first", laid_unicode_utf8_first)] }
def UriEscapesSaid : Prop := uriEscapesRow.holds Tryd.pinned (OpenSpec.ofChange uriEscapesSpec)

/-- ITS FALSE NEIGHBOUR: 'it returns false'. Refute it at one input. -/
def uriEscapesWrong : ChangeSpec := { name := "uriEscapes", fn := fun _ => fun
  | [d] => { results := [.lit (.bool false)], args := [d] }
  | _ => none }
def UriEscapesWrongFalsely : Prop := uriEscapesRow.holds Tryd.pinned (OpenSpec.ofChange uriEscapesWrong)

/-- 'weirlaw27.UriTexts': WHATEVER THE INPUT: true; the input reads as it did. -/
def uriTextsSpec : ChangeSpec := { name := "uriTexts", fn := fun _ => fun
  | [d] => { results := [.lit (.bool true)], args := [d] }
  | _ => none }
def uriTextsRow : OpenClaim := { program := "ytompcngeikjfiaadoor", sum := "e7c6c5c960e0eeb70b057a757a3b447102b985a20a593d7a0145f853518fd25b", func := "weir/weirlaw27.UriTexts", spec := "uriTexts", inPlace := ["internal/bytealg.IndexByteString", "internal/bytealg.IndexString", "internal/abi.NoEscape"], unfollowed := true, recurses := true, named := ["unicode/utf8.first", "unicode/utf8.acceptRanges", "internal/bytealg.MaxLen"], apart := false, laid := [("unicode/utf8.acceptRanges", laid_unicode_utf8_acceptRanges), ("unicode/utf8.first", laid_unicode_utf8_first)] }
def UriTextsSaid : Prop := uriTextsRow.holds Tryd.pinned (OpenSpec.ofChange uriTextsSpec)

/-- ITS FALSE NEIGHBOUR: 'it returns false'. Refute it at one input. -/
def uriTextsWrong : ChangeSpec := { name := "uriTexts", fn := fun _ => fun
  | [d] => { results := [.lit (.bool false)], args := [d] }
  | _ => none }
def UriTextsWrongFalsely : Prop := uriTextsRow.holds Tryd.pinned (OpenSpec.ofChange uriTextsWrong)

/-- 'weirlaw27.UriParams': WHATEVER THE INPUT: true; the input reads as it did. -/
def uriParamsSpec : ChangeSpec := { name := "uriParams", fn := fun _ => fun
  | [d1, d2] => { results := [.lit (.bool true)], args := [d1, d2] }
  | _ => none }
def uriParamsRow : OpenClaim := { program := "ytompcngeikjfiaadoor", sum := "e7c6c5c960e0eeb70b057a757a3b447102b985a20a593d7a0145f853518fd25b", func := "weir/weirlaw27.UriParams", spec := "uriParams", inPlace := ["internal/bytealg.IndexByteString", "internal/bytealg.IndexString", "internal/abi.NoEscape"], unfollowed := true, recurses := true, named := ["unicode/utf8.first", "unicode/utf8.acceptRanges", "internal/bytealg.MaxLen"], apart := false, laid := [("unicode/utf8.acceptRanges", laid_unicode_utf8_acceptRanges), ("unicode/utf8.first", laid_unicode_utf8_first)] }
def UriParamsSaid : Prop := uriParamsRow.holds Tryd.pinned (OpenSpec.ofChange uriParamsSpec)

/-- ITS FALSE NEIGHBOUR: 'it returns false'. Refute it at one input. -/
def uriParamsWrong : ChangeSpec := { name := "uriParams", fn := fun _ => fun
  | [d1, d2] => { results := [.lit (.bool false)], args := [d1, d2] }
  | _ => none }
def UriParamsWrongFalsely : Prop := uriParamsRow.holds Tryd.pinned (OpenSpec.ofChange uriParamsWrong)

/-- 'weirlaw27.UriBack': WHATEVER THE INPUT: true; the input reads as it did. -/
def uriBackSpec : ChangeSpec := { name := "uriBack", fn := fun _ => fun
  | [d1, d2] => { results := [.lit (.bool true)], args := [d1, d2] }
  | _ => none }
def uriBackRow : OpenClaim := { program := "ytompcngeikjfiaadoor", sum := "e7c6c5c960e0eeb70b057a757a3b447102b985a20a593d7a0145f853518fd25b", func := "weir/weirlaw27.UriBack", spec := "uriBack", inPlace := ["internal/bytealg.IndexByteString", "internal/bytealg.IndexString", "internal/abi.NoEscape"], unfollowed := true, recurses := true, named := ["unicode/utf8.first", "unicode/utf8.acceptRanges", "internal/bytealg.MaxLen"], apart := false, laid := [("unicode/utf8.acceptRanges", laid_unicode_utf8_acceptRanges), ("unicode/utf8.first", laid_unicode_utf8_first)] }
def UriBackSaid : Prop := uriBackRow.holds Tryd.pinned (OpenSpec.ofChange uriBackSpec)

/-- ITS FALSE NEIGHBOUR: 'it returns false'. Refute it at one input. -/
def uriBackWrong : ChangeSpec := { name := "uriBack", fn := fun _ => fun
  | [d1, d2] => { results := [.lit (.bool false)], args := [d1, d2] }
  | _ => none }
def UriBackWrongFalsely : Prop := uriBackRow.holds Tryd.pinned (OpenSpec.ofChange uriBackWrong)

/-- 'weirlaw27.UriTwo': WHATEVER THE INPUT: true; the input reads as it did. -/
def uriTwoSpec : ChangeSpec := { name := "uriTwo", fn := fun _ => fun
  | [d1, d2] => { results := [.lit (.bool true)], args := [d1, d2] }
  | _ => none }
def uriTwoRow : OpenClaim := { program := "ytompcngeikjfiaadoor", sum := "e7c6c5c960e0eeb70b057a757a3b447102b985a20a593d7a0145f853518fd25b", func := "weir/weirlaw27.UriTwo", spec := "uriTwo", inPlace := ["internal/bytealg.IndexByteString", "internal/bytealg.IndexString", "internal/abi.NoEscape"], unfollowed := true, recurses := true, named := ["unicode/utf8.first", "unicode/utf8.acceptRanges", "internal/bytealg.MaxLen"], apart := false, laid := [("unicode/utf8.acceptRanges", laid_unicode_utf8_acceptRanges), ("unicode/utf8.first", laid_unicode_utf8_first)] }
def UriTwoSaid : Prop := uriTwoRow.holds Tryd.pinned (OpenSpec.ofChange uriTwoSpec)

/-- ITS FALSE NEIGHBOUR: 'it returns false'. Refute it at one input. -/
def uriTwoWrong : ChangeSpec := { name := "uriTwo", fn := fun _ => fun
  | [d1, d2] => { results := [.lit (.bool false)], args := [d1, d2] }
  | _ => none }
def UriTwoWrongFalsely : Prop := uriTwoRow.holds Tryd.pinned (OpenSpec.ofChange uriTwoWrong)

/-- 'weirlaw27.UriKeeps': WHATEVER THE INPUT: true; the input reads as it did. -/
def uriKeepsSpec : ChangeSpec := { name := "uriKeeps", fn := fun _ => fun
  | [d1, d2, d3] => { results := [.lit (.bool true)], args := [d1, d2, d3] }
  | _ => none }
def uriKeepsRow : OpenClaim := { program := "ytompcngeikjfiaadoor", sum := "e7c6c5c960e0eeb70b057a757a3b447102b985a20a593d7a0145f853518fd25b", func := "weir/weirlaw27.UriKeeps", spec := "uriKeeps", inPlace := ["internal/bytealg.IndexByteString", "internal/bytealg.IndexString", "internal/abi.NoEscape"], unfollowed := true, recurses := true, named := ["unicode/utf8.first", "unicode/utf8.acceptRanges", "internal/bytealg.MaxLen"], apart := false, laid := [("unicode/utf8.acceptRanges", laid_unicode_utf8_acceptRanges), ("unicode/utf8.first", laid_unicode_utf8_first)] }
def UriKeepsSaid : Prop := uriKeepsRow.holds Tryd.pinned (OpenSpec.ofChange uriKeepsSpec)

/-- ITS FALSE NEIGHBOUR: 'it returns false'. Refute it at one input. -/
def uriKeepsWrong : ChangeSpec := { name := "uriKeeps", fn := fun _ => fun
  | [d1, d2, d3] => { results := [.lit (.bool false)], args := [d1, d2, d3] }
  | _ => none }
def UriKeepsWrongFalsely : Prop := uriKeepsRow.holds Tryd.pinned (OpenSpec.ofChange uriKeepsWrong)

/- THE SECOND FORM. 'bulk': how many values and letters a reading holds, each counted each time it is reached (what is shared counts as often as it is met; a slice's spare places count too). A statement '..UptoSaid' is the law's where the arguments, and the package variables that the reading takes, are together of bulk at most 1048576: NARROWER than '..Said'. Prove '..Said' where nothing that the law and all that it calls make is longer than what came in: it says more and counts as full. Else prove '..UptoSaid'. A law counts once. -/
mutual
def uptoBulk {H : Type} : DataW H → Nat
  | .lit (.string bytes) => bytes.length + 1
  | .lit _ => 1
  | .nil => 1
  | .ptr d => uptoBulk d + 1
  | .slice elems spare => uptoBulkAll elems + uptoBulkAll spare + 1
  | .agg parts => uptoBulkAll parts + 1
  | .iface _ d => uptoBulk d + 1
  | .map entries => uptoBulkEntries entries + 1
  | .held _ => 1
def uptoBulkAll {H : Type} : List (DataW H) → Nat
  | [] => 0
  | d :: r => uptoBulk d + uptoBulkAll r
def uptoBulkEntries {H : Type} : List (Lit × DataW H) → Nat
  | [] => 0
  | x :: r => uptoBulkEntry x + uptoBulkEntries r
def uptoBulkEntry {H : Type} : Lit × DataW H → Nat
  | (.string bytes, d) => bytes.length + uptoBulk d + 1
  | (_, d) => uptoBulk d + 1
 end
def uptoSmall : (H : Type) → List (DataW H) → Bool := fun _ ds => decide (uptoBulkAll ds ≤ 1048576)
def OpenSpec.upto (s : _root_.Go.ChangeSpec) : _root_.Go.OpenSpec := { _root_.Go.OpenSpec.ofChange s with cond := some uptoSmall }

/-- 'weirlaw27.UriNames', WHERE WHAT IT READS IS OF BULK AT MOST 1048576: true; the input reads as it did. -/
def uriNamesUptoRow : OpenClaim := { program := "ytompcngeikjfiaadoor", sum := "e7c6c5c960e0eeb70b057a757a3b447102b985a20a593d7a0145f853518fd25b", func := "weir/weirlaw27.UriNames", spec := "uriNames", inPlace := ["internal/bytealg.IndexByteString", "internal/bytealg.IndexString", "internal/abi.NoEscape"], unfollowed := true, recurses := true, named := ["unicode/utf8.first", "unicode/utf8.acceptRanges", "internal/bytealg.MaxLen"], apart := false, laid := [("unicode/utf8.acceptRanges", laid_unicode_utf8_acceptRanges), ("unicode/utf8.first", laid_unicode_utf8_first)], narrowed := true }
def UriNamesUptoSaid : Prop := uriNamesUptoRow.holds Tryd.pinned (OpenSpec.upto uriNamesSpec)

/-- 'weirlaw27.UriEscapes', WHERE WHAT IT READS IS OF BULK AT MOST 1048576: true; the input reads as it did. -/
def uriEscapesUptoRow : OpenClaim := { program := "ytompcngeikjfiaadoor", sum := "e7c6c5c960e0eeb70b057a757a3b447102b985a20a593d7a0145f853518fd25b", func := "weir/weirlaw27.UriEscapes", spec := "uriEscapes", inPlace := ["internal/bytealg.IndexByteString", "internal/bytealg.IndexString", "internal/abi.NoEscape"], unfollowed := true, recurses := true, named := ["unicode/utf8.first", "unicode/utf8.acceptRanges", "internal/bytealg.MaxLen"], apart := false, laid := [("unicode/utf8.acceptRanges", laid_unicode_utf8_acceptRanges), ("unicode/utf8.first", laid_unicode_utf8_first)], narrowed := true }
def UriEscapesUptoSaid : Prop := uriEscapesUptoRow.holds Tryd.pinned (OpenSpec.upto uriEscapesSpec)

/-- 'weirlaw27.UriTexts', WHERE WHAT IT READS IS OF BULK AT MOST 1048576: true; the input reads as it did. -/
def uriTextsUptoRow : OpenClaim := { program := "ytompcngeikjfiaadoor", sum := "e7c6c5c960e0eeb70b057a757a3b447102b985a20a593d7a0145f853518fd25b", func := "weir/weirlaw27.UriTexts", spec := "uriTexts", inPlace := ["internal/bytealg.IndexByteString", "internal/bytealg.IndexString", "internal/abi.NoEscape"], unfollowed := true, recurses := true, named := ["unicode/utf8.first", "unicode/utf8.acceptRanges", "internal/bytealg.MaxLen"], apart := false, laid := [("unicode/utf8.acceptRanges", laid_unicode_utf8_acceptRanges), ("unicode/utf8.first", laid_unicode_utf8_first)], narrowed := true }
def UriTextsUptoSaid : Prop := uriTextsUptoRow.holds Tryd.pinned (OpenSpec.upto uriTextsSpec)

/-- 'weirlaw27.UriParams', WHERE WHAT IT READS IS OF BULK AT MOST 1048576: true; the input reads as it did. -/
def uriParamsUptoRow : OpenClaim := { program := "ytompcngeikjfiaadoor", sum := "e7c6c5c960e0eeb70b057a757a3b447102b985a20a593d7a0145f853518fd25b", func := "weir/weirlaw27.UriParams", spec := "uriParams", inPlace := ["internal/bytealg.IndexByteString", "internal/bytealg.IndexString", "internal/abi.NoEscape"], unfollowed := true, recurses := true, named := ["unicode/utf8.first", "unicode/utf8.acceptRanges", "internal/bytealg.MaxLen"], apart := false, laid := [("unicode/utf8.acceptRanges", laid_unicode_utf8_acceptRanges), ("unicode/utf8.first", laid_unicode_utf8_first)], narrowed := true }
def UriParamsUptoSaid : Prop := uriParamsUptoRow.holds Tryd.pinned (OpenSpec.upto uriParamsSpec)

/-- 'weirlaw27.UriBack', WHERE WHAT IT READS IS OF BULK AT MOST 1048576: true; the input reads as it did. -/
def uriBackUptoRow : OpenClaim := { program := "ytompcngeikjfiaadoor", sum := "e7c6c5c960e0eeb70b057a757a3b447102b985a20a593d7a0145f853518fd25b", func := "weir/weirlaw27.UriBack", spec := "uriBack", inPlace := ["internal/bytealg.IndexByteString", "internal/bytealg.IndexString", "internal/abi.NoEscape"], unfollowed := true, recurses := true, named := ["unicode/utf8.first", "unicode/utf8.acceptRanges", "internal/bytealg.MaxLen"], apart := false, laid := [("unicode/utf8.acceptRanges", laid_unicode_utf8_acceptRanges), ("unicode/utf8.first", laid_unicode_utf8_first)], narrowed := true }
def UriBackUptoSaid : Prop := uriBackUptoRow.holds Tryd.pinned (OpenSpec.upto uriBackSpec)

/-- 'weirlaw27.UriTwo', WHERE WHAT IT READS IS OF BULK AT MOST 1048576: true; the input reads as it did. -/
def uriTwoUptoRow : OpenClaim := { program := "ytompcngeikjfiaadoor", sum := "e7c6c5c960e0eeb70b057a757a3b447102b985a20a593d7a0145f853518fd25b", func := "weir/weirlaw27.UriTwo", spec := "uriTwo", inPlace := ["internal/bytealg.IndexByteString", "internal/bytealg.IndexString", "internal/abi.NoEscape"], unfollowed := true, recurses := true, named := ["unicode/utf8.first", "unicode/utf8.acceptRanges", "internal/bytealg.MaxLen"], apart := false, laid := [("unicode/utf8.acceptRanges", laid_unicode_utf8_acceptRanges), ("unicode/utf8.first", laid_unicode_utf8_first)], narrowed := true }
def UriTwoUptoSaid : Prop := uriTwoUptoRow.holds Tryd.pinned (OpenSpec.upto uriTwoSpec)

/-- 'weirlaw27.UriKeeps', WHERE WHAT IT READS IS OF BULK AT MOST 1048576: true; the input reads as it did. -/
def uriKeepsUptoRow : OpenClaim := { program := "ytompcngeikjfiaadoor", sum := "e7c6c5c960e0eeb70b057a757a3b447102b985a20a593d7a0145f853518fd25b", func := "weir/weirlaw27.UriKeeps", spec := "uriKeeps", inPlace := ["internal/bytealg.IndexByteString", "internal/bytealg.IndexString", "internal/abi.NoEscape"], unfollowed := true, recurses := true, named := ["unicode/utf8.first", "unicode/utf8.acceptRanges", "internal/bytealg.MaxLen"], apart := false, laid := [("unicode/utf8.acceptRanges", laid_unicode_utf8_acceptRanges), ("unicode/utf8.first", laid_unicode_utf8_first)], narrowed := true }
def UriKeepsUptoSaid : Prop := uriKeepsUptoRow.holds Tryd.pinned (OpenSpec.upto uriKeepsSpec)

end Rows
end Go.Proofs.YtompcngeikjfiaaDoor
