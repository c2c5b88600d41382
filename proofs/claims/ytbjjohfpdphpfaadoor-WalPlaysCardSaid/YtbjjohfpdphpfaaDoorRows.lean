/-
  NARROWER THAN 'FOR EVERY INPUT', by the rows' own cells (each row's printed sentence says how): KeysBetween: laid · KeysDense: laid · KeysStarts: laid · KeysOne: laid · KeysRow: laid · KeysRises: laid · DiskSure: laid · DiskRename: laid · WalReads: laid · WalPlays: laid · WalTail: laid · WalNone: laid.
  DERIVED. THE GIVEN ROWS OF THIS SEAT. 12 by the template 'for every input the law returns true; each argument reads behind the call as it read before'; 0 by the template 'total and deterministic' (their statements: YtbjjohfpdphpfaaDoorTotals.lean).
  GIVEN WITH THE SEED: the statements are not yours to turn. If you find one false, say at which input.
  Laid BY PROGRAM, IN A SANDBOX (cutbox-rows.mjs): the forced cells as the released guide's own fill.sh prints them over the translation f926390f57398027… (all of the seat's roots in one cut). By AI agents, Wed Nov 11 2026. No macro, syntax, notation, axiom, sorry.
-/
import Derived.Test.YtbjjohfpdphpfaaDoorChecked
import GoSem.PinnedTables
import GoSem.Claim
import GoSem.ClaimJoined
import GoSem.ClaimMapViews
import Derived.JoinedTies
import Derived.KernelRfl
namespace Go.Proofs.YtbjjohfpdphpfaaDoor
/- THE CELL 'sum', in the pinned program and in every row, IS THE sha256 OF THE DUMP (.gsa) THAT YtbjjohfpdphpfaaDoorProg.lean LOADS. Nothing in Lean hashes anything: it is a label: what it is worth is what the hold of that sum in a sandbox is worth. -/
noncomputable def Tryd.pinned : Pinned := { name := "ytbjjohfpdphpfaadoor", sum := "f926390f57398027123fb7a33bb077c9602af06bc5b5cacca7eff010efdec1c9", checked := Tryd.checked }
namespace Rows
def none {H : Type} : Left H := { results := [], args := [] }

/- WHAT THE LISTED PACKAGE-LEVEL VARIABLES READ AS WHEN THE CALL BEGINS. Each datum BY PROGRAM (the guide's laid-datum.mjs) off the statement by which the dump's own 'gosem.cut.vars' lays the variable. In a bare row this is a premise. The card (YtbjjohfpdphpfaaDoorCards.lean) ties it to the program's text. -/
def laid_unicode_utf8_acceptRanges {H : Type} : DataW H := .agg [.agg [.lit (.int .u8 128), .lit (.int .u8 191)], .agg [.lit (.int .u8 160), .lit (.int .u8 191)], .agg [.lit (.int .u8 128), .lit (.int .u8 159)], .agg [.lit (.int .u8 144), .lit (.int .u8 191)], .agg [.lit (.int .u8 128), .lit (.int .u8 143)], .agg [.lit (.int .u8 0), .lit (.int .u8 0)], .agg [.lit (.int .u8 0), .lit (.int .u8 0)], .agg [.lit (.int .u8 0), .lit (.int .u8 0)], .agg [.lit (.int .u8 0), .lit (.int .u8 0)], .agg [.lit (.int .u8 0), .lit (.int .u8 0)], .agg [.lit (.int .u8 0), .lit (.int .u8 0)], .agg [.lit (.int .u8 0), .lit (.int .u8 0)], .agg [.lit (.int .u8 0), .lit (.int .u8 0)], .agg [.lit (.int .u8 0), .lit (.int .u8 0)], .agg [.lit (.int .u8 0), .lit (.int .u8 0)], .agg [.lit (.int .u8 0), .lit (.int .u8 0)]]
/-- One of Go's own tables, pinned by name: the form's constant. -/
def laid_unicode_utf8_first : DataW Unit := Go.Pinned.utf8First

/-- 'osierlaw06.KeysBetween': WHATEVER THE INPUT: true; the input reads as it did. -/
def keysBetweenSpec : ChangeSpec := { name := "keysBetween", fn := fun _ => fun
  | [d1, d2] => { results := [.lit (.bool true)], args := [d1, d2] }
  | _ => none }
def keysBetweenRow : OpenClaim := { program := "ytbjjohfpdphpfaadoor", sum := "f926390f57398027123fb7a33bb077c9602af06bc5b5cacca7eff010efdec1c9", func := "osier/osierlaw06.KeysBetween", spec := "keysBetween", inPlace := ["internal/bytealg.IndexByteString", "internal/bytealg.IndexString"], recurses := true, named := ["unicode/utf8.first", "unicode/utf8.acceptRanges", "internal/bytealg.MaxLen"], apart := false, laid := [("unicode/utf8.acceptRanges", laid_unicode_utf8_acceptRanges), ("unicode/utf8.first", laid_unicode_utf8_first)] }
def KeysBetweenSaid : Prop := keysBetweenRow.holds Tryd.pinned (OpenSpec.ofChange keysBetweenSpec)

/-- ITS FALSE NEIGHBOUR: 'it returns false'. Refute it at one input. -/
def keysBetweenWrong : ChangeSpec := { name := "keysBetween", fn := fun _ => fun
  | [d1, d2] => { results := [.lit (.bool false)], args := [d1, d2] }
  | _ => none }
def KeysBetweenWrongFalsely : Prop := keysBetweenRow.holds Tryd.pinned (OpenSpec.ofChange keysBetweenWrong)

/-- 'osierlaw06.KeysDense': WHATEVER THE INPUT: true; the input reads as it did. -/
def keysDenseSpec : ChangeSpec := { name := "keysDense", fn := fun _ => fun
  | [d1, d2] => { results := [.lit (.bool true)], args := [d1, d2] }
  | _ => none }
def keysDenseRow : OpenClaim := { program := "ytbjjohfpdphpfaadoor", sum := "f926390f57398027123fb7a33bb077c9602af06bc5b5cacca7eff010efdec1c9", func := "osier/osierlaw06.KeysDense", spec := "keysDense", inPlace := ["internal/bytealg.IndexByteString", "internal/bytealg.IndexString"], named := ["unicode/utf8.first", "unicode/utf8.acceptRanges", "internal/bytealg.MaxLen"], apart := false, laid := [("unicode/utf8.acceptRanges", laid_unicode_utf8_acceptRanges), ("unicode/utf8.first", laid_unicode_utf8_first)] }
def KeysDenseSaid : Prop := keysDenseRow.holds Tryd.pinned (OpenSpec.ofChange keysDenseSpec)

/-- ITS FALSE NEIGHBOUR: 'it returns false'. Refute it at one input. -/
def keysDenseWrong : ChangeSpec := { name := "keysDense", fn := fun _ => fun
  | [d1, d2] => { results := [.lit (.bool false)], args := [d1, d2] }
  | _ => none }
def KeysDenseWrongFalsely : Prop := keysDenseRow.holds Tryd.pinned (OpenSpec.ofChange keysDenseWrong)

/-- 'osierlaw06.KeysStarts': WHATEVER THE INPUT: true; the input reads as it did. -/
def keysStartsSpec : ChangeSpec := { name := "keysStarts", fn := fun _ => fun
  | [d] => { results := [.lit (.bool true)], args := [d] }
  | _ => none }
def keysStartsRow : OpenClaim := { program := "ytbjjohfpdphpfaadoor", sum := "f926390f57398027123fb7a33bb077c9602af06bc5b5cacca7eff010efdec1c9", func := "osier/osierlaw06.KeysStarts", spec := "keysStarts", inPlace := ["internal/bytealg.IndexByteString", "internal/bytealg.IndexString"], named := ["unicode/utf8.first", "unicode/utf8.acceptRanges", "internal/bytealg.MaxLen"], apart := false, laid := [("unicode/utf8.acceptRanges", laid_unicode_utf8_acceptRanges), ("unicode/utf8.first", laid_unicode_utf8_first)] }
def KeysStartsSaid : Prop := keysStartsRow.holds Tryd.pinned (OpenSpec.ofChange keysStartsSpec)

/-- ITS FALSE NEIGHBOUR: 'it returns false'. Refute it at one input. -/
def keysStartsWrong : ChangeSpec := { name := "keysStarts", fn := fun _ => fun
  | [d] => { results := [.lit (.bool false)], args := [d] }
  | _ => none }
def KeysStartsWrongFalsely : Prop := keysStartsRow.holds Tryd.pinned (OpenSpec.ofChange keysStartsWrong)

/-- 'osierlaw06.KeysOne': WHATEVER THE INPUT: true; the input reads as it did. -/
def keysOneSpec : ChangeSpec := { name := "keysOne", fn := fun _ => fun
  | [d1, d2] => { results := [.lit (.bool true)], args := [d1, d2] }
  | _ => none }
def keysOneRow : OpenClaim := { program := "ytbjjohfpdphpfaadoor", sum := "f926390f57398027123fb7a33bb077c9602af06bc5b5cacca7eff010efdec1c9", func := "osier/osierlaw06.KeysOne", spec := "keysOne", inPlace := ["internal/bytealg.IndexByteString", "internal/bytealg.IndexString"], named := ["unicode/utf8.first", "unicode/utf8.acceptRanges", "internal/bytealg.MaxLen"], apart := false, laid := [("unicode/utf8.acceptRanges", laid_unicode_utf8_acceptRanges), ("unicode/utf8.first", laid_unicode_utf8_first)] }
def KeysOneSaid : Prop := keysOneRow.holds Tryd.pinned (OpenSpec.ofChange keysOneSpec)

/-- ITS FALSE NEIGHBOUR: 'it returns false'. Refute it at one input. -/
def keysOneWrong : ChangeSpec := { name := "keysOne", fn := fun _ => fun
  | [d1, d2] => { results := [.lit (.bool false)], args := [d1, d2] }
  | _ => none }
def KeysOneWrongFalsely : Prop := keysOneRow.holds Tryd.pinned (OpenSpec.ofChange keysOneWrong)

/-- 'osierlaw06.KeysRow': WHATEVER THE INPUT: true; the input reads as it did. -/
def keysRowSpec : ChangeSpec := { name := "keysRow", fn := fun _ => fun
  | [d1, d2, d3] => { results := [.lit (.bool true)], args := [d1, d2, d3] }
  | _ => none }
def keysRowRow : OpenClaim := { program := "ytbjjohfpdphpfaadoor", sum := "f926390f57398027123fb7a33bb077c9602af06bc5b5cacca7eff010efdec1c9", func := "osier/osierlaw06.KeysRow", spec := "keysRow", inPlace := ["internal/bytealg.IndexByteString", "internal/bytealg.IndexString"], unfollowed := true, recurses := true, named := ["unicode/utf8.first", "unicode/utf8.acceptRanges", "internal/bytealg.MaxLen"], apart := false, laid := [("unicode/utf8.acceptRanges", laid_unicode_utf8_acceptRanges), ("unicode/utf8.first", laid_unicode_utf8_first)] }
def KeysRowSaid : Prop := keysRowRow.holds Tryd.pinned (OpenSpec.ofChange keysRowSpec)

/-- ITS FALSE NEIGHBOUR: 'it returns false'. Refute it at one input. -/
def keysRowWrong : ChangeSpec := { name := "keysRow", fn := fun _ => fun
  | [d1, d2, d3] => { results := [.lit (.bool false)], args := [d1, d2, d3] }
  | _ => none }
def KeysRowWrongFalsely : Prop := keysRowRow.holds Tryd.pinned (OpenSpec.ofChange keysRowWrong)

/-- 'osierlaw06.KeysRises': WHATEVER THE INPUT: true; the input reads as it did. -/
def keysRisesSpec : ChangeSpec := { name := "keysRises", fn := fun _ => fun
  | [d1, d2, d3] => { results := [.lit (.bool true)], args := [d1, d2, d3] }
  | _ => none }
def keysRisesRow : OpenClaim := { program := "ytbjjohfpdphpfaadoor", sum := "f926390f57398027123fb7a33bb077c9602af06bc5b5cacca7eff010efdec1c9", func := "osier/osierlaw06.KeysRises", spec := "keysRises", inPlace := ["internal/bytealg.IndexByteString", "internal/bytealg.IndexString"], unfollowed := true, recurses := true, named := ["unicode/utf8.first", "unicode/utf8.acceptRanges", "internal/bytealg.MaxLen"], apart := false, laid := [("unicode/utf8.acceptRanges", laid_unicode_utf8_acceptRanges), ("unicode/utf8.first", laid_unicode_utf8_first)] }
def KeysRisesSaid : Prop := keysRisesRow.holds Tryd.pinned (OpenSpec.ofChange keysRisesSpec)

/-- ITS FALSE NEIGHBOUR: 'it returns false'. Refute it at one input. -/
def keysRisesWrong : ChangeSpec := { name := "keysRises", fn := fun _ => fun
  | [d1, d2, d3] => { results := [.lit (.bool false)], args := [d1, d2, d3] }
  | _ => none }
def KeysRisesWrongFalsely : Prop := keysRisesRow.holds Tryd.pinned (OpenSpec.ofChange keysRisesWrong)

/-- 'osierlaw18.DiskSure': WHATEVER THE INPUT: true; the input reads as it did. -/
def diskSureSpec : ChangeSpec := { name := "diskSure", fn := fun _ => fun
  | [d1, d2, d3, d4, d5, d6] => { results := [.lit (.bool true)], args := [d1, d2, d3, d4, d5, d6] }
  | _ => none }
def diskSureRow : OpenClaim := { program := "ytbjjohfpdphpfaadoor", sum := "f926390f57398027123fb7a33bb077c9602af06bc5b5cacca7eff010efdec1c9", func := "osier/osierlaw18.DiskSure", spec := "diskSure", inPlace := ["internal/bytealg.IndexByteString", "internal/bytealg.IndexString"], unfollowed := true, recurses := true, named := ["unicode/utf8.first", "unicode/utf8.acceptRanges", "internal/bytealg.MaxLen"], apart := false, laid := [("unicode/utf8.acceptRanges", laid_unicode_utf8_acceptRanges), ("unicode/utf8.first", laid_unicode_utf8_first)] }
def DiskSureSaid : Prop := diskSureRow.holds Tryd.pinned (OpenSpec.ofChange diskSureSpec)

/-- ITS FALSE NEIGHBOUR: 'it returns false'. Refute it at one input. -/
def diskSureWrong : ChangeSpec := { name := "diskSure", fn := fun _ => fun
  | [d1, d2, d3, d4, d5, d6] => { results := [.lit (.bool false)], args := [d1, d2, d3, d4, d5, d6] }
  | _ => none }
def DiskSureWrongFalsely : Prop := diskSureRow.holds Tryd.pinned (OpenSpec.ofChange diskSureWrong)

/-- 'osierlaw18.DiskRename': WHATEVER THE INPUT: true; the input reads as it did. -/
def diskRenameSpec : ChangeSpec := { name := "diskRename", fn := fun _ => fun
  | [d1, d2, d3, d4, d5] => { results := [.lit (.bool true)], args := [d1, d2, d3, d4, d5] }
  | _ => none }
def diskRenameRow : OpenClaim := { program := "ytbjjohfpdphpfaadoor", sum := "f926390f57398027123fb7a33bb077c9602af06bc5b5cacca7eff010efdec1c9", func := "osier/osierlaw18.DiskRename", spec := "diskRename", inPlace := ["internal/bytealg.IndexByteString", "internal/bytealg.IndexString"], unfollowed := true, recurses := true, named := ["unicode/utf8.first", "unicode/utf8.acceptRanges", "internal/bytealg.MaxLen"], apart := false, laid := [("unicode/utf8.acceptRanges", laid_unicode_utf8_acceptRanges), ("unicode/utf8.first", laid_unicode_utf8_first)] }
def DiskRenameSaid : Prop := diskRenameRow.holds Tryd.pinned (OpenSpec.ofChange diskRenameSpec)

/-- ITS FALSE NEIGHBOUR: 'it returns false'. Refute it at one input. -/
def diskRenameWrong : ChangeSpec := { name := "diskRename", fn := fun _ => fun
  | [d1, d2, d3, d4, d5] => { results := [.lit (.bool false)], args := [d1, d2, d3, d4, d5] }
  | _ => none }
def DiskRenameWrongFalsely : Prop := diskRenameRow.holds Tryd.pinned (OpenSpec.ofChange diskRenameWrong)

/-- 'osierlaw19.WalReads': WHATEVER THE INPUT: true; the input reads as it did. -/
def walReadsSpec : ChangeSpec := { name := "walReads", fn := fun _ => fun
  | [d1, d2] => { results := [.lit (.bool true)], args := [d1, d2] }
  | _ => none }
def walReadsRow : OpenClaim := { program := "ytbjjohfpdphpfaadoor", sum := "f926390f57398027123fb7a33bb077c9602af06bc5b5cacca7eff010efdec1c9", func := "osier/osierlaw19.WalReads", spec := "walReads", inPlace := ["internal/bytealg.IndexByteString", "internal/bytealg.IndexString"], unfollowed := true, recurses := true, named := ["unicode/utf8.first", "unicode/utf8.acceptRanges", "internal/bytealg.MaxLen"], apart := false, laid := [("unicode/utf8.acceptRanges", laid_unicode_utf8_acceptRanges), ("unicode/utf8.first", laid_unicode_utf8_first)] }
def WalReadsSaid : Prop := walReadsRow.holds Tryd.pinned (OpenSpec.ofChange walReadsSpec)

/-- ITS FALSE NEIGHBOUR: 'it returns false'. Refute it at one input. -/
def walReadsWrong : ChangeSpec := { name := "walReads", fn := fun _ => fun
  | [d1, d2] => { results := [.lit (.bool false)], args := [d1, d2] }
  | _ => none }
def WalReadsWrongFalsely : Prop := walReadsRow.holds Tryd.pinned (OpenSpec.ofChange walReadsWrong)

/-- 'osierlaw19.WalPlays': WHATEVER THE INPUT: true; the input reads as it did. -/
def walPlaysSpec : ChangeSpec := { name := "walPlays", fn := fun _ => fun
  | [d1, d2] => { results := [.lit (.bool true)], args := [d1, d2] }
  | _ => none }
def walPlaysRow : OpenClaim := { program := "ytbjjohfpdphpfaadoor", sum := "f926390f57398027123fb7a33bb077c9602af06bc5b5cacca7eff010efdec1c9", func := "osier/osierlaw19.WalPlays", spec := "walPlays", inPlace := ["internal/bytealg.IndexByteString", "internal/bytealg.IndexString"], unfollowed := true, recurses := true, named := ["unicode/utf8.first", "unicode/utf8.acceptRanges", "internal/bytealg.MaxLen"], apart := false, laid := [("unicode/utf8.acceptRanges", laid_unicode_utf8_acceptRanges), ("unicode/utf8.first", laid_unicode_utf8_first)] }
def WalPlaysSaid : Prop := walPlaysRow.holds Tryd.pinned (OpenSpec.ofChange walPlaysSpec)

/-- ITS FALSE NEIGHBOUR: 'it returns false'. Refute it at one input. -/
def walPlaysWrong : ChangeSpec := { name := "walPlays", fn := fun _ => fun
  | [d1, d2] => { results := [.lit (.bool false)], args := [d1, d2] }
  | _ => none }
def WalPlaysWrongFalsely : Prop := walPlaysRow.holds Tryd.pinned (OpenSpec.ofChange walPlaysWrong)

/-- 'osierlaw19.WalTail': WHATEVER THE INPUT: true; the input reads as it did. -/
def walTailSpec : ChangeSpec := { name := "walTail", fn := fun _ => fun
  | [d1, d2, d3] => { results := [.lit (.bool true)], args := [d1, d2, d3] }
  | _ => none }
def walTailRow : OpenClaim := { program := "ytbjjohfpdphpfaadoor", sum := "f926390f57398027123fb7a33bb077c9602af06bc5b5cacca7eff010efdec1c9", func := "osier/osierlaw19.WalTail", spec := "walTail", inPlace := ["internal/bytealg.IndexByteString", "internal/bytealg.IndexString"], unfollowed := true, recurses := true, named := ["unicode/utf8.first", "unicode/utf8.acceptRanges", "internal/bytealg.MaxLen"], apart := false, laid := [("unicode/utf8.acceptRanges", laid_unicode_utf8_acceptRanges), ("unicode/utf8.first", laid_unicode_utf8_first)] }
def WalTailSaid : Prop := walTailRow.holds Tryd.pinned (OpenSpec.ofChange walTailSpec)

/-- ITS FALSE NEIGHBOUR: 'it returns false'. Refute it at one input. -/
def walTailWrong : ChangeSpec := { name := "walTail", fn := fun _ => fun
  | [d1, d2, d3] => { results := [.lit (.bool false)], args := [d1, d2, d3] }
  | _ => none }
def WalTailWrongFalsely : Prop := walTailRow.holds Tryd.pinned (OpenSpec.ofChange walTailWrong)

/-- 'osierlaw19.WalNone': WHATEVER THE INPUT: true; the input reads as it did. -/
def walNoneSpec : ChangeSpec := { name := "walNone", fn := fun _ => fun
  | [d] => { results := [.lit (.bool true)], args := [d] }
  | _ => none }
def walNoneRow : OpenClaim := { program := "ytbjjohfpdphpfaadoor", sum := "f926390f57398027123fb7a33bb077c9602af06bc5b5cacca7eff010efdec1c9", func := "osier/osierlaw19.WalNone", spec := "walNone", inPlace := ["internal/bytealg.IndexByteString", "internal/bytealg.IndexString"], unfollowed := true, recurses := true, named := ["unicode/utf8.first", "unicode/utf8.acceptRanges", "internal/bytealg.MaxLen"], apart := false, laid := [("unicode/utf8.acceptRanges", laid_unicode_utf8_acceptRanges), ("unicode/utf8.first", laid_unicode_utf8_first)] }
def WalNoneSaid : Prop := walNoneRow.holds Tryd.pinned (OpenSpec.ofChange walNoneSpec)

/-- ITS FALSE NEIGHBOUR: 'it returns false'. Refute it at one input. -/
def walNoneWrong : ChangeSpec := { name := "walNone", fn := fun _ => fun
  | [d] => { results := [.lit (.bool false)], args := [d] }
  | _ => none }
def WalNoneWrongFalsely : Prop := walNoneRow.holds Tryd.pinned (OpenSpec.ofChange walNoneWrong)

/- THE SECOND FORM. 'bulk': how many values and letters a reading holds, each counted each time it is reached (what is shared counts as often as it is met; a slice's spare places count too). A statement '..UptoSaid' is the law's where the arguments, and the package variables that the reading takes, are together of bulk at most 1048576: NARROWER than '..Said'. Prove '..Said' where nothing that the law and all that it calls make is longer than what came in: it says more and counts as full. Else prove '..UptoSaid'. A law counts once. -/
mutual
def uptoBulk {H : Type} : DataW H → Nat
  | .lit (.string bytes) => bytes.length + 1
  | .lit _ => 1
  | .nil => 1
  | .ptr d => uptoBulk d + 1
  | .slice elems spare => uptoBulkAll elems + uptoBulkAll spare + 1
  | .agg parts => uptoBulkAll parts + 1
  | .iface _ d => uptoBulk d + 1
  | .map entries => uptoBulkEntries entries + 1
  | .held _ => 1
def uptoBulkAll {H : Type} : List (DataW H) → Nat
  | [] => 0
  | d :: r => uptoBulk d + uptoBulkAll r
def uptoBulkEntries {H : Type} : List (Lit × DataW H) → Nat
  | [] => 0
  | x :: r => uptoBulkEntry x + uptoBulkEntries r
def uptoBulkEntry {H : Type} : Lit × DataW H → Nat
  | (.string bytes, d) => bytes.length + uptoBulk d + 1
  | (_, d) => uptoBulk d + 1
 end
def uptoSmall : (H : Type) → List (DataW H) → Bool := fun _ ds => decide (uptoBulkAll ds ≤ 1048576)
def OpenSpec.upto (s : _root_.Go.ChangeSpec) : _root_.Go.OpenSpec := { _root_.Go.OpenSpec.ofChange s with cond := some uptoSmall }

/-- 'osierlaw06.KeysBetween', WHERE WHAT IT READS IS OF BULK AT MOST 1048576: true; the input reads as it did. -/
def keysBetweenUptoRow : OpenClaim := { program := "ytbjjohfpdphpfaadoor", sum := "f926390f57398027123fb7a33bb077c9602af06bc5b5cacca7eff010efdec1c9", func := "osier/osierlaw06.KeysBetween", spec := "keysBetween", inPlace := ["internal/bytealg.IndexByteString", "internal/bytealg.IndexString"], recurses := true, named := ["unicode/utf8.first", "unicode/utf8.acceptRanges", "internal/bytealg.MaxLen"], apart := false, laid := [("unicode/utf8.acceptRanges", laid_unicode_utf8_acceptRanges), ("unicode/utf8.first", laid_unicode_utf8_first)], narrowed := true }
def KeysBetweenUptoSaid : Prop := keysBetweenUptoRow.holds Tryd.pinned (OpenSpec.upto keysBetweenSpec)

/-- 'osierlaw06.KeysDense', WHERE WHAT IT READS IS OF BULK AT MOST 1048576: true; the input reads as it did. -/
def keysDenseUptoRow : OpenClaim := { program := "ytbjjohfpdphpfaadoor", sum := "f926390f57398027123fb7a33bb077c9602af06bc5b5cacca7eff010efdec1c9", func := "osier/osierlaw06.KeysDense", spec := "keysDense", inPlace := ["internal/bytealg.IndexByteString", "internal/bytealg.IndexString"], named := ["unicode/utf8.first", "unicode/utf8.acceptRanges", "internal/bytealg.MaxLen"], apart := false, laid := [("unicode/utf8.acceptRanges", laid_unicode_utf8_acceptRanges), ("unicode/utf8.first", laid_unicode_utf8_first)], narrowed := true }
def KeysDenseUptoSaid : Prop := keysDenseUptoRow.holds Tryd.pinned (OpenSpec.upto keysDenseSpec)

/-- 'osierlaw06.KeysStarts', WHERE WHAT IT READS IS OF BULK AT MOST 1048576: true; the input reads as it did. -/
def keysStartsUptoRow : OpenClaim := { program := "ytbjjohfpdphpfaadoor", sum := "f926390f57398027123fb7a33bb077c9602af06bc5b5cacca7eff010efdec1c9", func := "osier/osierlaw06.KeysStarts", spec := "keysStarts", inPlace := ["internal/bytealg.IndexByteString", "internal/bytealg.IndexString"], named := ["unicode/utf8.first", "unicode/utf8.acceptRanges", "internal/bytealg.MaxLen"], apart := false, laid := [("unicode/utf8.acceptRanges", laid_unicode_utf8_acceptRanges), ("unicode/utf8.first", laid_unicode_utf8_first)], narrowed := true }
def KeysStartsUptoSaid : Prop := keysStartsUptoRow.holds Tryd.pinned (OpenSpec.upto keysStartsSpec)

/-- 'osierlaw06.KeysOne', WHERE WHAT IT READS IS OF BULK AT MOST 1048576: true; the input reads as it did. -/
def keysOneUptoRow : OpenClaim := { program := "ytbjjohfpdphpfaadoor", sum := "f926390f57398027123fb7a33bb077c9602af06bc5b5cacca7eff010efdec1c9", func := "osier/osierlaw06.KeysOne", spec := "keysOne", inPlace := ["internal/bytealg.IndexByteString", "internal/bytealg.IndexString"], named := ["unicode/utf8.first", "unicode/utf8.acceptRanges", "internal/bytealg.MaxLen"], apart := false, laid := [("unicode/utf8.acceptRanges", laid_unicode_utf8_acceptRanges), ("unicode/utf8.first", laid_unicode_utf8_first)], narrowed := true }
def KeysOneUptoSaid : Prop := keysOneUptoRow.holds Tryd.pinned (OpenSpec.upto keysOneSpec)

/-- 'osierlaw06.KeysRow', WHERE WHAT IT READS IS OF BULK AT MOST 1048576: true; the input reads as it did. -/
def keysRowUptoRow : OpenClaim := { program := "ytbjjohfpdphpfaadoor", sum := "f926390f57398027123fb7a33bb077c9602af06bc5b5cacca7eff010efdec1c9", func := "osier/osierlaw06.KeysRow", spec := "keysRow", inPlace := ["internal/bytealg.IndexByteString", "internal/bytealg.IndexString"], unfollowed := true, recurses := true, named := ["unicode/utf8.first", "unicode/utf8.acceptRanges", "internal/bytealg.MaxLen"], apart := false, laid := [("unicode/utf8.acceptRanges", laid_unicode_utf8_acceptRanges), ("unicode/utf8.first", laid_unicode_utf8_first)], narrowed := true }
def KeysRowUptoSaid : Prop := keysRowUptoRow.holds Tryd.pinned (OpenSpec.upto keysRowSpec)

/-- 'osierlaw06.KeysRises', WHERE WHAT IT READS IS OF BULK AT MOST 1048576: true; the input reads as it did. -/
def keysRisesUptoRow : OpenClaim := { program := "ytbjjohfpdphpfaadoor", sum := "f926390f57398027123fb7a33bb077c9602af06bc5b5cacca7eff010efdec1c9", func := "osier/osierlaw06.KeysRises", spec := "keysRises", inPlace := ["internal/bytealg.IndexByteString", "internal/bytealg.IndexString"], unfollowed := true, recurses := true, named := ["unicode/utf8.first", "unicode/utf8.acceptRanges", "internal/bytealg.MaxLen"], apart := false, laid := [("unicode/utf8.acceptRanges", laid_unicode_utf8_acceptRanges), ("unicode/utf8.first", laid_unicode_utf8_first)], narrowed := true }
def KeysRisesUptoSaid : Prop := keysRisesUptoRow.holds Tryd.pinned (OpenSpec.upto keysRisesSpec)

/-- 'osierlaw18.DiskSure', WHERE WHAT IT READS IS OF BULK AT MOST 1048576: true; the input reads as it did. -/
def diskSureUptoRow : OpenClaim := { program := "ytbjjohfpdphpfaadoor", sum := "f926390f57398027123fb7a33bb077c9602af06bc5b5cacca7eff010efdec1c9", func := "osier/osierlaw18.DiskSure", spec := "diskSure", inPlace := ["internal/bytealg.IndexByteString", "internal/bytealg.IndexString"], unfollowed := true, recurses := true, named := ["unicode/utf8.first", "unicode/utf8.acceptRanges", "internal/bytealg.MaxLen"], apart := false, laid := [("unicode/utf8.acceptRanges", laid_unicode_utf8_acceptRanges), ("unicode/utf8.first", laid_unicode_utf8_first)], narrowed := true }
def DiskSureUptoSaid : Prop := diskSureUptoRow.holds Tryd.pinned (OpenSpec.upto diskSureSpec)

/-- 'osierlaw18.DiskRename', WHERE WHAT IT READS IS OF BULK AT MOST 1048576: true; the input reads as it did. -/
def diskRenameUptoRow : OpenClaim := { program := "ytbjjohfpdphpfaadoor", sum := "f926390f57398027123fb7a33bb077c9602af06bc5b5cacca7eff010efdec1c9", func := "osier/osierlaw18.DiskRename", spec := "diskRename", inPlace := ["internal/bytealg.IndexByteString", "internal/bytealg.IndexString"], unfollowed := true, recurses := true, named := ["unicode/utf8.first", "unicode/utf8.acceptRanges", "internal/bytealg.MaxLen"], apart := false, laid := [("unicode/utf8.acceptRanges", laid_unicode_utf8_acceptRanges), ("unicode/utf8.first", laid_unicode_utf8_first)], narrowed := true }
def DiskRenameUptoSaid : Prop := diskRenameUptoRow.holds Tryd.pinned (OpenSpec.upto diskRenameSpec)

/-- 'osierlaw19.WalReads', WHERE WHAT IT READS IS OF BULK AT MOST 1048576: true; the input reads as it did. -/
def walReadsUptoRow : OpenClaim := { program := "ytbjjohfpdphpfaadoor", sum := "f926390f57398027123fb7a33bb077c9602af06bc5b5cacca7eff010efdec1c9", func := "osier/osierlaw19.WalReads", spec := "walReads", inPlace := ["internal/bytealg.IndexByteString", "internal/bytealg.IndexString"], unfollowed := true, recurses := true, named := ["unicode/utf8.first", "unicode/utf8.acceptRanges", "internal/bytealg.MaxLen"], apart := false, laid := [("unicode/utf8.acceptRanges", laid_unicode_utf8_acceptRanges), ("unicode/utf8.first", laid_unicode_utf8_first)], narrowed := true }
def WalReadsUptoSaid : Prop := walReadsUptoRow.holds Tryd.pinned (OpenSpec.upto walReadsSpec)

/-- 'osierlaw19.WalPlays', WHERE WHAT IT READS IS OF BULK AT MOST 1048576: true; the input reads as it did. -/
def walPlaysUptoRow : OpenClaim := { program := "ytbjjohfpdphpfaadoor", sum := "f926390f57398027123fb7a33bb077c9602af06bc5b5cacca7eff010efdec1c9", func := "osier/osierlaw19.WalPlays", spec := "walPlays", inPlace := ["internal/bytealg.IndexByteString", "internal/bytealg.IndexString"], unfollowed := true, recurses := true, named := ["unicode/utf8.first", "unicode/utf8.acceptRanges", "internal/bytealg.MaxLen"], apart := false, laid := [("unicode/utf8.acceptRanges", laid_unicode_utf8_acceptRanges), ("unicode/utf8.first", laid_unicode_utf8_first)], narrowed := true }
def WalPlaysUptoSaid : Prop := walPlaysUptoRow.holds Tryd.pinned (OpenSpec.upto walPlaysSpec)

/-- 'osierlaw19.WalTail', WHERE WHAT IT READS IS OF BULK AT MOST 1048576: true; the input reads as it did. -/
def walTailUptoRow : OpenClaim := { program := "ytbjjohfpdphpfaadoor", sum := "f926390f57398027123fb7a33bb077c9602af06bc5b5cacca7eff010efdec1c9", func := "osier/osierlaw19.WalTail", spec := "walTail", inPlace := ["internal/bytealg.IndexByteString", "internal/bytealg.IndexString"], unfollowed := true, recurses := true, named := ["unicode/utf8.first", "unicode/utf8.acceptRanges", "internal/bytealg.MaxLen"], apart := false, laid := [("unicode/utf8.acceptRanges", laid_unicode_utf8_acceptRanges), ("unicode/utf8.first", laid_unicode_utf8_first)], narrowed := true }
def WalTailUptoSaid : Prop := walTailUptoRow.holds Tryd.pinned (OpenSpec.upto walTailSpec)

/-- 'osierlaw19.WalNone', WHERE WHAT IT READS IS OF BULK AT MOST 1048576: true; the input reads as it did. -/
def walNoneUptoRow : OpenClaim := { program := "ytbjjohfpdphpfaadoor", sum := "f926390f57398027123fb7a33bb077c9602af06bc5b5cacca7eff010efdec1c9", func := "osier/osierlaw19.WalNone", spec := "walNone", inPlace := ["internal/bytealg.IndexByteString", "internal/bytealg.IndexString"], unfollowed := true, recurses := true, named := ["unicode/utf8.first", "unicode/utf8.acceptRanges", "internal/bytealg.MaxLen"], apart := false, laid := [("unicode/utf8.acceptRanges", laid_unicode_utf8_acceptRanges), ("unicode/utf8.first", laid_unicode_utf8_first)], narrowed := true }
def WalNoneUptoSaid : Prop := walNoneUptoRow.holds Tryd.pinned (OpenSpec.upto walNoneSpec)

end Rows
end Go.Proofs.YtbjjohfpdphpfaaDoor
