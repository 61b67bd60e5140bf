/-
  NARROWER THAN 'FOR EVERY INPUT', by the rows' own cells (each row's printed sentence says how): MarkReads: laid · MarkBack: laid · MarkMeans: laid · MarkDual: laid · MarkUnder: laid · MarkLeft: laid · MarkTwice: laid.
  DERIVED. THE GIVEN ROWS OF THIS SEAT. 7 by the template 'for every input the law returns true; each argument reads behind the call as it read before'; 0 by the template 'total and deterministic' (their statements: YtmdnleafpmondaaDoorTotals.lean).
  GIVEN WITH THE SEED: the statements are not yours to turn. If you find one false, say at which input.
  Laid BY PROGRAM, IN A SANDBOX (cutbox-rows.mjs): the forced cells as the released guide's own fill.sh prints them over the translation 4be11dcbf6233e65… (all of the seat's roots in one cut). By AI agents, Wed Nov 11 2026. No macro, syntax, notation, axiom, sorry.
-/
import Derived.Test.YtmdnleafpmondaaDoorChecked
import GoSem.PinnedTables
import GoSem.Claim
import GoSem.ClaimJoined
import GoSem.ClaimMapViews
import Derived.JoinedTies
import Derived.KernelRfl
namespace Go.Proofs.YtmdnleafpmondaaDoor
/- THE CELL 'sum', in the pinned program and in every row, IS THE sha256 OF THE DUMP (.gsa) THAT YtmdnleafpmondaaDoorProg.lean LOADS. Nothing in Lean hashes anything: it is a label: what it is worth is what the hold of that sum in a sandbox is worth. -/
noncomputable def Tryd.pinned : Pinned := { name := "ytmdnleafpmondaadoor", sum := "4be11dcbf6233e65585a0f6f6f9514b204f86ffbde8eadfd27ed84a0ab5c88ea", checked := Tryd.checked }
namespace Rows
def none {H : Type} : Left H := { results := [], args := [] }

/- WHAT THE LISTED PACKAGE-LEVEL VARIABLES READ AS WHEN THE CALL BEGINS. Each datum BY PROGRAM (the guide's laid-datum.mjs) off the statement by which the dump's own 'gosem.cut.vars' lays the variable. In a bare row this is a premise. The card (YtmdnleafpmondaaDoorCards.lean) ties it to the program's text. -/
def laid_unicode_utf8_acceptRanges {H : Type} : DataW H := .agg [.agg [.lit (.int .u8 128), .lit (.int .u8 191)], .agg [.lit (.int .u8 160), .lit (.int .u8 191)], .agg [.lit (.int .u8 128), .lit (.int .u8 159)], .agg [.lit (.int .u8 144), .lit (.int .u8 191)], .agg [.lit (.int .u8 128), .lit (.int .u8 143)], .agg [.lit (.int .u8 0), .lit (.int .u8 0)], .agg [.lit (.int .u8 0), .lit (.int .u8 0)], .agg [.lit (.int .u8 0), .lit (.int .u8 0)], .agg [.lit (.int .u8 0), .lit (.int .u8 0)], .agg [.lit (.int .u8 0), .lit (.int .u8 0)], .agg [.lit (.int .u8 0), .lit (.int .u8 0)], .agg [.lit (.int .u8 0), .lit (.int .u8 0)], .agg [.lit (.int .u8 0), .lit (.int .u8 0)], .agg [.lit (.int .u8 0), .lit (.int .u8 0)], .agg [.lit (.int .u8 0), .lit (.int .u8 0)], .agg [.lit (.int .u8 0), .lit (.int .u8 0)]]
/-- One of Go's own tables, pinned by name: the form's constant. -/
def laid_unicode_utf8_first : DataW Unit := Go.Pinned.utf8First

/-- 'linchpinlaw10.MarkReads': WHATEVER THE INPUT: true; the input reads as it did. -/
def markReadsSpec : ChangeSpec := { name := "markReads", fn := fun _ => fun
  | [d] => { results := [.lit (.bool true)], args := [d] }
  | _ => none }
def markReadsRow : OpenClaim := { program := "ytmdnleafpmondaadoor", sum := "4be11dcbf6233e65585a0f6f6f9514b204f86ffbde8eadfd27ed84a0ab5c88ea", func := "linchpin/linchpinlaw10.MarkReads", spec := "markReads", inPlace := ["internal/bytealg.CountString", "internal/bytealg.IndexByteString", "internal/bytealg.IndexString"], unfollowed := true, recurses := true, named := ["unicode/utf8.first", "unicode/utf8.acceptRanges", "internal/bytealg.MaxLen"], apart := false, laid := [("unicode/utf8.acceptRanges", laid_unicode_utf8_acceptRanges), ("unicode/utf8.first", laid_unicode_utf8_first)] }
def MarkReadsSaid : Prop := markReadsRow.holds Tryd.pinned (OpenSpec.ofChange markReadsSpec)

/-- ITS FALSE NEIGHBOUR: 'it returns false'. Refute it at one input. -/
def markReadsWrong : ChangeSpec := { name := "markReads", fn := fun _ => fun
  | [d] => { results := [.lit (.bool false)], args := [d] }
  | _ => none }
def MarkReadsWrongFalsely : Prop := markReadsRow.holds Tryd.pinned (OpenSpec.ofChange markReadsWrong)

/-- 'linchpinlaw10.MarkBack': WHATEVER THE INPUT: true; the input reads as it did. -/
def markBackSpec : ChangeSpec := { name := "markBack", fn := fun _ => fun
  | [d] => { results := [.lit (.bool true)], args := [d] }
  | _ => none }
def markBackRow : OpenClaim := { program := "ytmdnleafpmondaadoor", sum := "4be11dcbf6233e65585a0f6f6f9514b204f86ffbde8eadfd27ed84a0ab5c88ea", func := "linchpin/linchpinlaw10.MarkBack", spec := "markBack", inPlace := ["internal/bytealg.CountString", "internal/bytealg.IndexByteString", "internal/bytealg.IndexString"], unfollowed := true, recurses := true, named := ["unicode/utf8.first", "unicode/utf8.acceptRanges", "internal/bytealg.MaxLen"], apart := false, laid := [("unicode/utf8.acceptRanges", laid_unicode_utf8_acceptRanges), ("unicode/utf8.first", laid_unicode_utf8_first)] }
def MarkBackSaid : Prop := markBackRow.holds Tryd.pinned (OpenSpec.ofChange markBackSpec)

/-- ITS FALSE NEIGHBOUR: 'it returns false'. Refute it at one input. -/
def markBackWrong : ChangeSpec := { name := "markBack", fn := fun _ => fun
  | [d] => { results := [.lit (.bool false)], args := [d] }
  | _ => none }
def MarkBackWrongFalsely : Prop := markBackRow.holds Tryd.pinned (OpenSpec.ofChange markBackWrong)

/-- 'linchpinlaw10.MarkMeans': WHATEVER THE INPUT: true; the input reads as it did. -/
def markMeansSpec : ChangeSpec := { name := "markMeans", fn := fun _ => fun
  | [d] => { results := [.lit (.bool true)], args := [d] }
  | _ => none }
def markMeansRow : OpenClaim := { program := "ytmdnleafpmondaadoor", sum := "4be11dcbf6233e65585a0f6f6f9514b204f86ffbde8eadfd27ed84a0ab5c88ea", func := "linchpin/linchpinlaw10.MarkMeans", spec := "markMeans", inPlace := ["internal/bytealg.CountString", "internal/bytealg.IndexByteString", "internal/bytealg.IndexString"], unfollowed := true, recurses := true, named := ["unicode/utf8.first", "unicode/utf8.acceptRanges", "internal/bytealg.MaxLen"], apart := false, laid := [("unicode/utf8.acceptRanges", laid_unicode_utf8_acceptRanges), ("unicode/utf8.first", laid_unicode_utf8_first)] }
def MarkMeansSaid : Prop := markMeansRow.holds Tryd.pinned (OpenSpec.ofChange markMeansSpec)

/-- ITS FALSE NEIGHBOUR: 'it returns false'. Refute it at one input. -/
def markMeansWrong : ChangeSpec := { name := "markMeans", fn := fun _ => fun
  | [d] => { results := [.lit (.bool false)], args := [d] }
  | _ => none }
def MarkMeansWrongFalsely : Prop := markMeansRow.holds Tryd.pinned (OpenSpec.ofChange markMeansWrong)

/-- 'linchpinlaw10.MarkDual': WHATEVER THE INPUT: true; the input reads as it did. -/
def markDualSpec : ChangeSpec := { name := "markDual", fn := fun _ => fun
  | [d] => { results := [.lit (.bool true)], args := [d] }
  | _ => none }
def markDualRow : OpenClaim := { program := "ytmdnleafpmondaadoor", sum := "4be11dcbf6233e65585a0f6f6f9514b204f86ffbde8eadfd27ed84a0ab5c88ea", func := "linchpin/linchpinlaw10.MarkDual", spec := "markDual", inPlace := ["internal/bytealg.CountString", "internal/bytealg.IndexByteString", "internal/bytealg.IndexString"], unfollowed := true, recurses := true, named := ["unicode/utf8.first", "unicode/utf8.acceptRanges", "internal/bytealg.MaxLen"], apart := false, laid := [("unicode/utf8.acceptRanges", laid_unicode_utf8_acceptRanges), ("unicode/utf8.first", laid_unicode_utf8_first)] }
def MarkDualSaid : Prop := markDualRow.holds Tryd.pinned (OpenSpec.ofChange markDualSpec)

/-- ITS FALSE NEIGHBOUR: 'it returns false'. Refute it at one input. -/
def markDualWrong : ChangeSpec := { name := "markDual", fn := fun _ => fun
  | [d] => { results := [.lit (.bool false)], args := [d] }
  | _ => none }
def MarkDualWrongFalsely : Prop := markDualRow.holds Tryd.pinned (OpenSpec.ofChange markDualWrong)

/-- 'linchpinlaw10.MarkUnder': WHATEVER THE INPUT: true; the input reads as it did. -/
def markUnderSpec : ChangeSpec := { name := "markUnder", fn := fun _ => fun
  | [d1, d2] => { results := [.lit (.bool true)], args := [d1, d2] }
  | _ => none }
def markUnderRow : OpenClaim := { program := "ytmdnleafpmondaadoor", sum := "4be11dcbf6233e65585a0f6f6f9514b204f86ffbde8eadfd27ed84a0ab5c88ea", func := "linchpin/linchpinlaw10.MarkUnder", spec := "markUnder", inPlace := ["internal/bytealg.CountString", "internal/bytealg.IndexByteString", "internal/bytealg.IndexString"], unfollowed := true, recurses := true, named := ["unicode/utf8.first", "unicode/utf8.acceptRanges", "internal/bytealg.MaxLen"], apart := false, laid := [("unicode/utf8.acceptRanges", laid_unicode_utf8_acceptRanges), ("unicode/utf8.first", laid_unicode_utf8_first)] }
def MarkUnderSaid : Prop := markUnderRow.holds Tryd.pinned (OpenSpec.ofChange markUnderSpec)

/-- ITS FALSE NEIGHBOUR: 'it returns false'. Refute it at one input. -/
def markUnderWrong : ChangeSpec := { name := "markUnder", fn := fun _ => fun
  | [d1, d2] => { results := [.lit (.bool false)], args := [d1, d2] }
  | _ => none }
def MarkUnderWrongFalsely : Prop := markUnderRow.holds Tryd.pinned (OpenSpec.ofChange markUnderWrong)

/-- 'linchpinlaw10.MarkLeft': WHATEVER THE INPUT: true; the input reads as it did. -/
def markLeftSpec : ChangeSpec := { name := "markLeft", fn := fun _ => fun
  | [d] => { results := [.lit (.bool true)], args := [d] }
  | _ => none }
def markLeftRow : OpenClaim := { program := "ytmdnleafpmondaadoor", sum := "4be11dcbf6233e65585a0f6f6f9514b204f86ffbde8eadfd27ed84a0ab5c88ea", func := "linchpin/linchpinlaw10.MarkLeft", spec := "markLeft", inPlace := ["internal/bytealg.CountString", "internal/bytealg.IndexByteString", "internal/bytealg.IndexString"], unfollowed := true, recurses := true, named := ["unicode/utf8.first", "unicode/utf8.acceptRanges", "internal/bytealg.MaxLen"], apart := false, laid := [("unicode/utf8.acceptRanges", laid_unicode_utf8_acceptRanges), ("unicode/utf8.first", laid_unicode_utf8_first)] }
def MarkLeftSaid : Prop := markLeftRow.holds Tryd.pinned (OpenSpec.ofChange markLeftSpec)

/-- ITS FALSE NEIGHBOUR: 'it returns false'. Refute it at one input. -/
def markLeftWrong : ChangeSpec := { name := "markLeft", fn := fun _ => fun
  | [d] => { results := [.lit (.bool false)], args := [d] }
  | _ => none }
def MarkLeftWrongFalsely : Prop := markLeftRow.holds Tryd.pinned (OpenSpec.ofChange markLeftWrong)

/-- 'linchpinlaw10.MarkTwice': WHATEVER THE INPUT: true; the input reads as it did. -/
def markTwiceSpec : ChangeSpec := { name := "markTwice", fn := fun _ => fun
  | [d] => { results := [.lit (.bool true)], args := [d] }
  | _ => none }
def markTwiceRow : OpenClaim := { program := "ytmdnleafpmondaadoor", sum := "4be11dcbf6233e65585a0f6f6f9514b204f86ffbde8eadfd27ed84a0ab5c88ea", func := "linchpin/linchpinlaw10.MarkTwice", spec := "markTwice", inPlace := ["internal/bytealg.CountString", "internal/bytealg.IndexByteString", "internal/bytealg.IndexString"], unfollowed := true, recurses := true, named := ["unicode/utf8.first", "unicode/utf8.acceptRanges", "internal/bytealg.MaxLen"], apart := false, laid := [("unicode/utf8.acceptRanges", laid_unicode_utf8_acceptRanges), ("unicode/utf8.first", laid_unicode_utf8_first)] }
def MarkTwiceSaid : Prop := markTwiceRow.holds Tryd.pinned (OpenSpec.ofChange markTwiceSpec)

/-- ITS FALSE NEIGHBOUR: 'it returns false'. Refute it at one input. -/
def markTwiceWrong : ChangeSpec := { name := "markTwice", fn := fun _ => fun
  | [d] => { results := [.lit (.bool false)], args := [d] }
  | _ => none }
def MarkTwiceWrongFalsely : Prop := markTwiceRow.holds Tryd.pinned (OpenSpec.ofChange markTwiceWrong)

/- THE SECOND FORM. 'bulk': how many values and letters a reading holds, each counted each time it is reached (what is shared counts as often as it is met; a slice's spare places count too). A statement '..UptoSaid' is the law's where the arguments, and the package variables that the reading takes, are together of bulk at most 1048576: NARROWER than '..Said'. Prove '..Said' where nothing that the law and all that it calls make is longer than what came in: it says more and counts as full. Else prove '..UptoSaid'. A law counts once. -/
mutual
def uptoBulk {H : Type} : DataW H → Nat
  | .lit (.string bytes) => bytes.length + 1
  | .lit _ => 1
  | .nil => 1
  | .ptr d => uptoBulk d + 1
  | .slice elems spare => uptoBulkAll elems + uptoBulkAll spare + 1
  | .agg parts => uptoBulkAll parts + 1
  | .iface _ d => uptoBulk d + 1
  | .map entries => uptoBulkEntries entries + 1
  | .held _ => 1
def uptoBulkAll {H : Type} : List (DataW H) → Nat
  | [] => 0
  | d :: r => uptoBulk d + uptoBulkAll r
def uptoBulkEntries {H : Type} : List (Lit × DataW H) → Nat
  | [] => 0
  | x :: r => uptoBulkEntry x + uptoBulkEntries r
def uptoBulkEntry {H : Type} : Lit × DataW H → Nat
  | (.string bytes, d) => bytes.length + uptoBulk d + 1
  | (_, d) => uptoBulk d + 1
 end
def uptoSmall : (H : Type) → List (DataW H) → Bool := fun _ ds => decide (uptoBulkAll ds ≤ 1048576)
def OpenSpec.upto (s : _root_.Go.ChangeSpec) : _root_.Go.OpenSpec := { _root_.Go.OpenSpec.ofChange s with cond := some uptoSmall }

/-- 'linchpinlaw10.MarkReads', WHERE WHAT IT READS IS OF BULK AT MOST 1048576: true; the input reads as it did. -/
def markReadsUptoRow : OpenClaim := { program := "ytmdnleafpmondaadoor", sum := "4be11dcbf6233e65585a0f6f6f9514b204f86ffbde8eadfd27ed84a0ab5c88ea", func := "linchpin/linchpinlaw10.MarkReads", spec := "markReads", inPlace := ["internal/bytealg.CountString", "internal/bytealg.IndexByteString", "internal/bytealg.IndexString"], unfollowed := true, recurses := true, named := ["unicode/utf8.first", "unicode/utf8.acceptRanges", "internal/bytealg.MaxLen"], apart := false, laid := [("unicode/utf8.acceptRanges", laid_unicode_utf8_acceptRanges), ("unicode/utf8.first", laid_unicode_utf8_first)], narrowed := true }
def MarkReadsUptoSaid : Prop := markReadsUptoRow.holds Tryd.pinned (OpenSpec.upto markReadsSpec)

/-- 'linchpinlaw10.MarkBack', WHERE WHAT IT READS IS OF BULK AT MOST 1048576: true; the input reads as it did. -/
def markBackUptoRow : OpenClaim := { program := "ytmdnleafpmondaadoor", sum := "4be11dcbf6233e65585a0f6f6f9514b204f86ffbde8eadfd27ed84a0ab5c88ea", func := "linchpin/linchpinlaw10.MarkBack", spec := "markBack", inPlace := ["internal/bytealg.CountString", "internal/bytealg.IndexByteString", "internal/bytealg.IndexString"], unfollowed := true, recurses := true, named := ["unicode/utf8.first", "unicode/utf8.acceptRanges", "internal/bytealg.MaxLen"], apart := false, laid := [("unicode/utf8.acceptRanges", laid_unicode_utf8_acceptRanges), ("unicode/utf8.first", laid_unicode_utf8_first)], narrowed := true }
def MarkBackUptoSaid : Prop := markBackUptoRow.holds Tryd.pinned (OpenSpec.upto markBackSpec)

/-- 'linchpinlaw10.MarkMeans', WHERE WHAT IT READS IS OF BULK AT MOST 1048576: true; the input reads as it did. -/
def markMeansUptoRow : OpenClaim := { program := "ytmdnleafpmondaadoor", sum := "4be11dcbf6233e65585a0f6f6f9514b204f86ffbde8eadfd27ed84a0ab5c88ea", func := "linchpin/linchpinlaw10.MarkMeans", spec := "markMeans", inPlace := ["internal/bytealg.CountString", "internal/bytealg.IndexByteString", "internal/bytealg.IndexString"], unfollowed := true, recurses := true, named := ["unicode/utf8.first", "unicode/utf8.acceptRanges", "internal/bytealg.MaxLen"], apart := false, laid := [("unicode/utf8.acceptRanges", laid_unicode_utf8_acceptRanges), ("unicode/utf8.first", laid_unicode_utf8_first)], narrowed := true }
def MarkMeansUptoSaid : Prop := markMeansUptoRow.holds Tryd.pinned (OpenSpec.upto markMeansSpec)

/-- 'linchpinlaw10.MarkDual', WHERE WHAT IT READS IS OF BULK AT MOST 1048576: true; the input reads as it did. -/
def markDualUptoRow : OpenClaim := { program := "ytmdnleafpmondaadoor", sum := "4be11dcbf6233e65585a0f6f6f9514b204f86ffbde8eadfd27ed84a0ab5c88ea", func := "linchpin/linchpinlaw10.MarkDual", spec := "markDual", inPlace := ["internal/bytealg.CountString", "internal/bytealg.IndexByteString", "internal/bytealg.IndexString"], unfollowed := true, recurses := true, named := ["unicode/utf8.first", "unicode/utf8.acceptRanges", "internal/bytealg.MaxLen"], apart := false, laid := [("unicode/utf8.acceptRanges", laid_unicode_utf8_acceptRanges), ("unicode/utf8.first", laid_unicode_utf8_first)], narrowed := true }
def MarkDualUptoSaid : Prop := markDualUptoRow.holds Tryd.pinned (OpenSpec.upto markDualSpec)

/-- 'linchpinlaw10.MarkUnder', WHERE WHAT IT READS IS OF BULK AT MOST 1048576: true; the input reads as it did. -/
def markUnderUptoRow : OpenClaim := { program := "ytmdnleafpmondaadoor", sum := "4be11dcbf6233e65585a0f6f6f9514b204f86ffbde8eadfd27ed84a0ab5c88ea", func := "linchpin/linchpinlaw10.MarkUnder", spec := "markUnder", inPlace := ["internal/bytealg.CountString", "internal/bytealg.IndexByteString", "internal/bytealg.IndexString"], unfollowed := true, recurses := true, named := ["unicode/utf8.first", "unicode/utf8.acceptRanges", "internal/bytealg.MaxLen"], apart := false, laid := [("unicode/utf8.acceptRanges", laid_unicode_utf8_acceptRanges), ("unicode/utf8.first", laid_unicode_utf8_first)], narrowed := true }
def MarkUnderUptoSaid : Prop := markUnderUptoRow.holds Tryd.pinned (OpenSpec.upto markUnderSpec)

/-- 'linchpinlaw10.MarkLeft', WHERE WHAT IT READS IS OF BULK AT MOST 1048576: true; the input reads as it did. -/
def markLeftUptoRow : OpenClaim := { program := "ytmdnleafpmondaadoor", sum := "4be11dcbf6233e65585a0f6f6f9514b204f86ffbde8eadfd27ed84a0ab5c88ea", func := "linchpin/linchpinlaw10.MarkLeft", spec := "markLeft", inPlace := ["internal/bytealg.CountString", "internal/bytealg.IndexByteString", "internal/bytealg.IndexString"], unfollowed := true, recurses := true, named := ["unicode/utf8.first", "unicode/utf8.acceptRanges", "internal/bytealg.MaxLen"], apart := false, laid := [("unicode/utf8.acceptRanges", laid_unicode_utf8_acceptRanges), ("unicode/utf8.first", laid_unicode_utf8_first)], narrowed := true }
def MarkLeftUptoSaid : Prop := markLeftUptoRow.holds Tryd.pinned (OpenSpec.upto markLeftSpec)

/-- 'linchpinlaw10.MarkTwice', WHERE WHAT IT READS IS OF BULK AT MOST 1048576: true; the input reads as it did. -/
def markTwiceUptoRow : OpenClaim := { program := "ytmdnleafpmondaadoor", sum := "4be11dcbf6233e65585a0f6f6f9514b204f86ffbde8eadfd27ed84a0ab5c88ea", func := "linchpin/linchpinlaw10.MarkTwice", spec := "markTwice", inPlace := ["internal/bytealg.CountString", "internal/bytealg.IndexByteString", "internal/bytealg.IndexString"], unfollowed := true, recurses := true, named := ["unicode/utf8.first", "unicode/utf8.acceptRanges", "internal/bytealg.MaxLen"], apart := false, laid := [("unicode/utf8.acceptRanges", laid_unicode_utf8_acceptRanges), ("unicode/utf8.first", laid_unicode_utf8_first)], narrowed := true }
def MarkTwiceUptoSaid : Prop := markTwiceUptoRow.holds Tryd.pinned (OpenSpec.upto markTwiceSpec)

end Rows
end Go.Proofs.YtmdnleafpmondaaDoor
