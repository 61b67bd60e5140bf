/-
  DERIVED. GIVEN WITH THE SEED: THE CARDS: each row of YtmdnleafpmondaaDoorRows.lean that lists a variable, with what it lists TIED to the program's text (the seventh form; the later family's looks); each row that meets fmt, with fmt's text TOLD by the authors' own Lean function (tested against real Go, not proved from fmt's source: count such statements apart). THE CARD IS WHAT COUNTS. Prove the row's statement (the work); the ties are given (YtmdnleafpmondaaDoorTie.lean); close each card by the builder's one call (the guide's Derived/Test/ToyasCard.lean, 'card_holds'). Laid BY PROGRAM, IN A SANDBOX (cutbox-door.mjs). By AI agents, Wed Nov 11 2026. No macro, syntax, notation, axiom, sorry.
-/
import Derived.Test.YtmdnleafpmondaaDoorRows
import GoSem.ClaimSeven
namespace Go.Proofs.YtmdnleafpmondaaDoor
namespace Rows

/-- THE TIED CARD OF 'linchpinlaw10.MarkReads'. -/
def markReadsCard : Claim7 := { stood := { row := markReadsRow, standIns := [], harness := (true, "7115084fcf544d92ba61115f2f98a040d315928519efa1244c0f09cebd2757f4"), looks := false }, kinds := [], alts := [], laidByText := true, laidKinds := [.data, .pinned], laidTests := true, laidLooks := .later }
def MarkReadsCardSaid : Prop := Claim7.holds Tryd.pinned (.plain (OpenSpec.ofChange markReadsSpec)) markReadsCard

/-- THE TIED CARD OF 'linchpinlaw10.MarkBack'. -/
def markBackCard : Claim7 := { stood := { row := markBackRow, standIns := [], harness := (true, "7115084fcf544d92ba61115f2f98a040d315928519efa1244c0f09cebd2757f4"), looks := false }, kinds := [], alts := [], laidByText := true, laidKinds := [.data, .pinned], laidTests := true, laidLooks := .later }
def MarkBackCardSaid : Prop := Claim7.holds Tryd.pinned (.plain (OpenSpec.ofChange markBackSpec)) markBackCard

/-- THE TIED CARD OF 'linchpinlaw10.MarkMeans'. -/
def markMeansCard : Claim7 := { stood := { row := markMeansRow, standIns := [], harness := (true, "7115084fcf544d92ba61115f2f98a040d315928519efa1244c0f09cebd2757f4"), looks := false }, kinds := [], alts := [], laidByText := true, laidKinds := [.data, .pinned], laidTests := true, laidLooks := .later }
def MarkMeansCardSaid : Prop := Claim7.holds Tryd.pinned (.plain (OpenSpec.ofChange markMeansSpec)) markMeansCard

/-- THE TIED CARD OF 'linchpinlaw10.MarkDual'. -/
def markDualCard : Claim7 := { stood := { row := markDualRow, standIns := [], harness := (true, "7115084fcf544d92ba61115f2f98a040d315928519efa1244c0f09cebd2757f4"), looks := false }, kinds := [], alts := [], laidByText := true, laidKinds := [.data, .pinned], laidTests := true, laidLooks := .later }
def MarkDualCardSaid : Prop := Claim7.holds Tryd.pinned (.plain (OpenSpec.ofChange markDualSpec)) markDualCard

/-- THE TIED CARD OF 'linchpinlaw10.MarkUnder'. -/
def markUnderCard : Claim7 := { stood := { row := markUnderRow, standIns := [], harness := (true, "7115084fcf544d92ba61115f2f98a040d315928519efa1244c0f09cebd2757f4"), looks := false }, kinds := [], alts := [], laidByText := true, laidKinds := [.data, .pinned], laidTests := true, laidLooks := .later }
def MarkUnderCardSaid : Prop := Claim7.holds Tryd.pinned (.plain (OpenSpec.ofChange markUnderSpec)) markUnderCard

/-- THE TIED CARD OF 'linchpinlaw10.MarkLeft'. -/
def markLeftCard : Claim7 := { stood := { row := markLeftRow, standIns := [], harness := (true, "7115084fcf544d92ba61115f2f98a040d315928519efa1244c0f09cebd2757f4"), looks := false }, kinds := [], alts := [], laidByText := true, laidKinds := [.data, .pinned], laidTests := true, laidLooks := .later }
def MarkLeftCardSaid : Prop := Claim7.holds Tryd.pinned (.plain (OpenSpec.ofChange markLeftSpec)) markLeftCard

/-- THE TIED CARD OF 'linchpinlaw10.MarkTwice'. -/
def markTwiceCard : Claim7 := { stood := { row := markTwiceRow, standIns := [], harness := (true, "7115084fcf544d92ba61115f2f98a040d315928519efa1244c0f09cebd2757f4"), looks := false }, kinds := [], alts := [], laidByText := true, laidKinds := [.data, .pinned], laidTests := true, laidLooks := .later }
def MarkTwiceCardSaid : Prop := Claim7.holds Tryd.pinned (.plain (OpenSpec.ofChange markTwiceSpec)) markTwiceCard

/-- THE SECOND FORM's CARD OF 'linchpinlaw10.MarkReads'. -/
def markReadsUptoCard : Claim7 := { stood := { row := markReadsUptoRow, standIns := [], harness := (true, "7115084fcf544d92ba61115f2f98a040d315928519efa1244c0f09cebd2757f4"), looks := false }, kinds := [], alts := [], laidByText := true, laidKinds := [.data, .pinned], laidTests := true, laidLooks := .later }
def MarkReadsUptoCardSaid : Prop := Claim7.holds Tryd.pinned (.plain (OpenSpec.upto markReadsSpec)) markReadsUptoCard

/-- THE SECOND FORM's CARD OF 'linchpinlaw10.MarkBack'. -/
def markBackUptoCard : Claim7 := { stood := { row := markBackUptoRow, standIns := [], harness := (true, "7115084fcf544d92ba61115f2f98a040d315928519efa1244c0f09cebd2757f4"), looks := false }, kinds := [], alts := [], laidByText := true, laidKinds := [.data, .pinned], laidTests := true, laidLooks := .later }
def MarkBackUptoCardSaid : Prop := Claim7.holds Tryd.pinned (.plain (OpenSpec.upto markBackSpec)) markBackUptoCard

/-- THE SECOND FORM's CARD OF 'linchpinlaw10.MarkMeans'. -/
def markMeansUptoCard : Claim7 := { stood := { row := markMeansUptoRow, standIns := [], harness := (true, "7115084fcf544d92ba61115f2f98a040d315928519efa1244c0f09cebd2757f4"), looks := false }, kinds := [], alts := [], laidByText := true, laidKinds := [.data, .pinned], laidTests := true, laidLooks := .later }
def MarkMeansUptoCardSaid : Prop := Claim7.holds Tryd.pinned (.plain (OpenSpec.upto markMeansSpec)) markMeansUptoCard

/-- THE SECOND FORM's CARD OF 'linchpinlaw10.MarkDual'. -/
def markDualUptoCard : Claim7 := { stood := { row := markDualUptoRow, standIns := [], harness := (true, "7115084fcf544d92ba61115f2f98a040d315928519efa1244c0f09cebd2757f4"), looks := false }, kinds := [], alts := [], laidByText := true, laidKinds := [.data, .pinned], laidTests := true, laidLooks := .later }
def MarkDualUptoCardSaid : Prop := Claim7.holds Tryd.pinned (.plain (OpenSpec.upto markDualSpec)) markDualUptoCard

/-- THE SECOND FORM's CARD OF 'linchpinlaw10.MarkUnder'. -/
def markUnderUptoCard : Claim7 := { stood := { row := markUnderUptoRow, standIns := [], harness := (true, "7115084fcf544d92ba61115f2f98a040d315928519efa1244c0f09cebd2757f4"), looks := false }, kinds := [], alts := [], laidByText := true, laidKinds := [.data, .pinned], laidTests := true, laidLooks := .later }
def MarkUnderUptoCardSaid : Prop := Claim7.holds Tryd.pinned (.plain (OpenSpec.upto markUnderSpec)) markUnderUptoCard

/-- THE SECOND FORM's CARD OF 'linchpinlaw10.MarkLeft'. -/
def markLeftUptoCard : Claim7 := { stood := { row := markLeftUptoRow, standIns := [], harness := (true, "7115084fcf544d92ba61115f2f98a040d315928519efa1244c0f09cebd2757f4"), looks := false }, kinds := [], alts := [], laidByText := true, laidKinds := [.data, .pinned], laidTests := true, laidLooks := .later }
def MarkLeftUptoCardSaid : Prop := Claim7.holds Tryd.pinned (.plain (OpenSpec.upto markLeftSpec)) markLeftUptoCard

/-- THE SECOND FORM's CARD OF 'linchpinlaw10.MarkTwice'. -/
def markTwiceUptoCard : Claim7 := { stood := { row := markTwiceUptoRow, standIns := [], harness := (true, "7115084fcf544d92ba61115f2f98a040d315928519efa1244c0f09cebd2757f4"), looks := false }, kinds := [], alts := [], laidByText := true, laidKinds := [.data, .pinned], laidTests := true, laidLooks := .later }
def MarkTwiceUptoCardSaid : Prop := Claim7.holds Tryd.pinned (.plain (OpenSpec.upto markTwiceSpec)) markTwiceUptoCard
end Rows
end Go.Proofs.YtmdnleafpmondaaDoor
