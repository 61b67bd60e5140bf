/-
  DERIVED. GIVEN WITH THE SEED: THE CARDS: each row of YtbfbppjccbppiaaGreatDoorRows.lean that lists a variable, with what it lists TIED to the program's text (the seventh form; the later family's looks); each row that meets fmt, with fmt's text TOLD by the authors' own Lean function (tested against real Go, not proved from fmt's source: count such statements apart). THE CARD IS WHAT COUNTS. Prove the row's statement (the work); the ties are given (YtbfbppjccbppiaaGreatDoorTie.lean); close each card by the builder's one call (the guide's Derived/Test/ToyasCard.lean, 'card_holds'). Laid BY PROGRAM, IN A SANDBOX (cutbox-door.mjs). By AI agents, Wed Nov 11 2026. No macro, syntax, notation, axiom, sorry.
-/
import Derived.Test.YtbfbppjccbppiaaGreatDoorRows
import GoSem.ClaimSeven
namespace Go.Proofs.YtbfbppjccbppiaaGreatDoor
namespace Rows

/-- THE TIED CARD OF 'linchpinlaw32.StoryTells'. -/
def storyTellsCard : Claim7 := { stood := { row := storyTellsRow, standIns := [], harness := (true, "05141ba7a709081bfd552345ff43da854c24b510f332fad9b43e1adb62c148f6"), looks := true }, kinds := [], alts := [], laidByText := true, laidKinds := [.data, .data, .data, .data, .sentinel, .sentinel, .pinned], laidTests := true, laidLooks := .later }
def StoryTellsCardSaid : Prop := Claim7.holds Tryz.pinned (.plain (OpenSpec.ofChange storyTellsSpec)) storyTellsCard

/-- THE TIED CARD OF 'linchpinlaw32.StoryBack'. -/
def storyBackCard : Claim7 := { stood := { row := storyBackRow, standIns := [], harness := (true, "05141ba7a709081bfd552345ff43da854c24b510f332fad9b43e1adb62c148f6"), looks := true }, kinds := [], alts := [], laidByText := true, laidKinds := [.data, .data, .data, .data, .sentinel, .sentinel, .pinned], laidTests := true, laidLooks := .later }
def StoryBackCardSaid : Prop := Claim7.holds Tryz.pinned (.plain (OpenSpec.ofChange storyBackSpec)) storyBackCard

/-- THE TIED CARD OF 'linchpinlaw32.StoryTurned'. -/
def storyTurnedCard : Claim7 := { stood := { row := storyTurnedRow, standIns := [], harness := (true, "05141ba7a709081bfd552345ff43da854c24b510f332fad9b43e1adb62c148f6"), looks := true }, kinds := [], alts := [], laidByText := true, laidKinds := [.data, .data, .data, .data, .sentinel, .sentinel, .pinned], laidTests := true, laidLooks := .later }
def StoryTurnedCardSaid : Prop := Claim7.holds Tryz.pinned (.plain (OpenSpec.ofChange storyTurnedSpec)) storyTurnedCard

/-- THE TIED CARD OF 'linchpinlaw32.StoryLines'. -/
def storyLinesCard : Claim7 := { stood := { row := storyLinesRow, standIns := [], harness := (true, "05141ba7a709081bfd552345ff43da854c24b510f332fad9b43e1adb62c148f6"), looks := true }, kinds := [], alts := [], laidByText := true, laidKinds := [.data, .data, .data, .data, .sentinel, .sentinel, .pinned], laidTests := true, laidLooks := .later }
def StoryLinesCardSaid : Prop := Claim7.holds Tryz.pinned (.plain (OpenSpec.ofChange storyLinesSpec)) storyLinesCard

/-- THE TIED CARD OF 'linchpinlaw32.StoryValues'. -/
def storyValuesCard : Claim7 := { stood := { row := storyValuesRow, standIns := [], harness := (true, "05141ba7a709081bfd552345ff43da854c24b510f332fad9b43e1adb62c148f6"), looks := true }, kinds := [], alts := [], laidByText := true, laidKinds := [.data, .data, .data, .data, .sentinel, .sentinel, .pinned], laidTests := true, laidLooks := .later }
def StoryValuesCardSaid : Prop := Claim7.holds Tryz.pinned (.plain (OpenSpec.ofChange storyValuesSpec)) storyValuesCard

/-- THE SECOND FORM's CARD OF 'linchpinlaw32.StoryTells'. -/
def storyTellsUptoCard : Claim7 := { stood := { row := storyTellsUptoRow, standIns := [], harness := (true, "05141ba7a709081bfd552345ff43da854c24b510f332fad9b43e1adb62c148f6"), looks := true }, kinds := [], alts := [], laidByText := true, laidKinds := [.data, .data, .data, .data, .sentinel, .sentinel, .pinned], laidTests := true, laidLooks := .later }
def StoryTellsUptoCardSaid : Prop := Claim7.holds Tryz.pinned (.plain (OpenSpec.upto storyTellsSpec)) storyTellsUptoCard

/-- THE SECOND FORM's CARD OF 'linchpinlaw32.StoryBack'. -/
def storyBackUptoCard : Claim7 := { stood := { row := storyBackUptoRow, standIns := [], harness := (true, "05141ba7a709081bfd552345ff43da854c24b510f332fad9b43e1adb62c148f6"), looks := true }, kinds := [], alts := [], laidByText := true, laidKinds := [.data, .data, .data, .data, .sentinel, .sentinel, .pinned], laidTests := true, laidLooks := .later }
def StoryBackUptoCardSaid : Prop := Claim7.holds Tryz.pinned (.plain (OpenSpec.upto storyBackSpec)) storyBackUptoCard

/-- THE SECOND FORM's CARD OF 'linchpinlaw32.StoryTurned'. -/
def storyTurnedUptoCard : Claim7 := { stood := { row := storyTurnedUptoRow, standIns := [], harness := (true, "05141ba7a709081bfd552345ff43da854c24b510f332fad9b43e1adb62c148f6"), looks := true }, kinds := [], alts := [], laidByText := true, laidKinds := [.data, .data, .data, .data, .sentinel, .sentinel, .pinned], laidTests := true, laidLooks := .later }
def StoryTurnedUptoCardSaid : Prop := Claim7.holds Tryz.pinned (.plain (OpenSpec.upto storyTurnedSpec)) storyTurnedUptoCard

/-- THE SECOND FORM's CARD OF 'linchpinlaw32.StoryLines'. -/
def storyLinesUptoCard : Claim7 := { stood := { row := storyLinesUptoRow, standIns := [], harness := (true, "05141ba7a709081bfd552345ff43da854c24b510f332fad9b43e1adb62c148f6"), looks := true }, kinds := [], alts := [], laidByText := true, laidKinds := [.data, .data, .data, .data, .sentinel, .sentinel, .pinned], laidTests := true, laidLooks := .later }
def StoryLinesUptoCardSaid : Prop := Claim7.holds Tryz.pinned (.plain (OpenSpec.upto storyLinesSpec)) storyLinesUptoCard

/-- THE SECOND FORM's CARD OF 'linchpinlaw32.StoryValues'. -/
def storyValuesUptoCard : Claim7 := { stood := { row := storyValuesUptoRow, standIns := [], harness := (true, "05141ba7a709081bfd552345ff43da854c24b510f332fad9b43e1adb62c148f6"), looks := true }, kinds := [], alts := [], laidByText := true, laidKinds := [.data, .data, .data, .data, .sentinel, .sentinel, .pinned], laidTests := true, laidLooks := .later }
def StoryValuesUptoCardSaid : Prop := Claim7.holds Tryz.pinned (.plain (OpenSpec.upto storyValuesSpec)) storyValuesUptoCard
end Rows
end Go.Proofs.YtbfbppjccbppiaaGreatDoor
