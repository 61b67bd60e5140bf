/-
  DERIVED. GIVEN WITH THE SEED: THE CARDS: each row of YtilgijmokjekgaaGreatDoorRows.lean that lists a variable, with what it lists TIED to the program's text (the seventh form; the later family's looks); each row that meets fmt, with fmt's text TOLD by the authors' own Lean function (tested against real Go, not proved from fmt's source: count such statements apart). THE CARD IS WHAT COUNTS. Prove the row's statement (the work); the ties are given (YtilgijmokjekgaaGreatDoorTie.lean); close each card by the builder's one call (the guide's Derived/Test/ToyasCard.lean, 'card_holds'). Laid BY PROGRAM, IN A SANDBOX (cutbox-door.mjs). By AI agents, Wed Nov 11 2026. No macro, syntax, notation, axiom, sorry.
-/
import Derived.Test.YtilgijmokjekgaaGreatDoorRows
import GoSem.ClaimSeven
namespace Go.Proofs.YtilgijmokjekgaaGreatDoor
namespace Rows

/-- THE TIED CARD OF 'linchpinlaw23.FactAll'. -/
def factAllCard : Claim7 := { stood := { row := factAllRow, standIns := [], harness := (true, "10d266dfebdadd0a7f00ec18383651e64831d5e861ffbab28efa3b3fb5782941"), looks := false }, kinds := [], alts := [], laidByText := true, laidKinds := [.data, .data, .data, .data], laidTests := true, laidLooks := .later }
def FactAllCardSaid : Prop := Claim7.holds Tryz.pinned (.plain (OpenSpec.ofChange factAllSpec)) factAllCard

/-- THE TIED CARD OF 'linchpinlaw23.FactRight'. -/
def factRightCard : Claim7 := { stood := { row := factRightRow, standIns := [], harness := (true, "10d266dfebdadd0a7f00ec18383651e64831d5e861ffbab28efa3b3fb5782941"), looks := false }, kinds := [], alts := [], laidByText := true, laidKinds := [.data, .data, .data, .data], laidTests := true, laidLooks := .later }
def FactRightCardSaid : Prop := Claim7.holds Tryz.pinned (.plain (OpenSpec.ofChange factRightSpec)) factRightCard

/-- THE TIED CARD OF 'linchpinlaw23.FactHolds'. -/
def factHoldsCard : Claim7 := { stood := { row := factHoldsRow, standIns := [], harness := (true, "10d266dfebdadd0a7f00ec18383651e64831d5e861ffbab28efa3b3fb5782941"), looks := false }, kinds := [], alts := [], laidByText := true, laidKinds := [.data, .data, .data, .data], laidTests := true, laidLooks := .later }
def FactHoldsCardSaid : Prop := Claim7.holds Tryz.pinned (.plain (OpenSpec.ofChange factHoldsSpec)) factHoldsCard

/-- THE TIED CARD OF 'linchpinlaw23.FactSound'. -/
def factSoundCard : Claim7 := { stood := { row := factSoundRow, standIns := [], harness := (true, "10d266dfebdadd0a7f00ec18383651e64831d5e861ffbab28efa3b3fb5782941"), looks := false }, kinds := [], alts := [], laidByText := true, laidKinds := [.data, .data, .data, .data], laidTests := true, laidLooks := .later }
def FactSoundCardSaid : Prop := Claim7.holds Tryz.pinned (.plain (OpenSpec.ofChange factSoundSpec)) factSoundCard

/-- THE TIED CARD OF 'linchpinlaw23.FactLess'. -/
def factLessCard : Claim7 := { stood := { row := factLessRow, standIns := [], harness := (true, "10d266dfebdadd0a7f00ec18383651e64831d5e861ffbab28efa3b3fb5782941"), looks := false }, kinds := [], alts := [], laidByText := true, laidKinds := [.data, .data, .data, .data], laidTests := true, laidLooks := .later }
def FactLessCardSaid : Prop := Claim7.holds Tryz.pinned (.plain (OpenSpec.ofChange factLessSpec)) factLessCard

/-- THE TIED CARD OF 'linchpinlaw23.FactOnce'. -/
def factOnceCard : Claim7 := { stood := { row := factOnceRow, standIns := [], harness := (true, "10d266dfebdadd0a7f00ec18383651e64831d5e861ffbab28efa3b3fb5782941"), looks := false }, kinds := [], alts := [], laidByText := true, laidKinds := [.data, .data, .data, .data], laidTests := true, laidLooks := .later }
def FactOnceCardSaid : Prop := Claim7.holds Tryz.pinned (.plain (OpenSpec.ofChange factOnceSpec)) factOnceCard

/-- THE TIED CARD OF 'linchpinlaw23.FactTwice'. -/
def factTwiceCard : Claim7 := { stood := { row := factTwiceRow, standIns := [], harness := (true, "10d266dfebdadd0a7f00ec18383651e64831d5e861ffbab28efa3b3fb5782941"), looks := false }, kinds := [], alts := [], laidByText := true, laidKinds := [.data, .data, .data, .data], laidTests := true, laidLooks := .later }
def FactTwiceCardSaid : Prop := Claim7.holds Tryz.pinned (.plain (OpenSpec.ofChange factTwiceSpec)) factTwiceCard

/-- THE TIED CARD OF 'linchpinlaw23.FactSays'. -/
def factSaysCard : Claim7 := { stood := { row := factSaysRow, standIns := [], harness := (true, "10d266dfebdadd0a7f00ec18383651e64831d5e861ffbab28efa3b3fb5782941"), looks := false }, kinds := [], alts := [], laidByText := true, laidKinds := [.data, .data, .data, .data], laidTests := true, laidLooks := .later }
def FactSaysCardSaid : Prop := Claim7.holds Tryz.pinned (.plain (OpenSpec.ofChange factSaysSpec)) factSaysCard

/-- THE SECOND FORM's CARD OF 'linchpinlaw23.FactAll'. -/
def factAllUptoCard : Claim7 := { stood := { row := factAllUptoRow, standIns := [], harness := (true, "10d266dfebdadd0a7f00ec18383651e64831d5e861ffbab28efa3b3fb5782941"), looks := false }, kinds := [], alts := [], laidByText := true, laidKinds := [.data, .data, .data, .data], laidTests := true, laidLooks := .later }
def FactAllUptoCardSaid : Prop := Claim7.holds Tryz.pinned (.plain (OpenSpec.upto factAllSpec)) factAllUptoCard

/-- THE SECOND FORM's CARD OF 'linchpinlaw23.FactRight'. -/
def factRightUptoCard : Claim7 := { stood := { row := factRightUptoRow, standIns := [], harness := (true, "10d266dfebdadd0a7f00ec18383651e64831d5e861ffbab28efa3b3fb5782941"), looks := false }, kinds := [], alts := [], laidByText := true, laidKinds := [.data, .data, .data, .data], laidTests := true, laidLooks := .later }
def FactRightUptoCardSaid : Prop := Claim7.holds Tryz.pinned (.plain (OpenSpec.upto factRightSpec)) factRightUptoCard

/-- THE SECOND FORM's CARD OF 'linchpinlaw23.FactHolds'. -/
def factHoldsUptoCard : Claim7 := { stood := { row := factHoldsUptoRow, standIns := [], harness := (true, "10d266dfebdadd0a7f00ec18383651e64831d5e861ffbab28efa3b3fb5782941"), looks := false }, kinds := [], alts := [], laidByText := true, laidKinds := [.data, .data, .data, .data], laidTests := true, laidLooks := .later }
def FactHoldsUptoCardSaid : Prop := Claim7.holds Tryz.pinned (.plain (OpenSpec.upto factHoldsSpec)) factHoldsUptoCard

/-- THE SECOND FORM's CARD OF 'linchpinlaw23.FactSound'. -/
def factSoundUptoCard : Claim7 := { stood := { row := factSoundUptoRow, standIns := [], harness := (true, "10d266dfebdadd0a7f00ec18383651e64831d5e861ffbab28efa3b3fb5782941"), looks := false }, kinds := [], alts := [], laidByText := true, laidKinds := [.data, .data, .data, .data], laidTests := true, laidLooks := .later }
def FactSoundUptoCardSaid : Prop := Claim7.holds Tryz.pinned (.plain (OpenSpec.upto factSoundSpec)) factSoundUptoCard

/-- THE SECOND FORM's CARD OF 'linchpinlaw23.FactLess'. -/
def factLessUptoCard : Claim7 := { stood := { row := factLessUptoRow, standIns := [], harness := (true, "10d266dfebdadd0a7f00ec18383651e64831d5e861ffbab28efa3b3fb5782941"), looks := false }, kinds := [], alts := [], laidByText := true, laidKinds := [.data, .data, .data, .data], laidTests := true, laidLooks := .later }
def FactLessUptoCardSaid : Prop := Claim7.holds Tryz.pinned (.plain (OpenSpec.upto factLessSpec)) factLessUptoCard

/-- THE SECOND FORM's CARD OF 'linchpinlaw23.FactOnce'. -/
def factOnceUptoCard : Claim7 := { stood := { row := factOnceUptoRow, standIns := [], harness := (true, "10d266dfebdadd0a7f00ec18383651e64831d5e861ffbab28efa3b3fb5782941"), looks := false }, kinds := [], alts := [], laidByText := true, laidKinds := [.data, .data, .data, .data], laidTests := true, laidLooks := .later }
def FactOnceUptoCardSaid : Prop := Claim7.holds Tryz.pinned (.plain (OpenSpec.upto factOnceSpec)) factOnceUptoCard

/-- THE SECOND FORM's CARD OF 'linchpinlaw23.FactTwice'. -/
def factTwiceUptoCard : Claim7 := { stood := { row := factTwiceUptoRow, standIns := [], harness := (true, "10d266dfebdadd0a7f00ec18383651e64831d5e861ffbab28efa3b3fb5782941"), looks := false }, kinds := [], alts := [], laidByText := true, laidKinds := [.data, .data, .data, .data], laidTests := true, laidLooks := .later }
def FactTwiceUptoCardSaid : Prop := Claim7.holds Tryz.pinned (.plain (OpenSpec.upto factTwiceSpec)) factTwiceUptoCard

/-- THE SECOND FORM's CARD OF 'linchpinlaw23.FactSays'. -/
def factSaysUptoCard : Claim7 := { stood := { row := factSaysUptoRow, standIns := [], harness := (true, "10d266dfebdadd0a7f00ec18383651e64831d5e861ffbab28efa3b3fb5782941"), looks := false }, kinds := [], alts := [], laidByText := true, laidKinds := [.data, .data, .data, .data], laidTests := true, laidLooks := .later }
def FactSaysUptoCardSaid : Prop := Claim7.holds Tryz.pinned (.plain (OpenSpec.upto factSaysSpec)) factSaysUptoCard
end Rows
end Go.Proofs.YtilgijmokjekgaaGreatDoor
