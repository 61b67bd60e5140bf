/-
  DERIVED. GIVEN WITH THE SEED: THE CARDS: each row of YtmghlakedaigpaaDoorRows.lean that lists a variable, with what it lists TIED to the program's text (the seventh form; the later family's looks); each row that meets fmt, with fmt's text TOLD by the authors' own Lean function (tested against real Go, not proved from fmt's source: count such statements apart). THE CARD IS WHAT COUNTS. Prove the row's statement (the work); the ties are given (YtmghlakedaigpaaDoorTie.lean); close each card by the builder's one call (the guide's Derived/Test/ToyasCard.lean, 'card_holds'). Laid BY PROGRAM, IN A SANDBOX (cutbox-door.mjs). By AI agents, Wed Nov 11 2026. No macro, syntax, notation, axiom, sorry.
-/
import Derived.Test.YtmghlakedaigpaaDoorRows
import GoSem.ClaimSeven
namespace Go.Proofs.YtmghlakedaigpaaDoor
namespace Rows

/-- THE TIED CARD OF 'linchpinlaw31.TrimTells'. -/
def trimTellsCard : Claim7 := { stood := { row := trimTellsRow, standIns := [], harness := (true, "59ee3ec50304d24abde66a52fe245b5c4786cb9379c4f6d3c1354960aeffe708"), looks := false }, kinds := [], alts := [], laidByText := true, laidKinds := [.data, .data, .data], laidTests := true, laidLooks := .later }
def TrimTellsCardSaid : Prop := Claim7.holds Tryd.pinned (.plain (OpenSpec.ofChange trimTellsSpec)) trimTellsCard

/-- THE SECOND FORM's CARD OF 'linchpinlaw31.TrimTells'. -/
def trimTellsUptoCard : Claim7 := { stood := { row := trimTellsUptoRow, standIns := [], harness := (true, "59ee3ec50304d24abde66a52fe245b5c4786cb9379c4f6d3c1354960aeffe708"), looks := false }, kinds := [], alts := [], laidByText := true, laidKinds := [.data, .data, .data], laidTests := true, laidLooks := .later }
def TrimTellsUptoCardSaid : Prop := Claim7.holds Tryd.pinned (.plain (OpenSpec.upto trimTellsSpec)) trimTellsUptoCard
end Rows
end Go.Proofs.YtmghlakedaigpaaDoor
