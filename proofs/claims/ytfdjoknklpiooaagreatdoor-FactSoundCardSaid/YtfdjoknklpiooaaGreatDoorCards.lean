/-
  DERIVED. GIVEN WITH THE SEED: THE CARDS: each row of YtfdjoknklpiooaaGreatDoorRows.lean that lists a variable, with what it lists TIED to the program's text (the seventh form; the later family's looks); each row that meets fmt, with fmt's text TOLD by the authors' own Lean function (tested against real Go, not proved from fmt's source: count such statements apart). THE CARD IS WHAT COUNTS. Prove the row's statement (the work); the ties are given (YtfdjoknklpiooaaGreatDoorTie.lean); close each card by the builder's one call (the guide's Derived/Test/ToyasCard.lean, 'card_holds'). Laid BY PROGRAM, IN A SANDBOX (cutbox-door.mjs). By AI agents, Wed Nov 11 2026. No macro, syntax, notation, axiom, sorry.
-/
import Derived.Test.YtfdjoknklpiooaaGreatDoorRows
import GoSem.ClaimSeven
namespace Go.Proofs.YtfdjoknklpiooaaGreatDoor
namespace Rows

/-- THE TIED CARD OF 'linchpinlaw23.FactSound'. -/
def factSoundCard : Claim7 := { stood := { row := factSoundRow, standIns := [], harness := (true, "1ee57a40d70e8129625d7bdc7995e889353a7754a76fa55548530460694e8e87"), looks := false }, kinds := [], alts := [], laidByText := true, laidKinds := [.data, .data, .data, .data], laidTests := true, laidLooks := .later }
def FactSoundCardSaid : Prop := Claim7.holds Tryz.pinned (.plain (OpenSpec.ofChange factSoundSpec)) factSoundCard

/-- THE SECOND FORM's CARD OF 'linchpinlaw23.FactSound'. -/
def factSoundUptoCard : Claim7 := { stood := { row := factSoundUptoRow, standIns := [], harness := (true, "1ee57a40d70e8129625d7bdc7995e889353a7754a76fa55548530460694e8e87"), looks := false }, kinds := [], alts := [], laidByText := true, laidKinds := [.data, .data, .data, .data], laidTests := true, laidLooks := .later }
def FactSoundUptoCardSaid : Prop := Claim7.holds Tryz.pinned (.plain (OpenSpec.upto factSoundSpec)) factSoundUptoCard
end Rows
end Go.Proofs.YtfdjoknklpiooaaGreatDoor
