/-
  DERIVED. GIVEN WITH THE SEED: THE CARDS: each row of YtmghlakedaigpaaGreatDoorRows.lean that lists a variable, with what it lists TIED to the program's text (the seventh form; the later family's looks); each row that meets fmt, with fmt's text TOLD by the authors' own Lean function (tested against real Go, not proved from fmt's source: count such statements apart). THE CARD IS WHAT COUNTS. Prove the row's statement (the work); the ties are given (YtmghlakedaigpaaGreatDoorTie.lean); close each card by the builder's one call (the guide's Derived/Test/ToyasCard.lean, 'card_holds'). Laid BY PROGRAM, IN A SANDBOX (cutbox-door.mjs). By AI agents, Wed Nov 11 2026. No macro, syntax, notation, axiom, sorry.
-/
import Derived.Test.YtmghlakedaigpaaGreatDoorRows
import GoSem.ClaimSeven
namespace Go.Proofs.YtmghlakedaigpaaGreatDoor
namespace Rows

/-- THE TIED CARD OF 'linchpinlaw31.TrimOnce'. -/
def trimOnceCard : Claim7 := { stood := { row := trimOnceRow, standIns := [], harness := (true, "8e313dab0da793555a9cb470979f86f2bd056fd573957ea9811139b337dc135f"), looks := false }, kinds := [], alts := [], laidByText := true, laidKinds := [.data, .data, .data], laidTests := true, laidLooks := .later }
def TrimOnceCardSaid : Prop := Claim7.holds Tryz.pinned (.plain (OpenSpec.ofChange trimOnceSpec)) trimOnceCard

/-- THE SECOND FORM's CARD OF 'linchpinlaw31.TrimOnce'. -/
def trimOnceUptoCard : Claim7 := { stood := { row := trimOnceUptoRow, standIns := [], harness := (true, "8e313dab0da793555a9cb470979f86f2bd056fd573957ea9811139b337dc135f"), looks := false }, kinds := [], alts := [], laidByText := true, laidKinds := [.data, .data, .data], laidTests := true, laidLooks := .later }
def TrimOnceUptoCardSaid : Prop := Claim7.holds Tryz.pinned (.plain (OpenSpec.upto trimOnceSpec)) trimOnceUptoCard
end Rows
end Go.Proofs.YtmghlakedaigpaaGreatDoor
