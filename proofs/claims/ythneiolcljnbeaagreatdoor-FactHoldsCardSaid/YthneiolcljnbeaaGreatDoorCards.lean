/-
  DERIVED. GIVEN WITH THE SEED: THE CARDS: each row of YthneiolcljnbeaaGreatDoorRows.lean that lists a variable, with what it lists TIED to the program's text (the seventh form; the later family's looks); each row that meets fmt, with fmt's text TOLD by the authors' own Lean function (tested against real Go, not proved from fmt's source: count such statements apart). THE CARD IS WHAT COUNTS. Prove the row's statement (the work); the ties are given (YthneiolcljnbeaaGreatDoorTie.lean); close each card by the builder's one call (the guide's Derived/Test/ToyasCard.lean, 'card_holds'). Laid BY PROGRAM, IN A SANDBOX (cutbox-door.mjs). By AI agents, Wed Nov 11 2026. No macro, syntax, notation, axiom, sorry.
-/
import Derived.Test.YthneiolcljnbeaaGreatDoorRows
import GoSem.ClaimSeven
namespace Go.Proofs.YthneiolcljnbeaaGreatDoor
namespace Rows

/-- THE TIED CARD OF 'linchpinlaw23.FactHolds'. -/
def factHoldsCard : Claim7 := { stood := { row := factHoldsRow, standIns := [], harness := (true, "618b759d328f9d9857aec0997c8c7781584dfec5a32e01703a0ccb5fafafb96e"), looks := false }, kinds := [], alts := [], laidByText := true, laidKinds := [.data, .data, .data, .data], laidTests := true, laidLooks := .later }
def FactHoldsCardSaid : Prop := Claim7.holds Tryz.pinned (.plain (OpenSpec.ofChange factHoldsSpec)) factHoldsCard

/-- THE SECOND FORM's CARD OF 'linchpinlaw23.FactHolds'. -/
def factHoldsUptoCard : Claim7 := { stood := { row := factHoldsUptoRow, standIns := [], harness := (true, "618b759d328f9d9857aec0997c8c7781584dfec5a32e01703a0ccb5fafafb96e"), looks := false }, kinds := [], alts := [], laidByText := true, laidKinds := [.data, .data, .data, .data], laidTests := true, laidLooks := .later }
def FactHoldsUptoCardSaid : Prop := Claim7.holds Tryz.pinned (.plain (OpenSpec.upto factHoldsSpec)) factHoldsUptoCard
end Rows
end Go.Proofs.YthneiolcljnbeaaGreatDoor
