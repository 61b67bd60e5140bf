/-
  DERIVED. GIVEN WITH THE SEED: THE CARDS: each row of YtlinabifalfddaaDoorRows.lean that lists a variable, with what it lists TIED to the program's text (the seventh form; the later family's looks); each row that meets fmt, with fmt's text TOLD by the authors' own Lean function (tested against real Go, not proved from fmt's source: count such statements apart). THE CARD IS WHAT COUNTS. Prove the row's statement (the work); the ties are given (YtlinabifalfddaaDoorTie.lean); close each card by the builder's one call (the guide's Derived/Test/ToyasCard.lean, 'card_holds'). Laid BY PROGRAM, IN A SANDBOX (cutbox-door.mjs). By AI agents, Wed Nov 11 2026. No macro, syntax, notation, axiom, sorry.
-/
import Derived.Test.YtlinabifalfddaaDoorRows
import GoSem.ClaimSeven
namespace Go.Proofs.YtlinabifalfddaaDoor
namespace Rows

/-- THE TIED CARD OF 'linchpinlaw29.ProofMay'. -/
def proofMayCard : Claim7 := { stood := { row := proofMayRow, standIns := [], harness := (true, "5f27a9969f42e6874a1ec57a42600475d9a6059439ffbb98aa886b2025e04b56"), looks := false }, kinds := [], alts := [], laidByText := true, laidKinds := [.data, .data, .data], laidTests := true, laidLooks := .later }
def ProofMayCardSaid : Prop := Claim7.holds Tryd.pinned (.plain (OpenSpec.ofChange proofMaySpec)) proofMayCard

/-- THE TIED CARD OF 'linchpinlaw29.ProofPrints'. -/
def proofPrintsCard : Claim7 := { stood := { row := proofPrintsRow, standIns := [], harness := (true, "5f27a9969f42e6874a1ec57a42600475d9a6059439ffbb98aa886b2025e04b56"), looks := false }, kinds := [], alts := [], laidByText := true, laidKinds := [.data, .data, .data], laidTests := true, laidLooks := .later }
def ProofPrintsCardSaid : Prop := Claim7.holds Tryd.pinned (.plain (OpenSpec.ofChange proofPrintsSpec)) proofPrintsCard

/-- THE TIED CARD OF 'linchpinlaw31.TrimDeep'. -/
def trimDeepCard : Claim7 := { stood := { row := trimDeepRow, standIns := [], harness := (true, "5f27a9969f42e6874a1ec57a42600475d9a6059439ffbb98aa886b2025e04b56"), looks := false }, kinds := [], alts := [], laidByText := true, laidKinds := [.data, .data, .data], laidTests := true, laidLooks := .later }
def TrimDeepCardSaid : Prop := Claim7.holds Tryd.pinned (.plain (OpenSpec.ofChange trimDeepSpec)) trimDeepCard

/-- THE TIED CARD OF 'linchpinlaw29.ProofParses'. -/
def proofParsesCard : Claim7 := { stood := { row := proofParsesRow, standIns := [], harness := (true, "5f27a9969f42e6874a1ec57a42600475d9a6059439ffbb98aa886b2025e04b56"), looks := false }, kinds := [], alts := [], laidByText := true, laidKinds := [.data, .data, .data, .data, .pinned], laidTests := true, laidLooks := .later }
def ProofParsesCardSaid : Prop := Claim7.holds Tryd.pinned (.plain (OpenSpec.ofChange proofParsesSpec)) proofParsesCard

/-- THE TIED CARD OF 'linchpinlaw29.ProofBack'. -/
def proofBackCard : Claim7 := { stood := { row := proofBackRow, standIns := [], harness := (true, "5f27a9969f42e6874a1ec57a42600475d9a6059439ffbb98aa886b2025e04b56"), looks := false }, kinds := [], alts := [], laidByText := true, laidKinds := [.data, .data, .data, .data, .pinned], laidTests := true, laidLooks := .later }
def ProofBackCardSaid : Prop := Claim7.holds Tryd.pinned (.plain (OpenSpec.ofChange proofBackSpec)) proofBackCard

/-- THE TIED CARD OF 'linchpinlaw31.TrimTells'. -/
def trimTellsCard : Claim7 := { stood := { row := trimTellsRow, standIns := [], harness := (true, "5f27a9969f42e6874a1ec57a42600475d9a6059439ffbb98aa886b2025e04b56"), looks := false }, kinds := [], alts := [], laidByText := true, laidKinds := [.data, .data, .data], laidTests := true, laidLooks := .later }
def TrimTellsCardSaid : Prop := Claim7.holds Tryd.pinned (.plain (OpenSpec.ofChange trimTellsSpec)) trimTellsCard

/-- THE SECOND FORM's CARD OF 'linchpinlaw29.ProofMay'. -/
def proofMayUptoCard : Claim7 := { stood := { row := proofMayUptoRow, standIns := [], harness := (true, "5f27a9969f42e6874a1ec57a42600475d9a6059439ffbb98aa886b2025e04b56"), looks := false }, kinds := [], alts := [], laidByText := true, laidKinds := [.data, .data, .data], laidTests := true, laidLooks := .later }
def ProofMayUptoCardSaid : Prop := Claim7.holds Tryd.pinned (.plain (OpenSpec.upto proofMaySpec)) proofMayUptoCard

/-- THE SECOND FORM's CARD OF 'linchpinlaw29.ProofPrints'. -/
def proofPrintsUptoCard : Claim7 := { stood := { row := proofPrintsUptoRow, standIns := [], harness := (true, "5f27a9969f42e6874a1ec57a42600475d9a6059439ffbb98aa886b2025e04b56"), looks := false }, kinds := [], alts := [], laidByText := true, laidKinds := [.data, .data, .data], laidTests := true, laidLooks := .later }
def ProofPrintsUptoCardSaid : Prop := Claim7.holds Tryd.pinned (.plain (OpenSpec.upto proofPrintsSpec)) proofPrintsUptoCard

/-- THE SECOND FORM's CARD OF 'linchpinlaw31.TrimDeep'. -/
def trimDeepUptoCard : Claim7 := { stood := { row := trimDeepUptoRow, standIns := [], harness := (true, "5f27a9969f42e6874a1ec57a42600475d9a6059439ffbb98aa886b2025e04b56"), looks := false }, kinds := [], alts := [], laidByText := true, laidKinds := [.data, .data, .data], laidTests := true, laidLooks := .later }
def TrimDeepUptoCardSaid : Prop := Claim7.holds Tryd.pinned (.plain (OpenSpec.upto trimDeepSpec)) trimDeepUptoCard

/-- THE SECOND FORM's CARD OF 'linchpinlaw29.ProofParses'. -/
def proofParsesUptoCard : Claim7 := { stood := { row := proofParsesUptoRow, standIns := [], harness := (true, "5f27a9969f42e6874a1ec57a42600475d9a6059439ffbb98aa886b2025e04b56"), looks := false }, kinds := [], alts := [], laidByText := true, laidKinds := [.data, .data, .data, .data, .pinned], laidTests := true, laidLooks := .later }
def ProofParsesUptoCardSaid : Prop := Claim7.holds Tryd.pinned (.plain (OpenSpec.upto proofParsesSpec)) proofParsesUptoCard

/-- THE SECOND FORM's CARD OF 'linchpinlaw29.ProofBack'. -/
def proofBackUptoCard : Claim7 := { stood := { row := proofBackUptoRow, standIns := [], harness := (true, "5f27a9969f42e6874a1ec57a42600475d9a6059439ffbb98aa886b2025e04b56"), looks := false }, kinds := [], alts := [], laidByText := true, laidKinds := [.data, .data, .data, .data, .pinned], laidTests := true, laidLooks := .later }
def ProofBackUptoCardSaid : Prop := Claim7.holds Tryd.pinned (.plain (OpenSpec.upto proofBackSpec)) proofBackUptoCard

/-- THE SECOND FORM's CARD OF 'linchpinlaw31.TrimTells'. -/
def trimTellsUptoCard : Claim7 := { stood := { row := trimTellsUptoRow, standIns := [], harness := (true, "5f27a9969f42e6874a1ec57a42600475d9a6059439ffbb98aa886b2025e04b56"), looks := false }, kinds := [], alts := [], laidByText := true, laidKinds := [.data, .data, .data], laidTests := true, laidLooks := .later }
def TrimTellsUptoCardSaid : Prop := Claim7.holds Tryd.pinned (.plain (OpenSpec.upto trimTellsSpec)) trimTellsUptoCard
end Rows
end Go.Proofs.YtlinabifalfddaaDoor
