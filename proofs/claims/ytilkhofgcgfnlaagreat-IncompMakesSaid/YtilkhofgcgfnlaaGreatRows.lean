/-
  No cell of these rows narrows 'for every input' (looked for: loops, veiled, ifaces, maps, wideKeys, modest, calm, conditions, laid).
  DERIVED. THE GIVEN ROWS OF THIS SEAT. 7 by the template 'for every input the law returns true; each argument reads behind the call as it read before'; 0 by the template 'total and deterministic' (their statements: YtilkhofgcgfnlaaGreatTotals.lean).
  GIVEN WITH THE SEED: the statements are not yours to turn. If you find one false, say at which input.
  Laid BY PROGRAM, IN A SANDBOX (cutbox-rows.mjs): the forced cells as the released guide's own fill.sh prints them over the translation 6ce0528d829ad211… (all of the seat's roots in one cut). By AI agents, Wed Nov 11 2026. No macro, syntax, notation, axiom, sorry.
-/
import Derived.Test.YtilkhofgcgfnlaaGreatChecked
import GoSem.Claim
import GoSem.ClaimJoined
import GoSem.ClaimMapViews
import Derived.JoinedTies
import Derived.KernelRfl
namespace Go.Proofs.YtilkhofgcgfnlaaGreat
/- THE CELL 'sum', in the pinned program and in every row, IS THE sha256 OF THE DUMP (.gsa) THAT YtilkhofgcgfnlaaGreatProg.lean LOADS. Nothing in Lean hashes anything: it is a label: what it is worth is what the hold of that sum in a sandbox is worth. -/
noncomputable def Tryz.pinned : Pinned := { name := "ytilkhofgcgfnlaagreat", sum := "6ce0528d829ad211b5c893fed094fb5ca5af40a4945d739b36777988804adc36", checked := Tryz.checked }
namespace Rows
def none {H : Type} : Left H := { results := [], args := [] }

/-- 'linchpinlaw22.IncompMakes': WHATEVER THE INPUT: true; the input reads as it did. -/
def incompMakesSpec : ChangeSpec := { name := "incompMakes", fn := fun _ => fun
  | [d1, d2, d3, d4] => { results := [.lit (.bool true)], args := [d1, d2, d3, d4] }
  | _ => none }
def incompMakesRow : OpenClaim := { program := "ytilkhofgcgfnlaagreat", sum := "6ce0528d829ad211b5c893fed094fb5ca5af40a4945d739b36777988804adc36", func := "linchpin/linchpinlaw22.IncompMakes", spec := "incompMakes", unfollowed := true, recurses := true, apart := false }
def IncompMakesSaid : Prop := incompMakesRow.holds Tryz.pinned (OpenSpec.ofChange incompMakesSpec)

/-- ITS FALSE NEIGHBOUR: 'it returns false'. Refute it at one input. -/
def incompMakesWrong : ChangeSpec := { name := "incompMakes", fn := fun _ => fun
  | [d1, d2, d3, d4] => { results := [.lit (.bool false)], args := [d1, d2, d3, d4] }
  | _ => none }
def IncompMakesWrongFalsely : Prop := incompMakesRow.holds Tryz.pinned (OpenSpec.ofChange incompMakesWrong)

/-- 'linchpinlaw22.IncompJoins': WHATEVER THE INPUT: true; the input reads as it did. -/
def incompJoinsSpec : ChangeSpec := { name := "incompJoins", fn := fun _ => fun
  | [d1, d2, d3, d4, d5] => { results := [.lit (.bool true)], args := [d1, d2, d3, d4, d5] }
  | _ => none }
def incompJoinsRow : OpenClaim := { program := "ytilkhofgcgfnlaagreat", sum := "6ce0528d829ad211b5c893fed094fb5ca5af40a4945d739b36777988804adc36", func := "linchpin/linchpinlaw22.IncompJoins", spec := "incompJoins", unfollowed := true, recurses := true, apart := false }
def IncompJoinsSaid : Prop := incompJoinsRow.holds Tryz.pinned (OpenSpec.ofChange incompJoinsSpec)

/-- ITS FALSE NEIGHBOUR: 'it returns false'. Refute it at one input. -/
def incompJoinsWrong : ChangeSpec := { name := "incompJoins", fn := fun _ => fun
  | [d1, d2, d3, d4, d5] => { results := [.lit (.bool false)], args := [d1, d2, d3, d4, d5] }
  | _ => none }
def IncompJoinsWrongFalsely : Prop := incompJoinsRow.holds Tryz.pinned (OpenSpec.ofChange incompJoinsWrong)

/-- 'linchpinlaw22.IncompSound': WHATEVER THE INPUT: true; the input reads as it did. -/
def incompSoundSpec : ChangeSpec := { name := "incompSound", fn := fun _ => fun
  | [d1, d2, d3, d4] => { results := [.lit (.bool true)], args := [d1, d2, d3, d4] }
  | _ => none }
def incompSoundRow : OpenClaim := { program := "ytilkhofgcgfnlaagreat", sum := "6ce0528d829ad211b5c893fed094fb5ca5af40a4945d739b36777988804adc36", func := "linchpin/linchpinlaw22.IncompSound", spec := "incompSound", unfollowed := true, recurses := true, apart := false }
def IncompSoundSaid : Prop := incompSoundRow.holds Tryz.pinned (OpenSpec.ofChange incompSoundSpec)

/-- ITS FALSE NEIGHBOUR: 'it returns false'. Refute it at one input. -/
def incompSoundWrong : ChangeSpec := { name := "incompSound", fn := fun _ => fun
  | [d1, d2, d3, d4] => { results := [.lit (.bool false)], args := [d1, d2, d3, d4] }
  | _ => none }
def IncompSoundWrongFalsely : Prop := incompSoundRow.holds Tryz.pinned (OpenSpec.ofChange incompSoundWrong)

/-- 'linchpinlaw22.IncompDrops': WHATEVER THE INPUT: true; the input reads as it did. -/
def incompDropsSpec : ChangeSpec := { name := "incompDrops", fn := fun _ => fun
  | [d1, d2, d3, d4, d5] => { results := [.lit (.bool true)], args := [d1, d2, d3, d4, d5] }
  | _ => none }
def incompDropsRow : OpenClaim := { program := "ytilkhofgcgfnlaagreat", sum := "6ce0528d829ad211b5c893fed094fb5ca5af40a4945d739b36777988804adc36", func := "linchpin/linchpinlaw22.IncompDrops", spec := "incompDrops", unfollowed := true, recurses := true, apart := false }
def IncompDropsSaid : Prop := incompDropsRow.holds Tryz.pinned (OpenSpec.ofChange incompDropsSpec)

/-- ITS FALSE NEIGHBOUR: 'it returns false'. Refute it at one input. -/
def incompDropsWrong : ChangeSpec := { name := "incompDrops", fn := fun _ => fun
  | [d1, d2, d3, d4, d5] => { results := [.lit (.bool false)], args := [d1, d2, d3, d4, d5] }
  | _ => none }
def IncompDropsWrongFalsely : Prop := incompDropsRow.holds Tryz.pinned (OpenSpec.ofChange incompDropsWrong)

/-- 'linchpinlaw22.IncompMeets': WHATEVER THE INPUT: true; the input reads as it did. -/
def incompMeetsSpec : ChangeSpec := { name := "incompMeets", fn := fun _ => fun
  | [d1, d2, d3] => { results := [.lit (.bool true)], args := [d1, d2, d3] }
  | _ => none }
def incompMeetsRow : OpenClaim := { program := "ytilkhofgcgfnlaagreat", sum := "6ce0528d829ad211b5c893fed094fb5ca5af40a4945d739b36777988804adc36", func := "linchpin/linchpinlaw22.IncompMeets", spec := "incompMeets", unfollowed := true, recurses := true, apart := false }
def IncompMeetsSaid : Prop := incompMeetsRow.holds Tryz.pinned (OpenSpec.ofChange incompMeetsSpec)

/-- ITS FALSE NEIGHBOUR: 'it returns false'. Refute it at one input. -/
def incompMeetsWrong : ChangeSpec := { name := "incompMeets", fn := fun _ => fun
  | [d1, d2, d3] => { results := [.lit (.bool false)], args := [d1, d2, d3] }
  | _ => none }
def IncompMeetsWrongFalsely : Prop := incompMeetsRow.holds Tryz.pinned (OpenSpec.ofChange incompMeetsWrong)

/-- 'linchpinlaw22.IncompWithin': WHATEVER THE INPUT: true; the input reads as it did. -/
def incompWithinSpec : ChangeSpec := { name := "incompWithin", fn := fun _ => fun
  | [d1, d2, d3] => { results := [.lit (.bool true)], args := [d1, d2, d3] }
  | _ => none }
def incompWithinRow : OpenClaim := { program := "ytilkhofgcgfnlaagreat", sum := "6ce0528d829ad211b5c893fed094fb5ca5af40a4945d739b36777988804adc36", func := "linchpin/linchpinlaw22.IncompWithin", spec := "incompWithin", unfollowed := true, recurses := true, apart := false }
def IncompWithinSaid : Prop := incompWithinRow.holds Tryz.pinned (OpenSpec.ofChange incompWithinSpec)

/-- ITS FALSE NEIGHBOUR: 'it returns false'. Refute it at one input. -/
def incompWithinWrong : ChangeSpec := { name := "incompWithin", fn := fun _ => fun
  | [d1, d2, d3] => { results := [.lit (.bool false)], args := [d1, d2, d3] }
  | _ => none }
def IncompWithinWrongFalsely : Prop := incompWithinRow.holds Tryz.pinned (OpenSpec.ofChange incompWithinWrong)

/-- 'linchpinlaw22.IncompTurns': WHATEVER THE INPUT: true; the input reads as it did. -/
def incompTurnsSpec : ChangeSpec := { name := "incompTurns", fn := fun _ => fun
  | [d1, d2, d3, d4] => { results := [.lit (.bool true)], args := [d1, d2, d3, d4] }
  | _ => none }
def incompTurnsRow : OpenClaim := { program := "ytilkhofgcgfnlaagreat", sum := "6ce0528d829ad211b5c893fed094fb5ca5af40a4945d739b36777988804adc36", func := "linchpin/linchpinlaw22.IncompTurns", spec := "incompTurns", unfollowed := true, recurses := true, apart := false }
def IncompTurnsSaid : Prop := incompTurnsRow.holds Tryz.pinned (OpenSpec.ofChange incompTurnsSpec)

/-- ITS FALSE NEIGHBOUR: 'it returns false'. Refute it at one input. -/
def incompTurnsWrong : ChangeSpec := { name := "incompTurns", fn := fun _ => fun
  | [d1, d2, d3, d4] => { results := [.lit (.bool false)], args := [d1, d2, d3, d4] }
  | _ => none }
def IncompTurnsWrongFalsely : Prop := incompTurnsRow.holds Tryz.pinned (OpenSpec.ofChange incompTurnsWrong)

/- THE SECOND FORM. 'bulk': how many values and letters a reading holds, each counted each time it is reached (what is shared counts as often as it is met; a slice's spare places count too). A statement '..UptoSaid' is the law's where the arguments, and the package variables that the reading takes, are together of bulk at most 1048576: NARROWER than '..Said'. Prove '..Said' where nothing that the law and all that it calls make is longer than what came in: it says more and counts as full. Else prove '..UptoSaid'. A law counts once. -/
mutual
def uptoBulk {H : Type} : DataW H → Nat
  | .lit (.string bytes) => bytes.length + 1
  | .lit _ => 1
  | .nil => 1
  | .ptr d => uptoBulk d + 1
  | .slice elems spare => uptoBulkAll elems + uptoBulkAll spare + 1
  | .agg parts => uptoBulkAll parts + 1
  | .iface _ d => uptoBulk d + 1
  | .map entries => uptoBulkEntries entries + 1
  | .held _ => 1
def uptoBulkAll {H : Type} : List (DataW H) → Nat
  | [] => 0
  | d :: r => uptoBulk d + uptoBulkAll r
def uptoBulkEntries {H : Type} : List (Lit × DataW H) → Nat
  | [] => 0
  | x :: r => uptoBulkEntry x + uptoBulkEntries r
def uptoBulkEntry {H : Type} : Lit × DataW H → Nat
  | (.string bytes, d) => bytes.length + uptoBulk d + 1
  | (_, d) => uptoBulk d + 1
 end
def uptoSmall : (H : Type) → List (DataW H) → Bool := fun _ ds => decide (uptoBulkAll ds ≤ 1048576)
def OpenSpec.upto (s : _root_.Go.ChangeSpec) : _root_.Go.OpenSpec := { _root_.Go.OpenSpec.ofChange s with cond := some uptoSmall }

/-- 'linchpinlaw22.IncompMakes', WHERE WHAT IT READS IS OF BULK AT MOST 1048576: true; the input reads as it did. -/
def incompMakesUptoRow : OpenClaim := { program := "ytilkhofgcgfnlaagreat", sum := "6ce0528d829ad211b5c893fed094fb5ca5af40a4945d739b36777988804adc36", func := "linchpin/linchpinlaw22.IncompMakes", spec := "incompMakes", unfollowed := true, recurses := true, apart := false, narrowed := true }
def IncompMakesUptoSaid : Prop := incompMakesUptoRow.holds Tryz.pinned (OpenSpec.upto incompMakesSpec)

/-- 'linchpinlaw22.IncompJoins', WHERE WHAT IT READS IS OF BULK AT MOST 1048576: true; the input reads as it did. -/
def incompJoinsUptoRow : OpenClaim := { program := "ytilkhofgcgfnlaagreat", sum := "6ce0528d829ad211b5c893fed094fb5ca5af40a4945d739b36777988804adc36", func := "linchpin/linchpinlaw22.IncompJoins", spec := "incompJoins", unfollowed := true, recurses := true, apart := false, narrowed := true }
def IncompJoinsUptoSaid : Prop := incompJoinsUptoRow.holds Tryz.pinned (OpenSpec.upto incompJoinsSpec)

/-- 'linchpinlaw22.IncompSound', WHERE WHAT IT READS IS OF BULK AT MOST 1048576: true; the input reads as it did. -/
def incompSoundUptoRow : OpenClaim := { program := "ytilkhofgcgfnlaagreat", sum := "6ce0528d829ad211b5c893fed094fb5ca5af40a4945d739b36777988804adc36", func := "linchpin/linchpinlaw22.IncompSound", spec := "incompSound", unfollowed := true, recurses := true, apart := false, narrowed := true }
def IncompSoundUptoSaid : Prop := incompSoundUptoRow.holds Tryz.pinned (OpenSpec.upto incompSoundSpec)

/-- 'linchpinlaw22.IncompDrops', WHERE WHAT IT READS IS OF BULK AT MOST 1048576: true; the input reads as it did. -/
def incompDropsUptoRow : OpenClaim := { program := "ytilkhofgcgfnlaagreat", sum := "6ce0528d829ad211b5c893fed094fb5ca5af40a4945d739b36777988804adc36", func := "linchpin/linchpinlaw22.IncompDrops", spec := "incompDrops", unfollowed := true, recurses := true, apart := false, narrowed := true }
def IncompDropsUptoSaid : Prop := incompDropsUptoRow.holds Tryz.pinned (OpenSpec.upto incompDropsSpec)

/-- 'linchpinlaw22.IncompMeets', WHERE WHAT IT READS IS OF BULK AT MOST 1048576: true; the input reads as it did. -/
def incompMeetsUptoRow : OpenClaim := { program := "ytilkhofgcgfnlaagreat", sum := "6ce0528d829ad211b5c893fed094fb5ca5af40a4945d739b36777988804adc36", func := "linchpin/linchpinlaw22.IncompMeets", spec := "incompMeets", unfollowed := true, recurses := true, apart := false, narrowed := true }
def IncompMeetsUptoSaid : Prop := incompMeetsUptoRow.holds Tryz.pinned (OpenSpec.upto incompMeetsSpec)

/-- 'linchpinlaw22.IncompWithin', WHERE WHAT IT READS IS OF BULK AT MOST 1048576: true; the input reads as it did. -/
def incompWithinUptoRow : OpenClaim := { program := "ytilkhofgcgfnlaagreat", sum := "6ce0528d829ad211b5c893fed094fb5ca5af40a4945d739b36777988804adc36", func := "linchpin/linchpinlaw22.IncompWithin", spec := "incompWithin", unfollowed := true, recurses := true, apart := false, narrowed := true }
def IncompWithinUptoSaid : Prop := incompWithinUptoRow.holds Tryz.pinned (OpenSpec.upto incompWithinSpec)

/-- 'linchpinlaw22.IncompTurns', WHERE WHAT IT READS IS OF BULK AT MOST 1048576: true; the input reads as it did. -/
def incompTurnsUptoRow : OpenClaim := { program := "ytilkhofgcgfnlaagreat", sum := "6ce0528d829ad211b5c893fed094fb5ca5af40a4945d739b36777988804adc36", func := "linchpin/linchpinlaw22.IncompTurns", spec := "incompTurns", unfollowed := true, recurses := true, apart := false, narrowed := true }
def IncompTurnsUptoSaid : Prop := incompTurnsUptoRow.holds Tryz.pinned (OpenSpec.upto incompTurnsSpec)

end Rows
end Go.Proofs.YtilkhofgcgfnlaaGreat
