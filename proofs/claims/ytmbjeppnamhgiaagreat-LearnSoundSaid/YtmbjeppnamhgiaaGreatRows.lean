/-
  No cell of these rows narrows 'for every input' (looked for: loops, veiled, ifaces, maps, wideKeys, modest, calm, conditions, laid).
  DERIVED. THE GIVEN ROWS OF THIS SEAT. 6 by the template 'for every input the law returns true; each argument reads behind the call as it read before'; 0 by the template 'total and deterministic' (their statements: YtmbjeppnamhgiaaGreatTotals.lean).
  GIVEN WITH THE SEED: the statements are not yours to turn. If you find one false, say at which input.
  Laid BY PROGRAM, IN A SANDBOX (cutbox-rows.mjs): the forced cells as the released guide's own fill.sh prints them over the translation 366eccee0367cafb… (all of the seat's roots in one cut). By AI agents, Wed Nov 11 2026. No macro, syntax, notation, axiom, sorry.
-/
import Derived.Test.YtmbjeppnamhgiaaGreatChecked
import GoSem.Claim
import GoSem.ClaimJoined
import GoSem.ClaimMapViews
import Derived.JoinedTies
import Derived.KernelRfl
namespace Go.Proofs.YtmbjeppnamhgiaaGreat
/- THE CELL 'sum', in the pinned program and in every row, IS THE sha256 OF THE DUMP (.gsa) THAT YtmbjeppnamhgiaaGreatProg.lean LOADS. Nothing in Lean hashes anything: it is a label: what it is worth is what the hold of that sum in a sandbox is worth. -/
noncomputable def Tryz.pinned : Pinned := { name := "ytmbjeppnamhgiaagreat", sum := "366eccee0367cafb00fc620b2913269109050929f3a3750200caa55c9a8cf110", checked := Tryz.checked }
namespace Rows
def none {H : Type} : Left H := { results := [], args := [] }

/-- 'linchpinlaw26.LearnTells': WHATEVER THE INPUT: true; the input reads as it did. -/
def learnTellsSpec : ChangeSpec := { name := "learnTells", fn := fun _ => fun
  | [d1, d2, d3] => { results := [.lit (.bool true)], args := [d1, d2, d3] }
  | _ => none }
def learnTellsRow : OpenClaim := { program := "ytmbjeppnamhgiaagreat", sum := "366eccee0367cafb00fc620b2913269109050929f3a3750200caa55c9a8cf110", func := "linchpin/linchpinlaw26.LearnTells", spec := "learnTells", unfollowed := true, recurses := true, apart := false }
def LearnTellsSaid : Prop := learnTellsRow.holds Tryz.pinned (OpenSpec.ofChange learnTellsSpec)

/-- ITS FALSE NEIGHBOUR: 'it returns false'. Refute it at one input. -/
def learnTellsWrong : ChangeSpec := { name := "learnTells", fn := fun _ => fun
  | [d1, d2, d3] => { results := [.lit (.bool false)], args := [d1, d2, d3] }
  | _ => none }
def LearnTellsWrongFalsely : Prop := learnTellsRow.holds Tryz.pinned (OpenSpec.ofChange learnTellsWrong)

/-- 'linchpinlaw26.LearnSound': WHATEVER THE INPUT: true; the input reads as it did. -/
def learnSoundSpec : ChangeSpec := { name := "learnSound", fn := fun _ => fun
  | [d1, d2, d3] => { results := [.lit (.bool true)], args := [d1, d2, d3] }
  | _ => none }
def learnSoundRow : OpenClaim := { program := "ytmbjeppnamhgiaagreat", sum := "366eccee0367cafb00fc620b2913269109050929f3a3750200caa55c9a8cf110", func := "linchpin/linchpinlaw26.LearnSound", spec := "learnSound", unfollowed := true, recurses := true, apart := false }
def LearnSoundSaid : Prop := learnSoundRow.holds Tryz.pinned (OpenSpec.ofChange learnSoundSpec)

/-- ITS FALSE NEIGHBOUR: 'it returns false'. Refute it at one input. -/
def learnSoundWrong : ChangeSpec := { name := "learnSound", fn := fun _ => fun
  | [d1, d2, d3] => { results := [.lit (.bool false)], args := [d1, d2, d3] }
  | _ => none }
def LearnSoundWrongFalsely : Prop := learnSoundRow.holds Tryz.pinned (OpenSpec.ofChange learnSoundWrong)

/-- 'linchpinlaw26.LearnOpens': WHATEVER THE INPUT: true; the input reads as it did. -/
def learnOpensSpec : ChangeSpec := { name := "learnOpens", fn := fun _ => fun
  | [d1, d2, d3] => { results := [.lit (.bool true)], args := [d1, d2, d3] }
  | _ => none }
def learnOpensRow : OpenClaim := { program := "ytmbjeppnamhgiaagreat", sum := "366eccee0367cafb00fc620b2913269109050929f3a3750200caa55c9a8cf110", func := "linchpin/linchpinlaw26.LearnOpens", spec := "learnOpens", unfollowed := true, recurses := true, apart := false }
def LearnOpensSaid : Prop := learnOpensRow.holds Tryz.pinned (OpenSpec.ofChange learnOpensSpec)

/-- ITS FALSE NEIGHBOUR: 'it returns false'. Refute it at one input. -/
def learnOpensWrong : ChangeSpec := { name := "learnOpens", fn := fun _ => fun
  | [d1, d2, d3] => { results := [.lit (.bool false)], args := [d1, d2, d3] }
  | _ => none }
def LearnOpensWrongFalsely : Prop := learnOpensRow.holds Tryz.pinned (OpenSpec.ofChange learnOpensWrong)

/-- 'linchpinlaw26.LearnJoins': WHATEVER THE INPUT: true; the input reads as it did. -/
def learnJoinsSpec : ChangeSpec := { name := "learnJoins", fn := fun _ => fun
  | [d1, d2, d3] => { results := [.lit (.bool true)], args := [d1, d2, d3] }
  | _ => none }
def learnJoinsRow : OpenClaim := { program := "ytmbjeppnamhgiaagreat", sum := "366eccee0367cafb00fc620b2913269109050929f3a3750200caa55c9a8cf110", func := "linchpin/linchpinlaw26.LearnJoins", spec := "learnJoins", unfollowed := true, recurses := true, apart := false }
def LearnJoinsSaid : Prop := learnJoinsRow.holds Tryz.pinned (OpenSpec.ofChange learnJoinsSpec)

/-- ITS FALSE NEIGHBOUR: 'it returns false'. Refute it at one input. -/
def learnJoinsWrong : ChangeSpec := { name := "learnJoins", fn := fun _ => fun
  | [d1, d2, d3] => { results := [.lit (.bool false)], args := [d1, d2, d3] }
  | _ => none }
def LearnJoinsWrongFalsely : Prop := learnJoinsRow.holds Tryz.pinned (OpenSpec.ofChange learnJoinsWrong)

/-- 'linchpinlaw26.LearnGround': WHATEVER THE INPUT: true; the input reads as it did. -/
def learnGroundSpec : ChangeSpec := { name := "learnGround", fn := fun _ => fun
  | [d1, d2] => { results := [.lit (.bool true)], args := [d1, d2] }
  | _ => none }
def learnGroundRow : OpenClaim := { program := "ytmbjeppnamhgiaagreat", sum := "366eccee0367cafb00fc620b2913269109050929f3a3750200caa55c9a8cf110", func := "linchpin/linchpinlaw26.LearnGround", spec := "learnGround", unfollowed := true, recurses := true, apart := false }
def LearnGroundSaid : Prop := learnGroundRow.holds Tryz.pinned (OpenSpec.ofChange learnGroundSpec)

/-- ITS FALSE NEIGHBOUR: 'it returns false'. Refute it at one input. -/
def learnGroundWrong : ChangeSpec := { name := "learnGround", fn := fun _ => fun
  | [d1, d2] => { results := [.lit (.bool false)], args := [d1, d2] }
  | _ => none }
def LearnGroundWrongFalsely : Prop := learnGroundRow.holds Tryz.pinned (OpenSpec.ofChange learnGroundWrong)

/-- 'linchpinlaw26.LearnNew': WHATEVER THE INPUT: true; the input reads as it did. -/
def learnNewSpec : ChangeSpec := { name := "learnNew", fn := fun _ => fun
  | [d1, d2, d3] => { results := [.lit (.bool true)], args := [d1, d2, d3] }
  | _ => none }
def learnNewRow : OpenClaim := { program := "ytmbjeppnamhgiaagreat", sum := "366eccee0367cafb00fc620b2913269109050929f3a3750200caa55c9a8cf110", func := "linchpin/linchpinlaw26.LearnNew", spec := "learnNew", unfollowed := true, recurses := true, apart := false }
def LearnNewSaid : Prop := learnNewRow.holds Tryz.pinned (OpenSpec.ofChange learnNewSpec)

/-- ITS FALSE NEIGHBOUR: 'it returns false'. Refute it at one input. -/
def learnNewWrong : ChangeSpec := { name := "learnNew", fn := fun _ => fun
  | [d1, d2, d3] => { results := [.lit (.bool false)], args := [d1, d2, d3] }
  | _ => none }
def LearnNewWrongFalsely : Prop := learnNewRow.holds Tryz.pinned (OpenSpec.ofChange learnNewWrong)

/- THE SECOND FORM. 'bulk': how many values and letters a reading holds, each counted each time it is reached (what is shared counts as often as it is met; a slice's spare places count too). A statement '..UptoSaid' is the law's where the arguments, and the package variables that the reading takes, are together of bulk at most 1048576: NARROWER than '..Said'. Prove '..Said' where nothing that the law and all that it calls make is longer than what came in: it says more and counts as full. Else prove '..UptoSaid'. A law counts once. -/
mutual
def uptoBulk {H : Type} : DataW H → Nat
  | .lit (.string bytes) => bytes.length + 1
  | .lit _ => 1
  | .nil => 1
  | .ptr d => uptoBulk d + 1
  | .slice elems spare => uptoBulkAll elems + uptoBulkAll spare + 1
  | .agg parts => uptoBulkAll parts + 1
  | .iface _ d => uptoBulk d + 1
  | .map entries => uptoBulkEntries entries + 1
  | .held _ => 1
def uptoBulkAll {H : Type} : List (DataW H) → Nat
  | [] => 0
  | d :: r => uptoBulk d + uptoBulkAll r
def uptoBulkEntries {H : Type} : List (Lit × DataW H) → Nat
  | [] => 0
  | x :: r => uptoBulkEntry x + uptoBulkEntries r
def uptoBulkEntry {H : Type} : Lit × DataW H → Nat
  | (.string bytes, d) => bytes.length + uptoBulk d + 1
  | (_, d) => uptoBulk d + 1
 end
def uptoSmall : (H : Type) → List (DataW H) → Bool := fun _ ds => decide (uptoBulkAll ds ≤ 1048576)
def OpenSpec.upto (s : _root_.Go.ChangeSpec) : _root_.Go.OpenSpec := { _root_.Go.OpenSpec.ofChange s with cond := some uptoSmall }

/-- 'linchpinlaw26.LearnTells', WHERE WHAT IT READS IS OF BULK AT MOST 1048576: true; the input reads as it did. -/
def learnTellsUptoRow : OpenClaim := { program := "ytmbjeppnamhgiaagreat", sum := "366eccee0367cafb00fc620b2913269109050929f3a3750200caa55c9a8cf110", func := "linchpin/linchpinlaw26.LearnTells", spec := "learnTells", unfollowed := true, recurses := true, apart := false, narrowed := true }
def LearnTellsUptoSaid : Prop := learnTellsUptoRow.holds Tryz.pinned (OpenSpec.upto learnTellsSpec)

/-- 'linchpinlaw26.LearnSound', WHERE WHAT IT READS IS OF BULK AT MOST 1048576: true; the input reads as it did. -/
def learnSoundUptoRow : OpenClaim := { program := "ytmbjeppnamhgiaagreat", sum := "366eccee0367cafb00fc620b2913269109050929f3a3750200caa55c9a8cf110", func := "linchpin/linchpinlaw26.LearnSound", spec := "learnSound", unfollowed := true, recurses := true, apart := false, narrowed := true }
def LearnSoundUptoSaid : Prop := learnSoundUptoRow.holds Tryz.pinned (OpenSpec.upto learnSoundSpec)

/-- 'linchpinlaw26.LearnOpens', WHERE WHAT IT READS IS OF BULK AT MOST 1048576: true; the input reads as it did. -/
def learnOpensUptoRow : OpenClaim := { program := "ytmbjeppnamhgiaagreat", sum := "366eccee0367cafb00fc620b2913269109050929f3a3750200caa55c9a8cf110", func := "linchpin/linchpinlaw26.LearnOpens", spec := "learnOpens", unfollowed := true, recurses := true, apart := false, narrowed := true }
def LearnOpensUptoSaid : Prop := learnOpensUptoRow.holds Tryz.pinned (OpenSpec.upto learnOpensSpec)

/-- 'linchpinlaw26.LearnJoins', WHERE WHAT IT READS IS OF BULK AT MOST 1048576: true; the input reads as it did. -/
def learnJoinsUptoRow : OpenClaim := { program := "ytmbjeppnamhgiaagreat", sum := "366eccee0367cafb00fc620b2913269109050929f3a3750200caa55c9a8cf110", func := "linchpin/linchpinlaw26.LearnJoins", spec := "learnJoins", unfollowed := true, recurses := true, apart := false, narrowed := true }
def LearnJoinsUptoSaid : Prop := learnJoinsUptoRow.holds Tryz.pinned (OpenSpec.upto learnJoinsSpec)

/-- 'linchpinlaw26.LearnGround', WHERE WHAT IT READS IS OF BULK AT MOST 1048576: true; the input reads as it did. -/
def learnGroundUptoRow : OpenClaim := { program := "ytmbjeppnamhgiaagreat", sum := "366eccee0367cafb00fc620b2913269109050929f3a3750200caa55c9a8cf110", func := "linchpin/linchpinlaw26.LearnGround", spec := "learnGround", unfollowed := true, recurses := true, apart := false, narrowed := true }
def LearnGroundUptoSaid : Prop := learnGroundUptoRow.holds Tryz.pinned (OpenSpec.upto learnGroundSpec)

/-- 'linchpinlaw26.LearnNew', WHERE WHAT IT READS IS OF BULK AT MOST 1048576: true; the input reads as it did. -/
def learnNewUptoRow : OpenClaim := { program := "ytmbjeppnamhgiaagreat", sum := "366eccee0367cafb00fc620b2913269109050929f3a3750200caa55c9a8cf110", func := "linchpin/linchpinlaw26.LearnNew", spec := "learnNew", unfollowed := true, recurses := true, apart := false, narrowed := true }
def LearnNewUptoSaid : Prop := learnNewUptoRow.holds Tryz.pinned (OpenSpec.upto learnNewSpec)

end Rows
end Go.Proofs.YtmbjeppnamhgiaaGreat
