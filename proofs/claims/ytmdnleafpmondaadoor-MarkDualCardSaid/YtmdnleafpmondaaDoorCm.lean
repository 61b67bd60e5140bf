/- What all the cards of this seat share. -/
import Derived.Test.YtmdnleafpmondaaDoorRows
import Derived.Test.YtmdnleafpmondaaDoorShelf
import Derived.Test.YtmdnleafpmondaaDoorU19
import Derived.Test.YtmdnleafpmondaaDoorOpen
import Derived.Lib.LaidCaseMet
import Derived.Lib.LaidU8
import Derived.Lib.LaidIn
import Derived.ProofKit
namespace Go.Proofs.YtmdnleafpmondaaDoor
open Go Go.ChangeShapes Go.WideShapes Go.ChangeAt Go.RowKit Go.Deep

theorem prog_own : ownKnob Tryd.prog.godebug = none := by kernel_rfl
theorem prog_laidOut : laidOutB Tryd.prog = true := by kernel_rfl
theorem gfirst : Tryd.prog.globalNamed "unicode/utf8.first" = some 1 := by kernel_rfl
theorem gacc : Tryd.prog.globalNamed "unicode/utf8.acceptRanges" = some 2 := by kernel_rfl
theorem opens_ints {H : Type} {enc : TypeId × Value → H} {w : World} {spare : Nat → Bool} {held : Bool} : Opens enc Tryd.prog w spare held 31 (tSlice tInt) :=
  opens_slice Tryd.underlying31 (by kernel_rfl) (by decide) (opens_int Tryd.underlying3)
def tabCells : DataW Unit → Array Value
  | .agg l => (l.map fun | .lit (.int k n) => Value.int k n | _ => .bool false).toArray
  | _ => #[]
def tabCells2 : DataW Unit → Array Value
  | .agg l => (l.flatMap fun | .lit (.int k n) => [Value.int k n] | .agg l2 => l2.map (fun | .lit (.int k n) => Value.int k n | _ => .bool false) | _ => [.bool false]).toArray
  | _ => #[]
/-- A start whose two tables hold what the text lays. -/
noncomputable def laidW (os : Os) : World :=
  let w0 := World.holding Tryd.prog os ⟨#[], #[], []⟩
  let put (h : Array Obj) (g : Nat) (cs : Array Value) : Array Obj := h.modify g fun
    | .cells _ t frozen => .cells cs t frozen
    | o => o
  { w0 with heap := put (put w0.heap 1 (tabCells Rows.laid_unicode_utf8_first)) 2 (tabCells2 Rows.laid_unicode_utf8_acceptRanges) }
theorem max_ok {W : World} (hsh : W.ShapedOpen Tryd.prog) : MaxOk W := by
  obtain ⟨m, hm⟩ := Tryd.laysM143.s1_3 W hsh
  replace hm : W.cell? ⟨0, 0, none⟩ = some (.int .i64 m) := hm
  refine ⟨?_, m, hm⟩
  rcases Nat.eq_zero_or_pos W.heap.size with h | h
  · have : W.heap[0]? = none := Array.getElem?_eq_none (by omega)
    simp [World.cell?, this] at hm
  · exact h
end Go.Proofs.YtmdnleafpmondaaDoor
