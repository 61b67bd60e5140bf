/- A region that draws its order, reads, and calls what makes memory: one way through, in the order of the text. No program stands here. -/
import Derived.Test.YtmghlakedaigpaaDoorFlat
import Derived.Deep.Quiet
namespace Go.Proofs.YtmghlakedaigpaaDoor
open Go Go.RowKit

/-- The worlds that come of w by making memory. -/
def Later (w : World) : Type := { w' : World // Below w.heap.size w w' }
instance {w : World} : Nonempty (Later w) := ⟨⟨w, b0 w⟩⟩
def Later.w {w : World} (e : Later w) : World := e.1
theorem Later.below {w : World} (e : Later w) : Below w.heap.size w e.w := e.2
theorem wp_region_later {P : Program} {id : Nat} {Q : Exit → Act → World → Prop} {a : Act} {w : World} {l : List Oper} (hm : P.follows .mixedOrders = true) (hB : Region.lexB .any l.toArray = true)
    (h : wpQuiet P l.toArray (fun w' => ∃ e : Later w, w' = e.w) (fun a' => ∀ w', (∃ e : Later w, w' = e.w) → Q .normal a' w') l a) : (Code.region id l.toArray true).wp P Q a w :=
  wp_region_quiet (C := fun w' => ∃ e : Later w, w' = e.w) hm hB ⟨⟨_, (b0 w).drew⟩, rfl⟩ (by simpa using h)
theorem Calls.later {P : Program} {f : FuncId} {args : Array Value} {w : World} {e : Later w} {u v : Value}
    (h : Calls P f args e.w fun x w' => x = .returned u ∧ Below e.w.heap.size e.w w') (hu : u = v) : Calls P f args e.w fun x w'' => x = .returned v ∧ ∃ e2 : Later w, w'' = e2.w :=
  h.mono fun _ w' ⟨he, hb⟩ => ⟨by rw [he, hu], ⟨w', bstep e.2 hb⟩, rfl⟩
theorem Calls.later_same {P : Program} {f : FuncId} {args : Array Value} {w : World} {e : Later w} {u v : Value}
    (h : Calls P f args e.w fun x w' => x = .returned u ∧ w' = e.w) (hu : u = v) : Calls P f args e.w fun x w'' => x = .returned v ∧ ∃ e2 : Later w, w'' = e2.w :=
  h.mono fun _ w' ⟨he, hb⟩ => ⟨by rw [he, hu], e, hb⟩
theorem later_cell {w : World} {g o : Nat} {v : Value} (hg : g < w.heap.size) (h : w.cell? ⟨g, o, none⟩ = some v) : ∀ e : Later w, e.w.cell? ⟨g, o, none⟩ = some v := fun e => cell_below e.2 hg h
end Go.Proofs.YtmghlakedaigpaaDoor
