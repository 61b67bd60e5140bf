/- Contract: proof.Print where the rows may not be. -/
import Derived.Test.YtlinabifalfddaaDoorW15
namespace Go.Proofs.YtlinabifalfddaaDoor
open Go Go.RowKit

theorem print_bad (v : Value) (l : List Row) (w : World) (h : SliceRd tRow w (Lt w.heap.size) v l) (hm : ¬ MayP l) :
    Calls Tryd.prog 15 #[v] w fun e w' => e = .returned (.tuple #[.string ⟨#[]⟩, .int .i64 33]) ∧ Below w.heap.size w w' := by
  have HH := hid h
  have HM := hid hm
  obtain ⟨A, cap, rfl, hcap, hmax, hc⟩ := h.rows
  clear h hc hm
  go_enter Tryd.func15, Tryd.ntmps15
  go_wp2_with fail
  refine (may_any _ l _ HH.out).mono ?_
  rintro e w1 ⟨rfl, hb1⟩
  rw [decide_eq_false HM.out]
  go_wp2_with fail
  go_ret2
  exact ⟨rfl, hb1⟩
theorem not_may_nil : ¬ MayP [] := by decide
/-- The rows that the law's own test prints. -/
def wakeRows : List Row := [⟨1, 0, 0, 0, [⟨0, 1⟩]⟩, ⟨2, 0, 0, 0, [⟨0, 2⟩]⟩, ⟨5, 0, 0, 1, []⟩]
theorem wake_may : MayP wakeRows := by decide
theorem wake_print : printF wakeRows = [114, 111, 111, 116, 32, 48, 32, 48, 58, 49, 10, 110, 101, 101, 100, 32, 48, 32, 48, 58, 50, 10, 98, 111, 116, 104, 32, 48, 32, 48, 32, 49, 10] := by decide +kernel
end Go.Proofs.YtlinabifalfddaaDoor
