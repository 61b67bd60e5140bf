/- Contract: linchpinlaw31.awake. -/
import Derived.Test.YtmghlakedaigpaaGreatDoorTrim
namespace Go.Proofs.YtmghlakedaigpaaGreatDoor
open Go Go.RowKit

def wake31 : List Row := [⟨1, 0, 0, 0, [⟨0, 1⟩]⟩, ⟨2, 0, 0, 0, [⟨0, 1⟩]⟩, ⟨1, 0, 0, 0, [⟨0, 1⟩]⟩, ⟨5, 0, 0, 2, []⟩]
theorem wake31_may : MayP wake31 := by decide
theorem wake31_trim : trimF wake31 = [⟨1, 0, 0, 0, [⟨0, 1⟩]⟩, ⟨5, 0, 0, 0, []⟩] := by decide +kernel
theorem wake31_deep : (deeps wake31).getD (wake31.length - 1) 0 = 2 := by decide +kernel
theorem wake31_used : usedL wake31 = [true, false, true, true] := by decide +kernel
def wakeCells31 (n : Nat) : Array Value :=
  #[.int .i64 1, .int .i64 0, .int .i64 0, .int .i64 0, .slice (some ⟨n, 0, none⟩) 1 1, .int .i64 2, .int .i64 0, .int .i64 0, .int .i64 0, .slice (some ⟨n, 0, none⟩) 1 1,
    .int .i64 1, .int .i64 0, .int .i64 0, .int .i64 0, .slice (some ⟨n, 0, none⟩) 1 1, .int .i64 5, .int .i64 0, .int .i64 0, .int .i64 2, .slice none 0 0]
def wakeWorld31 (w : World) : World := (w.alloc (.cells #[.int .i64 0, .int .i64 1] 35)).alloc (.cells (wakeCells31 w.heap.size) 38)
theorem wake31_len : wake31.length = 4 := rfl
theorem wake31_rd (w : World) : SliceRd tRow (wakeWorld31 w) (Lt (wakeWorld31 w).heap.size) (.slice (some ⟨w.heap.size + 1, 0, none⟩) 4 4) wake31 := by
  have hs : (wakeWorld31 w).heap.size = w.heap.size + 2 := by simp [wakeWorld31]
  have h0 : (wakeWorld31 w).heap[w.heap.size]? = some (.cells #[.int .i64 0, .int .i64 1] 35 (0, 0)) := (Below.heap_alloc _ _ _ (by simp)).trans (heap_alloc_new w _)
  have h1 : (wakeWorld31 w).heap[w.heap.size + 1]? = some (.cells (wakeCells31 w.heap.size) 38 (0, 0)) := by
    have := heap_alloc_new (w.alloc (.cells #[.int .i64 0, .int .i64 1] 35)) (.cells (wakeCells31 w.heap.size) 38)
    rw [show (w.alloc (.cells #[.int .i64 0, .int .i64 1] 35)).heap.size = w.heap.size + 1 by simp] at this
    exact this
  generalize wakeWorld31 w = W at hs h0 h1 ⊢
  have ht : SliceRd tTerm W (Lt W.heap.size) (.slice (some ⟨w.heap.size, 0, none⟩) 1 1) [⟨0, 1⟩] := by
    refine ⟨⟨some ⟨w.heap.size, 0, none⟩, 1, rfl, Nat.le_refl _, by unfold maxLen; omega, fun k hk => ?_⟩⟩
    have : k = 0 := by simpa using hk
    subst this
    refine ⟨w.heap.size, 0, [.int .i64 0, .int .i64 1], rfl, by show w.heap.size < W.heap.size; omega, rfl, fun j hj => ?_, rfl, ⟨by decide +revert, by decide +revert⟩, ⟨by decide +revert, by decide +revert⟩⟩
    have hj' : j < 2 := hj
    rw [cell_of_row W w.heap.size _ _ 35 (0, 0) h0]
    match j, hj' with
    | 0, _ => rfl
    | 1, _ => rfl
  refine ⟨⟨some ⟨w.heap.size + 1, 0, none⟩, 4, rfl, Nat.le_refl _, by unfold maxLen; omega, fun k hk => ?_⟩⟩
  have hk' : k < 4 := hk
  match k, hk' with
  | 0, _ => exact ⟨w.heap.size + 1, 0, rowCells wake31[0] (.slice (some ⟨w.heap.size, 0, none⟩) 1 1), rfl, by show w.heap.size + 1 < W.heap.size; omega, rfl, fun j hj => by
      have hj' : j < 5 := hj
      rw [cell_of_row W (w.heap.size + 1) _ _ 38 (0, 0) h1]
      match j, hj' with
      | 0, _ => rfl
      | 1, _ => rfl
      | 2, _ => rfl
      | 3, _ => rfl
      | 4, _ => rfl, _, rfl, ⟨by decide +revert, by decide +revert⟩, ⟨by decide +revert, by decide +revert⟩, ⟨by decide +revert, by decide +revert⟩, ⟨by decide +revert, by decide +revert⟩, ht⟩
  | 1, _ => exact ⟨w.heap.size + 1, 0, rowCells wake31[1] (.slice (some ⟨w.heap.size, 0, none⟩) 1 1), rfl, by show w.heap.size + 1 < W.heap.size; omega, rfl, fun j hj => by
      have hj' : j < 5 := hj
      rw [cell_of_row W (w.heap.size + 1) _ _ 38 (0, 0) h1]
      match j, hj' with
      | 0, _ => rfl
      | 1, _ => rfl
      | 2, _ => rfl
      | 3, _ => rfl
      | 4, _ => rfl, _, rfl, ⟨by decide +revert, by decide +revert⟩, ⟨by decide +revert, by decide +revert⟩, ⟨by decide +revert, by decide +revert⟩, ⟨by decide +revert, by decide +revert⟩, ht⟩
  | 2, _ => exact ⟨w.heap.size + 1, 0, rowCells wake31[2] (.slice (some ⟨w.heap.size, 0, none⟩) 1 1), rfl, by show w.heap.size + 1 < W.heap.size; omega, rfl, fun j hj => by
      have hj' : j < 5 := hj
      rw [cell_of_row W (w.heap.size + 1) _ _ 38 (0, 0) h1]
      match j, hj' with
      | 0, _ => rfl
      | 1, _ => rfl
      | 2, _ => rfl
      | 3, _ => rfl
      | 4, _ => rfl, _, rfl, ⟨by decide +revert, by decide +revert⟩, ⟨by decide +revert, by decide +revert⟩, ⟨by decide +revert, by decide +revert⟩, ⟨by decide +revert, by decide +revert⟩, ht⟩
  | 3, _ => exact ⟨w.heap.size + 1, 0, rowCells wake31[3] (.slice none 0 0), rfl, by show w.heap.size + 1 < W.heap.size; omega, rfl, fun j hj => by
      have hj' : j < 5 := hj
      rw [cell_of_row W (w.heap.size + 1) _ _ 38 (0, 0) h1]
      match j, hj' with
      | 0, _ => rfl
      | 1, _ => rfl
      | 2, _ => rfl
      | 3, _ => rfl
      | 4, _ => rfl, _, rfl, ⟨by decide +revert, by decide +revert⟩, ⟨by decide +revert, by decide +revert⟩, ⟨by decide +revert, by decide +revert⟩, ⟨by decide +revert, by decide +revert⟩, SliceRd.nil _ _ _⟩

set_option maxRecDepth 100000 in
set_option maxHeartbeats 1000000 in
theorem awake31_any (w : World) (htab : Lib.TabBelow Tryz.prog w.heap.size w "internal/strconv.uint64pow10" .u64 Lib.pow10Tab) :
    Calls Tryz.prog 4 #[] w fun e w' => e = .returned (.bool true) ∧ Below w.heap.size w w' := by
  have HTAB := hid htab
  clear htab
  have HRD := hid (wake31_rd w)
  have HBW : Hid (Below w.heap.size w (wakeWorld31 w)) := hid (((Below.refl _ _).alloc (Nat.le_refl _) _).alloc (by simp) _)
  go_enter Tryz.func4, Tryz.ntmps4
  go_wp2_with fail
  refine (trim_any _ wake31 (wakeWorld31 w) HRD.out wake31_may (fun w' h' => HTAB.out w' (HBW.out.trans (h'.mono HBW.out.size)))).mono ?_
  rintro e w1 ⟨v1, tvs, rfl, hcop, hb1⟩
  rw [wake31_trim] at hcop
  have hrd := hcop.rd (F := Lt w1.heap.size) (fun g _ h => h)
  obtain ⟨A1, c1, rfl, hc1, hm1, hcs⟩ := hrd.rows
  obtain ⟨g, o, tv, hA, hF, g0, g1, g2, g3, g4, -, -⟩ := hcs 1 (by decide)
  cases hA
  have HR1 := hid (HRD.out.lift hb1 hb1.size)
  have HB1 := hid (HBW.out.trans (hb1.mono HBW.out.size))
  clear hcop hrd hcs hb1
  simp only [Nat.one_mul, List.getElem_cons_succ, List.getElem_cons_zero] at g0 g1 g2 g3 g4
  have hg : g < w1.heap.size := hF
  clear hF
  have tok := hid True.intro
  go_wp2_with (first
    | (go_at_call 10
       refine (deep_any _ wake31 _ HR1.out wake31_may).mono ?_
       rw [wake31_deep]
       rintro e w2 ⟨rfl, hb2⟩
       have HR2 := hid (HR1.out.lift hb2 hb2.size)
       have HB2 := hid (HB1.out.trans (hb2.mono HB1.out.size))
       clear hb2)
    | (go_at_call 11
       clear tok
       refine (used_any _ wake31 _ HR2.out wake31_may).mono ?_
       rintro e w3 ⟨b3, rfl, har3, -, hb3⟩
       rw [wake31_len]
       have HR3 := hid (HR2.out.lift hb3 hb3.size)
       have HB3 := hid (HB2.out.trans (hb3.mono HB2.out.size))
       clear har3 hb3)
    | (go_at_call 11
       refine (used_any _ wake31 _ HR3.out wake31_may).mono ?_
       rintro e w4 ⟨b4, rfl, har4, -, hb4⟩
       rw [wake31_len]
       rw [wake31_used] at har4
       have hc4 : w4.cell? ⟨b4, 1, none⟩ = some (.bool false) := har4.cell (i := 1) (by decide)
       have hl4 := har4.lt
       have HB4 := hid (HB3.out.trans (hb4.mono HB3.out.size))
       clear har4 hb4))
  go_ret
  exact ⟨rfl, HB4.out⟩
end Go.Proofs.YtmghlakedaigpaaGreatDoor
