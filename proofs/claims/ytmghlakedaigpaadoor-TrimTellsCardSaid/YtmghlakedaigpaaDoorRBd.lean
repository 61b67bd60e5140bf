/- Contracts of the reference at rows that may not be: Trim, Asked. -/
import Derived.Test.YtmghlakedaigpaaDoorRUs
import Derived.Test.YtmghlakedaigpaaDoorArr
namespace Go.Proofs.YtmghlakedaigpaaDoor
open Go Go.RowKit

set_option maxRecDepth 100000 in
set_option maxHeartbeats 1000000 in
theorem rtrim_bad (v : Value) (l : List Row) (w : World) (h : SliceRd tRow w (Lt w.heap.size) v l) (hm : ¬ MayP l) (hl : l.length ≤ 1000000) :
    Calls Tryd.prog 13 #[v] w fun e w' => e = .returned (.slice none 0 0) ∧ Below w.heap.size w w' := by
  have HB := hid (rused_bad v l w h hm)
  obtain ⟨A, cap, rfl, hcap, hmax, hc⟩ := h.rows
  clear h hc hm
  obtain ⟨n, hn⟩ : ∃ n, n = l.length := ⟨_, rfl⟩
  rw [← hn] at hcap hl HB
  rw [← hn]
  clear hn
  obtain ⟨ii, hii⟩ := info_parts int_info
  have hmk := run_make_arr (P := Tryd.prog) Tryd.underlying22 hii.1 hii.2.1 hii.2.2.1 hii.2.2.2 rfl n (by omega) (by omega)
  clear hii
  go_enter Tryd.func13, Tryd.ntmps13
  go_wp2_with (first
    | (go_at_call 10; refine HB.out.mono ?_; rintro e w1 ⟨rfl, hb1⟩; have HB1 := hid hb1; clear hb1))
  clear hmk
  have HB2 := hid (HB1.out.alloc HB1.out.size (.cells (zeros n (.int .i64 0)) 3))
  generalize w1.alloc (.cells (zeros n (.int .i64 0)) 3) = wm at HB2 ⊢
  go_loopw [5, 6] (fun ov iv wr => ov = .slice none 0 0 ∧ iv = .int .i64 0 ∧ wr = wm) (fun _ _ _ => 0)
  case atStart => exact ⟨rfl, rfl, rfl⟩
  case round =>
    obtain ⟨rfl, rfl, rfl⟩ := hrel
    go_wp2
    go_ret
    exact ⟨rfl, HB2.out⟩
set_option maxRecDepth 100000 in
set_option maxHeartbeats 1000000 in
theorem rasked_bad (v : Value) (l : List Row) (w : World) (h : SliceRd tRow w (Lt w.heap.size) v l) (hm : ¬ MayP l) :
    Calls Tryd.prog 16 #[v] w fun e w' => e = .returned (.slice none 0 0) ∧ Below w.heap.size w w' := by
  have HB := hid (rused_bad v l w h hm)
  obtain ⟨A, cap, rfl, hcap, hmax, hc⟩ := h.rows
  clear h hc hm
  go_enter Tryd.func16, Tryd.ntmps16
  go_wp2_with (first
    | (go_at_call 10; refine HB.out.mono ?_; rintro e w1 ⟨rfl, hb1⟩; have HB1 := hid hb1; clear hb1))
  go_loopw [4, 5] (fun ov iv wr => ov = .slice none 0 0 ∧ iv = .int .i64 0 ∧ wr = w1) (fun _ _ _ => 0)
  case atStart => exact ⟨rfl, rfl, rfl⟩
  case round =>
    obtain ⟨rfl, rfl, rfl⟩ := hrel
    go_wp2
    go_ret
    exact ⟨rfl, HB1.out⟩
end Go.Proofs.YtmghlakedaigpaaDoor
