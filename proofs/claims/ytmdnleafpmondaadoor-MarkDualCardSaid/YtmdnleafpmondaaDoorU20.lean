/- Contracts: linchpinref10.May, linchpinref10.Parse. -/
import Derived.Test.YtmdnleafpmondaaDoorU8
import Derived.Test.YtmdnleafpmondaaDoorU4e
import Derived.Test.YtmdnleafpmondaaDoorzQ
import Derived.Test.YtmdnleafpmondaaDoorU19
import Derived.Test.YtmdnleafpmondaaDoorzP
namespace Go.Proofs.YtmdnleafpmondaaDoor
open Go Go.RowKit

set_option maxRecDepth 100000 in
set_option maxHeartbeats 2000000 in
theorem rmay_any (v : Value) (l : List Node) (w : World) (h : SliceRd tNode w (Lt w.heap.size) v l) :
    Calls Tryd.prog 30 #[.agg #[v]] w fun x w' => x = .returned (.bool (mayB l)) ∧ Below w.heap.size w w' := by
  have H := hid h
  obtain ⟨A, cap, rfl, -⟩ := h.shape
  clear h
  have hbx : w.heap.size < (w.alloc (.cells #[.slice A l.length cap] 25)).heap.size := by simp
  have HB := hid (balloc (b0 w) (.cells #[.slice A l.length cap] 25))
  have HR := hid (H.out.lift HB.out HB.out.size)
  by_cases h15 : (l.length : Int) ≤ 15
  · have h15' : l.length ≤ 15 := by omega
    rcases Bool.eq_false_or_eq_true (treeB l) with ht | ht
    · have HM : Hid (mayB l = decide ((wholeL l).length ≤ 96)) := hid (by unfold mayB; rw [ht, decide_eq_true h15']; rfl)
      have HT := hid ht
      have HW := hid (fun (w2 : World) (hb : Below (w.alloc (.cells #[.slice A l.length cap] 25)).heap.size (w.alloc (.cells #[.slice A l.length cap] 25)) w2) => rwhole_any _ l w2 (HR.out.lift hb hb.size) h15' ht)
      have hz := strV_size (wholeL l)
      clear ht
      go_enter Tryd.func30, Tryd.ntmps30
      go_wp2_with (first
        | (go_at_call 49; refine (rtree_any _ l _ HR.out h15').mono ?_; rintro x w2 ⟨rfl, hb2⟩; rw [HT.out]
           have c0 : w2.cell? ⟨w.heap.size, 0, none⟩ = some (.slice A l.length cap) := cell_below hb2 hbx (World.cell?_alloc_new ..))
        | (go_at_call 50; refine (HW.out _ hb2).mono ?_; rintro x w3 ⟨rfl, hb3⟩; unfold strV))
      go_ret
      refine ⟨rbool ?_, HB.out.trans ((bstep hb2 hb3).mono HB.out.size)⟩
      rw [HM.out]
      simp
      omega
    · have HM : Hid (mayB l = false) := hid (by unfold mayB; rw [ht]; simp)
      have HT := hid ht
      clear ht
      go_enter Tryd.func30, Tryd.ntmps30
      go_wp2_with (first
        | (go_at_call 49; refine (rtree_any _ l _ HR.out h15').mono ?_; rintro x w2 ⟨rfl, hb2⟩; rw [HT.out]))
      go_ret
      exact ⟨rbool HM.out.symm, HB.out.trans (hb2.mono HB.out.size)⟩
  · have HM : Hid (mayB l = false) := hid (by unfold mayB; rw [decide_eq_false (by omega)]; rfl)
    go_enter Tryd.func30, Tryd.ntmps30
    go_wp2
    go_ret
    exact ⟨rbool HM.out.symm, HB.out⟩
end Go.Proofs.YtmdnleafpmondaaDoor
