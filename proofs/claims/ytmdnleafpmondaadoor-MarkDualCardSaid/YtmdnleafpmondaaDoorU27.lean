/- MarkReads: the walk of the law. -/
import Derived.Test.YtmdnleafpmondaaDoorzE
import Derived.Test.YtmdnleafpmondaaDoorU21
namespace Go.Proofs.YtmdnleafpmondaaDoor
open Go Go.RowKit

theorem same_self (v v' : Value) (l : List Node) (w : World) (h : SliceRd tNode w (Lt w.heap.size) v l) (h' : SliceRd tNode w (Lt w.heap.size) v' l) :
    Calls Tryd.prog 13 #[.agg #[v], .agg #[v']] w fun x w' => x = .returned (.bool true) ∧ Below w.heap.size w w' :=
  (same_any v v' l l w h h').mono fun _ _ ⟨h1, h2⟩ => ⟨by rw [h1]; simp, h2⟩

set_option maxRecDepth 100000 in
set_option maxHeartbeats 4000000 in
theorem markReads_any (s : ByteArray) (w : World) (hm : MaxOk w) : Calls Tryd.prog 3 #[.string s] w fun e w' => e = .returned (.bool true) ∧ Below w.heap.size w w' := by
  have HM := hid hm
  clear hm
  by_cases h300 : (300 : Int) < s.size
  · go_enter Tryd.func3, Tryd.ntmps3
    go_wp2_with (first | (go_at_call 10; refine (awake_any _ HM.out).mono ?_; rintro e w1 ⟨rfl, hb1⟩))
    go_ret
    exact ⟨rfl, hb1⟩
  · have HP := hid (fun (w : World) (hm : MaxOk w) => show Calls Tryd.prog 11 #[.string s] w fun e w' => ∃ A c, e = .returned (.tuple #[.agg #[.slice A (parseF s).1.length c], .int .i64 (parseF s).2]) ∧ SliceRd tNode w' (Lt w'.heap.size) (.slice A (parseF s).1.length c) (parseF s).1 ∧ Below w.heap.size w w' from given s rfl w hm)
    have HR := hid (fun (w : World) => show Calls Tryd.prog 12 #[.string s] w fun e w' => ∃ A c, e = .returned (.tuple #[.agg #[.slice A (parseF s).1.length c], .int .i64 (parseF s).2]) ∧ SliceRd tNode w' (Lt w'.heap.size) (.slice A (parseF s).1.length c) (parseF s).1 ∧ Below w.heap.size w w' by
      refine (rparse_any s w).mono ?_
      rintro e w' ⟨v, h1, h2, h3⟩
      obtain ⟨A, c, rfl, _⟩ := h2.shape
      exact ⟨A, c, h1, h2, h3⟩)
    generalize (parseF s).1 = N at *
    generalize (parseF s).2 = k at *
    obtain ⟨n, hn⟩ : ∃ n, n = N.length := ⟨_, rfl⟩
    rw [← hn] at HP HR
    replace hn := hid hn
    go_enter Tryd.func3, Tryd.ntmps3
    go_wp2_with (first
      | (go_at_call 11; refine (HP.out w HM.out).mono ?_; rintro e w1 ⟨A1, c1, rfl, r1, hb1⟩; have R1 := hid r1; have HM1 := hid (HM.out.later hb1); have B1 := hid hb1; clear r1 hb1)
      | (go_at_call 12; refine (HR.out _).mono ?_; rintro e w2 ⟨A2, c2, rfl, r2, hb2⟩
         have R2 := hid r2; have HM2 := hid ((HM1.out.later (balloc (b0 w1) _)).later hb2); have B2 := hid (bstep (balloc (b0 w1) (.cells #[.slice A1 n c1] 25)) hb2)
         have m1 : w2.cell? ⟨w1.heap.size, 0, none⟩ = some (.slice A1 n c1) := cell_below hb2 (by simp) (World.cell?_alloc_new ..)
         have z2 : w1.heap.size < w2.heap.size := Nat.lt_of_lt_of_le (by simp) hb2.size
         clear r2 hb2)
      | (go_at_call 10; refine (awake_any _ (HM2.out.later (balloc (b0 w2) _))).mono ?_; rintro e w3 ⟨rfl, hb3⟩
         have B3 := hid (bstep (balloc (b0 w2) (.cells #[.slice A2 n c2] 25)) hb3)
         have m2 : w3.cell? ⟨w1.heap.size, 0, none⟩ = some (.slice A1 n c1) := cell_below B3.out z2 m1
         have m3 : w3.cell? ⟨w2.heap.size, 0, none⟩ = some (.slice A2 n c2) := cell_below hb3 (by simp) (World.cell?_alloc_new ..)
         clear hb3)
      | (go_at_call 13; refine (same_self _ _ N _ (R1.out.lift (bstep B2.out B3.out) (bstep B2.out B3.out).size) (R2.out.lift B3.out B3.out.size)).mono ?_; rintro e w4 ⟨rfl, hb4⟩))
    go_ret
    exact ⟨rfl, bstep (bstep (bstep B1.out B2.out) B3.out) hb4⟩
end Go.Proofs.YtmdnleafpmondaaDoor
