/- linchpinref10.text of and, of or. -/
import Derived.Test.YtmdnleafpmondaaDoorU4
namespace Go.Proofs.YtmdnleafpmondaaDoor
open Go Go.RowKit

set_option maxRecDepth 100000 in
set_option maxHeartbeats 2000000 in
theorem rtext_and (a b : Frm) (Ta : TextAt 64 a) (Tb : TextAt 64 b) : TextAt 64 (.two false a b) := by
  intro G l v w j h ht hg h15
  have hj : j < l.length := by rw [ht.len]; exact get_lt hg
  obtain ⟨g, o, cap, rfl, hcap, hmax, hF, hc⟩ := open_nodes h ht (by omega)
  obtain ⟨h1, hgb, hga⟩ := ht.two j _ _ _ hg
  obtain ⟨-, g0, g1, g2, g3, g4⟩ := hc j _ hg
  obtain ⟨ja, hja0⟩ : ∃ ja, ja = j - 1 - b.size := ⟨_, rfl⟩
  obtain ⟨jb, hjb0⟩ : ∃ jb, jb = j - 1 := ⟨_, rfl⟩
  rw [← hja0] at hga
  rw [← hjb0] at hgb
  obtain ⟨hja, a0, -⟩ := hc ja _ hga
  obtain ⟨hjb, d0, -⟩ := hc jb _ hgb
  rw [show nA (Frm.two false a b) j = (ja : Int) by simp only [nA]; omega] at g1
  rw [show nB (Frm.two false a b) j = (jb : Int) by simp only [nB]; omega] at g2
  simp only [opI, nK, nT] at g0 g3 g4
  have ca := opI_one a
  have cb := opI_one b
  have ct := opI_two b
  have la := subs_len ht h15 hga
  have lb := subs_len ht h15 hgb
  obtain ⟨X, hX⟩ : ∃ X, X = heldL (isOne a) (textL a) := ⟨_, rfl⟩
  obtain ⟨Y, hY⟩ : ∃ Y, Y = heldL (isTwo b) (textL b) := ⟨_, rfl⟩
  have lX := (heldL_len (isOne a) (textL a)).1
  have lY := (heldL_len (isTwo b) (textL b)).1
  rw [← hX] at lX
  rw [← hY] at lY
  have zx := strV_size X
  have zy := strV_size Y
  have z1 : ¬ 9223372036854775807 < X.length + 5 := by omega
  have z2 : ¬ 9223372036854775807 < X.length + 5 + Y.length := by omega
  have HA := hid (fun (e : World) (he : Below w.heap.size w e) => Ta G l _ e ja (h.lift he he.size) ht hga h15)
  have HB := hid (fun (e : World) (he : Below w.heap.size w e) => Tb G l _ e jb (h.lift he he.size) ht hgb h15)
  have WA := hid (fun (e : World) => wrap_any (textL a) (isOne a) e (by omega))
  have WB := hid (fun (e : World) => wrap_any (textL b) (isTwo b) e (by omega))
  obtain ⟨U, hU⟩ : ∃ U, U = textL a := ⟨_, rfl⟩
  obtain ⟨V, hV⟩ : ∃ V, V = textL b := ⟨_, rfl⟩
  rw [← hX] at WA
  rw [← hY] at WB
  rw [← hU] at HA WA
  rw [← hV] at HB WB
  have zu := strV_size U
  have zv := strV_size V
  unfold maxLen at hmax
  generalize opI a = p at *
  generalize opI b = q at *
  have n1 : (0 : Int) ≤ ja := by omega
  have n2 : (ja : Int) < l.length := by omega
  have n3 : (0 : Int) ≤ jb := by omega
  have n4 : (jb : Int) < l.length := by omega
  have n5 : (0 : Int) ≤ ↑j := by omega
  have n6 : (↑j : Int) < l.length := by omega
  clear hja0 hjb0
  have HXX := hid hX
  have HYY := hid hY
  clear h hc ht hg hga hgb hX hY Ta Tb
  clear hU hV
  rcases Bool.eq_false_or_eq_true (q == 4) with c4 | c4
  all_goals clear cb
  all_goals rw [c4] at ct
  · simp only [Bool.true_or] at ct
    go_enter Tryd.func64, Tryd.ntmps64
    go_wp2_with fail
    obtain ⟨w0, hw0⟩ : ∃ w0, w0 = w.alloc (.cells #[.int .i64 3, .int .i64 ↑ja, .int .i64 ↑jb, .int .i64 0, .string ByteArray.empty] 49) := ⟨_, rfl⟩
    have hl0 : w.heap.size < w0.heap.size := by rw [hw0]; simp
    have hb0 : Below w.heap.size w w0 := by rw [hw0]; exact balloc (b0 w) _
    have x1 := later_cell hl0 (show w0.cell? ⟨w.heap.size, 1, none⟩ = some (.int .i64 ja) by rw [hw0]; exact World.cell?_alloc_new ..)
    have x2 := later_cell hl0 (show w0.cell? ⟨w.heap.size, 2, none⟩ = some (.int .i64 jb) by rw [hw0]; exact World.cell?_alloc_new ..)
    have y0 := later_cell (Nat.lt_trans hF hl0) (cell_below hb0 hF a0)
    have y1 := later_cell (Nat.lt_trans hF hl0) (cell_below hb0 hF d0)
    rw [← hw0]
    clear hw0
    (refine wp_region_later (by kernel_rfl) (by kernel_rfl) ?_; (repeat (go_big_quiet_step ((fail)))); refine wpQuiet_nil ?_; rintro w1 ⟨e1, he1⟩)
    have hb1 : Below w0.heap.size w0 w1 := he1 ▸ e1.below
    clear he1 e1
    replace x1 : ∀ e : Later w1, e.w.cell? ⟨w.heap.size, 1, none⟩ = some (.int .i64 ja) := fun e => x1 ⟨e.w, bstep hb1 e.below⟩
    replace x2 : ∀ e : Later w1, e.w.cell? ⟨w.heap.size, 2, none⟩ = some (.int .i64 jb) := fun e => x2 ⟨e.w, bstep hb1 e.below⟩
    clear y0 y1
    replace hb0 : Below w.heap.size w w1 := hb0.trans (hb1.mono hb0.size)
    clear hb1 hl0
    have CA := hid (fun (e : Later w1) => Calls.later (HA.out e.w (hb0.trans (e.below.mono hb0.size))) rfl)
    have CB := hid (fun (e : Later w1) => Calls.later (HB.out e.w (hb0.trans (e.below.mono hb0.size))) rfl)
    have DA := hid (fun (e : Later w1) => Calls.later (WA.out e.w) rfl)
    have DB := hid (fun (e : Later w1) => Calls.later (WB.out e.w) rfl)
    unfold strV at CA CB DA DB
    rw [ct] at DB
    go_wp2
    (refine wp_region_later (by kernel_rfl) (by kernel_rfl) ?_; (repeat (go_big_quiet_step ((first | (go_at_call_of 64 (ja : Int); exact CA.out _) | (go_at_call_of 64 (jb : Int); exact CB.out _) | (go_at_call_of 75 (⟨U.toArray⟩ : ByteArray); exact DA.out _) | (go_at_call_of 75 (⟨V.toArray⟩ : ByteArray); exact DB.out _))))); refine wpQuiet_nil ?_; rintro w2 ⟨e2, he2⟩)
    have hb1 : Below w1.heap.size w1 w2 := he2 ▸ e2.below
    go_wp2
    go_ret
    exact ⟨rstrx (by simp [textL, HXX.out, HYY.out]), hb0.trans (hb1.mono hb0.size)⟩
  · simp only [Bool.false_or] at ct
    go_enter Tryd.func64, Tryd.ntmps64
    go_wp2_with fail
    obtain ⟨w0, hw0⟩ : ∃ w0, w0 = w.alloc (.cells #[.int .i64 3, .int .i64 ↑ja, .int .i64 ↑jb, .int .i64 0, .string ByteArray.empty] 49) := ⟨_, rfl⟩
    have hl0 : w.heap.size < w0.heap.size := by rw [hw0]; simp
    have hb0 : Below w.heap.size w w0 := by rw [hw0]; exact balloc (b0 w) _
    have x1 := later_cell hl0 (show w0.cell? ⟨w.heap.size, 1, none⟩ = some (.int .i64 ja) by rw [hw0]; exact World.cell?_alloc_new ..)
    have x2 := later_cell hl0 (show w0.cell? ⟨w.heap.size, 2, none⟩ = some (.int .i64 jb) by rw [hw0]; exact World.cell?_alloc_new ..)
    have y0 := later_cell (Nat.lt_trans hF hl0) (cell_below hb0 hF a0)
    have y1 := later_cell (Nat.lt_trans hF hl0) (cell_below hb0 hF d0)
    rw [← hw0]
    clear hw0
    (refine wp_region_later (by kernel_rfl) (by kernel_rfl) ?_; (repeat (go_big_quiet_step ((fail)))); refine wpQuiet_nil ?_; rintro w1 ⟨e1, he1⟩)
    have hb1 : Below w0.heap.size w0 w1 := he1 ▸ e1.below
    clear he1 e1
    replace x1 : ∀ e : Later w1, e.w.cell? ⟨w.heap.size, 1, none⟩ = some (.int .i64 ja) := fun e => x1 ⟨e.w, bstep hb1 e.below⟩
    replace x2 : ∀ e : Later w1, e.w.cell? ⟨w.heap.size, 2, none⟩ = some (.int .i64 jb) := fun e => x2 ⟨e.w, bstep hb1 e.below⟩
    clear y0 y1
    replace hb0 : Below w.heap.size w w1 := hb0.trans (hb1.mono hb0.size)
    clear hb1 hl0
    have CA := hid (fun (e : Later w1) => Calls.later (HA.out e.w (hb0.trans (e.below.mono hb0.size))) rfl)
    have CB := hid (fun (e : Later w1) => Calls.later (HB.out e.w (hb0.trans (e.below.mono hb0.size))) rfl)
    have DA := hid (fun (e : Later w1) => Calls.later (WA.out e.w) rfl)
    have DB := hid (fun (e : Later w1) => Calls.later (WB.out e.w) rfl)
    unfold strV at CA CB DA DB
    rw [ct] at DB
    go_wp2
    (refine wp_region_later (by kernel_rfl) (by kernel_rfl) ?_; (repeat (go_big_quiet_step ((first | (go_at_call_of 64 (ja : Int); exact CA.out _) | (go_at_call_of 64 (jb : Int); exact CB.out _) | (go_at_call_of 75 (⟨U.toArray⟩ : ByteArray); exact DA.out _) | (go_at_call_of 75 (⟨V.toArray⟩ : ByteArray); exact DB.out _))))); refine wpQuiet_nil ?_; rintro w2 ⟨e2, he2⟩)
    have hb1 : Below w1.heap.size w1 w2 := he2 ▸ e2.below
    go_wp2
    go_ret
    exact ⟨rstrx (by simp [textL, HXX.out, HYY.out]), hb0.trans (hb1.mono hb0.size)⟩

set_option maxRecDepth 100000 in
set_option maxHeartbeats 2000000 in
theorem rtext_or (a b : Frm) (Ta : TextAt 64 a) (Tb : TextAt 64 b) : TextAt 64 (.two true a b) := by
  intro G l v w j h ht hg h15
  have hj : j < l.length := by rw [ht.len]; exact get_lt hg
  obtain ⟨g, o, cap, rfl, hcap, hmax, hF, hc⟩ := open_nodes h ht (by omega)
  obtain ⟨h1, hgb, hga⟩ := ht.two j _ _ _ hg
  obtain ⟨-, g0, g1, g2, g3, g4⟩ := hc j _ hg
  obtain ⟨ja, hja0⟩ : ∃ ja, ja = j - 1 - b.size := ⟨_, rfl⟩
  obtain ⟨jb, hjb0⟩ : ∃ jb, jb = j - 1 := ⟨_, rfl⟩
  rw [← hja0] at hga
  rw [← hjb0] at hgb
  obtain ⟨hja, a0, -⟩ := hc ja _ hga
  obtain ⟨hjb, d0, -⟩ := hc jb _ hgb
  rw [show nA (Frm.two true a b) j = (ja : Int) by simp only [nA]; omega] at g1
  rw [show nB (Frm.two true a b) j = (jb : Int) by simp only [nB]; omega] at g2
  simp only [opI, nK, nT] at g0 g3 g4
  have ca := opI_one a
  have cb := opI_one b
  have ct := opI_two b
  have la := subs_len ht h15 hga
  have lb := subs_len ht h15 hgb
  obtain ⟨X, hX⟩ : ∃ X, X = textL a := ⟨_, rfl⟩
  obtain ⟨Y, hY⟩ : ∃ Y, Y = heldL (isOne b) (textL b) := ⟨_, rfl⟩
  have lY := (heldL_len (isOne b) (textL b)).1
  rw [← hX] at la
  rw [← hY] at lY
  have zx := strV_size X
  have zy := strV_size Y
  have z1 : ¬ 9223372036854775807 < X.length + 4 := by omega
  have z2 : ¬ 9223372036854775807 < X.length + 4 + Y.length := by omega
  have HA := hid (fun (e : World) (he : Below w.heap.size w e) => Ta G l _ e ja (h.lift he he.size) ht hga h15)
  have HB := hid (fun (e : World) (he : Below w.heap.size w e) => Tb G l _ e jb (h.lift he he.size) ht hgb h15)
  have WB := hid (fun (e : World) => wrap_any (textL b) (isOne b) e (by omega))
  obtain ⟨V, hV⟩ : ∃ V, V = textL b := ⟨_, rfl⟩
  rw [← hY] at WB
  rw [← hV] at HB WB
  have zv := strV_size V
  unfold maxLen at hmax
  generalize opI a = p at *
  generalize opI b = q at *
  have n1 : (0 : Int) ≤ ja := by omega
  have n2 : (ja : Int) < l.length := by omega
  have n3 : (0 : Int) ≤ jb := by omega
  have n4 : (jb : Int) < l.length := by omega
  have n5 : (0 : Int) ≤ ↑j := by omega
  have n6 : (↑j : Int) < l.length := by omega
  clear hja0 hjb0
  have HXX := hid hX
  have HYY := hid hY
  clear h hc ht hg hga hgb hX hY Ta Tb ca ct hV
  have HC := hid cb
  clear cb
  rw [← HXX.out] at HA
  go_enter Tryd.func64, Tryd.ntmps64
  go_wp2_with fail
  obtain ⟨w0, hw0⟩ : ∃ w0, w0 = w.alloc (.cells #[.int .i64 4, .int .i64 ↑ja, .int .i64 ↑jb, .int .i64 0, .string ByteArray.empty] 49) := ⟨_, rfl⟩
  have hl0 : w.heap.size < w0.heap.size := by rw [hw0]; simp
  have hb0 : Below w.heap.size w w0 := by rw [hw0]; exact balloc (b0 w) _
  have x1 := later_cell hl0 (show w0.cell? ⟨w.heap.size, 1, none⟩ = some (.int .i64 ja) by rw [hw0]; exact World.cell?_alloc_new ..)
  have x2 := later_cell hl0 (show w0.cell? ⟨w.heap.size, 2, none⟩ = some (.int .i64 jb) by rw [hw0]; exact World.cell?_alloc_new ..)
  have y0 := later_cell (Nat.lt_trans hF hl0) (cell_below hb0 hF a0)
  have y1 := later_cell (Nat.lt_trans hF hl0) (cell_below hb0 hF d0)
  rw [← hw0]
  clear hw0
  have CA := hid (fun (e : Later w0) => Calls.later (HA.out e.w (hb0.trans (e.below.mono hb0.size))) rfl)
  have CB := hid (fun (e : Later w0) => Calls.later (HB.out e.w (hb0.trans (e.below.mono hb0.size))) rfl)
  have DB := hid (fun (e : Later w0) => Calls.later (WB.out e.w) rfl)
  unfold strV at CA CB DB
  have cb := HC.out
  (refine wp_region_later (by kernel_rfl) (by kernel_rfl) ?_; (repeat (go_big_quiet_step ((first | (go_at_call_of 64 (ja : Int); exact CA.out _) | (go_at_call_of 64 (jb : Int); exact CB.out _) | (go_at_call 75; exact DB.out _))))); refine wpQuiet_nil ?_; rintro _ ⟨⟨w1, hb1⟩, rfl⟩)
  go_wp2
  go_ret
  exact ⟨rstrx (by simp [textL, HXX.out, HYY.out]), hb0.trans (hb1.mono hb0.size)⟩
end Go.Proofs.YtmdnleafpmondaaDoor
