import Derived.Test.YtmdnleafpmondaaDoorU3
section
/- mark.text of not, of and, of or. -/
namespace Go.Proofs.YtmdnleafpmondaaDoor
open Go Go.RowKit

set_option maxRecDepth 100000 in
set_option maxHeartbeats 2000000 in
theorem text_no (a : Frm) (ha : isIs a = false) (T : TextAt 52 a) : TextAt 52 (.no a) := by
  intro G l v w j h ht hg h15
  have hj : j < l.length := by rw [ht.len]; exact get_lt hg
  obtain ⟨g, o, cap, rfl, hcap, hmax, hF, hc⟩ := open_nodes h ht (by omega)
  obtain ⟨h1, hga⟩ := ht.no j _ hg
  obtain ⟨-, g0, g1, g2, g3, g4⟩ := hc j _ hg
  obtain ⟨ja, rfl⟩ : ∃ ja, j = ja + 1 := ⟨j - 1, by omega⟩
  rw [Nat.add_sub_cancel] at hga
  obtain ⟨hja, a0, a1, a2, a3, a4⟩ := hc ja _ hga
  rw [show nA (Frm.no a) (ja + 1) = (ja : Int) by simp [nA]] at g1
  simp only [opI, nB, nK, nT] at g0 g2 g3 g4
  have c1 := (opI_is a).trans ha
  have c2 := opI_no a
  have HL := subs_len ht h15 hga
  have HT := hid (fun (b : Bool) (e : World) (he : Below w.heap.size w e) => held_of T G l _ e ja b (h.lift he he.size) ht hga h15)
  have hx := (heldL_len (!isNo a) (textL a)).1
  have HX := hid (show textL (.no a) = [110, 111, 116, 32] ++ heldL (!isNo a) (textL a) by
    cases a with
    | is k s => cases ha
    | _ => rfl)
  unfold maxLen at hmax
  obtain ⟨X, hX⟩ : ∃ X, X = heldL (!isNo a) (textL a) := ⟨_, rfl⟩
  rw [← hX] at HX hx
  have HXX := hid hX
  have z0 := strV_size X
  have z1 : ¬ 9223372036854775807 < 4 + X.length := by omega
  generalize opI a = p at *
  generalize nA a ja = q1 at *
  generalize nB a ja = q2 at *
  generalize nK a = q3 at *
  generalize nT a = q4 at *
  clear h hc ht hg hga hX T ha
  have n1 : (0 : Int) ≤ ja := by omega
  have n2 : (ja : Int) < l.length := by omega
  have n3 : (0 : Int) ≤ ↑(ja + 1) := by omega
  have n4 : (↑(ja + 1) : Int) < l.length := by omega
  go_enter Tryd.func52, Tryd.ntmps52
  go_wp2_with (first
    | (go_at_call 66; refine (HT.out _ _ (balloc (balloc (b0 w) _) _)).mono ?_; rintro e w1 ⟨rfl, hb1⟩; unfold strV; rw [show ((p != 2) : Bool) = !isNo a by rw [bne, c2]] at *; rw [← HXX.out]))
  go_ret
  exact ⟨rstrx (by rw [HX.out]; simp), bstep (balloc (balloc (b0 w) _) _) hb1⟩
end Go.Proofs.YtmdnleafpmondaaDoor
end
section
/- mark.text of and, of or. -/
namespace Go.Proofs.YtmdnleafpmondaaDoor
open Go Go.RowKit

set_option maxRecDepth 100000 in
set_option maxHeartbeats 2000000 in
theorem text_and (a b : Frm) (Ta : TextAt 52 a) (Tb : TextAt 52 b) : TextAt 52 (.two false a b) := by
  intro G l v w j h ht hg h15
  have hj : j < l.length := by rw [ht.len]; exact get_lt hg
  obtain ⟨g, o, cap, rfl, hcap, hmax, hF, hc⟩ := open_nodes h ht (by omega)
  obtain ⟨h1, hgb, hga⟩ := ht.two j _ _ _ hg
  obtain ⟨-, g0, g1, g2, g3, g4⟩ := hc j _ hg
  obtain ⟨ja, hja0⟩ : ∃ ja, ja = j - 1 - b.size := ⟨_, rfl⟩
  obtain ⟨jb, hjb0⟩ : ∃ jb, jb = j - 1 := ⟨_, rfl⟩
  rw [← hja0] at hga
  rw [← hjb0] at hgb
  obtain ⟨hja, a0, -⟩ := hc ja _ hga
  obtain ⟨hjb, d0, -⟩ := hc jb _ hgb
  rw [show nA (Frm.two false a b) j = (ja : Int) by simp only [nA]; omega] at g1
  rw [show nB (Frm.two false a b) j = (jb : Int) by simp only [nB]; omega] at g2
  simp only [opI, nK, nT] at g0 g3 g4
  have ca := opI_one a
  have cb := opI_one b
  have ct := opI_two b
  have la := subs_len ht h15 hga
  have lb := subs_len ht h15 hgb
  obtain ⟨X, hX⟩ : ∃ X, X = heldL (isOne a) (textL a) := ⟨_, rfl⟩
  obtain ⟨Y, hY⟩ : ∃ Y, Y = heldL (isTwo b) (textL b) := ⟨_, rfl⟩
  have lX := (heldL_len (isOne a) (textL a)).1
  have lY := (heldL_len (isTwo b) (textL b)).1
  rw [← hX] at lX
  rw [← hY] at lY
  have zx := strV_size X
  have zy := strV_size Y
  have z1 : ¬ 9223372036854775807 < X.length + 5 := by omega
  have z2 : ¬ 9223372036854775807 < X.length + 5 + Y.length := by omega
  have HA := hid (fun (e : World) (he : Below w.heap.size w e) => held_of Ta G l _ e ja (isOne a) (h.lift he he.size) ht hga h15)
  have HB := hid (fun (e : World) (he : Below w.heap.size w e) => held_of Tb G l _ e jb (isTwo b) (h.lift he he.size) ht hgb h15)
  unfold maxLen at hmax
  generalize opI a = p at *
  generalize opI b = q at *
  have n1 : (0 : Int) ≤ ja := by omega
  have n2 : (ja : Int) < l.length := by omega
  have n3 : (0 : Int) ≤ jb := by omega
  have n4 : (jb : Int) < l.length := by omega
  have n5 : (0 : Int) ≤ ↑j := by omega
  have n6 : (↑j : Int) < l.length := by omega
  clear hja0 hjb0
  have HXX := hid hX
  have HYY := hid hY
  clear h hc ht hg hga hgb hX hY Ta Tb
  rw [← HXX.out] at HA
  rw [← HYY.out] at HB
  rcases Bool.eq_false_or_eq_true (q == 4) with c4 | c4
  all_goals clear cb
  all_goals rw [c4] at ct
  · simp only [Bool.true_or] at ct
    go_enter Tryd.func52, Tryd.ntmps52
    go_wp2_with fail
    obtain ⟨w0, hw0⟩ : ∃ w0, w0 = w.alloc (.cells #[.int .i64 3, .int .i64 ↑ja, .int .i64 ↑jb, .int .i64 0, .string ByteArray.empty] 49) := ⟨_, rfl⟩
    have hl0 : w.heap.size < w0.heap.size := by rw [hw0]; simp
    have hb0 : Below w.heap.size w w0 := by rw [hw0]; exact balloc (b0 w) _
    have x1 := later_cell hl0 (show w0.cell? ⟨w.heap.size, 1, none⟩ = some (.int .i64 ja) by rw [hw0]; exact World.cell?_alloc_new ..)
    have x2 := later_cell hl0 (show w0.cell? ⟨w.heap.size, 2, none⟩ = some (.int .i64 jb) by rw [hw0]; exact World.cell?_alloc_new ..)
    have y0 := later_cell (Nat.lt_trans hF hl0) (cell_below hb0 hF a0)
    have y1 := later_cell (Nat.lt_trans hF hl0) (cell_below hb0 hF d0)
    rw [← hw0]
    clear hw0
    have CA := hid (fun (e : Later w0) => Calls.later (HA.out e.w (hb0.trans (e.below.mono hb0.size))) rfl)
    have CB := hid (fun (e : Later w0) => Calls.later (HB.out e.w (hb0.trans (e.below.mono hb0.size))) rfl)
    unfold strV at CA CB
    rw [ct] at CB
    (refine wp_region_later (by kernel_rfl) (by kernel_rfl) ?_; (repeat (go_big_quiet_step ((first | (go_at_call_of 66 (ja : Int); exact CA.out _) | (go_at_call_of 66 (jb : Int); exact CB.out _))))); refine wpQuiet_nil ?_; rintro _ ⟨⟨w1, hb1⟩, rfl⟩)
    go_wp2
    go_ret
    exact ⟨rstrx (by simp [textL, HXX.out, HYY.out]), hb0.trans (hb1.mono hb0.size)⟩
  · simp only [Bool.false_or] at ct
    go_enter Tryd.func52, Tryd.ntmps52
    go_wp2_with fail
    obtain ⟨w0, hw0⟩ : ∃ w0, w0 = w.alloc (.cells #[.int .i64 3, .int .i64 ↑ja, .int .i64 ↑jb, .int .i64 0, .string ByteArray.empty] 49) := ⟨_, rfl⟩
    have hl0 : w.heap.size < w0.heap.size := by rw [hw0]; simp
    have hb0 : Below w.heap.size w w0 := by rw [hw0]; exact balloc (b0 w) _
    have x1 := later_cell hl0 (show w0.cell? ⟨w.heap.size, 1, none⟩ = some (.int .i64 ja) by rw [hw0]; exact World.cell?_alloc_new ..)
    have x2 := later_cell hl0 (show w0.cell? ⟨w.heap.size, 2, none⟩ = some (.int .i64 jb) by rw [hw0]; exact World.cell?_alloc_new ..)
    have y0 := later_cell (Nat.lt_trans hF hl0) (cell_below hb0 hF a0)
    have y1 := later_cell (Nat.lt_trans hF hl0) (cell_below hb0 hF d0)
    rw [← hw0]
    clear hw0
    have CA := hid (fun (e : Later w0) => Calls.later (HA.out e.w (hb0.trans (e.below.mono hb0.size))) rfl)
    have CB := hid (fun (e : Later w0) => Calls.later (HB.out e.w (hb0.trans (e.below.mono hb0.size))) rfl)
    unfold strV at CA CB
    rw [ct] at CB
    (refine wp_region_later (by kernel_rfl) (by kernel_rfl) ?_; (repeat (go_big_quiet_step ((first | (go_at_call_of 66 (ja : Int); exact CA.out _) | (go_at_call_of 66 (jb : Int); exact CB.out _))))); refine wpQuiet_nil ?_; rintro _ ⟨⟨w1, hb1⟩, rfl⟩)
    go_wp2
    go_ret
    exact ⟨rstrx (by simp [textL, HXX.out, HYY.out]), hb0.trans (hb1.mono hb0.size)⟩

set_option maxRecDepth 100000 in
set_option maxHeartbeats 2000000 in
theorem text_or (a b : Frm) (Ta : TextAt 52 a) (Tb : TextAt 52 b) : TextAt 52 (.two true a b) := by
  intro G l v w j h ht hg h15
  have hj : j < l.length := by rw [ht.len]; exact get_lt hg
  obtain ⟨g, o, cap, rfl, hcap, hmax, hF, hc⟩ := open_nodes h ht (by omega)
  obtain ⟨h1, hgb, hga⟩ := ht.two j _ _ _ hg
  obtain ⟨-, g0, g1, g2, g3, g4⟩ := hc j _ hg
  obtain ⟨ja, hja0⟩ : ∃ ja, ja = j - 1 - b.size := ⟨_, rfl⟩
  obtain ⟨jb, hjb0⟩ : ∃ jb, jb = j - 1 := ⟨_, rfl⟩
  rw [← hja0] at hga
  rw [← hjb0] at hgb
  obtain ⟨hja, a0, -⟩ := hc ja _ hga
  obtain ⟨hjb, d0, -⟩ := hc jb _ hgb
  rw [show nA (Frm.two true a b) j = (ja : Int) by simp only [nA]; omega] at g1
  rw [show nB (Frm.two true a b) j = (jb : Int) by simp only [nB]; omega] at g2
  simp only [opI, nK, nT] at g0 g3 g4
  have ca := opI_one a
  have cb := opI_one b
  have ct := opI_two b
  have la := subs_len ht h15 hga
  have lb := subs_len ht h15 hgb
  obtain ⟨X, hX⟩ : ∃ X, X = textL a := ⟨_, rfl⟩
  obtain ⟨Y, hY⟩ : ∃ Y, Y = heldL (isOne b) (textL b) := ⟨_, rfl⟩
  have lY := (heldL_len (isOne b) (textL b)).1
  rw [← hX] at la
  rw [← hY] at lY
  have zx := strV_size X
  have zy := strV_size Y
  have z1 : ¬ 9223372036854775807 < X.length + 4 := by omega
  have z2 : ¬ 9223372036854775807 < X.length + 4 + Y.length := by omega
  have HA := hid (fun (e : World) (he : Below w.heap.size w e) => Ta G l _ e ja (h.lift he he.size) ht hga h15)
  have HB := hid (fun (e : World) (he : Below w.heap.size w e) => held_of Tb G l _ e jb (isOne b) (h.lift he he.size) ht hgb h15)
  unfold maxLen at hmax
  generalize opI a = p at *
  generalize opI b = q at *
  have n1 : (0 : Int) ≤ ja := by omega
  have n2 : (ja : Int) < l.length := by omega
  have n3 : (0 : Int) ≤ jb := by omega
  have n4 : (jb : Int) < l.length := by omega
  have n5 : (0 : Int) ≤ ↑j := by omega
  have n6 : (↑j : Int) < l.length := by omega
  clear hja0 hjb0
  have HXX := hid hX
  have HYY := hid hY
  clear h hc ht hg hga hgb hX hY Ta Tb ca ct
  rw [← HXX.out] at HA
  rw [← HYY.out] at HB
  go_enter Tryd.func52, Tryd.ntmps52
  go_wp2_with fail
  obtain ⟨w0, hw0⟩ : ∃ w0, w0 = w.alloc (.cells #[.int .i64 4, .int .i64 ↑ja, .int .i64 ↑jb, .int .i64 0, .string ByteArray.empty] 49) := ⟨_, rfl⟩
  have hl0 : w.heap.size < w0.heap.size := by rw [hw0]; simp
  have hb0 : Below w.heap.size w w0 := by rw [hw0]; exact balloc (b0 w) _
  have x1 := later_cell hl0 (show w0.cell? ⟨w.heap.size, 1, none⟩ = some (.int .i64 ja) by rw [hw0]; exact World.cell?_alloc_new ..)
  have x2 := later_cell hl0 (show w0.cell? ⟨w.heap.size, 2, none⟩ = some (.int .i64 jb) by rw [hw0]; exact World.cell?_alloc_new ..)
  have y0 := later_cell (Nat.lt_trans hF hl0) (cell_below hb0 hF a0)
  have y1 := later_cell (Nat.lt_trans hF hl0) (cell_below hb0 hF d0)
  rw [← hw0]
  clear hw0
  have CA := hid (fun (e : Later w0) => Calls.later (HA.out e.w (hb0.trans (e.below.mono hb0.size))) rfl)
  have CB := hid (fun (e : Later w0) => Calls.later (HB.out e.w (hb0.trans (e.below.mono hb0.size))) rfl)
  unfold strV at CA CB
  (refine wp_region_later (by kernel_rfl) (by kernel_rfl) ?_; (repeat (go_big_quiet_step ((first | (go_at_call 52; exact CA.out _) | (go_at_call 66; exact CB.out _))))); refine wpQuiet_nil ?_; rintro _ ⟨⟨w1, hb1⟩, rfl⟩)
  go_wp2
  go_ret
  exact ⟨rstrx (by simp [textL, HXX.out, HYY.out]), hb0.trans (hb1.mono hb0.size)⟩
end Go.Proofs.YtmdnleafpmondaaDoor
end
