/- Contracts: linchpinref10.key, wrap, text, whole. -/
import Derived.Test.YtmdnleafpmondaaDoorU3e
namespace Go.Proofs.YtmdnleafpmondaaDoor
open Go Go.RowKit

set_option maxRecDepth 100000 in
theorem rkey_any {k : Nat} (hk : k < 3) (w : World) : Calls Tryd.prog 74 #[.int .i64 k] w fun e w' => e = .returned (strV (keyL k)) ∧ Below w.heap.size w w' := by
  have i1 : (0 : Int) ≤ ↑k := by omega
  have i2 : (↑k : Int) < 3 := by omega
  go_enter Tryd.func74, Tryd.ntmps74
  go_wp2
  go_ret
  refine ⟨?_, balloc (b0 w) _⟩
  have : k = 0 ∨ k = 1 ∨ k = 2 := by omega
  rcases this with rfl | rfl | rfl <;> rfl
theorem wrap_any (s : List UInt8) (b : Bool) (w : World) (hs : s.length ≤ 400) : Calls Tryd.prog 75 #[strV s, .bool b] w fun e w' => e = .returned (strV (heldL b s)) ∧ Below w.heap.size w w' := by
  have hsz := strV_size s
  have hsz2 : (⟨#[40, 32]⟩ ++ ⟨s.toArray⟩ : ByteArray).size = 2 + s.length := by rw [ByteArray.size_append, hsz]; rfl
  unfold strV
  cases b with
  | true =>
    go_enter Tryd.func75, Tryd.ntmps75
    go_wp2
    go_ret
    exact ⟨rstrx (by simp [heldL, brk]), Below.refl _ _⟩
  | false =>
    go_enter Tryd.func75, Tryd.ntmps75
    go_wp2
    go_ret
    exact ⟨rfl, Below.refl _ _⟩

set_option maxRecDepth 100000 in
set_option maxHeartbeats 2000000 in
theorem rtext_is (k : Nat) (s : ByteArray) : TextAt 64 (.is k s) := by
  intro G l v w j h ht hg h15
  have hj : j < l.length := by rw [ht.len]; exact get_lt hg
  obtain ⟨g, o, cap, rfl, hcap, hmax, hF, hc⟩ := open_nodes h ht (by omega)
  obtain ⟨-, g0, g1, g2, g3, g4⟩ := hc j _ hg
  simp only [opI, nA, nB, nK, nT] at g0 g1 g2 g3 g4
  obtain ⟨k3, ks⟩ := ht.ok j _ hg
  have ks := (wordB_len ks).2
  have hss : s.size ≤ 12 := by simpa using ks
  have KL := keyL_len k
  have hsz1 := strV_size (keyL k)
  unfold maxLen at hmax
  clear h hc ht hg ks
  go_enter Tryd.func64, Tryd.ntmps64
  go_wp2_with fail
  obtain ⟨w0, hw0⟩ : ∃ w0, w0 = w.alloc (.cells #[.int .i64 1, .int .i64 0, .int .i64 0, .int .i64 ↑k, .string s] 49) := ⟨_, rfl⟩
  have hl0 : w.heap.size < w0.heap.size := by rw [hw0]; simp
  have hb0 : Below w.heap.size w w0 := by rw [hw0]; exact balloc (b0 w) _
  have x3 := later_cell hl0 (show w0.cell? ⟨w.heap.size, 3, none⟩ = some (.int .i64 k) by rw [hw0]; exact World.cell?_alloc_new ..)
  have x4 := later_cell hl0 (show w0.cell? ⟨w.heap.size, 4, none⟩ = some (.string s) by rw [hw0]; exact World.cell?_alloc_new ..)
  rw [← hw0]
  clear hw0
  obtain ⟨K, hK⟩ : ∃ K, K = keyL k := ⟨_, rfl⟩
  have CK := hid (fun (e : Later w0) => Calls.later (rkey_any k3 e.w) rfl)
  unfold strV at CK
  rw [← hK] at CK KL hsz1
  have HK := hid hK
  clear hK
  have z1 : ¬ 9223372036854775807 < K.length + 3 := by omega
  have z2 : ¬ 9223372036854775807 < K.length + 3 + s.size := by omega
  have i1 : (0 : Int) ≤ ↑k := by omega
  have i2 : (↑k : Int) < 3 := by omega
  (refine wp_region_later (by kernel_rfl) (by kernel_rfl) ?_; (repeat (go_big_quiet_step ((first | (go_at_call 74; exact CK.out _))))); refine wpQuiet_nil ?_; rintro _ ⟨⟨w1, hb1⟩, rfl⟩)
  go_wp2
  go_ret
  exact ⟨rstrx (by simp [textL, HK.out]), hb0.trans (hb1.mono hb0.size)⟩

set_option maxRecDepth 100000 in
set_option maxHeartbeats 2000000 in
theorem rtext_nois (k : Nat) (s : ByteArray) : TextAt 64 (.no (.is k s)) := by
  intro G l v w j h ht hg h15
  have hj : j < l.length := by rw [ht.len]; exact get_lt hg
  obtain ⟨g, o, cap, rfl, hcap, hmax, hF, hc⟩ := open_nodes h ht (by omega)
  obtain ⟨h1, hga⟩ := ht.no j _ hg
  obtain ⟨-, g0, g1, g2, g3, g4⟩ := hc j _ hg
  obtain ⟨ja, rfl⟩ : ∃ ja, j = ja + 1 := ⟨j - 1, by omega⟩
  rw [Nat.add_sub_cancel] at hga
  obtain ⟨hja, a0, a1, a2, a3, a4⟩ := hc ja _ hga
  rw [show nA (Frm.no (Frm.is k s)) (ja + 1) = (ja : Int) by simp [nA]] at g1
  simp only [opI, nA, nB, nK, nT] at g0 g1 g2 g3 g4 a0 a1 a2 a3 a4
  obtain ⟨k3, ks⟩ := ht.ok _ _ hga
  have ks := (wordB_len ks).2
  have hss : s.size ≤ 12 := by simpa using ks
  have KL := keyL_len k
  have hsz1 := strV_size (keyL k)
  unfold maxLen at hmax
  clear h hc ht hg hga ks
  have n1 : (0 : Int) ≤ ja := by omega
  have n2 : (ja : Int) < l.length := by omega
  have n3 : (0 : Int) ≤ ↑(ja + 1) := by omega
  have n4 : (↑(ja + 1) : Int) < l.length := by omega
  go_enter Tryd.func64, Tryd.ntmps64
  go_wp2_with fail
  obtain ⟨w0, hw0⟩ : ∃ w0, w0 = (w.alloc (.cells #[.int .i64 2, .int .i64 ↑ja, .int .i64 0, .int .i64 0, .string ByteArray.empty] 49)).alloc (.cells #[.int .i64 1, .int .i64 0, .int .i64 0, .int .i64 ↑k, .string s] 49) := ⟨_, rfl⟩
  have hl0 : w.heap.size + 1 < w0.heap.size := by rw [hw0]; simp
  have hb0 : Below w.heap.size w w0 := by rw [hw0]; exact balloc (balloc (b0 w) _) _
  have x3 := later_cell hl0 (show w0.cell? ⟨w.heap.size + 1, 3, none⟩ = some (.int .i64 k) by rw [hw0, show w.heap.size + 1 = (w.alloc (.cells #[.int .i64 2, .int .i64 ↑ja, .int .i64 0, .int .i64 0, .string ByteArray.empty] 49)).heap.size by simp]; exact World.cell?_alloc_new ..)
  have x4 := later_cell hl0 (show w0.cell? ⟨w.heap.size + 1, 4, none⟩ = some (.string s) by rw [hw0, show w.heap.size + 1 = (w.alloc (.cells #[.int .i64 2, .int .i64 ↑ja, .int .i64 0, .int .i64 0, .string ByteArray.empty] 49)).heap.size by simp]; exact World.cell?_alloc_new ..)
  rw [← hw0]
  clear hw0
  obtain ⟨K, hK⟩ : ∃ K, K = keyL k := ⟨_, rfl⟩
  have CK := hid (fun (e : Later w0) => Calls.later (rkey_any k3 e.w) rfl)
  unfold strV at CK
  rw [← hK] at CK KL hsz1
  have HK := hid hK
  clear hK
  have z1 : ¬ 9223372036854775807 < K.length + 4 := by omega
  have z2 : ¬ 9223372036854775807 < K.length + 4 + s.size := by omega
  have i1 : (0 : Int) ≤ ↑k := by omega
  have i2 : (↑k : Int) < 3 := by omega
  (refine wp_region_later (by kernel_rfl) (by kernel_rfl) ?_; (repeat (go_big_quiet_step ((first | (go_at_call 74; exact CK.out _))))); refine wpQuiet_nil ?_; rintro _ ⟨⟨w1, hb1⟩, rfl⟩)
  go_wp2
  go_ret
  exact ⟨rstrx (by simp [textL, noL, HK.out]), hb0.trans (hb1.mono hb0.size)⟩

set_option maxRecDepth 100000 in
set_option maxHeartbeats 2000000 in
theorem rtext_no (a : Frm) (ha : isIs a = false) (T : TextAt 64 a) : TextAt 64 (.no a) := by
  intro G l v w j h ht hg h15
  have hj : j < l.length := by rw [ht.len]; exact get_lt hg
  obtain ⟨g, o, cap, rfl, hcap, hmax, hF, hc⟩ := open_nodes h ht (by omega)
  obtain ⟨h1, hga⟩ := ht.no j _ hg
  obtain ⟨-, g0, g1, g2, g3, g4⟩ := hc j _ hg
  obtain ⟨ja, rfl⟩ : ∃ ja, j = ja + 1 := ⟨j - 1, by omega⟩
  rw [Nat.add_sub_cancel] at hga
  obtain ⟨hja, a0, a1, a2, a3, a4⟩ := hc ja _ hga
  rw [show nA (Frm.no a) (ja + 1) = (ja : Int) by simp [nA]] at g1
  simp only [opI, nB, nK, nT] at g0 g2 g3 g4
  have c1 := (opI_is a).trans ha
  have c2 := opI_no a
  have HL := subs_len ht h15 hga
  have HT := hid (fun (e : World) (he : Below w.heap.size w e) => T G l _ e ja (h.lift he he.size) ht hga h15)
  have HW := hid (fun (e : World) => wrap_any (textL a) (!isNo a) e (by omega))
  have hx := (heldL_len (!isNo a) (textL a)).1
  have HX := hid (show textL (.no a) = [110, 111, 116, 32] ++ heldL (!isNo a) (textL a) by
    cases a with
    | is k s => cases ha
    | _ => rfl)
  unfold maxLen at hmax
  obtain ⟨X, hX⟩ : ∃ X, X = heldL (!isNo a) (textL a) := ⟨_, rfl⟩
  rw [← hX] at HX hx HW
  obtain ⟨Y, hY⟩ : ∃ Y, Y = textL a := ⟨_, rfl⟩
  rw [← hY] at HT HW hx HL
  have zY := strV_size Y
  have HXX := hid hX
  have z0 := strV_size X
  have z1 : ¬ 9223372036854775807 < 4 + X.length := by omega
  generalize opI a = p at *
  generalize nA a ja = q1 at *
  generalize nB a ja = q2 at *
  generalize nK a = q3 at *
  generalize nT a = q4 at *
  clear h hc ht hg hga hX T ha hY HXX
  have n1 : (0 : Int) ≤ ja := by omega
  have n2 : (ja : Int) < l.length := by omega
  have n3 : (0 : Int) ≤ ↑(ja + 1) := by omega
  have n4 : (↑(ja + 1) : Int) < l.length := by omega
  go_enter Tryd.func64, Tryd.ntmps64
  go_wp2_with fail
  obtain ⟨w0, hw0⟩ : ∃ w0, w0 = (w.alloc (.cells #[.int .i64 2, .int .i64 ↑ja, .int .i64 0, .int .i64 0, .string ByteArray.empty] 49)).alloc (.cells #[.int .i64 p, .int .i64 q1, .int .i64 q2, .int .i64 q3, .string q4] 49) := ⟨_, rfl⟩
  have hz0 : (w.alloc (.cells #[.int .i64 2, .int .i64 ↑ja, .int .i64 0, .int .i64 0, .string ByteArray.empty] 49)).heap.size = w.heap.size + 1 := by simp
  have hl0 : w.heap.size + 1 < w0.heap.size := by rw [hw0]; simp
  have hl1 : w.heap.size < w0.heap.size := by omega
  have hb0 : Below w.heap.size w w0 := by rw [hw0]; exact balloc (balloc (b0 w) _) _
  have x1 := later_cell hl1 (show w0.cell? ⟨w.heap.size, 1, none⟩ = some (.int .i64 ja) by rw [hw0, World.cell?_alloc_old _ _ _ (by show w.heap.size ≠ _; rw [hz0]; omega)]; exact World.cell?_alloc_new ..)
  have x2 := later_cell hl0 (show w0.cell? ⟨w.heap.size + 1, 0, none⟩ = some (.int .i64 p) by rw [hw0, ← hz0]; exact World.cell?_alloc_new ..)
  rw [← hw0]
  clear hw0 hz0
  have CT := hid (fun (e : Later w0) => Calls.later (HT.out e.w (hb0.trans (e.below.mono hb0.size))) rfl)
  have CW := hid (fun (e : Later w0) => Calls.later (HW.out e.w) rfl)
  unfold strV at CT CW
  have c3 : ((p != 2) : Bool) = !isNo a := by rw [bne, c2]
  (refine wp_region_later (by kernel_rfl) (by kernel_rfl) ?_; (repeat (go_big_quiet_step ((first | (go_at_call 64; exact CT.out _) | (go_at_call 75; first | exact CW.out _ | (rw [c3]; exact CW.out _) | (rw [c2]; exact CW.out _)))))); refine wpQuiet_nil ?_; rintro _ ⟨⟨w1, hb1⟩, rfl⟩)
  go_wp2
  go_ret
  exact ⟨rstrx (by rw [HX.out]; simp), hb0.trans (hb1.mono hb0.size)⟩

end Go.Proofs.YtmdnleafpmondaaDoor
