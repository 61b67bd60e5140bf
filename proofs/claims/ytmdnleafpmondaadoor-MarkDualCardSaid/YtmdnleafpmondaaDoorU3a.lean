/- mark.text of a comparison. -/
import Derived.Test.YtmdnleafpmondaaDoorU3
namespace Go.Proofs.YtmdnleafpmondaaDoor
open Go Go.RowKit

set_option maxRecDepth 100000 in
set_option maxHeartbeats 2000000 in
theorem text_is (k : Nat) (s : ByteArray) : TextAt 52 (.is k s) := by
  intro G l v w j h ht hg h15
  have hj : j < l.length := by rw [ht.len]; exact get_lt hg
  obtain ⟨g, o, cap, rfl, hcap, hmax, hF, hc⟩ := open_nodes h ht (by omega)
  obtain ⟨-, g0, g1, g2, g3, g4⟩ := hc j _ hg
  simp only [opI, nA, nB, nK, nT] at g0 g1 g2 g3 g4
  obtain ⟨k3, ks⟩ := ht.ok j _ hg
  have ks := (wordB_len ks).2
  have hss : s.size ≤ 12 := by simpa using ks
  have KL := keyL_len k
  have hsz1 := strV_size (keyL k)
  unfold maxLen at hmax
  clear h hc ht hg ks
  have KC := keys_get k3
  go_enter Tryd.func52, Tryd.ntmps52
  go_wp2_with fail
  obtain ⟨w0, hw0⟩ : ∃ w0, w0 = w.alloc (.cells #[.int .i64 1, .int .i64 0, .int .i64 0, .int .i64 ↑k, .string s] 49) := ⟨_, rfl⟩
  have hl0 : w.heap.size < w0.heap.size := by rw [hw0]; simp
  have hb0 : Below w.heap.size w w0 := by rw [hw0]; exact balloc (b0 w) _
  have x3 : w0.cell? ⟨w.heap.size, 3, none⟩ = some (.int .i64 k) := by rw [hw0]; exact World.cell?_alloc_new ..
  have x4 : w0.cell? ⟨w.heap.size, 4, none⟩ = some (.string s) := by rw [hw0]; exact World.cell?_alloc_new ..
  rw [← hw0]
  clear hw0
  obtain ⟨K, hK⟩ : ∃ K, K = keyL k := ⟨_, rfl⟩
  rw [← hK] at KC KL hsz1
  have HK := hid hK
  clear hK
  have z1 : ¬ 9223372036854775807 < K.length + 3 := by omega
  have z2 : ¬ 9223372036854775807 < K.length + 3 + s.size := by omega
  have i1 : (0 : Int) ≤ ↑k := by omega
  have i2 : (↑k : Int) < 3 := by omega
  go_region_law ((first
      | (go_simp; go_at_call 65; (with_reducible refine (keys_any _).mono ?_); rintro e w1 ⟨rfl, hw1⟩
         have hb1 : Below w0.heap.size w0 w1 := by rw [hw1]; exact balloc (by first | exact b0 _ | exact (b0 _).drew) _
         have y3 := cell_below hb1 hl0 x3; have y4 := cell_below hb1 hl0 x4)))
  all_goals go_wp2
  all_goals go_ret
  all_goals exact ⟨rstrx (by simp [textL, HK.out]), (balloc (hb0.trans ((b0 w0).mono hb0.size)) _).drew⟩
end Go.Proofs.YtmdnleafpmondaaDoor
