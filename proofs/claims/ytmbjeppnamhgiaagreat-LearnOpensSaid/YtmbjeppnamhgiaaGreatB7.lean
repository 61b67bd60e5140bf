/- Contract: law26.awake. -/
import Derived.Test.YtmbjeppnamhgiaaGreatzB1
import Derived.Test.YtmbjeppnamhgiaaGreatT21
import Derived.Outline
namespace Go.Proofs.YtmbjeppnamhgiaaGreat
open Go Go.RowKit

theorem link_eql (a b : Int) (W : World) : (binOp .eql 56 (.agg #[.int .i64 a, .int .i64 b]) (.agg #[.int .i64 a, .int .i64 b])).run Tryz.prog W = .ok (.bool true) W := by
  have u3 := Tryz.underlying3
  have a3 := Tryz.isAgg3
  have z3 := Tryz.sizeOf3
  have hS : Tryz.prog.underlying 56 = some (.struct (Tryz.prog.fieldsOf 56)) := by kernel_rfl
  have hp : Tryz.prog.stoodInHeld 56 = false := by kernel_rfl
  rw [run_eql_struct, show (10000 : Nat) = 9999 + 1 from rfl, run_equalIn_agg W 9999 56 _ _ hS hp]
  simp only [Program.fieldsOf, Tryz.underlying56]
  go_simp
set_option maxRecDepth 100000 in
set_option maxHeartbeats 4000000 in
theorem awake_any (w : World) : Calls Tryz.prog 9 #[] w fun e w' => e = .returned (.bool true) ∧ Below w.heap.size w w' := by
  go_enter Tryz.func9, Tryz.ntmps9
  go_wp2_with (go_at_call 32; refine (small_any _).mono ?_; rintro e w1 ⟨g, s, rfl, hwr, hs, hb1⟩; have HWR := hid hwr; have HS := hid hs; have HB1 := hid hb1; clear hwr hs hb1)
  obtain ⟨w2, hw2⟩ : ∃ w2 : World, w2 = w1.alloc (.cells #[.slice (some ⟨g, 0, none⟩) 2 2] 26) := ⟨_, rfl⟩
  have hb2 : Below w1.heap.size w1 w2 := hw2 ▸ balloc (b0 w1) _
  have hl2 : w1.heap.size < w2.heap.size := by rw [hw2]; simp
  have q2 : w2.cell? ⟨w1.heap.size, 0, none⟩ = some (.slice (some ⟨g, 0, none⟩) 2 2) := by rw [hw2, alloc_cell]; rfl
  have HW2 := hid (HWR.out.lift hb2 hb2.size)
  have HU2 := hid HW2.out.uni
  have HB2 := hid (bstep HB1.out hb2)
  rw [← hw2]
  clear hw2 hb2
  refine (db_any _ (.slice none 0 0) (smallU s) [] w2 HW2.out (small_ok HS.out) rfl (SliceRd.nil _ _ _) (fun a h => by cases h)).mono ?_
  rintro e w3 ⟨dv, rfl, hd, hb3⟩
  rw [small_dbF, small_db] at hd
  have HD3 := hid (show SliceRd (tSlice tTerm) w3 (Lt w3.heap.size) dv (dbL ns2 sdb 2) from hd)
  have HU3 := hid (uni_later HU2.out hb3)
  have q3 := cell_below hb3 hl2 q2
  have hl3 := Nat.lt_of_lt_of_le hl2 hb3.size
  have HB3 := hid (bstep HB2.out hb3)
  clear hd hb3 q2
  go_wp2_with fail
  refine (rrun_first _ (.slice none 0 0) dv ns2 sdb 2 [] w3 HU3.out ns2_ok (SliceRd.nil _ _ _) (by simp) .nil HD3.out sdb_ok (by omega)).mono ?_
  rintro e w4 ⟨tv, r, m, rfl, hri, hrf, hot, hb4⟩
  obtain ⟨rfl, rfl⟩ := small_run hri hrf
  have HTV := hid hot.rd
  have HU4 := hid (uni_later HU3.out hb4)
  have HD4 := hid (HD3.out.lift hb4 hb4.size)
  have q4 := cell_below hb4 hl3 q3
  have hl4 := Nat.lt_of_lt_of_le hl3 hb4.size
  have HB4 := hid (bstep HB3.out hb4)
  clear hri hrf hot hb4 q3
  have HLN := hid (show Calls Tryz.prog 14 #[_, dv, tv, .int .i64 1] w4 (LearnPost ns2 sdb [s0N] (sdb 1) w4) from plearn_any _ tv dv ns2 sdb 2 [s0N] 1 w4 HU4.out small_conf (by omega) HTV.out (by simp) HD4.out (by omega))
  go_wp2_with fail
  refine HLN.out.mono ?_
  rintro e w5 ⟨j, iv, lk, rfl, ⟨hs1, hs2⟩, hi, hlk, hb5⟩
  obtain ⟨e1, e2, e3⟩ := small_learn hs1 hs2
  rw [e1] at hi
  rw [e2]
  rw [e3] at hlk
  obtain ⟨Ai, ci, rfl, -⟩ := hi.terms
  obtain ⟨Al, cl, rfl, hcl, hclm, hlc⟩ := links_open hlk
  obtain ⟨gl, ol, hA, hF, l0, l1⟩ := hlc 0 (by show 0 < 1; omega)
  subst hA
  have HB5 := hid (bstep HB4.out hb5)
  have hE : ∀ W : World, (binOp .eql 56 (.agg #[.int .i64 0, .int .i64 0]) (.agg #[.int .i64 0, .int .i64 0])).run Tryz.prog W = .ok (.bool true) W := fun W => link_eql 0 0 W
  have hG : ∀ op a b (W : World), (eqGuard op 56 a b (.agg #[.int .i64 0, .int .i64 0]) (.agg #[.int .i64 0, .int .i64 0])).run Tryz.prog W = .ok () W := fun op a b W => link_neqg 0 0 op a b W
  have m0 : w5.cell? ⟨gl, ol, none⟩ = some (.int .i64 0) := by simpa using l0
  have m1 : w5.cell? ⟨gl, ol + 1, none⟩ = some (.int .i64 0) := by simpa using l1
  unfold maxLen at hclm
  clear hi hlk hlc hb5 hs1 hs2 e1 e2 e3 l0 l1
  go_wp2
  go_ret
  exact ⟨rfl, HB5.out⟩
end Go.Proofs.YtmbjeppnamhgiaaGreat
