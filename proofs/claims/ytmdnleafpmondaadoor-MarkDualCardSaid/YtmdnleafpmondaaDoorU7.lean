/- Contracts: linchpinref10.leaf, linchpinref10.tree. -/
import Derived.Test.YtmdnleafpmondaaDoorU6
namespace Go.Proofs.YtmdnleafpmondaaDoor
open Go Go.RowKit

def leafB (n : Node) : Bool := decide (n.op = 1 ∧ 0 ≤ n.key ∧ n.key < 3 ∧ wordB n.text.data.toList = true ∧ n.a = 0 ∧ n.b = 0)
set_option maxRecDepth 100000 in
set_option maxHeartbeats 2000000 in
theorem leaf_any (n : Node) (w : World) : Calls Tryd.prog 63 #[.agg #[.int .i64 n.op, .int .i64 n.a, .int .i64 n.b, .int .i64 n.key, .string n.text]] w fun e w' => e = .returned (.bool (leafB n)) ∧ Below w.heap.size w w' := by
  have HG := hid (fun (h : n.op = 1 ∧ 0 ≤ n.key ∧ n.key < 3 ∧ wordB n.text.data.toList = true ∧ n.a = 0 ∧ n.b = 0) => show leafB n = true from decide_eq_true h)
  have HF := hid (fun (h : ¬ (n.op = 1 ∧ 0 ≤ n.key ∧ n.key < 3 ∧ wordB n.text.data.toList = true ∧ n.a = 0 ∧ n.b = 0)) => show leafB n = false from decide_eq_false h)
  go_enter Tryd.func63, Tryd.ntmps63
  have HBT := hid (show Below w.heap.size w (w.alloc (.cells #[.int .i64 n.op, .int .i64 n.a, .int .i64 n.b, .int .i64 n.key, .string n.text] 49)) from balloc (b0 w) _)
  have hbx : w.heap.size < (w.alloc (.cells #[.int .i64 n.op, .int .i64 n.a, .int .i64 n.b, .int .i64 n.key, .string n.text] 49)).heap.size := by simp
  have d1 : (w.alloc (.cells #[.int .i64 n.op, .int .i64 n.a, .int .i64 n.b, .int .i64 n.key, .string n.text] 49)).cell? ⟨w.heap.size, 1, none⟩ = some (.int .i64 n.a) := World.cell?_alloc_new ..
  have d2 : (w.alloc (.cells #[.int .i64 n.op, .int .i64 n.a, .int .i64 n.b, .int .i64 n.key, .string n.text] 49)).cell? ⟨w.heap.size, 2, none⟩ = some (.int .i64 n.b) := World.cell?_alloc_new ..
  rcases eqI n.op 1 with ⟨e, pe⟩ | ⟨e, pe⟩
  · replace pe := hid pe
    have ne := bne_t e
    by_cases c1 : (0 : Int) ≤ n.key
    · by_cases c2 : n.key < 3
      · rcases Bool.eq_false_or_eq_true (wordB n.text.data.toList) with hw | hw
        · rcases eqI n.a 0 with ⟨ea, pea⟩ | ⟨ea, pea⟩
          · replace pea := hid pea
            have nea := bne_t ea
            rcases eqI n.b 0 with ⟨eb, peb⟩ | ⟨eb, peb⟩
            · replace peb := hid peb
              have neb := bne_t eb
              go_wp2_with (first
                | (go_at_call 67; refine (rword_any _ _).mono ?_; rintro e w2 ⟨rfl, hbw⟩; rw [hw]; have x1 := cell_below hbw hbx d1; have x2 := cell_below hbw hbx d2))
              go_ret
              exact ⟨rbool (HG.out ⟨pe.out, by omega, by omega, hw, pea.out, peb.out⟩).symm, HBT.out.trans (hbw.mono HBT.out.size)⟩
            · replace peb := hid peb
              have neb := bne_f eb
              go_wp2_with (first
                | (go_at_call 67; refine (rword_any _ _).mono ?_; rintro e w2 ⟨rfl, hbw⟩; rw [hw]; have x1 := cell_below hbw hbx d1; have x2 := cell_below hbw hbx d2))
              go_ret
              exact ⟨rbool (HF.out (by unfold Hid at *; rintro ⟨q0, q1, q2, q3, q4, q5⟩; first | omega | (rw [hw] at q3; cases q3))).symm, HBT.out.trans (hbw.mono HBT.out.size)⟩
          · replace pea := hid pea
            have nea := bne_f ea
            go_wp2_with (first
              | (go_at_call 67; refine (rword_any _ _).mono ?_; rintro e w2 ⟨rfl, hbw⟩; rw [hw]; have x1 := cell_below hbw hbx d1; have x2 := cell_below hbw hbx d2))
            go_ret
            exact ⟨rbool (HF.out (by unfold Hid at *; rintro ⟨q0, q1, q2, q3, q4, q5⟩; first | omega | (rw [hw] at q3; cases q3))).symm, HBT.out.trans (hbw.mono HBT.out.size)⟩
        · go_wp2_with (first
            | (go_at_call 67; refine (rword_any _ _).mono ?_; rintro e w2 ⟨rfl, hbw⟩; rw [hw]; have x1 := cell_below hbw hbx d1; have x2 := cell_below hbw hbx d2))
          go_ret
          exact ⟨rbool (HF.out (by unfold Hid at *; rintro ⟨q0, q1, q2, q3, q4, q5⟩; first | omega | (rw [hw] at q3; cases q3))).symm, HBT.out.trans (hbw.mono HBT.out.size)⟩
      · go_wp2
        go_ret
        exact ⟨rbool (HF.out (by unfold Hid at *; rintro ⟨q0, q1, q2, q3, q4, q5⟩; omega)).symm, balloc (b0 w) _⟩
    · go_wp2
      go_ret
      exact ⟨rbool (HF.out (by unfold Hid at *; rintro ⟨q0, q1, q2, q3, q4, q5⟩; omega)).symm, balloc (b0 w) _⟩
  · replace pe := hid pe
    have ne := bne_f e
    go_wp2
    go_ret
    exact ⟨rbool (HF.out (by unfold Hid at *; rintro ⟨q0, q1, q2, q3, q4, q5⟩; omega)).symm, balloc (b0 w) _⟩
end Go.Proofs.YtmdnleafpmondaaDoor
