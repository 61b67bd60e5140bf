/- Contracts: linchpinlaw31.same; linchpinref29.Asked. -/
import Derived.Test.YtmghlakedaigpaaDoorRUs
import Derived.Test.YtmghlakedaigpaaDoorAs
import Derived.Test.YtmghlakedaigpaaDoorOwnF
namespace Go.Proofs.YtmghlakedaigpaaDoor
open Go Go.RowKit
attribute [local go_sem ↓] Go.wp_at_zero Go.wp_at_succ

theorem term_eql (s t : Term) (W : World) : (binOp .eql 38 (.agg #[.int .i64 s.unit, .int .i64 s.mask]) (.agg #[.int .i64 t.unit, .int .i64 t.mask])).run Tryd.prog W = .ok (.bool (decide (s = t))) W := by
  have u3 := Tryd.underlying3
  have a3 := Tryd.isAgg3
  have z3 := Tryd.sizeOf3
  have hS : Tryd.prog.underlying 38 = some (.struct (Tryd.prog.fieldsOf 38)) := by kernel_rfl
  have hp : Tryd.prog.stoodInHeld 38 = false := by kernel_rfl
  rw [run_eql_struct, show (10000 : Nat) = 9999 + 1 from rfl, run_equalIn_agg W 9999 38 _ _ hS hp]
  simp only [Program.fieldsOf, Tryd.underlying38]
  go_simp
  obtain ⟨a, b⟩ := s
  obtain ⟨c, d⟩ := t
  by_cases h1 : a = c <;> by_cases h2 : b = d <;> simp [h1, h2]

set_option maxRecDepth 100000 in
set_option maxHeartbeats 2000000 in
theorem same31_self (w : World) (b b' : Nat) (xs : List Bool) (h : Arr 4 w b (boolCells xs)) (h' : Arr 4 w b' (boolCells xs)) (hl : xs.length ≤ 20000) :
    Calls Tryd.prog 8 #[.slice (some ⟨b, 0, none⟩) xs.length xs.length, .slice (some ⟨b', 0, none⟩) xs.length xs.length] w fun e w' => e = .returned (.bool true) ∧ Below w.heap.size w w' := by
  have H := hid h
  have H' := hid h'
  clear h h'
  obtain ⟨n, hn⟩ : ∃ n, n = xs.length := ⟨_, rfl⟩
  rw [← hn] at hl ⊢
  replace hn := hid hn
  go_enter Tryd.func8, Tryd.ntmps8
  go_wp2
  go_loopw [5] (fun iv wr => ∃ k : Nat, k ≤ n ∧ iv = .int .i64 k ∧ Hid (Below w.heap.size w wr)) (fun iv _ => n - (intOf iv).toNat)
  case atStart => exact ⟨0, Nat.zero_le _, rfl, hid (Below.refl _ _)⟩
  case round =>
    obtain ⟨k, hk, rfl, hb⟩ := hrel
    have i1 : (0 : Int) ≤ ↑k := by omega
    by_cases hlt : k < n
    · have i2 : (↑k : Int) < ↑n := by omega
      have hkx : k < xs.length := by rw [← hn.out]; exact hlt
      have c0 := cell_below hb.out H.out.lt (H.out.cell (i := k) (by simp [boolCells]; exact hkx))
      have c1 := cell_below hb.out H'.out.lt (H'.out.cell (i := k) (by simp [boolCells]; exact hkx))
      simp only [boolCells, List.getElem_map] at c0 c1
      obtain ⟨x, hx⟩ : ∃ x, x = xs[k] := ⟨_, rfl⟩
      rw [← hx] at c0 c1
      clear hx
      have hxx : (x != x) = false := by cases x <;> rfl
      go_wp2_with fail
      go_quiet (fail)
      go_wp2
      exact ⟨⟨k + 1, by omega, by go_num, hid (below_drewN hb.out _)⟩, by simp [intOf]; omega⟩
    · obtain rfl : k = n := by omega
      go_wp2
      go_ret
      exact ⟨rfl, hb.out⟩
theorem same31_nil (w : World) : Calls Tryd.prog 8 #[.slice none 0 0, .slice none 0 0] w fun e w' => e = .returned (.bool true) ∧ Below w.heap.size w w' := by
  go_enter Tryd.func8, Tryd.ntmps8
  go_wp2
  go_loopw [5] (fun iv wr => iv = .int .i64 0 ∧ wr = w) (fun _ _ => 0)
  case atStart => exact ⟨rfl, rfl⟩
  case round =>
    obtain ⟨rfl, rfl⟩ := hrel
    go_wp2
    go_ret
    exact ⟨rfl, Below.refl _ _⟩
end Go.Proofs.YtmghlakedaigpaaDoor
