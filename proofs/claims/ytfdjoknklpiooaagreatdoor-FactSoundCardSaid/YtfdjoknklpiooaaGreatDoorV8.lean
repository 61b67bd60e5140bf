/- Contracts: linchpinref3.May, First, Last, Before, Behind. -/
import Derived.Test.YtfdjoknklpiooaaGreatDoorV7
import Derived.Laws.StructEq
import Derived.Laws.Rows
namespace Go.Proofs.YtfdjoknklpiooaaGreatDoor
open Go Go.RowKit

def zeroB (a b c : Int) (p q : ByteArray) : Bool := decide (a = 0) && (decide (b = 0) && (decide (c = 0) && (decide (p.size = 0) && decide (q.size = 0))))
theorem toList_size {p : ByteArray} : (p.toList == []) = decide (p.size = 0) := by
  by_cases h : p.size = 0
  · rw [empty_toList h, decide_eq_true h]; rfl
  · have := nonempty_toList (s := p) (by omega)
    rw [decide_eq_false h, beq_eq_false_iff_ne]
    intro e
    rw [e] at this
    cases this
theorem ver_zero (a b c : Int) (p q : ByteArray) (W : World) : (binOp .eql 54 (.agg #[.int .i64 a, .int .i64 b, .int .i64 c, .string p, .string q]) (.agg #[.int .i64 0, .int .i64 0, .int .i64 0, .string ⟨#[]⟩, .string ⟨#[]⟩])).run Tryz.prog W = .ok (.bool (zeroB a b c p q)) W := by
  have u3 := Tryz.underlying3
  have a3 := Tryz.isAgg3
  have z3 := Tryz.sizeOf3
  have u4 := Tryz.underlying9
  have a4 := Tryz.isAgg9
  have z4 := Tryz.sizeOf9
  have hS : Tryz.prog.underlying 54 = some (.struct (Tryz.prog.fieldsOf 54)) := by kernel_rfl
  have hp : Tryz.prog.stoodInHeld 54 = false := by kernel_rfl
  rw [run_eql_struct, show (10000 : Nat) = 9999 + 1 from rfl, run_equalIn_agg W 9999 54 _ _ hS hp]
  simp only [Program.fieldsOf, Tryz.underlying54]
  go_simp
  have e1 := toList_size (p := p)
  have e2 := toList_size (p := q)
  have h0 : (⟨#[]⟩ : ByteArray).toList = [] := empty_toList rfl
  unfold zeroB
  by_cases h1 : a = 0 <;> by_cases h2 : b = 0 <;> by_cases h3 : c = 0 <;> by_cases h4 : p.size = 0 <;> by_cases h5 : q.size = 0 <;> simp_all
theorem ver_eguard (op : BinOp) (x y : Operand) (xs ys : Array Value) (W : World) : (eqGuard op 54 x y (.agg xs) (.agg ys)).run Tryz.prog W = .ok () W :=
  run_eqGuard_agg W op 54 x y _ _ (by kernel_rfl)

def cutMay (c : Cut) : Bool := if c.en = 0 then mayV c.v && decide (c.v.build.size = 0) else (decide (c.en = -1) || decide (c.en = 1)) && zeroB c.v.major c.v.minor c.v.patch c.v.pre c.v.build && !c.after

set_option maxHeartbeats 1000000 in
theorem cmay_any (n a b c : Int) (p q : ByteArray) (f : Bool) (w : World) (h : VB a b c p q) :
    Calls Tryz.prog 162 #[.agg #[.int .i64 n, .int .i64 a, .int .i64 b, .int .i64 c, .string p, .string q, .bool f]] w fun e w' => e = .returned (.bool (cutMay ⟨n, ⟨a, b, c, p, q⟩, f⟩)) ∧ Below w.heap.size w w' := by
  have HV := hid h
  clear h
  by_cases hn : n = 0
  · have HU : Hid (cutMay ⟨n, ⟨a, b, c, p, q⟩, f⟩ = (mayV ⟨a, b, c, p, q⟩ && decide (q.size = 0))) := hid (by unfold cutMay; rw [if_pos hn])
    have e1 : (n == 0) = true := by rw [hn]; rfl
    clear hn
    by_cases hq : q.size = 0
    · have e2 : q.toList.isEmpty = true := by rw [empty_toList hq]; rfl
      have HU2 : Hid (cutMay ⟨n, ⟨a, b, c, p, q⟩, f⟩ = mayV ⟨a, b, c, p, q⟩) := hid (by rw [HU.out, decide_eq_true hq, Bool.and_true])
      clear hq
      cases hm : mayV ⟨a, b, c, p, q⟩
      all_goals
        have HM := hid hm
        clear hm
        go_enter Tryz.func162, Tryz.ntmps162
        go_wp2_with (go_at_call 40; (with_reducible refine (vmay_any a b c p q _ HV.out).mono ?_); rintro e w1 ⟨rfl, hb1⟩; rw [HM.out]; obtain ⟨hbc, hbf⟩ := bcell hb1; have hz0 : w.heap.size < w1.heap.size := Nat.lt_of_lt_of_le (by simp) hb1.size; have HB1 := hid (bstep (balloc (b0 w) _) hb1))
        go_ret
        exact ⟨ret_bool (by rw [HU2.out, HM.out]), HB1.out⟩
    · have e2 := nonempty_toList (s := q) (by omega)
      have HU2 : Hid (cutMay ⟨n, ⟨a, b, c, p, q⟩, f⟩ = false) := hid (by rw [HU.out, decide_eq_false hq, Bool.and_false])
      clear hq
      cases hm : mayV ⟨a, b, c, p, q⟩
      all_goals
        have HM := hid hm
        clear hm
        go_enter Tryz.func162, Tryz.ntmps162
        go_wp2_with (go_at_call 40; (with_reducible refine (vmay_any a b c p q _ HV.out).mono ?_); rintro e w1 ⟨rfl, hb1⟩; rw [HM.out]; obtain ⟨hbc, hbf⟩ := bcell hb1; have hz0 : w.heap.size < w1.heap.size := Nat.lt_of_lt_of_le (by simp) hb1.size; have HB1 := hid (bstep (balloc (b0 w) _) hb1))
        go_ret
        exact ⟨ret_bool HU2.out.symm, HB1.out⟩
  · have HU : Hid (cutMay ⟨n, ⟨a, b, c, p, q⟩, f⟩ = ((decide (n = -1) || decide (n = 1)) && zeroB a b c p q && !f)) := hid (by unfold cutMay; rw [if_neg hn])
    have e1 : (n == 0) = false := by rw [beq_eq_false_iff_ne]; exact hn
    have hzz := fun W => ver_zero a b c p q W
    have hgd := fun op x y xs ys W => ver_eguard op x y xs ys W
    clear hn
    by_cases h1 : n = -1
    · have e2 : (n == -1) = true := by rw [h1]; rfl
      have HU2 : Hid (cutMay ⟨n, ⟨a, b, c, p, q⟩, f⟩ = (zeroB a b c p q && !f)) := hid (by rw [HU.out, decide_eq_true h1]; rfl)
      clear h1
      cases hz : zeroB a b c p q <;> cases f
      all_goals
        go_enter Tryz.func162, Tryz.ntmps162
        go_wp2
        go_ret
        exact ⟨ret_bool (by rw [HU2.out, hz]; rfl), balloc (b0 w) _⟩
    · have e2 : (n == -1) = false := by rw [beq_eq_false_iff_ne]; exact h1
      by_cases h2 : n = 1
      · have e3 : (n == 1) = true := by rw [h2]; rfl
        have HU2 : Hid (cutMay ⟨n, ⟨a, b, c, p, q⟩, f⟩ = (zeroB a b c p q && !f)) := hid (by rw [HU.out, decide_eq_true h2, Bool.or_true, Bool.true_and])
        clear h1 h2
        cases hz : zeroB a b c p q <;> cases f
        all_goals
          go_enter Tryz.func162, Tryz.ntmps162
          go_wp2
          go_ret
          exact ⟨ret_bool (by rw [HU2.out, hz]; rfl), balloc (b0 w) _⟩
      · have e3 : (n == 1) = false := by rw [beq_eq_false_iff_ne]; exact h2
        have HU2 : Hid (cutMay ⟨n, ⟨a, b, c, p, q⟩, f⟩ = false) := hid (by rw [HU.out, decide_eq_false h1, decide_eq_false h2]; rfl)
        clear h1 h2
        go_enter Tryz.func162, Tryz.ntmps162
        go_wp2
        go_ret
        exact ⟨ret_bool HU2.out.symm, balloc (b0 w) _⟩

set_option maxHeartbeats 400000 in
theorem first_any (w : World) : Calls Tryz.prog 79 #[] w fun e w' => e = .returned (.agg #[.int .i64 (-1), .int .i64 0, .int .i64 0, .int .i64 0, .string ⟨#[]⟩, .string ⟨#[]⟩, .bool false]) ∧ Below w.heap.size w w' := by
  go_enter Tryz.func79, Tryz.ntmps79
  go_wp2
  exact bodyPost_ret (v := .agg #[.int .i64 (-1), .int .i64 0, .int .i64 0, .int .i64 0, .string ⟨#[]⟩, .string ⟨#[]⟩, .bool false]) (by simp [results, Tryz.results79, go_sem]) rfl ⟨rfl, balloc (b0 w) _⟩
set_option maxHeartbeats 400000 in
theorem last_any (w : World) : Calls Tryz.prog 81 #[] w fun e w' => e = .returned (.agg #[.int .i64 1, .int .i64 0, .int .i64 0, .int .i64 0, .string ⟨#[]⟩, .string ⟨#[]⟩, .bool false]) ∧ Below w.heap.size w w' := by
  go_enter Tryz.func81, Tryz.ntmps81
  go_wp2
  exact bodyPost_ret (v := .agg #[.int .i64 1, .int .i64 0, .int .i64 0, .int .i64 0, .string ⟨#[]⟩, .string ⟨#[]⟩, .bool false]) (by simp [results, Tryz.results81, go_sem]) rfl ⟨rfl, balloc (b0 w) _⟩
set_option maxHeartbeats 1000000 in
theorem before_any (a b c : Int) (p q : ByteArray) (w : World) : Calls Tryz.prog 42 #[.agg #[.int .i64 a, .int .i64 b, .int .i64 c, .string p, .string q]] w fun e w' => e = .returned (.agg #[.int .i64 0, .int .i64 a, .int .i64 b, .int .i64 c, .string p, .string ⟨#[]⟩, .bool false]) ∧ Below w.heap.size w w' := by
  go_enter Tryz.func42, Tryz.ntmps42
  go_wp2_with (go_at_call 77; refine (core_any a b c p q _).mono ?_; rintro e w1 ⟨rfl, hb1⟩; obtain ⟨hbc, hbf⟩ := bcell hb1; have hz : w.heap.size + 1 < w1.heap.size := Nat.lt_of_lt_of_le (by simp) hb1.size; have HB1 := hid (bstep (balloc (balloc (b0 w) _) _) hb1))
  exact bodyPost_ret (v := .agg #[.int .i64 0, .int .i64 a, .int .i64 b, .int .i64 c, .string p, .string ⟨#[]⟩, .bool false]) (by simp [results, Tryz.results42, go_sem, hbc]) rfl ⟨rfl, by repeat (first | (with_reducible exact HB1.out) | (with_reducible refine bset ?_ (by first | exact Nat.le_refl _ | simp) _) | (with_reducible refine balloc ?_ _))⟩
set_option maxHeartbeats 1000000 in
theorem behind3_any (a b c : Int) (p q : ByteArray) (w : World) : Calls Tryz.prog 43 #[.agg #[.int .i64 a, .int .i64 b, .int .i64 c, .string p, .string q]] w fun e w' => e = .returned (.agg #[.int .i64 0, .int .i64 a, .int .i64 b, .int .i64 c, .string p, .string ⟨#[]⟩, .bool true]) ∧ Below w.heap.size w w' := by
  go_enter Tryz.func43, Tryz.ntmps43
  go_wp2_with (go_at_call 77; refine (core_any a b c p q _).mono ?_; rintro e w1 ⟨rfl, hb1⟩; obtain ⟨hbc, hbf⟩ := bcell hb1; have hz : w.heap.size + 1 < w1.heap.size := Nat.lt_of_lt_of_le (by simp) hb1.size; have HB1 := hid (bstep (balloc (balloc (b0 w) _) _) hb1))
  exact bodyPost_ret (v := .agg #[.int .i64 0, .int .i64 a, .int .i64 b, .int .i64 c, .string p, .string ⟨#[]⟩, .bool true]) (by simp [results, Tryz.results43, go_sem, hbc]) rfl ⟨rfl, by repeat (first | (with_reducible exact HB1.out) | (with_reducible refine bset ?_ (by first | exact Nat.le_refl _ | simp) _) | (with_reducible refine balloc ?_ _))⟩
end Go.Proofs.YtfdjoknklpiooaaGreatDoor
