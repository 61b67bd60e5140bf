import Derived.Test.YthneiolcljnbeaaGreatDoorV7
import Derived.Laws.StructEq
import Derived.Laws.Rows
namespace Go.Proofs.YthneiolcljnbeaaGreatDoor
open Go Go.RowKit
section
def zeroB (a b c : Int) (p q : ByteArray) : Bool := decide (a = 0) && (decide (b = 0) && (decide (c = 0) && (decide (p.size = 0) && decide (q.size = 0))))
theorem toList_size {p : ByteArray} : (p.toList == []) = decide (p.size = 0) := by
 by_cases h : p.size = 0
 ·rw [empty_toList h, decide_eq_true h]; rfl
 ·have := nonempty_toList (s := p) (by omega)
  rw [decide_eq_false h, beq_eq_false_iff_ne]
  intro e
  rw [e] at this
  cases this
theorem ver_zero (a b c : Int) (p q : ByteArray) (W : World) : (binOp .eql 52 (.agg #[.int .i64 a, .int .i64 b, .int .i64 c, .string p, .string q]) (.agg #[.int .i64 0, .int .i64 0, .int .i64 0, .string ⟨#[]⟩, .string ⟨#[]⟩])).run Tryz.prog W = .ok (.bool (zeroB a b c p q)) W := by
 have u3 := Tryz.underlying3
 have a3 := Tryz.isAgg3
 have z3 := Tryz.sizeOf3
 have u4 := Tryz.underlying9
 have a4 := Tryz.isAgg9
 have z4 := Tryz.sizeOf9
 have hS : Tryz.prog.underlying 52 = some (.struct (Tryz.prog.fieldsOf 52)) := by kernel_rfl
 have hp : Tryz.prog.stoodInHeld 52 = false := by kernel_rfl
 rw [run_eql_struct, show (10000 : Nat) = 9999 + 1 from rfl, run_equalIn_agg W 9999 52 _ _ hS hp]
 simp only [Program.fieldsOf, Tryz.underlying52]
 go_simp
 have e1 := toList_size (p := p)
 have e2 := toList_size (p := q)
 have h0 : (⟨#[]⟩ : ByteArray).toList = [] := empty_toList rfl
 unfold zeroB
 by_cases h1 : a = 0 <;> by_cases h2 : b = 0 <;> by_cases h3 : c = 0 <;> by_cases h4 : p.size = 0 <;> by_cases h5 : q.size = 0 <;> simp_all
theorem ver_eguard (op : BinOp) (x y : Operand) (xs ys : Array Value) (W : World) : (eqGuard op 52 x y (.agg xs) (.agg ys)).run Tryz.prog W = .ok () W :=
 run_eqGuard_agg W op 52 x y _ _ (by kernel_rfl)
def cutMay (c : Cut) : Bool := if c.en = 0 then mayV c.v && decide (c.v.build.size = 0) else (decide (c.en = -1) || decide (c.en = 1)) && zeroB c.v.major c.v.minor c.v.patch c.v.pre c.v.build && !c.after
set_option maxHeartbeats 1000000 in
theorem cmay_any (n a b c : Int) (p q : ByteArray) (f : Bool) (w : World) (h : VB a b c p q) :
  Calls Tryz.prog 166 #[.agg #[.int .i64 n, .int .i64 a, .int .i64 b, .int .i64 c, .string p, .string q, .bool f]] w fun e w' => e = .returned (.bool (cutMay ⟨n, ⟨a, b, c, p, q⟩, f⟩)) ∧ Below w.heap.size w w' := by
 have HV := hid h
 clear h
 by_cases hn : n = 0
 ·have HU : Hid (cutMay ⟨n, ⟨a, b, c, p, q⟩, f⟩ = (mayV ⟨a, b, c, p, q⟩ && decide (q.size = 0))) := hid (by unfold cutMay; rw [if_pos hn])
  have e1 : (n == 0) = true := by rw [hn]; rfl
  clear hn
  by_cases hq : q.size = 0
  ·have e2 : q.toList.isEmpty = true := by rw [empty_toList hq]; rfl
   have HU2 : Hid (cutMay ⟨n, ⟨a, b, c, p, q⟩, f⟩ = mayV ⟨a, b, c, p, q⟩) := hid (by rw [HU.out, decide_eq_true hq, Bool.and_true])
   clear hq
   cases hm : mayV ⟨a, b, c, p, q⟩
   all_goals
    have HM := hid hm
    clear hm
    go_enter Tryz.func166, Tryz.ntmps166
    go_wp2_with (go_at_call 36; (with_reducible refine (vmay_any a b c p q _ HV.out).mono ?_); rintro e w1 ⟨rfl, hb1⟩; rw [HM.out]; obtain ⟨hbc, hbf⟩ := bcell hb1; have hz0 : w.heap.size < w1.heap.size := Nat.lt_of_lt_of_le (by simp) hb1.size; have HB1 := hid (bstep (balloc (b0 w) _) hb1))
    go_ret
    exact ⟨ret_bool (by rw [HU2.out, HM.out]), HB1.out⟩
  ·have e2 := nonempty_toList (s := q) (by omega)
   have HU2 : Hid (cutMay ⟨n, ⟨a, b, c, p, q⟩, f⟩ = false) := hid (by rw [HU.out, decide_eq_false hq, Bool.and_false])
   clear hq
   cases hm : mayV ⟨a, b, c, p, q⟩
   all_goals
    have HM := hid hm
    clear hm
    go_enter Tryz.func166, Tryz.ntmps166
    go_wp2_with (go_at_call 36; (with_reducible refine (vmay_any a b c p q _ HV.out).mono ?_); rintro e w1 ⟨rfl, hb1⟩; rw [HM.out]; obtain ⟨hbc, hbf⟩ := bcell hb1; have hz0 : w.heap.size < w1.heap.size := Nat.lt_of_lt_of_le (by simp) hb1.size; have HB1 := hid (bstep (balloc (b0 w) _) hb1))
    go_ret
    exact ⟨ret_bool HU2.out.symm, HB1.out⟩
 ·have HU : Hid (cutMay ⟨n, ⟨a, b, c, p, q⟩, f⟩ = ((decide (n = -1) || decide (n = 1)) && zeroB a b c p q && !f)) := hid (by unfold cutMay; rw [if_neg hn])
  have e1 : (n == 0) = false := by rw [beq_eq_false_iff_ne]; exact hn
  have hzz := fun W => ver_zero a b c p q W
  have hgd := fun op x y xs ys W => ver_eguard op x y xs ys W
  clear hn
  by_cases h1 : n = -1
  ·have e2 : (n == -1) = true := by rw [h1]; rfl
   have HU2 : Hid (cutMay ⟨n, ⟨a, b, c, p, q⟩, f⟩ = (zeroB a b c p q && !f)) := hid (by rw [HU.out, decide_eq_true h1]; rfl)
   clear h1
   cases hz : zeroB a b c p q <;> cases f
   all_goals
    go_enter Tryz.func166, Tryz.ntmps166
    go_wp2
    go_ret
    exact ⟨ret_bool (by rw [HU2.out, hz]; rfl), balloc (b0 w) _⟩
  ·have e2 : (n == -1) = false := by rw [beq_eq_false_iff_ne]; exact h1
   by_cases h2 : n = 1
   ·have e3 : (n == 1) = true := by rw [h2]; rfl
    have HU2 : Hid (cutMay ⟨n, ⟨a, b, c, p, q⟩, f⟩ = (zeroB a b c p q && !f)) := hid (by rw [HU.out, decide_eq_true h2, Bool.or_true, Bool.true_and])
    clear h1 h2
    cases hz : zeroB a b c p q <;> cases f
    all_goals
     go_enter Tryz.func166, Tryz.ntmps166
     go_wp2
     go_ret
     exact ⟨ret_bool (by rw [HU2.out, hz]; rfl), balloc (b0 w) _⟩
   ·have e3 : (n == 1) = false := by rw [beq_eq_false_iff_ne]; exact h2
    have HU2 : Hid (cutMay ⟨n, ⟨a, b, c, p, q⟩, f⟩ = false) := hid (by rw [HU.out, decide_eq_false h1, decide_eq_false h2]; rfl)
    clear h1 h2
    go_enter Tryz.func166, Tryz.ntmps166
    go_wp2
    go_ret
    exact ⟨ret_bool HU2.out.symm, balloc (b0 w) _⟩
set_option maxHeartbeats 400000 in
theorem first_any (w : World) : Calls Tryz.prog 73 #[] w fun e w' => e = .returned (.agg #[.int .i64 (-1), .int .i64 0, .int .i64 0, .int .i64 0, .string ⟨#[]⟩, .string ⟨#[]⟩, .bool false]) ∧ Below w.heap.size w w' := by
 go_enter Tryz.func73, Tryz.ntmps73
 go_wp2
 exact bodyPost_ret (v := .agg #[.int .i64 (-1), .int .i64 0, .int .i64 0, .int .i64 0, .string ⟨#[]⟩, .string ⟨#[]⟩, .bool false]) (by simp [results, Tryz.results73, go_sem]) rfl ⟨rfl, balloc (b0 w) _⟩
set_option maxHeartbeats 400000 in
theorem last_any (w : World) : Calls Tryz.prog 75 #[] w fun e w' => e = .returned (.agg #[.int .i64 1, .int .i64 0, .int .i64 0, .int .i64 0, .string ⟨#[]⟩, .string ⟨#[]⟩, .bool false]) ∧ Below w.heap.size w w' := by
 go_enter Tryz.func75, Tryz.ntmps75
 go_wp2
 exact bodyPost_ret (v := .agg #[.int .i64 1, .int .i64 0, .int .i64 0, .int .i64 0, .string ⟨#[]⟩, .string ⟨#[]⟩, .bool false]) (by simp [results, Tryz.results75, go_sem]) rfl ⟨rfl, balloc (b0 w) _⟩
set_option maxHeartbeats 1000000 in
theorem before_any (a b c : Int) (p q : ByteArray) (w : World) : Calls Tryz.prog 38 #[.agg #[.int .i64 a, .int .i64 b, .int .i64 c, .string p, .string q]] w fun e w' => e = .returned (.agg #[.int .i64 0, .int .i64 a, .int .i64 b, .int .i64 c, .string p, .string ⟨#[]⟩, .bool false]) ∧ Below w.heap.size w w' := by
 go_enter Tryz.func38, Tryz.ntmps38
 go_wp2_with (go_at_call 71; refine (core_any a b c p q _).mono ?_; rintro e w1 ⟨rfl, hb1⟩; obtain ⟨hbc, hbf⟩ := bcell hb1; have hz : w.heap.size + 1 < w1.heap.size := Nat.lt_of_lt_of_le (by simp) hb1.size; have HB1 := hid (bstep (balloc (balloc (b0 w) _) _) hb1))
 exact bodyPost_ret (v := .agg #[.int .i64 0, .int .i64 a, .int .i64 b, .int .i64 c, .string p, .string ⟨#[]⟩, .bool false]) (by simp [results, Tryz.results38, go_sem, hbc]) rfl ⟨rfl, by repeat (first | (with_reducible exact HB1.out) | (with_reducible refine bset ?_ (by first | exact Nat.le_refl _ | simp) _) | (with_reducible refine balloc ?_ _))⟩
set_option maxHeartbeats 1000000 in
theorem behind3_any (a b c : Int) (p q : ByteArray) (w : World) : Calls Tryz.prog 39 #[.agg #[.int .i64 a, .int .i64 b, .int .i64 c, .string p, .string q]] w fun e w' => e = .returned (.agg #[.int .i64 0, .int .i64 a, .int .i64 b, .int .i64 c, .string p, .string ⟨#[]⟩, .bool true]) ∧ Below w.heap.size w w' := by
 go_enter Tryz.func39, Tryz.ntmps39
 go_wp2_with (go_at_call 71; refine (core_any a b c p q _).mono ?_; rintro e w1 ⟨rfl, hb1⟩; obtain ⟨hbc, hbf⟩ := bcell hb1; have hz : w.heap.size + 1 < w1.heap.size := Nat.lt_of_lt_of_le (by simp) hb1.size; have HB1 := hid (bstep (balloc (balloc (b0 w) _) _) hb1))
 exact bodyPost_ret (v := .agg #[.int .i64 0, .int .i64 a, .int .i64 b, .int .i64 c, .string p, .string ⟨#[]⟩, .bool true]) (by simp [results, Tryz.results39, go_sem, hbc]) rfl ⟨rfl, by repeat (first | (with_reducible exact HB1.out) | (with_reducible refine bset ?_ (by first | exact Nat.le_refl _ | simp) _) | (with_reducible refine balloc ?_ _))⟩
end
section
def cmpC (u v : Cut) : Int :=
 if cutMay u = true ∧ cutMay v = true then
  (if u.en ≠ v.en ∨ u.en ≠ 0 then intsF u.en v.en else if cmpV u.v v.v ≠ 0 then cmpV u.v v.v else if u.after = v.after then 0 else if v.after = true then -1 else 1)
 else 0
set_option maxRecDepth 100000 in
set_option maxHeartbeats 1000000 in
theorem ccmp_any (n a b c : Int) (p q : ByteArray) (f : Bool) (n' a' b' c' : Int) (p' q' : ByteArray) (f' : Bool) (w : World) (h : VB a b c p q) (h' : VB a' b' c' p' q') :
  Calls Tryz.prog 146 #[.agg #[.int .i64 n, .int .i64 a, .int .i64 b, .int .i64 c, .string p, .string q, .bool f], .agg #[.int .i64 n', .int .i64 a', .int .i64 b', .int .i64 c', .string p', .string q', .bool f']] w fun e w' => e = .returned (.int .i64 (cmpC ⟨n, ⟨a, b, c, p, q⟩, f⟩ ⟨n', ⟨a', b', c', p', q'⟩, f'⟩)) ∧ Below w.heap.size w w' := by
 have HV := hid h
 have HV' := hid h'
 clear h h'
 cases h1 : cutMay ⟨n, ⟨a, b, c, p, q⟩, f⟩ with
 | false =>
  have H1 := hid h1
  have H : Hid (cmpC ⟨n, ⟨a, b, c, p, q⟩, f⟩ ⟨n', ⟨a', b', c', p', q'⟩, f'⟩ = 0) := hid (by unfold cmpC; rw [if_neg (by rw [h1]; simp)])
  clear h1
  go_enter Tryz.func146, Tryz.ntmps146
  go_wp2_with (first
   | (go_at_call 166; (with_reducible refine (cmay_any n a b c p q f _ HV.out).mono ?_); rintro e w1 ⟨rfl, hb1⟩; rw [H1.out]; obtain ⟨hbc, hbf⟩ := bcell hb1; have hz : w.heap.size + 1 < w1.heap.size := Nat.lt_of_lt_of_le (by simp) hb1.size; have hz0 : w.heap.size < w1.heap.size := Nat.lt_of_succ_lt hz; have HB1 := hid (bstep (balloc (balloc (b0 w) _) _) hb1))
   | (go_at_call 143; refine (ints_any _ _ _).mono ?_; rintro e w' ⟨rfl, rfl⟩)
   | (go_at_call 111; (with_reducible refine (vcmp_any a b c p q a' b' c' p' q' _ HV.out HV'.out).mono ?_); rintro e w3 ⟨rfl, hb3⟩; obtain ⟨hbc3, hbf3⟩ := bcell hb3; have HB3 := hid (bstep HB2.out hb3)))
  go_ret
  exact ⟨ret_int H.out.symm, HB1.out⟩
 | true =>
  have H1 := hid h1
  cases h2 : cutMay ⟨n', ⟨a', b', c', p', q'⟩, f'⟩ with
  | false =>
   have H2 := hid h2
   have H : Hid (cmpC ⟨n, ⟨a, b, c, p, q⟩, f⟩ ⟨n', ⟨a', b', c', p', q'⟩, f'⟩ = 0) := hid (by unfold cmpC; rw [if_neg (by rw [h2]; simp)])
   clear h1 h2
   go_enter Tryz.func146, Tryz.ntmps146
   go_wp2_with (first
    | (go_at_call 166; (with_reducible refine (cmay_any n a b c p q f _ HV.out).mono ?_); rintro e w1 ⟨rfl, hb1⟩; rw [H1.out]; obtain ⟨hbc, hbf⟩ := bcell hb1; have hz : w.heap.size + 1 < w1.heap.size := Nat.lt_of_lt_of_le (by simp) hb1.size; have hz0 : w.heap.size < w1.heap.size := Nat.lt_of_succ_lt hz; have HB1 := hid (bstep (balloc (balloc (b0 w) _) _) hb1))
    | (go_at_call 166; (with_reducible refine (cmay_any n' a' b' c' p' q' f' _ HV'.out).mono ?_); rintro e w2 ⟨rfl, hb2⟩; rw [H2.out]; obtain ⟨hbc2, hbf2⟩ := bcell hb2; have HB2 := hid (bstep HB1.out hb2); have hy : w.heap.size + 1 < w2.heap.size := Nat.lt_of_lt_of_le hz hb2.size; have hy0 : w.heap.size < w2.heap.size := Nat.lt_of_succ_lt hy)
    | (go_at_call 143; refine (ints_any _ _ _).mono ?_; rintro e w' ⟨rfl, rfl⟩)
    | (go_at_call 111; (with_reducible refine (vcmp_any a b c p q a' b' c' p' q' _ HV.out HV'.out).mono ?_); rintro e w3 ⟨rfl, hb3⟩; obtain ⟨hbc3, hbf3⟩ := bcell hb3; have HB3 := hid (bstep HB2.out hb3)))
   go_ret
   exact ⟨ret_int H.out.symm, HB2.out⟩
  | true =>
   have H2 := hid h2
   have H0 : Hid (cmpC ⟨n, ⟨a, b, c, p, q⟩, f⟩ ⟨n', ⟨a', b', c', p', q'⟩, f'⟩ = if n ≠ n' ∨ n ≠ 0 then intsF n n' else if cmpV ⟨a, b, c, p, q⟩ ⟨a', b', c', p', q'⟩ ≠ 0 then cmpV ⟨a, b, c, p, q⟩ ⟨a', b', c', p', q'⟩ else if f = f' then 0 else if f' = true then -1 else 1) := hid (by unfold cmpC; rw [if_pos ⟨h1, h2⟩])
   clear h1 h2
   by_cases k1 : n = n'
   ·have e1 : (n != n') = false := by rw [k1]; simp
    by_cases k2 : n = 0
    ·have e2 : (n != 0) = false := by rw [k2]; rfl
     by_cases k3 : cmpV ⟨a, b, c, p, q⟩ ⟨a', b', c', p', q'⟩ = 0
     ·have e3 : (cmpV ⟨a, b, c, p, q⟩ ⟨a', b', c', p', q'⟩ != 0) = false := by rw [k3]; rfl
      have H9 : Hid (cmpC ⟨n, ⟨a, b, c, p, q⟩, f⟩ ⟨n', ⟨a', b', c', p', q'⟩, f'⟩ = if f = f' then 0 else if f' = true then -1 else 1) := hid (by rw [H0.out, if_neg (by simp [k1]; omega), if_neg (by simp [k3])])
      clear k1 k2 k3 H0
      have H0 := H9
      cases f <;> cases f'
      ·have H : Hid (cmpC ⟨n, ⟨a, b, c, p, q⟩, false⟩ ⟨n', ⟨a', b', c', p', q'⟩, false⟩ = 0) := hid (by rw [H0.out]; rfl)
       go_enter Tryz.func146, Tryz.ntmps146
       go_wp2_with (first
        | (go_at_call 166; (with_reducible refine (cmay_any n a b c p q false _ HV.out).mono ?_); rintro e w1 ⟨rfl, hb1⟩; rw [H1.out]; obtain ⟨hbc, hbf⟩ := bcell hb1; have hz : w.heap.size + 1 < w1.heap.size := Nat.lt_of_lt_of_le (by simp) hb1.size; have hz0 : w.heap.size < w1.heap.size := Nat.lt_of_succ_lt hz; have HB1 := hid (bstep (balloc (balloc (b0 w) _) _) hb1))
        | (go_at_call 166; (with_reducible refine (cmay_any n' a' b' c' p' q' false _ HV'.out).mono ?_); rintro e w2 ⟨rfl, hb2⟩; rw [H2.out]; obtain ⟨hbc2, hbf2⟩ := bcell hb2; have HB2 := hid (bstep HB1.out hb2); have hy : w.heap.size + 1 < w2.heap.size := Nat.lt_of_lt_of_le hz hb2.size; have hy0 : w.heap.size < w2.heap.size := Nat.lt_of_succ_lt hy)
        | (go_at_call 143; refine (ints_any _ _ _).mono ?_; rintro e w' ⟨rfl, rfl⟩)
        | (go_at_call 111; (with_reducible refine (vcmp_any a b c p q a' b' c' p' q' _ HV.out HV'.out).mono ?_); rintro e w3 ⟨rfl, hb3⟩; obtain ⟨hbc3, hbf3⟩ := bcell hb3; have HB3 := hid (bstep HB2.out hb3)))
       go_ret
       exact ⟨ret_int H.out.symm, HB3.out⟩
      ·have H : Hid (cmpC ⟨n, ⟨a, b, c, p, q⟩, false⟩ ⟨n', ⟨a', b', c', p', q'⟩, true⟩ = -1) := hid (by rw [H0.out]; rfl)
       go_enter Tryz.func146, Tryz.ntmps146
       go_wp2_with (first
        | (go_at_call 166; (with_reducible refine (cmay_any n a b c p q false _ HV.out).mono ?_); rintro e w1 ⟨rfl, hb1⟩; rw [H1.out]; obtain ⟨hbc, hbf⟩ := bcell hb1; have hz : w.heap.size + 1 < w1.heap.size := Nat.lt_of_lt_of_le (by simp) hb1.size; have hz0 : w.heap.size < w1.heap.size := Nat.lt_of_succ_lt hz; have HB1 := hid (bstep (balloc (balloc (b0 w) _) _) hb1))
        | (go_at_call 166; (with_reducible refine (cmay_any n' a' b' c' p' q' true _ HV'.out).mono ?_); rintro e w2 ⟨rfl, hb2⟩; rw [H2.out]; obtain ⟨hbc2, hbf2⟩ := bcell hb2; have HB2 := hid (bstep HB1.out hb2); have hy : w.heap.size + 1 < w2.heap.size := Nat.lt_of_lt_of_le hz hb2.size; have hy0 : w.heap.size < w2.heap.size := Nat.lt_of_succ_lt hy)
        | (go_at_call 143; refine (ints_any _ _ _).mono ?_; rintro e w' ⟨rfl, rfl⟩)
        | (go_at_call 111; (with_reducible refine (vcmp_any a b c p q a' b' c' p' q' _ HV.out HV'.out).mono ?_); rintro e w3 ⟨rfl, hb3⟩; obtain ⟨hbc3, hbf3⟩ := bcell hb3; have HB3 := hid (bstep HB2.out hb3)))
       go_ret
       exact ⟨ret_int H.out.symm, HB3.out⟩
      ·have H : Hid (cmpC ⟨n, ⟨a, b, c, p, q⟩, true⟩ ⟨n', ⟨a', b', c', p', q'⟩, false⟩ = 1) := hid (by rw [H0.out]; rfl)
       go_enter Tryz.func146, Tryz.ntmps146
       go_wp2_with (first
        | (go_at_call 166; (with_reducible refine (cmay_any n a b c p q true _ HV.out).mono ?_); rintro e w1 ⟨rfl, hb1⟩; rw [H1.out]; obtain ⟨hbc, hbf⟩ := bcell hb1; have hz : w.heap.size + 1 < w1.heap.size := Nat.lt_of_lt_of_le (by simp) hb1.size; have hz0 : w.heap.size < w1.heap.size := Nat.lt_of_succ_lt hz; have HB1 := hid (bstep (balloc (balloc (b0 w) _) _) hb1))
        | (go_at_call 166; (with_reducible refine (cmay_any n' a' b' c' p' q' false _ HV'.out).mono ?_); rintro e w2 ⟨rfl, hb2⟩; rw [H2.out]; obtain ⟨hbc2, hbf2⟩ := bcell hb2; have HB2 := hid (bstep HB1.out hb2); have hy : w.heap.size + 1 < w2.heap.size := Nat.lt_of_lt_of_le hz hb2.size; have hy0 : w.heap.size < w2.heap.size := Nat.lt_of_succ_lt hy)
        | (go_at_call 143; refine (ints_any _ _ _).mono ?_; rintro e w' ⟨rfl, rfl⟩)
        | (go_at_call 111; (with_reducible refine (vcmp_any a b c p q a' b' c' p' q' _ HV.out HV'.out).mono ?_); rintro e w3 ⟨rfl, hb3⟩; obtain ⟨hbc3, hbf3⟩ := bcell hb3; have HB3 := hid (bstep HB2.out hb3)))
       go_ret
       exact ⟨ret_int H.out.symm, HB3.out⟩
      ·have H : Hid (cmpC ⟨n, ⟨a, b, c, p, q⟩, true⟩ ⟨n', ⟨a', b', c', p', q'⟩, true⟩ = 0) := hid (by rw [H0.out]; rfl)
       go_enter Tryz.func146, Tryz.ntmps146
       go_wp2_with (first
        | (go_at_call 166; (with_reducible refine (cmay_any n a b c p q true _ HV.out).mono ?_); rintro e w1 ⟨rfl, hb1⟩; rw [H1.out]; obtain ⟨hbc, hbf⟩ := bcell hb1; have hz : w.heap.size + 1 < w1.heap.size := Nat.lt_of_lt_of_le (by simp) hb1.size; have hz0 : w.heap.size < w1.heap.size := Nat.lt_of_succ_lt hz; have HB1 := hid (bstep (balloc (balloc (b0 w) _) _) hb1))
        | (go_at_call 166; (with_reducible refine (cmay_any n' a' b' c' p' q' true _ HV'.out).mono ?_); rintro e w2 ⟨rfl, hb2⟩; rw [H2.out]; obtain ⟨hbc2, hbf2⟩ := bcell hb2; have HB2 := hid (bstep HB1.out hb2); have hy : w.heap.size + 1 < w2.heap.size := Nat.lt_of_lt_of_le hz hb2.size; have hy0 : w.heap.size < w2.heap.size := Nat.lt_of_succ_lt hy)
        | (go_at_call 143; refine (ints_any _ _ _).mono ?_; rintro e w' ⟨rfl, rfl⟩)
        | (go_at_call 111; (with_reducible refine (vcmp_any a b c p q a' b' c' p' q' _ HV.out HV'.out).mono ?_); rintro e w3 ⟨rfl, hb3⟩; obtain ⟨hbc3, hbf3⟩ := bcell hb3; have HB3 := hid (bstep HB2.out hb3)))
       go_ret
       exact ⟨ret_int H.out.symm, HB3.out⟩
     ·have e3 : (cmpV ⟨a, b, c, p, q⟩ ⟨a', b', c', p', q'⟩ != 0) = true := by rw [bne_iff_ne]; exact k3
      have H : Hid (cmpC ⟨n, ⟨a, b, c, p, q⟩, f⟩ ⟨n', ⟨a', b', c', p', q'⟩, f'⟩ = cmpV ⟨a, b, c, p, q⟩ ⟨a', b', c', p', q'⟩) := hid (by rw [H0.out, if_neg (by simp [k1]; omega), if_pos k3])
      clear k1 k2 k3 H0
      go_enter Tryz.func146, Tryz.ntmps146
      go_wp2_with (first
       | (go_at_call 166; (with_reducible refine (cmay_any n a b c p q f _ HV.out).mono ?_); rintro e w1 ⟨rfl, hb1⟩; rw [H1.out]; obtain ⟨hbc, hbf⟩ := bcell hb1; have hz : w.heap.size + 1 < w1.heap.size := Nat.lt_of_lt_of_le (by simp) hb1.size; have hz0 : w.heap.size < w1.heap.size := Nat.lt_of_succ_lt hz; have HB1 := hid (bstep (balloc (balloc (b0 w) _) _) hb1))
       | (go_at_call 166; (with_reducible refine (cmay_any n' a' b' c' p' q' f' _ HV'.out).mono ?_); rintro e w2 ⟨rfl, hb2⟩; rw [H2.out]; obtain ⟨hbc2, hbf2⟩ := bcell hb2; have HB2 := hid (bstep HB1.out hb2); have hy : w.heap.size + 1 < w2.heap.size := Nat.lt_of_lt_of_le hz hb2.size; have hy0 : w.heap.size < w2.heap.size := Nat.lt_of_succ_lt hy)
       | (go_at_call 143; refine (ints_any _ _ _).mono ?_; rintro e w' ⟨rfl, rfl⟩)
       | (go_at_call 111; (with_reducible refine (vcmp_any a b c p q a' b' c' p' q' _ HV.out HV'.out).mono ?_); rintro e w3 ⟨rfl, hb3⟩; obtain ⟨hbc3, hbf3⟩ := bcell hb3; have HB3 := hid (bstep HB2.out hb3)))
      go_ret
      exact ⟨ret_int H.out.symm, HB3.out⟩
    ·have e2 : (n != 0) = true := by rw [bne_iff_ne]; exact k2
     have H : Hid (cmpC ⟨n, ⟨a, b, c, p, q⟩, f⟩ ⟨n', ⟨a', b', c', p', q'⟩, f'⟩ = intsF n n') := hid (by rw [H0.out, if_pos (.inr k2)])
     clear k1 k2 H0
     go_enter Tryz.func146, Tryz.ntmps146
     go_wp2_with (first
      | (go_at_call 166; (with_reducible refine (cmay_any n a b c p q f _ HV.out).mono ?_); rintro e w1 ⟨rfl, hb1⟩; rw [H1.out]; obtain ⟨hbc, hbf⟩ := bcell hb1; have hz : w.heap.size + 1 < w1.heap.size := Nat.lt_of_lt_of_le (by simp) hb1.size; have hz0 : w.heap.size < w1.heap.size := Nat.lt_of_succ_lt hz; have HB1 := hid (bstep (balloc (balloc (b0 w) _) _) hb1))
      | (go_at_call 166; (with_reducible refine (cmay_any n' a' b' c' p' q' f' _ HV'.out).mono ?_); rintro e w2 ⟨rfl, hb2⟩; rw [H2.out]; obtain ⟨hbc2, hbf2⟩ := bcell hb2; have HB2 := hid (bstep HB1.out hb2); have hy : w.heap.size + 1 < w2.heap.size := Nat.lt_of_lt_of_le hz hb2.size; have hy0 : w.heap.size < w2.heap.size := Nat.lt_of_succ_lt hy)
      | (go_at_call 143; refine (ints_any _ _ _).mono ?_; rintro e w' ⟨rfl, rfl⟩)
      | (go_at_call 111; (with_reducible refine (vcmp_any a b c p q a' b' c' p' q' _ HV.out HV'.out).mono ?_); rintro e w3 ⟨rfl, hb3⟩; obtain ⟨hbc3, hbf3⟩ := bcell hb3; have HB3 := hid (bstep HB2.out hb3)))
     go_ret
     exact ⟨ret_int H.out.symm, HB2.out⟩
   ·have e1 : (n != n') = true := by rw [bne_iff_ne]; exact k1
    have H : Hid (cmpC ⟨n, ⟨a, b, c, p, q⟩, f⟩ ⟨n', ⟨a', b', c', p', q'⟩, f'⟩ = intsF n n') := hid (by rw [H0.out, if_pos (.inl k1)])
    clear k1 H0
    go_enter Tryz.func146, Tryz.ntmps146
    go_wp2_with (first
     | (go_at_call 166; (with_reducible refine (cmay_any n a b c p q f _ HV.out).mono ?_); rintro e w1 ⟨rfl, hb1⟩; rw [H1.out]; obtain ⟨hbc, hbf⟩ := bcell hb1; have hz : w.heap.size + 1 < w1.heap.size := Nat.lt_of_lt_of_le (by simp) hb1.size; have hz0 : w.heap.size < w1.heap.size := Nat.lt_of_succ_lt hz; have HB1 := hid (bstep (balloc (balloc (b0 w) _) _) hb1))
     | (go_at_call 166; (with_reducible refine (cmay_any n' a' b' c' p' q' f' _ HV'.out).mono ?_); rintro e w2 ⟨rfl, hb2⟩; rw [H2.out]; obtain ⟨hbc2, hbf2⟩ := bcell hb2; have HB2 := hid (bstep HB1.out hb2); have hy : w.heap.size + 1 < w2.heap.size := Nat.lt_of_lt_of_le hz hb2.size; have hy0 : w.heap.size < w2.heap.size := Nat.lt_of_succ_lt hy)
     | (go_at_call 143; refine (ints_any _ _ _).mono ?_; rintro e w' ⟨rfl, rfl⟩)
     | (go_at_call 111; (with_reducible refine (vcmp_any a b c p q a' b' c' p' q' _ HV.out HV'.out).mono ?_); rintro e w3 ⟨rfl, hb3⟩; obtain ⟨hbc3, hbf3⟩ := bcell hb3; have HB3 := hid (bstep HB2.out hb3)))
    go_ret
    exact ⟨ret_int H.out.symm, HB2.out⟩
def spanMay (s : Span) : Bool := cutMay s.lo && (cutMay s.hi && decide (cmpC s.lo s.hi < 0))
set_option maxRecDepth 100000 in
set_option maxHeartbeats 1000000 in
theorem smay_any (n a b c : Int) (p q : ByteArray) (f : Bool) (n' a' b' c' : Int) (p' q' : ByteArray) (f' : Bool) (w : World) (h : VB a b c p q) (h' : VB a' b' c' p' q') :
  Calls Tryz.prog 145 #[.agg #[.int .i64 n, .int .i64 a, .int .i64 b, .int .i64 c, .string p, .string q, .bool f, .int .i64 n', .int .i64 a', .int .i64 b', .int .i64 c', .string p', .string q', .bool f']] w fun e w' => e = .returned (.bool (spanMay ⟨⟨n, ⟨a, b, c, p, q⟩, f⟩, ⟨n', ⟨a', b', c', p', q'⟩, f'⟩⟩)) ∧ Below w.heap.size w w' := by
 have HV := hid h
 have HV' := hid h'
 clear h h'
 cases h1 : cutMay ⟨n, ⟨a, b, c, p, q⟩, f⟩ with
 | false =>
  have H1 := hid h1
  have H : Hid (spanMay ⟨⟨n, ⟨a, b, c, p, q⟩, f⟩, ⟨n', ⟨a', b', c', p', q'⟩, f'⟩⟩ = false) := hid (by unfold spanMay; rw [h1]; rfl)
  clear h1
  go_enter Tryz.func145, Tryz.ntmps145
  go_wp2_with (first
   | (go_at_call 166; (with_reducible refine (cmay_any n a b c p q f _ HV.out).mono ?_); rintro e w1 ⟨rfl, hb1⟩; rw [H1.out]; obtain ⟨hbc, hbf⟩ := bcell hb1; have hz0 : w.heap.size < w1.heap.size := Nat.lt_of_lt_of_le (by simp) hb1.size; have HB1 := hid (bstep (balloc (b0 w) _) hb1))
   | (go_at_call 166; (with_reducible refine (cmay_any n' a' b' c' p' q' f' _ HV'.out).mono ?_); rintro e w2 ⟨rfl, hb2⟩; obtain ⟨hbc2, hbf2⟩ := bcell hb2; have HB2 := hid (bstep HB1.out hb2); have hy0 : w.heap.size < w2.heap.size := Nat.lt_of_lt_of_le hz0 hb2.size)
   | (go_at_call 146; (with_reducible refine (ccmp_any n a b c p q f n' a' b' c' p' q' f' _ HV.out HV'.out).mono ?_); rintro e w3 ⟨rfl, hb3⟩; have HB3 := hid (bstep HB2.out hb3)))
  go_ret
  exact ⟨ret_bool H.out.symm, HB1.out⟩
 | true =>
  have H1 := hid h1
  cases h2 : cutMay ⟨n', ⟨a', b', c', p', q'⟩, f'⟩ with
  | false =>
   have H2 := hid h2
   have H : Hid (spanMay ⟨⟨n, ⟨a, b, c, p, q⟩, f⟩, ⟨n', ⟨a', b', c', p', q'⟩, f'⟩⟩ = false) := hid (by unfold spanMay; rw [h1, h2]; rfl)
   clear h1 h2
   go_enter Tryz.func145, Tryz.ntmps145
   go_wp2_with (first
    | (go_at_call 166; (with_reducible refine (cmay_any n a b c p q f _ HV.out).mono ?_); rintro e w1 ⟨rfl, hb1⟩; rw [H1.out]; obtain ⟨hbc, hbf⟩ := bcell hb1; have hz0 : w.heap.size < w1.heap.size := Nat.lt_of_lt_of_le (by simp) hb1.size; have HB1 := hid (bstep (balloc (b0 w) _) hb1))
    | (go_at_call 166; (with_reducible refine (cmay_any n' a' b' c' p' q' f' _ HV'.out).mono ?_); rintro e w2 ⟨rfl, hb2⟩; rw [H2.out]; obtain ⟨hbc2, hbf2⟩ := bcell hb2; have HB2 := hid (bstep HB1.out hb2); have hy0 : w.heap.size < w2.heap.size := Nat.lt_of_lt_of_le hz0 hb2.size)
    | (go_at_call 146; (with_reducible refine (ccmp_any n a b c p q f n' a' b' c' p' q' f' _ HV.out HV'.out).mono ?_); rintro e w3 ⟨rfl, hb3⟩; have HB3 := hid (bstep HB2.out hb3)))
   go_ret
   exact ⟨ret_bool H.out.symm, HB2.out⟩
  | true =>
   have H2 := hid h2
   have H : Hid (spanMay ⟨⟨n, ⟨a, b, c, p, q⟩, f⟩, ⟨n', ⟨a', b', c', p', q'⟩, f'⟩⟩ = decide (cmpC ⟨n, ⟨a, b, c, p, q⟩, f⟩ ⟨n', ⟨a', b', c', p', q'⟩, f'⟩ < 0)) := hid (by unfold spanMay; rw [h1, h2]; rfl)
   clear h1 h2
   by_cases k : cmpC ⟨n, ⟨a, b, c, p, q⟩, f⟩ ⟨n', ⟨a', b', c', p', q'⟩, f'⟩ < 0
   ·have e1 : decide (cmpC ⟨n, ⟨a, b, c, p, q⟩, f⟩ ⟨n', ⟨a', b', c', p', q'⟩, f'⟩ < 0) = true := decide_eq_true k
    have HK := hid e1
    go_enter Tryz.func145, Tryz.ntmps145
    go_wp2_with (first
     | (go_at_call 166; (with_reducible refine (cmay_any n a b c p q f _ HV.out).mono ?_); rintro e w1 ⟨rfl, hb1⟩; rw [H1.out]; obtain ⟨hbc, hbf⟩ := bcell hb1; have hz0 : w.heap.size < w1.heap.size := Nat.lt_of_lt_of_le (by simp) hb1.size; have HB1 := hid (bstep (balloc (b0 w) _) hb1))
     | (go_at_call 166; (with_reducible refine (cmay_any n' a' b' c' p' q' f' _ HV'.out).mono ?_); rintro e w2 ⟨rfl, hb2⟩; rw [H2.out]; obtain ⟨hbc2, hbf2⟩ := bcell hb2; have HB2 := hid (bstep HB1.out hb2); have hy0 : w.heap.size < w2.heap.size := Nat.lt_of_lt_of_le hz0 hb2.size)
     | (go_at_call 146; (with_reducible refine (ccmp_any n a b c p q f n' a' b' c' p' q' f' _ HV.out HV'.out).mono ?_); rintro e w3 ⟨rfl, hb3⟩; have HB3 := hid (bstep HB2.out hb3)))
    go_ret
    exact ⟨ret_bool (by rw [H.out, HK.out]), HB3.out⟩
   ·have e1 : decide (cmpC ⟨n, ⟨a, b, c, p, q⟩, f⟩ ⟨n', ⟨a', b', c', p', q'⟩, f'⟩ < 0) = false := decide_eq_false k
    have HK := hid e1
    go_enter Tryz.func145, Tryz.ntmps145
    go_wp2_with (first
     | (go_at_call 166; (with_reducible refine (cmay_any n a b c p q f _ HV.out).mono ?_); rintro e w1 ⟨rfl, hb1⟩; rw [H1.out]; obtain ⟨hbc, hbf⟩ := bcell hb1; have hz0 : w.heap.size < w1.heap.size := Nat.lt_of_lt_of_le (by simp) hb1.size; have HB1 := hid (bstep (balloc (b0 w) _) hb1))
     | (go_at_call 166; (with_reducible refine (cmay_any n' a' b' c' p' q' f' _ HV'.out).mono ?_); rintro e w2 ⟨rfl, hb2⟩; rw [H2.out]; obtain ⟨hbc2, hbf2⟩ := bcell hb2; have HB2 := hid (bstep HB1.out hb2); have hy0 : w.heap.size < w2.heap.size := Nat.lt_of_lt_of_le hz0 hb2.size)
     | (go_at_call 146; (with_reducible refine (ccmp_any n a b c p q f n' a' b' c' p' q' f' _ HV.out HV'.out).mono ?_); rintro e w3 ⟨rfl, hb3⟩; have HB3 := hid (bstep HB2.out hb3)))
    go_ret
    exact ⟨ret_bool (by rw [H.out, HK.out]), HB3.out⟩
end
end Go.Proofs.YthneiolcljnbeaaGreatDoor
