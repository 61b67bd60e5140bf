import Derived.Test.YtbfbppjccbppiaaGreatDoorzN9
import Derived.Outline
namespace Go.Proofs.YtbfbppjccbppiaaGreatDoor
open Go Go.RowKit
section
set_option maxRecDepth 100000 in
set_option maxHeartbeats 4000000 in
theorem qi1 (n a b c : Int) (p q : ByteArray) (f : Bool) (a' b' c' : Int) (p' q' : ByteArray) (w : World) (_hn : I64 n) (h : VB a b c p q) (h' : VB a' b' c' p' q') :
  Calls Tryz.prog 202 #[.agg #[.int .i64 n, .int .i64 a, .int .i64 b, .int .i64 c, .string p, .string q, .bool f], .agg #[.int .i64 a', .int .i64 b', .int .i64 c', .string p', .string q']] w fun e w' => e = .returned (.bool (qo4 ⟨n, ⟨a, b, c, p, q⟩, f⟩ ⟨a', b', c', p', q'⟩)) ∧ Below w.heap.size w w' := by
 have HV := hid h
 have HV' := hid h'
 clear h h'
 cases h1 : qk0 ⟨n, ⟨a, b, c, p, q⟩, f⟩ with
 | false =>
  have H1 := hid h1
  have H : Hid (qo4 ⟨n, ⟨a, b, c, p, q⟩, f⟩ ⟨a', b', c', p', q'⟩ = false) := hid (by unfold qo4; rw [h1]; rfl)
  clear h1
  go_enter Tryz.func202, Tryz.ntmps202
  go_wp2_with (first
   | (go_at_call 194; (with_reducible refine (qd1 n a b c p q f _ HV.out).mono ?_); rintro e w1 ⟨rfl, hb1⟩; rw [H1.out]; obtain ⟨hbc, hbf⟩ := qb4 hb1; have hz1 : w.heap.size < w1.heap.size := Nat.lt_of_lt_of_le (by simp; omega) hb1.size; have hy1 : w.heap.size + 1 < w1.heap.size := Nat.lt_of_lt_of_le (by simp) hb1.size; have HW1 := hid (qa1 (qa0 (qa0 (b0 w) _) _) hb1))
   | (go_at_call 54; (with_reducible refine (qb6 a' b' c' p' q' _ HV'.out).mono ?_); rintro e w2 ⟨rfl, hb2⟩; obtain ⟨hbc2, hbf2⟩ := qb4 hb2; have hz2 : w.heap.size < w2.heap.size := Nat.lt_of_lt_of_le hz1 hb2.size; have hy2 : w.heap.size + 1 < w2.heap.size := Nat.lt_of_lt_of_le hy1 hb2.size; have HW2 := hid (qa1 HW1.out hb2))
   | (go_at_call 196; (with_reducible refine (qh9 a b c p q a' b' c' p' q' _ HV.out HV'.out).mono ?_); rintro e w3 ⟨rfl, hb3⟩; obtain ⟨hbc3, hbf3⟩ := qb4 hb3; have hz3 : w.heap.size < w3.heap.size := Nat.lt_of_lt_of_le hz2 hb3.size; have HW3 := hid (qa1 HW2.out hb3)))
  all_goals go_ret
  all_goals exact ⟨qa4 H.out.symm, HW1.out⟩
 | true =>
  have H1 := hid h1
  cases h2 : mayV ⟨a', b', c', p', q'⟩ with
  | false =>
   have H2 := hid h2
   have H : Hid (qo4 ⟨n, ⟨a, b, c, p, q⟩, f⟩ ⟨a', b', c', p', q'⟩ = false) := hid (by unfold qo4; rw [h1, h2]; rfl)
   clear h1 h2
   go_enter Tryz.func202, Tryz.ntmps202
   go_wp2_with (first
    | (go_at_call 194; (with_reducible refine (qd1 n a b c p q f _ HV.out).mono ?_); rintro e w1 ⟨rfl, hb1⟩; rw [H1.out]; obtain ⟨hbc, hbf⟩ := qb4 hb1; have hz1 : w.heap.size < w1.heap.size := Nat.lt_of_lt_of_le (by simp; omega) hb1.size; have hy1 : w.heap.size + 1 < w1.heap.size := Nat.lt_of_lt_of_le (by simp) hb1.size; have HW1 := hid (qa1 (qa0 (qa0 (b0 w) _) _) hb1))
    | (go_at_call 54; (with_reducible refine (qb6 a' b' c' p' q' _ HV'.out).mono ?_); rintro e w2 ⟨rfl, hb2⟩; rw [H2.out]; obtain ⟨hbc2, hbf2⟩ := qb4 hb2; have hz2 : w.heap.size < w2.heap.size := Nat.lt_of_lt_of_le hz1 hb2.size; have hy2 : w.heap.size + 1 < w2.heap.size := Nat.lt_of_lt_of_le hy1 hb2.size; have HW2 := hid (qa1 HW1.out hb2))
    | (go_at_call 196; (with_reducible refine (qh9 a b c p q a' b' c' p' q' _ HV.out HV'.out).mono ?_); rintro e w3 ⟨rfl, hb3⟩; obtain ⟨hbc3, hbf3⟩ := qb4 hb3; have hz3 : w.heap.size < w3.heap.size := Nat.lt_of_lt_of_le hz2 hb3.size; have HW3 := hid (qa1 HW2.out hb3)))
   all_goals go_ret
   all_goals exact ⟨qa4 H.out.symm, HW2.out⟩
  | true =>
   have H2 := hid h2
   have HA : qo4 ⟨n, ⟨a, b, c, p, q⟩, f⟩ ⟨a', b', c', p', q'⟩ = (if n = 0 then decide (cmpV ⟨a, b, c, p, q⟩ ⟨a', b', c', p', q'⟩ < 0) || (decide (cmpV ⟨a, b, c, p, q⟩ ⟨a', b', c', p', q'⟩ = 0) && !f) else decide (n < 0)) := by unfold qo4; rw [h1, h2]; rfl
   clear h1 h2
   by_cases hn0 : n = 0
   ·obtain ⟨k, hk⟩ : ∃ k, cmpV ⟨a, b, c, p, q⟩ ⟨a', b', c', p', q'⟩ = k := ⟨_, rfl⟩
    have HK := hid hk
    rw [if_pos hn0, hk] at HA
    have z0 : (n != 0) = false := by simp [hn0]
    have hcase : k < 0 ∨ k = 0 ∨ 0 < k := by omega
    clear hk hn0
    rcases hcase with hk | hk | hk
    ·have z1 : decide (k < 0) = true := decide_eq_true hk
     have H : Hid (qo4 ⟨n, ⟨a, b, c, p, q⟩, f⟩ ⟨a', b', c', p', q'⟩ = true) := hid (by rw [HA, z1]; rfl)
     clear HA
     go_enter Tryz.func202, Tryz.ntmps202
     go_wp2_with (first
      | (go_at_call 194; (with_reducible refine (qd1 n a b c p q f _ HV.out).mono ?_); rintro e w1 ⟨rfl, hb1⟩; rw [H1.out]; obtain ⟨hbc, hbf⟩ := qb4 hb1; have hz1 : w.heap.size < w1.heap.size := Nat.lt_of_lt_of_le (by simp; omega) hb1.size; have hy1 : w.heap.size + 1 < w1.heap.size := Nat.lt_of_lt_of_le (by simp) hb1.size; have HW1 := hid (qa1 (qa0 (qa0 (b0 w) _) _) hb1))
      | (go_at_call 54; (with_reducible refine (qb6 a' b' c' p' q' _ HV'.out).mono ?_); rintro e w2 ⟨rfl, hb2⟩; rw [H2.out]; obtain ⟨hbc2, hbf2⟩ := qb4 hb2; have hz2 : w.heap.size < w2.heap.size := Nat.lt_of_lt_of_le hz1 hb2.size; have hy2 : w.heap.size + 1 < w2.heap.size := Nat.lt_of_lt_of_le hy1 hb2.size; have HW2 := hid (qa1 HW1.out hb2))
      | (go_at_call 196; (with_reducible refine (qh9 a b c p q a' b' c' p' q' _ HV.out HV'.out).mono ?_); rintro e w3 ⟨rfl, hb3⟩; rw [HK.out]; obtain ⟨hbc3, hbf3⟩ := qb4 hb3; have hz3 : w.heap.size < w3.heap.size := Nat.lt_of_lt_of_le hz2 hb3.size; have HW3 := hid (qa1 HW2.out hb3)))
     all_goals go_ret
     all_goals exact ⟨qa4 H.out.symm, HW3.out⟩
    ·have z1 : decide (k < 0) = false := decide_eq_false (by omega)
     have z2 : (k == 0) = true := by rw [beq_iff_eq]; exact hk
     have H : Hid (qo4 ⟨n, ⟨a, b, c, p, q⟩, f⟩ ⟨a', b', c', p', q'⟩ = !f) := hid (by rw [HA, z1, decide_eq_true hk]; simp)
     clear HA hk
     go_enter Tryz.func202, Tryz.ntmps202
     go_wp2_with (first
      | (go_at_call 194; (with_reducible refine (qd1 n a b c p q f _ HV.out).mono ?_); rintro e w1 ⟨rfl, hb1⟩; rw [H1.out]; obtain ⟨hbc, hbf⟩ := qb4 hb1; have hz1 : w.heap.size < w1.heap.size := Nat.lt_of_lt_of_le (by simp; omega) hb1.size; have hy1 : w.heap.size + 1 < w1.heap.size := Nat.lt_of_lt_of_le (by simp) hb1.size; have HW1 := hid (qa1 (qa0 (qa0 (b0 w) _) _) hb1))
      | (go_at_call 54; (with_reducible refine (qb6 a' b' c' p' q' _ HV'.out).mono ?_); rintro e w2 ⟨rfl, hb2⟩; rw [H2.out]; obtain ⟨hbc2, hbf2⟩ := qb4 hb2; have hz2 : w.heap.size < w2.heap.size := Nat.lt_of_lt_of_le hz1 hb2.size; have hy2 : w.heap.size + 1 < w2.heap.size := Nat.lt_of_lt_of_le hy1 hb2.size; have HW2 := hid (qa1 HW1.out hb2))
      | (go_at_call 196; (with_reducible refine (qh9 a b c p q a' b' c' p' q' _ HV.out HV'.out).mono ?_); rintro e w3 ⟨rfl, hb3⟩; rw [HK.out]; obtain ⟨hbc3, hbf3⟩ := qb4 hb3; have hz3 : w.heap.size < w3.heap.size := Nat.lt_of_lt_of_le hz2 hb3.size; have HW3 := hid (qa1 HW2.out hb3)))
     all_goals go_ret
     all_goals exact ⟨qa4 H.out.symm, HW3.out⟩
    ·have z1 : decide (k < 0) = false := decide_eq_false (by omega)
     have z2 : (k == 0) = false := by rw [beq_eq_false_iff_ne]; omega
     have H : Hid (qo4 ⟨n, ⟨a, b, c, p, q⟩, f⟩ ⟨a', b', c', p', q'⟩ = false) := hid (by rw [HA, z1, decide_eq_false (by omega)]; rfl)
     clear HA hk
     go_enter Tryz.func202, Tryz.ntmps202
     go_wp2_with (first
      | (go_at_call 194; (with_reducible refine (qd1 n a b c p q f _ HV.out).mono ?_); rintro e w1 ⟨rfl, hb1⟩; rw [H1.out]; obtain ⟨hbc, hbf⟩ := qb4 hb1; have hz1 : w.heap.size < w1.heap.size := Nat.lt_of_lt_of_le (by simp; omega) hb1.size; have hy1 : w.heap.size + 1 < w1.heap.size := Nat.lt_of_lt_of_le (by simp) hb1.size; have HW1 := hid (qa1 (qa0 (qa0 (b0 w) _) _) hb1))
      | (go_at_call 54; (with_reducible refine (qb6 a' b' c' p' q' _ HV'.out).mono ?_); rintro e w2 ⟨rfl, hb2⟩; rw [H2.out]; obtain ⟨hbc2, hbf2⟩ := qb4 hb2; have hz2 : w.heap.size < w2.heap.size := Nat.lt_of_lt_of_le hz1 hb2.size; have hy2 : w.heap.size + 1 < w2.heap.size := Nat.lt_of_lt_of_le hy1 hb2.size; have HW2 := hid (qa1 HW1.out hb2))
      | (go_at_call 196; (with_reducible refine (qh9 a b c p q a' b' c' p' q' _ HV.out HV'.out).mono ?_); rintro e w3 ⟨rfl, hb3⟩; rw [HK.out]; obtain ⟨hbc3, hbf3⟩ := qb4 hb3; have hz3 : w.heap.size < w3.heap.size := Nat.lt_of_lt_of_le hz2 hb3.size; have HW3 := hid (qa1 HW2.out hb3)))
     all_goals go_ret
     all_goals exact ⟨qa4 H.out.symm, HW3.out⟩
   ·have z0 : (n != 0) = true := by simp [hn0]
    rw [if_neg hn0] at HA
    have H := hid HA
    clear HA hn0
    go_enter Tryz.func202, Tryz.ntmps202
    go_wp2_with (first
     | (go_at_call 194; (with_reducible refine (qd1 n a b c p q f _ HV.out).mono ?_); rintro e w1 ⟨rfl, hb1⟩; rw [H1.out]; obtain ⟨hbc, hbf⟩ := qb4 hb1; have hz1 : w.heap.size < w1.heap.size := Nat.lt_of_lt_of_le (by simp; omega) hb1.size; have hy1 : w.heap.size + 1 < w1.heap.size := Nat.lt_of_lt_of_le (by simp) hb1.size; have HW1 := hid (qa1 (qa0 (qa0 (b0 w) _) _) hb1))
     | (go_at_call 54; (with_reducible refine (qb6 a' b' c' p' q' _ HV'.out).mono ?_); rintro e w2 ⟨rfl, hb2⟩; rw [H2.out]; obtain ⟨hbc2, hbf2⟩ := qb4 hb2; have hz2 : w.heap.size < w2.heap.size := Nat.lt_of_lt_of_le hz1 hb2.size; have hy2 : w.heap.size + 1 < w2.heap.size := Nat.lt_of_lt_of_le hy1 hb2.size; have HW2 := hid (qa1 HW1.out hb2))
     | (go_at_call 196; (with_reducible refine (qh9 a b c p q a' b' c' p' q' _ HV.out HV'.out).mono ?_); rintro e w3 ⟨rfl, hb3⟩; rw [HK.out]; obtain ⟨hbc3, hbf3⟩ := qb4 hb3; have hz3 : w.heap.size < w3.heap.size := Nat.lt_of_lt_of_le hz2 hb3.size; have HW3 := hid (qa1 HW2.out hb3)))
    all_goals go_ret
    all_goals exact ⟨qa4 H.out.symm, HW2.out⟩
end
section
set_option maxRecDepth 100000 in
set_option maxHeartbeats 4000000 in
theorem holds3_any (n a b c : Int) (p q : ByteArray) (f : Bool) (n' a' b' c' : Int) (p' q' : ByteArray) (f' : Bool) (x y z : Int) (r s : ByteArray) (w : World) (hn : I64 n) (hn' : I64 n') (h : VB a b c p q) (h' : VB a' b' c' p' q') (hx : VB x y z r s) :
  Calls Tryz.prog 193 #[.agg #[.int .i64 n, .int .i64 a, .int .i64 b, .int .i64 c, .string p, .string q, .bool f, .int .i64 n', .int .i64 a', .int .i64 b', .int .i64 c', .string p', .string q', .bool f'], .agg #[.int .i64 x, .int .i64 y, .int .i64 z, .string r, .string s]] w fun e w' => e = .returned (.bool (qk4 ⟨⟨n, ⟨a, b, c, p, q⟩, f⟩, ⟨n', ⟨a', b', c', p', q'⟩, f'⟩⟩ ⟨x, y, z, r, s⟩)) ∧ Below w.heap.size w w' := by
 have HV := hid h
 have HV' := hid h'
 have HX := hid hx
 have HN := hid hn
 have HN' := hid hn'
 clear h h' hx hn hn'
 cases h1 : qj2 ⟨⟨n, ⟨a, b, c, p, q⟩, f⟩, ⟨n', ⟨a', b', c', p', q'⟩, f'⟩⟩ with
 | false =>
  have H1 := hid h1
  have H : Hid (qk4 ⟨⟨n, ⟨a, b, c, p, q⟩, f⟩, ⟨n', ⟨a', b', c', p', q'⟩, f'⟩⟩ ⟨x, y, z, r, s⟩ = false) := hid (by unfold qk4; rw [h1]; rfl)
  clear h1
  go_enter Tryz.func193, Tryz.ntmps193
  have t1 := hid True.intro
  go_wp2_with (first
   | (go_at_call 179; (with_reducible refine (qv6 n a b c p q f n' a' b' c' p' q' f' _ HV.out HV'.out).mono ?_); rintro e w1 ⟨rfl, hb1⟩; rw [H1.out]; obtain ⟨hbc, hbf⟩ := qb4 hb1; have hz1 : w.heap.size < w1.heap.size := Nat.lt_of_lt_of_le (by simp; omega) hb1.size; have hy1 : w.heap.size + 1 < w1.heap.size := Nat.lt_of_lt_of_le (by simp) hb1.size; have HW1 := hid (qa1 (qa0 (qa0 (b0 w) _) _) hb1))
   | (go_at_call 54; (with_reducible refine (qb6 x y z r s _ HX.out).mono ?_); rintro e w2 ⟨rfl, hb2⟩; obtain ⟨hbc2, hbf2⟩ := qb4 hb2; have hz2 : w.heap.size < w2.heap.size := Nat.lt_of_lt_of_le hz1 hb2.size; have hy2 : w.heap.size + 1 < w2.heap.size := Nat.lt_of_lt_of_le hy1 hb2.size; have HW2 := hid (qa1 HW1.out hb2))
   | (clear t1; go_at_call 202; (with_reducible refine (qi1 n a b c p q f x y z r s _ HN.out HV.out HX.out).mono ?_); rintro e w3 ⟨rfl, hb3⟩; obtain ⟨hbc3, hbf3⟩ := qb4 hb3; have hz3 : w.heap.size < w3.heap.size := Nat.lt_of_lt_of_le hz2 hb3.size; have hy3 : w.heap.size + 1 < w3.heap.size := Nat.lt_of_lt_of_le hy2 hb3.size; have HW3 := hid (qa1 HW2.out hb3))
   | (go_at_call 202; (with_reducible refine (qi1 n' a' b' c' p' q' f' x y z r s _ HN'.out HV'.out HX.out).mono ?_); rintro e w4 ⟨rfl, hb4⟩; have HW4 := hid (qa1 HW3.out hb4)))
  all_goals go_ret
  all_goals exact ⟨qa4 H.out.symm, HW1.out⟩
 | true =>
  have H1 := hid h1
  cases h2 : mayV ⟨x, y, z, r, s⟩ with
  | false =>
   have H2 := hid h2
   have H : Hid (qk4 ⟨⟨n, ⟨a, b, c, p, q⟩, f⟩, ⟨n', ⟨a', b', c', p', q'⟩, f'⟩⟩ ⟨x, y, z, r, s⟩ = false) := hid (by unfold qk4; rw [h1, h2]; rfl)
   clear h1 h2
   go_enter Tryz.func193, Tryz.ntmps193
   have t1 := hid True.intro
   go_wp2_with (first
    | (go_at_call 179; (with_reducible refine (qv6 n a b c p q f n' a' b' c' p' q' f' _ HV.out HV'.out).mono ?_); rintro e w1 ⟨rfl, hb1⟩; rw [H1.out]; obtain ⟨hbc, hbf⟩ := qb4 hb1; have hz1 : w.heap.size < w1.heap.size := Nat.lt_of_lt_of_le (by simp; omega) hb1.size; have hy1 : w.heap.size + 1 < w1.heap.size := Nat.lt_of_lt_of_le (by simp) hb1.size; have HW1 := hid (qa1 (qa0 (qa0 (b0 w) _) _) hb1))
    | (go_at_call 54; (with_reducible refine (qb6 x y z r s _ HX.out).mono ?_); rintro e w2 ⟨rfl, hb2⟩; rw [H2.out]; obtain ⟨hbc2, hbf2⟩ := qb4 hb2; have hz2 : w.heap.size < w2.heap.size := Nat.lt_of_lt_of_le hz1 hb2.size; have hy2 : w.heap.size + 1 < w2.heap.size := Nat.lt_of_lt_of_le hy1 hb2.size; have HW2 := hid (qa1 HW1.out hb2))
    | (clear t1; go_at_call 202; (with_reducible refine (qi1 n a b c p q f x y z r s _ HN.out HV.out HX.out).mono ?_); rintro e w3 ⟨rfl, hb3⟩; obtain ⟨hbc3, hbf3⟩ := qb4 hb3; have hz3 : w.heap.size < w3.heap.size := Nat.lt_of_lt_of_le hz2 hb3.size; have hy3 : w.heap.size + 1 < w3.heap.size := Nat.lt_of_lt_of_le hy2 hb3.size; have HW3 := hid (qa1 HW2.out hb3))
    | (go_at_call 202; (with_reducible refine (qi1 n' a' b' c' p' q' f' x y z r s _ HN'.out HV'.out HX.out).mono ?_); rintro e w4 ⟨rfl, hb4⟩; have HW4 := hid (qa1 HW3.out hb4)))
   all_goals go_ret
   all_goals exact ⟨qa4 H.out.symm, HW2.out⟩
  | true =>
   have H2 := hid h2
   cases h3 : qo4 ⟨n, ⟨a, b, c, p, q⟩, f⟩ ⟨x, y, z, r, s⟩ with
   | false =>
    have H3 := hid h3
    have H : Hid (qk4 ⟨⟨n, ⟨a, b, c, p, q⟩, f⟩, ⟨n', ⟨a', b', c', p', q'⟩, f'⟩⟩ ⟨x, y, z, r, s⟩ = false) := hid (by unfold qk4; rw [h1, h2, h3]; rfl)
    clear h1 h2 h3
    go_enter Tryz.func193, Tryz.ntmps193
    have t1 := hid True.intro
    go_wp2_with (first
     | (go_at_call 179; (with_reducible refine (qv6 n a b c p q f n' a' b' c' p' q' f' _ HV.out HV'.out).mono ?_); rintro e w1 ⟨rfl, hb1⟩; rw [H1.out]; obtain ⟨hbc, hbf⟩ := qb4 hb1; have hz1 : w.heap.size < w1.heap.size := Nat.lt_of_lt_of_le (by simp; omega) hb1.size; have hy1 : w.heap.size + 1 < w1.heap.size := Nat.lt_of_lt_of_le (by simp) hb1.size; have HW1 := hid (qa1 (qa0 (qa0 (b0 w) _) _) hb1))
     | (go_at_call 54; (with_reducible refine (qb6 x y z r s _ HX.out).mono ?_); rintro e w2 ⟨rfl, hb2⟩; rw [H2.out]; obtain ⟨hbc2, hbf2⟩ := qb4 hb2; have hz2 : w.heap.size < w2.heap.size := Nat.lt_of_lt_of_le hz1 hb2.size; have hy2 : w.heap.size + 1 < w2.heap.size := Nat.lt_of_lt_of_le hy1 hb2.size; have HW2 := hid (qa1 HW1.out hb2))
     | (clear t1; go_at_call 202; (with_reducible refine (qi1 n a b c p q f x y z r s _ HN.out HV.out HX.out).mono ?_); rintro e w3 ⟨rfl, hb3⟩; rw [H3.out]; obtain ⟨hbc3, hbf3⟩ := qb4 hb3; have hz3 : w.heap.size < w3.heap.size := Nat.lt_of_lt_of_le hz2 hb3.size; have hy3 : w.heap.size + 1 < w3.heap.size := Nat.lt_of_lt_of_le hy2 hb3.size; have HW3 := hid (qa1 HW2.out hb3))
     | (go_at_call 202; (with_reducible refine (qi1 n' a' b' c' p' q' f' x y z r s _ HN'.out HV'.out HX.out).mono ?_); rintro e w4 ⟨rfl, hb4⟩; have HW4 := hid (qa1 HW3.out hb4)))
    all_goals go_ret
    all_goals exact ⟨qa4 H.out.symm, HW3.out⟩
   | true =>
    have H3 := hid h3
    cases h4 : qo4 ⟨n', ⟨a', b', c', p', q'⟩, f'⟩ ⟨x, y, z, r, s⟩ with
    | false =>
     have H4 := hid h4
     have H : Hid (qk4 ⟨⟨n, ⟨a, b, c, p, q⟩, f⟩, ⟨n', ⟨a', b', c', p', q'⟩, f'⟩⟩ ⟨x, y, z, r, s⟩ = true) := hid (by unfold qk4; rw [h1, h2, h3, h4]; rfl)
     clear h1 h2 h3 h4
     go_enter Tryz.func193, Tryz.ntmps193
     have t1 := hid True.intro
     go_wp2_with (first
      | (go_at_call 179; (with_reducible refine (qv6 n a b c p q f n' a' b' c' p' q' f' _ HV.out HV'.out).mono ?_); rintro e w1 ⟨rfl, hb1⟩; rw [H1.out]; obtain ⟨hbc, hbf⟩ := qb4 hb1; have hz1 : w.heap.size < w1.heap.size := Nat.lt_of_lt_of_le (by simp; omega) hb1.size; have hy1 : w.heap.size + 1 < w1.heap.size := Nat.lt_of_lt_of_le (by simp) hb1.size; have HW1 := hid (qa1 (qa0 (qa0 (b0 w) _) _) hb1))
      | (go_at_call 54; (with_reducible refine (qb6 x y z r s _ HX.out).mono ?_); rintro e w2 ⟨rfl, hb2⟩; rw [H2.out]; obtain ⟨hbc2, hbf2⟩ := qb4 hb2; have hz2 : w.heap.size < w2.heap.size := Nat.lt_of_lt_of_le hz1 hb2.size; have hy2 : w.heap.size + 1 < w2.heap.size := Nat.lt_of_lt_of_le hy1 hb2.size; have HW2 := hid (qa1 HW1.out hb2))
      | (clear t1; go_at_call 202; (with_reducible refine (qi1 n a b c p q f x y z r s _ HN.out HV.out HX.out).mono ?_); rintro e w3 ⟨rfl, hb3⟩; rw [H3.out]; obtain ⟨hbc3, hbf3⟩ := qb4 hb3; have hz3 : w.heap.size < w3.heap.size := Nat.lt_of_lt_of_le hz2 hb3.size; have hy3 : w.heap.size + 1 < w3.heap.size := Nat.lt_of_lt_of_le hy2 hb3.size; have HW3 := hid (qa1 HW2.out hb3))
      | (go_at_call 202; (with_reducible refine (qi1 n' a' b' c' p' q' f' x y z r s _ HN'.out HV'.out HX.out).mono ?_); rintro e w4 ⟨rfl, hb4⟩; rw [H4.out]; have HW4 := hid (qa1 HW3.out hb4)))
     all_goals go_ret
     all_goals exact ⟨qa4 H.out.symm, HW4.out⟩
    | true =>
     have H4 := hid h4
     have H : Hid (qk4 ⟨⟨n, ⟨a, b, c, p, q⟩, f⟩, ⟨n', ⟨a', b', c', p', q'⟩, f'⟩⟩ ⟨x, y, z, r, s⟩ = false) := hid (by unfold qk4; rw [h1, h2, h3, h4]; rfl)
     clear h1 h2 h3 h4
     go_enter Tryz.func193, Tryz.ntmps193
     have t1 := hid True.intro
     go_wp2_with (first
      | (go_at_call 179; (with_reducible refine (qv6 n a b c p q f n' a' b' c' p' q' f' _ HV.out HV'.out).mono ?_); rintro e w1 ⟨rfl, hb1⟩; rw [H1.out]; obtain ⟨hbc, hbf⟩ := qb4 hb1; have hz1 : w.heap.size < w1.heap.size := Nat.lt_of_lt_of_le (by simp; omega) hb1.size; have hy1 : w.heap.size + 1 < w1.heap.size := Nat.lt_of_lt_of_le (by simp) hb1.size; have HW1 := hid (qa1 (qa0 (qa0 (b0 w) _) _) hb1))
      | (go_at_call 54; (with_reducible refine (qb6 x y z r s _ HX.out).mono ?_); rintro e w2 ⟨rfl, hb2⟩; rw [H2.out]; obtain ⟨hbc2, hbf2⟩ := qb4 hb2; have hz2 : w.heap.size < w2.heap.size := Nat.lt_of_lt_of_le hz1 hb2.size; have hy2 : w.heap.size + 1 < w2.heap.size := Nat.lt_of_lt_of_le hy1 hb2.size; have HW2 := hid (qa1 HW1.out hb2))
      | (clear t1; go_at_call 202; (with_reducible refine (qi1 n a b c p q f x y z r s _ HN.out HV.out HX.out).mono ?_); rintro e w3 ⟨rfl, hb3⟩; rw [H3.out]; obtain ⟨hbc3, hbf3⟩ := qb4 hb3; have hz3 : w.heap.size < w3.heap.size := Nat.lt_of_lt_of_le hz2 hb3.size; have hy3 : w.heap.size + 1 < w3.heap.size := Nat.lt_of_lt_of_le hy2 hb3.size; have HW3 := hid (qa1 HW2.out hb3))
      | (go_at_call 202; (with_reducible refine (qi1 n' a' b' c' p' q' f' x y z r s _ HN'.out HV'.out HX.out).mono ?_); rintro e w4 ⟨rfl, hb4⟩; rw [H4.out]; have HW4 := hid (qa1 HW3.out hb4)))
     all_goals go_ret
     all_goals exact ⟨qa4 H.out.symm, HW4.out⟩
end
section
theorem holds_s (t : Span) (v : Ver) (w : World) (h : t.B) (hv : v.B) :
  Calls Tryz.prog 193 #[.agg #[.int .i64 t.lo.en, .int .i64 t.lo.v.major, .int .i64 t.lo.v.minor, .int .i64 t.lo.v.patch, .string t.lo.v.pre, .string t.lo.v.build, .bool t.lo.after, .int .i64 t.hi.en, .int .i64 t.hi.v.major, .int .i64 t.hi.v.minor, .int .i64 t.hi.v.patch, .string t.hi.v.pre, .string t.hi.v.build, .bool t.hi.after], .agg #[.int .i64 v.major, .int .i64 v.minor, .int .i64 v.patch, .string v.pre, .string v.build]] w fun e w' => e = .returned (.bool (qk4 t v)) ∧ Below w.heap.size w w' :=
 holds3_any _ _ _ _ _ _ _ _ _ _ _ _ _ _ _ _ _ _ _ w (by have := h.1.1; exact ⟨by omega, by omega⟩) (by have := h.2.1; exact ⟨by omega, by omega⟩) h.1.2 h.2.2 hv
theorem has4_hit {l : List Span} {v : Ver} {k : Nat} (hm : qj1 l = true) (hk : k < l.length) (h : qk4 l[k] v = true) : zc0 l v = true := by
 unfold zc0
 rw [hm, Bool.true_and, List.any_eq_true]
 exact ⟨_, List.getElem_mem hk, h⟩
theorem has4_miss {l : List Span} {v : Ver} (h : ∀ k, (hk : k < l.length) → qk4 l[k] v = false) : zc0 l v = false := by
 unfold zc0
 have : (l.any fun s => qk4 s v) = false := List.any_eq_false.2 fun s hs => by
  obtain ⟨k, hk, rfl⟩ := List.getElem_of_mem hs
  rw [h k hk]; decide
 rw [this, Bool.and_false]
set_option maxRecDepth 100000 in
set_option maxHeartbeats 2000000 in
theorem has4_any (lv : Value) (l : List Span) (v : Ver) (w : World) (h : SliceRd qd6.ty w (Lt w.heap.size) lv l) (hv : v.B) :
  Calls Tryz.prog 178 #[lv, .agg #[.int .i64 v.major, .int .i64 v.minor, .int .i64 v.patch, .string v.pre, .string v.build]] w fun e w' => e = .returned (.bool (zc0 l v)) ∧ Below w.heap.size w w' := by
 have HL := hid h
 have HV := hid hv
 obtain ⟨A, cap, rfl, hcap, hmax, hc⟩ := h.spans
 have HC := hid hc
 unfold maxLen at hmax
 obtain ⟨va, vb, vc, vp, vq⟩ := v
 clear h hc hv
 go_enter Tryz.func178, Tryz.ntmps178
 go_wp2_with fail
 obtain ⟨w0, hw0⟩ : ∃ w0 : World, w0 = w.alloc (.cells #[.int .i64 va, .int .i64 vb, .int .i64 vc, .string vp, .string vq] 59) := ⟨_, rfl⟩
 have hb0 : Below w.heap.size w w0 := hw0 ▸ qa0 (b0 w) _
 have hz0 : w.heap.size < w0.heap.size := by rw [hw0]; simp
 have v0 : w0.cell? ⟨w.heap.size, 0, none⟩ = some (.int .i64 va) := by rw [hw0, qa6]; rfl
 have v1 : w0.cell? ⟨w.heap.size, 1, none⟩ = some (.int .i64 vb) := by rw [hw0, qa6]; rfl
 have v2 : w0.cell? ⟨w.heap.size, 2, none⟩ = some (.int .i64 vc) := by rw [hw0, qa6]; rfl
 have v3 : w0.cell? ⟨w.heap.size, 3, none⟩ = some (.string vp) := by rw [hw0, qa6]; rfl
 have v4 : w0.cell? ⟨w.heap.size, 4, none⟩ = some (.string vq) := by rw [hw0, qa6]; rfl
 have HB0 := hid hb0
 rw [← hw0]
 clear hw0 hb0
 go_loopw [5] (fun iv wr => ∃ k : Nat, k ≤ l.length ∧ iv = .int .i64 k ∧ Hid (Below w0.heap.size w0 wr) ∧ Hid (∀ j, (hj : j < l.length) → j < k → qk4 l[j] ⟨va, vb, vc, vp, vq⟩ = false)) (fun iv _ => l.length - (intOf iv).toNat)
 case atStart => exact ⟨0, Nat.zero_le _, rfl, hid (b0 w0), hid (fun j _ hj => absurd hj (by omega))⟩
 case round =>
  obtain ⟨k, hk, rfl, hb, hn⟩ := hrel
  have hbw := HB0.out.trans (hb.out.mono HB0.out.size)
  have HBW := hid hbw
  have hzr := Nat.lt_of_lt_of_le hz0 hb.out.size
  by_cases hlt : k < l.length
  ·have z0 : (↑k : Int) < ↑l.length := by omega
   have j0 : (0 : Int) ≤ ↑k := by omega
   have HMY := hid (qh4 (.slice A l.length cap) l wr (HL.out.lift hbw hbw.size))
   obtain ⟨g, o, hA, hF, hB, hat⟩ := HC.out k hlt
   subst hA
   have HBB := hid hB
   have HAT := hid (fun (W : World) (hb : Below w.heap.size w W) => hat.below hb hF)
   obtain ⟨b, hbb⟩ : ∃ b, qj1 l = b := ⟨_, rfl⟩
   rw [hbb] at HMY
   clear hbw hat hB
   cases b with
   | false =>
    have H : Hid (zc0 l ⟨va, vb, vc, vp, vq⟩ = false) := hid (by unfold zc0; rw [hbb]; rfl)
    clear hbb
    go_wp2_with (go_at_call 156; refine HMY.out.mono ?_; rintro e w1 ⟨rfl, hb1⟩)
    go_ret
    exact ⟨qa4 H.out.symm, qa1 HBW.out hb1⟩
   | true =>
    have HM := hid hbb
    clear hbb
    go_wp2_with fail
    refine HMY.out.mono ?_
    rintro e w1 ⟨rfl, hb1⟩
    have hbw1 := qa1 HBW.out hb1
    have HBW1 := hid hbw1
    have HB1 := hid (hb.out.trans (hb1.mono hb.out.size))
    have hz1 := Nat.lt_of_lt_of_le hzr hb1.size
    have hgz := Nat.lt_of_lt_of_le hF hbw1.size
    obtain ⟨s0, s1, s2, s3, s4, s5, s6, s7, s8, s9, s10, s11, s12, s13⟩ := (HAT.out w1 hbw1).later hgz
    have u0 := qa2 hz1 (cell_below HB1.out hz0 v0)
    have u1 := qa2 hz1 (cell_below HB1.out hz0 v1)
    have u2 := qa2 hz1 (cell_below HB1.out hz0 v2)
    have u3 := qa2 hz1 (cell_below HB1.out hz0 v3)
    have u4 := qa2 hz1 (cell_below HB1.out hz0 v4)
    have HHS := hid (fun W => holds_s l[k] ⟨va, vb, vc, vp, vq⟩ W HBB.out HV.out)
    obtain ⟨t, ht⟩ : ∃ t, l[k] = t := ⟨_, rfl⟩
    rw [ht] at HHS s0 s1 s2 s3 s4 s5 s6 s7 s8 s9 s10 s11 s12 s13
    have HT := hid ht
    obtain ⟨⟨en, ⟨a, b, c, p, q⟩, f⟩, ⟨en', ⟨a', b', c', p', q'⟩, f'⟩⟩ := t
    dsimp only at HHS s0 s1 s2 s3 s4 s5 s6 s7 s8 s9 s10 s11 s12 s13
    obtain ⟨hB, hhB⟩ : ∃ hB, qk4 ⟨⟨en, ⟨a, b, c, p, q⟩, f⟩, ⟨en', ⟨a', b', c', p', q'⟩, f'⟩⟩ ⟨va, vb, vc, vp, vq⟩ = hB := ⟨_, rfl⟩
    rw [hhB] at HHS
    have HHB := hid (show qk4 l[k] ⟨va, vb, vc, vp, vq⟩ = hB by rw [HT.out, hhB])
    have HHL := hid (fun e : Later w1 => HHS.out e.w)
    clear ht hhB hb1 hbw1
    cases hB with
    | true =>
     have H := hid (has4_hit HM.out hlt HHB.out)
     go_wp2_with fail
     (refine qa3 (by kernel_rfl) (by kernel_rfl) ?_; (repeat (go_big_quiet_step ((first | (go_at_call 193; exact Calls.later (HHL.out _) rfl))))); refine wpQuiet_nil ?_; rintro _ ⟨⟨w2, hb2⟩, rfl⟩)
     go_wp2
     go_ret
     exact ⟨qa4 H.out.symm, qa1 HBW1.out hb2⟩
    | false =>
     go_wp2_with fail
     (refine qa3 (by kernel_rfl) (by kernel_rfl) ?_; (repeat (go_big_quiet_step ((first | (go_at_call 193; exact Calls.later (HHL.out _) rfl))))); refine wpQuiet_nil ?_; rintro _ ⟨⟨w2, hb2⟩, rfl⟩)
     go_wp2
     exact ⟨⟨k + 1, by omega, by go_num, hid (HB1.out.trans (hb2.mono HB1.out.size)), hid (fun j hj hjk => if e : j = k then by subst e; exact HHB.out else hn.out j hj (by omega))⟩, by simp [intOf]; omega⟩
  ·have z0 : ¬ ((↑k : Int) < ↑l.length) := by omega
   have z1 : decide ((↑k : Int) < ↑l.length) = false := decide_eq_false z0
   have H := hid (has4_miss (l := l) (v := ⟨va, vb, vc, vp, vq⟩) (fun j hj => hn.out j hj (by omega)))
   go_wp2
   go_ret
   exact ⟨qa4 H.out.symm, HBW.out⟩
end
end Go.Proofs.YtbfbppjccbppiaaGreatDoor
