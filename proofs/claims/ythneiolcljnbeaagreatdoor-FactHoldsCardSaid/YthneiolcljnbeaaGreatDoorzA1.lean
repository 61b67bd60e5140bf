import Derived.Test.YthneiolcljnbeaaGreatDoorzA0
import Derived.Outline
import Derived.Test.YthneiolcljnbeaaGreatDoorY5
import Derived.Test.YthneiolcljnbeaaGreatDoorzV18
import Derived.Test.YthneiolcljnbeaaGreatDoorzN10
import Derived.Test.YthneiolcljnbeaaGreatDoorzY7
namespace Go.Proofs.YthneiolcljnbeaaGreatDoor
open Go Go.RowKit
section
set_option maxRecDepth 100000 in
set_option maxHeartbeats 4000000 in
theorem ahead3_any (n a b c : Int) (p q : ByteArray) (f : Bool) (a' b' c' : Int) (p' q' : ByteArray) (w : World) (_hn : I64 n) (h : VB a b c p q) (h' : VB a' b' c' p' q') :
  Calls Tryz.prog 164 #[.agg #[.int .i64 n, .int .i64 a, .int .i64 b, .int .i64 c, .string p, .string q, .bool f], .agg #[.int .i64 a', .int .i64 b', .int .i64 c', .string p', .string q']] w fun e w' => e = .returned (.bool (aheadB ⟨n, ⟨a, b, c, p, q⟩, f⟩ ⟨a', b', c', p', q'⟩)) ∧ Below w.heap.size w w' := by
 have HV := hid h
 have HV' := hid h'
 clear h h'
 cases h1 : cutMay ⟨n, ⟨a, b, c, p, q⟩, f⟩ with
 | false =>
  have H1 := hid h1
  have H : Hid (aheadB ⟨n, ⟨a, b, c, p, q⟩, f⟩ ⟨a', b', c', p', q'⟩ = false) := hid (by unfold aheadB; rw [h1]; rfl)
  clear h1
  go_enter Tryz.func164, Tryz.ntmps164
  go_wp2_with (first
   | (go_at_call 166; (with_reducible refine (cmay_any n a b c p q f _ HV.out).mono ?_); rintro e w1 ⟨rfl, hb1⟩; rw [H1.out]; obtain ⟨hbc, hbf⟩ := bcell hb1; have hz1 : w.heap.size < w1.heap.size := Nat.lt_of_lt_of_le (by simp; omega) hb1.size; have hy1 : w.heap.size + 1 < w1.heap.size := Nat.lt_of_lt_of_le (by simp) hb1.size; have HW1 := hid (bstep (balloc (balloc (b0 w) _) _) hb1))
   | (go_at_call 36; (with_reducible refine (vmay_any a' b' c' p' q' _ HV'.out).mono ?_); rintro e w2 ⟨rfl, hb2⟩; obtain ⟨hbc2, hbf2⟩ := bcell hb2; have hz2 : w.heap.size < w2.heap.size := Nat.lt_of_lt_of_le hz1 hb2.size; have hy2 : w.heap.size + 1 < w2.heap.size := Nat.lt_of_lt_of_le hy1 hb2.size; have HW2 := hid (bstep HW1.out hb2))
   | (go_at_call 111; (with_reducible refine (vcmp_any a b c p q a' b' c' p' q' _ HV.out HV'.out).mono ?_); rintro e w3 ⟨rfl, hb3⟩; obtain ⟨hbc3, hbf3⟩ := bcell hb3; have hz3 : w.heap.size < w3.heap.size := Nat.lt_of_lt_of_le hz2 hb3.size; have HW3 := hid (bstep HW2.out hb3)))
  all_goals go_ret
  all_goals exact ⟨ret_bool H.out.symm, HW1.out⟩
 | true =>
  have H1 := hid h1
  cases h2 : mayV ⟨a', b', c', p', q'⟩ with
  | false =>
   have H2 := hid h2
   have H : Hid (aheadB ⟨n, ⟨a, b, c, p, q⟩, f⟩ ⟨a', b', c', p', q'⟩ = false) := hid (by unfold aheadB; rw [h1, h2]; rfl)
   clear h1 h2
   go_enter Tryz.func164, Tryz.ntmps164
   go_wp2_with (first
    | (go_at_call 166; (with_reducible refine (cmay_any n a b c p q f _ HV.out).mono ?_); rintro e w1 ⟨rfl, hb1⟩; rw [H1.out]; obtain ⟨hbc, hbf⟩ := bcell hb1; have hz1 : w.heap.size < w1.heap.size := Nat.lt_of_lt_of_le (by simp; omega) hb1.size; have hy1 : w.heap.size + 1 < w1.heap.size := Nat.lt_of_lt_of_le (by simp) hb1.size; have HW1 := hid (bstep (balloc (balloc (b0 w) _) _) hb1))
    | (go_at_call 36; (with_reducible refine (vmay_any a' b' c' p' q' _ HV'.out).mono ?_); rintro e w2 ⟨rfl, hb2⟩; rw [H2.out]; obtain ⟨hbc2, hbf2⟩ := bcell hb2; have hz2 : w.heap.size < w2.heap.size := Nat.lt_of_lt_of_le hz1 hb2.size; have hy2 : w.heap.size + 1 < w2.heap.size := Nat.lt_of_lt_of_le hy1 hb2.size; have HW2 := hid (bstep HW1.out hb2))
    | (go_at_call 111; (with_reducible refine (vcmp_any a b c p q a' b' c' p' q' _ HV.out HV'.out).mono ?_); rintro e w3 ⟨rfl, hb3⟩; obtain ⟨hbc3, hbf3⟩ := bcell hb3; have hz3 : w.heap.size < w3.heap.size := Nat.lt_of_lt_of_le hz2 hb3.size; have HW3 := hid (bstep HW2.out hb3)))
   all_goals go_ret
   all_goals exact ⟨ret_bool H.out.symm, HW2.out⟩
  | true =>
   have H2 := hid h2
   have HA : aheadB ⟨n, ⟨a, b, c, p, q⟩, f⟩ ⟨a', b', c', p', q'⟩ = (if n = 0 then decide (cmpV ⟨a, b, c, p, q⟩ ⟨a', b', c', p', q'⟩ < 0) || (decide (cmpV ⟨a, b, c, p, q⟩ ⟨a', b', c', p', q'⟩ = 0) && !f) else decide (n < 0)) := by unfold aheadB; rw [h1, h2]; rfl
   clear h1 h2
   by_cases hn0 : n = 0
   ·obtain ⟨k, hk⟩ : ∃ k, cmpV ⟨a, b, c, p, q⟩ ⟨a', b', c', p', q'⟩ = k := ⟨_, rfl⟩
    have HK := hid hk
    rw [if_pos hn0, hk] at HA
    have z0 : (n != 0) = false := by simp [hn0]
    have hcase : k < 0 ∨ k = 0 ∨ 0 < k := by omega
    clear hk hn0
    rcases hcase with hk | hk | hk
    ·have z1 : decide (k < 0) = true := decide_eq_true hk
     have H : Hid (aheadB ⟨n, ⟨a, b, c, p, q⟩, f⟩ ⟨a', b', c', p', q'⟩ = true) := hid (by rw [HA, z1]; rfl)
     clear HA
     go_enter Tryz.func164, Tryz.ntmps164
     go_wp2_with (first
      | (go_at_call 166; (with_reducible refine (cmay_any n a b c p q f _ HV.out).mono ?_); rintro e w1 ⟨rfl, hb1⟩; rw [H1.out]; obtain ⟨hbc, hbf⟩ := bcell hb1; have hz1 : w.heap.size < w1.heap.size := Nat.lt_of_lt_of_le (by simp; omega) hb1.size; have hy1 : w.heap.size + 1 < w1.heap.size := Nat.lt_of_lt_of_le (by simp) hb1.size; have HW1 := hid (bstep (balloc (balloc (b0 w) _) _) hb1))
      | (go_at_call 36; (with_reducible refine (vmay_any a' b' c' p' q' _ HV'.out).mono ?_); rintro e w2 ⟨rfl, hb2⟩; rw [H2.out]; obtain ⟨hbc2, hbf2⟩ := bcell hb2; have hz2 : w.heap.size < w2.heap.size := Nat.lt_of_lt_of_le hz1 hb2.size; have hy2 : w.heap.size + 1 < w2.heap.size := Nat.lt_of_lt_of_le hy1 hb2.size; have HW2 := hid (bstep HW1.out hb2))
      | (go_at_call 111; (with_reducible refine (vcmp_any a b c p q a' b' c' p' q' _ HV.out HV'.out).mono ?_); rintro e w3 ⟨rfl, hb3⟩; rw [HK.out]; obtain ⟨hbc3, hbf3⟩ := bcell hb3; have hz3 : w.heap.size < w3.heap.size := Nat.lt_of_lt_of_le hz2 hb3.size; have HW3 := hid (bstep HW2.out hb3)))
     all_goals go_ret
     all_goals exact ⟨ret_bool H.out.symm, HW3.out⟩
    ·have z1 : decide (k < 0) = false := decide_eq_false (by omega)
     have z2 : (k == 0) = true := by rw [beq_iff_eq]; exact hk
     have H : Hid (aheadB ⟨n, ⟨a, b, c, p, q⟩, f⟩ ⟨a', b', c', p', q'⟩ = !f) := hid (by rw [HA, z1, decide_eq_true hk]; simp)
     clear HA hk
     go_enter Tryz.func164, Tryz.ntmps164
     go_wp2_with (first
      | (go_at_call 166; (with_reducible refine (cmay_any n a b c p q f _ HV.out).mono ?_); rintro e w1 ⟨rfl, hb1⟩; rw [H1.out]; obtain ⟨hbc, hbf⟩ := bcell hb1; have hz1 : w.heap.size < w1.heap.size := Nat.lt_of_lt_of_le (by simp; omega) hb1.size; have hy1 : w.heap.size + 1 < w1.heap.size := Nat.lt_of_lt_of_le (by simp) hb1.size; have HW1 := hid (bstep (balloc (balloc (b0 w) _) _) hb1))
      | (go_at_call 36; (with_reducible refine (vmay_any a' b' c' p' q' _ HV'.out).mono ?_); rintro e w2 ⟨rfl, hb2⟩; rw [H2.out]; obtain ⟨hbc2, hbf2⟩ := bcell hb2; have hz2 : w.heap.size < w2.heap.size := Nat.lt_of_lt_of_le hz1 hb2.size; have hy2 : w.heap.size + 1 < w2.heap.size := Nat.lt_of_lt_of_le hy1 hb2.size; have HW2 := hid (bstep HW1.out hb2))
      | (go_at_call 111; (with_reducible refine (vcmp_any a b c p q a' b' c' p' q' _ HV.out HV'.out).mono ?_); rintro e w3 ⟨rfl, hb3⟩; rw [HK.out]; obtain ⟨hbc3, hbf3⟩ := bcell hb3; have hz3 : w.heap.size < w3.heap.size := Nat.lt_of_lt_of_le hz2 hb3.size; have HW3 := hid (bstep HW2.out hb3)))
     all_goals go_ret
     all_goals exact ⟨ret_bool H.out.symm, HW3.out⟩
    ·have z1 : decide (k < 0) = false := decide_eq_false (by omega)
     have z2 : (k == 0) = false := by rw [beq_eq_false_iff_ne]; omega
     have H : Hid (aheadB ⟨n, ⟨a, b, c, p, q⟩, f⟩ ⟨a', b', c', p', q'⟩ = false) := hid (by rw [HA, z1, decide_eq_false (by omega)]; rfl)
     clear HA hk
     go_enter Tryz.func164, Tryz.ntmps164
     go_wp2_with (first
      | (go_at_call 166; (with_reducible refine (cmay_any n a b c p q f _ HV.out).mono ?_); rintro e w1 ⟨rfl, hb1⟩; rw [H1.out]; obtain ⟨hbc, hbf⟩ := bcell hb1; have hz1 : w.heap.size < w1.heap.size := Nat.lt_of_lt_of_le (by simp; omega) hb1.size; have hy1 : w.heap.size + 1 < w1.heap.size := Nat.lt_of_lt_of_le (by simp) hb1.size; have HW1 := hid (bstep (balloc (balloc (b0 w) _) _) hb1))
      | (go_at_call 36; (with_reducible refine (vmay_any a' b' c' p' q' _ HV'.out).mono ?_); rintro e w2 ⟨rfl, hb2⟩; rw [H2.out]; obtain ⟨hbc2, hbf2⟩ := bcell hb2; have hz2 : w.heap.size < w2.heap.size := Nat.lt_of_lt_of_le hz1 hb2.size; have hy2 : w.heap.size + 1 < w2.heap.size := Nat.lt_of_lt_of_le hy1 hb2.size; have HW2 := hid (bstep HW1.out hb2))
      | (go_at_call 111; (with_reducible refine (vcmp_any a b c p q a' b' c' p' q' _ HV.out HV'.out).mono ?_); rintro e w3 ⟨rfl, hb3⟩; rw [HK.out]; obtain ⟨hbc3, hbf3⟩ := bcell hb3; have hz3 : w.heap.size < w3.heap.size := Nat.lt_of_lt_of_le hz2 hb3.size; have HW3 := hid (bstep HW2.out hb3)))
     all_goals go_ret
     all_goals exact ⟨ret_bool H.out.symm, HW3.out⟩
   ·have z0 : (n != 0) = true := by simp [hn0]
    rw [if_neg hn0] at HA
    have H := hid HA
    clear HA hn0
    go_enter Tryz.func164, Tryz.ntmps164
    go_wp2_with (first
     | (go_at_call 166; (with_reducible refine (cmay_any n a b c p q f _ HV.out).mono ?_); rintro e w1 ⟨rfl, hb1⟩; rw [H1.out]; obtain ⟨hbc, hbf⟩ := bcell hb1; have hz1 : w.heap.size < w1.heap.size := Nat.lt_of_lt_of_le (by simp; omega) hb1.size; have hy1 : w.heap.size + 1 < w1.heap.size := Nat.lt_of_lt_of_le (by simp) hb1.size; have HW1 := hid (bstep (balloc (balloc (b0 w) _) _) hb1))
     | (go_at_call 36; (with_reducible refine (vmay_any a' b' c' p' q' _ HV'.out).mono ?_); rintro e w2 ⟨rfl, hb2⟩; rw [H2.out]; obtain ⟨hbc2, hbf2⟩ := bcell hb2; have hz2 : w.heap.size < w2.heap.size := Nat.lt_of_lt_of_le hz1 hb2.size; have hy2 : w.heap.size + 1 < w2.heap.size := Nat.lt_of_lt_of_le hy1 hb2.size; have HW2 := hid (bstep HW1.out hb2))
     | (go_at_call 111; (with_reducible refine (vcmp_any a b c p q a' b' c' p' q' _ HV.out HV'.out).mono ?_); rintro e w3 ⟨rfl, hb3⟩; rw [HK.out]; obtain ⟨hbc3, hbf3⟩ := bcell hb3; have hz3 : w.heap.size < w3.heap.size := Nat.lt_of_lt_of_le hz2 hb3.size; have HW3 := hid (bstep HW2.out hb3)))
    all_goals go_ret
    all_goals exact ⟨ret_bool H.out.symm, HW2.out⟩
end
section
set_option maxRecDepth 100000 in
set_option maxHeartbeats 4000000 in
theorem holds3_any (n a b c : Int) (p q : ByteArray) (f : Bool) (n' a' b' c' : Int) (p' q' : ByteArray) (f' : Bool) (x y z : Int) (r s : ByteArray) (w : World) (hn : I64 n) (hn' : I64 n') (h : VB a b c p q) (h' : VB a' b' c' p' q') (hx : VB x y z r s) :
  Calls Tryz.prog 140 #[.agg #[.int .i64 n, .int .i64 a, .int .i64 b, .int .i64 c, .string p, .string q, .bool f, .int .i64 n', .int .i64 a', .int .i64 b', .int .i64 c', .string p', .string q', .bool f'], .agg #[.int .i64 x, .int .i64 y, .int .i64 z, .string r, .string s]] w fun e w' => e = .returned (.bool (holdsB ⟨⟨n, ⟨a, b, c, p, q⟩, f⟩, ⟨n', ⟨a', b', c', p', q'⟩, f'⟩⟩ ⟨x, y, z, r, s⟩)) ∧ Below w.heap.size w w' := by
 have HV := hid h
 have HV' := hid h'
 have HX := hid hx
 have HN := hid hn
 have HN' := hid hn'
 clear h h' hx hn hn'
 cases h1 : spanMay ⟨⟨n, ⟨a, b, c, p, q⟩, f⟩, ⟨n', ⟨a', b', c', p', q'⟩, f'⟩⟩ with
 | false =>
  have H1 := hid h1
  have H : Hid (holdsB ⟨⟨n, ⟨a, b, c, p, q⟩, f⟩, ⟨n', ⟨a', b', c', p', q'⟩, f'⟩⟩ ⟨x, y, z, r, s⟩ = false) := hid (by unfold holdsB; rw [h1]; rfl)
  clear h1
  go_enter Tryz.func140, Tryz.ntmps140
  have t1 := hid True.intro
  go_wp2_with (first
   | (go_at_call 145; (with_reducible refine (smay_any n a b c p q f n' a' b' c' p' q' f' _ HV.out HV'.out).mono ?_); rintro e w1 ⟨rfl, hb1⟩; rw [H1.out]; obtain ⟨hbc, hbf⟩ := bcell hb1; have hz1 : w.heap.size < w1.heap.size := Nat.lt_of_lt_of_le (by simp; omega) hb1.size; have hy1 : w.heap.size + 1 < w1.heap.size := Nat.lt_of_lt_of_le (by simp) hb1.size; have HW1 := hid (bstep (balloc (balloc (b0 w) _) _) hb1))
   | (go_at_call 36; (with_reducible refine (vmay_any x y z r s _ HX.out).mono ?_); rintro e w2 ⟨rfl, hb2⟩; obtain ⟨hbc2, hbf2⟩ := bcell hb2; have hz2 : w.heap.size < w2.heap.size := Nat.lt_of_lt_of_le hz1 hb2.size; have hy2 : w.heap.size + 1 < w2.heap.size := Nat.lt_of_lt_of_le hy1 hb2.size; have HW2 := hid (bstep HW1.out hb2))
   | (clear t1; go_at_call 164; (with_reducible refine (ahead3_any n a b c p q f x y z r s _ HN.out HV.out HX.out).mono ?_); rintro e w3 ⟨rfl, hb3⟩; obtain ⟨hbc3, hbf3⟩ := bcell hb3; have hz3 : w.heap.size < w3.heap.size := Nat.lt_of_lt_of_le hz2 hb3.size; have hy3 : w.heap.size + 1 < w3.heap.size := Nat.lt_of_lt_of_le hy2 hb3.size; have HW3 := hid (bstep HW2.out hb3))
   | (go_at_call 164; (with_reducible refine (ahead3_any n' a' b' c' p' q' f' x y z r s _ HN'.out HV'.out HX.out).mono ?_); rintro e w4 ⟨rfl, hb4⟩; have HW4 := hid (bstep HW3.out hb4)))
  all_goals go_ret
  all_goals exact ⟨ret_bool H.out.symm, HW1.out⟩
 | true =>
  have H1 := hid h1
  cases h2 : mayV ⟨x, y, z, r, s⟩ with
  | false =>
   have H2 := hid h2
   have H : Hid (holdsB ⟨⟨n, ⟨a, b, c, p, q⟩, f⟩, ⟨n', ⟨a', b', c', p', q'⟩, f'⟩⟩ ⟨x, y, z, r, s⟩ = false) := hid (by unfold holdsB; rw [h1, h2]; rfl)
   clear h1 h2
   go_enter Tryz.func140, Tryz.ntmps140
   have t1 := hid True.intro
   go_wp2_with (first
    | (go_at_call 145; (with_reducible refine (smay_any n a b c p q f n' a' b' c' p' q' f' _ HV.out HV'.out).mono ?_); rintro e w1 ⟨rfl, hb1⟩; rw [H1.out]; obtain ⟨hbc, hbf⟩ := bcell hb1; have hz1 : w.heap.size < w1.heap.size := Nat.lt_of_lt_of_le (by simp; omega) hb1.size; have hy1 : w.heap.size + 1 < w1.heap.size := Nat.lt_of_lt_of_le (by simp) hb1.size; have HW1 := hid (bstep (balloc (balloc (b0 w) _) _) hb1))
    | (go_at_call 36; (with_reducible refine (vmay_any x y z r s _ HX.out).mono ?_); rintro e w2 ⟨rfl, hb2⟩; rw [H2.out]; obtain ⟨hbc2, hbf2⟩ := bcell hb2; have hz2 : w.heap.size < w2.heap.size := Nat.lt_of_lt_of_le hz1 hb2.size; have hy2 : w.heap.size + 1 < w2.heap.size := Nat.lt_of_lt_of_le hy1 hb2.size; have HW2 := hid (bstep HW1.out hb2))
    | (clear t1; go_at_call 164; (with_reducible refine (ahead3_any n a b c p q f x y z r s _ HN.out HV.out HX.out).mono ?_); rintro e w3 ⟨rfl, hb3⟩; obtain ⟨hbc3, hbf3⟩ := bcell hb3; have hz3 : w.heap.size < w3.heap.size := Nat.lt_of_lt_of_le hz2 hb3.size; have hy3 : w.heap.size + 1 < w3.heap.size := Nat.lt_of_lt_of_le hy2 hb3.size; have HW3 := hid (bstep HW2.out hb3))
    | (go_at_call 164; (with_reducible refine (ahead3_any n' a' b' c' p' q' f' x y z r s _ HN'.out HV'.out HX.out).mono ?_); rintro e w4 ⟨rfl, hb4⟩; have HW4 := hid (bstep HW3.out hb4)))
   all_goals go_ret
   all_goals exact ⟨ret_bool H.out.symm, HW2.out⟩
  | true =>
   have H2 := hid h2
   cases h3 : aheadB ⟨n, ⟨a, b, c, p, q⟩, f⟩ ⟨x, y, z, r, s⟩ with
   | false =>
    have H3 := hid h3
    have H : Hid (holdsB ⟨⟨n, ⟨a, b, c, p, q⟩, f⟩, ⟨n', ⟨a', b', c', p', q'⟩, f'⟩⟩ ⟨x, y, z, r, s⟩ = false) := hid (by unfold holdsB; rw [h1, h2, h3]; rfl)
    clear h1 h2 h3
    go_enter Tryz.func140, Tryz.ntmps140
    have t1 := hid True.intro
    go_wp2_with (first
     | (go_at_call 145; (with_reducible refine (smay_any n a b c p q f n' a' b' c' p' q' f' _ HV.out HV'.out).mono ?_); rintro e w1 ⟨rfl, hb1⟩; rw [H1.out]; obtain ⟨hbc, hbf⟩ := bcell hb1; have hz1 : w.heap.size < w1.heap.size := Nat.lt_of_lt_of_le (by simp; omega) hb1.size; have hy1 : w.heap.size + 1 < w1.heap.size := Nat.lt_of_lt_of_le (by simp) hb1.size; have HW1 := hid (bstep (balloc (balloc (b0 w) _) _) hb1))
     | (go_at_call 36; (with_reducible refine (vmay_any x y z r s _ HX.out).mono ?_); rintro e w2 ⟨rfl, hb2⟩; rw [H2.out]; obtain ⟨hbc2, hbf2⟩ := bcell hb2; have hz2 : w.heap.size < w2.heap.size := Nat.lt_of_lt_of_le hz1 hb2.size; have hy2 : w.heap.size + 1 < w2.heap.size := Nat.lt_of_lt_of_le hy1 hb2.size; have HW2 := hid (bstep HW1.out hb2))
     | (clear t1; go_at_call 164; (with_reducible refine (ahead3_any n a b c p q f x y z r s _ HN.out HV.out HX.out).mono ?_); rintro e w3 ⟨rfl, hb3⟩; rw [H3.out]; obtain ⟨hbc3, hbf3⟩ := bcell hb3; have hz3 : w.heap.size < w3.heap.size := Nat.lt_of_lt_of_le hz2 hb3.size; have hy3 : w.heap.size + 1 < w3.heap.size := Nat.lt_of_lt_of_le hy2 hb3.size; have HW3 := hid (bstep HW2.out hb3))
     | (go_at_call 164; (with_reducible refine (ahead3_any n' a' b' c' p' q' f' x y z r s _ HN'.out HV'.out HX.out).mono ?_); rintro e w4 ⟨rfl, hb4⟩; have HW4 := hid (bstep HW3.out hb4)))
    all_goals go_ret
    all_goals exact ⟨ret_bool H.out.symm, HW3.out⟩
   | true =>
    have H3 := hid h3
    cases h4 : aheadB ⟨n', ⟨a', b', c', p', q'⟩, f'⟩ ⟨x, y, z, r, s⟩ with
    | false =>
     have H4 := hid h4
     have H : Hid (holdsB ⟨⟨n, ⟨a, b, c, p, q⟩, f⟩, ⟨n', ⟨a', b', c', p', q'⟩, f'⟩⟩ ⟨x, y, z, r, s⟩ = true) := hid (by unfold holdsB; rw [h1, h2, h3, h4]; rfl)
     clear h1 h2 h3 h4
     go_enter Tryz.func140, Tryz.ntmps140
     have t1 := hid True.intro
     go_wp2_with (first
      | (go_at_call 145; (with_reducible refine (smay_any n a b c p q f n' a' b' c' p' q' f' _ HV.out HV'.out).mono ?_); rintro e w1 ⟨rfl, hb1⟩; rw [H1.out]; obtain ⟨hbc, hbf⟩ := bcell hb1; have hz1 : w.heap.size < w1.heap.size := Nat.lt_of_lt_of_le (by simp; omega) hb1.size; have hy1 : w.heap.size + 1 < w1.heap.size := Nat.lt_of_lt_of_le (by simp) hb1.size; have HW1 := hid (bstep (balloc (balloc (b0 w) _) _) hb1))
      | (go_at_call 36; (with_reducible refine (vmay_any x y z r s _ HX.out).mono ?_); rintro e w2 ⟨rfl, hb2⟩; rw [H2.out]; obtain ⟨hbc2, hbf2⟩ := bcell hb2; have hz2 : w.heap.size < w2.heap.size := Nat.lt_of_lt_of_le hz1 hb2.size; have hy2 : w.heap.size + 1 < w2.heap.size := Nat.lt_of_lt_of_le hy1 hb2.size; have HW2 := hid (bstep HW1.out hb2))
      | (clear t1; go_at_call 164; (with_reducible refine (ahead3_any n a b c p q f x y z r s _ HN.out HV.out HX.out).mono ?_); rintro e w3 ⟨rfl, hb3⟩; rw [H3.out]; obtain ⟨hbc3, hbf3⟩ := bcell hb3; have hz3 : w.heap.size < w3.heap.size := Nat.lt_of_lt_of_le hz2 hb3.size; have hy3 : w.heap.size + 1 < w3.heap.size := Nat.lt_of_lt_of_le hy2 hb3.size; have HW3 := hid (bstep HW2.out hb3))
      | (go_at_call 164; (with_reducible refine (ahead3_any n' a' b' c' p' q' f' x y z r s _ HN'.out HV'.out HX.out).mono ?_); rintro e w4 ⟨rfl, hb4⟩; rw [H4.out]; have HW4 := hid (bstep HW3.out hb4)))
     all_goals go_ret
     all_goals exact ⟨ret_bool H.out.symm, HW4.out⟩
    | true =>
     have H4 := hid h4
     have H : Hid (holdsB ⟨⟨n, ⟨a, b, c, p, q⟩, f⟩, ⟨n', ⟨a', b', c', p', q'⟩, f'⟩⟩ ⟨x, y, z, r, s⟩ = false) := hid (by unfold holdsB; rw [h1, h2, h3, h4]; rfl)
     clear h1 h2 h3 h4
     go_enter Tryz.func140, Tryz.ntmps140
     have t1 := hid True.intro
     go_wp2_with (first
      | (go_at_call 145; (with_reducible refine (smay_any n a b c p q f n' a' b' c' p' q' f' _ HV.out HV'.out).mono ?_); rintro e w1 ⟨rfl, hb1⟩; rw [H1.out]; obtain ⟨hbc, hbf⟩ := bcell hb1; have hz1 : w.heap.size < w1.heap.size := Nat.lt_of_lt_of_le (by simp; omega) hb1.size; have hy1 : w.heap.size + 1 < w1.heap.size := Nat.lt_of_lt_of_le (by simp) hb1.size; have HW1 := hid (bstep (balloc (balloc (b0 w) _) _) hb1))
      | (go_at_call 36; (with_reducible refine (vmay_any x y z r s _ HX.out).mono ?_); rintro e w2 ⟨rfl, hb2⟩; rw [H2.out]; obtain ⟨hbc2, hbf2⟩ := bcell hb2; have hz2 : w.heap.size < w2.heap.size := Nat.lt_of_lt_of_le hz1 hb2.size; have hy2 : w.heap.size + 1 < w2.heap.size := Nat.lt_of_lt_of_le hy1 hb2.size; have HW2 := hid (bstep HW1.out hb2))
      | (clear t1; go_at_call 164; (with_reducible refine (ahead3_any n a b c p q f x y z r s _ HN.out HV.out HX.out).mono ?_); rintro e w3 ⟨rfl, hb3⟩; rw [H3.out]; obtain ⟨hbc3, hbf3⟩ := bcell hb3; have hz3 : w.heap.size < w3.heap.size := Nat.lt_of_lt_of_le hz2 hb3.size; have hy3 : w.heap.size + 1 < w3.heap.size := Nat.lt_of_lt_of_le hy2 hb3.size; have HW3 := hid (bstep HW2.out hb3))
      | (go_at_call 164; (with_reducible refine (ahead3_any n' a' b' c' p' q' f' x y z r s _ HN'.out HV'.out HX.out).mono ?_); rintro e w4 ⟨rfl, hb4⟩; rw [H4.out]; have HW4 := hid (bstep HW3.out hb4)))
     all_goals go_ret
     all_goals exact ⟨ret_bool H.out.symm, HW4.out⟩
end
section
theorem holds_s (t : Span) (v : Ver) (w : World) (h : t.B) (hv : v.B) :
  Calls Tryz.prog 140 #[.agg #[.int .i64 t.lo.en, .int .i64 t.lo.v.major, .int .i64 t.lo.v.minor, .int .i64 t.lo.v.patch, .string t.lo.v.pre, .string t.lo.v.build, .bool t.lo.after, .int .i64 t.hi.en, .int .i64 t.hi.v.major, .int .i64 t.hi.v.minor, .int .i64 t.hi.v.patch, .string t.hi.v.pre, .string t.hi.v.build, .bool t.hi.after], .agg #[.int .i64 v.major, .int .i64 v.minor, .int .i64 v.patch, .string v.pre, .string v.build]] w fun e w' => e = .returned (.bool (holdsB t v)) ∧ Below w.heap.size w w' :=
 holds3_any _ _ _ _ _ _ _ _ _ _ _ _ _ _ _ _ _ _ _ w (by have := h.1.1; exact ⟨by omega, by omega⟩) (by have := h.2.1; exact ⟨by omega, by omega⟩) h.1.2 h.2.2 hv
theorem has4_hitA {l : List Span} {v : Ver} {k : Nat} (hm : rowMayB l = true) (hk : k < l.length) (h : holdsB l[k] v = true) : has4B l v = true := by
 unfold has4B
 rw [hm, Bool.true_and, List.any_eq_true]
 exact ⟨_, List.getElem_mem hk, h⟩
theorem has4_missA {l : List Span} {v : Ver} (h : ∀ k, (hk : k < l.length) → holdsB l[k] v = false) : has4B l v = false := by
 unfold has4B
 have : (l.any fun s => holdsB s v) = false := List.any_eq_false.2 fun s hs => by
  obtain ⟨k, hk, rfl⟩ := List.getElem_of_mem hs
  rw [h k hk]; decide
 rw [this, Bool.and_false]
set_option maxRecDepth 100000 in
set_option maxHeartbeats 2000000 in
theorem has4_any (lv : Value) (l : List Span) (v : Ver) (w : World) (h : SliceRd fSpan.ty w (Lt w.heap.size) lv l) (hv : v.B) :
  Calls Tryz.prog 108 #[lv, .agg #[.int .i64 v.major, .int .i64 v.minor, .int .i64 v.patch, .string v.pre, .string v.build]] w fun e w' => e = .returned (.bool (has4B l v)) ∧ Below w.heap.size w w' := by
 have HL := hid h
 have HV := hid hv
 obtain ⟨A, cap, rfl, hcap, hmax, hc⟩ := h.spans
 have HC := hid hc
 unfold maxLen at hmax
 obtain ⟨va, vb, vc, vp, vq⟩ := v
 clear h hc hv
 go_enter Tryz.func108, Tryz.ntmps108
 go_wp2_with fail
 obtain ⟨w0, hw0⟩ : ∃ w0 : World, w0 = w.alloc (.cells #[.int .i64 va, .int .i64 vb, .int .i64 vc, .string vp, .string vq] 52) := ⟨_, rfl⟩
 have hb0 : Below w.heap.size w w0 := hw0 ▸ balloc (b0 w) _
 have hz0 : w.heap.size < w0.heap.size := by rw [hw0]; simp
 have v0 : w0.cell? ⟨w.heap.size, 0, none⟩ = some (.int .i64 va) := by rw [hw0, alloc_cell]; rfl
 have v1 : w0.cell? ⟨w.heap.size, 1, none⟩ = some (.int .i64 vb) := by rw [hw0, alloc_cell]; rfl
 have v2 : w0.cell? ⟨w.heap.size, 2, none⟩ = some (.int .i64 vc) := by rw [hw0, alloc_cell]; rfl
 have v3 : w0.cell? ⟨w.heap.size, 3, none⟩ = some (.string vp) := by rw [hw0, alloc_cell]; rfl
 have v4 : w0.cell? ⟨w.heap.size, 4, none⟩ = some (.string vq) := by rw [hw0, alloc_cell]; rfl
 have HB0 := hid hb0
 rw [← hw0]
 clear hw0 hb0
 go_loopw [5] (fun iv wr => ∃ k : Nat, k ≤ l.length ∧ iv = .int .i64 k ∧ Hid (Below w0.heap.size w0 wr) ∧ Hid (∀ j, (hj : j < l.length) → j < k → holdsB l[j] ⟨va, vb, vc, vp, vq⟩ = false)) (fun iv _ => l.length - (intOf iv).toNat)
 case atStart => exact ⟨0, Nat.zero_le _, rfl, hid (b0 w0), hid (fun j _ hj => absurd hj (by omega))⟩
 case round =>
  obtain ⟨k, hk, rfl, hb, hn⟩ := hrel
  have hbw := HB0.out.trans (hb.out.mono HB0.out.size)
  have HBW := hid hbw
  have hzr := Nat.lt_of_lt_of_le hz0 hb.out.size
  by_cases hlt : k < l.length
  ·have z0 : (↑k : Int) < ↑l.length := by omega
   have j0 : (0 : Int) ≤ ↑k := by omega
   have HMY := hid (rmay4_any (.slice A l.length cap) l wr (HL.out.lift hbw hbw.size))
   obtain ⟨g, o, hA, hF, hB, hat⟩ := HC.out k hlt
   subst hA
   have HBB := hid hB
   have HAT := hid (fun (W : World) (hb : Below w.heap.size w W) => hat.below hb hF)
   obtain ⟨b, hbb⟩ : ∃ b, rowMayB l = b := ⟨_, rfl⟩
   rw [hbb] at HMY
   clear hbw hat hB
   cases b with
   | false =>
    have H : Hid (has4B l ⟨va, vb, vc, vp, vq⟩ = false) := hid (by unfold has4B; rw [hbb]; rfl)
    clear hbb
    go_wp2_with (go_at_call 113; refine HMY.out.mono ?_; rintro e w1 ⟨rfl, hb1⟩)
    go_ret
    exact ⟨ret_bool H.out.symm, bstep HBW.out hb1⟩
   | true =>
    have HM := hid hbb
    clear hbb
    go_wp2_with fail
    refine HMY.out.mono ?_
    rintro e w1 ⟨rfl, hb1⟩
    have hbw1 := bstep HBW.out hb1
    have HBW1 := hid hbw1
    have HB1 := hid (hb.out.trans (hb1.mono hb.out.size))
    have hz1 := Nat.lt_of_lt_of_le hzr hb1.size
    have hgz := Nat.lt_of_lt_of_le hF hbw1.size
    obtain ⟨s0, s1, s2, s3, s4, s5, s6, s7, s8, s9, s10, s11, s12, s13⟩ := (HAT.out w1 hbw1).later hgz
    have u0 := later_cell hz1 (cell_below HB1.out hz0 v0)
    have u1 := later_cell hz1 (cell_below HB1.out hz0 v1)
    have u2 := later_cell hz1 (cell_below HB1.out hz0 v2)
    have u3 := later_cell hz1 (cell_below HB1.out hz0 v3)
    have u4 := later_cell hz1 (cell_below HB1.out hz0 v4)
    have HHS := hid (fun W => holds_s l[k] ⟨va, vb, vc, vp, vq⟩ W HBB.out HV.out)
    obtain ⟨t, ht⟩ : ∃ t, l[k] = t := ⟨_, rfl⟩
    rw [ht] at HHS s0 s1 s2 s3 s4 s5 s6 s7 s8 s9 s10 s11 s12 s13
    have HT := hid ht
    obtain ⟨⟨en, ⟨a, b, c, p, q⟩, f⟩, ⟨en', ⟨a', b', c', p', q'⟩, f'⟩⟩ := t
    dsimp only at HHS s0 s1 s2 s3 s4 s5 s6 s7 s8 s9 s10 s11 s12 s13
    obtain ⟨hB, hhB⟩ : ∃ hB, holdsB ⟨⟨en, ⟨a, b, c, p, q⟩, f⟩, ⟨en', ⟨a', b', c', p', q'⟩, f'⟩⟩ ⟨va, vb, vc, vp, vq⟩ = hB := ⟨_, rfl⟩
    rw [hhB] at HHS
    have HHB := hid (show holdsB l[k] ⟨va, vb, vc, vp, vq⟩ = hB by rw [HT.out, hhB])
    have HHL := hid (fun e : Later w1 => HHS.out e.w)
    clear ht hhB hb1 hbw1
    cases hB with
    | true =>
     have H := hid (has4_hitA HM.out hlt HHB.out)
     go_wp2_with fail
     (refine wp_region_later (by kernel_rfl) (by kernel_rfl) ?_; (repeat (go_big_quiet_step ((first | (go_at_call 140; exact Calls.later (HHL.out _) rfl))))); refine wpQuiet_nil ?_; rintro _ ⟨⟨w2, hb2⟩, rfl⟩)
     go_wp2
     go_ret
     exact ⟨ret_bool H.out.symm, bstep HBW1.out hb2⟩
    | false =>
     go_wp2_with fail
     (refine wp_region_later (by kernel_rfl) (by kernel_rfl) ?_; (repeat (go_big_quiet_step ((first | (go_at_call 140; exact Calls.later (HHL.out _) rfl))))); refine wpQuiet_nil ?_; rintro _ ⟨⟨w2, hb2⟩, rfl⟩)
     go_wp2
     exact ⟨⟨k + 1, by omega, by go_num, hid (HB1.out.trans (hb2.mono HB1.out.size)), hid (fun j hj hjk => if e : j = k then by subst e; exact HHB.out else hn.out j hj (by omega))⟩, by simp [intOf]; omega⟩
  ·have z0 : ¬ ((↑k : Int) < ↑l.length) := by omega
   have z1 : decide ((↑k : Int) < ↑l.length) = false := decide_eq_false z0
   have H := hid (has4_missA (l := l) (v := ⟨va, vb, vc, vp, vq⟩) (fun j hj => hn.out j hj (by omega)))
   go_wp2
   go_ret
   exact ⟨ret_bool H.out.symm, HBW.out⟩
end
section
theorem own_snocF {α : Type} {f : Flat α} {e : TypeId} {W : World} {B ln : Nat} {v2 : Value} {l : List α} {x : α} (hln : l.length = ln) (hok : ∀ y ∈ l, f.ok y) (hx : f.ok x) (hown : W.ownsRow B e f.size v2 (ln + 1) (f.all l ++ f.cells x)) : OwnF f e B W v2 (l ++ [x]) := by
 subst hln
 refine ⟨by rw [f.all_snoc, List.length_append]; exact hown, fun y hy => ?_⟩
 rcases List.mem_append.1 hy with h | h
 ·exact hok y h
 ·rw [List.mem_singleton.1 h]; exact hx
theorem own_noneF (w : World) (B : Nat) (e : TypeId) (s : Nat) : w.ownsRow B e s (.slice none 0 0) 0 [] := ⟨by simp, .inl ⟨rfl, rfl⟩⟩
theorem and_nat {a b : Nat} (ha : a ≤ 31) (hb : b ≤ 31) : bits .and .i64 (a : Int) (b : Int) = ((a &&& b : Nat) : Int) := by
 have := and_fact a (b : Int) ha
 rwa [nm_nat (by omega)] at this
theorem SliceRd.lists {α : Type} {t : Ty α} {w : World} {F : Nat → Prop} {v : Value} {l : List (List α)} (h : SliceRd (tSlice t) w F v l) :
  ∃ A cap, v = .slice A l.length cap ∧ l.length ≤ cap ∧ cap ≤ maxLen ∧ ∀ k, (hk : k < l.length) → ∃ g o u, A = some ⟨g, o, none⟩ ∧ F g ∧ w.cell? ⟨g, o + k, none⟩ = some u ∧ SliceRd t w F u l[k] := by
 obtain ⟨A, cap, hv, h1, h2, h3⟩ := h.shape
 refine ⟨A, cap, hv, h1, h2, fun k hk => ?_⟩
 obtain ⟨g, o, cs, hA, hF, hc, hcell, u, rfl, hr⟩ := h3 k hk
 refine ⟨g, o, u, hA, hF, ?_, hr⟩
 have := hcell 0 (by show 0 < 1; omega)
 simpa [tSlice] using this
end
section
set_option maxRecDepth 100000 in
set_option maxHeartbeats 2000000 in
theorem has5_any (av bv : Value) (s : SetD) (v : Ver) (w : World) (h1 : SliceRd fSpan.ty w (Lt w.heap.size) av s.rel) (h2 : SliceRd fSpan.ty w (Lt w.heap.size) bv s.pre) (hv : v.B) :
  Calls Tryz.prog 87 #[.agg #[av, bv], .agg #[.int .i64 v.major, .int .i64 v.minor, .int .i64 v.patch, .string v.pre, .string v.build]] w fun e w' => e = .returned (.bool (hasB s v)) ∧ Below w.heap.size w w' := by
 have HV := hid hv
 have HS := hid (fun (W : World) (hb : Below w.heap.size w W) => setMay_any av bv s.rel s.pre W (h1.lift hb hb.size) (h2.lift hb hb.size))
 have HA := hid (fun (W : World) (hb : Below w.heap.size w W) => has4_any av s.rel v W (h1.lift hb hb.size) hv)
 have HB := hid (fun (W : World) (hb : Below w.heap.size w W) => has4_any bv s.pre v W (h2.lift hb hb.size) hv)
 obtain ⟨A, c, hav, -⟩ := h1.shape
 obtain ⟨A', c', hbv, -⟩ := h2.shape
 have HM := hid (fun W => vmay_any v.major v.minor v.patch v.pre v.build W HV.out)
 have hH : hasB s v = (setMayB s.rel s.pre && (mayV v && if v.pre.size = 0 then has4B s.rel v else has4B s.pre v)) := rfl
 obtain ⟨b1, hb1⟩ : ∃ b, setMayB s.rel s.pre = b := ⟨_, rfl⟩
 obtain ⟨b2, hb2⟩ : ∃ b, mayV v = b := ⟨_, rfl⟩
 have hm2 : mayV ⟨v.major, v.minor, v.patch, v.pre, v.build⟩ = b2 := hb2
 rw [hb1] at HS hH
 rw [hb2] at hH
 rw [hm2] at HM
 generalize s.rel.length = n1 at hav
 generalize s.pre.length = n2 at hbv
 subst hav hbv
 obtain ⟨va, vb, vc, vp, vq⟩ := v
 dsimp only at HM HA HB hH
 clear h1 h2 hv hb1 hb2 hm2
 obtain ⟨w0, hw0⟩ : ∃ w0 : World, w0 = (w.alloc (.cells #[.slice A n1 c, .slice A' n2 c'] 62)).alloc (.cells #[.int .i64 va, .int .i64 vb, .int .i64 vc, .string vp, .string vq] 52) := ⟨_, rfl⟩
 have hb0 : Below w.heap.size w w0 := hw0 ▸ balloc (balloc (b0 w) _) _
 have hz0 : w.heap.size + 1 < w0.heap.size := by rw [hw0]; simp
 have s0 : w0.cell? ⟨w.heap.size, 0, none⟩ = some (.slice A n1 c) := by rw [hw0]; exact alloc2_old rfl
 have s1 : w0.cell? ⟨w.heap.size, 1, none⟩ = some (.slice A' n2 c') := by rw [hw0]; exact alloc2_old rfl
 have v0 : w0.cell? ⟨w.heap.size + 1, 0, none⟩ = some (.int .i64 va) := by rw [hw0]; exact alloc2_new rfl
 have v1 : w0.cell? ⟨w.heap.size + 1, 1, none⟩ = some (.int .i64 vb) := by rw [hw0]; exact alloc2_new rfl
 have v2 : w0.cell? ⟨w.heap.size + 1, 2, none⟩ = some (.int .i64 vc) := by rw [hw0]; exact alloc2_new rfl
 have v3 : w0.cell? ⟨w.heap.size + 1, 3, none⟩ = some (.string vp) := by rw [hw0]; exact alloc2_new rfl
 have v4 : w0.cell? ⟨w.heap.size + 1, 4, none⟩ = some (.string vq) := by rw [hw0]; exact alloc2_new rfl
 have HW0 := hid hw0
 have HB0 := hid hb0
 clear hw0 hb0
 go_enter Tryz.func87, Tryz.ntmps87
 go_wp2_with fail
 rw [← HW0.out]
 refine (HS.out w0 HB0.out).mono ?_
 rintro e w1 ⟨rfl, hb1⟩
 have HB1 := hid (bstep HB0.out hb1)
 have u0 := cell_below hb1 hz0 v0
 have u1 := cell_below hb1 hz0 v1
 have u2 := cell_below hb1 hz0 v2
 have u3 := cell_below hb1 hz0 v3
 have u4 := cell_below hb1 hz0 v4
 have r0 := cell_below hb1 (by omega) s0
 have r1 := cell_below hb1 (by omega) s1
 have hz1 := Nat.lt_of_lt_of_le hz0 hb1.size
 clear hb1 s0 s1 v0 v1 v2 v3 v4
 cases b1 with
 | false =>
  have H := hid (show hasB s ⟨va, vb, vc, vp, vq⟩ = false by rw [hH]; rfl)
  clear hH
  go_wp2
  go_ret
  exact ⟨ret_bool H.out.symm, HB1.out⟩
 | true =>
  go_wp2_with fail
  refine (HM.out w1).mono ?_
  rintro e w2 ⟨rfl, hb2⟩
  have HB2 := hid (bstep HB1.out hb2)
  have x0 := cell_below hb2 hz1 u0
  have x1 := cell_below hb2 hz1 u1
  have x2 := cell_below hb2 hz1 u2
  have x3 := cell_below hb2 hz1 u3
  have x4 := cell_below hb2 hz1 u4
  have y0 := cell_below hb2 (by omega) r0
  have y1 := cell_below hb2 (by omega) r1
  clear hb2 u0 u1 u2 u3 u4 r0 r1
  cases b2 with
  | false =>
   have H := hid (show hasB s ⟨va, vb, vc, vp, vq⟩ = false by rw [hH]; rfl)
   clear hH
   go_wp2
   go_ret
   exact ⟨ret_bool H.out.symm, HB2.out⟩
  | true =>
   by_cases hp : vp.size = 0
   ·have H := hid (show hasB s ⟨va, vb, vc, vp, vq⟩ = has4B s.rel ⟨va, vb, vc, vp, vq⟩ by rw [hH, if_pos hp]; rfl)
    have hl := size_zero_list hp
    clear hH hp
    go_wp2_with (go_at_call 108; refine (HA.out w2 HB2.out).mono ?_; rintro e w3 ⟨rfl, hb3⟩)
    go_ret
    exact ⟨ret_bool H.out.symm, bstep HB2.out hb3⟩
   ·have H := hid (show hasB s ⟨va, vb, vc, vp, vq⟩ = has4B s.pre ⟨va, vb, vc, vp, vq⟩ by rw [hH, if_neg hp]; rfl)
    have hl := size_pos_list hp
    have hl2 := nonempty_toList (s := vp) (by omega)
    clear hH hp
    go_wp2_with (go_at_call 108; refine (HB.out w2 HB2.out).mono ?_; rintro e w3 ⟨rfl, hb3⟩)
    go_ret
    exact ⟨ret_bool H.out.symm, bstep HB2.out hb3⟩
end
section
def CandAt (w : World) (g o : Nat) (c : CandW) (nv bv : Value) : Prop := w.cell? ⟨g, o, none⟩ = some (.int .i64 c.v.major) ∧ w.cell? ⟨g, o + 1, none⟩ = some (.int .i64 c.v.minor) ∧ w.cell? ⟨g, o + 2, none⟩ = some (.int .i64 c.v.patch) ∧ w.cell? ⟨g, o + 3, none⟩ = some (.string c.v.pre) ∧ w.cell? ⟨g, o + 4, none⟩ = some (.string c.v.build) ∧ w.cell? ⟨g, o + 5, none⟩ = some (.int .i64 c.sh) ∧ w.cell? ⟨g, o + 6, none⟩ = some nv ∧ w.cell? ⟨g, o + 7, none⟩ = some bv
theorem CandAt.below {B : Nat} {w w' : World} (hb : Below B w w') {g o : Nat} (hg : g < B) {c : CandW} {nv bv : Value} (h : CandAt w g o c nv bv) : CandAt w' g o c nv bv := by
 obtain ⟨h0, h1, h2, h3, h4, h5, h6, h7⟩ := h
 exact ⟨cell_below hb hg h0, cell_below hb hg h1, cell_below hb hg h2, cell_below hb hg h3, cell_below hb hg h4, cell_below hb hg h5, cell_below hb hg h6, cell_below hb hg h7⟩
theorem WorldRd.opened {w : World} {F : Nat → Prop} {v : Value} {us : List UnitW} (h : WorldRd w F v us) :
  ∃ g cap, v = .agg #[.slice (some ⟨g, 0, none⟩) us.length cap] ∧ F g ∧ ∀ u, (hu : u < us.length) → ∃ A c, w.cell? ⟨g, u * 3 + 2, none⟩ = some (.slice A us[u].cands.length c) ∧
   ∀ k, (hk : k < us[u].cands.length) → ∃ gc o nv bv, A = some ⟨gc, o, none⟩ ∧ F gc ∧ CandAt w gc (o + k * 8) us[u].cands[k] nv bv ∧ us[u].cands[k].v.B ∧ SliceRd (tSlice tWant) w F nv us[u].cands[k].needs ∧ SliceRd tWant w F bv us[u].cands[k].bars := by
 obtain ⟨g, cap, rfl, hF, hs⟩ := h
 refine ⟨g, cap, rfl, hF, fun u hu => ?_⟩
 obtain ⟨A, cap', hv, -, -, hc⟩ := hs.shape
 injection hv with e1 e2 e3
 subst e1 e3
 obtain ⟨g', o, cs, hA, -, -, hcell, cv, rfl, A2, c2, rfl, hcd⟩ := hc u hu
 injection hA with hA
 injection hA with e1 e2
 subst e1 e2
 have h2 := hcell 2 (by show 2 < 3; omega)
 rw [Nat.zero_add] at h2
 refine ⟨A2, c2, h2, fun k hk => ?_⟩
 obtain ⟨gc, oc, cl, hA2, hFc, -, hcl, nv, bv, rfl, hB, hn, hbr⟩ := hcd k hk
 exact ⟨gc, oc, nv, bv, hA2, hFc, ⟨hcl 0 (by show 0 < 8; omega), hcl 1 (by show 1 < 8; omega), hcl 2 (by show 2 < 8; omega), hcl 3 (by show 3 < 8; omega), hcl 4 (by show 4 < 8; omega), hcl 5 (by show 5 < 8; omega), hcl 6 (by show 6 < 8; omega), hcl 7 (by show 7 < 8; omega)⟩, hB, hn, hbr⟩
set_option maxRecDepth 100000 in
set_option maxHeartbeats 4000000 in
theorem met_any (v av bv : Value) (us : List UnitW) (x : WantD) (w : World) (h : WorldRd w (Lt w.heap.size) v us) (ho : UnitsOk us) (h1 : SliceRd fSpan.ty w (Lt w.heap.size) av x.s.rel) (h2 : SliceRd fSpan.ty w (Lt w.heap.size) bv x.s.pre) (hx0 : 0 ≤ x.u) (hx1 : x.u < us.length) :
  Calls Tryz.prog 62 #[v, .agg #[.int .i64 x.u, av, bv]] w fun e w' => e = .returned (.int .i64 (metN us x)) ∧ Below w.heap.size w w' := by
 obtain ⟨g, cap0, rfl, hg, hun⟩ := h.opened
 obtain ⟨u, hu⟩ : ∃ u : Nat, x.u = (u : Int) := ⟨x.u.toNat, by omega⟩
 have hul : u < us.length := by omega
 obtain ⟨Ac, cc, hcu, hcd⟩ := hun u hul
 have HCD := hid hcd
 have h4 : us[u].cands.length ≤ 4 := by
  have := ho.ns.le u (by simpa [nsOf] using hul)
  simpa [nsOf] using this
 have h11 : us.length ≤ 11 := by have := ho.ns.hi; simpa [nsOf] using this
 have HME : Hid (metN us x = metTo us[u].cands x.s us[u].cands.length) := hid (by
  unfold metN
  rw [hu, Int.toNat_natCast, List.getElem?_eq_getElem hul])
 have HHS := hid (fun (vr : Ver) (hvr : vr.B) (W : World) (hb : Below w.heap.size w W) => has5_any av bv x.s vr W (h1.lift hb hb.size) (h2.lift hb hb.size) hvr)
 obtain ⟨Aa, ca, hav, -⟩ := h1.shape
 obtain ⟨Ab, cb, hbv, -⟩ := h2.shape
 generalize x.s.rel.length = n1 at hav
 generalize x.s.pre.length = n2 at hbv
 subst hav hbv
 have HMT := hid (metTo_lt us[u].cands x.s)
 have HMS := hid (fun k (hk : k < us[u].cands.length) => metTo_succ (s := x.s) hk)
 rw [hu] at ⊢
 generalize us[u].cands = cs at *
 have u1 : (0 : Int) ≤ ↑u := by omega
 have u2 : (↑u : Int) < ↑us.length := by omega
 have u3 : decide (us.length ≤ u) = false := decide_eq_false (by omega)
 clear h h1 h2 hun hx0 hx1 hu hcd ho
 obtain ⟨n, hn⟩ : ∃ n, cs.length = n := ⟨_, rfl⟩
 have HN := hid hn
 rw [hn] at hcu h4 HME
 clear hn
 obtain ⟨w0, hw0⟩ : ∃ w0 : World, w0 = (w.alloc (.cells #[.slice (some ⟨g, 0, none⟩) us.length cap0] 25)).alloc (.cells #[.int .i64 u, .slice Aa n1 ca, .slice Ab n2 cb] 65) := ⟨_, rfl⟩
 have hb0 : Below w.heap.size w w0 := hw0 ▸ balloc (balloc (b0 w) _) _
 have hz0 : w.heap.size + 1 < w0.heap.size := by rw [hw0]; simp
 have s0 : w0.cell? ⟨w.heap.size + 1, 1, none⟩ = some (.slice Aa n1 ca) := by rw [hw0]; exact alloc2_new rfl
 have s1 : w0.cell? ⟨w.heap.size + 1, 2, none⟩ = some (.slice Ab n2 cb) := by rw [hw0]; exact alloc2_new rfl
 have hcr := cell_below hb0 hg hcu
 rw [hw0] at hcr
 have HB0 := hid hb0
 have HW0 := hid hw0
 clear hb0 hw0 hcu
 go_enter Tryz.func62, Tryz.ntmps62
 go_wp2_with fail
 rw [← HW0.out]
 clear hcr
 go_loopw [5, 7] (fun mv iv wr => ∃ k : Nat, k ≤ n ∧ iv = .int .i64 k ∧ mv = .int .i64 (metTo cs x.s k) ∧ Hid (Below w0.heap.size w0 wr)) (fun _ iv _ => n - (intOf iv).toNat)
 case atStart => exact ⟨0, Nat.zero_le _, rfl, rfl, hid (b0 w0)⟩
 case round =>
  obtain ⟨k, hk, rfl, rfl, hb⟩ := hrel
  have hbw := HB0.out.trans (hb.out.mono HB0.out.size)
  have HBW := hid hbw
  by_cases hlt : k < n
  ·obtain ⟨gc, o, nv, bv, hA, hF, hat, hB, -, -⟩ := HCD.out k (by rw [HN.out]; exact hlt)
   subst hA
   have hzr := Nat.lt_of_lt_of_le hz0 hb.out.size
   have hgr : gc < wr.heap.size := Nat.lt_of_lt_of_le hF hbw.size
   obtain ⟨c0, c1, c2, c3, c4, -, -, -⟩ := hat.below hbw hF
   have HMSK := hid (HMS.out k (by rw [HN.out]; exact hlt))
   have hlt2 := HMT.out k
   have hpw : 2 ^ (k + 1) ≤ 2 ^ 4 := Nat.pow_le_pow_right (by decide) (by omega)
   have HSK := hid (fun e : Later wr => HHS.out _ hB e.w (bstep HBW.out e.below))
   generalize cs[k]'(by rw [HN.out]; exact hlt) = cd at *
   obtain ⟨⟨va, vb, vc, vp, vq⟩, sh, nd, br⟩ := cd
   dsimp only at c0 c1 c2 c3 c4 HSK HMSK
   obtain ⟨b, hbb⟩ : ∃ b, hasB x.s ⟨va, vb, vc, vp, vq⟩ = b := ⟨_, rfl⟩
   rw [hbb] at HSK HMSK
   have l0 := later_cell hgr c0
   have l1 := later_cell hgr c1
   have l2 := later_cell hgr c2
   have l3 := later_cell hgr c3
   have l4 := later_cell hgr c4
   have m0 := later_cell hzr (cell_below hb.out hz0 s0)
   have m1 := later_cell hzr (cell_below hb.out hz0 s1)
   have i0 : (0 : Int) ≤ ↑k := by omega
   have i1 : (↑k : Int) < ↑n := by omega
   have i2 : (↑k : Int) < 16 := by omega
   generalize metTo cs x.s k = mk at *
   clear hat hB hbb c0 c1 c2 c3 c4
   cases b with
   | false =>
    have HE := hid (show metTo cs x.s (k + 1) = mk by rw [HMSK.out]; rfl)
    go_wp2_with fail
    (refine wp_region_later (by kernel_rfl) (by kernel_rfl) ?_; (repeat (go_big_quiet_step ((first | (go_at_call 87; exact Calls.later (HSK.out _) rfl))))); refine wpQuiet_nil ?_; rintro _ ⟨⟨w2, hb2⟩, rfl⟩)
    go_wp2
    exact ⟨⟨k + 1, by omega, by go_num, by rw [HE.out], hid (bstep hb.out hb2)⟩, by simp [intOf]; omega⟩
   | true =>
    obtain ⟨pk, hpk⟩ : ∃ pk, 2 ^ (k + 1) = pk := ⟨_, rfl⟩
    rw [hpk] at hlt2 hpw HMSK
    have HE := hid (show metTo cs x.s (k + 1) = mk + pk by rw [HMSK.out]; rfl)
    have HBT := hid (fun W => rbit_any (k + 1) W (by omega))
    have hpwe : pw (k + 1) = (pk : Int) := by unfold pw; rw [hpk]
    rw [hpwe, show ((k + 1 : Nat) : Int) = (k : Int) + 1 by omega] at HBT
    go_wp2_with fail
    (refine wp_region_later (by kernel_rfl) (by kernel_rfl) ?_; (repeat (go_big_quiet_step ((first | (go_at_call 87; exact Calls.later (HSK.out _) rfl))))); refine wpQuiet_nil ?_; rintro _ ⟨⟨w2, hb2⟩, rfl⟩)
    go_wp2_with fail
    refine (HBT.out _).mono ?_
    rintro e w3 ⟨rfl, hw3⟩
    rw [hw3]
    clear hw3
    go_wp2
    exact ⟨⟨k + 1, by omega, by go_num, by rw [HE.out]; push_cast; rfl, hid (bstep hb.out hb2)⟩, by simp [intOf]; omega⟩
  ·have hkn : k = n := by omega
   subst hkn
   clear hlt
   go_wp2
   go_ret
   exact ⟨ret_int (by rw [HME.out]), HBW.out⟩
end
section
def joinR (ns : List Nat) (Ma Mb : Nat → Nat) (unit : Int) : Option (List Term) := if unit < 0 ∨ (ns.length : Int) ≤ unit then none else madeN ns (joinN Ma Mb unit.toNat)
def upto (ns : List Nat) (J : Nat → Nat) (k : Nat) : Nat → Nat := fun v => if v < k then J v else fullN ns v
theorem or_fact (a b : Nat) (ha : a ≤ 31) (hb : b ≤ 31) : bits .or .i64 (a : Int) (b : Int) = ((a ||| b : Nat) : Int) := by
 have h1 : nm (a : Int) = a := nm_nat (by omega)
 have h2 : nm (b : Int) = b := nm_nat (by omega)
 have h3 := or_le31 ha hb
 rw [bor _ _ (by rw [h1, h2]; omega), h1, h2]
end
end Go.Proofs.YthneiolcljnbeaaGreatDoor
