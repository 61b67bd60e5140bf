import Derived.Test.YthneiolcljnbeaaGreatDoorY5
import Derived.Test.YthneiolcljnbeaaGreatDoorzA0
import Derived.Outline
namespace Go.Proofs.YthneiolcljnbeaaGreatDoor
open Go Go.RowKit
set_option maxHeartbeats 1000000 in
theorem pcmay_any (n a b c : Int) (p q : ByteArray) (f : Bool) (w : World) (h : VB a b c p q) :
  Calls Tryz.prog 167 #[.agg #[.int .i64 n, .int .i64 a, .int .i64 b, .int .i64 c, .string p, .string q, .bool f]] w fun e w' => e = .returned (.bool (cutMay ⟨n, ⟨a, b, c, p, q⟩, f⟩)) ∧ Below w.heap.size w w' := by
 have HV := hid h
 clear h
 by_cases hn : n = 0
 ·have HU : Hid (cutMay ⟨n, ⟨a, b, c, p, q⟩, f⟩ = (mayV ⟨a, b, c, p, q⟩ && decide (q.size = 0))) := hid (by unfold cutMay; rw [if_pos hn])
  have e1 : (n == -1) = false := by rw [hn]; rfl
  have e1b : (n == 1) = false := by rw [hn]; rfl
  have e1c : (n != 0) = false := by rw [hn]; rfl
  clear hn
  by_cases hq : q.size = 0
  ·have e2 : q.toList.isEmpty = true := by rw [empty_toList hq]; rfl
   have HU2 : Hid (cutMay ⟨n, ⟨a, b, c, p, q⟩, f⟩ = mayV ⟨a, b, c, p, q⟩) := hid (by rw [HU.out, decide_eq_true hq, Bool.and_true])
   clear hq
   cases hm : mayV ⟨a, b, c, p, q⟩
   all_goals
    have HM := hid hm
    clear hm
    go_enter Tryz.func167, Tryz.ntmps167
    go_wp2_with (go_at_call 101; (with_reducible refine (pvmay_any a b c p q _ HV.out).mono ?_); rintro e w1 ⟨rfl, hb1⟩; rw [HM.out]; obtain ⟨hbc, hbf⟩ := bcell hb1; have hz0 : w.heap.size < w1.heap.size := Nat.lt_of_lt_of_le (by simp) hb1.size; have HB1 := hid (bstep (balloc (b0 w) _) hb1))
    go_ret
    exact ⟨ret_bool (by rw [HU2.out, HM.out]), HB1.out⟩
  ·have e2 := nonempty_toList (s := q) (by omega)
   have HU2 : Hid (cutMay ⟨n, ⟨a, b, c, p, q⟩, f⟩ = false) := hid (by rw [HU.out, decide_eq_false hq, Bool.and_false])
   clear hq
   cases hm : mayV ⟨a, b, c, p, q⟩
   all_goals
    have HM := hid hm
    clear hm
    go_enter Tryz.func167, Tryz.ntmps167
    go_wp2_with (go_at_call 101; (with_reducible refine (pvmay_any a b c p q _ HV.out).mono ?_); rintro e w1 ⟨rfl, hb1⟩; rw [HM.out]; obtain ⟨hbc, hbf⟩ := bcell hb1; have hz0 : w.heap.size < w1.heap.size := Nat.lt_of_lt_of_le (by simp) hb1.size; have HB1 := hid (bstep (balloc (b0 w) _) hb1))
    go_ret
    exact ⟨ret_bool HU2.out.symm, HB1.out⟩
 ·have HU : Hid (cutMay ⟨n, ⟨a, b, c, p, q⟩, f⟩ = ((decide (n = -1) || decide (n = 1)) && zeroB a b c p q && !f)) := hid (by unfold cutMay; rw [if_neg hn])
  have e1 : (n != 0) = true := by rw [bne_iff_ne]; exact hn
  have hzz := fun W => ver_zero a b c p q W
  have hgd := fun op x y xs ys W => ver_eguard op x y xs ys W
  clear hn
  by_cases h1 : n = -1
  ·have e2 : (n == -1) = true := by rw [h1]; rfl
   have HU2 : Hid (cutMay ⟨n, ⟨a, b, c, p, q⟩, f⟩ = (zeroB a b c p q && !f)) := hid (by rw [HU.out, decide_eq_true h1]; rfl)
   clear h1
   cases hz : zeroB a b c p q <;> cases f
   all_goals
    go_enter Tryz.func167, Tryz.ntmps167
    go_wp2
    go_ret
    exact ⟨ret_bool (by rw [HU2.out, hz]; rfl), balloc (b0 w) _⟩
  ·have e2 : (n == -1) = false := by rw [beq_eq_false_iff_ne]; exact h1
   by_cases h2 : n = 1
   ·have e3 : (n == 1) = true := by rw [h2]; rfl
    have HU2 : Hid (cutMay ⟨n, ⟨a, b, c, p, q⟩, f⟩ = (zeroB a b c p q && !f)) := hid (by rw [HU.out, decide_eq_true h2, Bool.or_true, Bool.true_and])
    clear h1 h2
    cases hz : zeroB a b c p q <;> cases f
    all_goals
     go_enter Tryz.func167, Tryz.ntmps167
     go_wp2
     go_ret
     exact ⟨ret_bool (by rw [HU2.out, hz]; rfl), balloc (b0 w) _⟩
   ·have e3 : (n == 1) = false := by rw [beq_eq_false_iff_ne]; exact h2
    have HU2 : Hid (cutMay ⟨n, ⟨a, b, c, p, q⟩, f⟩ = false) := hid (by rw [HU.out, decide_eq_false h1, decide_eq_false h2]; rfl)
    clear h1 h2
    go_enter Tryz.func167, Tryz.ntmps167
    go_wp2
    go_ret
    exact ⟨ret_bool HU2.out.symm, balloc (b0 w) _⟩
set_option maxRecDepth 100000 in
set_option maxHeartbeats 1000000 in
theorem pccmp_any (n a b c : Int) (p q : ByteArray) (f : Bool) (n' a' b' c' : Int) (p' q' : ByteArray) (f' : Bool) (w : World) (h : VB a b c p q) (h' : VB a' b' c' p' q') :
  Calls Tryz.prog 149 #[.agg #[.int .i64 n, .int .i64 a, .int .i64 b, .int .i64 c, .string p, .string q, .bool f], .agg #[.int .i64 n', .int .i64 a', .int .i64 b', .int .i64 c', .string p', .string q', .bool f']] w fun e w' => e = .returned (.int .i64 (cmpC ⟨n, ⟨a, b, c, p, q⟩, f⟩ ⟨n', ⟨a', b', c', p', q'⟩, f'⟩)) ∧ Below w.heap.size w w' := by
 have HV := hid h
 have HV' := hid h'
 clear h h'
 cases h1 : cutMay ⟨n, ⟨a, b, c, p, q⟩, f⟩ with
 | false =>
  have H1 := hid h1
  have H : Hid (cmpC ⟨n, ⟨a, b, c, p, q⟩, f⟩ ⟨n', ⟨a', b', c', p', q'⟩, f'⟩ = 0) := hid (by unfold cmpC; rw [if_neg (by rw [h1]; simp)])
  clear h1
  go_enter Tryz.func149, Tryz.ntmps149
  go_wp2_with (first
   | (go_at_call 167; (with_reducible refine (pcmay_any n a b c p q f _ HV.out).mono ?_); rintro e w1 ⟨rfl, hb1⟩; rw [H1.out]; obtain ⟨hbc, hbf⟩ := bcell hb1; have hz : w.heap.size + 1 < w1.heap.size := Nat.lt_of_lt_of_le (by simp) hb1.size; have hz0 : w.heap.size < w1.heap.size := Nat.lt_of_succ_lt hz; have HB1 := hid (bstep (balloc (balloc (b0 w) _) _) hb1))
   | (go_at_call 168; refine (cmpi_any _ _ _).mono ?_; rintro e w' ⟨rfl, rfl⟩)
   | (go_at_call 169; (with_reducible refine (pvcmp_any a b c p q a' b' c' p' q' _ HV.out HV'.out).mono ?_); rintro e w3 ⟨rfl, hb3⟩; obtain ⟨hbc3, hbf3⟩ := bcell hb3; have HB3 := hid (bstep HB2.out hb3)))
  go_ret
  exact ⟨ret_int H.out.symm, HB1.out⟩
 | true =>
  have H1 := hid h1
  cases h2 : cutMay ⟨n', ⟨a', b', c', p', q'⟩, f'⟩ with
  | false =>
   have H2 := hid h2
   have H : Hid (cmpC ⟨n, ⟨a, b, c, p, q⟩, f⟩ ⟨n', ⟨a', b', c', p', q'⟩, f'⟩ = 0) := hid (by unfold cmpC; rw [if_neg (by rw [h2]; simp)])
   clear h1 h2
   go_enter Tryz.func149, Tryz.ntmps149
   go_wp2_with (first
    | (go_at_call 167; (with_reducible refine (pcmay_any n a b c p q f _ HV.out).mono ?_); rintro e w1 ⟨rfl, hb1⟩; rw [H1.out]; obtain ⟨hbc, hbf⟩ := bcell hb1; have hz : w.heap.size + 1 < w1.heap.size := Nat.lt_of_lt_of_le (by simp) hb1.size; have hz0 : w.heap.size < w1.heap.size := Nat.lt_of_succ_lt hz; have HB1 := hid (bstep (balloc (balloc (b0 w) _) _) hb1))
    | (go_at_call 167; (with_reducible refine (pcmay_any n' a' b' c' p' q' f' _ HV'.out).mono ?_); rintro e w2 ⟨rfl, hb2⟩; rw [H2.out]; obtain ⟨hbc2, hbf2⟩ := bcell hb2; have HB2 := hid (bstep HB1.out hb2); have hy : w.heap.size + 1 < w2.heap.size := Nat.lt_of_lt_of_le hz hb2.size; have hy0 : w.heap.size < w2.heap.size := Nat.lt_of_succ_lt hy)
    | (go_at_call 168; refine (cmpi_any _ _ _).mono ?_; rintro e w' ⟨rfl, rfl⟩)
    | (go_at_call 169; (with_reducible refine (pvcmp_any a b c p q a' b' c' p' q' _ HV.out HV'.out).mono ?_); rintro e w3 ⟨rfl, hb3⟩; obtain ⟨hbc3, hbf3⟩ := bcell hb3; have HB3 := hid (bstep HB2.out hb3)))
   go_ret
   exact ⟨ret_int H.out.symm, HB2.out⟩
  | true =>
   have H2 := hid h2
   have H0 : Hid (cmpC ⟨n, ⟨a, b, c, p, q⟩, f⟩ ⟨n', ⟨a', b', c', p', q'⟩, f'⟩ = if n ≠ n' ∨ n ≠ 0 then intsF n n' else if cmpV ⟨a, b, c, p, q⟩ ⟨a', b', c', p', q'⟩ ≠ 0 then cmpV ⟨a, b, c, p, q⟩ ⟨a', b', c', p', q'⟩ else if f = f' then 0 else if f' = true then -1 else 1) := hid (by unfold cmpC; rw [if_pos ⟨h1, h2⟩])
   clear h1 h2
   by_cases k1 : n = n'
   ·skip
    by_cases k2 : n = 0
    ·have e2 : (n != 0) = false := by rw [k2]; rfl
     have e2b : (n' != 0) = false := by rw [← k1, k2]; rfl
     by_cases k3 : cmpV ⟨a, b, c, p, q⟩ ⟨a', b', c', p', q'⟩ = 0
     ·have e3 : (cmpV ⟨a, b, c, p, q⟩ ⟨a', b', c', p', q'⟩ != 0) = false := by rw [k3]; rfl
      have H9 : Hid (cmpC ⟨n, ⟨a, b, c, p, q⟩, f⟩ ⟨n', ⟨a', b', c', p', q'⟩, f'⟩ = if f = f' then 0 else if f' = true then -1 else 1) := hid (by rw [H0.out, if_neg (by simp [k1]; omega), if_neg (by simp [k3])])
      clear k1 k2 k3 H0
      have H0 := H9
      cases f <;> cases f'
      ·have H : Hid (cmpC ⟨n, ⟨a, b, c, p, q⟩, false⟩ ⟨n', ⟨a', b', c', p', q'⟩, false⟩ = 0) := hid (by rw [H0.out]; rfl)
       go_enter Tryz.func149, Tryz.ntmps149
       go_wp2_with (first
        | (go_at_call 167; (with_reducible refine (pcmay_any n a b c p q false _ HV.out).mono ?_); rintro e w1 ⟨rfl, hb1⟩; rw [H1.out]; obtain ⟨hbc, hbf⟩ := bcell hb1; have hz : w.heap.size + 1 < w1.heap.size := Nat.lt_of_lt_of_le (by simp) hb1.size; have hz0 : w.heap.size < w1.heap.size := Nat.lt_of_succ_lt hz; have HB1 := hid (bstep (balloc (balloc (b0 w) _) _) hb1))
        | (go_at_call 167; (with_reducible refine (pcmay_any n' a' b' c' p' q' false _ HV'.out).mono ?_); rintro e w2 ⟨rfl, hb2⟩; rw [H2.out]; obtain ⟨hbc2, hbf2⟩ := bcell hb2; have HB2 := hid (bstep HB1.out hb2); have hy : w.heap.size + 1 < w2.heap.size := Nat.lt_of_lt_of_le hz hb2.size; have hy0 : w.heap.size < w2.heap.size := Nat.lt_of_succ_lt hy)
        | (go_at_call 168; refine (cmpi_any _ _ _).mono ?_; rintro e w' ⟨rfl, rfl⟩)
        | (go_at_call 169; (with_reducible refine (pvcmp_any a b c p q a' b' c' p' q' _ HV.out HV'.out).mono ?_); rintro e w3 ⟨rfl, hb3⟩; obtain ⟨hbc3, hbf3⟩ := bcell hb3; have HB3 := hid (bstep HB2.out hb3)))
       go_ret
       exact ⟨ret_int H.out.symm, HB3.out⟩
      ·have H : Hid (cmpC ⟨n, ⟨a, b, c, p, q⟩, false⟩ ⟨n', ⟨a', b', c', p', q'⟩, true⟩ = -1) := hid (by rw [H0.out]; rfl)
       go_enter Tryz.func149, Tryz.ntmps149
       go_wp2_with (first
        | (go_at_call 167; (with_reducible refine (pcmay_any n a b c p q false _ HV.out).mono ?_); rintro e w1 ⟨rfl, hb1⟩; rw [H1.out]; obtain ⟨hbc, hbf⟩ := bcell hb1; have hz : w.heap.size + 1 < w1.heap.size := Nat.lt_of_lt_of_le (by simp) hb1.size; have hz0 : w.heap.size < w1.heap.size := Nat.lt_of_succ_lt hz; have HB1 := hid (bstep (balloc (balloc (b0 w) _) _) hb1))
        | (go_at_call 167; (with_reducible refine (pcmay_any n' a' b' c' p' q' true _ HV'.out).mono ?_); rintro e w2 ⟨rfl, hb2⟩; rw [H2.out]; obtain ⟨hbc2, hbf2⟩ := bcell hb2; have HB2 := hid (bstep HB1.out hb2); have hy : w.heap.size + 1 < w2.heap.size := Nat.lt_of_lt_of_le hz hb2.size; have hy0 : w.heap.size < w2.heap.size := Nat.lt_of_succ_lt hy)
        | (go_at_call 168; refine (cmpi_any _ _ _).mono ?_; rintro e w' ⟨rfl, rfl⟩)
        | (go_at_call 169; (with_reducible refine (pvcmp_any a b c p q a' b' c' p' q' _ HV.out HV'.out).mono ?_); rintro e w3 ⟨rfl, hb3⟩; obtain ⟨hbc3, hbf3⟩ := bcell hb3; have HB3 := hid (bstep HB2.out hb3)))
       go_ret
       exact ⟨ret_int H.out.symm, HB3.out⟩
      ·have H : Hid (cmpC ⟨n, ⟨a, b, c, p, q⟩, true⟩ ⟨n', ⟨a', b', c', p', q'⟩, false⟩ = 1) := hid (by rw [H0.out]; rfl)
       go_enter Tryz.func149, Tryz.ntmps149
       go_wp2_with (first
        | (go_at_call 167; (with_reducible refine (pcmay_any n a b c p q true _ HV.out).mono ?_); rintro e w1 ⟨rfl, hb1⟩; rw [H1.out]; obtain ⟨hbc, hbf⟩ := bcell hb1; have hz : w.heap.size + 1 < w1.heap.size := Nat.lt_of_lt_of_le (by simp) hb1.size; have hz0 : w.heap.size < w1.heap.size := Nat.lt_of_succ_lt hz; have HB1 := hid (bstep (balloc (balloc (b0 w) _) _) hb1))
        | (go_at_call 167; (with_reducible refine (pcmay_any n' a' b' c' p' q' false _ HV'.out).mono ?_); rintro e w2 ⟨rfl, hb2⟩; rw [H2.out]; obtain ⟨hbc2, hbf2⟩ := bcell hb2; have HB2 := hid (bstep HB1.out hb2); have hy : w.heap.size + 1 < w2.heap.size := Nat.lt_of_lt_of_le hz hb2.size; have hy0 : w.heap.size < w2.heap.size := Nat.lt_of_succ_lt hy)
        | (go_at_call 168; refine (cmpi_any _ _ _).mono ?_; rintro e w' ⟨rfl, rfl⟩)
        | (go_at_call 169; (with_reducible refine (pvcmp_any a b c p q a' b' c' p' q' _ HV.out HV'.out).mono ?_); rintro e w3 ⟨rfl, hb3⟩; obtain ⟨hbc3, hbf3⟩ := bcell hb3; have HB3 := hid (bstep HB2.out hb3)))
       go_ret
       exact ⟨ret_int H.out.symm, HB3.out⟩
      ·have H : Hid (cmpC ⟨n, ⟨a, b, c, p, q⟩, true⟩ ⟨n', ⟨a', b', c', p', q'⟩, true⟩ = 0) := hid (by rw [H0.out]; rfl)
       go_enter Tryz.func149, Tryz.ntmps149
       go_wp2_with (first
        | (go_at_call 167; (with_reducible refine (pcmay_any n a b c p q true _ HV.out).mono ?_); rintro e w1 ⟨rfl, hb1⟩; rw [H1.out]; obtain ⟨hbc, hbf⟩ := bcell hb1; have hz : w.heap.size + 1 < w1.heap.size := Nat.lt_of_lt_of_le (by simp) hb1.size; have hz0 : w.heap.size < w1.heap.size := Nat.lt_of_succ_lt hz; have HB1 := hid (bstep (balloc (balloc (b0 w) _) _) hb1))
        | (go_at_call 167; (with_reducible refine (pcmay_any n' a' b' c' p' q' true _ HV'.out).mono ?_); rintro e w2 ⟨rfl, hb2⟩; rw [H2.out]; obtain ⟨hbc2, hbf2⟩ := bcell hb2; have HB2 := hid (bstep HB1.out hb2); have hy : w.heap.size + 1 < w2.heap.size := Nat.lt_of_lt_of_le hz hb2.size; have hy0 : w.heap.size < w2.heap.size := Nat.lt_of_succ_lt hy)
        | (go_at_call 168; refine (cmpi_any _ _ _).mono ?_; rintro e w' ⟨rfl, rfl⟩)
        | (go_at_call 169; (with_reducible refine (pvcmp_any a b c p q a' b' c' p' q' _ HV.out HV'.out).mono ?_); rintro e w3 ⟨rfl, hb3⟩; obtain ⟨hbc3, hbf3⟩ := bcell hb3; have HB3 := hid (bstep HB2.out hb3)))
       go_ret
       exact ⟨ret_int H.out.symm, HB3.out⟩
     ·have e3 : (cmpV ⟨a, b, c, p, q⟩ ⟨a', b', c', p', q'⟩ != 0) = true := by rw [bne_iff_ne]; exact k3
      have H : Hid (cmpC ⟨n, ⟨a, b, c, p, q⟩, f⟩ ⟨n', ⟨a', b', c', p', q'⟩, f'⟩ = cmpV ⟨a, b, c, p, q⟩ ⟨a', b', c', p', q'⟩) := hid (by rw [H0.out, if_neg (by simp [k1]; omega), if_pos k3])
      clear k1 k2 k3 H0
      go_enter Tryz.func149, Tryz.ntmps149
      go_wp2_with (first
       | (go_at_call 167; (with_reducible refine (pcmay_any n a b c p q f _ HV.out).mono ?_); rintro e w1 ⟨rfl, hb1⟩; rw [H1.out]; obtain ⟨hbc, hbf⟩ := bcell hb1; have hz : w.heap.size + 1 < w1.heap.size := Nat.lt_of_lt_of_le (by simp) hb1.size; have hz0 : w.heap.size < w1.heap.size := Nat.lt_of_succ_lt hz; have HB1 := hid (bstep (balloc (balloc (b0 w) _) _) hb1))
       | (go_at_call 167; (with_reducible refine (pcmay_any n' a' b' c' p' q' f' _ HV'.out).mono ?_); rintro e w2 ⟨rfl, hb2⟩; rw [H2.out]; obtain ⟨hbc2, hbf2⟩ := bcell hb2; have HB2 := hid (bstep HB1.out hb2); have hy : w.heap.size + 1 < w2.heap.size := Nat.lt_of_lt_of_le hz hb2.size; have hy0 : w.heap.size < w2.heap.size := Nat.lt_of_succ_lt hy)
       | (go_at_call 168; refine (cmpi_any _ _ _).mono ?_; rintro e w' ⟨rfl, rfl⟩)
       | (go_at_call 169; (with_reducible refine (pvcmp_any a b c p q a' b' c' p' q' _ HV.out HV'.out).mono ?_); rintro e w3 ⟨rfl, hb3⟩; obtain ⟨hbc3, hbf3⟩ := bcell hb3; have HB3 := hid (bstep HB2.out hb3)))
      go_ret
      exact ⟨ret_int H.out.symm, HB3.out⟩
    ·have e2 : (n != 0) = true := by rw [bne_iff_ne]; exact k2
     have H : Hid (cmpC ⟨n, ⟨a, b, c, p, q⟩, f⟩ ⟨n', ⟨a', b', c', p', q'⟩, f'⟩ = intsF n n') := hid (by rw [H0.out, if_pos (.inr k2)])
     clear k1 k2 H0
     go_enter Tryz.func149, Tryz.ntmps149
     go_wp2_with (first
      | (go_at_call 167; (with_reducible refine (pcmay_any n a b c p q f _ HV.out).mono ?_); rintro e w1 ⟨rfl, hb1⟩; rw [H1.out]; obtain ⟨hbc, hbf⟩ := bcell hb1; have hz : w.heap.size + 1 < w1.heap.size := Nat.lt_of_lt_of_le (by simp) hb1.size; have hz0 : w.heap.size < w1.heap.size := Nat.lt_of_succ_lt hz; have HB1 := hid (bstep (balloc (balloc (b0 w) _) _) hb1))
      | (go_at_call 167; (with_reducible refine (pcmay_any n' a' b' c' p' q' f' _ HV'.out).mono ?_); rintro e w2 ⟨rfl, hb2⟩; rw [H2.out]; obtain ⟨hbc2, hbf2⟩ := bcell hb2; have HB2 := hid (bstep HB1.out hb2); have hy : w.heap.size + 1 < w2.heap.size := Nat.lt_of_lt_of_le hz hb2.size; have hy0 : w.heap.size < w2.heap.size := Nat.lt_of_succ_lt hy)
      | (go_at_call 168; refine (cmpi_any _ _ _).mono ?_; rintro e w' ⟨rfl, rfl⟩)
      | (go_at_call 169; (with_reducible refine (pvcmp_any a b c p q a' b' c' p' q' _ HV.out HV'.out).mono ?_); rintro e w3 ⟨rfl, hb3⟩; obtain ⟨hbc3, hbf3⟩ := bcell hb3; have HB3 := hid (bstep HB2.out hb3)))
     go_ret
     exact ⟨ret_int H.out.symm, HB2.out⟩
   ·have H : Hid (cmpC ⟨n, ⟨a, b, c, p, q⟩, f⟩ ⟨n', ⟨a', b', c', p', q'⟩, f'⟩ = intsF n n') := hid (by rw [H0.out, if_pos (.inl k1)])
    rcases (show (n != 0) = true ∨ ((n != 0) = false ∧ (n' != 0) = true) by
     by_cases h0 : n = 0
     ·exact .inr ⟨by rw [h0]; rfl, by rw [bne_iff_ne]; omega⟩
     ·exact .inl (by rw [bne_iff_ne]; exact h0)) with e1 | ⟨e1, e2⟩
    all_goals
     clear k1 H0
     go_enter Tryz.func149, Tryz.ntmps149
     go_wp2_with (first
      | (go_at_call 167; (with_reducible refine (pcmay_any n a b c p q f _ HV.out).mono ?_); rintro e w1 ⟨rfl, hb1⟩; rw [H1.out]; obtain ⟨hbc, hbf⟩ := bcell hb1; have hz : w.heap.size + 1 < w1.heap.size := Nat.lt_of_lt_of_le (by simp) hb1.size; have hz0 : w.heap.size < w1.heap.size := Nat.lt_of_succ_lt hz; have HB1 := hid (bstep (balloc (balloc (b0 w) _) _) hb1))
      | (go_at_call 167; (with_reducible refine (pcmay_any n' a' b' c' p' q' f' _ HV'.out).mono ?_); rintro e w2 ⟨rfl, hb2⟩; rw [H2.out]; obtain ⟨hbc2, hbf2⟩ := bcell hb2; have HB2 := hid (bstep HB1.out hb2); have hy : w.heap.size + 1 < w2.heap.size := Nat.lt_of_lt_of_le hz hb2.size; have hy0 : w.heap.size < w2.heap.size := Nat.lt_of_succ_lt hy)
      | (go_at_call 168; refine (cmpi_any _ _ _).mono ?_; rintro e w' ⟨rfl, rfl⟩)
      | (go_at_call 169; (with_reducible refine (pvcmp_any a b c p q a' b' c' p' q' _ HV.out HV'.out).mono ?_); rintro e w3 ⟨rfl, hb3⟩; obtain ⟨hbc3, hbf3⟩ := bcell hb3; have HB3 := hid (bstep HB2.out hb3)))
     go_ret
     exact ⟨ret_int H.out.symm, HB2.out⟩
set_option maxRecDepth 100000 in
set_option maxHeartbeats 1000000 in
theorem psmay_any (n a b c : Int) (p q : ByteArray) (f : Bool) (n' a' b' c' : Int) (p' q' : ByteArray) (f' : Bool) (w : World) (h : VB a b c p q) (h' : VB a' b' c' p' q') :
  Calls Tryz.prog 148 #[.agg #[.int .i64 n, .int .i64 a, .int .i64 b, .int .i64 c, .string p, .string q, .bool f, .int .i64 n', .int .i64 a', .int .i64 b', .int .i64 c', .string p', .string q', .bool f']] w fun e w' => e = .returned (.bool (spanMay ⟨⟨n, ⟨a, b, c, p, q⟩, f⟩, ⟨n', ⟨a', b', c', p', q'⟩, f'⟩⟩)) ∧ Below w.heap.size w w' := by
 have HV := hid h
 have HV' := hid h'
 clear h h'
 cases h1 : cutMay ⟨n, ⟨a, b, c, p, q⟩, f⟩ with
 | false =>
  have H1 := hid h1
  have H : Hid (spanMay ⟨⟨n, ⟨a, b, c, p, q⟩, f⟩, ⟨n', ⟨a', b', c', p', q'⟩, f'⟩⟩ = false) := hid (by unfold spanMay; rw [h1]; rfl)
  clear h1
  go_enter Tryz.func148, Tryz.ntmps148
  go_wp2_with (first
   | (go_at_call 167; (with_reducible refine (pcmay_any n a b c p q f _ HV.out).mono ?_); rintro e w1 ⟨rfl, hb1⟩; rw [H1.out]; obtain ⟨hbc, hbf⟩ := bcell hb1; have hz0 : w.heap.size < w1.heap.size := Nat.lt_of_lt_of_le (by simp) hb1.size; have HB1 := hid (bstep (balloc (b0 w) _) hb1))
   | (go_at_call 167; (with_reducible refine (pcmay_any n' a' b' c' p' q' f' _ HV'.out).mono ?_); rintro e w2 ⟨rfl, hb2⟩; obtain ⟨hbc2, hbf2⟩ := bcell hb2; have HB2 := hid (bstep HB1.out hb2); have hy0 : w.heap.size < w2.heap.size := Nat.lt_of_lt_of_le hz0 hb2.size)
   | (go_at_call 149; (with_reducible refine (pccmp_any n a b c p q f n' a' b' c' p' q' f' _ HV.out HV'.out).mono ?_); rintro e w3 ⟨rfl, hb3⟩; have HB3 := hid (bstep HB2.out hb3)))
  go_ret
  exact ⟨ret_bool H.out.symm, HB1.out⟩
 | true =>
  have H1 := hid h1
  cases h2 : cutMay ⟨n', ⟨a', b', c', p', q'⟩, f'⟩ with
  | false =>
   have H2 := hid h2
   have H : Hid (spanMay ⟨⟨n, ⟨a, b, c, p, q⟩, f⟩, ⟨n', ⟨a', b', c', p', q'⟩, f'⟩⟩ = false) := hid (by unfold spanMay; rw [h1, h2]; rfl)
   clear h1 h2
   go_enter Tryz.func148, Tryz.ntmps148
   go_wp2_with (first
    | (go_at_call 167; (with_reducible refine (pcmay_any n a b c p q f _ HV.out).mono ?_); rintro e w1 ⟨rfl, hb1⟩; rw [H1.out]; obtain ⟨hbc, hbf⟩ := bcell hb1; have hz0 : w.heap.size < w1.heap.size := Nat.lt_of_lt_of_le (by simp) hb1.size; have HB1 := hid (bstep (balloc (b0 w) _) hb1))
    | (go_at_call 167; (with_reducible refine (pcmay_any n' a' b' c' p' q' f' _ HV'.out).mono ?_); rintro e w2 ⟨rfl, hb2⟩; rw [H2.out]; obtain ⟨hbc2, hbf2⟩ := bcell hb2; have HB2 := hid (bstep HB1.out hb2); have hy0 : w.heap.size < w2.heap.size := Nat.lt_of_lt_of_le hz0 hb2.size)
    | (go_at_call 149; (with_reducible refine (pccmp_any n a b c p q f n' a' b' c' p' q' f' _ HV.out HV'.out).mono ?_); rintro e w3 ⟨rfl, hb3⟩; have HB3 := hid (bstep HB2.out hb3)))
   go_ret
   exact ⟨ret_bool H.out.symm, HB2.out⟩
  | true =>
   have H2 := hid h2
   have H : Hid (spanMay ⟨⟨n, ⟨a, b, c, p, q⟩, f⟩, ⟨n', ⟨a', b', c', p', q'⟩, f'⟩⟩ = decide (cmpC ⟨n, ⟨a, b, c, p, q⟩, f⟩ ⟨n', ⟨a', b', c', p', q'⟩, f'⟩ < 0)) := hid (by unfold spanMay; rw [h1, h2]; rfl)
   clear h1 h2
   by_cases k : cmpC ⟨n, ⟨a, b, c, p, q⟩, f⟩ ⟨n', ⟨a', b', c', p', q'⟩, f'⟩ < 0
   ·have e1 : decide (cmpC ⟨n, ⟨a, b, c, p, q⟩, f⟩ ⟨n', ⟨a', b', c', p', q'⟩, f'⟩ < 0) = true := decide_eq_true k
    have HK := hid e1
    go_enter Tryz.func148, Tryz.ntmps148
    go_wp2_with (first
     | (go_at_call 167; (with_reducible refine (pcmay_any n a b c p q f _ HV.out).mono ?_); rintro e w1 ⟨rfl, hb1⟩; rw [H1.out]; obtain ⟨hbc, hbf⟩ := bcell hb1; have hz0 : w.heap.size < w1.heap.size := Nat.lt_of_lt_of_le (by simp) hb1.size; have HB1 := hid (bstep (balloc (b0 w) _) hb1))
     | (go_at_call 167; (with_reducible refine (pcmay_any n' a' b' c' p' q' f' _ HV'.out).mono ?_); rintro e w2 ⟨rfl, hb2⟩; rw [H2.out]; obtain ⟨hbc2, hbf2⟩ := bcell hb2; have HB2 := hid (bstep HB1.out hb2); have hy0 : w.heap.size < w2.heap.size := Nat.lt_of_lt_of_le hz0 hb2.size)
     | (go_at_call 149; (with_reducible refine (pccmp_any n a b c p q f n' a' b' c' p' q' f' _ HV.out HV'.out).mono ?_); rintro e w3 ⟨rfl, hb3⟩; have HB3 := hid (bstep HB2.out hb3)))
    go_ret
    exact ⟨ret_bool (by rw [H.out, HK.out]), HB3.out⟩
   ·have e1 : decide (cmpC ⟨n, ⟨a, b, c, p, q⟩, f⟩ ⟨n', ⟨a', b', c', p', q'⟩, f'⟩ < 0) = false := decide_eq_false k
    have HK := hid e1
    go_enter Tryz.func148, Tryz.ntmps148
    go_wp2_with (first
     | (go_at_call 167; (with_reducible refine (pcmay_any n a b c p q f _ HV.out).mono ?_); rintro e w1 ⟨rfl, hb1⟩; rw [H1.out]; obtain ⟨hbc, hbf⟩ := bcell hb1; have hz0 : w.heap.size < w1.heap.size := Nat.lt_of_lt_of_le (by simp) hb1.size; have HB1 := hid (bstep (balloc (b0 w) _) hb1))
     | (go_at_call 167; (with_reducible refine (pcmay_any n' a' b' c' p' q' f' _ HV'.out).mono ?_); rintro e w2 ⟨rfl, hb2⟩; rw [H2.out]; obtain ⟨hbc2, hbf2⟩ := bcell hb2; have HB2 := hid (bstep HB1.out hb2); have hy0 : w.heap.size < w2.heap.size := Nat.lt_of_lt_of_le hz0 hb2.size)
     | (go_at_call 149; (with_reducible refine (pccmp_any n a b c p q f n' a' b' c' p' q' f' _ HV.out HV'.out).mono ?_); rintro e w3 ⟨rfl, hb3⟩; have HB3 := hid (bstep HB2.out hb3)))
    go_ret
    exact ⟨ret_bool (by rw [H.out, HK.out]), HB3.out⟩
set_option maxRecDepth 100000 in
set_option maxHeartbeats 4000000 in
theorem pahead_any (n a b c : Int) (p q : ByteArray) (f : Bool) (a' b' c' : Int) (p' q' : ByteArray) (w : World) (_hn : I64 n) (h : VB a b c p q) (h' : VB a' b' c' p' q') :
  Calls Tryz.prog 153 #[.agg #[.int .i64 n, .int .i64 a, .int .i64 b, .int .i64 c, .string p, .string q, .bool f], .agg #[.int .i64 a', .int .i64 b', .int .i64 c', .string p', .string q']] w fun e w' => e = .returned (.bool (aheadB ⟨n, ⟨a, b, c, p, q⟩, f⟩ ⟨a', b', c', p', q'⟩)) ∧ Below w.heap.size w w' := by
 have HV := hid h
 have HV' := hid h'
 clear h h'
 cases h1 : cutMay ⟨n, ⟨a, b, c, p, q⟩, f⟩ with
 | false =>
  have H1 := hid h1
  have H : Hid (aheadB ⟨n, ⟨a, b, c, p, q⟩, f⟩ ⟨a', b', c', p', q'⟩ = false) := hid (by unfold aheadB; rw [h1]; rfl)
  clear h1
  go_enter Tryz.func153, Tryz.ntmps153
  go_wp2_with (first
   | (go_at_call 167; (with_reducible refine (pcmay_any n a b c p q f _ HV.out).mono ?_); rintro e w1 ⟨rfl, hb1⟩; rw [H1.out]; obtain ⟨hbc, hbf⟩ := bcell hb1; have hz1 : w.heap.size < w1.heap.size := Nat.lt_of_lt_of_le (by simp; omega) hb1.size; have hy1 : w.heap.size + 1 < w1.heap.size := Nat.lt_of_lt_of_le (by simp) hb1.size; have HW1 := hid (bstep (balloc (balloc (b0 w) _) _) hb1))
   | (go_at_call 101; (with_reducible refine (pvmay_any a' b' c' p' q' _ HV'.out).mono ?_); rintro e w2 ⟨rfl, hb2⟩; obtain ⟨hbc2, hbf2⟩ := bcell hb2; have hz2 : w.heap.size < w2.heap.size := Nat.lt_of_lt_of_le hz1 hb2.size; have hy2 : w.heap.size + 1 < w2.heap.size := Nat.lt_of_lt_of_le hy1 hb2.size; have HW2 := hid (bstep HW1.out hb2))
   | (go_at_call 169; (with_reducible refine (pvcmp_any a b c p q a' b' c' p' q' _ HV.out HV'.out).mono ?_); rintro e w3 ⟨rfl, hb3⟩; obtain ⟨hbc3, hbf3⟩ := bcell hb3; have hz3 : w.heap.size < w3.heap.size := Nat.lt_of_lt_of_le hz2 hb3.size; have HW3 := hid (bstep HW2.out hb3)))
  all_goals go_ret
  all_goals exact ⟨ret_bool H.out.symm, HW1.out⟩
 | true =>
  have H1 := hid h1
  cases h2 : mayV ⟨a', b', c', p', q'⟩ with
  | false =>
   have H2 := hid h2
   have H : Hid (aheadB ⟨n, ⟨a, b, c, p, q⟩, f⟩ ⟨a', b', c', p', q'⟩ = false) := hid (by unfold aheadB; rw [h1, h2]; rfl)
   clear h1 h2
   go_enter Tryz.func153, Tryz.ntmps153
   go_wp2_with (first
    | (go_at_call 167; (with_reducible refine (pcmay_any n a b c p q f _ HV.out).mono ?_); rintro e w1 ⟨rfl, hb1⟩; rw [H1.out]; obtain ⟨hbc, hbf⟩ := bcell hb1; have hz1 : w.heap.size < w1.heap.size := Nat.lt_of_lt_of_le (by simp; omega) hb1.size; have hy1 : w.heap.size + 1 < w1.heap.size := Nat.lt_of_lt_of_le (by simp) hb1.size; have HW1 := hid (bstep (balloc (balloc (b0 w) _) _) hb1))
    | (go_at_call 101; (with_reducible refine (pvmay_any a' b' c' p' q' _ HV'.out).mono ?_); rintro e w2 ⟨rfl, hb2⟩; rw [H2.out]; obtain ⟨hbc2, hbf2⟩ := bcell hb2; have hz2 : w.heap.size < w2.heap.size := Nat.lt_of_lt_of_le hz1 hb2.size; have hy2 : w.heap.size + 1 < w2.heap.size := Nat.lt_of_lt_of_le hy1 hb2.size; have HW2 := hid (bstep HW1.out hb2))
    | (go_at_call 169; (with_reducible refine (pvcmp_any a b c p q a' b' c' p' q' _ HV.out HV'.out).mono ?_); rintro e w3 ⟨rfl, hb3⟩; obtain ⟨hbc3, hbf3⟩ := bcell hb3; have hz3 : w.heap.size < w3.heap.size := Nat.lt_of_lt_of_le hz2 hb3.size; have HW3 := hid (bstep HW2.out hb3)))
   all_goals go_ret
   all_goals exact ⟨ret_bool H.out.symm, HW2.out⟩
  | true =>
   have H2 := hid h2
   have HA : aheadB ⟨n, ⟨a, b, c, p, q⟩, f⟩ ⟨a', b', c', p', q'⟩ = (if n = 0 then decide (cmpV ⟨a, b, c, p, q⟩ ⟨a', b', c', p', q'⟩ < 0) || (decide (cmpV ⟨a, b, c, p, q⟩ ⟨a', b', c', p', q'⟩ = 0) && !f) else decide (n < 0)) := by unfold aheadB; rw [h1, h2]; rfl
   clear h1 h2
   by_cases hn0 : n = 0
   ·obtain ⟨k, hk⟩ : ∃ k, cmpV ⟨a, b, c, p, q⟩ ⟨a', b', c', p', q'⟩ = k := ⟨_, rfl⟩
    have HK := hid hk
    rw [if_pos hn0, hk] at HA
    have z0 : (n != 0) = false := by simp [hn0]
    have hcase : k < 0 ∨ k = 0 ∨ 0 < k := by omega
    clear hk hn0
    rcases hcase with hk | hk | hk
    ·have z1 : decide (k < 0) = true := decide_eq_true hk
     have H : Hid (aheadB ⟨n, ⟨a, b, c, p, q⟩, f⟩ ⟨a', b', c', p', q'⟩ = true) := hid (by rw [HA, z1]; rfl)
     clear HA
     go_enter Tryz.func153, Tryz.ntmps153
     go_wp2_with (first
      | (go_at_call 167; (with_reducible refine (pcmay_any n a b c p q f _ HV.out).mono ?_); rintro e w1 ⟨rfl, hb1⟩; rw [H1.out]; obtain ⟨hbc, hbf⟩ := bcell hb1; have hz1 : w.heap.size < w1.heap.size := Nat.lt_of_lt_of_le (by simp; omega) hb1.size; have hy1 : w.heap.size + 1 < w1.heap.size := Nat.lt_of_lt_of_le (by simp) hb1.size; have HW1 := hid (bstep (balloc (balloc (b0 w) _) _) hb1))
      | (go_at_call 101; (with_reducible refine (pvmay_any a' b' c' p' q' _ HV'.out).mono ?_); rintro e w2 ⟨rfl, hb2⟩; rw [H2.out]; obtain ⟨hbc2, hbf2⟩ := bcell hb2; have hz2 : w.heap.size < w2.heap.size := Nat.lt_of_lt_of_le hz1 hb2.size; have hy2 : w.heap.size + 1 < w2.heap.size := Nat.lt_of_lt_of_le hy1 hb2.size; have HW2 := hid (bstep HW1.out hb2))
      | (go_at_call 169; (with_reducible refine (pvcmp_any a b c p q a' b' c' p' q' _ HV.out HV'.out).mono ?_); rintro e w3 ⟨rfl, hb3⟩; rw [HK.out]; obtain ⟨hbc3, hbf3⟩ := bcell hb3; have hz3 : w.heap.size < w3.heap.size := Nat.lt_of_lt_of_le hz2 hb3.size; have HW3 := hid (bstep HW2.out hb3)))
     all_goals go_ret
     all_goals exact ⟨ret_bool H.out.symm, HW3.out⟩
    ·have z1 : decide (k < 0) = false := decide_eq_false (by omega)
     have z2 : (k == 0) = true := by rw [beq_iff_eq]; exact hk
     have H : Hid (aheadB ⟨n, ⟨a, b, c, p, q⟩, f⟩ ⟨a', b', c', p', q'⟩ = !f) := hid (by rw [HA, z1, decide_eq_true hk]; simp)
     clear HA hk
     go_enter Tryz.func153, Tryz.ntmps153
     go_wp2_with (first
      | (go_at_call 167; (with_reducible refine (pcmay_any n a b c p q f _ HV.out).mono ?_); rintro e w1 ⟨rfl, hb1⟩; rw [H1.out]; obtain ⟨hbc, hbf⟩ := bcell hb1; have hz1 : w.heap.size < w1.heap.size := Nat.lt_of_lt_of_le (by simp; omega) hb1.size; have hy1 : w.heap.size + 1 < w1.heap.size := Nat.lt_of_lt_of_le (by simp) hb1.size; have HW1 := hid (bstep (balloc (balloc (b0 w) _) _) hb1))
      | (go_at_call 101; (with_reducible refine (pvmay_any a' b' c' p' q' _ HV'.out).mono ?_); rintro e w2 ⟨rfl, hb2⟩; rw [H2.out]; obtain ⟨hbc2, hbf2⟩ := bcell hb2; have hz2 : w.heap.size < w2.heap.size := Nat.lt_of_lt_of_le hz1 hb2.size; have hy2 : w.heap.size + 1 < w2.heap.size := Nat.lt_of_lt_of_le hy1 hb2.size; have HW2 := hid (bstep HW1.out hb2))
      | (go_at_call 169; (with_reducible refine (pvcmp_any a b c p q a' b' c' p' q' _ HV.out HV'.out).mono ?_); rintro e w3 ⟨rfl, hb3⟩; rw [HK.out]; obtain ⟨hbc3, hbf3⟩ := bcell hb3; have hz3 : w.heap.size < w3.heap.size := Nat.lt_of_lt_of_le hz2 hb3.size; have HW3 := hid (bstep HW2.out hb3)))
     all_goals go_ret
     all_goals exact ⟨ret_bool H.out.symm, HW3.out⟩
    ·have z1 : decide (k < 0) = false := decide_eq_false (by omega)
     have z2 : (k == 0) = false := by rw [beq_eq_false_iff_ne]; omega
     have H : Hid (aheadB ⟨n, ⟨a, b, c, p, q⟩, f⟩ ⟨a', b', c', p', q'⟩ = false) := hid (by rw [HA, z1, decide_eq_false (by omega)]; rfl)
     clear HA hk
     go_enter Tryz.func153, Tryz.ntmps153
     go_wp2_with (first
      | (go_at_call 167; (with_reducible refine (pcmay_any n a b c p q f _ HV.out).mono ?_); rintro e w1 ⟨rfl, hb1⟩; rw [H1.out]; obtain ⟨hbc, hbf⟩ := bcell hb1; have hz1 : w.heap.size < w1.heap.size := Nat.lt_of_lt_of_le (by simp; omega) hb1.size; have hy1 : w.heap.size + 1 < w1.heap.size := Nat.lt_of_lt_of_le (by simp) hb1.size; have HW1 := hid (bstep (balloc (balloc (b0 w) _) _) hb1))
      | (go_at_call 101; (with_reducible refine (pvmay_any a' b' c' p' q' _ HV'.out).mono ?_); rintro e w2 ⟨rfl, hb2⟩; rw [H2.out]; obtain ⟨hbc2, hbf2⟩ := bcell hb2; have hz2 : w.heap.size < w2.heap.size := Nat.lt_of_lt_of_le hz1 hb2.size; have hy2 : w.heap.size + 1 < w2.heap.size := Nat.lt_of_lt_of_le hy1 hb2.size; have HW2 := hid (bstep HW1.out hb2))
      | (go_at_call 169; (with_reducible refine (pvcmp_any a b c p q a' b' c' p' q' _ HV.out HV'.out).mono ?_); rintro e w3 ⟨rfl, hb3⟩; rw [HK.out]; obtain ⟨hbc3, hbf3⟩ := bcell hb3; have hz3 : w.heap.size < w3.heap.size := Nat.lt_of_lt_of_le hz2 hb3.size; have HW3 := hid (bstep HW2.out hb3)))
     all_goals go_ret
     all_goals exact ⟨ret_bool H.out.symm, HW3.out⟩
   ·have z0 : (n != 0) = true := by simp [hn0]
    rw [if_neg hn0] at HA
    have H := hid HA
    clear HA hn0
    go_enter Tryz.func153, Tryz.ntmps153
    go_wp2_with (first
     | (go_at_call 167; (with_reducible refine (pcmay_any n a b c p q f _ HV.out).mono ?_); rintro e w1 ⟨rfl, hb1⟩; rw [H1.out]; obtain ⟨hbc, hbf⟩ := bcell hb1; have hz1 : w.heap.size < w1.heap.size := Nat.lt_of_lt_of_le (by simp; omega) hb1.size; have hy1 : w.heap.size + 1 < w1.heap.size := Nat.lt_of_lt_of_le (by simp) hb1.size; have HW1 := hid (bstep (balloc (balloc (b0 w) _) _) hb1))
     | (go_at_call 101; (with_reducible refine (pvmay_any a' b' c' p' q' _ HV'.out).mono ?_); rintro e w2 ⟨rfl, hb2⟩; rw [H2.out]; obtain ⟨hbc2, hbf2⟩ := bcell hb2; have hz2 : w.heap.size < w2.heap.size := Nat.lt_of_lt_of_le hz1 hb2.size; have hy2 : w.heap.size + 1 < w2.heap.size := Nat.lt_of_lt_of_le hy1 hb2.size; have HW2 := hid (bstep HW1.out hb2))
     | (go_at_call 169; (with_reducible refine (pvcmp_any a b c p q a' b' c' p' q' _ HV.out HV'.out).mono ?_); rintro e w3 ⟨rfl, hb3⟩; rw [HK.out]; obtain ⟨hbc3, hbf3⟩ := bcell hb3; have hz3 : w.heap.size < w3.heap.size := Nat.lt_of_lt_of_le hz2 hb3.size; have HW3 := hid (bstep HW2.out hb3)))
    all_goals go_ret
    all_goals exact ⟨ret_bool H.out.symm, HW2.out⟩
set_option maxRecDepth 100000 in
set_option maxHeartbeats 4000000 in
theorem pholds_any (n a b c : Int) (p q : ByteArray) (f : Bool) (n' a' b' c' : Int) (p' q' : ByteArray) (f' : Bool) (x y z : Int) (r s : ByteArray) (w : World) (hn : I64 n) (hn' : I64 n') (h : VB a b c p q) (h' : VB a' b' c' p' q') (hx : VB x y z r s) :
  Calls Tryz.prog 124 #[.agg #[.int .i64 n, .int .i64 a, .int .i64 b, .int .i64 c, .string p, .string q, .bool f, .int .i64 n', .int .i64 a', .int .i64 b', .int .i64 c', .string p', .string q', .bool f'], .agg #[.int .i64 x, .int .i64 y, .int .i64 z, .string r, .string s]] w fun e w' => e = .returned (.bool (holdsB ⟨⟨n, ⟨a, b, c, p, q⟩, f⟩, ⟨n', ⟨a', b', c', p', q'⟩, f'⟩⟩ ⟨x, y, z, r, s⟩)) ∧ Below w.heap.size w w' := by
 have HV := hid h
 have HV' := hid h'
 have HX := hid hx
 have HN := hid hn
 have HN' := hid hn'
 clear h h' hx hn hn'
 cases h1 : spanMay ⟨⟨n, ⟨a, b, c, p, q⟩, f⟩, ⟨n', ⟨a', b', c', p', q'⟩, f'⟩⟩ with
 | false =>
  have H1 := hid h1
  have H : Hid (holdsB ⟨⟨n, ⟨a, b, c, p, q⟩, f⟩, ⟨n', ⟨a', b', c', p', q'⟩, f'⟩⟩ ⟨x, y, z, r, s⟩ = false) := hid (by unfold holdsB; rw [h1]; rfl)
  clear h1
  go_enter Tryz.func124, Tryz.ntmps124
  have t1 := hid True.intro
  go_wp2_with (first
   | (go_at_call 148; (with_reducible refine (psmay_any n a b c p q f n' a' b' c' p' q' f' _ HV.out HV'.out).mono ?_); rintro e w1 ⟨rfl, hb1⟩; rw [H1.out]; obtain ⟨hbc, hbf⟩ := bcell hb1; have hz1 : w.heap.size < w1.heap.size := Nat.lt_of_lt_of_le (by simp; omega) hb1.size; have hy1 : w.heap.size + 1 < w1.heap.size := Nat.lt_of_lt_of_le (by simp) hb1.size; have HW1 := hid (bstep (balloc (balloc (b0 w) _) _) hb1))
   | (go_at_call 101; (with_reducible refine (pvmay_any x y z r s _ HX.out).mono ?_); rintro e w2 ⟨rfl, hb2⟩; obtain ⟨hbc2, hbf2⟩ := bcell hb2; have hz2 : w.heap.size < w2.heap.size := Nat.lt_of_lt_of_le hz1 hb2.size; have hy2 : w.heap.size + 1 < w2.heap.size := Nat.lt_of_lt_of_le hy1 hb2.size; have HW2 := hid (bstep HW1.out hb2))
   | (clear t1; go_at_call 153; (with_reducible refine (pahead_any n a b c p q f x y z r s _ HN.out HV.out HX.out).mono ?_); rintro e w3 ⟨rfl, hb3⟩; obtain ⟨hbc3, hbf3⟩ := bcell hb3; have hz3 : w.heap.size < w3.heap.size := Nat.lt_of_lt_of_le hz2 hb3.size; have hy3 : w.heap.size + 1 < w3.heap.size := Nat.lt_of_lt_of_le hy2 hb3.size; have HW3 := hid (bstep HW2.out hb3))
   | (go_at_call 153; (with_reducible refine (pahead_any n' a' b' c' p' q' f' x y z r s _ HN'.out HV'.out HX.out).mono ?_); rintro e w4 ⟨rfl, hb4⟩; have HW4 := hid (bstep HW3.out hb4)))
  all_goals go_ret
  all_goals exact ⟨ret_bool H.out.symm, HW1.out⟩
 | true =>
  have H1 := hid h1
  cases h2 : mayV ⟨x, y, z, r, s⟩ with
  | false =>
   have H2 := hid h2
   have H : Hid (holdsB ⟨⟨n, ⟨a, b, c, p, q⟩, f⟩, ⟨n', ⟨a', b', c', p', q'⟩, f'⟩⟩ ⟨x, y, z, r, s⟩ = false) := hid (by unfold holdsB; rw [h1, h2]; rfl)
   clear h1 h2
   go_enter Tryz.func124, Tryz.ntmps124
   have t1 := hid True.intro
   go_wp2_with (first
    | (go_at_call 148; (with_reducible refine (psmay_any n a b c p q f n' a' b' c' p' q' f' _ HV.out HV'.out).mono ?_); rintro e w1 ⟨rfl, hb1⟩; rw [H1.out]; obtain ⟨hbc, hbf⟩ := bcell hb1; have hz1 : w.heap.size < w1.heap.size := Nat.lt_of_lt_of_le (by simp; omega) hb1.size; have hy1 : w.heap.size + 1 < w1.heap.size := Nat.lt_of_lt_of_le (by simp) hb1.size; have HW1 := hid (bstep (balloc (balloc (b0 w) _) _) hb1))
    | (go_at_call 101; (with_reducible refine (pvmay_any x y z r s _ HX.out).mono ?_); rintro e w2 ⟨rfl, hb2⟩; rw [H2.out]; obtain ⟨hbc2, hbf2⟩ := bcell hb2; have hz2 : w.heap.size < w2.heap.size := Nat.lt_of_lt_of_le hz1 hb2.size; have hy2 : w.heap.size + 1 < w2.heap.size := Nat.lt_of_lt_of_le hy1 hb2.size; have HW2 := hid (bstep HW1.out hb2))
    | (clear t1; go_at_call 153; (with_reducible refine (pahead_any n a b c p q f x y z r s _ HN.out HV.out HX.out).mono ?_); rintro e w3 ⟨rfl, hb3⟩; obtain ⟨hbc3, hbf3⟩ := bcell hb3; have hz3 : w.heap.size < w3.heap.size := Nat.lt_of_lt_of_le hz2 hb3.size; have hy3 : w.heap.size + 1 < w3.heap.size := Nat.lt_of_lt_of_le hy2 hb3.size; have HW3 := hid (bstep HW2.out hb3))
    | (go_at_call 153; (with_reducible refine (pahead_any n' a' b' c' p' q' f' x y z r s _ HN'.out HV'.out HX.out).mono ?_); rintro e w4 ⟨rfl, hb4⟩; have HW4 := hid (bstep HW3.out hb4)))
   all_goals go_ret
   all_goals exact ⟨ret_bool H.out.symm, HW2.out⟩
  | true =>
   have H2 := hid h2
   cases h3 : aheadB ⟨n, ⟨a, b, c, p, q⟩, f⟩ ⟨x, y, z, r, s⟩ with
   | false =>
    have H3 := hid h3
    have H : Hid (holdsB ⟨⟨n, ⟨a, b, c, p, q⟩, f⟩, ⟨n', ⟨a', b', c', p', q'⟩, f'⟩⟩ ⟨x, y, z, r, s⟩ = false) := hid (by unfold holdsB; rw [h1, h2, h3]; rfl)
    clear h1 h2 h3
    go_enter Tryz.func124, Tryz.ntmps124
    have t1 := hid True.intro
    go_wp2_with (first
     | (go_at_call 148; (with_reducible refine (psmay_any n a b c p q f n' a' b' c' p' q' f' _ HV.out HV'.out).mono ?_); rintro e w1 ⟨rfl, hb1⟩; rw [H1.out]; obtain ⟨hbc, hbf⟩ := bcell hb1; have hz1 : w.heap.size < w1.heap.size := Nat.lt_of_lt_of_le (by simp; omega) hb1.size; have hy1 : w.heap.size + 1 < w1.heap.size := Nat.lt_of_lt_of_le (by simp) hb1.size; have HW1 := hid (bstep (balloc (balloc (b0 w) _) _) hb1))
     | (go_at_call 101; (with_reducible refine (pvmay_any x y z r s _ HX.out).mono ?_); rintro e w2 ⟨rfl, hb2⟩; rw [H2.out]; obtain ⟨hbc2, hbf2⟩ := bcell hb2; have hz2 : w.heap.size < w2.heap.size := Nat.lt_of_lt_of_le hz1 hb2.size; have hy2 : w.heap.size + 1 < w2.heap.size := Nat.lt_of_lt_of_le hy1 hb2.size; have HW2 := hid (bstep HW1.out hb2))
     | (clear t1; go_at_call 153; (with_reducible refine (pahead_any n a b c p q f x y z r s _ HN.out HV.out HX.out).mono ?_); rintro e w3 ⟨rfl, hb3⟩; rw [H3.out]; obtain ⟨hbc3, hbf3⟩ := bcell hb3; have hz3 : w.heap.size < w3.heap.size := Nat.lt_of_lt_of_le hz2 hb3.size; have hy3 : w.heap.size + 1 < w3.heap.size := Nat.lt_of_lt_of_le hy2 hb3.size; have HW3 := hid (bstep HW2.out hb3))
     | (go_at_call 153; (with_reducible refine (pahead_any n' a' b' c' p' q' f' x y z r s _ HN'.out HV'.out HX.out).mono ?_); rintro e w4 ⟨rfl, hb4⟩; have HW4 := hid (bstep HW3.out hb4)))
    all_goals go_ret
    all_goals exact ⟨ret_bool H.out.symm, HW3.out⟩
   | true =>
    have H3 := hid h3
    cases h4 : aheadB ⟨n', ⟨a', b', c', p', q'⟩, f'⟩ ⟨x, y, z, r, s⟩ with
    | false =>
     have H4 := hid h4
     have H : Hid (holdsB ⟨⟨n, ⟨a, b, c, p, q⟩, f⟩, ⟨n', ⟨a', b', c', p', q'⟩, f'⟩⟩ ⟨x, y, z, r, s⟩ = true) := hid (by unfold holdsB; rw [h1, h2, h3, h4]; rfl)
     clear h1 h2 h3 h4
     go_enter Tryz.func124, Tryz.ntmps124
     have t1 := hid True.intro
     go_wp2_with (first
      | (go_at_call 148; (with_reducible refine (psmay_any n a b c p q f n' a' b' c' p' q' f' _ HV.out HV'.out).mono ?_); rintro e w1 ⟨rfl, hb1⟩; rw [H1.out]; obtain ⟨hbc, hbf⟩ := bcell hb1; have hz1 : w.heap.size < w1.heap.size := Nat.lt_of_lt_of_le (by simp; omega) hb1.size; have hy1 : w.heap.size + 1 < w1.heap.size := Nat.lt_of_lt_of_le (by simp) hb1.size; have HW1 := hid (bstep (balloc (balloc (b0 w) _) _) hb1))
      | (go_at_call 101; (with_reducible refine (pvmay_any x y z r s _ HX.out).mono ?_); rintro e w2 ⟨rfl, hb2⟩; rw [H2.out]; obtain ⟨hbc2, hbf2⟩ := bcell hb2; have hz2 : w.heap.size < w2.heap.size := Nat.lt_of_lt_of_le hz1 hb2.size; have hy2 : w.heap.size + 1 < w2.heap.size := Nat.lt_of_lt_of_le hy1 hb2.size; have HW2 := hid (bstep HW1.out hb2))
      | (clear t1; go_at_call 153; (with_reducible refine (pahead_any n a b c p q f x y z r s _ HN.out HV.out HX.out).mono ?_); rintro e w3 ⟨rfl, hb3⟩; rw [H3.out]; obtain ⟨hbc3, hbf3⟩ := bcell hb3; have hz3 : w.heap.size < w3.heap.size := Nat.lt_of_lt_of_le hz2 hb3.size; have hy3 : w.heap.size + 1 < w3.heap.size := Nat.lt_of_lt_of_le hy2 hb3.size; have HW3 := hid (bstep HW2.out hb3))
      | (go_at_call 153; (with_reducible refine (pahead_any n' a' b' c' p' q' f' x y z r s _ HN'.out HV'.out HX.out).mono ?_); rintro e w4 ⟨rfl, hb4⟩; rw [H4.out]; have HW4 := hid (bstep HW3.out hb4)))
     all_goals go_ret
     all_goals exact ⟨ret_bool H.out.symm, HW4.out⟩
    | true =>
     have H4 := hid h4
     have H : Hid (holdsB ⟨⟨n, ⟨a, b, c, p, q⟩, f⟩, ⟨n', ⟨a', b', c', p', q'⟩, f'⟩⟩ ⟨x, y, z, r, s⟩ = false) := hid (by unfold holdsB; rw [h1, h2, h3, h4]; rfl)
     clear h1 h2 h3 h4
     go_enter Tryz.func124, Tryz.ntmps124
     have t1 := hid True.intro
     go_wp2_with (first
      | (go_at_call 148; (with_reducible refine (psmay_any n a b c p q f n' a' b' c' p' q' f' _ HV.out HV'.out).mono ?_); rintro e w1 ⟨rfl, hb1⟩; rw [H1.out]; obtain ⟨hbc, hbf⟩ := bcell hb1; have hz1 : w.heap.size < w1.heap.size := Nat.lt_of_lt_of_le (by simp; omega) hb1.size; have hy1 : w.heap.size + 1 < w1.heap.size := Nat.lt_of_lt_of_le (by simp) hb1.size; have HW1 := hid (bstep (balloc (balloc (b0 w) _) _) hb1))
      | (go_at_call 101; (with_reducible refine (pvmay_any x y z r s _ HX.out).mono ?_); rintro e w2 ⟨rfl, hb2⟩; rw [H2.out]; obtain ⟨hbc2, hbf2⟩ := bcell hb2; have hz2 : w.heap.size < w2.heap.size := Nat.lt_of_lt_of_le hz1 hb2.size; have hy2 : w.heap.size + 1 < w2.heap.size := Nat.lt_of_lt_of_le hy1 hb2.size; have HW2 := hid (bstep HW1.out hb2))
      | (clear t1; go_at_call 153; (with_reducible refine (pahead_any n a b c p q f x y z r s _ HN.out HV.out HX.out).mono ?_); rintro e w3 ⟨rfl, hb3⟩; rw [H3.out]; obtain ⟨hbc3, hbf3⟩ := bcell hb3; have hz3 : w.heap.size < w3.heap.size := Nat.lt_of_lt_of_le hz2 hb3.size; have hy3 : w.heap.size + 1 < w3.heap.size := Nat.lt_of_lt_of_le hy2 hb3.size; have HW3 := hid (bstep HW2.out hb3))
      | (go_at_call 153; (with_reducible refine (pahead_any n' a' b' c' p' q' f' x y z r s _ HN'.out HV'.out HX.out).mono ?_); rintro e w4 ⟨rfl, hb4⟩; rw [H4.out]; have HW4 := hid (bstep HW3.out hb4)))
     all_goals go_ret
     all_goals exact ⟨ret_bool H.out.symm, HW4.out⟩
end Go.Proofs.YthneiolcljnbeaaGreatDoor
