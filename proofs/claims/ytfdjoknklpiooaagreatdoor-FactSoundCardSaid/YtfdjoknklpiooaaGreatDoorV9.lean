/- Contracts: linchpinref3.Compare, SpanMay. -/
import Derived.Test.YtfdjoknklpiooaaGreatDoorV8
namespace Go.Proofs.YtfdjoknklpiooaaGreatDoor
open Go Go.RowKit

/-- Cuts held against each other. -/
def cmpC (u v : Cut) : Int :=
  if cutMay u = true ∧ cutMay v = true then
    (if u.en ≠ v.en ∨ u.en ≠ 0 then intsF u.en v.en else if cmpV u.v v.v ≠ 0 then cmpV u.v v.v else if u.after = v.after then 0 else if v.after = true then -1 else 1)
  else 0

set_option maxRecDepth 100000 in
set_option maxHeartbeats 1000000 in
theorem ccmp_any (n a b c : Int) (p q : ByteArray) (f : Bool) (n' a' b' c' : Int) (p' q' : ByteArray) (f' : Bool) (w : World) (h : VB a b c p q) (h' : VB a' b' c' p' q') :
    Calls Tryz.prog 143 #[.agg #[.int .i64 n, .int .i64 a, .int .i64 b, .int .i64 c, .string p, .string q, .bool f], .agg #[.int .i64 n', .int .i64 a', .int .i64 b', .int .i64 c', .string p', .string q', .bool f']] w fun e w' => e = .returned (.int .i64 (cmpC ⟨n, ⟨a, b, c, p, q⟩, f⟩ ⟨n', ⟨a', b', c', p', q'⟩, f'⟩)) ∧ Below w.heap.size w w' := by
  have HV := hid h
  have HV' := hid h'
  clear h h'
  cases h1 : cutMay ⟨n, ⟨a, b, c, p, q⟩, f⟩ with
  | false =>
    have H1 := hid h1
    have H : Hid (cmpC ⟨n, ⟨a, b, c, p, q⟩, f⟩ ⟨n', ⟨a', b', c', p', q'⟩, f'⟩ = 0) := hid (by unfold cmpC; rw [if_neg (by rw [h1]; simp)])
    clear h1
    go_enter Tryz.func143, Tryz.ntmps143
    go_wp2_with (first
      | (go_at_call 162; (with_reducible refine (cmay_any n a b c p q f _ HV.out).mono ?_); rintro e w1 ⟨rfl, hb1⟩; rw [H1.out]; obtain ⟨hbc, hbf⟩ := bcell hb1; have hz : w.heap.size + 1 < w1.heap.size := Nat.lt_of_lt_of_le (by simp) hb1.size; have hz0 : w.heap.size < w1.heap.size := Nat.lt_of_succ_lt hz; have HB1 := hid (bstep (balloc (balloc (b0 w) _) _) hb1))
      | (go_at_call 163; refine (ints_any _ _ _).mono ?_; rintro e w' ⟨rfl, rfl⟩)
      | (go_at_call 164; (with_reducible refine (vcmp_any a b c p q a' b' c' p' q' _ HV.out HV'.out).mono ?_); rintro e w3 ⟨rfl, hb3⟩; obtain ⟨hbc3, hbf3⟩ := bcell hb3; have HB3 := hid (bstep HB2.out hb3)))
    go_ret
    exact ⟨ret_int H.out.symm, HB1.out⟩
  | true =>
    have H1 := hid h1
    cases h2 : cutMay ⟨n', ⟨a', b', c', p', q'⟩, f'⟩ with
    | false =>
      have H2 := hid h2
      have H : Hid (cmpC ⟨n, ⟨a, b, c, p, q⟩, f⟩ ⟨n', ⟨a', b', c', p', q'⟩, f'⟩ = 0) := hid (by unfold cmpC; rw [if_neg (by rw [h2]; simp)])
      clear h1 h2
      go_enter Tryz.func143, Tryz.ntmps143
      go_wp2_with (first
        | (go_at_call 162; (with_reducible refine (cmay_any n a b c p q f _ HV.out).mono ?_); rintro e w1 ⟨rfl, hb1⟩; rw [H1.out]; obtain ⟨hbc, hbf⟩ := bcell hb1; have hz : w.heap.size + 1 < w1.heap.size := Nat.lt_of_lt_of_le (by simp) hb1.size; have hz0 : w.heap.size < w1.heap.size := Nat.lt_of_succ_lt hz; have HB1 := hid (bstep (balloc (balloc (b0 w) _) _) hb1))
        | (go_at_call 162; (with_reducible refine (cmay_any n' a' b' c' p' q' f' _ HV'.out).mono ?_); rintro e w2 ⟨rfl, hb2⟩; rw [H2.out]; obtain ⟨hbc2, hbf2⟩ := bcell hb2; have HB2 := hid (bstep HB1.out hb2); have hy : w.heap.size + 1 < w2.heap.size := Nat.lt_of_lt_of_le hz hb2.size; have hy0 : w.heap.size < w2.heap.size := Nat.lt_of_succ_lt hy)
        | (go_at_call 163; refine (ints_any _ _ _).mono ?_; rintro e w' ⟨rfl, rfl⟩)
        | (go_at_call 164; (with_reducible refine (vcmp_any a b c p q a' b' c' p' q' _ HV.out HV'.out).mono ?_); rintro e w3 ⟨rfl, hb3⟩; obtain ⟨hbc3, hbf3⟩ := bcell hb3; have HB3 := hid (bstep HB2.out hb3)))
      go_ret
      exact ⟨ret_int H.out.symm, HB2.out⟩
    | true =>
      have H2 := hid h2
      have H0 : Hid (cmpC ⟨n, ⟨a, b, c, p, q⟩, f⟩ ⟨n', ⟨a', b', c', p', q'⟩, f'⟩ = if n ≠ n' ∨ n ≠ 0 then intsF n n' else if cmpV ⟨a, b, c, p, q⟩ ⟨a', b', c', p', q'⟩ ≠ 0 then cmpV ⟨a, b, c, p, q⟩ ⟨a', b', c', p', q'⟩ else if f = f' then 0 else if f' = true then -1 else 1) := hid (by unfold cmpC; rw [if_pos ⟨h1, h2⟩])
      clear h1 h2
      by_cases k1 : n = n'
      · have e1 : (n != n') = false := by rw [k1]; simp
        by_cases k2 : n = 0
        · have e2 : (n != 0) = false := by rw [k2]; rfl
          by_cases k3 : cmpV ⟨a, b, c, p, q⟩ ⟨a', b', c', p', q'⟩ = 0
          · have e3 : (cmpV ⟨a, b, c, p, q⟩ ⟨a', b', c', p', q'⟩ != 0) = false := by rw [k3]; rfl
            have H9 : Hid (cmpC ⟨n, ⟨a, b, c, p, q⟩, f⟩ ⟨n', ⟨a', b', c', p', q'⟩, f'⟩ = if f = f' then 0 else if f' = true then -1 else 1) := hid (by rw [H0.out, if_neg (by simp [k1]; omega), if_neg (by simp [k3])])
            clear k1 k2 k3 H0
            have H0 := H9
            cases f <;> cases f'
            · have H : Hid (cmpC ⟨n, ⟨a, b, c, p, q⟩, false⟩ ⟨n', ⟨a', b', c', p', q'⟩, false⟩ = 0) := hid (by rw [H0.out]; rfl)
              go_enter Tryz.func143, Tryz.ntmps143
              go_wp2_with (first
                | (go_at_call 162; (with_reducible refine (cmay_any n a b c p q false _ HV.out).mono ?_); rintro e w1 ⟨rfl, hb1⟩; rw [H1.out]; obtain ⟨hbc, hbf⟩ := bcell hb1; have hz : w.heap.size + 1 < w1.heap.size := Nat.lt_of_lt_of_le (by simp) hb1.size; have hz0 : w.heap.size < w1.heap.size := Nat.lt_of_succ_lt hz; have HB1 := hid (bstep (balloc (balloc (b0 w) _) _) hb1))
                | (go_at_call 162; (with_reducible refine (cmay_any n' a' b' c' p' q' false _ HV'.out).mono ?_); rintro e w2 ⟨rfl, hb2⟩; rw [H2.out]; obtain ⟨hbc2, hbf2⟩ := bcell hb2; have HB2 := hid (bstep HB1.out hb2); have hy : w.heap.size + 1 < w2.heap.size := Nat.lt_of_lt_of_le hz hb2.size; have hy0 : w.heap.size < w2.heap.size := Nat.lt_of_succ_lt hy)
                | (go_at_call 163; refine (ints_any _ _ _).mono ?_; rintro e w' ⟨rfl, rfl⟩)
                | (go_at_call 164; (with_reducible refine (vcmp_any a b c p q a' b' c' p' q' _ HV.out HV'.out).mono ?_); rintro e w3 ⟨rfl, hb3⟩; obtain ⟨hbc3, hbf3⟩ := bcell hb3; have HB3 := hid (bstep HB2.out hb3)))
              go_ret
              exact ⟨ret_int H.out.symm, HB3.out⟩
            · have H : Hid (cmpC ⟨n, ⟨a, b, c, p, q⟩, false⟩ ⟨n', ⟨a', b', c', p', q'⟩, true⟩ = -1) := hid (by rw [H0.out]; rfl)
              go_enter Tryz.func143, Tryz.ntmps143
              go_wp2_with (first
                | (go_at_call 162; (with_reducible refine (cmay_any n a b c p q false _ HV.out).mono ?_); rintro e w1 ⟨rfl, hb1⟩; rw [H1.out]; obtain ⟨hbc, hbf⟩ := bcell hb1; have hz : w.heap.size + 1 < w1.heap.size := Nat.lt_of_lt_of_le (by simp) hb1.size; have hz0 : w.heap.size < w1.heap.size := Nat.lt_of_succ_lt hz; have HB1 := hid (bstep (balloc (balloc (b0 w) _) _) hb1))
                | (go_at_call 162; (with_reducible refine (cmay_any n' a' b' c' p' q' true _ HV'.out).mono ?_); rintro e w2 ⟨rfl, hb2⟩; rw [H2.out]; obtain ⟨hbc2, hbf2⟩ := bcell hb2; have HB2 := hid (bstep HB1.out hb2); have hy : w.heap.size + 1 < w2.heap.size := Nat.lt_of_lt_of_le hz hb2.size; have hy0 : w.heap.size < w2.heap.size := Nat.lt_of_succ_lt hy)
                | (go_at_call 163; refine (ints_any _ _ _).mono ?_; rintro e w' ⟨rfl, rfl⟩)
                | (go_at_call 164; (with_reducible refine (vcmp_any a b c p q a' b' c' p' q' _ HV.out HV'.out).mono ?_); rintro e w3 ⟨rfl, hb3⟩; obtain ⟨hbc3, hbf3⟩ := bcell hb3; have HB3 := hid (bstep HB2.out hb3)))
              go_ret
              exact ⟨ret_int H.out.symm, HB3.out⟩
            · have H : Hid (cmpC ⟨n, ⟨a, b, c, p, q⟩, true⟩ ⟨n', ⟨a', b', c', p', q'⟩, false⟩ = 1) := hid (by rw [H0.out]; rfl)
              go_enter Tryz.func143, Tryz.ntmps143
              go_wp2_with (first
                | (go_at_call 162; (with_reducible refine (cmay_any n a b c p q true _ HV.out).mono ?_); rintro e w1 ⟨rfl, hb1⟩; rw [H1.out]; obtain ⟨hbc, hbf⟩ := bcell hb1; have hz : w.heap.size + 1 < w1.heap.size := Nat.lt_of_lt_of_le (by simp) hb1.size; have hz0 : w.heap.size < w1.heap.size := Nat.lt_of_succ_lt hz; have HB1 := hid (bstep (balloc (balloc (b0 w) _) _) hb1))
                | (go_at_call 162; (with_reducible refine (cmay_any n' a' b' c' p' q' false _ HV'.out).mono ?_); rintro e w2 ⟨rfl, hb2⟩; rw [H2.out]; obtain ⟨hbc2, hbf2⟩ := bcell hb2; have HB2 := hid (bstep HB1.out hb2); have hy : w.heap.size + 1 < w2.heap.size := Nat.lt_of_lt_of_le hz hb2.size; have hy0 : w.heap.size < w2.heap.size := Nat.lt_of_succ_lt hy)
                | (go_at_call 163; refine (ints_any _ _ _).mono ?_; rintro e w' ⟨rfl, rfl⟩)
                | (go_at_call 164; (with_reducible refine (vcmp_any a b c p q a' b' c' p' q' _ HV.out HV'.out).mono ?_); rintro e w3 ⟨rfl, hb3⟩; obtain ⟨hbc3, hbf3⟩ := bcell hb3; have HB3 := hid (bstep HB2.out hb3)))
              go_ret
              exact ⟨ret_int H.out.symm, HB3.out⟩
            · have H : Hid (cmpC ⟨n, ⟨a, b, c, p, q⟩, true⟩ ⟨n', ⟨a', b', c', p', q'⟩, true⟩ = 0) := hid (by rw [H0.out]; rfl)
              go_enter Tryz.func143, Tryz.ntmps143
              go_wp2_with (first
                | (go_at_call 162; (with_reducible refine (cmay_any n a b c p q true _ HV.out).mono ?_); rintro e w1 ⟨rfl, hb1⟩; rw [H1.out]; obtain ⟨hbc, hbf⟩ := bcell hb1; have hz : w.heap.size + 1 < w1.heap.size := Nat.lt_of_lt_of_le (by simp) hb1.size; have hz0 : w.heap.size < w1.heap.size := Nat.lt_of_succ_lt hz; have HB1 := hid (bstep (balloc (balloc (b0 w) _) _) hb1))
                | (go_at_call 162; (with_reducible refine (cmay_any n' a' b' c' p' q' true _ HV'.out).mono ?_); rintro e w2 ⟨rfl, hb2⟩; rw [H2.out]; obtain ⟨hbc2, hbf2⟩ := bcell hb2; have HB2 := hid (bstep HB1.out hb2); have hy : w.heap.size + 1 < w2.heap.size := Nat.lt_of_lt_of_le hz hb2.size; have hy0 : w.heap.size < w2.heap.size := Nat.lt_of_succ_lt hy)
                | (go_at_call 163; refine (ints_any _ _ _).mono ?_; rintro e w' ⟨rfl, rfl⟩)
                | (go_at_call 164; (with_reducible refine (vcmp_any a b c p q a' b' c' p' q' _ HV.out HV'.out).mono ?_); rintro e w3 ⟨rfl, hb3⟩; obtain ⟨hbc3, hbf3⟩ := bcell hb3; have HB3 := hid (bstep HB2.out hb3)))
              go_ret
              exact ⟨ret_int H.out.symm, HB3.out⟩
          · have e3 : (cmpV ⟨a, b, c, p, q⟩ ⟨a', b', c', p', q'⟩ != 0) = true := by rw [bne_iff_ne]; exact k3
            have H : Hid (cmpC ⟨n, ⟨a, b, c, p, q⟩, f⟩ ⟨n', ⟨a', b', c', p', q'⟩, f'⟩ = cmpV ⟨a, b, c, p, q⟩ ⟨a', b', c', p', q'⟩) := hid (by rw [H0.out, if_neg (by simp [k1]; omega), if_pos k3])
            clear k1 k2 k3 H0
            go_enter Tryz.func143, Tryz.ntmps143
            go_wp2_with (first
              | (go_at_call 162; (with_reducible refine (cmay_any n a b c p q f _ HV.out).mono ?_); rintro e w1 ⟨rfl, hb1⟩; rw [H1.out]; obtain ⟨hbc, hbf⟩ := bcell hb1; have hz : w.heap.size + 1 < w1.heap.size := Nat.lt_of_lt_of_le (by simp) hb1.size; have hz0 : w.heap.size < w1.heap.size := Nat.lt_of_succ_lt hz; have HB1 := hid (bstep (balloc (balloc (b0 w) _) _) hb1))
              | (go_at_call 162; (with_reducible refine (cmay_any n' a' b' c' p' q' f' _ HV'.out).mono ?_); rintro e w2 ⟨rfl, hb2⟩; rw [H2.out]; obtain ⟨hbc2, hbf2⟩ := bcell hb2; have HB2 := hid (bstep HB1.out hb2); have hy : w.heap.size + 1 < w2.heap.size := Nat.lt_of_lt_of_le hz hb2.size; have hy0 : w.heap.size < w2.heap.size := Nat.lt_of_succ_lt hy)
              | (go_at_call 163; refine (ints_any _ _ _).mono ?_; rintro e w' ⟨rfl, rfl⟩)
              | (go_at_call 164; (with_reducible refine (vcmp_any a b c p q a' b' c' p' q' _ HV.out HV'.out).mono ?_); rintro e w3 ⟨rfl, hb3⟩; obtain ⟨hbc3, hbf3⟩ := bcell hb3; have HB3 := hid (bstep HB2.out hb3)))
            go_ret
            exact ⟨ret_int H.out.symm, HB3.out⟩
        · have e2 : (n != 0) = true := by rw [bne_iff_ne]; exact k2
          have H : Hid (cmpC ⟨n, ⟨a, b, c, p, q⟩, f⟩ ⟨n', ⟨a', b', c', p', q'⟩, f'⟩ = intsF n n') := hid (by rw [H0.out, if_pos (.inr k2)])
          clear k1 k2 H0
          go_enter Tryz.func143, Tryz.ntmps143
          go_wp2_with (first
            | (go_at_call 162; (with_reducible refine (cmay_any n a b c p q f _ HV.out).mono ?_); rintro e w1 ⟨rfl, hb1⟩; rw [H1.out]; obtain ⟨hbc, hbf⟩ := bcell hb1; have hz : w.heap.size + 1 < w1.heap.size := Nat.lt_of_lt_of_le (by simp) hb1.size; have hz0 : w.heap.size < w1.heap.size := Nat.lt_of_succ_lt hz; have HB1 := hid (bstep (balloc (balloc (b0 w) _) _) hb1))
            | (go_at_call 162; (with_reducible refine (cmay_any n' a' b' c' p' q' f' _ HV'.out).mono ?_); rintro e w2 ⟨rfl, hb2⟩; rw [H2.out]; obtain ⟨hbc2, hbf2⟩ := bcell hb2; have HB2 := hid (bstep HB1.out hb2); have hy : w.heap.size + 1 < w2.heap.size := Nat.lt_of_lt_of_le hz hb2.size; have hy0 : w.heap.size < w2.heap.size := Nat.lt_of_succ_lt hy)
            | (go_at_call 163; refine (ints_any _ _ _).mono ?_; rintro e w' ⟨rfl, rfl⟩)
            | (go_at_call 164; (with_reducible refine (vcmp_any a b c p q a' b' c' p' q' _ HV.out HV'.out).mono ?_); rintro e w3 ⟨rfl, hb3⟩; obtain ⟨hbc3, hbf3⟩ := bcell hb3; have HB3 := hid (bstep HB2.out hb3)))
          go_ret
          exact ⟨ret_int H.out.symm, HB2.out⟩
      · have e1 : (n != n') = true := by rw [bne_iff_ne]; exact k1
        have H : Hid (cmpC ⟨n, ⟨a, b, c, p, q⟩, f⟩ ⟨n', ⟨a', b', c', p', q'⟩, f'⟩ = intsF n n') := hid (by rw [H0.out, if_pos (.inl k1)])
        clear k1 H0
        go_enter Tryz.func143, Tryz.ntmps143
        go_wp2_with (first
          | (go_at_call 162; (with_reducible refine (cmay_any n a b c p q f _ HV.out).mono ?_); rintro e w1 ⟨rfl, hb1⟩; rw [H1.out]; obtain ⟨hbc, hbf⟩ := bcell hb1; have hz : w.heap.size + 1 < w1.heap.size := Nat.lt_of_lt_of_le (by simp) hb1.size; have hz0 : w.heap.size < w1.heap.size := Nat.lt_of_succ_lt hz; have HB1 := hid (bstep (balloc (balloc (b0 w) _) _) hb1))
          | (go_at_call 162; (with_reducible refine (cmay_any n' a' b' c' p' q' f' _ HV'.out).mono ?_); rintro e w2 ⟨rfl, hb2⟩; rw [H2.out]; obtain ⟨hbc2, hbf2⟩ := bcell hb2; have HB2 := hid (bstep HB1.out hb2); have hy : w.heap.size + 1 < w2.heap.size := Nat.lt_of_lt_of_le hz hb2.size; have hy0 : w.heap.size < w2.heap.size := Nat.lt_of_succ_lt hy)
          | (go_at_call 163; refine (ints_any _ _ _).mono ?_; rintro e w' ⟨rfl, rfl⟩)
          | (go_at_call 164; (with_reducible refine (vcmp_any a b c p q a' b' c' p' q' _ HV.out HV'.out).mono ?_); rintro e w3 ⟨rfl, hb3⟩; obtain ⟨hbc3, hbf3⟩ := bcell hb3; have HB3 := hid (bstep HB2.out hb3)))
        go_ret
        exact ⟨ret_int H.out.symm, HB2.out⟩

def spanMay (s : Span) : Bool := cutMay s.lo && (cutMay s.hi && decide (cmpC s.lo s.hi < 0))

set_option maxRecDepth 100000 in
set_option maxHeartbeats 1000000 in
theorem smay_any (n a b c : Int) (p q : ByteArray) (f : Bool) (n' a' b' c' : Int) (p' q' : ByteArray) (f' : Bool) (w : World) (h : VB a b c p q) (h' : VB a' b' c' p' q') :
    Calls Tryz.prog 142 #[.agg #[.int .i64 n, .int .i64 a, .int .i64 b, .int .i64 c, .string p, .string q, .bool f, .int .i64 n', .int .i64 a', .int .i64 b', .int .i64 c', .string p', .string q', .bool f']] w fun e w' => e = .returned (.bool (spanMay ⟨⟨n, ⟨a, b, c, p, q⟩, f⟩, ⟨n', ⟨a', b', c', p', q'⟩, f'⟩⟩)) ∧ Below w.heap.size w w' := by
  have HV := hid h
  have HV' := hid h'
  clear h h'
  cases h1 : cutMay ⟨n, ⟨a, b, c, p, q⟩, f⟩ with
  | false =>
    have H1 := hid h1
    have H : Hid (spanMay ⟨⟨n, ⟨a, b, c, p, q⟩, f⟩, ⟨n', ⟨a', b', c', p', q'⟩, f'⟩⟩ = false) := hid (by unfold spanMay; rw [h1]; rfl)
    clear h1
    go_enter Tryz.func142, Tryz.ntmps142
    go_wp2_with (first
      | (go_at_call 162; (with_reducible refine (cmay_any n a b c p q f _ HV.out).mono ?_); rintro e w1 ⟨rfl, hb1⟩; rw [H1.out]; obtain ⟨hbc, hbf⟩ := bcell hb1; have hz0 : w.heap.size < w1.heap.size := Nat.lt_of_lt_of_le (by simp) hb1.size; have HB1 := hid (bstep (balloc (b0 w) _) hb1))
      | (go_at_call 162; (with_reducible refine (cmay_any n' a' b' c' p' q' f' _ HV'.out).mono ?_); rintro e w2 ⟨rfl, hb2⟩; obtain ⟨hbc2, hbf2⟩ := bcell hb2; have HB2 := hid (bstep HB1.out hb2); have hy0 : w.heap.size < w2.heap.size := Nat.lt_of_lt_of_le hz0 hb2.size)
      | (go_at_call 143; (with_reducible refine (ccmp_any n a b c p q f n' a' b' c' p' q' f' _ HV.out HV'.out).mono ?_); rintro e w3 ⟨rfl, hb3⟩; have HB3 := hid (bstep HB2.out hb3)))
    go_ret
    exact ⟨ret_bool H.out.symm, HB1.out⟩
  | true =>
    have H1 := hid h1
    cases h2 : cutMay ⟨n', ⟨a', b', c', p', q'⟩, f'⟩ with
    | false =>
      have H2 := hid h2
      have H : Hid (spanMay ⟨⟨n, ⟨a, b, c, p, q⟩, f⟩, ⟨n', ⟨a', b', c', p', q'⟩, f'⟩⟩ = false) := hid (by unfold spanMay; rw [h1, h2]; rfl)
      clear h1 h2
      go_enter Tryz.func142, Tryz.ntmps142
      go_wp2_with (first
        | (go_at_call 162; (with_reducible refine (cmay_any n a b c p q f _ HV.out).mono ?_); rintro e w1 ⟨rfl, hb1⟩; rw [H1.out]; obtain ⟨hbc, hbf⟩ := bcell hb1; have hz0 : w.heap.size < w1.heap.size := Nat.lt_of_lt_of_le (by simp) hb1.size; have HB1 := hid (bstep (balloc (b0 w) _) hb1))
        | (go_at_call 162; (with_reducible refine (cmay_any n' a' b' c' p' q' f' _ HV'.out).mono ?_); rintro e w2 ⟨rfl, hb2⟩; rw [H2.out]; obtain ⟨hbc2, hbf2⟩ := bcell hb2; have HB2 := hid (bstep HB1.out hb2); have hy0 : w.heap.size < w2.heap.size := Nat.lt_of_lt_of_le hz0 hb2.size)
        | (go_at_call 143; (with_reducible refine (ccmp_any n a b c p q f n' a' b' c' p' q' f' _ HV.out HV'.out).mono ?_); rintro e w3 ⟨rfl, hb3⟩; have HB3 := hid (bstep HB2.out hb3)))
      go_ret
      exact ⟨ret_bool H.out.symm, HB2.out⟩
    | true =>
      have H2 := hid h2
      have H : Hid (spanMay ⟨⟨n, ⟨a, b, c, p, q⟩, f⟩, ⟨n', ⟨a', b', c', p', q'⟩, f'⟩⟩ = decide (cmpC ⟨n, ⟨a, b, c, p, q⟩, f⟩ ⟨n', ⟨a', b', c', p', q'⟩, f'⟩ < 0)) := hid (by unfold spanMay; rw [h1, h2]; rfl)
      clear h1 h2
      by_cases k : cmpC ⟨n, ⟨a, b, c, p, q⟩, f⟩ ⟨n', ⟨a', b', c', p', q'⟩, f'⟩ < 0
      · have e1 : decide (cmpC ⟨n, ⟨a, b, c, p, q⟩, f⟩ ⟨n', ⟨a', b', c', p', q'⟩, f'⟩ < 0) = true := decide_eq_true k
        have HK := hid e1
        go_enter Tryz.func142, Tryz.ntmps142
        go_wp2_with (first
          | (go_at_call 162; (with_reducible refine (cmay_any n a b c p q f _ HV.out).mono ?_); rintro e w1 ⟨rfl, hb1⟩; rw [H1.out]; obtain ⟨hbc, hbf⟩ := bcell hb1; have hz0 : w.heap.size < w1.heap.size := Nat.lt_of_lt_of_le (by simp) hb1.size; have HB1 := hid (bstep (balloc (b0 w) _) hb1))
          | (go_at_call 162; (with_reducible refine (cmay_any n' a' b' c' p' q' f' _ HV'.out).mono ?_); rintro e w2 ⟨rfl, hb2⟩; rw [H2.out]; obtain ⟨hbc2, hbf2⟩ := bcell hb2; have HB2 := hid (bstep HB1.out hb2); have hy0 : w.heap.size < w2.heap.size := Nat.lt_of_lt_of_le hz0 hb2.size)
          | (go_at_call 143; (with_reducible refine (ccmp_any n a b c p q f n' a' b' c' p' q' f' _ HV.out HV'.out).mono ?_); rintro e w3 ⟨rfl, hb3⟩; have HB3 := hid (bstep HB2.out hb3)))
        go_ret
        exact ⟨ret_bool (by rw [H.out, HK.out]), HB3.out⟩
      · have e1 : decide (cmpC ⟨n, ⟨a, b, c, p, q⟩, f⟩ ⟨n', ⟨a', b', c', p', q'⟩, f'⟩ < 0) = false := decide_eq_false k
        have HK := hid e1
        go_enter Tryz.func142, Tryz.ntmps142
        go_wp2_with (first
          | (go_at_call 162; (with_reducible refine (cmay_any n a b c p q f _ HV.out).mono ?_); rintro e w1 ⟨rfl, hb1⟩; rw [H1.out]; obtain ⟨hbc, hbf⟩ := bcell hb1; have hz0 : w.heap.size < w1.heap.size := Nat.lt_of_lt_of_le (by simp) hb1.size; have HB1 := hid (bstep (balloc (b0 w) _) hb1))
          | (go_at_call 162; (with_reducible refine (cmay_any n' a' b' c' p' q' f' _ HV'.out).mono ?_); rintro e w2 ⟨rfl, hb2⟩; rw [H2.out]; obtain ⟨hbc2, hbf2⟩ := bcell hb2; have HB2 := hid (bstep HB1.out hb2); have hy0 : w.heap.size < w2.heap.size := Nat.lt_of_lt_of_le hz0 hb2.size)
          | (go_at_call 143; (with_reducible refine (ccmp_any n a b c p q f n' a' b' c' p' q' f' _ HV.out HV'.out).mono ?_); rintro e w3 ⟨rfl, hb3⟩; have HB3 := hid (bstep HB2.out hb3)))
        go_ret
        exact ⟨ret_bool (by rw [H.out, HK.out]), HB3.out⟩
end Go.Proofs.YtfdjoknklpiooaaGreatDoor
