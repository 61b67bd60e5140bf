import Derived.Test.YthneiolcljnbeaaGreatDoorzV4
import Derived.Outline
namespace Go.Proofs.YthneiolcljnbeaaGreatDoor
open Go Go.RowKit
set_option maxHeartbeats 400000 in
theorem core_any (a b c : Int) (p q : ByteArray) (w : World) :
  Calls Tryz.prog 71 #[.agg #[.int .i64 a, .int .i64 b, .int .i64 c, .string p, .string q]] w fun e w' => e = .returned (.agg #[.int .i64 a, .int .i64 b, .int .i64 c, .string p, .string ⟨#[]⟩]) ∧ Below w.heap.size w w' := by
 go_enter Tryz.func71, Tryz.ntmps71
 go_wp2
 exact bodyPost_ret (v := .agg #[.int .i64 a, .int .i64 b, .int .i64 c, .string p, .string ⟨#[]⟩]) (by simp [results, Tryz.results71, go_sem]) rfl ⟨rfl, balloc (balloc (b0 w) _) _⟩
theorem bnot_f {b : Bool} (h : (!b) = false) : b = true := by simpa using h
def NextOk (a b c a' b' c' : Int) : Prop := (a' = a + 1 ∧ b' = 0 ∧ c' = 0) ∨ (a' = a ∧ b' = b + 1 ∧ c' = 0) ∨ (a' = a ∧ b' = b ∧ c' = c + 1)
def IsNext (a b c : Int) (a' b' c' : Int) (p' q' : ByteArray) : Prop := mayV ⟨a', b', c', p', q'⟩ = true ∧ p' = ⟨#[]⟩ ∧ q' = ⟨#[]⟩ ∧ NextOk a b c a' b' c'
def VerPost (a b c : Int) (p : ByteArray) (w : World) (e : Ending) (w' : World) : Prop := ∃ (a' b' c' : Int) (p' q' : ByteArray) (ok : Bool), e = .returned (.tuple #[.agg #[.int .i64 a', .int .i64 b', .int .i64 c', .string p', .string q'], .bool ok]) ∧ VB a' b' c' p' q' ∧ (p.size = 0 → ok = true → IsNext a b c a' b' c' p' q') ∧ Below w.heap.size w w'
theorem may_bd {v : Ver} (h : mayV v = true) : (0 ≤ v.major ∧ v.major ≤ 9999) ∧ (0 ≤ v.minor ∧ v.minor ≤ 9999) ∧ (0 ≤ v.patch ∧ v.patch ≤ 9999) := by
 simp only [mayV, fitsB, Bool.and_eq_true, decide_eq_true_eq] at h
 obtain ⟨⟨⟨⟨h1, h2⟩, h3⟩, _⟩, _⟩ := h
 exact ⟨h1, h2, h3⟩
theorem vb_zero : VB 0 0 0 ⟨#[]⟩ ⟨#[]⟩ := by
 refine ⟨?_, ?_, ?_, ?_, ?_⟩ <;> first | omega | decide
set_option maxRecDepth 100000 in
set_option maxHeartbeats 1000000 in
theorem bump_any (a b c : Int) (p q : ByteArray) (part : Int) (w : World) (h : VB a b c p q) (_hpart : I64 part) :
  Calls Tryz.prog 96 #[.agg #[.int .i64 a, .int .i64 b, .int .i64 c, .string p, .string q], .int .i64 part] w (VerPost a b c p w) := by
 obtain ⟨ha, hb, hc, hp, hq⟩ := id h
 have HV := hid h
 clear h
 cases h1 : mayV ⟨a, b, c, p, q⟩ with
 | false =>
  have H1 := hid h1
  clear h1
  go_enter Tryz.func96, Tryz.ntmps96
  go_wp2_with (first
   | (go_at_call 36; (with_reducible refine (vmay_any a b c p q _ HV.out).mono ?_); rintro e w1 ⟨rfl, hb1⟩; rw [H1.out]; obtain ⟨hbc, hbf⟩ := bcell hb1; have hz : w.heap.size + 1 < w1.heap.size := Nat.lt_of_lt_of_le (by simp) hb1.size; have hz0 : w.heap.size < w1.heap.size := Nat.lt_of_succ_lt hz; have HB1 := hid (bstep (balloc (balloc (b0 w) _) _) hb1)))
  exact bodyPost_ret (v := .tuple #[.agg #[.int .i64 0, .int .i64 0, .int .i64 0, .string ⟨#[]⟩, .string ⟨#[]⟩], .bool false]) (by simp [results, Tryz.results96, go_sem, hbc]) rfl ⟨0, 0, 0, ⟨#[]⟩, ⟨#[]⟩, false, rfl, vb_zero, (fun _ h => by cases h), (by repeat (first | (with_reducible exact HB1.out) | (with_reducible exact b0 _) | (with_reducible refine bset ?_ (by first | exact Nat.le_refl _ | simp) _) | (with_reducible refine balloc ?_ _) | (with_reducible refine bdrew ?_)))⟩
 | true =>
  obtain ⟨hma, hmb, hmc⟩ := may_bd h1
  simp only at hma hmb hmc
  have H1 := hid h1
  clear h1
  go_enter Tryz.func96, Tryz.ntmps96
  go_wp2_with (first
   | (go_at_call 36; (with_reducible refine (vmay_any a b c p q _ HV.out).mono ?_); rintro e w1 ⟨rfl, hb1⟩; rw [H1.out]; obtain ⟨hbc, hbf⟩ := bcell hb1; have hz : w.heap.size + 1 < w1.heap.size := Nat.lt_of_lt_of_le (by simp) hb1.size; have hz0 : w.heap.size < w1.heap.size := Nat.lt_of_succ_lt hz; have HB1 := hid (bstep (balloc (balloc (b0 w) _) _) hb1))
   | (go_at_call 36; (refine (vmay_any _ _ _ _ _ _ (by refine ⟨?_, ?_, ?_, ?_, ?_⟩ <;> first | omega | decide)).mono ?_); rintro e w2 ⟨rfl, hb2⟩; obtain ⟨hbc2, hbf2⟩ := bcell hb2; have HB2 := hid (bstep (balloc HB1.out _) hb2)))
  ·exact bodyPost_ret (v := .tuple #[.agg #[.int .i64 (0), .int .i64 (0), .int .i64 (0), .string ⟨#[]⟩, .string ⟨#[]⟩], .bool false]) (by simp [results, Tryz.results96, go_sem, hbc]) rfl ⟨0, 0, 0, ⟨#[]⟩, ⟨#[]⟩, false, rfl, vb_zero, (fun _ h => by cases h), (by repeat (first | (with_reducible exact HB1.out) | (with_reducible exact b0 _) | (with_reducible refine bset ?_ (by first | exact Nat.le_refl _ | simp) _) | (with_reducible refine balloc ?_ _) | (with_reducible refine bdrew ?_)))⟩
  ·exact bodyPost_ret (v := .tuple #[.agg #[.int .i64 (0), .int .i64 (0), .int .i64 (0), .string ⟨#[]⟩, .string ⟨#[]⟩], .bool false]) (by simp [results, Tryz.results96, go_sem, hz, hz0, hbc2, hbc]) rfl ⟨0, 0, 0, ⟨#[]⟩, ⟨#[]⟩, false, rfl, vb_zero, (fun _ h => by cases h), (by repeat (first | (with_reducible exact HB2.out) | (with_reducible exact HB1.out) | (with_reducible exact b0 _) | (with_reducible refine bset ?_ (by first | exact Nat.le_refl _ | simp) _) | (with_reducible refine balloc ?_ _) | (with_reducible refine bdrew ?_)))⟩
  ·exact bodyPost_ret (v := .tuple #[.agg #[.int .i64 (a + 1), .int .i64 (0), .int .i64 (0), .string ⟨#[]⟩, .string ⟨#[]⟩], .bool true]) (by simp [results, Tryz.results96, go_sem, hz, hz0, hbc2, hbc]) rfl ⟨a + 1, 0, 0, ⟨#[]⟩, ⟨#[]⟩, true, rfl, (by refine ⟨?_, ?_, ?_, ?_, ?_⟩ <;> first | omega | decide), fun _ _ => ⟨bnot_f (by assumption), rfl, rfl, .inl ⟨rfl, rfl, rfl⟩⟩, (by repeat (first | (with_reducible exact HB2.out) | (with_reducible exact HB1.out) | (with_reducible exact b0 _) | (with_reducible refine bset ?_ (by first | exact Nat.le_refl _ | simp) _) | (with_reducible refine balloc ?_ _) | (with_reducible refine bdrew ?_)))⟩
  ·exact bodyPost_ret (v := .tuple #[.agg #[.int .i64 (0), .int .i64 (0), .int .i64 (0), .string ⟨#[]⟩, .string ⟨#[]⟩], .bool false]) (by simp [results, Tryz.results96, go_sem, hz, hz0, hbc2, hbc]) rfl ⟨0, 0, 0, ⟨#[]⟩, ⟨#[]⟩, false, rfl, vb_zero, (fun _ h => by cases h), (by repeat (first | (with_reducible exact HB2.out) | (with_reducible exact HB1.out) | (with_reducible exact b0 _) | (with_reducible refine bset ?_ (by first | exact Nat.le_refl _ | simp) _) | (with_reducible refine balloc ?_ _) | (with_reducible refine bdrew ?_)))⟩
  ·exact bodyPost_ret (v := .tuple #[.agg #[.int .i64 (a), .int .i64 (b + 1), .int .i64 (0), .string ⟨#[]⟩, .string ⟨#[]⟩], .bool true]) (by simp [results, Tryz.results96, go_sem, hz, hz0, hbc2, hbc]) rfl ⟨a, b + 1, 0, ⟨#[]⟩, ⟨#[]⟩, true, rfl, (by refine ⟨?_, ?_, ?_, ?_, ?_⟩ <;> first | omega | decide), fun _ _ => ⟨bnot_f (by assumption), rfl, rfl, .inr (.inl ⟨rfl, rfl, rfl⟩)⟩, (by repeat (first | (with_reducible exact HB2.out) | (with_reducible exact HB1.out) | (with_reducible exact b0 _) | (with_reducible refine bset ?_ (by first | exact Nat.le_refl _ | simp) _) | (with_reducible refine balloc ?_ _) | (with_reducible refine bdrew ?_)))⟩
  ·exact bodyPost_ret (v := .tuple #[.agg #[.int .i64 (0), .int .i64 (0), .int .i64 (0), .string ⟨#[]⟩, .string ⟨#[]⟩], .bool false]) (by simp [results, Tryz.results96, go_sem, hz, hz0, hbc2, hbc]) rfl ⟨0, 0, 0, ⟨#[]⟩, ⟨#[]⟩, false, rfl, vb_zero, (fun _ h => by cases h), (by repeat (first | (with_reducible exact HB2.out) | (with_reducible exact HB1.out) | (with_reducible exact b0 _) | (with_reducible refine bset ?_ (by first | exact Nat.le_refl _ | simp) _) | (with_reducible refine balloc ?_ _) | (with_reducible refine bdrew ?_)))⟩
  ·exact bodyPost_ret (v := .tuple #[.agg #[.int .i64 (a), .int .i64 (b), .int .i64 (c + 1), .string ⟨#[]⟩, .string ⟨#[]⟩], .bool true]) (by simp [results, Tryz.results96, go_sem, hz, hz0, hbc2, hbc]) rfl ⟨a, b, c + 1, ⟨#[]⟩, ⟨#[]⟩, true, rfl, (by refine ⟨?_, ?_, ?_, ?_, ?_⟩ <;> first | omega | decide), fun _ _ => ⟨bnot_f (by assumption), rfl, rfl, .inr (.inr ⟨rfl, rfl, rfl⟩)⟩, (by repeat (first | (with_reducible exact HB2.out) | (with_reducible exact HB1.out) | (with_reducible exact b0 _) | (with_reducible refine bset ?_ (by first | exact Nat.le_refl _ | simp) _) | (with_reducible refine balloc ?_ _) | (with_reducible refine bdrew ?_)))⟩
  ·exact bodyPost_ret (v := .tuple #[.agg #[.int .i64 (0), .int .i64 (0), .int .i64 (0), .string ⟨#[]⟩, .string ⟨#[]⟩], .bool false]) (by simp [results, Tryz.results96, go_sem, hbc]) rfl ⟨0, 0, 0, ⟨#[]⟩, ⟨#[]⟩, false, rfl, vb_zero, (fun _ h => by cases h), (by repeat (first | (with_reducible exact HB1.out) | (with_reducible exact b0 _) | (with_reducible refine bset ?_ (by first | exact Nat.le_refl _ | simp) _) | (with_reducible refine balloc ?_ _) | (with_reducible refine bdrew ?_)))⟩
set_option maxRecDepth 100000 in
set_option maxHeartbeats 1000000 in
theorem next_any (a b c : Int) (p q : ByteArray) (w : World) (h : VB a b c p q) :
  Calls Tryz.prog 74 #[.agg #[.int .i64 a, .int .i64 b, .int .i64 c, .string p, .string q]] w (VerPost a b c p w) := by
 obtain ⟨ha, hb, hc, hp, hq⟩ := id h
 have HV := hid h
 clear h
 cases h1 : mayV ⟨a, b, c, p, q⟩ with
 | false =>
  have H1 := hid h1
  clear h1
  go_enter Tryz.func74, Tryz.ntmps74
  go_wp2_with (first | (go_at_call 36; (with_reducible refine (vmay_any a b c p q _ HV.out).mono ?_); rintro e w1 ⟨rfl, hb1⟩; rw [H1.out]; obtain ⟨hbc, hbf⟩ := bcell hb1; have hz : w.heap.size + 1 < w1.heap.size := Nat.lt_of_lt_of_le (by simp) hb1.size; have hz0 : w.heap.size < w1.heap.size := Nat.lt_of_succ_lt hz; have HB1 := hid (bstep (balloc (balloc (b0 w) _) _) hb1)))
  exact bodyPost_ret (v := .tuple #[.agg #[.int .i64 0, .int .i64 0, .int .i64 0, .string ⟨#[]⟩, .string ⟨#[]⟩], .bool false]) (by simp [results, Tryz.results74, go_sem, hbc]) rfl ⟨0, 0, 0, ⟨#[]⟩, ⟨#[]⟩, false, rfl, vb_zero, (fun _ h => by cases h), (by repeat (first | (with_reducible exact HB1.out) | (with_reducible exact b0 _) | (with_reducible refine bset ?_ (by first | exact Nat.le_refl _ | simp) _) | (with_reducible refine balloc ?_ _) | (with_reducible refine bdrew ?_)))⟩
 | true =>
  have H1 := hid h1
  clear h1
  by_cases h0 : p.size = 0
  ·have e0 : p.toList.isEmpty = true := by rw [empty_toList h0]; rfl
   have e1 : (!p.toList.isEmpty) = false := by rw [e0]; rfl
   clear h0
   go_enter Tryz.func74, Tryz.ntmps74
   go_wp2_with (first | (go_at_call 36; (with_reducible refine (vmay_any a b c p q _ HV.out).mono ?_); rintro e w1 ⟨rfl, hb1⟩; rw [H1.out]; obtain ⟨hbc, hbf⟩ := bcell hb1; have hz : w.heap.size + 1 < w1.heap.size := Nat.lt_of_lt_of_le (by simp) hb1.size; have hz0 : w.heap.size < w1.heap.size := Nat.lt_of_succ_lt hz; have HB1 := hid (bstep (balloc (balloc (b0 w) _) _) hb1)))
   go_loopw [4] (fun v wr => ∃ n : Int, -1 ≤ n ∧ n ≤ 2 ∧ v = .int .i64 n ∧ Hid (Below w1.heap.size w1 wr)) (fun v _ => (intOf v + 1).toNat)
   case atStart => exact ⟨2, by omega, by omega, rfl, hid (b0 _)⟩
   case round =>
    obtain ⟨n, hn1, hn2, rfl, hbr⟩ := hrel
    obtain ⟨hrc, hrf⟩ := bcell hbr.out
    have HBR := hid (bstep HB1.out hbr.out)
    have hy : w.heap.size + 1 < wr.heap.size := Nat.lt_of_lt_of_le hz hbr.out.size
    have hy0 : w.heap.size < wr.heap.size := Nat.lt_of_succ_lt hy
    have HI : Hid (I64 n) := hid ⟨by omega, by omega⟩
    by_cases hn : 0 ≤ n
    ·go_wp2_with (first
      | (go_at_call 96; (with_reducible refine (bump_any a b c p q _ _ HV.out HI.out).mono ?_); rintro e w2 ⟨a2, b2, c2, p2, q2, ok, rfl, hvb, hnx, hb2⟩; have HVB := hid hvb; have HNX := hid hnx; obtain ⟨hbc2, hbf2⟩ := bcell hb2; have HB2 := hid (bstep HBR.out hb2); have HW2 := hid (bstep hbr.out hb2); have hy2 : w.heap.size + 1 < w2.heap.size := Nat.lt_of_lt_of_le hy hb2.size; have hy20 : w.heap.size < w2.heap.size := Nat.lt_of_succ_lt hy2; clear hvb hnx))
     ·exact bodyPost_ret (v := .tuple #[.agg #[.int .i64 a2, .int .i64 b2, .int .i64 c2, .string p2, .string q2], .bool true]) (by simp [results, Tryz.results74, go_sem, hz, hbc, hrc, hy, hbc2, hy2]) rfl ⟨a2, b2, c2, p2, q2, true, rfl, HVB.out, fun h _ => HNX.out h (by first | rfl | trivial), (by repeat (first | (with_reducible exact HB2.out) | (with_reducible exact b0 _) | (with_reducible refine bset ?_ (by first | exact Nat.le_refl _ | simp) _) | (with_reducible refine balloc ?_ _) | (with_reducible refine bdrew ?_)))⟩
     ·refine ⟨⟨n - 1, by omega, by omega, by go_num, hid (balloc HW2.out _)⟩, by simp [intOf]; omega⟩
    ·go_wp2
     exact bodyPost_ret (v := .tuple #[.agg #[.int .i64 0, .int .i64 0, .int .i64 0, .string ⟨#[]⟩, .string ⟨#[]⟩], .bool false]) (by simp [results, Tryz.results74, go_sem, hz, hbc, hrc]) rfl ⟨0, 0, 0, ⟨#[]⟩, ⟨#[]⟩, false, rfl, vb_zero, (fun _ h => by cases h), (by repeat (first | (with_reducible exact HBR.out) | (with_reducible exact b0 _) | (with_reducible refine bset ?_ (by first | exact Nat.le_refl _ | simp) _) | (with_reducible refine balloc ?_ _) | (with_reducible refine bdrew ?_)))⟩
  ·have e0 := nonempty_toList (s := p) (by omega)
   have e1 : (!p.toList.isEmpty) = true := by rw [e0]; rfl
   have HP0 := hid h0
   clear h0
   go_enter Tryz.func74, Tryz.ntmps74
   go_wp2_with (first | (go_at_call 36; (with_reducible refine (vmay_any a b c p q _ HV.out).mono ?_); rintro e w1 ⟨rfl, hb1⟩; rw [H1.out]; obtain ⟨hbc, hbf⟩ := bcell hb1; have hz : w.heap.size + 1 < w1.heap.size := Nat.lt_of_lt_of_le (by simp) hb1.size; have hz0 : w.heap.size < w1.heap.size := Nat.lt_of_succ_lt hz; have HB1 := hid (bstep (balloc (balloc (b0 w) _) _) hb1)))
   exact bodyPost_ret (v := .tuple #[.agg #[.int .i64 a, .int .i64 b, .int .i64 c, .string ⟨#[]⟩, .string ⟨#[]⟩], .bool true]) (by simp [results, Tryz.results74, go_sem, hbc]) rfl ⟨a, b, c, ⟨#[]⟩, ⟨#[]⟩, true, rfl, ⟨ha, hb, hc, by decide, by decide⟩, fun h _ => absurd h HP0.out, (by repeat (first | (with_reducible exact HB1.out) | (with_reducible exact b0 _) | (with_reducible refine bset ?_ (by first | exact Nat.le_refl _ | simp) _) | (with_reducible refine balloc ?_ _) | (with_reducible refine bdrew ?_)))⟩
end Go.Proofs.YthneiolcljnbeaaGreatDoor
