import Derived.Test.YtilgijmokjekgaaGreatDoorzV1
import Derived.Test.YtilgijmokjekgaaGreatDoorzA4
import Derived.Test.YtilgijmokjekgaaGreatDoorzY5
import Derived.Deep.DeepCutAuto
import Derived.Deep.RegionHeld3
import Derived.Test.YtilgijmokjekgaaGreatDoorzBase
import Derived.Lib.ItoaNum
import Derived.Lib.BufferRead
import Derived.Outline
import Derived.Test.YtilgijmokjekgaaGreatDoorzE
import Derived.Laws.StructEq
import Derived.Deep.DrawnRows
import Derived.BigRegion
section
/- Contracts: linchpinref1.whole, Digits; linchpinref2.Numbers, Print. -/
namespace Go.Proofs.YtilgijmokjekgaaGreatDoor
open Go Go.RowKit

def dig8 (k : Nat) : UInt8 := UInt8.ofNat (48 + k)
theorem dig8_nat {k : Nat} (h : k < 10) : ((dig8 k).toNat : Int) = 48 + k := by unfold dig8; simp; omega
theorem dec_step {m : Nat} (h : 9 < m) : Lib.decDigits m = Lib.decDigits (m / 10) ++ [dig8 (m % 10)] := by rw [Lib.decDigits, dif_neg (by omega)]; rfl
theorem dec_last {m : Nat} (h : ¬ 9 < m) : Lib.decDigits m = [dig8 m] := by rw [Lib.decDigits, dif_pos (by omega)]; rfl
theorem conv_one {P : Program} {src e dst : TypeId} (hs : P.underlying src = some (.slice e)) (he : P.underlying e = some (.int .u8)) (hd : P.underlying dst = some .string) (w : World) (c : Int) (b : UInt8) (hb : (b.toNat : Int) = c) :
  (convert src dst (.slice (some ⟨w.heap.size, 0, none⟩) 1 1)).run P (w.alloc (.cells #[.int .u8 c] e)) = .ok (.string ⟨#[b]⟩) (w.alloc (.cells #[.int .u8 c] e)) := by
 refine run_convert_bytes_back (w.alloc (.cells #[.int .u8 c] e)) src dst e ⟨w.heap.size, 0, none⟩ 1 [b] hs he hd fun j hj => ?_
 have : j = 0 := by simpa using hj
 subst this
 rw [add_mk, Nat.zero_add, World.cell?_alloc_new]
 simp [hb]
theorem str_app (a b : List UInt8) : (⟨a.toArray⟩ ++ ⟨b.toArray⟩ : ByteArray) = ⟨(a ++ b).toArray⟩ := by
 apply ByteArray.ext
 simp [ByteArray.data_append]

theorem pow_le_nDigits (u : Nat) (h : 1 < Lib.nDigits u) : 10 ^ (Lib.nDigits u - 1) ≤ u := by
 induction u using Nat.strongRecOn with
 | _ u ih =>
  by_cases h10 : u < 10
  ·rw [Lib.nDigits_small h10] at h; omega
  ·rw [Lib.nDigits_big h10]
   by_cases h1 : 1 < Lib.nDigits (u / 10)
   ·have := ih (u / 10) (by omega) h1
    have e : Lib.nDigits (u / 10) + 1 - 1 = (Lib.nDigits (u / 10) - 1) + 1 := by omega
    rw [e, Nat.pow_succ]
    omega
   ·have := Lib.nDigits_pos (u / 10)
    have e : Lib.nDigits (u / 10) = 1 := by omega
    rw [e]
    show 10 ^ 1 ≤ u
    omega
theorem nDigits_le7 {n : Nat} (h : n < 10000000) : Lib.nDigits n ≤ 7 := by
 rcases Nat.lt_or_ge 7 (Lib.nDigits n) with h7 | h7
 ·exfalso
  have hp := Lib.nDigits_pos n
  have : 10 ^ (Lib.nDigits n - 1) ≤ n := pow_le_nDigits n (by omega)
  have h2 : 10 ^ 7 ≤ 10 ^ (Lib.nDigits n - 1) := Nat.pow_le_pow_right (by omega) (by omega)
  omega
 ·exact h7

theorem dec_len {n : Nat} (h : n ≤ 9999999) : (Lib.decDigits n).length ≤ 7 := by rw [Lib.decDigits_length]; exact nDigits_le7 (by omega)
set_option maxRecDepth 100000 in
set_option maxHeartbeats 1000000 in
theorem whole1_any (n : Nat) (w : World) (h1 : n ≤ 9999999) :
  Calls Tryz.prog 184 #[.int .u64 n] w fun e w' => e = .returned (.string ⟨(Lib.decDigits n).toArray⟩) ∧ Below w.heap.size w w' := by
 have HL := hid (dec_len h1)
 have hcv := conv_one Tryz.underlying136 Tryz.underlying5 Tryz.underlying9 w (48 + ↑n % 10) (dig8 (n % 10)) (by rw [dig8_nat (by omega)]; omega)
 go_enter Tryz.func184, Tryz.ntmps184
 go_wp2
 go_loopw [0, 3] (fun nv sv wr => ∃ (m : Nat) (t : List UInt8), nv = .int .u64 m ∧ sv = .string ⟨t.toArray⟩ ∧ m ≤ n ∧ Hid (Lib.decDigits n = (if 9 < m then Lib.decDigits (m / 10) else []) ++ t) ∧ Hid (Below w.heap.size w wr)) (fun nv _ _ => (RowKit.intOf nv).toNat)
 case atStart =>
  refine ⟨n, [dig8 (n % 10)], rfl, rfl, Nat.le_refl _, hid ?_, hid (balloc (b0 w) _)⟩
  by_cases h9 : 9 < n
  ·rw [if_pos h9, dec_step h9]
  ·rw [if_neg h9, dec_last h9, Nat.mod_eq_of_lt (by omega)]; rfl
 case round =>
  obtain ⟨m, t, rfl, rfl, hm, hd, hb⟩ := hrel
  have ht : t.length ≤ 7 := by have := congrArg List.length hd.out; have := HL.out; simp at *; omega
  by_cases h9 : 9 < m
  ·have hcw := conv_one Tryz.underlying136 Tryz.underlying5 Tryz.underlying9 wr (48 + ↑m / 10 % 10) (dig8 (m / 10 % 10)) (by rw [dig8_nat (by omega)]; omega)
   have hdd := hd.out
   rw [if_pos h9] at hdd
   have HD := hid hdd
   clear hcv hdd
   go_wp2
   refine ⟨⟨m / 10, dig8 (m / 10 % 10) :: t, by go_num, congrArg Value.string (str_app [_] t), by omega, hid ?_, hid (balloc hb.out _)⟩, by simp [RowKit.intOf]; omega⟩
   rw [HD.out]
   by_cases h10 : 9 < m / 10
   ·rw [if_pos h10, dec_step h10]; simp
   ·rw [if_neg h10, dec_last h10, Nat.mod_eq_of_lt (by omega)]; rfl
  ·have hdd := hd.out
   rw [if_neg h9, List.nil_append] at hdd
   have HD := hid hdd
   clear hcv hdd
   go_wp2
   go_ret
   exact ⟨congrArg (fun x : List UInt8 => Ending.returned (Value.string ⟨x.toArray⟩)) HD.out.symm, hb.out⟩
set_option maxRecDepth 100000 in
set_option maxHeartbeats 1000000 in
theorem digits1_any (n : Nat) (w : World) (h1 : n ≤ 9999999) :
  Calls Tryz.prog 148 #[.int .i64 n] w fun e w' => e = .returned (.string ⟨(Lib.decDigits n).toArray⟩) ∧ Below w.heap.size w w' := by
 have HW := hid (whole1_any n w h1)
 have z0 : decide ((n : Int) < 0) = false := decide_eq_false (by omega)
 have z1 : ¬ ((n : Int) < 0) := by omega
 have z2 : IntKind.u64.wrap (n : Int) = n := IntWalk.u64_in _ (by omega)
 go_enter Tryz.func148, Tryz.ntmps148
 go_wp2_with (go_at_call 184; refine HW.out.mono ?_; rintro e w1 ⟨rfl, hb1⟩; have HB1 := hid hb1; clear hb1)
 go_ret
 exact ⟨rfl, HB1.out⟩
/-- A version's three numbers as they are printed. -/
def numsB (v : Ver) : ByteArray := (⟨(Lib.decDigits v.major.toNat).toArray⟩ : ByteArray) ++ ⟨#[46]⟩ ++ ⟨(Lib.decDigits v.minor.toNat).toArray⟩ ++ ⟨#[46]⟩ ++ ⟨(Lib.decDigits v.patch.toNat).toArray⟩
set_option maxRecDepth 100000 in
set_option maxHeartbeats 1000000 in
theorem numbers_any (v : Ver) (w : World) (h0 : 0 ≤ v.major ∧ v.major ≤ 9999999) (h1 : 0 ≤ v.minor ∧ v.minor ≤ 9999999) (h2 : 0 ≤ v.patch ∧ v.patch ≤ 9999999) :
  Calls Tryz.prog 121 #[.agg #[.int .i64 v.major, .int .i64 v.minor, .int .i64 v.patch, .string v.pre, .string v.build]] w fun e w' => e = .returned (.string (numsB v)) ∧ Below w.heap.size w w' := by
 obtain ⟨a, b, c, p, q⟩ := v
 dsimp only at h0 h1 h2 ⊢
 obtain ⟨a, rfl⟩ := Int.eq_ofNat_of_zero_le h0.1
 obtain ⟨b, rfl⟩ := Int.eq_ofNat_of_zero_le h1.1
 obtain ⟨c, rfl⟩ := Int.eq_ofNat_of_zero_le h2.1
 have HNV : Hid (numsB ⟨a, b, c, p, q⟩ = (⟨(Lib.decDigits a).toArray⟩ : ByteArray) ++ ⟨#[46]⟩ ++ ⟨(Lib.decDigits b).toArray⟩ ++ ⟨#[46]⟩ ++ ⟨(Lib.decDigits c).toArray⟩) := hid rfl
 have la := dec_len (n := a) (by omega)
 have lb := dec_len (n := b) (by omega)
 have lc := dec_len (n := c) (by omega)
 have HDA := hid (fun W => digits1_any a W (by omega))
 have HDB := hid (fun W => digits1_any b W (by omega))
 have HDC := hid (fun W => digits1_any c W (by omega))
 generalize Lib.decDigits a = da at *
 generalize Lib.decDigits b = db at *
 generalize Lib.decDigits c = dc at *
 obtain ⟨w0, hw0⟩ : ∃ w0 : World, w0 = w.alloc (.cells #[.int .i64 a, .int .i64 b, .int .i64 c, .string p, .string q] 65) := ⟨_, rfl⟩
 have hb0 : Below w.heap.size w w0 := hw0 ▸ balloc (b0 w) _
 have hz0 : w.heap.size < w0.heap.size := by rw [hw0]; simp
 have q0 : w0.cell? ⟨w.heap.size, 0, none⟩ = some (.int .i64 a) := by rw [hw0]; exact (alloc_cell w _ _ 0).trans rfl
 have q1 : w0.cell? ⟨w.heap.size, 1, none⟩ = some (.int .i64 b) := by rw [hw0]; exact (alloc_cell w _ _ 1).trans rfl
 have q2 : w0.cell? ⟨w.heap.size, 2, none⟩ = some (.int .i64 c) := by rw [hw0]; exact (alloc_cell w _ _ 2).trans rfl
 have HB0 := hid hb0
 have HW0 := hid hw0
 have Q2 := hid q2
 clear hw0 hb0 h0 h1 h2 q2
 go_enter Tryz.func121, Tryz.ntmps121
 have T1 := hid True.intro
 have s1 : ¬ 9223372036854775807 < da.length + 1 := by omega
 have s2 : ¬ 9223372036854775807 < da.length + 1 + db.length := by omega
 have s3 : ¬ 9223372036854775807 < da.length + 1 + db.length + 1 := by omega
 have s4 : ¬ 9223372036854775807 < da.length + 1 + db.length + 1 + dc.length := by omega
 clear la lb lc
 go_upto_region 1 with fail
 rw [← HW0.out]
 go_region_held3 (fun w' => w'.cell? ⟨w.heap.size, 0, none⟩ = some (.int .i64 a) ∧ w'.cell? ⟨w.heap.size, 1, none⟩ = some (.int .i64 b)) (first | exact ⟨by assumption, by assumption⟩ | go_keep) ((first
  | (clear T1; go_at_call 148; refine (HDA.out _).mono ?_; rintro e w1 ⟨rfl, hb1⟩; have HB1 := hid (bstep (b0 w0).drew hb1); have d0 := cell_below HB1.out hz0 q0; have d1 := cell_below HB1.out hz0 q1; clear hb1)
  | (go_at_call 148; refine (HDB.out _).mono ?_; rintro e w2 ⟨rfl, hb2⟩; have HB2 := hid (bstep HB1.out hb2); have d2 := cell_below HB2.out hz0 q0; have d3 := cell_below HB2.out hz0 q1; clear hb2)))
 have q2 := cell_below HB2.out hz0 Q2.out
 go_wp2_with (go_at_call 148; refine (HDC.out _).mono ?_; rintro e w3 ⟨rfl, hb3⟩; have HB3 := hid (bstep HB2.out hb3); clear hb3)
 go_ret
 exact ⟨congrArg (fun x => Ending.returned (Value.string x)) HNV.out.symm, bstep HB0.out HB3.out⟩
theorem nums_size {v : Ver} (h0 : 0 ≤ v.major ∧ v.major ≤ 9999999) (h1 : 0 ≤ v.minor ∧ v.minor ≤ 9999999) (h2 : 0 ≤ v.patch ∧ v.patch ≤ 9999999) : (numsB v).size ≤ 23 := by
 have la := dec_len (n := v.major.toNat) (by omega)
 have lb := dec_len (n := v.minor.toNat) (by omega)
 have lc := dec_len (n := v.patch.toNat) (by omega)
 unfold numsB
 simp only [ByteArray.size_append]
 show (Lib.decDigits v.major.toNat).toArray.size + 1 + (Lib.decDigits v.minor.toNat).toArray.size + 1 + (Lib.decDigits v.patch.toNat).toArray.size ≤ 23
 simp only [List.size_toArray]
 omega
set_option maxRecDepth 100000 in
set_option maxHeartbeats 2000000 in
theorem print2_any (v : Ver) (hB : v.B) : ∃ P : ByteArray, ∀ w, Calls Tryz.prog 85 #[.agg #[.int .i64 v.major, .int .i64 v.minor, .int .i64 v.patch, .string v.pre, .string v.build]] w fun e w' => e = .returned (.string P) ∧ Below w.heap.size w w' := by
 obtain ⟨a, b, c, p, q⟩ := v
 have hbox : ∀ w : World, ∃ w0 : World, w0 = w.alloc (.cells #[.int .i64 a, .int .i64 b, .int .i64 c, .string p, .string q] 65) ∧ Below w.heap.size w w0 ∧ w.heap.size < w0.heap.size ∧ w0.cell? ⟨w.heap.size, 0, none⟩ = some (.int .i64 a) ∧ w0.cell? ⟨w.heap.size, 1, none⟩ = some (.int .i64 b) ∧ w0.cell? ⟨w.heap.size, 2, none⟩ = some (.int .i64 c) ∧ w0.cell? ⟨w.heap.size, 3, none⟩ = some (.string p) ∧ w0.cell? ⟨w.heap.size, 4, none⟩ = some (.string q) := fun w =>
  ⟨_, rfl, balloc (b0 w) _, by simp, (alloc_cell w _ _ 0).trans rfl, (alloc_cell w _ _ 1).trans rfl, (alloc_cell w _ _ 2).trans rfl, (alloc_cell w _ _ 3).trans rfl, (alloc_cell w _ _ 4).trans rfl⟩
 dsimp only
 have HM0 : Hid (∃ m, mayV ⟨a, b, c, p, q⟩ = m) := hid ⟨_, rfl⟩
 obtain ⟨m, hm⟩ := HM0.out
 have HM := hid hm
 cases m with
 | false =>
  refine ⟨⟨#[]⟩, fun w => ?_⟩
  obtain ⟨w0, hw0, hb0, hz0, q0, q1, q2, q3, q4⟩ := hbox w
  have HB0 := hid hb0
  have HW0 := hid hw0
  clear hbox hw0 hb0 hm
  go_enter Tryz.func85, Tryz.ntmps85
  go_wp2_with (go_at_call 68; rw [← HW0.out]; refine (vmay_any a b c p q w0 hB).mono ?_; rintro e w1 ⟨rfl, hb1⟩; rw [HM.out]; have HB1 := hid (bstep HB0.out hb1); clear hb1)
  go_ret
  exact ⟨rfl, HB1.out⟩
 | true =>
  have hm2 := hm
  simp only [mayV, fitsB, Bool.and_eq_true, decide_eq_true_eq] at hm2
  obtain ⟨⟨⟨⟨⟨a0, a1⟩, b0', b1'⟩, c0', c1'⟩, -⟩, -⟩ := hm2
  have hns := nums_size (v := ⟨a, b, c, p, q⟩) ⟨a0, by show a ≤ _; omega⟩ ⟨b0', by show b ≤ _; omega⟩ ⟨c0', by show c ≤ _; omega⟩
  have HNUM := hid (fun W => numbers_any ⟨a, b, c, p, q⟩ W ⟨a0, by show a ≤ _; omega⟩ ⟨b0', by show b ≤ _; omega⟩ ⟨c0', by show c ≤ _; omega⟩)
  obtain ⟨nb, hnb⟩ : ∃ nb, numsB ⟨a, b, c, p, q⟩ = nb := ⟨_, rfl⟩
  rw [hnb] at hns HNUM
  have hps : p.size ≤ 1000 := hB.2.2.2.1
  have hqs : q.size ≤ 1000 := hB.2.2.2.2
  clear hm hnb a0 a1 b0' b1' c0' c1'
  by_cases hp0 : p.toList = [] <;> by_cases hq0 : q.toList = []
  ·refine ⟨nb, fun w => ?_⟩
   obtain ⟨w0, hw0, hb0, hz0, q0, q1, q2, q3, q4⟩ := hbox w
   have HB0 := hid hb0
   have HW0 := hid hw0
   have zp1 : p.toList.isEmpty = true := by rw [hp0]; rfl
   have zq1 : q.toList.isEmpty = true := by rw [hq0]; rfl
   have s1 : ¬ 9223372036854775807 < nb.size + 1 := by omega
   have s2 : ¬ 9223372036854775807 < nb.size + 1 + p.size := by omega
   have s3 : ¬ 9223372036854775807 < nb.size + 1 + p.size + 1 := by omega
   have s4 : ¬ 9223372036854775807 < nb.size + 1 + p.size + 1 + q.size := by omega
   have s5 : ¬ 9223372036854775807 < nb.size + 1 + q.size := by omega
   clear hbox hw0 hb0 hp0 hq0
   go_enter Tryz.func85, Tryz.ntmps85
   go_wp2_with (first
    | (go_at_call 68; rw [← HW0.out]; refine (vmay_any a b c p q w0 hB).mono ?_; rintro e w1 ⟨rfl, hb1⟩; rw [HM.out]; have HB1 := hid (bstep HB0.out hb1); have c0 := cell_below hb1 hz0 q0; have c1 := cell_below hb1 hz0 q1; have c2 := cell_below hb1 hz0 q2; have c3 := cell_below hb1 hz0 q3; have c4 := cell_below hb1 hz0 q4; have hz1 := Nat.lt_of_lt_of_le hz0 hb1.size; clear hb1)
    | (go_at_call 121; refine (HNUM.out _).mono ?_; rintro e w2 ⟨rfl, hb2⟩; have HB2 := hid (bstep HB1.out hb2); have d3 := cell_below hb2 hz1 c3; have d4 := cell_below hb2 hz1 c4; clear hb2))
   go_ret
   exact ⟨rfl, HB2.out⟩
  ·refine ⟨(nb ++ ⟨#[43]⟩ ++ q), fun w => ?_⟩
   obtain ⟨w0, hw0, hb0, hz0, q0, q1, q2, q3, q4⟩ := hbox w
   have HB0 := hid hb0
   have HW0 := hid hw0
   have zp1 : p.toList.isEmpty = true := by rw [hp0]; rfl
   have zq1 : q.toList.isEmpty = false := by rw [List.isEmpty_eq_false_iff]; exact hq0
   have s1 : ¬ 9223372036854775807 < nb.size + 1 := by omega
   have s2 : ¬ 9223372036854775807 < nb.size + 1 + p.size := by omega
   have s3 : ¬ 9223372036854775807 < nb.size + 1 + p.size + 1 := by omega
   have s4 : ¬ 9223372036854775807 < nb.size + 1 + p.size + 1 + q.size := by omega
   have s5 : ¬ 9223372036854775807 < nb.size + 1 + q.size := by omega
   clear hbox hw0 hb0 hp0 hq0
   go_enter Tryz.func85, Tryz.ntmps85
   go_wp2_with (first
    | (go_at_call 68; rw [← HW0.out]; refine (vmay_any a b c p q w0 hB).mono ?_; rintro e w1 ⟨rfl, hb1⟩; rw [HM.out]; have HB1 := hid (bstep HB0.out hb1); have c0 := cell_below hb1 hz0 q0; have c1 := cell_below hb1 hz0 q1; have c2 := cell_below hb1 hz0 q2; have c3 := cell_below hb1 hz0 q3; have c4 := cell_below hb1 hz0 q4; have hz1 := Nat.lt_of_lt_of_le hz0 hb1.size; clear hb1)
    | (go_at_call 121; refine (HNUM.out _).mono ?_; rintro e w2 ⟨rfl, hb2⟩; have HB2 := hid (bstep HB1.out hb2); have d3 := cell_below hb2 hz1 c3; have d4 := cell_below hb2 hz1 c4; clear hb2))
   go_ret
   exact ⟨rfl, HB2.out⟩
  ·refine ⟨(nb ++ ⟨#[45]⟩ ++ p), fun w => ?_⟩
   obtain ⟨w0, hw0, hb0, hz0, q0, q1, q2, q3, q4⟩ := hbox w
   have HB0 := hid hb0
   have HW0 := hid hw0
   have zp1 : p.toList.isEmpty = false := by rw [List.isEmpty_eq_false_iff]; exact hp0
   have zq1 : q.toList.isEmpty = true := by rw [hq0]; rfl
   have s1 : ¬ 9223372036854775807 < nb.size + 1 := by omega
   have s2 : ¬ 9223372036854775807 < nb.size + 1 + p.size := by omega
   have s3 : ¬ 9223372036854775807 < nb.size + 1 + p.size + 1 := by omega
   have s4 : ¬ 9223372036854775807 < nb.size + 1 + p.size + 1 + q.size := by omega
   have s5 : ¬ 9223372036854775807 < nb.size + 1 + q.size := by omega
   clear hbox hw0 hb0 hp0 hq0
   go_enter Tryz.func85, Tryz.ntmps85
   go_wp2_with (first
    | (go_at_call 68; rw [← HW0.out]; refine (vmay_any a b c p q w0 hB).mono ?_; rintro e w1 ⟨rfl, hb1⟩; rw [HM.out]; have HB1 := hid (bstep HB0.out hb1); have c0 := cell_below hb1 hz0 q0; have c1 := cell_below hb1 hz0 q1; have c2 := cell_below hb1 hz0 q2; have c3 := cell_below hb1 hz0 q3; have c4 := cell_below hb1 hz0 q4; have hz1 := Nat.lt_of_lt_of_le hz0 hb1.size; clear hb1)
    | (go_at_call 121; refine (HNUM.out _).mono ?_; rintro e w2 ⟨rfl, hb2⟩; have HB2 := hid (bstep HB1.out hb2); have d3 := cell_below hb2 hz1 c3; have d4 := cell_below hb2 hz1 c4; clear hb2))
   go_ret
   exact ⟨rfl, HB2.out⟩
  ·refine ⟨((nb ++ ⟨#[45]⟩ ++ p) ++ ⟨#[43]⟩ ++ q), fun w => ?_⟩
   obtain ⟨w0, hw0, hb0, hz0, q0, q1, q2, q3, q4⟩ := hbox w
   have HB0 := hid hb0
   have HW0 := hid hw0
   have zp1 : p.toList.isEmpty = false := by rw [List.isEmpty_eq_false_iff]; exact hp0
   have zq1 : q.toList.isEmpty = false := by rw [List.isEmpty_eq_false_iff]; exact hq0
   have s1 : ¬ 9223372036854775807 < nb.size + 1 := by omega
   have s2 : ¬ 9223372036854775807 < nb.size + 1 + p.size := by omega
   have s3 : ¬ 9223372036854775807 < nb.size + 1 + p.size + 1 := by omega
   have s4 : ¬ 9223372036854775807 < nb.size + 1 + p.size + 1 + q.size := by omega
   have s5 : ¬ 9223372036854775807 < nb.size + 1 + q.size := by omega
   clear hbox hw0 hb0 hp0 hq0
   go_enter Tryz.func85, Tryz.ntmps85
   go_wp2_with (first
    | (go_at_call 68; rw [← HW0.out]; refine (vmay_any a b c p q w0 hB).mono ?_; rintro e w1 ⟨rfl, hb1⟩; rw [HM.out]; have HB1 := hid (bstep HB0.out hb1); have c0 := cell_below hb1 hz0 q0; have c1 := cell_below hb1 hz0 q1; have c2 := cell_below hb1 hz0 q2; have c3 := cell_below hb1 hz0 q3; have c4 := cell_below hb1 hz0 q4; have hz1 := Nat.lt_of_lt_of_le hz0 hb1.size; clear hb1)
    | (go_at_call 121; refine (HNUM.out _).mono ?_; rintro e w2 ⟨rfl, hb2⟩; have HB2 := hid (bstep HB1.out hb2); have d3 := cell_below hb2 hz1 c3; have d4 := cell_below hb2 hz1 c4; clear hb2))
   go_ret
   exact ⟨rfl, HB2.out⟩
end Go.Proofs.YtilgijmokjekgaaGreatDoor
end
section
/- Contracts: linchpinref4.Same, linchpinref5.Same, at what is alike. -/
namespace Go.Proofs.YtilgijmokjekgaaGreatDoor
open Go Go.RowKit
attribute [local go_sem ↓] Go.wp_at_zero Go.wp_at_succ

theorem ver_self (d : Nat) (a b c : Int) (p q : ByteArray) (W : World) : (Op.equalIn (d + 2) 65 (.agg #[.int .i64 a, .int .i64 b, .int .i64 c, .string p, .string q]) (.agg #[.int .i64 a, .int .i64 b, .int .i64 c, .string p, .string q])).run Tryz.prog W = .ok true W := by
 have u3 := Tryz.underlying3
 have a3 := Tryz.isAgg3
 have z3 := Tryz.sizeOf3
 have u4 := Tryz.underlying9
 have a4 := Tryz.isAgg9
 have z4 := Tryz.sizeOf9
 have hS : Tryz.prog.underlying 65 = some (.struct (Tryz.prog.fieldsOf 65)) := by kernel_rfl
 have hp : Tryz.prog.stoodInHeld 65 = false := by kernel_rfl
 rw [run_equalIn_agg W (d + 1) 65 _ _ hS hp]
 simp only [Program.fieldsOf, Tryz.underlying65]
 go_simp
theorem cut_self (d : Nat) (en a b c : Int) (p q : ByteArray) (f : Bool) (W : World) : (Op.equalIn (d + 3) 126 (.agg #[.int .i64 en, .int .i64 a, .int .i64 b, .int .i64 c, .string p, .string q, .bool f]) (.agg #[.int .i64 en, .int .i64 a, .int .i64 b, .int .i64 c, .string p, .string q, .bool f])).run Tryz.prog W = .ok true W := by
 have u3 := Tryz.underlying3
 have a3 := Tryz.isAgg3
 have z3 := Tryz.sizeOf3
 have u4 := Tryz.underlying4
 have a4 := Tryz.isAgg4
 have z4 := Tryz.sizeOf4
 have a5 := Tryz.isAgg65
 have z5 := Tryz.sizeOf65
 have hv := ver_self d a b c p q W
 have hS : Tryz.prog.underlying 126 = some (.struct (Tryz.prog.fieldsOf 126)) := by kernel_rfl
 have hp : Tryz.prog.stoodInHeld 126 = false := by kernel_rfl
 rw [run_equalIn_agg W (d + 2) 126 _ _ hS hp]
 simp only [Program.fieldsOf, Tryz.underlying126]
 go_simp
theorem span_self (x : Span) (W : World) : (binOp .neq 129 (.agg #[.int .i64 x.lo.en, .int .i64 x.lo.v.major, .int .i64 x.lo.v.minor, .int .i64 x.lo.v.patch, .string x.lo.v.pre, .string x.lo.v.build, .bool x.lo.after, .int .i64 x.hi.en, .int .i64 x.hi.v.major, .int .i64 x.hi.v.minor, .int .i64 x.hi.v.patch, .string x.hi.v.pre, .string x.hi.v.build, .bool x.hi.after]) (.agg #[.int .i64 x.lo.en, .int .i64 x.lo.v.major, .int .i64 x.lo.v.minor, .int .i64 x.lo.v.patch, .string x.lo.v.pre, .string x.lo.v.build, .bool x.lo.after, .int .i64 x.hi.en, .int .i64 x.hi.v.major, .int .i64 x.hi.v.minor, .int .i64 x.hi.v.patch, .string x.hi.v.pre, .string x.hi.v.build, .bool x.hi.after])).run Tryz.prog W = .ok (.bool false) W := by
 obtain ⟨⟨e, ⟨a, b, c, p, q⟩, f⟩, ⟨e', ⟨a', b', c', p', q'⟩, f'⟩⟩ := x
 have a5 := Tryz.isAgg126
 have z5 := Tryz.sizeOf126
 have h1 := cut_self 9996 e a b c p q f W
 have h2 := cut_self 9996 e' a' b' c' p' q' f' W
 have hS : Tryz.prog.underlying 129 = some (.struct (Tryz.prog.fieldsOf 129)) := by kernel_rfl
 have hp : Tryz.prog.stoodInHeld 129 = false := by kernel_rfl
 rw [run_neq_struct, show (10000 : Nat) = 9999 + 1 from rfl, run_equalIn_agg W 9999 129 _ _ hS hp]
 simp only [Program.fieldsOf, Tryz.underlying129]
 go_simp
theorem span_guard (op : BinOp) (a b : Operand) (x : Span) (W : World) : (eqGuard op 129 a b (.agg #[.int .i64 x.lo.en, .int .i64 x.lo.v.major, .int .i64 x.lo.v.minor, .int .i64 x.lo.v.patch, .string x.lo.v.pre, .string x.lo.v.build, .bool x.lo.after, .int .i64 x.hi.en, .int .i64 x.hi.v.major, .int .i64 x.hi.v.minor, .int .i64 x.hi.v.patch, .string x.hi.v.pre, .string x.hi.v.build, .bool x.hi.after]) (.agg #[.int .i64 x.lo.en, .int .i64 x.lo.v.major, .int .i64 x.lo.v.minor, .int .i64 x.lo.v.patch, .string x.lo.v.pre, .string x.lo.v.build, .bool x.lo.after, .int .i64 x.hi.en, .int .i64 x.hi.v.major, .int .i64 x.hi.v.minor, .int .i64 x.hi.v.patch, .string x.hi.v.pre, .string x.hi.v.build, .bool x.hi.after])).run Tryz.prog W = .ok () W :=
 run_eqGuard_agg W op 129 a b _ _ (by kernel_rfl)
theorem span_cells {w : World} {g o : Nat} {x : Span} (h : ∀ j u, (spanCells x)[j]? = some u → w.cell? ⟨g, o + j, none⟩ = some u) : w.cell? ⟨g, o, none⟩ = some (.int .i64 x.lo.en) ∧ w.cell? ⟨g, o + 1, none⟩ = some (.int .i64 x.lo.v.major) ∧ w.cell? ⟨g, o + 2, none⟩ = some (.int .i64 x.lo.v.minor) ∧ w.cell? ⟨g, o + 3, none⟩ = some (.int .i64 x.lo.v.patch) ∧ w.cell? ⟨g, o + 4, none⟩ = some (.string x.lo.v.pre) ∧ w.cell? ⟨g, o + 5, none⟩ = some (.string x.lo.v.build) ∧ w.cell? ⟨g, o + 6, none⟩ = some (.bool x.lo.after) ∧ w.cell? ⟨g, o + 7, none⟩ = some (.int .i64 x.hi.en) ∧ w.cell? ⟨g, o + 8, none⟩ = some (.int .i64 x.hi.v.major) ∧ w.cell? ⟨g, o + 9, none⟩ = some (.int .i64 x.hi.v.minor) ∧ w.cell? ⟨g, o + 10, none⟩ = some (.int .i64 x.hi.v.patch) ∧ w.cell? ⟨g, o + 11, none⟩ = some (.string x.hi.v.pre) ∧ w.cell? ⟨g, o + 12, none⟩ = some (.string x.hi.v.build) ∧ w.cell? ⟨g, o + 13, none⟩ = some (.bool x.hi.after) := by
 exact ⟨h 0 _ rfl, h 1 _ rfl, h 2 _ rfl, h 3 _ rfl, h 4 _ rfl, h 5 _ rfl, h 6 _ rfl, h 7 _ rfl, h 8 _ rfl, h 9 _ rfl, h 10 _ rfl, h 11 _ rfl, h 12 _ rfl, h 13 _ rfl⟩
set_option maxRecDepth 100000 in
set_option maxHeartbeats 4000000 in
theorem same4_any (v v' : Value) (l : List Span) (w : World) (h : SliceRd fSpan.ty w (Lt w.heap.size) v l) (h' : SliceRd fSpan.ty w (Lt w.heap.size) v' l) :
  Calls Tryz.prog 149 #[v, v'] w fun e w' => e = .returned (.bool true) ∧ Below w.heap.size w w' := by
 obtain ⟨A, cap, rfl, hcap, hmax, hc⟩ := h.flat
 obtain ⟨A', cap', rfl, hcap', hmax', hc'⟩ := h'.flat
 unfold maxLen at hmax hmax'
 have HC := hid hc
 have HC' := hid hc'
 clear hc hc' h h'
 have hne : ((l.length : Int) != (l.length : Int)) = false := by simp
 obtain ⟨n, hn⟩ : ∃ n, l.length = n := ⟨_, rfl⟩
 have HN := hid hn
 rw [hn] at hne hcap hcap' ⊢
 clear hn
 go_enter Tryz.func149, Tryz.ntmps149
 go_wp2
 go_loopw [5] (fun iv wr => ∃ k : Nat, k ≤ n ∧ iv = .int .i64 k ∧ Hid (Below w.heap.size w wr)) (fun iv _ => n - (RowKit.intOf iv).toNat)
 case atStart => exact ⟨0, Nat.zero_le _, rfl, hid (b0 w)⟩
 case round =>
  obtain ⟨k, hk, rfl, hb⟩ := hrel
  by_cases hlt : k < n
  ·have i1 : (0 : Int) ≤ ↑k := by omega
   have i2 : (↑k : Int) < ↑n := by omega
   obtain ⟨g, o, hA, hF, -, hcl⟩ := HC.out k (by rw [HN.out]; exact hlt)
   obtain ⟨g', o', hA', hF', -, hcl'⟩ := HC'.out k (by rw [HN.out]; exact hlt)
   subst hA hA'
   obtain ⟨x, hx⟩ : ∃ x, l[k]'(by rw [HN.out]; exact hlt) = x := ⟨_, rfl⟩
   rw [hx] at hcl hcl'
   obtain ⟨c0, c1, c2, c3, c4, c5, c6, c7, c8, c9, c10, c11, c12, c13⟩ := span_cells (o := o + k * 14) hcl
   obtain ⟨d0, d1, d2, d3, d4, d5, d6, d7, d8, d9, d10, d11, d12, d13⟩ := span_cells (o := o' + k * 14) hcl'
   replace c0 := cell_below hb.out hF c0
   replace c1 := cell_below hb.out hF c1
   replace c2 := cell_below hb.out hF c2
   replace c3 := cell_below hb.out hF c3
   replace c4 := cell_below hb.out hF c4
   replace c5 := cell_below hb.out hF c5
   replace c6 := cell_below hb.out hF c6
   replace c7 := cell_below hb.out hF c7
   replace c8 := cell_below hb.out hF c8
   replace c9 := cell_below hb.out hF c9
   replace c10 := cell_below hb.out hF c10
   replace c11 := cell_below hb.out hF c11
   replace c12 := cell_below hb.out hF c12
   replace c13 := cell_below hb.out hF c13
   replace d0 := cell_below hb.out hF' d0
   replace d1 := cell_below hb.out hF' d1
   replace d2 := cell_below hb.out hF' d2
   replace d3 := cell_below hb.out hF' d3
   replace d4 := cell_below hb.out hF' d4
   replace d5 := cell_below hb.out hF' d5
   replace d6 := cell_below hb.out hF' d6
   replace d7 := cell_below hb.out hF' d7
   replace d8 := cell_below hb.out hF' d8
   replace d9 := cell_below hb.out hF' d9
   replace d10 := cell_below hb.out hF' d10
   replace d11 := cell_below hb.out hF' d11
   replace d12 := cell_below hb.out hF' d12
   replace d13 := cell_below hb.out hF' d13
   have hn := fun W => span_self x W
   have hgd := fun op a b W => span_guard op a b x W
   obtain ⟨⟨xe, ⟨xa, xb, xc, xp, xq⟩, xf⟩, ⟨ye, ⟨ya, yb, yc, yp, yq⟩, yf⟩⟩ := x
   dsimp only at *
   clear hcl hcl' hx
   go_wp2
   go_quiet (fail)
   go_wp2
   exact ⟨⟨k + 1, by omega, by go_num, hid (below_drewN hb.out _)⟩, by simp [RowKit.intOf]; omega⟩
  ·go_wp2
   go_ret
   exact ⟨rfl, hb.out⟩
end Go.Proofs.YtilgijmokjekgaaGreatDoor
end
section
/- Contracts: linchpinref5.Same, linchpinmade.sameWants, sameCand, at what is alike. -/
namespace Go.Proofs.YtilgijmokjekgaaGreatDoor
open Go Go.RowKit

set_option maxHeartbeats 2000000 in
theorem same5_any (av bv av' bv' : Value) (s : SetD) (w : World) (h1 : SliceRd fSpan.ty w (Lt w.heap.size) av s.rel) (h2 : SliceRd fSpan.ty w (Lt w.heap.size) bv s.pre) (h3 : SliceRd fSpan.ty w (Lt w.heap.size) av' s.rel) (h4 : SliceRd fSpan.ty w (Lt w.heap.size) bv' s.pre) :
  Calls Tryz.prog 122 #[.agg #[av, bv], .agg #[av', bv']] w fun e w' => e = .returned (.bool true) ∧ Below w.heap.size w w' := by
 have HS1 := hid (fun (W : World) (hW : Below w.heap.size w W) => same4_any av av' s.rel W (h1.lift hW hW.size) (h3.lift hW hW.size))
 have HS2 := hid (fun (W : World) (hW : Below w.heap.size w W) => same4_any bv bv' s.pre W (h2.lift hW hW.size) (h4.lift hW hW.size))
 obtain ⟨A1, c1, e1, -⟩ := h1.shape
 obtain ⟨A2, c2, e2, -⟩ := h2.shape
 obtain ⟨A3, c3, e3, -⟩ := h3.shape
 obtain ⟨A4, c4, e4, -⟩ := h4.shape
 generalize s.rel.length = n1 at e1 e3
 generalize s.pre.length = n2 at e2 e4
 subst e1 e2 e3 e4
 obtain ⟨w0, hw0⟩ : ∃ w0 : World, w0 = (w.alloc (.cells #[.slice A1 n1 c1, .slice A2 n2 c2] 80)).alloc (.cells #[.slice A3 n1 c3, .slice A4 n2 c4] 80) := ⟨_, rfl⟩
 have HB0 := hid (show Below w.heap.size w w0 from hw0 ▸ balloc (balloc (b0 w) _) _)
 have hl1 : w.heap.size + 1 < w0.heap.size := by rw [hw0]; simp
 have hl0 : w.heap.size < w0.heap.size := by omega
 have q1 := show w0.cell? ⟨w.heap.size, 1, none⟩ = some (.slice A2 n2 c2) by rw [hw0]; exact alloc2_old rfl
 have q3 := show w0.cell? ⟨w.heap.size + 1, 1, none⟩ = some (.slice A4 n2 c4) by rw [hw0]; exact alloc2_new rfl
 have HW0 := hid hw0
 have T1 := hid True.intro
 clear h1 h2 h3 h4 hw0
 go_enter Tryz.func122, Tryz.ntmps122
 go_wp2_with (first
  | (go_at_call 149; clear T1; rw [← HW0.out]; refine (HS1.out _ HB0.out).mono ?_; rintro e w1 ⟨rfl, hb1⟩; have HB1 := hid (bstep HB0.out hb1); have d1 := cell_below hb1 hl0 q1; have d3 := cell_below hb1 hl1 q3; clear hb1)
  | (go_at_call 149; refine (HS2.out _ HB1.out).mono ?_; rintro e w2 ⟨rfl, hb2⟩; have HB2 := hid (bstep HB1.out hb2); clear hb2))
 go_ret
 exact ⟨rfl, HB2.out⟩
set_option maxRecDepth 100000 in
set_option maxHeartbeats 4000000 in
theorem sameWants_any (v v' : Value) (l : List WantD) (w : World) (h : SliceRd tWant w (Lt w.heap.size) v l) (h' : SliceRd tWant w (Lt w.heap.size) v' l) :
  Calls Tryz.prog 86 #[v, v'] w fun e w' => e = .returned (.bool true) ∧ Below w.heap.size w w' := by
 obtain ⟨A, cap, rfl, hcap, hmax, hc⟩ := h.wants
 obtain ⟨A', cap', rfl, hcap', hmax', hc'⟩ := h'.wants
 unfold maxLen at hmax hmax'
 have HC := hid hc
 have HC' := hid hc'
 clear hc hc' h h'
 have hne : ((l.length : Int) != (l.length : Int)) = false := by simp
 obtain ⟨n, hn⟩ : ∃ n, l.length = n := ⟨_, rfl⟩
 have HN := hid hn
 rw [hn] at hne hcap hcap' ⊢
 clear hn
 go_enter Tryz.func86, Tryz.ntmps86
 go_wp2
 go_loopw [5] (fun iv wr => ∃ k : Nat, k ≤ n ∧ iv = .int .i64 k ∧ Hid (Below w.heap.size w wr)) (fun iv _ => n - (RowKit.intOf iv).toNat)
 case atStart => exact ⟨0, Nat.zero_le _, rfl, hid (b0 w)⟩
 case round =>
  obtain ⟨k, hk, rfl, hb⟩ := hrel
  by_cases hlt : k < n
  ·have i1 : (0 : Int) ≤ ↑k := by omega
   have i2 : (↑k : Int) < ↑n := by omega
   obtain ⟨g, o, a, b, hA, hF, c0, c1, c2, hra, hrb⟩ := HC.out k (by rw [HN.out]; exact hlt)
   obtain ⟨g', o', a', b', hA', hF', d0, d1, d2, hra', hrb'⟩ := HC'.out k (by rw [HN.out]; exact hlt)
   subst hA hA'
   obtain ⟨x, hx⟩ : ∃ x, l[k]'(by rw [HN.out]; exact hlt) = x := ⟨_, rfl⟩
   rw [hx] at c0 d0 hra hrb hra' hrb'
   have hbw := hb.out
   have HS := hid (fun e : Later wr => same5_any a b a' b' x.s e.w (hra.lift (bstep hbw e.below) (bstep hbw e.below).size) (hrb.lift (bstep hbw e.below) (bstep hbw e.below).size) (hra'.lift (bstep hbw e.below) (bstep hbw e.below).size) (hrb'.lift (bstep hbw e.below) (bstep hbw e.below).size))
   obtain ⟨A1, k1, e1, -⟩ := hra.shape
   obtain ⟨A2, k2, e2, -⟩ := hrb.shape
   obtain ⟨A3, k3, e3, -⟩ := hra'.shape
   obtain ⟨A4, k4, e4, -⟩ := hrb'.shape
   generalize x.s.rel.length = n1 at e1 e3
   generalize x.s.pre.length = n2 at e2 e4
   subst e1 e2 e3 e4
   obtain ⟨xu, hxu⟩ : ∃ xu, x.u = xu := ⟨_, rfl⟩
   rw [hxu] at c0 d0
   have hnu : (xu != xu) = false := by simp
   have hgw : g < wr.heap.size := Nat.lt_of_lt_of_le hF hbw.size
   have hgw' : g' < wr.heap.size := Nat.lt_of_lt_of_le hF' hbw.size
   have l0 := later_cell hgw (cell_below hbw hF c0)
   have l1 := later_cell hgw (cell_below hbw hF c1)
   have l2 := later_cell hgw (cell_below hbw hF c2)
   have l3 := later_cell hgw' (cell_below hbw hF' d0)
   have l4 := later_cell hgw' (cell_below hbw hF' d1)
   have l5 := later_cell hgw' (cell_below hbw hF' d2)
   clear c0 c1 c2 d0 d1 d2 hra hrb hra' hrb' hx hxu
   go_wp2_with fail
   (refine wp_region_later (by kernel_rfl) (by kernel_rfl) ?_; (repeat (go_big_quiet_step ((go_at_call 122; exact Calls.later (HS.out _) rfl)))); refine wpQuiet_nil ?_; rintro w1 ⟨⟨_, hw1⟩, rfl⟩)
   go_wp2
   exact ⟨⟨k + 1, by omega, by go_num, hid (bstep hb.out hw1)⟩, by simp [RowKit.intOf]; omega⟩
  ·go_wp2
   go_ret
   exact ⟨rfl, hb.out⟩
end Go.Proofs.YtilgijmokjekgaaGreatDoor
end
section
/- Contracts: linchpinmade.sameCand, SameWorld, at what is alike. -/
namespace Go.Proofs.YtilgijmokjekgaaGreatDoor
open Go Go.RowKit

theorem str_self (P : ByteArray) : (P.toList == P.toList) = true := by simp
theorem cand_cells {w : World} {b : Nat} {c : CandW} {n b' : Value} (h : Blk w b 69 (candV c n b')) : w.cell? ⟨b, 0, none⟩ = some (.int .i64 c.v.major) ∧ w.cell? ⟨b, 1, none⟩ = some (.int .i64 c.v.minor) ∧ w.cell? ⟨b, 2, none⟩ = some (.int .i64 c.v.patch) ∧ w.cell? ⟨b, 3, none⟩ = some (.string c.v.pre) ∧ w.cell? ⟨b, 4, none⟩ = some (.string c.v.build) ∧ w.cell? ⟨b, 5, none⟩ = some (.int .i64 c.sh) ∧ w.cell? ⟨b, 6, none⟩ = some n ∧ w.cell? ⟨b, 7, none⟩ = some b' :=
 ⟨(h.cell 0).trans rfl, (h.cell 1).trans rfl, (h.cell 2).trans rfl, (h.cell 3).trans rfl, (h.cell 4).trans rfl, (h.cell 5).trans rfl, (h.cell 6).trans rfl, (h.cell 7).trans rfl⟩
set_option maxRecDepth 100000 in
set_option maxHeartbeats 4000000 in
theorem sameCand_any (nv bv nv' bv' : Value) (c : CandW) (w : World) (hB : c.v.B) (hn : SliceRd (tSlice tWant) w (Lt w.heap.size) nv c.needs) (hb : SliceRd tWant w (Lt w.heap.size) bv c.bars) (hn' : SliceRd (tSlice tWant) w (Lt w.heap.size) nv' c.needs) (hb' : SliceRd tWant w (Lt w.heap.size) bv' c.bars) :
  Calls Tryz.prog 46 #[.agg #[.int .i64 c.v.major, .int .i64 c.v.minor, .int .i64 c.v.patch, .string c.v.pre, .string c.v.build, .int .i64 c.sh, nv, bv], .agg #[.int .i64 c.v.major, .int .i64 c.v.minor, .int .i64 c.v.patch, .string c.v.pre, .string c.v.build, .int .i64 c.sh, nv', bv']] w fun e w' => e = .returned (.bool true) ∧ Below w.heap.size w w' := by
 obtain ⟨P, hP⟩ := print2_any c.v hB
 have HP := hid hP
 have HN := hid hn
 have HN' := hid hn'
 have HBB := hid (fun (W : World) (hW : Below w.heap.size w W) => sameWants_any bv bv' c.bars W (hb.lift hW hW.size) (hb'.lift hW hW.size))
 obtain ⟨An, cn, rfl, hcn, hcm, hnl⟩ := hn.lists
 obtain ⟨An', cn', rfl, hcn', hcm', hnl'⟩ := hn'.lists
 obtain ⟨Ab, cb, e1, -⟩ := hb.wants
 obtain ⟨Ab', cb', e2, -⟩ := hb'.wants
 have HNL := hid hnl
 have HNL' := hid hnl'
 generalize c.bars.length = nb at e1 e2
 subst e1 e2
 obtain ⟨nn, hnn⟩ : ∃ nn, c.needs.length = nn := ⟨_, rfl⟩
 have HNN := hid hnn
 rw [hnn] at hcn hcn' ⊢
 unfold maxLen at hcm hcm'
 have hpp := str_self P
 have hsh : (c.sh != c.sh) = false := by simp
 have hne : ((nn : Int) != (nn : Int)) = false := by simp
 obtain ⟨w0, hw0⟩ : ∃ w0 : World, w0 = (w.alloc (.cells #[.int .i64 c.v.major, .int .i64 c.v.minor, .int .i64 c.v.patch, .string c.v.pre, .string c.v.build, .int .i64 c.sh, .slice An nn cn, .slice Ab nb cb] 69)).alloc (.cells #[.int .i64 c.v.major, .int .i64 c.v.minor, .int .i64 c.v.patch, .string c.v.pre, .string c.v.build, .int .i64 c.sh, .slice An' nn cn', .slice Ab' nb cb'] 69) := ⟨_, rfl⟩
 have HB0 := hid (show Below w.heap.size w w0 from hw0 ▸ balloc (balloc (b0 w) _) _)
 have k1 : Blk w0 w.heap.size 69 (candV c (.slice An nn cn) (.slice Ab nb cb)) := hw0 ▸ (Blk.new w _ _).later (balloc (b0 _) _)
 have k2 : Blk w0 (w.heap.size + 1) 69 (candV c (.slice An' nn cn') (.slice Ab' nb cb')) := by
  have h := Blk.new (w.alloc (.cells (candV c (.slice An nn cn) (.slice Ab nb cb)) 69)) 69 (candV c (.slice An' nn cn') (.slice Ab' nb cb'))
  rw [show (w.alloc (.cells (candV c (.slice An nn cn) (.slice Ab nb cb)) 69)).heap.size = w.heap.size + 1 by simp] at h
  rw [hw0]; exact h
 have hl0 := k1.lt
 have hl1 := k2.lt
 have HX1 := hid (cand_cells k1)
 have HX2 := hid (cand_cells k2)
 have HW0 := hid hw0
 have HPL := hid (fun e : Later w0 => HP.out e.w)
 have HBL := hid (fun e : Later w0 => HBB.out e.w (bstep HB0.out e.below))
 obtain ⟨x0, x1, x2, x3, x4, x5, x6, x7⟩ := HX1.out
 obtain ⟨y0, y1, y2, y3, y4, y5, y6, y7⟩ := HX2.out
 have l0 := later_cell hl0 x0
 have l1 := later_cell hl0 x1
 have l2 := later_cell hl0 x2
 have l3 := later_cell hl0 x3
 have l4 := later_cell hl0 x4
 have l5 := later_cell hl0 x5
 have l6 := later_cell hl0 x6
 have l7 := later_cell hl0 x7
 have m0 := later_cell hl1 y0
 have m1 := later_cell hl1 y1
 have m2 := later_cell hl1 y2
 have m3 := later_cell hl1 y3
 have m4 := later_cell hl1 y4
 have m5 := later_cell hl1 y5
 have m6 := later_cell hl1 y6
 have m7 := later_cell hl1 y7
 clear hn hb hn' hb' hnl hnl' hnn hw0 k1 k2 hP hB x0 x1 x2 x3 x4 x5 x7 y0 y1 y2 y3 y4 y5 y7
 go_enter Tryz.func46, Tryz.ntmps46
 go_wp2_with fail
 rw [← HW0.out]
 (refine wp_region_later (by kernel_rfl) (by kernel_rfl) ?_; (repeat (go_big_quiet_step ((first | (go_at_call 85; exact Calls.later (HPL.out _) rfl) | (go_at_call 86; exact Calls.later (HBL.out _) rfl))))); refine wpQuiet_nil ?_; rintro w1 ⟨⟨_, hw1⟩, rfl⟩)
 have hb1 := bstep HB0.out hw1
 have z6 := cell_below hw1 hl0 x6
 have z6' := cell_below hw1 hl1 y6
 have hl0' := Nat.lt_of_lt_of_le hl0 hw1.size
 have hl1' := Nat.lt_of_lt_of_le hl1 hw1.size
 have HB1 := hid hb1
 clear l0 l1 l2 l3 l4 l5 l6 l7 m0 m1 m2 m3 m4 m5 m6 m7 hb1 x6 y6
 go_wp2_with fail
 go_loopw [5] (fun iv wr => ∃ k : Nat, k ≤ nn ∧ iv = .int .i64 k ∧ Hid (Below w1.heap.size w1 wr)) (fun iv _ => nn - (RowKit.intOf iv).toNat)
 case atStart => exact ⟨0, Nat.zero_le _, rfl, hid (b0 w1)⟩
 case round =>
  obtain ⟨k, hk, rfl, hb⟩ := hrel
  have r6 := cell_below hb.out hl0' z6
  by_cases hlt : k < nn
  ·have i1 : (0 : Int) ≤ ↑k := by omega
   have i2 : (↑k : Int) < ↑nn := by omega
   obtain ⟨g, o, lv, hA, hF, cN, hlr⟩ := HNL.out k (by rw [HNN.out]; exact hlt)
   obtain ⟨g', o', lv', hA', hF', cN', hlr'⟩ := HNL'.out k (by rw [HNN.out]; exact hlt)
   subst hA hA'
   have hbw := bstep HB1.out hb.out
   have HS := hid (fun e : Later wr => sameWants_any lv lv' _ e.w (hlr.lift (bstep hbw e.below) (bstep hbw e.below).size) (hlr'.lift (bstep hbw e.below) (bstep hbw e.below).size))
   obtain ⟨A1, k1, e1, -⟩ := hlr.wants
   obtain ⟨A2, k2, e2, -⟩ := hlr'.wants
   generalize (c.needs[k]'(by rw [HNN.out]; exact hlt)).length = ll at e1 e2
   subst e1 e2
   have hgw : g < wr.heap.size := Nat.lt_of_lt_of_le hF hbw.size
   have hgw' : g' < wr.heap.size := Nat.lt_of_lt_of_le hF' hbw.size
   have l0 := later_cell (Nat.lt_of_lt_of_le hl0' hb.out.size) r6
   have l1 := later_cell (Nat.lt_of_lt_of_le hl1' hb.out.size) (cell_below hb.out hl1' z6')
   have l2 := later_cell hgw (cell_below hbw hF cN)
   have l3 := later_cell hgw' (cell_below hbw hF' cN')
   clear hlr hlr' cN cN'
   go_wp2_with fail
   (refine wp_region_later (by kernel_rfl) (by kernel_rfl) ?_; (repeat (go_big_quiet_step ((go_at_call 86; exact Calls.later (HS.out _) rfl)))); refine wpQuiet_nil ?_; rintro w2 ⟨⟨_, hw2⟩, rfl⟩)
   go_wp2
   exact ⟨⟨k + 1, by omega, by go_num, hid (bstep hb.out hw2)⟩, by simp [RowKit.intOf]; omega⟩
  ·go_wp2
   go_ret
   exact ⟨rfl, bstep HB1.out hb.out⟩
end Go.Proofs.YtilgijmokjekgaaGreatDoor
end
section
/- Contract: linchpinmade.SameWorld, at worlds that are alike. -/
namespace Go.Proofs.YtilgijmokjekgaaGreatDoor
open Go Go.RowKit

/-- A world, opened: its units' names and candidates. -/
theorem WorldRd.whole {w : World} {F : Nat → Prop} {v : Value} {us : List UnitW} (h : WorldRd w F v us) :
  ∃ g cap, v = .agg #[.slice (some ⟨g, 0, none⟩) us.length cap] ∧ F g ∧ ∀ u, (hu : u < us.length) → ∃ A c, w.cell? ⟨g, u * 3, none⟩ = some (.string us[u].nm) ∧ w.cell? ⟨g, u * 3 + 1, none⟩ = some (.string us[u].ft) ∧ w.cell? ⟨g, u * 3 + 2, none⟩ = some (.slice A us[u].cands.length c) ∧
   ∀ k, (hk : k < us[u].cands.length) → ∃ gc o nv bv, A = some ⟨gc, o, none⟩ ∧ F gc ∧ CandAt w gc (o + k * 8) us[u].cands[k] nv bv ∧ us[u].cands[k].v.B ∧ SliceRd (tSlice tWant) w F nv us[u].cands[k].needs ∧ SliceRd tWant w F bv us[u].cands[k].bars := by
 obtain ⟨g, cap, e, hF, hs⟩ := id h
 obtain ⟨g', cap', e', -, hun⟩ := h.opened
 rw [e] at e'
 have e2 := congrArg (fun v : Value => match v with | .agg a => a.toList | _ => []) e'
 simp only [List.cons.injEq, and_true, Value.slice.injEq, Option.some.injEq, Addr.mk.injEq] at e2
 obtain ⟨⟨rfl, -, -⟩, -, rfl⟩ := e2
 refine ⟨g, cap, e, hF, fun u hu => ?_⟩
 obtain ⟨A0, c0, e0, -, -, hnm⟩ := hs.shape
 obtain ⟨g2, o2, cs, hA, -, -, hcell, cv, rfl, -⟩ := hnm u hu
 injection e0 with e1
 rw [← e1] at hA
 cases hA
 obtain ⟨A, c, h2, h3⟩ := hun u hu
 have h0 := hcell 0 (by show 0 < 3; omega)
 have h1 := hcell 1 (by show 1 < 3; omega)
 rw [Nat.zero_add] at h0 h1
 exact ⟨A, c, h0, h1, h2, h3⟩
set_option maxRecDepth 100000 in
set_option maxHeartbeats 4000000 in
theorem sameWorld_any (v v' : Value) (us : List UnitW) (w : World) (h : WorldRd w (Lt w.heap.size) v us) (h' : WorldRd w (Lt w.heap.size) v' us) (ho : UnitsOk us) :
  Calls Tryz.prog 16 #[v, v'] w fun e w' => e = .returned (.bool true) ∧ Below w.heap.size w w' := by
 obtain ⟨g, c, rfl, hg, hun⟩ := h.whole
 obtain ⟨g', c', rfl, hg', hun'⟩ := h'.whole
 have h11 : us.length ≤ 11 := by have := ho.ns.hi; simpa [nsOf] using this
 have hne : ((us.length : Int) != (us.length : Int)) = false := by simp
 have HUN := hid hun
 have HUN' := hid hun'
 have HNC := hid (fun u (hu : u < us.length) => (by have := ho.ns.le u (by simpa [nsOf] using hu); simpa [nsOf] using this : us[u].cands.length ≤ 4))
 obtain ⟨w0, hw0⟩ : ∃ w0 : World, w0 = (w.alloc (.cells #[.slice (some ⟨g, 0, none⟩) us.length c] 25)).alloc (.cells #[.slice (some ⟨g', 0, none⟩) us.length c'] 25) := ⟨_, rfl⟩
 have HB0 := hid (show Below w.heap.size w w0 from hw0 ▸ balloc (balloc (b0 w) _) _)
 have hl1 : w.heap.size + 1 < w0.heap.size := by rw [hw0]; simp
 have hl0 : w.heap.size < w0.heap.size := by omega
 have q0 := show w0.cell? ⟨w.heap.size, 0, none⟩ = some (.slice (some ⟨g, 0, none⟩) us.length c) by rw [hw0]; exact alloc2_old rfl
 have q1 := show w0.cell? ⟨w.heap.size + 1, 0, none⟩ = some (.slice (some ⟨g', 0, none⟩) us.length c') by rw [hw0]; exact alloc2_new rfl
 have HW0 := hid hw0
 have hgW : g < w.heap.size := hg
 have hgW' : g' < w.heap.size := hg'
 clear h h' ho hun hun' hw0 hg hg'
 go_enter Tryz.func16, Tryz.ntmps16
 go_wp2_with fail
 rw [← HW0.out]
 go_loopw [5, 6, 7, 8] (fun iv _ _ _ wr => ∃ u : Nat, u ≤ us.length ∧ iv = .int .i64 u ∧ Hid (Below w0.heap.size w0 wr)) (fun iv _ _ _ _ => us.length - (RowKit.intOf iv).toNat)
 case atStart => exact ⟨0, Nat.zero_le _, rfl, hid (b0 w0)⟩
 case round =>
  obtain ⟨u, hu, rfl, hb⟩ := hrel
  have r0 := cell_below hb.out hl0 q0
  have r1 := cell_below hb.out hl1 q1
  have hz0 : w.heap.size < wr.heap.size := Nat.lt_of_lt_of_le hl0 hb.out.size
  have hz1 : w.heap.size + 1 < wr.heap.size := Nat.lt_of_lt_of_le hl1 hb.out.size
  by_cases hlt : u < us.length
  ·have i0 : (0 : Int) ≤ ↑u := by omega
   have i1 : (↑u : Int) < ↑us.length := by omega
   obtain ⟨A, cc, n0, n1, n2, hcd⟩ := HUN.out u hlt
   obtain ⟨A', cc', n0', n1', n2', hcd'⟩ := HUN'.out u hlt
   have h4 := HNC.out u hlt
   have hbw := bstep HB0.out hb.out
   replace n0 := cell_below hbw hgW n0
   replace n1 := cell_below hbw hgW n1
   replace n2 := cell_below hbw hgW n2
   replace n0' := cell_below hbw hgW' n0'
   replace n1' := cell_below hbw hgW' n1'
   replace n2' := cell_below hbw hgW' n2'
   have hgr : g < wr.heap.size := Nat.lt_of_lt_of_le hgW hbw.size
   have hgr' : g' < wr.heap.size := Nat.lt_of_lt_of_le hgW' hbw.size
   obtain ⟨x, hx⟩ : ∃ x, us[u] = x := ⟨_, rfl⟩
   rw [hx] at n0 n1 n2 n0' n1' n2' hcd hcd' h4
   have HCD := hid hcd
   have HCD' := hid hcd'
   have s0 := str_self x.nm
   have s1 := str_self x.ft
   obtain ⟨nc, hnc⟩ : ∃ nc, x.cands.length = nc := ⟨_, rfl⟩
   have HNN := hid hnc
   rw [hnc] at n2 n2' h4
   have hnn : ((nc : Int) != (nc : Int)) = false := by simp
   obtain ⟨wo, rfl⟩ : ∃ wo, wo = wr := ⟨_, rfl⟩
   have HBW := hid hbw
   clear hcd hcd' hnc hx hbw
   go_upto_region 6 with fail
   go_cut [6, 7] (fun s6 s7 wx => ∃ a b : Nat, s6 = .pointer (some ⟨a, 0, none⟩) ∧ s7 = .pointer (some ⟨b, 0, none⟩) ∧ Hid (Blk wx a 62 #[.string x.nm, .string x.ft, .slice A nc cc]) ∧ Hid (Blk wx b 62 #[.string x.nm, .string x.ft, .slice A' nc cc']) ∧ Hid (Below wo.heap.size wo wx))
   case first =>
    have k1 := fun o => (Blk.new wo 62 #[.string x.nm, .string x.ft, .slice A nc cc]).later (balloc (b0 _) o)
    have k2 := fun o => (Blk.new wo 62 #[.string x.nm, .string x.ft, .slice A' nc cc']).later (balloc (b0 _) o)
    have k3 := fun o => Blk.new (wo.alloc o) 62 #[.string x.nm, .string x.ft, .slice A nc cc]
    have k4 := fun o => Blk.new (wo.alloc o) 62 #[.string x.nm, .string x.ft, .slice A' nc cc']
    simp only [World.size_alloc] at k3 k4
    have K1 := hid k1
    have K2 := hid k2
    have K3 := hid k3
    have K4 := hid k4
    clear k1 k2 k3 k4
    go_region
    all_goals (go_wp2_with fail; go_meet; first
     | exact ⟨_, _, rfl, rfl, hid (K1.out _).drew, hid (K4.out _).drew, hid (balloc (balloc (b0 wo) _) _).drew⟩
     | exact ⟨_, _, rfl, rfl, hid (K3.out _).drew, hid (K2.out _).drew, hid (balloc (balloc (b0 wo) _) _).drew⟩)
   case rest =>
    obtain ⟨a, b, rfl, rfl, hka, hkb, hbx⟩ := hcut
    obtain ⟨wv, rfl⟩ : ∃ wv, wv = wc := ⟨_, rfl⟩
    have a0 := hka.out.cell 0
    have a1 := hka.out.cell 1
    have a2 := hka.out.cell 2
    have d0 := hkb.out.cell 0
    have d1 := hkb.out.cell 1
    have d2 := hkb.out.cell 2
    simp only [List.getElem?_toArray, List.getElem?_cons_zero, List.getElem?_cons_succ] at a0 a1 a2 d0 d1 d2
    have hal := hka.out.lt
    have hbl := hkb.out.lt
    go_wp2_with fail
    go_loopw [8] (fun iv wr => ∃ i : Nat, i ≤ nc ∧ iv = .int .i64 i ∧ Hid (Below wv.heap.size wv wr)) (fun iv _ => nc - (RowKit.intOf iv).toNat)
    case atStart => exact ⟨0, Nat.zero_le _, rfl, hid (b0 wv)⟩
    case round =>
     obtain ⟨i, hi, rfl, hbi⟩ := hrel
     have e2 := cell_below hbi.out hal a2
     by_cases hlti : i < nc
     ·have j0 : (0 : Int) ≤ ↑i := by omega
      have j1 : (↑i : Int) < ↑nc := by omega
      obtain ⟨gc, o, nv, bv, hA, hF, hat, hvB, hnd, hbr⟩ := HCD.out i (by rw [HNN.out]; exact hlti)
      obtain ⟨gc', o', nv', bv', hA', hF', hat', -, hnd', hbr'⟩ := HCD'.out i (by rw [HNN.out]; exact hlti)
      subst hA hA'
      obtain ⟨cd, hcd⟩ : ∃ cd, x.cands[i]'(by rw [HNN.out]; exact hlti) = cd := ⟨_, rfl⟩
      rw [hcd] at hat hat' hvB hnd hbr hnd' hbr'
      have hbw := bstep HBW.out (bstep hbx.out hbi.out)
      have HS := hid (fun e : Later wr => sameCand_any nv bv nv' bv' cd e.w hvB (hnd.lift (bstep hbw e.below) (bstep hbw e.below).size) (hbr.lift (bstep hbw e.below) (bstep hbw e.below).size) (hnd'.lift (bstep hbw e.below) (bstep hbw e.below).size) (hbr'.lift (bstep hbw e.below) (bstep hbw e.below).size))
      obtain ⟨A1, k1, e1, -⟩ := hnd.lists
      obtain ⟨A2, k2, e3, -⟩ := hnd'.lists
      obtain ⟨A3, k3, e4, -⟩ := hbr.wants
      obtain ⟨A4, k4, e5, -⟩ := hbr'.wants
      generalize cd.needs.length = n1 at e1 e3
      generalize cd.bars.length = n2 at e4 e5
      subst e1 e3 e4 e5
      obtain ⟨x0, x1, x2, x3, x4, x5, x6, x7⟩ := hat.below hbw hF
      obtain ⟨y0, y1, y2, y3, y4, y5, y6, y7⟩ := hat'.below hbw hF'
      have hgw : gc < wr.heap.size := Nat.lt_of_lt_of_le hF hbw.size
      have hgw' : gc' < wr.heap.size := Nat.lt_of_lt_of_le hF' hbw.size
      have l0 := later_cell hgw x0
      have l1 := later_cell hgw x1
      have l2 := later_cell hgw x2
      have l3 := later_cell hgw x3
      have l4 := later_cell hgw x4
      have l5 := later_cell hgw x5
      have l6 := later_cell hgw x6
      have l7 := later_cell hgw x7
      have m0 := later_cell hgw' y0
      have m1 := later_cell hgw' y1
      have m2 := later_cell hgw' y2
      have m3 := later_cell hgw' y3
      have m4 := later_cell hgw' y4
      have m5 := later_cell hgw' y5
      have m6 := later_cell hgw' y6
      have m7 := later_cell hgw' y7
      have l8 := later_cell (Nat.lt_of_lt_of_le hal hbi.out.size) e2
      have l9 := later_cell (Nat.lt_of_lt_of_le hbl hbi.out.size) (cell_below hbi.out hbl d2)
      clear hat hat' hnd hbr hnd' hbr' hcd x0 x1 x2 x3 x4 x5 x6 x7 y0 y1 y2 y3 y4 y5 y6 y7
      go_wp2_with fail
      (refine wp_region_later (by kernel_rfl) (by kernel_rfl) ?_; (repeat (go_big_quiet_step ((go_at_call 46; exact Calls.later (HS.out _) rfl)))); refine wpQuiet_nil ?_; rintro w2 ⟨⟨_, hw2⟩, rfl⟩)
      go_wp2
      exact ⟨⟨i + 1, by omega, by go_num, hid (bstep hbi.out hw2)⟩, by simp [RowKit.intOf]; omega⟩
     ·have hie : i = nc := by omega
      subst hie
      clear hlti
      go_wp2_with fail
      exact ⟨⟨u + 1, by omega, by go_num, hid (bstep hb.out (bstep hbx.out hbi.out))⟩, by simp [RowKit.intOf]; omega⟩
  ·go_wp2
   go_ret
   exact ⟨rfl, bstep HB0.out hb.out⟩
end Go.Proofs.YtilgijmokjekgaaGreatDoor
end
