import Derived.Test.YtbfbppjccbppiaaGreatDoorzV1
import Derived.Test.YtbfbppjccbppiaaGreatDoorzA4
import Derived.Test.YtbfbppjccbppiaaGreatDoorzY1
import Derived.Deep.DeepCutAuto
import Derived.Deep.RegionHeld3
import Derived.Test.YtbfbppjccbppiaaGreatDoorzA
import Derived.Lib.ItoaNum
import Derived.Lib.BufferRead
import Derived.Outline
namespace Go.Proofs.YtbfbppjccbppiaaGreatDoor
open Go Go.RowKit
def dig8 (k : Nat) : UInt8 := UInt8.ofNat (48 + k)
theorem ze6 {k : Nat} (h : k < 10) : ((dig8 k).toNat : Int) = 48 + k := by unfold dig8; simp; omega
theorem zq7 {m : Nat} (h : 9 < m) : Lib.decDigits m = Lib.decDigits (m / 10) ++ [dig8 (m % 10)] := by rw [Lib.decDigits, dif_neg (by omega)]; rfl
theorem qu7 {m : Nat} (h : ¬ 9 < m) : Lib.decDigits m = [dig8 m] := by rw [Lib.decDigits, dif_pos (by omega)]; rfl
theorem ze4 {P : Program} {src e dst : TypeId} (hs : P.underlying src = some (.slice e)) (he : P.underlying e = some (.int .u8)) (hd : P.underlying dst = some .string) (w : World) (c : Int) (b : UInt8) (hb : (b.toNat : Int) = c) :
  (convert src dst (.slice (some ⟨w.heap.size, 0, none⟩) 1 1)).run P (w.alloc (.cells #[.int .u8 c] e)) = .ok (.string ⟨#[b]⟩) (w.alloc (.cells #[.int .u8 c] e)) := by
 refine run_convert_bytes_back (w.alloc (.cells #[.int .u8 c] e)) src dst e ⟨w.heap.size, 0, none⟩ 1 [b] hs he hd fun j hj => ?_
 have : j = 0 := by simpa using hj
 subst this
 rw [add_mk, Nat.zero_add, World.cell?_alloc_new]
 simp [hb]
theorem str_app (a b : List UInt8) : (⟨a.toArray⟩ ++ ⟨b.toArray⟩ : ByteArray) = ⟨(a ++ b).toArray⟩ := by
 apply ByteArray.ext
 simp [ByteArray.data_append]
theorem zl8 (u : Nat) (h : 1 < Lib.nDigits u) : 10 ^ (Lib.nDigits u - 1) ≤ u := by
 induction u using Nat.strongRecOn with
 | _ u ih =>
  by_cases h10 : u < 10
  ·rw [Lib.nDigits_small h10] at h; omega
  ·rw [Lib.nDigits_big h10]
   by_cases h1 : 1 < Lib.nDigits (u / 10)
   ·have := ih (u / 10) (by omega) h1
    have e : Lib.nDigits (u / 10) + 1 - 1 = (Lib.nDigits (u / 10) - 1) + 1 := by omega
    rw [e, Nat.pow_succ]
    omega
   ·have := Lib.nDigits_pos (u / 10)
    have e : Lib.nDigits (u / 10) = 1 := by omega
    rw [e]
    show 10 ^ 1 ≤ u
    omega
theorem zi5 {n : Nat} (h : n < 10000000) : Lib.nDigits n ≤ 7 := by
 rcases Nat.lt_or_ge 7 (Lib.nDigits n) with h7 | h7
 ·exfalso
  have hp := Lib.nDigits_pos n
  have : 10 ^ (Lib.nDigits n - 1) ≤ n := zl8 n (by omega)
  have h2 : 10 ^ 7 ≤ 10 ^ (Lib.nDigits n - 1) := Nat.pow_le_pow_right (by omega) (by omega)
  omega
 ·exact h7
theorem qq9 {n : Nat} (h : n ≤ 9999999) : (Lib.decDigits n).length ≤ 7 := by rw [Lib.decDigits_length]; exact zi5 (by omega)
set_option maxRecDepth 100000 in
set_option maxHeartbeats 1000000 in
theorem whole1_any (n : Nat) (w : World) (h1 : n ≤ 9999999) :
  Calls Tryz.prog 132 #[.int .u64 n] w fun e w' => e = .returned (.string ⟨(Lib.decDigits n).toArray⟩) ∧ Below w.heap.size w w' := by
 have HL := hid (qq9 h1)
 have hcv := ze4 Tryz.underlying41 Tryz.underlying5 Tryz.underlying9 w (48 + ↑n % 10) (dig8 (n % 10)) (by rw [ze6 (by omega)]; omega)
 go_enter Tryz.func132, Tryz.ntmps132
 go_wp2
 go_loopw [0, 3] (fun nv sv wr => ∃ (m : Nat) (t : List UInt8), nv = .int .u64 m ∧ sv = .string ⟨t.toArray⟩ ∧ m ≤ n ∧ Hid (Lib.decDigits n = (if 9 < m then Lib.decDigits (m / 10) else []) ++ t) ∧ Hid (Below w.heap.size w wr)) (fun nv _ _ => (RowKit.intOf nv).toNat)
 case atStart =>
  refine ⟨n, [dig8 (n % 10)], rfl, rfl, Nat.le_refl _, hid ?_, hid (qa0 (b0 w) _)⟩
  by_cases h9 : 9 < n
  ·rw [if_pos h9, zq7 h9]
  ·rw [if_neg h9, qu7 h9, Nat.mod_eq_of_lt (by omega)]; rfl
 case round =>
  obtain ⟨m, t, rfl, rfl, hm, hd, hb⟩ := hrel
  have ht : t.length ≤ 7 := by have := congrArg List.length hd.out; have := HL.out; simp at *; omega
  by_cases h9 : 9 < m
  ·have hcw := ze4 Tryz.underlying41 Tryz.underlying5 Tryz.underlying9 wr (48 + ↑m / 10 % 10) (dig8 (m / 10 % 10)) (by rw [ze6 (by omega)]; omega)
   have hdd := hd.out
   rw [if_pos h9] at hdd
   have HD := hid hdd
   clear hcv hdd
   go_wp2
   refine ⟨⟨m / 10, dig8 (m / 10 % 10) :: t, by go_num, congrArg Value.string (str_app [_] t), by omega, hid ?_, hid (qa0 hb.out _)⟩, by simp [RowKit.intOf]; omega⟩
   rw [HD.out]
   by_cases h10 : 9 < m / 10
   ·rw [if_pos h10, zq7 h10]; simp
   ·rw [if_neg h10, qu7 h10, Nat.mod_eq_of_lt (by omega)]; rfl
  ·have hdd := hd.out
   rw [if_neg h9, List.nil_append] at hdd
   have HD := hid hdd
   clear hcv hdd
   go_wp2
   go_ret
   exact ⟨congrArg (fun x : List UInt8 => Ending.returned (Value.string ⟨x.toArray⟩)) HD.out.symm, hb.out⟩
set_option maxRecDepth 100000 in
set_option maxHeartbeats 1000000 in
theorem qx3 (n : Nat) (w : World) (h1 : n ≤ 9999999) :
  Calls Tryz.prog 98 #[.int .i64 n] w fun e w' => e = .returned (.string ⟨(Lib.decDigits n).toArray⟩) ∧ Below w.heap.size w w' := by
 have HW := hid (whole1_any n w h1)
 have z0 : decide ((n : Int) < 0) = false := decide_eq_false (by omega)
 have z1 : ¬ ((n : Int) < 0) := by omega
 have z2 : IntKind.u64.wrap (n : Int) = n := IntWalk.u64_in _ (by omega)
 go_enter Tryz.func98, Tryz.ntmps98
 go_wp2_with (go_at_call 132; refine HW.out.mono ?_; rintro e w1 ⟨rfl, hb1⟩; have HB1 := hid hb1; clear hb1)
 go_ret
 exact ⟨rfl, HB1.out⟩
def qw0 (v : Ver) : ByteArray := (⟨(Lib.decDigits v.major.toNat).toArray⟩ : ByteArray) ++ ⟨#[46]⟩ ++ ⟨(Lib.decDigits v.minor.toNat).toArray⟩ ++ ⟨#[46]⟩ ++ ⟨(Lib.decDigits v.patch.toNat).toArray⟩
set_option maxRecDepth 100000 in
set_option maxHeartbeats 1000000 in
theorem numbers_any (v : Ver) (w : World) (h0 : 0 ≤ v.major ∧ v.major ≤ 9999999) (h1 : 0 ≤ v.minor ∧ v.minor ≤ 9999999) (h2 : 0 ≤ v.patch ∧ v.patch ≤ 9999999) :
  Calls Tryz.prog 55 #[.agg #[.int .i64 v.major, .int .i64 v.minor, .int .i64 v.patch, .string v.pre, .string v.build]] w fun e w' => e = .returned (.string (qw0 v)) ∧ Below w.heap.size w w' := by
 obtain ⟨a, b, c, p, q⟩ := v
 dsimp only at h0 h1 h2 ⊢
 obtain ⟨a, rfl⟩ := Int.eq_ofNat_of_zero_le h0.1
 obtain ⟨b, rfl⟩ := Int.eq_ofNat_of_zero_le h1.1
 obtain ⟨c, rfl⟩ := Int.eq_ofNat_of_zero_le h2.1
 have HNV : Hid (qw0 ⟨a, b, c, p, q⟩ = (⟨(Lib.decDigits a).toArray⟩ : ByteArray) ++ ⟨#[46]⟩ ++ ⟨(Lib.decDigits b).toArray⟩ ++ ⟨#[46]⟩ ++ ⟨(Lib.decDigits c).toArray⟩) := hid rfl
 have la := qq9 (n := a) (by omega)
 have lb := qq9 (n := b) (by omega)
 have lc := qq9 (n := c) (by omega)
 have HDA := hid (fun W => qx3 a W (by omega))
 have HDB := hid (fun W => qx3 b W (by omega))
 have HDC := hid (fun W => qx3 c W (by omega))
 generalize Lib.decDigits a = da at *
 generalize Lib.decDigits b = db at *
 generalize Lib.decDigits c = dc at *
 obtain ⟨w0, hw0⟩ : ∃ w0 : World, w0 = w.alloc (.cells #[.int .i64 a, .int .i64 b, .int .i64 c, .string p, .string q] 59) := ⟨_, rfl⟩
 have hb0 : Below w.heap.size w w0 := hw0 ▸ qa0 (b0 w) _
 have hz0 : w.heap.size < w0.heap.size := by rw [hw0]; simp
 have q0 : w0.cell? ⟨w.heap.size, 0, none⟩ = some (.int .i64 a) := by rw [hw0]; exact (qa6 w _ _ 0).trans rfl
 have q1 : w0.cell? ⟨w.heap.size, 1, none⟩ = some (.int .i64 b) := by rw [hw0]; exact (qa6 w _ _ 1).trans rfl
 have q2 : w0.cell? ⟨w.heap.size, 2, none⟩ = some (.int .i64 c) := by rw [hw0]; exact (qa6 w _ _ 2).trans rfl
 have HB0 := hid hb0
 have HW0 := hid hw0
 have Q2 := hid q2
 clear hw0 hb0 h0 h1 h2 q2
 go_enter Tryz.func55, Tryz.ntmps55
 have T1 := hid True.intro
 have s1 : ¬ 9223372036854775807 < da.length + 1 := by omega
 have s2 : ¬ 9223372036854775807 < da.length + 1 + db.length := by omega
 have s3 : ¬ 9223372036854775807 < da.length + 1 + db.length + 1 := by omega
 have s4 : ¬ 9223372036854775807 < da.length + 1 + db.length + 1 + dc.length := by omega
 clear la lb lc
 go_upto_region 1 with fail
 rw [← HW0.out]
 go_region_held3 (fun w' => w'.cell? ⟨w.heap.size, 0, none⟩ = some (.int .i64 a) ∧ w'.cell? ⟨w.heap.size, 1, none⟩ = some (.int .i64 b)) (first | exact ⟨by assumption, by assumption⟩ | go_keep) ((first
  | (clear T1; go_at_call 98; refine (HDA.out _).mono ?_; rintro e w1 ⟨rfl, hb1⟩; have HB1 := hid (qa1 (b0 w0).drew hb1); have d0 := cell_below HB1.out hz0 q0; have d1 := cell_below HB1.out hz0 q1; clear hb1)
  | (go_at_call 98; refine (HDB.out _).mono ?_; rintro e w2 ⟨rfl, hb2⟩; have HB2 := hid (qa1 HB1.out hb2); have d2 := cell_below HB2.out hz0 q0; have d3 := cell_below HB2.out hz0 q1; clear hb2)))
 have q2 := cell_below HB2.out hz0 Q2.out
 go_wp2_with (go_at_call 98; refine (HDC.out _).mono ?_; rintro e w3 ⟨rfl, hb3⟩; have HB3 := hid (qa1 HB2.out hb3); clear hb3)
 go_ret
 exact ⟨congrArg (fun x => Ending.returned (Value.string x)) HNV.out.symm, qa1 HB0.out HB3.out⟩
theorem nums_size {v : Ver} (h0 : 0 ≤ v.major ∧ v.major ≤ 9999999) (h1 : 0 ≤ v.minor ∧ v.minor ≤ 9999999) (h2 : 0 ≤ v.patch ∧ v.patch ≤ 9999999) : (qw0 v).size ≤ 23 := by
 have la := qq9 (n := v.major.toNat) (by omega)
 have lb := qq9 (n := v.minor.toNat) (by omega)
 have lc := qq9 (n := v.patch.toNat) (by omega)
 unfold qw0
 simp only [ByteArray.size_append]
 show (Lib.decDigits v.major.toNat).toArray.size + 1 + (Lib.decDigits v.minor.toNat).toArray.size + 1 + (Lib.decDigits v.patch.toNat).toArray.size ≤ 23
 simp only [List.size_toArray]
 omega
def qg5 (v : Ver) : ByteArray := if mayV v = true then (if v.build.toList.isEmpty = true then (if v.pre.toList.isEmpty = true then qw0 v else qw0 v ++ ⟨#[45]⟩ ++ v.pre) else (if v.pre.toList.isEmpty = true then qw0 v else qw0 v ++ ⟨#[45]⟩ ++ v.pre) ++ ⟨#[43]⟩ ++ v.build) else ⟨#[]⟩
set_option maxRecDepth 100000 in
set_option maxHeartbeats 2000000 in
theorem print2_any (v : Ver) (hB : v.B) : ∃ P : ByteArray, P = qg5 v ∧ ∀ w, Calls Tryz.prog 24 #[.agg #[.int .i64 v.major, .int .i64 v.minor, .int .i64 v.patch, .string v.pre, .string v.build]] w fun e w' => e = .returned (.string P) ∧ Below w.heap.size w w' := by
 obtain ⟨a, b, c, p, q⟩ := v
 have hbox : ∀ w : World, ∃ w0 : World, w0 = w.alloc (.cells #[.int .i64 a, .int .i64 b, .int .i64 c, .string p, .string q] 59) ∧ Below w.heap.size w w0 ∧ w.heap.size < w0.heap.size ∧ w0.cell? ⟨w.heap.size, 0, none⟩ = some (.int .i64 a) ∧ w0.cell? ⟨w.heap.size, 1, none⟩ = some (.int .i64 b) ∧ w0.cell? ⟨w.heap.size, 2, none⟩ = some (.int .i64 c) ∧ w0.cell? ⟨w.heap.size, 3, none⟩ = some (.string p) ∧ w0.cell? ⟨w.heap.size, 4, none⟩ = some (.string q) := fun w =>
  ⟨_, rfl, qa0 (b0 w) _, by simp, (qa6 w _ _ 0).trans rfl, (qa6 w _ _ 1).trans rfl, (qa6 w _ _ 2).trans rfl, (qa6 w _ _ 3).trans rfl, (qa6 w _ _ 4).trans rfl⟩
 dsimp only
 have HM0 : Hid (∃ m, mayV ⟨a, b, c, p, q⟩ = m) := hid ⟨_, rfl⟩
 obtain ⟨m, hm⟩ := HM0.out
 have HM := hid hm
 cases m with
 | false =>
  refine ⟨⟨#[]⟩, by simp [qg5, hm], fun w => ?_⟩
  obtain ⟨w0, hw0, hb0, hz0, q0, q1, q2, q3, q4⟩ := hbox w
  have HB0 := hid hb0
  have HW0 := hid hw0
  clear hbox hw0 hb0 hm
  go_enter Tryz.func24, Tryz.ntmps24
  go_wp2_with (go_at_call 54; rw [← HW0.out]; refine (qb6 a b c p q w0 hB).mono ?_; rintro e w1 ⟨rfl, hb1⟩; rw [HM.out]; have HB1 := hid (qa1 HB0.out hb1); clear hb1)
  go_ret
  exact ⟨rfl, HB1.out⟩
 | true =>
  have hm2 := hm
  simp only [mayV, qr0, Bool.and_eq_true, decide_eq_true_eq] at hm2
  obtain ⟨⟨⟨⟨⟨a0, a1⟩, b0', b1'⟩, c0', c1'⟩, -⟩, -⟩ := hm2
  have hns := nums_size (v := ⟨a, b, c, p, q⟩) ⟨a0, by show a ≤ _; omega⟩ ⟨b0', by show b ≤ _; omega⟩ ⟨c0', by show c ≤ _; omega⟩
  have HNUM := hid (fun W => numbers_any ⟨a, b, c, p, q⟩ W ⟨a0, by show a ≤ _; omega⟩ ⟨b0', by show b ≤ _; omega⟩ ⟨c0', by show c ≤ _; omega⟩)
  obtain ⟨nb, hnb⟩ : ∃ nb, qw0 ⟨a, b, c, p, q⟩ = nb := ⟨_, rfl⟩
  rw [hnb] at hns HNUM
  have hps : p.size ≤ 1000 := hB.2.2.2.1
  have hqs : q.size ≤ 1000 := hB.2.2.2.2
  have HNB := hid hnb
  clear hm hnb a0 a1 b0' b1' c0' c1'
  by_cases hp0 : p.toList = [] <;> by_cases hq0 : q.toList = []
  ·refine ⟨nb, by simp [qg5, HM.out, HNB.out, hp0, hq0], fun w => ?_⟩
   obtain ⟨w0, hw0, hb0, hz0, q0, q1, q2, q3, q4⟩ := hbox w
   have HB0 := hid hb0
   have HW0 := hid hw0
   have zp1 : p.toList.isEmpty = true := by rw [hp0]; rfl
   have zq1 : q.toList.isEmpty = true := by rw [hq0]; rfl
   have s1 : ¬ 9223372036854775807 < nb.size + 1 := by omega
   have s2 : ¬ 9223372036854775807 < nb.size + 1 + p.size := by omega
   have s3 : ¬ 9223372036854775807 < nb.size + 1 + p.size + 1 := by omega
   have s4 : ¬ 9223372036854775807 < nb.size + 1 + p.size + 1 + q.size := by omega
   have s5 : ¬ 9223372036854775807 < nb.size + 1 + q.size := by omega
   clear hbox hw0 hb0 hp0 hq0
   go_enter Tryz.func24, Tryz.ntmps24
   go_wp2_with (first
    | (go_at_call 54; rw [← HW0.out]; refine (qb6 a b c p q w0 hB).mono ?_; rintro e w1 ⟨rfl, hb1⟩; rw [HM.out]; have HB1 := hid (qa1 HB0.out hb1); have c0 := cell_below hb1 hz0 q0; have c1 := cell_below hb1 hz0 q1; have c2 := cell_below hb1 hz0 q2; have c3 := cell_below hb1 hz0 q3; have c4 := cell_below hb1 hz0 q4; have hz1 := Nat.lt_of_lt_of_le hz0 hb1.size; clear hb1)
    | (go_at_call 55; refine (HNUM.out _).mono ?_; rintro e w2 ⟨rfl, hb2⟩; have HB2 := hid (qa1 HB1.out hb2); have d3 := cell_below hb2 hz1 c3; have d4 := cell_below hb2 hz1 c4; clear hb2))
   go_ret
   exact ⟨rfl, HB2.out⟩
  ·refine ⟨(nb ++ ⟨#[43]⟩ ++ q), by simp [qg5, HM.out, HNB.out, hp0, hq0], fun w => ?_⟩
   obtain ⟨w0, hw0, hb0, hz0, q0, q1, q2, q3, q4⟩ := hbox w
   have HB0 := hid hb0
   have HW0 := hid hw0
   have zp1 : p.toList.isEmpty = true := by rw [hp0]; rfl
   have zq1 : q.toList.isEmpty = false := by rw [List.isEmpty_eq_false_iff]; exact hq0
   have s1 : ¬ 9223372036854775807 < nb.size + 1 := by omega
   have s2 : ¬ 9223372036854775807 < nb.size + 1 + p.size := by omega
   have s3 : ¬ 9223372036854775807 < nb.size + 1 + p.size + 1 := by omega
   have s4 : ¬ 9223372036854775807 < nb.size + 1 + p.size + 1 + q.size := by omega
   have s5 : ¬ 9223372036854775807 < nb.size + 1 + q.size := by omega
   clear hbox hw0 hb0 hp0 hq0
   go_enter Tryz.func24, Tryz.ntmps24
   go_wp2_with (first
    | (go_at_call 54; rw [← HW0.out]; refine (qb6 a b c p q w0 hB).mono ?_; rintro e w1 ⟨rfl, hb1⟩; rw [HM.out]; have HB1 := hid (qa1 HB0.out hb1); have c0 := cell_below hb1 hz0 q0; have c1 := cell_below hb1 hz0 q1; have c2 := cell_below hb1 hz0 q2; have c3 := cell_below hb1 hz0 q3; have c4 := cell_below hb1 hz0 q4; have hz1 := Nat.lt_of_lt_of_le hz0 hb1.size; clear hb1)
    | (go_at_call 55; refine (HNUM.out _).mono ?_; rintro e w2 ⟨rfl, hb2⟩; have HB2 := hid (qa1 HB1.out hb2); have d3 := cell_below hb2 hz1 c3; have d4 := cell_below hb2 hz1 c4; clear hb2))
   go_ret
   exact ⟨rfl, HB2.out⟩
  ·refine ⟨(nb ++ ⟨#[45]⟩ ++ p), by simp [qg5, HM.out, HNB.out, hp0, hq0], fun w => ?_⟩
   obtain ⟨w0, hw0, hb0, hz0, q0, q1, q2, q3, q4⟩ := hbox w
   have HB0 := hid hb0
   have HW0 := hid hw0
   have zp1 : p.toList.isEmpty = false := by rw [List.isEmpty_eq_false_iff]; exact hp0
   have zq1 : q.toList.isEmpty = true := by rw [hq0]; rfl
   have s1 : ¬ 9223372036854775807 < nb.size + 1 := by omega
   have s2 : ¬ 9223372036854775807 < nb.size + 1 + p.size := by omega
   have s3 : ¬ 9223372036854775807 < nb.size + 1 + p.size + 1 := by omega
   have s4 : ¬ 9223372036854775807 < nb.size + 1 + p.size + 1 + q.size := by omega
   have s5 : ¬ 9223372036854775807 < nb.size + 1 + q.size := by omega
   clear hbox hw0 hb0 hp0 hq0
   go_enter Tryz.func24, Tryz.ntmps24
   go_wp2_with (first
    | (go_at_call 54; rw [← HW0.out]; refine (qb6 a b c p q w0 hB).mono ?_; rintro e w1 ⟨rfl, hb1⟩; rw [HM.out]; have HB1 := hid (qa1 HB0.out hb1); have c0 := cell_below hb1 hz0 q0; have c1 := cell_below hb1 hz0 q1; have c2 := cell_below hb1 hz0 q2; have c3 := cell_below hb1 hz0 q3; have c4 := cell_below hb1 hz0 q4; have hz1 := Nat.lt_of_lt_of_le hz0 hb1.size; clear hb1)
    | (go_at_call 55; refine (HNUM.out _).mono ?_; rintro e w2 ⟨rfl, hb2⟩; have HB2 := hid (qa1 HB1.out hb2); have d3 := cell_below hb2 hz1 c3; have d4 := cell_below hb2 hz1 c4; clear hb2))
   go_ret
   exact ⟨rfl, HB2.out⟩
  ·refine ⟨((nb ++ ⟨#[45]⟩ ++ p) ++ ⟨#[43]⟩ ++ q), by simp [qg5, HM.out, HNB.out, hp0, hq0], fun w => ?_⟩
   obtain ⟨w0, hw0, hb0, hz0, q0, q1, q2, q3, q4⟩ := hbox w
   have HB0 := hid hb0
   have HW0 := hid hw0
   have zp1 : p.toList.isEmpty = false := by rw [List.isEmpty_eq_false_iff]; exact hp0
   have zq1 : q.toList.isEmpty = false := by rw [List.isEmpty_eq_false_iff]; exact hq0
   have s1 : ¬ 9223372036854775807 < nb.size + 1 := by omega
   have s2 : ¬ 9223372036854775807 < nb.size + 1 + p.size := by omega
   have s3 : ¬ 9223372036854775807 < nb.size + 1 + p.size + 1 := by omega
   have s4 : ¬ 9223372036854775807 < nb.size + 1 + p.size + 1 + q.size := by omega
   have s5 : ¬ 9223372036854775807 < nb.size + 1 + q.size := by omega
   clear hbox hw0 hb0 hp0 hq0
   go_enter Tryz.func24, Tryz.ntmps24
   go_wp2_with (first
    | (go_at_call 54; rw [← HW0.out]; refine (qb6 a b c p q w0 hB).mono ?_; rintro e w1 ⟨rfl, hb1⟩; rw [HM.out]; have HB1 := hid (qa1 HB0.out hb1); have c0 := cell_below hb1 hz0 q0; have c1 := cell_below hb1 hz0 q1; have c2 := cell_below hb1 hz0 q2; have c3 := cell_below hb1 hz0 q3; have c4 := cell_below hb1 hz0 q4; have hz1 := Nat.lt_of_lt_of_le hz0 hb1.size; clear hb1)
    | (go_at_call 55; refine (HNUM.out _).mono ?_; rintro e w2 ⟨rfl, hb2⟩; have HB2 := hid (qa1 HB1.out hb2); have d3 := cell_below hb2 hz1 c3; have d4 := cell_below hb2 hz1 c4; clear hb2))
   go_ret
   exact ⟨rfl, HB2.out⟩
theorem zo8 (v : Ver) (hB : v.B) (w : World) : Calls Tryz.prog 24 #[.agg #[.int .i64 v.major, .int .i64 v.minor, .int .i64 v.patch, .string v.pre, .string v.build]] w fun e w' => e = .returned (.string (qg5 v)) ∧ Below w.heap.size w w' := by
 obtain ⟨P, rfl, h⟩ := print2_any v hB
 exact h w
end Go.Proofs.YtbfbppjccbppiaaGreatDoor
