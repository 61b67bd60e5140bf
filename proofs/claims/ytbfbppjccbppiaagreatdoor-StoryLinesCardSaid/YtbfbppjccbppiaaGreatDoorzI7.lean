import Derived.Test.YtbfbppjccbppiaaGreatDoorzI5
import Derived.Test.YtbfbppjccbppiaaGreatDoorzA
import Derived.BigQuiet
import Derived.Outline
import Derived.Test.YtbfbppjccbppiaaGreatDoorzM
import Derived.Deep.RegionHeld3
namespace Go.Proofs.YtbfbppjccbppiaaGreatDoor
open Go Go.RowKit
section
def rowV (r : Row) (tv : Value) : Value := .agg #[.int .i64 r.kind, .int .i64 r.unit, .int .i64 r.a, .int .i64 r.b, tv]
theorem zr2 (n : Nat) (w : World) (h : n ≤ 9999999) (hG : Glob w) : Calls Tryz.prog 73 #[.int .i64 n] w fun e w' => e = .returned (.string (decB n)) ∧ Below w.heap.size w w' := by
 refine (Tryz.strconv_Itoa (n : Int) (by omega) (by omega) w (hG.2.2.1.here)).mono ?_
 rintro e w' ⟨rfl, k, os, rfl⟩
 refine ⟨?_, ?_⟩
 ·have e : Lib.itoa (n : Int) = Lib.decDigits n := by unfold Lib.itoa; rw [if_neg (by omega)]; rfl
  rw [e]
  rfl
 ·refine ⟨rfl, rfl, rfl, ?_, fun j hj => ?_⟩
  ·show w.heap.size ≤ (w.heap ++ os).size
   rw [Array.size_append]
   omega
  ·show (w.heap ++ os)[j]? = w.heap[j]?
   rw [Array.getElem?_append_left hj]
section
variable {us : List UnitW}
set_option maxRecDepth 100000 in
set_option maxHeartbeats 2000000 in
theorem psays_any (v tv : Value) (r : Row) (w : World) (h : qd0 w (Lt w.heap.size) v us) (ho : StW us) (hr : RowS us r) (ht : SliceRd qg1 w (Lt w.heap.size) tv r.terms) (hG : Glob w) :
  Calls Tryz.prog 108 #[v, rowV r tv] w fun e w' => e = .returned (.string (qo3 us r)) ∧ Below w.heap.size w w' := by
 obtain ⟨kd, un, ra, rb, ts⟩ := r
 obtain ⟨hk, hu, hm, ha, hb⟩ := hr
 dsimp only at hk hu hm ha hb ht
 obtain ⟨u, rfl⟩ := Int.eq_ofNat_of_zero_le hu.1
 have hul : u < us.length := by omega
 obtain ⟨hmk, hmk31⟩ := zi2 hm ho hul
 have HSB : Hid (qo3 us ⟨kd, (u : Int), ra, rb, ts⟩ = qe7 us u ++ ⟨#[32]⟩ ++ qf1 us u (qg3 (nsOf us) ts u)) := hid rfl
 have hn := ql4 ho u
 have hv := qo7 ho u _ hmk31
 obtain ⟨g, cap0, hvv, hg, -⟩ := h.opened
 obtain ⟨At, ct, htv, -⟩ := ht.shape
 obtain ⟨w0, hw0⟩ : ∃ w0 : World, w0 = (w.alloc (.cells #[.slice (some ⟨g, 0, none⟩) us.length cap0] 85)).alloc (.cells #[.int .i64 kd, .int .i64 u, .int .i64 ra, .int .i64 rb, tv] 49) := ⟨_, rfl⟩
 have hb0 : Below w.heap.size w w0 := hw0 ▸ qa0 (qa0 (b0 w) _) _
 have hz0 : w.heap.size + 1 < w0.heap.size := by rw [hw0]; simp
 have c0 : w0.cell? ⟨w.heap.size, 0, none⟩ = some (.slice (some ⟨g, 0, none⟩) us.length cap0) := by rw [hw0]; exact qf0 rfl
 have c1 : w0.cell? ⟨w.heap.size + 1, 1, none⟩ = some (.int .i64 u) := by rw [hw0]; exact qa7 rfl
 have c4 : w0.cell? ⟨w.heap.size + 1, 4, none⟩ = some tv := by rw [hw0]; exact qa7 rfl
 have l0 := qa2 (show w.heap.size < w0.heap.size by omega) c0
 have l1 := qa2 hz0 c1
 have l4 := qa2 hz0 c4
 have HNM := hid (fun e : Later w0 => qu2 v us u e.w (h.lift (qa1 hb0 e.below) (qa1 hb0 e.below).size) ho hul)
 have HMK := hid (fun e : Later w0 => mask_any v tv (nsOf us) ts u e.w (h.lift (qa1 hb0 e.below) (qa1 hb0 e.below).size).uni ho.ns (ht.lift (qa1 hb0 e.below) (qa1 hb0 e.below).size))
 have HVL := hid (fun e : Later w0 => zj4 v us u (qg3 (nsOf us) ts u) e.w (h.lift (qa1 hb0 e.below) (qa1 hb0 e.below).size) ho hul hmk31 (hG.later (qa1 hb0 e.below)))
 rw [hmk] at HMK
 have HVM : Hid (qj3 (qh2 us u) (qg3 (nsOf us) ts u &&& qb8 (nsOf us) u) = qf1 us u (qg3 (nsOf us) ts u)) := hid rfl
 rw [HVM.out] at HVL
 generalize qf1 us u (qg3 (nsOf us) ts u) = vs at *
 generalize qg3 (nsOf us) ts u = mk at *
 generalize qe7 us u = nm at *
 have s1 : ¬ 9223372036854775807 < nm.size + 1 := by omega
 have s2 : ¬ 9223372036854775807 < nm.size + 1 + vs.size := by omega
 subst hvv
 subst htv
 have HB0 := hid hb0
 have HW0 := hid hw0
 clear h ht hk hu hm ha hb hG hmk hb0 hw0 c0 c1 c4
 unfold rowV
 go_enter Tryz.func108, Tryz.ntmps108
 go_upto_region 1 with fail
 rw [← HW0.out]
 (refine qa3 (by kernel_rfl) (by kernel_rfl) ?_; (repeat (go_big_quiet_step ((first | (go_at_call 39; exact Calls.later (HNM.out _) rfl) | (go_at_call 137; exact Calls.later (HMK.out _) rfl) | (go_at_call 23; exact Calls.later (HVL.out _) rfl))))); refine wpQuiet_nil ?_; rintro _ ⟨e9, rfl⟩)
 go_wp2_with fail
 go_ret
 exact ⟨congrArg (fun x => Ending.returned (Value.string x)) HSB.out.symm, qa1 HB0.out e9.below⟩
set_option maxRecDepth 100000 in
set_option maxHeartbeats 2000000 in
theorem proot_any (v tv : Value) (r : Row) (w : World) (h : qd0 w (Lt w.heap.size) v us) (ho : StW us) (hr : RowS us r) (hk : r.kind = 1) (ht : SliceRd qg1 w (Lt w.heap.size) tv r.terms) (hG : Glob w) :
  Calls Tryz.prog 68 #[v, rowV r tv] w fun e w' => e = .returned (.string (qe5 us r)) ∧ Below w.heap.size w w' := by
 have HH : Hid (qe5 us r = ⟨#[84, 104, 101, 32, 112, 114, 111, 106, 101, 99, 116, 32, 105, 115, 32, 119, 97, 110, 116, 101, 100]⟩) := hid (by unfold qe5; rw [if_pos hk])
 obtain ⟨kd, un, ra, rb, ts⟩ := r
 have _ := ho
 have _ := hr
 have _ := hG
 obtain ⟨g, cap0, rfl, hg, -⟩ := h.opened
 obtain ⟨At, ct, rfl, -⟩ := ht.shape
 clear h ht hr ho hG hk
 unfold rowV
 go_enter Tryz.func68, Tryz.ntmps68
 go_wp2_with fail
 go_ret
 exact ⟨congrArg (fun x => Ending.returned (Value.string x)) HH.out.symm, qa0 (qa0 (b0 w) _) _⟩
set_option maxRecDepth 100000 in
set_option maxHeartbeats 2000000 in
theorem pneed_any (v tv : Value) (r : Row) (w : World) (h : qd0 w (Lt w.heap.size) v us) (ho : StW us) (hr : RowS us r) (hk : r.kind = 2) (ht : SliceRd qg1 w (Lt w.heap.size) tv r.terms) (hG : Glob w) :
  Calls Tryz.prog 69 #[v, rowV r tv] w fun e w' => e = .returned (.string (qe5 us r)) ∧ Below w.heap.size w w' := by
 have HH : Hid (qe5 us r = qo3 us r ++ ⟨#[32, 110, 101, 101, 100, 115]⟩) := hid (by unfold qe5; rw [if_neg (by omega), if_pos hk])
 have hsz := zd4 ho hr
 obtain ⟨kd, un, ra, rb, ts⟩ := r
 obtain ⟨u, rfl⟩ := Int.eq_ofNat_of_zero_le hr.unit.1
 dsimp only at hk ht
 have HSY := hid (fun (W : World) (hb : Below w.heap.size w W) => psays_any v tv ⟨kd, (u : Int), ra, rb, ts⟩ W (h.lift hb hb.size) ho hr (ht.lift hb hb.size) (hG.later hb))
 unfold rowV at HSY ⊢
 dsimp only at HSY ⊢
 obtain ⟨g, cap0, rfl, hg, -⟩ := h.opened
 obtain ⟨At, ct, rfl, -⟩ := ht.shape
 obtain ⟨w0, hw0⟩ : ∃ w0 : World, w0 = (w.alloc (.cells #[.slice (some ⟨g, 0, none⟩) us.length cap0] 85)).alloc (.cells #[.int .i64 kd, .int .i64 u, .int .i64 ra, .int .i64 rb, .slice At ts.length ct] 49) := ⟨_, rfl⟩
 have hb0 : Below w.heap.size w w0 := hw0 ▸ qa0 (qa0 (b0 w) _) _
 have hz0 : w.heap.size + 1 < w0.heap.size := by rw [hw0]; simp
 have c0 : w0.cell? ⟨w.heap.size, 0, none⟩ = some (.slice (some ⟨g, 0, none⟩) us.length cap0) := by rw [hw0]; exact qf0 rfl
 have d0 : w0.cell? ⟨w.heap.size + 1, 0, none⟩ = some (.int .i64 kd) := by rw [hw0]; exact qa7 rfl
 have d1 : w0.cell? ⟨w.heap.size + 1, 1, none⟩ = some (.int .i64 u) := by rw [hw0]; exact qa7 rfl
 have d2 : w0.cell? ⟨w.heap.size + 1, 2, none⟩ = some (.int .i64 ra) := by rw [hw0]; exact qa7 rfl
 have d3 : w0.cell? ⟨w.heap.size + 1, 3, none⟩ = some (.int .i64 rb) := by rw [hw0]; exact qa7 rfl
 have d4 : w0.cell? ⟨w.heap.size + 1, 4, none⟩ = some (.slice At ts.length ct) := by rw [hw0]; exact qa7 rfl
 have HB0 := hid hb0
 have HW0 := hid hw0
 have HS0 := hid (HSY.out w0 hb0)
 generalize qo3 us ⟨kd, (u : Int), ra, rb, ts⟩ = sy at *
 have s1 : ¬ 9223372036854775807 < sy.size + 6 := by omega
 clear h ht hr ho hG hk hw0 hb0 HSY hsz
 go_enter Tryz.func69, Tryz.ntmps69
 go_upto_region 1 with fail
 rw [← HW0.out]
 go_wp2_with (go_at_call 108; refine HS0.out.mono ?_; rintro e w1 ⟨rfl, hb1⟩; have HB1 := hid hb1; clear hb1)
 go_ret
 exact ⟨congrArg (fun x => Ending.returned (Value.string x)) HH.out.symm, qa1 HB0.out HB1.out⟩
set_option maxRecDepth 100000 in
set_option maxHeartbeats 2000000 in
theorem pbar_any (v tv : Value) (r : Row) (w : World) (h : qd0 w (Lt w.heap.size) v us) (ho : StW us) (hr : RowS us r) (hk : r.kind = 3) (ht : SliceRd qg1 w (Lt w.heap.size) tv r.terms) (hG : Glob w) :
  Calls Tryz.prog 70 #[v, rowV r tv] w fun e w' => e = .returned (.string (qe5 us r)) ∧ Below w.heap.size w w' := by
 have HH : Hid (qe5 us r = qo3 us r ++ ⟨#[32, 98, 97, 114, 115]⟩) := hid (by unfold qe5; rw [if_neg (by omega), if_neg (by omega), if_pos hk])
 have hsz := zd4 ho hr
 obtain ⟨kd, un, ra, rb, ts⟩ := r
 obtain ⟨u, rfl⟩ := Int.eq_ofNat_of_zero_le hr.unit.1
 dsimp only at hk ht
 have HSY := hid (fun (W : World) (hb : Below w.heap.size w W) => psays_any v tv ⟨kd, (u : Int), ra, rb, ts⟩ W (h.lift hb hb.size) ho hr (ht.lift hb hb.size) (hG.later hb))
 unfold rowV at HSY ⊢
 dsimp only at HSY ⊢
 obtain ⟨g, cap0, rfl, hg, -⟩ := h.opened
 obtain ⟨At, ct, rfl, -⟩ := ht.shape
 obtain ⟨w0, hw0⟩ : ∃ w0 : World, w0 = (w.alloc (.cells #[.slice (some ⟨g, 0, none⟩) us.length cap0] 85)).alloc (.cells #[.int .i64 kd, .int .i64 u, .int .i64 ra, .int .i64 rb, .slice At ts.length ct] 49) := ⟨_, rfl⟩
 have hb0 : Below w.heap.size w w0 := hw0 ▸ qa0 (qa0 (b0 w) _) _
 have hz0 : w.heap.size + 1 < w0.heap.size := by rw [hw0]; simp
 have c0 : w0.cell? ⟨w.heap.size, 0, none⟩ = some (.slice (some ⟨g, 0, none⟩) us.length cap0) := by rw [hw0]; exact qf0 rfl
 have d0 : w0.cell? ⟨w.heap.size + 1, 0, none⟩ = some (.int .i64 kd) := by rw [hw0]; exact qa7 rfl
 have d1 : w0.cell? ⟨w.heap.size + 1, 1, none⟩ = some (.int .i64 u) := by rw [hw0]; exact qa7 rfl
 have d2 : w0.cell? ⟨w.heap.size + 1, 2, none⟩ = some (.int .i64 ra) := by rw [hw0]; exact qa7 rfl
 have d3 : w0.cell? ⟨w.heap.size + 1, 3, none⟩ = some (.int .i64 rb) := by rw [hw0]; exact qa7 rfl
 have d4 : w0.cell? ⟨w.heap.size + 1, 4, none⟩ = some (.slice At ts.length ct) := by rw [hw0]; exact qa7 rfl
 have HB0 := hid hb0
 have HW0 := hid hw0
 have HS0 := hid (HSY.out w0 hb0)
 generalize qo3 us ⟨kd, (u : Int), ra, rb, ts⟩ = sy at *
 have s1 : ¬ 9223372036854775807 < sy.size + 5 := by omega
 clear h ht hr ho hG hk hw0 hb0 HSY hsz
 go_enter Tryz.func70, Tryz.ntmps70
 go_upto_region 1 with fail
 rw [← HW0.out]
 go_wp2_with (go_at_call 108; refine HS0.out.mono ?_; rintro e w1 ⟨rfl, hb1⟩; have HB1 := hid hb1; clear hb1)
 go_ret
 exact ⟨congrArg (fun x => Ending.returned (Value.string x)) HH.out.symm, qa1 HB0.out HB1.out⟩
set_option maxRecDepth 100000 in
set_option maxHeartbeats 2000000 in
theorem pask_any (v tv : Value) (r : Row) (w : World) (h : qd0 w (Lt w.heap.size) v us) (ho : StW us) (hr : RowS us r) (hk : r.kind = 4) (ht : SliceRd qg1 w (Lt w.heap.size) tv r.terms) (hG : Glob w) :
  Calls Tryz.prog 71 #[v, rowV r tv] w fun e w' => e = .returned (.string (qe5 us r)) ∧ Below w.heap.size w w' := by
 have HH : Hid (qe5 us r = ⟨#[73, 116, 32, 119, 97, 115, 32, 97, 115, 107, 101, 100, 32, 111, 102, 32]⟩ ++ qe7 us r.unit.toNat) := hid (by unfold qe5; rw [if_neg (by omega), if_neg (by omega), if_neg (by omega), if_pos hk])
 have hsz := ql4 ho r.unit.toNat
 have hul : r.unit.toNat < us.length := by have := hr.unit; omega
 obtain ⟨kd, un, ra, rb, ts⟩ := r
 obtain ⟨u, rfl⟩ := Int.eq_ofNat_of_zero_le hr.unit.1
 dsimp only at hk ht hsz hul HH
 rw [Int.toNat_natCast] at hsz hul HH
 have HNM := hid (fun (W : World) (hb : Below w.heap.size w W) => qu2 v us u W (h.lift hb hb.size) ho hul)
 have _ := hG
 unfold rowV
 dsimp only
 obtain ⟨g, cap0, rfl, hg, -⟩ := h.opened
 obtain ⟨At, ct, rfl, -⟩ := ht.shape
 obtain ⟨w0, hw0⟩ : ∃ w0 : World, w0 = (w.alloc (.cells #[.slice (some ⟨g, 0, none⟩) us.length cap0] 85)).alloc (.cells #[.int .i64 kd, .int .i64 u, .int .i64 ra, .int .i64 rb, .slice At ts.length ct] 49) := ⟨_, rfl⟩
 have hb0 : Below w.heap.size w w0 := hw0 ▸ qa0 (qa0 (b0 w) _) _
 have hz0 : w.heap.size + 1 < w0.heap.size := by rw [hw0]; simp
 have c0 : w0.cell? ⟨w.heap.size, 0, none⟩ = some (.slice (some ⟨g, 0, none⟩) us.length cap0) := by rw [hw0]; exact qf0 rfl
 have d0 : w0.cell? ⟨w.heap.size + 1, 0, none⟩ = some (.int .i64 kd) := by rw [hw0]; exact qa7 rfl
 have d1 : w0.cell? ⟨w.heap.size + 1, 1, none⟩ = some (.int .i64 u) := by rw [hw0]; exact qa7 rfl
 have d2 : w0.cell? ⟨w.heap.size + 1, 2, none⟩ = some (.int .i64 ra) := by rw [hw0]; exact qa7 rfl
 have d3 : w0.cell? ⟨w.heap.size + 1, 3, none⟩ = some (.int .i64 rb) := by rw [hw0]; exact qa7 rfl
 have d4 : w0.cell? ⟨w.heap.size + 1, 4, none⟩ = some (.slice At ts.length ct) := by rw [hw0]; exact qa7 rfl
 have HB0 := hid hb0
 have HW0 := hid hw0
 have HN0 := hid (HNM.out w0 hb0)
 generalize qe7 us u = nm at *
 have s1 : ¬ 9223372036854775807 < 16 + nm.size := by omega
 clear h ht hr ho hG hk hw0 hb0 HNM hsz hul
 go_enter Tryz.func71, Tryz.ntmps71
 go_upto_region 1 with fail
 rw [← HW0.out]
 go_wp2_with (go_at_call 39; refine HN0.out.mono ?_; rintro e w1 ⟨rfl, hb1⟩; have HB1 := hid hb1; clear hb1)
 go_ret
 exact ⟨congrArg (fun x => Ending.returned (Value.string x)) HH.out.symm, qa1 HB0.out HB1.out⟩
set_option maxRecDepth 100000 in
set_option maxHeartbeats 2000000 in
theorem pboth_any (v tv : Value) (r : Row) (w : World) (h : qd0 w (Lt w.heap.size) v us) (ho : StW us) (hr : RowS us r) (hk : r.kind = 5) (ht : SliceRd qg1 w (Lt w.heap.size) tv r.terms) (hG : Glob w) :
  Calls Tryz.prog 72 #[v, rowV r tv] w fun e w' => e = .returned (.string (qe5 us r)) ∧ Below w.heap.size w w' := by
 have HH : Hid (qe5 us r = ⟨#[66, 121, 32]⟩ ++ decB (r.a.toNat + 1) ++ ⟨#[32, 97, 110, 100, 32]⟩ ++ decB (r.b.toNat + 1) ++ ⟨#[44, 32, 97, 115, 32, 116, 111, 32]⟩ ++ qe7 us r.unit.toNat) := hid (by unfold qe5; rw [if_neg (by omega), if_neg (by omega), if_neg (by omega), if_neg (by omega)])
 have hsz := ql4 ho r.unit.toNat
 have hul : r.unit.toNat < us.length := by have := hr.unit; omega
 have ha := hr.a
 have hb := hr.b
 have hsa := qj4 (n := r.a.toNat + 1) (by omega)
 have hsb := qj4 (n := r.b.toNat + 1) (by omega)
 obtain ⟨kd, un, ra, rb, ts⟩ := r
 obtain ⟨u, rfl⟩ := Int.eq_ofNat_of_zero_le hr.unit.1
 obtain ⟨a, rfl⟩ := Int.eq_ofNat_of_zero_le ha.1
 obtain ⟨b, rfl⟩ := Int.eq_ofNat_of_zero_le hb.1
 dsimp only at hk ht hsz hul hsa hsb ha hb HH
 simp only [Int.toNat_natCast] at hsz hul hsa hsb HH
 have HNM := hid (fun (W : World) (hb : Below w.heap.size w W) => qu2 v us u W (h.lift hb hb.size) ho hul)
 have hit : ∀ (n : Nat) (W : World), Below w.heap.size w W → n ≤ 100000 → Calls Tryz.prog 73 #[.int .i64 ((n : Int) + 1)] W fun e w' => e = .returned (.string (decB (n + 1))) ∧ Below W.heap.size W w' := fun n W hb hn => by
  have h1 := zr2 (n + 1) W (by omega) (hG.later hb)
  rw [show ((n + 1 : Nat) : Int) = (n : Int) + 1 by omega] at h1
  exact h1
 unfold rowV
 dsimp only
 obtain ⟨g, cap0, rfl, hg, -⟩ := h.opened
 obtain ⟨At, ct, rfl, -⟩ := ht.shape
 obtain ⟨w0, hw0⟩ : ∃ w0 : World, w0 = (w.alloc (.cells #[.slice (some ⟨g, 0, none⟩) us.length cap0] 85)).alloc (.cells #[.int .i64 kd, .int .i64 u, .int .i64 a, .int .i64 b, .slice At ts.length ct] 49) := ⟨_, rfl⟩
 have hb0 : Below w.heap.size w w0 := hw0 ▸ qa0 (qa0 (b0 w) _) _
 have hz0 : w.heap.size + 1 < w0.heap.size := by rw [hw0]; simp
 have c0 : w0.cell? ⟨w.heap.size, 0, none⟩ = some (.slice (some ⟨g, 0, none⟩) us.length cap0) := by rw [hw0]; exact qf0 rfl
 have d0 : w0.cell? ⟨w.heap.size + 1, 0, none⟩ = some (.int .i64 kd) := by rw [hw0]; exact qa7 rfl
 have d1 : w0.cell? ⟨w.heap.size + 1, 1, none⟩ = some (.int .i64 u) := by rw [hw0]; exact qa7 rfl
 have d2 : w0.cell? ⟨w.heap.size + 1, 2, none⟩ = some (.int .i64 a) := by rw [hw0]; exact qa7 rfl
 have d3 : w0.cell? ⟨w.heap.size + 1, 3, none⟩ = some (.int .i64 b) := by rw [hw0]; exact qa7 rfl
 have d4 : w0.cell? ⟨w.heap.size + 1, 4, none⟩ = some (.slice At ts.length ct) := by rw [hw0]; exact qa7 rfl
 have HB0 := hid hb0
 have HW0 := hid hw0
 have HN0 := hid (fun e : Later w0 => HNM.out e.w (qa1 hb0 e.below))
 have HA := hid (fun e : Later w0 => hit a e.w (qa1 hb0 e.below) (by omega))
 have HBB := hid (fun e : Later w0 => hit b e.w (qa1 hb0 e.below) (by omega))
 have l0 := qa2 (show w.heap.size < w0.heap.size by omega) c0
 have l1 := qa2 hz0 d1
 have l2 := qa2 hz0 d2
 have l3 := qa2 hz0 d3
 generalize qe7 us u = nm at *
 generalize decB (a + 1) = da at *
 generalize decB (b + 1) = db at *
 have s1 : ¬ 9223372036854775807 < 3 + da.size := by omega
 have s2 : ¬ 9223372036854775807 < 3 + da.size + 5 := by omega
 have s3 : ¬ 9223372036854775807 < 3 + da.size + 5 + db.size := by omega
 have s4 : ¬ 9223372036854775807 < 3 + da.size + 5 + db.size + 8 := by omega
 have s5 : ¬ 9223372036854775807 < 3 + da.size + 5 + db.size + 8 + nm.size := by omega
 have w1 : IntKind.i64.wrap ((a : Int) + 1) = (a : Int) + 1 := IntWalk.i64_in _ (by omega)
 have w2 : IntKind.i64.wrap ((b : Int) + 1) = (b : Int) + 1 := IntWalk.i64_in _ (by omega)
 clear h ht hr ho hG hk hw0 hb0 HNM hsz hul hit hsa hsb ha hb c0 d0 d1 d2 d3 d4
 go_enter Tryz.func72, Tryz.ntmps72
 go_upto_region 1 with fail
 rw [← HW0.out]
 (refine qa3 (by kernel_rfl) (by kernel_rfl) ?_; (repeat (go_big_quiet_step ((first | (go_at_call_of 73 a; exact Calls.later (HA.out _) rfl) | (go_at_call 73; exact Calls.later (HBB.out _) rfl) | (go_at_call 39; exact Calls.later (HN0.out _) rfl))))); refine wpQuiet_nil ?_; rintro _ ⟨e9, rfl⟩)
 go_wp2_with fail
 go_ret
 exact ⟨congrArg (fun x => Ending.returned (Value.string x)) HH.out.symm, qa1 HB0.out e9.below⟩
end
end
section
def fnV (n : Nat) : Value := .func (.func n) #[] #[]
def headA1 : Array MapEntry := #[⟨.int .i64 1, fnV 68, 0⟩]
def headA2 : Array MapEntry := headA1.push ⟨.int .i64 2, fnV 69, 1⟩
def headA3 : Array MapEntry := headA2.push ⟨.int .i64 3, fnV 70, 2⟩
def headA4 : Array MapEntry := headA3.push ⟨.int .i64 4, fnV 71, 3⟩
def headA5 : Array MapEntry := headA4.push ⟨.int .i64 5, fnV 72, 4⟩
theorem zn1 {w2 w3 : World} {row : Option Nat} {o : Obj} {g off : Nat} {x : Value} (hg : (w2.alloc o).grownBy w3 row) (hne : row ≠ some g) (hl : g < w2.heap.size) (hc : w2.cell? ⟨g, off, none⟩ = some x) : w3.cell? ⟨g, off, none⟩ = some x := by
 rw [World.cell?_of_block (hg.block g (by simp; omega) (Ne.symm hne))]
 exact cell_below (qa0 (b0 w2) o) hl hc
section
variable {us : List UnitW}
theorem heads_any {kd : Int} (hk : 1 ≤ kd ∧ kd ≤ 5) : ∃ fi i : Nat, Instr.findNow (.int .i64) (.int .i64 kd) headA5.toList 0 = some (some (i, fnV fi)) ∧ (∀ args w, (callFunc fi args).run Tryz.prog w = .ok (.enter fi args) w) ∧
  ∀ (v tv : Value) (r : Row) (w : World) (_ : r.kind = kd) (_ : qd0 w (Lt w.heap.size) v us) (_ : StW us) (_ : RowS us r) (_ : SliceRd qg1 w (Lt w.heap.size) tv r.terms) (_ : Glob w),
   Calls Tryz.prog fi #[v, rowV r tv] w fun e w' => e = .returned (.string (qe5 us r)) ∧ Below w.heap.size w w' := by
 have h5 : kd = 1 ∨ kd = 2 ∨ kd = 3 ∨ kd = 4 ∨ kd = 5 := by omega
 rcases h5 with rfl | rfl | rfl | rfl | rfl
 ·exact ⟨68, 0, by rfl, enters_of Tryz.func68 (by kernel_rfl) rfl, fun v tv r w hk h ho hr ht hG => proot_any v tv r w h ho hr hk ht hG⟩
 ·exact ⟨69, 1, by rfl, enters_of Tryz.func69 (by kernel_rfl) rfl, fun v tv r w hk h ho hr ht hG => pneed_any v tv r w h ho hr hk ht hG⟩
 ·exact ⟨70, 2, by rfl, enters_of Tryz.func70 (by kernel_rfl) rfl, fun v tv r w hk h ho hr ht hG => pbar_any v tv r w h ho hr hk ht hG⟩
 ·exact ⟨71, 3, by rfl, enters_of Tryz.func71 (by kernel_rfl) rfl, fun v tv r w hk h ho hr ht hG => pask_any v tv r w h ho hr hk ht hG⟩
 ·exact ⟨72, 4, by rfl, enters_of Tryz.func72 (by kernel_rfl) rfl, fun v tv r w hk h ho hr ht hG => pboth_any v tv r w h ho hr hk ht hG⟩
set_option maxRecDepth 100000 in
set_option maxHeartbeats 4000000 in
theorem pline_any (v tv : Value) (r : Row) (n : Nat) (w : World) (h : qd0 w (Lt w.heap.size) v us) (ho : StW us) (hr : RowS us r) (ht : SliceRd qg1 w (Lt w.heap.size) tv r.terms) (hn : n ≤ 9999999) (hG : Glob w) :
  Calls Tryz.prog 35 #[v, rowV r tv, .int .i64 n] w fun e w' => e = .returned (.string (qi4 us r n)) ∧ Below w.heap.size w w' := by
 have hmm := @run_makeMap Tryz.prog
 obtain ⟨fi, fx, hfind, efi, hcall⟩ := heads_any (us := us) hr.kind
 have HCL := hid (fun (W : World) (hb : Below w.heap.size w W) => hcall v tv r W rfl (h.lift hb hb.size) ho hr (ht.lift hb hb.size) (hG.later hb))
 have HNM := hid (fun (t : Term) (ht : t ∈ r.terms) (W : World) (hb : Below w.heap.size w W) => show Calls Tryz.prog 39 #[v, .int .i64 t.unit] W fun e w' => e = .returned (.string (qe7 us t.unit.toNat)) ∧ Below W.heap.size W w' from by
  obtain ⟨u, m, h1, rfl, h2, h3⟩ := zb0 hr.may ho ht
  exact qu2 v us u W (h.lift hb hb.size) ho h1)
 have HVL := hid (fun (t : Term) (ht : t ∈ r.terms) (W : World) (hb : Below w.heap.size w W) => show Calls Tryz.prog 23 #[v, .int .i64 t.unit, .int .i64 t.mask] W fun e w' => e = .returned (.string (qf1 us t.unit.toNat t.mask.toNat)) ∧ Below W.heap.size W w' from by
  obtain ⟨u, m, h1, rfl, h2, h3⟩ := zb0 hr.may ho ht
  exact zj4 v us u m W (h.lift hb hb.size) ho h1 h3 (hG.later hb))
 have HTS := hid (fun (t : Term) (ht : t ∈ r.terms) => qq4 ho hr.may ht)
 have HIT := hid (fun (W : World) (hb : Below w.heap.size w W) => zr2 n W hn (hG.later hb))
 have HLB : Hid (qi4 us r n = decB n ++ ⟨#[46, 32]⟩ ++ qe5 us r ++ (if r.terms.isEmpty = true then ⟨#[58, 32, 115, 111, 32, 116, 104, 101, 114, 101, 32, 105, 115, 32, 110, 111, 110, 101, 46]⟩ else ⟨#[58, 32, 110, 101, 118, 101, 114, 32]⟩ ++ qf7 (r.terms.map (qg8 us)) [59, 32] ++ ⟨#[46]⟩)) := hid rfl
 have hds := qj4 hn
 have hhs := zc1 ho hr
 have hl11 := zl0 hr.may ho
 have HJS : Hid ((qf7 (r.terms.map (qg8 us)) [59, 32]).size ≤ 11 * 422) := hid (by
  have h4 := qn0 (r.terms.map (qg8 us)) 420 (fun x hx => by
   obtain ⟨t, ht, rfl⟩ := List.mem_map.1 hx
   exact qq4 ho hr.may ht) [59, 32]
  rw [List.length_map] at h4
  exact Nat.le_trans h4 (Nat.mul_le_mul_right _ hl11))
 obtain ⟨kd, un, ra, rb, ts⟩ := r
 obtain ⟨u, rfl⟩ := Int.eq_ofNat_of_zero_le hr.unit.1
 unfold rowV at HCL ⊢
 dsimp only at HCL HNM HVL HTS HLB hl11 HJS hfind ⊢
 obtain ⟨g, cap0, rfl, hg, -⟩ := h.opened
 obtain ⟨At, ct, rfl, hct, hcm, htc⟩ := ht.terms
 have HTC := hid htc
 generalize qe5 us ⟨kd, (u : Int), ra, rb, ts⟩ = hd at *
 obtain ⟨w0, hw0⟩ : ∃ w0 : World, w0 = ((w.alloc (.cells #[.slice (some ⟨g, 0, none⟩) us.length cap0] 85)).alloc (.cells #[.int .i64 kd, .int .i64 u, .int .i64 ra, .int .i64 rb, .slice At ts.length ct] 49)) := ⟨_, rfl⟩
 have hzs : w0.heap.size = w.heap.size + 1 + 1 := by rw [hw0]; simp
 have ins : ∀ (es : Array MapEntry) (c : Nat) (k : Int) (x : Value), Instr.findNow (.int .i64) (.int .i64 k) es.toList 0 = some none →
   (Instr.mapUpdate 127 (.map (some (w.heap.size + 1 + 1))) (.int .i64 k) x).run Tryz.prog (((w.alloc (.cells #[.slice (some ⟨g, 0, none⟩) us.length cap0] 85)).alloc (.cells #[.int .i64 kd, .int .i64 u, .int .i64 ra, .int .i64 rb, .slice At ts.length ct] 49)).alloc (.map es c)) = .ok () (((w.alloc (.cells #[.slice (some ⟨g, 0, none⟩) us.length cap0] 85)).alloc (.cells #[.int .i64 kd, .int .i64 u, .int .i64 ra, .int .i64 rb, .slice At ts.length ct] 49)).alloc (.map (es.push ⟨.int .i64 k, x, c⟩) (c + 1))) := fun es c k x hf => by
  have := qw8 (P := Tryz.prog) (w := w0) Tryz.underlying127 Tryz.underlying3 es c (.int .i64 k) x (kInt.isKey k) hf
  rw [hzs, hw0] at this
  exact this
 have hi1 : _ = Result.ok () (((w.alloc (.cells #[.slice (some ⟨g, 0, none⟩) us.length cap0] 85)).alloc (.cells #[.int .i64 kd, .int .i64 u, .int .i64 ra, .int .i64 rb, .slice At ts.length ct] 49)).alloc (.map headA1 1)) := ins #[] 0 1 (fnV 68) (by rfl)
 have hi2 : _ = Result.ok () (((w.alloc (.cells #[.slice (some ⟨g, 0, none⟩) us.length cap0] 85)).alloc (.cells #[.int .i64 kd, .int .i64 u, .int .i64 ra, .int .i64 rb, .slice At ts.length ct] 49)).alloc (.map headA2 2)) := ins headA1 1 2 (fnV 69) (by rfl)
 have hi3 : _ = Result.ok () (((w.alloc (.cells #[.slice (some ⟨g, 0, none⟩) us.length cap0] 85)).alloc (.cells #[.int .i64 kd, .int .i64 u, .int .i64 ra, .int .i64 rb, .slice At ts.length ct] 49)).alloc (.map headA3 3)) := ins headA2 2 3 (fnV 70) (by rfl)
 have hi4 : _ = Result.ok () (((w.alloc (.cells #[.slice (some ⟨g, 0, none⟩) us.length cap0] 85)).alloc (.cells #[.int .i64 kd, .int .i64 u, .int .i64 ra, .int .i64 rb, .slice At ts.length ct] 49)).alloc (.map headA4 4)) := ins headA3 3 4 (fnV 71) (by rfl)
 have hi5 : _ = Result.ok () (((w.alloc (.cells #[.slice (some ⟨g, 0, none⟩) us.length cap0] 85)).alloc (.cells #[.int .i64 kd, .int .i64 u, .int .i64 ra, .int .i64 rb, .slice At ts.length ct] 49)).alloc (.map headA5 5)) := ins headA4 4 5 (fnV 72) (by rfl)
 clear ins
 unfold fnV at hi1 hi2 hi3 hi4 hi5
 obtain ⟨wm, hwm⟩ : ∃ wm : World, wm = ((w.alloc (.cells #[.slice (some ⟨g, 0, none⟩) us.length cap0] 85)).alloc (.cells #[.int .i64 kd, .int .i64 u, .int .i64 ra, .int .i64 rb, .slice At ts.length ct] 49)).alloc (.map headA5 5) := ⟨_, rfl⟩
 have hbm : Below w.heap.size w wm := hwm ▸ qa0 (qa0 (qa0 (b0 w) _) _) _
 have hzm : w.heap.size + 2 < wm.heap.size := by rw [hwm]; simp
 have c0 : wm.cell? ⟨w.heap.size, 0, none⟩ = some (.slice (some ⟨g, 0, none⟩) us.length cap0) := by rw [hwm, ← hw0]; exact cell_below (qa0 (b0 w0) _) (by omega) (by rw [hw0]; exact qf0 rfl)
 have hcs : ∀ (o : Nat) (x : Value), (#[Value.int .i64 kd, .int .i64 u, .int .i64 ra, .int .i64 rb, .slice At ts.length ct] : Array Value)[o]? = some x → wm.cell? ⟨w.heap.size + 1, o, none⟩ = some x := fun o x hx => by rw [hwm, ← hw0]; exact cell_below (qa0 (b0 w0) _) (by omega) (by rw [hw0]; exact qa7 hx)
 have hmb : wm.heap[w.heap.size + 1 + 1]? = some (.map headA5 5) := by rw [hwm, ← hw0, ← hzs]; exact heap_alloc_new w0 _
 have HLK := hid (fun e : Later wm => zm0 (P := Tryz.prog) (w := e.w) Tryz.underlying127 Tryz.underlying3 ((e.below.block _ (by omega)).trans hmb) (.int .i64 kd) (kInt.isKey kd) hfind)
 have l0 := qa2 (show w.heap.size < wm.heap.size by omega) c0
 have l1 := qa2 (show w.heap.size + 1 < wm.heap.size by omega) (hcs 0 _ rfl)
 have l2 := qa2 (show w.heap.size + 1 < wm.heap.size by omega) (hcs 1 _ rfl)
 have l3 := qa2 (show w.heap.size + 1 < wm.heap.size by omega) (hcs 2 _ rfl)
 have l4 := qa2 (show w.heap.size + 1 < wm.heap.size by omega) (hcs 3 _ rfl)
 have l5 := qa2 (show w.heap.size + 1 < wm.heap.size by omega) (hcs 4 _ rfl)
 have c5 := hcs 4 _ rfl
 have HCM := hid (fun e : Later wm => HCL.out e.w (qa1 hbm e.below))
 have HIM := hid (fun e : Later wm => HIT.out e.w (qa1 hbm e.below))
 generalize decB n = dn at *
 have s1 : ¬ 9223372036854775807 < dn.size + 2 := by omega
 have s2 : ¬ 9223372036854775807 < dn.size + 2 + hd.size := by omega
 have s3 : ¬ 9223372036854775807 < dn.size + 2 + hd.size + 19 := by omega
 have s4 : ¬ 9223372036854775807 < dn.size + 2 + hd.size + 8 := by omega
 have HLK2 := HLK.out
 have HBM := hid hbm
 have HWM := hid hwm
 clear hwm hbm hw0 hzs hcs hmb hfind hcall h ht htc hr hG HCL HIT HLK
 unfold fnV at HLK2
 go_enter Tryz.func35, Tryz.ntmps35
 go_upto_region 2 with fail
 rw [← HWM.out]
 (refine qa3 (by kernel_rfl) (by kernel_rfl) ?_; (repeat (go_big_quiet_step ((first | (go_at_call 73; exact Calls.later (HIM.out _) rfl) | (go_at_fn fi; exact Calls.later (HCM.out _) rfl))))); refine wpQuiet_nil ?_; rintro _ ⟨e9, rfl⟩)
 obtain ⟨we, hwe⟩ : ∃ we : World, we = e9.w := ⟨_, rfl⟩
 have hbe : Below wm.heap.size wm we := hwe ▸ e9.below
 rw [← hwe]
 have HBE := hid hbe
 have HBWE := hid (qa1 HBM.out hbe)
 have hze : w.heap.size + 2 < we.heap.size := Nat.lt_of_lt_of_le hzm hbe.size
 have x0 := cell_below hbe (by omega) c0
 have x5 := cell_below hbe (by omega) c5
 clear l0 l1 l2 l3 l4 l5 hi1 hi2 hi3 hi4 hi5 c0 c5 hwe hbe HLK2 HCM HIM
 cases hts : ts with
 | nil =>
  subst hts
  have HFIN : Hid (qi4 us ⟨kd, (u : Int), ra, rb, []⟩ n = dn ++ ⟨#[46, 32]⟩ ++ hd ++ ⟨#[58, 32, 115, 111, 32, 116, 104, 101, 114, 101, 32, 105, 115, 32, 110, 111, 110, 101, 46]⟩) := hid HLB.out
  go_wp2_with fail
  go_ret
  exact ⟨congrArg (fun x => Ending.returned (Value.string x)) HFIN.out.symm, HBWE.out⟩
 | cons t0 ts0 =>
  have hpos : 0 < ts.length := by rw [hts]; simp
  have HFIN : Hid (qi4 us ⟨kd, (u : Int), ra, rb, ts⟩ n = dn ++ ⟨#[46, 32]⟩ ++ hd ++ ⟨#[58, 32, 110, 101, 118, 101, 114, 32]⟩ ++ qf7 (ts.map (qg8 us)) [59, 32] ++ ⟨#[46]⟩) := hid (by
   rw [HLB.out, if_neg (by rw [hts]; simp)]
   simp only [ByteArray.append_assoc])
  rw [← hts]
  clear hts HLB
  obtain ⟨T, hT⟩ : ∃ T, ts.length = T := ⟨_, rfl⟩
  have HTL := hid hT
  rw [hT] at hl11 hpos x5 ⊢
  have hT0 : ((T : Int) == 0) = false := by rw [beq_eq_false_iff_ne]; omega
  have hT1 : (T == 0) = false := by rw [beq_eq_false_iff_ne]; omega
  have hT2 : ¬ T = 0 := by omega
  obtain ⟨is_, his⟩ := info_parts zf4
  have HIS := hid his
  clear hT his
  go_wp2_with fail
  go_loopw [9, 34] (fun lv kv wr => ∃ k : Nat, k ≤ T ∧ kv = .int .i64 k ∧ Hid (OwnF fStr 9 we.heap.size wr lv ((ts.take k).map (qg8 us))) ∧ Hid (Below we.heap.size we wr)) (fun _ kv _ => T - (intOf kv).toNat)
  case atStart => exact ⟨0, by omega, rfl, hid (OwnF.nil _ _ _ _), hid (b0 _)⟩
  case round =>
   obtain ⟨k, hk, rfl, how, hb⟩ := hrel
   have hlen : ((ts.take k).map (qg8 us)).length = k := by rw [List.length_map, List.length_take, HTL.out]; omega
   obtain ⟨Al, cl, rfl⟩ := how.out.form
   have hzr := hb.out.size
   have y0 := cell_below hb.out (by omega) x0
   have HLN := hid hlen
   rw [hlen]
   have HNE := hid (show (Value.slice Al k cl).ownBlock ≠ some wr.heap.size from fun e => by have := (how.out.1.lt _ (by rw [hlen]; exact e)).2; omega)
   clear hlen
   by_cases hlt : k < T
   ·have i0 : (0 : Int) ≤ ↑k := by omega
    have i1 : (↑k : Int) < ↑T := by omega
    have i2 : decide (k < T) = true := decide_eq_true hlt
    have hkl : k < ts.length := by rw [HTL.out]; exact hlt
    obtain ⟨ga, oa, hA, hFa, hca, hcb, -, -⟩ := HTC.out k hkl
    have HMEM := hid (List.getElem_mem hkl)
    have HSN : Hid ((ts.take (k + 1)).map (qg8 us) = (ts.take k).map (qg8 us) ++ [qg8 us ts[k]]) := hid (by rw [List.take_succ_eq_append_getElem hkl, List.map_append]; rfl)
    have HTB : Hid (qe7 us ts[k].unit.toNat ++ ⟨#[32]⟩ ++ qf1 us ts[k].unit.toNat ts[k].mask.toNat = qg8 us ts[k]) := hid rfl
    have hsz := HTS.out _ HMEM.out
    have HNMk := hid (fun W hb => HNM.out _ HMEM.out W hb)
    have HVLk := hid (fun W hb => HVL.out _ HMEM.out W hb)
    subst hA
    have hcx := cell_below (qa1 HBWE.out hb.out) hFa hca
    have hcy := cell_below (qa1 HBWE.out hb.out) hFa hcb
    have hga := Nat.lt_of_lt_of_le hFa (qa1 HBWE.out hb.out).size
    rw [← HTB.out] at hsz
    generalize ts[k] = t at *
    obtain ⟨tu, tm⟩ := t
    dsimp only at hcx hcy HTB hsz HNMk HVLk
    generalize qe7 us tu.toNat = nm at *
    generalize qf1 us tu.toNat tm.toNat = vm at *
    simp only [ByteArray.size_append] at hsz
    have hsz2 : nm.size + 1 + vm.size ≤ 420 := hsz
    have s5 : ¬ 9223372036854775807 < nm.size + 1 := by omega
    have s6 : ¬ 9223372036854775807 < nm.size + 1 + vm.size := by omega
    obtain ⟨wb, hwb⟩ : ∃ wb : World, wb = wr.alloc (.cells #[.int .i64 tu, .int .i64 tm] 66) := ⟨_, rfl⟩
    have hbb : Below wr.heap.size wr wb := hwb ▸ qa0 (b0 _) _
    have hzb : wr.heap.size < wb.heap.size := by rw [hwb]; simp
    have z0 := cell_below hbb (by omega) y0
    have z1 : wb.cell? ⟨wr.heap.size, 0, none⟩ = some (.int .i64 tu) := by rw [hwb]; exact (qa6 wr _ _ 0).trans rfl
    have z2 : wb.cell? ⟨wr.heap.size, 1, none⟩ = some (.int .i64 tm) := by rw [hwb]; exact (qa6 wr _ _ 1).trans rfl
    have HBB := hid (qa1 hb.out hbb)
    have HOB := hid (how.out.below hbb (Nat.le_refl _))
    have HWB := hid hwb
    have hzw : w.heap.size < wb.heap.size := by omega
    clear hwb hbb hca hcb hFa hsz
    go_upto_region 9 with fail
    rw [← HWB.out]
    go_region_held3 (fun w' => w'.cell? ⟨w.heap.size, 0, none⟩ = some (.slice (some ⟨g, 0, none⟩) us.length cap0) ∧ w'.cell? ⟨wr.heap.size, 0, none⟩ = some (.int .i64 tu) ∧ w'.cell? ⟨wr.heap.size, 1, none⟩ = some (.int .i64 tm)) (first | exact ⟨by assumption, by assumption, by assumption⟩ | go_keep) ((first
     | (refine qc9 (.tmp 38) (.tmp 53) 45 rfl ?_; go_must (refine qa9 _ rfl (.tmp 38) (.tmp 53) 45 rfl we.heap.size 9 is_ _ 1 16 Tryz.underlying45 HIS.out.1 HIS.out.2.1 HIS.out.2.2.1 HIS.out.2.2.2 rfl (by omega) (.slice Al k cl) k (fStr.all ((ts.take k).map (qg8 us))) (by rfl) (by exact HO2.out.alloc _) (some ⟨w2.heap.size, 0, none⟩) 1 1 [.string (nm ++ ⟨#[32]⟩ ++ vm)] (by rfl) (by exact qe1 _ _ rfl 1 _ rfl rfl) (by intro u hu; rw [List.mem_singleton.1 hu]; rfl) (by unfold maxLen; omega) (by omega) (by simp; omega) ?_); intro v3 w3 hown3 hg3 hat3; have hbl3 : Below we.heap.size w2 w3 := qp6 (by omega) HO2.out (Nat.le_refl _) _ hg3; have v0 := cell_below hbl3 (by omega) e0; have HOW3 := hid hown3; have HB3 := hid (HB2.out.trans hbl3); have v1 := zn1 hg3 HNE.out (by omega) e1; have v2 := zn1 hg3 HNE.out (by omega) e2; clear hown3 hg3 hat3)
     | (go_at_call 39; go_must (refine (HNMk.out _ (qa1 HBWE.out (HBB.out.trans ((((Below.refl _ _).drew)).mono (by omega))))).mono ?_); rintro e w1 ⟨rfl, hb1⟩; replace hb1 : Below wb.heap.size wb w1 := ((Below.refl _ _).drew).trans hb1; have d0 := cell_below hb1 hzw z0; have d1 := cell_below hb1 hzb z1; have d2 := cell_below hb1 hzb z2; have HB1 := hid hb1; have hz1 := hb1.size; clear hb1)
     | (go_at_call 23; go_must (refine (HVLk.out _ (qa1 HBWE.out (HBB.out.trans (HB1.out.mono (by omega))))).mono ?_); rintro e w2 ⟨rfl, hb2⟩; have e0 := cell_below hb2 (by omega) d0; have e1 := cell_below hb2 (by omega) d1; have e2 := cell_below hb2 (by omega) d2; have HB2 := hid (HBB.out.trans ((qa1 HB1.out hb2).mono (by omega))); have hz2 := hb2.size; have HO2 := hid (show w2.ownsRow we.heap.size 9 1 (.slice Al k cl) k (fStr.all ((ts.take k).map (qg8 us))) from by have h := (HOB.out.below (qa1 HB1.out hb2) (Nat.le_refl _)).1; rw [HLN.out] at h; exact h); clear hb2)))
    have hfit : fStr.ok (nm ++ ⟨#[32]⟩ ++ vm) := by
     show ByteArray.size _ ≤ maxLen
     simp only [ByteArray.size_append]
     show nm.size + 1 + vm.size ≤ maxLen
     unfold maxLen
     omega
    have HOF : Hid (OwnF fStr 9 we.heap.size w3 v3 ((ts.take (k + 1)).map (qg8 us))) := hid (by
     rw [HSN.out, ← HTB.out]
     exact how.out.snoc hfit (by rw [HLN.out]; exact HOW3.out))
    go_wp2_with fail
    exact ⟨⟨k + 1, by omega, by go_num, HOF, HB3⟩, by simp [intOf]; omega⟩
   ·have hkT : k = T := by omega
    have i2 : decide (k < T) = false := decide_eq_false hlt
    have i3 : ¬ ((k : Int) < ↑T) := by omega
    have hall : (ts.take k).map (qg8 us) = ts.map (qg8 us) := by rw [hkT, ← HTL.out, List.take_length]
    obtain ⟨g5, c5, hA5, hB5, hz5, hf5, hc5, hcell5⟩ := str_at how.out (by rw [HLN.out]; omega)
    rw [hall] at hcell5 hc5
    injection hA5 with e1 _ e3
    subst e1 e3
    have hlm : (ts.map (qg8 us)).length = k := by rw [List.length_map, HTL.out, hkT]
    have HJ := hid (show Calls Tryz.prog 53 #[.slice (some ⟨g5, 0, none⟩) k cl, .string ⟨#[59, 32]⟩] wr fun e w' => e = .returned (.string (qf7 (ts.map (qg8 us)) [59, 32])) ∧ Below wr.heap.size wr w' from by
     have h1 := Tryz.strings_Join g5 0 cl (ts.map (qg8 us)) ⟨#[59, 32]⟩ wr (fun j x hx => by
      obtain ⟨hj, rfl⟩ := List.getElem?_eq_some_iff.1 hx
      rw [Nat.zero_add]
      exact hcell5 j hj) hz5 (by rw [hlm]; omega) hc5 (by have h3 := HJS.out; show (qf7 (ts.map (qg8 us)) [59, 32]).size ≤ _; omega)
     rw [hlm] at h1
     exact h1)
    have hjs := HJS.out
    generalize qf7 (ts.map (qg8 us)) [59, 32] = js at *
    have s5 : ¬ 9223372036854775807 < dn.size + 2 + hd.size + 8 + js.size := by omega
    have s6 : ¬ 9223372036854775807 < dn.size + 2 + hd.size + 8 + js.size + 1 := by omega
    clear hkT hall hlm hf5 hcell5
    go_wp2_with (go_at_call 53; refine HJ.out.mono ?_; rintro e wj ⟨rfl, hbj⟩; have HBJ := hid hbj; clear hbj)
    go_ret
    exact ⟨congrArg (fun x => Ending.returned (Value.string x)) HFIN.out.symm, qa1 (qa1 HBWE.out hb.out) HBJ.out⟩
end
end
section
set_option maxRecDepth 100000 in
set_option maxHeartbeats 400000 in
theorem digits_any (n : Nat) (w : World) (h1 : n ≤ 1000000) :
  Calls Tryz.prog 46 #[.int .i64 n] w fun e w' => e = .returned (.string ⟨(Lib.decDigits n).toArray⟩) ∧ Below w.heap.size w w' := by
 have HL : Hid ((Lib.decDigits n).length ≤ 7) := hid (by rw [Lib.decDigits_length]; exact zi5 (by omega))
 go_enter Tryz.func46, Tryz.ntmps46
 go_wp2
 go_loopw [0, 3] (fun nv sv wr => ∃ (m : Nat) (t : List UInt8), nv = .int .i64 m ∧ sv = .string ⟨t.toArray⟩ ∧ m ≤ n ∧ Hid (Lib.decDigits n = Lib.decDigits m ++ t) ∧ Below w.heap.size w wr) (fun nv _ _ => (intOf nv).toNat)
 case atStart => exact ⟨n, [], rfl, rfl, Nat.le_refl _, hid (by simp), Below.refl _ _⟩
 case round =>
  obtain ⟨m, t, rfl, rfl, hm, hd, hb⟩ := hrel
  have ht : t.length ≤ 7 := by have := congrArg List.length hd.out; have := HL.out; simp at *; omega
  by_cases h9 : 9 < m
  ·have hcv := ze4 Tryz.underlying41 Tryz.underlying5 Tryz.underlying9 wr (48 + ↑m % 10) (dig8 (m % 10)) (by rw [ze6 (by omega)]; omega)
   go_wp2
   refine ⟨⟨m / 10, dig8 (m % 10) :: t, by go_num, congrArg Value.string (str_app [_] t), by omega, hid ?_, hb.alloc hb.size _⟩, by simp [intOf]; omega⟩
   rw [hd.out, zq7 h9]
   simp
  ·have hcv := ze4 Tryz.underlying41 Tryz.underlying5 Tryz.underlying9 wr (48 + ↑m) (dig8 m) (by rw [ze6 (by omega)])
   go_wp2
   go_ret
   refine ⟨?_, hb.alloc hb.size _⟩
   rw [hd.out, qu7 h9]
   exact congrArg (fun x => Ending.returned (Value.string x)) (str_app [_] t)
theorem zs2 (n : Nat) (w : World) (h : n ≤ 100000) : Calls Tryz.prog 46 #[.int .i64 ((n : Int) + 1)] w fun e w' => e = .returned (.string (decB (n + 1))) ∧ Below w.heap.size w w' := by
 have h1 := digits_any (n + 1) w (by omega)
 rw [show ((n + 1 : Nat) : Int) = (n : Int) + 1 by omega] at h1
 exact h1
section
variable {us : List UnitW}
set_option maxRecDepth 100000 in
set_option maxHeartbeats 4000000 in
theorem rhead_any (v tv : Value) (r : Row) (w : World) (h : qd0 w (Lt w.heap.size) v us) (ho : StW us) (hr : RowS us r) (ht : SliceRd qg1 w (Lt w.heap.size) tv r.terms) :
  Calls Tryz.prog 47 #[v, rowV r tv] w fun e w' => e = .returned (.string (qe5 us r)) ∧ Below w.heap.size w w' := by
 have HH : Hid (∀ k, r.kind = k → qe5 us r = qe5 us { r with kind := k }) := hid (fun k hk => by rw [← hk])
 obtain ⟨kd, un, ra, rb, ts⟩ := r
 obtain ⟨hk, hu, hm, ha, hb⟩ := hr
 dsimp only at hk hu hm ha hb ht
 obtain ⟨u, rfl⟩ := Int.eq_ofNat_of_zero_le hu.1
 obtain ⟨a, rfl⟩ := Int.eq_ofNat_of_zero_le ha.1
 obtain ⟨b, rfl⟩ := Int.eq_ofNat_of_zero_le hb.1
 have hul : u < us.length := by omega
 obtain ⟨hmk, hmk31⟩ := zi2 hm ho hul
 have hn := ql4 ho u
 have hv := qo7 ho u _ hmk31
 have HNM := hid (fun (W : World) (hb : Below w.heap.size w W) => rname_any v us u W (h.lift hb hb.size) ho hul)
 have HMK := hid (fun (W : World) (hb : Below w.heap.size w W) => qn6 v tv (nsOf us) ts u W (h.lift hb hb.size).uni ho.ns (ht.lift hb hb.size) ⟨by have := ho.ns.hi; simp only [nsOf, List.length_map] at this; omega, by have := ho.ns.hi; simp only [nsOf, List.length_map] at this; omega⟩)
 have HVL := hid (fun (W : World) (hb : Below w.heap.size w W) => show Calls Tryz.prog 49 #[v, .int .i64 u, .int .i64 (qg3 (nsOf us) ts u : Nat)] W fun e w' => e = .returned (.string (qf1 us u (qg3 (nsOf us) ts u))) ∧ Below W.heap.size W w' from zj9 v us u (qg3 (nsOf us) ts u) W (h.lift hb hb.size) ho hul hmk31)
 have HDA := hid (fun (W : World) => zs2 a W (by omega))
 have HDB := hid (fun (W : World) => zs2 b W (by omega))
 have hsa := qj4 (n := a + 1) (by omega)
 have hsb := qj4 (n := b + 1) (by omega)
 rw [hmk] at HMK
 have HHE : Hid (qe5 us ⟨kd, (u : Int), (a : Int), (b : Int), ts⟩ = if kd = 1 then ⟨#[84, 104, 101, 32, 112, 114, 111, 106, 101, 99, 116, 32, 105, 115, 32, 119, 97, 110, 116, 101, 100]⟩ else if kd = 2 then qe7 us u ++ ⟨#[32]⟩ ++ qf1 us u (qg3 (nsOf us) ts u) ++ ⟨#[32, 110, 101, 101, 100, 115]⟩ else if kd = 3 then qe7 us u ++ ⟨#[32]⟩ ++ qf1 us u (qg3 (nsOf us) ts u) ++ ⟨#[32, 98, 97, 114, 115]⟩ else if kd = 4 then ⟨#[73, 116, 32, 119, 97, 115, 32, 97, 115, 107, 101, 100, 32, 111, 102, 32]⟩ ++ qe7 us u else ⟨#[66, 121, 32]⟩ ++ decB (a + 1) ++ ⟨#[32, 97, 110, 100, 32]⟩ ++ decB (b + 1) ++ ⟨#[44, 32, 97, 115, 32, 116, 111, 32]⟩ ++ qe7 us u) := hid rfl
 generalize qe5 us ⟨kd, (u : Int), (a : Int), (b : Int), ts⟩ = hd at *
 generalize qf1 us u (qg3 (nsOf us) ts u) = vs at *
 generalize qg3 (nsOf us) ts u = mk at *
 generalize qe7 us u = nm at *
 unfold rowV
 dsimp only
 obtain ⟨g, cap0, rfl, hg, -⟩ := h.opened
 obtain ⟨At, ct, rfl, hct, hcm, htc⟩ := ht.terms
 obtain ⟨w0, hw0⟩ : ∃ w0 : World, w0 = (w.alloc (.cells #[.slice (some ⟨g, 0, none⟩) us.length cap0] 26)).alloc (.cells #[.int .i64 kd, .int .i64 u, .int .i64 a, .int .i64 b, .slice At ts.length ct] 49) := ⟨_, rfl⟩
 have hb0 : Below w.heap.size w w0 := hw0 ▸ qa0 (qa0 (b0 w) _) _
 have hz0 : w.heap.size + 1 < w0.heap.size := by rw [hw0]; simp
 have c0 : w0.cell? ⟨w.heap.size, 0, none⟩ = some (.slice (some ⟨g, 0, none⟩) us.length cap0) := by rw [hw0]; exact qf0 rfl
 have d0 : w0.cell? ⟨w.heap.size + 1, 0, none⟩ = some (.int .i64 kd) := by rw [hw0]; exact qa7 rfl
 have d1 : w0.cell? ⟨w.heap.size + 1, 1, none⟩ = some (.int .i64 u) := by rw [hw0]; exact qa7 rfl
 have d2 : w0.cell? ⟨w.heap.size + 1, 2, none⟩ = some (.int .i64 a) := by rw [hw0]; exact qa7 rfl
 have d3 : w0.cell? ⟨w.heap.size + 1, 3, none⟩ = some (.int .i64 b) := by rw [hw0]; exact qa7 rfl
 have d4 : w0.cell? ⟨w.heap.size + 1, 4, none⟩ = some (.slice At ts.length ct) := by rw [hw0]; exact qa7 rfl
 have l0 := qa2 (show w.heap.size < w0.heap.size by omega) c0
 have l1 := qa2 hz0 d0
 have l2 := qa2 hz0 d1
 have l3 := qa2 hz0 d2
 have l4 := qa2 hz0 d3
 have l5 := qa2 hz0 d4
 have HB0 := hid hb0
 have HW0 := hid hw0
 have HNl := hid (fun e : Later w0 => HNM.out e.w (qa1 hb0 e.below))
 have HMl := hid (fun e : Later w0 => HMK.out e.w (qa1 hb0 e.below))
 have HVl := hid (fun e : Later w0 => HVL.out e.w (qa1 hb0 e.below))
 have h5 : kd = 1 ∨ kd = 2 ∨ kd = 3 ∨ kd = 4 ∨ kd = 5 := by omega
 have s1 : ¬ 9223372036854775807 < nm.size + 1 := by omega
 have s2 : ¬ 9223372036854775807 < nm.size + 1 + vs.size := by omega
 have s3 : ¬ 9223372036854775807 < nm.size + 1 + vs.size + 6 := by omega
 have s4 : ¬ 9223372036854775807 < nm.size + 1 + vs.size + 5 := by omega
 have s5 : ¬ 9223372036854775807 < 16 + nm.size := by omega
 generalize decB (a + 1) = da at *
 generalize decB (b + 1) = db at *
 have t1 : ¬ 9223372036854775807 < 3 + da.size := by omega
 have t2 : ¬ 9223372036854775807 < 3 + da.size + 5 := by omega
 have t3 : ¬ 9223372036854775807 < 3 + da.size + 5 + db.size := by omega
 have t4 : ¬ 9223372036854775807 < 3 + da.size + 5 + db.size + 8 := by omega
 have t5 : ¬ 9223372036854775807 < 3 + da.size + 5 + db.size + 8 + nm.size := by omega
 have w1 : IntKind.i64.wrap ((a : Int) + 1) = (a : Int) + 1 := IntWalk.i64_in _ (by omega)
 have w2 : IntKind.i64.wrap ((b : Int) + 1) = (b : Int) + 1 := IntWalk.i64_in _ (by omega)
 clear h ht hk hu hm ha hb htc hmk hw0 hb0 HNM HMK HVL HH hsa hsb hn hv c0 d0 d1 d2 d3 d4
 go_enter Tryz.func47, Tryz.ntmps47
 go_upto_region 1 with fail
 rw [← HW0.out]
 (refine qa3 (by kernel_rfl) (by kernel_rfl) ?_; (repeat (go_big_quiet_step ((first | (go_at_call 48; exact Calls.later (HNl.out _) rfl) | (go_at_call 87; exact Calls.later (HMl.out _) rfl) | (go_at_call 49; exact Calls.later (HVl.out _) rfl))))); refine wpQuiet_nil ?_; rintro _ ⟨e9, rfl⟩)
 obtain ⟨we, hwe⟩ : ∃ we : World, we = e9.w := ⟨_, rfl⟩
 have hbe : Below w0.heap.size w0 we := hwe ▸ e9.below
 rw [← hwe]
 have HBE := hid hbe
 have HBWE := hid (qa1 HB0.out hbe)
 have hze : w.heap.size + 1 < we.heap.size := Nat.lt_of_lt_of_le hz0 hbe.size
 have x1 : we.cell? ⟨w.heap.size + 1, 0, none⟩ = some (.int .i64 kd) := hwe ▸ l1 e9
 have x2 : we.cell? ⟨w.heap.size + 1, 2, none⟩ = some (.int .i64 a) := hwe ▸ l3 e9
 have x3 : we.cell? ⟨w.heap.size + 1, 3, none⟩ = some (.int .i64 b) := hwe ▸ l4 e9
 clear l0 l1 l2 l3 l4 l5 hwe hbe HNl HMl HVl
 rcases h5 with rfl | rfl | rfl | rfl | rfl
 ·have HF := hid (HHE.out.trans (if_pos rfl))
  go_wp2_with fail
  go_ret
  exact ⟨congrArg (fun x => Ending.returned (Value.string x)) HF.out.symm, HBWE.out⟩
 ·have HF := hid (HHE.out.trans ((if_neg (by decide)).trans (if_pos rfl)))
  go_wp2_with fail
  go_ret
  exact ⟨congrArg (fun x => Ending.returned (Value.string x)) HF.out.symm, HBWE.out⟩
 ·have HF := hid (HHE.out.trans ((if_neg (by decide)).trans ((if_neg (by decide)).trans (if_pos rfl))))
  go_wp2_with fail
  go_ret
  exact ⟨congrArg (fun x => Ending.returned (Value.string x)) HF.out.symm, HBWE.out⟩
 ·have HF := hid (HHE.out.trans ((if_neg (by decide)).trans ((if_neg (by decide)).trans ((if_neg (by decide)).trans (if_pos rfl)))))
  go_wp2_with fail
  go_ret
  exact ⟨congrArg (fun x => Ending.returned (Value.string x)) HF.out.symm, HBWE.out⟩
 ·have HF := hid (HHE.out.trans ((if_neg (by decide)).trans ((if_neg (by decide)).trans ((if_neg (by decide)).trans (if_neg (by decide))))))
  have HA := hid (fun e : Later we => HDA.out e.w)
  have HBB := hid (fun e : Later we => HDB.out e.w)
  have l2 := qa2 hze x2
  have l3 := qa2 hze x3
  go_wp2_with fail
  (refine qa3 (by kernel_rfl) (by kernel_rfl) ?_; (repeat (go_big_quiet_step ((first | (go_at_call_of 46 a; exact Calls.later (HA.out _) rfl) | (go_at_call 46; exact Calls.later (HBB.out _) rfl))))); refine wpQuiet_nil ?_; rintro _ ⟨e8, rfl⟩)
  go_wp2_with fail
  go_ret
  exact ⟨congrArg (fun x => Ending.returned (Value.string x)) HF.out.symm, qa1 HBWE.out e8.below⟩
end
end
section
theorem join_take {L : List ByteArray} {k : Nat} (hk : k < L.length) (P : ByteArray) : (if k = 0 then P ++ qf7 (L.take k) [59, 32] else P ++ qf7 (L.take k) [59, 32] ++ ⟨#[59, 32]⟩) ++ L[k] = P ++ qf7 (L.take (k + 1)) [59, 32] := by
 rw [List.take_succ_eq_append_getElem hk]
 split
 ·rename_i h
  subst h
  have e : L.take 0 = [] := rfl
  rw [e, List.nil_append, joinB_one, qz4]
  simp only [ByteArray.append_assoc]
  exact congrArg (P ++ ·) (by apply ByteArray.ext; simp [ByteArray.data_append])
 ·rename_i h
  rw [zn3 (fun e => by have := congrArg List.length e; rw [List.length_take, List.length_nil] at this; omega)]
  simp only [ByteArray.append_assoc]
section
variable {us : List UnitW}
set_option maxRecDepth 100000 in
set_option maxHeartbeats 4000000 in
theorem rsent_any (v tv : Value) (r : Row) (n : Nat) (w : World) (h : qd0 w (Lt w.heap.size) v us) (ho : StW us) (hr : RowS us r) (ht : SliceRd qg1 w (Lt w.heap.size) tv r.terms) (hn : n ≤ 100000) :
  Calls Tryz.prog 21 #[v, rowV r tv, .int .i64 n] w fun e w' => e = .returned (.string (qi4 us r (n + 1))) ∧ Below w.heap.size w w' := by
 have HNM := hid (fun (t : Term) (ht : t ∈ r.terms) (W : World) (hb : Below w.heap.size w W) => show Calls Tryz.prog 48 #[v, .int .i64 t.unit] W fun e w' => e = .returned (.string (qe7 us t.unit.toNat)) ∧ Below W.heap.size W w' from by
  obtain ⟨u, m, h1, rfl, h2, h3⟩ := zb0 hr.may ho ht
  exact rname_any v us u W (h.lift hb hb.size) ho h1)
 have HVL := hid (fun (t : Term) (ht : t ∈ r.terms) (W : World) (hb : Below w.heap.size w W) => show Calls Tryz.prog 49 #[v, .int .i64 t.unit, .int .i64 t.mask] W fun e w' => e = .returned (.string (qf1 us t.unit.toNat t.mask.toNat)) ∧ Below W.heap.size W w' from by
  obtain ⟨u, m, h1, rfl, h2, h3⟩ := zb0 hr.may ho ht
  exact zj9 v us u m W (h.lift hb hb.size) ho h1 h3)
 have HTS := hid (fun (t : Term) (ht : t ∈ r.terms) => qq4 ho hr.may ht)
 have HHD := hid (fun (W : World) (hb : Below w.heap.size w W) => rhead_any v tv r W (h.lift hb hb.size) ho hr (ht.lift hb hb.size))
 have HDG := hid (fun (W : World) => zs2 n W hn)
 have HLB : Hid (qi4 us r (n + 1) = decB (n + 1) ++ ⟨#[46, 32]⟩ ++ qe5 us r ++ (if r.terms.isEmpty = true then ⟨#[58, 32, 115, 111, 32, 116, 104, 101, 114, 101, 32, 105, 115, 32, 110, 111, 110, 101, 46]⟩ else ⟨#[58, 32, 110, 101, 118, 101, 114, 32]⟩ ++ qf7 (r.terms.map (qg8 us)) [59, 32] ++ ⟨#[46]⟩)) := hid rfl
 have hds := qj4 (n := n + 1) (by omega)
 have hhs := zc1 ho hr
 have hl11 := zl0 hr.may ho
 have HJS : Hid (∀ k, (qf7 ((r.terms.take k).map (qg8 us)) [59, 32]).size ≤ 11 * 422) := hid (fun k => by
  have h4 := qn0 ((r.terms.take k).map (qg8 us)) 420 (fun x hx => by
   obtain ⟨t, ht, rfl⟩ := List.mem_map.1 hx
   exact qq4 ho hr.may (List.mem_of_mem_take ht)) [59, 32]
  rw [List.length_map] at h4
  exact Nat.le_trans h4 (Nat.mul_le_mul_right _ (by rw [List.length_take]; omega)))
 obtain ⟨kd, un, ra, rb, ts⟩ := r
 obtain ⟨u, rfl⟩ := Int.eq_ofNat_of_zero_le hr.unit.1
 obtain ⟨a, rfl⟩ := Int.eq_ofNat_of_zero_le hr.a.1
 obtain ⟨b, rfl⟩ := Int.eq_ofNat_of_zero_le hr.b.1
 unfold rowV at HHD ⊢
 dsimp only at HHD HNM HVL HTS HLB hl11 HJS ⊢
 generalize qe5 us ⟨kd, (u : Int), (a : Int), (b : Int), ts⟩ = hd at *
 obtain ⟨g, cap0, rfl, hg, -⟩ := h.opened
 obtain ⟨At, ct, rfl, hct, hcm, htc⟩ := ht.terms
 obtain ⟨w0, hw0⟩ : ∃ w0 : World, w0 = (w.alloc (.cells #[.slice (some ⟨g, 0, none⟩) us.length cap0] 26)).alloc (.cells #[.int .i64 kd, .int .i64 u, .int .i64 a, .int .i64 b, .slice At ts.length ct] 49) := ⟨_, rfl⟩
 have hb0 : Below w.heap.size w w0 := hw0 ▸ qa0 (qa0 (b0 w) _) _
 have hz0 : w.heap.size + 1 < w0.heap.size := by rw [hw0]; simp
 have c0 : w0.cell? ⟨w.heap.size, 0, none⟩ = some (.slice (some ⟨g, 0, none⟩) us.length cap0) := by rw [hw0]; exact qf0 rfl
 have d0 : w0.cell? ⟨w.heap.size + 1, 0, none⟩ = some (.int .i64 kd) := by rw [hw0]; exact qa7 rfl
 have d1 : w0.cell? ⟨w.heap.size + 1, 1, none⟩ = some (.int .i64 u) := by rw [hw0]; exact qa7 rfl
 have d2 : w0.cell? ⟨w.heap.size + 1, 2, none⟩ = some (.int .i64 a) := by rw [hw0]; exact qa7 rfl
 have d3 : w0.cell? ⟨w.heap.size + 1, 3, none⟩ = some (.int .i64 b) := by rw [hw0]; exact qa7 rfl
 have d4 : w0.cell? ⟨w.heap.size + 1, 4, none⟩ = some (.slice At ts.length ct) := by rw [hw0]; exact qa7 rfl
 have l0 := qa2 (show w.heap.size < w0.heap.size by omega) c0
 have l1 := qa2 hz0 d0
 have l2 := qa2 hz0 d1
 have l3 := qa2 hz0 d2
 have l4 := qa2 hz0 d3
 have l5 := qa2 hz0 d4
 have HB0 := hid hb0
 have HW0 := hid hw0
 have HTC := hid htc
 have HHl := hid (fun e : Later w0 => HHD.out e.w (qa1 hb0 e.below))
 have HDl := hid (fun e : Later w0 => HDG.out e.w)
 generalize decB (n + 1) = dn at *
 have s1 : ¬ 9223372036854775807 < dn.size + 2 := by omega
 have s2 : ¬ 9223372036854775807 < dn.size + 2 + hd.size := by omega
 have s3 : ¬ 9223372036854775807 < dn.size + 2 + hd.size + 19 := by omega
 have s4 : ¬ 9223372036854775807 < dn.size + 2 + hd.size + 8 := by omega
 have w1 : IntKind.i64.wrap ((n : Int) + 1) = (n : Int) + 1 := IntWalk.i64_in _ (by omega)
 clear h ht hr hw0 hb0 htc HHD HDG
 go_enter Tryz.func21, Tryz.ntmps21
 go_upto_region 1 with fail
 rw [← HW0.out]
 (refine qa3 (by kernel_rfl) (by kernel_rfl) ?_; (repeat (go_big_quiet_step ((first | (go_at_call 46; exact Calls.later (HDl.out _) rfl) | (go_at_call 47; exact Calls.later (HHl.out _) rfl))))); refine wpQuiet_nil ?_; rintro _ ⟨e9, rfl⟩)
 obtain ⟨we, hwe⟩ : ∃ we : World, we = e9.w := ⟨_, rfl⟩
 have hbe : Below w0.heap.size w0 we := hwe ▸ e9.below
 rw [← hwe]
 have HBE := hid hbe
 have HBWE := hid (qa1 HB0.out hbe)
 have hze : w.heap.size + 1 < we.heap.size := Nat.lt_of_lt_of_le hz0 hbe.size
 have x0 : we.cell? ⟨w.heap.size, 0, none⟩ = some (.slice (some ⟨g, 0, none⟩) us.length cap0) := hwe ▸ l0 e9
 have x4 : we.cell? ⟨w.heap.size + 1, 4, none⟩ = some (.slice At ts.length ct) := hwe ▸ l5 e9
 clear l0 l1 l2 l3 l4 l5 hwe hbe HHl HDl c0 d0 d1 d2 d3 d4
 cases hts : ts with
 | nil =>
  subst hts
  have HFIN : Hid (qi4 us ⟨kd, (u : Int), (a : Int), (b : Int), []⟩ (n + 1) = dn ++ ⟨#[46, 32]⟩ ++ hd ++ ⟨#[58, 32, 115, 111, 32, 116, 104, 101, 114, 101, 32, 105, 115, 32, 110, 111, 110, 101, 46]⟩) := hid HLB.out
  go_wp2_with fail
  go_ret
  exact ⟨congrArg (fun x => Ending.returned (Value.string x)) HFIN.out.symm, HBWE.out⟩
 | cons t0 ts0 =>
  have hpos : 0 < ts.length := by rw [hts]; simp
  have HFIN : Hid (qi4 us ⟨kd, (u : Int), (a : Int), (b : Int), ts⟩ (n + 1) = dn ++ ⟨#[46, 32]⟩ ++ hd ++ ⟨#[58, 32, 110, 101, 118, 101, 114, 32]⟩ ++ qf7 (ts.map (qg8 us)) [59, 32] ++ ⟨#[46]⟩) := hid (by
   rw [HLB.out, if_neg (by rw [hts]; simp)]
   simp only [ByteArray.append_assoc])
  rw [← hts]
  clear hts HLB
  obtain ⟨T, hT⟩ : ∃ T, ts.length = T := ⟨_, rfl⟩
  have HTL := hid hT
  rw [hT] at hl11 hpos x4 ⊢
  have hT0 : ((T : Int) == 0) = false := by rw [beq_eq_false_iff_ne]; omega
  have hT1 : (T == 0) = false := by rw [beq_eq_false_iff_ne]; omega
  have hT2 : ¬ T = 0 := by omega
  clear hT
  go_wp2_with fail
  obtain ⟨P, hP⟩ : ∃ P, dn ++ ⟨#[46, 32]⟩ ++ hd ++ ⟨#[58, 32, 110, 101, 118, 101, 114, 32]⟩ = P := ⟨_, rfl⟩
  have hps : P.size ≤ 1000 := by
   rw [← hP]
   simp only [ByteArray.size_append]
   show dn.size + 2 + hd.size + 8 ≤ 1000
   omega
  rw [hP] at HFIN ⊢
  have HPX : Hid (P = P ++ qf7 ((ts.take 0).map (qg8 us)) [59, 32]) := hid (by
   show P = P ++ ⟨#[]⟩
   apply ByteArray.ext
   simp [ByteArray.data_append])
  clear hP s1 s2 s3 s4
  go_loopw [7, 8] (fun sv kv wr => ∃ k : Nat, k ≤ T ∧ kv = .int .i64 k ∧ sv = .string (P ++ qf7 ((ts.take k).map (qg8 us)) [59, 32]) ∧ Hid (Below we.heap.size we wr)) (fun _ kv _ => T - (intOf kv).toNat)
  case atStart => exact ⟨0, by omega, rfl, congrArg Value.string HPX.out, hid (b0 _)⟩
  case round =>
   obtain ⟨k, hk, rfl, rfl, hb⟩ := hrel
   have y0 := cell_below hb.out (by omega) x0
   have y4 := cell_below hb.out (by omega) x4
   have hjs := HJS.out k
   by_cases hlt : k < T
   ·have i0 : (0 : Int) ≤ ↑k := by omega
    have i1 : (↑k : Int) < ↑T := by omega
    have i2 : decide (k < T) = true := decide_eq_true hlt
    have hkl : k < ts.length := by rw [HTL.out]; exact hlt
    obtain ⟨ga, oa, hA, hFa, hca, hcb, -, -⟩ := HTC.out k hkl
    have hmem := List.getElem_mem hkl
    have HJT := hid (join_take (L := ts.map (qg8 us)) (k := k) (by rw [List.length_map]; exact hkl) P)
    rw [List.getElem_map, ← List.map_take, ← List.map_take] at HJT
    have HTB : Hid (qg8 us ts[k] = qe7 us ts[k].unit.toNat ++ ⟨#[32]⟩ ++ qf1 us ts[k].unit.toNat ts[k].mask.toNat) := hid rfl
    have hsz := HTS.out _ hmem
    have HNMk := hid (fun e : Later wr => HNM.out _ hmem e.w (qa1 (qa1 HBWE.out hb.out) e.below))
    have HVLk := hid (fun e : Later wr => HVL.out _ hmem e.w (qa1 (qa1 HBWE.out hb.out) e.below))
    subst hA
    have hcx := cell_below (qa1 HBWE.out hb.out) hFa hca
    have hcy := cell_below (qa1 HBWE.out hb.out) hFa hcb
    have hga := Nat.lt_of_lt_of_le hFa (qa1 HBWE.out hb.out).size
    rw [HTB.out] at hsz HJT
    generalize ts[k] = t at *
    obtain ⟨tu, tm⟩ := t
    dsimp only at hcx hcy hsz HNMk HVLk HJT
    generalize qe7 us tu.toNat = nm at *
    generalize qf1 us tu.toNat tm.toNat = vm at *
    generalize qf7 ((ts.take k).map (qg8 us)) [59, 32] = js at *
    obtain ⟨js2, hjs2⟩ : ∃ js2, qf7 ((ts.take (k + 1)).map (qg8 us)) [59, 32] = js2 := ⟨_, rfl⟩
    rw [hjs2] at HJT
    have HJ2 := hid hjs2
    clear hjs2
    simp only [ByteArray.size_append] at hsz
    have hsz2 : nm.size + 1 + vm.size ≤ 420 := hsz
    have zr : we.heap.size ≤ wr.heap.size := hb.out.size
    have l0 := qa2 (show w.heap.size < wr.heap.size by omega) y0
    have l4 := qa2 (show w.heap.size + 1 < wr.heap.size by omega) y4
    have l5 := qa2 hga hcx
    have l6 := qa2 hga hcy
    clear hca hcb hFa hsz hmem HTB
    by_cases hk0 : k = 0
    ·have z1 : decide (0 < k) = false := decide_eq_false (by omega)
     have z2 : ¬ (0 < k) := by omega
     have z3 : ¬ ((0 : Int) < ↑k) := by omega
     have HJX : Hid (P ++ js ++ nm ++ ⟨#[32]⟩ ++ vm = P ++ js2) := hid (by
      rw [← HJT.out, if_pos hk0]
      simp only [ByteArray.append_assoc])
     have s5 : ¬ 9223372036854775807 < P.size + js.size + nm.size := by omega
     have s6 : ¬ 9223372036854775807 < P.size + js.size + nm.size + 1 := by omega
     have s7 : ¬ 9223372036854775807 < P.size + js.size + nm.size + 1 + vm.size := by omega
     clear hk0 HJT
     go_wp2_with fail
     (refine qa3 (by kernel_rfl) (by kernel_rfl) ?_; (repeat (go_big_quiet_step ((first | (go_at_call 48; exact Calls.later (HNMk.out _) rfl) | (go_at_call 49; exact Calls.later (HVLk.out _) rfl))))); refine wpQuiet_nil ?_; rintro _ ⟨e8, rfl⟩)
     go_wp2_with fail
     exact ⟨⟨k + 1, by omega, by go_num, congrArg Value.string (HJX.out.trans (by rw [HJ2.out])), hid (qa1 hb.out e8.below)⟩, by simp [intOf]; omega⟩
    ·have z1 : decide (0 < k) = true := decide_eq_true (by omega)
     have z3 : ((0 : Int) < ↑k) := by omega
     have HJX : Hid (P ++ js ++ ⟨#[59, 32]⟩ ++ nm ++ ⟨#[32]⟩ ++ vm = P ++ js2) := hid (by
      rw [← HJT.out, if_neg hk0]
      simp only [ByteArray.append_assoc])
     have s4 : ¬ 9223372036854775807 < P.size + js.size + 2 := by omega
     have s5 : ¬ 9223372036854775807 < P.size + js.size + 2 + nm.size := by omega
     have s6 : ¬ 9223372036854775807 < P.size + js.size + 2 + nm.size + 1 := by omega
     have s7 : ¬ 9223372036854775807 < P.size + js.size + 2 + nm.size + 1 + vm.size := by omega
     clear hk0 HJT
     go_wp2_with fail
     (refine qa3 (by kernel_rfl) (by kernel_rfl) ?_; (repeat (go_big_quiet_step ((first | (go_at_call 48; exact Calls.later (HNMk.out _) rfl) | (go_at_call 49; exact Calls.later (HVLk.out _) rfl))))); refine wpQuiet_nil ?_; rintro _ ⟨e8, rfl⟩)
     go_wp2_with fail
     exact ⟨⟨k + 1, by omega, by go_num, congrArg Value.string (HJX.out.trans (by rw [HJ2.out])), hid (qa1 hb.out e8.below)⟩, by simp [intOf]; omega⟩
   ·have hkT : k = T := by omega
    have i2 : decide (k < T) = false := decide_eq_false hlt
    have i3 : ¬ ((k : Int) < ↑T) := by omega
    have HFI : Hid (P ++ qf7 ((ts.take k).map (qg8 us)) [59, 32] ++ ⟨#[46]⟩ = qi4 us ⟨kd, (u : Int), (a : Int), (b : Int), ts⟩ (n + 1)) := hid (by rw [HFIN.out, hkT, ← HTL.out, List.take_length])
    generalize qf7 ((ts.take k).map (qg8 us)) [59, 32] = js at *
    have s5 : ¬ 9223372036854775807 < P.size + js.size + 1 := by omega
    clear hkT
    go_wp2_with fail
    go_ret
    exact ⟨congrArg (fun x => Ending.returned (Value.string x)) HFI.out, qa1 HBWE.out hb.out⟩
end
end
end Go.Proofs.YtbfbppjccbppiaaGreatDoor
