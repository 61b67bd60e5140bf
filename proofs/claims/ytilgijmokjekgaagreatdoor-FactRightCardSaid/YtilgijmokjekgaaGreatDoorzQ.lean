import Derived.Test.YtilgijmokjekgaaGreatDoorzZ2
import Derived.Outline
import Derived.Test.YtilgijmokjekgaaGreatDoorzGW
import Derived.Test.YtilgijmokjekgaaGreatDoorzZ6
import Derived.Test.YtilgijmokjekgaaGreatDoorzY5
import Derived.Test.YtilgijmokjekgaaGreatDoorzN
import Derived.Test.YtilgijmokjekgaaGreatDoorzY10
import Derived.Test.YtilgijmokjekgaaGreatDoorzA7
import Derived.Laws.StructEq
section
/- Contracts: ref21.May, ref21.All, at any term and any list. -/
namespace Go.Proofs.YtilgijmokjekgaaGreatDoor
open Go Go.RowKit

set_option maxHeartbeats 2000000 in
theorem rtmayB_any (v : Value) (ns : List Nat) (t : Term) (w : World) (h : UniRd w (Lt w.heap.size) v ns) (ho : NsOk ns) (hi : I64 t.mask) (hu : I64 t.unit) :
  Calls Tryz.prog 99 #[v, .agg #[.int .i64 t.unit, .int .i64 t.mask]] w fun e w' => e = .returned (.bool (mayT ns t)) ∧ Below w.heap.size w w' := by
 obtain ⟨u, m⟩ := t
 dsimp only at hi hu ⊢
 obtain ⟨f, hf, hf31, hfs⟩ := full_form ho u
 have HR := hid (mayT_parts (m := m) hf)
 have hz := and_may hi hf31 hfs
 have HH := hid h
 obtain ⟨g, cap0, rfl, hg, -⟩ := h
 obtain ⟨w0, hw0⟩ : ∃ w0 : World, w0 = (w.alloc (.cells #[.slice (some ⟨g, 0, none⟩) ns.length cap0] 25)).alloc (.cells #[.int .i64 u, .int .i64 m] 55) := ⟨_, rfl⟩
 obtain ⟨hb0, hs0, q0, q1, q2⟩ := two_boxes hw0
 have HCALL := hid (rfull_any _ ns u w0 _ (uni_later HH.out hb0) ho hu (fun _ h => h))
 have HQ1 := hid q1
 have HQ2 := hid q2
 have HS0 := hid hs0
 have HB0 := hid hb0
 have HW0 := hid hw0
 rw [hf] at HCALL
 clear hw0 hb0 q0 q1 q2 hs0 ho hf hf31 hfs
 go_enter Tryz.func99, Tryz.ntmps99
 by_cases c1 : m = 0
 ·subst c1
  rw [decide_eq_false (fun h => h rfl), Bool.false_and] at HR
  go_wp2_with (go_at_call 29; rw [← HW0.out]; refine HCALL.out.mono ?_; rintro e w1 ⟨rfl, hb1⟩; have c1 := cell_below hb1 (by have := HS0.out; omega) HQ1.out; have c2 := cell_below hb1 (by have := HS0.out; omega) HQ2.out; have HB1 := hid hb1; clear hb1)
  go_ret
  exact ⟨ret_bool HR.out.symm, bstep HB0.out HB1.out⟩
 ·have n1 : (m == 0) = false := beq_false_of_ne c1
  have n3 : (m != 0) = true := bne_iff_ne.2 c1
  rw [decide_eq_true c1, Bool.true_and] at HR
  cases hq : decide (0 ≤ m ∧ m ≤ f) with
  | false =>
   rw [hq] at hz HR
   rw [Bool.false_and] at HR
   clear hq
   go_wp2_with (go_at_call 29; rw [← HW0.out]; refine HCALL.out.mono ?_; rintro e w1 ⟨rfl, hb1⟩; have c1 := cell_below hb1 (by have := HS0.out; omega) HQ1.out; have c2 := cell_below hb1 (by have := HS0.out; omega) HQ2.out; have HB1 := hid hb1; clear hb1)
   go_ret
   exact ⟨ret_bool HR.out.symm, bstep HB0.out HB1.out⟩
  | true =>
   rw [hq] at hz HR
   rw [Bool.true_and] at HR
   clear hq
   obtain ⟨b, hb⟩ : ∃ b, decide (m ≠ (f : Int)) = b := ⟨_, rfl⟩
   have n5 : (m != (f : Int)) = b := by rw [← hb, bne, Bool.eq_iff_iff]; simp
   rw [hb] at HR
   clear hb
   go_wp2_with (go_at_call 29; rw [← HW0.out]; refine HCALL.out.mono ?_; rintro e w1 ⟨rfl, hb1⟩; have c1 := cell_below hb1 (by have := HS0.out; omega) HQ1.out; have c2 := cell_below hb1 (by have := HS0.out; omega) HQ2.out; have HB1 := hid hb1; clear hb1)
   go_ret
   exact ⟨ret_bool HR.out.symm, bstep HB0.out HB1.out⟩
set_option maxRecDepth 100000 in
set_option maxHeartbeats 2000000 in
theorem rallB_any (v lv : Value) (ns : List Nat) (l : List Term) (w : World) (h : UniRd w (Lt w.heap.size) v ns) (ho : NsOk ns) (hl : SliceRd tTerm w (Lt w.heap.size) lv l) :
  Calls Tryz.prog 55 #[v, lv] w fun e w' => e = .returned (.bool (mayL ns l)) ∧ Below w.heap.size w w' := by
 have HH := hid h
 have HO := hid ho
 obtain ⟨g, cap0, rfl, hg, -⟩ := h
 obtain ⟨A, cap, rfl, hcap, hmax, hcc⟩ := hl.terms
 unfold maxLen at hmax
 have HC := hid hcc
 clear hcc hl ho
 go_enter Tryz.func55, Tryz.ntmps55
 go_wp2_with fail
 obtain ⟨w0, hw0⟩ : ∃ w0 : World, w0 = w.alloc (.cells #[.slice (some ⟨g, 0, none⟩) ns.length cap0] 25) := ⟨_, rfl⟩
 have hb0 : Below w.heap.size w w0 := hw0 ▸ balloc (b0 w) _
 have hl0 : w.heap.size < w0.heap.size := by rw [hw0]; simp
 have q0 : w0.cell? ⟨w.heap.size, 0, none⟩ = some (.slice (some ⟨g, 0, none⟩) ns.length cap0) := by rw [hw0, alloc_cell]; rfl
 have HB0 := hid hb0
 have HQ := hid q0
 have HU0 := hid (uni_later HH.out hb0)
 rw [← hw0]
 clear hw0 hb0 q0
 go_loopw [5] (fun iv wr => ∃ k : Nat, k ≤ l.length ∧ iv = .int .i64 k ∧ Hid (Below w0.heap.size w0 wr) ∧ Hid (∀ j, j < k → okAt ns l j = true)) (fun iv _ => l.length - (intOf iv).toNat)
 case atStart => exact ⟨0, Nat.zero_le _, rfl, hid (b0 w0), hid (fun j hj => absurd hj (by omega))⟩
 case round =>
  obtain ⟨k, hk, rfl, hb, hall⟩ := hrel
  by_cases hlt : k < l.length
  ·obtain ⟨gg, o, hA, hF, g0, g1, hi0, hi1⟩ := HC.out k hlt
   subst hA
   have HKA := hid (okAt_lt (ns := ns) hlt)
   have HBAD := hid (fun (e : okAt ns l k = false) => mayL_bad hlt e)
   have HGO := hid (fun (e : okAt ns l k = true) j (hj : j < k + 1) => if e2 : j = k then e2 ▸ e else hall.out j (by omega))
   obtain ⟨t, ht⟩ : ∃ t, l[k] = t := ⟨_, rfl⟩
   rw [ht] at g0 g1 hi0 hi1 HKA
   obtain ⟨u, m⟩ := t
   dsimp only at g0 g1 hi0 hi1
   have c0 := cell_below hb.out (Nat.lt_of_lt_of_le hF HB0.out.size) (cell_below HB0.out hF g0)
   have c1 := cell_below hb.out (Nat.lt_of_lt_of_le hF HB0.out.size) (cell_below HB0.out hF g1)
   have i1 : (0 : Int) ≤ ↑k := by omega
   have i2 : (↑k : Int) < ↑l.length := by omega
   clear g0 g1 ht
   have hFr : gg < wr.heap.size := Nat.lt_of_lt_of_le hF (Nat.le_trans HB0.out.size hb.out.size)
   have l0 := later_cell (Nat.lt_of_lt_of_le hl0 hb.out.size) (cell_below hb.out hl0 HQ.out)
   have l1 := later_cell hFr c0
   have l2 := later_cell hFr c1
   have HUR := hid (uni_later HU0.out hb.out)
   have HTM := hid (fun e : Later wr => rtmayB_any _ ns ⟨u, m⟩ e.w (uni_lat HUR.out e) HO.out hi1 hi0)
   cases hmt : mayT ns ⟨u, m⟩ with
   | false =>
    rw [hmt] at HKA HTM
    have HR := hid (HBAD.out (by rw [HKA.out]; rfl))
    clear hmt
    by_cases h0 : k = 0
    ·have z1 : decide (0 < k) = false := decide_eq_false (by omega)
     have z2 : decide ((0 : Int) < ↑k) = false := decide_eq_false (by omega)
     clear h0
     go_wp2_with fail
     (refine wp_region_later (by kernel_rfl) (by kernel_rfl) ?_; (repeat (go_big_quiet_step ((go_at_call 99; exact Calls.later (HTM.out _) rfl)))); refine wpQuiet_nil ?_; rintro _ ⟨⟨w1, hb1⟩, rfl⟩)
     go_wp2
     go_ret
     exact ⟨ret_bool HR.out.symm, bstep HB0.out (bstep hb.out hb1)⟩
    ·obtain ⟨gg2, o2, hA2, hF2, e0, -, -, -⟩ := HC.out (k - 1) (by omega)
     cases hA2
     obtain ⟨a, ha⟩ : ∃ a, (l[k-1]'(by omega)).unit = a := ⟨_, rfl⟩
     rw [ha] at e0
     have l3 := later_cell hFr (cell_below hb.out (Nat.lt_of_lt_of_le hF2 HB0.out.size) (cell_below HB0.out hF2 e0))
     have i3 : (0 : Int) ≤ ↑k - 1 := by omega
     have i4 : (↑k : Int) - 1 < ↑l.length := by omega
     have i5 : ((↑k : Int) - 1).toNat = k - 1 := by omega
     have i6 : IntKind.i64.wrap (↑k - 1) = (↑k : Int) - 1 := IntWalk.i64_in _ (by omega)
     have z1 : decide (0 < k) = true := decide_eq_true (by omega)
     clear h0 ha e0
     go_wp2_with fail
     (refine wp_region_later (by kernel_rfl) (by kernel_rfl) ?_; (repeat (go_big_quiet_step ((go_at_call 99; exact Calls.later (HTM.out _) rfl)))); refine wpQuiet_nil ?_; rintro _ ⟨⟨w1, hb1⟩, rfl⟩)
     go_wp2
     go_ret
     exact ⟨ret_bool HR.out.symm, bstep HB0.out (bstep hb.out hb1)⟩
   | true =>
    rw [hmt, Bool.true_and] at HKA
    rw [hmt] at HTM
    clear hmt
    by_cases h0 : k = 0
    ·have z1 : decide (0 < k) = false := decide_eq_false (by omega)
     have z2 : decide ((0 : Int) < ↑k) = false := decide_eq_false (by omega)
     have HG := hid (HGO.out (by rw [HKA.out, decide_eq_true h0]; rfl))
     clear h0
     go_wp2_with fail
     (refine wp_region_later (by kernel_rfl) (by kernel_rfl) ?_; (repeat (go_big_quiet_step ((go_at_call 99; exact Calls.later (HTM.out _) rfl)))); refine wpQuiet_nil ?_; rintro _ ⟨⟨w1, hb1⟩, rfl⟩)
     go_wp2
     exact ⟨⟨k + 1, by omega, by go_num, hid (bstep hb.out hb1), HG⟩, by simp [intOf]; omega⟩
    ·obtain ⟨gg2, o2, hA2, hF2, e0, -, -, -⟩ := HC.out (k - 1) (by omega)
     cases hA2
     obtain ⟨a, ha⟩ : ∃ a, (l[k-1]'(by omega)).unit = a := ⟨_, rfl⟩
     rw [ha] at e0
     rw [decide_eq_false h0, Bool.false_or, ha] at HKA
     have l3 := later_cell hFr (cell_below hb.out (Nat.lt_of_lt_of_le hF2 HB0.out.size) (cell_below HB0.out hF2 e0))
     have i3 : (0 : Int) ≤ ↑k - 1 := by omega
     have i4 : (↑k : Int) - 1 < ↑l.length := by omega
     have i5 : ((↑k : Int) - 1).toNat = k - 1 := by omega
     have i6 : IntKind.i64.wrap (↑k - 1) = (↑k : Int) - 1 := IntWalk.i64_in _ (by omega)
     have z1 : decide (0 < k) = true := decide_eq_true (by omega)
     clear h0 ha e0
     by_cases hau : a < u
     ·have z2 : decide (u ≤ a) = false := decide_eq_false (by omega)
      have HG := hid (HGO.out (by rw [HKA.out]; exact decide_eq_true hau))
      clear hau
      go_wp2_with fail
      (refine wp_region_later (by kernel_rfl) (by kernel_rfl) ?_; (repeat (go_big_quiet_step ((go_at_call 99; exact Calls.later (HTM.out _) rfl)))); refine wpQuiet_nil ?_; rintro _ ⟨⟨w1, hb1⟩, rfl⟩)
      go_wp2
      exact ⟨⟨k + 1, by omega, by go_num, hid (bstep hb.out hb1), HG⟩, by simp [intOf]; omega⟩
     ·have z2 : decide (u ≤ a) = true := decide_eq_true (by omega)
      have HR := hid (HBAD.out (by rw [HKA.out]; exact decide_eq_false hau))
      clear hau
      go_wp2_with fail
      (refine wp_region_later (by kernel_rfl) (by kernel_rfl) ?_; (repeat (go_big_quiet_step ((go_at_call 99; exact Calls.later (HTM.out _) rfl)))); refine wpQuiet_nil ?_; rintro _ ⟨⟨w1, hb1⟩, rfl⟩)
      go_wp2
      go_ret
      exact ⟨ret_bool HR.out.symm, bstep HB0.out (bstep hb.out hb1)⟩
  ·have HR := hid (show mayL ns l = true from mayL_iff.2 fun j hj => hall.out j (by omega))
   go_wp2
   go_ret
   exact ⟨ret_bool HR.out.symm, bstep HB0.out hb.out⟩
end Go.Proofs.YtilgijmokjekgaaGreatDoor
end
section
/- Contracts: ref21.Each. -/
namespace Go.Proofs.YtilgijmokjekgaaGreatDoor
open Go Go.RowKit

/-- The places of a mask's values. -/
def eachL (m n : Nat) : List Int := ((List.range n).filter fun v => m.testBit v).map fun v : Nat => (v : Int) - 1
theorem eachL_succ (m n : Nat) : eachL m (n + 1) = eachL m n ++ (if m.testBit n = true then [(n : Int) - 1] else []) := by
 unfold eachL
 rw [List.range_succ, List.filter_append, List.map_append]
 by_cases h : m.testBit n = true
 ·simp [h]
 ·simp [h]
theorem eachL_len (m n : Nat) : (eachL m n).length ≤ n := by
 unfold eachL
 rw [List.length_map]
 have := List.length_filter_le (fun v => m.testBit v) (List.range n)
 simpa using this
theorem and_pw {m n : Nat} (hm : m ≤ 31) (hn : n ≤ 16) : bits .and .i64 (m : Int) (pw n) = ((m &&& 2 ^ n : Nat) : Int) := by
 have h1 : nm (m : Int) = m := nm_nat (by omega)
 have h3 : 2 ^ n ≤ 2 ^ 16 := Nat.pow_le_pow_right (by decide) hn
 have h2 : nm (pw n) = 2 ^ n := nm_nat (by omega)
 have h4 : m &&& 2 ^ n ≤ m := Nat.and_le_left
 rw [band _ _ (by rw [h1, h2]; omega), h1, h2]
theorem and_pw0 {m n : Nat} (h : m.testBit n = false) : m &&& 2 ^ n = 0 := by
 by_cases h0 : m &&& 2 ^ n = 0
 ·exact h0
 ·rw [Nat.and_comm] at h0
  rw [(pow_and n m).1 h0] at h
  cases h
set_option maxHeartbeats 1000000 in
theorem reach_any (m : Nat) (w : World) (hm : m ≤ 31) :
  Calls Tryz.prog 100 #[.int .i64 m] w fun e w' => ∃ v, e = .returned v ∧ OwnF fInt 3 w.heap.size w' v (eachL m 17) ∧ Below w.heap.size w w' := by
 obtain ⟨ii, hii⟩ := info_parts int_info
 have HII := hid hii
 clear hii
 go_enter Tryz.func100, Tryz.ntmps100
 go_wp2_with fail
 go_loopw [3, 4] (fun ov iv wr => ∃ n : Nat, n ≤ 17 ∧ iv = .int .i64 n ∧ Hid (OwnF fInt 3 w.heap.size wr ov (eachL m n)) ∧ Hid (Below w.heap.size w wr)) (fun _ iv _ => 17 - (intOf iv).toNat)
 case atStart => exact ⟨0, by omega, rfl, hid (OwnF.nil _ _ _ _), hid (b0 _)⟩
 case round =>
  obtain ⟨n, hn, rfl, ho, hb⟩ := hrel
  have hlen := eachL_len m n
  obtain ⟨Ao, co, hov⟩ := ho.out.form
  by_cases hn17 : n < 17
  ·have n1 : (0 : Int) ≤ ↑n := by omega
   have z1 : decide ((n : Int) ≤ 16) = true := decide_eq_true (by omega)
   have HA := hid (and_pw hm (show n ≤ 16 by omega))
   have HSU := hid (eachL_succ m n)
   have hsr := hb.out.size
   generalize hL : eachL m n = L at HSU ho hov hlen
   subst hov
   clear hL
   obtain ⟨p, hp⟩ : ∃ p, pw n = p := ⟨_, rfl⟩
   obtain ⟨x, hx⟩ : ∃ x, m &&& 2 ^ n = x := ⟨_, rfl⟩
   have hb2 := fun wx => rbit_any n wx (by omega)
   rw [hp, hx] at HA
   rw [hp] at hb2
   have hand := HA.out
   cases hbit : m.testBit n with
   | true =>
    have hx0 : x ≠ 0 := by
     rw [← hx, Nat.and_comm]
     exact (pow_and n m).2 hbit
    have HE := hid (show eachL m (n + 1) = L ++ [(n : Int) - 1] by rw [HSU.out, if_pos hbit])
    have hz : ((x : Int) == 0) = false := by simp; omega
    have HOK := hid (show fInt.ok ((n : Int) - 1) from ⟨by omega, by omega⟩)
    clear hbit HSU hx hx0 hp HA
    go_wp2_with (first
     | (go_at_call 64; refine (hb2 _).mono ?_; rintro e w2 ⟨rfl, hw2⟩; rw [hw2]; clear hw2)
     | (at_builtin; go_must (refine wpList_append_src _ rfl (.tmp 14) (.tmp 17) _ rfl w.heap.size 3 ii _ 1 8 Tryz.underlying22 HII.out.1 HII.out.2.1 HII.out.2.2.1 HII.out.2.2.2 rfl (by omega) (.slice Ao L.length co) L.length (fInt.all L) (by rfl) (by exact ho.out.1.alloc _) (some ⟨wr.heap.size, 0, none⟩) 1 1 (fInt.cells ((n : Int) - 1)) (by rfl) (by exact src_one (f := fInt) rfl) (by simp [fInt, Value.oneCell']) (by unfold maxLen; omega) (by omega) (by simp; omega) ?_; intro v2 w2 hown2 hg2 hat2; have HB2 := hid (own_app (v2 := v2) (hb.out.alloc hsr _) (ho.out.alloc _) (by simp; omega) hg2 rfl); have HO2 := hid (ho.out.snoc HOK.out hown2); clear hown2 hg2 hat2)))
    exact ⟨⟨n + 1, by omega, by go_num, hid (by rw [HE.out]; exact HO2.out), HB2⟩, by simp [intOf]; omega⟩
   | false =>
    have hx0 : x = 0 := by rw [← hx]; exact and_pw0 hbit
    have HE := hid (show eachL m (n + 1) = L by rw [HSU.out, if_neg (by rw [hbit]; decide), List.append_nil])
    have hz : ((x : Int) == 0) = true := by simp; omega
    clear hbit HSU hx hx0 hp HA
    go_wp2_with (first
     | (go_at_call 64; refine (hb2 _).mono ?_; rintro e w2 ⟨rfl, hw2⟩; rw [hw2]; clear hw2))
    exact ⟨⟨n + 1, by omega, by go_num, hid (by rw [HE.out]; exact ho.out), hb⟩, by simp [intOf]; omega⟩
  ·obtain rfl : n = 17 := by omega
   have z1 : decide (((17 : Nat) : Int) ≤ 16) = false := by decide
   go_wp2
   go_ret
   exact ⟨_, rfl, ho.out, hb.out⟩
end Go.Proofs.YtilgijmokjekgaaGreatDoor
end
section
/- Plain: what the reference's Says runs through. No program stands here. -/
namespace Go.Proofs.YtilgijmokjekgaaGreatDoor
open Go Go.RowKit

theorem SliceRd.lat {α : Type} {t : Ty α} {w wr : World} {v : Value} {l : List α} (h : SliceRd t w (Lt w.heap.size) v l) (hb : Below w.heap.size w wr) (e : Later wr) : SliceRd t e.w (Lt e.w.heap.size) v l := h.lift (bstep hb e.below) (bstep hb e.below).size
theorem WorldRd.lat {w wr : World} {v : Value} {us : List UnitW} (h : WorldRd w (Lt w.heap.size) v us) (hb : Below w.heap.size w wr) (e : Later wr) : WorldRd e.w (Lt e.w.heap.size) v us := h.lift (bstep hb e.below) (bstep hb e.below).size
theorem lat {w0 wr : World} {g o : Nat} {v : Value} (hb : Below w0.heap.size w0 wr) (hg : g < w0.heap.size) (h : w0.cell? ⟨g, o, none⟩ = some v) : ∀ e : Later wr, e.w.cell? ⟨g, o, none⟩ = some v := later_cell (Nat.lt_of_lt_of_le hg hb.size) (cell_below hb hg h)
section
variable {us : List UnitW} {ns : List Nat} {l : List Term}
theorem eachL_mem {m n : Nat} {x : Int} : x ∈ eachL m n ↔ ∃ v, v < n ∧ m.testBit v = true ∧ x = (v : Int) - 1 := by
 unfold eachL
 rw [List.mem_map]
 constructor
 ·rintro ⟨v, hv, rfl⟩
  rw [List.mem_filter, List.mem_range] at hv
  exact ⟨v, hv.1, hv.2, rfl⟩
 ·rintro ⟨v, h1, h2, rfl⟩
  exact ⟨v, by rw [List.mem_filter, List.mem_range]; exact ⟨h1, h2⟩, rfl⟩
theorem each_place {m k : Nat} (h0 : m.testBit 0 = false) (hk : k < (eachL m 17).length) : ∃ p : Nat, (eachL m 17)[k] = (p : Int) ∧ p < 16 ∧ m.testBit (p + 1) = true := by
 obtain ⟨v, h1, h2, h3⟩ := eachL_mem.1 (List.getElem_mem hk)
 have hv : v ≠ 0 := by
  intro e
  rw [e, h0] at h2
  cases h2
 refine ⟨v - 1, by omega, by omega, ?_⟩
 rw [show v - 1 + 1 = v by omega]
 exact h2
theorem says_each {bar : Bool} {M : Nat → Nat} {u : Nat} (h0 : (M u).testBit 0 = false) (h : ∀ k, (hk : k < (eachL (M u) 17).length) → brokenAt us bar M u ((eachL (M u) 17)[k]).toNat = true) : saysN us bar M u = true := by
 refine says_true h0 fun p hp hb => ?_
 obtain ⟨k, hk, e⟩ := List.getElem_of_mem (eachL_mem.2 ⟨p + 1, show p + 1 < 17 by omega, hb, rfl⟩ : ((p + 1 : Nat) : Int) - 1 ∈ eachL (M u) 17)
 have h1 := h k hk
 rw [e] at h1
 rw [← h1]
 congr 1
 omega
theorem mask_masks (hm : mayL ns l = true) {y : Int} (h0 : 0 ≤ y) (h1 : y < ns.length) : maskF ns l y = (masksF ns l y.toNat : Int) := by
 obtain ⟨-, h2⟩ := may_masks hm
 have h3 := mask_canon (ns := ns) (masksF ns l) y
 rw [← h2] at h3
 rw [h3]
 unfold maskN
 rw [if_neg (by omega)]
/-- A bit alone. -/
theorem bit_alone {m p : Nat} : (m &&& 2 ^ p = 2 ^ p) ↔ m.testBit p = true := by
 constructor
 ·intro h
  have h1 := congrArg (fun x => x.testBit p) h
  simp only [Nat.testBit_and, Nat.testBit_two_pow, decide_true, Bool.and_true] at h1
  exact h1
 ·intro h
  apply Nat.eq_of_testBit_eq
  intro j
  rw [Nat.testBit_and, Nat.testBit_two_pow]
  by_cases e : p = j
  ·subst e; rw [h, decide_eq_true rfl]; rfl
  ·rw [decide_eq_false e, Bool.and_false]
theorem two_bit {m p : Nat} : (m &&& 2 ^ p != 0) = decide (2 ^ p &&& m = 2 ^ p) := by
 rw [Bool.eq_iff_iff, bne_iff_ne, decide_eq_true_eq, Nat.and_comm (2 ^ p) m, bit_alone, Nat.and_comm, pow_and]
/-- The value that a want's unit has: what is asked, or what the terms say. -/
def valueN (M : Nat → Nat) (u p : Nat) (x : WantD) : Nat := if x.u = (u : Int) then 2 ^ (p + 1) else M x.u.toNat
theorem lost_value (M : Nat → Nat) (u p : Nat) (x : WantD) : lostN us M u p x = (metN us x &&& valueN M u p x == 0) := rfl
theorem sure_value (M : Nat → Nat) (u p : Nat) (x : WantD) : sureN us M u p x = decide (valueN M u p x &&& metN us x = valueN M u p x) := by
 unfold sureN valueN
 split
 ·exact two_bit
 ·rw [Bool.eq_iff_iff]; simp
end
end Go.Proofs.YtilgijmokjekgaaGreatDoor
end
section
/- Contracts: ref23.never, always. -/
namespace Go.Proofs.YtilgijmokjekgaaGreatDoor
open Go Go.RowKit

theorem all_at {α : Type} {l : List α} {f : α → Bool} {k : Nat} (hk : k < l.length) (h : f l[k] = false) : l.all f = false := List.all_eq_false.2 ⟨_, List.getElem_mem hk, by rw [h]; decide⟩
theorem all_go {α : Type} {l : List α} {f : α → Bool} (h : ∀ k, (hk : k < l.length) → f l[k] = true) : l.all f = true := List.all_eq_true.2 fun x hx => by
 obtain ⟨k, hk, rfl⟩ := List.getElem_of_mem hx
 exact h k hk
theorem masks_le {ns : List Nat} (ho : NsOk ns) {l : List Term} (hm : mayL ns l = true) {u : Nat} (hu : u < ns.length) : masksF ns l u ≤ 31 := (may_masks hm).1.le ho u hu
theorem bit_le {p : Nat} (hp : p < 4) : 2 ^ (p + 1) ≤ 16 := by
 have : 2 ^ (p + 1) ≤ 2 ^ 4 := Nat.pow_le_pow_right (by decide) (by omega)
 omega
set_option maxRecDepth 100000 in
set_option maxHeartbeats 4000000 in
theorem rnever_any (v lv tv : Value) (us : List UnitW) (l : List WantD) (kk a b : Int) (u p : Nat) (ts : List Term) (w : World) (h : WorldRd w (Lt w.heap.size) v us) (ho : UnitsOk us) (hl : SliceRd tWant w (Lt w.heap.size) lv l) (hi : WantsIn us.length l)
  (ht : SliceRd tTerm w (Lt w.heap.size) tv ts) (hm : mayL (nsOf us) ts = true) (hp : p < 4) (_hu : u < us.length) :
  Calls Tryz.prog 127 #[v, lv, .agg #[.int .i64 kk, .int .i64 u, .int .i64 a, .int .i64 b, tv], .int .i64 ((2 ^ (p + 1) : Nat) : Int)] w fun e w' => e = .returned (.bool (l.all (lostN us (masksF (nsOf us) ts) u p))) ∧ Below w.heap.size w w' := by
 have HH := hid h
 have HO := hid ho
 have HT := hid ht
 have HM := hid hm
 have HI := hid hi.2
 have hl1000 := hi.1
 obtain ⟨g, cap0, rfl, hg, -⟩ := h
 obtain ⟨A, cap, rfl, hcap, hmax, hcc⟩ := hl.wants
 obtain ⟨At, ct, rfl, -⟩ := ht.terms
 have HC := hid hcc
 have hp16 := bit_le hp
 obtain ⟨tn, htn⟩ : ∃ tn, ts.length = tn := ⟨_, rfl⟩
 rw [htn] at HT ⊢
 obtain ⟨vp, hvp⟩ : ∃ vp, 2 ^ (p + 1) = vp := ⟨_, rfl⟩
 have HVP := hid hvp
 rw [hvp] at hp16 ⊢
 clear hcc hl ho hi ht hm hvp htn
 go_enter Tryz.func127, Tryz.ntmps127
 go_wp2_with fail
 obtain ⟨w0, hw0⟩ : ∃ w0 : World, w0 = (w.alloc (.cells #[.slice (some ⟨g, 0, none⟩) us.length cap0] 25)).alloc (.cells #[.int .i64 kk, .int .i64 u, .int .i64 a, .int .i64 b, .slice At tn ct] 36) := ⟨_, rfl⟩
 have hb0 : Below w.heap.size w w0 := hw0 ▸ balloc (balloc (b0 w) _) _
 have hl1 : w.heap.size + 1 < w0.heap.size := by rw [hw0]; simp
 have hl0 : w.heap.size < w0.heap.size := by omega
 have Q0 := hid (show w0.cell? ⟨w.heap.size, 0, none⟩ = some (.slice (some ⟨g, 0, none⟩) us.length cap0) by rw [hw0]; exact alloc2_old rfl)
 have Q1 := hid (show w0.cell? ⟨w.heap.size + 1, 1, none⟩ = some (.int .i64 u) by rw [hw0]; exact alloc2_new rfl)
 have Q4 := hid (show w0.cell? ⟨w.heap.size + 1, 4, none⟩ = some (.slice At tn ct) by rw [hw0]; exact alloc2_new rfl)
 have HB0 := hid hb0
 rw [← hw0]
 clear hw0 hb0
 go_loopw [9, 10] (fun iv _ wr => ∃ k : Nat, k ≤ l.length ∧ iv = .int .i64 k ∧ Hid (Below w0.heap.size w0 wr) ∧ Hid (∀ j, (hj : j < l.length) → j < k → lostN us (masksF (nsOf us) ts) u p l[j] = true)) (fun iv _ _ => l.length - (RowKit.intOf iv).toNat)
 case atStart => exact ⟨0, Nat.zero_le _, rfl, hid (b0 w0), hid (fun j _ hj => absurd hj (by omega))⟩
 case round =>
  obtain ⟨k, hk, rfl, hb, hn⟩ := hrel
  by_cases hlt : k < l.length
  ·obtain ⟨gg, o, a', b', hA, hF, g0, g1, g2, hra, hrb⟩ := HC.out k hlt
   subst hA
   obtain ⟨hx0, hx1⟩ := HI.out _ (List.getElem_mem hlt)
   have HALL := hid (fun (h : lostN us (masksF (nsOf us) ts) u p l[k] = false) => all_at (f := lostN us (masksF (nsOf us) ts) u p) hlt h)
   have HGO := hid (fun (h : lostN us (masksF (nsOf us) ts) u p l[k] = true) j (hj : j < l.length) (hjk : j < k + 1) => if e : j = k then by subst e; exact h else hn.out j hj (by omega))
   have HMET := hid (fun (W : World) (hW : Below w.heap.size w W) => met_any (.agg #[.slice (some ⟨g, 0, none⟩) us.length cap0]) a' b' us l[k] W (HH.out.lift hW hW.size) HO.out (hra.lift hW hW.size) (hrb.lift hW hW.size) hx0 hx1)
   obtain ⟨Aa, ca, hav, -⟩ := hra.shape
   obtain ⟨Ab, cb, hbv, -⟩ := hrb.shape
   have hmle := metN_le us l[k]
   have hf31 := fullN_le HO.out.ns l[k].u.toNat
   have HLV : Hid (lostN us (masksF (nsOf us) ts) u p l[k] = (metN us l[k] &&& valueN (masksF (nsOf us) ts) u p l[k] == 0)) := hid rfl
   obtain ⟨xu, hxu⟩ : ∃ xu : Nat, l[k].u = (xu : Int) := ⟨l[k].u.toNat, by omega⟩
   have hxl : xu < (nsOf us).length := by simp [nsOf]; omega
   have hxi : I64 (xu : Int) := ⟨by omega, by have h1 := HO.out.ns.hi; omega⟩
   have HMASK := hid (fun (W : World) (hW : Below w.heap.size w W) => rmask_any (.agg #[.slice (some ⟨g, 0, none⟩) us.length cap0]) (.slice At tn ct) (nsOf us) ts xu W (HH.out.lift hW hW.size).uni HO.out.ns (HT.out.lift hW hW.size) hxi)
   rw [mask_masks HM.out (by omega) (by omega), Int.toNat_natCast] at HMASK
   have hm31 := masks_le HO.out.ns HM.out hxl
   have HVN : Hid (valueN (masksF (nsOf us) ts) u p l[k] = if xu = u then vp else masksF (nsOf us) ts xu) := hid (by
    unfold valueN
    rw [hxu, HVP.out, Int.toNat_natCast]
    by_cases e : xu = u
    ·rw [if_pos e, if_pos (by omega)]
    ·rw [if_neg e, if_neg (by omega)])
   rw [hxu, Int.toNat_natCast] at hmle hf31
   rw [hxu] at g0 HMET
   generalize l[k].s.rel.length = n1 at hav
   generalize l[k].s.pre.length = n2 at hbv
   subst hav hbv
   have hbB := hb.out
   have hbBw := bstep HB0.out hb.out
   have i1 : (0 : Int) ≤ ↑k := by omega
   have i2 : (↑k : Int) < ↑l.length := by omega
   obtain ⟨mt, hmt⟩ : ∃ mt, metN us l[k] = mt := ⟨_, rfl⟩
   rw [hmt] at HMET HLV hmle
   obtain ⟨mm, hmm⟩ : ∃ mm, masksF (nsOf us) ts xu = mm := ⟨_, rfl⟩
   rw [hmm] at HMASK HVN hm31
   obtain ⟨lo, hlo⟩ : ∃ lo, lostN us (masksF (nsOf us) ts) u p l[k] = lo := ⟨_, rfl⟩
   rw [hlo] at HALL HGO HLV
   have hmt31 : mt ≤ 31 := by omega
   clear hra hrb hmt hxu hf31 hx0 hx1 hxl hmm hlo hxi hmle
   have l0 := lat hbB hl0 Q0.out
   have l1 := lat hbB hl1 Q1.out
   have l4 := lat hbB hl1 Q4.out
   have l5 := lat hbBw hF g0
   have l6 := lat hbBw hF g1
   have l7 := lat hbBw hF g2
   have HMASKL := hid (fun e : Later wr => HMASK.out e.w (bstep hbBw e.below))
   clear l1 l6 l7
   go_wp2_with fail
   (refine wp_region_later (by kernel_rfl) (by kernel_rfl) ?_; (repeat (go_big_quiet_step ((go_at_call 83; exact Calls.later (HMASKL.out _) rfl)))); refine wpQuiet_nil ?_; rintro w1 ⟨⟨_, hw1⟩, rfl⟩)
   have hb1 := bstep hb.out hw1
   have hb1w := bstep HB0.out hb1
   have m0 := lat hb1 hl0 Q0.out
   have m1 := lat hb1 hl1 Q1.out
   have m4 := lat hb1 hl1 Q4.out
   have m5 := lat hb1w hF g0
   have m6 := lat hb1w hF g1
   have m7 := lat hb1w hF g2
   have HMETL := hid (fun e : Later w1 => HMET.out e.w (bstep hb1w e.below))
   by_cases he : xu = u
   case' pos =>
    have hz : ((xu : Int) == (u : Int)) = true := by rw [beq_iff_eq]; omega
    rw [if_pos he] at HVN
    obtain ⟨vv, rfl⟩ : ∃ vv, vv = vp := ⟨_, rfl⟩
   case' neg =>
    have hz : ((xu : Int) == (u : Int)) = false := beq_eq_false_iff_ne.2 (by omega)
    rw [if_neg he] at HVN
    obtain ⟨vv, rfl⟩ : ∃ vv, vv = mm := ⟨_, rfl⟩
   all_goals
    rw [HVN.out] at HLV
    have hand := and_pq (m := vv) (q := mt) (by omega) (by omega)
    rw [Nat.and_comm mt vv] at HLV
    have hne := int_ne0 (vv &&& mt)
    generalize vv &&& mt = r at hand HLV hne
    clear he HVN
    cases lo with
    | true =>
     have hr : (r == 0) = true := HLV.out.symm
     have hne2 : ((r : Int) != 0) = false := by rw [hne, bne, hr]; rfl
     clear hne hr HLV
     have HG := hid (HGO.out rfl)
     clear HGO HALL
     go_wp2_with fail
     (refine wp_region_later (by kernel_rfl) (by kernel_rfl) ?_; (repeat (go_big_quiet_step ((fail)))); refine wpQuiet_nil ?_; rintro w2 ⟨⟨_, hw2⟩, rfl⟩)
     have hb2 := bstep hb1 hw2
     have hb2w := bstep HB0.out hb2
     clear m0 m1 m4 m5 m6 m7
     have n0 := lat hb2 hl0 Q0.out
     have n1 := lat hb2 hl1 Q1.out
     have n4 := lat hb2 hl1 Q4.out
     have n5 := lat hb2w hF g0
     have n6 := lat hb2w hF g1
     have n7 := lat hb2w hF g2
     have HMETM := hid (fun e : Later w2 => HMET.out e.w (bstep hb2w e.below))
     go_wp2_with fail
     (refine wp_region_later (by kernel_rfl) (by kernel_rfl) ?_; (repeat (go_big_quiet_step ((go_at_call 66; exact Calls.later (HMETM.out _) rfl)))); refine wpQuiet_nil ?_; rintro w3 ⟨⟨_, hw3⟩, rfl⟩)
     go_wp2
     exact ⟨⟨k + 1, by omega, by go_num, hid (bstep hb2 hw3), HG⟩, by simp [RowKit.intOf]; omega⟩
    | false =>
     have hr : (r == 0) = false := HLV.out.symm
     have hne2 : ((r : Int) != 0) = true := by rw [hne, bne, hr]; rfl
     clear hne hr HLV
     have HR := hid (HALL.out rfl)
     clear HGO HALL
     go_wp2_with fail
     (refine wp_region_later (by kernel_rfl) (by kernel_rfl) ?_; (repeat (go_big_quiet_step ((fail)))); refine wpQuiet_nil ?_; rintro w2 ⟨⟨_, hw2⟩, rfl⟩)
     have hb2 := bstep hb1 hw2
     have hb2w := bstep HB0.out hb2
     clear m0 m1 m4 m5 m6 m7
     have n0 := lat hb2 hl0 Q0.out
     have n1 := lat hb2 hl1 Q1.out
     have n4 := lat hb2 hl1 Q4.out
     have n5 := lat hb2w hF g0
     have n6 := lat hb2w hF g1
     have n7 := lat hb2w hF g2
     have HMETM := hid (fun e : Later w2 => HMET.out e.w (bstep hb2w e.below))
     go_wp2_with fail
     (refine wp_region_later (by kernel_rfl) (by kernel_rfl) ?_; (repeat (go_big_quiet_step ((go_at_call 66; exact Calls.later (HMETM.out _) rfl)))); refine wpQuiet_nil ?_; rintro w3 ⟨⟨_, hw3⟩, rfl⟩)
     go_wp2
     go_ret
     exact ⟨ret_bool HR.out.symm, bstep HB0.out (bstep hb2 hw3)⟩
  ·have HR := hid (all_go (f := lostN us (masksF (nsOf us) ts) u p) fun j hj => hn.out j hj (by omega))
   go_wp2
   go_ret
   exact ⟨ret_bool HR.out.symm, bstep HB0.out hb.out⟩
theorem tells_two (h m : Nat) : (tellsN h m == 2) = decide (h &&& m = h) := by
 unfold tellsN
 by_cases e : h &&& m = h
 ·rw [if_pos e, decide_eq_true e]; rfl
 ·rw [if_neg e, decide_eq_false e]
  split <;> rfl
theorem al3_new {w : World} {o1 o2 : Obj} {cs : Array Value} {e : TypeId} {i : Nat} {v : Value} (h : cs[i]? = some v) : (((w.alloc o1).alloc o2).alloc (.cells cs e)).cell? ⟨w.heap.size + 2, i, none⟩ = some v := by
 have h1 := alloc2_new (w := w.alloc o1) (o1 := o2) (e := e) h
 rwa [show (w.alloc o1).heap.size + 1 = w.heap.size + 2 by simp] at h1
theorem al3_mid {w : World} {o1 o3 : Obj} {cs : Array Value} {e : TypeId} {i : Nat} {v : Value} (h : cs[i]? = some v) : (((w.alloc o1).alloc (.cells cs e)).alloc o3).cell? ⟨w.heap.size + 1, i, none⟩ = some v :=
 cell_below (balloc (b0 _) o3) (by simp) (alloc2_new h)
theorem al3_old {w : World} {o2 o3 : Obj} {cs : Array Value} {e : TypeId} {i : Nat} {v : Value} (h : cs[i]? = some v) : (((w.alloc (.cells cs e)).alloc o2).alloc o3).cell? ⟨w.heap.size, i, none⟩ = some v :=
 cell_below (balloc (b0 _) o3) (by simp; omega) (alloc2_old h)
set_option maxRecDepth 100000 in
set_option maxHeartbeats 4000000 in
theorem ralways_any (v av bv tv : Value) (us : List UnitW) (x : WantD) (kk a b : Int) (u p : Nat) (ts : List Term) (w : World) (h : WorldRd w (Lt w.heap.size) v us) (ho : UnitsOk us) (hra : SliceRd fSpan.ty w (Lt w.heap.size) av x.s.rel) (hrb : SliceRd fSpan.ty w (Lt w.heap.size) bv x.s.pre) (hx0 : 0 ≤ x.u) (hx1 : x.u < us.length)
  (ht : SliceRd tTerm w (Lt w.heap.size) tv ts) (hm : mayL (nsOf us) ts = true) (hp : p < 4) (_hu : u < us.length) :
  Calls Tryz.prog 128 #[v, .agg #[.int .i64 x.u, av, bv], .agg #[.int .i64 kk, .int .i64 u, .int .i64 a, .int .i64 b, tv], .int .i64 ((2 ^ (p + 1) : Nat) : Int)] w fun e w' => e = .returned (.bool (sureN us (masksF (nsOf us) ts) u p x)) ∧ Below w.heap.size w w' := by
 have HH := hid h
 have HO := hid ho
 have HT := hid ht
 have hp16 := bit_le hp
 have HMET := hid (fun (W : World) (hW : Below w.heap.size w W) => met_any v av bv us x W (h.lift hW hW.size) ho (hra.lift hW hW.size) (hrb.lift hW hW.size) hx0 hx1)
 have hmle := metN_le us x
 have hf31 := fullN_le ho.ns x.u.toNat
 have HSV := hid (sure_value (us := us) (masksF (nsOf us) ts) u p x)
 obtain ⟨xu, hxu⟩ : ∃ xu : Nat, x.u = (xu : Int) := ⟨x.u.toNat, by omega⟩
 have hxl : xu < (nsOf us).length := by simp [nsOf]; omega
 have hxi : I64 (xu : Int) := ⟨by omega, by have h1 := ho.ns.hi; omega⟩
 have HMASK := hid (fun (W : World) (hW : Below w.heap.size w W) => rmask_any v tv (nsOf us) ts xu W (h.lift hW hW.size).uni ho.ns (ht.lift hW hW.size) hxi)
 rw [mask_masks hm (by omega) (by omega), Int.toNat_natCast] at HMASK
 have hm31 := masks_le ho.ns hm hxl
 obtain ⟨vp, hvp⟩ : ∃ vp, 2 ^ (p + 1) = vp := ⟨_, rfl⟩
 have HVN : Hid (valueN (masksF (nsOf us) ts) u p x = if xu = u then vp else masksF (nsOf us) ts xu) := hid (by
  unfold valueN
  rw [hxu, hvp, Int.toNat_natCast]
  by_cases e : xu = u
  ·rw [if_pos e, if_pos (by omega)]
  ·rw [if_neg e, if_neg (by omega)])
 obtain ⟨g, cap0, rfl, hg, -⟩ := h
 obtain ⟨At, ct, rfl, -⟩ := ht.terms
 obtain ⟨Aa, ca, hav, -⟩ := hra.shape
 obtain ⟨Ab, cb, hbv, -⟩ := hrb.shape
 obtain ⟨tn, htn⟩ : ∃ tn, ts.length = tn := ⟨_, rfl⟩
 obtain ⟨mt, hmt⟩ : ∃ mt, metN us x = mt := ⟨_, rfl⟩
 obtain ⟨mm, hmm⟩ : ∃ mm, masksF (nsOf us) ts xu = mm := ⟨_, rfl⟩
 obtain ⟨su, hsu⟩ : ∃ su, sureN us (masksF (nsOf us) ts) u p x = su := ⟨_, rfl⟩
 rw [htn] at HMASK
 rw [hmm] at HMASK HVN hm31
 rw [hmt] at HMET hmle HSV
 rw [hxu, Int.toNat_natCast] at hmle hf31
 rw [hsu] at HSV
 generalize x.s.rel.length = n1 at hav
 generalize x.s.pre.length = n2 at hbv
 subst hav hbv
 rw [hxu] at HMET ⊢
 rw [hvp] at hp16 ⊢
 rw [hsu, htn]
 have hmt31 : mt ≤ 31 := by omega
 clear ho ht hm hvp htn hra hrb hmt hmm hsu hxu hx0 hx1 hxi hf31 hmle
 go_enter Tryz.func128, Tryz.ntmps128
 obtain ⟨w0, hw0⟩ : ∃ w0 : World, w0 = ((w.alloc (.cells #[.slice (some ⟨g, 0, none⟩) us.length cap0] 25)).alloc (.cells #[.int .i64 xu, .slice Aa n1 ca, .slice Ab n2 cb] 83)).alloc (.cells #[.int .i64 kk, .int .i64 u, .int .i64 a, .int .i64 b, .slice At tn ct] 36) := ⟨_, rfl⟩
 have hb0 : Below w.heap.size w w0 := hw0 ▸ balloc (balloc (balloc (b0 w) _) _) _
 have hl2 : w.heap.size + 2 < w0.heap.size := by rw [hw0]; simp
 have hl1 : w.heap.size + 1 < w0.heap.size := by omega
 have hl0 : w.heap.size < w0.heap.size := by omega
 have Q0 := hid (show w0.cell? ⟨w.heap.size, 0, none⟩ = some (.slice (some ⟨g, 0, none⟩) us.length cap0) by rw [hw0]; exact al3_old rfl)
 have Q1 := hid (show w0.cell? ⟨w.heap.size + 1, 0, none⟩ = some (.int .i64 xu) by rw [hw0]; exact al3_mid rfl)
 have Q2 := hid (show w0.cell? ⟨w.heap.size + 1, 1, none⟩ = some (.slice Aa n1 ca) by rw [hw0]; exact al3_mid rfl)
 have Q3 := hid (show w0.cell? ⟨w.heap.size + 1, 2, none⟩ = some (.slice Ab n2 cb) by rw [hw0]; exact al3_mid rfl)
 have Q4 := hid (show w0.cell? ⟨w.heap.size + 2, 1, none⟩ = some (.int .i64 u) by rw [hw0]; exact al3_new rfl)
 have HB0 := hid hb0
 have HW0 := hid hw0
 clear hw0 hb0
 by_cases he : xu = u
 case' pos =>
  have hz : ((xu : Int) == (u : Int)) = true := by rw [beq_iff_eq]; omega
  rw [if_pos he] at HVN
  obtain ⟨vv, rfl⟩ : ∃ vv, vv = vp := ⟨_, rfl⟩
 case' neg =>
  have hz : ((xu : Int) == (u : Int)) = false := beq_eq_false_iff_ne.2 (by omega)
  rw [if_neg he] at HVN
  obtain ⟨vv, rfl⟩ : ∃ vv, vv = mm := ⟨_, rfl⟩
 all_goals
  rw [HVN.out] at HSV
  have HTL := hid (fun W => tells_any vv mt W (by omega) (by omega))
  have h2 := tells_two vv mt
  rw [← HSV.out] at h2
  generalize tellsN vv mt = tz at HTL h2
  clear he HVN
  go_wp2_with (first
   | (go_at_call 83; rw [← HW0.out]; refine (HMASK.out _ HB0.out).mono ?_; rintro e w1 ⟨rfl, hb1⟩; have HB1 := hid (bstep HB0.out hb1); have c0 := cell_below hb1 hl0 Q0.out; have c1 := cell_below hb1 hl1 Q1.out; have c2 := cell_below hb1 hl1 Q2.out; have c3 := cell_below hb1 hl1 Q3.out; have c4 := cell_below hb1 hl2 Q4.out; clear hb1)
   | (go_at_call 66; refine (HMET.out _ HB1.out).mono ?_; rintro e w2 ⟨rfl, hb2⟩; have HB2 := hid (bstep HB1.out hb2); clear hb2)
   | (go_at_call 151; refine (HTL.out _).mono ?_; rintro e w3 ⟨rfl, hw3⟩; rw [hw3]; clear hw3))
  go_ret
  exact ⟨rfl, HB2.out⟩
end Go.Proofs.YtilgijmokjekgaaGreatDoor
end
section
/- Contract: ref23.breaks. -/
namespace Go.Proofs.YtilgijmokjekgaaGreatDoor
open Go Go.RowKit

theorem any_atB {α : Type} {l : List α} {f : α → Bool} {k : Nat} (hk : k < l.length) (h : f l[k] = true) : l.any f = true := List.any_eq_true.2 ⟨_, List.getElem_mem hk, h⟩
theorem any_noB {α : Type} {l : List α} {f : α → Bool} (h : ∀ k, (hk : k < l.length) → f l[k] = false) : l.any f = false := List.any_eq_false.2 fun x hx => by
 obtain ⟨k, hk, rfl⟩ := List.getElem_of_mem hx
 rw [h k hk]
 decide
set_option maxRecDepth 100000 in
set_option maxHeartbeats 8000000 in
theorem rbreaks_any (v tv : Value) (us : List UnitW) (kk a b : Int) (u p : Nat) (ts : List Term) (w : World) (h : WorldRd w (Lt w.heap.size) v us) (ho : UnitsOk us) (ht : SliceRd tTerm w (Lt w.heap.size) tv ts) (hm : mayL (nsOf us) ts = true) (hu : u < us.length) (hp : p < us[u].cands.length) :
  Calls Tryz.prog 101 #[v, .agg #[.int .i64 kk, .int .i64 u, .int .i64 a, .int .i64 b, tv], .int .i64 p] w fun e w' => e = .returned (.bool (brokenN us (decide (kk ≠ 2)) (masksF (nsOf us) ts) u p us[u].cands[p])) ∧ Below w.heap.size w w' := by
 have HH := hid h
 have HO := hid ho
 have HT := hid ht
 have HM := hid hm
 have h11 : us.length ≤ 11 := by have := ho.ns.hi; simpa [nsOf] using this
 have h4 : us[u].cands.length ≤ 4 := by
  have := ho.ns.le u (by simpa [nsOf] using hu)
  simpa [nsOf] using this
 have hp4 : p < 4 := by omega
 have hpc : p = 0 ∨ p = 1 ∨ p = 2 ∨ p = 3 := by omega
 have HWI := hid (ok_wants ho hu hp)
 obtain ⟨g, cap0, rfl, hg, hun⟩ := h.opened
 obtain ⟨Ac, cc, hcu, hcd⟩ := hun u hu
 obtain ⟨gc, oc, nv, bv, hAc, hFc, hat, -, hnd, hbr⟩ := hcd p hp
 subst hAc
 obtain ⟨cd, hcdd⟩ : ∃ cd, us[u].cands[p] = cd := ⟨_, rfl⟩
 rw [hcdd] at hat hnd hbr HWI ⊢
 have HND := hid hnd
 have HBR := hid hbr
 obtain ⟨An, cn, rfl, hcn, hcnm, hnl⟩ := hnd.lists
 obtain ⟨Ab, cb, rfl, hcb, hcbm, hbl⟩ := hbr.wants
 have HNL := hid hnl
 have HBL := hid hbl
 obtain ⟨At, ct, rfl, -⟩ := ht.terms
 obtain ⟨nc, hnc⟩ : ∃ nc, us[u].cands.length = nc := ⟨_, rfl⟩
 rw [hnc] at hcu hp
 obtain ⟨c0, c1, c2, c3, c4, c5, c6, c7⟩ := hat
 obtain ⟨pq, hpq⟩ : ∃ pq, 2 ^ (p + 1) = pq := ⟨_, rfl⟩
 have HPQ := hid hpq
 have hsh : wrap64 (2 * (2 : Int) ^ p) = (pq : Int) := by rw [← hpq]; rcases hpc with rfl | rfl | rfl | rfl <;> simp [wrap64]
 obtain ⟨tn, htn⟩ : ∃ tn, ts.length = tn := ⟨_, rfl⟩
 have HTL := hid htn
 rw [htn] at HT ⊢
 obtain ⟨nn, hnn⟩ : ∃ nn, cd.needs.length = nn := ⟨_, rfl⟩
 obtain ⟨nb, hnb⟩ : ∃ nb, cd.bars.length = nb := ⟨_, rfl⟩
 have HNN := hid hnn
 have HNB := hid hnb
 have hnn8 : nn ≤ 8 := by rw [← hnn]; exact HWI.out.1.1
 have hnb1000 : nb ≤ 1000 := by rw [← hnb]; exact HWI.out.2.1
 rw [hnn] at c6 hcn HND
 rw [hnb] at c7 hcb HBR
 have i0 : (0 : Int) ≤ ↑u := by omega
 have i1 : (↑u : Int) < ↑us.length := by omega
 have i2 : (0 : Int) ≤ ↑p := by omega
 have i3 : (↑p : Int) < ↑nc := by omega
 have HBN : Hid (brokenN us (decide (kk ≠ 2)) (masksF (nsOf us) ts) u p cd = if kk ≠ 2 then cd.bars.any (sureN us (masksF (nsOf us) ts) u p) else cd.needs.any fun r => r.all (lostN us (masksF (nsOf us) ts) u p)) := hid (by
  unfold brokenN
  by_cases e : kk = 2
  ·rw [decide_eq_false (by omega), if_neg (by decide), if_neg (by omega)]
  ·rw [decide_eq_true e, if_pos rfl, if_pos e])
 have hgW : g < w.heap.size := hg
 have hgcW : gc < w.heap.size := hFc
 clear h ho ht hm hun hcd hnd hbr hnl hbl hnc hpc hpq htn hnn hnb hcdd
 obtain ⟨w0, hw0⟩ : ∃ w0 : World, w0 = ((w.alloc (.cells #[.slice (some ⟨g, 0, none⟩) us.length cap0] 25)).alloc (.cells #[.int .i64 kk, .int .i64 u, .int .i64 a, .int .i64 b, .slice At tn ct] 36)).alloc (.cells #[.int .i64 cd.v.major, .int .i64 cd.v.minor, .int .i64 cd.v.patch, .string cd.v.pre, .string cd.v.build, .int .i64 cd.sh, .slice An nn cn, .slice Ab nb cb] 69) := ⟨_, rfl⟩
 have hb0 : Below w.heap.size w w0 := hw0 ▸ balloc (balloc (balloc (b0 w) _) _) _
 have hl2 : w.heap.size + 2 < w0.heap.size := by rw [hw0]; simp
 have hl1 : w.heap.size + 1 < w0.heap.size := by omega
 have hl0 : w.heap.size < w0.heap.size := by omega
 have Q0 := hid (show w0.cell? ⟨w.heap.size, 0, none⟩ = some (.slice (some ⟨g, 0, none⟩) us.length cap0) by rw [hw0]; exact al3_old rfl)
 have R0 := hid (show w0.cell? ⟨w.heap.size + 1, 0, none⟩ = some (.int .i64 kk) by rw [hw0]; exact al3_mid rfl)
 have R1 := hid (show w0.cell? ⟨w.heap.size + 1, 1, none⟩ = some (.int .i64 u) by rw [hw0]; exact al3_mid rfl)
 have R2 := hid (show w0.cell? ⟨w.heap.size + 1, 2, none⟩ = some (.int .i64 a) by rw [hw0]; exact al3_mid rfl)
 have R3 := hid (show w0.cell? ⟨w.heap.size + 1, 3, none⟩ = some (.int .i64 b) by rw [hw0]; exact al3_mid rfl)
 have R4 := hid (show w0.cell? ⟨w.heap.size + 1, 4, none⟩ = some (.slice At tn ct) by rw [hw0]; exact al3_mid rfl)
 have Q6 := hid (show w0.cell? ⟨w.heap.size + 2, 6, none⟩ = some (.slice An nn cn) by rw [hw0]; exact al3_new rfl)
 have Q7 := hid (show w0.cell? ⟨w.heap.size + 2, 7, none⟩ = some (.slice Ab nb cb) by rw [hw0]; exact al3_new rfl)
 have HB0 := hid hb0
 have HW0 := hid hw0
 clear hw0 hb0
 by_cases hk2 : kk = 2
 ·have z2 : (kk == 2) = true := beq_iff_eq.2 hk2
  rw [if_neg (by omega)] at HBN
  clear hk2
  go_enter Tryz.func101, Tryz.ntmps101
  go_wp2_with fail
  rw [← HW0.out]
  clear hcu c0 c1 c2 c3 c4 c5 c6 c7
  go_loopw [9] (fun iv wr => ∃ k : Nat, k ≤ nn ∧ iv = .int .i64 k ∧ Hid (Below w0.heap.size w0 wr) ∧ Hid (∀ j, (hj : j < cd.needs.length) → j < k → cd.needs[j].all (lostN us (masksF (nsOf us) ts) u p) = false)) (fun iv _ => nn - (RowKit.intOf iv).toNat)
  case atStart => exact ⟨0, Nat.zero_le _, rfl, hid (b0 w0), hid (fun j _ hj => absurd hj (by omega))⟩
  case round =>
   obtain ⟨k, hk, rfl, hb, hn⟩ := hrel
   have x6 := cell_below hb.out hl2 Q6.out
   by_cases hlt : k < nn
   ·have hkL : k < cd.needs.length := by rw [HNN.out]; exact hlt
    obtain ⟨gn, on, lv, hAn, hFn, cN, hlr⟩ := HNL.out k hkL
    subst hAn
    have hbw := bstep HB0.out hb.out
    have HNEV := hid (fun e : Later wr => rnever_any (.agg #[.slice (some ⟨g, 0, none⟩) us.length cap0]) lv (.slice At tn ct) us cd.needs[k] kk a b u p ts e.w (HH.out.lat hbw e) HO.out (hlr.lat hbw e) (HWI.out.1.2 _ (List.getElem_mem hkL)) (HT.out.lat hbw e) HM.out hp4 hu)
    rw [HPQ.out] at HNEV
    obtain ⟨Al, cl, hlv, -⟩ := hlr.wants
    generalize cd.needs[k].length = ll at hlv
    subst hlv
    have HANY := hid (fun (h : cd.needs[k].all (lostN us (masksF (nsOf us) ts) u p) = true) => any_atB (f := fun r : List WantD => r.all (lostN us (masksF (nsOf us) ts) u p)) hkL h)
    have HGO := hid (fun (h : cd.needs[k].all (lostN us (masksF (nsOf us) ts) u p) = false) j (hj : j < cd.needs.length) (hjk : j < k + 1) => if e : j = k then by subst e; exact h else hn.out j hj (by omega))
    have j0 : (0 : Int) ≤ ↑k := by omega
    have j1 : (↑k : Int) < ↑nn := by omega
    have hFw : gn < wr.heap.size := Nat.lt_of_lt_of_le hFn hbw.size
    have l0 := lat hb.out hl0 Q0.out
    have l1 := lat hb.out hl1 R0.out
    have l2 := lat hb.out hl1 R1.out
    have l3 := lat hb.out hl1 R2.out
    have l4 := lat hb.out hl1 R3.out
    have l5 := lat hb.out hl1 R4.out
    have l6 := later_cell (Nat.lt_of_lt_of_le hl2 hb.out.size) x6
    have l7 := lat hbw hFn cN
    obtain ⟨bm, hbm⟩ : ∃ bm, cd.needs[k].all (lostN us (masksF (nsOf us) ts) u p) = bm := ⟨_, rfl⟩
    rw [hbm] at HNEV HANY HGO
    clear hbm cN hlr
    cases bm with
    | true =>
     have HR := hid (HBN.out.trans (HANY.out rfl))
     clear HGO HANY
     go_wp2_with fail
     (refine wp_region_later (by kernel_rfl) (by kernel_rfl) ?_; (repeat (go_big_quiet_step ((go_at_call 127; exact Calls.later (HNEV.out _) rfl)))); refine wpQuiet_nil ?_; rintro w1 ⟨⟨_, hw1⟩, rfl⟩)
     go_wp2
     go_ret
     exact ⟨ret_bool HR.out.symm, bstep HB0.out (bstep hb.out hw1)⟩
    | false =>
     have HG := hid (HGO.out rfl)
     clear HGO HANY
     go_wp2_with fail
     (refine wp_region_later (by kernel_rfl) (by kernel_rfl) ?_; (repeat (go_big_quiet_step ((go_at_call 127; exact Calls.later (HNEV.out _) rfl)))); refine wpQuiet_nil ?_; rintro w1 ⟨⟨_, hw1⟩, rfl⟩)
     go_wp2
     exact ⟨⟨k + 1, by omega, by go_num, hid (bstep hb.out hw1), HG⟩, by simp [RowKit.intOf]; omega⟩
   ·have HR := hid (HBN.out.trans (any_noB (f := fun r : List WantD => r.all (lostN us (masksF (nsOf us) ts) u p)) fun j hj => hn.out j hj (by have := HNN.out; omega)))
    go_wp2
    go_ret
    exact ⟨ret_bool HR.out.symm, bstep HB0.out hb.out⟩
 ·have z2 : (kk == 2) = false := beq_eq_false_iff_ne.2 hk2
  rw [if_pos hk2] at HBN
  clear hk2
  go_enter Tryz.func101, Tryz.ntmps101
  go_wp2_with fail
  rw [← HW0.out]
  clear hcu c0 c1 c2 c3 c4 c5 c6 c7
  go_loopw [10] (fun iv wr => ∃ k : Nat, k ≤ nb ∧ iv = .int .i64 k ∧ Hid (Below w0.heap.size w0 wr) ∧ Hid (∀ j, (hj : j < cd.bars.length) → j < k → sureN us (masksF (nsOf us) ts) u p cd.bars[j] = false)) (fun iv _ => nb - (RowKit.intOf iv).toNat)
  case atStart => exact ⟨0, Nat.zero_le _, rfl, hid (b0 w0), hid (fun j _ hj => absurd hj (by omega))⟩
  case round =>
   obtain ⟨k, hk, rfl, hb, hn⟩ := hrel
   have x7 := cell_below hb.out hl2 Q7.out
   by_cases hlt : k < nb
   ·have hkL : k < cd.bars.length := by rw [HNB.out]; exact hlt
    obtain ⟨gn, on, a', b', hAn, hFn, g0, g1, g2, hra, hrb⟩ := HBL.out k hkL
    subst hAn
    obtain ⟨hx0, hx1⟩ := HWI.out.2.2 _ (List.getElem_mem hkL)
    have hbw := bstep HB0.out hb.out
    have HALW := hid (fun e : Later wr => ralways_any (.agg #[.slice (some ⟨g, 0, none⟩) us.length cap0]) a' b' (.slice At tn ct) us cd.bars[k] kk a b u p ts e.w (HH.out.lat hbw e) HO.out (hra.lat hbw e) (hrb.lat hbw e) hx0 hx1 (HT.out.lat hbw e) HM.out hp4 hu)
    rw [HPQ.out] at HALW
    obtain ⟨Aa, ca, hav, -⟩ := hra.shape
    obtain ⟨Ab2, cb2, hbv, -⟩ := hrb.shape
    have HANY := hid (fun (h : sureN us (masksF (nsOf us) ts) u p cd.bars[k] = true) => any_atB (f := sureN us (masksF (nsOf us) ts) u p) hkL h)
    have HGO := hid (fun (h : sureN us (masksF (nsOf us) ts) u p cd.bars[k] = false) j (hj : j < cd.bars.length) (hjk : j < k + 1) => if e : j = k then by subst e; exact h else hn.out j hj (by omega))
    obtain ⟨bm, hbm⟩ : ∃ bm, sureN us (masksF (nsOf us) ts) u p cd.bars[k] = bm := ⟨_, rfl⟩
    rw [hbm] at HALW HANY HGO
    obtain ⟨xu, hxu⟩ : ∃ xu, cd.bars[k].u = xu := ⟨_, rfl⟩
    rw [hxu] at g0 HALW
    generalize cd.bars[k].s.rel.length = n1 at hav
    generalize cd.bars[k].s.pre.length = n2 at hbv
    subst hav hbv
    have j0 : (0 : Int) ≤ ↑k := by omega
    have j1 : (↑k : Int) < ↑nb := by omega
    have hFw : gn < wr.heap.size := Nat.lt_of_lt_of_le hFn hbw.size
    have l0 := lat hb.out hl0 Q0.out
    have l1 := lat hb.out hl1 R0.out
    have l2 := lat hb.out hl1 R1.out
    have l3 := lat hb.out hl1 R2.out
    have l4 := lat hb.out hl1 R3.out
    have l5 := lat hb.out hl1 R4.out
    have l6 := later_cell (Nat.lt_of_lt_of_le hl2 hb.out.size) x7
    have l7 := lat hbw hFn g0
    have l8 := lat hbw hFn g1
    have l9 := lat hbw hFn g2
    clear hbm g0 g1 g2 hra hrb hx0 hx1 hxu
    cases bm with
    | true =>
     have HR := hid (HBN.out.trans (HANY.out rfl))
     clear HGO HANY
     go_wp2_with fail
     (refine wp_region_later (by kernel_rfl) (by kernel_rfl) ?_; (repeat (go_big_quiet_step ((go_at_call 128; exact Calls.later (HALW.out _) rfl)))); refine wpQuiet_nil ?_; rintro w1 ⟨⟨_, hw1⟩, rfl⟩)
     go_wp2
     go_ret
     exact ⟨ret_bool HR.out.symm, bstep HB0.out (bstep hb.out hw1)⟩
    | false =>
     have HG := hid (HGO.out rfl)
     clear HGO HANY
     go_wp2_with fail
     (refine wp_region_later (by kernel_rfl) (by kernel_rfl) ?_; (repeat (go_big_quiet_step ((go_at_call 128; exact Calls.later (HALW.out _) rfl)))); refine wpQuiet_nil ?_; rintro w1 ⟨⟨_, hw1⟩, rfl⟩)
     go_wp2
     exact ⟨⟨k + 1, by omega, by go_num, hid (bstep hb.out hw1), HG⟩, by simp [RowKit.intOf]; omega⟩
   ·have HR := hid (HBN.out.trans (any_noB (f := sureN us (masksF (nsOf us) ts) u p) fun j hj => hn.out j hj (by have := HNB.out; omega)))
    go_wp2
    go_ret
    exact ⟨ret_bool HR.out.symm, bstep HB0.out hb.out⟩
end Go.Proofs.YtilgijmokjekgaaGreatDoor
end
section
/- Contracts: ref23.Says, Right. -/
namespace Go.Proofs.YtilgijmokjekgaaGreatDoor
open Go Go.RowKit

theorem and_one {m : Nat} (h : m ≤ 31) : (bits .and .i64 (m : Int) 1 == 1) = m.testBit 0 := by
 have h1 := and_pq (m := m) (q := 1) h (by decide)
 rw [show ((1 : Nat) : Int) = 1 from rfl] at h1
 rw [h1, Nat.and_one_is_mod, Nat.testBit_zero, Bool.eq_iff_iff, beq_iff_eq, decide_eq_true_eq]
 omega
theorem bar_kind {kk : Int} (h : kk = 2 ∨ kk = 3) : decide (kk ≠ 2) = decide (kk = 3) := by
 rcases h with rfl | rfl <;> decide
set_option maxRecDepth 100000 in
set_option maxHeartbeats 8000000 in
theorem rsays_any (v tv : Value) (us : List UnitW) (kk uu a b : Int) (ts : List Term) (w : World) (h : WorldRd w (Lt w.heap.size) v us) (ho : UnitsOk us) (ht : SliceRd tTerm w (Lt w.heap.size) tv ts) (hm : mayL (nsOf us) ts = true) :
  Calls Tryz.prog 56 #[v, .agg #[.int .i64 kk, .int .i64 uu, .int .i64 a, .int .i64 b, tv]] w fun e w' => e = .returned (.bool (decide (0 ≤ uu ∧ uu < (us.length : Int)) && saysN us (decide (kk ≠ 2)) (masksF (nsOf us) ts) uu.toNat)) ∧ Below w.heap.size w w' := by
 obtain ⟨g, cap0, hv, hg, -⟩ := id h
 obtain ⟨At, ct, htv, -⟩ := ht.terms
 have h11 : us.length ≤ 11 := by have := ho.ns.hi; simpa [nsOf] using this
 by_cases h0 : uu < 0
 ·subst hv htv
  have HR : Hid ((decide (0 ≤ uu ∧ uu < (us.length : Int)) && saysN us (decide (kk ≠ 2)) (masksF (nsOf us) ts) uu.toNat) = false) := hid (by rw [decide_eq_false (by omega)]; rfl)
  rw [HR.out]
  clear h ho ht hm
  go_enter Tryz.func56, Tryz.ntmps56
  go_wp2_with fail
  go_ret
  exact ⟨rfl, balloc (balloc (b0 w) _) _⟩
 ·by_cases h1 : (us.length : Int) ≤ uu
  ·subst hv htv
   have HR : Hid ((decide (0 ≤ uu ∧ uu < (us.length : Int)) && saysN us (decide (kk ≠ 2)) (masksF (nsOf us) ts) uu.toNat) = false) := hid (by rw [decide_eq_false (by omega)]; rfl)
   rw [HR.out]
   clear h ho ht hm
   go_enter Tryz.func56, Tryz.ntmps56
   go_wp2_with fail
   go_ret
   exact ⟨rfl, balloc (balloc (b0 w) _) _⟩
  ·obtain ⟨u, hu⟩ : ∃ u : Nat, uu = (u : Int) := ⟨uu.toNat, by omega⟩
   subst hu
   have hul : u < us.length := by omega
   have hun : u < (nsOf us).length := by simpa [nsOf] using hul
   rw [decide_eq_true (show (0 : Int) ≤ ↑u ∧ (↑u : Int) < ↑us.length by omega), Bool.true_and, Int.toNat_natCast]
   have HH := hid h
   have HO := hid ho
   have HT := hid ht
   have HM := hid hm
   have hui : I64 (u : Int) := ⟨by omega, by omega⟩
   have HMASK := hid (fun (W : World) (hW : Below w.heap.size w W) => rmask_any v tv (nsOf us) ts u W (h.lift hW hW.size).uni ho.ns (ht.lift hW hW.size) hui)
   rw [mask_masks hm (by omega) (by omega), Int.toNat_natCast] at HMASK
   have hm31 := masks_le ho.ns hm hun
   have HINC := hid (may_masks hm).1
   obtain ⟨mm, hmm⟩ : ∃ mm, masksF (nsOf us) ts u = mm := ⟨_, rfl⟩
   have HMM := hid hmm
   rw [hmm] at HMASK hm31
   have ha1 := and_one hm31
   have HBRK := hid (fun (p : Nat) (hp : p < us[u].cands.length) (W : World) (hW : Below w.heap.size w W) => rbreaks_any v tv us kk a b u p ts W (h.lift hW hW.size) ho (ht.lift hW hW.size) hm hul hp)
   have HBIT0 := hid (fun (h : mm.testBit 0 = true) => says_bit0 (us := us) (bar := decide (kk ≠ 2)) (M := masksF (nsOf us) ts) (u := u) (by rw [hmm]; exact h))
   have HFULL := hid (fun (h0 : mm.testBit 0 = false) h => says_each (us := us) (bar := decide (kk ≠ 2)) (M := masksF (nsOf us) ts) (u := u) (by rw [hmm]; exact h0) h)
   rw [hmm] at HFULL
   have HBAD := hid (fun (p : Nat) (hp : p < 16) (hb : mm.testBit (p + 1) = true) h => says_false (us := us) (bar := decide (kk ≠ 2)) (M := masksF (nsOf us) ts) (u := u) hp (by rw [hmm]; exact hb) h)
   have HCAND := hid (fun (p : Nat) (hb : mm.testBit (p + 1) = true) => show p < us[u].cands.length by
    have h1 := HINC.out.bit hun (show (masksF (nsOf us) ts u).testBit (p + 1) = true by rw [hmm]; exact hb)
    rw [full_bit hun] at h1
    have h2 := of_decide_eq_true h1
    have h3 : (nsOf us)[u] = us[u].cands.length := by simp [nsOf]
    omega)
   obtain ⟨sy, hsy⟩ : ∃ sy, saysN us (decide (kk ≠ 2)) (masksF (nsOf us) ts) u = sy := ⟨_, rfl⟩
   simp only [hsy] at HBIT0 HFULL HBAD ⊢
   subst hv htv
   obtain ⟨tn, htn⟩ : ∃ tn, ts.length = tn := ⟨_, rfl⟩
   rw [htn] at HMASK HT
   simp only [htn] at HBRK ⊢
   obtain ⟨w0, hw0⟩ : ∃ w0 : World, w0 = (w.alloc (.cells #[.slice (some ⟨g, 0, none⟩) us.length cap0] 25)).alloc (.cells #[.int .i64 kk, .int .i64 u, .int .i64 a, .int .i64 b, .slice At tn ct] 36) := ⟨_, rfl⟩
   have hb0 : Below w.heap.size w w0 := hw0 ▸ balloc (balloc (b0 w) _) _
   have hl1 : w.heap.size + 1 < w0.heap.size := by rw [hw0]; simp
   have hl0 : w.heap.size < w0.heap.size := by omega
   have Q0 := hid (show w0.cell? ⟨w.heap.size, 0, none⟩ = some (.slice (some ⟨g, 0, none⟩) us.length cap0) by rw [hw0]; exact alloc2_old rfl)
   have R0 := hid (show w0.cell? ⟨w.heap.size + 1, 0, none⟩ = some (.int .i64 kk) by rw [hw0]; exact alloc2_new rfl)
   have R1 := hid (show w0.cell? ⟨w.heap.size + 1, 1, none⟩ = some (.int .i64 u) by rw [hw0]; exact alloc2_new rfl)
   have R2 := hid (show w0.cell? ⟨w.heap.size + 1, 2, none⟩ = some (.int .i64 a) by rw [hw0]; exact alloc2_new rfl)
   have R3 := hid (show w0.cell? ⟨w.heap.size + 1, 3, none⟩ = some (.int .i64 b) by rw [hw0]; exact alloc2_new rfl)
   have R4 := hid (show w0.cell? ⟨w.heap.size + 1, 4, none⟩ = some (.slice At tn ct) by rw [hw0]; exact alloc2_new rfl)
   have HB0 := hid hb0
   have HW0 := hid hw0
   clear h ho ht hm hw0 hb0 htn hmm hsy h0 h1 HINC HMM hui
   have u0 : ¬ ((u : Int) < 0) := by omega
   have u1 : ¬ ((us.length : Int) ≤ ↑u) := by omega
   have HARM : Hid (∀ W, Below w0.heap.size w0 W → W.cell? ⟨w.heap.size + 1, 0, none⟩ = some (.int .i64 kk) ∧ W.cell? ⟨w.heap.size + 1, 1, none⟩ = some (.int .i64 u)) := hid fun W hW => ⟨cell_below hW hl1 R0.out, cell_below hW hl1 R1.out⟩
   cases hz : mm.testBit 0 with
   | true =>
    rw [hz] at ha1
    have HR := hid (HBIT0.out hz)
    clear hz HBIT0
    go_enter Tryz.func56, Tryz.ntmps56
    go_wp2_with (go_at_call 83; rw [← HW0.out]; refine (HMASK.out _ HB0.out).mono ?_; rintro e w1 ⟨rfl, hb1⟩; have HB1 := hid (bstep HB0.out hb1); clear hb1)
    go_ret
    exact ⟨ret_bool HR.out.symm, HB1.out⟩
   | false =>
    rw [hz] at ha1
    have HZ := hid hz
    clear hz HBIT0
    obtain ⟨el, hE, hPL, hel17, hFUL⟩ : ∃ el : List Int, (∀ W, Calls Tryz.prog 100 #[.int .i64 mm] W fun e w' => ∃ v, e = .returned v ∧ OwnF fInt 3 W.heap.size w' v el ∧ Below W.heap.size W w') ∧ (∀ k, (hk : k < el.length) → ∃ p : Nat, el[k] = (p : Int) ∧ p < 16 ∧ mm.testBit (p + 1) = true) ∧ el.length ≤ 17 ∧
      ((∀ k, (hk : k < el.length) → brokenAt us (decide (kk ≠ 2)) (masksF (nsOf us) ts) u (el[k].toNat) = true) → sy = true) :=
     ⟨eachL mm 17, fun W => reach_any mm W hm31, fun k hk => each_place HZ.out hk, eachL_len mm 17, HFULL.out HZ.out⟩
    have HEACH := hid hE
    have HPL := hid hPL
    have HFUL := hid hFUL
    clear hE hPL hFUL HFULL HZ
    go_enter Tryz.func56, Tryz.ntmps56
    go_wp2_with (first
     | (go_at_call 83; rw [← HW0.out]; refine (HMASK.out _ HB0.out).mono ?_; rintro e w1 ⟨rfl, hb1⟩; have HB1 := hid hb1; clear hb1)
     | (go_at_call 100; refine (HEACH.out _).mono ?_; rintro e w2 ⟨ev, rfl, hoe, hb2⟩; obtain ⟨Ae, ce, hev, -, -, hec⟩ := hoe.rd.ints; subst hev; have HEC := hid hec; have HB2 := hid (bstep HB1.out hb2); clear hoe hb2 hec))
    go_loopw [7] (fun iv wr => ∃ k : Nat, k ≤ el.length ∧ iv = .int .i64 k ∧ Hid (Below w2.heap.size w2 wr) ∧ Hid (∀ j, (hj : j < el.length) → j < k → brokenAt us (decide (kk ≠ 2)) (masksF (nsOf us) ts) u (el[j].toNat) = true)) (fun iv _ => el.length - (RowKit.intOf iv).toNat)
    case atStart => exact ⟨0, Nat.zero_le _, rfl, hid (b0 w2), hid (fun j _ hj => absurd hj (by omega))⟩
    case round =>
     obtain ⟨k, hk, rfl, hb, hn⟩ := hrel
     by_cases hlt : k < el.length
     ·obtain ⟨p, hpe, hp16, hpb⟩ := HPL.out k hlt
      obtain ⟨ge, oe, hAe, hFe, ge0, -⟩ := HEC.out k hlt
      subst hAe
      have hpc := HCAND.out p hpb
      have hbr := bstep HB2.out hb.out
      have hbrw := bstep HB0.out hbr
      have HB := hid (fun e : Later wr => HBRK.out p hpc e.w (bstep hbrw e.below))
      have HAT := hid (broken_at (us := us) (bar := decide (kk ≠ 2)) (M := masksF (nsOf us) ts) hul hpc)
      obtain ⟨bb, hbb⟩ : ∃ bb, brokenN us (decide (kk ≠ 2)) (masksF (nsOf us) ts) u p us[u].cands[p] = bb := ⟨_, rfl⟩
      rw [hbb] at HB HAT
      have HBD := hid (fun (e : bb = false) => HBAD.out p hp16 hpb (HAT.out.trans e))
      have HGO := hid (fun (e : bb = true) j (hj : j < el.length) (hjk : j < k + 1) => if e2 : j = k then by subst e2; rw [hpe, Int.toNat_natCast]; exact HAT.out.trans e else hn.out j hj (by omega))
      rw [hpe] at ge0
      have j0 : (0 : Int) ≤ ↑k := by omega
      have j1 : (↑k : Int) < ↑el.length := by omega
      have l0 := lat hbr hl0 Q0.out
      have l1 := lat hbr hl1 R0.out
      have l2 := lat hbr hl1 R1.out
      have l3 := lat hbr hl1 R2.out
      have l4 := lat hbr hl1 R3.out
      have l5 := lat hbr hl1 R4.out
      have l6 := lat hb.out hFe ge0
      clear hbb hpe ge0 hpb HAT hpc hp16
      cases bb with
      | true =>
       have HG := hid (HGO.out rfl)
       clear HGO HBD
       go_wp2_with fail
       (refine wp_region_later (by kernel_rfl) (by kernel_rfl) ?_; (repeat (go_big_quiet_step ((go_at_call 101; exact Calls.later (HB.out _) rfl)))); refine wpQuiet_nil ?_; rintro w3 ⟨⟨_, hw3⟩, rfl⟩)
       go_wp2
       exact ⟨⟨k + 1, by omega, by go_num, hid (bstep hb.out hw3), HG⟩, by simp [RowKit.intOf]; omega⟩
      | false =>
       have HR := hid (HBD.out rfl)
       clear HGO HBD
       go_wp2_with fail
       (refine wp_region_later (by kernel_rfl) (by kernel_rfl) ?_; (repeat (go_big_quiet_step ((go_at_call 101; exact Calls.later (HB.out _) rfl)))); refine wpQuiet_nil ?_; rintro w3 ⟨⟨_, hw3⟩, rfl⟩)
       go_wp2
       go_ret
       exact ⟨ret_bool HR.out.symm, bstep HB0.out (bstep HB2.out (bstep hb.out hw3))⟩
     ·have HR := hid (HFUL.out fun j hj => hn.out j hj (by omega))
      go_wp2
      go_ret
      exact ⟨ret_bool HR.out.symm, bstep HB0.out (bstep HB2.out hb.out)⟩
end Go.Proofs.YtilgijmokjekgaaGreatDoor
end
section
/- Contract: ref23.Right. -/
namespace Go.Proofs.YtilgijmokjekgaaGreatDoor
open Go Go.RowKit

theorem term_eqlB (s t : Term) (W : World) : (binOp .eql 55 (.agg #[.int .i64 s.unit, .int .i64 s.mask]) (.agg #[.int .i64 t.unit, .int .i64 t.mask])).run Tryz.prog W = .ok (.bool (decide (s = t))) W := by
 have u3 := Tryz.underlying3
 have a3 := Tryz.isAgg3
 have z3 := Tryz.sizeOf3
 have hS : Tryz.prog.underlying 55 = some (.struct (Tryz.prog.fieldsOf 55)) := by kernel_rfl
 have hp : Tryz.prog.stoodInHeld 55 = false := by kernel_rfl
 rw [run_eql_struct, show (10000 : Nat) = 9999 + 1 from rfl, run_equalIn_agg W 9999 55 _ _ hS hp]
 simp only [Program.fieldsOf, Tryz.underlying55]
 go_simp
 obtain ⟨a, b⟩ := s
 obtain ⟨c, d⟩ := t
 by_cases h1 : a = c <;> by_cases h2 : b = d <;> simp [h1, h2]
theorem one_term {ts : List Term} (h : ts.length = 1) (h0 : 0 < ts.length) : decide (ts = [⟨0, 1⟩]) = decide (ts[0] = ⟨0, 1⟩) := by
 match ts, h with
 | [t], _ => simp
set_option maxRecDepth 100000 in
set_option maxHeartbeats 8000000 in
theorem rright_any (v tv : Value) (us : List UnitW) (r : Row) (w : World) (h : WorldRd w (Lt w.heap.size) v us) (ho : UnitsOk us) (ht : SliceRd tTerm w (Lt w.heap.size) tv r.terms) :
  Calls Tryz.prog 20 #[v, .agg #[.int .i64 r.kind, .int .i64 r.unit, .int .i64 r.a, .int .i64 r.b, tv]] w fun e w' => e = .returned (.bool (rightR us r)) ∧ Below w.heap.size w w' := by
 obtain ⟨kk, uu, a, b, ts⟩ := r
 dsimp only at ht ⊢
 have HALL := hid (fun (W : World) (hW : Below w.heap.size w W) => rallB_any v tv (nsOf us) ts W (h.lift hW hW.size).uni ho.ns (ht.lift hW hW.size))
 have HSAY := hid (fun (hm : mayL (nsOf us) ts = true) (W : World) (hW : Below w.heap.size w W) => rsays_any v tv us kk uu a b ts W (h.lift hW hW.size) ho (ht.lift hW hW.size) hm)
 obtain ⟨g, cap0, rfl, hg, -⟩ := h
 obtain ⟨At, ct, rfl, hct, hcm, htc⟩ := ht.terms
 have HTC := hid htc
 obtain ⟨tn, htn⟩ : ∃ tn, ts.length = tn := ⟨_, rfl⟩
 have HTN := hid htn
 rw [htn] at HALL hct
 simp only [htn] at HSAY ⊢
 obtain ⟨w0, hw0⟩ : ∃ w0 : World, w0 = (w.alloc (.cells #[.slice (some ⟨g, 0, none⟩) us.length cap0] 25)).alloc (.cells #[.int .i64 kk, .int .i64 uu, .int .i64 a, .int .i64 b, .slice At tn ct] 36) := ⟨_, rfl⟩
 have hb0 : Below w.heap.size w w0 := hw0 ▸ balloc (balloc (b0 w) _) _
 have hl1 : w.heap.size + 1 < w0.heap.size := by rw [hw0]; simp
 have hl0 : w.heap.size < w0.heap.size := by omega
 have Q0 := hid (show w0.cell? ⟨w.heap.size, 0, none⟩ = some (.slice (some ⟨g, 0, none⟩) us.length cap0) by rw [hw0]; exact alloc2_old rfl)
 have R0 := hid (show w0.cell? ⟨w.heap.size + 1, 0, none⟩ = some (.int .i64 kk) by rw [hw0]; exact alloc2_new rfl)
 have R1 := hid (show w0.cell? ⟨w.heap.size + 1, 1, none⟩ = some (.int .i64 uu) by rw [hw0]; exact alloc2_new rfl)
 have R2 := hid (show w0.cell? ⟨w.heap.size + 1, 2, none⟩ = some (.int .i64 a) by rw [hw0]; exact alloc2_new rfl)
 have R3 := hid (show w0.cell? ⟨w.heap.size + 1, 3, none⟩ = some (.int .i64 b) by rw [hw0]; exact alloc2_new rfl)
 have R4 := hid (show w0.cell? ⟨w.heap.size + 1, 4, none⟩ = some (.slice At tn ct) by rw [hw0]; exact alloc2_new rfl)
 have HB0 := hid hb0
 have HW0 := hid hw0
 clear ht htc htn hw0 hb0
 cases hm : mayL (nsOf us) ts with
 | false =>
  have HR := hid (right_may (us := us) (r := ⟨kk, uu, a, b, ts⟩) hm)
  rw [hm] at HALL
  rw [HR.out]
  clear hm HSAY
  go_enter Tryz.func20, Tryz.ntmps20
  go_wp2_with (go_at_call 55; rw [← HW0.out]; refine (HALL.out _ HB0.out).mono ?_; rintro e w1 ⟨rfl, hb1⟩; have HB1 := hid (bstep HB0.out hb1); clear hb1)
  go_ret
  exact ⟨rfl, HB1.out⟩
 | true =>
  rw [hm] at HALL
  have HA := hid ((HALL.out _ HB0.out).mono fun e W h => (⟨h.1, cell_below h.2 hl1 R0.out, cell_below h.2 hl1 R1.out, cell_below h.2 hl1 R2.out, cell_below h.2 hl1 R3.out, cell_below h.2 hl1 R4.out, cell_below h.2 hl0 Q0.out, hid (bstep HB0.out h.2)⟩ : e = .returned (.bool true) ∧ W.cell? ⟨w.heap.size + 1, 0, none⟩ = some (.int .i64 kk) ∧ W.cell? ⟨w.heap.size + 1, 1, none⟩ = some (.int .i64 uu) ∧ W.cell? ⟨w.heap.size + 1, 2, none⟩ = some (.int .i64 a) ∧ W.cell? ⟨w.heap.size + 1, 3, none⟩ = some (.int .i64 b) ∧ W.cell? ⟨w.heap.size + 1, 4, none⟩ = some (.slice At tn ct) ∧ W.cell? ⟨w.heap.size, 0, none⟩ = some (.slice (some ⟨g, 0, none⟩) us.length cap0) ∧ Hid (Below w.heap.size w W)))
  have HM := hid hm
  by_cases ea : a = 0
  ·by_cases eb : b = 0
   ·by_cases ek : kk = 1
    ·have HR := hid (right_root (us := us) (r := ⟨kk, uu, a, b, ts⟩) ea eb hm ek)
     rw [HR.out]
     dsimp only
     subst ea eb ek
     clear HSAY hm
     by_cases eu : uu = 0
     ·subst eu
      rw [decide_eq_true rfl, Bool.true_and]
      by_cases e1 : tn = 1
      ·subst e1
       have h0 : 0 < ts.length := by rw [HTN.out]; omega
       obtain ⟨gt, ot, hA, hF, t0, t1, -, -⟩ := HTC.out 0 h0
       subst hA
       rw [Nat.zero_mul, Nat.add_zero] at t0 t1
       rw [one_term HTN.out h0]
       have hq := fun W => term_eqlB ts[0] ⟨0, 1⟩ W
       have hgd := fun op x y W => term_guard op x y ts[0] ⟨0, 1⟩ W
       have hgW : gt < w.heap.size := hF
       obtain ⟨t, ht⟩ : ∃ t, ts[0] = t := ⟨_, rfl⟩
       rw [ht] at hq hgd t0 t1 ⊢
       obtain ⟨bb, hbb⟩ : ∃ bb, decide (t = (⟨0, 1⟩ : Term)) = bb := ⟨_, rfl⟩
       rw [hbb] at hq ⊢
       dsimp only at hq hgd
       clear ht hbb
       go_enter Tryz.func20, Tryz.ntmps20
       go_wp2_with (go_at_call 55; rw [← HW0.out]; refine HA.out.mono ?_; rintro e w1 ⟨rfl, x0, x1, x2, x3, x4, xw, HB1⟩; have y0 := cell_below HB1.out hgW t0; have y1 := cell_below HB1.out hgW t1)
       go_ret
       exact ⟨rfl, HB1.out⟩
      ·have z1 : ((tn : Int) == 1) = false := beq_eq_false_iff_ne.2 (by omega)
       have HD : Hid (decide (ts = [(⟨0, 1⟩ : Term)]) = false) := hid (decide_eq_false fun e => e1 (by rw [← HTN.out, e]; rfl))
       rw [HD.out]
       clear e1
       go_enter Tryz.func20, Tryz.ntmps20
       go_wp2_with (go_at_call 55; rw [← HW0.out]; refine HA.out.mono ?_; rintro e w1 ⟨rfl, x0, x1, x2, x3, x4, xw, HB1⟩)
       go_ret
       exact ⟨rfl, HB1.out⟩
     ·have zu : (uu == 0) = false := beq_eq_false_iff_ne.2 eu
      rw [decide_eq_false eu, Bool.false_and]
      clear eu
      go_enter Tryz.func20, Tryz.ntmps20
      go_wp2_with (go_at_call 55; rw [← HW0.out]; refine HA.out.mono ?_; rintro e w1 ⟨rfl, x0, x1, x2, x3, x4, xw, HB1⟩)
      go_ret
      exact ⟨rfl, HB1.out⟩
    ·by_cases e23 : kk = 2 ∨ kk = 3
     ·have HR := hid (right_says (us := us) (r := ⟨kk, uu, a, b, ts⟩) ea eb hm ek)
      dsimp only at HR
      have hbk := bar_kind e23
      rw [decide_eq_true e23, Bool.true_and, ← hbk] at HR
      rw [HR.out]
      have HS := hid (HSAY.out HM.out)
      obtain ⟨sy, hsy⟩ : ∃ sy, (decide (0 ≤ uu ∧ uu < (us.length : Int)) && saysN us (decide (kk ≠ 2)) (masksF (nsOf us) ts) uu.toNat) = sy := ⟨_, rfl⟩
      simp only [hsy] at HS ⊢
      subst ea eb
      have z1 : (kk == 1) = false := beq_eq_false_iff_ne.2 ek
      clear HSAY HR hsy hbk hm ek
      rcases e23 with rfl | rfl
      all_goals
       go_enter Tryz.func20, Tryz.ntmps20
       go_wp2_with (first
        | (go_at_call 55; rw [← HW0.out]; refine HA.out.mono ?_; rintro e w1 ⟨rfl, x0, x1, x2, x3, x4, xw, HB1⟩)
        | (go_at_call 56; refine (HS.out _ HB1.out).mono ?_; rintro e w2 ⟨rfl, hb2⟩; have HB2 := hid (bstep HB1.out hb2); clear hb2))
       go_ret
       exact ⟨rfl, HB2.out⟩
     ·have HR := hid (right_kind (us := us) (r := ⟨kk, uu, a, b, ts⟩) ek (fun e => e23 (.inl e)) (fun e => e23 (.inr e)))
      rw [HR.out]
      subst ea eb
      have z1 : (kk == 1) = false := beq_eq_false_iff_ne.2 ek
      have z2 : (kk == 2) = false := beq_eq_false_iff_ne.2 (fun e => e23 (.inl e))
      have z3 : (kk == 3) = false := beq_eq_false_iff_ne.2 (fun e => e23 (.inr e))
      clear HSAY ek e23 hm
      go_enter Tryz.func20, Tryz.ntmps20
      go_wp2_with (go_at_call 55; rw [← HW0.out]; refine HA.out.mono ?_; rintro e w1 ⟨rfl, x0, x1, x2, x3, x4, xw, HB1⟩)
      go_ret
      exact ⟨rfl, HB1.out⟩
   ·have HR := hid (right_b (us := us) (r := ⟨kk, uu, a, b, ts⟩) eb)
    rw [HR.out]
    subst ea
    have z1 : (b != 0) = true := bne_iff_ne.2 eb
    clear HSAY eb hm
    go_enter Tryz.func20, Tryz.ntmps20
    go_wp2_with (go_at_call 55; rw [← HW0.out]; refine HA.out.mono ?_; rintro e w1 ⟨rfl, x0, x1, x2, x3, x4, xw, HB1⟩)
    go_ret
    exact ⟨rfl, HB1.out⟩
  ·have HR := hid (right_a (us := us) (r := ⟨kk, uu, a, b, ts⟩) ea)
   rw [HR.out]
   have z1 : (a != 0) = true := bne_iff_ne.2 ea
   clear HSAY ea hm
   go_enter Tryz.func20, Tryz.ntmps20
   go_wp2_with (go_at_call 55; rw [← HW0.out]; refine HA.out.mono ?_; rintro e w1 ⟨rfl, x0, x1, x2, x3, x4, xw, HB1⟩)
   go_ret
   exact ⟨rfl, HB1.out⟩
end Go.Proofs.YtilgijmokjekgaaGreatDoor
end
