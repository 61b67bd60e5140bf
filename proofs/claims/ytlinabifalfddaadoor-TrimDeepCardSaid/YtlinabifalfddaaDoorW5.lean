/- Contract: linchpinlaw31.TrimDeep. -/
import Derived.Test.YtlinabifalfddaaDoorW18
import Derived.Test.YtlinabifalfddaaDoorW3
namespace Go.Proofs.YtlinabifalfddaaDoor
open Go Go.RowKit

set_option maxRecDepth 100000 in
set_option maxHeartbeats 1000000 in
theorem trimDeep_any (xv : Value) (xs : List Int) (w : World) (hx : SliceRd tInt w (Lt w.heap.size) xv xs)
    (htab : Lib.TabBelow Tryd.prog w.heap.size w "internal/strconv.uint64pow10" .u64 Lib.pow10Tab) :
    Calls Tryd.prog 5 #[xv] w fun e w' => e = .returned (.bool true) ∧ Below w.heap.size w w' := by
  have HTAB := hid htab
  have HX := hid hx
  obtain ⟨B, bcap, rfl, hbcap, hbmax, -⟩ := hx.ints
  unfold maxLen at hbmax
  clear hx htab
  go_enter Tryd.func5, Tryd.ntmps5
  go_wp2_with (first
    | (go_at_call 18
       refine (awake31_any _ HTAB.out).mono ?_
       rintro e w1 ⟨rfl, hb1⟩)
    | (go_at_call 10
       refine (rows_any _ xs _ HX.out).mono ?_
       rintro e w1 ⟨v1, L, rfl, hL, hLl, hLt, hb1⟩
       have HL := hid hL
       have HB1 := hid hb1
       clear hL hLt hb1))
  · go_ret
    exact ⟨rfl, hb1⟩
  · by_cases hm : MayP L
    · have HMAY := hid hm
      have hcnt := trim_counts hm
      have hpos := deep_pos hm
      obtain ⟨d, hd⟩ : ∃ d, d = (deeps L).getD (L.length - 1) 0 := ⟨_, rfl⟩
      rw [← hd] at hcnt hpos
      have HD := hid hd
      clear hm hd
      go_wp2_with (first
        | (go_at_call 13
           refine (rmay_any _ L _ HL.out).mono ?_
           rintro e w2 ⟨rfl, hb2⟩
           rw [decide_eq_true HMAY.out]
           have HL2 := hid (HL.out.lift hb2 hb2.size)
           have HB2 := hid (HB1.out.trans (hb2.mono HB1.out.size))
           clear hb2)
        | (go_at_call 20
           refine (trim_any _ L _ HL2.out HMAY.out (fun w' h' => HTAB.out w' (HB2.out.trans (h'.mono HB2.out.size)))).mono ?_
           rintro e w3 ⟨v3, tvs, rfl, hcop, hb3⟩
           obtain ⟨A3, c3, rfl⟩ := own_form hcop.own
           have HL3 := hid (HL2.out.lift hb3 hb3.size)
           have HB3 := hid (HB2.out.trans (hb3.mono HB2.out.size))
           clear hcop hb3)
        | (go_at_call 19
           refine (deep_any _ L _ HL3.out HMAY.out).mono ?_
           rw [← HD.out]
           rintro e w4 ⟨rfl, hb4⟩
           have HB4 := hid (HB3.out.trans (hb4.mono HB3.out.size))
           clear hb4))
      generalize (trimF L).length = n at hcnt ⊢
      obtain ⟨hn1, hn2, hn3⟩ := hcnt
      have HN2 := hid hn2
      have hn21 : n ≤ 21 := by omega
      clear hn2
      go_loopw [6, 7] (fun mv iv wr => ∃ (i : Nat) (z : Int), mv = .int .i64 z ∧ iv = .int .i64 i ∧ i ≤ d ∧ Hid (1 ≤ z ∧ z ≤ 200000 ∧ z = ((2 ^ i : Nat) : Int)) ∧ wr = w4) (fun _ iv _ => d - (intOf iv).toNat)
      case atStart => exact ⟨0, 1, rfl, rfl, by omega, hid ⟨by omega, by omega, rfl⟩, rfl⟩
      case round =>
        obtain ⟨i, z, rfl, rfl, hi, hz, rfl⟩ := hrel
        by_cases h1 : i < d
        · have hid1 : decide (i < d) = true := decide_eq_true h1
          by_cases h2 : z < 100000
          · have h3 : (1 : Int) ≤ z := hz.out.1
            have HZ2 : Hid (1 ≤ z * 2 ∧ z * 2 ≤ 200000 ∧ z * 2 = ((2 ^ (i + 1) : Nat) : Int)) := hid (by
              obtain ⟨a1, a2, a3⟩ := hz.out
              refine ⟨by omega, by omega, ?_⟩
              rw [Nat.pow_succ, a3]; simp)
            go_wp2_with fail
            exact ⟨⟨i + 1, z * 2, rfl, by go_num, by omega, HZ2, trivial⟩, by simp [intOf]; omega⟩
          · have hlt : (n : Int) < z := by omega
            have h3 : z ≤ 200000 := hz.out.2.1
            go_wp2_with (first
              | (go_at_call 18
                 refine (awake31_any _ (fun w' h' => HTAB.out w' (HB4.out.trans (h'.mono HB4.out.size)))).mono ?_
                 rintro e w6 ⟨rfl, hb6⟩))
            go_ret
            exact ⟨rfl, HB4.out.trans (hb6.mono HB4.out.size)⟩
        · have hlt : (n : Int) < z := by
            have e : i = d := by omega
            obtain ⟨a1, a2, a3⟩ := hz.out
            have := HN2.out
            rw [a3, e]
            omega
          go_wp2_with (first
            | (go_at_call 18
               refine (awake31_any _ (fun w' h' => HTAB.out w' (HB4.out.trans (h'.mono HB4.out.size)))).mono ?_
               rintro e w6 ⟨rfl, hb6⟩))
          go_ret
          exact ⟨rfl, HB4.out.trans (hb6.mono HB4.out.size)⟩
    · have HMAY := hid hm
      clear hm
      go_wp2_with (first
        | (go_at_call 13
           refine (rmay_any _ L _ HL.out).mono ?_
           rintro e w2 ⟨rfl, hb2⟩
           rw [decide_eq_false HMAY.out]
           have HL2 := hid (HL.out.lift hb2 hb2.size)
           have HB2 := hid (HB1.out.trans (hb2.mono HB1.out.size))
           clear hb2)
        | (go_at_call 19
           refine (deep_bad _ L _ HL2.out HMAY.out).mono ?_
           rintro e w3 ⟨rfl, hb3⟩
           have HL3 := hid (HL2.out.lift hb3 hb3.size)
           have HB3 := hid (HB2.out.trans (hb3.mono HB2.out.size))
           clear hb3)
        | (go_at_call 20
           refine (trim_bad _ L _ HL3.out HMAY.out).mono ?_
           rintro e w4 ⟨rfl, hb4⟩
           have HL4 := hid (HL3.out.lift hb4 hb4.size)
           have HB4 := hid (HB3.out.trans (hb4.mono HB3.out.size))
           clear hb4)
        | (go_at_call 21
           refine (used_bad _ L _ HL4.out HMAY.out).mono ?_
           rintro e w5 ⟨rfl, hb5⟩
           have HB5 := hid (HB4.out.trans (hb5.mono HB4.out.size))
           clear hb5)
        | (go_at_call 18
           refine (awake31_any _ (fun w' h' => HTAB.out w' (HB5.out.trans (h'.mono HB5.out.size)))).mono ?_
           rintro e w6 ⟨rfl, hb6⟩))
      go_ret
      exact ⟨rfl, HB5.out.trans (hb6.mono HB5.out.size)⟩
end Go.Proofs.YtlinabifalfddaaDoor
