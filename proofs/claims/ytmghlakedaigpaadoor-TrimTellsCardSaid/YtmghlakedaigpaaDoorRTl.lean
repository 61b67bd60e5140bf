/- Contract: linchpinlaw31.TrimTells. -/
import Derived.Test.YtmghlakedaigpaaDoorW18
import Derived.Test.YtmghlakedaigpaaDoorRTr
import Derived.Test.YtmghlakedaigpaaDoorRBd
import Derived.Test.YtmghlakedaigpaaDoorRDe
import Derived.Test.YtmghlakedaigpaaDoorPAs
import Derived.Test.YtmghlakedaigpaaDoorDeep
import Derived.Test.YtmghlakedaigpaaDoorW10
import Derived.Test.YtmghlakedaigpaaDoorW11
import Derived.Test.YtmghlakedaigpaaDoorW14
import Derived.Test.YtmghlakedaigpaaDoorTrim
namespace Go.Proofs.YtmghlakedaigpaaDoor
open Go Go.RowKit

theorem same31_use (w : World) (b b' : Nat) (l : List Row) (h : Arr 4 w b (boolCells (usedL l))) (h' : Arr 4 w b' (boolCells (usedL l))) (hl : l.length ≤ 20000) :
    Calls Tryd.prog 8 #[.slice (some ⟨b, 0, none⟩) l.length l.length, .slice (some ⟨b', 0, none⟩) l.length l.length] w fun e w' => e = .returned (.bool true) ∧ Below w.heap.size w w' := by
  have e : (usedL l).length = l.length := by simp [usedL]
  have h9 := same31_self w b b' _ h h' (by rw [e]; exact hl)
  rw [e] at h9
  exact h9

set_option maxRecDepth 100000 in
set_option maxHeartbeats 2000000 in
theorem trimTells_any (xv : Value) (xs : List Int) (i1 i2 i3 : Int) (w : World) (hx : SliceRd tInt w (Lt w.heap.size) xv xs) (h1 : I64 i1) (h2 : I64 i2) (h3 : I64 i3)
    (htab : Lib.TabBelow Tryd.prog w.heap.size w "internal/strconv.uint64pow10" .u64 Lib.pow10Tab) :
    Calls Tryd.prog 3 #[xv, .int .i64 i1, .int .i64 i2, .int .i64 i3] w fun e w' => e = .returned (.bool true) ∧ Below w.heap.size w w' := by
  have HTAB := hid htab
  have HX := hid hx
  obtain ⟨B, bcap, rfl, hbcap, hbmax, -⟩ := hx.ints
  unfold maxLen at hbmax
  clear hx htab
  have tok := hid True.intro
  go_enter Tryd.func3, Tryd.ntmps3
  go_upto_region 5 with (first
    | (go_at_call 4
       refine (awake31_any _ HTAB.out).mono ?_
       rintro e w1 ⟨rfl, hb1⟩)
    | (go_at_call 6
       refine (rows_any _ xs _ HX.out).mono ?_
       rintro e w1 ⟨v1, L, rfl, hL, hLl, hLt, hb1⟩
       have HL := hid hL
       have HLT := hid hLt
       clear hL hLt)
    | (go_at_call 5
       refine (bent_any _ L 7 i1 i2 i3 _ HL.out (by omega) HLT.out (by omega) h1 h2 h3).mono ?_
       rintro e w2 ⟨v2, L2, rfl, hL2, hl2, hlt2, hb2⟩
       have HL2 := hid hL2
       have HLT2 := hid hlt2
       have HB2 := hid (hb1.trans (hb2.mono hb1.size))
       have hl21 : L2.length ≤ 21 := by omega
       clear hL2 hlt2 hb2 hb1 HL HLT hl2)
    | (go_at_call 7
       refine (copyRows_any _ L2 _ HL2.out (by omega) (fun r hr => by have := HLT2.out r hr; omega)).mono ?_
       rintro e w3 ⟨v3, tvs, rfl, hcop, hb3⟩
       have HM := hid (hcop.rd (F := Lt w3.heap.size) (fun g _ h => h))
       have HL3 := hid (HL2.out.lift hb3 hb3.size)
       have HB3 := hid (HB2.out.trans (hb3.mono HB2.out.size))
       clear hcop hb3 HB2 HL2))
  · go_ret
    exact ⟨rfl, hb1⟩
  · have HM3 := HM
    by_cases hm : MayP L2
    · have HMAY := hid hm
      obtain ⟨d, hd⟩ : ∃ d, d = (deeps L2).getD (L2.length - 1) 0 := ⟨_, rfl⟩
      have HD := hid hd
      clear hm hd
      go_wp2_with (first
        | (go_at_call 9
           refine (used_any _ L2 _ HM3.out HMAY.out).mono ?_
           rintro e w4 ⟨b4, rfl, har4, -, hb4⟩
           have HB4 := hid (HB3.out.trans (hb4.mono HB3.out.size))
           have HM4 := hid (HM3.out.lift hb4 hb4.size)
           have HL4 := hid (HL3.out.lift hb4 hb4.size)
           have HA4 := hid har4
           clear har4
           clear hb4)
        | (go_at_call 10
           refine (rused_any _ L2 _ HL4.out HMAY.out).mono ?_
           rintro e w5 ⟨b5, rfl, har5, -, hb5⟩
           have HB5 := hid (HB4.out.trans (hb5.mono HB4.out.size))
           have HM5 := hid (HM4.out.lift hb5 hb5.size)
           have HL5 := hid (HL4.out.lift hb5 hb5.size)
           have HA5 := hid har5
           have HA45 := hid (HA4.out.below hb5 HA4.out.lt)
           clear har5
           clear hb5)
        | (go_at_call 8
           refine (same31_use _ b4 b5 L2 HA45.out HA5.out (by omega)).mono ?_
           rintro e w6 ⟨rfl, hb6⟩
           have HB6 := hid (HB5.out.trans (hb6.mono HB5.out.size))
           have HM6 := hid (HM5.out.lift hb6 hb6.size)
           have HL6 := hid (HL5.out.lift hb6 hb6.size)
           clear hb6)
        | (go_at_call 12
           refine (trim_any _ L2 _ HM6.out HMAY.out (fun w' h' => HTAB.out w' (HB6.out.trans (h'.mono HB6.out.size)))).mono ?_
           rintro e w7 ⟨v7, tv7, rfl, hcop7, hb7⟩
           have HB7 := hid (HB6.out.trans (hb7.mono HB6.out.size))
           have HM7 := hid (HM6.out.lift hb7 hb7.size)
           have HL7 := hid (HL6.out.lift hb7 hb7.size)
           obtain ⟨A7, c7, rfl⟩ := own_form hcop7.own
           have HT7 := hid (hcop7.rd (F := Lt w7.heap.size) (fun g _ h => h))
           clear hcop7
           clear hb7)
        | (go_at_call 13
           refine (rtrim_any _ L2 _ HL7.out HMAY.out).mono ?_
           rintro e w8 ⟨v8, tv8, rfl, hcop8, hb8⟩
           have HB8 := hid (HB7.out.trans (hb8.mono HB7.out.size))
           have HM8 := hid (HM7.out.lift hb8 hb8.size)
           have HL8 := hid (HL7.out.lift hb8 hb8.size)
           obtain ⟨A8, c8, rfl⟩ := own_form hcop8.own
           have HT8 := hid (hcop8.rd (F := Lt w8.heap.size) (fun g _ h => h))
           have HT78 := hid (HT7.out.lift hb8 hb8.size)
           clear hcop8
           clear hb8)
        | (go_at_call 11
           clear tok
           refine (sameRows_any _ _ (trimF L2) (trimF L2) _ HT78.out HT8.out).mono ?_
           rintro e w9 ⟨rfl, hb9⟩
           have HB9 := hid (HB8.out.trans (hb9.mono HB8.out.size))
           have HM9 := hid (HM8.out.lift hb9 hb9.size)
           have HL9 := hid (HL8.out.lift hb9 hb9.size)
           rw [decide_eq_true rfl]
           clear hb9)
        | (go_at_call 15
           refine (pasked_any _ L2 _ HM9.out HMAY.out).mono ?_
           rintro e w10 ⟨v10, rfl, hk10, hb10⟩
           have HB10 := hid (HB9.out.trans (hb10.mono HB9.out.size))
           have HM10 := hid (HM9.out.lift hb10 hb10.size)
           have HL10 := hid (HL9.out.lift hb10 hb10.size)
           obtain ⟨A10, c10, rfl, -, -, -⟩ := hk10.terms
           have HK10 := hid hk10
           clear hk10
           clear hb10)
        | (go_at_call 16
           refine (rasked_any _ L2 _ HL10.out HMAY.out).mono ?_
           rintro e w11 ⟨v11, rfl, hk11, hb11⟩
           have HB11 := hid (HB10.out.trans (hb11.mono HB10.out.size))
           have HM11 := hid (HM10.out.lift hb11 hb11.size)
           have HL11 := hid (HL10.out.lift hb11 hb11.size)
           obtain ⟨A11, c11, rfl, -, -, -⟩ := hk11.terms
           have HK11 := hid hk11
           have HK1011 := hid (HK10.out.lift hb11 hb11.size)
           clear hk11
           clear hb11)
        | (go_at_call 14
           refine (sameTerms_any _ _ (askR L2 L2.length) (askR L2 L2.length) _ HK1011.out HK11.out).mono ?_
           rintro e w12 ⟨rfl, hb12⟩
           have HB12 := hid (HB11.out.trans (hb12.mono HB11.out.size))
           have HM12 := hid (HM11.out.lift hb12 hb12.size)
           have HL12 := hid (HL11.out.lift hb12 hb12.size)
           rw [decide_eq_true rfl]
           clear hb12)
        | (go_at_call 17
           refine (deep_any _ L2 _ HM12.out HMAY.out).mono ?_
           rw [← HD.out]
           rintro e w13 ⟨rfl, hb13⟩
           have HB13 := hid (HB12.out.trans (hb13.mono HB12.out.size))
           have HM13 := hid (HM12.out.lift hb13 hb13.size)
           have HL13 := hid (HL12.out.lift hb13 hb13.size)
           clear hb13)
        | (go_at_call 18
           refine (rdeep_any _ L2 _ HL13.out HMAY.out).mono ?_
           rw [← HD.out]
           rintro e w14 ⟨rfl, hb14⟩
           have HB14 := hid (HB13.out.trans (hb14.mono HB13.out.size))
           have HM14 := hid (HM13.out.lift hb14 hb14.size)
           have HL14 := hid (HL13.out.lift hb14 hb14.size)
           clear hb14)
        | (go_at_call 11
           refine (sameRows_any _ _ L2 L2 _ HL14.out HM14.out).mono ?_
           rintro e w15 ⟨rfl, hb15⟩
           have HB15 := hid (HB14.out.trans (hb15.mono HB14.out.size))
           have HM15 := hid (HM14.out.lift hb15 hb15.size)
           have HL15 := hid (HL14.out.lift hb15 hb15.size)
           rw [decide_eq_true rfl]
           clear hb15)
        | (go_at_call 4
           refine (awake31_any _ (fun w' h' => HTAB.out w' (HB15.out.trans (h'.mono HB15.out.size)))).mono ?_
           rintro e wz ⟨rfl, hbz⟩))
      go_ret
      exact ⟨rfl, HB15.out.trans (hbz.mono HB15.out.size)⟩
    · have HMAY := hid hm
      clear hm
      go_wp2_with (first
        | (go_at_call 9
           refine (used_bad _ L2 _ HM3.out HMAY.out).mono ?_
           rintro e w4 ⟨rfl, hb4⟩
           have HB4 := hid (HB3.out.trans (hb4.mono HB3.out.size))
           have HM4 := hid (HM3.out.lift hb4 hb4.size)
           have HL4 := hid (HL3.out.lift hb4 hb4.size)
           clear hb4)
        | (go_at_call 10
           refine (rused_bad _ L2 _ HL4.out HMAY.out).mono ?_
           rintro e w5 ⟨rfl, hb5⟩
           have HB5 := hid (HB4.out.trans (hb5.mono HB4.out.size))
           have HM5 := hid (HM4.out.lift hb5 hb5.size)
           have HL5 := hid (HL4.out.lift hb5 hb5.size)
           clear hb5)
        | (go_at_call 8
           refine (same31_nil _).mono ?_
           rintro e w6 ⟨rfl, hb6⟩
           have HB6 := hid (HB5.out.trans (hb6.mono HB5.out.size))
           have HM6 := hid (HM5.out.lift hb6 hb6.size)
           have HL6 := hid (HL5.out.lift hb6 hb6.size)
           clear hb6)
        | (go_at_call 12
           refine (trim_bad _ L2 _ HM6.out HMAY.out).mono ?_
           rintro e w7 ⟨rfl, hb7⟩
           have HB7 := hid (HB6.out.trans (hb7.mono HB6.out.size))
           have HM7 := hid (HM6.out.lift hb7 hb7.size)
           have HL7 := hid (HL6.out.lift hb7 hb7.size)
           clear hb7)
        | (go_at_call 13
           refine (rtrim_bad _ L2 _ HL7.out HMAY.out (by omega)).mono ?_
           rintro e w8 ⟨rfl, hb8⟩
           have HB8 := hid (HB7.out.trans (hb8.mono HB7.out.size))
           have HM8 := hid (HM7.out.lift hb8 hb8.size)
           have HL8 := hid (HL7.out.lift hb8 hb8.size)
           clear hb8)
        | (go_at_call 11
           clear tok
           refine (sameRows_any _ _ [] [] _ (SliceRd.nil _ _ _) (SliceRd.nil _ _ _)).mono ?_
           rintro e w9 ⟨rfl, hb9⟩
           have HB9 := hid (HB8.out.trans (hb9.mono HB8.out.size))
           have HM9 := hid (HM8.out.lift hb9 hb9.size)
           have HL9 := hid (HL8.out.lift hb9 hb9.size)
           rw [decide_eq_true rfl]
           clear hb9)
        | (go_at_call 15
           refine (pasked_bad _ L2 _ HM9.out HMAY.out).mono ?_
           rintro e w10 ⟨rfl, hb10⟩
           have HB10 := hid (HB9.out.trans (hb10.mono HB9.out.size))
           have HM10 := hid (HM9.out.lift hb10 hb10.size)
           have HL10 := hid (HL9.out.lift hb10 hb10.size)
           clear hb10)
        | (go_at_call 16
           refine (rasked_bad _ L2 _ HL10.out HMAY.out).mono ?_
           rintro e w11 ⟨rfl, hb11⟩
           have HB11 := hid (HB10.out.trans (hb11.mono HB10.out.size))
           have HM11 := hid (HM10.out.lift hb11 hb11.size)
           have HL11 := hid (HL10.out.lift hb11 hb11.size)
           clear hb11)
        | (go_at_call 14
           refine (sameTerms_any _ _ [] [] _ (SliceRd.nil _ _ _) (SliceRd.nil _ _ _)).mono ?_
           rintro e w12 ⟨rfl, hb12⟩
           have HB12 := hid (HB11.out.trans (hb12.mono HB11.out.size))
           have HM12 := hid (HM11.out.lift hb12 hb12.size)
           have HL12 := hid (HL11.out.lift hb12 hb12.size)
           rw [decide_eq_true rfl]
           clear hb12)
        | (go_at_call 17
           refine (deep_bad _ L2 _ HM12.out HMAY.out).mono ?_
           rintro e w13 ⟨rfl, hb13⟩
           have HB13 := hid (HB12.out.trans (hb13.mono HB12.out.size))
           have HM13 := hid (HM12.out.lift hb13 hb13.size)
           have HL13 := hid (HL12.out.lift hb13 hb13.size)
           clear hb13)
        | (go_at_call 18
           refine (rdeep_bad _ L2 _ HL13.out HMAY.out).mono ?_
           rintro e w14 ⟨rfl, hb14⟩
           have HB14 := hid (HB13.out.trans (hb14.mono HB13.out.size))
           have HM14 := hid (HM13.out.lift hb14 hb14.size)
           have HL14 := hid (HL13.out.lift hb14 hb14.size)
           clear hb14)
        | (go_at_call 11
           refine (sameRows_any _ _ L2 L2 _ HL14.out HM14.out).mono ?_
           rintro e w15 ⟨rfl, hb15⟩
           have HB15 := hid (HB14.out.trans (hb15.mono HB14.out.size))
           have HM15 := hid (HM14.out.lift hb15 hb15.size)
           have HL15 := hid (HL14.out.lift hb15 hb15.size)
           rw [decide_eq_true rfl]
           clear hb15)
        | (go_at_call 4
           refine (awake31_any _ (fun w' h' => HTAB.out w' (HB15.out.trans (h'.mono HB15.out.size)))).mono ?_
           rintro e wz ⟨rfl, hbz⟩))
      go_ret
      exact ⟨rfl, HB15.out.trans (hbz.mono HB15.out.size)⟩
end Go.Proofs.YtmghlakedaigpaaDoor
