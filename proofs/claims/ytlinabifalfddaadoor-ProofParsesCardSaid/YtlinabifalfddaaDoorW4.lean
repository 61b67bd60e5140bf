/- Contract: linchpinlaw29.ProofPrints. -/
import Derived.Test.YtlinabifalfddaaDoorW3
import Derived.Test.YtlinabifalfddaaDoorRP
import Derived.Test.YtlinabifalfddaaDoorSame
namespace Go.Proofs.YtlinabifalfddaaDoor
open Go Go.RowKit

theorem printF_small {w : World} {F : Nat → Prop} {v : Value} {l : List Row} (h : SliceRd tRow w F v l) (hm : MayP l) (hl : l.length ≤ 21) : (printF l).length ≤ 1048576 := by
  obtain ⟨A, cap, rfl, -, -, hc⟩ := h.rows
  refine Nat.le_trans (printF_len (n := 21) (fun r hr => ?_) hl) (by omega)
  obtain ⟨j, hj, rfl⟩ := List.getElem_of_mem hr
  obtain ⟨_, _, _, _, _, _, _, _, _, _, ⟨_, j1, j2, j3⟩, jt⟩ := hc j hj
  obtain ⟨_, _, rfl, _, _, _⟩ := jt.terms
  exact ⟨j1, j2, j3, jt.src.2.2, (terms_le (hm.2.2 j hj).1.2.2.2.2.1).1⟩

set_option maxRecDepth 100000 in
set_option maxHeartbeats 1000000 in
theorem proofPrints_any (xv : Value) (xs : List Int) (i1 i2 i3 : Int) (w : World) (hx : SliceRd tInt w (Lt w.heap.size) xv xs) (h1 : I64 i1) (h2 : I64 i2) (h3 : I64 i3)
    (htab : Lib.TabBelow Tryd.prog w.heap.size w "internal/strconv.uint64pow10" .u64 Lib.pow10Tab) :
    Calls Tryd.prog 4 #[xv, .int .i64 i1, .int .i64 i2, .int .i64 i3] w fun e w' => e = .returned (.bool true) ∧ Below w.heap.size w w' := by
  have HTAB := hid htab
  have HX := hid hx
  obtain ⟨B, bcap, rfl, hbcap, hbmax, -⟩ := hx.ints
  unfold maxLen at hbmax
  clear hx htab
  go_enter Tryd.func4, Tryd.ntmps4
  go_wp2_with (first
    | (go_at_call 9
       refine (awake_any _ HTAB.out).mono ?_
       rintro e w1 ⟨rfl, hb1⟩)
    | (go_at_call 10
       refine (rows_any _ xs _ HX.out).mono ?_
       rintro e w1 ⟨v1, L, rfl, hL, hLl, hLt, hb1⟩
       have HL := hid hL
       have HLT := hid hLt
       clear hL hLt)
    | (go_at_call 11
       refine (bent_any _ L 7 i1 i2 i3 _ HL.out (by omega) HLT.out (by omega) h1 h2 h3).mono ?_
       rintro e w2 ⟨v2, L2, rfl, hL2, hl2, hlt2, hb2⟩
       have HL2 := hid hL2
       have HLT2 := hid hlt2
       have HB2 := hid (hb1.trans (hb2.mono hb1.size))
       have hl21 : L2.length ≤ 21 := by omega
       clear hL2 hlt2 hb2 hb1 HL HLT hl2)
    | (go_at_call 14
       refine (copyRows_any _ L2 _ HL2.out (by omega) (fun r hr => by have := HLT2.out r hr; omega)).mono ?_
       rintro e w3 ⟨v3, tvs, rfl, hcop, hb3⟩
       have HM := hid (hcop.rd (F := Lt w3.heap.size) (fun g _ h => h))
       have HL3 := hid (HL2.out.lift hb3 hb3.size)
       have HB3 := hid (HB2.out.trans (hb3.mono HB2.out.size))
       clear hcop hb3 HB2 HL2))
  · go_ret
    exact ⟨rfl, hb1⟩
  · by_cases hm : MayP L2
    · have HMAY := hid hm
      clear hm
      go_wp2_with (first
        | (go_at_call 15
           refine (print_any _ L2 _ HM.out HMAY.out (fun w' h' => HTAB.out w' (HB3.out.trans (h'.mono HB3.out.size))) (printF_small HM.out HMAY.out hl21)).mono ?_
           rintro e w4 ⟨rfl, hb4⟩
           have HM4 := hid (HM.out.lift hb4 hb4.size)
           have HL4 := hid (HL3.out.lift hb4 hb4.size)
           have HB4 := hid (HB3.out.trans (hb4.mono HB3.out.size))
           clear hb4 HM HL3 HB3)
        | (go_at_call 16
           refine (rprint_any _ L2 _ HL4.out HMAY.out (printF_small HL4.out HMAY.out hl21)).mono ?_
           rintro e w5 ⟨rfl, hb5⟩
           have HM5 := hid (HM4.out.lift hb5 hb5.size)
           have HL5 := hid (HL4.out.lift hb5 hb5.size)
           have HB5 := hid (HB4.out.trans (hb5.mono HB4.out.size))
           clear hb5 HM4 HL4 HB4)
        | (go_at_call 17
           refine (sameRows_any _ _ L2 L2 _ HL5.out HM5.out).mono ?_
           rintro e w6 ⟨rfl, hb6⟩
           have HB6 := hid (HB5.out.trans (hb6.mono HB5.out.size))
           clear hb6 HB5)
        | (go_at_call 9
           refine (awake_any _ (fun w' h' => HTAB.out w' (HB6.out.trans (h'.mono HB6.out.size)))).mono ?_
           rintro e wz ⟨rfl, hbz⟩))
      go_ret
      exact ⟨rfl, HB6.out.trans (hbz.mono HB6.out.size)⟩
    · have HMAY := hid hm
      clear hm
      go_wp2_with (first
        | (go_at_call 15
           refine (print_bad _ L2 _ HM.out HMAY.out).mono ?_
           rintro e w4 ⟨rfl, hb4⟩
           have HM4 := hid (HM.out.lift hb4 hb4.size)
           have HL4 := hid (HL3.out.lift hb4 hb4.size)
           have HB4 := hid (HB3.out.trans (hb4.mono HB3.out.size))
           clear hb4 HM HL3 HB3)
        | (go_at_call 16
           refine (rprint_bad _ L2 _ HL4.out HMAY.out).mono ?_
           rintro e w5 ⟨rfl, hb5⟩
           have HM5 := hid (HM4.out.lift hb5 hb5.size)
           have HL5 := hid (HL4.out.lift hb5 hb5.size)
           have HB5 := hid (HB4.out.trans (hb5.mono HB4.out.size))
           clear hb5 HM4 HL4 HB4)
        | (go_at_call 17
           refine (sameRows_any _ _ L2 L2 _ HL5.out HM5.out).mono ?_
           rintro e w6 ⟨rfl, hb6⟩
           have HB6 := hid (HB5.out.trans (hb6.mono HB5.out.size))
           clear hb6 HB5)
        | (go_at_call 9
           refine (awake_any _ (fun w' h' => HTAB.out w' (HB6.out.trans (h'.mono HB6.out.size)))).mono ?_
           rintro e wz ⟨rfl, hbz⟩))
      go_ret
      exact ⟨rfl, HB6.out.trans (hbz.mono HB6.out.size)⟩
end Go.Proofs.YtlinabifalfddaaDoor
